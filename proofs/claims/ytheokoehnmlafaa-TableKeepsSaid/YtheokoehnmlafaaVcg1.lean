/- Abstract values for a walk: what a Go value reads as, and when a value in memory reads so. No condition. -/
import Derived.WalkKit
import Derived.Sort.LoopGhostIn
set_option linter.unusedVariables false
set_option linter.unusedSimpArgs false
namespace Go.Proofs.Ytheokoehnmlafaa.Vcg
open Go.RowKit
inductive C where
  | sc (v : Value)
  | str (l : List UInt8)
  | agg (cs : List C)
  | tup (cs : List C)
  | sl (k : Nat) (rows : List (List C))
  | tight (k : Nat) (rows : List (List C))
  | own (id : Nat) (e : TypeId) (k : Nat) (rows : List (List C))
  | ptr (i off : Nat)
  | row (cs : List C)
  | clo (fn : Fn) (first captured : List C)
  | bs (i off k n c : Nat)
  | any
instance : Inhabited C := ⟨.any⟩
structure Env where
  w : World
  M : Nat → Nat → Prop
  F : Nat → Prop
abbrev Own := Nat → Option (TypeId × Nat × Value)
structure Loc where
  β : List Nat
  T : Own
abbrev noLoc : Loc := ⟨[], fun _ => none⟩
mutual
def Rep (R : Env) : Loc → C → Value → Prop
  | _, .sc u, v => v = u
  | _, .str l, v => v = .string ⟨l.toArray⟩
  | T, .agg cs, v => ∃ vs, v = .agg vs ∧ RepL R T cs vs.toList
  | T, .tup cs, v => ∃ vs, v = .tuple vs ∧ RepL R T cs vs.toList
  | _, .sl k rows, v => ∃ a cap, v = .slice a rows.length cap ∧ rows.length ≤ cap ∧ cap ≤ maxLen ∧ (rows = [] ∨ ∃ b o, a = some ⟨b, o, none⟩ ∧ RepRows R rows k b o)
  | _, .tight k rows, v => ∃ a, v = .slice a rows.length rows.length ∧ rows.length ≤ maxLen ∧ (rows = [] ∨ ∃ b o, a = some ⟨b, o, none⟩ ∧ RepRows R rows k b o)
  | T, .own id e k rows, v => T.T id = some (e, k, v) ∧ ∃ a cap, v = .slice a rows.length cap ∧ rows.length ≤ cap ∧ cap ≤ maxLen ∧ (rows = [] ∨ ∃ b o, a = some ⟨b, o, none⟩ ∧ RepRows R rows k b o)
  | T, .ptr i off, v => ∃ b, T.β[i]? = some b ∧ v = .pointer (some ⟨b, off, none⟩)
  | _, .row cs, v => ∃ b o, v = .pointer (some ⟨b, o, none⟩) ∧ RepCells R cs b o
  | T, .clo fn first cap, v => ∃ fs cs, v = .func fn fs cs ∧ RepL R T first fs.toList ∧ RepL R T cap cs.toList
  | T, .bs i off _ n c, v => ∃ b, T.β[i]? = some b ∧ ∃ ad, v = .slice (some ad) n c ∧ (n + c ≠ 0 → ad = ⟨b, off, none⟩)
  | _, .any, _ => True
def RepL (R : Env) : Loc → List C → List Value → Prop
  | _, [], vs => vs = []
  | T, c :: r, vs => ∃ v us, vs = v :: us ∧ Rep R T c v ∧ RepL R T r us
def RepCells (R : Env) : List C → Nat → Nat → Prop
  | [], _, _ => True
  | c :: r, b, o => (∃ v, R.w.cell? ⟨b, o, none⟩ = some v ∧ ¬ R.M b o ∧ Rep R noLoc c v ∧ v.oneCell' = true) ∧ RepCells R r b (o + 1)
def RepRows (R : Env) : List (List C) → Nat → Nat → Nat → Prop
  | [], _, _, _ => True
  | row :: r, k, b, o => row.length = k ∧ RepCells R row b o ∧ RepRows R r k b (o + k)
end
structure Ext (R R' : Env) : Prop where
  cell : ∀ b o v, R.w.cell? ⟨b, o, none⟩ = some v → ¬ R.M b o → R'.w.cell? ⟨b, o, none⟩ = some v ∧ ¬ R'.M b o
theorem Ext.refl (R : Env) : Ext R R := ⟨fun _ _ _ h h' => ⟨h, h'⟩⟩
theorem Ext.trans {A B D : Env} (h : Ext A B) (h' : Ext B D) : Ext A D :=
  ⟨fun b o v hc hm => let ⟨x, y⟩ := h.cell b o v hc hm; h'.cell b o v x y⟩
/-- what is owned stays so -/
structure LocLe (L L' : Loc) : Prop where
  box : ∀ (i b : Nat), L.β[i]? = some b → L'.β[i]? = some b
  own : ∀ id x, L.T id = some x → L'.T id = some x
theorem LocLe.refl (T : Loc) : LocLe T T := ⟨fun _ _ h => h, fun _ _ h => h⟩
theorem LocLe.trans {A B D : Loc} (h : LocLe A B) (h' : LocLe B D) : LocLe A D := ⟨fun i b e => h'.box i b (h.box i b e), fun i b e => h'.own i b (h.own i b e)⟩
theorem LocLe.none (T : Loc) : LocLe noLoc T := ⟨fun _ _ h => by simp at h, fun _ _ h => by cases h⟩
mutual
theorem Rep.ext {R R' : Env} (h : Ext R R') : ∀ {T T' : Loc} (hT : LocLe T T') (c : C) (v : Value), Rep R T c v → Rep R' T' c v
  | _, _, _, .sc _, _, hv => hv
  | _, _, _, .str _, _, hv => hv
  | _, _, hT, .agg cs, _, hv => by
    unfold Rep at hv ⊢
    obtain ⟨vs, e, hl⟩ := hv
    exact ⟨vs, e, RepL.ext h hT cs _ hl⟩
  | _, _, hT, .tup cs, _, hv => by
    unfold Rep at hv ⊢
    obtain ⟨vs, e, hl⟩ := hv
    exact ⟨vs, e, RepL.ext h hT cs _ hl⟩
  | _, _, hT, .sl k rows, _, hv => by
    unfold Rep at hv ⊢
    obtain ⟨a, cap, e, h1, h2, h3⟩ := hv
    refine ⟨a, cap, e, h1, h2, ?_⟩
    rcases h3 with h3 | ⟨b, o, e, h3⟩
    · exact .inl h3
    · exact .inr ⟨b, o, e, RepRows.ext h rows k b o h3⟩
  | _, _, hT, .tight k rows, _, hv => by
    unfold Rep at hv ⊢
    obtain ⟨a, e, h2, h3⟩ := hv
    refine ⟨a, e, h2, ?_⟩
    rcases h3 with h3 | ⟨b, o, e, h3⟩
    · exact .inl h3
    · exact .inr ⟨b, o, e, RepRows.ext h rows k b o h3⟩
  | _, _, hT, .own id e k rows, _, hv => by
    unfold Rep at hv ⊢
    obtain ⟨ht, a, cap, e, h1, h2, h3⟩ := hv
    refine ⟨hT.own _ _ ht, a, cap, e, h1, h2, ?_⟩
    rcases h3 with h3 | ⟨b, o, e, h3⟩
    · exact .inl h3
    · exact .inr ⟨b, o, e, RepRows.ext h rows k b o h3⟩
  | _, _, hT, .ptr i off, _, hv => by
    unfold Rep at hv ⊢
    obtain ⟨b, hb, e⟩ := hv
    exact ⟨b, hT.box i b hb, e⟩
  | _, _, hT, .row cs, _, hv => by
    unfold Rep at hv ⊢
    obtain ⟨b, o, e, hc⟩ := hv
    exact ⟨b, o, e, RepCells.ext h cs b o hc⟩
  | _, _, hT, .clo fn first cap, _, hv => by
    unfold Rep at hv ⊢
    obtain ⟨fs, cs, e, h1, h2⟩ := hv
    exact ⟨fs, cs, e, RepL.ext h hT first _ h1, RepL.ext h hT cap _ h2⟩
  | _, _, hT, .bs i off k n c, _, hv => by
    unfold Rep at hv ⊢
    obtain ⟨b, hb, e⟩ := hv
    exact ⟨b, hT.box i b hb, e⟩
  | _, _, _, .any, _, _ => by unfold Rep; trivial
theorem RepL.ext {R R' : Env} (h : Ext R R') : ∀ {T T' : Loc} (hT : LocLe T T') (cs : List C) (vs : List Value), RepL R T cs vs → RepL R' T' cs vs
  | _, _, _, [], _, hv => hv
  | _, _, hT, c :: r, _, hv => by
    unfold RepL at hv ⊢
    obtain ⟨v, us, e, h1, h2⟩ := hv
    exact ⟨v, us, e, Rep.ext h hT c v h1, RepL.ext h hT r us h2⟩
theorem RepCells.ext {R R' : Env} (h : Ext R R') : ∀ (cs : List C) (b o : Nat), RepCells R cs b o → RepCells R' cs b o
  | [], _, _, _ => by unfold RepCells; trivial
  | c :: r, b, o, hv => by
    unfold RepCells at hv ⊢
    obtain ⟨⟨v, hc, hm, h1, h2⟩, h3⟩ := hv
    obtain ⟨hc', hm'⟩ := h.cell b o v hc hm
    exact ⟨⟨v, hc', hm', Rep.ext h (LocLe.refl _) c v h1, h2⟩, RepCells.ext h r b (o + 1) h3⟩
theorem RepRows.ext {R R' : Env} (h : Ext R R') : ∀ (rows : List (List C)) (k b o : Nat), RepRows R rows k b o → RepRows R' rows k b o
  | [], _, _, _, _ => by unfold RepRows; trivial
  | row :: r, k, b, o, hv => by
    unfold RepRows at hv ⊢
    exact ⟨hv.1, RepCells.ext h row b o hv.2.1, RepRows.ext h r k b (o + k) hv.2.2⟩
end
theorem repL_nil {R : Env} {T : Loc} {vs : List Value} : RepL R T [] vs ↔ vs = [] := by unfold RepL; rfl
theorem repL_cons {R : Env} {T : Loc} {c : C} {r : List C} {vs : List Value} : RepL R T (c :: r) vs ↔ ∃ v us, vs = v :: us ∧ Rep R T c v ∧ RepL R T r us := by
  constructor <;> intro h
  · unfold RepL at h; exact h
  · unfold RepL; exact h
theorem repL_length {R : Env} {T : Loc} : ∀ {cs : List C} {vs : List Value}, RepL R T cs vs → vs.length = cs.length
  | [], _, h => by rw [repL_nil.1 h]; rfl
  | c :: r, _, h => by
    obtain ⟨v, us, rfl, _, h2⟩ := repL_cons.1 h
    simp [repL_length h2]
theorem repL_get {R : Env} {T : Loc} : ∀ {cs : List C} {vs : List Value}, RepL R T cs vs → ∀ (i : Nat) (c : C), cs[i]? = some c → ∃ v, vs[i]? = some v ∧ Rep R T c v
  | [], _, h, i, c, hc => by simp at hc
  | c0 :: r, _, h, i, c, hc => by
    obtain ⟨v, us, rfl, h1, h2⟩ := repL_cons.1 h
    cases i with
    | zero => simp at hc; subst hc; exact ⟨v, rfl, h1⟩
    | succ i => simpa using repL_get h2 i c (by simpa using hc)
theorem repL_of_get {R : Env} {T : Loc} : ∀ {cs : List C} {vs : List Value}, vs.length = cs.length → (∀ (i : Nat) c v, cs[i]? = some c → vs[i]? = some v → Rep R T c v) → RepL R T cs vs
  | [], vs, hl, _ => repL_nil.2 (List.eq_nil_of_length_eq_zero (by simpa using hl))
  | c :: r, [], hl, _ => by simp at hl
  | c :: r, v :: us, hl, h => repL_cons.2 ⟨v, us, rfl, h 0 c v rfl rfl, repL_of_get (by simpa using hl) fun i c' v' hc hv => h (i + 1) c' v' (by simpa using hc) (by simpa using hv)⟩
theorem repL_append {R : Env} {T : Loc} : ∀ {cs ds : List C} {vs us : List Value}, RepL R T cs vs → RepL R T ds us → RepL R T (cs ++ ds) (vs ++ us)
  | [], _, _, _, h, h' => by rw [repL_nil.1 h]; exact h'
  | c :: r, _, _, _, h, h' => by
    obtain ⟨v, us, rfl, h1, h2⟩ := repL_cons.1 h
    exact repL_cons.2 ⟨v, _, rfl, h1, repL_append h2 h'⟩
theorem repL_drop {R : Env} {T : Loc} : ∀ (n : Nat) {cs : List C} {vs : List Value}, RepL R T cs vs → RepL R T (cs.drop n) (vs.drop n)
  | 0, _, _, h => h
  | n + 1, [], _, h => by rw [repL_nil.1 h]; exact repL_nil.2 (by simp)
  | n + 1, c :: r, _, h => by
    obtain ⟨v, us, rfl, h1, h2⟩ := repL_cons.1 h
    exact repL_drop n h2
theorem repL_take {R : Env} {T : Loc} : ∀ (n : Nat) {cs : List C} {vs : List Value}, RepL R T cs vs → RepL R T (cs.take n) (vs.take n)
  | 0, _, _, h => repL_nil.2 rfl
  | n + 1, [], _, h => by rw [repL_nil.1 h]; exact repL_nil.2 (by simp)
  | n + 1, c :: r, _, h => by
    obtain ⟨v, us, rfl, h1, h2⟩ := repL_cons.1 h
    exact repL_cons.2 ⟨v, _, rfl, h1, repL_take n h2⟩
theorem repCells_nil {R : Env} {b o : Nat} : RepCells R [] b o := by unfold RepCells; trivial
theorem repCells_cons {R : Env} {c : C} {r : List C} {b o : Nat} : RepCells R (c :: r) b o ↔ (∃ v, R.w.cell? ⟨b, o, none⟩ = some v ∧ ¬ R.M b o ∧ Rep R noLoc c v ∧ v.oneCell' = true) ∧ RepCells R r b (o + 1) := by
  constructor <;> intro h
  · unfold RepCells at h; exact h
  · unfold RepCells; exact h
theorem repCells_get {R : Env} : ∀ {cs : List C} {b o : Nat}, RepCells R cs b o → ∀ (i : Nat) (c : C), cs[i]? = some c → ∃ v, R.w.cell? ⟨b, o + i, none⟩ = some v ∧ ¬ R.M b (o + i) ∧ Rep R noLoc c v ∧ v.oneCell' = true
  | [], _, _, _, i, c, hc => by simp at hc
  | c0 :: r, b, o, h, i, c, hc => by
    obtain ⟨h1, h2⟩ := repCells_cons.1 h
    cases i with
    | zero => simp at hc; subst hc; exact h1
    | succ i =>
      have := repCells_get h2 i c (by simpa using hc)
      rwa [Nat.add_assoc, Nat.add_comm 1 i] at this
theorem repCells_of_get {R : Env} : ∀ {cs : List C} {b o : Nat}, (∀ (i : Nat) c, cs[i]? = some c → ∃ v, R.w.cell? ⟨b, o + i, none⟩ = some v ∧ ¬ R.M b (o + i) ∧ Rep R noLoc c v ∧ v.oneCell' = true) → RepCells R cs b o
  | [], _, _, _ => repCells_nil
  | c0 :: r, b, o, h => repCells_cons.2 ⟨h 0 c0 rfl, repCells_of_get fun i c hc => by
      have := h (i + 1) c (by simpa using hc)
      rwa [show o + (i + 1) = o + 1 + i by omega] at this⟩
theorem repCells_drop {R : Env} : ∀ (n : Nat) {cs : List C} {b o : Nat}, RepCells R cs b o → RepCells R (cs.drop n) b (o + n)
  | 0, _, _, _, h => h
  | n + 1, [], _, _, h => repCells_nil
  | n + 1, c :: r, b, o, h => by
    have := repCells_drop n (repCells_cons.1 h).2
    rwa [show o + 1 + n = o + (n + 1) by omega] at this
theorem repCells_take {R : Env} : ∀ (n : Nat) {cs : List C} {b o : Nat}, RepCells R cs b o → RepCells R (cs.take n) b o
  | 0, _, _, _, h => repCells_nil
  | n + 1, [], _, _, h => repCells_nil
  | n + 1, c :: r, b, o, h => repCells_cons.2 ⟨(repCells_cons.1 h).1, repCells_take n (repCells_cons.1 h).2⟩
theorem repRows_nil {R : Env} {k b o : Nat} : RepRows R [] k b o := by unfold RepRows; trivial
theorem repRows_cons {R : Env} {row : List C} {r : List (List C)} {k b o : Nat} : RepRows R (row :: r) k b o ↔ row.length = k ∧ RepCells R row b o ∧ RepRows R r k b (o + k) := by
  constructor <;> intro h
  · unfold RepRows at h; exact h
  · unfold RepRows; exact h
theorem repRows_get {R : Env} : ∀ {rows : List (List C)} {k b o : Nat}, RepRows R rows k b o → ∀ (i : Nat) row, rows[i]? = some row → row.length = k ∧ RepCells R row b (o + i * k)
  | [], _, _, _, _, i, c, hc => by simp at hc
  | r0 :: r, k, b, o, h, i, row, hc => by
    obtain ⟨h0, h1, h2⟩ := repRows_cons.1 h
    cases i with
    | zero => simp at hc; subst hc; exact ⟨h0, by simpa using h1⟩
    | succ i =>
      have := repRows_get h2 i row (by simpa using hc)
      rwa [show o + k + i * k = o + (i + 1) * k by rw [Nat.add_mul]; omega] at this
theorem repRows_of_get {R : Env} : ∀ {rows : List (List C)} {k b o : Nat}, (∀ (i : Nat) row, rows[i]? = some row → row.length = k ∧ RepCells R row b (o + i * k)) → RepRows R rows k b o
  | [], _, _, _, _ => repRows_nil
  | r0 :: r, k, b, o, h => repRows_cons.2 ⟨(h 0 r0 rfl).1, by simpa using (h 0 r0 rfl).2, repRows_of_get fun i row hc => by
      have := h (i + 1) row (by simpa using hc)
      rwa [show o + (i + 1) * k = o + k + i * k by rw [Nat.add_mul]; omega] at this⟩
theorem repRows_drop {R : Env} {k b : Nat} : ∀ (n : Nat) {rows : List (List C)} {o : Nat}, RepRows R rows k b o → RepRows R (rows.drop n) k b (o + n * k)
  | 0, _, o, h => by simpa using h
  | n + 1, [], _, h => repRows_nil
  | n + 1, c :: r, o, h => by
    have := repRows_drop n (repRows_cons.1 h).2.2
    rwa [show o + k + n * k = o + (n + 1) * k by rw [Nat.add_mul]; omega] at this
theorem repRows_take {R : Env} {k b : Nat} : ∀ (n : Nat) {rows : List (List C)} {o : Nat}, RepRows R rows k b o → RepRows R (rows.take n) k b o
  | 0, _, _, h => repRows_nil
  | n + 1, [], _, h => repRows_nil
  | n + 1, c :: r, o, h => repRows_cons.2 ⟨(repRows_cons.1 h).1, (repRows_cons.1 h).2.1, repRows_take n (repRows_cons.1 h).2.2⟩
theorem repRows_append {R : Env} {k b : Nat} : ∀ {rows rows' : List (List C)} {o : Nat}, RepRows R rows k b o → RepRows R rows' k b (o + rows.length * k) → RepRows R (rows ++ rows') k b o
  | [], _, _, _, h' => by simpa using h'
  | c :: r, _, o, h, h' => repRows_cons.2 ⟨(repRows_cons.1 h).1, (repRows_cons.1 h).2.1, repRows_append (repRows_cons.1 h).2.2 (by
      rwa [show o + k + r.length * k = o + (c :: r).length * k by rw [List.length_cons, Nat.add_mul]; omega])⟩
/-- the cells of rows, one behind the other -/
theorem repCells_flatten {R : Env} {k b : Nat} : ∀ {rows : List (List C)} {o : Nat}, RepRows R rows k b o → RepCells R rows.flatten b o ∧ rows.flatten.length = rows.length * k
  | [], _, h => ⟨repCells_nil, by simp⟩
  | c :: r, o, h => by
    obtain ⟨h0, h1, h2⟩ := repRows_cons.1 h
    obtain ⟨h3, h4⟩ := repCells_flatten h2
    refine ⟨repCells_of_get fun i x hx => ?_, by simp [h4, h0, Nat.add_mul]; omega⟩
    rw [List.flatten_cons] at hx
    rcases Nat.lt_or_ge i c.length with hi | hi
    · rw [List.getElem?_append_left hi] at hx
      exact repCells_get h1 i x hx
    · rw [List.getElem?_append_right hi] at hx
      have := repCells_get h3 (i - c.length) x hx
      rwa [show o + k + (i - c.length) = o + i by omega] at this
/-- what a constant reads as -/
def ofConst : Value → C
  | .string s => .str s.data.toList
  | .agg vs => .agg (vs.toList.map .sc)
  | v => .sc v
theorem repL_sc {R : Env} {T : Loc} : ∀ vs : List Value, RepL R T (vs.map .sc) vs
  | [] => repL_nil.2 rfl
  | v :: r => repL_cons.2 ⟨v, _, rfl, by unfold Rep; rfl, repL_sc r⟩
theorem rep_ofConst (R : Env) (T : Loc) (v : Value) : Rep R T (ofConst v) v := by
  unfold ofConst
  split
  · unfold Rep; simp
  · unfold Rep; exact ⟨_, rfl, repL_sc _⟩
  · unfold Rep; rfl
/-- may it lie in one cell? -/
def C.cellB : C → Bool
  | .sc v => v.oneCell'
  | .agg _ | .tup _ | .any => false
  | _ => true
theorem Rep.oneCell {R : Env} {T : Loc} {c : C} {v : Value} (h : Rep R T c v) (hc : c.cellB = true) : v.oneCell' = true := by
  cases c <;> simp only [C.cellB] at hc <;> unfold Rep at h
  case sc u => subst h; exact hc
  case str l => subst h; rfl
  case agg => cases hc
  case tup => cases hc
  case sl => obtain ⟨_, _, rfl, _⟩ := h; rfl
  case tight => obtain ⟨_, rfl, _⟩ := h; rfl
  case own => obtain ⟨_, _, _, rfl, _⟩ := h; rfl
  case ptr => obtain ⟨_, _, rfl⟩ := h; rfl
  case row => obtain ⟨_, _, rfl, _⟩ := h; rfl
  case clo => obtain ⟨_, _, rfl, _⟩ := h; rfl
  case bs => obtain ⟨_, _, _, rfl, _⟩ := h; rfl
  case any => cases hc
/-- the cells of a value -/
def C.cells : C → List C
  | .agg cs => cs
  | c => [c]
mutual
/-- what a callee may know of it: no owner, no place of the caller's -/
def C.frz : C → C
  | .own _ _ k rows => .sl k rows
  | .ptr _ _ => .any
  | .bs _ _ _ _ _ => .any
  | .agg cs => .agg (C.frzL cs)
  | .tup cs => .tup (C.frzL cs)
  | .clo fn first cap => .clo fn (C.frzL first) (C.frzL cap)
  | .sc v => .sc v
  | .str l => .str l
  | .sl k rows => .sl k rows
  | .tight k rows => .tight k rows
  | .row cs => .row cs
  | .any => .any
def C.frzL : List C → List C
  | [] => []
  | c :: r => c.frz :: C.frzL r
end
mutual
theorem Rep.frz {R : Env} {L : Loc} (L' : Loc) : ∀ (c : C) (v : Value), Rep R L c v → Rep R L' c.frz v
  | .sc _, _, h => by unfold C.frz; unfold Rep at h ⊢; exact h
  | .str _, _, h => by unfold C.frz; unfold Rep at h ⊢; exact h
  | .agg cs, _, h => by
    unfold C.frz; unfold Rep at h ⊢
    obtain ⟨vs, e, hl⟩ := h
    exact ⟨vs, e, RepL.frz L' cs _ hl⟩
  | .tup cs, _, h => by
    unfold C.frz; unfold Rep at h ⊢
    obtain ⟨vs, e, hl⟩ := h
    exact ⟨vs, e, RepL.frz L' cs _ hl⟩
  | .sl k rows, _, h => by unfold C.frz; unfold Rep at h ⊢; exact h
  | .tight k rows, _, h => by unfold C.frz; unfold Rep at h ⊢; exact h
  | .own id e k rows, _, h => by unfold C.frz; unfold Rep at h ⊢; exact h.2
  | .ptr i off, _, h => by unfold C.frz; unfold Rep; trivial
  | .bs i off k n c, _, h => by unfold C.frz; unfold Rep; trivial
  | .row cs, _, h => by unfold C.frz; unfold Rep at h ⊢; exact h
  | .clo fn first cap, _, h => by
    unfold C.frz; unfold Rep at h ⊢
    obtain ⟨fs, cs, e, h1, h2⟩ := h
    exact ⟨fs, cs, e, RepL.frz L' first _ h1, RepL.frz L' cap _ h2⟩
  | .any, _, _ => by unfold C.frz; unfold Rep; trivial
theorem RepL.frz {R : Env} {L : Loc} (L' : Loc) : ∀ (cs : List C) (vs : List Value), RepL R L cs vs → RepL R L' (C.frzL cs) vs
  | [], _, h => by unfold C.frzL; rw [repL_nil] at h ⊢; exact h
  | c :: r, _, h => by
    unfold C.frzL; rw [repL_cons] at h ⊢
    obtain ⟨v, us, e, h1, h2⟩ := h
    exact ⟨v, us, e, Rep.frz L' c v h1, RepL.frz L' r us h2⟩
end
mutual
/-- one owner gone -/
def C.dg (id : Nat) : C → C
  | .own i e k rows => if i = id then .sl k rows else .own i e k rows
  | .ptr i off => .ptr i off
  | .bs i off k n c => .bs i off k n c
  | .agg cs => .agg (C.dgL id cs)
  | .tup cs => .tup (C.dgL id cs)
  | .clo fn first cap => .clo fn (C.dgL id first) (C.dgL id cap)
  | .sc v => .sc v
  | .str l => .str l
  | .sl k rows => .sl k rows
  | .tight k rows => .tight k rows
  | .row cs => .row cs
  | .any => .any
def C.dgL (id : Nat) : List C → List C
  | [] => []
  | c :: r => c.dg id :: C.dgL id r
end
mutual
theorem Rep.dg {R : Env} {L L' : Loc} {id : Nat} (hb : ∀ (i b : Nat), L.β[i]? = some b → L'.β[i]? = some b) (hT : ∀ i x, i ≠ id → L.T i = some x → L'.T i = some x) : ∀ (c : C) (v : Value), Rep R L c v → Rep R L' (c.dg id) v
  | .sc _, _, h => by unfold C.dg; unfold Rep at h ⊢; exact h
  | .str _, _, h => by unfold C.dg; unfold Rep at h ⊢; exact h
  | .agg cs, _, h => by
    unfold C.dg; unfold Rep at h ⊢
    obtain ⟨vs, e, hl⟩ := h
    exact ⟨vs, e, RepL.dg hb hT cs _ hl⟩
  | .tup cs, _, h => by
    unfold C.dg; unfold Rep at h ⊢
    obtain ⟨vs, e, hl⟩ := h
    exact ⟨vs, e, RepL.dg hb hT cs _ hl⟩
  | .sl k rows, _, h => by unfold C.dg; unfold Rep at h ⊢; exact h
  | .tight k rows, _, h => by unfold C.dg; unfold Rep at h ⊢; exact h
  | .own i e k rows, _, h => by
    unfold C.dg; unfold Rep at h
    split
    · unfold Rep; exact h.2
    · unfold Rep; exact ⟨hT _ _ (by assumption) h.1, h.2⟩
  | .ptr i off, _, h => by
    unfold C.dg; unfold Rep at h ⊢
    obtain ⟨b, e, h⟩ := h
    exact ⟨b, hb _ _ e, h⟩
  | .bs i off k n c, _, h => by
    unfold C.dg; unfold Rep at h ⊢
    obtain ⟨b, e, h⟩ := h
    exact ⟨b, hb _ _ e, h⟩
  | .row cs, _, h => by unfold C.dg; unfold Rep at h ⊢; exact h
  | .clo fn first cap, _, h => by
    unfold C.dg; unfold Rep at h ⊢
    obtain ⟨fs, cs, e, h1, h2⟩ := h
    exact ⟨fs, cs, e, RepL.dg hb hT first _ h1, RepL.dg hb hT cap _ h2⟩
  | .any, _, _ => by unfold C.dg; unfold Rep; trivial
theorem RepL.dg {R : Env} {L L' : Loc} {id : Nat} (hb : ∀ (i b : Nat), L.β[i]? = some b → L'.β[i]? = some b) (hT : ∀ i x, i ≠ id → L.T i = some x → L'.T i = some x) : ∀ (cs : List C) (vs : List Value), RepL R L cs vs → RepL R L' (C.dgL id cs) vs
  | [], _, h => by unfold C.dgL; rw [repL_nil] at h ⊢; exact h
  | c :: r, _, h => by
    unfold C.dgL; rw [repL_cons] at h ⊢
    obtain ⟨v, us, e, h1, h2⟩ := h
    exact ⟨v, us, e, Rep.dg hb hT c v h1, RepL.dg hb hT r us h2⟩
end
mutual
/-- owners, told anew from n on -/
def C.sh (n : Nat) : C → C
  | .own i e k rows => .own (n + i) e k rows
  | .ptr i off => .ptr i off
  | .bs i off k m c => .bs i off k m c
  | .agg cs => .agg (C.shL n cs)
  | .tup cs => .tup (C.shL n cs)
  | .clo fn first cap => .clo fn (C.shL n first) (C.shL n cap)
  | .sc v => .sc v
  | .str l => .str l
  | .sl k rows => .sl k rows
  | .tight k rows => .tight k rows
  | .row cs => .row cs
  | .any => .any
def C.shL (n : Nat) : List C → List C
  | [] => []
  | c :: r => c.sh n :: C.shL n r
end
mutual
theorem Rep.sh {R : Env} {L L' : Loc} {n : Nat} (hb : ∀ (i b : Nat), L.β[i]? = some b → L'.β[i]? = some b) (hT : ∀ i x, L.T i = some x → L'.T (n + i) = some x) : ∀ (c : C) (v : Value), Rep R L c v → Rep R L' (c.sh n) v
  | .sc _, _, h => by unfold C.sh; unfold Rep at h ⊢; exact h
  | .str _, _, h => by unfold C.sh; unfold Rep at h ⊢; exact h
  | .agg cs, _, h => by
    unfold C.sh; unfold Rep at h ⊢
    obtain ⟨vs, e, hl⟩ := h
    exact ⟨vs, e, RepL.sh hb hT cs _ hl⟩
  | .tup cs, _, h => by
    unfold C.sh; unfold Rep at h ⊢
    obtain ⟨vs, e, hl⟩ := h
    exact ⟨vs, e, RepL.sh hb hT cs _ hl⟩
  | .sl k rows, _, h => by unfold C.sh; unfold Rep at h ⊢; exact h
  | .tight k rows, _, h => by unfold C.sh; unfold Rep at h ⊢; exact h
  | .own i e k rows, _, h => by
    unfold C.sh; unfold Rep at h ⊢
    exact ⟨hT _ _ h.1, h.2⟩
  | .ptr i off, _, h => by
    unfold C.sh; unfold Rep at h ⊢
    obtain ⟨b, e, h⟩ := h
    exact ⟨b, hb _ _ e, h⟩
  | .bs i off k m c, _, h => by
    unfold C.sh; unfold Rep at h ⊢
    obtain ⟨b, e, h⟩ := h
    exact ⟨b, hb _ _ e, h⟩
  | .row cs, _, h => by unfold C.sh; unfold Rep at h ⊢; exact h
  | .clo fn first cap, _, h => by
    unfold C.sh; unfold Rep at h ⊢
    obtain ⟨fs, cs, e, h1, h2⟩ := h
    exact ⟨fs, cs, e, RepL.sh hb hT first _ h1, RepL.sh hb hT cap _ h2⟩
  | .any, _, _ => by unfold C.sh; unfold Rep; trivial
theorem RepL.sh {R : Env} {L L' : Loc} {n : Nat} (hb : ∀ (i b : Nat), L.β[i]? = some b → L'.β[i]? = some b) (hT : ∀ i x, L.T i = some x → L'.T (n + i) = some x) : ∀ (cs : List C) (vs : List Value), RepL R L cs vs → RepL R L' (C.shL n cs) vs
  | [], _, h => by unfold C.shL; rw [repL_nil] at h ⊢; exact h
  | c :: r, _, h => by
    unfold C.shL; rw [repL_cons] at h ⊢
    obtain ⟨v, us, e, h1, h2⟩ := h
    exact ⟨v, us, e, Rep.sh hb hT c v h1, RepL.sh hb hT r us h2⟩
end
end Go.Proofs.Ytheokoehnmlafaa.Vcg
