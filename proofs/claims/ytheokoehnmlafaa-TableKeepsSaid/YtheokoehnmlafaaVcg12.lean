/- States that say less. No condition. -/
import Derived.Test.YtheokoehnmlafaaVcg11
set_option linter.unusedVariables false
set_option linter.unusedSimpArgs false
namespace Go.Proofs.Ytheokoehnmlafaa.Vcg
open Go.RowKit
/-- where an owner of the lesser state comes from: an owner, or nothing -/
abbrev Src := List (Nat ⊕ (TypeId × Nat))
def srcT (src : Src) (T : Own) : Own := fun id => match src[id]? with
  | some (.inl i) => T i
  | some (.inr (e, k)) => some (e, k, .slice none 0 0)
  | none => none
def lefts : Src → List Nat
  | [] => []
  | .inl i :: r => i :: lefts r
  | .inr _ :: r => lefts r
def srcOk (src : Src) : Bool := decide (lefts src).Nodup
mutual
/-- says less than -/
def CLe (src : Src) (n : Nat) : C → C → Prop
  | .own id e k rows, .own id' e' k' rows' => src[id']? = some (.inl id) ∧ e = e' ∧ k = k' ∧ rows = rows'
  | .own _ _ k rows, .sl k' rows' => k = k' ∧ rows = rows'
  | .tight k rows, .sl k' rows' => k = k' ∧ rows = rows'
  | .tight k rows, .tight k' rows' => k = k' ∧ rows = rows'
  | .sl k rows, .sl k' rows' => k = k' ∧ rows = rows'
  | .sc v, .own id e k rows => v = .slice none 0 0 ∧ src[id]? = some (.inr (e, k)) ∧ rows = []
  | .sc v, .sl _ rows => v = .slice none 0 0 ∧ rows = []
  | .sc v, .sc u => v = u
  | .str l, .str l' => l = l'
  | .agg cs, .agg cs' => CLeL src n cs cs'
  | .tup cs, .tup cs' => CLeL src n cs cs'
  | .ptr i off, .ptr i' off' => i = i' ∧ off = off' ∧ i < n
  | .bs i off k m c, .bs i' off' k' m' c' => i = i' ∧ off = off' ∧ k = k' ∧ m = m' ∧ c = c' ∧ i < n
  | .row cs, .row cs' => cs = cs'
  | .clo fn first cap, .clo fn' first' cap' => fn = fn' ∧ CLeL src n first first' ∧ CLeL src n cap cap'
  | _, .any => True
  | _, _ => False
def CLeL (src : Src) (n : Nat) : List C → List C → Prop
  | [], [] => True
  | c :: r, c' :: r' => CLe src n c c' ∧ CLeL src n r r'
  | _, _ => False
end
section
variable {R : Env} {L : Loc} {src : Src} {n : Nat}
abbrev lessLoc (src : Src) (n : Nat) (L : Loc) : Loc := ⟨L.β.take n, srcT src L.T⟩
theorem le_any {v : Value} {L' : Loc} : Rep R L' .any v := by unfold Rep; trivial
mutual
theorem Rep.less : ∀ (c c' : C) (v : Value), CLe src n c c' → Rep R L c v → Rep R (lessLoc src n L) c' v
  | .own id e k rows, .own id' e' k' rows', v, h, hr => by
    unfold CLe at h
    obtain ⟨h1, rfl, rfl, rfl⟩ := h
    unfold Rep at hr ⊢
    refine ⟨?_, hr.2⟩
    show srcT src L.T id' = _
    unfold srcT; rw [h1]; exact hr.1
  | .own _ _ k rows, .sl k' rows', v, h, hr => by
    unfold CLe at h; obtain ⟨rfl, rfl⟩ := h
    unfold Rep at hr ⊢; exact hr.2
  | .tight k rows, .sl k' rows', v, h, hr => by
    unfold CLe at h; obtain ⟨rfl, rfl⟩ := h
    unfold Rep at hr ⊢
    obtain ⟨a, e, h2, h3⟩ := hr
    exact ⟨a, _, e, Nat.le_refl _, h2, h3⟩
  | .tight k rows, .tight k' rows', v, h, hr => by
    unfold CLe at h; obtain ⟨rfl, rfl⟩ := h
    unfold Rep at hr ⊢; exact hr
  | .sl k rows, .sl k' rows', v, h, hr => by
    unfold CLe at h; obtain ⟨rfl, rfl⟩ := h
    unfold Rep at hr ⊢; exact hr
  | .sc u, .own id e k rows, v, h, hr => by
    unfold CLe at h; obtain ⟨rfl, h1, rfl⟩ := h
    unfold Rep at hr ⊢
    refine ⟨?_, none, 0, hr, Nat.le_refl _, Nat.zero_le _, .inl rfl⟩
    show srcT src L.T id = _
    unfold srcT; rw [h1, hr]
  | .sc u, .sl k rows, v, h, hr => by
    unfold CLe at h; obtain ⟨rfl, rfl⟩ := h
    unfold Rep at hr ⊢
    exact ⟨none, 0, hr, Nat.le_refl _, Nat.zero_le _, .inl rfl⟩
  | .sc u, .sc u', v, h, hr => by
    unfold CLe at h; subst h
    unfold Rep at hr ⊢; exact hr
  | .str l, .str l', v, h, hr => by
    unfold CLe at h; subst h
    unfold Rep at hr ⊢; exact hr
  | .agg cs, .agg cs', v, h, hr => by
    unfold CLe at h
    unfold Rep at hr ⊢
    obtain ⟨vs, e, hl⟩ := hr
    exact ⟨vs, e, RepL.less cs cs' _ h hl⟩
  | .tup cs, .tup cs', v, h, hr => by
    unfold CLe at h
    unfold Rep at hr ⊢
    obtain ⟨vs, e, hl⟩ := hr
    exact ⟨vs, e, RepL.less cs cs' _ h hl⟩
  | .ptr i off, .ptr i' off', v, h, hr => by
    unfold CLe at h; obtain ⟨rfl, rfl, h⟩ := h
    unfold Rep at hr ⊢
    obtain ⟨b, hb, e⟩ := hr
    exact ⟨b, by rw [List.getElem?_take, if_pos h]; exact hb, e⟩
  | .bs i off k m c, .bs i' off' k' m' c', v, h, hr => by
    unfold CLe at h; obtain ⟨rfl, rfl, rfl, rfl, rfl, h⟩ := h
    unfold Rep at hr ⊢
    obtain ⟨b, hb, e⟩ := hr
    exact ⟨b, by rw [List.getElem?_take, if_pos h]; exact hb, e⟩
  | .row cs, .row cs', v, h, hr => by
    unfold CLe at h; subst h
    unfold Rep at hr ⊢; exact hr
  | .clo fn first cap, .clo fn' first' cap', v, h, hr => by
    unfold CLe at h
    obtain ⟨rfl, h1, h2⟩ := h
    unfold Rep at hr ⊢
    obtain ⟨fs, cs, e, h3, h4⟩ := hr
    exact ⟨fs, cs, e, RepL.less first first' _ h1 h3, RepL.less cap cap' _ h2 h4⟩
  | c, .any, v, h, hr => le_any
  | .any, .sc _, _, h, _ | .any, .str _, _, h, _ | .any, .agg _, _, h, _ | .any, .tup _, _, h, _ | .any, .sl _ _, _, h, _ | .any, .tight _ _, _, h, _ | .any, .own _ _ _ _, _, h, _ | .any, .ptr _ _, _, h, _ | .any, .row _, _, h, _ | .any, .clo _ _ _, _, h, _ | .any, .bs _ _ _ _ _, _, h, _ => by unfold CLe at h; exact h.elim
  | .sc _, .str _, _, h, _ | .sc _, .agg _, _, h, _ | .sc _, .tup _, _, h, _ | .sc _, .tight _ _, _, h, _ | .sc _, .ptr _ _, _, h, _ | .sc _, .row _, _, h, _ | .sc _, .clo _ _ _, _, h, _ | .sc _, .bs _ _ _ _ _, _, h, _ => by unfold CLe at h; exact h.elim
  | .str _, .sc _, _, h, _ | .str _, .agg _, _, h, _ | .str _, .tup _, _, h, _ | .str _, .sl _ _, _, h, _ | .str _, .tight _ _, _, h, _ | .str _, .own _ _ _ _, _, h, _ | .str _, .ptr _ _, _, h, _ | .str _, .row _, _, h, _ | .str _, .clo _ _ _, _, h, _ | .str _, .bs _ _ _ _ _, _, h, _ => by unfold CLe at h; exact h.elim
  | .agg _, .sc _, _, h, _ | .agg _, .str _, _, h, _ | .agg _, .tup _, _, h, _ | .agg _, .sl _ _, _, h, _ | .agg _, .tight _ _, _, h, _ | .agg _, .own _ _ _ _, _, h, _ | .agg _, .ptr _ _, _, h, _ | .agg _, .row _, _, h, _ | .agg _, .clo _ _ _, _, h, _ | .agg _, .bs _ _ _ _ _, _, h, _ => by unfold CLe at h; exact h.elim
  | .tup _, .sc _, _, h, _ | .tup _, .str _, _, h, _ | .tup _, .agg _, _, h, _ | .tup _, .sl _ _, _, h, _ | .tup _, .tight _ _, _, h, _ | .tup _, .own _ _ _ _, _, h, _ | .tup _, .ptr _ _, _, h, _ | .tup _, .row _, _, h, _ | .tup _, .clo _ _ _, _, h, _ | .tup _, .bs _ _ _ _ _, _, h, _ => by unfold CLe at h; exact h.elim
  | .sl _ _, .sc _, _, h, _ | .sl _ _, .str _, _, h, _ | .sl _ _, .agg _, _, h, _ | .sl _ _, .tup _, _, h, _ | .sl _ _, .tight _ _, _, h, _ | .sl _ _, .own _ _ _ _, _, h, _ | .sl _ _, .ptr _ _, _, h, _ | .sl _ _, .row _, _, h, _ | .sl _ _, .clo _ _ _, _, h, _ | .sl _ _, .bs _ _ _ _ _, _, h, _ => by unfold CLe at h; exact h.elim
  | .tight _ _, .sc _, _, h, _ | .tight _ _, .str _, _, h, _ | .tight _ _, .agg _, _, h, _ | .tight _ _, .tup _, _, h, _ | .tight _ _, .own _ _ _ _, _, h, _ | .tight _ _, .ptr _ _, _, h, _ | .tight _ _, .row _, _, h, _ | .tight _ _, .clo _ _ _, _, h, _ | .tight _ _, .bs _ _ _ _ _, _, h, _ => by unfold CLe at h; exact h.elim
  | .own _ _ _ _, .sc _, _, h, _ | .own _ _ _ _, .str _, _, h, _ | .own _ _ _ _, .agg _, _, h, _ | .own _ _ _ _, .tup _, _, h, _ | .own _ _ _ _, .tight _ _, _, h, _ | .own _ _ _ _, .ptr _ _, _, h, _ | .own _ _ _ _, .row _, _, h, _ | .own _ _ _ _, .clo _ _ _, _, h, _ | .own _ _ _ _, .bs _ _ _ _ _, _, h, _ => by unfold CLe at h; exact h.elim
  | .ptr _ _, .sc _, _, h, _ | .ptr _ _, .str _, _, h, _ | .ptr _ _, .agg _, _, h, _ | .ptr _ _, .tup _, _, h, _ | .ptr _ _, .sl _ _, _, h, _ | .ptr _ _, .tight _ _, _, h, _ | .ptr _ _, .own _ _ _ _, _, h, _ | .ptr _ _, .row _, _, h, _ | .ptr _ _, .clo _ _ _, _, h, _ | .ptr _ _, .bs _ _ _ _ _, _, h, _ => by unfold CLe at h; exact h.elim
  | .row _, .sc _, _, h, _ | .row _, .str _, _, h, _ | .row _, .agg _, _, h, _ | .row _, .tup _, _, h, _ | .row _, .sl _ _, _, h, _ | .row _, .tight _ _, _, h, _ | .row _, .own _ _ _ _, _, h, _ | .row _, .ptr _ _, _, h, _ | .row _, .clo _ _ _, _, h, _ | .row _, .bs _ _ _ _ _, _, h, _ => by unfold CLe at h; exact h.elim
  | .clo _ _ _, .sc _, _, h, _ | .clo _ _ _, .str _, _, h, _ | .clo _ _ _, .agg _, _, h, _ | .clo _ _ _, .tup _, _, h, _ | .clo _ _ _, .sl _ _, _, h, _ | .clo _ _ _, .tight _ _, _, h, _ | .clo _ _ _, .own _ _ _ _, _, h, _ | .clo _ _ _, .ptr _ _, _, h, _ | .clo _ _ _, .row _, _, h, _ | .clo _ _ _, .bs _ _ _ _ _, _, h, _ => by unfold CLe at h; exact h.elim
  | .bs _ _ _ _ _, .sc _, _, h, _ | .bs _ _ _ _ _, .str _, _, h, _ | .bs _ _ _ _ _, .agg _, _, h, _ | .bs _ _ _ _ _, .tup _, _, h, _ | .bs _ _ _ _ _, .sl _ _, _, h, _ | .bs _ _ _ _ _, .tight _ _, _, h, _ | .bs _ _ _ _ _, .own _ _ _ _, _, h, _ | .bs _ _ _ _ _, .ptr _ _, _, h, _ | .bs _ _ _ _ _, .row _, _, h, _ | .bs _ _ _ _ _, .clo _ _ _, _, h, _ => by unfold CLe at h; exact h.elim
theorem RepL.less : ∀ (cs cs' : List C) (vs : List Value), CLeL src n cs cs' → RepL R L cs vs → RepL R (lessLoc src n L) cs' vs
  | [], [], vs, h, hr => by rw [repL_nil] at hr ⊢; exact hr
  | c :: r, c' :: r', vs, h, hr => by
    unfold CLeL at h
    rw [repL_cons] at hr ⊢
    obtain ⟨v, us, e, h1, h2⟩ := hr
    exact ⟨v, us, e, Rep.less c c' v h.1 h1, RepL.less r r' us h.2 h2⟩
  | [], _ :: _, _, h, _ => by unfold CLeL at h; exact h.elim
  | _ :: _, [], _, h, _ => by unfold CLeL at h; exact h.elim
end
end
def WeakTm (src : Src) (n : Nat) (tm : List (Nat × C)) : List (Nat × C) → Prop
  | [] => True
  | (t, c) :: r => CLe src n (getC tm t) c ∧ WeakTm src n tm r
def WeakBx (src : Src) (n : Nat) : List (List C) → List (List C) → Prop
  | _, [] => True
  | cs :: r, cs' :: r' => CLeL src n cs cs' ∧ WeakBx src n r r'
  | [], _ :: _ => False
def Weak (p : Nat) (σ σ' : St) : Prop := ∃ src : Src, srcOk src = true ∧ src.length = σ'.nx ∧ p ≤ σ'.bx.length ∧ σ'.lg = σ.lg ∧ WeakTm src σ'.bx.length σ.tm σ'.tm ∧ WeakBx src σ'.bx.length σ.bx σ'.bx
theorem Weak.mk {p : Nat} {σ σ' : St} (src : Src) (h1 : srcOk src = true) (h2 : src.length = σ'.nx) (h3 : p ≤ σ'.bx.length) (h0 : σ'.lg = σ.lg) (h4 : WeakTm src σ'.bx.length σ.tm σ'.tm) (h5 : WeakBx src σ'.bx.length σ.bx σ'.bx) : Weak p σ σ' := ⟨src, h1, h2, h3, h0, h4, h5⟩
theorem weakTm_get {src : Src} {n : Nat} {tm : List (Nat × C)} {R : Env} {L : Loc} {f : Nat → Value} (h0 : ∀ t, Rep R L (getC tm t) (f t)) : ∀ {tm' : List (Nat × C)}, WeakTm src n tm tm' → ∀ t, Rep R (lessLoc src n L) (getC tm' t) (f t)
  | [], _, t => le_any
  | (u, c) :: r, h, t => by
    simp only [WeakTm] at h
    simp only [getC]
    split
    · subst_vars; exact Rep.less _ _ _ h.1 (h0 _)
    · exact weakTm_get h0 h.2 t
theorem weakBx_get {src : Src} {n : Nat} : ∀ {bx bx' : List (List C)}, WeakBx src n bx bx' → ∀ (i : Nat) cs', bx'[i]? = some cs' → ∃ cs, bx[i]? = some cs ∧ CLeL src n cs cs'
  | _, [], _, i, cs', h => by simp at h
  | cs :: r, cs0 :: r', h, 0, cs', hc => by
    simp only [WeakBx] at h
    simp at hc; subst hc
    exact ⟨cs, rfl, h.1⟩
  | cs :: r, cs0 :: r', h, i + 1, cs', hc => by
    simp only [WeakBx] at h
    obtain ⟨c, h1, h2⟩ := weakBx_get h.2 i cs' (by simpa using hc)
    exact ⟨c, by simpa using h1, h2⟩
  | [], _ :: _, h, _, _, _ => by simp only [WeakBx] at h
theorem lefts_get : ∀ {src : Src} {id i : Nat}, src[id]? = some (.inl i) → i ∈ lefts src
  | [], _, _, h => by simp at h
  | x :: r, 0, i, h => by
    simp at h; subst h; simp [lefts]
  | .inl j :: r, id + 1, i, h => by
    simp only [lefts]
    exact List.mem_cons_of_mem _ (lefts_get (by simpa using h))
  | .inr j :: r, id + 1, i, h => by
    simp only [lefts]
    exact lefts_get (src := r) (id := id) (by simpa using h)
theorem lefts_inj : ∀ {src : Src}, (lefts src).Nodup → ∀ {id id' i : Nat}, src[id]? = some (.inl i) → src[id']? = some (.inl i) → id = id'
  | [], _, _, _, _, h, _ => by simp at h
  | x :: r, hn, 0, 0, i, h, h' => rfl
  | x :: r, hn, 0, id' + 1, i, h, h' => by
    simp at h; subst h
    simp only [lefts, List.nodup_cons] at hn
    exact absurd (lefts_get (src := r) (id := id') (by simpa using h')) hn.1
  | x :: r, hn, id + 1, 0, i, h, h' => by
    simp at h'; subst h'
    simp only [lefts, List.nodup_cons] at hn
    exact absurd (lefts_get (src := r) (id := id) (by simpa using h)) hn.1
  | x :: r, hn, id + 1, id' + 1, i, h, h' => by
    have hn' : (lefts r).Nodup := by
      cases x with
      | inl j => simp only [lefts, List.nodup_cons] at hn; exact hn.2
      | inr j => exact hn
    rw [lefts_inj hn' (id := id) (id' := id') (i := i) (by simpa using h) (by simpa using h')]
theorem srcT_own {B : Nat → Prop} {R : Env} {L : Loc} {src : Src} {β' : List Nat} (hs : srcOk src = true) (hβ : ∀ b ∈ β', b ∈ L.β) (h : OwnsOk B R L) : OwnsOk B R ⟨β', srcT src L.T⟩ := by
  have hn : (lefts src).Nodup := of_decide_eq_true hs
  have key : ∀ id e k v b, srcT src L.T id = some (e, k, v) → v.ownBlock = some b → ∃ i, src[id]? = some (.inl i) ∧ L.T i = some (e, k, v) := fun id e k v b ht hb => by
    unfold srcT at ht
    split at ht
    · rename_i i hi; exact ⟨i, hi, ht⟩
    · cases ht; cases hb
    · cases ht
  refine ⟨fun id e k v ht => ?_, fun id id' e k v e' k' v' b h1 h2 h3 h4 => ?_⟩
  · have ht' : srcT src L.T id = some (e, k, v) := ht
    unfold srcT at ht'
    split at ht'
    · rcases h.own _ e k v ht' with g | ⟨g, n', cap, cur, _, q1, q2, q3, q4, q5, q6, q7, q8⟩
      · exact .inl g
      · exact .inr ⟨g, n', cap, cur, _, q1, q2, q3, q4, q5, q6, fun hx => q7 (hβ _ hx), q8⟩
    · cases ht'; exact .inl rfl
    · cases ht'
  · obtain ⟨i, hi1, hi2⟩ := key id e k v b h1 h3
    obtain ⟨j, hj1, hj2⟩ := key id' e' k' v' b h2 h4
    have := h.apart i j e k v e' k' v' b hi2 hj2 h3 h4
    subst this
    exact lefts_inj hn hi1 hj1
section
variable {G : Globs} {E : Ctx} {σ σ' : St} {a : Act} {p : Nat}
theorem srcT_block {R : Env} {L : Loc} {src : Src} {id e k : Nat} {v : Value} {b : Nat} (ht : srcT src L.T id = some (e, k, v)) (hb : v.ownBlock = some b) : ∃ i, src[id]? = some (.inl i) ∧ L.T i = some (e, k, v) := by
  unfold srcT at ht
  split at ht
  · rename_i i hi; exact ⟨i, hi, ht⟩
  · cases ht; cases hb
  · cases ht
theorem Good.weak {R : Env} {L : Loc} (hp : E.β0.length ≤ p) (hw : Weak p σ σ') (h : Good G E σ R L) : ∃ src : Src, WeakTm src σ'.bx.length σ.tm σ'.tm ∧ Good G E σ' R (lessLoc src σ'.bx.length L) := by
  obtain ⟨src, h1, h2, h3, h0, h4, h5⟩ := hw
  have hl := h.fit.boxes.len
  have hlen : σ'.bx.length ≤ σ.bx.length := by
    rcases Nat.lt_or_ge σ.bx.length σ'.bx.length with hx | hx
    · obtain ⟨cs, hc, _⟩ := weakBx_get h5 σ.bx.length (σ'.bx[σ.bx.length]) (List.getElem?_eq_getElem hx)
      simp at hc
    · exact hx
  obtain ⟨more, hm1⟩ := h.box
  have hg := h
  refine ⟨src, h4, ⟨⟨h.fit.glob, ⟨by simp; omega, h.fit.boxes.nodup.sublist (List.take_sublist _ _), fun i b cs' hi hc => ?_⟩, srcT_own h1 (fun b hb => List.mem_of_mem_take hb) h.fit.owns, h.fit.base⟩, hg.os, hg.tape, hg.output, hg.size, hg.blk, hg.ext, ⟨more.take (σ'.bx.length - E.β0.length), ?_⟩, fun b hb => hg.tub b (List.mem_of_mem_take hb), hg.flt, hg.fz, fun b hb => hg.fbx b (List.mem_of_mem_take hb), fun id e k v b ht hv => ?_, fun id hi => ?_, by rw [h0]; exact hg.log⟩⟩
  · obtain ⟨cs, hc1, hc2⟩ := weakBx_get h5 i cs' hc
    have hi' : L.β[i]? = some b := by
      have hi : (L.β.take σ'.bx.length)[i]? = some b := hi
      rw [List.getElem?_take] at hi
      split at hi
      · exact hi
      · cases hi
    obtain ⟨vs, ty, e1, e2, e3, e4⟩ := h.fit.boxes.box i b cs hi' hc1
    exact ⟨vs, ty, e1, RepL.less _ _ _ hc2 e2, e3, e4⟩
  · show L.β.take σ'.bx.length = _
    rw [hm1, List.take_append, List.take_of_length_le (by omega)]
  · obtain ⟨i, _, hi⟩ := srcT_block (R := R) ht hv
    exact hg.fow i e k v b hi hv
  · show srcT src L.T id = none
    unfold srcT
    rw [List.getElem?_eq_none (by omega)]
theorem InvV.weak {R : Env} {L : Loc} (hp : E.β0.length ≤ p) (hw : Weak p σ σ') (h : InvV G E σ a R L) : ∃ L', InvV G E σ' a R L' := by
  obtain ⟨src, h4, hg⟩ := h.good.weak hp hw
  exact ⟨_, hg, h.size, h.df, weakTm_get h.tm h4⟩
theorem Inv.weak {w : World} (hp : E.β0.length ≤ p) (hw : Weak p σ σ') (h : Inv G E σ a w) : Inv G E σ' a w := by
  obtain ⟨R, L, e, h⟩ := h
  obtain ⟨L', h'⟩ := h.weak hp hw
  exact ⟨R, L', e, h'⟩
end
end Go.Proofs.Ytheokoehnmlafaa.Vcg
