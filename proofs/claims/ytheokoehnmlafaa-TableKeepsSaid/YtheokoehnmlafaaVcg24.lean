/- A call by contract that is lent slices over boxes, to be read: what it answers leans on no box. No condition. -/
import Derived.Test.YtheokoehnmlafaaVcg23
set_option linter.unusedVariables false
set_option linter.unusedSimpArgs false
namespace Go.Proofs.Ytheokoehnmlafaa.Vcg
open Go.RowKit
/-- a cell that reads as itself wherever it lies -/
def C.flatB : C → Bool
  | .sc _ => true
  | .str _ => true
  | _ => false
mutual
/-- what leans on no memory but its own owners' -/
def C.freshB : C → Bool
  | .sc _ => true
  | .str _ => true
  | .agg cs => C.freshL cs
  | .tup cs => C.freshL cs
  | .own _ _ _ rows => rows.all fun r => r.all C.flatB
  | _ => false
def C.freshL : List C → Bool
  | [] => true
  | c :: r => c.freshB && C.freshL r
end
mutual
/-- what is lent: a slice over a box as the rows that stand there; all else as handed in by value -/
def lends (bx : List (List C)) : C → C → Prop
  | .bs i off k n c, d => ∃ rows cs, d = .sl k rows ∧ rows.length = n ∧ n ≤ c ∧ c ≤ maxLen ∧ bx[i]? = some cs ∧ (∀ r ∈ rows, r.length = k) ∧ C.frzL ((cs.drop off).take (n * k)) = rows.flatten
  | .agg cs, d => ∃ ds, d = .agg ds ∧ lendsL bx cs ds
  | c, d => d = c.frz
def lendsL (bx : List (List C)) : List C → List C → Prop
  | [], d => d = []
  | c :: r, d => ∃ e s, d = e :: s ∧ lends bx c e ∧ lendsL bx r s
end
section
variable {P : Program} {G : Globs} {E : Ctx} {σ : St} {o : Oper} {a : Act} {R R' : Env} {L L' : Loc} {bx : List (List C)} {B : Nat → Prop}
/-- the call's memory: the boxes stay meanwhile -/
def lentE (R : Env) (L : Loc) : Env := ⟨R.w, fun b o => R.M b o ∧ b ∉ L.β, R.F⟩
theorem lentE_ext (R : Env) (L : Loc) : Ext R (lentE R L) := ⟨fun b o v h h' => ⟨h, fun x => h' x.1⟩⟩
theorem flat_rep {c : C} {v : Value} (hc : c.flatB = true) (h : Rep R L c v) : Rep R' L' c v := by
  cases c <;> simp [C.flatB] at hc
  · rw [rep_sc] at h ⊢; exact h
  · rw [rep_str] at h ⊢; exact h
theorem flatL_rep : ∀ {cs : List C} {vs : List Value}, (cs.all C.flatB) = true → RepL R L cs vs → RepL R' L' cs vs
  | [], vs, _, h => by rw [repL_nil] at h ⊢; exact h
  | c :: r, vs, hc, h => by
    simp only [List.all_cons, Bool.and_eq_true] at hc
    obtain ⟨v, us, rfl, h1, h2⟩ := repL_cons.1 h
    exact repL_cons.2 ⟨v, us, rfl, flat_rep hc.1 h1, flatL_rep hc.2 h2⟩
theorem frzL_get : ∀ (cs : List C) (i : Nat), (C.frzL cs)[i]? = (cs[i]?).map C.frz
  | [], i => by simp [C.frzL]
  | c :: r, 0 => by rw [C.frzL]; rfl
  | c :: r, i + 1 => by rw [C.frzL, List.getElem?_cons_succ, List.getElem?_cons_succ]; exact frzL_get r i
theorem flat_frz : ∀ {cs : List C}, (cs.all C.flatB) = true → C.frzL cs = cs
  | [], _ => by simp [C.frzL]
  | c :: r, h => by
    simp only [List.all_cons, Bool.and_eq_true] at h
    rw [C.frzL, flat_frz h.2]
    cases c <;> simp [C.flatB] at h <;> simp [C.frz]
theorem lent_rows {rows : List (List C)} {cs : List C} {vs : Array Value} {ty : TypeId} {b off k n : Nat} (hh : R.w.heap[b]? = some (.cells vs ty (0, 0))) (hrep : RepL R L cs vs.toList) (hone : ∀ v ∈ vs.toList, v.oneCell' = true) (hb : b ∈ L.β)
    (hk : ∀ r ∈ rows, r.length = k) (hn : rows.length = n) (hflat : C.frzL ((cs.drop off).take (n * k)) = rows.flatten) : RepRows (lentE R L) rows k b off := by
  refine repRows_of_get fun i row hrow => ⟨hk row (List.mem_of_getElem? hrow), repCells_of_get fun j c hc => ?_⟩
  have hj : j < k := by rw [← hk row (List.mem_of_getElem? hrow)]; exact (List.getElem?_eq_some_iff.1 hc).1
  have hf := flatten_get hk i j row hrow hj
  rw [hc, ← hflat, frzL_get, List.getElem?_take] at hf
  split at hf
  · rw [List.getElem?_drop, Option.map_eq_some_iff] at hf
    obtain ⟨c0, hf, rfl⟩ := hf
    obtain ⟨v, hv, hr⟩ := repL_get hrep _ _ hf
    refine ⟨v, ?_, fun h => h.2 hb, Rep.ext (lentE_ext R L) (LocLe.refl _) _ _ (Rep.frz noLoc _ _ hr), hone v (List.mem_of_getElem? hv)⟩
    show R.w.cell? _ = _
    rw [cell_of_row R.w b _ vs ty (0, 0) hh, show off + i * k + j = off + (i * k + j) by omega]
    simpa using hv
  · cases hf
mutual
theorem lends_rep (hb : BoxesOk R L bx) : ∀ (c d : C) (v : Value), lends bx c d → Rep R L c v → Rep (lentE R L) noLoc d v
  | .bs i off k n cap, d, v, h, hv => by
    unfold lends at h
    obtain ⟨rows, cs, rfl, hn, hc, hm, hbx, hk, hflat⟩ := h
    unfold Rep at hv
    obtain ⟨b, hbi, ad, rfl, had⟩ := hv
    obtain ⟨vs, ty, e1, e2, e3, e4⟩ := hb.box i b cs hbi hbx
    unfold Rep
    refine ⟨some ad, cap, by rw [hn], by omega, hm, ?_⟩
    cases rows with
    | nil => exact .inl rfl
    | cons r0 rs => exact .inr ⟨b, off, congrArg some (had (by simp at hn; omega)), lent_rows e1 e2 e3 (List.mem_of_getElem? hbi) hk hn hflat⟩
  | .agg cs, d, v, h, hv => by
    unfold lends at h
    obtain ⟨ds, rfl, h⟩ := h
    unfold Rep at hv ⊢
    obtain ⟨vs, e, hl⟩ := hv
    exact ⟨vs, e, lendsL_rep hb cs ds _ h hl⟩
  | .sc u, d, v, h, hv => by unfold lends at h; subst h; exact Rep.ext (lentE_ext R L) (LocLe.refl _) _ _ (Rep.frz noLoc _ _ hv)
  | .str u, d, v, h, hv => by unfold lends at h; subst h; exact Rep.ext (lentE_ext R L) (LocLe.refl _) _ _ (Rep.frz noLoc _ _ hv)
  | .tup u, d, v, h, hv => by unfold lends at h; subst h; exact Rep.ext (lentE_ext R L) (LocLe.refl _) _ _ (Rep.frz noLoc _ _ hv)
  | .sl k u, d, v, h, hv => by unfold lends at h; subst h; exact Rep.ext (lentE_ext R L) (LocLe.refl _) _ _ (Rep.frz noLoc _ _ hv)
  | .tight k u, d, v, h, hv => by unfold lends at h; subst h; exact Rep.ext (lentE_ext R L) (LocLe.refl _) _ _ (Rep.frz noLoc _ _ hv)
  | .own i e k u, d, v, h, hv => by unfold lends at h; subst h; exact Rep.ext (lentE_ext R L) (LocLe.refl _) _ _ (Rep.frz noLoc _ _ hv)
  | .ptr i u, d, v, h, hv => by unfold lends at h; subst h; exact Rep.ext (lentE_ext R L) (LocLe.refl _) _ _ (Rep.frz noLoc _ _ hv)
  | .row u, d, v, h, hv => by unfold lends at h; subst h; exact Rep.ext (lentE_ext R L) (LocLe.refl _) _ _ (Rep.frz noLoc _ _ hv)
  | .clo f u w, d, v, h, hv => by unfold lends at h; subst h; exact Rep.ext (lentE_ext R L) (LocLe.refl _) _ _ (Rep.frz noLoc _ _ hv)
  | .any, d, v, h, hv => by unfold lends at h; subst h; exact Rep.ext (lentE_ext R L) (LocLe.refl _) _ _ (Rep.frz noLoc _ _ hv)
theorem lendsL_rep (hb : BoxesOk R L bx) : ∀ (cs ds : List C) (vs : List Value), lendsL bx cs ds → RepL R L cs vs → RepL (lentE R L) noLoc ds vs
  | [], ds, vs, h, hv => by
    unfold lendsL at h; subst h
    rw [repL_nil] at hv ⊢; exact hv
  | c :: r, ds, vs, h, hv => by
    unfold lendsL at h
    obtain ⟨e, s, rfl, h1, h2⟩ := h
    obtain ⟨v, us, rfl, g1, g2⟩ := repL_cons.1 hv
    exact repL_cons.2 ⟨v, us, rfl, lends_rep hb c e v h1 g1, lendsL_rep hb r s us h2 g2⟩
end
/-- what is answered, once the boxes may turn again -/
def backE (R R' : Env) (L : Loc) : Env := ⟨R'.w, fun b o => R'.M b o ∨ (b ∈ L.β ∧ R.M b o), R'.F⟩
mutual
theorem fresh_rep (hT : ∀ id e k v, L'.T id = some (e, k, v) → ∀ b, v.ownBlock = some b → b ∉ L.β) : ∀ (c : C) (v : Value), c.freshB = true → Rep R' L' c v → Rep (backE R R' L) L' c v
  | .sc u, v, _, h => by rw [rep_sc] at h ⊢; exact h
  | .str u, v, _, h => by rw [rep_str] at h ⊢; exact h
  | .agg cs, v, hf, h => by
    unfold C.freshB at hf
    unfold Rep at h ⊢
    obtain ⟨vs, e, hl⟩ := h
    exact ⟨vs, e, freshL_rep hT cs _ hf hl⟩
  | .tup cs, v, hf, h => by
    unfold C.freshB at hf
    unfold Rep at h ⊢
    obtain ⟨vs, e, hl⟩ := h
    exact ⟨vs, e, freshL_rep hT cs _ hf hl⟩
  | .own id e k rows, v, hf, h => by
    unfold C.freshB at hf
    unfold Rep at h ⊢
    obtain ⟨ht, a, cap, e1, h1, h2, h3⟩ := h
    refine ⟨ht, a, cap, e1, h1, h2, ?_⟩
    rcases h3 with h3 | ⟨b, o, rfl, h3⟩
    · exact .inl h3
    · refine .inr ⟨b, o, rfl, repRows_of_get fun i row hrow => ?_⟩
      obtain ⟨q1, q2⟩ := repRows_get h3 i row hrow
      refine ⟨q1, repCells_of_get fun j c hc => ?_⟩
      obtain ⟨u, u1, u2, u3, u4⟩ := repCells_get q2 j c hc
      have hcf : c.flatB = true := List.all_eq_true.1 (List.all_eq_true.1 hf row (List.mem_of_getElem? hrow)) c (List.mem_of_getElem? hc)
      refine ⟨u, u1, ?_, flat_rep hcf u3, u4⟩
      rintro (g | ⟨g, _⟩)
      · exact u2 g
      · exact hT id e k v ht b (by rw [e1]; rfl) g
  | .tight k rows, v, hf, h => by simp [C.freshB] at hf
  | .sl k rows, v, hf, h => by simp [C.freshB] at hf
  | .ptr i off, v, hf, h => by simp [C.freshB] at hf
  | .row cs, v, hf, h => by simp [C.freshB] at hf
  | .clo f a b, v, hf, h => by simp [C.freshB] at hf
  | .bs i off k n c, v, hf, h => by simp [C.freshB] at hf
  | .any, v, hf, h => by simp [C.freshB] at hf
theorem freshL_rep (hT : ∀ id e k v, L'.T id = some (e, k, v) → ∀ b, v.ownBlock = some b → b ∉ L.β) : ∀ (cs : List C) (vs : List Value), C.freshL cs = true → RepL R' L' cs vs → RepL (backE R R' L) L' cs vs
  | [], vs, _, h => by rw [repL_nil] at h ⊢; exact h
  | c :: r, vs, hf, h => by
    simp only [C.freshL, Bool.and_eq_true] at hf
    obtain ⟨v, us, rfl, g1, g2⟩ := repL_cons.1 h
    exact repL_cons.2 ⟨v, us, rfl, fresh_rep hT c v hf.1 g1, freshL_rep hT r us hf.2 g2⟩
end
theorem PStep.back {n : Nat} (hβ : ∀ b ∈ L.β, b < R.w.heap.size) (h : PStep 0 n (lentE R L) noLoc R' L') : PStep 0 n R noLoc (backE R R' L) L' := by
  refine ⟨h.below, h.fgn, h.box, fun b o hb => ?_, h.old, fun id e k v h1 h2 h3 => ?_, h.apart⟩
  · have hm := h.mt b o hb
    show (R'.M b o ∨ (b ∈ L.β ∧ R.M b o)) ↔ R.M b o
    rw [hm]
    show ((R.M b o ∧ b ∉ L.β) ∨ _) ↔ _
    by_cases hx : b ∈ L.β <;> simp [hx]
  · rcases h.new id e k v h1 h2 h3 with g | ⟨g, n', cap, cur, _, e1, e2, e3, e4, e5, e6, e7, e8⟩
    · exact .inl g
    · exact .inr ⟨g, n', cap, cur, _, e1, e2, e3, e4, e5, e6, e7, fun o ho => .inl (e8 o ho)⟩
theorem PStep.own_new {n : Nat} (hβ : ∀ b ∈ L.β, b < R.w.heap.size) (h : PStep 0 n (lentE R L) noLoc R' L') : ∀ id e k v, L'.T id = some (e, k, v) → ∀ b, v.ownBlock = some b → b ∉ L.β := fun id e k v ht b hv hb => by
  rcases Nat.lt_or_ge id n with hi | hi
  · rcases h.new id e k v (Nat.zero_le _) hi ht with g | ⟨g, n', cap, cur, _, e1, e2, _⟩
    · subst g; cases hv
    · subst e1; cases hv
      have := hβ g hb
      have e2 : R.w.heap.size ≤ g := e2
      omega
  · rw [h.old id (.inr hi)] at ht; cases ht
theorem pure_callR {ev : Operand → C} {nx : Nat} {c : Call} {f : Operand} (ho : o.op = .call c) (hc : c.callee = .value f) {fid : FuncId} {first cap : List C} (hev : ev f = .clo (.func fid) first cap) {fargs : List C} (hl : lendsL bx (first ++ c.args.toList.map ev ++ cap) fargs) {r : C} {n : Nat} (hfun : Fun P G fid fargs r n) (hfr : r.freshB = true) :
    PureSem P G bx ev nx o (r.sh nx) (nx + n) := by
  refine ⟨by omega, fun B R L ρ hf hfree hr => ?_⟩
  have hx := hr f; rw [hev, rep_clo] at hx
  obtain ⟨fs, cs, e1, h1, h2⟩ := hx
  have hargs : RepL (lentE R L) noLoc fargs (fs.toList ++ c.args.toList.map ρ ++ cs.toList) :=
    lendsL_rep hf.boxes _ _ _ hl (repL_append (repL_append h1 (repL_map hr _)) h2)
  have hcall := hfun.2 (lentE R L) _ (hf.glob.ext (lentE_ext R L)) hargs
  have hrun : (execOp ρ o).run P R.w = .ok (.enter fid (fs.toList ++ c.args.toList.map ρ ++ cs.toList).toArray) R.w := by
    unfold execOp
    simp only [ho, resolve, hc, e1]
    have e2 : (Deferred.ofValue (.func (.func fid) fs cs) (c.args.map ρ)).run P R.w = .ok { target := .fn (.func fid) cs, args := fs ++ c.args.map ρ } R.w := by
      simp [Deferred.ofValue]
    rw [Sem.run_bind, e2]
    simp only [Result.andThen_ok, invoke]
    rw [run_enter hfun.1]
    congr 2
    apply Array.ext'
    simp
  unfold Runs
  rw [hrun]
  refine hcall.mono fun e w' => ?_
  rintro ⟨v, R1, L', rfl, hw, hst1, hrep1⟩
  have hst := hst1.back hf.β_lt
  have hrep := fresh_rep (R := R) (hst1.own_new hf.β_lt) _ _ hfr hrep1
  have hst' := hst.caller (nx := nx) hf.β_lt
  refine ⟨v, rfl, backE R R1 L, _, hw, hst', ?_⟩
  refine Rep.sh (fun i b hb => ?_) (fun i x hi => ?_) _ _ hrep
  · rw [hst.box] at hb; simp at hb
  · show (if nx ≤ nx + i ∧ nx + i < nx + n then L'.T (nx + i - nx) else _) = some x
    have hin : i < n := by
      rcases Nat.lt_or_ge i n with h | h
      · exact h
      · rw [hst.old i (.inr h)] at hi; cases hi
    rw [if_pos ⟨by omega, by omega⟩, Nat.add_sub_cancel_left]; exact hi
def aCallR (P : Program) (G : Globs) (f : FuncId) (args : List C) (σ : St) (K : C → St → Prop) : Prop :=
  ∃ (fargs : List C) (r : C) (n : Nat), lendsL σ.bx args fargs ∧ Fun P G f fargs r n ∧ r.freshB = true ∧ K (r.sh σ.nx) ⟨σ.tm, σ.bx, σ.nx + n, σ.lg⟩
end
end Go.Proofs.Ytheokoehnmlafaa.Vcg
