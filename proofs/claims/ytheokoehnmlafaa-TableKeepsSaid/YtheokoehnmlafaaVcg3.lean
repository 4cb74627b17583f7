/- Operations that turn nothing, on abstract values: what each answers, and that it does. No condition. -/
import Derived.Test.YtheokoehnmlafaaVcg2
set_option linter.unusedVariables false
set_option linter.unusedSimpArgs false
namespace Go.Proofs.Ytheokoehnmlafaa.Vcg
open Go.RowKit
section
variable {P : Program} {G : Globs} {bx : List (List C)} {ev : Operand → C} {nx : Nat} {o : Oper}
/-- two ways, by a test -/
def ABr (c : C) (X Y : Prop) : Prop := match c with | .sc (.bool b) => (b = true → X) ∧ (b = false → Y) | _ => False
/-- of what an operation yielded: true, false, or nothing -/
def ABrU (c : C) (U X Y : Prop) : Prop := match c with | .sc (.bool b) => (b = true → X) ∧ (b = false → Y) | .sc (.tuple _) => U | _ => False
theorem ABrU.out {c : C} {U X Y : Prop} (h : ABrU c U X Y) : (∃ b, c = .sc (.bool b) ∧ (b = true → X) ∧ (b = false → Y)) ∨ ((∃ vs, c = .sc (.tuple vs)) ∧ U) := by
  unfold ABrU at h
  split at h
  · exact .inl ⟨_, rfl, h⟩
  · exact .inr ⟨⟨_, rfl⟩, h⟩
  · exact h.elim
theorem ABr_true {X Y : Prop} : ABr (.sc (.bool true)) X Y = X := by simp [ABr]
theorem ABr_false {X Y : Prop} : ABr (.sc (.bool false)) X Y = Y := by simp [ABr]
theorem ABr.mk {b : Bool} {X Y : Prop} (hx : b = true → X) (hy : b = false → Y) : ABr (.sc (.bool b)) X Y := ⟨hx, hy⟩
theorem ABr.congr {c c' : C} {X Y : Prop} (h : c = c') : ABr c X Y = ABr c' X Y := by rw [h]
theorem ABr.out {c : C} {X Y : Prop} (h : ABr c X Y) : ∃ b, c = .sc (.bool b) ∧ (b = true → X) ∧ (b = false → Y) := by
  unfold ABr at h
  split at h
  · exact ⟨_, rfl, h⟩
  · exact h.elim
theorem rep_sc {R : Env} {L : Loc} {u v : Value} : Rep R L (.sc u) v ↔ v = u := by
  constructor <;> intro h
  · unfold Rep at h; exact h
  · unfold Rep; exact h
theorem rep_str {R : Env} {L : Loc} {l : List UInt8} {v : Value} : Rep R L (.str l) v ↔ v = .string ⟨l.toArray⟩ := by
  constructor <;> intro h
  · unfold Rep at h; exact h
  · unfold Rep; exact h
theorem rep_agg {R : Env} {L : Loc} {cs : List C} {v : Value} : Rep R L (.agg cs) v ↔ ∃ vs, v = .agg vs ∧ RepL R L cs vs.toList := by
  constructor <;> intro h
  · unfold Rep at h; exact h
  · unfold Rep; exact h
theorem rep_tup {R : Env} {L : Loc} {cs : List C} {v : Value} : Rep R L (.tup cs) v ↔ ∃ vs, v = .tuple vs ∧ RepL R L cs vs.toList := by
  constructor <;> intro h
  · unfold Rep at h; exact h
  · unfold Rep; exact h
theorem rep_sl {R : Env} {L : Loc} {k : Nat} {rows : List (List C)} {v : Value} : Rep R L (.sl k rows) v ↔ ∃ a cap, v = .slice a rows.length cap ∧ rows.length ≤ cap ∧ cap ≤ maxLen ∧ (rows = [] ∨ ∃ b o, a = some ⟨b, o, none⟩ ∧ RepRows R rows k b o) := by
  constructor <;> intro h
  · unfold Rep at h; exact h
  · unfold Rep; exact h
theorem rep_tight {R : Env} {L : Loc} {k : Nat} {rows : List (List C)} {v : Value} : Rep R L (.tight k rows) v ↔ ∃ a, v = .slice a rows.length rows.length ∧ rows.length ≤ maxLen ∧ (rows = [] ∨ ∃ b o, a = some ⟨b, o, none⟩ ∧ RepRows R rows k b o) := by
  constructor <;> intro h
  · unfold Rep at h; exact h
  · unfold Rep; exact h
theorem rep_own {R : Env} {L : Loc} {id e k : Nat} {rows : List (List C)} {v : Value} : Rep R L (.own id e k rows) v ↔ L.T id = some (e, k, v) ∧ ∃ a cap, v = .slice a rows.length cap ∧ rows.length ≤ cap ∧ cap ≤ maxLen ∧ (rows = [] ∨ ∃ b o, a = some ⟨b, o, none⟩ ∧ RepRows R rows k b o) := by
  constructor <;> intro h
  · unfold Rep at h; exact h
  · unfold Rep; exact h
theorem rep_ptr {R : Env} {L : Loc} {i off : Nat} {v : Value} : Rep R L (.ptr i off) v ↔ ∃ b, L.β[i]? = some b ∧ v = .pointer (some ⟨b, off, none⟩) := by
  constructor <;> intro h
  · unfold Rep at h; exact h
  · unfold Rep; exact h
theorem rep_bs {R : Env} {L : Loc} {i off k n c : Nat} {v : Value} : Rep R L (.bs i off k n c) v ↔ ∃ b, L.β[i]? = some b ∧ ∃ ad, v = .slice (some ad) n c ∧ (n + c ≠ 0 → ad = ⟨b, off, none⟩) := by
  constructor <;> intro h
  · unfold Rep at h; exact h
  · unfold Rep; exact h
theorem rep_row {R : Env} {L : Loc} {cs : List C} {v : Value} : Rep R L (.row cs) v ↔ ∃ b o, v = .pointer (some ⟨b, o, none⟩) ∧ RepCells R cs b o := by
  constructor <;> intro h
  · unfold Rep at h; exact h
  · unfold Rep; exact h
theorem rep_clo {R : Env} {L : Loc} {fn : Fn} {first cap : List C} {v : Value} : Rep R L (.clo fn first cap) v ↔ ∃ fs cs, v = .func fn fs cs ∧ RepL R L first fs.toList ∧ RepL R L cap cs.toList := by
  constructor <;> intro h
  · unfold Rep at h; exact h
  · unfold Rep; exact h
/-- move, assign, pick -/
theorem pure_move {x : Operand} (ho : o.op = .move x) : PureSem P G bx ev nx o (ev x) nx :=
  .of_same fun B R L ρ hf hr => ⟨_, by unfold execOp; simp [ho], hr x⟩
theorem pure_assign {x : Operand} (ho : o.op = .assign x) : PureSem P G bx ev nx o (ev x) nx :=
  .of_same fun B R L ρ hf hr => ⟨_, by unfold execOp; simp [ho], hr x⟩
theorem pure_pick {c a b : Operand} {t : Bool} (ho : o.op = .pick c a b) (hc : ev c = .sc (.bool t)) : PureSem P G bx ev nx o (if t then ev a else ev b) nx :=
  .of_same fun B R L ρ hf hr => ⟨if t then ρ a else ρ b, by
    have h := hr c
    rw [hc, rep_sc] at h
    unfold execOp; cases t <;> simp [ho, h, asBool], by cases t <;> simp [hr a, hr b]⟩
/-- loads -/
def aTake (L : Lay) (cs : List C) (K : C → Prop) : Prop :=
  if L.kind.agg then L.size ≤ cs.length ∧ K (.agg (cs.take L.size)) else match cs with | c :: _ => K c | [] => False
def aLoad (P : Program) (t : TypeId) (c : C) (bx : List (List C)) (K : C → Prop) : Prop :=
  match lay P t with
  | none => False
  | some L => match c with
    | .ptr i off => match bx[i]? with
      | some cs => aTake L (cs.drop off) K
      | none => False
    | .row cs => aTake L cs K
    | _ => False
theorem Addr.add_none (b o j : Nat) : (⟨b, o, none⟩ : Addr).add j = ⟨b, o + j, none⟩ := by unfold Addr.add; split <;> simp_all
theorem run_load_cells {t : TypeId} {L : Lay} (hl : lay P t = some L) (w : World) (b off : Nat) (cs : List C) {R : Env} {Lc : Loc} {vs : List Value} (hlen : cs.length ≤ vs.length)
    (hv : ∀ (j : Nat) v, vs[j]? = some v → w.cell? ⟨b, off + j, none⟩ = some v) (hrep : ∀ (j : Nat) c v, cs[j]? = some c → vs[j]? = some v → Rep R Lc c v) (K : C → Prop) (hK : aTake L cs K) :
    ∃ v c, (Instr.loadAt t (.pointer (some ⟨b, off, none⟩))).run P w = .ok v w ∧ Rep R Lc c v ∧ K c := by
  unfold aTake at hK
  cases ha : L.kind.agg with
  | true =>
    rw [ha] at hK
    simp only [if_true] at hK
    obtain ⟨hs, hK⟩ := hK
    refine ⟨.agg (vs.take L.size).toArray, _, ?_, rep_agg.2 ⟨_, rfl, ?_⟩, hK⟩
    · obtain ⟨i, d, h1, h2, h3, h4, _⟩ := lay_spec hl
      refine run_loadAt_mid w b off t (vs.take L.size) d (fun j v hj => ?_) h2 ?_ ?_
      · rw [List.getElem?_take] at hj
        split at hj
        · exact hv j v hj
        · cases hj
      · rw [h3] at ha; cases d <;> simp only [layKind, LK.agg] at ha <;> first | (cases ha; done) | rfl
      · rw [lay_info hl, List.length_take]; congr 1; omega
    · refine repL_of_get (by simp; omega) fun i c v hc hv' => ?_
      simp only [List.getElem?_take] at hc hv'
      split at hc
      · rw [if_pos (by assumption)] at hv'
        exact hrep i c v hc hv'
      · cases hc
  | false =>
    rw [ha] at hK
    simp only [Bool.false_eq_true, if_false] at hK
    cases cs with
    | nil => exact hK.elim
    | cons c r =>
      cases vs with
      | nil => simp at hlen
      | cons v us =>
        refine ⟨v, c, ?_, hrep 0 c v rfl rfl, hK⟩
        have hc := hv 0 v rfl
        have hag := lay_agg hl w
        rw [ha] at hag
        simp only [Instr.loadAt, Instr.sureAddr, Sem.run_bind, Sem.run_pure, Result.andThen_ok, loadVar, hag]
        rw [Nat.add_zero] at hc
        simp [load, Sem.run, hc]
theorem load_at {t : TypeId} {c0 : C} (K : C → Prop) (h : aLoad P t c0 bx K) :
    ∃ c, (∀ (R : Env) (Lc : Loc) (v0 : Value), BoxesOk R Lc bx → Rep R Lc c0 v0 → ∃ v ad, v0 = .pointer (some ad) ∧ (Instr.loadAt t v0).run P R.w = .ok v R.w ∧ Rep R Lc c v) ∧ K c := by
  unfold aLoad at h
  cases hl : lay P t with
  | none => simp [hl] at h
  | some L =>
    simp only [hl] at h
    have hcase : ∃ cs : List C, aTake L cs K ∧ ((∃ i off full, c0 = .ptr i off ∧ bx[i]? = some full ∧ cs = full.drop off) ∨ c0 = .row cs) := by
      split at h
      · rename_i i off
        split at h
        · rename_i full hfull
          exact ⟨_, h, .inl ⟨i, off, full, rfl, hfull, rfl⟩⟩
        · exact h.elim
      · rename_i cs
        exact ⟨cs, h, .inr rfl⟩
      · exact h.elim
    obtain ⟨cs, hK, hcs⟩ := hcase
    have htake : ∃ c, K c ∧ aTake L cs (fun x => x = c) := by
      unfold aTake at hK ⊢
      split
      · rename_i hg; rw [if_pos hg] at hK; exact ⟨_, hK.2, hK.1, rfl⟩
      · rename_i hg; rw [if_neg hg] at hK
        cases cs with
        | nil => exact hK.elim
        | cons c r => exact ⟨c, hK, rfl⟩
    obtain ⟨c, hKc, htk⟩ := htake
    refine ⟨c, fun R Lc v0 hbx hra => ?_, hKc⟩
    rcases hcs with ⟨i, off, full, rfl, hfull, rfl⟩ | rfl
    · rw [rep_ptr] at hra
      obtain ⟨b, hb, hv⟩ := hra
      obtain ⟨vs, ty, hh, hL, h1, _⟩ := hbx.box i b full hb hfull
      obtain ⟨v, c', hrun, hrep, rfl⟩ := run_load_cells hl R.w b off (full.drop off) (R := R) (Lc := Lc) (vs := vs.toList.drop off) (by
          have := repL_length hL; simp at this ⊢; omega)
        (fun j v hj => by
          rw [List.getElem?_drop] at hj
          rw [cell_of_row R.w b (off + j) vs ty _ hh]
          simpa using hj)
        (fun j c v hc hv => by
          rw [List.getElem?_drop] at hc hv
          obtain ⟨v', e1, e2⟩ := repL_get hL _ _ hc
          rw [hv] at e1; cases e1; exact e2) _ htk
      exact ⟨v, _, hv, by rw [hv]; exact hrun, hrep⟩
    · rw [rep_row] at hra
      obtain ⟨b, off, hv, hcells⟩ := hra
      have hvs : ∃ vs : List Value, vs.length = cs.length ∧ (∀ (j : Nat) v, vs[j]? = some v → R.w.cell? ⟨b, off + j, none⟩ = some v) ∧ ∀ (j : Nat) c v, cs[j]? = some c → vs[j]? = some v → Rep R Lc c v := by
        clear htk hv hK h
        induction cs generalizing off with
        | nil => exact ⟨[], rfl, fun j v h => by simp at h, fun j c v h => by simp at h⟩
        | cons x r ih =>
          obtain ⟨⟨v0, e1, e2, e3, e4⟩, h2⟩ := repCells_cons.1 hcells
          obtain ⟨us, g1, g2, g3⟩ := ih (off + 1) h2
          refine ⟨v0 :: us, by simp [g1], fun j v hj => ?_, fun j c v hc hv => ?_⟩
          · cases j with
            | zero => simp at hj; subst hj; exact e1
            | succ j =>
              have := g2 j v (by simpa using hj)
              rwa [show off + (j + 1) = off + 1 + j by omega]
          · cases j with
            | zero => simp at hc hv; subst hc hv; exact Rep.ext (Ext.refl R) (LocLe.none Lc) _ _ e3
            | succ j => exact g3 j c v (by simpa using hc) (by simpa using hv)
      obtain ⟨vs, g1, g2, g3⟩ := hvs
      obtain ⟨v, c', hrun, hrep, rfl⟩ := run_load_cells hl R.w b off cs (R := R) (Lc := Lc) (vs := vs) (by omega) g2 g3 _ htk
      exact ⟨v, _, hv, by rw [hv]; exact hrun, hrep⟩
theorem pure_load {t : TypeId} {a : Operand} (ho : o.op = .load t a) (K : C → Prop) (h : aLoad P t (ev a) bx K) : ∃ c, PureSem P G bx ev nx o c nx ∧ K c := by
  obtain ⟨c, h1, h2⟩ := load_at K h
  refine ⟨c, .of_same fun B R Lc ρ hf hr => ?_, h2⟩
  obtain ⟨v, ad, _, e2, e3⟩ := h1 R Lc (ρ a) hf.boxes (hr a)
  refine ⟨v, ?_, e3⟩
  unfold execOp
  simp only [ho]
  rw [Sem.run_bind, e2]; rfl
end
end Go.Proofs.Ytheokoehnmlafaa.Vcg
