/- Calls by contract; all operations that turn nothing, in one. No condition. -/
import Derived.Test.YtheokoehnmlafaaVcg8
set_option linter.unusedVariables false
set_option linter.unusedSimpArgs false
namespace Go.Proofs.Ytheokoehnmlafaa.Vcg
open Go.RowKit
section
variable {P : Program} {G : Globs} {bx : List (List C)} {ev : Operand → C} {nx : Nat} {o : Oper}
def entersB (P : Program) (f : FuncId) : Bool := match P.funcs[f]? with | some fn => !(fn.name == "runtime.NumGoroutine") && fn.body.isSome | none => false
/-- a function that turns nothing: what it answers -/
def Fun (P : Program) (G : Globs) (f : FuncId) (args : List C) (r : C) (n : Nat) : Prop :=
  entersB P f = true ∧ ∀ (R : Env) (vs : List Value), GlobOk G R → RepL R noLoc args vs →
    Calls P f vs.toArray R.w fun e w' => ∃ v R' L', e = .returned v ∧ R'.w = w' ∧ PStep 0 n R noLoc R' L' ∧ Rep R' L' r v
/-- a slice that may be nil: by cases -/
theorem Fun.bySlice {f : FuncId} {k : Nat} {rows : List (List C)} {rest : List C} {r : C} {n : Nat} (h1 : rows ≠ [] → Fun P G f (.sl k rows :: rest) r n)
    (h2 : rows = [] → ∀ a cap, (∀ k, C.rows? k (.sc (.slice a 0 cap)) = some []) → Fun P G f (.sc (.slice a 0 cap) :: rest) r n) : Fun P G f (.sl k rows :: rest) r n := by
  by_cases h : rows = []
  · have hn := h2 h none 0 (fun k => rfl)
    refine ⟨hn.1, fun R vs hg hv => ?_⟩
    obtain ⟨v, us, rfl, hv, hus⟩ := repL_cons.1 hv
    unfold Rep at hv
    obtain ⟨a, cap, e, _, hc, _⟩ := hv
    rw [h] at e
    refine (h2 h a cap (fun k => ?_)).2 R _ hg (repL_cons.2 ⟨v, us, rfl, rep_sc.2 e, hus⟩)
    cases a with
    | none => cases cap with
      | zero => rfl
      | succ c => simp [C.rows?, hc]
    | some a => simp [C.rows?, hc]
  · exact h1 h
theorem run_enter {f : FuncId} (h : entersB P f = true) (args : Array Value) (w : World) : (callFunc f args).run P w = .ok (.enter f args) w := by
  unfold entersB at h
  split at h
  · rename_i fn hf
    simp only [Bool.and_eq_true, Bool.not_eq_true'] at h
    obtain ⟨c, hc⟩ := Option.isSome_iff_exists.mp h.2
    have h1 : fn.name ≠ "runtime.NumGoroutine" := by simpa using h.1
    simp [callFunc, hf, h1, hc]
  · cases h
/-- a callee's step, as the caller's -/
theorem PStep.caller {n nx : Nat} {R R' : Env} {L L' : Loc} (hβ : ∀ b ∈ L.β, b < R.w.heap.size) (h : PStep 0 n R noLoc R' L') :
    PStep nx (nx + n) R L R' ⟨L.β, fun id => if nx ≤ id ∧ id < nx + n then L'.T (id - nx) else L.T id⟩ := by
  refine ⟨h.below, h.fgn, rfl, h.mt, fun id hi => if_neg (by omega), fun id e k v hi hj ht => ?_, fun id id' e k v e' k' v' b hi hi2 hj hj2 h1 h2 h3 h4 => ?_⟩
  · simp only at ht
    rw [if_pos ⟨hi, hj⟩] at ht
    rcases h.new (id - nx) e k v (Nat.zero_le _) (by omega) ht with g2 | ⟨g, n', cap, cur, _, e1, e2, e3, e4, e5, e6, e7, e8⟩
    · exact .inl g2
    · exact .inr ⟨g, n', cap, cur, _, e1, e2, e3, e4, e5, e6, fun hx => by have := hβ g hx; omega, e8⟩
  · simp only at h1 h2
    rw [if_pos ⟨by omega, by omega⟩] at h1 h2
    have := h.apart (id - nx) (id' - nx) e k v e' k' v' b (Nat.zero_le _) (by omega) (Nat.zero_le _) (by omega) h1 h2 h3 h4
    omega
def aCallF (P : Program) (G : Globs) (callee : C) (args : List C) (nx : Nat) (K : C → Nat → Prop) : Prop :=
  match callee with
  | .clo (.func f) first cap => ∃ r n, Fun P G f (C.frzL (first ++ args ++ cap)) r n ∧ K (r.sh nx) (nx + n)
  | _ => False
theorem pure_callF {c : Call} {f : Operand} (ho : o.op = .call c) (hc : c.callee = .value f) (K : C → Nat → Prop) (h : aCallF P G (ev f) (c.args.toList.map ev) nx K) : ∃ r nx', PureSem P G bx ev nx o r nx' ∧ K r nx' := by
  unfold aCallF at h
  split at h
  · rename_i fid first cap hev
    obtain ⟨r, n, hfun, hK⟩ := h
    refine ⟨_, _, ⟨by omega, fun B R L ρ hf hfree hr => ?_⟩, hK⟩
    have hx := hr f; rw [hev, rep_clo] at hx
    obtain ⟨fs, cs, e1, h1, h2⟩ := hx
    have hargs : RepL R noLoc (C.frzL (first ++ c.args.toList.map ev ++ cap)) (fs.toList ++ c.args.toList.map ρ ++ cs.toList) :=
      RepL.frz noLoc _ _ (repL_append (repL_append h1 (repL_map hr _)) h2)
    have hcall := hfun.2 R _ hf.glob hargs
    have hrun : (execOp ρ o).run P R.w = .ok (.enter fid (fs.toList ++ c.args.toList.map ρ ++ cs.toList).toArray) R.w := by
      unfold execOp
      simp only [ho, resolve, hc, e1]
      have e2 : (Deferred.ofValue (.func (.func fid) fs cs) (c.args.map ρ)).run P R.w = .ok { target := .fn (.func fid) cs, args := fs ++ c.args.map ρ } R.w := by
        simp [Deferred.ofValue]
      rw [Sem.run_bind, e2]
      simp only [Result.andThen_ok, invoke]
      rw [run_enter hfun.1]
      congr 2
      apply Array.ext'
      simp
    unfold Runs
    rw [hrun]
    refine hcall.mono fun e w' => ?_
    rintro ⟨v, R', L', rfl, hw, hst, hrep⟩
    have hst' := hst.caller (nx := nx) hf.β_lt
    refine ⟨v, rfl, R', _, hw, hst', ?_⟩
    refine Rep.sh (fun i b hb => ?_) (fun i x hi => ?_) _ _ hrep
    · rw [hst.box] at hb; simp at hb
    · show (if nx ≤ nx + i ∧ nx + i < nx + n then L'.T (nx + i - nx) else _) = some x
      have hin : i < n := by
        rcases Nat.lt_or_ge i n with h | h
        · exact h
        · rw [hst.old i (.inr h)] at hi; cases hi
      rw [if_pos ⟨by omega, by omega⟩, Nat.add_sub_cancel_left]; exact hi
  · exact h.elim
def aCallB (P : Program) (b : Builtin) (ev : Operand → C) (args : List Operand) (tys : List TypeId) (nx : Nat) (K : C → Nat → Prop) : Prop :=
  match b, args, tys with
  | .len, [x], [t] => aLen P t (ev x) fun c => K c nx
  | .append, [s, x], [t, t'] => t' = t ∧ aAppNew P t (ev s) (ev x) nx K
  | _, _, _ => False
def aCall (P : Program) (G : Globs) (ev : Operand → C) (c : Call) (nx : Nat) (K : C → Nat → Prop) : Prop :=
  match c.callee with
  | .value f => aCallF P G (ev f) (c.args.toList.map ev) nx K
  | .builtin b => aCallB P b ev c.args.toList c.argTypes.toList nx K
  | _ => False
/-- a store of what stands there already -/
def sameC : List C → List C → Prop
  | [], [] => True
  | .sc u :: r, .sc v :: s => u = v ∧ sameC r s
  | .str a :: r, .str b :: s => a = b ∧ sameC r s
  | _, _ => False
theorem sameC_vals {R R' : Env} {L L' : Loc} : ∀ {cs ds : List C} {vs us : List Value}, sameC cs ds → RepL R L cs vs → RepL R' L' ds us → vs = us
  | [], [], vs, us, _, h1, h2 => by rw [repL_nil] at h1 h2; rw [h1, h2]
  | .sc u :: r, .sc v :: s, vs, us, h, h1, h2 => by
    obtain ⟨e, h⟩ := h
    obtain ⟨v1, w1, rfl, a1, b1⟩ := repL_cons.1 h1
    obtain ⟨v2, w2, rfl, a2, b2⟩ := repL_cons.1 h2
    rw [rep_sc] at a1 a2
    rw [a1, a2, e, sameC_vals h b1 b2]
  | .str a :: r, .str b :: s, vs, us, h, h1, h2 => by
    obtain ⟨e, h⟩ := h
    obtain ⟨v1, w1, rfl, a1, b1⟩ := repL_cons.1 h1
    obtain ⟨v2, w2, rfl, a2, b2⟩ := repL_cons.1 h2
    rw [rep_str] at a1 a2
    rw [a1, a2, e, sameC_vals h b1 b2]
def aSame (P : Program) (t : TypeId) (p c : C) (bx : List (List C)) (K : C → Prop) : Prop :=
  match lay P t, p with
  | some L, .ptr i off => match bx[i]? with
    | some cs => c.partB = true ∧ (c.cells.all C.cellB) = true ∧ c.cells.length = L.size ∧ off + L.size ≤ cs.length ∧ sameC ((cs.drop off).take L.size) c.cells ∧ K .any
    | none => False
  | _, _ => False
theorem pure_same {t : TypeId} {p x : Operand} (ho : o.op = .store t p x) (K : C → Prop) (h : aSame P t (ev p) (ev x) bx K) : ∃ c, PureSem P G bx ev nx o c nx ∧ K c := by
  unfold aSame at h
  split at h
  · rename_i Ly i off hl hev
    split at h
    · rename_i cs hcs
      obtain ⟨h1, h2, h3, h4, h5, hK⟩ := h
      refine ⟨_, ⟨Nat.le_refl _, fun B R L ρ hf _ hr => ?_⟩, hK⟩
      have hp := hr p; rw [hev, rep_ptr] at hp
      obtain ⟨b, hb, hpv⟩ := hp
      have hx := rep_cells (hr x) h1
      obtain ⟨vs, ty, e1, e2, e3, e4⟩ := hf.boxes.box i b cs hb hcs
      have hxl := repL_length hx
      have hvl := repL_length e2
      simp only [Array.length_toList] at hxl hvl
      have hone := repL_one hx h2
      have hst := run_storeCells_at P b off ty (ρ x).cells.toList 0 vs R.w e1 (by simp; omega) hone
      simp only [Nat.add_zero] at hst
      have hsame := sameC_vals h5 (repL_take Ly.size (repL_drop off e2)) hx
      have hrow : (vs.toList.take off ++ (ρ x).cells.toList ++ vs.toList.drop (off + (ρ x).cells.toList.length)) = vs.toList := by
        have hlen : (ρ x).cells.toList.length = Ly.size := by simp; omega
        rw [hlen, ← hsame, List.append_assoc, ← List.drop_drop, List.take_append_drop, List.take_append_drop]
      rw [hrow] at hst
      simp only [Array.toArray_toList] at hst
      rw [setRow_self R.w b vs ty (0, 0) e1] at hst
      unfold Runs
      have hrun : (execOp ρ o).run P R.w = .ok .skip R.w := by
        have hsz := lay_sizeOf hl R.w
        unfold execOp
        simp only [ho, hpv, Instr.storeAt, Instr.sureAddr, storeVar, Sem.run_bind, Sem.run_pure, Result.andThen_ok, hsz]
        rw [if_neg (by omega)]
        simp only [Sem.run_bind, hst, Result.andThen_ok, Sem.run_pure]
      rw [hrun]
      exact ⟨R, L, rfl, PStep.refl _ _ _, by unfold Rep; trivial⟩
    · exact h.elim
  · exact h.elim
/-- what an operation that turns nothing answers -/
def aPure (P : Program) (G : Globs) (bx : List (List C)) (ev : Operand → C) (op : Op) (nx : Nat) (K : C → Nat → Prop) : Prop :=
  match op with
  | .move x => K (ev x) nx
  | .assign x => K (ev x) nx
  | .pick c a b => ABr (ev c) (K (ev a) nx) (K (ev b) nx)
  | .build t parts => aBuild P t (parts.toList.map fun p => (p.1, ev p.2)) fun c => K c nx
  | .buildSlice t n parts => aBuildSlice P t n (parts.toList.map fun p => (p.1, ev p.2)) nx K
  | .load t a => aLoad P t (ev a) bx fun c => K c nx
  | .nilCheck x => aNil (ev x) fun c => K c nx
  | .binOp op t x y _ => aBin P t op (ev x) (ev y) fun c => K c nx
  | .unOp op _ x => aUn op (ev x) fun c => K c nx
  | .convert s d x => aConvX P bx s d (ev x) fun c => K c nx
  | .makeFunc fn first cap => K (.clo fn (first.toList.map ev) (cap.toList.map ev)) nx
  | .makeSlice t l c => aMake P t (ev l) (ev c) nx K
  | .slice t x lo hi mx => aSlice P t (ev x) (lo.map ev) (hi.map ev) (mx.map ev) fun c => K c nx
  | .fieldAddr t x f => aFieldAddr P t (ev x) f fun c => K c nx
  | .field t x f => aField P t (ev x) f fun c => K c nx
  | .indexAddr t x i => aIndexAddr P t (ev x) (ev i) fun c => K c nx
  | .index t x i => aIndex P t (ev x) (ev i) fun c => K c nx
  | .extract t i => aExtract (ev t) i fun c => K c nx
  | .call c => aCall P G ev c nx K
  | .store t p x => aSame P t (ev p) (ev x) bx fun c => K c nx
  | _ => False
theorem Oper.ext {o : Oper} {op : Op} (h : o.op = op) : o.op = op := h
theorem toList_one {α : Type} {a : Array α} {x : α} (h : a.toList = [x]) : a = #[x] := by apply Array.ext'; simpa using h
theorem toList_two {α : Type} {a : Array α} {x y : α} (h : a.toList = [x, y]) : a = #[x, y] := by apply Array.ext'; simpa using h
theorem one {K : C → Nat → Prop} (h : ∃ c, PureSem P G bx ev nx o c nx ∧ K c nx) : ∃ c nx', PureSem P G bx ev nx o c nx' ∧ K c nx' := let ⟨c, h1, h2⟩ := h; ⟨c, nx, h1, h2⟩
theorem aPure_sound (K : C → Nat → Prop) (h : aPure P G bx ev o.op nx K) : ∃ c nx', PureSem P G bx ev nx o c nx' ∧ K c nx' := by
  cases ho : o.op <;> rw [ho] at h <;> simp only [aPure] at h <;> try exact h.elim
  case move x => exact ⟨_, _, pure_move ho, h⟩
  case assign x => exact ⟨_, _, pure_assign ho, h⟩
  case pick c a b =>
    obtain ⟨t, ht, h1, h2⟩ := h.out
    refine ⟨_, _, pure_pick ho ht, ?_⟩
    cases t
    · exact h2 rfl
    · exact h1 rfl
  case build t parts => exact one (pure_build ho (fun c => K c nx) h)
  case buildSlice t n parts => exact pure_buildSlice ho K h
  case load t a => exact one (pure_load ho (fun c => K c nx) h)
  case nilCheck x => exact one (pure_nil ho (fun c => K c nx) h)
  case store t p x => exact one (pure_same ho (fun c => K c nx) h)
  case binOp op t x y t' => exact one (pure_bin ho (fun c => K c nx) h)
  case unOp op t x => exact one (pure_un ho (fun c => K c nx) h)
  case convert s d x => exact one (pure_convX ho (fun c => K c nx) h)
  case makeFunc fn first cap => exact ⟨_, _, pure_func ho, h⟩
  case makeSlice t l c => exact pure_make ho K h
  case slice t x lo hi mx => exact one (pure_slice ho (fun c => K c nx) h)
  case fieldAddr t x f => exact one (pure_fieldAddr ho (fun c => K c nx) h)
  case field t x f => exact one (pure_field ho (fun c => K c nx) h)
  case indexAddr t x i => exact one (pure_indexAddr ho (fun c => K c nx) h)
  case index t x i => exact one (pure_index ho (fun c => K c nx) h)
  case extract t i => exact one (pure_extract ho (fun c => K c nx) h)
  case call c =>
    unfold aCall at h
    split at h
    · rename_i f hc
      exact pure_callF ho hc K h
    · rename_i b hc
      unfold aCallB at h
      obtain ⟨callee, args, argTypes⟩ := c
      simp only at hc h
      subst hc
      split at h
      · rename_i x t h1 h2
        rw [toList_one h1, toList_one h2] at ho
        exact one (pure_len ho (fun c => K c nx) h)
      · rename_i s x t t' h1 h2
        obtain ⟨rfl, h⟩ := h
        rw [toList_two h1, toList_two h2] at ho
        exact pure_appNew ho K h
      · exact h.elim
    · exact h.elim
end
end Go.Proofs.Ytheokoehnmlafaa.Vcg
