/- Loops over iterators on abstract states: it is enough. No condition. -/
import Derived.Test.YtheokoehnmlafaaVcg20
set_option linter.unusedVariables false
set_option linter.unusedSimpArgs false
namespace Go.Proofs.Ytheokoehnmlafaa.Vcg
open Go.RowKit
/-- within a round, the loop's record lies where it lay -/
def RndOk (r : Option Nat) (E : Ctx) : Prop := ∀ l0, r = some l0 → l0 < E.w0.heap.size ∧ ¬ E.ex l0 ∧ ¬ E.F0 l0 ∧ ∃ r0, E.w0.heap[l0]? = some (.loop r0)
section
variable {P : Program} {G : Globs} {E : Ctx} {σ σ' : St} {a : Act} {R R' : Env} {L L' : Loc}
theorem enter_loop {r : Option Nat} (hr : RndOk r E) (h : Good G E σ R L) (fn : FuncId) (tmps : Array Value) (ps : Array Tmp) (assign body : Code) :
    ∃ (l : Nat) (ds : List Nat) (W : World) (D : Nat), (Instr.enterLoop fn tmps ps assign body r).run P R.w = .ok (l, ds.map markOf) W ∧ Below R.w.heap.size R.w W ∧ R.w.heap.size ≤ l ∧
      W.heap[l]? = some (.loop { state := .ready, pending := none, fn, tmps, params := ps, assign, body, defers := D }) ∧ ds.Nodup ∧ ∀ d ∈ ds, R.w.heap.size ≤ d ∧ d ≠ l ∧ W.heap[d]? = some (.deferred (some [])) := by
  cases r with
  | none =>
    have hrun := run_enterLoop_outer (P := P) (w := R.w) fn tmps ps assign body
    have hnew := World.alloc_heap_new (R.w.alloc (.deferred (some []))) (.loop { state := .ready, pending := none, fn, tmps, params := ps, assign, body, defers := R.w.heap.size })
    rw [World.size_alloc] at hnew
    refine ⟨R.w.heap.size + 1, [R.w.heap.size], _, _, hrun, ((Below.refl _ _).alloc (Nat.le_refl _) _).alloc (by simp) _, by omega, hnew, by simp, fun d hd => ?_⟩
    obtain rfl : d = R.w.heap.size := by simpa using hd
    exact ⟨Nat.le_refl _, by omega, (Below.heap_alloc _ _ _ (by simp)).trans (World.alloc_heap_new R.w _)⟩
  | some l0 =>
    obtain ⟨h1, h2, h3, r0, h4⟩ := hr l0 rfl
    have hl0 : R.w.heap[l0]? = some (.loop r0) := (h.blk l0 h1 h2 fun hx => h3 ((h.fz l0 h1).1 hx)).1.trans h4
    have hrun := run_enterLoop_inner (P := P) hl0 fn tmps ps assign body
    exact ⟨R.w.heap.size, [], _, _, hrun, (Below.refl _ _).alloc (Nat.le_refl _) _, Nat.le_refl _, World.alloc_heap_new R.w _, List.nodup_nil, fun d hd => by cases hd⟩
/-- the block of a mark of this activation -/
def Mk (E : Ctx) (ds : List Deferred) (d : Nat) : Prop := ∃ l : List Nat, ds = l.map markOf ++ E.df ∧ d ∈ l
theorem DfOk.stay2 {ds : List Deferred} (h : DfOk E ds R) (hf : ∀ d, Mk E ds d → (R'.F d ↔ R.F d)) (hd : ∀ d, Mk E ds d → R.w.heap[d]? = some (.deferred (some [])) → R'.w.heap[d]? = R.w.heap[d]?) : DfOk E ds R' := by
  obtain ⟨l, e, hl, h⟩ := h
  refine ⟨l, e, hl, fun d hdl => ?_⟩
  obtain ⟨h1, h2, h3⟩ := h d hdl
  exact ⟨(hd d ⟨l, e, hdl⟩ h1).trans h1, h2, fun h' => h3 ((hf d ⟨l, e, hdl⟩).1 h')⟩
theorem DfOk.mk {ds : List Deferred} (h : DfOk E ds R) {d : Nat} (hd : Mk E ds d) : R.w.heap[d]? = some (.deferred (some [])) ∧ E.w0.heap.size ≤ d ∧ ¬ R.F d := by
  obtain ⟨l, e, hl, h⟩ := h
  obtain ⟨l', e', hd⟩ := hd
  have : l.map markOf = l'.map markOf := List.append_cancel_right (e.symm.trans e')
  have hinj : Function.Injective markOf := fun x y hxy => by
    have := congrArg Deferred.target hxy
    simpa using this
  have := (List.map_inj_right fun x y hxy => hinj hxy).1 this
  subst this
  exact h d hd
/-- what is known between two rounds -/
structure Between (G : Globs) (E : Ctx) (R1 : Env) (β1 : List Nat) (l : Nat) (ds : List Deferred) (σ : St) (Rp : Env) (o : Obj) (Lk : Loc) (Fo : Nat → Prop) : Prop where
  ext : Ext R1 Rp
  β : Lk.β = β1
  good : Good G E σ ⟨Rp.w, Rp.M, Fo⟩ Lk
  df : DfOk E ds ⟨Rp.w, Rp.M, Fo⟩
  rcd : Rp.w.heap[l]? = some o
  fl : ¬ Fo l
  f1 : ∀ b, Fo b → Rp.F b
  f2 : ∀ b, Turf Lk b → Rp.F b
  f3 : Rp.F l
  f4 : ∀ d, Mk E ds d → Rp.F d
theorem Between.stab {R1 : Env} {β1 : List Nat} {l : Nat} {ds : List Deferred} {A B : Env} {o : Obj} {Lk : Loc} {Fo : Nat → Prop} {ex : Nat → Prop} {w1 : World} (hw : E.w0.heap.size ≤ w1.heap.size) (hx : ∀ b, ex b → E.tu b) (h : Between G E R1 β1 l ds σ A o Lk Fo) (hn : Nigh w1 ex A B) : Between G E R1 β1 l ds σ B o Lk Fo := by
  have hsame : ∀ b, b < A.w.heap.size → A.F b → B.w.heap[b]? = A.w.heap[b]? ∧ ∀ o, (B.M b o ↔ A.M b o) := fun b hb hF => by
    rcases hn.blk b hb with g | ⟨_, g⟩
    · exact g
    · exact absurd hF g
  have hlt : ∀ {b : Nat} {o : Obj}, A.w.heap[b]? = some o → b < A.w.heap.size := fun h => heap_lt h
  refine ⟨h.ext.trans hn.ext, h.β, h.good.stay ⟨hn.os, hn.tape, hn.output, hn.size, rfl, ⟨hn.ext.cell⟩, fun b hb => (hn.blk b hb).imp id fun ⟨g1, g2⟩ => ⟨?_, fun hF => g2 (h.f1 b hF)⟩⟩ fun b hb => hsame b (h.good.turf hb).2.2.1 (h.f2 b hb),
    h.df.stay2 (fun _ _ => Iff.rfl) fun d hd hh => (hsame d (hlt hh) (h.f4 d hd)).1, (hsame l (hlt h.rcd) h.f3).1.trans h.rcd, h.fl, fun b hb => by rw [hn.fgn]; exact h.f1 b hb, fun b hb => by rw [hn.fgn]; exact h.f2 b hb, by rw [hn.fgn]; exact h.f3, fun d hd => by rw [hn.fgn]; exact h.f4 d hd⟩
  rcases g1 with g1 | g1
  · exact .inl (Nat.le_trans hw g1)
  · exact hx b g1
end
end Go.Proofs.Ytheokoehnmlafaa.Vcg
