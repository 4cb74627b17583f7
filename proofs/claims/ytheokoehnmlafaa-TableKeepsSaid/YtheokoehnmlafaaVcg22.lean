/- Loops over iterators on abstract states: a round keeps its word; the loop. No condition. -/
import Derived.Test.YtheokoehnmlafaaVcg21
set_option linter.unusedVariables false
set_option linter.unusedSimpArgs false
namespace Go.Proofs.Ytheokoehnmlafaa.Vcg
open Go.RowKit
/-- the state's word on a way out -/
def outK (G : Globs) (E : Ctx) (Q : Exit → St → Prop) : Exit → Act → World → Prop := fun e a w => ∃ σ, Q e σ ∧ Inv G E σ a w
def jumpOf : Exit → Option Code
  | .ret => some .ret
  | .exit id => some (.exit id)
  | .goto t => some (.goto t)
  | _ => none
abbrev rcOf (fn : FuncId) (tmps : Array Value) (ps : Array Tmp) (assign body : Code) (D : Nat) (s : LoopState) (p : Option Code) : Loop := { state := s, pending := p, fn, tmps, params := ps, assign, body, defers := D }
/-- what is known when k rounds are over -/
def JC (G : Globs) (E : Ctx) (R1 : Env) (β1 : List Nat) (l m : Nat) (ds : List Deferred) (rc : LoopState → Option Code → Loop) (st : Nat → Bool) (I : Nat → St) (tm : List (Nat × C)) (Q : Exit → St → Prop) (k : Nat) (Rp : Env) : Prop :=
  ((∀ j, j < k → st j = false) ∧ ∃ Lk Fo, Between G E R1 β1 l ds (I k) Rp (.loop (rc .ready none)) Lk Fo) ∨
  (0 < k ∧ st (k - 1) = true ∧ ∃ e jc σ', jumpOf e = some jc ∧ Q e (σ'.wt tm) ∧ ∃ Lk Fo, Between G E R1 β1 l ds σ' Rp (.loop (rc .done (some jc))) Lk Fo)
section
variable {P : Program} {G : Globs} {E : Ctx} {σ σ' : St} {a : Act} {R R' : Env} {L L' : Loc}
theorem JC.stab {R1 : Env} {β1 : List Nat} {l m : Nat} {ds : List Deferred} {rc : LoopState → Option Code → Loop} {st : Nat → Bool} {I : Nat → St} {tm : List (Nat × C)} {Q : Exit → St → Prop} {ex : Nat → Prop} {w1 : World} (hw : E.w0.heap.size ≤ w1.heap.size) (hx : ∀ b, ex b → E.tu b) :
    ∀ k A B, JC G E R1 β1 l m ds rc st I tm Q k A → Nigh w1 ex A B → JC G E R1 β1 l m ds rc st I tm Q k B := fun k A B h hn => by
  rcases h with ⟨h1, Lk, Fo, hb⟩ | ⟨h1, h2, e, jc, σ', h3, h4, Lk, Fo, hb⟩
  · exact .inl ⟨h1, Lk, Fo, hb.stab hw hx hn⟩
  · exact .inr ⟨h1, h2, e, jc, σ', h3, h4, Lk, Fo, hb.stab hw hx hn⟩
theorem round_ok {ps : Array Tmp} {assign body : Code} {Q : Exit → St → Prop} {A B : Nat → (Exit → St → Prop) → St → Prop} {fn : FuncId} {tmps : Array Value} {D l m : Nat} {ds : List Deferred} {R1 : Env} {L1 : Loc} {tm0 : List (Nat × C)} {items : List (List C)} {st : Nat → Bool} {I : Nat → St}
    (hsA : ∀ (E' : Ctx) (Q' : Exit → St → Prop) (σ' : St) (a' : Act) (w' : World), E'.N = E.N → E'.β0.length ≤ m → E'.J = E.J → RndOk (some l) E' → A m Q' σ' → Inv G E' σ' a' w' → assign.wpIn (Fl (some l)) 0 P (outK G E' Q') a' w')
    (hsB : ∀ (E' : Ctx) (Q' : Exit → St → Prop) (σ' : St) (a' : Act) (w' : World), E'.N = E.N → E'.β0.length ≤ m → E'.J = E.J → RndOk (some l) E' → B m Q' σ' → Inv G E' σ' a' w' → body.wpIn (Fl (some l)) 0 P (outK G E' Q') a' w')
    (hl : E.w0.heap.size ≤ l) (hps : ∀ p ∈ ps.toList, p < E.N) (hN : tmps.size = E.N) (htm0 : ∀ t, Rep R1 L1 (getC tm0 t) (tmps.getD t undef)) (hlen : ∀ it ∈ items, it.length = ps.toList.length) (hIm : ∀ k, k ≤ items.length → (I k).bx.length = m)
    (hbody : ∀ k it, items[k]? = some it → (∀ j, j < k → st j = false) → A m (onlyK (B m (roundK m (tlTm m tm0) (st k) (I (k + 1)) Q))) ((I k).wt (putPs ps.toList it (tlTm m tm0)))) :
    YOk P ⟨l, items, st⟩ (JC G E R1 (L1.β.take m) l m ds (rcOf fn tmps ps assign body D) st I (tlTm m tm0) Q) := by
  intro k R it vs hJ hflt hst hit hvs
  have hJ' : ∃ Lk Fo, Between G E R1 (L1.β.take m) l ds (I k) R (.loop (rcOf fn tmps ps assign body D .ready none)) Lk Fo := by
    rcases hJ with ⟨_, h⟩ | ⟨hk0, hk1, _⟩
    · exact h
    · have := hst (k - 1) (by omega)
      exact absurd (hk1.symm.trans this) (by decide)
  obtain ⟨Lk, Fo, hb⟩ := hJ'
  have hit' : items[k]? = some it := hit
  have hk : k < items.length := (List.getElem?_eq_some_iff.1 hit').1
  have hpl := hlen it (List.mem_of_getElem? hit')
  have hvl := repL_length hvs
  have hps' : ps.size = ps.toList.length := by simp
  have hy := run_yield (P := P) (args := vs.toArray) hb.rcd (by simp only [List.size_toArray]; omega)
  refine ⟨fn, _, assign, body, hy, roundIn_of_wpIn trivial ?_⟩
  clear hy
  have hfold : Array.foldl (fun (t : Array Value) (p : Nat × Value) => t.setIfInBounds p.1 p.2) tmps (ps.zip vs.toArray) = (ps.toList.zip vs).foldl (fun t (p : Nat × Value) => t.setIfInBounds p.1 p.2) tmps := by
    rw [← Array.foldl_toList, Array.toList_zip]
  have hbase : ∀ t, Rep ⟨R.w, R.M, Fo⟩ Lk (getC (tlTm m tm0) t) (tmps.getD t undef) := fun t => by
    rw [getC_tl]
    refine Rep.sel (R' := ⟨R.w, R.M, Fo⟩) (L' := Lk) ⟨hb.ext.cell⟩ (fun i j b hij hb1 => ?_) _ _ (htm0 t)
    unfold fpKeep at hij
    split at hij
    · cases hij
      rw [hb.β, List.getElem?_take, if_pos (by assumption)]; exact hb1
    · cases hij
  have hvs' : RepL ⟨R.w, R.M, Fo⟩ Lk it vs := RepL.ext (R := R) (R' := ⟨R.w, R.M, Fo⟩) (T := noLoc) ⟨fun b o v h1 h2 => ⟨h1, h2⟩⟩ (LocLe.none _) _ _ hvs
  have htm := putPs_get ps.toList it vs (tlTm m tm0) tmps hvs' (fun p hp => by rw [hN]; exact hps p hp) hbase
  have hfr := (hb.good.wt (putPs ps.toList it (tlTm m tm0))).fresh (β0 := Lk.β) (more := []) (by simp) (a := ⟨(ps.toList.zip vs).foldl (fun t (p : Nat × Value) => t.setIfInBounds p.1 p.2) tmps, []⟩) (by rw [foldl_size]; exact hN) htm
  have hlm : Lk.β.length = m := by rw [hb.good.fit.boxes.len, hIm k (by omega)]
  have hlR : l < R.w.heap.size := heap_lt hb.rcd
  have hnT : ¬ Turf Lk l := fun hT => by
    obtain ⟨_, _, _, cs, t, f, hc⟩ := hb.good.turf hT
    have hc : R.w.heap[l]? = some (.cells cs t f) := hc
    rw [hb.rcd] at hc; cases hc
  refine wpIn_mono (hsA (E.at (Env.mk R.w R.M Fo) Lk Lk.β [] hb.good.size fun b hx => (hb.good.turf hx).1) _ _ _ R.w rfl (by show Lk.β.length ≤ m; omega) rfl (fun l0 hl0 => by cases hl0; exact ⟨hlR, hnT, hb.fl, _, hb.rcd⟩) (hbody k it hit' hst) ⟨Env.mk R.w R.M Fo, Lk, rfl, by rw [← hfold] at hfr; exact hfr⟩) ?_
  rintro e a1 w1 ⟨σ1, hq, Ra, La, rfl, hIa⟩
  cases e <;> try exact hq.elim
  -- the record is ready yet
  have hga := hb.good.wt (putPs ps.toList it (tlTm m tm0)) |>.back hb.good.box hIa.good
  have hra := hIa.good.at_blk (b := l) hlR hnT hb.fl
  have hrecA : Ra.w.heap[l]? = some (.loop (rcOf fn tmps ps assign body D .ready none)) := hra.1.trans hb.rcd
  have hFa : ¬ Ra.F l := fun hx => hb.fl ((hIa.good.fz l hlR).1 hx)
  have hTa : ¬ Turf La l := fun hT => by
    obtain ⟨_, _, _, cs, t, f, hc⟩ := hga.turf hT
    rw [hrecA] at hc; cases hc
  refine ⟨_, run_beginRound hrecA rfl, ?_⟩
  have hlA : l < Ra.w.heap.size := heap_lt hrecA
  have hni := nigh_putObj (E := E) (R := Ra) (o := .loop { rcOf fn tmps ps assign body D .ready none with state := .busy }) (.inl hl) hFa (fun cs t f hc => by rw [hrecA] at hc; cases hc)
  have hsame : ∀ (o : Obj) (R : Env) (L : Loc), (¬ Turf L l) → ∀ b, Turf L b → (R.w.putObj l o).heap[b]? = R.w.heap[b]? ∧ ∀ o, (R.M b o ↔ R.M b o) := fun o R L hT b hb => ⟨World.putObj_heap_other fun e => hT (e ▸ hb), fun _ => Iff.rfl⟩
  have hgb := hga.stay hni (hsame _ Ra La hTa)
  have hrecB : (Ra.w.putObj l (.loop { rcOf fn tmps ps assign body D .ready none with state := .busy })).heap[l]? = some (.loop (rcOf fn tmps ps assign body D .busy none)) := World.putObj_heap_same hlA
  obtain ⟨moreA, hmA⟩ := hIa.good.box
  have hmA : La.β = Lk.β ++ moreA := hmA
  have hfrB := hgb.fresh hmA (a := a1) hIa.size fun t => Rep.ext hni.ext (LocLe.refl _) _ _ (hIa.tm t)
  refine wpIn_mono (hsB (E.at (Env.mk (Ra.w.putObj l (.loop { rcOf fn tmps ps assign body D .ready none with state := .busy })) Ra.M Ra.F) La Lk.β a1.defers hgb.size fun b hx => (hgb.turf hx).1) _ σ1 a1 _ rfl (by show Lk.β.length ≤ m; omega) rfl (fun l0 hl0 => by cases hl0; exact ⟨by simpa [Ctx.at] using hlA, hTa, hFa, _, hrecB⟩) hq ⟨_, La, rfl, hfrB⟩) ?_
  rintro e a3 w3 ⟨σ3, hq3, Rc, Lc, rfl, hIc⟩
  have hgc := hgb.back hb.good.box hIc.good
  have hlB : l < (Ra.w.putObj l (.loop { rcOf fn tmps ps assign body D .ready none with state := .busy })).heap.size := by simpa using hlA
  have hrc := hIc.good.at_blk (b := l) hlB hTa hFa
  have hrecC : Rc.w.heap[l]? = some (.loop (rcOf fn tmps ps assign body D .busy none)) := hrc.1.trans hrecB
  have hFc : ¬ Rc.F l := fun hx => hFa ((hIc.good.fz l hlB).1 hx)
  have hTc : ¬ Turf Lc l := fun hT => by
    obtain ⟨_, _, _, cs, t, f, hc⟩ := hgc.turf hT
    rw [hrecC] at hc; cases hc
  have hszA : R.w.heap.size ≤ Ra.w.heap.size := hIa.good.size
  have hszC : Ra.w.heap.size ≤ Rc.w.heap.size := by have := hIc.good.size; simpa [Ctx.at] using this
  -- what is none of the loop's lies as it lay
  have hfar : ∀ b, b < R.w.heap.size → ¬ R.F b → (Rc.w.heap[b]? = R.w.heap[b]? ∧ ∀ o, (Rc.M b o ↔ R.M b o)) ∧ (¬ Rc.F b) := fun b hbl hbF => by
    have hbF0 : ¬ Fo b := fun hx => hbF (hb.f1 b hx)
    have hbT : ¬ Turf Lk b := fun hx => hbF (hb.f2 b hx)
    have hbl' : b ≠ l := fun e => hbF (e ▸ hb.f3)
    have h1 := hIa.good.at_blk (b := b) hbl hbT hbF0
    have hFa' : ¬ Ra.F b := fun hx => hbF0 ((hIa.good.fz b hbl).1 hx)
    have hTa' : ¬ Turf La b := fun hx => hbT (hIa.good.at_turf hbl hx)
    have hlt2 : b < (Ra.w.putObj l (.loop { rcOf fn tmps ps assign body D .ready none with state := .busy })).heap.size := by simp; omega
    have h2 := hIc.good.at_blk (b := b) hlt2 hTa' hFa'
    refine ⟨⟨(h2.1.trans (World.putObj_heap_other hbl')).trans h1.1, fun o => (h2.2 o).trans (h1.2 o)⟩, fun hx => hFa' ((hIc.good.fz b hlt2).1 hx)⟩
  have hturf : ∀ b, b < R.w.heap.size → Turf Lc b → R.F b := fun b hbl hx => by
    refine hb.f2 b (hIa.good.at_turf hbl (hIc.good.at_turf ?_ hx))
    simp; omega
  have hext : Ext R Rc := by
    have e1 : Ext (Env.mk R.w R.M Fo) Ra := ⟨hIa.good.ext.cell⟩
    have e2 : Ext (Env.mk (Ra.w.putObj l (.loop { rcOf fn tmps ps assign body D .ready none with state := .busy })) Ra.M Ra.F) Rc := ⟨hIc.good.ext.cell⟩
    exact (Ext.trans (A := R) (B := Ra) ⟨e1.cell⟩ hni.ext).trans e2
  -- the end of a round
  have fin : ∀ (jump : Option Code) (σ' : St), σ'.bx.length = m → Weak m ⟨[], σ3.bx, σ3.nx, σ3.lg⟩ (σ'.wt []) →
      (Instr.endRound l jump).run P Rc.w = .ok (.bool jump.isNone) (Rc.w.putObj l (.loop (rcOf fn tmps ps assign body D (if jump.isNone then .ready else .done) jump))) ∧
      ∃ R', R'.w = Rc.w.putObj l (.loop (rcOf fn tmps ps assign body D (if jump.isNone then .ready else .done) jump)) ∧ Far R R' ∧
        ∃ Lk' Fo', Between G E R1 (L1.β.take m) l ds σ' R' (.loop (rcOf fn tmps ps assign body D (if jump.isNone then .ready else .done) jump)) Lk' Fo' := fun jump σ' hm' hw => by
    have hrun := run_endRound (P := P) jump hrecC
    generalize hrc' : rcOf fn tmps ps assign body D (if jump.isNone then .ready else .done) jump = rc'
    have hrun' : (Instr.endRound l jump).run P Rc.w = .ok (.bool jump.isNone) (Rc.w.putObj l (.loop rc')) := by rw [← hrc']; exact hrun
    have hni2 := nigh_putObj (E := E) (R := Rc) (o := .loop rc') (.inl hl) hFc (fun cs t f hc => by rw [hrecC] at hc; cases hc)
    have hgd := hgc.stay hni2 (hsame _ Rc Lc hTc)
    obtain ⟨src, _, hgw⟩ := Good.weak (p := m) (σ := ⟨[], σ3.bx, σ3.nx, σ3.lg⟩) (σ' := σ'.wt []) (by
      obtain ⟨more0, hm0⟩ := hb.good.box
      have := congrArg List.length hm0
      simp at this; omega) hw (hgd.wt [])
    obtain ⟨moreC, hmC⟩ := hIc.good.box
    have hmC : Lc.β = Lk.β ++ moreC := hmC
    have hβ' : Lc.β.take (σ'.wt []).bx.length = L1.β.take m := by
      show Lc.β.take σ'.bx.length = _
      rw [hm', hmC, List.take_append_of_le_length (by omega), List.take_of_length_le (by omega), hb.β]
    refine ⟨hrun', ⟨Rc.w.putObj l (.loop rc'), Rc.M, fun b => R.F b ∨ (R.w.heap.size ≤ b ∧ b < Rc.w.heap.size)⟩, rfl, ⟨?_, ?_, ?_, ?_, ?_, fun b hbl => ⟨fun hx => hx.elim id fun h => by omega, .inl⟩, fun b hx => ?_, fun b hbl hbF => ?_⟩, lessLoc src (σ'.wt []).bx.length Lc, Rc.F, ⟨?_, hβ', ?_, ?_, World.putObj_heap_same (heap_lt hrecC), hFc, fun b hx => ?_, fun b hx => ?_, .inl hb.f3, fun d hd => .inl (hb.f4 d hd)⟩⟩
    · exact hIc.good.os.trans hIa.good.os
    · exact hIc.good.tape.trans hIa.good.tape
    · exact hIc.good.output.trans hIa.good.output
    · simp; omega
    · exact hext.trans ⟨hni2.ext.cell⟩
    · simp only [World.putObj_size]
      rcases hx with hx | hx
      · have := hflt b hx; omega
      · exact hx.2
    · have hbl' : b ≠ l := fun e => hbF (e ▸ hb.f3)
      obtain ⟨⟨g1, g2⟩, _⟩ := hfar b hbl hbF
      exact ⟨(World.putObj_heap_other hbl').trans g1, g2⟩
    · exact (hb.ext.trans hext).trans ⟨hni2.ext.cell⟩
    · exact { hgw with }
    · have hdf := hb.df
      refine hdf.stay2 (fun d hd => ?_) fun d hd hh => ?_
      · have hdm := hdf.mk hd
        have hlt : d < R.w.heap.size := heap_lt hdm.1
        exact ((hIc.good.fz d (by simp [Ctx.at]; omega)).trans (hIa.good.fz d hlt))
      · have hdm := hdf.mk hd
        have hlt : d < R.w.heap.size := heap_lt hdm.1
        have hdF0 : ¬ Fo d := hdm.2.2
        have hdT : ¬ Turf Lk d := fun hT => by
          obtain ⟨_, _, _, cs, t, f, hc⟩ := hb.good.turf hT
          have hc : R.w.heap[d]? = some (.cells cs t f) := hc
          have hh : R.w.heap[d]? = some (.deferred (some [])) := hh
          rw [hh] at hc; cases hc
        have hdl : d ≠ l := fun e => by
          subst e
          have hh : R.w.heap[d]? = some (.deferred (some [])) := hh
          rw [hb.rcd] at hh; cases hh
        have h1 := hIa.good.at_blk (b := d) hlt hdT hdF0
        have hFa' : ¬ Ra.F d := fun hx => hdF0 ((hIa.good.fz d hlt).1 hx)
        have hTa' : ¬ Turf La d := fun hx => hdT (hIa.good.at_turf hlt hx)
        have hlt2 : d < (Ra.w.putObj l (.loop { rcOf fn tmps ps assign body D .ready none with state := .busy })).heap.size := by simp; omega
        have h2 := hIc.good.at_blk (b := d) hlt2 hTa' hFa'
        exact (World.putObj_heap_other hdl).trans ((h2.1.trans (World.putObj_heap_other hdl)).trans h1.1)
    · rcases Nat.lt_or_ge b R.w.heap.size with g | g
      · exact .inl (Classical.byContradiction fun hn => (hfar b g hn).2 hx)
      · exact .inr ⟨g, hIc.good.flt b hx⟩
    · obtain ⟨h1, h2, h3, _⟩ := hgw.turf hx
      rcases Nat.lt_or_ge b R.w.heap.size with g | g
      · refine .inl (hturf b g ?_)
        rcases hx with hx | ⟨id, e, k, v, ht, hv⟩
        · exact .inl (List.mem_of_mem_take hx)
        · obtain ⟨i, _, hi⟩ := srcT_block (R := R) ht hv
          exact .inr ⟨i, e, k, v, hi, hv⟩
      · exact .inr ⟨g, by simpa using h3⟩
  cases e with
  | normal =>
    obtain ⟨hs, hw⟩ := hq3
    obtain ⟨hrun, R', hR', hf, Lk', Fo', hbt⟩ := fin none (I (k + 1)) (hIm _ (by omega)) hw
    refine ⟨_, _, hrun, ?_, R', hR', hf, .inl ⟨fun j hj => ?_, Lk', Fo', hbt⟩⟩
    · show Ending.returned (.bool true) = .returned (.bool (!st k))
      rw [hs]; rfl
    · rcases Nat.lt_or_ge j k with g | g
      · exact hst j g
      · rw [show j = k by omega]; exact hs
  | ret =>
    obtain ⟨hs, σ', hm', hw, hQ⟩ := hq3
    obtain ⟨hrun, R', hR', hf, Lk', Fo', hbt⟩ := fin (some .ret) σ' hm' hw
    refine ⟨_, _, hrun, ?_, R', hR', hf, .inr ⟨by omega, hs, .ret, _, σ', rfl, hQ, Lk', Fo', hbt⟩⟩
    show Ending.returned (.bool false) = .returned (.bool (!st k))
    rw [hs]; rfl
  | exit id =>
    obtain ⟨hs, σ', hm', hw, hQ⟩ := hq3
    obtain ⟨hrun, R', hR', hf, Lk', Fo', hbt⟩ := fin (some (.exit id)) σ' hm' hw
    refine ⟨_, _, hrun, ?_, R', hR', hf, .inr ⟨by omega, hs, .exit id, _, σ', rfl, hQ, Lk', Fo', hbt⟩⟩
    show Ending.returned (.bool false) = .returned (.bool (!st k))
    rw [hs]; rfl
  | goto t =>
    obtain ⟨hs, σ', hm', hw, hQ⟩ := hq3
    obtain ⟨hrun, R', hR', hf, Lk', Fo', hbt⟩ := fin (some (.goto t)) σ' hm' hw
    refine ⟨_, _, hrun, ?_, R', hR', hf, .inr ⟨by omega, hs, .goto t, _, σ', rfl, hQ, Lk', Fo', hbt⟩⟩
    show Ending.returned (.bool false) = .returned (.bool (!st k))
    rw [hs]; rfl
  | panic ch => exact hq3.elim
  | outgrown => exact hq3.elim
theorem range_sound {r : Option Nat} {n p : Nat} {f : Operand} {ps : Array Tmp} {assign body : Code} {Q : Exit → St → Prop} {A B : Nat → (Exit → St → Prop) → St → Prop} {w : World}
    (hsA : ∀ (E' : Ctx) (m l : Nat) (Q' : Exit → St → Prop) (σ' : St) (a' : Act) (w' : World), E'.N = E.N → E'.β0.length ≤ m → E'.J = E.J → RndOk (some l) E' → A m Q' σ' → Inv G E' σ' a' w' → assign.wpIn (Fl (some l)) 0 P (outK G E' Q') a' w')
    (hsB : ∀ (E' : Ctx) (m l : Nat) (Q' : Exit → St → Prop) (σ' : St) (a' : Act) (w' : World), E'.N = E.N → E'.β0.length ≤ m → E'.J = E.J → RndOk (some l) E' → B m Q' σ' → Inv G E' σ' a' w' → body.wpIn (Fl (some l)) 0 P (outK G E' Q') a' w')
    (hps : ∀ p ∈ ps.toList, p < E.N) (hp : E.β0.length ≤ p) (hr : RndOk r E) (hA : ARange P G p A B Q ps.toList (evOf G σ.tm f) σ) (hI : Inv G E σ a w) : (Code.rangeFunc f ps assign body).wpIn (Fl r) n P (outK G E Q) a w := by
  obtain ⟨R, L, rfl, hI⟩ := hI
  unfold ARange at hA
  split at hA <;> try exact hA.elim
  rename_i gf first cap hev
  obtain ⟨items, st, m, I, hpm, hmb, hit, hlen, hIm, hw0, hbody, hdone⟩ := hA
  have hcl := hI.ev f
  rw [hev, rep_clo] at hcl
  obtain ⟨fs, cs, hfv, hfs, hcs⟩ := hcl
  refine wpIn_rangeFunc ?_
  intro fn hfn
  obtain ⟨l, dl, W, D, hrun, hbl, hlR, hrec, hnd, hds⟩ := enter_loop hr hI.good fn a.tmps ps assign body
  have hg := hI.good
  let R1 : Env := ⟨W, R.M, R.F⟩
  have hnear : Nigh E.w0 E.ex R R1 := ⟨hbl.os, hbl.tape, hbl.output, hbl.size, rfl, Ext.of_below hbl fun _ _ _ => Iff.rfl, fun b hb => .inl ⟨hbl.block b hb, fun _ => Iff.rfl⟩⟩
  have hg1 : Good G E σ R1 L := hg.stay hnear fun b hb => ⟨hbl.block b (hg.turf hb).2.2.1, fun _ => Iff.rfl⟩
  obtain ⟨src, _, hgw⟩ := Good.weak (p := m) (σ := ⟨[], σ.bx, σ.nx, σ.lg⟩) (σ' := (I 0).wt []) (by omega) hw0 (hg1.wt [])
  have hm0 : (I 0).bx.length = m := hIm 0 (Nat.zero_le _)
  have hm0' : ((I 0).wt []).bx.length = m := hm0
  have hdf1 : DfOk E (dl.map markOf ++ a.defers) R1 := by
    obtain ⟨l0, e0, hn0, h0⟩ := hI.df
    refine ⟨dl ++ l0, by rw [List.map_append, e0, List.append_assoc], ?_, fun d hd => ?_⟩
    · rw [List.nodup_append]
      refine ⟨hnd, hn0, fun x hx y hy e => ?_⟩
      subst e
      have := (hds x hx).1
      have := heap_lt (h0 x hy).1
      omega
    · rcases List.mem_append.1 hd with hd | hd
      · obtain ⟨h1, _, h3⟩ := hds d hd
        exact ⟨h3, Nat.le_trans hg.size h1, fun hF => by have := hg.flt d hF; omega⟩
      · obtain ⟨h1, h2, h3⟩ := h0 d hd
        exact ⟨(hbl.block d (heap_lt h1)).trans h1, h2, h3⟩
  have hlE : E.w0.heap.size ≤ l := Nat.le_trans hg.size hlR
  have hFl : ¬ R.F l := fun hF => by have := hg.flt l hF; omega
  let Rp : Env := ⟨W, R.M, fun b => R.F b ∨ Turf (lessLoc src m L) b ∨ b = l ∨ Mk E (dl.map markOf ++ a.defers) b⟩
  have hturfLt : ∀ b, Turf (lessLoc src m L) b → b < R.w.heap.size ∧ Turf L b := fun b hb => by
    have : Turf L b := by
      rcases hb with hb | ⟨id, e, k, v, ht, hv⟩
      · exact .inl (List.mem_of_mem_take hb)
      · obtain ⟨i, _, hi⟩ := srcT_block (R := R) ht hv
        exact .inr ⟨i, e, k, v, hi, hv⟩
    exact ⟨(hg.turf this).2.2.1, this⟩
  have hbt : Between G E R1 (L.β.take m) l (dl.map markOf ++ a.defers) (I 0) Rp (.loop (rcOf fn a.tmps ps assign body D .ready none)) (lessLoc src m L) R.F := by
    rw [hm0'] at hgw
    refine ⟨⟨fun b o v h1 h2 => ⟨h1, h2⟩⟩, rfl, { hgw with }, hdf1.stay2 (fun _ _ => Iff.rfl) (fun _ _ _ => rfl), hrec, hFl, fun b hb => .inl hb, fun b hb => .inr (.inl hb), .inr (.inr (.inl rfl)), fun d hd => .inr (.inr (.inr hd))⟩
  have hround := round_ok (G := G) (E := E) (P := P) (R1 := R1) (L1 := L) (tm0 := σ.tm) (ds := dl.map markOf ++ a.defers) (D := D) (fn := fn) (tmps := a.tmps) (fun E' => hsA E' m l) (fun E' => hsB E' m l) hlE hps hI.size (fun t => Rep.ext hnear.ext (LocLe.refl _) _ _ (hI.tm t)) hlen hIm hbody
  have hEw : E.w0.heap.size ≤ W.heap.size := Nat.le_trans hg.size hbl.size
  have hnodup := hg.fit.boxes.nodup
  have hblen := hg.fit.boxes.len
  have htake : ∀ b ∈ L.β.drop m, b ∉ L.β.take m := fun b hb hb' => by
    have h := hnodup
    rw [← List.take_append_drop m L.β, List.nodup_append] at h
    exact h.2.2 b hb' b hb rfl
  have hdropF : ∀ b ∈ L.β.drop m, ¬ Rp.F b := fun b hb hF => by
    have hbL : b ∈ L.β := List.mem_of_mem_drop hb
    obtain ⟨_, t2, t3, cs', t, f', hc⟩ := hg.turf (.inl hbL)
    rcases hF with hF | hF | hF | hF
    · exact t2 hF
    · rcases hF with hF | ⟨id, e, k, v, ht, hv⟩
      · exact htake b hb hF
      · obtain ⟨i, _, hi⟩ := srcT_block (R := R) ht hv
        exact ((hg.fit.owns.own i e k v hi).block hv).2.2 hbL
    · omega
    · have := (hdf1.mk hF).1
      have hc1 : W.heap[b]? = some (.cells cs' t f') := (hbl.block b t3).trans hc
      have : W.heap[b]? = some (.deferred (some [])) := this
      rw [hc1] at this; cases this
  have hfl : ∀ b, Rp.F b → b < Rp.w.heap.size := fun b hF => by
    rcases hF with hF | hF | hF | hF
    · exact Nat.lt_of_lt_of_le (hg.flt b hF) hbl.size
    · exact Nat.lt_of_lt_of_le (hturfLt b hF).1 hbl.size
    · rw [hF]; exact heap_lt hrec
    · exact heap_lt (hdf1.mk hF).1
  have hb1 := hg1.fit.boxes
  have hdropR : ∀ i j b, fpDrop m i = some j → L.β[i]? = some b → (L.β.drop m)[j]? = some b := fun i j b hij hb => by
    unfold fpDrop at hij
    split at hij
    · cases hij
    · cases hij
      rw [List.getElem?_drop, show m + (i - m) = i by omega]; exact hb
  have hsel : ∀ cs vs, RepL R L cs vs → RepL Rp ⟨L.β.drop m, fun _ => none⟩ (C.selL (fpDrop m) cs) vs := fun cs vs h => RepL.sel (R' := Rp) (L' := ⟨L.β.drop m, fun _ => none⟩) ⟨hnear.ext.cell⟩ hdropR _ _ h
  have hsel1 : ∀ cs vs, RepL R1 L cs vs → RepL Rp ⟨L.β.drop m, fun _ => none⟩ (C.selL (fpDrop m) cs) vs := fun cs vs h => RepL.sel (R := R1) (R' := Rp) (L' := ⟨L.β.drop m, fun _ => none⟩) ⟨fun b o v h1 h2 => ⟨h1, h2⟩⟩ hdropR _ _ h
  have hcall := hit.2 l st _ Rp ⟨L.β.drop m, fun _ => none⟩ fs.toList cs.toList (hg.fit.glob.ext ⟨hnear.ext.cell⟩)
    ⟨by simp [hblen], hnodup.sublist (List.drop_sublist _ _), fun i b cs' hi hc => by
      have hi' : L.β[m + i]? = some b := by rw [← List.getElem?_drop]; exact hi
      rw [List.getElem?_map, List.getElem?_drop] at hc
      cases hq : σ.bx[m + i]? with
      | none => rw [hq] at hc; cases hc
      | some c0 =>
        rw [hq] at hc; cases hc
        obtain ⟨vs, ty, e1, e2, e3, e4⟩ := hb1.box (m + i) b c0 hi' hq
        exact ⟨vs, ty, e1, hsel1 _ _ e2, e3, e4⟩⟩
    (fun _ => rfl) hfl hdropF (JC.stab (E := E) (w1 := W) (ex := fun b => b ∈ L.β.drop m) hEw fun b hb => hg.tubx b (List.mem_of_mem_drop hb)) hround (.inl ⟨fun j hj => by omega, _, _, hbt⟩) (hsel _ _ hfs) (hsel _ _ hcs)
  refine ⟨l, dl.map markOf, W, { target := .fn (.func gf) cs, args := fs ++ #[.func (.yield l) #[] #[]] }, W, gf, (fs.toList ++ [Value.func (.yield l) #[] #[]] ++ cs.toList).toArray, W, hrun, ?_, fun _ _ => trivial, ?_, fun hx => by simp at hx, ?_⟩
  · simp only [resolve, hfv]
    simp [Deferred.ofValue, Act.eval]
  · simp only [invoke]
    rw [run_enter hit.1]
    congr 2
    apply Array.ext'
    simp
  · refine (callsIn_fl (r := r) (n := n - 1) hcall).mono ?_
    rintro e w' ⟨v, Re, k, rfl, rfl, hJ, hEnd⟩
    have wrap : ∀ (σ' : St) (o : Obj) (Lk : Loc) (Fo : Nat → Prop) (o' : Obj), (∀ cs t f, o ≠ .cells cs t f) → Between G E R1 (L.β.take m) l (dl.map markOf ++ a.defers) σ' Re o Lk Fo → Inv G E (σ'.wt (tlTm m σ.tm)) { a with defers := dl.map markOf ++ a.defers } (Re.w.putObj l o') := fun σ' o Lk Fo o' ho hb => by
      have hnT : ¬ Turf Lk l := fun hT => by
        obtain ⟨_, _, _, cs, t, f, hc⟩ := hb.good.turf hT
        have hc : Re.w.heap[l]? = some (.cells cs t f) := hc
        rw [hb.rcd] at hc; cases hc; exact ho _ _ _ rfl
      have hni := nigh_putObj (E := E) (R := Env.mk Re.w Re.M Fo) (o := o') (.inl hlE) hb.fl (fun cs t f hc => by
        have hc : Re.w.heap[l]? = some (.cells cs t f) := hc
        rw [hb.rcd] at hc; cases hc; exact ho _ _ _ rfl)
      refine ⟨_, Lk, rfl, (hb.good.stay hni fun b hbT => ⟨World.putObj_heap_other fun e => hnT (e ▸ hbT), fun _ => Iff.rfl⟩).wt _, hI.size, hb.df.stay2 (fun _ _ => Iff.rfl) fun d hd hh => World.putObj_heap_other fun e => ?_, fun t => ?_⟩
      · subst e
        have hh : Re.w.heap[d]? = some (.deferred (some [])) := hh
        rw [hb.rcd] at hh
        cases hh
        have := (hdf1.mk hd).1
        have : W.heap[d]? = some (.deferred (some [])) := this
        rw [hrec] at this; cases this
      · show Rep _ _ (getC (tlTm m σ.tm) t) _
        rw [getC_tl]
        refine Rep.sel (R := R) (L := L) ⟨fun b o v h1 h2 => ?_⟩ (fun i j b hij hb1 => ?_) _ _ (hI.tm t)
        · obtain ⟨g1, g2⟩ := hnear.ext.cell b o v h1 h2
          obtain ⟨k1, k2⟩ := hb.ext.cell b o v g1 g2
          exact hni.ext.cell b o v k1 k2
        · unfold fpKeep at hij
          split at hij
          · cases hij
            rw [hb.β, List.getElem?_take, if_pos (by assumption)]; exact hb1
          · cases hij
    rcases hJ with ⟨hns, Lk, Fo, hb⟩ | ⟨hk0, hk1, e, jc, σ', hj, hQ, Lk, Fo, hb⟩
    · have hk : k = items.length := by
        rcases hEnd with ⟨g, _⟩ | ⟨g1, g2⟩
        · exact g
        · have := hns (k - 1) (by omega)
          rw [g2] at this; cases this
      subst hk
      exact ⟨none, _, run_endLoop hb.rcd (by simp), _, hdone hns, wrap _ _ _ _ _ (fun cs t f h => by cases h) hb⟩
    · have hinv := wrap σ' _ Lk Fo (.loop { rcOf fn a.tmps ps assign body D .done (some jc) with state := .exhausted }) (fun cs t f h => by cases h) hb
      refine ⟨some jc, _, run_endLoop hb.rcd (by simp), ?_⟩
      cases e with
      | ret => cases hj; exact wpIn_ret ⟨_, hQ, hinv⟩
      | exit id => cases hj; exact wpIn_exit ⟨_, hQ, hinv⟩
      | goto t => cases hj; exact wpIn_goto ⟨_, hQ, hinv⟩
      | normal => cases hj
      | panic ch => cases hj
      | outgrown => cases hj
end
end Go.Proofs.Ytheokoehnmlafaa.Vcg
