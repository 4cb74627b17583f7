/- Calls of functions that are handed boxes and owners: their contract, and what the caller is left with. No condition. -/
import Derived.Test.YtheokoehnmlafaaVcg12
set_option linter.unusedVariables false
set_option linter.unusedSimpArgs false
namespace Go.Proofs.Ytheokoehnmlafaa.Vcg
open Go.RowKit
/-- the blocks of a walk's own -/
def Turf (L : Loc) (b : Nat) : Prop := b ∈ L.β ∨ ∃ id e k v, L.T id = some (e, k, v) ∧ v.ownBlock = some b
mutual
/-- boxes and owners under other names -/
def C.re (fp fo : Nat → Option Nat) : C → C
  | .own id e k rows => match fo id with
    | some j => .own j e k rows
    | none => .sl k rows
  | .ptr i off => match fp i with
    | some j => .ptr j off
    | none => .any
  | .bs i off k n c => match fp i with
    | some j => .bs j off k n c
    | none => .any
  | .agg cs => .agg (C.reL fp fo cs)
  | .tup cs => .tup (C.reL fp fo cs)
  | .clo fn first cap => .clo fn (C.reL fp fo first) (C.reL fp fo cap)
  | .sc v => .sc v
  | .str l => .str l
  | .sl k rows => .sl k rows
  | .tight k rows => .tight k rows
  | .row cs => .row cs
  | .any => .any
def C.reL (fp fo : Nat → Option Nat) : List C → List C
  | [] => []
  | c :: r => c.re fp fo :: C.reL fp fo r
end
section
variable {fp fo : Nat → Option Nat} {R R' : Env} {L L' : Loc}
mutual
theorem Rep.re (he : Ext R R') (hb : ∀ i j b, fp i = some j → L.β[i]? = some b → L'.β[j]? = some b) (ho : ∀ i j x, fo i = some j → L.T i = some x → L'.T j = some x) : ∀ (c : C) (v : Value), Rep R L c v → Rep R' L' (c.re fp fo) v
  | .sc _, _, h => by unfold C.re; unfold Rep at h ⊢; exact h
  | .str _, _, h => by unfold C.re; unfold Rep at h ⊢; exact h
  | .agg cs, _, h => by
    unfold C.re; unfold Rep at h ⊢
    obtain ⟨vs, e, hl⟩ := h
    exact ⟨vs, e, RepL.re he hb ho cs _ hl⟩
  | .tup cs, _, h => by
    unfold C.re; unfold Rep at h ⊢
    obtain ⟨vs, e, hl⟩ := h
    exact ⟨vs, e, RepL.re he hb ho cs _ hl⟩
  | .sl k rows, v, h => by
    unfold C.re
    exact Rep.ext he (LocLe.none L') (.sl k rows) v (T := noLoc) (by unfold Rep at h ⊢; exact h)
  | .tight k rows, v, h => by
    unfold C.re
    exact Rep.ext he (LocLe.none L') (.tight k rows) v (T := noLoc) (by unfold Rep at h ⊢; exact h)
  | .own id e k rows, v, h => by
    unfold C.re
    have h2 := Rep.ext he (LocLe.none L') (.sl k rows) v (T := noLoc) (by unfold Rep at h ⊢; exact h.2)
    split
    · rename_i j hj
      unfold Rep at h h2 ⊢
      exact ⟨ho _ _ _ hj h.1, h2⟩
    · exact h2
  | .ptr i off, _, h => by
    unfold C.re; unfold Rep at h
    split
    · rename_i j hj
      obtain ⟨b, e, h⟩ := h
      unfold Rep
      exact ⟨b, hb _ _ _ hj e, h⟩
    · unfold Rep; trivial
  | .bs i off k n c, _, h => by
    unfold C.re; unfold Rep at h
    split
    · rename_i j hj
      obtain ⟨b, e, h⟩ := h
      unfold Rep
      exact ⟨b, hb _ _ _ hj e, h⟩
    · unfold Rep; trivial
  | .row cs, v, h => by
    unfold C.re
    exact Rep.ext he (LocLe.none L') (.row cs) v (T := noLoc) (by unfold Rep at h ⊢; exact h)
  | .clo fn first cap, _, h => by
    unfold C.re; unfold Rep at h ⊢
    obtain ⟨fs, cs, e, h1, h2⟩ := h
    exact ⟨fs, cs, e, RepL.re he hb ho first _ h1, RepL.re he hb ho cap _ h2⟩
  | .any, _, _ => by unfold C.re; unfold Rep; trivial
theorem RepL.re (he : Ext R R') (hb : ∀ i j b, fp i = some j → L.β[i]? = some b → L'.β[j]? = some b) (ho : ∀ i j x, fo i = some j → L.T i = some x → L'.T j = some x) : ∀ (cs : List C) (vs : List Value), RepL R L cs vs → RepL R' L' (C.reL fp fo cs) vs
  | [], _, h => by unfold C.reL; rw [repL_nil] at h ⊢; exact h
  | c :: r, _, h => by
    unfold C.reL; rw [repL_cons] at h ⊢
    obtain ⟨v, us, e, h1, h2⟩ := h
    exact ⟨v, us, e, Rep.re he hb ho c v h1, RepL.re he hb ho r us h2⟩
end
end
/-- a function's contract, where it is handed boxes and owners: what it answers is one of those told of -/
def FunX (P : Program) (G : Globs) (f : FuncId) (args : List C) (bx : List (List C)) (q : Nat) (post : C → List (List C) → Nat → Prop) : Prop :=
  entersB P f = true ∧ ∀ (R : Env) (L : Loc) (vs : List Value), GlobOk G R → BoxesOk R L bx → OwnsOk (fun _ => True) R L → (∀ id, q ≤ id → L.T id = none) → (∀ b, R.F b → b < R.w.heap.size) → (∀ b, Turf L b → ¬ R.F b) → RepL R L args vs →
    Calls P f vs.toArray R.w fun e w' => ∃ r bx' n, (post r bx' n ∧ bx.length ≤ bx'.length) ∧ ∃ v R' L', e = .returned v ∧ R'.w = w' ∧ Near R.w (Turf L) R R' ∧ BoxesOk R' L' bx' ∧ OwnsOk (fun g => R.w.heap.size ≤ g ∨ Turf L g) R' L' ∧ (∃ more, L'.β = L.β ++ more ∧ ∀ b ∈ more, R.w.heap.size ≤ b) ∧ (∀ id, n ≤ id → L'.T id = none) ∧ Rep R' L' r v
theorem FunX.bySlice {P : Program} {G : Globs} {f : FuncId} {k : Nat} {rows : List (List C)} {rest : List C} {bx : List (List C)} {q : Nat} {post : C → List (List C) → Nat → Prop} (h1 : rows ≠ [] → FunX P G f (.sl k rows :: rest) bx q post)
    (h2 : rows = [] → ∀ a cap, (∀ k, C.rows? k (.sc (.slice a 0 cap)) = some []) → FunX P G f (.sc (.slice a 0 cap) :: rest) bx q post) : FunX P G f (.sl k rows :: rest) bx q post := by
  by_cases h : rows = []
  · have hn := h2 h none 0 (fun k => rfl)
    refine ⟨hn.1, fun R L vs a1 a2 a3 a4 a5 a6 hv => ?_⟩
    obtain ⟨v, us, rfl, hv, hus⟩ := repL_cons.1 hv
    unfold Rep at hv
    obtain ⟨a, cap, e, _, hc, _⟩ := hv
    rw [h] at e
    refine (h2 h a cap (fun k => ?_)).2 R L _ a1 a2 a3 a4 a5 a6 (repL_cons.2 ⟨v, us, rfl, rep_sc.2 e, hus⟩)
    cases a with
    | none => cases cap with
      | zero => rfl
      | succ c => simp [C.rows?, hc]
    | some a => simp [C.rows?, hc]
  · exact h1 h
/-- the same, where it is known what is answered -/
def FunB (P : Program) (G : Globs) (f : FuncId) (args : List C) (bx : List (List C)) (q : Nat) (r : C) (bx' : List (List C)) (n : Nat) : Prop :=
  FunX P G f args bx q fun r' b' n' => r' = r ∧ b' = bx' ∧ n' = n
/-- the place of a name in a list -/
def ixOf : List Nat → Nat → Option Nat
  | [], _ => none
  | x :: r, i => if i = x then some 0 else (ixOf r i).map (· + 1)
theorem ixOf_get : ∀ (l : List Nat) (i j : Nat), ixOf l i = some j → l[j]? = some i
  | [], i, j, h => by simp [ixOf] at h
  | x :: r, i, j, h => by
    unfold ixOf at h
    split at h
    · cases h; subst_vars; rfl
    · cases hq : ixOf r i with
      | none => rw [hq] at h; cases h
      | some k =>
        rw [hq] at h
        cases h
        simpa using ixOf_get r i k hq
/-- the caller's names for what is handed back -/
def upB (ι : List Nat) (m j : Nat) : Option Nat := match ι[j]? with | some i => some i | none => some (m + (j - ι.length))
def upO (nx j : Nat) : Option Nat := some (nx + j)
/-- what is not handed over -/
def keepO (κ : List Nat) (i : Nat) : Option Nat := if i ∈ κ then none else some i
def reTm (fp fo : Nat → Option Nat) : List (Nat × C) → List (Nat × C)
  | [] => []
  | (t, c) :: r => (t, c.re fp fo) :: reTm fp fo r
theorem getC_re (fp fo : Nat → Option Nat) : ∀ (tm : List (Nat × C)) (t : Nat), getC (reTm fp fo tm) t = (getC tm t).re fp fo
  | [], t => by simp only [reTm, getC]; unfold C.re; rfl
  | (u, c) :: r, t => by
    simp only [reTm, getC]
    split
    · rfl
    · exact getC_re fp fo r t
def reBx (fp fo : Nat → Option Nat) : List (List C) → List (List C)
  | [] => []
  | cs :: r => C.reL fp fo cs :: reBx fp fo r
theorem reBx_get (fp fo : Nat → Option Nat) : ∀ (bx : List (List C)) (i : Nat), (reBx fp fo bx)[i]? = (bx[i]?).map (C.reL fp fo)
  | [], i => by simp [reBx]
  | c :: r, 0 => by simp [reBx]
  | c :: r, i + 1 => by simp [reBx, reBx_get fp fo r i]
theorem reBx_length (fp fo : Nat → Option Nat) : ∀ bx : List (List C), (reBx fp fo bx).length = bx.length
  | [] => rfl
  | c :: r => by simp [reBx, reBx_length fp fo r]
def putBx : List Nat → List (List C) → List (List C) → List (List C)
  | i :: ι, cs :: r, bx => putBx ι r (bx.set i cs)
  | _, _, bx => bx
theorem putBx_length : ∀ (ι : List Nat) (l bx : List (List C)), (putBx ι l bx).length = bx.length
  | [], _, _ => rfl
  | i :: ι, [], _ => rfl
  | i :: ι, c :: r, bx => by simp [putBx, putBx_length ι r]
theorem putBx_other : ∀ (ι : List Nat) (l bx : List (List C)) (i : Nat), i ∉ ι → (putBx ι l bx)[i]? = bx[i]?
  | [], _, _, i, _ => rfl
  | x :: ι, [], _, i, _ => rfl
  | x :: ι, c :: r, bx, i, h => by
    simp only [putBx]
    rw [putBx_other ι r _ i (fun h' => h (List.mem_cons_of_mem _ h')), List.getElem?_set_ne (fun e : x = i => h (by rw [e]; exact List.mem_cons_self))]
theorem putBx_get : ∀ (ι : List Nat) (l bx : List (List C)) (i j : Nat) (cs : List C), ι.Nodup → ι[j]? = some i → l[j]? = some cs → i < bx.length → (putBx ι l bx)[i]? = some cs
  | [], _, _, i, j, cs, _, h, _, _ => by simp at h
  | x :: ι, [], _, i, j, cs, _, _, h, _ => by simp at h
  | x :: ι, c :: r, bx, i, 0, cs, hn, h1, h2, h3 => by
    simp at h1 h2; subst h1 h2
    simp only [putBx]
    rw [putBx_other ι r _ x (List.nodup_cons.1 hn).1, List.getElem?_set_self h3]
  | x :: ι, c :: r, bx, i, j + 1, cs, hn, h1, h2, h3 => by
    simp only [putBx]
    exact putBx_get ι r _ i j cs (List.nodup_cons.1 hn).2 (by simpa using h1) (by simpa using h2) (by simpa using h3)
def afterB (ι κ : List Nat) (bx' : List (List C)) (n : Nat) (σ : St) : St :=
  ⟨reTm some (keepO κ) σ.tm, putBx ι (reBx (upB ι σ.bx.length) (upO σ.nx) bx') (reBx some (keepO κ) σ.bx) ++ reBx (upB ι σ.bx.length) (upO σ.nx) (bx'.drop ι.length), σ.nx + n, σ.lg⟩
def aCallX0 (P : Program) (G : Globs) (f : FuncId) (args : List C) (σ : St) (K : C → St → Prop) : Prop :=
  ∃ (ι κ : List Nat) (post : C → List (List C) → Nat → Prop), ι.Nodup ∧ κ.Nodup ∧ (∀ i ∈ ι, i < σ.bx.length) ∧
    FunX P G f (C.reL (ixOf ι) (ixOf κ) args) (ι.map fun i => C.reL (ixOf ι) (ixOf κ) (σ.bx.getD i [])) κ.length post ∧ ∀ r bx' n, post r bx' n → K (r.re (upB ι σ.bx.length) (upO σ.nx)) (afterB ι κ bx' n σ)
def aCallB0 (P : Program) (G : Globs) (f : FuncId) (args : List C) (σ : St) (K : C → St → Prop) : Prop :=
  ∃ (ι κ : List Nat) (r : C) (bx' : List (List C)) (n : Nat), ι.Nodup ∧ κ.Nodup ∧ (∀ i ∈ ι, i < σ.bx.length) ∧
    FunB P G f (C.reL (ixOf ι) (ixOf κ) args) (ι.map fun i => C.reL (ixOf ι) (ixOf κ) (σ.bx.getD i [])) κ.length r bx' n ∧ K (r.re (upB ι σ.bx.length) (upO σ.nx)) (afterB ι κ bx' n σ)
section
variable {P : Program} {G : Globs} {E : Ctx} {σ σ' : St} {o : Oper} {a : Act} {R R' : Env} {L L' : Loc}
theorem Good.turf (h : Good G E σ R L) {b : Nat} (hb : Turf L b) : E.tu b ∧ ¬ R.F b ∧ b < R.w.heap.size ∧ ∃ cs t f, R.w.heap[b]? = some (.cells cs t f) := by
  rcases hb with hb | ⟨id, e, k, v, ht, hv⟩
  · obtain ⟨i, hi, rfl⟩ := List.getElem_of_mem hb
    have hl := h.fit.boxes.len
    obtain ⟨vs, ty, g, _⟩ := h.fit.boxes.box i L.β[i] (σ.bx[i]'(by omega)) (List.getElem?_eq_getElem hi) (List.getElem?_eq_getElem (by omega))
    exact ⟨h.tubx _ hb, h.fbx _ hb, heap_lt g, _, _, _, g⟩
  · have ho := h.fit.owns.own id e k v ht
    have hf := h.fow id e k v b ht hv
    rcases ho with g | ⟨g, n, cap, cur, _, q1, q2, q3, q⟩
    · subst g; cases hv
    · subst q1; cases hv
      exact ⟨q2, hf, heap_lt q3, _, _, _, q3⟩

theorem callX_after {c : Call} {f : Operand} (ho : o.op = .call c) (hc : c.callee = .value f) {fid : FuncId} {first cap : List C} (hev : evOf G σ.tm f = .clo (.func fid) first cap) {K : C → St → Prop} (h : InvV G E σ a R L)
    (hK : aCallX0 P G fid (first ++ c.args.toList.map (evOf G σ.tm) ++ cap) σ K) : Runs P o a.eval R.w (After G E a K) := by
  obtain ⟨ι, κ, post, hι, hκ, hιb, ⟨hent, hfun⟩, hK⟩ := hK
  have hg := h.good
  have hbl := hg.fit.boxes.len
  have hnd := hg.fit.boxes.nodup
  let g : Nat → Nat := fun i => L.β.getD i 0
  have hgv : ∀ i, i < σ.bx.length → L.β[i]? = some (g i) := fun i hi => by
    simp only [g, List.getD_eq_getElem?_getD]
    rw [List.getElem?_eq_getElem (by omega)]; rfl
  have hginj : ∀ i j, i < σ.bx.length → j < σ.bx.length → g i = g j → i = j := fun i j hi hj e => by
    have h1 := hgv i hi
    have h2 := hgv j hj
    rw [e, ← h2] at h1
    exact (List.getElem?_inj (by omega) hnd).1 h1
  let Lf : Loc := ⟨ι.map g, fun j => (κ[j]?).bind L.T⟩
  have hfβ : ∀ j b, (ι.map g)[j]? = some b → ∃ i, ι[j]? = some i ∧ i < σ.bx.length ∧ L.β[i]? = some b := fun j b hj => by
    rw [List.getElem?_map] at hj
    cases hq : ι[j]? with
    | none => rw [hq] at hj; cases hj
    | some i =>
      rw [hq] at hj; cases hj
      have hi := hιb i (List.mem_of_getElem? hq)
      exact ⟨i, hq, hi, hgv i hi⟩
  have hre : ∀ cs vs, RepL R L cs vs → RepL R Lf (C.reL (ixOf ι) (ixOf κ) cs) vs := fun cs vs hr => RepL.re (Ext.refl R) (fun i j b hij hb => by
      have := ixOf_get ι i j hij
      show (ι.map g)[j]? = some b
      rw [List.getElem?_map, this]
      have hi := hιb i (List.mem_of_getElem? this)
      rw [← hb, hgv i hi]; rfl) (fun i j x hij hx => by
      have := ixOf_get κ i j hij
      show (κ[j]?).bind L.T = some x
      rw [this]; exact hx) _ _ hr
  have hTf : ∀ j x, Lf.T j = some x → ∃ id, κ[j]? = some id ∧ L.T id = some x := fun j x hj => by
    have hj : (κ[j]?).bind L.T = some x := hj
    cases hq : κ[j]? with
    | none => rw [hq] at hj; cases hj
    | some id => rw [hq] at hj; exact ⟨id, rfl, hj⟩
  have hturf : ∀ b, Turf Lf b → Turf L b := fun b hb => by
    rcases hb with hb | ⟨id, e, k, v, ht, hv⟩
    · obtain ⟨j, hj, rfl⟩ := List.getElem_of_mem hb
      obtain ⟨i, _, _, hi⟩ := hfβ j _ (List.getElem?_eq_getElem hj)
      exact .inl (List.mem_of_getElem? hi)
    · obtain ⟨id', _, ht'⟩ := hTf id _ ht
      exact .inr ⟨id', e, k, v, ht', hv⟩
  have hownOld : ∀ id e k v b, L.T id = some (e, k, v) → v.ownBlock = some b → E.tu b ∧ b < R.w.heap.size ∧ b ∉ L.β := fun id e k v b ht hv => (hg.fit.owns.own id e k v ht).block hv
  have hf := h.ev f
  rw [hev, rep_clo] at hf
  obtain ⟨fs, cs, e1, h1, h2⟩ := hf
  have hargs := hre _ _ (repL_append (repL_append h1 (repL_map h.ev c.args.toList)) h2)
  have hκinj : ∀ (i j x : Nat), κ[i]? = some x → κ[j]? = some x → i = j := fun i j x hi hj => (List.getElem?_inj (List.getElem?_eq_some_iff.1 hi).1 hκ).1 (hi.trans hj.symm)
  have hcall := hfun R Lf _ hg.fit.glob ⟨by simp [Lf], by
      show (ι.map g).Nodup
      rw [List.Nodup, List.pairwise_map]
      exact hι.imp_of_mem fun {i j} hi hj hne e => hne (hginj i j (hιb i hi) (hιb j hj) e), fun j b cs' hj hc' => by
      obtain ⟨i, hi, hib, hib'⟩ := hfβ j b hj
      rw [List.getElem?_map, hi] at hc'
      have hbx : σ.bx[i]? = some (σ.bx.getD i []) := by rw [List.getD_eq_getElem?_getD, List.getElem?_eq_getElem hib]; rfl
      cases hc'
      obtain ⟨vs, ty, q1, q2, q3, q4⟩ := hg.fit.boxes.box i b _ hib' hbx
      exact ⟨vs, ty, q1, hre _ _ q2, q3, q4⟩⟩
    ⟨fun j e k v hj => by
      obtain ⟨id, _, hid⟩ := hTf j _ hj
      rcases hg.fit.owns.own id e k v hid with q | ⟨gg, n', cap', cur, _, q1, q2, q3, q4, q5, q6, q7, q8⟩
      · exact .inl q
      · refine .inr ⟨gg, n', cap', cur, _, q1, trivial, q3, q4, q5, q6, fun hx => q7 ?_, q8⟩
        have hx : gg ∈ ι.map g := hx
        obtain ⟨i, hi, rfl⟩ := List.mem_map.1 hx
        exact List.mem_of_getElem? (hgv i (hιb i hi)), fun i j e k v e' k' v' b hi hj hv hv' => by
      obtain ⟨x, hx, hx'⟩ := hTf i _ hi
      obtain ⟨y, hy, hy'⟩ := hTf j _ hj
      have := hg.fit.owns.apart x y e k v e' k' v' b hx' hy' hv hv'
      subst this
      exact hκinj i j x hx hy⟩ (fun id hid => by
      show (κ[id]?).bind L.T = none
      rw [List.getElem?_eq_none hid]; rfl) hg.flt (fun b hb => (hg.turf (hturf b hb)).2.1) hargs
  have hrun : (execOp a.eval o).run P R.w = .ok (.enter fid (fs.toList ++ c.args.toList.map a.eval ++ cs.toList).toArray) R.w := by
    unfold execOp
    simp only [ho, resolve, hc, e1]
    have e2 : (Deferred.ofValue (.func (.func fid) fs cs) (c.args.map a.eval)).run P R.w = .ok { target := .fn (.func fid) cs, args := fs ++ c.args.map a.eval } R.w := by
      simp [Deferred.ofValue]
    rw [Sem.run_bind, e2]
    simp only [Result.andThen_ok, invoke]
    rw [run_enter hent]
    congr 2
    apply Array.ext'
    simp
  unfold Runs
  rw [hrun]
  refine hcall.mono ?_
  rintro e w' ⟨r, bx', n, ⟨hpost, hlen⟩, v, R', L', rfl, rfl, hn, hbx', how', ⟨more, hm1, hm2⟩, hfree', hrep⟩
  have hK := hK r bx' n hpost
  have hm1 : L'.β = ι.map g ++ more := hm1
  have hιl : (ι.map g).length = ι.length := by simp
  have hmn := hbx'.nodup
  rw [hm1, List.nodup_append] at hmn
  have hnear : Near E.w0 E.ex R R' := ⟨hn.os, hn.tape, hn.output, hn.size, hn.fgn, hn.ext, fun b hb => (hn.blk b hb).imp id fun ⟨q1, q2, q3⟩ => ⟨by
    rcases q1 with q1 | q1
    · omega
    · exact (hg.turf (hturf b q1)).1, q2, q3⟩⟩
  have hsame : ∀ b, b < R.w.heap.size → ¬ Turf Lf b → R'.w.heap[b]? = R.w.heap[b]? ∧ ∀ o, (R'.M b o ↔ R.M b o) := fun b hb hT => by
    rcases hn.blk b hb with q | ⟨q, _⟩
    · exact q
    · rcases q with q | q
      · omega
      · exact absurd q hT
  let L2 : Loc := ⟨L.β ++ more, fun id => if σ.nx ≤ id ∧ id < σ.nx + n then L'.T (id - σ.nx) else if id ∈ κ then none else L.T id⟩
  have hnewT : ∀ j x, L'.T j = some x → L2.T (σ.nx + j) = some x := fun j x hj => by
    have hjn : j < n := by
      rcases Nat.lt_or_ge j n with q | q
      · exact q
      · rw [hfree' j q] at hj; cases hj
    show (if σ.nx ≤ σ.nx + j ∧ σ.nx + j < σ.nx + n then L'.T (σ.nx + j - σ.nx) else _) = some x
    rw [if_pos ⟨by omega, by omega⟩, Nat.add_sub_cancel_left]; exact hj
  have hup : ∀ cs vs, RepL R' L' cs vs → RepL R' L2 (C.reL (upB ι σ.bx.length) (upO σ.nx) cs) vs := fun cs vs hr => RepL.re (Ext.refl R') (fun j i b hji hb => by
      rw [hm1] at hb
      unfold upB at hji
      show (L.β ++ more)[i]? = some b
      split at hji
      · rename_i i' hi'
        cases hji
        have hjl : j < ι.length := (List.getElem?_eq_some_iff.1 hi').1
        rw [List.getElem?_append_left (by omega)] at hb
        obtain ⟨i2, hi2, hi2b, hb2⟩ := hfβ j b hb
        rw [hi'] at hi2; cases hi2
        rw [List.getElem?_append_left (by omega)]; exact hb2
      · rename_i hno
        cases hji
        have hjl : ι.length ≤ j := by
          rcases Nat.lt_or_ge j ι.length with q | q
          · rw [List.getElem?_eq_getElem q] at hno; cases hno
          · exact q
        rw [List.getElem?_append_right (by omega), hιl] at hb
        rw [List.getElem?_append_right (by omega), hbl, Nat.add_sub_cancel_left]; exact hb) (fun j i x hji hx => by
      unfold upO at hji
      cases hji
      exact hnewT j x hx) _ _ hr
  have hupC : Rep R' L2 (r.re (upB ι σ.bx.length) (upO σ.nx)) v := by
    have := hup [r] [v] (repL_cons.2 ⟨v, [], rfl, hrep, repL_nil.2 rfl⟩)
    unfold C.reL at this
    obtain ⟨v', us, q1, q2, _⟩ := repL_cons.1 this
    cases q1; exact q2
  have hkeep1 : ∀ (i j b : Nat), some i = some j → L.β[i]? = some b → L2.β[j]? = some b := fun i j b hij hb => by
    cases hij
    show (L.β ++ more)[i]? = some b
    rw [List.getElem?_append_left (List.getElem?_eq_some_iff.1 hb).1]; exact hb
  have hkeep2 : ∀ i j x, keepO κ i = some j → L.T i = some x → L2.T j = some x := fun i j x hij hx => by
    unfold keepO at hij
    split at hij
    · cases hij
    · rename_i hni
      cases hij
      have hlt : i < σ.nx := by
        rcases Nat.lt_or_ge i σ.nx with q | q
        · exact q
        · rw [hg.free i q] at hx; cases hx
      show (if _ then _ else if i ∈ κ then none else L.T i) = some x
      rw [if_neg (by omega), if_neg hni]; exact hx
  have hL2 : ∀ id x, L2.T id = some x → (σ.nx ≤ id ∧ id < σ.nx + n ∧ L'.T (id - σ.nx) = some x) ∨ (id ∉ κ ∧ L.T id = some x) := fun id x hx => by
    have hx : (if σ.nx ≤ id ∧ id < σ.nx + n then L'.T (id - σ.nx) else if id ∈ κ then none else L.T id) = some x := hx
    split at hx
    · rename_i hq; exact .inl ⟨hq.1, hq.2, hx⟩
    · split at hx
      · cases hx
      · rename_i hni; exact .inr ⟨hni, hx⟩
  have hnewB : ∀ j e k v b, L'.T j = some (e, k, v) → v.ownBlock = some b → (R.w.heap.size ≤ b ∨ ∃ i e' k' v', i ∈ κ ∧ L.T i = some (e', k', v') ∧ v'.ownBlock = some b) ∧ b ∉ L'.β := fun j e k v b hj hv => by
    have hbk := (how'.own j e k v hj).block hv
    refine ⟨?_, hbk.2.2⟩
    rcases hbk.1 with q | q
    · exact .inl q
    · rcases q with q | ⟨i, e', k', v', ht, hv'⟩
      · exact absurd (by rw [hm1]; exact List.mem_append_left _ q) hbk.2.2
      · obtain ⟨x, hx, hx'⟩ := hTf i _ ht
        exact .inr ⟨x, e', k', v', List.mem_of_getElem? hx, hx', hv'⟩
  have hnewL : ∀ j e k v b, L'.T j = some (e, k, v) → v.ownBlock = some b → b ∉ L.β ++ more := fun j e k v b hj hv hb => by
    obtain ⟨q1, q2⟩ := hnewB j e k v b hj hv
    rcases List.mem_append.1 hb with hb | hb
    · rcases q1 with q1 | ⟨i, e', k', v', _, ht, hv'⟩
      · have := hg.fit.β_lt b hb; omega
      · exact (hownOld i e' k' v' b ht hv').2.2 hb
    · exact q2 (by rw [hm1]; exact List.mem_append_right _ hb)
  have hnotT : ∀ i e k v b, i ∉ κ → L.T i = some (e, k, v) → v.ownBlock = some b → ¬ Turf Lf b := fun i e k v b hni ht hv hT => by
    rcases hT with hT | ⟨j, e', k', v', ht', hv'⟩
    · obtain ⟨x, hx, rfl⟩ := List.mem_map.1 hT
      exact (hownOld i e k v _ ht hv).2.2 (List.mem_of_getElem? (hgv x (hιb x hx)))
    · obtain ⟨x, hx, hx'⟩ := hTf j _ ht'
      have := hg.fit.owns.apart i x e k v e' k' v' b ht hx' hv hv'
      subst this
      exact hni (List.mem_of_getElem? hx)
  refine ⟨v, rfl, _, afterB ι κ bx' n σ, R', L2, rfl, ⟨hg.move (tm' := reTm some (keepO κ) σ.tm) hnear.nigh ⟨hg.fit.glob.ext hn.ext, ⟨?_, ?_, fun i b cs' hi hc' => ?_⟩, ⟨fun id e k v ht => ?_, fun id id' e k v e' k' v' b ht ht' hv hv' => ?_⟩, fun gg hgg => hg.fit.base gg (Nat.le_trans hn.size hgg)⟩ ⟨more, rfl, hm2⟩ (fun id e k v b ht hv => ?_) (fun id hid => ?_), h.size, h.df.near hnear, fun t => ?_⟩, hupC, hK⟩
  · have := hbx'.len
    rw [hm1] at this
    simp only [L2, List.length_append, putBx_length, reBx_length, List.length_drop] at this ⊢
    simp at this
    omega
  · show (L.β ++ more).Nodup
    rw [List.nodup_append]
    refine ⟨hnd, hmn.2.1, fun x hx y hy e => ?_⟩
    have := hg.fit.β_lt x hx
    have := hm2 y hy
    omega
  · have hi : (L.β ++ more)[i]? = some b := hi
    rcases Nat.lt_or_ge i L.β.length with hlt | hge
    · rw [List.getElem?_append_left hlt] at hi
      rw [List.getElem?_append_left (by rw [putBx_length, reBx_length]; omega)] at hc'
      by_cases hmem : i ∈ ι
      · obtain ⟨j, hj, hji⟩ := List.getElem_of_mem hmem
        have hji' : ι[j]? = some i := by rw [List.getElem?_eq_getElem hj, hji]
        have hj2 : j < bx'.length := by simp at hlen; omega
        rw [putBx_get ι _ _ i j (C.reL (upB ι σ.bx.length) (upO σ.nx) bx'[j]) hι hji' (by rw [reBx_get, List.getElem?_eq_getElem hj2]; rfl) (by rw [reBx_length]; omega)] at hc'
        cases hc'
        have hLj : L'.β[j]? = some b := by
          rw [hm1, List.getElem?_append_left (by omega), List.getElem?_map, hji']
          have hgi := hgv i (by omega)
          rw [hi] at hgi
          simpa using hgi.symm
        obtain ⟨vs, ty, q1, q2, q3, q4⟩ := hbx'.box j b _ hLj (List.getElem?_eq_getElem hj2)
        exact ⟨vs, ty, q1, hup _ _ q2, q3, q4⟩
      · rw [putBx_other ι _ _ i hmem, reBx_get] at hc'
        cases hq : σ.bx[i]? with
        | none => rw [hq] at hc'; cases hc'
        | some c0 =>
          rw [hq] at hc'; cases hc'
          obtain ⟨vs, ty, q1, q2, q3, q4⟩ := hg.fit.boxes.box i b c0 hi hq
          have hnT : ¬ Turf Lf b := fun hT => by
            rcases hT with hT | ⟨j, e', k', v', ht', hv'⟩
            · obtain ⟨x, hx, rfl⟩ := List.mem_map.1 hT
              have h5 := hgv x (hιb x hx)
              have := (List.getElem?_inj (by omega) hnd).1 (hi.trans h5.symm)
              subst this; exact hmem hx
            · obtain ⟨x, hx, hx'⟩ := hTf j _ ht'
              exact (hownOld x e' k' v' b hx' hv').2.2 (List.mem_of_getElem? hi)
          obtain ⟨k1, k2⟩ := hsame b (heap_lt q1) hnT
          exact ⟨vs, ty, k1.trans q1, RepL.re hn.ext hkeep1 hkeep2 _ _ q2, q3, fun o => (k2 o).2 (q4 o)⟩
    · rw [List.getElem?_append_right hge] at hi
      rw [List.getElem?_append_right (by rw [putBx_length, reBx_length]; omega), putBx_length, reBx_length, reBx_get, List.getElem?_drop] at hc'
      have hLj : L'.β[ι.length + (i - σ.bx.length)]? = some b := by
        rw [hm1, List.getElem?_append_right (by omega), hιl, Nat.add_sub_cancel_left, ← hbl]; exact hi
      cases hq : bx'[ι.length + (i - σ.bx.length)]? with
      | none => rw [hq] at hc'; cases hc'
      | some c0 =>
        rw [hq] at hc'; cases hc'
        obtain ⟨vs, ty, q1, q2, q3, q4⟩ := hbx'.box _ b c0 hLj hq
        exact ⟨vs, ty, q1, hup _ _ q2, q3, q4⟩
  · rcases hL2 id _ ht with ⟨_, _, hj⟩ | ⟨hni, hj⟩
    · rcases how'.own _ e k v hj with q | ⟨gg, n', cap', cur, _, q1, q2, q3, q4, q5, q6, q7, q8⟩
      · exact .inl q
      · refine .inr ⟨gg, n', cap', cur, _, q1, ?_, q3, q4, q5, q6, hnewL _ e k v gg hj (by rw [q1]; rfl), q8⟩
        rcases q2 with q2 | q2
        · exact hg.fit.base gg q2
        · exact (hg.turf (hturf gg q2)).1
    · rcases hg.fit.owns.own id e k v hj with q | ⟨gg, n', cap', cur, _, q1, q2, q3, q4, q5, q6, q7, q8⟩
      · exact .inl q
      · obtain ⟨k1, k2⟩ := hsame gg (heap_lt q3) (hnotT id e k v gg hni hj (by rw [q1]; rfl))
        refine .inr ⟨gg, n', cap', cur, _, q1, q2, k1.trans q3, q4, q5, q6, fun hx => ?_, fun o ho => (k2 o).2 (q8 o ho)⟩
        rcases List.mem_append.1 hx with hx | hx
        · exact q7 hx
        · have := hm2 gg hx; have := heap_lt q3; omega
  · rcases hL2 id _ ht with ⟨p1, p2, hj⟩ | ⟨hni, hj⟩ <;> rcases hL2 id' _ ht' with ⟨p1', p2', hj'⟩ | ⟨hni', hj'⟩
    · have := how'.apart _ _ e k v e' k' v' b hj hj' hv hv'; omega
    · exfalso
      rcases (hnewB _ e k v b hj hv).1 with q | ⟨i, e2, k2, v2, hik, hti, hvi⟩
      · have := (hownOld id' e' k' v' b hj' hv').2.1; omega
      · have := hg.fit.owns.apart i id' e2 k2 v2 e' k' v' b hti hj' hvi hv'
        subst this; exact hni' hik
    · exfalso
      rcases (hnewB _ e' k' v' b hj' hv').1 with q | ⟨i, e2, k2, v2, hik, hti, hvi⟩
      · have := (hownOld id e k v b hj hv).2.1; omega
      · have := hg.fit.owns.apart i id e2 k2 v2 e k v b hti hj hvi hv
        subst this; exact hni hik
    · exact hg.fit.owns.apart id id' e k v e' k' v' b hj hj' hv hv'
  · rcases hL2 id _ ht with ⟨_, _, hj⟩ | ⟨hni, hj⟩
    · rcases (hnewB _ e k v b hj hv).1 with q | ⟨i, e2, k2, v2, hik, hti, hvi⟩
      · exact .inr q
      · exact .inl ⟨i, e2, k2, v2, hti, hvi⟩
    · exact .inl ⟨id, e, k, v, hj, hv⟩
  · show (if σ.nx ≤ id ∧ id < σ.nx + n then _ else if id ∈ κ then none else L.T id) = none
    rw [if_neg (by omega)]
    split
    · rfl
    · exact hg.free id (by omega)
  · show Rep R' L2 (getC (reTm some (keepO κ) σ.tm) t) _
    rw [getC_re]
    exact Rep.re hn.ext hkeep1 hkeep2 _ _ (h.tm t)
theorem callB_after {c : Call} {f : Operand} (ho : o.op = .call c) (hc : c.callee = .value f) {fid : FuncId} {first cap : List C} (hev : evOf G σ.tm f = .clo (.func fid) first cap) {K : C → St → Prop} (h : InvV G E σ a R L)
    (hK : aCallB0 P G fid (first ++ c.args.toList.map (evOf G σ.tm) ++ cap) σ K) : Runs P o a.eval R.w (After G E a K) := by
  obtain ⟨ι, κ, r, bx', n, hι, hκ, hιb, hf, hK⟩ := hK
  exact callX_after ho hc hev h ⟨ι, κ, _, hι, hκ, hιb, hf, by rintro r' b' n' ⟨rfl, rfl, rfl⟩; exact hK⟩
/-- what an external function answers that neither makes memory nor turns any -/
def ExtC (P : Program) (f : FuncId) (args : List C) (bx : List (List C)) (r : C) : Prop :=
  ∀ (B : Nat → Prop) (R : Env) (L : Loc) (vs : List Value), BoxesOk R L bx → OwnsOk B R L → RepL R L args vs → ∃ v, (callFunc f vs.toArray).run P R.w = .ok (.value v) R.w ∧ Rep R L r v
def aCallO (P : Program) (f : FuncId) (args : List C) (σ : St) (K : C → St → Prop) : Prop := ∃ r, ExtC P f args σ.bx r ∧ K r σ
theorem callO_after {c : Call} {f : Operand} (ho : o.op = .call c) (hc : c.callee = .value f) {fid : FuncId} {first cap : List C} (hev : evOf G σ.tm f = .clo (.func fid) first cap) {K : C → St → Prop} (h : InvV G E σ a R L)
    (hK : aCallO P fid (first ++ c.args.toList.map (evOf G σ.tm) ++ cap) σ K) : Runs P o a.eval R.w (After G E a K) := by
  obtain ⟨r, hr, hK⟩ := hK
  have hf := h.ev f
  rw [hev, rep_clo] at hf
  obtain ⟨fs, cs, e1, h1, h2⟩ := hf
  obtain ⟨v, hv, hrep⟩ := hr _ R L _ h.good.fit.boxes h.good.fit.owns (repL_append (repL_append h1 (repL_map h.ev c.args.toList)) h2)
  refine Runs.value (w' := R.w) (v := v) ?_ ⟨_, _, R, L, rfl, h, hrep, hK⟩
  unfold execOp
  simp only [ho, resolve, hc, e1]
  have e2 : (Deferred.ofValue (.func (.func fid) fs cs) (c.args.map a.eval)).run P R.w = .ok { target := .fn (.func fid) cs, args := fs ++ c.args.map a.eval } R.w := by
    simp [Deferred.ofValue]
  rw [Sem.run_bind, e2]
  simp only [Result.andThen_ok, invoke]
  rw [← hv]
  congr 2
  apply Array.ext'
  simp
end
end Go.Proofs.Ytheokoehnmlafaa.Vcg
