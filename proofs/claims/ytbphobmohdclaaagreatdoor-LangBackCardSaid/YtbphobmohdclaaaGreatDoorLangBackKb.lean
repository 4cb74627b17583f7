/- What the proof of LangBack leans on, part 2: Vcg19 Vcg23 Vcg24 Vcg25 Vcg13 Vcg14 Vcg15 Vcg16 Vcg20 Vcg21 Vcg22 Vcg27. No condition beyond what each theorem states. -/
import Derived.Test.YtbphobmohdclaaaGreatDoorLangBackKa
import Derived.ArgAppend
import Derived.Lib.AppendZerosOnto
import Derived.RangeFuncSeq
import Derived.OrdersIn
import Derived.RangeFuncNested
import Derived.RangeFuncLeaves
section
set_option linter.unusedVariables false
set_option linter.unusedSimpArgs false
namespace Go.Proofs.YtbphobmohdclaaaGreatDoor.Vcg
open Go.RowKit
def Turf (L : Loc) (b : Nat) : Prop := b ∈ L.β ∨ ∃ id e k v, L.T id = some (e, k, v) ∧ v.ownB = some b
mutual
/-- boxes and owners under other names -/
def C.re (fp fo : Nat → Option Nat) : C → C
 | .own id e k rows => match fo id with
  | some j => .own j e k rows
  | none => .sl k rows
 | .ptr i off => match fp i with
  | some j => .ptr j off
  | none => .any
 | .bs i off k n c => match fp i with
  | some j => .bs j off k n c
  | none => .any
 | .mo id t ks vs => match fo id with
  | some j => .mo j t ks vs
  | none => .any
 | .agg cs => .agg (C.reL fp fo cs)
 | .tup cs => .tup (C.reL fp fo cs)
 | .clo fn first cap => .clo fn (C.reL fp fo first) (C.reL fp fo cap)
 | .sc v => .sc v
 | .str l => .str l
 | .sl k rows => .sl k rows
 | .tight k rows => .tight k rows
 | .row cs => .row cs
 | .any => .any
def C.reL (fp fo : Nat → Option Nat) : List C → List C
 | [] => []
 | c :: r => c.re fp fo :: C.reL fp fo r
end
section
variable {fp fo : Nat → Option Nat} {R R' : Env} {L L' : Loc}
mutual
theorem Rep.re (he : Ext R R') (hb : ∀ i j b, fp i = some j → L.β[i]? = some b → L'.β[j]? = some b) (ho : ∀ i j x, fo i = some j → L.T i = some x → L'.T j = some x) : ∀ (c : C) (v : Value), Rep R L c v → Rep R' L' (c.re fp fo) v
 | .sc _, _, h => by unfold C.re; unfold Rep at h ⊢; exact h
 | .str _, _, h => by unfold C.re; unfold Rep at h ⊢; exact h
 | .agg cs, _, h => by
  unfold C.re; unfold Rep at h ⊢
  obtain ⟨vs, e, hl⟩ := h
  exact ⟨vs, e, RepL.re he hb ho cs _ hl⟩
 | .tup cs, _, h => by
  unfold C.re; unfold Rep at h ⊢
  obtain ⟨vs, e, hl⟩ := h
  exact ⟨vs, e, RepL.re he hb ho cs _ hl⟩
 | .sl k rows, v, h => by
  unfold C.re
  exact Rep.ext he (LocLe.none L') (.sl k rows) v (T := noLoc) (by unfold Rep at h ⊢; exact h)
 | .tight k rows, v, h => by
  unfold C.re
  exact Rep.ext he (LocLe.none L') (.tight k rows) v (T := noLoc) (by unfold Rep at h ⊢; exact h)
 | .own id e k rows, v, h => by
  unfold C.re
  have h2 := Rep.ext he (LocLe.none L') (.sl k rows) v (T := noLoc) (by unfold Rep at h ⊢; exact h.2)
  split
  ·rename_i j hj
   unfold Rep at h h2 ⊢
   exact ⟨ho _ _ _ hj h.1, h2⟩
  ·exact h2
 | .ptr i off, _, h => by
  unfold C.re; unfold Rep at h
  split
  ·rename_i j hj
   obtain ⟨b, e, h⟩ := h
   unfold Rep
   exact ⟨b, hb _ _ _ hj e, h⟩
  ·unfold Rep; trivial
 | .bs i off k n c, _, h => by
  unfold C.re; unfold Rep at h
  split
  ·rename_i j hj
   obtain ⟨b, e, h⟩ := h
   unfold Rep
   exact ⟨b, hb _ _ _ hj e, h⟩
  ·unfold Rep; trivial
 | .mo id t ks vs, _, h => by
  unfold C.re; unfold Rep at h
  split
  ·rename_i j hj
   obtain ⟨b, vvs, e, ht, hl⟩ := h
   unfold Rep
   exact ⟨b, vvs, e, ho _ _ _ hj ht, RepL.ext he (LocLe.refl _) _ _ hl⟩
  ·unfold Rep; trivial
 | .row cs, v, h => by
  unfold C.re
  exact Rep.ext he (LocLe.none L') (.row cs) v (T := noLoc) (by unfold Rep at h ⊢; exact h)
 | .clo fn first cap, _, h => by
  unfold C.re; unfold Rep at h ⊢
  obtain ⟨fs, cs, e, h1, h2⟩ := h
  exact ⟨fs, cs, e, RepL.re he hb ho first _ h1, RepL.re he hb ho cap _ h2⟩
 | .any, _, _ => by unfold C.re; unfold Rep; trivial
theorem RepL.re (he : Ext R R') (hb : ∀ i j b, fp i = some j → L.β[i]? = some b → L'.β[j]? = some b) (ho : ∀ i j x, fo i = some j → L.T i = some x → L'.T j = some x) : ∀ (cs : List C) (vs : List Value), RepL R L cs vs → RepL R' L' (C.reL fp fo cs) vs
 | [], _, h => by unfold C.reL; rw [repL_nil] at h ⊢; exact h
 | c :: r, _, h => by
  unfold C.reL; rw [repL_cons] at h ⊢
  obtain ⟨v, us, e, h1, h2⟩ := h
  exact ⟨v, us, e, Rep.re he hb ho c v h1, RepL.re he hb ho r us h2⟩
end
end
def FunX (P : Program) (G : Globs) (f : FuncId) (args : List C) (bx : List (List C)) (q : Nat) (post : C → List (List C) → Nat → Prop) : Prop :=
 entersB P f = true ∧ ∀ (R : Env) (L : Loc) (vs : List Value), GlobOk G R → BoxesOk R L bx → OwnsOk (fun _ => True) R L → (∀ id, q ≤ id → L.T id = none) → (∀ b, R.F b → b < R.w.heap.size) → (∀ b, Turf L b → ¬ R.F b) → RepL R L args vs →
  Calls P f vs.toArray R.w fun e w' => ∃ r bx' n, (post r bx' n ∧ bx.length ≤ bx'.length) ∧ ∃ v R' L', e = .returned v ∧ R'.w = w' ∧ Near R.w (Turf L) R R' ∧ BoxesOk R' L' bx' ∧ OwnsOk (fun g => R.w.heap.size ≤ g ∨ Turf L g) R' L' ∧ (∃ more, L'.β = L.β ++ more ∧ ∀ b ∈ more, R.w.heap.size ≤ b) ∧ (∀ id, n ≤ id → L'.T id = none) ∧ Rep R' L' r v
def FunB (P : Program) (G : Globs) (f : FuncId) (args : List C) (bx : List (List C)) (q : Nat) (r : C) (bx' : List (List C)) (n : Nat) : Prop :=
 FunX P G f args bx q fun r' b' n' => r' = r ∧ b' = bx' ∧ n' = n
def ixOf : List Nat → Nat → Option Nat
 | [], _ => none
 | x :: r, i => if i = x then some 0 else (ixOf r i).map (· + 1)
theorem ixOf_get : ∀ (l : List Nat) (i j : Nat), ixOf l i = some j → l[j]? = some i
 | [], i, j, h => by simp [ixOf] at h
 | x :: r, i, j, h => by
  unfold ixOf at h
  split at h
  ·cases h; subst_vars; rfl
  ·cases hq : ixOf r i with
   | none => rw [hq] at h; cases h
   | some k =>
    rw [hq] at h
    cases h
    simpa using ixOf_get r i k hq
def upB (ι : List Nat) (m j : Nat) : Option Nat := match ι[j]? with | some i => some i | none => some (m + (j - ι.length))
def upO (nx j : Nat) : Option Nat := some (nx + j)
def keepO (κ : List Nat) (i : Nat) : Option Nat := if i ∈ κ then none else some i
def reTm (fp fo : Nat → Option Nat) : List (Nat × C) → List (Nat × C)
 | [] => []
 | (t, c) :: r => (t, c.re fp fo) :: reTm fp fo r
theorem getC_re (fp fo : Nat → Option Nat) : ∀ (tm : List (Nat × C)) (t : Nat), getC (reTm fp fo tm) t = (getC tm t).re fp fo
 | [], t => by simp only [reTm, getC]; unfold C.re; rfl
 | (u, c) :: r, t => by
  simp only [reTm, getC]
  split
  ·rfl
  ·exact getC_re fp fo r t
def reBx (fp fo : Nat → Option Nat) : List (List C) → List (List C)
 | [] => []
 | cs :: r => C.reL fp fo cs :: reBx fp fo r
theorem reBx_get (fp fo : Nat → Option Nat) : ∀ (bx : List (List C)) (i : Nat), (reBx fp fo bx)[i]? = (bx[i]?).map (C.reL fp fo)
 | [], i => by simp [reBx]
 | c :: r, 0 => by simp [reBx]
 | c :: r, i + 1 => by simp [reBx, reBx_get fp fo r i]
theorem reBx_length (fp fo : Nat → Option Nat) : ∀ bx : List (List C), (reBx fp fo bx).length = bx.length
 | [] => rfl
 | c :: r => by simp [reBx, reBx_length fp fo r]
def putBx : List Nat → List (List C) → List (List C) → List (List C)
 | i :: ι, cs :: r, bx => putBx ι r (bx.set i cs)
 | _, _, bx => bx
theorem putBx_length : ∀ (ι : List Nat) (l bx : List (List C)), (putBx ι l bx).length = bx.length
 | [], _, _ => rfl
 | i :: ι, [], _ => rfl
 | i :: ι, c :: r, bx => by simp [putBx, putBx_length ι r]
theorem putBx_other : ∀ (ι : List Nat) (l bx : List (List C)) (i : Nat), i ∉ ι → (putBx ι l bx)[i]? = bx[i]?
 | [], _, _, i, _ => rfl
 | x :: ι, [], _, i, _ => rfl
 | x :: ι, c :: r, bx, i, h => by
  simp only [putBx]
  rw [putBx_other ι r _ i (fun h' => h (List.mem_cons_of_mem _ h')), List.getElem?_set_ne (fun e : x = i => h (by rw [e]; exact List.mem_cons_self))]
theorem putBx_get : ∀ (ι : List Nat) (l bx : List (List C)) (i j : Nat) (cs : List C), ι.Nodup → ι[j]? = some i → l[j]? = some cs → i < bx.length → (putBx ι l bx)[i]? = some cs
 | [], _, _, i, j, cs, _, h, _, _ => by simp at h
 | x :: ι, [], _, i, j, cs, _, _, h, _ => by simp at h
 | x :: ι, c :: r, bx, i, 0, cs, hn, h1, h2, h3 => by
  simp at h1 h2; subst h1 h2
  simp only [putBx]
  rw [putBx_other ι r _ x (List.nodup_cons.1 hn).1, List.getElem?_set_self h3]
 | x :: ι, c :: r, bx, i, j + 1, cs, hn, h1, h2, h3 => by
  simp only [putBx]
  exact putBx_get ι r _ i j cs (List.nodup_cons.1 hn).2 (by simpa using h1) (by simpa using h2) (by simpa using h3)
def afterB (ι κ : List Nat) (bx' : List (List C)) (n : Nat) (σ : St) : St :=
 ⟨reTm some (keepO κ) σ.tm, putBx ι (reBx (upB ι σ.bx.length) (upO σ.nx) bx') (reBx some (keepO κ) σ.bx) ++ reBx (upB ι σ.bx.length) (upO σ.nx) (bx'.drop ι.length), σ.nx + n, σ.lg⟩
def aCallX0 (P : Program) (G : Globs) (f : FuncId) (args : List C) (σ : St) (K : C → St → Prop) : Prop :=
 ∃ (ι κ : List Nat) (post : C → List (List C) → Nat → Prop), ι.Nodup ∧ κ.Nodup ∧ (∀ i ∈ ι, i < σ.bx.length) ∧
  FunX P G f (C.reL (ixOf ι) (ixOf κ) args) (ι.map fun i => C.reL (ixOf ι) (ixOf κ) (σ.bx.getD i [])) κ.length post ∧ ∀ r bx' n, post r bx' n → K (r.re (upB ι σ.bx.length) (upO σ.nx)) (afterB ι κ bx' n σ)
def aCallB0 (P : Program) (G : Globs) (f : FuncId) (args : List C) (σ : St) (K : C → St → Prop) : Prop :=
 ∃ (ι κ : List Nat) (r : C) (bx' : List (List C)) (n : Nat), ι.Nodup ∧ κ.Nodup ∧ (∀ i ∈ ι, i < σ.bx.length) ∧
  FunB P G f (C.reL (ixOf ι) (ixOf κ) args) (ι.map fun i => C.reL (ixOf ι) (ixOf κ) (σ.bx.getD i [])) κ.length r bx' n ∧ K (r.re (upB ι σ.bx.length) (upO σ.nx)) (afterB ι κ bx' n σ)
section
variable {P : Program} {G : Globs} {E : Ctx} {σ σ' : St} {o : Oper} {a : Act} {R R' : Env} {L L' : Loc}
theorem Good.turf (h : Good G E σ R L) {b : Nat} (hb : Turf L b) : E.tu b ∧ ¬ R.F b ∧ b < R.w.heap.size ∧ ((∃ cs t f, R.w.heap[b]? = some (.cells cs t f)) ∨ ∃ es cl, R.w.heap[b]? = some (.map es cl)) := by
 rcases hb with hb | ⟨id, e, k, v, ht, hv⟩
 ·obtain ⟨i, hi, rfl⟩ := List.getElem_of_mem hb
  have hl := h.fit.boxes.len
  obtain ⟨vs, ty, g, _⟩ := h.fit.boxes.box i L.β[i] (σ.bx[i]'(by omega)) (List.getElem?_eq_getElem hi) (List.getElem?_eq_getElem (by omega))
  exact ⟨h.tubx _ hb, h.fbx _ hb, heap_lt g, .inl ⟨_, _, _, g⟩⟩
 ·have ho := h.fit.owns.own id e k v ht
  have hf := h.fow id e k v b ht hv
  exact ⟨(ho.block hv).1, hf, (ho.block hv).2.1, ho.held hv⟩

theorem callX_after {c : Call} {f : Operand} (ho : o.op = .call c) (hc : c.callee = .value f) {fid : FuncId} {first cap : List C} (hev : evOf G σ.tm f = .clo (.func fid) first cap) {K : C → St → Prop} (h : InvV G E σ a R L)
  (hK : aCallX0 P G fid (first ++ c.args.toList.map (evOf G σ.tm) ++ cap) σ K) : Runs P o a.eval R.w (After G E a K) := by
 obtain ⟨ι, κ, post, hι, hκ, hιb, ⟨hent, hfun⟩, hK⟩ := hK
 have hg := h.good
 have hbl := hg.fit.boxes.len
 have hnd := hg.fit.boxes.nodup
 let g : Nat → Nat := fun i => L.β.getD i 0
 have hgv : ∀ i, i < σ.bx.length → L.β[i]? = some (g i) := fun i hi => by
  simp only [g, List.getD_eq_getElem?_getD]
  rw [List.getElem?_eq_getElem (by omega)]; rfl
 have hginj : ∀ i j, i < σ.bx.length → j < σ.bx.length → g i = g j → i = j := fun i j hi hj e => by
  have h1 := hgv i hi
  have h2 := hgv j hj
  rw [e, ← h2] at h1
  exact (List.getElem?_inj (by omega) hnd).1 h1
 let Lf : Loc := ⟨ι.map g, fun j => (κ[j]?).bind L.T⟩
 have hfβ : ∀ j b, (ι.map g)[j]? = some b → ∃ i, ι[j]? = some i ∧ i < σ.bx.length ∧ L.β[i]? = some b := fun j b hj => by
  rw [List.getElem?_map] at hj
  cases hq : ι[j]? with
  | none => rw [hq] at hj; cases hj
  | some i =>
   rw [hq] at hj; cases hj
   have hi := hιb i (List.mem_of_getElem? hq)
   exact ⟨i, hq, hi, hgv i hi⟩
 have hre : ∀ cs vs, RepL R L cs vs → RepL R Lf (C.reL (ixOf ι) (ixOf κ) cs) vs := fun cs vs hr => RepL.re (Ext.refl R) (fun i j b hij hb => by
   have := ixOf_get ι i j hij
   show (ι.map g)[j]? = some b
   rw [List.getElem?_map, this]
   have hi := hιb i (List.mem_of_getElem? this)
   rw [← hb, hgv i hi]; rfl) (fun i j x hij hx => by
   have := ixOf_get κ i j hij
   show (κ[j]?).bind L.T = some x
   rw [this]; exact hx) _ _ hr
 have hTf : ∀ j x, Lf.T j = some x → ∃ id, κ[j]? = some id ∧ L.T id = some x := fun j x hj => by
  have hj : (κ[j]?).bind L.T = some x := hj
  cases hq : κ[j]? with
  | none => rw [hq] at hj; cases hj
  | some id => rw [hq] at hj; exact ⟨id, rfl, hj⟩
 have hturf : ∀ b, Turf Lf b → Turf L b := fun b hb => by
  rcases hb with hb | ⟨id, e, k, v, ht, hv⟩
  ·obtain ⟨j, hj, rfl⟩ := List.getElem_of_mem hb
   obtain ⟨i, _, _, hi⟩ := hfβ j _ (List.getElem?_eq_getElem hj)
   exact .inl (List.mem_of_getElem? hi)
  ·obtain ⟨id', _, ht'⟩ := hTf id _ ht
   exact .inr ⟨id', e, k, v, ht', hv⟩
 have hownOld : ∀ id e k v b, L.T id = some (e, k, v) → v.ownB = some b → E.tu b ∧ b < R.w.heap.size ∧ b ∉ L.β := fun id e k v b ht hv => (hg.fit.owns.own id e k v ht).block hv
 have hf := h.ev f
 rw [hev, rep_clo] at hf
 obtain ⟨fs, cs, e1, h1, h2⟩ := hf
 have hargs := hre _ _ (repL_append (repL_append h1 (repL_map h.ev c.args.toList)) h2)
 have hκinj : ∀ (i j x : Nat), κ[i]? = some x → κ[j]? = some x → i = j := fun i j x hi hj => (List.getElem?_inj (List.getElem?_eq_some_iff.1 hi).1 hκ).1 (hi.trans hj.symm)
 have hcall := hfun R Lf _ hg.fit.glob ⟨by simp [Lf], by
   show (ι.map g).Nodup
   rw [List.Nodup, List.pairwise_map]
   exact hι.imp_of_mem fun {i j} hi hj hne e => hne (hginj i j (hιb i hi) (hιb j hj) e), fun j b cs' hj hc' => by
   obtain ⟨i, hi, hib, hib'⟩ := hfβ j b hj
   rw [List.getElem?_map, hi] at hc'
   have hbx : σ.bx[i]? = some (σ.bx.getD i []) := by rw [List.getD_eq_getElem?_getD, List.getElem?_eq_getElem hib]; rfl
   cases hc'
   obtain ⟨vs, ty, q1, q2, q3, q4⟩ := hg.fit.boxes.box i b _ hib' hbx
   exact ⟨vs, ty, q1, hre _ _ q2, q3, q4⟩⟩
  ⟨fun j e k v hj => by
   obtain ⟨id, _, hid⟩ := hTf j _ hj
   ·refine (hg.fit.owns.own id e k v hid).move fun gg _ q2 _ q7 => ⟨trivial, rfl, fun hx => q7 ?_, fun _ h => h⟩
    have hx : gg ∈ ι.map g := hx
    obtain ⟨i, hi, rfl⟩ := List.mem_map.1 hx
    exact List.mem_of_getElem? (hgv i (hιb i hi)), fun i j e k v e' k' v' b hi hj hv hv' => by
   obtain ⟨x, hx, hx'⟩ := hTf i _ hi
   obtain ⟨y, hy, hy'⟩ := hTf j _ hj
   have := hg.fit.owns.apart x y e k v e' k' v' b hx' hy' hv hv'
   subst this
   exact hκinj i j x hx hy⟩ (fun id hid => by
   show (κ[id]?).bind L.T = none
   rw [List.getElem?_eq_none hid]; rfl) hg.flt (fun b hb => (hg.turf (hturf b hb)).2.1) hargs
 have hrun : (execOp a.eval o).run P R.w = .ok (.enter fid (fs.toList ++ c.args.toList.map a.eval ++ cs.toList).toArray) R.w := by
  unfold execOp
  simp only [ho, resolve, hc, e1]
  have e2 : (Deferred.ofValue (.func (.func fid) fs cs) (c.args.map a.eval)).run P R.w = .ok { target := .fn (.func fid) cs, args := fs ++ c.args.map a.eval } R.w := by
   simp [Deferred.ofValue]
  rw [Sem.run_bind, e2]
  simp only [Result.andThen_ok, invoke]
  rw [run_enter hent]
  congr 2
  apply Array.ext'
  simp
 unfold Runs
 rw [hrun]
 refine hcall.mono ?_
 rintro e w' ⟨r, bx', n, ⟨hpost, hlen⟩, v, R', L', rfl, rfl, hn, hbx', how', ⟨more, hm1, hm2⟩, hfree', hrep⟩
 have hK := hK r bx' n hpost
 have hm1 : L'.β = ι.map g ++ more := hm1
 have hιl : (ι.map g).length = ι.length := by simp
 have hmn := hbx'.nodup
 rw [hm1, List.nodup_append] at hmn
 have hnear : Near E.w0 E.ex R R' := ⟨hn.os, hn.tape, hn.output, hn.size, hn.fgn, hn.ext, fun b hb => (hn.blk b hb).imp id fun ⟨q1, q2, q3⟩ => ⟨by
  rcases q1 with q1 | q1
  ·omega
  ·exact (hg.turf (hturf b q1)).1, q2, q3⟩⟩
 have hsame : ∀ b, b < R.w.heap.size → ¬ Turf Lf b → R'.w.heap[b]? = R.w.heap[b]? ∧ ∀ o, (R'.M b o ↔ R.M b o) := fun b hb hT => by
  rcases hn.blk b hb with q | ⟨q, _⟩
  ·exact q
  ·rcases q with q | q
   ·omega
   ·exact absurd q hT
 let L2 : Loc := ⟨L.β ++ more, fun id => if σ.nx ≤ id ∧ id < σ.nx + n then L'.T (id - σ.nx) else if id ∈ κ then none else L.T id⟩
 have hnewT : ∀ j x, L'.T j = some x → L2.T (σ.nx + j) = some x := fun j x hj => by
  have hjn : j < n := by
   rcases Nat.lt_or_ge j n with q | q
   ·exact q
   ·rw [hfree' j q] at hj; cases hj
  show (if σ.nx ≤ σ.nx + j ∧ σ.nx + j < σ.nx + n then L'.T (σ.nx + j - σ.nx) else _) = some x
  rw [if_pos ⟨by omega, by omega⟩, Nat.add_sub_cancel_left]; exact hj
 have hup : ∀ cs vs, RepL R' L' cs vs → RepL R' L2 (C.reL (upB ι σ.bx.length) (upO σ.nx) cs) vs := fun cs vs hr => RepL.re (Ext.refl R') (fun j i b hji hb => by
   rw [hm1] at hb
   unfold upB at hji
   show (L.β ++ more)[i]? = some b
   split at hji
   ·rename_i i' hi'
    cases hji
    have hjl : j < ι.length := (List.getElem?_eq_some_iff.1 hi').1
    rw [List.getElem?_append_left (by omega)] at hb
    obtain ⟨i2, hi2, hi2b, hb2⟩ := hfβ j b hb
    rw [hi'] at hi2; cases hi2
    rw [List.getElem?_append_left (by omega)]; exact hb2
   ·rename_i hno
    cases hji
    have hjl : ι.length ≤ j := by
     rcases Nat.lt_or_ge j ι.length with q | q
     ·rw [List.getElem?_eq_getElem q] at hno; cases hno
     ·exact q
    rw [List.getElem?_append_right (by omega), hιl] at hb
    rw [List.getElem?_append_right (by omega), hbl, Nat.add_sub_cancel_left]; exact hb) (fun j i x hji hx => by
   unfold upO at hji
   cases hji
   exact hnewT j x hx) _ _ hr
 have hupC : Rep R' L2 (r.re (upB ι σ.bx.length) (upO σ.nx)) v := by
  have := hup [r] [v] (repL_cons.2 ⟨v, [], rfl, hrep, repL_nil.2 rfl⟩)
  unfold C.reL at this
  obtain ⟨v', us, q1, q2, _⟩ := repL_cons.1 this
  cases q1; exact q2
 have hkeep1 : ∀ (i j b : Nat), some i = some j → L.β[i]? = some b → L2.β[j]? = some b := fun i j b hij hb => by
  cases hij
  show (L.β ++ more)[i]? = some b
  rw [List.getElem?_append_left (List.getElem?_eq_some_iff.1 hb).1]; exact hb
 have hkeep2 : ∀ i j x, keepO κ i = some j → L.T i = some x → L2.T j = some x := fun i j x hij hx => by
  unfold keepO at hij
  split at hij
  ·cases hij
  ·rename_i hni
   cases hij
   have hlt : i < σ.nx := by
    rcases Nat.lt_or_ge i σ.nx with q | q
    ·exact q
    ·rw [hg.free i q] at hx; cases hx
   show (if _ then _ else if i ∈ κ then none else L.T i) = some x
   rw [if_neg (by omega), if_neg hni]; exact hx
 have hL2 : ∀ id x, L2.T id = some x → (σ.nx ≤ id ∧ id < σ.nx + n ∧ L'.T (id - σ.nx) = some x) ∨ (id ∉ κ ∧ L.T id = some x) := fun id x hx => by
  have hx : (if σ.nx ≤ id ∧ id < σ.nx + n then L'.T (id - σ.nx) else if id ∈ κ then none else L.T id) = some x := hx
  split at hx
  ·rename_i hq; exact .inl ⟨hq.1, hq.2, hx⟩
  ·split at hx
   ·cases hx
   ·rename_i hni; exact .inr ⟨hni, hx⟩
 have hnewB : ∀ j e k v b, L'.T j = some (e, k, v) → v.ownB = some b → (R.w.heap.size ≤ b ∨ ∃ i e' k' v', i ∈ κ ∧ L.T i = some (e', k', v') ∧ v'.ownB = some b) ∧ b ∉ L'.β := fun j e k v b hj hv => by
  have hbk := (how'.own j e k v hj).block hv
  refine ⟨?_, hbk.2.2⟩
  rcases hbk.1 with q | q
  ·exact .inl q
  ·rcases q with q | ⟨i, e', k', v', ht, hv'⟩
   ·exact absurd (by rw [hm1]; exact List.mem_append_left _ q) hbk.2.2
   ·obtain ⟨x, hx, hx'⟩ := hTf i _ ht
    exact .inr ⟨x, e', k', v', List.mem_of_getElem? hx, hx', hv'⟩
 have hnewL : ∀ j e k v b, L'.T j = some (e, k, v) → v.ownB = some b → b ∉ L.β ++ more := fun j e k v b hj hv hb => by
  obtain ⟨q1, q2⟩ := hnewB j e k v b hj hv
  rcases List.mem_append.1 hb with hb | hb
  ·rcases q1 with q1 | ⟨i, e', k', v', _, ht, hv'⟩
   ·have := hg.fit.β_lt b hb; omega
   ·exact (hownOld i e' k' v' b ht hv').2.2 hb
  ·exact q2 (by rw [hm1]; exact List.mem_append_right _ hb)
 have hnotT : ∀ i e k v b, i ∉ κ → L.T i = some (e, k, v) → v.ownB = some b → ¬ Turf Lf b := fun i e k v b hni ht hv hT => by
  rcases hT with hT | ⟨j, e', k', v', ht', hv'⟩
  ·obtain ⟨x, hx, rfl⟩ := List.mem_map.1 hT
   exact (hownOld i e k v _ ht hv).2.2 (List.mem_of_getElem? (hgv x (hιb x hx)))
  ·obtain ⟨x, hx, hx'⟩ := hTf j _ ht'
   have := hg.fit.owns.apart i x e k v e' k' v' b ht hx' hv hv'
   subst this
   exact hni (List.mem_of_getElem? hx)
 refine ⟨v, rfl, _, afterB ι κ bx' n σ, R', L2, rfl, ⟨hg.move (tm' := reTm some (keepO κ) σ.tm) hnear.nigh ⟨hg.fit.glob.ext hn.ext, ⟨?_, ?_, fun i b cs' hi hc' => ?_⟩, ⟨fun id e k v ht => ?_, fun id id' e k v e' k' v' b ht ht' hv hv' => ?_⟩, fun gg hgg => hg.fit.base gg (Nat.le_trans hn.size hgg)⟩ ⟨more, rfl, hm2⟩ (fun id e k v b ht hv => ?_) (fun id hid => ?_), h.size, h.df.near hnear, fun t => ?_⟩, hupC, hK⟩
 ·have := hbx'.len
  rw [hm1] at this
  simp only [L2, List.length_append, putBx_length, reBx_length, List.length_drop] at this ⊢
  simp at this
  omega
 ·show (L.β ++ more).Nodup
  rw [List.nodup_append]
  refine ⟨hnd, hmn.2.1, fun x hx y hy e => ?_⟩
  have := hg.fit.β_lt x hx
  have := hm2 y hy
  omega
 ·have hi : (L.β ++ more)[i]? = some b := hi
  rcases Nat.lt_or_ge i L.β.length with hlt | hge
  ·rw [List.getElem?_append_left hlt] at hi
   rw [List.getElem?_append_left (by rw [putBx_length, reBx_length]; omega)] at hc'
   by_cases hmem : i ∈ ι
   ·obtain ⟨j, hj, hji⟩ := List.getElem_of_mem hmem
    have hji' : ι[j]? = some i := by rw [List.getElem?_eq_getElem hj, hji]
    have hj2 : j < bx'.length := by simp at hlen; omega
    rw [putBx_get ι _ _ i j (C.reL (upB ι σ.bx.length) (upO σ.nx) bx'[j]) hι hji' (by rw [reBx_get, List.getElem?_eq_getElem hj2]; rfl) (by rw [reBx_length]; omega)] at hc'
    cases hc'
    have hLj : L'.β[j]? = some b := by
     rw [hm1, List.getElem?_append_left (by omega), List.getElem?_map, hji']
     have hgi := hgv i (by omega)
     rw [hi] at hgi
     simpa using hgi.symm
    obtain ⟨vs, ty, q1, q2, q3, q4⟩ := hbx'.box j b _ hLj (List.getElem?_eq_getElem hj2)
    exact ⟨vs, ty, q1, hup _ _ q2, q3, q4⟩
   ·rw [putBx_other ι _ _ i hmem, reBx_get] at hc'
    cases hq : σ.bx[i]? with
    | none => rw [hq] at hc'; cases hc'
    | some c0 =>
     rw [hq] at hc'; cases hc'
     obtain ⟨vs, ty, q1, q2, q3, q4⟩ := hg.fit.boxes.box i b c0 hi hq
     have hnT : ¬ Turf Lf b := fun hT => by
      rcases hT with hT | ⟨j, e', k', v', ht', hv'⟩
      ·obtain ⟨x, hx, rfl⟩ := List.mem_map.1 hT
       have h5 := hgv x (hιb x hx)
       have := (List.getElem?_inj (by omega) hnd).1 (hi.trans h5.symm)
       subst this; exact hmem hx
      ·obtain ⟨x, hx, hx'⟩ := hTf j _ ht'
       exact (hownOld x e' k' v' b hx' hv').2.2 (List.mem_of_getElem? hi)
     obtain ⟨k1, k2⟩ := hsame b (heap_lt q1) hnT
     exact ⟨vs, ty, k1.trans q1, RepL.re hn.ext hkeep1 hkeep2 _ _ q2, q3, fun o => (k2 o).2 (q4 o)⟩
  ·rw [List.getElem?_append_right hge] at hi
   rw [List.getElem?_append_right (by rw [putBx_length, reBx_length]; omega), putBx_length, reBx_length, reBx_get, List.getElem?_drop] at hc'
   have hLj : L'.β[ι.length + (i - σ.bx.length)]? = some b := by
    rw [hm1, List.getElem?_append_right (by omega), hιl, Nat.add_sub_cancel_left, ← hbl]; exact hi
   cases hq : bx'[ι.length + (i - σ.bx.length)]? with
   | none => rw [hq] at hc'; cases hc'
   | some c0 =>
    rw [hq] at hc'; cases hc'
    obtain ⟨vs, ty, q1, q2, q3, q4⟩ := hbx'.box _ b c0 hLj hq
    exact ⟨vs, ty, q1, hup _ _ q2, q3, q4⟩
 ·rcases hL2 id _ ht with ⟨_, _, hj⟩ | ⟨hni, hj⟩
  ··refine (how'.own _ e k v hj).move fun gg hv q2 _ q7 => ⟨?_, rfl, hnewL _ e k v gg hj hv, fun _ h => h⟩
    rcases q2 with q2 | q2
    ·exact hg.fit.base gg q2
    ·exact (hg.turf (hturf gg q2)).1
  ··refine (hg.fit.owns.own id e k v hj).move fun gg hv q2 hlt q7 => ?_
    obtain ⟨k1, k2⟩ := hsame gg hlt (hnotT id e k v gg hni hj hv)
    refine ⟨q2, k1, fun hx => ?_, fun o ho => (k2 o).2 ho⟩
    rcases List.mem_append.1 hx with hx | hx
    ·exact q7 hx
    ·have := hm2 gg hx; omega
 ·rcases hL2 id _ ht with ⟨p1, p2, hj⟩ | ⟨hni, hj⟩ <;> rcases hL2 id' _ ht' with ⟨p1', p2', hj'⟩ | ⟨hni', hj'⟩
  ·have := how'.apart _ _ e k v e' k' v' b hj hj' hv hv'; omega
  ·exfalso
   rcases (hnewB _ e k v b hj hv).1 with q | ⟨i, e2, k2, v2, hik, hti, hvi⟩
   ·have := (hownOld id' e' k' v' b hj' hv').2.1; omega
   ·have := hg.fit.owns.apart i id' e2 k2 v2 e' k' v' b hti hj' hvi hv'
    subst this; exact hni' hik
  ·exfalso
   rcases (hnewB _ e' k' v' b hj' hv').1 with q | ⟨i, e2, k2, v2, hik, hti, hvi⟩
   ·have := (hownOld id e k v b hj hv).2.1; omega
   ·have := hg.fit.owns.apart i id e2 k2 v2 e k v b hti hj hvi hv
    subst this; exact hni hik
  ·exact hg.fit.owns.apart id id' e k v e' k' v' b hj hj' hv hv'
 ·rcases hL2 id _ ht with ⟨_, _, hj⟩ | ⟨hni, hj⟩
  ·rcases (hnewB _ e k v b hj hv).1 with q | ⟨i, e2, k2, v2, hik, hti, hvi⟩
   ·exact .inr q
   ·exact .inl ⟨i, e2, k2, v2, hti, hvi⟩
  ·exact .inl ⟨id, e, k, v, hj, hv⟩
 ·show (if σ.nx ≤ id ∧ id < σ.nx + n then _ else if id ∈ κ then none else L.T id) = none
  rw [if_neg (by omega)]
  split
  ·rfl
  ·exact hg.free id (by omega)
 ·show Rep R' L2 (getC (reTm some (keepO κ) σ.tm) t) _
  rw [getC_re]
  exact Rep.re hn.ext hkeep1 hkeep2 _ _ (h.tm t)
theorem callB_after {c : Call} {f : Operand} (ho : o.op = .call c) (hc : c.callee = .value f) {fid : FuncId} {first cap : List C} (hev : evOf G σ.tm f = .clo (.func fid) first cap) {K : C → St → Prop} (h : InvV G E σ a R L)
  (hK : aCallB0 P G fid (first ++ c.args.toList.map (evOf G σ.tm) ++ cap) σ K) : Runs P o a.eval R.w (After G E a K) := by
 obtain ⟨ι, κ, r, bx', n, hι, hκ, hιb, hf, hK⟩ := hK
 exact callX_after ho hc hev h ⟨ι, κ, _, hι, hκ, hιb, hf, by rintro r' b' n' ⟨rfl, rfl, rfl⟩; exact hK⟩
def ExtC (P : Program) (f : FuncId) (args : List C) (bx : List (List C)) (r : C) : Prop :=
 ∀ (B : Nat → Prop) (R : Env) (L : Loc) (vs : List Value), BoxesOk R L bx → OwnsOk B R L → RepL R L args vs → ∃ v, (callFunc f vs.toArray).run P R.w = .ok (.value v) R.w ∧ Rep R L r v
def aCallO (P : Program) (f : FuncId) (args : List C) (σ : St) (K : C → St → Prop) : Prop := ∃ r, ExtC P f args σ.bx r ∧ K r σ
theorem callO_after {c : Call} {f : Operand} (ho : o.op = .call c) (hc : c.callee = .value f) {fid : FuncId} {first cap : List C} (hev : evOf G σ.tm f = .clo (.func fid) first cap) {K : C → St → Prop} (h : InvV G E σ a R L)
  (hK : aCallO P fid (first ++ c.args.toList.map (evOf G σ.tm) ++ cap) σ K) : Runs P o a.eval R.w (After G E a K) := by
 obtain ⟨r, hr, hK⟩ := hK
 have hf := h.ev f
 rw [hev, rep_clo] at hf
 obtain ⟨fs, cs, e1, h1, h2⟩ := hf
 obtain ⟨v, hv, hrep⟩ := hr _ R L _ h.good.fit.boxes h.good.fit.owns (repL_append (repL_append h1 (repL_map h.ev c.args.toList)) h2)
 refine Runs.value (w' := R.w) (v := v) ?_ ⟨_, _, R, L, rfl, h, hrep, hK⟩
 unfold execOp
 simp only [ho, resolve, hc, e1]
 have e2 : (Deferred.ofValue (.func (.func fid) fs cs) (c.args.map a.eval)).run P R.w = .ok { target := .fn (.func fid) cs, args := fs ++ c.args.map a.eval } R.w := by
  simp [Deferred.ofValue]
 rw [Sem.run_bind, e2]
 simp only [Result.andThen_ok, invoke]
 rw [← hv]
 congr 2
 apply Array.ext'
 simp
end
end Go.Proofs.YtbphobmohdclaaaGreatDoor.Vcg
end
section
set_option linter.unusedVariables false
set_option linter.unusedSimpArgs false
namespace Go.Proofs.YtbphobmohdclaaaGreatDoor.Vcg
open Go.RowKit
section
variable {P : Program} {G : Globs} {E : Ctx} {σ : St} {o : Oper} {a : Act}
theorem InvV.newBoxW {R : Env} {L : Loc} (h : InvV G E σ a R L) {w' : World} (hb : Below R.w.heap.size R.w w') {g : Nat} (hg : R.w.heap.size ≤ g) (cs : List C) (vs : Array Value) (ty : TypeId) (hh : w'.heap[g]? = some (.cells vs ty (0, 0)))
  (hr : ∀ M', (∀ b o, b < R.w.heap.size → (M' b o ↔ R.M b o)) → (∀ o, M' g o) → (∀ b o, R.w.heap.size ≤ b → b ≠ g → ¬ M' b o) → RepL ⟨w', M', R.F⟩ L cs vs.toList) (h1 : ∀ v ∈ vs.toList, v.oneCell' = true) :
  ∃ R' L', R'.w = w' ∧ InvV G E ⟨σ.tm, σ.bx ++ [cs], σ.nx, σ.lg⟩ a R' L' ∧ L'.β[σ.bx.length]? = some g := by
 have hmt : ∀ b o, b < R.w.heap.size → (((b < R.w.heap.size ∧ R.M b o) ∨ b = g) ↔ R.M b o) := fun b o hlt => ⟨fun h' => by rcases h' with h' | h'; exact h'.2; omega, fun h' => .inl ⟨hlt, h'⟩⟩
 have hext : Ext R ⟨w', fun b o => (b < R.w.heap.size ∧ R.M b o) ∨ b = g, R.F⟩ := Ext.of_below hb hmt
 have hnear : Near E.w0 E.ex R ⟨w', fun b o => (b < R.w.heap.size ∧ R.M b o) ∨ b = g, R.F⟩ :=
  ⟨hb.os, hb.tape, hb.output, hb.size, rfl, hext, fun b hlt => .inl ⟨hb.block b hlt, fun o => hmt b o hlt⟩⟩
 have hlen := h.good.fit.boxes.len
 have hle : LocLe L ⟨L.β ++ [g], L.T⟩ := ⟨fun i b e => by
  have hi : i < L.β.length := (List.getElem?_eq_some_iff.1 e).1
  rw [List.getElem?_append_left hi]; exact e, fun _ _ e => e⟩
 have hrr := hr (fun b o => (b < R.w.heap.size ∧ R.M b o) ∨ b = g) hmt (fun o => .inr rfl) (fun b o hb' hne hx => by rcases hx with hx | hx; omega; exact hne hx)
 refine ⟨⟨w', fun b o => (b < R.w.heap.size ∧ R.M b o) ∨ b = g, R.F⟩, ⟨L.β ++ [g], L.T⟩, rfl,
  ⟨h.good.move hnear.nigh ⟨h.good.fit.glob.ext hext, ⟨by simp [hlen], ?_, fun i b cs' hi hc => ?_⟩, ⟨fun id e k v ht => ?_, fun id id' e k v e' k' v' b => h.good.fit.owns.apart id id' e k v e' k' v' b⟩, fun g hg => ?_⟩
   ⟨[g], rfl, fun b hb => by simp at hb; omega⟩ (fun id e k v b ht hv => .inl ⟨id, e, k, v, ht, hv⟩) h.good.free, h.size, h.df.near hnear, fun t => Rep.ext hext hle _ _ (h.tm t)⟩, ?_⟩
 ·rw [List.nodup_append]
  refine ⟨h.good.fit.boxes.nodup, by simp, fun x hx y hy e => ?_⟩
  have := h.good.fit.β_lt x hx
  simp at hy; omega
 ·rcases Nat.lt_or_ge i L.β.length with hl | hl
  ·rw [List.getElem?_append_left hl] at hi
   rw [List.getElem?_append_left (by omega)] at hc
   obtain ⟨us, ty', e1, e2, e3, e4⟩ := h.good.fit.boxes.box i b cs' hi hc
   exact ⟨us, ty', (hb.block b (heap_lt e1)).trans e1, RepL.ext hext hle _ _ e2, e3, fun o => .inl ⟨heap_lt e1, e4 o⟩⟩
  ·rw [List.getElem?_append_right hl] at hi
   rw [List.getElem?_append_right (by omega)] at hc
   have h0 : i - L.β.length = 0 := by
    have := (List.getElem?_eq_some_iff.1 hi).1
    simp at this; omega
   rw [h0] at hi
   rw [show i - σ.bx.length = 0 by omega] at hc
   simp at hi hc
   subst hi hc
   exact ⟨vs, ty, hh, RepL.ext (Ext.refl _) hle _ _ hrr, h1, fun o => .inr rfl⟩
 ·refine (h.good.fit.owns.own id e k v ht).move fun g' _ e2 hlt e7 => ⟨e2, hb.block g' hlt, fun hx => ?_, fun o ho => .inl ⟨hlt, ho⟩⟩
  rcases List.mem_append.1 hx with hx | hx
  ·exact e7 hx
  ·simp at hx; omega
 ·exact h.good.fit.base g (Nat.le_trans hb.size hg)
 ·simp [hlen]
def aBuildBox (P : Program) (t : TypeId) (n : Nat) (parts : List (Nat × C)) (σ : St) (K : C → St → Prop) : Prop :=
 match lay P t with
 | some ⟨.slice e, _, _, _⟩ => match lay P e with
  | some ⟨_, k, _, some z⟩ => z.length = k ∧ 0 < k ∧ n * k ≤ 16777216 ∧ (parts.all fun p => p.2.frz.partB) = true ∧ match aFill (fun i => some (i * k, k)) (List.replicate n (z.map ofConst)).flatten (parts.map fun p => (p.1, p.2.frz)) with
   | some cs => (cs.all C.cellB) = true ∧ cs.length = n * k ∧ K (.bs σ.bx.length 0 k n n) ⟨σ.tm, σ.bx ++ [cs], σ.nx, σ.lg⟩
   | none => False
  | _ => False
 | _ => False
theorem buildBox_after {t : TypeId} {n : Nat} {parts : Array (Nat × Operand)} (ho : o.op = .buildSlice t n parts) {K : C → St → Prop} {R : Env} {L : Loc} (hI : InvV G E σ a R L) (h : aBuildBox P t n (parts.toList.map fun p => (p.1, evOf G σ.tm p.2)) σ K) : Runs P o a.eval R.w (After G E a K) := by
 unfold aBuildBox at h
 split at h
 ·rename_i e s b zz hl
  have ht := lay_slice hl rfl
  split at h
  ·rename_i kd k by' z hle
   obtain ⟨hzk, hk0, hsz, hall, h⟩ := h
   split at h
   ·rename_i cs hfill
    obtain ⟨hcb, hlen, hK⟩ := h
    obtain ⟨i, d, hi, hd, h1, h2, h3, h4⟩ := lay_spec hle
    cases hiz : i.zero with
    | none => simp [hiz] at h4
    | some zv =>
     simp only [hiz, Option.map_some, Option.some.injEq] at h4
     subst h4
     have hzs : zv.cells.size = k := by simpa using hzk
     obtain ⟨us, g1, g2⟩ := run_fill (R := R) (L := noLoc) (fun i => some (i * k, k)) ((parts.toList.map fun p => (p.1, evOf G σ.tm p.2)).map fun p => (p.1, p.2.frz)) (parts.toList.map fun p => (p.1, a.eval p.2)) _ ((Array.range (n * k)).map (zv.cells[· % zv.cells.size]!)) cs
      (zeros_rep zv.cells k n hzs hk0) (by simp) (frz_parts noLoc _ _ (repL_parts hI.ev _)) (fun p hp => by
       obtain ⟨q, hq, rfl⟩ := List.mem_map.1 hp
       exact List.all_eq_true.1 hall q hq) hfill
     have husz : us.size = n * k := by have := repL_length g2; simp at this; omega
     have hrun : (execOp a.eval o).run P R.w = .ok (.value (.slice (some ⟨R.w.heap.size, 0, none⟩) n n)) (R.w.alloc (.cells us e)) := by
      have hss : (sizeOf e).run P R.w = .ok k R.w := by simp [sizeOf, typeInfo, hi, ← h2]
      have hzz : (zeroValue e).run P R.w = .ok zv R.w := by simp [zeroValue, typeInfo, hi, hiz]
      unfold execOp
      simp only [ho, Instr.buildSlice, Sem.run_bind, run_underlying ht, Result.andThen_ok, hss]
      rw [if_neg (show ¬ n * k > 2 ^ 24 by omega)]
      by_cases hn : n * k = 0
      ·have hn0 : n = 0 := by
        rcases Nat.mul_eq_zero.1 hn with h | h
        ·exact h
        ·omega
       subst hn0
       have hz0 : (Array.map (fun x => (#[] : Array Value)[x % (#[] : Array Value).size]!) (Array.range (0 * k))) = (Array.range (0 * k)).map (zv.cells[· % zv.cells.size]!) := by simp [Array.range_zero']
       simp only [if_pos hn, Sem.run_pure, Sem.run_bind, Result.andThen_ok, hz0, Array.toList_map, g1]
       simp [newRow]
      ·simp only [if_neg hn, Sem.run_pure, Sem.run_bind, Result.andThen_ok, hzz, Array.toList_map, g1]
       simp [newRow]
     have hbel : Below R.w.heap.size R.w (R.w.alloc (.cells us e)) := (Below.refl _ _).alloc (Nat.le_refl _) _
     obtain ⟨R', L', e1, e2, e3⟩ := hI.newBoxW hbel (Nat.le_refl _) cs us e (heap_alloc_new _ _) (fun M' hM _ _ => RepL.ext (R := R) (Ext.of_below hbel hM) (LocLe.none L) _ _ g2) (repL_one g2 hcb)
     exact Runs.value hrun ⟨_, _, R', L', e1, e2, rep_bs.2 ⟨_, e3, _, rfl, fun _ => rfl⟩, hK⟩
   ·exact h.elim
  ·exact h.elim
 ·exact h.elim
def aMakeBox (P : Program) (t : TypeId) (l c : C) (σ : St) (K : C → St → Prop) : Prop :=
 match lay P t, l, c with
 | some ⟨.slice e, _, _, _⟩, .sc (.int _ l), .sc (.int _ c) => match lay P e with
  | some ⟨_, k, by', some z⟩ => z.length = k ∧ 0 < k ∧ (z.all Value.oneCell') = true ∧ 0 ≤ l ∧ l ≤ c ∧ (by' : Int) * c ≤ 281474976710656 ∧ c ≤ 9223372036854775807 ∧ K (.bs σ.bx.length 0 k l.toNat c.toNat) ⟨σ.tm, σ.bx ++ [(List.replicate c.toNat (z.map ofConst)).flatten], σ.nx, σ.lg⟩
  | _ => False
 | _, _, _ => False
theorem makeBox_after {t : TypeId} {l c : Operand} (ho : o.op = .makeSlice t l c) {K : C → St → Prop} {R : Env} {L : Loc} (hI : InvV G E σ a R L) (h : aMakeBox P t (evOf G σ.tm l) (evOf G σ.tm c) σ K) : Runs P o a.eval R.w (After G E a K) := by
 unfold aMakeBox at h
 split at h
 ·rename_i e s b zz k1 l' k2 c' hl hev1 hev2
  have ht := lay_slice hl rfl
  split at h
  ·rename_i kd k by' z hle
   obtain ⟨hzk, hk0, hone, h0, hlc, hby, h63, hK⟩ := h
   obtain ⟨i, d, hi, hd, h1, h2, h3, h4⟩ := lay_spec hle
   cases hiz : i.zero with
   | none => simp [hiz] at h4
   | some zv =>
    simp only [hiz, Option.map_some, Option.some.injEq] at h4
    subst h4
    have hzs : zv.cells.size = k := by simpa using hzk
    have hx := hI.ev l; rw [hev1, rep_sc] at hx
    have hy := hI.ev c; rw [hev2, rep_sc] at hy
    have hrun := run_make (P := P) R.w t e i zv ht hi hiz k1 k2 l' c' h0 hlc (by rw [← h3]; exact hby) h63
    have hrep := zeros_rep (R := R) (L := noLoc) zv.cells k c'.toNat hzs hk0
    have hks : i.size = k := h2.symm
    have hbel : Below R.w.heap.size R.w (R.w.alloc (.cells (madeCells zv.cells (c'.toNat * k)) e)) := (Below.refl _ _).alloc (Nat.le_refl _) _
    obtain ⟨R', L', e1, e2, e3⟩ := hI.newBoxW hbel (Nat.le_refl _) ((List.replicate c'.toNat (zv.cells.toList.map ofConst)).flatten) (madeCells zv.cells (c'.toNat * k)) e (heap_alloc_new _ _) (fun M' hM _ _ => RepL.ext (R := R) (Ext.of_below hbel hM) (LocLe.none L) _ _ hrep)
     (fun v hv => by
      simp only [madeCells, Array.toList_map, List.mem_map] at hv
      obtain ⟨p, hp, rfl⟩ := hv
      have hm : p % zv.cells.size < zv.cells.size := Nat.mod_lt _ (by omega)
      rw [getElem!_pos zv.cells _ hm]
      exact List.all_eq_true.1 hone _ (by simp))
    refine Runs.value ?_ ⟨_, _, R', L', e1, e2, rep_bs.2 ⟨_, e3, _, rfl, fun _ => rfl⟩, hK⟩
    unfold execOp
    simp only [ho, hx, hy]
    rw [Sem.run_bind, hrun, hks]; rfl
  ·exact h.elim
 ·exact h.elim
theorem Good.moveB {R R' : Env} {L L' : Loc} {tm' : List (Nat × C)} {bx' : List (List C)} {nx' : Nat} (h : Good G E σ R L) (hn : Nigh E.w0 E.ex R R') (hf : Fit G E.tu bx' R' L')
  (hbox : ∃ more, L'.β = E.β0 ++ more) (htub : ∀ b ∈ L'.β, b ∈ L.β ∨ R.w.heap.size ≤ b)
  (hown : ∀ id e k v b, L'.T id = some (e, k, v) → v.ownB = some b → (∃ i e' k' v', L.T i = some (e', k', v') ∧ v'.ownB = some b) ∨ R.w.heap.size ≤ b)
  (hfree : ∀ id, nx' ≤ id → L'.T id = none) : Good G E ⟨tm', bx', nx', σ.lg⟩ R' L' := by
 refine ⟨hf, hn.os.trans h.os, hn.tape.trans h.tape, hn.output.trans h.output, Nat.le_trans h.size hn.size, fun b hb hx hF => ?_, h.ext.trans hn.ext, hbox, fun b hb => ?_, fun b hF => ?_, fun b hb => by rw [hn.fgn]; exact h.fz b hb, fun b hb hF => ?_, fun id e k v b ht hv hF => ?_, hfree, E.stab _ _ _ h.log hn⟩
 ·rw [hn.fgn] at hF
  obtain ⟨g1, g2⟩ := h.blk b hb hx hF
  rcases hn.blk b (Nat.lt_of_lt_of_le hb h.size) with ⟨k1, k2⟩ | ⟨k1, _⟩
  ·exact ⟨k1.trans g1, fun o => (k2 o).trans (g2 o)⟩
  ·rcases k1 with k1 | k1
   ·omega
   ·exact absurd k1 hx
 ·rcases htub b hb with hb | hb
  ·exact h.tub b hb
  ·exact .inl (Nat.le_trans h.size hb)
 ·rw [hn.fgn] at hF; exact Nat.lt_of_lt_of_le (h.flt b hF) hn.size
 ·rw [hn.fgn] at hF
  rcases htub b hb with hb | hb
  ·exact h.fbx b hb hF
  ·have := h.flt b hF; omega
 ·rw [hn.fgn] at hF
  rcases hown id e k v b ht hv with ⟨i, e', k', v', g1, g2⟩ | g
  ·exact h.fow i e' k' v' b g1 g2 hF
  ·have := h.flt b hF; omega
def fpBut (i j : Nat) : Option Nat := if j = i then none else some j
def butBx (i : Nat) (cs : List C) (bx : List (List C)) : List (List C) := (reBx (fpBut i) some bx).set i cs
theorem InvV.reBox {R : Env} {L : Loc} (h : InvV G E σ a R L) {i : Nat} (hi0 : E.β0.length ≤ i) (hil : i < σ.bx.length) {w' : World} (hb : Below R.w.heap.size R.w w') {g : Nat} (hg : R.w.heap.size ≤ g) (cs : List C) (vs : Array Value) (ty : TypeId) (hh : w'.heap[g]? = some (.cells vs ty (0, 0)))
  (hr : ∀ M', (∀ b o, b < R.w.heap.size → (M' b o ↔ R.M b o)) → RepL ⟨w', M', R.F⟩ ⟨L.β.set i g, L.T⟩ cs vs.toList) (h1 : ∀ v ∈ vs.toList, v.oneCell' = true) :
  ∃ R' L', R'.w = w' ∧ InvV G E ⟨reTm (fpBut i) some σ.tm, butBx i cs σ.bx, σ.nx, σ.lg⟩ a R' L' ∧ L'.β[i]? = some g := by
 have hmt : ∀ b o, b < R.w.heap.size → (((b < R.w.heap.size ∧ R.M b o) ∨ b = g) ↔ R.M b o) := fun b o hlt => ⟨fun h' => by rcases h' with h' | h'; exact h'.2; omega, fun h' => .inl ⟨hlt, h'⟩⟩
 have hext : Ext R ⟨w', fun b o => (b < R.w.heap.size ∧ R.M b o) ∨ b = g, R.F⟩ := Ext.of_below hb hmt
 have hnear : Near E.w0 E.ex R ⟨w', fun b o => (b < R.w.heap.size ∧ R.M b o) ∨ b = g, R.F⟩ :=
  ⟨hb.os, hb.tape, hb.output, hb.size, rfl, hext, fun b hlt => .inl ⟨hb.block b hlt, fun o => hmt b o hlt⟩⟩
 have hlen := h.good.fit.boxes.len
 have hrr := hr (fun b o => (b < R.w.heap.size ∧ R.M b o) ∨ b = g) hmt
 have hβ : ∀ j q b, fpBut i j = some q → L.β[j]? = some b → (Loc.mk (L.β.set i g) L.T).β[q]? = some b := fun j q b hq hb => by
  unfold fpBut at hq
  split at hq
  ·cases hq
  ·rename_i hne
   cases hq
   show (L.β.set i g)[j]? = some b
   rw [List.getElem?_set_ne (fun e => hne e.symm)]; exact hb
 have hT : ∀ j q x, (some j : Option Nat) = some q → L.T j = some x → (Loc.mk (L.β.set i g) L.T).T q = some x := fun j q x hq hx => by cases hq; exact hx
 have hget : (L.β.set i g)[i]? = some g := List.getElem?_set_self (by omega)
 refine ⟨⟨w', fun b o => (b < R.w.heap.size ∧ R.M b o) ∨ b = g, R.F⟩, ⟨L.β.set i g, L.T⟩, rfl,
  ⟨h.good.moveB hnear.nigh ⟨h.good.fit.glob.ext hext, ⟨by simp [butBx, reBx_length, hlen], ?_, fun j b cs' hj hc => ?_⟩, ⟨fun id e k v ht => ?_, fun id id' e k v e' k' v' b => h.good.fit.owns.apart id id' e k v e' k' v' b⟩, fun g hg => ?_⟩ ?_ (fun b hb => ?_) (fun id e k v b ht hv => .inl ⟨id, e, k, v, ht, hv⟩) h.good.free, h.size, h.df.near hnear, fun t => ?_⟩, hget⟩
 ·show (L.β.set i g).Nodup
  have hnd := h.good.fit.boxes.nodup
  rw [List.Nodup, List.pairwise_iff_getElem] at hnd ⊢
  intro x y hx hy hxy
  rw [List.length_set] at hx hy
  have hxl := h.good.fit.β_lt _ (List.getElem_mem hx)
  have hyl := h.good.fit.β_lt _ (List.getElem_mem hy)
  rw [List.getElem_set, List.getElem_set]
  split <;> split
  ·omega
  ·omega
  ·omega
  ·exact hnd x y hx hy hxy
 ·have hj : (L.β.set i g)[j]? = some b := hj
  by_cases hji : i = j
  ·subst hji
   rw [hget] at hj
   cases hj
   rw [butBx, List.getElem?_set_self (by rw [reBx_length]; exact hil)] at hc
   cases hc
   exact ⟨vs, ty, hh, hrr, h1, fun o => .inr rfl⟩
  ·rw [List.getElem?_set_ne hji] at hj
   rw [butBx, List.getElem?_set_ne hji, reBx_get] at hc
   cases hq : σ.bx[j]? with
   | none => rw [hq] at hc; cases hc
   | some c0 =>
    rw [hq] at hc; cases hc
    obtain ⟨us, ty', e1, e2, e3, e4⟩ := h.good.fit.boxes.box j b c0 hj hq
    exact ⟨us, ty', (hb.block b (heap_lt e1)).trans e1, RepL.re hext hβ hT _ _ e2, e3, fun o => .inl ⟨heap_lt e1, e4 o⟩⟩
 ·refine (h.good.fit.owns.own id e k v ht).move fun g' _ e2 hlt e7 => ⟨e2, hb.block g' hlt, fun hx => ?_, fun o ho => .inl ⟨hlt, ho⟩⟩
  have hx : g' ∈ L.β.set i g := hx
  rcases List.mem_or_eq_of_mem_set hx with hx | hx
  ·exact e7 hx
  ·omega
 ·exact h.good.fit.base g (Nat.le_trans hb.size hg)
 ·obtain ⟨more, hm⟩ := h.good.box
  refine ⟨more.set (i - E.β0.length) g, ?_⟩
  show L.β.set i g = _
  rw [hm, List.set_append_right _ _ hi0]
 ·have hb' : b ∈ L.β.set i g := hb
  rcases List.mem_or_eq_of_mem_set hb' with hx | hx
  ·exact .inl hx
  ·exact .inr (by omega)
 ·rw [getC_re]
  exact Rep.re hext hβ hT _ _ (h.tm t)
theorem fpBut_box {L : Loc} {i g : Nat} : ∀ (j q b : Nat), fpBut i j = some q → L.β[j]? = some b → (Loc.mk (L.β.set i g) L.T).β[q]? = some b := fun j q b hq hb => by
 unfold fpBut at hq
 split at hq
 ·cases hq
 ·rename_i hne
  cases hq
  show (L.β.set i g)[j]? = some b
  rw [List.getElem?_set_ne (fun e => hne e.symm)]; exact hb
theorem fpBut_same {L : Loc} {i : Nat} : ∀ (j q b : Nat), fpBut i j = some q → L.β[j]? = some b → L.β[q]? = some b := fun j q b hq hb => by
 unfold fpBut at hq
 split at hq
 ·cases hq
 ·cases hq; exact hb
theorem some_own {L L' : Loc} (h : ∀ i, L'.T i = L.T i) : ∀ (i j : Nat) x, (some i : Option Nat) = some j → L.T i = some x → L'.T j = some x := fun i j x hij hx => by cases hij; rw [h]; exact hx
theorem InvV.lessB {R : Env} {L : Loc} (h : InvV G E σ a R L) (tm' : List (Nat × C)) (bx' : List (List C)) (hl : bx'.length = σ.bx.length) (ht : ∀ t v, Rep R L (getC σ.tm t) v → Rep R L (getC tm' t) v)
  (hb : ∀ (i : Nat) cs cs' vs, σ.bx[i]? = some cs → bx'[i]? = some cs' → RepL R L cs vs → RepL R L cs' vs) : InvV G E ⟨tm', bx', σ.nx, σ.lg⟩ a R L := by
 have g := h.good
 refine ⟨⟨⟨g.fit.glob, ⟨by rw [hl]; exact g.fit.boxes.len, g.fit.boxes.nodup, fun i b cs' hi hc => ?_⟩, g.fit.owns, g.fit.base⟩, g.os, g.tape, g.output, g.size, g.blk, g.ext, g.box, g.tub, g.flt, g.fz, g.fbx, g.fow, g.free, g.log⟩, h.size, h.df, fun t => ht t _ (h.tm t)⟩
 have hi' : i < σ.bx.length := by rw [← hl]; exact (List.getElem?_eq_some_iff.1 hc).1
 obtain ⟨vs, ty, e1, e2, e3, e4⟩ := g.fit.boxes.box i b _ hi (List.getElem?_eq_getElem hi')
 exact ⟨vs, ty, e1, hb i _ _ _ (List.getElem?_eq_getElem hi') hc e2, e3, e4⟩
theorem repL_any {R : Env} {L : Loc} : ∀ vs : List Value, RepL R L (List.replicate vs.length .any) vs
 | [] => repL_nil.2 rfl
 | v :: r => repL_cons.2 ⟨v, r, rfl, by unfold Rep; trivial, repL_any r⟩
def C.xs? (k : Nat) (bx : List (List C)) : C → Option (Nat × List C)
 | .bs i off k' n _ => if k' = k then (bx[i]?).bind fun cs => if off + n * k ≤ cs.length then some (n, (cs.drop off).take (n * k)) else none else none
 | c => (c.rows? k).map fun rows => (rows.length, rows.flatten)
theorem xs_vals {B : Nat → Prop} {bx : List (List C)} {R : Env} {L : Loc} {c : C} {v : Value} {k m : Nat} {xs : List C} (hf : Fit G B bx R L) (h : Rep R L c v) (hx : c.xs? k bx = some (m, xs)) :
    ∃ ad cap, v = .slice ad m cap ∧ (0 < m → ∃ b off news, ad = some ⟨b, off, none⟩ ∧ news.length = m * k ∧ (∀ (j : Nat) u, news[j]? = some u → R.w.cell? ((⟨b, off, none⟩ : Addr).add j) = some u) ∧ RepL R L xs news ∧ ∀ u ∈ news, u.oneCell' = true) := by
  have hrows : ∀ rows, c.rows? k = some rows → (rows.length, rows.flatten) = (m, xs) → ∃ ad cap, v = .slice ad m cap ∧ (0 < m → ∃ b off news, ad = some ⟨b, off, none⟩ ∧ news.length = m * k ∧ (∀ (j : Nat) u, news[j]? = some u → R.w.cell? ((⟨b, off, none⟩ : Addr).add j) = some u) ∧ RepL R L xs news ∧ ∀ u ∈ news, u.oneCell' = true) := fun rows hr he => by
    cases he
    obtain ⟨ad, cap, e, h1, h2, h3⟩ := h.rows hr
    refine ⟨ad, cap, e, fun hm => ?_⟩
    rcases h3 with h3 | ⟨b, o, e, h3⟩
    · subst h3; cases hm
    · obtain ⟨g1, g2⟩ := repCells_flatten h3
      obtain ⟨news, n1, n2, n3⟩ := repCells_vals g1
      exact ⟨b, o, news, e, by rw [repL_length n2, g2], fun j u hj => by rw [Addr.add_none]; exact n1 j u hj, RepL.ext (Ext.refl R) (LocLe.none L) _ _ n2, n3⟩
  cases c with
  | bs i off k' n c' =>
    simp only [C.xs?] at hx
    split at hx
    · subst_vars
      cases hq : bx[i]? with
      | none => rw [hq] at hx; cases hx
      | some cs =>
        rw [hq] at hx
        simp only [Option.bind_some] at hx
        split at hx
        · rename_i hle
          cases hx
          obtain ⟨b, hb, ad, rfl, had⟩ := rep_bs.1 h
          obtain ⟨vs, ty, e1, e2, e3, e4⟩ := hf.boxes.box i b cs hb hq
          have hvl := repL_length e2
          refine ⟨_, _, rfl, fun hm => ⟨b, off, (vs.toList.drop off).take (m * k'), congrArg some (had (by omega)), by simp at hvl ⊢; omega, fun j u hj => ?_, repL_take _ (repL_drop _ e2), fun u hu => e3 u (List.mem_of_mem_drop (List.mem_of_mem_take hu))⟩⟩
          rw [Addr.add_none, cell_of_row R.w b (off + j) vs ty (0, 0) e1]
          rw [List.getElem?_take] at hj
          split at hj
          · rw [List.getElem?_drop] at hj; simpa using hj
          · cases hj
        · cases hx
    · cases hx
  | _ =>
    simp only [C.xs?] at hx
    first
    | (cases hq : C.rows? k _ with
       | none => rw [hq] at hx; cases hx
       | some rows => rw [hq] at hx; exact hrows rows hq (by simpa using hx))
def aAppBox (P : Program) (p : Nat) (t : TypeId) (s x : C) (σ : St) (K : C → St → Prop) : Prop :=
 match lay P t with
 | some ⟨.slice e, _, _, _⟩ => match lay P e with
  | some ⟨_, k, by', some z⟩ => match x.xs? k σ.bx with
   | some (m, xs) => z.length = k ∧ 0 < k ∧ (z.all Value.oneCell') = true ∧ 0 < m ∧ match s with
    | .sc (.slice none 0 0) => m ≤ 9223372036854775807 ∧ m * by' ≤ 140737488355328 ∧ ∀ c, m ≤ c → c ≤ maxLen → K (.bs σ.bx.length 0 k m c) ⟨σ.tm, σ.bx ++ [xs ++ List.replicate ((c - m) * k) .any], σ.nx, σ.lg⟩
    | .bs i 0 k' n c => match σ.bx[i]? with
     | some cs => k' = k ∧ p ≤ i ∧ cs.length = c * k ∧ n ≤ c ∧ c ≤ 9223372036854775807 ∧ n + m ≤ 9223372036854775807 ∧ (n + m) * by' ≤ 140737488355328 ∧
       ∀ c', n + m ≤ c' → c' ≤ maxLen → K (.bs i 0 k (n + m) c') ⟨reTm (fpBut i) some σ.tm, butBx i (C.reL (fpBut i) some (cs.take (n * k) ++ xs) ++ List.replicate ((c' - (n + m)) * k) .any) σ.bx, σ.nx, σ.lg⟩
     | none => False
    | _ => False
   | none => False
  | _ => False
 | _ => False
theorem zeroCells_one {zc : Array Value} (hz : (zc.toList.all Value.oneCell') = true) (n : Nat) : ∀ v ∈ (Builtin.zeroCells zc n).toList, v.oneCell' = true := by
 intro v hv
 simp only [Builtin.zeroCells, Array.toList_map, List.mem_map] at hv
 obtain ⟨i, hi, rfl⟩ := hv
 have hi' : i < n * zc.size := by simpa using hi
 have hpos : 0 < zc.size := by
  rcases Nat.eq_zero_or_pos zc.size with h | h
  ·rw [h] at hi'; omega
  ·exact h
 have hlt := Nat.mod_lt i hpos
 rw [getElem!_pos zc _ hlt]
 exact List.all_eq_true.1 hz _ (by simp)
theorem appBox_after {p : Nat} (hp : E.β0.length ≤ p) {t : TypeId} {s x : Operand} (ho : o.op = .call { callee := .builtin .append, args := #[s, x], argTypes := #[t, t] }) {K : C → St → Prop} {R : Env} {L : Loc} (h : InvV G E σ a R L) (hK : aAppBox P p t (evOf G σ.tm s) (evOf G σ.tm x) σ K) : Runs P o a.eval R.w (After G E a K) := by
 unfold aAppBox at hK
 split at hK
 ·rename_i e s1 b1 z1 hl
  have ht := lay_slice hl rfl
  split at hK
  ·rename_i kd k by' z hle
   obtain ⟨i, d, hi, hd, _, hsz, hbyt, hzz⟩ := lay_spec hle
   simp only at hsz hbyt hzz
   split at hK
   ·rename_i m xs hxs
    obtain ⟨hzk, hk0, hz1, hm, hK⟩ := hK
    have hexec : ∀ v' w', (Builtin.append_ #[t, t] o.type #[a.eval s, a.eval x]).run P R.w = .ok v' w' → (execOp a.eval o).run P R.w = .ok (.value v') w' := fun v' w' hrun => by
     unfold execOp
     simp only [ho, resolve, invoke, builtin, Sem.run_bind, Sem.run_pure, Result.andThen_ok, List.map_toArray, List.map_cons, List.map_nil, hrun]
    cases hiz : i.zero with
    | none => simp [hiz] at hzz
    | some zv =>
     simp only [hiz, Option.map_some, Option.some.injEq] at hzz
     have hzc : zv.cells.size = k := by rw [← hzk, hzz]; simp
     obtain ⟨ad, capx, ex, hx⟩ := xs_vals h.good.fit (h.ev x) hxs
     obtain ⟨bb, off, news, rfl, n1, n2, n3, n4⟩ := hx hm
     have hxl := repL_length n3
     have hzone : ∀ n, ∀ v ∈ (Builtin.zeroCells zv.cells n).toList, v.oneCell' = true := zeroCells_one (by rw [← hzz]; exact hz1)
     split at hK
     ·rename_i hev
      obtain ⟨h63, hby, hK⟩ := hK
      have hs := h.ev s; rw [hev, rep_sc] at hs
      have hrun := run_append_nil (P := P) R.w t o.type e i zv ht hi hiz ⟨bb, off, none⟩ m capx news (by rw [n1, hsz]) n2 hm (by omega) (by rw [← hbyt]; omega)
      rw [← hs, ← ex] at hrun
      have hge := grownCap_ge R.w m 0 e
      have hgm : grownCap R.w m 0 e ≤ maxLen := grownCap_le_maxLen _ _ _ _ (by unfold maxLen; omega)
      generalize grownCap R.w m 0 e = nc at hrun hge hgm
      have hb : Below R.w.heap.size R.w (R.w.drew.alloc (.cells (news.toArray ++ Builtin.zeroCells zv.cells (nc - m)) e)) := ((Below.refl _ _).drew).alloc (Nat.le_refl _) _
      have hzl : (Builtin.zeroCells zv.cells (nc - m)).toList.length = (nc - m) * k := by rw [Array.length_toList, size_zeroCells, hzc]
      obtain ⟨R', L', e1, e2, e3⟩ := h.newBoxW hb (Nat.le_refl _) (xs ++ List.replicate ((nc - m) * k) .any) (news.toArray ++ Builtin.zeroCells zv.cells (nc - m)) e (heap_alloc_new R.w.drew _) (fun M' hM _ _ => by
       simp only [Array.toList_append]
       refine repL_append (RepL.ext (R := R) (Ext.of_below hb hM) (LocLe.refl L) _ _ n3) ?_
       rw [← hzl]; exact repL_any _) (fun v hv => by
       simp only [Array.toList_append] at hv
       rcases List.mem_append.1 hv with hv | hv
       ·exact n4 v hv
       ·exact hzone _ v hv)
      exact Runs.value (hexec _ _ hrun) ⟨_, _, R', L', e1, e2, rep_bs.2 ⟨_, e3, _, rfl, fun _ => rfl⟩, hK nc hge hgm⟩
     ·rename_i bi k' n c hev
      split at hK
      ·rename_i cs hcs
       obtain ⟨rfl, hpi, hcl, hnc, hcm, h63, hby, hK⟩ := hK
       have hs := h.ev s; rw [hev, rep_bs] at hs
       obtain ⟨b, hb, ad0, es, had0⟩ := hs
       obtain ⟨vs, ty, e1, e2, e3, e4⟩ := h.good.fit.boxes.box bi b cs hb hcs
       have hvl := repL_length e2
       have hvs : vs.size = c * k' := by simpa [hcl] using hvl
       have hbil : bi < σ.bx.length := (List.getElem?_eq_some_iff.1 hcs).1
       have hnk : n * k' ≤ c * k' := Nat.mul_le_mul_right _ hnc
       have hadd : (n + m) * k' = n * k' + m * k' := Nat.add_mul _ _ _
       by_cases hroom : n + m ≤ c
       ·have hck : (n + m) * k' ≤ c * k' := Nat.mul_le_mul_right _ hroom
        obtain rfl := had0 (by omega)
        have hrun := run_append_roomT (P := P) (ty := o.type) ht hi R.w b n c vs ty e1 ⟨bb, off, none⟩ m capx news (by rw [n1, hsz]) n2 n4 hroom (by rw [← hsz]; omega)
        rw [← hsz, ← es, ← ex] at hrun
        have hA : (cs.take (n * k') ++ xs).length = n * k' + m * k' := by simp; omega
        have hinv := h.setBox hb hcs e1 e4 (cs' := cs.take (n * k') ++ xs ++ cs.drop (n * k' + news.length)) (us := (vs.toList.take (n * k') ++ news ++ vs.toList.drop (n * k' + news.length)).toArray) (repL_append (repL_append (repL_take _ e2) n3) (repL_drop _ e2)) (fun v hv => by
         simp only [List.mem_append] at hv
         rcases hv with (hv | hv) | hv
         ·exact e3 v (List.mem_of_mem_take hv)
         ·exact n4 v hv
         ·exact e3 v (List.mem_of_mem_drop hv))
        have hinv2 := hinv.lessB (reTm (fpBut bi) some σ.tm) (butBx bi (C.reL (fpBut bi) some (cs.take (n * k') ++ xs) ++ List.replicate ((c - (n + m)) * k') .any) σ.bx) (by simp [butBx, reBx_length]) (fun t v hv => by
          rw [getC_re]; exact Rep.re (Ext.refl _) fpBut_same (some_own fun _ => rfl) _ _ hv) (fun j c1 c2 us hc1 hc2 hr => by
         by_cases hji : bi = j
         ·subst hji
          rw [List.getElem?_set_self hbil] at hc1
          rw [butBx, List.getElem?_set_self (by rw [reBx_length]; exact hbil)] at hc2
          cases hc1; cases hc2
          have hul := repL_length hr
          simp only [List.length_append] at hul hA
          have h1 := repL_take (n * k' + m * k') hr
          rw [List.take_left' (by simp only [List.length_append]; exact hA)] at h1
          have h2 := repL_any (R := ⟨R.w.setRow b (vs.toList.take (n * k') ++ news ++ vs.toList.drop (n * k' + news.length)).toArray, R.M, R.F⟩) (L := L) (us.drop (n * k' + m * k'))
          have hdl : (us.drop (n * k' + m * k')).length = (c - (n + m)) * k' := by
           rw [List.length_drop, hul, List.length_drop, hcl, n1, Nat.sub_mul, hadd]; omega
          rw [hdl] at h2
          have h3 := repL_append (RepL.re (fp := fpBut bi) (fo := some) (L' := L) (Ext.refl _) fpBut_same (some_own fun _ => rfl) _ _ h1) h2
          rwa [List.take_append_drop] at h3
         ·rw [List.getElem?_set_ne hji] at hc1
          rw [butBx, List.getElem?_set_ne hji, reBx_get, hc1] at hc2
          cases hc2
          exact RepL.re (Ext.refl _) fpBut_same (some_own fun _ => rfl) _ _ hr)
        exact Runs.value (hexec _ _ hrun) ⟨_, _, _, L, rfl, hinv2, rep_bs.2 ⟨_, hb, _, rfl, fun _ => rfl⟩, hK c hroom (by unfold maxLen; omega)⟩
       ·have hol : (vs.toList.take (n * k')).length = n * k' := by simp; omega
        have hrun := run_append_grow (P := P) R.w t o.type e i zv ht hi hiz ad0 n c (vs.toList.take (n * k')) (by rw [hol, hsz]) (fun j v hj => by
          obtain rfl := had0 (by
           rcases Nat.eq_zero_or_pos n with h0 | h0
           ·subst h0; simp at hj
           ·omega)
          rw [Addr.add_none, Nat.zero_add, cell_of_row R.w b j vs ty (0, 0) e1]
          rw [List.getElem?_take] at hj
          split at hj
          ·simpa using hj
          ·cases hj) ⟨bb, off, none⟩ m capx news (by rw [n1, hsz]) n2 (by omega) (by omega) (growslice_fits (by omega) (by rw [← hbyt]; exact hby))
        rw [← es, ← ex] at hrun
        have hge := grownCap_ge R.w (n + m) c e
        have hgm : grownCap R.w (n + m) c e ≤ maxLen := grownCap_le_maxLen _ _ _ _ (by unfold maxLen; omega)
        generalize grownCap R.w (n + m) c e = nc at hrun hge hgm
        have hbel : Below R.w.heap.size R.w (R.w.drew.alloc (.cells ((vs.toList.take (n * k')).toArray ++ news.toArray ++ Builtin.zeroCells zv.cells (nc - (n + m))) e)) := ((Below.refl _ _).drew).alloc (Nat.le_refl _) _
        have hzl : (Builtin.zeroCells zv.cells (nc - (n + m))).toList.length = (nc - (n + m)) * k' := by rw [Array.length_toList, size_zeroCells, hzc]
        obtain ⟨R', L', f1, f2, f3⟩ := h.reBox (Nat.le_trans hp hpi) hbil hbel (Nat.le_refl _) (C.reL (fpBut bi) some (cs.take (n * k') ++ xs) ++ List.replicate ((nc - (n + m)) * k') .any) ((vs.toList.take (n * k')).toArray ++ news.toArray ++ Builtin.zeroCells zv.cells (nc - (n + m))) e (heap_alloc_new R.w.drew _) (fun M' hM => by
         simp only [Array.toList_append]
         refine repL_append (RepL.re (R := R) (L := L) (Ext.of_below hbel hM) fpBut_box (some_own fun _ => rfl) _ _ (repL_append (repL_take _ e2) n3)) ?_
         rw [← hzl]; exact repL_any _) (fun v hv => by
         simp only [Array.toList_append, List.mem_append] at hv
         rcases hv with (hv | hv) | hv
         ·exact e3 v (List.mem_of_mem_take hv)
         ·exact n4 v hv
         ·exact hzone _ v hv)
        exact Runs.value (hexec _ _ hrun) ⟨_, _, R', L', f1, f2, rep_bs.2 ⟨_, f3, _, rfl, fun _ => rfl⟩, hK nc hge hgm⟩
      ·exact hK.elim
     ·exact hK.elim
   ·exact hK.elim
  ·exact hK.elim
 ·exact hK.elim
end
end Go.Proofs.YtbphobmohdclaaaGreatDoor.Vcg
end
section
set_option linter.unusedVariables false
set_option linter.unusedSimpArgs false
namespace Go.Proofs.YtbphobmohdclaaaGreatDoor.Vcg
open Go.RowKit
def C.flatB : C → Bool
 | .sc _ => true
 | .str _ => true
 | _ => false
mutual
/-- what leans on no memory but its own owners' -/
def C.freshB : C → Bool
 | .sc _ => true
 | .str _ => true
 | .agg cs => C.freshL cs
 | .tup cs => C.freshL cs
 | .own _ _ _ rows => rows.all fun r => r.all C.flatB
 | _ => false
def C.freshL : List C → Bool
 | [] => true
 | c :: r => c.freshB && C.freshL r
end
mutual
/-- what is lent: a slice over a box as the rows that stand there; all else as handed in by value -/
def lends (bx : List (List C)) : C → C → Prop
 | .bs i off k n c, d => ∃ rows cs, d = .sl k rows ∧ rows.length = n ∧ n ≤ c ∧ c ≤ maxLen ∧ bx[i]? = some cs ∧ (∀ r ∈ rows, r.length = k) ∧ C.frzL ((cs.drop off).take (n * k)) = rows.flatten
 | .agg cs, d => ∃ ds, d = .agg ds ∧ lendsL bx cs ds
 | .ptr i off, d => ∃ cs, bx[i]? = some cs ∧ d = .row ((C.frzL cs).drop off)
 | .clo fn first cap, d => ∃ fs cs, d = .clo fn fs cs ∧ lendsL bx first fs ∧ lendsL bx cap cs
 | c, d => d = c.frz
def lendsL (bx : List (List C)) : List C → List C → Prop
 | [], d => d = []
 | c :: r, d => ∃ e s, d = e :: s ∧ lends bx c e ∧ lendsL bx r s
end
section
variable {P : Program} {G : Globs} {E : Ctx} {σ : St} {o : Oper} {a : Act} {R R' : Env} {L L' : Loc} {bx : List (List C)} {B : Nat → Prop}
def lentE (R : Env) (L : Loc) : Env := ⟨R.w, fun b o => R.M b o ∧ b ∉ L.β, R.F⟩
theorem lentE_ext (R : Env) (L : Loc) : Ext R (lentE R L) := ⟨fun b o v h h' => ⟨h, fun x => h' x.1⟩, fun _ _ _ _ h h' => ⟨h, fun o x => h' o x.1⟩⟩
theorem flat_rep {c : C} {v : Value} (hc : c.flatB = true) (h : Rep R L c v) : Rep R' L' c v := by
 cases c <;> simp [C.flatB] at hc
 ·rw [rep_sc] at h ⊢; exact h
 ·rw [rep_str] at h ⊢; exact h
theorem frzL_get : ∀ (cs : List C) (i : Nat), (C.frzL cs)[i]? = (cs[i]?).map C.frz
 | [], i => by simp [C.frzL]
 | c :: r, 0 => by rw [C.frzL]; rfl
 | c :: r, i + 1 => by rw [C.frzL, List.getElem?_cons_succ, List.getElem?_cons_succ]; exact frzL_get r i
theorem lent_rows {rows : List (List C)} {cs : List C} {vs : Array Value} {ty : TypeId} {b off k n : Nat} (hh : R.w.heap[b]? = some (.cells vs ty (0, 0))) (hrep : RepL R L cs vs.toList) (hone : ∀ v ∈ vs.toList, v.oneCell' = true) (hb : b ∈ L.β)
  (hk : ∀ r ∈ rows, r.length = k) (hn : rows.length = n) (hflat : C.frzL ((cs.drop off).take (n * k)) = rows.flatten) : RepRows (lentE R L) rows k b off := by
 refine repRows_of_get fun i row hrow => ⟨hk row (List.mem_of_getElem? hrow), repCells_of_get fun j c hc => ?_⟩
 have hj : j < k := by rw [← hk row (List.mem_of_getElem? hrow)]; exact (List.getElem?_eq_some_iff.1 hc).1
 have hf := flatten_get hk i j row hrow hj
 rw [hc, ← hflat, frzL_get, List.getElem?_take] at hf
 split at hf
 ·rw [List.getElem?_drop, Option.map_eq_some_iff] at hf
  obtain ⟨c0, hf, rfl⟩ := hf
  obtain ⟨v, hv, hr⟩ := repL_get hrep _ _ hf
  refine ⟨v, ?_, fun h => h.2 hb, Rep.ext (lentE_ext R L) (LocLe.refl _) _ _ (Rep.frz noLoc _ _ hr), hone v (List.mem_of_getElem? hv)⟩
  show R.w.cell? _ = _
  rw [cell_of_row R.w b _ vs ty (0, 0) hh, show off + i * k + j = off + (i * k + j) by omega]
  simpa using hv
 ·cases hf
mutual
theorem lends_rep (hb : BoxesOk R L bx) : ∀ (c d : C) (v : Value), lends bx c d → Rep R L c v → Rep (lentE R L) noLoc d v
 | .bs i off k n cap, d, v, h, hv => by
  unfold lends at h
  obtain ⟨rows, cs, rfl, hn, hc, hm, hbx, hk, hflat⟩ := h
  unfold Rep at hv
  obtain ⟨b, hbi, ad, rfl, had⟩ := hv
  obtain ⟨vs, ty, e1, e2, e3, e4⟩ := hb.box i b cs hbi hbx
  unfold Rep
  refine ⟨some ad, cap, by rw [hn], by omega, hm, ?_⟩
  cases rows with
  | nil => exact .inl rfl
  | cons r0 rs => exact .inr ⟨b, off, congrArg some (had (by simp at hn; omega)), lent_rows e1 e2 e3 (List.mem_of_getElem? hbi) hk hn hflat⟩
 | .agg cs, d, v, h, hv => by
  unfold lends at h
  obtain ⟨ds, rfl, h⟩ := h
  unfold Rep at hv ⊢
  obtain ⟨vs, e, hl⟩ := hv
  exact ⟨vs, e, lendsL_rep hb cs ds _ h hl⟩
 | .sc u, d, v, h, hv => by unfold lends at h; subst h; exact Rep.ext (lentE_ext R L) (LocLe.refl _) _ _ (Rep.frz noLoc _ _ hv)
 | .str u, d, v, h, hv => by unfold lends at h; subst h; exact Rep.ext (lentE_ext R L) (LocLe.refl _) _ _ (Rep.frz noLoc _ _ hv)
 | .tup u, d, v, h, hv => by unfold lends at h; subst h; exact Rep.ext (lentE_ext R L) (LocLe.refl _) _ _ (Rep.frz noLoc _ _ hv)
 | .sl k u, d, v, h, hv => by unfold lends at h; subst h; exact Rep.ext (lentE_ext R L) (LocLe.refl _) _ _ (Rep.frz noLoc _ _ hv)
 | .tight k u, d, v, h, hv => by unfold lends at h; subst h; exact Rep.ext (lentE_ext R L) (LocLe.refl _) _ _ (Rep.frz noLoc _ _ hv)
 | .own i e k u, d, v, h, hv => by unfold lends at h; subst h; exact Rep.ext (lentE_ext R L) (LocLe.refl _) _ _ (Rep.frz noLoc _ _ hv)
 | .ptr i off, d, v, h, hv => by
  unfold lends at h
  obtain ⟨cs, hbx, rfl⟩ := h
  obtain ⟨b, hbi, e⟩ := rep_ptr.1 hv
  obtain ⟨vs, ty, e1, e2, e3, e4⟩ := hb.box i b cs hbi hbx
  refine rep_row.2 ⟨b, off, e, repCells_of_get fun j c hc => ?_⟩
  rw [List.getElem?_drop, frzL_get, Option.map_eq_some_iff] at hc
  obtain ⟨c0, hc, rfl⟩ := hc
  obtain ⟨u, hu, hr⟩ := repL_get e2 _ _ hc
  refine ⟨u, ?_, fun h => h.2 (List.mem_of_getElem? hbi), Rep.ext (lentE_ext R L) (LocLe.refl _) _ _ (Rep.frz noLoc _ _ hr), e3 u (List.mem_of_getElem? hu)⟩
  show R.w.cell? _ = _
  rw [cell_of_row R.w b _ vs ty (0, 0) e1]
  simpa using hu
 | .mo i t u w, d, v, h, hv => by unfold lends at h; subst h; exact Rep.ext (lentE_ext R L) (LocLe.refl _) _ _ (Rep.frz noLoc _ _ hv)
 | .row u, d, v, h, hv => by unfold lends at h; subst h; exact Rep.ext (lentE_ext R L) (LocLe.refl _) _ _ (Rep.frz noLoc _ _ hv)
 | .clo f u w, d, v, h, hv => by
  unfold lends at h
  obtain ⟨fs, cs, rfl, h1, h2⟩ := h
  unfold Rep at hv ⊢
  obtain ⟨us, ws, e, h3, h4⟩ := hv
  exact ⟨us, ws, e, lendsL_rep hb u fs _ h1 h3, lendsL_rep hb w cs _ h2 h4⟩
 | .any, d, v, h, hv => by unfold lends at h; subst h; exact Rep.ext (lentE_ext R L) (LocLe.refl _) _ _ (Rep.frz noLoc _ _ hv)
theorem lendsL_rep (hb : BoxesOk R L bx) : ∀ (cs ds : List C) (vs : List Value), lendsL bx cs ds → RepL R L cs vs → RepL (lentE R L) noLoc ds vs
 | [], ds, vs, h, hv => by
  unfold lendsL at h; subst h
  rw [repL_nil] at hv ⊢; exact hv
 | c :: r, ds, vs, h, hv => by
  unfold lendsL at h
  obtain ⟨e, s, rfl, h1, h2⟩ := h
  obtain ⟨v, us, rfl, g1, g2⟩ := repL_cons.1 hv
  exact repL_cons.2 ⟨v, us, rfl, lends_rep hb c e v h1 g1, lendsL_rep hb r s us h2 g2⟩
end
def backE (R R' : Env) (L : Loc) : Env := ⟨R'.w, fun b o => R'.M b o ∨ (b ∈ L.β ∧ R.M b o), R'.F⟩
mutual
theorem fresh_rep (hT : ∀ id e k v, L'.T id = some (e, k, v) → ∀ b, v.ownB = some b → b ∉ L.β) : ∀ (c : C) (v : Value), c.freshB = true → Rep R' L' c v → Rep (backE R R' L) L' c v
 | .sc u, v, _, h => by rw [rep_sc] at h ⊢; exact h
 | .str u, v, _, h => by rw [rep_str] at h ⊢; exact h
 | .agg cs, v, hf, h => by
  unfold C.freshB at hf
  unfold Rep at h ⊢
  obtain ⟨vs, e, hl⟩ := h
  exact ⟨vs, e, freshL_rep hT cs _ hf hl⟩
 | .tup cs, v, hf, h => by
  unfold C.freshB at hf
  unfold Rep at h ⊢
  obtain ⟨vs, e, hl⟩ := h
  exact ⟨vs, e, freshL_rep hT cs _ hf hl⟩
 | .own id e k rows, v, hf, h => by
  unfold C.freshB at hf
  unfold Rep at h ⊢
  obtain ⟨ht, a, cap, e1, h1, h2, h3⟩ := h
  refine ⟨ht, a, cap, e1, h1, h2, ?_⟩
  rcases h3 with h3 | ⟨b, o, rfl, h3⟩
  ·exact .inl h3
  ·refine .inr ⟨b, o, rfl, repRows_of_get fun i row hrow => ?_⟩
   obtain ⟨q1, q2⟩ := repRows_get h3 i row hrow
   refine ⟨q1, repCells_of_get fun j c hc => ?_⟩
   obtain ⟨u, u1, u2, u3, u4⟩ := repCells_get q2 j c hc
   have hcf : c.flatB = true := List.all_eq_true.1 (List.all_eq_true.1 hf row (List.mem_of_getElem? hrow)) c (List.mem_of_getElem? hc)
   refine ⟨u, u1, ?_, flat_rep hcf u3, u4⟩
   rintro (g | ⟨g, _⟩)
   ·exact u2 g
   ·exact hT id e k v ht b (by rw [e1]; rfl) g
 | .tight k rows, v, hf, h => by simp [C.freshB] at hf
 | .sl k rows, v, hf, h => by simp [C.freshB] at hf
 | .ptr i off, v, hf, h => by simp [C.freshB] at hf
 | .row cs, v, hf, h => by simp [C.freshB] at hf
 | .clo f a b, v, hf, h => by simp [C.freshB] at hf
 | .bs i off k n c, v, hf, h => by simp [C.freshB] at hf
 | .any, v, hf, h => by simp [C.freshB] at hf
theorem freshL_rep (hT : ∀ id e k v, L'.T id = some (e, k, v) → ∀ b, v.ownB = some b → b ∉ L.β) : ∀ (cs : List C) (vs : List Value), C.freshL cs = true → RepL R' L' cs vs → RepL (backE R R' L) L' cs vs
 | [], vs, _, h => by rw [repL_nil] at h ⊢; exact h
 | c :: r, vs, hf, h => by
  simp only [C.freshL, Bool.and_eq_true] at hf
  obtain ⟨v, us, rfl, g1, g2⟩ := repL_cons.1 h
  exact repL_cons.2 ⟨v, us, rfl, fresh_rep hT c v hf.1 g1, freshL_rep hT r us hf.2 g2⟩
end
theorem PStep.back {n : Nat} (hβ : ∀ b ∈ L.β, b < R.w.heap.size) (h : PStep 0 n (lentE R L) noLoc R' L') : PStep 0 n R noLoc (backE R R' L) L' := by
 refine ⟨h.below, h.fgn, h.box, fun b o hb => ?_, h.old, fun id e k v h1 h2 h3 => ?_, h.apart⟩
 ·have hm := h.mt b o hb
  show (R'.M b o ∨ (b ∈ L.β ∧ R.M b o)) ↔ R.M b o
  rw [hm]
  show ((R.M b o ∧ b ∉ L.β) ∨ _) ↔ _
  by_cases hx : b ∈ L.β <;> simp [hx]
 ·exact (h.new id e k v h1 h2 h3).move fun g _ e2 _ e7 => ⟨e2, rfl, e7, fun o ho => .inl ho⟩
theorem PStep.own_new {n : Nat} (hβ : ∀ b ∈ L.β, b < R.w.heap.size) (h : PStep 0 n (lentE R L) noLoc R' L') : ∀ id e k v, L'.T id = some (e, k, v) → ∀ b, v.ownB = some b → b ∉ L.β := fun id e k v ht b hv hb => by
 rcases Nat.lt_or_ge id n with hi | hi
 ·have e2 : R.w.heap.size ≤ b := ((h.new id e k v (Nat.zero_le _) hi ht).block hv).1
  have := hβ b hb
  omega
 ·rw [h.old id (.inr hi)] at ht; cases ht
theorem pure_callR {ev : Operand → C} {nx : Nat} {c : Call} {f : Operand} (ho : o.op = .call c) (hc : c.callee = .value f) {fid : FuncId} {first cap : List C} (hev : ev f = .clo (.func fid) first cap) {fargs : List C} (hl : lendsL bx (first ++ c.args.toList.map ev ++ cap) fargs) {r : C} {n : Nat} (hfun : Fun P G fid fargs r n) (hfr : r.freshB = true) :
  PureSem P G bx ev nx o (r.sh nx) (nx + n) := by
 refine ⟨by omega, fun B R L ρ hf hfree hr => ?_⟩
 have hx := hr f; rw [hev, rep_clo] at hx
 obtain ⟨fs, cs, e1, h1, h2⟩ := hx
 have hargs : RepL (lentE R L) noLoc fargs (fs.toList ++ c.args.toList.map ρ ++ cs.toList) :=
  lendsL_rep hf.boxes _ _ _ hl (repL_append (repL_append h1 (repL_map hr _)) h2)
 have hcall := hfun.2 (lentE R L) _ (hf.glob.ext (lentE_ext R L)) hargs
 have hrun : (execOp ρ o).run P R.w = .ok (.enter fid (fs.toList ++ c.args.toList.map ρ ++ cs.toList).toArray) R.w := by
  unfold execOp
  simp only [ho, resolve, hc, e1]
  have e2 : (Deferred.ofValue (.func (.func fid) fs cs) (c.args.map ρ)).run P R.w = .ok { target := .fn (.func fid) cs, args := fs ++ c.args.map ρ } R.w := by
   simp [Deferred.ofValue]
  rw [Sem.run_bind, e2]
  simp only [Result.andThen_ok, invoke]
  rw [run_enter hfun.1]
  congr 2
  apply Array.ext'
  simp
 unfold Runs
 rw [hrun]
 refine hcall.mono fun e w' => ?_
 rintro ⟨v, R1, L', rfl, hw, hst1, hrep1⟩
 have hst := hst1.back hf.β_lt
 have hrep := fresh_rep (R := R) (hst1.own_new hf.β_lt) _ _ hfr hrep1
 have hst' := hst.caller (nx := nx) hf.β_lt
 refine ⟨v, rfl, backE R R1 L, _, hw, hst', ?_⟩
 refine Rep.sh (fun i b hb => ?_) (fun i x hi => ?_) _ _ hrep
 ·rw [hst.box] at hb; simp at hb
 ·show (if nx ≤ nx + i ∧ nx + i < nx + n then L'.T (nx + i - nx) else _) = some x
  have hin : i < n := by
   rcases Nat.lt_or_ge i n with h | h
   ·exact h
   ·rw [hst.old i (.inr h)] at hi; cases hi
  rw [if_pos ⟨by omega, by omega⟩, Nat.add_sub_cancel_left]; exact hi
def aCallR (P : Program) (G : Globs) (f : FuncId) (args : List C) (σ : St) (K : C → St → Prop) : Prop :=
 ∃ (fargs : List C) (r : C) (n : Nat), lendsL σ.bx args fargs ∧ Fun P G f fargs r n ∧ r.freshB = true ∧ K (r.sh σ.nx) ⟨σ.tm, σ.bx, σ.nx + n, σ.lg⟩
end
end Go.Proofs.YtbphobmohdclaaaGreatDoor.Vcg
end
section
set_option linter.unusedVariables false
set_option linter.unusedSimpArgs false
namespace Go.Proofs.YtbphobmohdclaaaGreatDoor.Vcg
open Go.RowKit
section
variable {P : Program} {G : Globs} {E : Ctx} {σ : St} {o : Oper} {a : Act}
def spl (cs : List C) (at' : Nat) (xs : List C) : List C := cs.take at' ++ xs ++ cs.drop (at' + xs.length)
def aCopy (P : Program) (t : TypeId) (d x : C) (σ : St) (K : C → St → Prop) : Prop :=
 match lay P t with
 | some ⟨.slice e, _, _, _⟩ => match lay P e with
  | some ⟨_, k, _, _⟩ => match x.xs? k σ.bx with
   | some (m, xs) => match d with
    | .bs i off k' n c => match σ.bx[i]? with
     | some cs => k' = k ∧ xs.length = m * k ∧ off + n * k ≤ cs.length ∧ K (.sc (.int .i64 ((min m n : Nat) : Int))) ⟨σ.tm, σ.bx.set i (spl cs off (xs.take (min m n * k))), σ.nx, σ.lg⟩
     | none => False
    | _ => False
   | none => False
  | _ => False
 | _ => False
theorem copy_after {t t' : TypeId} {d x : Operand} (ho : o.op = .call { callee := .builtin .copy, args := #[d, x], argTypes := #[t, t'] }) {K : C → St → Prop} {R : Env} {L : Loc} (h : InvV G E σ a R L) (hK : aCopy P t (evOf G σ.tm d) (evOf G σ.tm x) σ K) : Runs P o a.eval R.w (After G E a K) := by
 unfold aCopy at hK
 split at hK <;> try exact hK.elim
 rename_i e s1 b1 z1 hl
 have ht := lay_slice hl rfl
 split at hK <;> try exact hK.elim
 rename_i kd k by' z hle
 obtain ⟨i, dd, hi, hd, _, hsz, hbyt, hzz⟩ := lay_spec hle
 simp only at hsz hbyt hzz
 split at hK <;> try exact hK.elim
 rename_i m xs hxs
 split at hK <;> try exact hK.elim
 rename_i bi off k' n c hev
 split at hK <;> try exact hK.elim
 rename_i cs hcs
 obtain ⟨rfl, hxl, hfit, hK⟩ := hK
 obtain ⟨ad, capx, ex, hx⟩ := xs_vals h.good.fit (h.ev x) hxs
 have hs := h.ev d; rw [hev, rep_bs] at hs
 obtain ⟨b, hb, ad0, es, had0⟩ := hs
 obtain ⟨vs, ty, e1, e2, e3, e4⟩ := h.good.fit.boxes.box bi b cs hb hcs
 have hvl := repL_length e2
 have hbil : bi < σ.bx.length := (List.getElem?_eq_some_iff.1 hcs).1
 have hss : (sizeOf e).run P R.w = .ok k' R.w := by simp [sizeOf, typeInfo, hi, ← hsz]
 have hexec : ∀ v' w', (Builtin.copy_ #[t, t'] o.type #[a.eval d, a.eval x]).run P R.w = .ok v' w' → (execOp a.eval o).run P R.w = .ok (.value v') w' := fun v' w' hrun => by
  unfold execOp
  simp only [ho, resolve, invoke, builtin, Sem.run_bind, Sem.run_pure, Result.andThen_ok, List.map_toArray, List.map_cons, List.map_nil, hrun]
 by_cases h0 : min m n * k' = 0
 ·have hspl : spl cs off (xs.take (min m n * k')) = cs := by
   rw [h0]; simp [spl]
  have hset : σ.bx.set bi cs = σ.bx := by
   apply List.ext_getElem?
   intro j
   by_cases hj : bi = j
   ·subst hj; rw [List.getElem?_set_self hbil, hcs]
   ·rw [List.getElem?_set_ne hj]
  rw [hspl, hset] at hK
  refine Runs.value (hexec (goInt ((Nat.min m n : Nat) : Int)) R.w ?_) ⟨_, _, R, L, rfl, h, rep_sc.2 rfl, hK⟩
  rw [es, ex]
  simp only [Builtin.copy_, Builtin.lenOf, Sem.run_bind, Sem.run_pure, Result.andThen_ok, run_underlying ht, hss]
  have hm0 : Nat.min m n * k' = 0 := h0
  have hfc : (Builtin.firstCells k' (Nat.min m n) (.slice ad m capx)).run P R.w = .ok #[] R.w := by
   cases ad with
   | none => simp [Builtin.firstCells]
   | some ad => simp [Builtin.firstCells, hm0, loadCells, loadCellsFrom]
  simp [hfc, storeCells, run_underlying ht, hss]
 ·have hpos : 0 < m := by
   rcases Nat.eq_zero_or_pos m with q | q
   ·subst q; simp at h0
   ·exact q
  have hnpos : 0 < n := by
   rcases Nat.eq_zero_or_pos n with q | q
   ·subst q; simp at h0
   ·exact q
  obtain ⟨bb, offx, news, rfl, n1, n2, n3, n4⟩ := hx hpos
  obtain rfl := had0 (by omega)
  have hmn : min m n * k' ≤ m * k' := Nat.mul_le_mul_right _ (Nat.min_le_left _ _)
  have hmn2 : min m n * k' ≤ n * k' := Nat.mul_le_mul_right _ (Nat.min_le_right _ _)
  have hnl : (news.take (min m n * k')).length = min m n * k' := by rw [List.length_take]; omega
  have hfc := run_firstCells_some (P := P) R.w k' (min m n) ⟨bb, offx, none⟩ m capx (news.take (min m n * k')) hnl (fun j u hj => n2 j u (by
   rw [List.getElem?_take] at hj
   split at hj
   ·exact hj
   ·cases hj))
  have hst := run_storeCells_at P b off ty (news.take (min m n * k')) 0 vs R.w e1 (by simp only [Array.length_toList] at hvl; omega) (fun v hv => n4 v (List.mem_of_mem_take hv))
  simp only [Nat.add_zero] at hst
  have hrun : (Builtin.copy_ #[t, t'] o.type #[a.eval d, a.eval x]).run P R.w = .ok (goInt ((Nat.min m n : Nat) : Int)) (R.w.setRow b (vs.toList.take off ++ news.take (min m n * k') ++ vs.toList.drop (off + (news.take (min m n * k')).length)).toArray) := by
   rw [es, ex]
   have hfc' : (Builtin.firstCells k' (Nat.min m n) (.slice (some ⟨bb, offx, none⟩) m capx)).run P R.w = .ok (news.take (min m n * k')).toArray R.w := hfc
   simp only [Builtin.copy_, Builtin.lenOf, Sem.run_bind, Sem.run_pure, Result.andThen_ok, run_underlying ht, hss]
   simp [hfc', hst, run_underlying ht, hss]
  have hxtl : (xs.take (min m n * k')).length = (news.take (min m n * k')).length := by rw [hnl, List.length_take]; omega
  have hinv := h.setBox hb hcs e1 e4 (cs' := spl cs off (xs.take (min m n * k'))) (us := (vs.toList.take off ++ news.take (min m n * k') ++ vs.toList.drop (off + (news.take (min m n * k')).length)).toArray) (by
    unfold spl
    rw [hxtl]
    exact repL_append (repL_append (repL_take _ e2) (repL_take _ n3)) (repL_drop _ e2)) (fun v hv => by
    simp only [List.mem_append] at hv
    rcases hv with (hv | hv) | hv
    ·exact e3 v (List.mem_of_mem_take hv)
    ·exact n4 v (List.mem_of_mem_take hv)
    ·exact e3 v (List.mem_of_mem_drop hv))
  exact Runs.value (hexec _ _ hrun) ⟨_, _, _, L, rfl, hinv, rep_sc.2 rfl, hK⟩
def aClear (P : Program) (t : TypeId) (x : C) (σ : St) (K : C → St → Prop) : Prop :=
 match lay P t with
 | some ⟨.slice e, _, _, _⟩ => match lay P e with
  | some ⟨_, k, _, some z⟩ => match x with
   | .bs i off k' n c => match σ.bx[i]? with
    | some cs => k' = k ∧ z.length = k ∧ 0 < k ∧ (z.all Value.oneCell') = true ∧ off + n * k ≤ cs.length ∧ K .any ⟨σ.tm, σ.bx.set i (spl cs off (List.replicate n (z.map ofConst)).flatten), σ.nx, σ.lg⟩
    | none => False
   | _ => False
  | _ => False
 | _ => False
theorem zeroCells_rep {R : Env} {L : Loc} (zc : Array Value) (k n : Nat) (hz : zc.size = k) (hk : 0 < k) : RepL R L (List.replicate n (zc.toList.map ofConst)).flatten (Builtin.zeroCells zc n).toList := by
 have h := RepL.ext (Ext.refl R) (LocLe.none L) _ _ (zeros_rep (R := R) (L := noLoc) zc k n hz hk)
 simp only [Builtin.zeroCells, hz]
 rw [hz] at h
 exact h
theorem clear_after {t : TypeId} {x : Operand} (ho : o.op = .call { callee := .builtin .clear, args := #[x], argTypes := #[t] }) {K : C → St → Prop} {R : Env} {L : Loc} (h : InvV G E σ a R L) (hK : aClear P t (evOf G σ.tm x) σ K) : Runs P o a.eval R.w (After G E a K) := by
 unfold aClear at hK
 split at hK <;> try exact hK.elim
 rename_i e s1 b1 z1 hl
 have ht := lay_slice hl rfl
 split at hK <;> try exact hK.elim
 rename_i kd k by' z hle
 obtain ⟨i, dd, hi, hd, _, hsz, hbyt, hzz⟩ := lay_spec hle
 simp only at hsz hbyt hzz
 split at hK <;> try exact hK.elim
 rename_i bi off k' n c hev
 split at hK <;> try exact hK.elim
 rename_i cs hcs
 obtain ⟨rfl, hzk, hk0, hz1, hfit, hK⟩ := hK
 cases hiz : i.zero with
 | none => simp [hiz] at hzz
 | some zv =>
  simp only [hiz, Option.map_some, Option.some.injEq] at hzz
  subst hzz
  have hs := h.ev x; rw [hev, rep_bs] at hs
  obtain ⟨b, hb, ad0, es, had0⟩ := hs
  obtain ⟨vs, ty, e1, e2, e3, e4⟩ := h.good.fit.boxes.box bi b cs hb hcs
  have hvl := repL_length e2
  have hbil : bi < σ.bx.length := (List.getElem?_eq_some_iff.1 hcs).1
  have hzv : ∀ w, (zeroValue e).run P w = .ok zv w := fun w => by simp [zeroValue, typeInfo, hi, hiz]
  have hexec : ∀ v' w', (Builtin.clear_ #[t] o.type #[a.eval x]).run P R.w = .ok v' w' → (execOp a.eval o).run P R.w = .ok (.value v') w' := fun v' w' hrun => by
   unfold execOp
   simp only [ho, resolve, invoke, builtin, Sem.run_bind, Sem.run_pure, Result.andThen_ok, List.map_toArray, List.map_cons, List.map_nil, hrun]
  have hzl : (Builtin.zeroCells zv.cells n).toList.length = n * k' := by rw [Array.length_toList, size_zeroCells]; simpa using congrArg (n * ·) hzk
  have hzr := zeroCells_rep (R := R) (L := L) zv.cells k' n (by simpa using hzk) hk0
  have hxl : (List.replicate n (zv.cells.toList.map ofConst)).flatten.length = n * k' := by rw [← hzl]; exact (repL_length hzr).symm
  cases n with
  | zero =>
   have hspl : spl cs off (List.replicate 0 (zv.cells.toList.map ofConst)).flatten = cs := by simp [spl]
   have hset : σ.bx.set bi cs = σ.bx := by
    apply List.ext_getElem?
    intro j
    by_cases hj : bi = j
    ·subst hj; rw [List.getElem?_set_self hbil, hcs]
    ·rw [List.getElem?_set_ne hj]
   rw [hspl, hset] at hK
   refine Runs.value (hexec (.tuple #[]) R.w ?_) ⟨_, _, R, L, rfl, h, by unfold Rep; trivial, hK⟩
   rw [es]
   simp [Builtin.clear_, run_underlying ht]
  | succ n =>
   obtain rfl := had0 (by omega)
   have hst := run_storeCells_at P b off ty (Builtin.zeroCells zv.cells (n + 1)).toList 0 vs R.w e1 (by rw [hzl]; simp only [Array.length_toList] at hvl; omega) (zeroCells_one hz1 _)
   simp only [Nat.add_zero] at hst
   have hinv := h.setBox hb hcs e1 e4 (cs' := spl cs off (List.replicate (n + 1) (zv.cells.toList.map ofConst)).flatten) (us := (vs.toList.take off ++ (Builtin.zeroCells zv.cells (n + 1)).toList ++ vs.toList.drop (off + (Builtin.zeroCells zv.cells (n + 1)).toList.length)).toArray) (by
     unfold spl
     rw [hzl, hxl]
     exact repL_append (repL_append (repL_take _ e2) hzr) (repL_drop _ e2)) (fun v hv => by
     simp only [List.mem_append] at hv
     rcases hv with (hv | hv) | hv
     ·exact e3 v (List.mem_of_mem_take hv)
     ·exact zeroCells_one hz1 _ v hv
     ·exact e3 v (List.mem_of_mem_drop hv))
   refine Runs.value (hexec (.tuple #[]) _ ?_) ⟨_, _, _, L, rfl, hinv, by unfold Rep; trivial, hK⟩
   rw [es]
   simp [Builtin.clear_, run_underlying ht, hzv, hst]
def aAppB2 (P : Program) (t : TypeId) (s x : C) (σ : St) (K : C → St → Prop) : Prop :=
 match lay P t with
 | some ⟨.slice e, _, _, _⟩ => match lay P e with
  | some ⟨_, k, by', some z⟩ => match x.xs? k σ.bx with
   | some (m, xs) => z.length = k ∧ 0 < k ∧ (z.all Value.oneCell') = true ∧ xs.length = m * k ∧ match s with
    | .sc (.slice none 0 0) => 0 < m ∧ m ≤ 9223372036854775807 ∧ m * by' ≤ 140737488355328 ∧ ∀ c, m ≤ c → c ≤ maxLen → K (.bs σ.bx.length 0 k m c) ⟨σ.tm, σ.bx ++ [xs ++ List.replicate ((c - m) * k) .any], σ.nx, σ.lg⟩
    | .bs i off k' n c => match σ.bx[i]? with
     | some cs => k' = k ∧ off + c * k ≤ cs.length ∧ n ≤ c ∧ n + m ≤ 9223372036854775807 ∧ (n + m) * by' ≤ 140737488355328 ∧
       (n + m ≤ c → K (.bs i off k (n + m) c) ⟨σ.tm, σ.bx.set i (spl cs (off + n * k) xs), σ.nx, σ.lg⟩) ∧
       (c < n + m → ∀ c', n + m ≤ c' → c' ≤ maxLen → K (.bs σ.bx.length 0 k (n + m) c') ⟨σ.tm, σ.bx ++ [(cs.drop off).take (n * k) ++ xs ++ List.replicate ((c' - (n + m)) * k) .any], σ.nx, σ.lg⟩)
     | none => False
    | _ => False
   | none => False
  | _ => False
 | _ => False
def aAppZ (P : Program) (t tn : TypeId) (s x : C) (σ : St) (K : C → St → Prop) : Prop :=
 match lay P t, lay P tn with
 | some ⟨.slice e, _, _, _⟩, some ⟨.int _, _, _, _⟩ => match lay P e with
  | some ⟨_, k, by', some z⟩ => match s, x with
   | .bs i off k' n c, .sc (.int _ q) => match σ.bx[i]? with
     | some cs => z.length = k ∧ 0 < k ∧ (z.all Value.oneCell') = true ∧ k' = k ∧ off + c * k ≤ cs.length ∧ n ≤ c ∧ 0 < q ∧ (n : Int) + q ≤ 9223372036854775807 ∧ ((n : Int) + q) * by' ≤ 140737488355328 ∧ (c : Int) < n + q ∧
       ∀ c', n + q.toNat ≤ c' → c' ≤ maxLen → K (.bs σ.bx.length 0 k (n + q.toNat) c') ⟨σ.tm, σ.bx ++ [(cs.drop off).take (n * k) ++ (List.replicate q.toNat (z.map ofConst)).flatten ++ List.replicate ((c' - (n + q.toNat)) * k) .any], σ.nx, σ.lg⟩
     | none => False
   | _, _ => False
  | _ => False
 | _, _ => False
theorem InvV.setSame {R : Env} {L : Loc} (h : InvV G E σ a R L) {i : Nat} {cs : List C} (hc : σ.bx[i]? = some cs) : σ.bx.set i cs = σ.bx := by
 have hil : i < σ.bx.length := (List.getElem?_eq_some_iff.1 hc).1
 apply List.ext_getElem?
 intro j
 by_cases hj : i = j
 ·subst hj; rw [List.getElem?_set_self hil, hc]
 ·rw [List.getElem?_set_ne hj]
theorem appB2_after {t : TypeId} {s x : Operand} (ho : o.op = .call { callee := .builtin .append, args := #[s, x], argTypes := #[t, t] }) {K : C → St → Prop} {R : Env} {L : Loc} (h : InvV G E σ a R L) (hK : aAppB2 P t (evOf G σ.tm s) (evOf G σ.tm x) σ K) : Runs P o a.eval R.w (After G E a K) := by
 unfold aAppB2 at hK
 split at hK <;> try exact hK.elim
 rename_i e s1 b1 z1 hl
 have ht := lay_slice hl rfl
 split at hK <;> try exact hK.elim
 rename_i kd k by' z hle
 obtain ⟨i, d, hi, hd, _, hsz, hbyt, hzz⟩ := lay_spec hle
 simp only at hsz hbyt hzz
 split at hK <;> try exact hK.elim
 rename_i m xs hxs
 obtain ⟨hzk, hk0, hz1, hxl, hK⟩ := hK
 have hexec : ∀ v' w', (Builtin.append_ #[t, t] o.type #[a.eval s, a.eval x]).run P R.w = .ok v' w' → (execOp a.eval o).run P R.w = .ok (.value v') w' := fun v' w' hrun => by
  unfold execOp
  simp only [ho, resolve, invoke, builtin, Sem.run_bind, Sem.run_pure, Result.andThen_ok, List.map_toArray, List.map_cons, List.map_nil, hrun]
 cases hiz : i.zero with
 | none => simp [hiz] at hzz
 | some zv =>
  simp only [hiz, Option.map_some, Option.some.injEq] at hzz
  have hzc : zv.cells.size = k := by rw [← hzk, hzz]; simp
  obtain ⟨ad, capx, ex, hx⟩ := xs_vals h.good.fit (h.ev x) hxs
  have hzone : ∀ n, ∀ v ∈ (Builtin.zeroCells zv.cells n).toList, v.oneCell' = true := zeroCells_one (by rw [← hzz]; exact hz1)
  split at hK
  ·rename_i hev
   obtain ⟨hm, h63, hby, hK⟩ := hK
   obtain ⟨bb, off, news, rfl, n1, n2, n3, n4⟩ := hx hm
   have hs := h.ev s; rw [hev, rep_sc] at hs
   have hrun := run_append_nil (P := P) R.w t o.type e i zv ht hi hiz ⟨bb, off, none⟩ m capx news (by rw [n1, hsz]) n2 hm (by omega) (by rw [← hbyt]; omega)
   rw [← hs, ← ex] at hrun
   have hge := grownCap_ge R.w m 0 e
   have hgm : grownCap R.w m 0 e ≤ maxLen := grownCap_le_maxLen _ _ _ _ (by unfold maxLen; omega)
   generalize grownCap R.w m 0 e = nc at hrun hge hgm
   have hb : Below R.w.heap.size R.w (R.w.drew.alloc (.cells (news.toArray ++ Builtin.zeroCells zv.cells (nc - m)) e)) := ((Below.refl _ _).drew).alloc (Nat.le_refl _) _
   have hzl : (Builtin.zeroCells zv.cells (nc - m)).toList.length = (nc - m) * k := by rw [Array.length_toList, size_zeroCells, hzc]
   obtain ⟨R', L', e1, e2, e3⟩ := h.newBoxW hb (Nat.le_refl _) (xs ++ List.replicate ((nc - m) * k) .any) (news.toArray ++ Builtin.zeroCells zv.cells (nc - m)) e (heap_alloc_new R.w.drew _) (fun M' hM _ _ => by
    simp only [Array.toList_append]
    refine repL_append (RepL.ext (R := R) (Ext.of_below hb hM) (LocLe.refl L) _ _ n3) ?_
    rw [← hzl]; exact repL_any _) (fun v hv => by
    simp only [Array.toList_append] at hv
    rcases List.mem_append.1 hv with hv | hv
    ·exact n4 v hv
    ·exact hzone _ v hv)
   exact Runs.value (hexec _ _ hrun) ⟨_, _, R', L', e1, e2, rep_bs.2 ⟨_, e3, _, rfl, fun _ => rfl⟩, hK nc hge hgm⟩
  ·rename_i bi off k' n c hev
   split at hK <;> try exact hK.elim
   rename_i cs hcs
   obtain ⟨rfl, hcl, hnc, h63, hby, hK1, hK2⟩ := hK
   have hs := h.ev s; rw [hev, rep_bs] at hs
   obtain ⟨b, hb, ad0, es, had0⟩ := hs
   obtain ⟨vs, ty, e1, e2, e3, e4⟩ := h.good.fit.boxes.box bi b cs hb hcs
   have hvl := repL_length e2
   simp only [Array.length_toList] at hvl
   have hnk : n * k' ≤ c * k' := Nat.mul_le_mul_right _ hnc
   have hadd : (n + m) * k' = n * k' + m * k' := Nat.add_mul _ _ _
   by_cases hroom : n + m ≤ c
   ·have hck : (n + m) * k' ≤ c * k' := Nat.mul_le_mul_right _ hroom
    rcases Nat.eq_zero_or_pos m with hm | hm
    ·subst hm
     have hx0 : xs = [] := List.eq_nil_of_length_eq_zero (by simpa using hxl)
     subst hx0
     have hK := hK1 hroom
     have hspl : spl cs (off + n * k') [] = cs := by simp [spl]
     rw [hspl, h.setSame hcs] at hK
     refine Runs.value (hexec (.slice (some ad0) n c) R.w ?_) ⟨_, _, R, L, rfl, h, rep_bs.2 ⟨b, hb, ad0, rfl, had0⟩, hK⟩
     rw [es, ex]
     exact run_append_zero ht hi R.w _ _ _ _ _ hnc
    ·obtain rfl := had0 (by omega)
     obtain ⟨bb, offx, news, rfl, n1, n2, n3, n4⟩ := hx hm
     have hst := run_storeCells_at P b (off + n * k') ty news 0 vs R.w e1 (by rw [n1]; omega) n4
     simp only [Nat.add_zero] at hst
     have hfc := run_firstCells_some (P := P) R.w k' m ⟨bb, offx, none⟩ m capx news n1 n2
     have hrun : (Builtin.append_ #[t, t] o.type #[a.eval s, a.eval x]).run P R.w = .ok (.slice (some ⟨b, off, none⟩) (n + m) c) (R.w.setRow b (vs.toList.take (off + n * k') ++ news ++ vs.toList.drop (off + n * k' + news.length)).toArray) := by
      rw [es, ex]
      simp [Builtin.append_, run_underlying ht, sizeOf, typeInfo, hi, Builtin.lenOf, hroom, ← hsz, hfc, Addr.add_none, hst]
     have hnx : news.length = xs.length := by rw [n1, hxl]
     have hinv := h.setBox hb hcs e1 e4 (cs' := spl cs (off + n * k') xs) (us := (vs.toList.take (off + n * k') ++ news ++ vs.toList.drop (off + n * k' + news.length)).toArray) (by
       unfold spl
       rw [hnx]
       exact repL_append (repL_append (repL_take _ e2) n3) (repL_drop _ e2)) (fun v hv => by
       simp only [List.mem_append] at hv
       rcases hv with (hv | hv) | hv
       ·exact e3 v (List.mem_of_mem_take hv)
       ·exact n4 v hv
       ·exact e3 v (List.mem_of_mem_drop hv))
     exact Runs.value (hexec _ _ hrun) ⟨_, _, _, L, rfl, hinv, rep_bs.2 ⟨_, hb, _, rfl, fun _ => rfl⟩, hK1 hroom⟩
   ·have hm : 0 < m := by omega
    obtain ⟨bb, offx, news, rfl, n1, n2, n3, n4⟩ := hx hm
    have hol : ((vs.toList.drop off).take (n * k')).length = n * k' := by simp; omega
    have hrun := run_append_grow (P := P) R.w t o.type e i zv ht hi hiz ad0 n c ((vs.toList.drop off).take (n * k')) (by rw [hol, hsz]) (fun j v hj => by
      obtain rfl := had0 (by
       rcases Nat.eq_zero_or_pos n with h0 | h0
       ·subst h0; simp at hj
       ·omega)
      rw [Addr.add_none, cell_of_row R.w b (off + j) vs ty (0, 0) e1]
      rw [List.getElem?_take] at hj
      split at hj
      ·rw [List.getElem?_drop] at hj; simpa using hj
      ·cases hj) ⟨bb, offx, none⟩ m capx news (by rw [n1, hsz]) n2 (by omega) (by omega) (growslice_fits (by omega) (by rw [← hbyt]; exact hby))
    rw [← es, ← ex] at hrun
    have hge := grownCap_ge R.w (n + m) c e
    have hgm : grownCap R.w (n + m) c e ≤ maxLen := grownCap_le_maxLen _ _ _ _ (by unfold maxLen; omega)
    generalize grownCap R.w (n + m) c e = nc at hrun hge hgm
    have hbel : Below R.w.heap.size R.w (R.w.drew.alloc (.cells (((vs.toList.drop off).take (n * k')).toArray ++ news.toArray ++ Builtin.zeroCells zv.cells (nc - (n + m))) e)) := ((Below.refl _ _).drew).alloc (Nat.le_refl _) _
    have hzl : (Builtin.zeroCells zv.cells (nc - (n + m))).toList.length = (nc - (n + m)) * k' := by rw [Array.length_toList, size_zeroCells, hzc]
    obtain ⟨R', L', f1, f2, f3⟩ := h.newBoxW hbel (Nat.le_refl _) ((cs.drop off).take (n * k') ++ xs ++ List.replicate ((nc - (n + m)) * k') .any) (((vs.toList.drop off).take (n * k')).toArray ++ news.toArray ++ Builtin.zeroCells zv.cells (nc - (n + m))) e (heap_alloc_new R.w.drew _) (fun M' hM _ _ => by
     simp only [Array.toList_append]
     refine repL_append (RepL.ext (R := R) (Ext.of_below hbel hM) (LocLe.refl L) _ _ (repL_append (repL_take _ (repL_drop _ e2)) n3)) ?_
     rw [← hzl]; exact repL_any _) (fun v hv => by
     simp only [Array.toList_append, List.mem_append] at hv
     rcases hv with (hv | hv) | hv
     ·exact e3 v (List.mem_of_mem_drop (List.mem_of_mem_take hv))
     ·exact n4 v hv
     ·exact hzone _ v hv)
    exact Runs.value (hexec _ _ hrun) ⟨_, _, R', L', f1, f2, rep_bs.2 ⟨_, f3, _, rfl, fun _ => rfl⟩, hK2 (by omega) nc hge hgm⟩
  ·exact hK.elim
theorem appZ_after {t tn : TypeId} {s x : Operand} (ho : o.op = .call { callee := .builtin .append, args := #[s, x], argTypes := #[t, tn] }) {K : C → St → Prop} {R : Env} {L : Loc} (h : InvV G E σ a R L) (hK : aAppZ P t tn (evOf G σ.tm s) (evOf G σ.tm x) σ K) : Runs P o a.eval R.w (After G E a K) := by
 unfold aAppZ at hK
 split at hK <;> try exact hK.elim
 rename_i e s1 b1 z1 kn s2 b2 z2 hl hln
 have ht := lay_slice hl rfl
 have htn := lay_int hln rfl
 split at hK <;> try exact hK.elim
 rename_i kd k by' z hle
 obtain ⟨i, d, hi, hd, _, hsz, hbyt, hzz⟩ := lay_spec hle
 simp only at hsz hbyt hzz
 split at hK <;> try exact hK.elim
 rename_i bi off k' n c kq q hev hevx
 split at hK <;> try exact hK.elim
 rename_i cs hcs
 obtain ⟨hzk, hk0, hz1, rfl, hcl, hnc, hq0, h63, hby, hg, hK⟩ := hK
 have hexec : ∀ v' w', (Builtin.append_ #[t, tn] o.type #[a.eval s, a.eval x]).run P R.w = .ok v' w' → (execOp a.eval o).run P R.w = .ok (.value v') w' := fun v' w' hrun => by
  unfold execOp
  simp only [ho, resolve, invoke, builtin, Sem.run_bind, Sem.run_pure, Result.andThen_ok, List.map_toArray, List.map_cons, List.map_nil, hrun]
 cases hiz : i.zero with
 | none => simp [hiz] at hzz
 | some zv =>
  simp only [hiz, Option.map_some, Option.some.injEq] at hzz
  have hzc : zv.cells.size = k' := by rw [← hzk, hzz]; simp
  have hzone : ∀ n, ∀ v ∈ (Builtin.zeroCells zv.cells n).toList, v.oneCell' = true := zeroCells_one (by rw [← hzz]; exact hz1)
  have hs := h.ev s; rw [hev, rep_bs] at hs
  have hxv := h.ev x; rw [hevx, rep_sc] at hxv
  obtain ⟨b, hb, ad0, es, had0⟩ := hs
  obtain ⟨vs, ty, e1, e2, e3, e4⟩ := h.good.fit.boxes.box bi b cs hb hcs
  have hvl := repL_length e2
  simp only [Array.length_toList] at hvl
  have hnk : n * k' ≤ c * k' := Nat.mul_le_mul_right _ hnc
  obtain ⟨m, rfl⟩ : ∃ m : Nat, q = (m : Int) := ⟨q.toNat, by omega⟩
  simp only [Int.toNat_natCast] at hK
  have hby' : (n + m) * by' ≤ 140737488355328 := by
   have : (((n + m) * by' : Nat) : Int) ≤ 140737488355328 := by
    rw [Int.natCast_mul, Int.natCast_add]; exact hby
   omega
  have hol : ((vs.toList.drop off).take (n * k')).length = n * k' := by simp; omega
  have hold : ∀ w, w.heap = R.w.heap → (Builtin.firstCells i.size n (.slice (some ad0) n c)).run P w = .ok ((vs.toList.drop off).take (n * k')).toArray w := fun w hw => by
   refine run_firstCells_some (P := P) w i.size n ad0 n c _ (by rw [hol, hsz]) fun j v hj => ?_
   obtain rfl := had0 (by
    rcases Nat.eq_zero_or_pos n with h0 | h0
    ·subst h0; simp at hj
    ·omega)
   rw [Addr.add_none, cell_of_row w b (off + j) vs ty (0, 0) (by rw [hw]; exact e1)]
   rw [List.getElem?_take] at hj
   split at hj
   ·rw [List.getElem?_drop] at hj; simpa using hj
   ·cases hj
  have hmb : m * i.bytes ≤ 281474976710656 := by
   have : m * by' ≤ (n + m) * by' := Nat.mul_le_mul_right _ (by omega)
   rw [← hbyt]; omega
  have hrun := Lib.run_append_grow_zeros (P := P) R.w t tn o.type e i zv kq kn ht htn hi hiz (some ad0) n c ((vs.toList.drop off).take (n * k')) (hold R.w.drew rfl) m (by omega) (by omega) (by omega) (by omega) hmb (growslice_fits (by omega) (by rw [← hbyt]; exact hby'))
  rw [← es, ← hxv] at hrun
  have hge := grownCap_ge R.w (n + m) c e
  have hgm : grownCap R.w (n + m) c e ≤ maxLen := grownCap_le_maxLen _ _ _ _ (by unfold maxLen; omega)
  generalize grownCap R.w (n + m) c e = nc at hrun hge hgm
  have hbel : Below R.w.heap.size R.w (R.w.drew.alloc (.cells (((vs.toList.drop off).take (n * k')).toArray ++ Builtin.zeroCells zv.cells m ++ Builtin.zeroCells zv.cells (nc - (n + m))) e)) := ((Below.refl _ _).drew).alloc (Nat.le_refl _) _
  have hzl : (Builtin.zeroCells zv.cells (nc - (n + m))).toList.length = (nc - (n + m)) * k' := by rw [Array.length_toList, size_zeroCells, hzc]
  obtain ⟨R', L', f1, f2, f3⟩ := h.newBoxW hbel (Nat.le_refl _) ((cs.drop off).take (n * k') ++ (List.replicate m (z.map ofConst)).flatten ++ List.replicate ((nc - (n + m)) * k') .any) (((vs.toList.drop off).take (n * k')).toArray ++ Builtin.zeroCells zv.cells m ++ Builtin.zeroCells zv.cells (nc - (n + m))) e (heap_alloc_new R.w.drew _) (fun M' hM _ _ => by
   simp only [Array.toList_append]
   refine repL_append (repL_append (RepL.ext (R := R) (Ext.of_below hbel hM) (LocLe.refl L) _ _ (repL_take _ (repL_drop _ e2))) ?_) ?_
   ·rw [hzz]; exact zeroCells_rep _ k' m hzc hk0
   ·rw [← hzl]; exact repL_any _) (fun v hv => by
   simp only [Array.toList_append, List.mem_append] at hv
   rcases hv with (hv | hv) | hv
   ·exact e3 v (List.mem_of_mem_drop (List.mem_of_mem_take hv))
   ·exact hzone _ v hv
   ·exact hzone _ v hv)
  exact Runs.value (hexec _ _ hrun) ⟨_, _, R', L', f1, f2, rep_bs.2 ⟨_, f3, _, rfl, fun _ => rfl⟩, hK nc hge hgm⟩
end
end Go.Proofs.YtbphobmohdclaaaGreatDoor.Vcg
end
section
set_option linter.unusedVariables false
set_option linter.unusedSimpArgs false
namespace Go.Proofs.YtbphobmohdclaaaGreatDoor.Vcg
open Go.RowKit
section
variable {P : Program} {G : Globs} {E : Ctx} {σ : St} {o : Oper} {a : Act} {N p : Nat}
def aAppend (P : Program) (t : TypeId) (s x : C) (σ : St) (K : C → St → Prop) : Prop :=
 match s with
 | .own id e k rows => aAppOwn P t (.own id e k rows) x σ K
 | s => aAppNew P t s x σ.nx fun c nx' => K c ⟨σ.tm, σ.bx, nx', σ.lg⟩
structure Yd where
 l : Nat
 items : List (List C)
 st : Nat → Bool
structure Far (R R' : Env) : Prop where
 os : R'.w.os = R.w.os
 tape : R'.w.tape = R.w.tape
 output : R'.w.output = R.w.output
 size : R.w.heap.size ≤ R'.w.heap.size
 ext : Ext R R'
 fgn : ∀ b, b < R.w.heap.size → (R'.F b ↔ R.F b)
 flt : ∀ b, R'.F b → b < R'.w.heap.size
 blk : ∀ b, b < R.w.heap.size → ¬ R.F b → R'.w.heap[b]? = R.w.heap[b]? ∧ ∀ o, (R'.M b o ↔ R.M b o)
def YOk (P : Program) (y : Yd) (J : Nat → Env → Prop) : Prop := ∀ (k : Nat) (R : Env) (it : List C) (vs : List Value), J k R → (∀ b, R.F b → b < R.w.heap.size) → (∀ j, j < k → y.st j = false) → y.items[k]? = some it → RepL R noLoc it vs →
 YieldAt Fence.wide 0 P y.l vs.toArray R.w fun e w' => e = .returned (.bool (!y.st k)) ∧ ∃ R', R'.w = w' ∧ Far R R' ∧ J (k + 1) R'
structure Hd where
 p : Nat
 y : Option Yd
 b : Nat → List Bool
structure HdOk (P : Program) (h : Hd) (E : Ctx) : Prop where
 yd : ∀ y, h.y = some y → YOk P y E.J
 box : E.β0.length ≤ h.p
def aYield1 (y : Yd) (it : Option (List C)) (args : List C) (σ : St) (K : C → St → Prop) : Prop :=
 match it with
 | some it => CLeL [] 0 args it ∧ (∀ j, j < σ.lg → y.st j = false) ∧ K (.sc (.bool (!y.st σ.lg))) ⟨σ.tm, σ.bx, σ.nx, σ.lg + 1⟩
 | none => False
def aYield (Y : Option Yd) (l : Nat) (args : List C) (σ : St) (K : C → St → Prop) : Prop :=
 match Y with
 | some y => l = y.l ∧ aYield1 y y.items[σ.lg]? args σ K
 | none => False
def aCallV (P : Program) (G : Globs) (Y : Hd) (callee : C) (args : List C) (σ : St) (K : C → St → Prop) : Prop :=
 match callee with
 | .sc (.func (.yield l) fs cs) => fs = #[] ∧ cs = #[] ∧ aYield Y.y l args σ K
 | .clo (.func f) first cap => aCallF P G (.clo (.func f) first cap) args σ.nx (fun c nx' => K c ⟨σ.tm, σ.bx, nx', σ.lg⟩) ∨ aCallB0 P G f (first ++ args ++ cap) σ K ∨ aCallR P G f (first ++ args ++ cap) σ K ∨ aCallX0 P G f (first ++ args ++ cap) σ K ∨ aCallO P f (first ++ args ++ cap) σ K
 | _ => False
def Hd.bx (Y : Hd) (t : TypeId) : Bool := (Y.b (1000000 + t)).headD false
def Hd.bx2 (Y : Hd) (t : TypeId) : Bool := ((Y.b (1000000 + t)).drop 1).headD false
def aCap (P : Program) (t : TypeId) (c : C) (K : C → Prop) : Prop :=
 match lay P t, c with
 | some ⟨.slice _, _, _, _⟩, .bs _ _ _ _ c => K (.sc (.int .i64 (c : Int)))
 | some ⟨.slice _, _, _, _⟩, .sc (.slice none 0 0) => K (.sc (.int .i64 0))
 | _, _ => False
def aEffB (P : Program) (G : Globs) (Y : Hd) (b : Builtin) (args : List Operand) (tys : List TypeId) (σ : St) (K : C → St → Prop) : Prop :=
 match b, args, tys with
 | .len, [x], [t] => aLen P t (evOf G σ.tm x) fun c => K c σ
 | .append, [s, x], [t, t'] => if t' = t then (if Y.bx t then (if Y.bx2 t then aAppB2 P t (evOf G σ.tm s) (evOf G σ.tm x) σ K else aAppBox P Y.p t (evOf G σ.tm s) (evOf G σ.tm x) σ K) else aAppend P t (evOf G σ.tm s) (evOf G σ.tm x) σ K) else aAppZ P t t' (evOf G σ.tm s) (evOf G σ.tm x) σ K
 | .copy, [d, x], [t, t'] => aCopy P t (evOf G σ.tm d) (evOf G σ.tm x) σ K
 | .clear, [x], [t] => aClear P t (evOf G σ.tm x) σ K
 | .cap, [x], [t] => aCap P t (evOf G σ.tm x) fun c => K c σ
 | .max, [x, y], [_, _] => aMax (evOf G σ.tm x) (evOf G σ.tm y) fun c => K c σ
 | _, _, _ => False
def aEff (P : Program) (G : Globs) (Y : Hd) (op : Op) (σ : St) (K : C → St → Prop) : Prop :=
 match op with
 | .alloc t => aAlloc P t σ K
 | .box _ x => aBox (evOf G σ.tm x) σ K
 | .store t p x => aStore P t (evOf G σ.tm p) (evOf G σ.tm x) σ K
 | .call c => match c.callee with
  | .value f => aCallV P G Y (evOf G σ.tm f) (c.args.toList.map (evOf G σ.tm)) σ K
  | .builtin b => aEffB P G Y b c.args.toList c.argTypes.toList σ K
  | _ => False
 | .buildSlice t n parts => if Y.bx t then aBuildBox P t n (parts.toList.map fun p => (p.1, evOf G σ.tm p.2)) σ K else aBuildSlice P t n (parts.toList.map fun p => (p.1, evOf G σ.tm p.2)) σ.nx fun c nx' => K c ⟨σ.tm, σ.bx, nx', σ.lg⟩
 | .mapUpdate t m k x => aMapUpd P t (evOf G σ.tm m) (evOf G σ.tm k) (evOf G σ.tm x) σ K
 | .insert t m k x => aMapUpd P t (evOf G σ.tm m) (evOf G σ.tm k) (evOf G σ.tm x) σ K
 | .makeSlice t l c => if Y.bx t then aMakeBox P t (evOf G σ.tm l) (evOf G σ.tm c) σ K else aMake P t (evOf G σ.tm l) (evOf G σ.tm c) σ.nx fun c nx' => K c ⟨σ.tm, σ.bx, nx', σ.lg⟩
 | op => aPure P G σ.bx (evOf G σ.tm) op σ.nx fun c nx' => K c ⟨σ.tm, σ.bx, nx', σ.lg⟩
theorem Good.far {R R' : Env} {L : Loc} (h : Good G E σ R L) (hf : Far R R') {lg : Nat} (hJ : E.J lg R') : Good G E ⟨σ.tm, σ.bx, σ.nx, lg⟩ R' L := by
 refine ⟨⟨h.fit.glob.ext hf.ext, ⟨h.fit.boxes.len, h.fit.boxes.nodup, fun i b cs hi hc => ?_⟩, ⟨fun id e k v ht => ?_, h.fit.owns.apart⟩, fun g hg => h.fit.base g (Nat.le_trans hf.size hg)⟩, hf.os.trans h.os, hf.tape.trans h.tape, hf.output.trans h.output, Nat.le_trans h.size hf.size, fun b hb hx hF => ?_, h.ext.trans hf.ext, h.box, h.tub, hf.flt, fun b hb => (hf.fgn b (Nat.lt_of_lt_of_le hb h.size)).trans (h.fz b hb), fun b hb hF => ?_, fun id e k v b ht hv hF => ?_, h.free, hJ⟩
 ·obtain ⟨vs, ty, e1, e2, e3, e4⟩ := h.fit.boxes.box i b cs hi hc
  obtain ⟨g1, g2⟩ := hf.blk b (heap_lt e1) (h.fbx b (List.mem_of_getElem? hi))
  exact ⟨vs, ty, g1.trans e1, RepL.ext hf.ext (LocLe.refl _) _ _ e2, e3, fun o => (g2 o).2 (e4 o)⟩
 ·refine (h.fit.owns.own id e k v ht).move fun g hv q2 hlt q7 => ?_
  obtain ⟨g1, g2⟩ := hf.blk g hlt (h.fow id e k v g ht hv)
  exact ⟨q2, g1, q7, fun o ho => (g2 o).2 ho⟩
 ·have hlt := Nat.lt_of_lt_of_le hb h.size
  have hF' : ¬ R.F b := fun h' => hF ((hf.fgn b hlt).2 h')
  obtain ⟨g1, g2⟩ := hf.blk b hlt hF'
  obtain ⟨k1, k2⟩ := h.blk b hb hx hF'
  exact ⟨g1.trans k1, fun o => (g2 o).trans (k2 o)⟩
 ·exact h.fbx b hb ((hf.fgn b (h.fit.β_lt b hb)).1 hF)
 ·exact h.fow id e k v b ht hv ((hf.fgn b ((h.fit.owns.own id e k v ht).block hv).2.1).1 hF)
theorem DfOk.far {ds : List Deferred} {R R' : Env} (h : DfOk E ds R) (hf : Far R R') : DfOk E ds R' := by
 obtain ⟨l, e, hl, h⟩ := h
 refine ⟨l, e, hl, fun d hd => ?_⟩
 obtain ⟨h1, h2, h3⟩ := h d hd
 exact ⟨(hf.blk d (heap_lt h1) h3).1.trans h1, h2, fun h' => h3 ((hf.fgn d (heap_lt h1)).1 h')⟩
theorem InvV.far {R R' : Env} {L : Loc} (h : InvV G E σ a R L) (hf : Far R R') {lg : Nat} (hJ : E.J lg R') : InvV G E ⟨σ.tm, σ.bx, σ.nx, lg⟩ a R' L :=
 ⟨h.good.far hf hJ, h.size, h.df.far hf, fun t => Rep.ext hf.ext (LocLe.refl _) _ _ (h.tm t)⟩
theorem yield_after {Y : Option Yd} (hY : ∀ y, Y = some y → YOk P y E.J) {c : Call} {f : Operand} (ho : o.op = .call c) (hc : c.callee = .value f) {l : Nat} (hev : evOf G σ.tm f = .sc (.func (.yield l) #[] #[])) {K : C → St → Prop} {R : Env} {L : Loc} (h : InvV G E σ a R L)
  (hK : aYield Y l (c.args.toList.map (evOf G σ.tm)) σ K) : Runs P o a.eval R.w (After G E a K) := by
 unfold aYield at hK
 split at hK <;> try exact hK.elim
 rename_i y
 obtain ⟨rfl, hK⟩ := hK
 unfold aYield1 at hK
 split at hK <;> try exact hK.elim
 rename_i it hit
 obtain ⟨hle, hst, hK⟩ := hK
 have hf := h.ev f; rw [hev, rep_sc] at hf
 have hargs := RepL.less _ _ _ hle (repL_map h.ev c.args.toList)
 have hargs0 : RepL R noLoc it (c.args.toList.map a.eval) := by
  refine RepL.ext (Ext.refl R) (T := lessLoc [] 0 L) ⟨fun i b hb => ?_, fun id x hx => ?_⟩ _ _ hargs
  ·simp at hb
  ·have hx : srcT [] L.T id = some x := hx
   simp [srcT] at hx
 obtain ⟨fn, tmps, assign, body, hrun, hround⟩ := hY y rfl σ.lg R it _ h.good.log h.good.flt hst hit hargs0
 have hexec : (execOp a.eval o).run P R.w = .ok (.round y.l fn tmps assign body) R.w := by
  unfold execOp
  simp only [ho, resolve, hc, hf]
  have e2 : (Deferred.ofValue (.func (.yield y.l) #[] #[]) (c.args.map a.eval)).run P R.w = .ok { target := .fn (.yield y.l) #[], args := c.args.map a.eval } R.w := by
   simp [Deferred.ofValue]
  rw [Sem.run_bind, e2]
  simp only [Result.andThen_ok, invoke]
  have e3 : (c.args.toList.map a.eval).toArray = c.args.map a.eval := by apply Array.ext'; simp
  rw [e3] at hrun
  simpa using hrun
 unfold Runs
 rw [hexec]
 refine hround.mono ?_
 rintro e w' ⟨rfl, R', rfl, hfar, hJ⟩
 exact ⟨_, rfl, _, _, R', L, rfl, h.far hfar hJ, rep_sc.2 rfl, hK⟩
theorem cap_after {t : TypeId} {x : Operand} (ho : o.op = .call { callee := .builtin .cap, args := #[x], argTypes := #[t] }) {K : C → St → Prop} {R : Env} {L : Loc} (h : InvV G E σ a R L) (hK : aCap P t (evOf G σ.tm x) fun c => K c σ) : Runs P o a.eval R.w (After G E a K) := by
 unfold aCap at hK
 split at hK <;> try exact hK.elim
 ·rename_i e s1 b1 z1 i off k n c hl hev
  have hs := h.ev x; rw [hev, rep_bs] at hs
  obtain ⟨b, hb, ad, es, _⟩ := hs
  refine Runs.value (w' := R.w) (v := goInt (c : Int)) ?_ ⟨_, _, R, L, rfl, h, rep_sc.2 rfl, hK⟩
  unfold execOp
  simp only [ho, resolve, invoke, builtin, Sem.run_bind, Sem.run_pure, Result.andThen_ok, List.map_toArray, List.map_cons, List.map_nil, es]
  simp [Builtin.cap_, run_underlying (lay_slice hl rfl)]
 ·rename_i e s1 b1 z1 hl hev
  have hs := h.ev x; rw [hev, rep_sc] at hs
  refine Runs.value (w' := R.w) (v := goInt ((0 : Nat) : Int)) ?_ ⟨_, _, R, L, rfl, h, rep_sc.2 rfl, hK⟩
  unfold execOp
  simp only [ho, resolve, invoke, builtin, Sem.run_bind, Sem.run_pure, Result.andThen_ok, List.map_toArray, List.map_cons, List.map_nil, hs]
  simp [Builtin.cap_, run_underlying (lay_slice hl rfl)]
theorem aEff_after {Y : Hd} (hY : HdOk P Y E) {K : C → St → Prop} (hK : aEff P G Y o.op σ K) {R : Env} {L : Loc} (h : InvV G E σ a R L) : Runs P o a.eval R.w (After G E a K) := by
 have pure1 : aPure P G σ.bx (evOf G σ.tm) o.op σ.nx (fun c nx' => K c ⟨σ.tm, σ.bx, nx', σ.lg⟩) → Runs P o a.eval R.w (After G E a K) := fun hp => by
  obtain ⟨c, nx', h1, h2⟩ := aPure_sound _ hp
  exact pure_after h1 h h2
 unfold aEff at hK
 split at hK
 ·exact alloc_after (by assumption) h hK
 ·exact box_after (by assumption) h hK
 ·exact store_after (by assumption) h hK
 ·rename_i c ho
  split at hK
  ·rename_i f hc
   unfold aCallV at hK
   split at hK
   ·rename_i l fs cs hev
    obtain ⟨rfl, rfl, hK⟩ := hK
    exact yield_after hY.yd ho hc hev h hK
   ·rename_i fid first cap hev
    rcases hK with hK | hK | hK | hK | hK
    ·exact pure1 (by rw [ho]; simp only [aPure, aCall, hc]; rw [hev]; exact hK)
    ·exact callB_after ho hc hev h hK
    ·obtain ⟨fargs, r, n, h1, h2, h3, h4⟩ := hK
     exact pure_after (pure_callR ho hc hev h1 h2 h3) h h4
    ·exact callX_after ho hc hev h hK
    ·exact callO_after ho hc hev h hK
   ·exact hK.elim
  ·rename_i b hc
   unfold aEffB at hK
   split at hK
   ·rename_i x t h1 h2
    exact pure1 (by rw [ho]; simp only [aPure, aCall, hc, aCallB, h1, h2]; exact hK)
   ·rename_i s x t t' h1 h2
    split at hK
    rotate_left
    ·obtain ⟨callee, args, argTypes⟩ := c
     simp only at hc h1 h2
     rw [toList_two h1, toList_two h2, hc] at ho
     exact appZ_after ho h hK
    subst_vars
    split at hK
    ·obtain ⟨callee, args, argTypes⟩ := c
     simp only at hc h1 h2
     rw [toList_two h1, toList_two h2, hc] at ho
     split at hK
     ·exact appB2_after ho h hK
     ·exact appBox_after hY.box ho h hK
    ·unfold aAppend at hK
     split at hK
     ·rename_i id e k rows hev
      rw [← hev] at hK
      obtain ⟨callee, args, argTypes⟩ := c
      simp only at hc h1 h2
      rw [toList_two h1, toList_two h2, hc] at ho
      exact appOwn_after ho h hK
     ·exact pure1 (by rw [ho]; simp only [aPure, aCall, hc, aCallB, h1, h2]; exact ⟨trivial, hK⟩)
   ·rename_i d x t t' h1 h2
    obtain ⟨callee, args, argTypes⟩ := c
    simp only at hc h1 h2
    rw [toList_two h1, toList_two h2, hc] at ho
    exact copy_after ho h hK
   ·rename_i x t h1 h2
    obtain ⟨callee, args, argTypes⟩ := c
    simp only at hc h1 h2
    rw [toList_one h1, toList_one h2, hc] at ho
    exact clear_after ho h hK
   ·rename_i x t h1 h2
    obtain ⟨callee, args, argTypes⟩ := c
    simp only at hc h1 h2
    rw [toList_one h1, toList_one h2, hc] at ho
    exact cap_after ho h hK
   ·rename_i x y t t' h1 h2
    exact pure1 (by rw [ho]; simp only [aPure, aCall, hc, aCallB, h1, h2]; exact hK)
   ·exact hK.elim
  ·exact hK.elim
 ·rename_i t n parts ho
  split at hK
  ·exact buildBox_after ho h hK
  ·exact pure1 (by rw [ho]; exact hK)
 ·exact mapUpd_after (.inl (by assumption)) h hK
 ·exact mapUpd_after (.inr (by assumption)) h hK
 ·rename_i t l c ho
  split at hK
  ·exact makeBox_after ho h hK
  ·exact pure1 (by rw [ho]; exact hK)
 ·exact pure1 hK
end
end Go.Proofs.YtbphobmohdclaaaGreatDoor.Vcg
end
section
set_option linter.unusedVariables false
set_option linter.unusedSimpArgs false
namespace Go.Proofs.YtbphobmohdclaaaGreatDoor.Vcg
open Go.RowKit
abbrev Fl (r : Option Nat) : Fence := { fn := fun _ => True, depth := none, alive := false, round := r }
theorem callsIn_fl {r : Option Nat} {n : Nat} {P : Program} {f : FuncId} {args : Array Value} {w : World} {R : Ending → World → Prop} (h : Calls P f args w R) : CallsIn (Fl r) n P f args w R := by
 have := (callsIn_wide (n := n)).2 h
 cases r with
 | none => exact this
 | some l => exact this
theorem roundIn_fl {r : Option Nat} {n : Nat} {P : Program} {l : Nat} {f : FuncId} {tmps : Array Value} {assign body : Code} {w : World} {R : Ending → World → Prop} (h : RoundIn Fence.wide 0 P l f tmps assign body w R) : RoundIn (Fl r) n P l f tmps assign body w R := by
 have : RoundIn (Fl none) n P l f tmps assign body w R := ⟨h.1, fun c cs _ => h.2 c cs (room_wide _)⟩
 cases r with
 | none => exact this
 | some l => exact this
section
variable {P : Program} {G : Globs} {E : Ctx} {σ : St} {o : Oper} {a : Act} {N p : Nat}
theorem runs_wpIn {r : Option Nat} {n : Nat} {w : World} {next : Act → World → Prop} {Q : Exit → Act → World → Prop} (h : Runs P o a.eval w fun v w' => next (a.put o.dst v) w') : o.wpIn (Fl r) n P a w next Q := by
 have hnd : ∀ c, o.op ≠ .defer c := fun c hc => by
  unfold Runs at h
  have : (execOp a.eval o).run P w = ((resolve a.eval c o.type).run P w).andThen fun d w' => .ok (.defer d) w' := by
   unfold execOp; simp only [hc, Sem.run_bind, Sem.run_pure]
  rw [this] at h
  cases hr : (resolve a.eval c o.type).run P w with
  | ok d w' => rw [hr] at h; exact h
  | halt x w' => rw [hr] at h; cases x <;> exact h
 refine ⟨fun f _ => trivial, ?_⟩
 rw [Oper.semAt_eq _ _ _ hnd]
 unfold Runs at h
 split at h
 ·rename_i v w' hr; rw [hr]; exact h
 ·rename_i w' hr; rw [hr]; exact h
 ·rename_i f args w' hr
  rw [hr]
  refine ⟨fun hx => by simp at hx, callsIn_fl (h.mono ?_)⟩
  rintro e w'' ⟨v, rfl, hv⟩
  exact hv
 ·rename_i l f tmps assign body w' hr
  rw [hr]
  refine ⟨fun hx => by simp at hx, roundIn_fl (h.mono ?_)⟩
  rintro e w'' ⟨v, rfl, hv⟩
  exact hv
 ·exact h.elim
def aGuard (ops : Array Oper) (tm : List (Nat × C)) (g : Option (Nat × Bool)) (X Y : Prop) : Prop :=
 match g with
 | none => X
 | some (j, want) => match (ops[j]?).bind (·.dst) with
  | some d => match want with
   | true => ABrU (getC tm d) Y X Y
   | false => ABrU (getC tm d) Y Y X
  | none => False
def guardIs (ops : Array Oper) (tm : List (Nat × C)) (g : Option (Nat × Bool)) (b : Bool) : Prop :=
 match g with
 | none => b = true
 | some (j, want) => ∃ d, (ops[j]?).bind (·.dst) = some d ∧ ((∃ t, getC tm d = .sc (.bool t) ∧ b = (t == want)) ∨ ((∃ vs, getC tm d = .sc (.tuple vs)) ∧ b = false))
theorem aGuard.out {ops : Array Oper} {tm : List (Nat × C)} {g : Option (Nat × Bool)} {X Y : Prop} (h : aGuard ops tm g X Y) : ∃ b, guardIs ops tm g b ∧ (b = true → X) ∧ (b = false → Y) := by
 unfold aGuard at h
 split at h
 ·exact ⟨true, rfl, fun _ => h, fun h => by cases h⟩
 ·rename_i j want
  split at h
  ·rename_i d hd
   split at h
   ·rcases h.out with ⟨t, ht, h1, h2⟩ | ⟨hu, h1⟩
    ·exact ⟨t == true, ⟨d, hd, .inl ⟨t, ht, rfl⟩⟩, fun e => h1 (by simpa using e), fun e => h2 (by simpa using e)⟩
    ·exact ⟨false, ⟨d, hd, .inr ⟨hu, rfl⟩⟩, fun e => (by cases e), fun _ => h1⟩
   ·rcases h.out with ⟨t, ht, h1, h2⟩ | ⟨hu, h1⟩
    ·exact ⟨t == false, ⟨d, hd, .inl ⟨t, ht, rfl⟩⟩, fun e => h2 (by simpa using e), fun e => h1 (by simpa using e)⟩
    ·exact ⟨false, ⟨d, hd, .inr ⟨hu, rfl⟩⟩, fun e => (by cases e), fun _ => h1⟩
  ·exact h.elim
theorem guard_wanted {ops : Array Oper} {g : Option (Nat × Bool)} {b : Bool} {tm : List (Nat × C)} (hg : o.guard = g) (h : guardIs ops tm g b) {R : Env} {L : Loc} (hd : ∀ j want d, g = some (j, want) → (ops[j]?).bind (·.dst) = some d → d < a.tmps.size ∧ Rep R L (getC tm d) (a.tmps.getD d undef)) :
  Region.wanted o (yielded ops a.tmps) = b := by
 unfold Region.wanted
 rw [hg]
 unfold guardIs at h
 cases g with
 | none => exact h.symm
 | some jw =>
  obtain ⟨j, want⟩ := jw
  obtain ⟨d, h1, h2⟩ := h
  obtain ⟨hlt, hr⟩ := hd j want d rfl h1
  have hget : a.tmps[d]? = some (a.tmps.getD d undef) := by rw [Array.getElem?_eq_getElem hlt, Array.getD_eq_getD_getElem?, Array.getElem?_eq_getElem hlt]; rfl
  rcases h2 with ⟨t, h2, rfl⟩ | ⟨⟨vs, h2⟩, rfl⟩
  ·rw [h2, rep_sc] at hr
   have hy : yielded ops a.tmps j = some t := by
    unfold yielded
    rw [h1]
    simp [hget, hr]
   simp only [hy]
   cases t <;> cases want <;> rfl
  ·rw [h2, rep_sc] at hr
   have hy : yielded ops a.tmps j = none := by
    unfold yielded
    rw [h1]
    simp [hget, hr]
   simp only [hy]
   rfl
def putT (tm : List (Nat × C)) (dst : Option Tmp) (c : C) : List (Nat × C) := match dst with | some d => (d, c) :: tm | none => tm
def adops (P : Program) (G : Globs) (Y : Hd) (ops : Array Oper) : List Oper → List Bool → St → (St → Prop) → Prop
 | [], _, σ, K => K σ
 | o :: rest, br, σ, K => aGuard ops σ.tm o.guard
   (match br.headD false with
    | true => aEff P G Y o.op σ fun c σ' => adops P G Y ops rest br.tail (σ'.put o.dst c) K
    | false => aPure P G σ.bx (evOf G σ.tm) o.op σ.nx fun c nx' => adops P G Y ops rest br.tail ⟨putT σ.tm o.dst c, σ.bx, nx', σ.lg⟩ K)
   (adops P G Y ops rest br.tail ⟨putT σ.tm o.dst (.sc undef), σ.bx, σ.nx, σ.lg⟩ K)
theorem aPure_congr {bx : List (List C)} {ev ev' : Operand → C} {nx : Nat} {K : C → Nat → Prop} (op : Op) (h : ∀ x ∈ op.operands, ev x = ev' x) : aPure P G bx ev op nx K = aPure P G bx ev' op nx K := by
 have parts : ∀ l : List (Nat × Operand), (∀ x ∈ l.map (·.2), ev x = ev' x) → l.map (fun p => (p.1, ev p.2)) = l.map fun p => (p.1, ev' p.2) := fun l hl =>
  List.map_congr_left fun p hp => by rw [hl p.2 (List.mem_map.2 ⟨p, hp, rfl⟩)]
 have many : ∀ l : List Operand, (∀ x ∈ l, ev x = ev' x) → l.map ev = l.map ev' := fun l hl => List.map_congr_left hl
 cases op <;> simp only [Op.operands] at h <;> simp only [aPure]
 case move x => rw [h x (by simp)]
 case assign x => rw [h x (by simp)]
 case pick c a b => rw [h c (by simp), h a (by simp), h b (by simp)]
 case build t ps => rw [parts _ fun x hx => h x (by simpa using hx)]
 case buildSlice t n ps => rw [parts _ fun x hx => h x (by simpa using hx)]
 case load t x => rw [h x (by simp)]
 case nilCheck x => rw [h x (by simp)]
 case store t p x => rw [h p (by simp), h x (by simp)]
 case lookup t m k ok => rw [h m (by simp), h k (by simp)]
 case makeMap t r =>
  have e1 : r.map ev = r.map ev' := by cases r with | none => rfl | some y => simp [h y (by simp)]
  rw [e1]
 case binOp op t x y t' => rw [h x (by simp), h y (by simp)]
 case unOp op t x => rw [h x (by simp)]
 case convert s d x => rw [h x (by simp)]
 case makeFunc fn first cap => rw [many first.toList fun x hx => h x (by simp at hx ⊢; exact .inl hx), many cap.toList fun x hx => h x (by simp at hx ⊢; exact .inr hx)]
 case makeSlice t l c => rw [h l (by simp), h c (by simp)]
 case slice t x lo hi mx =>
  rw [h x (by simp)]
  have e1 : lo.map ev = lo.map ev' := by cases lo with | none => rfl | some y => simp [h y (by simp)]
  have e2 : hi.map ev = hi.map ev' := by cases hi with | none => rfl | some y => simp [h y (by simp)]
  have e3 : mx.map ev = mx.map ev' := by cases mx with | none => rfl | some y => simp [h y (by simp)]
  rw [e1, e2, e3]
 case fieldAddr t x f => rw [h x (by simp)]
 case field t x f => rw [h x (by simp)]
 case indexAddr t x i => rw [h x (by simp), h i (by simp)]
 case index t x i => rw [h x (by simp), h i (by simp)]
 case extract t i => rw [h t (by simp)]
 case call c =>
  unfold aCall
  have hargs : ∀ x ∈ c.args.toList, ev x = ev' x := fun x hx => h x (by unfold Call.operands; simp at hx ⊢; exact .inr hx)
  split
  ·rename_i f hc
   rw [h f (by unfold Call.operands; rw [hc]; simp), many _ hargs]
  ·unfold aCallB
   split
   ·rename_i x t h1 h2 _
    rw [hargs x (by rw [h1]; simp)]
   ·rename_i s x t t' h1 h2 _
    rw [hargs s (by rw [h1]; simp), hargs x (by rw [h1]; simp)]
   ·rename_i s x t t' h1 h2 _
    rw [hargs s (by rw [h1]; simp), hargs x (by rw [h1]; simp)]
   ·rfl
  ·rfl
open Classical in
/-- the operands of an operation alone -/
noncomputable def restr (o : Oper) (ev : Operand → C) : Operand → C := fun x => if x ∈ o.op.operands then ev x else .any
theorem aPure_restr {bx : List (List C)} {ev : Operand → C} {nx : Nat} {K : C → Nat → Prop} (h : aPure P G bx ev o.op nx K) : ∃ c nx', PureSem P G bx (restr o ev) nx o c nx' ∧ K c nx' := by
 rw [aPure_congr (ev' := restr o ev) o.op fun x hx => by unfold restr; rw [if_pos hx]] at h
 exact aPure_sound K h
structure Data where
 T : Nat → List (Nat × C)
 X : Nat → Nat
 c : Nat → C
 wn : Nat → Bool
structure Chain (P : Program) (G : Globs) (bx : List (List C)) (ops : Array Oper) (l : List Oper) (m m' : Nat) (D : Data) : Prop where
 step : ∀ (i : Nat) o, m ≤ i → i < m' → l[i]? = some o → D.T (i + 1) = putT (D.T i) o.dst (D.c i) ∧ D.X i ≤ D.X (i + 1) ∧ guardIs ops (D.T i) o.guard (D.wn i) ∧
  (D.wn i = true → PureSem P G bx (restr o (evOf G (D.T i))) (D.X i) o (D.c i) (D.X (i + 1))) ∧ (D.wn i = false → D.c i = .sc undef ∧ D.X (i + 1) = D.X i)
structure Skel (l : List Oper) (m m' : Nat) (D : Data) : Prop where
 step : ∀ (i : Nat) o, m ≤ i → i < m' → l[i]? = some o → D.T (i + 1) = putT (D.T i) o.dst (D.c i) ∧ D.X i ≤ D.X (i + 1)
theorem Chain.skel {bx : List (List C)} {ops : Array Oper} {l : List Oper} {m m' : Nat} {D : Data} (h : Chain P G bx ops l m m' D) : Skel l m m' D := ⟨fun i o a b c => ⟨(h.step i o a b c).1, (h.step i o a b c).2.1⟩⟩
theorem chain_seg {Y : Hd} {ops : Array Oper} {all : List Oper} {K : St → Prop} : ∀ (l : List Oper) (br : List Bool) (m : Nat) (σ : St), all.drop m = l → m ≤ all.length → adops P G Y ops l br σ K →
  ∃ (m' : Nat) (D : Data), m ≤ m' ∧ m' ≤ all.length ∧ D.T m = σ.tm ∧ D.X m = σ.nx ∧ Chain P G σ.bx ops all m m' D ∧
   ((m' = all.length ∧ K ⟨D.T m', σ.bx, D.X m', σ.lg⟩) ∨ (m' < all.length ∧ br[m' - m]? = some true ∧ adops P G Y ops (all.drop m') (br.drop (m' - m)) ⟨D.T m', σ.bx, D.X m', σ.lg⟩ K))
 | [], br, m, σ, hl, hm, h => by
  have : m = all.length := by
   have := congrArg List.length hl
   simp at this; omega
  subst this
  exact ⟨_, ⟨fun _ => σ.tm, fun _ => σ.nx, fun _ => .any, fun _ => true⟩, Nat.le_refl _, Nat.le_refl _, rfl, rfl, ⟨fun i o h1 h2 => by omega⟩, .inl ⟨rfl, h⟩⟩
 | o :: rest, br, m, σ, hl, hm, h => by
  have hlt : m < all.length := by
   rcases Nat.lt_or_ge m all.length with g | g
   ·exact g
   ·rw [List.drop_eq_nil_of_le g] at hl; cases hl
  have hom : all[m]? = some o := by
   have := List.getElem?_drop (xs := all) (i := m) (j := 0)
   rw [hl] at this; simpa using this.symm
  have hrest : all.drop (m + 1) = rest := by
   have := congrArg List.tail hl
   simpa using this
  cases hbr : br.headD false with
  | true =>
   refine ⟨m, ⟨fun _ => σ.tm, fun _ => σ.nx, fun _ => .any, fun _ => true⟩, Nat.le_refl _, by omega, rfl, rfl, ⟨fun i o h1 h2 => by omega⟩, .inr ⟨hlt, ?_, ?_⟩⟩
   ·cases br with
    | nil => simp at hbr
    | cons x r => simp at hbr; simp [hbr]
   ·rw [hl, Nat.sub_self]; exact h
  | false =>
   unfold adops at h
   obtain ⟨b, hg, h1, h2⟩ := aGuard.out h
   simp only [hbr] at h1
   have key : ∀ (c : C) (nx' : Nat), (b = true → PureSem P G σ.bx (restr o (evOf G σ.tm)) σ.nx o c nx') → (b = false → c = .sc undef ∧ nx' = σ.nx) → σ.nx ≤ nx' → adops P G Y ops rest br.tail ⟨putT σ.tm o.dst c, σ.bx, nx', σ.lg⟩ K →
     ∃ (m' : Nat) (D : Data), m ≤ m' ∧ m' ≤ all.length ∧ D.T m = σ.tm ∧ D.X m = σ.nx ∧ Chain P G σ.bx ops all m m' D ∧
      ((m' = all.length ∧ K ⟨D.T m', σ.bx, D.X m', σ.lg⟩) ∨ (m' < all.length ∧ br[m' - m]? = some true ∧ adops P G Y ops (all.drop m') (br.drop (m' - m)) ⟨D.T m', σ.bx, D.X m', σ.lg⟩ K)) := fun c nx' hp hq hle hrst => by
    obtain ⟨m', D, d1, d2, d3, d4, d5, d6⟩ := chain_seg rest br.tail (m + 1) _ hrest (by omega) hrst
    refine ⟨m', ⟨fun i => if i ≤ m then σ.tm else D.T i, fun i => if i ≤ m then σ.nx else D.X i, fun i => if i = m then c else D.c i, fun i => if i = m then b else D.wn i⟩, by omega, d2, by simp, by simp, ⟨fun i o' hi hi' hio => ?_⟩, ?_⟩
    ·by_cases him : i = m
     ·subst him
      rw [hom] at hio; cases hio
      simp only [Nat.le_refl, if_true, show ¬ i + 1 ≤ i by omega, if_false]
      refine ⟨d3, by rw [d4]; exact hle, hg, fun hb => ?_, fun hb => ?_⟩
      ·rw [d4]; exact hp hb
      ·rw [d4]; exact hq hb
     ·simp only [if_neg him, if_neg (show ¬ i ≤ m by omega), if_neg (show ¬ i + 1 ≤ m by omega)]
      exact d5.step i o' (by omega) hi' hio
    ·simp only [if_neg (show ¬ m' ≤ m by omega)]
     rcases d6 with ⟨g1, g2⟩ | ⟨g1, g2, g3⟩
     ·exact .inl ⟨g1, g2⟩
     ·refine .inr ⟨g1, ?_, ?_⟩
      ·cases br with
       | nil => simp at g2
       | cons x r =>
        rw [show m' - m = (m' - (m + 1)) + 1 by omega]
        simpa using g2
      ·cases br with
       | nil => simp at g2
       | cons x r =>
        rw [show m' - m = (m' - (m + 1)) + 1 by omega]
        simpa using g3
   cases b with
   | true =>
    obtain ⟨c, nx', hp, hK⟩ := aPure_restr (h1 rfl)
    exact key c nx' (fun _ => hp) (fun h => by cases h) hp.1 hK
   | false => exact key (.sc undef) σ.nx (fun h => by cases h) (fun _ => ⟨rfl, rfl⟩) (Nat.le_refl _) (h2 rfl)
end
end Go.Proofs.YtbphobmohdclaaaGreatDoor.Vcg
end
section
set_option linter.unusedVariables false
set_option linter.unusedSimpArgs false
namespace Go.Proofs.YtbphobmohdclaaaGreatDoor.Vcg
open Go.RowKit
def clsUpto (l : List Oper) : Nat → List Nat
 | 0 => []
 | m + 1 => clsUpto l m ++ [match l[m]? with
  | some o => o.after.toList.foldl (fun acc e => if Region.binds .any e then acc ||| 2 ^ e.on ||| (clsUpto l m).getD e.on 0 else acc) 0
  | none => 0]
def inC (cl : List Nat) (i j : Nat) : Bool := (cl.getD i 0).testBit j
theorem clsUpto_length (l : List Oper) : ∀ m, (clsUpto l m).length = m
 | 0 => rfl
 | m + 1 => by simp [clsUpto, clsUpto_length l m]
theorem fold_bits {p : List Nat} {x : Nat} : ∀ (l : List Edge) (acc : Nat), (l.foldl (fun acc e => if Region.binds .any e then acc ||| 2 ^ e.on ||| p.getD e.on 0 else acc) acc).testBit x = true →
  acc.testBit x = true ∨ ∃ e ∈ l, Region.binds .any e = true ∧ (x = e.on ∨ inC p e.on x = true)
 | [], acc, h => .inl h
 | e :: l, acc, h => by
  rw [List.foldl_cons] at h
  rcases fold_bits l _ h with h | ⟨e', h1, h2⟩
  ·split at h
   ·rename_i hb
    simp only [Nat.testBit_or, Bool.or_eq_true, Nat.testBit_two_pow, decide_eq_true_eq] at h
    rcases h with (h | h) | h
    ·exact .inl h
    ·exact .inr ⟨e, List.mem_cons_self, hb, .inl h.symm⟩
    ·exact .inr ⟨e, List.mem_cons_self, hb, .inr h⟩
   ·exact .inl h
  ·exact .inr ⟨e', List.mem_cons_of_mem _ h1, h2⟩
def touches (ops : Array Oper) (o : Oper) : List Tmp := o.looksAt ops ++ o.dst.toList
def pairOk (ops : Array Oper) (cl : List Nat) (i : Nat) (o : Oper) (j : Nat) (o' : Oper) : Bool :=
 i == j || match o'.dst with
  | none => true
  | some d => !((touches ops o).contains d) || (if j < i then inC cl i j else inC cl j i)
def regOk (ops : Array Oper) : Bool :=
 let cl := clsUpto ops.toList ops.size
 ops.toList.zipIdx.all fun (o, i) => (o.after.toList.all fun e => !Region.binds .any e || decide (e.on < i)) && ops.toList.zipIdx.all fun (o', j) => pairOk ops cl i o j o'
def Closed (l : List Oper) (D : Nat → Bool) : Prop := ∀ (i : Nat) o, l[i]? = some o → D i = true → ∀ e ∈ o.after.toList, Region.binds .any e = true → D e.on = true
theorem cls_sound {l : List Oper} {D : Nat → Bool} (hD : Closed l D) : ∀ (m i x : Nat), inC (clsUpto l m) i x = true → D i = true → D x = true
 | 0, i, x, h, _ => by simp [clsUpto, inC] at h
 | m + 1, i, x, h, hi => by
  have hl := clsUpto_length l m
  simp only [clsUpto, inC] at h
  rcases Nat.lt_or_ge i m with hlt | hge
  ·rw [List.getD_eq_getElem?_getD, List.getElem?_append_left (by omega), ← List.getD_eq_getElem?_getD] at h
   exact cls_sound hD m i x h hi
  ·rw [List.getD_eq_getElem?_getD, List.getElem?_append_right (by omega), ← List.getD_eq_getElem?_getD] at h
   rcases Nat.lt_or_ge m i with h1 | h1
   ·rw [List.getD_eq_getElem?_getD, List.getElem?_eq_none (by simp; omega)] at h
    simp at h
   ·have : i = m := by omega
    subst this
    rw [hl, Nat.sub_self] at h
    simp only [List.getD_cons_zero] at h
    cases ho : l[i]? with
    | none => rw [ho] at h; simp at h
    | some o =>
     rw [ho] at h
     rcases fold_bits _ _ h with h | ⟨e, he, hb, hx⟩
     ·simp at h
     ·have hon := hD i o ho hi e he hb
      rcases hx with rfl | hx
      ·exact hon
      ·exact cls_sound hD i e.on x hx hon
def val (T0 : List (Nat × C)) (l : List Oper) (c : Nat → C) (D : Nat → Bool) : Nat → Nat → C
 | 0, t => getC T0 t
 | m + 1, t => if D m = true ∧ (l[m]?).bind (·.dst) = some t then c m else val T0 l c D m t
section
variable {P : Program} {G : Globs} {E : Ctx} {σ : St} {a : Act} {N p : Nat} {bx : List (List C)} {ops : Array Oper}
theorem val_text {D : Data} {l : List Oper} {m m' : Nat} (hl : m' ≤ l.length) (h : Skel l m m' D) (t : Nat) : ∀ k, m ≤ k → k ≤ m' → getC (D.T k) t = val (D.T m) l D.c (fun j => decide (m ≤ j)) k t
 | k, hm, hk => by
  rcases Nat.lt_or_ge m k with hlt | hge
  ·obtain ⟨k, rfl⟩ : ∃ j, k = j + 1 := ⟨k - 1, by omega⟩
   obtain ⟨h1, _⟩ := h.step k l[k] (by omega) (by omega) (List.getElem?_eq_getElem (by omega))
   rw [h1]
   simp only [val, List.getElem?_eq_getElem (show k < l.length by omega), Option.bind_some]
   have hmk : m ≤ k := by omega
   cases hd : (l[k]).dst with
   | none => simp [putT, val_text hl h t k hmk (by omega)]
   | some d =>
    simp only [putT, getC]
    by_cases ht : t = d
    ·simp [ht, hmk]
    ·have : ¬ d = t := fun e => ht e.symm
     simp [ht, this, val_text hl h t k hmk (by omega)]
  ·obtain rfl : k = m := by omega
   have : ∀ n, n ≤ k → val (D.T k) l D.c (fun j => decide (k ≤ j)) n t = getC (D.T k) t := fun n => by
    induction n with
    | zero => intro _; rfl
    | succ n ih =>
     intro hn
     simp only [val]
     rw [if_neg (by simp; omega), ih (by omega)]
   exact (this k (Nat.le_refl _)).symm
theorem val_congr {T0 : List (Nat × C)} {l : List Oper} {c : Nat → C} {D D' : Nat → Bool} {t : Nat} : ∀ m, (∀ j, j < m → (l[j]?).bind (·.dst) = some t → D j = D' j) → val T0 l c D m t = val T0 l c D' m t
 | 0, _ => rfl
 | m + 1, h => by
  simp only [val]
  rw [val_congr m fun j hj => h j (by omega)]
  by_cases hd : (l[m]?).bind (·.dst) = some t
  ·rw [h m (by omega) hd]
  ·simp [hd]
theorem val_skip {T0 : List (Nat × C)} {l : List Oper} {c : Nat → C} {D : Nat → Bool} {t : Nat} (i : Nat) : ∀ m, i ≤ m → (∀ j, i ≤ j → j < m → (l[j]?).bind (·.dst) = some t → D j = false) → val T0 l c D m t = val T0 l c D i t
 | 0, hi, _ => by rw [show i = 0 by omega]
 | m + 1, hi, h => by
  rcases Nat.lt_or_ge m i with h1 | h1
  ·rw [show i = m + 1 by omega]
  ·simp only [val]
   rw [val_skip i m h1 fun j hj hj' => h j hj (by omega)]
   by_cases hd : (l[m]?).bind (·.dst) = some t
   ·rw [h m h1 (by omega) hd]; simp
   ·simp [hd]
structure InvD (G : Globs) (E : Ctx) (bx : List (List C)) (lg : Nat) (l : List Oper) (m m' : Nat) (D : Data) (S : Nat → Bool) (a : Act) (R : Env) (L : Loc) : Prop where
 good : Good G E ⟨[], bx, D.X m', lg⟩ R L
 free : ∀ id, D.X m ≤ id → (∀ i, m ≤ i → i < m' → S i = true → ¬ (D.X i ≤ id ∧ id < D.X (i + 1))) → L.T id = none
 size : a.tmps.size = E.N
 df : DfOk E a.defers R
 tm : ∀ t, Rep R L (val (D.T m) l D.c (fun j => decide (m ≤ j) && S j) l.length t) (a.tmps.getD t undef)
theorem X_mono {D : Data} {l : List Oper} {m m' : Nat} (hl : m' ≤ l.length) (h : Skel l m m' D) : ∀ (i j : Nat), m ≤ i → i ≤ j → j ≤ m' → D.X i ≤ D.X j
 | i, 0, _, hij, _ => by rw [show i = 0 by omega]; exact Nat.le_refl _
 | i, j + 1, hm, hij, hj => by
  rcases Nat.lt_or_ge j i with h1 | h1
  ·rw [show i = j + 1 by omega]; exact Nat.le_refl _
  ·obtain ⟨_, h2⟩ := h.step j l[j] (by omega) (by omega) (List.getElem?_eq_getElem (by omega))
   exact Nat.le_trans (X_mono hl h i j hm h1 (by omega)) h2
theorem X_apart {D : Data} {l : List Oper} {m m' : Nat} (hl : m' ≤ l.length) (h : Skel l m m' D) {i j id : Nat} (hmi : m ≤ i) (hmj : m ≤ j) (hi : i < m') (hj : j < m') (h1 : D.X i ≤ id) (h2 : id < D.X (i + 1)) (h3 : D.X j ≤ id) (h4 : id < D.X (j + 1)) : i = j := by
 rcases Nat.lt_trichotomy i j with g | g | g
 ·have := X_mono hl h (i + 1) j (by omega) (by omega) (by omega); omega
 ·exact g
 ·have := X_mono hl h (j + 1) i (by omega) (by omega) (by omega); omega
theorem regOk_edge (h : regOk ops = true) {i : Nat} {o : Oper} (ho : ops.toList[i]? = some o) : ∀ e ∈ o.after.toList, Region.binds .any e = true → e.on < i := by
 unfold regOk at h
 have h1 := List.all_eq_true.1 h (o, i) (List.mem_zipIdx_iff_getElem?.2 ho)
 simp only [Bool.and_eq_true] at h1
 intro e he hb
 have := List.all_eq_true.1 h1.1 e he
 simpa [hb] using this
theorem regOk_pair (h : regOk ops = true) {i j : Nat} {o o' : Oper} (ho : ops.toList[i]? = some o) (ho' : ops.toList[j]? = some o') : pairOk ops (clsUpto ops.toList ops.size) i o j o' = true := by
 unfold regOk at h
 have h1 := List.all_eq_true.1 h (o, i) (List.mem_zipIdx_iff_getElem?.2 ho)
 simp only [Bool.and_eq_true] at h1
 exact List.all_eq_true.1 h1.2 (o', j) (List.mem_zipIdx_iff_getElem?.2 ho')
theorem agree (h : regOk ops = true) {S : Nat → Bool} (hS : Closed ops.toList S) {i : Nat} {o : Oper} (ho : ops.toList[i]? = some o) (hi : S i = false) (hpre : ∀ e ∈ o.after.toList, Region.binds .any e = true → S e.on = true)
  {j t : Nat} (hj : (ops.toList[j]?).bind (·.dst) = some t) (ht : t ∈ touches ops o) (hne : j ≠ i) : S j = decide (j < i) := by
 cases ho' : ops.toList[j]? with
 | none => rw [ho'] at hj; cases hj
 | some o' =>
  rw [ho'] at hj
  have hd : o'.dst = some t := hj
  have hp := regOk_pair h ho ho'
  unfold pairOk at hp
  have hij : (i == j) = false := by simp; omega
  rw [hij, hd] at hp
  have htc : (touches ops o).contains t = true := by simpa using ht
  simp only [Bool.false_or, htc, Bool.not_true] at hp
  by_cases hlt : j < i
  ·rw [if_pos hlt] at hp
   have hmem : inC (clsUpto ops.toList ops.size) i j = true := by simpa using hp
   rw [decide_eq_true hlt]
   -- S' closes over i
   have hS' : Closed ops.toList (fun x => S x || x == i) := fun k q hq hk e he hb => by
    simp only [Bool.or_eq_true, beq_iff_eq] at hk ⊢
    rcases hk with hk | hk
    ·exact .inl (hS k q hq hk e he hb)
    ·subst hk
     rw [ho] at hq; cases hq
     exact .inl (hpre e he hb)
   have := cls_sound hS' _ i j hmem (by simp)
   simp only [Bool.or_eq_true, beq_iff_eq] at this
   exact this.resolve_right hne
  ·rw [if_neg hlt] at hp
   have hmem : inC (clsUpto ops.toList ops.size) j i = true := by simpa using hp
   rw [decide_eq_false hlt]
   cases hsj : S j with
   | false => rfl
   | true =>
    have := cls_sound hS _ j i hmem hsj
    rw [hi] at this; cases this
theorem InvD.ev {D : Data} {S : Nat → Bool} {m m' lg : Nat} {R : Env} {L : Loc} (hl : m' ≤ ops.toList.length) (hc : Skel ops.toList m m' D) (hok : regOk ops = true) (hS : Closed ops.toList S) (h : InvD G E bx lg ops.toList m m' D S a R L) {i : Nat} {o : Oper} (hmi : m ≤ i) (hmi' : i < m') (ho : ops.toList[i]? = some o) (hi : S i = false)
  (hpre : ∀ e ∈ o.after.toList, Region.binds .any e = true → S e.on = true) : ∀ t ∈ touches ops o, Rep R L (getC (D.T i) t) (a.tmps.getD t undef) := fun t ht => by
 have hlt : i < ops.toList.length := (List.getElem?_eq_some_iff.1 ho).1
 have h1 := h.tm t
 have e1 : val (D.T m) ops.toList D.c (fun j => decide (m ≤ j) && S j) ops.toList.length t = val (D.T m) ops.toList D.c (fun j => decide (m ≤ j) && S j) i t := by
  refine val_skip i _ (by omega) fun j hj hj' hd => ?_
  simp only [Bool.and_eq_false_iff]
  by_cases hne : j = i
  ·rw [hne]; exact .inr hi
  ·rw [agree hok hS ho hi hpre hd ht hne]; exact .inr (decide_eq_false (by omega))
 have e2 : val (D.T m) ops.toList D.c (fun j => decide (m ≤ j) && S j) i t = val (D.T m) ops.toList D.c (fun j => decide (m ≤ j)) i t := val_congr i fun j hj hd => by
  rw [agree hok hS ho hi hpre hd ht (by omega), decide_eq_true hj, Bool.and_true]
 rw [e1, e2, ← val_text hl hc t i hmi (by omega)] at h1
 exact h1
theorem InvD.freeAt {D : Data} {S : Nat → Bool} {m m' lg : Nat} {R : Env} {L : Loc} (hl : m' ≤ ops.toList.length) (hc : Skel ops.toList m m' D) (h : InvD G E bx lg ops.toList m m' D S a R L) {i : Nat} (hmi : m ≤ i) (hmi' : i < m') (hi : S i = false) : Free L (D.X i) (D.X (i + 1)) := fun id h1 h2 =>
 h.free id (Nat.le_trans (X_mono hl hc m i (Nat.le_refl _) hmi (by omega)) h1) fun j hmj hj hsj hx => by
  have := X_apart hl hc hmi hmj hmi' hj h1 h2 hx.1 hx.2
  subst this; rw [hi] at hsj; cases hsj
theorem InvD.put {D : Data} {S : Nat → Bool} {m m' lg : Nat} {R R' : Env} {L L' : Loc} (hl : m' ≤ ops.toList.length) (hc : Skel ops.toList m m' D) (hok : regOk ops = true) (hS : Closed ops.toList S) (h : InvD G E bx lg ops.toList m m' D S a R L) {i : Nat} {o : Oper} (hmi : m ≤ i) (hmi' : i < m') (ho : ops.toList[i]? = some o) (hi : S i = false)
  (hpre : ∀ e ∈ o.after.toList, Region.binds .any e = true → S e.on = true) (hd : dstOk E.N o.dst) {v : Value} (st : PStep (D.X i) (D.X (i + 1)) R L R' L') (hv : Rep R' L' (D.c i) v) :
  InvD G E bx lg ops.toList m m' D (fun x => S x || x == i) (a.put o.dst v) R' L' := by
 have hlt : i < ops.toList.length := (List.getElem?_eq_some_iff.1 ho).1
 have hfree := h.freeAt hl hc hmi hmi' hi
 have hxm := X_mono hl hc (i + 1) m' (by omega) (by omega) (Nat.le_refl _)
 refine ⟨?_, fun id h1 h2 => ?_, ?_, ?_, fun t => ?_⟩
 ·refine h.good.move (st.near _ _).nigh (h.good.fit.step hfree st) ⟨[], by rw [st.box, List.append_nil], fun b hb => by cases hb⟩ (fun id e k v b ht hv => ?_) fun id hid => ?_
  ·rcases st.cases ht with g | ⟨g1, g2⟩
   ·exact .inl ⟨id, e, k, v, g, hv⟩
   ·exact .inr ((st.new id e k v g1 g2 ht).block hv).1
  ·rw [st.old id (.inr (by omega))]; exact h.good.free id hid
 ·have hni := h2 i hmi hmi' (by simp)
  rw [st.old id (by omega)]
  exact h.free id h1 fun j hmj hj hsj => h2 j hmj hj (by simp [hsj])
 ·cases hdst : o.dst <;> simpa [Act.put] using h.size
 ·have hdf := h.df.near (st.near _ _)
  cases hdst : o.dst <;> exact hdf
 ·have hold : ∀ t, Rep R' L' (val (D.T m) ops.toList D.c (fun j => decide (m ≤ j) && S j) ops.toList.length t) (a.tmps.getD t undef) := fun t => Rep.ext st.ext (st.le hfree) _ _ (h.tm t)
  by_cases hdt : o.dst = some t
  ·have hlt2 : t < a.tmps.size := by rw [hdt] at hd; rw [h.size]; exact hd
   have e1 : val (D.T m) ops.toList D.c (fun j => decide (m ≤ j) && (S j || j == i)) ops.toList.length t = D.c i := by
    rw [val_skip (i + 1) _ (by omega) fun j hj hj' hdj => ?_]
    ·simp [val, ho, hdt, hmi]
    ·have hag := agree hok hS ho hi hpre hdj (by simp [touches, hdt]) (by omega)
     simp only [Bool.and_eq_false_iff, Bool.or_eq_false_iff]
     exact .inr ⟨by rw [hag]; exact decide_eq_false (by omega), by simp; omega⟩
   rw [e1, hdt]
   have : (a.put (some t) v).tmps.getD t undef = v := by simp [Act.put, Array.getD_eq_getD_getElem?, hlt2]
   rw [this]; exact hv
  ·have e1 : val (D.T m) ops.toList D.c (fun j => decide (m ≤ j) && (S j || j == i)) ops.toList.length t = val (D.T m) ops.toList D.c (fun j => decide (m ≤ j) && S j) ops.toList.length t := val_congr _ fun j hj hdj => by
    have hji : j ≠ i := fun e => by
     subst e; rw [ho] at hdj; exact hdt hdj
    have hj2 : (j == i) = false := by simpa using hji
    show (decide (m ≤ j) && (S j || j == i)) = (decide (m ≤ j) && S j)
    rw [hj2, Bool.or_false]
   rw [e1]
   have e2 : (a.put o.dst v).tmps.getD t undef = a.tmps.getD t undef := by
    cases hdst : o.dst with
    | none => rfl
    | some d =>
     have hne : d ≠ t := fun e => hdt (by rw [hdst, e])
     simp [Act.put, Array.getD_eq_getD_getElem?, Array.getElem?_setIfInBounds_ne hne]
   rw [e2]; exact hold t
def barrOk (ops : Array Oper) (br : List Bool) : Bool :=
 let cl := clsUpto ops.toList ops.size
 (List.range ops.size).all fun i => !(br.getD i false) || (List.range ops.size).all fun j => j == i || if j < i then inC cl i j else inC cl j i
theorem barrOk_ahead {br : List Bool} (h : barrOk ops br = true) {i j : Nat} (hi : i < ops.size) (hb : br.getD i false = true) (hji : j < i) : inC (clsUpto ops.toList ops.size) i j = true := by
 unfold barrOk at h
 have h1 := List.all_eq_true.1 h i (by simpa using hi)
 rw [hb] at h1
 simp only [Bool.not_true, Bool.false_or] at h1
 have h2 := List.all_eq_true.1 h1 j (by simp; omega)
 rw [if_pos hji] at h2
 have : (j == i) = false := by simp; omega
 rw [this] at h2
 simpa using h2
theorem barrOk_behind {br : List Bool} (h : barrOk ops br = true) {i j : Nat} (hi : i < ops.size) (hj : j < ops.size) (hb : br.getD i false = true) (hji : i < j) : inC (clsUpto ops.toList ops.size) j i = true := by
 unfold barrOk at h
 have h1 := List.all_eq_true.1 h i (by simpa using hi)
 rw [hb] at h1
 simp only [Bool.not_true, Bool.false_or] at h1
 have h2 := List.all_eq_true.1 h1 j (by simpa using hj)
 rw [if_neg (by omega)] at h2
 have : (j == i) = false := by simp; omega
 rw [this] at h2
 simpa using h2
end
end Go.Proofs.YtbphobmohdclaaaGreatDoor.Vcg
end
section
set_option linter.unusedVariables false
set_option linter.unusedSimpArgs false
namespace Go.Proofs.YtbphobmohdclaaaGreatDoor.Vcg
open Go.RowKit
section
variable {P : Program} {G : Globs} {E : Ctx} {σ : St} {a : Act} {N p : Nat} {bx : List (List C)} {ops : Array Oper}
theorem ready_mem {listed : Array Bool} {i : Nat} (h : i ∈ Region.ready .any ops listed) : ∃ o, ops.toList[i]? = some o ∧ listed.getD i true = false ∧ ∀ e ∈ o.after.toList, Region.binds .any e = true → listed.getD e.on false = true := by
 unfold Region.ready at h
 rw [List.mem_filter] at h
 obtain ⟨h1, h2⟩ := h
 simp only [Bool.and_eq_true, Bool.not_eq_true'] at h2
 have hi : i < ops.size := by simpa using h1
 rw [Array.getElem?_eq_getElem hi] at h2
 simp only [Option.map_some, Option.getD_some, Array.all_eq_true_iff_forall_mem] at h2
 refine ⟨ops[i], by simp [hi], h2.1, fun e he hb => ?_⟩
 have := h2.2 e (by simpa using he)
 simpa [hb] using this
theorem ready_none {listed : Array Bool} (hok : regOk ops = true) (hsz : listed.size = ops.size) (h : Region.ready .any ops listed = []) : ∀ i, i < ops.size → listed.getD i false = true := by
 intro i
 induction i using Nat.strongRecOn with
 | _ i ih =>
  intro hi
  cases hl : listed.getD i false with
  | true => rfl
  | false =>
   exfalso
   have : i ∈ Region.ready .any ops listed := by
    unfold Region.ready
    rw [List.mem_filter]
    refine ⟨by simpa using hi, ?_⟩
    have h1 : listed.getD i true = false := by
     rw [Array.getD_eq_getD_getElem?, Array.getElem?_eq_getElem (by omega)] at hl ⊢
     simpa using hl
    rw [h1, Array.getElem?_eq_getElem hi]
    simp only [Bool.not_false, Bool.true_and, Option.map_some, Option.getD_some, Array.all_eq_true_iff_forall_mem]
    intro e he
    cases hb : Region.binds .any e with
    | false => simp
    | true =>
     have hlt := regOk_edge hok (i := i) (o := ops[i]) (by simp [hi]) e (by simpa using he) hb
     simp [ih e.on hlt (by omega)]
   rw [h] at this; cases this
theorem count_set_true {l : List Bool} {i : Nat} (hi : l[i]? = some false) : (l.set i true).count false + 1 = l.count false := by
 have hlt : i < l.length := (List.getElem?_eq_some_iff.1 hi).1
 have hv : l[i] = false := (List.getElem?_eq_some_iff.1 hi).2
 rw [List.count_set hlt, hv]
 have hpos : 0 < l.count false := List.count_pos_iff.2 (List.mem_of_getElem? hi)
 simp; omega
theorem not_ready {br : List Bool} {listed : Array Bool} {i m' : Nat} {o : Oper} (hbr : barrOk ops br = true) (hbm : br.getD m' false = true) (hcl : Closed ops.toList (fun i => listed.getD i false)) (hm : listed.getD m' false = false) (ho : ops.toList[i]? = some o)
  (hpre : ∀ e ∈ o.after.toList, Region.binds .any e = true → listed.getD e.on false = true) (hlt : m' < i) (hm' : m' < ops.size) : False := by
 have hi : i < ops.size := by simpa using (List.getElem?_eq_some_iff.1 ho).1
 have hmem := barrOk_behind hbr hm' hi hbm hlt
 have hS' : Closed ops.toList (fun x => listed.getD x false || x == i) := fun k q hq hk e he hb => by
  simp only [Bool.or_eq_true, beq_iff_eq] at hk ⊢
  rcases hk with hk | hk
  ·exact .inl (hcl k q hq hk e he hb)
  ·subst hk; rw [ho] at hq; cases hq
   exact .inl (hpre e he hb)
 have := cls_sound hS' _ i m' hmem (by simp)
 simp only [Bool.or_eq_true, beq_iff_eq] at this
 rcases this with h | h
 ·rw [hm] at h; cases h
 ·omega
theorem ready_behind {br : List Bool} {listed : Array Bool} {i j : Nat} {o : Oper} (hbr : barrOk ops br = true) (hbm : br.getD i false = true) (hcl : Closed ops.toList (fun i => listed.getD i false)) (ho : ops.toList[i]? = some o)
  (hpre : ∀ e ∈ o.after.toList, Region.binds .any e = true → listed.getD e.on false = true) (hlt : j < i) : listed.getD j false = true := by
 have hi : i < ops.size := by simpa using (List.getElem?_eq_some_iff.1 ho).1
 have hmem := barrOk_ahead hbr hi hbm hlt
 have hS' : Closed ops.toList (fun x => listed.getD x false || x == i) := fun k q hq hk e he hb => by
  simp only [Bool.or_eq_true, beq_iff_eq] at hk ⊢
  rcases hk with hk | hk
  ·exact .inl (hcl k q hq hk e he hb)
  ·subst hk; rw [ho] at hq; cases hq
   exact .inl (hpre e he hb)
 have := cls_sound hS' _ i j hmem (by simp)
 simp only [Bool.or_eq_true, beq_iff_eq] at this
 rcases this with h | h
 ·exact h
 ·omega
theorem listed_false {listed : Array Bool} {i : Nat} (hsz : listed.size = ops.size) (hi : i < ops.size) (h : listed.getD i true = false) : listed.getD i false = false ∧ listed.toList[i]? = some false := by
 have hil : i < listed.size := by omega
 rw [Array.getD_eq_getD_getElem?, Array.getElem?_eq_getElem hil] at h ⊢
 refine ⟨by simpa using h, by simp [hil]; simpa using h⟩
theorem getD_set {listed : Array Bool} {i : Nat} (hil : i < listed.size) : (fun x => (listed.setIfInBounds i true).getD x false) = fun x => (listed.getD x false || x == i) := by
 funext x
 by_cases hx : x = i
 ·subst hx; simp [Array.getD_eq_getD_getElem?, hil]
 ·have : i ≠ x := fun e => hx e.symm
  simp [Array.getD_eq_getD_getElem?, Array.getElem?_setIfInBounds_ne this, hx]
theorem closed_set {listed : Array Bool} {i : Nat} {o : Oper} (hil : i < listed.size) (hcl : Closed ops.toList (fun i => listed.getD i false)) (ho : ops.toList[i]? = some o)
  (hpre : ∀ e ∈ o.after.toList, Region.binds .any e = true → listed.getD e.on false = true) : Closed ops.toList (fun x => (listed.setIfInBounds i true).getD x false) := by
 rw [getD_set hil]
 intro k q hq hk e he hb
 simp only [Bool.or_eq_true, beq_iff_eq] at hk ⊢
 rcases hk with hk | hk
 ·exact .inl (hcl k q hq hk e he hb)
 ·subst hk; rw [ho] at hq; cases hq
  exact .inl (hpre e he hb)
theorem draw_seg {r : Option Nat} {n m m' lg : Nat} {Q : Exit → Act → World → Prop} {D : Data} (hN : ∀ o ∈ ops.toList, dstOk E.N o.dst) (hok : regOk ops = true) (hmm : m ≤ m') (hl : m' ≤ ops.toList.length) (hrdy : ∀ (listed : Array Bool) (i : Nat) (o : Oper), m' ≤ i → i < ops.size → Closed ops.toList (fun i => listed.getD i false) → ops.toList[i]? = some o → (∀ e ∈ o.after.toList, Region.binds .any e = true → listed.getD e.on false = true) → (∀ i, m' ≤ i → listed.getD i false = false) → ∀ j, j < m' → listed.getD j false = true) (hc : Chain P G bx ops ops.toList m m' D)
  (hEnd : ∀ (fuel : Nat) (listed : Array Bool) (a : Act) (R : Env) (L : Loc), listed.size = ops.size → listed.toList.count false ≤ fuel → Closed ops.toList (fun i => listed.getD i false) → (∀ i, i < m' → listed.getD i false = true) → (∀ i, m' ≤ i → listed.getD i false = false) →
   InvV G E ⟨D.T m', bx, D.X m', lg⟩ a R L → wpAnyIn (Fl r) n P .any ops Q fuel listed a R.w) : ∀ (fuel : Nat) (listed : Array Bool) (a : Act) (R : Env) (L : Loc), listed.size = ops.size → listed.toList.count false ≤ fuel →
  Closed ops.toList (fun i => listed.getD i false) → (∀ i, i < m → listed.getD i false = true) → (∀ i, m' ≤ i → listed.getD i false = false) → InvD G E bx lg ops.toList m m' D (fun i => listed.getD i false) a R L → wpAnyIn (Fl r) n P .any ops Q fuel listed a R.w := by
 have done : ∀ (fuel : Nat) (listed : Array Bool) (a : Act) (R : Env) (L : Loc), listed.size = ops.size → listed.toList.count false ≤ fuel → Closed ops.toList (fun i => listed.getD i false) → (∀ i, i < m' → listed.getD i false = true) → (∀ i, m' ≤ i → listed.getD i false = false) → InvD G E bx lg ops.toList m m' D (fun i => listed.getD i false) a R L → wpAnyIn (Fl r) n P .any ops Q fuel listed a R.w := fun fuel listed a R L hsz hcnt hcl h1 h2 h => by
  refine hEnd fuel listed a R L hsz hcnt hcl h1 h2 ⟨{ h.good with }, h.size, h.df, fun t => ?_⟩
  have ht := h.tm t
  rw [val_skip m' _ hl fun j hj _ _ => by simp [h2 j hj]] at ht
  rw [val_text hl hc.skel t m' hmm (Nat.le_refl _), val_congr (D' := fun j => decide (m ≤ j) && listed.getD j false) m' fun j hj _ => by rw [h1 j hj, Bool.and_true]]
  exact ht
 intro fuel
 induction fuel with
 | zero =>
  intro listed a R L hsz hcnt hcl h1 h2 h
  refine done 0 listed a R L hsz hcnt hcl (fun i hi => ?_) h2 h
  have hil : i < listed.size := by simp at hl; omega
  cases hq : listed.getD i false with
  | true => rfl
  | false =>
   have : listed.toList[i]? = some false := by
    rw [Array.getD_eq_getD_getElem?, Array.getElem?_eq_getElem hil] at hq
    simp [hil]; simpa using hq
   have hpos : 0 < listed.toList.count false := List.count_pos_iff.2 (List.mem_of_getElem? this)
   omega
 | succ fuel ih =>
  intro listed a R L hsz hcnt hcl h1 h2 h
  by_cases hall : ∀ i, i < m' → listed.getD i false = true
  ·exact done _ listed a R L hsz hcnt hcl hall h2 h
  refine ⟨fun hr => absurd (fun i hi => ready_none hok hsz hr i (by simp at hl; omega)) hall, fun i hi => ?_⟩
  obtain ⟨o, ho, hl0, hpre⟩ := ready_mem hi
  have hio : i < ops.size := by simpa using (List.getElem?_eq_some_iff.1 ho).1
  obtain ⟨hlf, hil'⟩ := listed_false hsz hio hl0
  have hil : i < listed.size := by omega
  have hmi : m ≤ i := by
   rcases Nat.lt_or_ge i m with g | g
   ·rw [h1 i g] at hlf; cases hlf
   ·exact g
  have hmi' : i < m' := by
   rcases Nat.lt_trichotomy i m' with g | g | g
   ·exact g
   ·exact absurd (hrdy listed i o (by omega) hio hcl ho hpre h2) hall
   ·exact absurd (hrdy listed i o (by omega) hio hcl ho hpre h2) hall
  have hcnt' : (listed.setIfInBounds i true).toList.count false ≤ fuel := by
   have := count_set_true hil'
   rw [Array.toList_setIfInBounds]; omega
  have next : ∀ (v : Value) (R' : Env) (L' : Loc), PStep (D.X i) (D.X (i + 1)) R L R' L' → Rep R' L' (D.c i) v → wpAnyIn (Fl r) n P .any ops Q fuel (listed.setIfInBounds i true) (a.put o.dst v) R'.w := fun v R' L' st hv =>
   ih _ _ R' L' (by simpa using hsz) hcnt' (closed_set hil hcl ho hpre) (fun j hj => by have := congrFun (getD_set hil) j; rw [this, h1 j hj]; rfl)
    (fun j hj => by have := congrFun (getD_set hil) j; rw [this, h2 j hj]; simp; omega) (by rw [getD_set hil]; exact h.put hl hc.skel hok hcl hmi hmi' ho hlf hpre (hN o (List.mem_of_getElem? ho)) st hv)
  obtain ⟨c1, c2, c3, c4, c5⟩ := hc.step i o hmi hmi' ho
  have hev := h.ev hl hc.skel hok hcl hmi hmi' ho hlf hpre
  have hguard : Region.wanted o (yielded ops a.tmps) = D.wn i := guard_wanted (tm := D.T i) rfl c3 fun j want d hg hd => by
   have ht : d ∈ touches ops o := by
    unfold touches Oper.looksAt
    rw [hg]
    simp [hd]
   refine ⟨?_, hev d ht⟩
   rw [h.size]
   cases hj : ops[j]? with
   | none => rw [hj] at hd; cases hd
   | some o' =>
    rw [hj] at hd
    have hd' : o'.dst = some d := hd
    have := hN o' (by rw [Array.mem_toList_iff]; exact Array.mem_of_getElem? hj)
    rw [hd'] at this; exact this
  unfold wpOpIn
  have hoa : ops[i]? = some o := by simpa using ho
  rw [hoa]
  simp only [hguard]
  cases hw : D.wn i with
  | true =>
   simp only [if_true]
   refine runs_wpIn ?_
   refine ((c4 hw).2 _ R L a.eval h.good.fit (h.freeAt hl hc.skel hmi hmi' hlf) fun x => ?_).mono fun v w' ⟨R', L', hw', st, hv⟩ => ?_
   ·unfold restr
    split
    ·rename_i hx
     cases x with
     | tmp t =>
      refine hev t ?_
      unfold touches Oper.looksAt
      exact List.mem_append_left _ (List.mem_append_left _ (List.mem_filterMap.2 ⟨.tmp t, by simpa using hx, rfl⟩))
     | const v => exact rep_ofConst R L v
     | global g =>
      simp only [evOf]
      cases hg : G g with
      | none => unfold Rep; trivial
      | some cs => exact rep_row.2 ⟨g, 0, rfl, (h.good.fit.glob g cs hg).1⟩
     | func f => exact rep_clo.2 ⟨#[], #[], rfl, repL_nil.2 rfl, repL_nil.2 rfl⟩
    ·unfold Rep; trivial
   ·rw [← hw']; exact next v R' L' st hv
  | false =>
   simp only [Bool.false_eq_true, if_false]
   refine ⟨fun f _ => trivial, ?_⟩
   obtain ⟨d1, d2⟩ := c5 hw
   have st : PStep (D.X i) (D.X (i + 1)) R L R L := by rw [d2]; exact PStep.refl _ _ _
   exact next undef R L st (by rw [d1]; exact rep_sc.2 rfl)
theorem draw_all {r : Option Nat} {n : Nat} {Q : Exit → Act → World → Prop} {K : St → Prop} {Y : Hd} {br : List Bool} (hY : HdOk P Y E) (hN : ∀ o ∈ ops.toList, dstOk E.N o.dst) (hok : regOk ops = true) (hbr : barrOk ops br = true)
  (hQ : ∀ a R L σ, K σ → InvV G E σ a R L → Q .normal a R.w) : ∀ (k m : Nat) (fuel : Nat) (listed : Array Bool) (σ : St) (a : Act) (R : Env) (L : Loc), ops.size - m = k → m ≤ ops.size → listed.size = ops.size → listed.toList.count false ≤ fuel →
  Closed ops.toList (fun i => listed.getD i false) → (∀ i, i < m → listed.getD i false = true) → (∀ i, m ≤ i → listed.getD i false = false) → adops P G Y ops (ops.toList.drop m) (br.drop m) σ K → InvV G E σ a R L → wpAnyIn (Fl r) n P .any ops Q fuel listed a R.w := by
 intro k
 induction k using Nat.strongRecOn with
 | _ k ih =>
  intro m fuel listed σ a R L hk hm hsz hcnt hcl h1 h2 hA hI
  obtain ⟨m', D, d1, d2, d3, d4, d5, d6⟩ := chain_seg _ _ m σ rfl (by simpa using hm) hA
  have hd2 : m' ≤ ops.size := by simpa using d2
  have hlf : ∀ j, m ≤ j → listed.getD j false = false := h2
  have hInit : InvD G E σ.bx σ.lg ops.toList m m' D (fun i => listed.getD i false) a R L := by
   have hx := X_mono d2 d5.skel m m' (Nat.le_refl _) d1 (Nat.le_refl _)
   refine ⟨{ hI.good with free := fun id hid => hI.good.free id (by rw [d4] at hx; exact Nat.le_trans hx hid) }, fun id hid _ => hI.good.free id (by rw [d4] at hid; exact hid), hI.size, hI.df, fun t => ?_⟩
   rw [val_congr (D' := fun _ => false) _ fun j _ _ => by
    by_cases hj : m ≤ j
    ·simp [hlf j hj]
    ·simp [hj], val_skip 0 _ (Nat.zero_le _) fun _ _ _ _ => rfl]
   show Rep R L (getC (D.T m) t) _
   rw [d3]; exact hI.tm t
  have hbar : m' < ops.size → br.getD m' false = true := fun hlt => by
   rcases d6 with ⟨g, _⟩ | ⟨g, g2, _⟩
   ·simp at g; omega
   ·rw [List.getElem?_drop, show m + (m' - m) = m' by omega] at g2
    rw [List.getD_eq_getElem?_getD, g2]; rfl
  refine draw_seg (lg := σ.lg) hN hok d1 d2 (fun listed i o q1 q2 q3 q4 q5 q6 j hj => by
   rcases Nat.lt_or_ge m' i with g | g
   ·exact (not_ready hbr (hbar (by omega)) q3 (q6 m' (Nat.le_refl _)) q4 q5 g (by omega)).elim
   ·have : i = m' := by omega
    subst this
    exact ready_behind hbr (hbar q2) q3 q4 q5 hj) d5 ?_ fuel listed a R L hsz hcnt hcl h1 (fun i hi => hlf i (by omega)) hInit
  clear hInit hI hcnt hcl h1 h2 hlf hA hsz
  intro fuel listed a R L hsz hcnt hcl h1 h2 hI
  rcases d6 with ⟨g, hK⟩ | ⟨g, g2, hA⟩
  ·have hms : m' = ops.size := by simpa using g
   have hre : Region.ready .any ops listed = [] := by
    cases hq : Region.ready .any ops listed with
    | nil => rfl
    | cons i rest =>
     obtain ⟨o, ho, h3, _⟩ := ready_mem (ops := ops) (listed := listed) (i := i) (by rw [hq]; simp)
     have hio : i < ops.size := by simpa using (List.getElem?_eq_some_iff.1 ho).1
     have := (listed_false hsz hio h3).1
     rw [h1 i (by omega)] at this; cases this
   have hq := hQ a R L _ hK hI
   cases fuel with
   | zero => exact ⟨hre, hq⟩
   | succ fuel => exact ⟨fun _ => hq, fun i hi => by rw [hre] at hi; cases hi⟩
  ·have hms : m' < ops.size := by simpa using g
   have hlm := h2 m' (Nat.le_refl _)
   obtain ⟨fuel, rfl⟩ : ∃ f, fuel = f + 1 := by
    have hil : m' < listed.size := by omega
    have : listed.toList[m']? = some false := by
     rw [Array.getD_eq_getD_getElem?, Array.getElem?_eq_getElem hil] at hlm
     simp [hil]; simpa using hlm
    have hpos : 0 < listed.toList.count false := List.count_pos_iff.2 (List.mem_of_getElem? this)
    exact ⟨fuel - 1, by omega⟩
   refine ⟨fun hr => ?_, fun i hi => ?_⟩
   ·have := ready_none hok hsz hr m' hms
    rw [hlm] at this; cases this
   ·obtain ⟨o, ho, hl0, hpre⟩ := ready_mem hi
    have hio : i < ops.size := by simpa using (List.getElem?_eq_some_iff.1 ho).1
    obtain ⟨hlf, hil'⟩ := listed_false hsz hio hl0
    have hil : i < listed.size := by omega
    have him : i = m' := by
     rcases Nat.lt_trichotomy i m' with g | g | g
     ·rw [h1 i g] at hlf; cases hlf
     ·exact g
     ·exact (not_ready hbr (hbar hms) hcl hlm ho hpre g hms).elim
    subst him
    have hcnt' : (listed.setIfInBounds i true).toList.count false ≤ fuel := by
     have := count_set_true hil'
     rw [Array.toList_setIfInBounds]; omega
    have hdrop : ops.toList.drop i = o :: ops.toList.drop (i + 1) := by
     have hlt : i < ops.toList.length := by simpa using hio
     rw [List.drop_eq_getElem_cons hlt]
     congr 1
     have := List.getElem?_eq_getElem hlt
     rw [ho] at this
     exact (Option.some.inj this).symm
    have hbrd : (br.drop m).drop (i - m) = br.drop i := by rw [List.drop_drop]; congr 1; omega
    rw [hdrop, hbrd] at hA
    unfold adops at hA
    have hhead : (br.drop i).headD false = true := by
     have := hbar hms
     rw [List.getD_eq_getElem?_getD] at this
     cases hq : br[i]? with
     | none => rw [hq] at this; cases this
     | some x =>
      rw [hq] at this
      simp at this
      rw [List.headD_eq_head?_getD, List.head?_drop, hq, this]; rfl
    have htail : (br.drop i).tail = br.drop (i + 1) := by simp
    rw [hhead, htail] at hA
    have next : ∀ (σ' : St) (a' : Act) (R' : Env) (L' : Loc), adops P G Y ops (ops.toList.drop (i + 1)) (br.drop (i + 1)) σ' K → InvV G E σ' a' R' L' → wpAnyIn (Fl r) n P .any ops Q fuel (listed.setIfInBounds i true) a' R'.w := fun σ' a' R' L' hA' hI' =>
     ih (ops.size - (i + 1)) (by omega) (i + 1) fuel _ σ' a' R' L' rfl (by omega) (by simpa using hsz) hcnt' (closed_set hil hcl ho hpre) (fun j hj => by
      have := congrFun (getD_set hil) j
      rw [this]
      rcases Nat.lt_or_ge j i with g | g
      ·rw [h1 j g]; rfl
      ·have : j = i := by omega
       simp [this]) (fun j hj => by
      have := congrFun (getD_set hil) j
      rw [this, h2 j (by omega)]; simp; omega) hA' hI'
    have hd := hN o (List.mem_of_getElem? ho)
    obtain ⟨b, hg, hA1, hA2⟩ := aGuard.out hA
    have hguard : Region.wanted o (yielded ops a.tmps) = b := guard_wanted (tm := D.T i) (R := R) (L := L) rfl hg fun j want d hgd hdd => by
     refine ⟨?_, hI.tm d⟩
     rw [hI.size]
     cases hj : ops[j]? with
     | none => rw [hj] at hdd; cases hdd
     | some o' =>
      rw [hj] at hdd
      have hd' : o'.dst = some d := hdd
      have := hN o' (by rw [Array.mem_toList_iff]; exact Array.mem_of_getElem? hj)
      rw [hd'] at this; exact this
    unfold wpOpIn
    have hoa : ops[i]? = some o := by simpa using ho
    rw [hoa]
    simp only [hguard]
    cases b with
    | true =>
     simp only [if_true]
     refine runs_wpIn ((aEff_after hY (hA1 rfl) hI).mono fun v w' => ?_)
     rintro ⟨c, σ', R', L', rfl, hI', hv, hK⟩
     exact next _ _ R' L' hK (hI'.put hd hv)
    | false =>
     simp only [Bool.false_eq_true, if_false]
     refine ⟨fun f _ => trivial, next _ _ R L (hA2 rfl) ?_⟩
     have := hI.put (dst := o.dst) (c := .sc undef) (v := undef) hd (rep_sc.2 rfl)
     cases hdst : o.dst with
     | none => rw [hdst] at this; exact this
     | some d => rw [hdst] at this; exact this
theorem draw_sound {r : Option Nat} {n id : Nat} {Q : Exit → Act → World → Prop} {K : St → Prop} {Y : Hd} {br : List Bool} {w : World} (hY : HdOk P Y E) (hm : P.follows .mixedOrders = true) (hN : ∀ o ∈ ops.toList, dstOk E.N o.dst) (hok : regOk ops = true) (hbr : barrOk ops br = true)
  (h : adops P G Y ops ops.toList br σ K) (hI : Inv G E σ a w) (hQ : ∀ a' w' σ', K σ' → Inv G E σ' a' w' → Q .normal a' w') : (Code.region id ops true).wpIn (Fl r) n P Q a w := by
 obtain ⟨R, L, rfl, hI⟩ := hI
 refine wpIn_region_any hm ?_
 let R' : Env := ⟨{ R.w with drawn := R.w.drawn + 1 }, R.M, R.F⟩
 have hext : Ext R R' := ⟨fun b o v h1 h2 => ⟨h1, h2⟩, fun _ _ _ _ h1 h2 => ⟨h1, h2⟩⟩
 have hnear : Near E.w0 E.ex R R' := ⟨rfl, rfl, rfl, Nat.le_refl _, rfl, hext, fun b _ => .inl ⟨rfl, fun _ => Iff.rfl⟩⟩
 have hg := hI.good
 have hinv : InvV G E σ a R' L := by
  refine ⟨hg.move hnear.nigh ⟨hg.fit.glob.ext hext, ⟨hg.fit.boxes.len, hg.fit.boxes.nodup, fun i b cs hi hc => ?_⟩, ⟨fun id e k v ht => ?_, hg.fit.owns.apart⟩, hg.fit.base⟩ ⟨[], by rw [List.append_nil], fun b hb => by cases hb⟩ (fun id e k v b ht hv => .inl ⟨id, e, k, v, ht, hv⟩) hg.free, hI.size, hI.df.near hnear, fun t => Rep.ext hext (LocLe.refl _) _ _ (hI.tm t)⟩
  ·obtain ⟨vs, ty, e1, e2, e3, e4⟩ := hg.fit.boxes.box i b cs hi hc
   exact ⟨vs, ty, e1, RepL.ext hext (LocLe.refl _) _ _ e2, e3, e4⟩
  ·exact (hg.fit.owns.own id e k v ht).move fun g _ q2 _ q7 => ⟨q2, rfl, q7, fun _ h => h⟩
 have hlist : ∀ i, (Array.replicate ops.size false).getD i false = false := fun i => by
  rw [Array.getD_eq_getD_getElem?, Array.getElem?_replicate]; split <;> rfl
 refine draw_all (E := E) (R := R') (L := L) hY hN hok hbr (fun a1 R1 L1 σ1 hK h1 => hQ a1 R1.w σ1 hK ⟨R1, L1, rfl, h1⟩) _ 0 ops.size _ σ a rfl (Nat.zero_le _) (by simp) ?_ (fun i o hi h => ?_) (fun i hi => by omega) (fun i _ => hlist i) (by simpa using h) hinv
 ·rw [Array.toList_replicate, List.count_replicate_self]; exact Nat.le_refl _
 ·have h : (Array.replicate ops.size false).getD i false = true := h
  rw [hlist] at h; cases h
theorem ready_in {listed : Array Bool} {i j : Nat} {o : Oper} (hmem : inC (clsUpto ops.toList ops.size) i j = true) (hcl : Closed ops.toList (fun i => listed.getD i false)) (ho : ops.toList[i]? = some o)
  (hpre : ∀ e ∈ o.after.toList, Region.binds .any e = true → listed.getD e.on false = true) (hne : j ≠ i) : listed.getD j false = true := by
 have hS' : Closed ops.toList (fun x => listed.getD x false || x == i) := fun k q hq hk e he hb => by
  simp only [Bool.or_eq_true, beq_iff_eq] at hk ⊢
  rcases hk with hk | hk
  ·exact .inl (hcl k q hq hk e he hb)
  ·subst hk; rw [ho] at hq; cases hq
   exact .inl (hpre e he hb)
 have := cls_sound hS' _ i j hmem (by simp)
 simp only [Bool.or_eq_true, beq_iff_eq] at this
 rcases this with h | h
 ·exact h
 ·exact absurd h hne
theorem run_tail {r : Option Nat} {n : Nat} {Q : Exit → Act → World → Prop} {K : St → Prop} {Y : Hd} (hY : HdOk P Y E) (hN : ∀ o ∈ ops.toList, dstOk E.N o.dst) (hok : regOk ops = true) (T : Array Bool → St → Prop)
  (hT : ∀ (listed : Array Bool) (σ : St), listed.size = ops.size → Closed ops.toList (fun i => listed.getD i false) → T listed σ → ((∀ i, i < ops.size → listed.getD i false = true) → K σ) ∧ ∀ (i : Nat) (o : Oper), ops.toList[i]? = some o → listed.getD i false = false →
   (∀ e ∈ o.after.toList, Region.binds .any e = true → listed.getD e.on false = true) → o.guard = none ∧ ∃ Kσ : C → St → Prop, aEff P G Y o.op σ Kσ ∧ ∀ c σ', Kσ c σ' → T (listed.setIfInBounds i true) (σ'.put o.dst c))
  (hQ : ∀ a R L σ, K σ → InvV G E σ a R L → Q .normal a R.w) : ∀ (fuel : Nat) (listed : Array Bool) (σ : St) (a : Act) (R : Env) (L : Loc), listed.size = ops.size → listed.toList.count false ≤ fuel →
  Closed ops.toList (fun i => listed.getD i false) → T listed σ → InvV G E σ a R L → wpAnyIn (Fl r) n P .any ops Q fuel listed a R.w := by
 intro fuel
 induction fuel with
 | zero =>
  intro listed σ a R L hsz hcnt hcl hTl hI
  have hall : ∀ i, i < ops.size → listed.getD i false = true := fun i hi => by
   have hil : i < listed.size := by omega
   cases hq : listed.getD i false with
   | true => rfl
   | false =>
    have : listed.toList[i]? = some false := by
     rw [Array.getD_eq_getD_getElem?, Array.getElem?_eq_getElem hil] at hq
     simp [hil]; simpa using hq
    have hpos : 0 < listed.toList.count false := List.count_pos_iff.2 (List.mem_of_getElem? this)
    omega
  refine ⟨?_, hQ a R L _ ((hT listed σ hsz hcl hTl).1 hall) hI⟩
  cases hq : Region.ready .any ops listed with
  | nil => rfl
  | cons i rest =>
   obtain ⟨o, ho, h3, _⟩ := ready_mem (ops := ops) (listed := listed) (i := i) (by rw [hq]; simp)
   have hio : i < ops.size := by simpa using (List.getElem?_eq_some_iff.1 ho).1
   have := (listed_false hsz hio h3).1
   rw [hall i hio] at this; cases this
 | succ fuel ih =>
  intro listed σ a R L hsz hcnt hcl hTl hI
  refine ⟨fun hr => hQ a R L _ ((hT listed σ hsz hcl hTl).1 (ready_none hok hsz hr)) hI, fun i hi => ?_⟩
  obtain ⟨o, ho, hl0, hpre⟩ := ready_mem hi
  have hio : i < ops.size := by simpa using (List.getElem?_eq_some_iff.1 ho).1
  obtain ⟨hlf, hil'⟩ := listed_false hsz hio hl0
  have hil : i < listed.size := by omega
  have hcnt' : (listed.setIfInBounds i true).toList.count false ≤ fuel := by
   have := count_set_true hil'
   rw [Array.toList_setIfInBounds]; omega
  obtain ⟨hg, Kσ, hE, hnext⟩ := (hT listed σ hsz hcl hTl).2 i o ho hlf hpre
  have hd := hN o (List.mem_of_getElem? ho)
  unfold wpOpIn
  have hoa : ops[i]? = some o := by simpa using ho
  rw [hoa]
  have hguard : Region.wanted o (yielded ops a.tmps) = true := by unfold Region.wanted; rw [hg]
  simp only [hguard, if_true]
  refine runs_wpIn ((aEff_after hY hE hI).mono fun v w' => ?_)
  rintro ⟨c, σ', R', L', rfl, hI', hv, hK⟩
  exact ih _ _ _ R' L' (by simpa using hsz) hcnt' (closed_set hil hcl ho hpre) (hnext c σ' hK) (hI'.put hd hv)
def atwin (P : Program) (G : Globs) (Y : Hd) (l : List Oper) (σ : St) (K : St → Prop) : Prop := match l with
 | [a, b, c] => (aEff P G Y a.op σ fun ca s1 => aEff P G Y b.op (s1.put a.dst ca) fun cb s2 => aEff P G Y c.op (s2.put b.dst cb) fun cc s3 => K (s3.put c.dst cc)) ∧
  (aEff P G Y b.op σ fun cb s1 => aEff P G Y a.op (s1.put b.dst cb) fun ca s2 => aEff P G Y c.op (s2.put a.dst ca) fun cc s3 => K (s3.put c.dst cc))
 | _ => False
def twinOk (ops : Array Oper) (m : Nat) : Bool :=
 let cl := clsUpto ops.toList ops.size
 decide (m + 3 = ops.size) && ((ops.toList.drop m).all fun o => o.guard.isNone) && ((List.range m).all fun j => inC cl m j && inC cl (m + 1) j && inC cl (m + 2) j) && inC cl (m + 2) m && inC cl (m + 2) (m + 1)
theorem three_of {α : Type} : ∀ {l : List α}, l.length = 3 → ∃ a b c, l = [a, b, c]
 | [x, y, z], _ => ⟨x, y, z, rfl⟩
theorem twin_sound {r : Option Nat} {n id m : Nat} {Q : Exit → Act → World → Prop} {K : St → Prop} {Y : Hd} {w : World} (hY : HdOk P Y E) (hm : P.follows .mixedOrders = true) (hN : ∀ o ∈ ops.toList, dstOk E.N o.dst) (hok : regOk ops = true) (htw : twinOk ops m = true)
  (h : adops P G Y ops (ops.toList.take m) [] σ fun σ' => atwin P G Y (ops.toList.drop m) σ' K) (hI : Inv G E σ a w) (hQ : ∀ a' w' σ', K σ' → Inv G E σ' a' w' → Q .normal a' w') : (Code.region id ops true).wpIn (Fl r) n P Q a w := by
 obtain ⟨R, L, rfl, hI⟩ := hI
 refine wpIn_region_any hm ?_
 let R' : Env := ⟨{ R.w with drawn := R.w.drawn + 1 }, R.M, R.F⟩
 have hext : Ext R R' := ⟨fun b o v h1 h2 => ⟨h1, h2⟩, fun _ _ _ _ h1 h2 => ⟨h1, h2⟩⟩
 have hnear : Near E.w0 E.ex R R' := ⟨rfl, rfl, rfl, Nat.le_refl _, rfl, hext, fun b _ => .inl ⟨rfl, fun _ => Iff.rfl⟩⟩
 have hg := hI.good
 have hinv : InvV G E σ a R' L := by
  refine ⟨hg.move hnear.nigh ⟨hg.fit.glob.ext hext, ⟨hg.fit.boxes.len, hg.fit.boxes.nodup, fun i b cs hi hc => ?_⟩, ⟨fun id e k v ht => ?_, hg.fit.owns.apart⟩, hg.fit.base⟩ ⟨[], by rw [List.append_nil], fun b hb => by cases hb⟩ (fun id e k v b ht hv => .inl ⟨id, e, k, v, ht, hv⟩) hg.free, hI.size, hI.df.near hnear, fun t => Rep.ext hext (LocLe.refl _) _ _ (hI.tm t)⟩
  ·obtain ⟨vs, ty, e1, e2, e3, e4⟩ := hg.fit.boxes.box i b cs hi hc
   exact ⟨vs, ty, e1, RepL.ext hext (LocLe.refl _) _ _ e2, e3, e4⟩
  ·exact (hg.fit.owns.own id e k v ht).move fun g _ q2 _ q7 => ⟨q2, rfl, q7, fun _ h => h⟩
 have hlist : ∀ i, (Array.replicate ops.size false).getD i false = false := fun i => by
  rw [Array.getD_eq_getD_getElem?, Array.getElem?_replicate]; split <;> rfl
 unfold twinOk at htw
 simp only [Bool.and_eq_true, decide_eq_true_eq] at htw
 obtain ⟨⟨⟨⟨t1, t2⟩, t3⟩, t4⟩, t5⟩ := htw
 have t3' : ∀ j, j < m → inC (clsUpto ops.toList ops.size) m j = true ∧ inC (clsUpto ops.toList ops.size) (m + 1) j = true ∧ inC (clsUpto ops.toList ops.size) (m + 2) j = true := fun j hj => by
  have := List.all_eq_true.1 t3 j (by simpa using hj)
  simp only [Bool.and_eq_true] at this
  exact ⟨this.1.1, this.1.2, this.2⟩
 have hml : (ops.toList.take m).length = m := by simp; omega
 obtain ⟨m', D, d1, d2, d3, d4, d5, d6⟩ := chain_seg (all := ops.toList.take m) _ _ 0 σ rfl (Nat.zero_le _) h
 have hm' : m' = m ∧ atwin P G Y (ops.toList.drop m) ⟨D.T m', σ.bx, D.X m', σ.lg⟩ K := by
  rcases d6 with ⟨g, hK⟩ | ⟨g, g2, _⟩
  ·exact ⟨g.trans hml, hK⟩
  ·simp at g2
 obtain ⟨rfl, hA⟩ := hm'
 have hc : Chain P G σ.bx ops ops.toList 0 m' D := ⟨fun i o h1 h2 h3 => d5.step i o h1 h2 (by rw [List.getElem?_take, if_pos h2]; exact h3)⟩
 have hInit : InvD G E σ.bx σ.lg ops.toList 0 m' D (fun i => (Array.replicate ops.size false).getD i false) a R' L := by
  have hx := X_mono (l := ops.toList) (by simp; omega) hc.skel 0 m' (Nat.le_refl _) d1 (Nat.le_refl _)
  refine ⟨{ hinv.good with free := fun id hid => hinv.good.free id (by rw [d4] at hx; exact Nat.le_trans hx hid) }, fun id hid _ => hinv.good.free id (by rw [d4] at hid; exact hid), hinv.size, hinv.df, fun t => ?_⟩
  rw [val_congr (D' := fun _ => false) _ fun j _ _ => by simp [hlist j], val_skip 0 _ (Nat.zero_le _) fun _ _ _ _ => rfl]
  show Rep R' L (getC (D.T 0) t) _
  rw [d3]; exact hinv.tm t
 refine draw_seg (lg := σ.lg) hN hok (Nat.zero_le _) (by simp; omega) (fun listed i o q1 q2 q3 q4 q5 q6 j hj => ?_) hc ?_ ops.size _ a R' L (by simp) ?_ (fun i o hi h => ?_) (fun i hi => by omega) (fun i _ => hlist i) hInit
 ·obtain ⟨u1, u2, u3⟩ := t3' j hj
  have : i = m' ∨ i = m' + 1 ∨ i = m' + 2 := by omega
  rcases this with rfl | rfl | rfl
  ·exact ready_in u1 q3 q4 q5 (by omega)
  ·exact ready_in u2 q3 q4 q5 (by omega)
  ·exact ready_in u3 q3 q4 q5 (by omega)
 ·clear hInit hI hinv hnear hext hg
  intro fuel listed a R L hsz hcnt hcl h1 h2 hI
  obtain ⟨oa, ob, oc, hdr⟩ : ∃ oa ob oc, ops.toList.drop m' = [oa, ob, oc] := by
   have hlen : (ops.toList.drop m').length = 3 := by simp; omega
   exact three_of hlen
  rw [hdr] at hA t2
  simp only [List.all_cons, List.all_nil, Bool.and_true, Bool.and_eq_true, Option.isNone_iff_eq_none] at t2
  obtain ⟨g1, g2, g3⟩ := t2
  have hat : ∀ d, ops.toList[m' + d]? = [oa, ob, oc][d]? := fun d => by rw [← hdr, List.getElem?_drop]
  have ha : ops.toList[m']? = some oa := hat 0
  have hb : ops.toList[m' + 1]? = some ob := hat 1
  have hc3 : ops.toList[m' + 2]? = some oc := hat 2
  refine run_tail hY hN hok (K := K) (fun listed σ' => (∀ i, i < m' → listed.getD i false = true) ∧
   ((listed.getD m' false = false ∧ listed.getD (m' + 1) false = false ∧ listed.getD (m' + 2) false = false ∧ atwin P G Y [oa, ob, oc] σ' K) ∨
   (listed.getD m' false = true ∧ listed.getD (m' + 1) false = false ∧ listed.getD (m' + 2) false = false ∧ aEff P G Y ob.op σ' fun cb s2 => aEff P G Y oc.op (s2.put ob.dst cb) fun cc s3 => K (s3.put oc.dst cc)) ∨
   (listed.getD m' false = false ∧ listed.getD (m' + 1) false = true ∧ listed.getD (m' + 2) false = false ∧ aEff P G Y oa.op σ' fun ca s2 => aEff P G Y oc.op (s2.put oa.dst ca) fun cc s3 => K (s3.put oc.dst cc)) ∨
   (listed.getD m' false = true ∧ listed.getD (m' + 1) false = true ∧ listed.getD (m' + 2) false = false ∧ aEff P G Y oc.op σ' fun cc s3 => K (s3.put oc.dst cc)) ∨
   (listed.getD m' false = true ∧ listed.getD (m' + 1) false = true ∧ listed.getD (m' + 2) false = true ∧ K σ')))
   ?_ (fun a R L σ hK h => hQ a R.w σ hK ⟨R, L, rfl, h⟩) fuel listed ⟨D.T m', σ.bx, D.X m', σ.lg⟩ a R L hsz hcnt hcl ⟨h1, .inl ⟨h2 _ (Nat.le_refl _), h2 _ (by omega), h2 _ (by omega), hA⟩⟩ hI
  clear hcl hsz hcnt h1 h2 hI hA
  intro listed σ' hsz hcl ⟨h1, hT⟩
  refine ⟨fun hall => ?_, fun i o ho hlf hpre => ?_⟩
  ·have e1 := hall m' (by omega)
   have e2 := hall (m' + 1) (by omega)
   have e3 := hall (m' + 2) (by omega)
   rcases hT with ⟨q, _⟩ | ⟨_, q, _⟩ | ⟨q, _⟩ | ⟨_, _, q, _⟩ | ⟨_, _, _, q⟩
   ·rw [e1] at q; cases q
   ·rw [e2] at q; cases q
   ·rw [e1] at q; cases q
   ·rw [e3] at q; cases q
   ·exact q
  ·have hio : i < ops.size := by simpa using (List.getElem?_eq_some_iff.1 ho).1
   have hil : i < listed.size := by omega
   have hset : ∀ x, (listed.setIfInBounds i true).getD x false = (listed.getD x false || x == i) := fun x => congrFun (getD_set hil) x
   have hi3 : i = m' ∨ i = m' + 1 ∨ i = m' + 2 := by
    rcases Nat.lt_or_ge i m' with g | g
    ·rw [h1 i g] at hlf; cases hlf
    ·omega
   have hold : ∀ x, x < m' → (listed.setIfInBounds i true).getD x false = true := fun x hx => by rw [hset, h1 x hx]; rfl
   have n1 : (m' == m' + 1) = false := by simp
   have n2 : (m' == m' + 2) = false := by simp
   have n3 : (m' + 1 == m') = false := by simp
   have n4 : (m' + 1 == m' + 2) = false := by simp
   have n5 : (m' + 2 == m') = false := by simp
   have n6 : (m' + 2 == m' + 1) = false := by simp
   rcases hi3 with rfl | rfl | rfl
   ·rw [ha] at ho; cases ho
    refine ⟨g1, ?_⟩
    rcases hT with ⟨q1, q2, q3, q⟩ | ⟨q1, q2, q3, q⟩ | ⟨q1, q2, q3, q⟩ | ⟨q1, q2, q3, q⟩ | ⟨q1, q2, q3, q⟩
    ·exact ⟨_, q.1, fun c s' hs => ⟨hold, .inr (.inl ⟨by rw [hset, q1]; simp, by rw [hset, q2, n3]; rfl, by rw [hset, q3, n5]; rfl, hs⟩)⟩⟩
    ·rw [hlf] at q1; cases q1
    ·exact ⟨_, q, fun c s' hs => ⟨hold, .inr (.inr (.inr (.inl ⟨by rw [hset, q1]; simp, by rw [hset, q2, n3]; rfl, by rw [hset, q3, n5]; rfl, hs⟩)))⟩⟩
    ·rw [hlf] at q1; cases q1
    ·rw [hlf] at q1; cases q1
   ·rw [hb] at ho; cases ho
    refine ⟨g2, ?_⟩
    rcases hT with ⟨q1, q2, q3, q⟩ | ⟨q1, q2, q3, q⟩ | ⟨q1, q2, q3, q⟩ | ⟨q1, q2, q3, q⟩ | ⟨q1, q2, q3, q⟩
    ·exact ⟨_, q.2, fun c s' hs => ⟨hold, .inr (.inr (.inl ⟨by rw [hset, q1, n1]; rfl, by rw [hset, q2]; simp, by rw [hset, q3, n6]; rfl, hs⟩))⟩⟩
    ·exact ⟨_, q, fun c s' hs => ⟨hold, .inr (.inr (.inr (.inl ⟨by rw [hset, q1, n1]; rfl, by rw [hset, q2]; simp, by rw [hset, q3, n6]; rfl, hs⟩)))⟩⟩
    ·rw [hlf] at q2; cases q2
    ·rw [hlf] at q2; cases q2
    ·rw [hlf] at q2; cases q2
   ·rw [hc3] at ho; cases ho
    refine ⟨g3, ?_⟩
    have e1 := ready_in t4 hcl hc3 hpre (by omega)
    have e2 := ready_in t5 hcl hc3 hpre (by omega)
    rcases hT with ⟨q1, q2, q3, q⟩ | ⟨q1, q2, q3, q⟩ | ⟨q1, q2, q3, q⟩ | ⟨q1, q2, q3, q⟩ | ⟨q1, q2, q3, q⟩
    ·rw [e1] at q1; cases q1
    ·rw [e2] at q2; cases q2
    ·rw [e1] at q1; cases q1
    ·exact ⟨_, q, fun c s' hs => ⟨hold, .inr (.inr (.inr (.inr ⟨by rw [hset, q1]; rfl, by rw [hset, q2]; rfl, by rw [hset]; simp, hs⟩)))⟩⟩
    ·rw [hlf] at q3; cases q3
 ·rw [Array.toList_replicate, List.count_replicate_self]; exact Nat.le_refl _
 ·have h : (Array.replicate ops.size false).getD i false = true := h
  rw [hlist] at h; cases h
end
end Go.Proofs.YtbphobmohdclaaaGreatDoor.Vcg
end
section
set_option linter.unusedVariables false
set_option linter.unusedSimpArgs false
namespace Go.Proofs.YtbphobmohdclaaaGreatDoor.Vcg
open Go.RowKit
mutual
/-- a value as seen by whoever has some of the boxes, and no owner -/
def C.sel (fp : Nat → Option Nat) : C → C
 | .own _ _ k rows => .sl k rows
 | .ptr i off => match fp i with
  | some j => .ptr j off
  | none => .any
 | .bs i off k n c => match fp i with
  | some j => .bs j off k n c
  | none => .any
 | .mo _ _ _ _ => .any
 | .agg cs => .agg (C.selL fp cs)
 | .tup cs => .tup (C.selL fp cs)
 | .clo fn first cap => .clo fn (C.selL fp first) (C.selL fp cap)
 | .sc v => .sc v
 | .str l => .str l
 | .sl k rows => .sl k rows
 | .tight k rows => .tight k rows
 | .row cs => .row cs
 | .any => .any
def C.selL (fp : Nat → Option Nat) : List C → List C
 | [] => []
 | c :: r => c.sel fp :: C.selL fp r
end
section
variable {fp : Nat → Option Nat} {R R' : Env} {L L' : Loc}
mutual
theorem Rep.sel (he : Ext R R') (hb : ∀ i j b, fp i = some j → L.β[i]? = some b → L'.β[j]? = some b) : ∀ (c : C) (v : Value), Rep R L c v → Rep R' L' (c.sel fp) v
 | .sc _, _, h => by unfold C.sel; unfold Rep at h ⊢; exact h
 | .str _, _, h => by unfold C.sel; unfold Rep at h ⊢; exact h
 | .agg cs, _, h => by
  unfold C.sel; unfold Rep at h ⊢
  obtain ⟨vs, e, hl⟩ := h
  exact ⟨vs, e, RepL.sel he hb cs _ hl⟩
 | .tup cs, _, h => by
  unfold C.sel; unfold Rep at h ⊢
  obtain ⟨vs, e, hl⟩ := h
  exact ⟨vs, e, RepL.sel he hb cs _ hl⟩
 | .sl k rows, v, h => by
  unfold C.sel
  have := Rep.ext he (LocLe.none L') (.sl k rows) v (T := noLoc) (by unfold Rep at h ⊢; exact h)
  exact this
 | .tight k rows, v, h => by
  unfold C.sel
  exact Rep.ext he (LocLe.none L') (.tight k rows) v (T := noLoc) (by unfold Rep at h ⊢; exact h)
 | .mo id t ks vs, v, h => by unfold C.sel; unfold Rep; trivial
 | .own id e k rows, v, h => by
  unfold C.sel
  exact Rep.ext he (LocLe.none L') (.sl k rows) v (T := noLoc) (by unfold Rep at h ⊢; exact h.2)
 | .ptr i off, _, h => by
  unfold C.sel; unfold Rep at h
  split
  ·rename_i j hj
   obtain ⟨b, e, h⟩ := h
   unfold Rep
   exact ⟨b, hb _ _ _ hj e, h⟩
  ·unfold Rep; trivial
 | .bs i off k n c, _, h => by
  unfold C.sel; unfold Rep at h
  split
  ·rename_i j hj
   obtain ⟨b, e, h⟩ := h
   unfold Rep
   exact ⟨b, hb _ _ _ hj e, h⟩
  ·unfold Rep; trivial
 | .row cs, v, h => by
  unfold C.sel
  exact Rep.ext he (LocLe.none L') (.row cs) v (T := noLoc) (by unfold Rep at h ⊢; exact h)
 | .clo fn first cap, _, h => by
  unfold C.sel; unfold Rep at h ⊢
  obtain ⟨fs, cs, e, h1, h2⟩ := h
  exact ⟨fs, cs, e, RepL.sel he hb first _ h1, RepL.sel he hb cap _ h2⟩
 | .any, _, _ => by unfold C.sel; unfold Rep; trivial
theorem RepL.sel (he : Ext R R') (hb : ∀ i j b, fp i = some j → L.β[i]? = some b → L'.β[j]? = some b) : ∀ (cs : List C) (vs : List Value), RepL R L cs vs → RepL R' L' (C.selL fp cs) vs
 | [], _, h => by unfold C.selL; rw [repL_nil] at h ⊢; exact h
 | c :: r, _, h => by
  unfold C.selL; rw [repL_cons] at h ⊢
  obtain ⟨v, us, e, h1, h2⟩ := h
  exact ⟨v, us, e, Rep.sel he hb c v h1, RepL.sel he hb r us h2⟩
end
end
mutual
/-- what is left of it where the boxes are turned no more -/
def C.fz (bx : List (List C)) : C → C
 | .ptr i off => match bx[i]? with
  | some cs => .row ((C.frzL cs).drop off)
  | none => .any
 | .agg cs => .agg (C.fzL bx cs)
 | .tup cs => .tup (C.fzL bx cs)
 | .clo fn first cap => .clo fn (C.fzL bx first) (C.fzL bx cap)
 | .bs _ _ _ _ _ => .any
 | .own id e k rows => .own id e k rows
 | .mo id t ks vs => .mo id t ks vs
 | .sc v => .sc v
 | .str l => .str l
 | .sl k rows => .sl k rows
 | .tight k rows => .tight k rows
 | .row cs => .row cs
 | .any => .any
def C.fzL (bx : List (List C)) : List C → List C
 | [] => []
 | c :: r => c.fz bx :: C.fzL bx r
end
def fpKeep (m i : Nat) : Option Nat := if i < m then some i else none
def fpDrop (m i : Nat) : Option Nat := if i < m then none else some (i - m)
def tlTm (m : Nat) : List (Nat × C) → List (Nat × C)
 | [] => []
 | (t, c) :: r => (t, c.sel (fpKeep m)) :: tlTm m r
theorem getC_tl (m : Nat) : ∀ (tm : List (Nat × C)) (t : Nat), getC (tlTm m tm) t = (getC tm t).sel (fpKeep m)
 | [], t => by simp only [tlTm, getC]; unfold C.sel; rfl
 | (u, c) :: r, t => by
  simp only [tlTm, getC]
  split
  ·rfl
  ·exact getC_tl m r t
def St.wt (σ : St) (tm : List (Nat × C)) : St := ⟨tm, σ.bx, σ.nx, σ.lg⟩
theorem Good.wt {G : Globs} {E : Ctx} {σ : St} {R : Env} {L : Loc} (h : Good G E σ R L) (tm : List (Nat × C)) : Good G E (σ.wt tm) R L := { h with }
section
variable {P : Program} {G : Globs} {E : Ctx} {σ σ' : St} {a : Act} {R R' : Env} {L L' : Loc}
theorem Good.stay (h : Good G E σ R L) (hn : Nigh E.w0 E.ex R R') (ht : ∀ b, Turf L b → R'.w.heap[b]? = R.w.heap[b]? ∧ ∀ o, (R'.M b o ↔ R.M b o)) : Good G E σ R' L := by
 refine h.move (tm' := σ.tm) (bx' := σ.bx) (nx' := σ.nx) hn ⟨h.fit.glob.ext hn.ext, ⟨h.fit.boxes.len, h.fit.boxes.nodup, fun i b cs hi hc => ?_⟩, ⟨fun id e k v hid => ?_, h.fit.owns.apart⟩, fun g hg => h.fit.base g (Nat.le_trans hn.size hg)⟩ ⟨[], by rw [List.append_nil], fun b hb => by cases hb⟩ (fun id e k v b ht hv => .inl ⟨id, e, k, v, ht, hv⟩) h.free
 ·obtain ⟨vs, ty, e1, e2, e3, e4⟩ := h.fit.boxes.box i b cs hi hc
  obtain ⟨g1, g2⟩ := ht b (.inl (List.mem_of_getElem? hi))
  exact ⟨vs, ty, g1.trans e1, RepL.ext hn.ext (LocLe.refl _) _ _ e2, e3, fun o => (g2 o).2 (e4 o)⟩
 ·refine (h.fit.owns.own id e k v hid).move fun g hv q2 _ q7 => ?_
  obtain ⟨g1, g2⟩ := ht g (.inr ⟨id, e, k, v, hid, hv⟩)
  exact ⟨q2, g1, q7, fun o ho => (g2 o).2 ho⟩
theorem DfOk.stay {ds : List Deferred} (h : DfOk E ds R) (hf : ∀ b, R'.F b ↔ R.F b) (hd : ∀ d, markOf d ∈ ds → R.w.heap[d]? = some (.deferred (some [])) → R'.w.heap[d]? = R.w.heap[d]?) : DfOk E ds R' := by
 obtain ⟨l, e, hl, h⟩ := h
 refine ⟨l, e, hl, fun d hdl => ?_⟩
 obtain ⟨h1, h2, h3⟩ := h d hdl
 exact ⟨(hd d (by rw [e]; exact List.mem_append_left _ (List.mem_map.2 ⟨d, hdl, rfl⟩)) h1).trans h1, h2, fun h' => h3 ((hf d).1 h')⟩
theorem nigh_putObj {l : Nat} {o : Obj} (hl : E.tu l) (hF : ¬ R.F l) (hc : ∀ cs t f, R.w.heap[l]? ≠ some (.cells cs t f)) : Nigh E.w0 E.ex R ⟨R.w.putObj l o, R.M, R.F⟩ :=
 ⟨rfl, rfl, rfl, by simp, rfl, ⟨fun b off v hcell hm => ⟨by
  by_cases hb : b = l
  ·subst hb
   exfalso
   unfold World.cell? at hcell
   cases hh : R.w.heap[b]? with
   | none => simp [hh] at hcell
   | some x =>
    cases x with
    | cells cs t f => exact hc cs t f hh
    | _ => simp [hh] at hcell
  ·rw [World.cell?_of_block (w' := R.w.putObj l o) (w := R.w) (World.putObj_heap_other hb)]; exact hcell, hm⟩, fun b cs ty fl hcell hm => ⟨by
  have hb : b ≠ l := fun e => hc cs ty fl (e ▸ hcell)
  show (R.w.putObj l o).heap[b]? = _
  rw [World.putObj_heap_other hb]; exact hcell, hm⟩⟩, fun b hb => by
  by_cases hbl : b = l
  ·subst hbl; exact .inr ⟨hl, hF⟩
  ·exact .inl ⟨World.putObj_heap_other hbl, fun _ => Iff.rfl⟩⟩
def Ctx.at (E : Ctx) (R : Env) (L : Loc) (β0 : List Nat) (df : List Deferred) (hs : E.w0.heap.size ≤ R.w.heap.size) (ht : ∀ b, Turf L b → E.tu b) : Ctx :=
 {w0 := R.w, M0 := R.M, β0 := β0, ex := Turf L, N := E.N, df := df, F0 := R.F, bo := fun b => b ∈ L.β, bex := fun b hb => .inl hb, J := E.J,
  stab := fun k A B hJ hn => E.stab k A B hJ ⟨hn.os, hn.tape, hn.output, hn.size, hn.fgn, hn.ext, fun b hb => (hn.blk b hb).imp id fun ⟨g1, g2⟩ => ⟨by
   rcases g1 with g1 | g1
   ·exact .inl (Nat.le_trans hs g1)
   ·exact ht b g1, g2⟩⟩ }
theorem Good.fresh (h : Good G E σ R L) {β0 more : List Nat} (hβ : L.β = β0 ++ more) (hsz : a.tmps.size = E.N) (htm : ∀ t, Rep R L (getC σ.tm t) (a.tmps.getD t undef)) : InvV G (E.at R L β0 a.defers h.size fun b hb => (h.turf hb).1) σ a R L := by
 refine ⟨⟨⟨h.fit.glob, h.fit.boxes, ⟨fun id e k v ht => ?_, h.fit.owns.apart⟩, fun g hg => .inl hg⟩, rfl, rfl, rfl, Nat.le_refl _, fun b _ _ _ => ⟨rfl, fun _ => Iff.rfl⟩, ⟨fun b o v h1 h2 => ⟨h1, h2⟩, fun _ _ _ _ h1 h2 => ⟨h1, h2⟩⟩, ⟨more, hβ⟩, fun b hb => .inr hb, h.flt, fun b _ => Iff.rfl, h.fbx, h.fow, h.free, h.log⟩, hsz, ⟨[], rfl, List.nodup_nil, fun d hd => by cases hd⟩, htm⟩
 exact (h.fit.owns.own id e k v ht).move fun g hv q2 _ q7 => ⟨.inr (.inr ⟨id, e, k, v, ht, hv⟩), rfl, q7, fun _ h => h⟩
section
variable {β0 : List Nat} {df : List Deferred} {hs : E.w0.heap.size ≤ R.w.heap.size} {ht : ∀ b, Turf L b → E.tu b}
theorem Ctx.at_tu {b : Nat} (h : (E.at R L β0 df hs ht).tu b) : E.tu b := by
 rcases h with h | h
 ·exact .inl (Nat.le_trans hs h)
 ·exact ht b h
theorem Good.at_blk (h' : Good G (E.at R L β0 df hs ht) σ' R' L') {b : Nat} (hb : b < R.w.heap.size) (hT : ¬ Turf L b) (hF : ¬ R.F b) : R'.w.heap[b]? = R.w.heap[b]? ∧ ∀ o, (R'.M b o ↔ R.M b o) :=
 h'.blk b hb hT fun hx => hF ((h'.fz b hb).1 hx)
theorem Good.back (h : Good G E σ R L) (hβ : ∃ more, β0 = E.β0 ++ more) (h' : Good G (E.at R L β0 df hs ht) σ' R' L') : Good G E σ' R' L' := by
 obtain ⟨more, hm⟩ := hβ
 obtain ⟨more', hm'⟩ := h'.box
 have hm' : L'.β = β0 ++ more' := hm'
 refine ⟨⟨h'.fit.glob, h'.fit.boxes, ⟨fun id e k v ht => (h'.fit.owns.own id e k v ht).base fun g hg => Ctx.at_tu hg, h'.fit.owns.apart⟩, fun g hg => Ctx.at_tu (h'.fit.base g hg)⟩, h'.os.trans h.os, h'.tape.trans h.tape, h'.output.trans h.output, Nat.le_trans h.size h'.size, fun b hb hx hF => ?_, h.ext.trans ⟨h'.ext.cell, h'.ext.whole⟩, ⟨more ++ more', by rw [hm', hm, List.append_assoc]⟩, fun b hb => (h'.tub b hb).elim (fun g => .inl (Nat.le_trans hs g)) (h.tub b), h'.flt, fun b hb => (h'.fz b (Nat.lt_of_lt_of_le hb h.size)).trans (h.fz b hb), h'.fbx, h'.fow, h'.free, h'.log⟩
 have hlt := Nat.lt_of_lt_of_le hb h.size
 have hF' : ¬ R.F b := fun hq => hF ((h'.fz b hlt).2 hq)
 have hT : ¬ Turf L b := fun hq => by
  rcases ht b hq with g | g
  ·omega
  ·exact hx g
 obtain ⟨g1, g2⟩ := h'.at_blk hlt hT hF'
 obtain ⟨k1, k2⟩ := h.blk b hb hx hF'
 exact ⟨g1.trans k1, fun o => (g2 o).trans (k2 o)⟩
theorem Good.at_turf (h' : Good G (E.at R L β0 df hs ht) σ' R' L') {b : Nat} (hb : b < R.w.heap.size) (hT : Turf L' b) : Turf L b := by
 rcases (h'.turf hT).1 with g | g
 ·have g : R.w.heap.size ≤ b := g
  omega
 ·exact g
end
def EndAt (items : List (List C)) (st : Nat → Bool) (k : Nat) : Prop := (k = items.length ∧ ∀ j, j < k → st j = false) ∨ (0 < k ∧ st (k - 1) = true)
def Iter (P : Program) (G : Globs) (f : FuncId) (first cap : List C) (bx : List (List C)) (items : List (List C)) : Prop :=
 entersB P f = true ∧ ∀ (l : Nat) (st : Nat → Bool) (J : Nat → Env → Prop) (R : Env) (L : Loc) (us vs : List Value), GlobOk G R → BoxesOk R L bx → (∀ id, L.T id = none) → (∀ b, R.F b → b < R.w.heap.size) → (∀ b ∈ L.β, ¬ R.F b) →
  (∀ k A B, J k A → Nigh R.w (fun b => b ∈ L.β) A B → J k B) → YOk P ⟨l, items, st⟩ J → J 0 R → RepL R L first us → RepL R L cap vs →
  Calls P f (us ++ [Value.func (.yield l) #[] #[]] ++ vs).toArray R.w fun e w' => ∃ v R' k, e = .returned v ∧ R'.w = w' ∧ J k R' ∧ EndAt items st k
def putPs : List Tmp → List C → List (Nat × C) → List (Nat × C)
 | p :: ps, c :: cs, tm => putPs ps cs ((p, c) :: tm)
 | _, _, tm => tm
theorem putPs_get {R : Env} {L : Loc} : ∀ (ps : List Tmp) (it : List C) (vs : List Value) (tm : List (Nat × C)) (tmps : Array Value), RepL R L it vs → (∀ p ∈ ps, p < tmps.size) → (∀ t, Rep R L (getC tm t) (tmps.getD t undef)) →
  ∀ t, Rep R L (getC (putPs ps it tm) t) (((ps.zip vs).foldl (fun t (p : Nat × Value) => t.setIfInBounds p.1 p.2) tmps).getD t undef)
 | [], it, vs, tm, tmps, h1, h2, h3, t => by
  simp only [putPs, List.zip_nil_left, List.foldl_nil]; exact h3 t
 | p :: ps, [], vs, tm, tmps, h1, h2, h3, t => by
  rw [repL_nil.1 h1]
  simp only [putPs, List.zip_nil_right, List.foldl_nil]; exact h3 t
 | p :: ps, c :: cs, vs, tm, tmps, h1, h2, h3, t => by
  obtain ⟨v, us, rfl, g1, g2⟩ := repL_cons.1 h1
  simp only [putPs, List.zip_cons_cons, List.foldl_cons]
  refine putPs_get ps cs us _ _ g2 (fun q hq => by simpa using h2 q (List.mem_cons_of_mem _ hq)) (fun u => ?_) t
  have hlt := h2 p List.mem_cons_self
  simp only [getC]
  split
  ·subst_vars
   simpa [Array.getD_eq_getD_getElem?, hlt] using g1
  ·rename_i hne
   have hne' : p ≠ u := fun e => hne e.symm
   have := h3 u
   simpa [Array.getD_eq_getD_getElem?, Array.getElem?_setIfInBounds_ne hne'] using this
theorem foldl_size : ∀ (l : List (Nat × Value)) (tmps : Array Value), (l.foldl (fun t (p : Nat × Value) => t.setIfInBounds p.1 p.2) tmps).size = tmps.size
 | [], _ => rfl
 | x :: r, tmps => by rw [List.foldl_cons, foldl_size r]; simp
def roundK (m : Nat) (tm : List (Nat × C)) (st : Bool) (next : St) (Q : Exit → St → Prop) : Exit → St → Prop
 | .normal, σ => st = false ∧ Weak m ⟨[], σ.bx, σ.nx, σ.lg⟩ (next.wt [])
 | .ret, σ => st = true ∧ ∃ σ' : St, σ'.bx.length = m ∧ Weak m ⟨[], σ.bx, σ.nx, σ.lg⟩ (σ'.wt []) ∧ Q .ret (σ'.wt tm)
 | .exit id, σ => st = true ∧ ∃ σ' : St, σ'.bx.length = m ∧ Weak m ⟨[], σ.bx, σ.nx, σ.lg⟩ (σ'.wt []) ∧ Q (.exit id) (σ'.wt tm)
 | .goto t, σ => st = true ∧ ∃ σ' : St, σ'.bx.length = m ∧ Weak m ⟨[], σ.bx, σ.nx, σ.lg⟩ (σ'.wt []) ∧ Q (.goto t) (σ'.wt tm)
 | _, _ => False
def onlyK (K : St → Prop) : Exit → St → Prop
 | .normal, σ => K σ
 | _, _ => False
def ARange (P : Program) (G : Globs) (p : Nat) (A B : Nat → (Exit → St → Prop) → St → Prop) (Q : Exit → St → Prop) (ps : List Tmp) (c : C) (σ : St) : Prop :=
 match c with
 | .clo (.func f) first cap => ∃ (items : List (List C)) (st : Nat → Bool) (m : Nat) (I : Nat → St),
   p ≤ m ∧ m ≤ σ.bx.length ∧ Iter P G f (C.selL (fpDrop m) first) (C.selL (fpDrop m) cap) ((σ.bx.drop m).map (C.selL (fpDrop m))) items ∧ (∀ it ∈ items, it.length = ps.length) ∧ (∀ k, k ≤ items.length → (I k).bx.length = m) ∧
   Weak m ⟨[], σ.bx, σ.nx, σ.lg⟩ ((I 0).wt []) ∧
   (∀ k it, items[k]? = some it → (∀ j, j < k → st j = false) → A m (onlyK (B m (roundK m (tlTm m σ.tm) (st k) (I (k + 1)) Q))) ((I k).wt (putPs ps it (tlTm m σ.tm)))) ∧
   ((∀ j, j < items.length → st j = false) → Q .normal ((I items.length).wt (tlTm m σ.tm)))
 | _ => False
end
end Go.Proofs.YtbphobmohdclaaaGreatDoor.Vcg
end
section
set_option linter.unusedVariables false
set_option linter.unusedSimpArgs false
namespace Go.Proofs.YtbphobmohdclaaaGreatDoor.Vcg
open Go.RowKit
def RndOk (r : Option Nat) (E : Ctx) : Prop := ∀ l0, r = some l0 → l0 < E.w0.heap.size ∧ ¬ E.ex l0 ∧ ¬ E.F0 l0 ∧ ∃ r0, E.w0.heap[l0]? = some (.loop r0)
section
variable {P : Program} {G : Globs} {E : Ctx} {σ σ' : St} {a : Act} {R R' : Env} {L L' : Loc}
theorem enter_loop {r : Option Nat} (hr : RndOk r E) (h : Good G E σ R L) (fn : FuncId) (tmps : Array Value) (ps : Array Tmp) (assign body : Code) :
  ∃ (l : Nat) (ds : List Nat) (W : World) (D : Nat), (Instr.enterLoop fn tmps ps assign body r).run P R.w = .ok (l, ds.map markOf) W ∧ Below R.w.heap.size R.w W ∧ R.w.heap.size ≤ l ∧
   W.heap[l]? = some (.loop { state := .ready, pending := none, fn, tmps, params := ps, assign, body, defers := D }) ∧ ds.Nodup ∧ ∀ d ∈ ds, R.w.heap.size ≤ d ∧ d ≠ l ∧ W.heap[d]? = some (.deferred (some [])) := by
 cases r with
 | none =>
  have hrun := run_enterLoop_outer (P := P) (w := R.w) fn tmps ps assign body
  have hnew := World.alloc_heap_new (R.w.alloc (.deferred (some []))) (.loop { state := .ready, pending := none, fn, tmps, params := ps, assign, body, defers := R.w.heap.size })
  rw [World.size_alloc] at hnew
  refine ⟨R.w.heap.size + 1, [R.w.heap.size], _, _, hrun, ((Below.refl _ _).alloc (Nat.le_refl _) _).alloc (by simp) _, by omega, hnew, by simp, fun d hd => ?_⟩
  obtain rfl : d = R.w.heap.size := by simpa using hd
  exact ⟨Nat.le_refl _, by omega, (Below.heap_alloc _ _ _ (by simp)).trans (World.alloc_heap_new R.w _)⟩
 | some l0 =>
  obtain ⟨h1, h2, h3, r0, h4⟩ := hr l0 rfl
  have hl0 : R.w.heap[l0]? = some (.loop r0) := (h.blk l0 h1 h2 fun hx => h3 ((h.fz l0 h1).1 hx)).1.trans h4
  have hrun := run_enterLoop_inner (P := P) hl0 fn tmps ps assign body
  exact ⟨R.w.heap.size, [], _, _, hrun, (Below.refl _ _).alloc (Nat.le_refl _) _, Nat.le_refl _, World.alloc_heap_new R.w _, List.nodup_nil, fun d hd => by cases hd⟩
def Mk (E : Ctx) (ds : List Deferred) (d : Nat) : Prop := ∃ l : List Nat, ds = l.map markOf ++ E.df ∧ d ∈ l
theorem DfOk.stay2 {ds : List Deferred} (h : DfOk E ds R) (hf : ∀ d, Mk E ds d → (R'.F d ↔ R.F d)) (hd : ∀ d, Mk E ds d → R.w.heap[d]? = some (.deferred (some [])) → R'.w.heap[d]? = R.w.heap[d]?) : DfOk E ds R' := by
 obtain ⟨l, e, hl, h⟩ := h
 refine ⟨l, e, hl, fun d hdl => ?_⟩
 obtain ⟨h1, h2, h3⟩ := h d hdl
 exact ⟨(hd d ⟨l, e, hdl⟩ h1).trans h1, h2, fun h' => h3 ((hf d ⟨l, e, hdl⟩).1 h')⟩
theorem DfOk.mk {ds : List Deferred} (h : DfOk E ds R) {d : Nat} (hd : Mk E ds d) : R.w.heap[d]? = some (.deferred (some [])) ∧ E.w0.heap.size ≤ d ∧ ¬ R.F d := by
 obtain ⟨l, e, hl, h⟩ := h
 obtain ⟨l', e', hd⟩ := hd
 have : l.map markOf = l'.map markOf := List.append_cancel_right (e.symm.trans e')
 have hinj : Function.Injective markOf := fun x y hxy => by
  have := congrArg Deferred.target hxy
  simpa using this
 have := (List.map_inj_right fun x y hxy => hinj hxy).1 this
 subst this
 exact h d hd
structure Between (G : Globs) (E : Ctx) (R1 : Env) (β1 : List Nat) (l : Nat) (ds : List Deferred) (σ : St) (Rp : Env) (o : Obj) (Lk : Loc) (Fo : Nat → Prop) : Prop where
 ext : Ext R1 Rp
 β : Lk.β = β1
 good : Good G E σ ⟨Rp.w, Rp.M, Fo⟩ Lk
 df : DfOk E ds ⟨Rp.w, Rp.M, Fo⟩
 rcd : Rp.w.heap[l]? = some o
 fl : ¬ Fo l
 f1 : ∀ b, Fo b → Rp.F b
 f2 : ∀ b, Turf Lk b → Rp.F b
 f3 : Rp.F l
 f4 : ∀ d, Mk E ds d → Rp.F d
theorem Between.stab {R1 : Env} {β1 : List Nat} {l : Nat} {ds : List Deferred} {A B : Env} {o : Obj} {Lk : Loc} {Fo : Nat → Prop} {ex : Nat → Prop} {w1 : World} (hw : E.w0.heap.size ≤ w1.heap.size) (hx : ∀ b, ex b → E.tu b) (h : Between G E R1 β1 l ds σ A o Lk Fo) (hn : Nigh w1 ex A B) : Between G E R1 β1 l ds σ B o Lk Fo := by
 have hsame : ∀ b, b < A.w.heap.size → A.F b → B.w.heap[b]? = A.w.heap[b]? ∧ ∀ o, (B.M b o ↔ A.M b o) := fun b hb hF => by
  rcases hn.blk b hb with g | ⟨_, g⟩
  ·exact g
  ·exact absurd hF g
 have hlt : ∀ {b : Nat} {o : Obj}, A.w.heap[b]? = some o → b < A.w.heap.size := fun h => heap_lt h
 refine ⟨h.ext.trans hn.ext, h.β, h.good.stay ⟨hn.os, hn.tape, hn.output, hn.size, rfl, ⟨hn.ext.cell, hn.ext.whole⟩, fun b hb => (hn.blk b hb).imp id fun ⟨g1, g2⟩ => ⟨?_, fun hF => g2 (h.f1 b hF)⟩⟩ fun b hb => hsame b (h.good.turf hb).2.2.1 (h.f2 b hb),
  h.df.stay2 (fun _ _ => Iff.rfl) fun d hd hh => (hsame d (hlt hh) (h.f4 d hd)).1, (hsame l (hlt h.rcd) h.f3).1.trans h.rcd, h.fl, fun b hb => by rw [hn.fgn]; exact h.f1 b hb, fun b hb => by rw [hn.fgn]; exact h.f2 b hb, by rw [hn.fgn]; exact h.f3, fun d hd => by rw [hn.fgn]; exact h.f4 d hd⟩
 rcases g1 with g1 | g1
 ·exact .inl (Nat.le_trans hw g1)
 ·exact hx b g1
end
end Go.Proofs.YtbphobmohdclaaaGreatDoor.Vcg
end
section
set_option linter.unusedVariables false
set_option linter.unusedSimpArgs false
namespace Go.Proofs.YtbphobmohdclaaaGreatDoor.Vcg
open Go.RowKit
def outK (G : Globs) (E : Ctx) (Q : Exit → St → Prop) : Exit → Act → World → Prop := fun e a w => ∃ σ, Q e σ ∧ Inv G E σ a w
def jumpOf : Exit → Option Code
 | .ret => some .ret
 | .exit id => some (.exit id)
 | .goto t => some (.goto t)
 | _ => none
abbrev rcOf (fn : FuncId) (tmps : Array Value) (ps : Array Tmp) (assign body : Code) (D : Nat) (s : LoopState) (p : Option Code) : Loop := { state := s, pending := p, fn, tmps, params := ps, assign, body, defers := D }
def JC (G : Globs) (E : Ctx) (R1 : Env) (β1 : List Nat) (l m : Nat) (ds : List Deferred) (rc : LoopState → Option Code → Loop) (st : Nat → Bool) (I : Nat → St) (tm : List (Nat × C)) (Q : Exit → St → Prop) (k : Nat) (Rp : Env) : Prop :=
 ((∀ j, j < k → st j = false) ∧ ∃ Lk Fo, Between G E R1 β1 l ds (I k) Rp (.loop (rc .ready none)) Lk Fo) ∨
 (0 < k ∧ st (k - 1) = true ∧ ∃ e jc σ', jumpOf e = some jc ∧ Q e (σ'.wt tm) ∧ ∃ Lk Fo, Between G E R1 β1 l ds σ' Rp (.loop (rc .done (some jc))) Lk Fo)
section
variable {P : Program} {G : Globs} {E : Ctx} {σ σ' : St} {a : Act} {R R' : Env} {L L' : Loc}
theorem JC.stab {R1 : Env} {β1 : List Nat} {l m : Nat} {ds : List Deferred} {rc : LoopState → Option Code → Loop} {st : Nat → Bool} {I : Nat → St} {tm : List (Nat × C)} {Q : Exit → St → Prop} {ex : Nat → Prop} {w1 : World} (hw : E.w0.heap.size ≤ w1.heap.size) (hx : ∀ b, ex b → E.tu b) :
  ∀ k A B, JC G E R1 β1 l m ds rc st I tm Q k A → Nigh w1 ex A B → JC G E R1 β1 l m ds rc st I tm Q k B := fun k A B h hn => by
 rcases h with ⟨h1, Lk, Fo, hb⟩ | ⟨h1, h2, e, jc, σ', h3, h4, Lk, Fo, hb⟩
 ·exact .inl ⟨h1, Lk, Fo, hb.stab hw hx hn⟩
 ·exact .inr ⟨h1, h2, e, jc, σ', h3, h4, Lk, Fo, hb.stab hw hx hn⟩
theorem round_ok {ps : Array Tmp} {assign body : Code} {Q : Exit → St → Prop} {A B : Nat → (Exit → St → Prop) → St → Prop} {fn : FuncId} {tmps : Array Value} {D l m : Nat} {ds : List Deferred} {R1 : Env} {L1 : Loc} {tm0 : List (Nat × C)} {items : List (List C)} {st : Nat → Bool} {I : Nat → St}
  (hsA : ∀ (E' : Ctx) (Q' : Exit → St → Prop) (σ' : St) (a' : Act) (w' : World), E'.N = E.N → E'.β0.length ≤ m → E'.J = E.J → RndOk (some l) E' → A m Q' σ' → Inv G E' σ' a' w' → assign.wpIn (Fl (some l)) 0 P (outK G E' Q') a' w')
  (hsB : ∀ (E' : Ctx) (Q' : Exit → St → Prop) (σ' : St) (a' : Act) (w' : World), E'.N = E.N → E'.β0.length ≤ m → E'.J = E.J → RndOk (some l) E' → B m Q' σ' → Inv G E' σ' a' w' → body.wpIn (Fl (some l)) 0 P (outK G E' Q') a' w')
  (hl : E.w0.heap.size ≤ l) (hps : ∀ p ∈ ps.toList, p < E.N) (hN : tmps.size = E.N) (htm0 : ∀ t, Rep R1 L1 (getC tm0 t) (tmps.getD t undef)) (hlen : ∀ it ∈ items, it.length = ps.toList.length) (hIm : ∀ k, k ≤ items.length → (I k).bx.length = m)
  (hbody : ∀ k it, items[k]? = some it → (∀ j, j < k → st j = false) → A m (onlyK (B m (roundK m (tlTm m tm0) (st k) (I (k + 1)) Q))) ((I k).wt (putPs ps.toList it (tlTm m tm0)))) :
  YOk P ⟨l, items, st⟩ (JC G E R1 (L1.β.take m) l m ds (rcOf fn tmps ps assign body D) st I (tlTm m tm0) Q) := by
 intro k R it vs hJ hflt hst hit hvs
 have hJ' : ∃ Lk Fo, Between G E R1 (L1.β.take m) l ds (I k) R (.loop (rcOf fn tmps ps assign body D .ready none)) Lk Fo := by
  rcases hJ with ⟨_, h⟩ | ⟨hk0, hk1, _⟩
  ·exact h
  ·have := hst (k - 1) (by omega)
   exact absurd (hk1.symm.trans this) (by decide)
 obtain ⟨Lk, Fo, hb⟩ := hJ'
 have hit' : items[k]? = some it := hit
 have hk : k < items.length := (List.getElem?_eq_some_iff.1 hit').1
 have hpl := hlen it (List.mem_of_getElem? hit')
 have hvl := repL_length hvs
 have hps' : ps.size = ps.toList.length := by simp
 have hy := run_yield (P := P) (args := vs.toArray) hb.rcd (by simp only [List.size_toArray]; omega)
 refine ⟨fn, _, assign, body, hy, roundIn_of_wpIn trivial ?_⟩
 clear hy
 have hfold : Array.foldl (fun (t : Array Value) (p : Nat × Value) => t.setIfInBounds p.1 p.2) tmps (ps.zip vs.toArray) = (ps.toList.zip vs).foldl (fun t (p : Nat × Value) => t.setIfInBounds p.1 p.2) tmps := by
  rw [← Array.foldl_toList, Array.toList_zip]
 have hbase : ∀ t, Rep ⟨R.w, R.M, Fo⟩ Lk (getC (tlTm m tm0) t) (tmps.getD t undef) := fun t => by
  rw [getC_tl]
  refine Rep.sel (R' := ⟨R.w, R.M, Fo⟩) (L' := Lk) ⟨hb.ext.cell, hb.ext.whole⟩ (fun i j b hij hb1 => ?_) _ _ (htm0 t)
  unfold fpKeep at hij
  split at hij
  ·cases hij
   rw [hb.β, List.getElem?_take, if_pos (by assumption)]; exact hb1
  ·cases hij
 have hvs' : RepL ⟨R.w, R.M, Fo⟩ Lk it vs := RepL.ext (R := R) (R' := ⟨R.w, R.M, Fo⟩) (T := noLoc) ⟨fun b o v h1 h2 => ⟨h1, h2⟩, fun _ _ _ _ h1 h2 => ⟨h1, h2⟩⟩ (LocLe.none _) _ _ hvs
 have htm := putPs_get ps.toList it vs (tlTm m tm0) tmps hvs' (fun p hp => by rw [hN]; exact hps p hp) hbase
 have hfr := (hb.good.wt (putPs ps.toList it (tlTm m tm0))).fresh (β0 := Lk.β) (more := []) (by simp) (a := ⟨(ps.toList.zip vs).foldl (fun t (p : Nat × Value) => t.setIfInBounds p.1 p.2) tmps, []⟩) (by rw [foldl_size]; exact hN) htm
 have hlm : Lk.β.length = m := by rw [hb.good.fit.boxes.len, hIm k (by omega)]
 have hlR : l < R.w.heap.size := heap_lt hb.rcd
 have hnT : ¬ Turf Lk l := fun hT => by
  obtain ⟨_, _, _, hc⟩ := hb.good.turf hT
  have hr := hb.rcd
  rcases hc with ⟨cs, t, f, hc⟩ | ⟨cs, t, hc⟩ <;> exact nomatch hr.symm.trans hc
 refine wpIn_mono (hsA (E.at (Env.mk R.w R.M Fo) Lk Lk.β [] hb.good.size fun b hx => (hb.good.turf hx).1) _ _ _ R.w rfl (by show Lk.β.length ≤ m; omega) rfl (fun l0 hl0 => by cases hl0; exact ⟨hlR, hnT, hb.fl, _, hb.rcd⟩) (hbody k it hit' hst) ⟨Env.mk R.w R.M Fo, Lk, rfl, by rw [← hfold] at hfr; exact hfr⟩) ?_
 rintro e a1 w1 ⟨σ1, hq, Ra, La, rfl, hIa⟩
 cases e <;> try exact hq.elim
 -- the record is ready yet
 have hga := hb.good.wt (putPs ps.toList it (tlTm m tm0)) |>.back hb.good.box hIa.good
 have hra := hIa.good.at_blk (b := l) hlR hnT hb.fl
 have hrecA : Ra.w.heap[l]? = some (.loop (rcOf fn tmps ps assign body D .ready none)) := hra.1.trans hb.rcd
 have hFa : ¬ Ra.F l := fun hx => hb.fl ((hIa.good.fz l hlR).1 hx)
 have hTa : ¬ Turf La l := fun hT => by
  obtain ⟨_, _, _, hc⟩ := hga.turf hT
  rcases hc with ⟨cs, t, f, hc⟩ | ⟨cs, t, hc⟩ <;> exact nomatch hrecA.symm.trans hc
 refine ⟨_, run_beginRound hrecA rfl, ?_⟩
 have hlA : l < Ra.w.heap.size := heap_lt hrecA
 have hni := nigh_putObj (E := E) (R := Ra) (o := .loop { rcOf fn tmps ps assign body D .ready none with state := .busy }) (.inl hl) hFa (fun cs t f hc => by rw [hrecA] at hc; cases hc)
 have hsame : ∀ (o : Obj) (R : Env) (L : Loc), (¬ Turf L l) → ∀ b, Turf L b → (R.w.putObj l o).heap[b]? = R.w.heap[b]? ∧ ∀ o, (R.M b o ↔ R.M b o) := fun o R L hT b hb => ⟨World.putObj_heap_other fun e => hT (e ▸ hb), fun _ => Iff.rfl⟩
 have hgb := hga.stay hni (hsame _ Ra La hTa)
 have hrecB : (Ra.w.putObj l (.loop { rcOf fn tmps ps assign body D .ready none with state := .busy })).heap[l]? = some (.loop (rcOf fn tmps ps assign body D .busy none)) := World.putObj_heap_same hlA
 obtain ⟨moreA, hmA⟩ := hIa.good.box
 have hmA : La.β = Lk.β ++ moreA := hmA
 have hfrB := hgb.fresh hmA (a := a1) hIa.size fun t => Rep.ext hni.ext (LocLe.refl _) _ _ (hIa.tm t)
 refine wpIn_mono (hsB (E.at (Env.mk (Ra.w.putObj l (.loop { rcOf fn tmps ps assign body D .ready none with state := .busy })) Ra.M Ra.F) La Lk.β a1.defers hgb.size fun b hx => (hgb.turf hx).1) _ σ1 a1 _ rfl (by show Lk.β.length ≤ m; omega) rfl (fun l0 hl0 => by cases hl0; exact ⟨by simpa [Ctx.at] using hlA, hTa, hFa, _, hrecB⟩) hq ⟨_, La, rfl, hfrB⟩) ?_
 rintro e a3 w3 ⟨σ3, hq3, Rc, Lc, rfl, hIc⟩
 have hgc := hgb.back hb.good.box hIc.good
 have hlB : l < (Ra.w.putObj l (.loop { rcOf fn tmps ps assign body D .ready none with state := .busy })).heap.size := by simpa using hlA
 have hrc := hIc.good.at_blk (b := l) hlB hTa hFa
 have hrecC : Rc.w.heap[l]? = some (.loop (rcOf fn tmps ps assign body D .busy none)) := hrc.1.trans hrecB
 have hFc : ¬ Rc.F l := fun hx => hFa ((hIc.good.fz l hlB).1 hx)
 have hTc : ¬ Turf Lc l := fun hT => by
  obtain ⟨_, _, _, hc⟩ := hgc.turf hT
  rcases hc with ⟨cs, t, f, hc⟩ | ⟨cs, t, hc⟩ <;> exact nomatch hrecC.symm.trans hc
 have hszA : R.w.heap.size ≤ Ra.w.heap.size := hIa.good.size
 have hszC : Ra.w.heap.size ≤ Rc.w.heap.size := by have := hIc.good.size; simpa [Ctx.at] using this
 -- what is none of the loop's lies as it lay
 have hfar : ∀ b, b < R.w.heap.size → ¬ R.F b → (Rc.w.heap[b]? = R.w.heap[b]? ∧ ∀ o, (Rc.M b o ↔ R.M b o)) ∧ (¬ Rc.F b) := fun b hbl hbF => by
  have hbF0 : ¬ Fo b := fun hx => hbF (hb.f1 b hx)
  have hbT : ¬ Turf Lk b := fun hx => hbF (hb.f2 b hx)
  have hbl' : b ≠ l := fun e => hbF (e ▸ hb.f3)
  have h1 := hIa.good.at_blk (b := b) hbl hbT hbF0
  have hFa' : ¬ Ra.F b := fun hx => hbF0 ((hIa.good.fz b hbl).1 hx)
  have hTa' : ¬ Turf La b := fun hx => hbT (hIa.good.at_turf hbl hx)
  have hlt2 : b < (Ra.w.putObj l (.loop { rcOf fn tmps ps assign body D .ready none with state := .busy })).heap.size := by simp; omega
  have h2 := hIc.good.at_blk (b := b) hlt2 hTa' hFa'
  refine ⟨⟨(h2.1.trans (World.putObj_heap_other hbl')).trans h1.1, fun o => (h2.2 o).trans (h1.2 o)⟩, fun hx => hFa' ((hIc.good.fz b hlt2).1 hx)⟩
 have hturf : ∀ b, b < R.w.heap.size → Turf Lc b → R.F b := fun b hbl hx => by
  refine hb.f2 b (hIa.good.at_turf hbl (hIc.good.at_turf ?_ hx))
  simp; omega
 have hext : Ext R Rc := by
  have e1 : Ext (Env.mk R.w R.M Fo) Ra := ⟨hIa.good.ext.cell, hIa.good.ext.whole⟩
  have e2 : Ext (Env.mk (Ra.w.putObj l (.loop { rcOf fn tmps ps assign body D .ready none with state := .busy })) Ra.M Ra.F) Rc := ⟨hIc.good.ext.cell, hIc.good.ext.whole⟩
  exact (Ext.trans (A := R) (B := Ra) ⟨e1.cell, e1.whole⟩ hni.ext).trans e2
 -- the end of a round
 have fin : ∀ (jump : Option Code) (σ' : St), σ'.bx.length = m → Weak m ⟨[], σ3.bx, σ3.nx, σ3.lg⟩ (σ'.wt []) →
   (Instr.endRound l jump).run P Rc.w = .ok (.bool jump.isNone) (Rc.w.putObj l (.loop (rcOf fn tmps ps assign body D (if jump.isNone then .ready else .done) jump))) ∧
   ∃ R', R'.w = Rc.w.putObj l (.loop (rcOf fn tmps ps assign body D (if jump.isNone then .ready else .done) jump)) ∧ Far R R' ∧
    ∃ Lk' Fo', Between G E R1 (L1.β.take m) l ds σ' R' (.loop (rcOf fn tmps ps assign body D (if jump.isNone then .ready else .done) jump)) Lk' Fo' := fun jump σ' hm' hw => by
  have hrun := run_endRound (P := P) jump hrecC
  generalize hrc' : rcOf fn tmps ps assign body D (if jump.isNone then .ready else .done) jump = rc'
  have hrun' : (Instr.endRound l jump).run P Rc.w = .ok (.bool jump.isNone) (Rc.w.putObj l (.loop rc')) := by rw [← hrc']; exact hrun
  have hni2 := nigh_putObj (E := E) (R := Rc) (o := .loop rc') (.inl hl) hFc (fun cs t f hc => by rw [hrecC] at hc; cases hc)
  have hgd := hgc.stay hni2 (hsame _ Rc Lc hTc)
  obtain ⟨src, _, hgw⟩ := Good.weak (p := m) (σ := ⟨[], σ3.bx, σ3.nx, σ3.lg⟩) (σ' := σ'.wt []) (by
   obtain ⟨more0, hm0⟩ := hb.good.box
   have := congrArg List.length hm0
   simp at this; omega) hw (hgd.wt [])
  obtain ⟨moreC, hmC⟩ := hIc.good.box
  have hmC : Lc.β = Lk.β ++ moreC := hmC
  have hβ' : Lc.β.take (σ'.wt []).bx.length = L1.β.take m := by
   show Lc.β.take σ'.bx.length = _
   rw [hm', hmC, List.take_append_of_le_length (by omega), List.take_of_length_le (by omega), hb.β]
  refine ⟨hrun', ⟨Rc.w.putObj l (.loop rc'), Rc.M, fun b => R.F b ∨ (R.w.heap.size ≤ b ∧ b < Rc.w.heap.size)⟩, rfl, ⟨?_, ?_, ?_, ?_, ?_, fun b hbl => ⟨fun hx => hx.elim id fun h => by omega, .inl⟩, fun b hx => ?_, fun b hbl hbF => ?_⟩, lessLoc src (σ'.wt []).bx.length Lc, Rc.F, ⟨?_, hβ', ?_, ?_, World.putObj_heap_same (heap_lt hrecC), hFc, fun b hx => ?_, fun b hx => ?_, .inl hb.f3, fun d hd => .inl (hb.f4 d hd)⟩⟩
  ·exact hIc.good.os.trans hIa.good.os
  ·exact hIc.good.tape.trans hIa.good.tape
  ·exact hIc.good.output.trans hIa.good.output
  ·simp; omega
  ·exact hext.trans ⟨hni2.ext.cell, hni2.ext.whole⟩
  ·simp only [World.putObj_size]
   rcases hx with hx | hx
   ·have := hflt b hx; omega
   ·exact hx.2
  ·have hbl' : b ≠ l := fun e => hbF (e ▸ hb.f3)
   obtain ⟨⟨g1, g2⟩, _⟩ := hfar b hbl hbF
   exact ⟨(World.putObj_heap_other hbl').trans g1, g2⟩
  ·exact (hb.ext.trans hext).trans ⟨hni2.ext.cell, hni2.ext.whole⟩
  ·exact { hgw with }
  ·have hdf := hb.df
   refine hdf.stay2 (fun d hd => ?_) fun d hd hh => ?_
   ·have hdm := hdf.mk hd
    have hlt : d < R.w.heap.size := heap_lt hdm.1
    exact ((hIc.good.fz d (by simp [Ctx.at]; omega)).trans (hIa.good.fz d hlt))
   ·have hdm := hdf.mk hd
    have hlt : d < R.w.heap.size := heap_lt hdm.1
    have hdF0 : ¬ Fo d := hdm.2.2
    have hdT : ¬ Turf Lk d := fun hT => by
     obtain ⟨_, _, _, hc⟩ := hb.good.turf hT
     have hh : R.w.heap[d]? = some (.deferred (some [])) := hh
     rcases hc with ⟨cs, t, f, hc⟩ | ⟨cs, t, hc⟩ <;> exact nomatch hh.symm.trans hc
    have hdl : d ≠ l := fun e => by
     subst e
     have hh : R.w.heap[d]? = some (.deferred (some [])) := hh
     rw [hb.rcd] at hh; cases hh
    have h1 := hIa.good.at_blk (b := d) hlt hdT hdF0
    have hFa' : ¬ Ra.F d := fun hx => hdF0 ((hIa.good.fz d hlt).1 hx)
    have hTa' : ¬ Turf La d := fun hx => hdT (hIa.good.at_turf hlt hx)
    have hlt2 : d < (Ra.w.putObj l (.loop { rcOf fn tmps ps assign body D .ready none with state := .busy })).heap.size := by simp; omega
    have h2 := hIc.good.at_blk (b := d) hlt2 hTa' hFa'
    exact (World.putObj_heap_other hdl).trans ((h2.1.trans (World.putObj_heap_other hdl)).trans h1.1)
  ·rcases Nat.lt_or_ge b R.w.heap.size with g | g
   ·exact .inl (Classical.byContradiction fun hn => (hfar b g hn).2 hx)
   ·exact .inr ⟨g, hIc.good.flt b hx⟩
  ·obtain ⟨h1, h2, h3, _⟩ := hgw.turf hx
   rcases Nat.lt_or_ge b R.w.heap.size with g | g
   ·refine .inl (hturf b g ?_)
    rcases hx with hx | ⟨id, e, k, v, ht, hv⟩
    ·exact .inl (List.mem_of_mem_take hx)
    ·obtain ⟨i, _, hi⟩ := srcT_block (R := R) ht hv
     exact .inr ⟨i, e, k, v, hi, hv⟩
   ·exact .inr ⟨g, by simpa using h3⟩
 cases e with
 | normal =>
  obtain ⟨hs, hw⟩ := hq3
  obtain ⟨hrun, R', hR', hf, Lk', Fo', hbt⟩ := fin none (I (k + 1)) (hIm _ (by omega)) hw
  refine ⟨_, _, hrun, ?_, R', hR', hf, .inl ⟨fun j hj => ?_, Lk', Fo', hbt⟩⟩
  ·show Ending.returned (.bool true) = .returned (.bool (!st k))
   rw [hs]; rfl
  ·rcases Nat.lt_or_ge j k with g | g
   ·exact hst j g
   ·rw [show j = k by omega]; exact hs
 | ret =>
  obtain ⟨hs, σ', hm', hw, hQ⟩ := hq3
  obtain ⟨hrun, R', hR', hf, Lk', Fo', hbt⟩ := fin (some .ret) σ' hm' hw
  refine ⟨_, _, hrun, ?_, R', hR', hf, .inr ⟨by omega, hs, .ret, _, σ', rfl, hQ, Lk', Fo', hbt⟩⟩
  show Ending.returned (.bool false) = .returned (.bool (!st k))
  rw [hs]; rfl
 | exit id =>
  obtain ⟨hs, σ', hm', hw, hQ⟩ := hq3
  obtain ⟨hrun, R', hR', hf, Lk', Fo', hbt⟩ := fin (some (.exit id)) σ' hm' hw
  refine ⟨_, _, hrun, ?_, R', hR', hf, .inr ⟨by omega, hs, .exit id, _, σ', rfl, hQ, Lk', Fo', hbt⟩⟩
  show Ending.returned (.bool false) = .returned (.bool (!st k))
  rw [hs]; rfl
 | goto t =>
  obtain ⟨hs, σ', hm', hw, hQ⟩ := hq3
  obtain ⟨hrun, R', hR', hf, Lk', Fo', hbt⟩ := fin (some (.goto t)) σ' hm' hw
  refine ⟨_, _, hrun, ?_, R', hR', hf, .inr ⟨by omega, hs, .goto t, _, σ', rfl, hQ, Lk', Fo', hbt⟩⟩
  show Ending.returned (.bool false) = .returned (.bool (!st k))
  rw [hs]; rfl
 | panic ch => exact hq3.elim
 | outgrown => exact hq3.elim
theorem range_sound {r : Option Nat} {n p : Nat} {f : Operand} {ps : Array Tmp} {assign body : Code} {Q : Exit → St → Prop} {A B : Nat → (Exit → St → Prop) → St → Prop} {w : World}
  (hsA : ∀ (E' : Ctx) (m l : Nat) (Q' : Exit → St → Prop) (σ' : St) (a' : Act) (w' : World), E'.N = E.N → E'.β0.length ≤ m → E'.J = E.J → RndOk (some l) E' → A m Q' σ' → Inv G E' σ' a' w' → assign.wpIn (Fl (some l)) 0 P (outK G E' Q') a' w')
  (hsB : ∀ (E' : Ctx) (m l : Nat) (Q' : Exit → St → Prop) (σ' : St) (a' : Act) (w' : World), E'.N = E.N → E'.β0.length ≤ m → E'.J = E.J → RndOk (some l) E' → B m Q' σ' → Inv G E' σ' a' w' → body.wpIn (Fl (some l)) 0 P (outK G E' Q') a' w')
  (hps : ∀ p ∈ ps.toList, p < E.N) (hp : E.β0.length ≤ p) (hr : RndOk r E) (hA : ARange P G p A B Q ps.toList (evOf G σ.tm f) σ) (hI : Inv G E σ a w) : (Code.rangeFunc f ps assign body).wpIn (Fl r) n P (outK G E Q) a w := by
 obtain ⟨R, L, rfl, hI⟩ := hI
 unfold ARange at hA
 split at hA <;> try exact hA.elim
 rename_i gf first cap hev
 obtain ⟨items, st, m, I, hpm, hmb, hit, hlen, hIm, hw0, hbody, hdone⟩ := hA
 have hcl := hI.ev f
 rw [hev, rep_clo] at hcl
 obtain ⟨fs, cs, hfv, hfs, hcs⟩ := hcl
 refine wpIn_rangeFunc ?_
 intro fn hfn
 obtain ⟨l, dl, W, D, hrun, hbl, hlR, hrec, hnd, hds⟩ := enter_loop hr hI.good fn a.tmps ps assign body
 have hg := hI.good
 let R1 : Env := ⟨W, R.M, R.F⟩
 have hnear : Nigh E.w0 E.ex R R1 := ⟨hbl.os, hbl.tape, hbl.output, hbl.size, rfl, Ext.of_below hbl fun _ _ _ => Iff.rfl, fun b hb => .inl ⟨hbl.block b hb, fun _ => Iff.rfl⟩⟩
 have hg1 : Good G E σ R1 L := hg.stay hnear fun b hb => ⟨hbl.block b (hg.turf hb).2.2.1, fun _ => Iff.rfl⟩
 obtain ⟨src, _, hgw⟩ := Good.weak (p := m) (σ := ⟨[], σ.bx, σ.nx, σ.lg⟩) (σ' := (I 0).wt []) (by omega) hw0 (hg1.wt [])
 have hm0 : (I 0).bx.length = m := hIm 0 (Nat.zero_le _)
 have hm0' : ((I 0).wt []).bx.length = m := hm0
 have hdf1 : DfOk E (dl.map markOf ++ a.defers) R1 := by
  obtain ⟨l0, e0, hn0, h0⟩ := hI.df
  refine ⟨dl ++ l0, by rw [List.map_append, e0, List.append_assoc], ?_, fun d hd => ?_⟩
  ·rw [List.nodup_append]
   refine ⟨hnd, hn0, fun x hx y hy e => ?_⟩
   subst e
   have := (hds x hx).1
   have := heap_lt (h0 x hy).1
   omega
  ·rcases List.mem_append.1 hd with hd | hd
   ·obtain ⟨h1, _, h3⟩ := hds d hd
    exact ⟨h3, Nat.le_trans hg.size h1, fun hF => by have := hg.flt d hF; omega⟩
   ·obtain ⟨h1, h2, h3⟩ := h0 d hd
    exact ⟨(hbl.block d (heap_lt h1)).trans h1, h2, h3⟩
 have hlE : E.w0.heap.size ≤ l := Nat.le_trans hg.size hlR
 have hFl : ¬ R.F l := fun hF => by have := hg.flt l hF; omega
 let Rp : Env := ⟨W, R.M, fun b => R.F b ∨ Turf (lessLoc src m L) b ∨ b = l ∨ Mk E (dl.map markOf ++ a.defers) b⟩
 have hturfLt : ∀ b, Turf (lessLoc src m L) b → b < R.w.heap.size ∧ Turf L b := fun b hb => by
  have : Turf L b := by
   rcases hb with hb | ⟨id, e, k, v, ht, hv⟩
   ·exact .inl (List.mem_of_mem_take hb)
   ·obtain ⟨i, _, hi⟩ := srcT_block (R := R) ht hv
    exact .inr ⟨i, e, k, v, hi, hv⟩
  exact ⟨(hg.turf this).2.2.1, this⟩
 have hbt : Between G E R1 (L.β.take m) l (dl.map markOf ++ a.defers) (I 0) Rp (.loop (rcOf fn a.tmps ps assign body D .ready none)) (lessLoc src m L) R.F := by
  rw [hm0'] at hgw
  refine ⟨⟨fun b o v h1 h2 => ⟨h1, h2⟩, fun _ _ _ _ h1 h2 => ⟨h1, h2⟩⟩, rfl, { hgw with }, hdf1.stay2 (fun _ _ => Iff.rfl) (fun _ _ _ => rfl), hrec, hFl, fun b hb => .inl hb, fun b hb => .inr (.inl hb), .inr (.inr (.inl rfl)), fun d hd => .inr (.inr (.inr hd))⟩
 have hround := round_ok (G := G) (E := E) (P := P) (R1 := R1) (L1 := L) (tm0 := σ.tm) (ds := dl.map markOf ++ a.defers) (D := D) (fn := fn) (tmps := a.tmps) (fun E' => hsA E' m l) (fun E' => hsB E' m l) hlE hps hI.size (fun t => Rep.ext hnear.ext (LocLe.refl _) _ _ (hI.tm t)) hlen hIm hbody
 have hEw : E.w0.heap.size ≤ W.heap.size := Nat.le_trans hg.size hbl.size
 have hnodup := hg.fit.boxes.nodup
 have hblen := hg.fit.boxes.len
 have htake : ∀ b ∈ L.β.drop m, b ∉ L.β.take m := fun b hb hb' => by
  have h := hnodup
  rw [← List.take_append_drop m L.β, List.nodup_append] at h
  exact h.2.2 b hb' b hb rfl
 have hdropF : ∀ b ∈ L.β.drop m, ¬ Rp.F b := fun b hb hF => by
  have hbL : b ∈ L.β := List.mem_of_mem_drop hb
  obtain ⟨_, t2, t3, hc⟩ := hg.turf (.inl hbL)
  obtain ⟨cs', t, f', hc⟩ : ∃ cs t f, R.w.heap[b]? = some (.cells cs t f) := by
   obtain ⟨i, hi, rfl⟩ := List.getElem_of_mem hbL
   have hl0 := hg.fit.boxes.len
   obtain ⟨vs, ty, g, _⟩ := hg.fit.boxes.box i L.β[i] (σ.bx[i]'(by omega)) (List.getElem?_eq_getElem hi) (List.getElem?_eq_getElem (by omega))
   exact ⟨_, _, _, g⟩
  rcases hF with hF | hF | hF | hF
  ·exact t2 hF
  ·rcases hF with hF | ⟨id, e, k, v, ht, hv⟩
   ·exact htake b hb hF
   ·obtain ⟨i, _, hi⟩ := srcT_block (R := R) ht hv
    exact ((hg.fit.owns.own i e k v hi).block hv).2.2 hbL
  ·omega
  ·have := (hdf1.mk hF).1
   have hc1 : W.heap[b]? = some (.cells cs' t f') := (hbl.block b t3).trans hc
   have : W.heap[b]? = some (.deferred (some [])) := this
   rw [hc1] at this; cases this
 have hfl : ∀ b, Rp.F b → b < Rp.w.heap.size := fun b hF => by
  rcases hF with hF | hF | hF | hF
  ·exact Nat.lt_of_lt_of_le (hg.flt b hF) hbl.size
  ·exact Nat.lt_of_lt_of_le (hturfLt b hF).1 hbl.size
  ·rw [hF]; exact heap_lt hrec
  ·exact heap_lt (hdf1.mk hF).1
 have hb1 := hg1.fit.boxes
 have hdropR : ∀ i j b, fpDrop m i = some j → L.β[i]? = some b → (L.β.drop m)[j]? = some b := fun i j b hij hb => by
  unfold fpDrop at hij
  split at hij
  ·cases hij
  ·cases hij
   rw [List.getElem?_drop, show m + (i - m) = i by omega]; exact hb
 have hsel : ∀ cs vs, RepL R L cs vs → RepL Rp ⟨L.β.drop m, fun _ => none⟩ (C.selL (fpDrop m) cs) vs := fun cs vs h => RepL.sel (R' := Rp) (L' := ⟨L.β.drop m, fun _ => none⟩) ⟨hnear.ext.cell, hnear.ext.whole⟩ hdropR _ _ h
 have hsel1 : ∀ cs vs, RepL R1 L cs vs → RepL Rp ⟨L.β.drop m, fun _ => none⟩ (C.selL (fpDrop m) cs) vs := fun cs vs h => RepL.sel (R := R1) (R' := Rp) (L' := ⟨L.β.drop m, fun _ => none⟩) ⟨fun b o v h1 h2 => ⟨h1, h2⟩, fun _ _ _ _ h1 h2 => ⟨h1, h2⟩⟩ hdropR _ _ h
 have hcall := hit.2 l st _ Rp ⟨L.β.drop m, fun _ => none⟩ fs.toList cs.toList (hg.fit.glob.ext ⟨hnear.ext.cell, hnear.ext.whole⟩)
  ⟨by simp [hblen], hnodup.sublist (List.drop_sublist _ _), fun i b cs' hi hc => by
   have hi' : L.β[m + i]? = some b := by rw [← List.getElem?_drop]; exact hi
   rw [List.getElem?_map, List.getElem?_drop] at hc
   cases hq : σ.bx[m + i]? with
   | none => rw [hq] at hc; cases hc
   | some c0 =>
    rw [hq] at hc; cases hc
    obtain ⟨vs, ty, e1, e2, e3, e4⟩ := hb1.box (m + i) b c0 hi' hq
    exact ⟨vs, ty, e1, hsel1 _ _ e2, e3, e4⟩⟩
  (fun _ => rfl) hfl hdropF (JC.stab (E := E) (w1 := W) (ex := fun b => b ∈ L.β.drop m) hEw fun b hb => hg.tubx b (List.mem_of_mem_drop hb)) hround (.inl ⟨fun j hj => by omega, _, _, hbt⟩) (hsel _ _ hfs) (hsel _ _ hcs)
 refine ⟨l, dl.map markOf, W, { target := .fn (.func gf) cs, args := fs ++ #[.func (.yield l) #[] #[]] }, W, gf, (fs.toList ++ [Value.func (.yield l) #[] #[]] ++ cs.toList).toArray, W, hrun, ?_, fun _ _ => trivial, ?_, fun hx => by simp at hx, ?_⟩
 ·simp only [resolve, hfv]
  simp [Deferred.ofValue, Act.eval]
 ·simp only [invoke]
  rw [run_enter hit.1]
  congr 2
  apply Array.ext'
  simp
 ·refine (callsIn_fl (r := r) (n := n - 1) hcall).mono ?_
  rintro e w' ⟨v, Re, k, rfl, rfl, hJ, hEnd⟩
  have wrap : ∀ (σ' : St) (o : Obj) (Lk : Loc) (Fo : Nat → Prop) (o' : Obj), ((∀ cs t f, o ≠ .cells cs t f) ∧ ∀ es cl, o ≠ .map es cl) → Between G E R1 (L.β.take m) l (dl.map markOf ++ a.defers) σ' Re o Lk Fo → Inv G E (σ'.wt (tlTm m σ.tm)) { a with defers := dl.map markOf ++ a.defers } (Re.w.putObj l o') := fun σ' o Lk Fo o' ho hb => by
   have hnT : ¬ Turf Lk l := fun hT => by
    obtain ⟨_, _, _, hc⟩ := hb.good.turf hT
    have hr := hb.rcd
    rcases hc with ⟨cs, t, f, hc⟩ | ⟨cs, t, hc⟩
    ·exact ho.1 _ _ _ (Option.some.inj (hr.symm.trans hc))
    ·exact ho.2 _ _ (Option.some.inj (hr.symm.trans hc))
   have hni := nigh_putObj (E := E) (R := Env.mk Re.w Re.M Fo) (o := o') (.inl hlE) hb.fl (fun cs t f hc => by
    have hc : Re.w.heap[l]? = some (.cells cs t f) := hc
    rw [hb.rcd] at hc; cases hc; exact ho.1 _ _ _ rfl)
   refine ⟨_, Lk, rfl, (hb.good.stay hni fun b hbT => ⟨World.putObj_heap_other fun e => hnT (e ▸ hbT), fun _ => Iff.rfl⟩).wt _, hI.size, hb.df.stay2 (fun _ _ => Iff.rfl) fun d hd hh => World.putObj_heap_other fun e => ?_, fun t => ?_⟩
   ·subst e
    have hh : Re.w.heap[d]? = some (.deferred (some [])) := hh
    rw [hb.rcd] at hh
    cases hh
    have := (hdf1.mk hd).1
    have : W.heap[d]? = some (.deferred (some [])) := this
    rw [hrec] at this; cases this
   ·show Rep _ _ (getC (tlTm m σ.tm) t) _
    rw [getC_tl]
    refine Rep.sel (R := R) (L := L) ⟨fun b o v h1 h2 => ?_, fun b cs ty fl h1 h2 => ?_⟩ (fun i j b hij hb1 => ?_) _ _ (hI.tm t)
    ·obtain ⟨g1, g2⟩ := hnear.ext.cell b o v h1 h2
     obtain ⟨k1, k2⟩ := hb.ext.cell b o v g1 g2
     exact hni.ext.cell b o v k1 k2
    ·obtain ⟨g1, g2⟩ := hnear.ext.whole b cs ty fl h1 h2
     obtain ⟨k1, k2⟩ := hb.ext.whole b cs ty fl g1 g2
     exact hni.ext.whole b cs ty fl k1 k2
    ·unfold fpKeep at hij
     split at hij
     ·cases hij
      rw [hb.β, List.getElem?_take, if_pos (by assumption)]; exact hb1
     ·cases hij
  rcases hJ with ⟨hns, Lk, Fo, hb⟩ | ⟨hk0, hk1, e, jc, σ', hj, hQ, Lk, Fo, hb⟩
  ·have hk : k = items.length := by
    rcases hEnd with ⟨g, _⟩ | ⟨g1, g2⟩
    ·exact g
    ·have := hns (k - 1) (by omega)
     rw [g2] at this; cases this
   subst hk
   exact ⟨none, _, run_endLoop hb.rcd (by simp), _, hdone hns, wrap _ _ _ _ _ ⟨fun cs t f h => (by cases h), fun es cl h => (by cases h)⟩ hb⟩
  ·have hinv := wrap σ' _ Lk Fo (.loop { rcOf fn a.tmps ps assign body D .done (some jc) with state := .exhausted }) ⟨fun cs t f h => (by cases h), fun es cl h => (by cases h)⟩ hb
   refine ⟨some jc, _, run_endLoop hb.rcd (by simp), ?_⟩
   cases e with
   | ret => cases hj; exact wpIn_ret ⟨_, hQ, hinv⟩
   | exit id => cases hj; exact wpIn_exit ⟨_, hQ, hinv⟩
   | goto t => cases hj; exact wpIn_goto ⟨_, hQ, hinv⟩
   | normal => cases hj
   | panic ch => cases hj
   | outgrown => cases hj
end
end Go.Proofs.YtbphobmohdclaaaGreatDoor.Vcg
end
section
set_option linter.unusedVariables false
set_option linter.unusedSimpArgs false
namespace Go.Proofs.YtbphobmohdclaaaGreatDoor.Vcg
open Go.RowKit
def lateB (a s : Nat) : List Bool := true :: true :: true :: (List.replicate a false ++ true :: List.replicate s false)
def leadF : List Bool → Nat × List Bool
 | false :: r => ((leadF r).1 + 1, (leadF r).2)
 | r => (0, r)
def lateOf : List Bool → Option (Nat × Nat)
 | true :: true :: true :: r => some ((leadF r).1, (leadF r).2.tail.length)
 | _ => none
def twinB (m : Nat) : List Bool := lateB m 0
theorem leadF_rep : ∀ (a : Nat) (r : List Bool), leadF (List.replicate a false ++ true :: r) = (a, true :: r)
 | 0, r => by simp [leadF]
 | a + 1, r => by rw [List.replicate_succ, List.cons_append, leadF, leadF_rep a r]
theorem lateOf_lateB (a s : Nat) : lateOf (lateB a s) = some (a, s) := by
 show some ((leadF (List.replicate a false ++ true :: List.replicate s false)).1, (leadF (List.replicate a false ++ true :: List.replicate s false)).2.tail.length) = _
 rw [leadF_rep]; simp
def lateOk (ops : Array Oper) (a s : Nat) : Bool :=
 match ops[a]?, ops[s]? with
 | some ⟨some p, .alloc t, _, _, _, none⟩, some ⟨none, .store t' (.tmp p') x, _, _, _, none⟩ =>
  t == t' && p == p' && decide (a < s) && inC (clsUpto ops.toList ops.size) s a && ops.toList.zipIdx.all fun (o, i) => i == a || !(o.dst == some p)
 | _, _ => false
def aLate (L : Option Lay) (c : C) (K : C → Prop) : Prop := match L with
 | some L => c.partB = true ∧ (c.cells.all C.cellB) = true ∧ c.cells.length = L.size ∧ K c
 | none => False
def aLaid (L : Option Lay) (K : Prop) : Prop := match L with
 | some ⟨_, k, _, some z⟩ => z.length = k ∧ (z.all Value.oneCell') = true ∧ K
 | _ => False
section
variable {P : Program} {G : Globs} {E : Ctx} {σ : St} {a : Act} {N p : Nat} {bx : List (List C)} {ops : Array Oper}
def ladops (P : Program) (G : Globs) (ops : Array Oper) (a s : Nat) : List Oper → Nat → Option (List C) → St → (St → Prop) → Prop
 | [], _, cs, σ, K => match cs, (ops[a]?).bind (·.dst) with
  | some cs, some p => K ⟨(p, .ptr σ.bx.length 0) :: σ.tm, σ.bx ++ [cs], σ.nx, σ.lg⟩
  | _, _ => False
 | o :: rest, i, cs, σ, K =>
  if i = a then match o.op with
   | .alloc t => aLaid (lay P t) (ladops P G ops a s rest (i + 1) cs ⟨putT σ.tm o.dst .any, σ.bx, σ.nx, σ.lg⟩ K)
   | _ => False
  else if i = s then match o.op with
   | .store t _ x => aLate (lay P t) (evOf G σ.tm x) fun c => ladops P G ops a s rest (i + 1) (some c.cells) ⟨putT σ.tm o.dst .any, σ.bx, σ.nx, σ.lg⟩ K
   | _ => False
  else aGuard ops σ.tm o.guard (aPure P G σ.bx (evOf G σ.tm) o.op σ.nx fun c nx' => ladops P G ops a s rest (i + 1) cs ⟨putT σ.tm o.dst c, σ.bx, nx', σ.lg⟩ K)
   (ladops P G ops a s rest (i + 1) cs ⟨putT σ.tm o.dst (.sc undef), σ.bx, σ.nx, σ.lg⟩ K)
structure LChain (P : Program) (G : Globs) (bx : List (List C)) (ops : Array Oper) (a s : Nat) (l : List Oper) (m m' : Nat) (D : Data) : Prop where
  step : ∀ (i : Nat) o, m ≤ i → i < m' → l[i]? = some o → D.T (i + 1) = putT (D.T i) o.dst (D.c i) ∧ D.X i ≤ D.X (i + 1) ∧
    ((i = a ∧ D.c i = .any ∧ D.X (i + 1) = D.X i ∧ ∃ t kd k b z, o.op = .alloc t ∧ lay P t = some ⟨kd, k, b, some z⟩ ∧ z.length = k ∧ (z.all Value.oneCell') = true) ∨
     (i ≠ a ∧ i = s ∧ D.c i = .any ∧ D.X (i + 1) = D.X i ∧ ∃ t q x L, o.op = .store t q x ∧ lay P t = some L ∧ (evOf G (D.T i) x).partB = true ∧ ((evOf G (D.T i) x).cells.all C.cellB) = true ∧ (evOf G (D.T i) x).cells.length = L.size) ∨
     (i ≠ a ∧ i ≠ s ∧ guardIs ops (D.T i) o.guard (D.wn i) ∧ (D.wn i = true → PureSem P G bx (restr o (evOf G (D.T i))) (D.X i) o (D.c i) (D.X (i + 1))) ∧ (D.wn i = false → D.c i = .sc undef ∧ D.X (i + 1) = D.X i)))
theorem LChain.skel {a s : Nat} {l : List Oper} {m m' : Nat} {D : Data} (h : LChain P G bx ops a s l m m' D) : Skel l m m' D := ⟨fun i o a b c => ⟨(h.step i o a b c).1, (h.step i o a b c).2.1⟩⟩
theorem lchain_seg {ops : Array Oper} {a s : Nat} {all : List Oper} {K : St → Prop} : ∀ (l : List Oper) (m : Nat) (cs : Option (List C)) (σ : St), all.drop m = l → m ≤ all.length → ladops P G ops a s l m cs σ K →
    ∃ (D : Data) (p : Nat) (ct : List C), D.T m = σ.tm ∧ D.X m = σ.nx ∧ LChain P G σ.bx ops a s all m all.length D ∧ (ops[a]?).bind (·.dst) = some p ∧ K ⟨(p, .ptr σ.bx.length 0) :: D.T all.length, σ.bx ++ [ct], D.X all.length, σ.lg⟩ ∧
      (cs = some ct ∨ (m ≤ s ∧ s < all.length ∧ ∀ o t q x, all[s]? = some o → o.op = .store t q x → ct = (evOf G (D.T s) x).cells))
  | [], m, cs, σ, hl, hm, h => by
    have : m = all.length := by
      have := congrArg List.length hl
      simp at this; omega
    subst this
    unfold ladops at h
    split at h
    · rename_i cs p hp
      exact ⟨⟨fun _ => σ.tm, fun _ => σ.nx, fun _ => .any, fun _ => true⟩, p, cs, rfl, rfl, ⟨fun i o h1 h2 => by omega⟩, hp, h, .inl rfl⟩
    · exact h.elim
  | o :: rest, m, cs, σ, hl, hm, h => by
    have hlt : m < all.length := by
      rcases Nat.lt_or_ge m all.length with g | g
      · exact g
      · rw [List.drop_eq_nil_of_le g] at hl; cases hl
    have hom : all[m]? = some o := by
      have := List.getElem?_drop (xs := all) (i := m) (j := 0)
      rw [hl] at this; simpa using this.symm
    have hrest : all.drop (m + 1) = rest := by
      have := congrArg List.tail hl
      simpa using this
    have key : ∀ (c : C) (nx' : Nat) (b : Bool) (cs' : Option (List C)), σ.nx ≤ nx' →
        ((m = a ∧ c = .any ∧ nx' = σ.nx ∧ ∃ t kd k b z, o.op = .alloc t ∧ lay P t = some ⟨kd, k, b, some z⟩ ∧ z.length = k ∧ (z.all Value.oneCell') = true) ∨
         (m ≠ a ∧ m = s ∧ c = .any ∧ nx' = σ.nx ∧ ∃ t q x L, o.op = .store t q x ∧ lay P t = some L ∧ (evOf G σ.tm x).partB = true ∧ ((evOf G σ.tm x).cells.all C.cellB) = true ∧ (evOf G σ.tm x).cells.length = L.size) ∨
         (m ≠ a ∧ m ≠ s ∧ guardIs ops σ.tm o.guard b ∧ (b = true → PureSem P G σ.bx (restr o (evOf G σ.tm)) σ.nx o c nx') ∧ (b = false → c = .sc undef ∧ nx' = σ.nx))) →
        (cs' = cs ∨ (m = s ∧ ∀ t q x, o.op = .store t q x → cs' = some (evOf G σ.tm x).cells)) →
        ladops P G ops a s rest (m + 1) cs' ⟨putT σ.tm o.dst c, σ.bx, nx', σ.lg⟩ K →
        ∃ (D : Data) (p : Nat) (ct : List C), D.T m = σ.tm ∧ D.X m = σ.nx ∧ LChain P G σ.bx ops a s all m all.length D ∧ (ops[a]?).bind (·.dst) = some p ∧ K ⟨(p, .ptr σ.bx.length 0) :: D.T all.length, σ.bx ++ [ct], D.X all.length, σ.lg⟩ ∧
          (cs = some ct ∨ (m ≤ s ∧ s < all.length ∧ ∀ o t q x, all[s]? = some o → o.op = .store t q x → ct = (evOf G (D.T s) x).cells)) := fun c nx' b cs' hle hcase hcs hr => by
      obtain ⟨D, p, ct, d1, d2, d3, d4, d5, d6⟩ := lchain_seg rest (m + 1) cs' _ hrest (by omega) hr
      refine ⟨⟨fun i => if i ≤ m then σ.tm else D.T i, fun i => if i ≤ m then σ.nx else D.X i, fun i => if i = m then c else D.c i, fun i => if i = m then b else D.wn i⟩, p, ct, by simp, by simp, ⟨fun i o' hi hi' hio => ?_⟩, d4, ?_, ?_⟩
      · by_cases him : i = m
        · subst him
          rw [hom] at hio; cases hio
          simp only [Nat.le_refl, if_true, show ¬ i + 1 ≤ i by omega, if_false]
          exact ⟨d1, by rw [d2]; exact hle, by rw [d2]; exact hcase⟩
        · simp only [if_neg him, if_neg (show ¬ i ≤ m by omega), if_neg (show ¬ i + 1 ≤ m by omega)]
          exact d3.step i o' (by omega) hi' hio
      · simp only [if_neg (show ¬ all.length ≤ m by omega)]
        exact d5
      · rcases d6 with g | ⟨g1, g2, g3⟩
        · rcases hcs with e | ⟨e1, e2⟩
          · exact .inl (by rw [← e]; exact g)
          · refine .inr ⟨by omega, by omega, fun o' t q x ho hop => ?_⟩
            subst e1
            rw [hom] at ho; cases ho
            simp only [Nat.le_refl, if_true]
            have := e2 t q x hop
            rw [g] at this
            exact Option.some.inj this
        · refine .inr ⟨by omega, g2, fun o' t q x ho hop => ?_⟩
          simp only [if_neg (show ¬ s ≤ m by omega)]
          exact g3 o' t q x ho hop
    unfold ladops at h
    split at h
    · rename_i hma
      split at h
      · rename_i t ho
        unfold aLaid at h
        split at h
        · rename_i kd k b z hl'
          exact key .any σ.nx true cs (Nat.le_refl _) (.inl ⟨hma, rfl, rfl, t, kd, k, b, z, ho, hl', h.1, h.2.1⟩) (.inl rfl) h.2.2
        · exact h.elim
      · exact h.elim
    · rename_i hma
      split at h
      · rename_i hms
        split at h
        · rename_i t q x ho
          unfold aLate at h
          split at h
          · rename_i L hL
            obtain ⟨h1, h2, h3, h4⟩ := h
            exact key .any σ.nx true (some (evOf G σ.tm x).cells) (Nat.le_refl _) (.inr (.inl ⟨hma, hms, rfl, rfl, t, q, x, L, ho, hL, h1, h2, h3⟩)) (.inr ⟨hms, fun t' q' x' ho' => by rw [ho] at ho'; cases ho'; rfl⟩) h4
          · exact h.elim
        · exact h.elim
      · rename_i hms
        obtain ⟨b, hg, h1, h2⟩ := aGuard.out h
        cases b with
        | true =>
          obtain ⟨c, nx', hp, hK⟩ := aPure_restr (h1 rfl)
          exact key c nx' true cs hp.1 (.inr (.inr ⟨hma, hms, hg, fun _ => hp, (fun h => by cases h)⟩)) (.inl rfl) hK
        | false => exact key (.sc undef) σ.nx false cs (Nat.le_refl _) (.inr (.inr ⟨hma, hms, hg, (fun h => by cases h), fun _ => ⟨rfl, rfl⟩⟩)) (.inl rfl) (h2 rfl)
structure SideG (E : Ctx) (R : Env) (L : Loc) (p : Nat) (a : Act) (g : Nat) (vs : Array Value) (ty : TypeId) : Prop where
 ptr : a.tmps.getD p undef = .pointer (some ⟨g, 0, none⟩)
 heap : R.w.heap[g]? = some (.cells vs ty (0, 0))
 turn : ∀ o, R.M g o
 new : E.w0.heap.size ≤ g
 fgn : ¬ R.F g
 box : g ∉ L.β
 own : ∀ id e k v, L.T id = some (e, k, v) → v.ownB ≠ some g
 one : ∀ v ∈ vs.toList, v.oneCell' = true
theorem SideG.step {R R' : Env} {L L' : Loc} {p nx nx' g : Nat} {a : Act} {vs : Array Value} {ty : TypeId} (h : SideG E R L p a g vs ty) (st : PStep nx nx' R L R' L') {dst : Option Tmp} {v : Value} (hd : dst ≠ some p) : SideG E R' L' p (a.put dst v) g vs ty := by
 have hlt := heap_lt h.heap
 refine ⟨?_, (st.below.block g hlt).trans h.heap, fun o => (st.mt g o hlt).2 (h.turn o), h.new, by rw [st.fgn]; exact h.fgn, by rw [st.box]; exact h.box, fun id e k v ht hv => ?_, h.one⟩
 ·rw [← h.ptr]
  cases dst with
  | none => rfl
  | some d =>
   have hne : d ≠ p := fun e => hd (by rw [e])
   simp [Act.put, Array.getD_eq_getD_getElem?, Array.getElem?_setIfInBounds_ne hne]
 ·rcases st.cases ht with hi | ⟨hi, hj⟩
  ·exact h.own id e k v hi hv
  ·have := ((st.new id e k v hi hj ht).block hv).1; omega
theorem InvV.adopt {tm : List (Nat × C)} {nx lg p g : Nat} {R : Env} {L : Loc} {cs : List C} {vs : Array Value} {ty : TypeId} (h : InvV G E ⟨tm, bx, nx, lg⟩ a R L) (hs : SideG E R L p a g vs ty) (hr : RepL R L cs vs.toList) :
  InvV G E ⟨(p, .ptr bx.length 0) :: tm, bx ++ [cs], nx, lg⟩ a R ⟨L.β ++ [g], L.T⟩ := by
 have hg := h.good
 have hlen := hg.fit.boxes.len
 have hlen : L.β.length = bx.length := hlen
 have hle : LocLe L ⟨L.β ++ [g], L.T⟩ := ⟨fun i b e => by
  show (L.β ++ [g])[i]? = some b
  rw [List.getElem?_append_left (List.getElem?_eq_some_iff.1 e).1]; exact e, fun _ _ e => e⟩
 refine ⟨⟨⟨hg.fit.glob, ⟨by simp [hlen], ?_, fun i b cs' hi hc => ?_⟩, ⟨fun id e k v ht => ?_, hg.fit.owns.apart⟩, hg.fit.base⟩, hg.os, hg.tape, hg.output, hg.size, hg.blk, hg.ext, ?_, fun b hb => ?_, hg.flt, hg.fz, fun b hb => ?_, hg.fow, hg.free, hg.log⟩, h.size, h.df, fun t => ?_⟩
 ·show (L.β ++ [g]).Nodup
  rw [List.nodup_append]
  refine ⟨hg.fit.boxes.nodup, by simp, fun x hx y hy e => ?_⟩
  simp at hy; subst hy; subst e
  exact hs.box hx
 ·have hi : (L.β ++ [g])[i]? = some b := hi
  rcases Nat.lt_or_ge i L.β.length with hl | hl
  ·rw [List.getElem?_append_left hl] at hi
   rw [List.getElem?_append_left (by omega)] at hc
   obtain ⟨us, ty', e1, e2, e3, e4⟩ := hg.fit.boxes.box i b cs' hi hc
   exact ⟨us, ty', e1, RepL.ext (Ext.refl R) hle _ _ e2, e3, e4⟩
  ·rw [List.getElem?_append_right hl] at hi
   rw [List.getElem?_append_right (by omega)] at hc
   have h0 : i - L.β.length = 0 := by
    have := (List.getElem?_eq_some_iff.1 hi).1
    simp at this; omega
   rw [h0] at hi
   rw [show i - bx.length = 0 by omega] at hc
   simp at hi hc
   subst hi hc
   exact ⟨vs, ty, hs.heap, RepL.ext (Ext.refl R) hle _ _ hr, hs.one, hs.turn⟩
 ·refine (hg.fit.owns.own id e k v ht).move fun g' hv q2 _ q7 => ⟨q2, rfl, fun hx => ?_, fun _ h => h⟩
  have hx : g' ∈ L.β ++ [g] := hx
  rcases List.mem_append.1 hx with hx | hx
  ·exact q7 hx
  ·simp at hx; subst hx
   exact hs.own id e k v ht hv
 ·obtain ⟨more, hm⟩ := hg.box
  exact ⟨more ++ [g], by show L.β ++ [g] = _; rw [hm, List.append_assoc]⟩
 ·have hb : b ∈ L.β ++ [g] := hb
  rcases List.mem_append.1 hb with hb | hb
  ·exact hg.tub b hb
  ·simp at hb; subst hb; exact .inl hs.new
 ·have hb : b ∈ L.β ++ [g] := hb
  rcases List.mem_append.1 hb with hb | hb
  ·exact hg.fbx b hb
  ·simp at hb; subst hb; exact hs.fgn
 ·show Rep R _ (if t = p then _ else getC tm t) _
  split
  ·subst_vars
   exact rep_ptr.2 ⟨g, by show (L.β ++ [g])[bx.length]? = _; rw [← hlen]; simp, hs.ptr⟩
  ·exact Rep.ext (Ext.refl R) hle _ _ (h.tm t)
theorem Good.fill {σ : St} {R : Env} {L : Loc} {p g : Nat} {vs us : Array Value} {ty : TypeId} (h : Good G E σ R L) (hs : SideG E R L p a g vs ty) : Nigh E.w0 E.ex R ⟨R.w.setRow g us, R.M, R.F⟩ ∧ Good G E σ ⟨R.w.setRow g us, R.M, R.F⟩ L := by
 have hext : Ext R ⟨R.w.setRow g us, R.M, R.F⟩ := ⟨fun b' o v hcell hm => ⟨by
  have hne : b' ≠ g := fun e => hm (e ▸ hs.turn o)
  rw [cell_setRow_other R.w g us b' o hne]; exact hcell, hm⟩, fun c cs ty fl hc hm => ⟨by rw [setRow_other R.w g c us fun e => hm 0 (e ▸ hs.turn 0)]; exact hc, hm⟩⟩
 have hn : Nigh E.w0 E.ex R ⟨R.w.setRow g us, R.M, R.F⟩ := ⟨rfl, rfl, rfl, by rw [size_setRow]; exact Nat.le_refl _, rfl, hext, fun k hk => by
  by_cases hkb : k = g
  ·subst hkb; exact .inr ⟨.inl hs.new, hs.fgn⟩
  ·exact .inl ⟨setRow_other R.w g k us hkb, fun _ => Iff.rfl⟩⟩
 refine ⟨hn, h.move hn ⟨h.fit.glob.ext hext, ⟨h.fit.boxes.len, h.fit.boxes.nodup, fun i b cs hi hc => ?_⟩, ⟨fun id e k v ht => ?_, h.fit.owns.apart⟩, fun q hq => ?_⟩ ⟨[], by rw [List.append_nil], fun b hb => by cases hb⟩ (fun id e k v b ht hv => .inl ⟨id, e, k, v, ht, hv⟩) h.free⟩
 ·obtain ⟨ws, ty', e1, e2, e3, e4⟩ := h.fit.boxes.box i b cs hi hc
  have hne : b ≠ g := fun e => hs.box (e ▸ List.mem_of_getElem? hi)
  exact ⟨ws, ty', (setRow_other R.w g b us hne).trans e1, RepL.ext hext (LocLe.refl _) _ _ e2, e3, e4⟩
 ·exact (h.fit.owns.own id e k v ht).move fun g' hv q2 _ q7 => ⟨q2, setRow_other R.w g g' us fun e' => hs.own id e k v ht (by rw [← e']; exact hv), q7, fun _ h => h⟩
 ·exact h.fit.base q (by
   have hq : (R.w.setRow g us).heap.size ≤ q := hq
   rwa [size_setRow] at hq)
theorem lateOk.out {al st : Nat} (h : lateOk ops al st = true) : ∃ oa os p t x, ops.toList[al]? = some oa ∧ ops.toList[st]? = some os ∧ oa.dst = some p ∧ oa.op = .alloc t ∧ oa.guard = none ∧ os.dst = none ∧ os.op = .store t (.tmp p) x ∧ os.guard = none ∧ al < st ∧
  inC (clsUpto ops.toList ops.size) st al = true ∧ ∀ (i : Nat) o, ops.toList[i]? = some o → i ≠ al → o.dst ≠ some p := by
 unfold lateOk at h
 split at h
 ·rename_i p t ty1 pos1 af1 t' p' x ty2 pos2 af2 h1 h2
  simp only [Bool.and_eq_true, beq_iff_eq, decide_eq_true_eq] at h
  obtain ⟨⟨⟨⟨rfl, rfl⟩, h3⟩, h4⟩, h5⟩ := h
  refine ⟨_, _, p, t, x, by rw [Array.getElem?_toList]; exact h1, by rw [Array.getElem?_toList]; exact h2, rfl, rfl, rfl, rfl, rfl, rfl, h3, h4, fun i o ho hne hd => ?_⟩
  have := List.all_eq_true.1 h5 (o, i) (List.mem_zipIdx_iff_getElem?.2 ho)
  simp [hd, hne] at this
 ·cases h
theorem guard_none {l : Array Bool} {o : Oper} (h : o.guard = none) (f : Nat → Option Bool) : Region.wanted o f = true := by
 unfold Region.wanted; rw [h]
theorem run_fillG {t : TypeId} {o : Oper} {p g : Nat} {x : Operand} {R : Env} {L : Loc} {vs : Array Value} {ty : TypeId} {Ly : Lay} {c : C} (ho : o.op = .store t (.tmp p) x) (hl : lay P t = some Ly) (hs : SideG E R L p a g vs ty) (hx : Rep R L c (a.eval x)) (h1 : c.partB = true) (h2 : (c.cells.all C.cellB) = true) (h3 : c.cells.length = Ly.size) (hsz : vs.size = Ly.size) :
  ∃ us : Array Value, (execOp a.eval o).run P R.w = .ok .skip (R.w.setRow g us) ∧ RepL R L c.cells us.toList ∧ us.size = Ly.size ∧ ∀ v ∈ us.toList, v.oneCell' = true := by
 have hxc := rep_cells hx h1
 have hxl := repL_length hxc
 simp only [Array.length_toList] at hxl
 have hone := repL_one hxc h2
 have hst := run_storeCells_at P g 0 ty (a.eval x).cells.toList 0 vs R.w hs.heap (by simp; omega) hone
 simp only [Nat.add_zero, Nat.zero_add] at hst
 have hpv : a.eval (.tmp p) = .pointer (some ⟨g, 0, none⟩) := hs.ptr
 have hall : (vs.toList.take 0 ++ (a.eval x).cells.toList ++ vs.toList.drop ((a.eval x).cells.toList.length)) = (a.eval x).cells.toList := by
  rw [List.take_zero, List.nil_append, List.drop_of_length_le (by simp; omega), List.append_nil]
 rw [hall] at hst
 refine ⟨(a.eval x).cells, ?_, hxc, by omega, hone⟩
 have hszz := lay_sizeOf hl R.w
 unfold execOp
 simp only [ho, hpv, Instr.storeAt, Instr.sureAddr, storeVar, Sem.run_bind, Sem.run_pure, Result.andThen_ok, hszz]
 rw [if_neg (by omega)]
 simp only [Sem.run_bind, hst, Result.andThen_ok, Sem.run_pure]
theorem late_seg {r : Option Nat} {n lg al st p : Nat} {ct : List C} {Q : Exit → Act → World → Prop} {D : Data} (hN : ∀ o ∈ ops.toList, dstOk E.N o.dst) (hok : regOk ops = true) (hlo : lateOk ops al st = true) (hc : LChain P G bx ops al st ops.toList 0 ops.toList.length D)
  (hp : (ops[al]?).bind (·.dst) = some p) (hct : ∀ o t q x, ops.toList[st]? = some o → o.op = .store t q x → ct = (evOf G (D.T st) x).cells)
  (hEnd : ∀ (a : Act) (R : Env) (L : Loc), InvV G E ⟨(p, .ptr bx.length 0) :: D.T ops.toList.length, bx ++ [ct], D.X ops.toList.length, lg⟩ a R L → Q .normal a R.w) : ∀ (fuel : Nat) (listed : Array Bool) (a : Act) (R : Env) (L : Loc), listed.size = ops.size → listed.toList.count false ≤ fuel →
  Closed ops.toList (fun i => listed.getD i false) → (∀ i, ops.size ≤ i → listed.getD i false = false) → InvD G E bx lg ops.toList 0 ops.toList.length D (fun i => listed.getD i false) a R L →
  (listed.getD al false = true → ∃ g vs ty, SideG E R L p a g vs ty ∧ (∀ kd k b z t, lay P t = some ⟨kd, k, b, z⟩ → (∃ o, ops.toList[al]? = some o ∧ o.op = .alloc t) → vs.size = k) ∧ (listed.getD st false = true → RepL R L ct vs.toList)) → wpAnyIn (Fl r) n P .any ops Q fuel listed a R.w := by
 obtain ⟨oa, os, p', t, x, la1, ls1, la2, la3, la4, ls2, ls3, ls4, hlt, hcl0, honly⟩ := lateOk.out hlo
 have hpp : p' = p := by
  have : ops[al]? = some oa := by rw [← Array.getElem?_toList]; exact la1
  rw [this] at hp
  have hp : oa.dst = some p := hp
  rw [la2] at hp; exact Option.some.inj hp
 subst hpp
 have hl : ops.toList.length ≤ ops.toList.length := Nat.le_refl _
 have done : ∀ (listed : Array Bool) (a : Act) (R : Env) (L : Loc), listed.size = ops.size → (∀ i, i < ops.size → listed.getD i false = true) → InvD G E bx lg ops.toList 0 ops.toList.length D (fun i => listed.getD i false) a R L →
   (listed.getD al false = true → ∃ g vs ty, SideG E R L p' a g vs ty ∧ (∀ kd k b z t, lay P t = some ⟨kd, k, b, z⟩ → (∃ o, ops.toList[al]? = some o ∧ o.op = .alloc t) → vs.size = k) ∧ (listed.getD st false = true → RepL R L ct vs.toList)) → Q .normal a R.w := fun listed a R L hsz h1 h hside => by
  have hsl : st < ops.size := by simpa using (List.getElem?_eq_some_iff.1 ls1).1
  obtain ⟨g, vs, ty, q1, _, q2⟩ := hside (h1 al (by omega))
  refine hEnd a R ⟨L.β ++ [g], L.T⟩ (InvV.adopt (tm := D.T ops.toList.length) (nx := D.X ops.toList.length) (lg := lg) (cs := ct) (p := p') (g := g) (vs := vs) (ty := ty) ⟨{ h.good with }, h.size, h.df, fun t => ?_⟩ q1 (q2 (h1 st hsl)))
  have ht := h.tm t
  rw [val_congr (D' := fun j => decide (0 ≤ j)) ops.toList.length fun j hj _ => by rw [h1 j (by simpa using hj)]; simp] at ht
  show Rep R L (getC (D.T ops.toList.length) t) _
  rw [val_text hl hc.skel t _ (Nat.zero_le _) (Nat.le_refl _)]
  exact ht
 intro fuel
 induction fuel with
 | zero =>
  intro listed a R L hsz hcnt hcl h2 h hside
  have hall : ∀ i, i < ops.size → listed.getD i false = true := fun i hi => by
   cases hq : listed.getD i false with
   | true => rfl
   | false =>
    have : listed.toList[i]? = some false := by
     rw [Array.getD_eq_getD_getElem?, Array.getElem?_eq_getElem (by omega)] at hq
     simp [show i < listed.size by omega]; simpa using hq
    have hpos : 0 < listed.toList.count false := List.count_pos_iff.2 (List.mem_of_getElem? this)
    omega
  have hre : Region.ready .any ops listed = [] := by
   cases hq : Region.ready .any ops listed with
   | nil => rfl
   | cons i rest =>
    obtain ⟨o, ho, h3, _⟩ := ready_mem (ops := ops) (listed := listed) (i := i) (by rw [hq]; simp)
    have hio : i < ops.size := by simpa using (List.getElem?_eq_some_iff.1 ho).1
    have := (listed_false hsz hio h3).1
    rw [hall i hio] at this; cases this
  exact ⟨hre, done listed a R L hsz hall h hside⟩
 | succ fuel ih =>
  intro listed a R L hsz hcnt hcl h2 h hside
  refine ⟨fun hr => done listed a R L hsz (ready_none hok hsz hr) h hside, fun i hi => ?_⟩
  obtain ⟨o, ho, hl0, hpre⟩ := ready_mem hi
  have hio : i < ops.size := by simpa using (List.getElem?_eq_some_iff.1 ho).1
  obtain ⟨hlf, hil'⟩ := listed_false hsz hio hl0
  have hil : i < listed.size := by omega
  have hcnt' : (listed.setIfInBounds i true).toList.count false ≤ fuel := by
   have := count_set_true hil'
   rw [Array.toList_setIfInBounds]; omega
  have hset : ∀ j, (listed.setIfInBounds i true).getD j false = (listed.getD j false || j == i) := fun j => congrFun (getD_set hil) j
  have next : ∀ (a' : Act) (R' : Env) (L' : Loc), InvD G E bx lg ops.toList 0 ops.toList.length D (fun x => listed.getD x false || x == i) a' R' L' →
    ((listed.getD al false || al == i) = true → ∃ g vs ty, SideG E R' L' p' a' g vs ty ∧ (∀ kd k b z t, lay P t = some ⟨kd, k, b, z⟩ → (∃ o, ops.toList[al]? = some o ∧ o.op = .alloc t) → vs.size = k) ∧ ((listed.getD st false || st == i) = true → RepL R' L' ct vs.toList)) →
    wpAnyIn (Fl r) n P .any ops Q fuel (listed.setIfInBounds i true) a' R'.w := fun a' R' L' hi' hs' =>
   ih _ _ R' L' (by simpa using hsz) hcnt' (closed_set hil hcl ho hpre) (fun j hj => by rw [hset, h2 j hj]; simp; omega) (by rw [getD_set hil]; exact hi') (by rw [hset, hset]; exact hs')
  obtain ⟨c1, c2, c3⟩ := hc.step i o (Nat.zero_le _) (by simpa using hio) ho
  have hmi' : i < ops.toList.length := by simpa using hio
  have hev := h.ev hl hc.skel hok hcl (Nat.zero_le _) hmi' ho hlf hpre
  have hop : ∀ x ∈ o.op.operands, Rep R L (evOf G (D.T i) x) (a.eval x) := fun x hx => by
   cases x with
   | tmp t =>
    refine hev t ?_
    unfold touches Oper.looksAt
    exact List.mem_append_left _ (List.mem_append_left _ (List.mem_filterMap.2 ⟨.tmp t, by simpa using hx, rfl⟩))
   | const v => exact rep_ofConst R L v
   | global g =>
    simp only [evOf]
    cases hg : G g with
    | none => unfold Rep; trivial
    | some cs => exact rep_row.2 ⟨g, 0, rfl, (h.good.fit.glob g cs hg).1⟩
   | func f => exact rep_clo.2 ⟨#[], #[], rfl, repL_nil.2 rfl, repL_nil.2 rfl⟩
  have hoa : ops[i]? = some o := by simpa using ho
  unfold wpOpIn
  rw [hoa]
  simp only
  rcases c3 with ⟨hia, hca, hxa, t1, kd, k, b, z, hot, hly, hzk, hz1⟩ | ⟨hna, his, hca, hxs, t1, q, x1, Ly, hot, hly, h1, h2', h3⟩ | ⟨hna, hns, c3, c4, c5⟩
  ·-- the variable is laid
   subst hia
   rw [la1] at ho; cases ho
   rw [la3] at hot; cases hot
   have hw : Region.wanted oa (yielded ops a.tmps) = true := guard_none (l := listed) la4 _
   simp only [hw, if_true]
   obtain ⟨ti, d, hti, htd, _, _, _, hz⟩ := lay_spec hly
   cases hiz : ti.zero with
   | none => simp [hiz] at hz
   | some zv =>
    simp only [hiz, Option.map_some, Option.some.injEq] at hz
    subst hz
    have hzz : (zeroValue t).run P R.w = .ok zv R.w := by simp [zeroValue, typeInfo, hti, hiz]
    refine runs_wpIn (Runs.value (w' := R.w.alloc (.cells zv.cells t (0, 0))) (v := .pointer (some ⟨R.w.heap.size, 0, none⟩)) (by
     unfold execOp
     simp [la3, Instr.alloc, hzz, newVar, newRow]) ?_)
    have hbel : Below R.w.heap.size R.w (R.w.alloc (.cells zv.cells t (0, 0))) := (Below.refl _ _).alloc (Nat.le_refl _) _
    have hmt : ∀ b o, b < R.w.heap.size → (((b < R.w.heap.size ∧ R.M b o) ∨ b = R.w.heap.size) ↔ R.M b o) := fun b o hlt => ⟨fun h' => by rcases h' with h' | h'; exact h'.2; omega, fun h' => .inl ⟨hlt, h'⟩⟩
    have stp : PStep (D.X i) (D.X (i + 1)) R L ⟨R.w.alloc (.cells zv.cells t (0, 0)), fun b o => (b < R.w.heap.size ∧ R.M b o) ∨ b = R.w.heap.size, R.F⟩ L := by
     rw [hxa]
     exact ⟨hbel, rfl, rfl, hmt, fun _ _ => rfl, fun id e k v h h' => by omega, fun id id' e k v e' k' v' b h h' => by omega⟩
    have hst0 : listed.getD st false = false := by
     cases hq : listed.getD st false with
     | false => rfl
     | true =>
      have := cls_sound hcl _ st i hcl0 hq
      rw [this] at hlf; cases hlf
    refine next _ _ L (h.put hl hc.skel hok hcl (Nat.zero_le _) hmi' la1 hlf hpre (hN _ (List.mem_of_getElem? la1)) stp (by rw [hca]; unfold Rep; trivial)) fun _ => ⟨R.w.heap.size, zv.cells, t, ⟨?_, heap_alloc_new _ _, fun o => .inr rfl, h.good.size, fun hF => ?_, fun hb => ?_, fun id e k v ht hv => ?_, fun v hv => List.all_eq_true.1 hz1 v hv⟩, fun kd' k' b' z' t' hl' ⟨o', ho', hop'⟩ => ?_, fun hst => ?_⟩
    ·have hd := hN _ (List.mem_of_getElem? la1)
     rw [la2] at hd ⊢
     have hlt2 : p' < a.tmps.size := by rw [h.size]; exact hd
     simp [Act.put, Array.getD_eq_getD_getElem?, hlt2]
    ·have := h.good.flt _ hF; omega
    ·have := h.good.fit.β_lt _ hb; omega
    ·have := ((h.good.fit.owns.own id e k v ht).block hv).2.1; omega
    ·rw [la1] at ho'; cases ho'
     rw [la3] at hop'; cases hop'
     rw [hly] at hl'; cases hl'
     simpa using hzk
    ·rw [hst0] at hst
     have : st = i := by simpa using hst
     omega
  ·-- the variable is filled
   subst his
   rw [ls1] at ho; cases ho
   have hot0 := hot
   rw [ls3] at hot; cases hot
   have hw : Region.wanted os (yielded ops a.tmps) = true := guard_none (l := listed) ls4 _
   simp only [hw, if_true]
   have hal : listed.getD al false = true := by
    have hS' : Closed ops.toList (fun x => listed.getD x false || x == i) := fun k q hq hk e he hb => by
     simp only [Bool.or_eq_true, beq_iff_eq] at hk ⊢
     rcases hk with hk | hk
     ·exact .inl (hcl k q hq hk e he hb)
     ·subst hk; rw [ls1] at hq; cases hq
      exact .inl (hpre e he hb)
    have := cls_sound hS' _ i al hcl0 (by simp)
    simp only [Bool.or_eq_true, beq_iff_eq] at this
    exact this.resolve_right (by omega)
   obtain ⟨g, vs, ty, q1, q2, _⟩ := hside hal
   have hsize : vs.size = Ly.size := q2 _ _ _ _ t hly ⟨oa, la1, la3⟩
   obtain ⟨us, u1, u2, u3, u4⟩ := run_fillG ls3 hly q1 (hop x (by rw [ls3]; simp [Op.operands])) h1 h2' h3 hsize
   obtain ⟨hn, hgood⟩ := h.good.fill (us := us) q1
   have hput : ∀ v, a.put os.dst v = a := fun v => by rw [ls2]; rfl
   refine runs_wpIn ?_
   unfold Runs
   rw [u1]
   show wpAnyIn _ _ _ _ _ _ _ _ (a.put os.dst undef) _
   rw [hput]
   have hs' : SideG E ⟨R.w.setRow g us, R.M, R.F⟩ L p' a g us ty := ⟨q1.ptr, setRow_heap R.w g vs us ty (0, 0) q1.heap, q1.turn, q1.new, q1.fgn, q1.box, q1.own, u4⟩
   refine next a ⟨R.w.setRow g us, R.M, R.F⟩ L ⟨hgood, fun id hid hfr => h.free id hid fun j hmj hj hsj => hfr j hmj hj (by simp [hsj]), h.size, ?_, fun t => ?_⟩ fun _ => ⟨g, us, ty, hs', fun kd' k' b' z' t' hl' ⟨o', ho', hop'⟩ => ?_, fun _ => ?_⟩
   ·obtain ⟨l, e, hl', hd⟩ := h.df
    refine ⟨l, e, hl', fun d hdm => ?_⟩
    obtain ⟨g1, g2, g3⟩ := hd d hdm
    refine ⟨?_, g2, g3⟩
    have hne : d ≠ g := fun e => by rw [e, q1.heap] at g1; cases g1
    exact (setRow_other R.w g d us hne).trans g1
   ·have hold := Rep.ext hn.ext (LocLe.refl _) _ _ (h.tm t)
    have e1 : val (D.T 0) ops.toList D.c (fun j => decide (0 ≤ j) && (listed.getD j false || j == i)) ops.toList.length t = val (D.T 0) ops.toList D.c (fun j => decide (0 ≤ j) && listed.getD j false) ops.toList.length t := val_congr _ fun j hj hdj => by
     have hji : j ≠ i := fun e => by
      subst e; rw [ls1] at hdj
      have hdj : os.dst = some t := hdj
      rw [ls2] at hdj; cases hdj
     have hj2 : (j == i) = false := by simpa using hji
     show (decide (0 ≤ j) && (listed.getD j false || j == i)) = _
     rw [hj2, Bool.or_false]
    rw [e1]; exact hold
   ·rw [u3, ← hsize]
    exact q2 kd' k' b' z' t' hl' ⟨o', ho', hop'⟩
   ·rw [hct os t (.tmp p') x ls1 ls3]
    exact RepL.ext hn.ext (LocLe.refl _) _ _ u2
  ·-- any other one
   have hdp : o.dst ≠ some p' := honly i o ho hna
   have hstep : ∀ (v : Value) (R' : Env) (L' : Loc), PStep (D.X i) (D.X (i + 1)) R L R' L' → Rep R' L' (D.c i) v → wpAnyIn (Fl r) n P .any ops Q fuel (listed.setIfInBounds i true) (a.put o.dst v) R'.w := fun v R' L' stp hv =>
    next _ R' L' (h.put hl hc.skel hok hcl (Nat.zero_le _) hmi' ho hlf hpre (hN o (List.mem_of_getElem? ho)) stp hv) fun hal => by
     have hal' : listed.getD al false = true := by
      simp only [Bool.or_eq_true, beq_iff_eq] at hal
      exact hal.resolve_right fun e => hna e.symm
     obtain ⟨g, vs, ty, q1, q2, q3⟩ := hside hal'
     refine ⟨g, vs, ty, q1.step stp hdp, q2, fun hst => ?_⟩
     have hst' : listed.getD st false = true := by
      simp only [Bool.or_eq_true, beq_iff_eq] at hst
      exact hst.resolve_right fun e => hns e.symm
     exact RepL.ext stp.ext (stp.le (h.freeAt hl hc.skel (Nat.zero_le _) hmi' hlf)) _ _ (q3 hst')
   have hguard : Region.wanted o (yielded ops a.tmps) = D.wn i := guard_wanted (tm := D.T i) rfl c3 fun j want d hg hd => by
    have ht : d ∈ touches ops o := by
     unfold touches Oper.looksAt
     rw [hg]
     simp [hd]
    refine ⟨?_, hev d ht⟩
    rw [h.size]
    cases hj : ops[j]? with
    | none => rw [hj] at hd; cases hd
    | some o' =>
     rw [hj] at hd
     have hd' : o'.dst = some d := hd
     have := hN o' (by rw [Array.mem_toList_iff]; exact Array.mem_of_getElem? hj)
     rw [hd'] at this; exact this
   simp only [hguard]
   cases hw : D.wn i with
   | true =>
    simp only [if_true]
    refine runs_wpIn ?_
    refine ((c4 hw).2 _ R L a.eval h.good.fit (h.freeAt hl hc.skel (Nat.zero_le _) hmi' hlf) fun x => ?_).mono fun v w' ⟨R', L', hw', stp, hv⟩ => ?_
    ·unfold restr
     split
     ·rename_i hx; exact hop x hx
     ·unfold Rep; trivial
    ·rw [← hw']; exact hstep v R' L' stp hv
   | false =>
    simp only [Bool.false_eq_true, if_false]
    refine ⟨fun f _ => trivial, ?_⟩
    obtain ⟨d1, d2⟩ := c5 hw
    have stp : PStep (D.X i) (D.X (i + 1)) R L R L := by rw [d2]; exact PStep.refl _ _ _
    exact hstep undef R L stp (by rw [d1]; exact rep_sc.2 rfl)
theorem late_sound {r : Option Nat} {n id al st : Nat} {Q : Exit → Act → World → Prop} {K : St → Prop} {w : World} (hm : P.follows .mixedOrders = true) (hN : ∀ o ∈ ops.toList, dstOk E.N o.dst) (hok : regOk ops = true) (hlo : lateOk ops al st = true)
  (h : ladops P G ops al st ops.toList 0 none σ K) (hI : Inv G E σ a w) (hQ : ∀ a' w' σ', K σ' → Inv G E σ' a' w' → Q .normal a' w') : (Code.region id ops true).wpIn (Fl r) n P Q a w := by
 obtain ⟨R, L, rfl, hI⟩ := hI
 refine wpIn_region_any hm ?_
 let R' : Env := ⟨{ R.w with drawn := R.w.drawn + 1 }, R.M, R.F⟩
 have hext : Ext R R' := ⟨fun b o v h1 h2 => ⟨h1, h2⟩, fun _ _ _ _ h1 h2 => ⟨h1, h2⟩⟩
 have hnear : Near E.w0 E.ex R R' := ⟨rfl, rfl, rfl, Nat.le_refl _, rfl, hext, fun b _ => .inl ⟨rfl, fun _ => Iff.rfl⟩⟩
 have hg := hI.good
 have hinv : InvV G E σ a R' L := by
  refine ⟨hg.move hnear.nigh ⟨hg.fit.glob.ext hext, ⟨hg.fit.boxes.len, hg.fit.boxes.nodup, fun i b cs hi hc => ?_⟩, ⟨fun id e k v ht => ?_, hg.fit.owns.apart⟩, hg.fit.base⟩ ⟨[], by rw [List.append_nil], fun b hb => by cases hb⟩ (fun id e k v b ht hv => .inl ⟨id, e, k, v, ht, hv⟩) hg.free, hI.size, hI.df.near hnear, fun t => Rep.ext hext (LocLe.refl _) _ _ (hI.tm t)⟩
  ·obtain ⟨vs, ty, e1, e2, e3, e4⟩ := hg.fit.boxes.box i b cs hi hc
   exact ⟨vs, ty, e1, RepL.ext hext (LocLe.refl _) _ _ e2, e3, e4⟩
  ·exact (hg.fit.owns.own id e k v ht).move fun g _ q2 _ q7 => ⟨q2, rfl, q7, fun _ h => h⟩
 have hlist : ∀ i, (Array.replicate ops.size false).getD i false = false := fun i => by
  rw [Array.getD_eq_getD_getElem?, Array.getElem?_replicate]; split <;> rfl
 obtain ⟨D, p, ct, d1, d2, d3, d4, d5, d6⟩ := lchain_seg _ 0 none σ rfl (Nat.zero_le _) h
 have hct : ∀ o t q x, ops.toList[st]? = some o → o.op = .store t q x → ct = (evOf G (D.T st) x).cells := by
  rcases d6 with g | ⟨_, _, g⟩
  ·cases g
  ·exact g
 refine late_seg (lg := σ.lg) (D := D) hN hok hlo d3 d4 hct (fun a1 R1 L1 h1 => hQ a1 R1.w _ d5 ⟨R1, L1, rfl, h1⟩) ops.size _ a R' L (by simp) ?_ (fun i o hi h => ?_) (fun i _ => hlist i) ?_ (fun h => by rw [hlist] at h; cases h)
 ·rw [Array.toList_replicate, List.count_replicate_self]; exact Nat.le_refl _
 ·have h : (Array.replicate ops.size false).getD i false = true := h
  rw [hlist] at h; cases h
 ·have hx := X_mono (Nat.le_refl _) d3.skel 0 ops.toList.length (Nat.le_refl _) (Nat.zero_le _) (Nat.le_refl _)
  refine ⟨{ hinv.good with free := fun id hid => hinv.good.free id (by rw [d2] at hx; exact Nat.le_trans hx hid) }, fun id hid _ => hinv.good.free id (by rw [d2] at hid; exact hid), hinv.size, hinv.df, fun t => ?_⟩
  rw [val_congr (D' := fun _ => false) _ fun j _ _ => by simp [hlist j], val_skip 0 _ (Nat.zero_le _) fun _ _ _ _ => rfl]
  show Rep R' L (getC (D.T 0) t) _
  rw [d1]; exact hinv.tm t
end
end Go.Proofs.YtbphobmohdclaaaGreatDoor.Vcg
end
