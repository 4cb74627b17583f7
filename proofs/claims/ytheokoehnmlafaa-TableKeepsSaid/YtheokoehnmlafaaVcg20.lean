/- Loops over iterators on abstract states: what the loop's body and the iterator promise one another. No condition. -/
import Derived.Test.YtheokoehnmlafaaVcg16
import Derived.RangeFuncNested
import Derived.RangeFuncLeaves
set_option linter.unusedVariables false
set_option linter.unusedSimpArgs false
namespace Go.Proofs.Ytheokoehnmlafaa.Vcg
open Go.RowKit
mutual
/-- a value as seen by whoever has some of the boxes, and no owner -/
def C.sel (fp : Nat → Option Nat) : C → C
  | .own _ _ k rows => .sl k rows
  | .ptr i off => match fp i with
    | some j => .ptr j off
    | none => .any
  | .bs i off k n c => match fp i with
    | some j => .bs j off k n c
    | none => .any
  | .agg cs => .agg (C.selL fp cs)
  | .tup cs => .tup (C.selL fp cs)
  | .clo fn first cap => .clo fn (C.selL fp first) (C.selL fp cap)
  | .sc v => .sc v
  | .str l => .str l
  | .sl k rows => .sl k rows
  | .tight k rows => .tight k rows
  | .row cs => .row cs
  | .any => .any
def C.selL (fp : Nat → Option Nat) : List C → List C
  | [] => []
  | c :: r => c.sel fp :: C.selL fp r
end
section
variable {fp : Nat → Option Nat} {R R' : Env} {L L' : Loc}
mutual
theorem Rep.sel (he : Ext R R') (hb : ∀ i j b, fp i = some j → L.β[i]? = some b → L'.β[j]? = some b) : ∀ (c : C) (v : Value), Rep R L c v → Rep R' L' (c.sel fp) v
  | .sc _, _, h => by unfold C.sel; unfold Rep at h ⊢; exact h
  | .str _, _, h => by unfold C.sel; unfold Rep at h ⊢; exact h
  | .agg cs, _, h => by
    unfold C.sel; unfold Rep at h ⊢
    obtain ⟨vs, e, hl⟩ := h
    exact ⟨vs, e, RepL.sel he hb cs _ hl⟩
  | .tup cs, _, h => by
    unfold C.sel; unfold Rep at h ⊢
    obtain ⟨vs, e, hl⟩ := h
    exact ⟨vs, e, RepL.sel he hb cs _ hl⟩
  | .sl k rows, v, h => by
    unfold C.sel
    have := Rep.ext he (LocLe.none L') (.sl k rows) v (T := noLoc) (by unfold Rep at h ⊢; exact h)
    exact this
  | .tight k rows, v, h => by
    unfold C.sel
    exact Rep.ext he (LocLe.none L') (.tight k rows) v (T := noLoc) (by unfold Rep at h ⊢; exact h)
  | .own id e k rows, v, h => by
    unfold C.sel
    exact Rep.ext he (LocLe.none L') (.sl k rows) v (T := noLoc) (by unfold Rep at h ⊢; exact h.2)
  | .ptr i off, _, h => by
    unfold C.sel; unfold Rep at h
    split
    · rename_i j hj
      obtain ⟨b, e, h⟩ := h
      unfold Rep
      exact ⟨b, hb _ _ _ hj e, h⟩
    · unfold Rep; trivial
  | .bs i off k n c, _, h => by
    unfold C.sel; unfold Rep at h
    split
    · rename_i j hj
      obtain ⟨b, e, h⟩ := h
      unfold Rep
      exact ⟨b, hb _ _ _ hj e, h⟩
    · unfold Rep; trivial
  | .row cs, v, h => by
    unfold C.sel
    exact Rep.ext he (LocLe.none L') (.row cs) v (T := noLoc) (by unfold Rep at h ⊢; exact h)
  | .clo fn first cap, _, h => by
    unfold C.sel; unfold Rep at h ⊢
    obtain ⟨fs, cs, e, h1, h2⟩ := h
    exact ⟨fs, cs, e, RepL.sel he hb first _ h1, RepL.sel he hb cap _ h2⟩
  | .any, _, _ => by unfold C.sel; unfold Rep; trivial
theorem RepL.sel (he : Ext R R') (hb : ∀ i j b, fp i = some j → L.β[i]? = some b → L'.β[j]? = some b) : ∀ (cs : List C) (vs : List Value), RepL R L cs vs → RepL R' L' (C.selL fp cs) vs
  | [], _, h => by unfold C.selL; rw [repL_nil] at h ⊢; exact h
  | c :: r, _, h => by
    unfold C.selL; rw [repL_cons] at h ⊢
    obtain ⟨v, us, e, h1, h2⟩ := h
    exact ⟨v, us, e, Rep.sel he hb c v h1, RepL.sel he hb r us h2⟩
end
end
mutual
/-- what is left of it where the boxes are turned no more -/
def C.fz (bx : List (List C)) : C → C
  | .ptr i off => match bx[i]? with
    | some cs => .row ((C.frzL cs).drop off)
    | none => .any
  | .agg cs => .agg (C.fzL bx cs)
  | .tup cs => .tup (C.fzL bx cs)
  | .clo fn first cap => .clo fn (C.fzL bx first) (C.fzL bx cap)
  | .bs _ _ _ _ _ => .any
  | .own id e k rows => .own id e k rows
  | .sc v => .sc v
  | .str l => .str l
  | .sl k rows => .sl k rows
  | .tight k rows => .tight k rows
  | .row cs => .row cs
  | .any => .any
def C.fzL (bx : List (List C)) : List C → List C
  | [] => []
  | c :: r => c.fz bx :: C.fzL bx r
end
/-- the first m boxes alone -/
def fpKeep (m i : Nat) : Option Nat := if i < m then some i else none
/-- the boxes behind the first m -/
def fpDrop (m i : Nat) : Option Nat := if i < m then none else some (i - m)
def tlTm (m : Nat) : List (Nat × C) → List (Nat × C)
  | [] => []
  | (t, c) :: r => (t, c.sel (fpKeep m)) :: tlTm m r
theorem getC_tl (m : Nat) : ∀ (tm : List (Nat × C)) (t : Nat), getC (tlTm m tm) t = (getC tm t).sel (fpKeep m)
  | [], t => by simp only [tlTm, getC]; unfold C.sel; rfl
  | (u, c) :: r, t => by
    simp only [tlTm, getC]
    split
    · rfl
    · exact getC_tl m r t
def St.wt (σ : St) (tm : List (Nat × C)) : St := ⟨tm, σ.bx, σ.nx, σ.lg⟩
theorem Good.wt {G : Globs} {E : Ctx} {σ : St} {R : Env} {L : Loc} (h : Good G E σ R L) (tm : List (Nat × C)) : Good G E (σ.wt tm) R L := { h with }
section
variable {P : Program} {G : Globs} {E : Ctx} {σ σ' : St} {a : Act} {R R' : Env} {L L' : Loc}
/-- a move of another's, which leaves the walk's own alone -/
theorem Good.stay (h : Good G E σ R L) (hn : Nigh E.w0 E.ex R R') (ht : ∀ b, Turf L b → R'.w.heap[b]? = R.w.heap[b]? ∧ ∀ o, (R'.M b o ↔ R.M b o)) : Good G E σ R' L := by
  refine h.move (tm' := σ.tm) (bx' := σ.bx) (nx' := σ.nx) hn ⟨h.fit.glob.ext hn.ext, ⟨h.fit.boxes.len, h.fit.boxes.nodup, fun i b cs hi hc => ?_⟩, ⟨fun id e k v hid => ?_, h.fit.owns.apart⟩, fun g hg => h.fit.base g (Nat.le_trans hn.size hg)⟩ ⟨[], by rw [List.append_nil], fun b hb => by cases hb⟩ (fun id e k v b ht hv => .inl ⟨id, e, k, v, ht, hv⟩) h.free
  · obtain ⟨vs, ty, e1, e2, e3, e4⟩ := h.fit.boxes.box i b cs hi hc
    obtain ⟨g1, g2⟩ := ht b (.inl (List.mem_of_getElem? hi))
    exact ⟨vs, ty, g1.trans e1, RepL.ext hn.ext (LocLe.refl _) _ _ e2, e3, fun o => (g2 o).2 (e4 o)⟩
  · rcases h.fit.owns.own id e k v hid with g | ⟨g, n', cap, cur, _, q1, q2, q3, q4, q5, q6, q7, q8⟩
    · exact .inl g
    · obtain ⟨g1, g2⟩ := ht g (.inr ⟨id, e, k, v, hid, by rw [q1]; rfl⟩)
      exact .inr ⟨g, n', cap, cur, _, q1, q2, g1.trans q3, q4, q5, q6, q7, fun o ho => (g2 o).2 (q8 o ho)⟩
theorem DfOk.stay {ds : List Deferred} (h : DfOk E ds R) (hf : ∀ b, R'.F b ↔ R.F b) (hd : ∀ d, markOf d ∈ ds → R.w.heap[d]? = some (.deferred (some [])) → R'.w.heap[d]? = R.w.heap[d]?) : DfOk E ds R' := by
  obtain ⟨l, e, hl, h⟩ := h
  refine ⟨l, e, hl, fun d hdl => ?_⟩
  obtain ⟨h1, h2, h3⟩ := h d hdl
  exact ⟨(hd d (by rw [e]; exact List.mem_append_left _ (List.mem_map.2 ⟨d, hdl, rfl⟩)) h1).trans h1, h2, fun h' => h3 ((hf d).1 h')⟩
/-- one object that is no cells is another -/
theorem nigh_putObj {l : Nat} {o : Obj} (hl : E.tu l) (hF : ¬ R.F l) (hc : ∀ cs t f, R.w.heap[l]? ≠ some (.cells cs t f)) : Nigh E.w0 E.ex R ⟨R.w.putObj l o, R.M, R.F⟩ :=
  ⟨rfl, rfl, rfl, by simp, rfl, ⟨fun b off v hcell hm => ⟨by
    by_cases hb : b = l
    · subst hb
      exfalso
      unfold World.cell? at hcell
      cases hh : R.w.heap[b]? with
      | none => simp [hh] at hcell
      | some x =>
        cases x with
        | cells cs t f => exact hc cs t f hh
        | _ => simp [hh] at hcell
    · rw [World.cell?_of_block (w' := R.w.putObj l o) (w := R.w) (World.putObj_heap_other hb)]; exact hcell, hm⟩⟩, fun b hb => by
    by_cases hbl : b = l
    · subst hbl; exact .inr ⟨hl, hF⟩
    · exact .inl ⟨World.putObj_heap_other hbl, fun _ => Iff.rfl⟩⟩
/-- a walk that begins in the middle of another, with all that is that one's -/
def Ctx.at (E : Ctx) (R : Env) (L : Loc) (β0 : List Nat) (df : List Deferred) (hs : E.w0.heap.size ≤ R.w.heap.size) (ht : ∀ b, Turf L b → E.tu b) : Ctx :=
  { w0 := R.w, M0 := R.M, β0 := β0, ex := Turf L, N := E.N, df := df, F0 := R.F, bo := fun b => b ∈ L.β, bex := fun b hb => .inl hb, J := E.J,
    stab := fun k A B hJ hn => E.stab k A B hJ ⟨hn.os, hn.tape, hn.output, hn.size, hn.fgn, hn.ext, fun b hb => (hn.blk b hb).imp id fun ⟨g1, g2⟩ => ⟨by
      rcases g1 with g1 | g1
      · exact .inl (Nat.le_trans hs g1)
      · exact ht b g1, g2⟩⟩ }
theorem Good.fresh (h : Good G E σ R L) {β0 more : List Nat} (hβ : L.β = β0 ++ more) (hsz : a.tmps.size = E.N) (htm : ∀ t, Rep R L (getC σ.tm t) (a.tmps.getD t undef)) : InvV G (E.at R L β0 a.defers h.size fun b hb => (h.turf hb).1) σ a R L := by
  refine ⟨⟨⟨h.fit.glob, h.fit.boxes, ⟨fun id e k v ht => ?_, h.fit.owns.apart⟩, fun g hg => .inl hg⟩, rfl, rfl, rfl, Nat.le_refl _, fun b _ _ _ => ⟨rfl, fun _ => Iff.rfl⟩, ⟨fun b o v h1 h2 => ⟨h1, h2⟩⟩, ⟨more, hβ⟩, fun b hb => .inr hb, h.flt, fun b _ => Iff.rfl, h.fbx, h.fow, h.free, h.log⟩, hsz, ⟨[], rfl, List.nodup_nil, fun d hd => by cases hd⟩, htm⟩
  rcases h.fit.owns.own id e k v ht with g | ⟨g, n', cap, cur, _, q1, q2, q3⟩
  · exact .inl g
  · exact .inr ⟨g, n', cap, cur, _, q1, .inr (.inr ⟨id, e, k, v, ht, by rw [q1]; rfl⟩), q3⟩
section
variable {β0 : List Nat} {df : List Deferred} {hs : E.w0.heap.size ≤ R.w.heap.size} {ht : ∀ b, Turf L b → E.tu b}
theorem Ctx.at_tu {b : Nat} (h : (E.at R L β0 df hs ht).tu b) : E.tu b := by
  rcases h with h | h
  · exact .inl (Nat.le_trans hs h)
  · exact ht b h
/-- what lay there, and is none of the walk's, lies as it lay -/
theorem Good.at_blk (h' : Good G (E.at R L β0 df hs ht) σ' R' L') {b : Nat} (hb : b < R.w.heap.size) (hT : ¬ Turf L b) (hF : ¬ R.F b) : R'.w.heap[b]? = R.w.heap[b]? ∧ ∀ o, (R'.M b o ↔ R.M b o) :=
  h'.blk b hb hT fun hx => hF ((h'.fz b hb).1 hx)
theorem Good.back (h : Good G E σ R L) (hβ : ∃ more, β0 = E.β0 ++ more) (h' : Good G (E.at R L β0 df hs ht) σ' R' L') : Good G E σ' R' L' := by
  obtain ⟨more, hm⟩ := hβ
  obtain ⟨more', hm'⟩ := h'.box
  have hm' : L'.β = β0 ++ more' := hm'
  refine ⟨⟨h'.fit.glob, h'.fit.boxes, ⟨fun id e k v ht => (h'.fit.owns.own id e k v ht).base fun g hg => Ctx.at_tu hg, h'.fit.owns.apart⟩, fun g hg => Ctx.at_tu (h'.fit.base g hg)⟩, h'.os.trans h.os, h'.tape.trans h.tape, h'.output.trans h.output, Nat.le_trans h.size h'.size, fun b hb hx hF => ?_, h.ext.trans ⟨h'.ext.cell⟩, ⟨more ++ more', by rw [hm', hm, List.append_assoc]⟩, fun b hb => (h'.tub b hb).elim (fun g => .inl (Nat.le_trans hs g)) (h.tub b), h'.flt, fun b hb => (h'.fz b (Nat.lt_of_lt_of_le hb h.size)).trans (h.fz b hb), h'.fbx, h'.fow, h'.free, h'.log⟩
  have hlt := Nat.lt_of_lt_of_le hb h.size
  have hF' : ¬ R.F b := fun hq => hF ((h'.fz b hlt).2 hq)
  have hT : ¬ Turf L b := fun hq => by
    rcases ht b hq with g | g
    · omega
    · exact hx g
  obtain ⟨g1, g2⟩ := h'.at_blk hlt hT hF'
  obtain ⟨k1, k2⟩ := h.blk b hb hx hF'
  exact ⟨g1.trans k1, fun o => (g2 o).trans (k2 o)⟩
theorem Good.at_turf (h' : Good G (E.at R L β0 df hs ht) σ' R' L') {b : Nat} (hb : b < R.w.heap.size) (hT : Turf L' b) : Turf L b := by
  rcases (h'.turf hT).1 with g | g
  · have g : R.w.heap.size ≤ b := g
    omega
  · exact g
end
/-- which round was the last -/
def EndAt (items : List (List C)) (st : Nat → Bool) (k : Nat) : Prop := (k = items.length ∧ ∀ j, j < k → st j = false) ∨ (0 < k ∧ st (k - 1) = true)
/-- an iterator's contract: what it hands out, whenever it is asked to -/
def Iter (P : Program) (G : Globs) (f : FuncId) (first cap : List C) (bx : List (List C)) (items : List (List C)) : Prop :=
  entersB P f = true ∧ ∀ (l : Nat) (st : Nat → Bool) (J : Nat → Env → Prop) (R : Env) (L : Loc) (us vs : List Value), GlobOk G R → BoxesOk R L bx → (∀ id, L.T id = none) → (∀ b, R.F b → b < R.w.heap.size) → (∀ b ∈ L.β, ¬ R.F b) →
    (∀ k A B, J k A → Nigh R.w (fun b => b ∈ L.β) A B → J k B) → YOk P ⟨l, items, st⟩ J → J 0 R → RepL R L first us → RepL R L cap vs →
    Calls P f (us ++ [Value.func (.yield l) #[] #[]] ++ vs).toArray R.w fun e w' => ∃ v R' k, e = .returned v ∧ R'.w = w' ∧ J k R' ∧ EndAt items st k
def putPs : List Tmp → List C → List (Nat × C) → List (Nat × C)
  | p :: ps, c :: cs, tm => putPs ps cs ((p, c) :: tm)
  | _, _, tm => tm
theorem putPs_get {R : Env} {L : Loc} : ∀ (ps : List Tmp) (it : List C) (vs : List Value) (tm : List (Nat × C)) (tmps : Array Value), RepL R L it vs → (∀ p ∈ ps, p < tmps.size) → (∀ t, Rep R L (getC tm t) (tmps.getD t undef)) →
    ∀ t, Rep R L (getC (putPs ps it tm) t) (((ps.zip vs).foldl (fun t (p : Nat × Value) => t.setIfInBounds p.1 p.2) tmps).getD t undef)
  | [], it, vs, tm, tmps, h1, h2, h3, t => by
    simp only [putPs, List.zip_nil_left, List.foldl_nil]; exact h3 t
  | p :: ps, [], vs, tm, tmps, h1, h2, h3, t => by
    rw [repL_nil.1 h1]
    simp only [putPs, List.zip_nil_right, List.foldl_nil]; exact h3 t
  | p :: ps, c :: cs, vs, tm, tmps, h1, h2, h3, t => by
    obtain ⟨v, us, rfl, g1, g2⟩ := repL_cons.1 h1
    simp only [putPs, List.zip_cons_cons, List.foldl_cons]
    refine putPs_get ps cs us _ _ g2 (fun q hq => by simpa using h2 q (List.mem_cons_of_mem _ hq)) (fun u => ?_) t
    have hlt := h2 p List.mem_cons_self
    simp only [getC]
    split
    · subst_vars
      simpa [Array.getD_eq_getD_getElem?, hlt] using g1
    · rename_i hne
      have hne' : p ≠ u := fun e => hne e.symm
      have := h3 u
      simpa [Array.getD_eq_getD_getElem?, Array.getElem?_setIfInBounds_ne hne'] using this
theorem foldl_size : ∀ (l : List (Nat × Value)) (tmps : Array Value), (l.foldl (fun t (p : Nat × Value) => t.setIfInBounds p.1 p.2) tmps).size = tmps.size
  | [], _ => rfl
  | x :: r, tmps => by rw [List.foldl_cons, foldl_size r]; simp
/-- how a round may be left -/
def roundK (m : Nat) (tm : List (Nat × C)) (st : Bool) (next : St) (Q : Exit → St → Prop) : Exit → St → Prop
  | .normal, σ => st = false ∧ Weak m ⟨[], σ.bx, σ.nx, σ.lg⟩ (next.wt [])
  | .ret, σ => st = true ∧ ∃ σ' : St, σ'.bx.length = m ∧ Weak m ⟨[], σ.bx, σ.nx, σ.lg⟩ (σ'.wt []) ∧ Q .ret (σ'.wt tm)
  | .exit id, σ => st = true ∧ ∃ σ' : St, σ'.bx.length = m ∧ Weak m ⟨[], σ.bx, σ.nx, σ.lg⟩ (σ'.wt []) ∧ Q (.exit id) (σ'.wt tm)
  | .goto t, σ => st = true ∧ ∃ σ' : St, σ'.bx.length = m ∧ Weak m ⟨[], σ.bx, σ.nx, σ.lg⟩ (σ'.wt []) ∧ Q (.goto t) (σ'.wt tm)
  | _, _ => False
def onlyK (K : St → Prop) : Exit → St → Prop
  | .normal, σ => K σ
  | _, _ => False
def ARange (P : Program) (G : Globs) (p : Nat) (A B : Nat → (Exit → St → Prop) → St → Prop) (Q : Exit → St → Prop) (ps : List Tmp) (c : C) (σ : St) : Prop :=
  match c with
  | .clo (.func f) first cap => ∃ (items : List (List C)) (st : Nat → Bool) (m : Nat) (I : Nat → St),
      p ≤ m ∧ m ≤ σ.bx.length ∧ Iter P G f (C.selL (fpDrop m) first) (C.selL (fpDrop m) cap) ((σ.bx.drop m).map (C.selL (fpDrop m))) items ∧ (∀ it ∈ items, it.length = ps.length) ∧ (∀ k, k ≤ items.length → (I k).bx.length = m) ∧
      Weak m ⟨[], σ.bx, σ.nx, σ.lg⟩ ((I 0).wt []) ∧
      (∀ k it, items[k]? = some it → (∀ j, j < k → st j = false) → A m (onlyK (B m (roundK m (tlTm m σ.tm) (st k) (I (k + 1)) Q))) ((I k).wt (putPs ps it (tlTm m σ.tm)))) ∧
      ((∀ j, j < items.length → st j = false) → Q .normal ((I items.length).wt (tlTm m σ.tm)))
  | _ => False
end
end Go.Proofs.Ytheokoehnmlafaa.Vcg
