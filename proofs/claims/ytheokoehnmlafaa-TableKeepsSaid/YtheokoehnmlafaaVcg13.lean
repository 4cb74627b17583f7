/- Code on abstract states: what is to be shown, and that it is enough. No condition. -/
import Derived.Test.YtheokoehnmlafaaVcg25
import Derived.RangeFuncSeq
set_option linter.unusedVariables false
set_option linter.unusedSimpArgs false
namespace Go.Proofs.Ytheokoehnmlafaa.Vcg
open Go.RowKit
section
variable {P : Program} {G : Globs} {E : Ctx} {σ : St} {o : Oper} {a : Act} {N p : Nat}
def aAppend (P : Program) (t : TypeId) (s x : C) (σ : St) (K : C → St → Prop) : Prop :=
  match s with
  | .own id e k rows => aAppOwn P t (.own id e k rows) x σ K
  | s => aAppNew P t s x σ.nx fun c nx' => K c ⟨σ.tm, σ.bx, nx', σ.lg⟩
/-- the iterator's side of a loop: the loop's number, what is to come, and after which the loop says 'no more' -/
structure Yd where
  l : Nat
  items : List (List C)
  st : Nat → Bool
/-- what a walk meets when the loop's round has run -/
structure Far (R R' : Env) : Prop where
  os : R'.w.os = R.w.os
  tape : R'.w.tape = R.w.tape
  output : R'.w.output = R.w.output
  size : R.w.heap.size ≤ R'.w.heap.size
  ext : Ext R R'
  fgn : ∀ b, b < R.w.heap.size → (R'.F b ↔ R.F b)
  flt : ∀ b, R'.F b → b < R'.w.heap.size
  blk : ∀ b, b < R.w.heap.size → ¬ R.F b → R'.w.heap[b]? = R.w.heap[b]? ∧ ∀ o, (R'.M b o ↔ R.M b o)
/-- the loop's rounds keep their word -/
def YOk (P : Program) (y : Yd) (J : Nat → Env → Prop) : Prop := ∀ (k : Nat) (R : Env) (it : List C) (vs : List Value), J k R → (∀ b, R.F b → b < R.w.heap.size) → (∀ j, j < k → y.st j = false) → y.items[k]? = some it → RepL R noLoc it vs →
  YieldAt Fence.wide 0 P y.l vs.toArray R.w fun e w' => e = .returned (.bool (!y.st k)) ∧ ∃ R', R'.w = w' ∧ Far R R' ∧ J (k + 1) R'
/-- how many boxes stay; whom the walk hands its items to; in which regions which operations are turned (and, from a million on, which types of slices are made as boxes) -/
structure Hd where
  p : Nat
  y : Option Yd
  b : Nat → List Bool
structure HdOk (P : Program) (h : Hd) (E : Ctx) : Prop where
  yd : ∀ y, h.y = some y → YOk P y E.J
  box : E.β0.length ≤ h.p
def aYield1 (y : Yd) (it : Option (List C)) (args : List C) (σ : St) (K : C → St → Prop) : Prop :=
  match it with
  | some it => CLeL [] 0 args it ∧ (∀ j, j < σ.lg → y.st j = false) ∧ K (.sc (.bool (!y.st σ.lg))) ⟨σ.tm, σ.bx, σ.nx, σ.lg + 1⟩
  | none => False
def aYield (Y : Option Yd) (l : Nat) (args : List C) (σ : St) (K : C → St → Prop) : Prop :=
  match Y with
  | some y => l = y.l ∧ aYield1 y y.items[σ.lg]? args σ K
  | none => False
def aCallV (P : Program) (G : Globs) (Y : Hd) (callee : C) (args : List C) (σ : St) (K : C → St → Prop) : Prop :=
  match callee with
  | .sc (.func (.yield l) fs cs) => fs = #[] ∧ cs = #[] ∧ aYield Y.y l args σ K
  | .clo (.func f) first cap => aCallF P G (.clo (.func f) first cap) args σ.nx (fun c nx' => K c ⟨σ.tm, σ.bx, nx', σ.lg⟩) ∨ aCallB0 P G f (first ++ args ++ cap) σ K ∨ aCallR P G f (first ++ args ++ cap) σ K ∨ aCallX0 P G f (first ++ args ++ cap) σ K ∨ aCallO P f (first ++ args ++ cap) σ K
  | _ => False
/-- is this type's slice made as a box? -/
def Hd.bx (Y : Hd) (t : TypeId) : Bool := (Y.b (1000000 + t)).headD false
/-- and is the room of such a slice known, when it is appended to? -/
def Hd.bx2 (Y : Hd) (t : TypeId) : Bool := ((Y.b (1000000 + t)).drop 1).headD false
/-- the room of a slice -/
def aCap (P : Program) (t : TypeId) (c : C) (K : C → Prop) : Prop :=
  match lay P t, c with
  | some ⟨.slice _, _, _, _⟩, .bs _ _ _ _ c => K (.sc (.int .i64 (c : Int)))
  | some ⟨.slice _, _, _, _⟩, .sc (.slice none 0 0) => K (.sc (.int .i64 0))
  | _, _ => False
def aEffB (P : Program) (G : Globs) (Y : Hd) (b : Builtin) (args : List Operand) (tys : List TypeId) (σ : St) (K : C → St → Prop) : Prop :=
  match b, args, tys with
  | .len, [x], [t] => aLen P t (evOf G σ.tm x) fun c => K c σ
  | .append, [s, x], [t, t'] => if t' = t then (if Y.bx t then (if Y.bx2 t then aAppB2 P t (evOf G σ.tm s) (evOf G σ.tm x) σ K else aAppBox P Y.p t (evOf G σ.tm s) (evOf G σ.tm x) σ K) else aAppend P t (evOf G σ.tm s) (evOf G σ.tm x) σ K) else aAppZ P t t' (evOf G σ.tm s) (evOf G σ.tm x) σ K
  | .copy, [d, x], [t, t'] => aCopy P t (evOf G σ.tm d) (evOf G σ.tm x) σ K
  | .clear, [x], [t] => aClear P t (evOf G σ.tm x) σ K
  | .cap, [x], [t] => aCap P t (evOf G σ.tm x) fun c => K c σ
  | _, _, _ => False
def aEff (P : Program) (G : Globs) (Y : Hd) (op : Op) (σ : St) (K : C → St → Prop) : Prop :=
  match op with
  | .alloc t => aAlloc P t σ K
  | .box _ x => aBox (evOf G σ.tm x) σ K
  | .store t p x => aStore P t (evOf G σ.tm p) (evOf G σ.tm x) σ K
  | .call c => match c.callee with
    | .value f => aCallV P G Y (evOf G σ.tm f) (c.args.toList.map (evOf G σ.tm)) σ K
    | .builtin b => aEffB P G Y b c.args.toList c.argTypes.toList σ K
    | _ => False
  | .buildSlice t n parts => if Y.bx t then aBuildBox P t n (parts.toList.map fun p => (p.1, evOf G σ.tm p.2)) σ K else aBuildSlice P t n (parts.toList.map fun p => (p.1, evOf G σ.tm p.2)) σ.nx fun c nx' => K c ⟨σ.tm, σ.bx, nx', σ.lg⟩
  | .makeSlice t l c => if Y.bx t then aMakeBox P t (evOf G σ.tm l) (evOf G σ.tm c) σ K else aMake P t (evOf G σ.tm l) (evOf G σ.tm c) σ.nx fun c nx' => K c ⟨σ.tm, σ.bx, nx', σ.lg⟩
  | op => aPure P G σ.bx (evOf G σ.tm) op σ.nx fun c nx' => K c ⟨σ.tm, σ.bx, nx', σ.lg⟩
theorem Good.far {R R' : Env} {L : Loc} (h : Good G E σ R L) (hf : Far R R') {lg : Nat} (hJ : E.J lg R') : Good G E ⟨σ.tm, σ.bx, σ.nx, lg⟩ R' L := by
  refine ⟨⟨h.fit.glob.ext hf.ext, ⟨h.fit.boxes.len, h.fit.boxes.nodup, fun i b cs hi hc => ?_⟩, ⟨fun id e k v ht => ?_, h.fit.owns.apart⟩, fun g hg => h.fit.base g (Nat.le_trans hf.size hg)⟩, hf.os.trans h.os, hf.tape.trans h.tape, hf.output.trans h.output, Nat.le_trans h.size hf.size, fun b hb hx hF => ?_, h.ext.trans hf.ext, h.box, h.tub, hf.flt, fun b hb => (hf.fgn b (Nat.lt_of_lt_of_le hb h.size)).trans (h.fz b hb), fun b hb hF => ?_, fun id e k v b ht hv hF => ?_, h.free, hJ⟩
  · obtain ⟨vs, ty, e1, e2, e3, e4⟩ := h.fit.boxes.box i b cs hi hc
    obtain ⟨g1, g2⟩ := hf.blk b (heap_lt e1) (h.fbx b (List.mem_of_getElem? hi))
    exact ⟨vs, ty, g1.trans e1, RepL.ext hf.ext (LocLe.refl _) _ _ e2, e3, fun o => (g2 o).2 (e4 o)⟩
  · rcases h.fit.owns.own id e k v ht with g | ⟨g, n', cap, cur, _, q1, q2, q3, q4, q5, q6, q7, q8⟩
    · exact .inl g
    · obtain ⟨g1, g2⟩ := hf.blk g (heap_lt q3) (h.fow id e k v g ht (by rw [q1]; rfl))
      exact .inr ⟨g, n', cap, cur, _, q1, q2, g1.trans q3, q4, q5, q6, q7, fun o ho => (g2 o).2 (q8 o ho)⟩
  · have hlt := Nat.lt_of_lt_of_le hb h.size
    have hF' : ¬ R.F b := fun h' => hF ((hf.fgn b hlt).2 h')
    obtain ⟨g1, g2⟩ := hf.blk b hlt hF'
    obtain ⟨k1, k2⟩ := h.blk b hb hx hF'
    exact ⟨g1.trans k1, fun o => (g2 o).trans (k2 o)⟩
  · exact h.fbx b hb ((hf.fgn b (h.fit.β_lt b hb)).1 hF)
  · exact h.fow id e k v b ht hv ((hf.fgn b ((h.fit.owns.own id e k v ht).block hv).2.1).1 hF)
theorem DfOk.far {ds : List Deferred} {R R' : Env} (h : DfOk E ds R) (hf : Far R R') : DfOk E ds R' := by
  obtain ⟨l, e, hl, h⟩ := h
  refine ⟨l, e, hl, fun d hd => ?_⟩
  obtain ⟨h1, h2, h3⟩ := h d hd
  exact ⟨(hf.blk d (heap_lt h1) h3).1.trans h1, h2, fun h' => h3 ((hf.fgn d (heap_lt h1)).1 h')⟩
theorem InvV.far {R R' : Env} {L : Loc} (h : InvV G E σ a R L) (hf : Far R R') {lg : Nat} (hJ : E.J lg R') : InvV G E ⟨σ.tm, σ.bx, σ.nx, lg⟩ a R' L :=
  ⟨h.good.far hf hJ, h.size, h.df.far hf, fun t => Rep.ext hf.ext (LocLe.refl _) _ _ (h.tm t)⟩
theorem yield_after {Y : Option Yd} (hY : ∀ y, Y = some y → YOk P y E.J) {c : Call} {f : Operand} (ho : o.op = .call c) (hc : c.callee = .value f) {l : Nat} (hev : evOf G σ.tm f = .sc (.func (.yield l) #[] #[])) {K : C → St → Prop} {R : Env} {L : Loc} (h : InvV G E σ a R L)
    (hK : aYield Y l (c.args.toList.map (evOf G σ.tm)) σ K) : Runs P o a.eval R.w (After G E a K) := by
  unfold aYield at hK
  split at hK <;> try exact hK.elim
  rename_i y
  obtain ⟨rfl, hK⟩ := hK
  unfold aYield1 at hK
  split at hK <;> try exact hK.elim
  rename_i it hit
  obtain ⟨hle, hst, hK⟩ := hK
  have hf := h.ev f; rw [hev, rep_sc] at hf
  have hargs := RepL.less _ _ _ hle (repL_map h.ev c.args.toList)
  have hargs0 : RepL R noLoc it (c.args.toList.map a.eval) := by
    refine RepL.ext (Ext.refl R) (T := lessLoc [] 0 L) ⟨fun i b hb => ?_, fun id x hx => ?_⟩ _ _ hargs
    · simp at hb
    · have hx : srcT [] L.T id = some x := hx
      simp [srcT] at hx
  obtain ⟨fn, tmps, assign, body, hrun, hround⟩ := hY y rfl σ.lg R it _ h.good.log h.good.flt hst hit hargs0
  have hexec : (execOp a.eval o).run P R.w = .ok (.round y.l fn tmps assign body) R.w := by
    unfold execOp
    simp only [ho, resolve, hc, hf]
    have e2 : (Deferred.ofValue (.func (.yield y.l) #[] #[]) (c.args.map a.eval)).run P R.w = .ok { target := .fn (.yield y.l) #[], args := c.args.map a.eval } R.w := by
      simp [Deferred.ofValue]
    rw [Sem.run_bind, e2]
    simp only [Result.andThen_ok, invoke]
    have e3 : (c.args.toList.map a.eval).toArray = c.args.map a.eval := by apply Array.ext'; simp
    rw [e3] at hrun
    simpa using hrun
  unfold Runs
  rw [hexec]
  refine hround.mono ?_
  rintro e w' ⟨rfl, R', rfl, hfar, hJ⟩
  exact ⟨_, rfl, _, _, R', L, rfl, h.far hfar hJ, rep_sc.2 rfl, hK⟩
theorem cap_after {t : TypeId} {x : Operand} (ho : o.op = .call { callee := .builtin .cap, args := #[x], argTypes := #[t] }) {K : C → St → Prop} {R : Env} {L : Loc} (h : InvV G E σ a R L) (hK : aCap P t (evOf G σ.tm x) fun c => K c σ) : Runs P o a.eval R.w (After G E a K) := by
  unfold aCap at hK
  split at hK <;> try exact hK.elim
  · rename_i e s1 b1 z1 i off k n c hl hev
    have hs := h.ev x; rw [hev, rep_bs] at hs
    obtain ⟨b, hb, ad, es, _⟩ := hs
    refine Runs.value (w' := R.w) (v := goInt (c : Int)) ?_ ⟨_, _, R, L, rfl, h, rep_sc.2 rfl, hK⟩
    unfold execOp
    simp only [ho, resolve, invoke, builtin, Sem.run_bind, Sem.run_pure, Result.andThen_ok, List.map_toArray, List.map_cons, List.map_nil, es]
    simp [Builtin.cap_, run_underlying (lay_slice hl rfl)]
  · rename_i e s1 b1 z1 hl hev
    have hs := h.ev x; rw [hev, rep_sc] at hs
    refine Runs.value (w' := R.w) (v := goInt ((0 : Nat) : Int)) ?_ ⟨_, _, R, L, rfl, h, rep_sc.2 rfl, hK⟩
    unfold execOp
    simp only [ho, resolve, invoke, builtin, Sem.run_bind, Sem.run_pure, Result.andThen_ok, List.map_toArray, List.map_cons, List.map_nil, hs]
    simp [Builtin.cap_, run_underlying (lay_slice hl rfl)]
theorem aEff_after {Y : Hd} (hY : HdOk P Y E) {K : C → St → Prop} (hK : aEff P G Y o.op σ K) {R : Env} {L : Loc} (h : InvV G E σ a R L) : Runs P o a.eval R.w (After G E a K) := by
  have pure1 : aPure P G σ.bx (evOf G σ.tm) o.op σ.nx (fun c nx' => K c ⟨σ.tm, σ.bx, nx', σ.lg⟩) → Runs P o a.eval R.w (After G E a K) := fun hp => by
    obtain ⟨c, nx', h1, h2⟩ := aPure_sound _ hp
    exact pure_after h1 h h2
  unfold aEff at hK
  split at hK
  · exact alloc_after (by assumption) h hK
  · exact box_after (by assumption) h hK
  · exact store_after (by assumption) h hK
  · rename_i c ho
    split at hK
    · rename_i f hc
      unfold aCallV at hK
      split at hK
      · rename_i l fs cs hev
        obtain ⟨rfl, rfl, hK⟩ := hK
        exact yield_after hY.yd ho hc hev h hK
      · rename_i fid first cap hev
        rcases hK with hK | hK | hK | hK | hK
        · exact pure1 (by rw [ho]; simp only [aPure, aCall, hc]; rw [hev]; exact hK)
        · exact callB_after ho hc hev h hK
        · obtain ⟨fargs, r, n, h1, h2, h3, h4⟩ := hK
          exact pure_after (pure_callR ho hc hev h1 h2 h3) h h4
        · exact callX_after ho hc hev h hK
        · exact callO_after ho hc hev h hK
      · exact hK.elim
    · rename_i b hc
      unfold aEffB at hK
      split at hK
      · rename_i x t h1 h2
        exact pure1 (by rw [ho]; simp only [aPure, aCall, hc, aCallB, h1, h2]; exact hK)
      · rename_i s x t t' h1 h2
        split at hK
        rotate_left
        · obtain ⟨callee, args, argTypes⟩ := c
          simp only at hc h1 h2
          rw [toList_two h1, toList_two h2, hc] at ho
          exact appZ_after ho h hK
        subst_vars
        split at hK
        · obtain ⟨callee, args, argTypes⟩ := c
          simp only at hc h1 h2
          rw [toList_two h1, toList_two h2, hc] at ho
          split at hK
          · exact appB2_after ho h hK
          · exact appBox_after hY.box ho h hK
        · unfold aAppend at hK
          split at hK
          · rename_i id e k rows hev
            rw [← hev] at hK
            obtain ⟨callee, args, argTypes⟩ := c
            simp only at hc h1 h2
            rw [toList_two h1, toList_two h2, hc] at ho
            exact appOwn_after ho h hK
          · exact pure1 (by rw [ho]; simp only [aPure, aCall, hc, aCallB, h1, h2]; exact ⟨trivial, hK⟩)
      · rename_i d x t t' h1 h2
        obtain ⟨callee, args, argTypes⟩ := c
        simp only at hc h1 h2
        rw [toList_two h1, toList_two h2, hc] at ho
        exact copy_after ho h hK
      · rename_i x t h1 h2
        obtain ⟨callee, args, argTypes⟩ := c
        simp only at hc h1 h2
        rw [toList_one h1, toList_one h2, hc] at ho
        exact clear_after ho h hK
      · rename_i x t h1 h2
        obtain ⟨callee, args, argTypes⟩ := c
        simp only at hc h1 h2
        rw [toList_one h1, toList_one h2, hc] at ho
        exact cap_after ho h hK
      · exact hK.elim
    · exact hK.elim
  · rename_i t n parts ho
    split at hK
    · exact buildBox_after ho h hK
    · exact pure1 (by rw [ho]; exact hK)
  · rename_i t l c ho
    split at hK
    · exact makeBox_after ho h hK
    · exact pure1 (by rw [ho]; exact hK)
  · exact pure1 hK
end
end Go.Proofs.Ytheokoehnmlafaa.Vcg
