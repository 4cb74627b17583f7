/- States of a walk; operations that turn the walk's own memory; a region in the text's order. No condition. -/
import Derived.Test.YtheokoehnmlafaaVcg9
import Derived.TacticsIn
set_option linter.unusedVariables false
set_option linter.unusedSimpArgs false
namespace Go.Proofs.Ytheokoehnmlafaa.Vcg
open Go.RowKit
structure St where
  tm : List (Nat × C)
  bx : List (List C)
  nx : Nat
  lg : Nat
def getC : List (Nat × C) → Nat → C
  | [], _ => .any
  | (t, c) :: r, u => if u = t then c else getC r u
def St.put (σ : St) (dst : Option Tmp) (c : C) : St := match dst with | some d => ⟨(d, c) :: σ.tm, σ.bx, σ.nx, σ.lg⟩ | none => σ
def dstOk (N : Nat) (dst : Option Tmp) : Prop := match dst with | some d => d < N | none => True
def evOf (G : Globs) (tm : List (Nat × C)) : Operand → C
  | .tmp t => getC tm t
  | .const v => ofConst v
  | .global g => match G g with | some cs => .row cs | none => .any
  | .func f => .clo (.func f) [] []
/-- a move of a walk that began at w0 and may turn ex: what it leaves alone -/
structure Near (w0 : World) (ex : Nat → Prop) (R R' : Env) : Prop where
  os : R'.w.os = R.w.os
  tape : R'.w.tape = R.w.tape
  output : R'.w.output = R.w.output
  size : R.w.heap.size ≤ R'.w.heap.size
  fgn : R'.F = R.F
  ext : Ext R R'
  blk : ∀ b, b < R.w.heap.size → (R'.w.heap[b]? = R.w.heap[b]? ∧ ∀ o, (R'.M b o ↔ R.M b o)) ∨ ((w0.heap.size ≤ b ∨ ex b) ∧ ¬ R.F b ∧ ∃ cs t f, R.w.heap[b]? = some (.cells cs t f))
theorem Near.refl (w0 : World) (ex : Nat → Prop) (R : Env) : Near w0 ex R R := ⟨rfl, rfl, rfl, Nat.le_refl _, rfl, Ext.refl R, fun _ _ => .inl ⟨rfl, fun _ => Iff.rfl⟩⟩
/-- a move of whomever that leaves alone what is neither to be turned by the walk nor free -/
structure Nigh (w0 : World) (ex : Nat → Prop) (R R' : Env) : Prop where
  os : R'.w.os = R.w.os
  tape : R'.w.tape = R.w.tape
  output : R'.w.output = R.w.output
  size : R.w.heap.size ≤ R'.w.heap.size
  fgn : R'.F = R.F
  ext : Ext R R'
  blk : ∀ b, b < R.w.heap.size → (R'.w.heap[b]? = R.w.heap[b]? ∧ ∀ o, (R'.M b o ↔ R.M b o)) ∨ ((w0.heap.size ≤ b ∨ ex b) ∧ ¬ R.F b)
theorem Near.nigh {w0 : World} {ex : Nat → Prop} {R R' : Env} (h : Near w0 ex R R') : Nigh w0 ex R R' :=
  ⟨h.os, h.tape, h.output, h.size, h.fgn, h.ext, fun b hb => (h.blk b hb).imp id fun g => ⟨g.1, g.2.1⟩⟩
/-- what the walk began with -/
structure Ctx where
  w0 : World
  M0 : Nat → Nat → Prop
  β0 : List Nat
  ex : Nat → Prop
  N : Nat
  df : List Deferred
  F0 : Nat → Prop
  bo : Nat → Prop
  bex : ∀ b, bo b → ex b
  J : Nat → Env → Prop
  stab : ∀ k R R', J k R → Nigh w0 ex R R' → J k R'
/-- what the walk may turn -/
def Ctx.tu (E : Ctx) (b : Nat) : Prop := E.w0.heap.size ≤ b ∨ E.ex b
structure Good (G : Globs) (E : Ctx) (σ : St) (R : Env) (L : Loc) : Prop where
  fit : Fit G E.tu σ.bx R L
  os : R.w.os = E.w0.os
  tape : R.w.tape = E.w0.tape
  output : R.w.output = E.w0.output
  size : E.w0.heap.size ≤ R.w.heap.size
  blk : ∀ b, b < E.w0.heap.size → ¬ E.ex b → ¬ R.F b → R.w.heap[b]? = E.w0.heap[b]? ∧ ∀ o, (R.M b o ↔ E.M0 b o)
  ext : Ext ⟨E.w0, E.M0, fun _ => False⟩ R
  box : ∃ more, L.β = E.β0 ++ more
  tub : ∀ b ∈ L.β, E.w0.heap.size ≤ b ∨ E.bo b
  flt : ∀ b, R.F b → b < R.w.heap.size
  fz : ∀ b, b < E.w0.heap.size → (R.F b ↔ E.F0 b)
  fbx : ∀ b ∈ L.β, ¬ R.F b
  fow : ∀ id e k v b, L.T id = some (e, k, v) → v.ownBlock = some b → ¬ R.F b
  free : ∀ id, σ.nx ≤ id → L.T id = none
  log : E.J σ.lg R
theorem Good.tubx {G : Globs} {E : Ctx} {σ : St} {R : Env} {L : Loc} (h : Good G E σ R L) : ∀ b ∈ L.β, E.tu b := fun b hb => (h.tub b hb).imp id (E.bex b)
abbrev markOf (d : Nat) : Deferred := { target := .collected d, args := #[] }
/-- the deferred calls of an activation: marks of loops over iterators alone, ahead of those that it began with -/
def DfOk (E : Ctx) (ds : List Deferred) (R : Env) : Prop := ∃ l : List Nat, ds = l.map markOf ++ E.df ∧ l.Nodup ∧ ∀ d ∈ l, R.w.heap[d]? = some (.deferred (some [])) ∧ E.w0.heap.size ≤ d ∧ ¬ R.F d
structure InvV (G : Globs) (E : Ctx) (σ : St) (a : Act) (R : Env) (L : Loc) : Prop where
  good : Good G E σ R L
  size : a.tmps.size = E.N
  df : DfOk E a.defers R
  tm : ∀ t, Rep R L (getC σ.tm t) (a.tmps.getD t undef)
theorem DfOk.near {E : Ctx} {ds : List Deferred} {R R' : Env} (h : DfOk E ds R) (hn : Near E.w0 E.ex R R') : DfOk E ds R' := by
  obtain ⟨l, e, hl, h⟩ := h
  refine ⟨l, e, hl, fun d hd => ?_⟩
  obtain ⟨h1, h2, h3⟩ := h d hd
  refine ⟨?_, h2, by rw [hn.fgn]; exact h3⟩
  rcases hn.blk d (heap_lt h1) with ⟨g, _⟩ | ⟨_, _, cs, t, f, g⟩
  · rw [g]; exact h1
  · rw [h1] at g; cases g
theorem Good.move {G : Globs} {E : Ctx} {σ : St} {R R' : Env} {L L' : Loc} {tm' : List (Nat × C)} {bx' : List (List C)} {nx' : Nat} (h : Good G E σ R L) (hn : Nigh E.w0 E.ex R R') (hf : Fit G E.tu bx' R' L')
    (hbox : ∃ more, L'.β = L.β ++ more ∧ ∀ b ∈ more, R.w.heap.size ≤ b)
    (hown : ∀ id e k v b, L'.T id = some (e, k, v) → v.ownBlock = some b → (∃ i e' k' v', L.T i = some (e', k', v') ∧ v'.ownBlock = some b) ∨ R.w.heap.size ≤ b)
    (hfree : ∀ id, nx' ≤ id → L'.T id = none) : Good G E ⟨tm', bx', nx', σ.lg⟩ R' L' := by
  obtain ⟨more, hm1, hm2⟩ := hbox
  obtain ⟨more0, hm0⟩ := h.box
  refine ⟨hf, hn.os.trans h.os, hn.tape.trans h.tape, hn.output.trans h.output, Nat.le_trans h.size hn.size, fun b hb hx hF => ?_, h.ext.trans hn.ext, ⟨more0 ++ more, by rw [hm1, hm0, List.append_assoc]⟩, fun b hb => ?_, fun b hF => ?_, fun b hb => by rw [hn.fgn]; exact h.fz b hb, fun b hb hF => ?_, fun id e k v b ht hv hF => ?_, hfree, E.stab _ _ _ h.log hn⟩
  · rw [hn.fgn] at hF
    obtain ⟨g1, g2⟩ := h.blk b hb hx hF
    rcases hn.blk b (Nat.lt_of_lt_of_le hb h.size) with ⟨k1, k2⟩ | ⟨k1, _⟩
    · exact ⟨k1.trans g1, fun o => (k2 o).trans (g2 o)⟩
    · rcases k1 with k1 | k1
      · omega
      · exact absurd k1 hx
  · rw [hm1] at hb
    rcases List.mem_append.1 hb with hb | hb
    · exact h.tub b hb
    · exact .inl (Nat.le_trans h.size (hm2 b hb))
  · rw [hn.fgn] at hF; exact Nat.lt_of_lt_of_le (h.flt b hF) hn.size
  · rw [hn.fgn] at hF
    rw [hm1] at hb
    rcases List.mem_append.1 hb with hb | hb
    · exact h.fbx b hb hF
    · have := h.flt b hF; have := hm2 b hb; omega
  · rw [hn.fgn] at hF
    rcases hown id e k v b ht hv with ⟨i, e', k', v', g1, g2⟩ | g
    · exact h.fow i e' k' v' b g1 g2 hF
    · have := h.flt b hF; omega
theorem PStep.near {nx nx' : Nat} {R R' : Env} {L L' : Loc} (h : PStep nx nx' R L R' L') (w0 : World) (ex : Nat → Prop) : Near w0 ex R R' :=
  ⟨h.below.os, h.below.tape, h.below.output, h.below.size, h.fgn, h.ext, fun b hb => .inl ⟨h.below.block b hb, fun o => h.mt b o hb⟩⟩
def Inv (G : Globs) (E : Ctx) (σ : St) (a : Act) (w : World) : Prop := ∃ R L, R.w = w ∧ InvV G E σ a R L
section
variable {P : Program} {G : Globs} {E : Ctx} {σ : St} {o : Oper} {a : Act}
theorem InvV.ev {R : Env} {L : Loc} (h : InvV G E σ a R L) (x : Operand) : Rep R L (evOf G σ.tm x) (a.eval x) := by
  cases x with
  | tmp t => exact h.tm t
  | const v => exact rep_ofConst R L v
  | global g =>
    simp only [evOf]
    cases hg : G g with
    | none => unfold Rep; trivial
    | some cs => exact rep_row.2 ⟨g, 0, rfl, h.good.fit.glob g cs hg⟩
  | func f => exact rep_clo.2 ⟨#[], #[], rfl, repL_nil.2 rfl, repL_nil.2 rfl⟩
theorem InvV.put {R : Env} {L : Loc} (h : InvV G E σ a R L) {dst : Option Tmp} {c : C} {v : Value} (hd : dstOk E.N dst) (hr : Rep R L c v) : InvV G E (σ.put dst c) (a.put dst v) R L := by
  cases dst with
  | none => exact h
  | some d =>
    refine ⟨{ h.good with }, by simpa [Act.put] using h.size, h.df, fun t => ?_⟩
    have hlt : d < a.tmps.size := by rw [h.size]; exact hd
    show Rep R L (if t = d then c else getC σ.tm t) ((a.tmps.setIfInBounds d v).getD t undef)
    split
    · subst_vars
      simpa [Array.getD_eq_getD_getElem?, hlt] using hr
    · rename_i hnt
      have := h.tm t
      have hne : d ≠ t := fun e => hnt e.symm
      simpa [Array.getD_eq_getD_getElem?, Array.getElem?_setIfInBounds_ne hne] using this
theorem Good.step {nx' : Nat} {R R' : Env} {L L' : Loc} (hn : σ.nx ≤ nx') (h : Good G E σ R L) (st : PStep σ.nx nx' R L R' L') : Good G E ⟨σ.tm, σ.bx, nx', σ.lg⟩ R' L' := by
  have hfree : Free L σ.nx nx' := fun id h1 _ => h.free id h1
  refine h.move (st.near _ _).nigh (h.fit.step hfree st) ⟨[], by rw [st.box, List.append_nil], fun b hb => by cases hb⟩ (fun id e k v b ht hv => ?_) fun id hi => ?_
  · rcases st.cases ht with hi | ⟨hi, hj⟩
    · exact .inl ⟨id, e, k, v, hi, hv⟩
    · exact .inr ((st.new id e k v hi hj ht).block hv).1
  · rw [st.old id (.inr hi)]; exact h.free id (Nat.le_trans hn hi)
theorem InvV.step {nx' : Nat} {R R' : Env} {L L' : Loc} (hn : σ.nx ≤ nx') (h : InvV G E σ a R L) (st : PStep σ.nx nx' R L R' L') : InvV G E ⟨σ.tm, σ.bx, nx', σ.lg⟩ a R' L' :=
  ⟨h.good.step hn st, h.size, h.df.near (st.near _ _), fun t => Rep.ext st.ext (st.le fun id h1 _ => h.good.free id h1) _ _ (h.tm t)⟩
/-- what an operation leaves: its answer, and the state -/
abbrev After (G : Globs) (E : Ctx) (a : Act) (K : C → St → Prop) (v : Value) (w' : World) : Prop := ∃ c σ' R L, R.w = w' ∧ InvV G E σ' a R L ∧ Rep R L c v ∧ K c σ'
theorem pure_after {c : C} {nx' : Nat} {K : C → St → Prop} {R : Env} {L : Loc} (hp : PureSem P G σ.bx (evOf G σ.tm) σ.nx o c nx') (h : InvV G E σ a R L) (hK : K c ⟨σ.tm, σ.bx, nx', σ.lg⟩) : Runs P o a.eval R.w (After G E a K) :=
  (hp.2 _ R L a.eval h.good.fit (fun id h1 _ => h.good.free id h1) h.ev).mono fun v w' ⟨R', L', hw, st, hr⟩ => ⟨c, _, R', L', hw, h.step hp.1 st, hr, hK⟩
/-- a new box -/
theorem InvV.newBox {R : Env} {L : Loc} (h : InvV G E σ a R L) (cs : List C) (vs : Array Value) (ty : TypeId) (hr : RepL R L cs vs.toList) (h1 : ∀ v ∈ vs.toList, v.oneCell' = true) :
    ∃ R' L', R'.w = R.w.alloc (.cells vs ty (0, 0)) ∧ InvV G E ⟨σ.tm, σ.bx ++ [cs], σ.nx, σ.lg⟩ a R' L' ∧ Rep R' L' (.ptr σ.bx.length 0) (.pointer (some ⟨R.w.heap.size, 0, none⟩)) := by
  have hb : Below R.w.heap.size R.w (R.w.alloc (.cells vs ty (0, 0))) := (Below.refl _ _).alloc (Nat.le_refl _) _
  have hmt : ∀ b o, b < R.w.heap.size → (((b < R.w.heap.size ∧ R.M b o) ∨ b = R.w.heap.size) ↔ R.M b o) := fun b o hlt => ⟨fun h' => by rcases h' with h' | h'; exact h'.2; omega, fun h' => .inl ⟨hlt, h'⟩⟩
  have hext : Ext R ⟨R.w.alloc (.cells vs ty (0, 0)), fun b o => (b < R.w.heap.size ∧ R.M b o) ∨ b = R.w.heap.size, R.F⟩ := Ext.of_below hb hmt
  have hnear : Near E.w0 E.ex R ⟨R.w.alloc (.cells vs ty (0, 0)), fun b o => (b < R.w.heap.size ∧ R.M b o) ∨ b = R.w.heap.size, R.F⟩ :=
    ⟨hb.os, hb.tape, hb.output, hb.size, rfl, hext, fun b hlt => .inl ⟨hb.block b hlt, fun o => hmt b o hlt⟩⟩
  have hlen := h.good.fit.boxes.len
  have hle : LocLe L ⟨L.β ++ [R.w.heap.size], L.T⟩ := ⟨fun i b e => by
    have hi : i < L.β.length := (List.getElem?_eq_some_iff.1 e).1
    rw [List.getElem?_append_left hi]; exact e, fun _ _ e => e⟩
  refine ⟨⟨R.w.alloc (.cells vs ty (0, 0)), fun b o => (b < R.w.heap.size ∧ R.M b o) ∨ b = R.w.heap.size, R.F⟩, ⟨L.β ++ [R.w.heap.size], L.T⟩, rfl,
    ⟨h.good.move hnear.nigh ⟨h.good.fit.glob.ext hext, ⟨by simp [hlen], ?_, fun i b cs' hi hc => ?_⟩, ⟨fun id e k v ht => ?_, fun id id' e k v e' k' v' b => h.good.fit.owns.apart id id' e k v e' k' v' b⟩, fun g hg => ?_⟩
      ⟨[R.w.heap.size], rfl, fun b hb => by simp at hb; omega⟩ (fun id e k v b ht hv => .inl ⟨id, e, k, v, ht, hv⟩) h.good.free, h.size, h.df.near hnear, fun t => Rep.ext hext hle _ _ (h.tm t)⟩, rep_ptr.2 ⟨R.w.heap.size, ?_, rfl⟩⟩
  · rw [List.nodup_append]
    refine ⟨h.good.fit.boxes.nodup, by simp, fun x hx y hy e => ?_⟩
    have := h.good.fit.β_lt x hx
    simp at hy; omega
  · rcases Nat.lt_or_ge i L.β.length with hl | hl
    · rw [List.getElem?_append_left hl] at hi
      rw [List.getElem?_append_left (by omega)] at hc
      obtain ⟨us, ty', e1, e2, e3, e4⟩ := h.good.fit.boxes.box i b cs' hi hc
      exact ⟨us, ty', (Below.heap_alloc R.w _ b (heap_lt e1)).trans e1, RepL.ext hext hle _ _ e2, e3, fun o => .inl ⟨heap_lt e1, e4 o⟩⟩
    · rw [List.getElem?_append_right hl] at hi
      rw [List.getElem?_append_right (by omega)] at hc
      have h0 : i - L.β.length = 0 := by
        have := (List.getElem?_eq_some_iff.1 hi).1
        simp at this; omega
      rw [h0] at hi
      rw [show i - σ.bx.length = 0 by omega] at hc
      simp at hi hc
      subst hi hc
      exact ⟨vs, ty, heap_alloc_new _ _, RepL.ext hext hle _ _ hr, h1, fun o => .inr rfl⟩
  · rcases h.good.fit.owns.own id e k v ht with g2 | ⟨g, n', cap, cur, _, e1, e2, e3, e4, e5, e6, e7, e8⟩
    · exact .inl g2
    · refine .inr ⟨g, n', cap, cur, _, e1, e2, (Below.heap_alloc R.w _ g (heap_lt e3)).trans e3, e4, e5, e6, fun hx => ?_, fun o ho => .inl ⟨heap_lt e3, e8 o ho⟩⟩
      rcases List.mem_append.1 hx with hx | hx
      · exact e7 hx
      · have := heap_lt e3; simp at hx; omega
  · exact h.good.fit.base g (Nat.le_trans hb.size hg)
  · simp [hlen]
def aAlloc (P : Program) (t : TypeId) (σ : St) (K : C → St → Prop) : Prop :=
  match lay P t with
  | some ⟨_, _, _, some z⟩ => (z.all Value.oneCell') = true ∧ K (.ptr σ.bx.length 0) ⟨σ.tm, σ.bx ++ [z.map ofConst], σ.nx, σ.lg⟩
  | _ => False
theorem alloc_after {t : TypeId} (ho : o.op = .alloc t) {K : C → St → Prop} {R : Env} {L : Loc} (h : InvV G E σ a R L) (hK : aAlloc P t σ K) : Runs P o a.eval R.w (After G E a K) := by
  unfold aAlloc at hK
  split at hK
  · rename_i kd s b z hl
    obtain ⟨i, d, hi, hd, _, _, _, hz⟩ := lay_spec hl
    cases hiz : i.zero with
    | none => simp [hiz] at hz
    | some zv =>
      simp only [hiz, Option.map_some, Option.some.injEq] at hz
      subst hz
      obtain ⟨R', L', e1, e2, e3⟩ := h.newBox (zv.cells.toList.map ofConst) zv.cells t (repL_ofConst _) (fun v hv => List.all_eq_true.1 hK.1 v hv)
      refine Runs.value (w' := R.w.alloc (.cells zv.cells t (0, 0))) (v := .pointer (some ⟨R.w.heap.size, 0, none⟩)) ?_ ⟨_, _, R', L', e1, e2, e3, hK.2⟩
      have hzz : (zeroValue t).run P R.w = .ok zv R.w := by simp [zeroValue, typeInfo, hi, hiz]
      unfold execOp
      simp [ho, Instr.alloc, hzz, newVar, newRow]
  · exact hK.elim
def aBox (c : C) (σ : St) (K : C → St → Prop) : Prop :=
  c.partB = true ∧ (c.cells.all C.cellB) = true ∧ K (.ptr σ.bx.length 0) ⟨σ.tm, σ.bx ++ [c.cells], σ.nx, σ.lg⟩
theorem box_after {t : TypeId} {x : Operand} (ho : o.op = .box t x) {K : C → St → Prop} {R : Env} {L : Loc} (h : InvV G E σ a R L) (hK : aBox (evOf G σ.tm x) σ K) : Runs P o a.eval R.w (After G E a K) := by
  obtain ⟨h1, h2, hK⟩ := hK
  have hc := rep_cells (h.ev x) h1
  obtain ⟨R', L', e1, e2, e3⟩ := h.newBox (evOf G σ.tm x).cells (a.eval x).cells t hc (repL_one hc h2)
  refine Runs.value (w' := R.w.alloc (.cells (a.eval x).cells t (0, 0))) (v := .pointer (some ⟨R.w.heap.size, 0, none⟩)) ?_ ⟨_, _, R', L', e1, e2, e3, hK⟩
  unfold execOp
  simp [ho, Instr.box, newVar, newRow]
/-- a store into a box -/
def aStore (P : Program) (t : TypeId) (p c : C) (σ : St) (K : C → St → Prop) : Prop :=
  match lay P t, p with
  | some L, .ptr i off => match σ.bx[i]? with
    | some cs => c.partB = true ∧ (c.cells.all C.cellB) = true ∧ c.cells.length = L.size ∧ off + L.size ≤ cs.length ∧ K .any ⟨σ.tm, σ.bx.set i (cs.take off ++ c.cells ++ cs.drop (off + L.size)), σ.nx, σ.lg⟩
    | none => False
  | _, _ => False
theorem cell_setRow_other (w : World) (g : Nat) (cs : Array Value) (b o : Nat) (h : b ≠ g) : (w.setRow g cs).cell? ⟨b, o, none⟩ = w.cell? ⟨b, o, none⟩ := by
  simp [World.cell?, setRow_other w g b cs h]
theorem InvV.setBox {R : Env} {L : Loc} (h : InvV G E σ a R L) {i b : Nat} {cs cs' : List C} {vs us : Array Value} {ty : TypeId} (hi : L.β[i]? = some b) (hc : σ.bx[i]? = some cs) (hh : R.w.heap[b]? = some (.cells vs ty (0, 0)))
    (hM : ∀ o, R.M b o) (hr : RepL R L cs' us.toList) (h1 : ∀ v ∈ us.toList, v.oneCell' = true) : InvV G E ⟨σ.tm, σ.bx.set i cs', σ.nx, σ.lg⟩ a ⟨R.w.setRow b us, R.M, R.F⟩ L := by
  have hext : Ext R ⟨R.w.setRow b us, R.M, R.F⟩ := ⟨fun b' o v hcell hm => ⟨by
    have hne : b' ≠ b := fun e => hm (e ▸ hM o)
    rw [cell_setRow_other R.w b us b' o hne]; exact hcell, hm⟩⟩
  have hbm : b ∈ L.β := List.mem_of_getElem? hi
  have hnear : Near E.w0 E.ex R ⟨R.w.setRow b us, R.M, R.F⟩ := ⟨rfl, rfl, rfl, by rw [size_setRow]; exact Nat.le_refl _, rfl, hext, fun k hk => by
    by_cases hkb : k = b
    · subst hkb; exact .inr ⟨h.good.tubx _ hbm, h.good.fbx _ hbm, _, _, _, hh⟩
    · exact .inl ⟨setRow_other R.w b k us hkb, fun _ => Iff.rfl⟩⟩
  have hil : i < σ.bx.length := (List.getElem?_eq_some_iff.1 hc).1
  refine ⟨h.good.move hnear.nigh ⟨h.good.fit.glob.ext hext, ⟨by simp [h.good.fit.boxes.len], h.good.fit.boxes.nodup, fun j b' cs2 hj hc2 => ?_⟩, ⟨fun id e k v ht => ?_, h.good.fit.owns.apart⟩, fun g hg => ?_⟩
    ⟨[], by rw [List.append_nil], fun b hb => by cases hb⟩ (fun id e k v b ht hv => .inl ⟨id, e, k, v, ht, hv⟩) h.good.free, h.size, h.df.near hnear, fun t => Rep.ext hext (LocLe.refl _) _ _ (h.tm t)⟩
  · by_cases hij : j = i
    · subst hij
      rw [hi] at hj; cases hj
      simp only [List.getElem?_set_self hil] at hc2
      cases hc2
      exact ⟨us, ty, setRow_heap R.w b vs us ty (0, 0) hh, RepL.ext hext (LocLe.refl _) _ _ hr, h1, hM⟩
    · simp only [List.getElem?_set_ne (fun e => hij e.symm)] at hc2
      obtain ⟨us', ty', e1, e2, e3, e4⟩ := h.good.fit.boxes.box j b' cs2 hj hc2
      have hne : b' ≠ b := fun e => by
        subst e
        have hn := h.good.fit.boxes.nodup
        have hlj : j < L.β.length := (List.getElem?_eq_some_iff.1 hj).1
        have hli : i < L.β.length := (List.getElem?_eq_some_iff.1 hi).1
        exact hij ((List.getElem?_inj hlj hn).1 (hj.trans hi.symm))
      exact ⟨us', ty', by rw [setRow_other R.w b b' us hne]; exact e1, RepL.ext hext (LocLe.refl _) _ _ e2, e3, e4⟩
  · rcases h.good.fit.owns.own id e k v ht with g2 | ⟨g, n', cap, cur, _, e1, e2, e3, e4, e5, e6, e7, e8⟩
    · exact .inl g2
    · have hne : g ≠ b := fun e => e7 (e ▸ hbm)
      exact .inr ⟨g, n', cap, cur, _, e1, e2, by rw [setRow_other R.w b g us hne]; exact e3, e4, e5, e6, e7, e8⟩
  · rw [size_setRow] at hg; exact h.good.fit.base g hg
theorem store_after {t : TypeId} {p x : Operand} (ho : o.op = .store t p x) {K : C → St → Prop} {R : Env} {L : Loc} (h : InvV G E σ a R L) (hK : aStore P t (evOf G σ.tm p) (evOf G σ.tm x) σ K) : Runs P o a.eval R.w (After G E a K) := by
  unfold aStore at hK
  split at hK
  · rename_i Ly i off hl hev
    split at hK
    · rename_i cs hcs
      obtain ⟨h1, h2, h3, h4, hK⟩ := hK
      have hp := h.ev p; rw [hev, rep_ptr] at hp
      obtain ⟨b, hb, hpv⟩ := hp
      have hx := rep_cells (h.ev x) h1
      obtain ⟨vs, ty, e1, e2, e3, e4⟩ := h.good.fit.boxes.box i b cs hb hcs
      have hxl := repL_length hx
      have hvl := repL_length e2
      simp only [Array.length_toList] at hxl hvl
      have hone := repL_one hx h2
      have hst := run_storeCells_at P b off ty (a.eval x).cells.toList 0 vs R.w e1 (by simp; omega) hone
      simp only [Nat.add_zero] at hst
      have hinv := h.setBox (us := (vs.toList.take off ++ (a.eval x).cells.toList ++ vs.toList.drop (off + (a.eval x).cells.toList.length)).toArray) (cs' := cs.take off ++ (evOf G σ.tm x).cells ++ cs.drop (off + Ly.size)) hb hcs e1 e4 (by
          have : off + (a.eval x).cells.toList.length = off + Ly.size := by simp; omega
          rw [this]
          exact repL_append (repL_append (repL_take off e2) hx) (repL_drop _ e2)) (fun v hv => by
          simp only [List.mem_append] at hv
          rcases hv with (hv | hv) | hv
          · exact e3 v (List.mem_of_mem_take hv)
          · exact hone v hv
          · exact e3 v (List.mem_of_mem_drop hv))
      unfold Runs
      have hrun : (execOp a.eval o).run P R.w = .ok .skip (R.w.setRow b (vs.toList.take off ++ (a.eval x).cells.toList ++ vs.toList.drop (off + (a.eval x).cells.toList.length)).toArray) := by
        have hsz := lay_sizeOf hl R.w
        unfold execOp
        simp only [ho, hpv, Instr.storeAt, Instr.sureAddr, storeVar, Sem.run_bind, Sem.run_pure, Result.andThen_ok, hsz]
        rw [if_neg (by omega)]
        simp only [Sem.run_bind, hst, Result.andThen_ok, Sem.run_pure]
      rw [hrun]
      exact ⟨.any, _, _, L, rfl, hinv, by unfold Rep; trivial, hK⟩
    · exact hK.elim
  · exact hK.elim
end
end Go.Proofs.Ytheokoehnmlafaa.Vcg
