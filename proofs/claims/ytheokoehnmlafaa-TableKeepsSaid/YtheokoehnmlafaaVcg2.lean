/- Abstract states for a walk; types' layouts; what a step that only adds memory leaves; a run of one operation. No condition. -/
import Derived.Test.YtheokoehnmlafaaVcg1
import Derived.Deep.MidRow
import Derived.IntWalk
import Derived.CallsIn
set_option linter.unusedVariables false
set_option linter.unusedSimpArgs false
namespace Go.Proofs.Ytheokoehnmlafaa.Vcg
open Go.RowKit
inductive LK where
  | int (k : IntKind)
  | bool
  | str
  | slice (e : TypeId)
  | struct (fs : List (Nat × Nat × Bool))
  | array (n : Nat) (e : TypeId)
  | other
def LK.agg : LK → Bool
  | .struct _ | .array _ _ => true
  | _ => false
structure Lay where
  kind : LK
  size : Nat
  bytes : Nat
  zero : Option (List Value)
def aggB (P : Program) (t : TypeId) : Bool := match P.underlying t with | some (.struct _) | some (.array _ _) => true | _ => false
def layKind (P : Program) : TypeDesc → LK
  | .int k => .int k
  | .bool => .bool
  | .string => .str
  | .slice e => .slice e
  | .struct fs => if fs.toList.all (fun f => (P.underlying f.type).isSome) then .struct (fs.toList.map fun f => (f.offset, ((P.info? f.type).map (·.size)).getD 0, aggB P f.type)) else .array 0 0
  | .array n e => .array n e
  | _ => .other
def lay (P : Program) (t : TypeId) : Option Lay :=
  match P.info? t, P.underlying t with
  | some i, some d => some ⟨layKind P d, i.size, i.bytes, i.zero.map (·.cells.toList)⟩
  | _, _ => none
/-- the fields of a struct that '==' compares: each one cell, a number, a text, true or false -/
def keyFs (P : Program) : Nat → List Field → Option (List LK)
  | _, [] => some []
  | j, f :: fs => if f.name != "_" && f.offset == j then match P.underlying f.type with
      | some .bool => (keyFs P (j + 1) fs).map (LK.bool :: ·)
      | some (.int k) => (keyFs P (j + 1) fs).map (LK.int k :: ·)
      | some .string => (keyFs P (j + 1) fs).map (LK.str :: ·)
      | _ => none
    else none
def keyL (P : Program) (t : TypeId) : Option (List LK) :=
  match P.underlying t with
  | some (.struct fs) => if P.stoodInHeld t || P.eqGuardType P.depth t then none else keyFs P 0 fs.toList
  | _ => none
theorem lay_spec {P : Program} {t : TypeId} {L : Lay} (h : lay P t = some L) : ∃ i d, P.info? t = some i ∧ P.underlying t = some d ∧ L.kind = layKind P d ∧ L.size = i.size ∧ L.bytes = i.bytes ∧ L.zero = i.zero.map (·.cells.toList) := by
  unfold lay at h
  split at h
  · rename_i i d hi hd
    cases h
    exact ⟨i, d, hi, hd, rfl, rfl, rfl, rfl⟩
  · cases h
theorem lay_slice {P : Program} {t e : TypeId} {L : Lay} (h : lay P t = some L) (hk : L.kind = .slice e) : P.underlying t = some (.slice e) := by
  obtain ⟨i, d, _, hd, h1, _⟩ := lay_spec h
  rw [hk] at h1
  cases d <;> simp only [layKind] at h1 <;> first | (cases h1; exact hd) | (cases h1; done) | (split at h1 <;> cases h1)
theorem lay_array {P : Program} {t e : TypeId} {n : Nat} {L : Lay} (h : lay P t = some L) (hk : L.kind = .array (n + 1) e) : P.underlying t = some (.array (n + 1) e) := by
  obtain ⟨i, d, _, hd, h1, _⟩ := lay_spec h
  rw [hk] at h1
  cases d <;> simp only [layKind] at h1 <;> try cases h1
  · exact hd
  · split at h1 <;> cases h1
theorem lay_str {P : Program} {t : TypeId} {L : Lay} (h : lay P t = some L) (hk : L.kind = .str) : P.underlying t = some .string := by
  obtain ⟨i, d, _, hd, h1, _⟩ := lay_spec h
  rw [hk] at h1
  cases d <;> simp only [layKind] at h1 <;> first | (cases h1; exact hd) | (cases h1; done) | (split at h1 <;> cases h1)
theorem lay_bool {P : Program} {t : TypeId} {L : Lay} (h : lay P t = some L) (hk : L.kind = .bool) : P.underlying t = some .bool := by
  obtain ⟨i, d, _, hd, h1, _⟩ := lay_spec h
  rw [hk] at h1
  cases d <;> simp only [layKind] at h1 <;> first | (cases h1; exact hd) | (cases h1; done) | (split at h1 <;> cases h1)
theorem lay_some {P : Program} {t : TypeId} {L : Lay} (h : lay P t = some L) : (P.underlying t).isSome = true := by
  obtain ⟨i, d, _, hd, _⟩ := lay_spec h
  rw [hd]; rfl
theorem lay_int {P : Program} {t : TypeId} {k : IntKind} {L : Lay} (h : lay P t = some L) (hk : L.kind = .int k) : P.underlying t = some (.int k) := by
  obtain ⟨i, d, _, hd, h1, _⟩ := lay_spec h
  rw [hk] at h1
  cases d <;> simp only [layKind] at h1 <;> first | (cases h1; exact hd) | (cases h1; done) | (split at h1 <;> cases h1)
theorem lay_struct {P : Program} {t : TypeId} {fs : List (Nat × Nat × Bool)} {L : Lay} (h : lay P t = some L) (hk : L.kind = .struct fs) :
    ∃ fields : Array Field, P.underlying t = some (.struct fields) ∧ (∀ f ∈ fields.toList, (P.underlying f.type).isSome = true) ∧ fs = fields.toList.map fun f => (f.offset, ((P.info? f.type).map (·.size)).getD 0, aggB P f.type) := by
  obtain ⟨i, d, _, hd, h1, _⟩ := lay_spec h
  rw [hk] at h1
  cases d <;> simp only [layKind] at h1 <;> try cases h1
  split at h1
  · rename_i fs0 hall
    cases h1
    exact ⟨_, hd, fun f hf => List.all_eq_true.1 hall f hf, rfl⟩
  · cases h1
theorem lay_agg {P : Program} {t : TypeId} {L : Lay} (h : lay P t = some L) (w : World) : (isAgg t).run P w = .ok L.kind.agg w := by
  obtain ⟨i, d, _, hd, h1, _⟩ := lay_spec h
  unfold isAgg
  rw [Sem.run_bind, run_underlying hd w, h1]
  cases d <;> first | rfl | (simp only [layKind]; split <;> rfl)
theorem aggB_run {P : Program} {t : TypeId} {d : TypeDesc} (h : P.underlying t = some d) (w : World) : (isAgg t).run P w = .ok (aggB P t) w := by
  unfold isAgg aggB
  rw [Sem.run_bind, run_underlying h w, h]
  cases d <;> rfl
theorem lay_sizeOf {P : Program} {t : TypeId} {L : Lay} (h : lay P t = some L) (w : World) : (sizeOf t).run P w = .ok L.size w := by
  obtain ⟨i, d, hi, hd, h1, h2, _⟩ := lay_spec h
  simp [sizeOf, typeInfo, hi, h2]
theorem lay_info {P : Program} {t : TypeId} {L : Lay} (h : lay P t = some L) : (P.info? t).map (·.size) = some L.size := by
  obtain ⟨i, d, hi, hd, h1, h2, _⟩ := lay_spec h
  simp [hi, h2]
/-- int ranges -/
def inR (k : IntKind) (n : Int) : Prop := k.min ≤ n ∧ n ≤ k.max
theorem wrap_inR {k : IntKind} {n : Int} (h : inR k n) : k.wrap n = n := by
  unfold inR at h
  cases k <;> simp [IntKind.min, IntKind.max, IntKind.bits, IntKind.signed, IntKind.wrap] at h ⊢ <;> first | omega | (split <;> omega)
theorem inR_i64 (n : Int) : inR .i64 n = (-9223372036854775808 ≤ n ∧ n ≤ 9223372036854775807) := by simp [inR, IntKind.min, IntKind.max, IntKind.bits, IntKind.signed]
theorem inR_u8 (n : Int) : inR .u8 n = (0 ≤ n ∧ n ≤ 255) := by simp [inR, IntKind.min, IntKind.max, IntKind.bits, IntKind.signed]
theorem inR_u16 (n : Int) : inR .u16 n = (0 ≤ n ∧ n ≤ 65535) := by simp [inR, IntKind.min, IntKind.max, IntKind.bits, IntKind.signed]
theorem inR_i32 (n : Int) : inR .i32 n = (-2147483648 ≤ n ∧ n ≤ 2147483647) := by simp [inR, IntKind.min, IntKind.max, IntKind.bits, IntKind.signed]
theorem inR_u64 (n : Int) : inR .u64 n = (0 ≤ n ∧ n ≤ 18446744073709551615) := by simp [inR, IntKind.min, IntKind.max, IntKind.bits, IntKind.signed]
/-- a slice's elements, of k cells each -/
def C.rows? (k : Nat) : C → Option (List (List C))
  | .sl k' rows => if k' = k then some rows else none
  | .tight k' rows => if k' = k then some rows else none
  | .own _ _ k' rows => if k' = k then some rows else none
  | .sc (.slice none 0 0) => some []
  | .sc (.slice _ 0 cap) => if cap ≤ maxLen then some [] else none
  | _ => none
theorem Rep.rows {R : Env} {L : Loc} {c : C} {v : Value} {k : Nat} {rows : List (List C)} (h : Rep R L c v) (hc : c.rows? k = some rows) :
    ∃ a cap, v = .slice a rows.length cap ∧ rows.length ≤ cap ∧ cap ≤ maxLen ∧ (rows = [] ∨ ∃ b o, a = some ⟨b, o, none⟩ ∧ RepRows R rows k b o) := by
  unfold C.rows? at hc
  split at hc
  · split at hc
    · cases hc; subst_vars; unfold Rep at h; exact h
    · cases hc
  · split at hc
    · cases hc; subst_vars; unfold Rep at h
      obtain ⟨a, e, h2, h3⟩ := h
      exact ⟨a, _, e, Nat.le_refl _, h2, h3⟩
    · cases hc
  · split at hc
    · cases hc; subst_vars; unfold Rep at h; exact h.2
    · cases hc
  · cases hc; unfold Rep at h; exact ⟨none, 0, h, Nat.le_refl _, Nat.zero_le _, .inl rfl⟩
  · split at hc
    · cases hc; unfold Rep at h; exact ⟨_, _, h, Nat.zero_le _, by assumption, .inl rfl⟩
    · cases hc
  · cases hc
/-- the slices that a walk owns -/
def OwnAt (B : Nat → Prop) (R : Env) (β : List Nat) (e : TypeId) (k : Nat) (v : Value) : Prop :=
  v = .slice none 0 0 ∨ ∃ g n cap cur ty, v = .slice (some ⟨g, 0, none⟩) n cap ∧ B g ∧ R.w.heap[g]? = some (.cells cur ty (0, 0)) ∧ n ≤ cap ∧ cap ≤ maxLen ∧ cur.size = cap * k ∧ g ∉ β ∧ ∀ o, n * k ≤ o → R.M g o
structure OwnsOk (B : Nat → Prop) (R : Env) (L : Loc) : Prop where
  own : ∀ id e k v, L.T id = some (e, k, v) → OwnAt B R L.β e k v
  apart : ∀ id id' e k v e' k' v' b, L.T id = some (e, k, v) → L.T id' = some (e', k', v') → v.ownBlock = some b → v'.ownBlock = some b → id = id'
/-- no owner bears these names -/
abbrev Free (L : Loc) (a b : Nat) : Prop := ∀ id, a ≤ id → id < b → L.T id = none
/-- the boxes of a walk: whole blocks -/
structure BoxesOk (R : Env) (L : Loc) (bx : List (List C)) : Prop where
  len : L.β.length = bx.length
  nodup : L.β.Nodup
  box : ∀ (i b : Nat) cs, L.β[i]? = some b → bx[i]? = some cs → ∃ vs ty, R.w.heap[b]? = some (.cells vs ty (0, 0)) ∧ RepL R L cs vs.toList ∧ (∀ v ∈ vs.toList, v.oneCell' = true) ∧ ∀ o, R.M b o
abbrev Globs := Nat → Option (List C)
def GlobOk (G : Globs) (R : Env) : Prop := ∀ g cs, G g = some cs → RepCells R cs g 0
structure Fit (G : Globs) (B : Nat → Prop) (bx : List (List C)) (R : Env) (L : Loc) : Prop where
  glob : GlobOk G R
  boxes : BoxesOk R L bx
  owns : OwnsOk B R L
  base : ∀ g, R.w.heap.size ≤ g → B g
/-- a step that adds memory and turns none -/
structure PStep (nx nx' : Nat) (R : Env) (L : Loc) (R' : Env) (L' : Loc) : Prop where
  below : Below R.w.heap.size R.w R'.w
  fgn : R'.F = R.F
  box : L'.β = L.β
  mt : ∀ b o, b < R.w.heap.size → (R'.M b o ↔ R.M b o)
  old : ∀ id, id < nx ∨ nx' ≤ id → L'.T id = L.T id
  new : ∀ id e k v, nx ≤ id → id < nx' → L'.T id = some (e, k, v) → OwnAt (fun g => R.w.heap.size ≤ g) R' L.β e k v
  apart : ∀ id id' e k v e' k' v' b, nx ≤ id → id < nx' → nx ≤ id' → id' < nx' → L'.T id = some (e, k, v) → L'.T id' = some (e', k', v') → v.ownBlock = some b → v'.ownBlock = some b → id = id'
theorem cell_lt {w : World} {b o : Nat} {v : Value} (h : w.cell? ⟨b, o, none⟩ = some v) : b < w.heap.size := block_lt_of_cell h
theorem Ext.of_below {R R' : Env} (hb : Below R.w.heap.size R.w R'.w) (hm : ∀ b o, b < R.w.heap.size → (R'.M b o ↔ R.M b o)) : Ext R R' :=
  ⟨fun b o v hc h => ⟨by rw [hb.cell (p := ⟨b, o, none⟩) (cell_lt hc)]; exact hc, fun h' => h ((hm b o (cell_lt hc)).1 h')⟩⟩
theorem PStep.ext {nx nx' : Nat} {R R' : Env} {L L' : Loc} (h : PStep nx nx' R L R' L') : Ext R R' := Ext.of_below h.below h.mt
theorem PStep.le {nx nx' : Nat} {R R' : Env} {L L' : Loc} (h : PStep nx nx' R L R' L') (hL : Free L nx nx') : LocLe L L' :=
  ⟨fun i b e => by rw [h.box]; exact e, fun id x e => by
    rw [h.old id (by
      rcases Nat.lt_or_ge id nx with hi | hi
      · exact .inl hi
      · rcases Nat.lt_or_ge id nx' with hj | hj
        · rw [hL id hi hj] at e; cases e
        · exact .inr hj)]
    exact e⟩
theorem PStep.refl (nx : Nat) (R : Env) (L : Loc) : PStep nx nx R L R L :=
  ⟨Below.refl _ _, rfl, rfl, fun _ _ _ => Iff.rfl, fun _ _ => rfl, fun id e k v h h' => by omega, fun id id' e k v e' k' v' b h h' => by omega⟩
theorem heap_lt {w : World} {b : Nat} {o : Obj} (h : w.heap[b]? = some o) : b < w.heap.size := (Array.getElem?_eq_some_iff.1 h).1
theorem OwnAt.step {B : Nat → Prop} {nx nx' : Nat} {R R' : Env} {L L' : Loc} (h : PStep nx nx' R L R' L') {e : TypeId} {k : Nat} {v : Value} (ho : OwnAt B R L.β e k v) : OwnAt B R' L'.β e k v := by
  rcases ho with ho | ⟨g, n, cap, cur, _, e1, e2, e3, e4, e5, e6, e7, e8⟩
  · exact .inl ho
  · exact .inr ⟨g, n, cap, cur, _, e1, e2, by rw [h.below.block g (heap_lt e3)]; exact e3, e4, e5, e6, by rw [h.box]; exact e7, fun o ho => (h.mt g o (heap_lt e3)).2 (e8 o ho)⟩
theorem OwnAt.block {B : Nat → Prop} {R : Env} {β : List Nat} {e : TypeId} {k : Nat} {v : Value} (ho : OwnAt B R β e k v) {b : Nat} (hb : v.ownBlock = some b) : B b ∧ b < R.w.heap.size ∧ b ∉ β := by
  rcases ho with ho | ⟨g, n, cap, cur, _, e1, e2, e3, e4, e5, e6, e7, e8⟩
  · subst ho; cases hb
  · subst e1; cases hb; exact ⟨e2, heap_lt e3, e7⟩
theorem OwnAt.base {B B' : Nat → Prop} {R : Env} {β : List Nat} {e : TypeId} {k : Nat} {v : Value} (ho : OwnAt B R β e k v) (hB : ∀ g, B g → B' g) : OwnAt B' R β e k v := by
  rcases ho with ho | ⟨g, n, cap, cur, _, e1, e2, e3⟩
  · exact .inl ho
  · exact .inr ⟨g, n, cap, cur, _, e1, hB _ e2, e3⟩
theorem BoxesOk.step {bx : List (List C)} {nx nx' : Nat} {R R' : Env} {L L' : Loc} (h : PStep nx nx' R L R' L') (hL : Free L nx nx') (hb : BoxesOk R L bx) : BoxesOk R' L' bx := by
  refine ⟨by rw [h.box]; exact hb.len, by rw [h.box]; exact hb.nodup, fun i b cs hi hc => ?_⟩
  rw [h.box] at hi
  obtain ⟨vs, ty, e1, e2, e3, e4⟩ := hb.box i b cs hi hc
  exact ⟨vs, ty, by rw [h.below.block b (heap_lt e1)]; exact e1, RepL.ext h.ext (h.le hL) _ _ e2, e3, fun o => (h.mt b o (heap_lt e1)).2 (e4 o)⟩
theorem GlobOk.ext {G : Globs} {R R' : Env} (h : Ext R R') (hg : GlobOk G R) : GlobOk G R' := fun g cs e => RepCells.ext h cs g 0 (hg g cs e)
theorem PStep.cases {nx nx' : Nat} {R R' : Env} {L L' : Loc} (h : PStep nx nx' R L R' L') {id : Nat} {x} (e : L'.T id = some x) : L.T id = some x ∨ (nx ≤ id ∧ id < nx') := by
  rcases Nat.lt_or_ge id nx with hi | hi
  · rw [h.old id (.inl hi)] at e; exact .inl e
  · rcases Nat.lt_or_ge id nx' with hj | hj
    · exact .inr ⟨hi, hj⟩
    · rw [h.old id (.inr hj)] at e; exact .inl e
theorem Fit.step {G : Globs} {B : Nat → Prop} {nx nx' : Nat} {bx : List (List C)} {R R' : Env} {L L' : Loc} (hL : Free L nx nx') (h : PStep nx nx' R L R' L') (hf : Fit G B bx R L) : Fit G B bx R' L' := by
  have hnew : ∀ id e k v b, nx ≤ id → id < nx' → L'.T id = some (e, k, v) → v.ownBlock = some b → R.w.heap.size ≤ b := fun id e k v b hi hj ht hb => ((h.new id e k v hi hj ht).block hb).1
  have hold : ∀ id e k v b, L.T id = some (e, k, v) → v.ownBlock = some b → b < R.w.heap.size := fun id e k v b ht hb => ((hf.owns.own id e k v ht).block hb).2.1
  refine ⟨hf.glob.ext h.ext, hf.boxes.step h hL, ⟨fun id e k v ht => ?_, fun id id' e k v e' k' v' b h1 h2 h3 h4 => ?_⟩, fun g hg => hf.base g (Nat.le_trans h.below.size hg)⟩
  · rcases h.cases ht with hi | ⟨hi, hj⟩
    · exact (hf.owns.own id e k v hi).step h
    · rw [h.box]
      exact (h.new id e k v hi hj ht).base hf.base
  · rcases h.cases h1 with hi | ⟨hi, hj⟩ <;> rcases h.cases h2 with hi' | ⟨hi', hj'⟩
    · exact hf.owns.apart id id' e k v e' k' v' b hi hi' h3 h4
    · have := hnew id' e' k' v' b hi' hj' h2 h4
      have := hold id e k v b hi h3
      omega
    · have := hnew id e k v b hi hj h1 h3
      have := hold id' e' k' v' b hi' h4
      omega
    · exact h.apart id id' e k v e' k' v' b hi hj hi' hj' h1 h2 h3 h4
theorem PStep.trans {a b c : Nat} {R R1 R2 : Env} {L L1 L2 : Loc} (hab : a ≤ b) (hbc : b ≤ c) (h : PStep a b R L R1 L1) (k : PStep b c R1 L1 R2 L2) : PStep a c R L R2 L2 := by
  have hsz := h.below.size
  refine ⟨h.below.trans (k.below.mono hsz), k.fgn.trans h.fgn, k.box.trans h.box, fun x o hx => (k.mt x o (by omega)).trans (h.mt x o hx), fun id hi => (k.old id (by omega)).trans (h.old id (by omega)), fun id e s v hi hj ht => ?_, fun id id' e s v e' s' v' q hi hi2 hj hj2 h1 h2 h3 h4 => ?_⟩
  · rcases Nat.lt_or_ge id b with hj' | hj'
    · rw [k.old id (.inl hj')] at ht
      have := h.new id e s v hi hj' ht
      have := OwnAt.step k (L := L1) (by rw [h.box]; exact this)
      rw [k.box, h.box] at this
      exact this
    · have := k.new id e s v hj' hj ht
      rw [h.box] at this
      exact this.base fun g hg => Nat.le_trans hsz hg
  · have key : ∀ id e s v q, a ≤ id → id < c → L2.T id = some (e, s, v) → v.ownBlock = some q → (id < b ∧ L1.T id = some (e, s, v) ∧ q < R1.w.heap.size) ∨ (b ≤ id ∧ R1.w.heap.size ≤ q) := fun id e s v q hi hj ht hq => by
      rcases Nat.lt_or_ge id b with hj' | hj'
      · rw [k.old id (.inl hj')] at ht
        exact .inl ⟨hj', ht, ((h.new id e s v hi hj' ht).block hq).2.1⟩
      · exact .inr ⟨hj', ((k.new id e s v hj' hj ht).block hq).1⟩
    rcases key id e s v q hi hi2 h1 h3 with ⟨x1, x2, x3⟩ | ⟨x1, x2⟩ <;> rcases key id' e' s' v' q hj hj2 h2 h4 with ⟨y1, y2, y3⟩ | ⟨y1, y2⟩
    · exact h.apart id id' e s v e' s' v' q hi x1 hj y1 x2 y2 h3 h4
    · omega
    · omega
    · exact k.apart id id' e s v e' s' v' q x1 hi2 y1 hj2 h1 h2 h3 h4
/-- one operation, run -/
def Runs (P : Program) (o : Oper) (ρ : Operand → Value) (w : World) (post : Value → World → Prop) : Prop :=
  match (execOp ρ o).run P w with
  | .ok (.value v) w' => post v w'
  | .ok .skip w' => post undef w'
  | .ok (.enter f args) w' => Calls P f args w' fun e w'' => ∃ v, e = .returned v ∧ post v w''
  | .ok (.round l f tmps assign body) w' => RoundIn Fence.wide 0 P l f tmps assign body w' fun e w'' => ∃ v, e = .returned v ∧ post v w''
  | _ => False
theorem Runs.mono {P : Program} {o : Oper} {ρ : Operand → Value} {w : World} {p q : Value → World → Prop} (h : Runs P o ρ w p) (hpq : ∀ v w', p v w' → q v w') : Runs P o ρ w q := by
  unfold Runs at h ⊢
  split at h
  · exact hpq _ _ h
  · exact hpq _ _ h
  · exact h.mono fun e w' ⟨v, e1, e2⟩ => ⟨v, e1, hpq _ _ e2⟩
  · exact h.mono fun e w' ⟨v, e1, e2⟩ => ⟨v, e1, hpq _ _ e2⟩
  · exact h.elim
theorem Runs.value {P : Program} {o : Oper} {ρ : Operand → Value} {w w' : World} {v : Value} {p : Value → World → Prop} (h : (execOp ρ o).run P w = .ok (.value v) w') (hp : p v w') : Runs P o ρ w p := by
  unfold Runs; rw [h]; exact hp
/-- an operation that turns nothing -/
def PureSem (P : Program) (G : Globs) (bx : List (List C)) (ev : Operand → C) (nx : Nat) (o : Oper) (c : C) (nx' : Nat) : Prop :=
  nx ≤ nx' ∧ ∀ (B : Nat → Prop) (R : Env) (L : Loc) (ρ : Operand → Value), Fit G B bx R L → Free L nx nx' → (∀ x, Rep R L (ev x) (ρ x)) →
    Runs P o ρ R.w fun v w' => ∃ R' L', R'.w = w' ∧ PStep nx nx' R L R' L' ∧ Rep R' L' c v
/-- it neither draws nor makes memory -/
theorem PureSem.of_same {P : Program} {G : Globs} {bx : List (List C)} {ev : Operand → C} {nx : Nat} {o : Oper} {c : C}
    (h : ∀ (B : Nat → Prop) (R : Env) (L : Loc) (ρ : Operand → Value), Fit G B bx R L → (∀ x, Rep R L (ev x) (ρ x)) → ∃ v, (execOp ρ o).run P R.w = .ok (.value v) R.w ∧ Rep R L c v) : PureSem P G bx ev nx o c nx :=
  ⟨Nat.le_refl _, fun B R L ρ hf _ hr => by
    obtain ⟨v, h1, h2⟩ := h B R L ρ hf hr
    exact Runs.value h1 ⟨R, L, rfl, PStep.refl _ _ _, h2⟩⟩
end Go.Proofs.Ytheokoehnmlafaa.Vcg
