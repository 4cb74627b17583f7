/- A region whose order is open, in which a variable is laid and filled: when that happens counts for nothing. No condition. -/
import Derived.Test.YtheokoehnmlafaaVcg16
set_option linter.unusedVariables false
set_option linter.unusedSimpArgs false
namespace Go.Proofs.Ytheokoehnmlafaa.Vcg
open Go.RowKit
/-- which operation lays the variable, which fills it -/
def lateB (a s : Nat) : List Bool := true :: true :: true :: (List.replicate a false ++ true :: List.replicate s false)
def leadF : List Bool → Nat × List Bool
  | false :: r => ((leadF r).1 + 1, (leadF r).2)
  | r => (0, r)
def lateOf : List Bool → Option (Nat × Nat)
  | true :: true :: true :: r => some ((leadF r).1, (leadF r).2.tail.length)
  | _ => none
theorem leadF_rep : ∀ (a : Nat) (r : List Bool), leadF (List.replicate a false ++ true :: r) = (a, true :: r)
  | 0, r => by simp [leadF]
  | a + 1, r => by rw [List.replicate_succ, List.cons_append, leadF, leadF_rep a r]
theorem lateOf_lateB (a s : Nat) : lateOf (lateB a s) = some (a, s) := by
  show some ((leadF (List.replicate a false ++ true :: List.replicate s false)).1, (leadF (List.replicate a false ++ true :: List.replicate s false)).2.tail.length) = _
  rw [leadF_rep]; simp
def lateOk (ops : Array Oper) (a s : Nat) : Bool :=
  match ops[a]?, ops[s]? with
  | some ⟨some p, .alloc t, _, _, _, none⟩, some ⟨none, .store t' (.tmp p') x, _, _, _, none⟩ =>
    t == t' && p == p' && decide (a < s) && inC (clsUpto ops.toList ops.size) s a && ops.toList.zipIdx.all fun (o, i) => i == a || !(o.dst == some p)
  | _, _ => false
def aLate (L : Option Lay) (c : C) (K : C → Prop) : Prop := match L with
  | some L => c.partB = true ∧ (c.cells.all C.cellB) = true ∧ c.cells.length = L.size ∧ K c
  | none => False
def aLaid (L : Option Lay) (K : Prop) : Prop := match L with
  | some ⟨_, k, _, some z⟩ => z.length = k ∧ (z.all Value.oneCell') = true ∧ K
  | _ => False
section
variable {P : Program} {G : Globs} {E : Ctx} {σ : St} {a : Act} {N p : Nat} {bx : List (List C)} {ops : Array Oper}
def ladops (P : Program) (G : Globs) (ops : Array Oper) (a s : Nat) : List Oper → Nat → Option (List C) → St → (St → Prop) → Prop
  | [], _, cs, σ, K => match cs, (ops[a]?).bind (·.dst) with
    | some cs, some p => K ⟨(p, .ptr σ.bx.length 0) :: σ.tm, σ.bx ++ [cs], σ.nx, σ.lg⟩
    | _, _ => False
  | o :: rest, i, cs, σ, K =>
    if i = a then match o.op with
      | .alloc t => aLaid (lay P t) (ladops P G ops a s rest (i + 1) cs ⟨putT σ.tm o.dst .any, σ.bx, σ.nx, σ.lg⟩ K)
      | _ => False
    else if i = s then match o.op with
      | .store t _ x => aLate (lay P t) (evOf G σ.tm x) fun c => ladops P G ops a s rest (i + 1) (some c.cells) ⟨putT σ.tm o.dst .any, σ.bx, σ.nx, σ.lg⟩ K
      | _ => False
    else aGuard ops σ.tm o.guard (aPure P G σ.bx (evOf G σ.tm) o.op σ.nx fun c nx' => ladops P G ops a s rest (i + 1) cs ⟨putT σ.tm o.dst c, σ.bx, nx', σ.lg⟩ K)
      (ladops P G ops a s rest (i + 1) cs ⟨putT σ.tm o.dst (.sc undef), σ.bx, σ.nx, σ.lg⟩ K)
structure LChain (P : Program) (G : Globs) (bx : List (List C)) (ops : Array Oper) (a s : Nat) (l : List Oper) (m m' : Nat) (D : Data) : Prop where
  step : ∀ (i : Nat) o, m ≤ i → i < m' → l[i]? = some o → D.T (i + 1) = putT (D.T i) o.dst (D.c i) ∧ D.X i ≤ D.X (i + 1) ∧
    ((i = a ∧ D.c i = .any ∧ D.X (i + 1) = D.X i ∧ ∃ t kd k b z, o.op = .alloc t ∧ lay P t = some ⟨kd, k, b, some z⟩ ∧ z.length = k ∧ (z.all Value.oneCell') = true) ∨
     (i ≠ a ∧ i = s ∧ D.c i = .any ∧ D.X (i + 1) = D.X i ∧ ∃ t q x L, o.op = .store t q x ∧ lay P t = some L ∧ (evOf G (D.T i) x).partB = true ∧ ((evOf G (D.T i) x).cells.all C.cellB) = true ∧ (evOf G (D.T i) x).cells.length = L.size) ∨
     (i ≠ a ∧ i ≠ s ∧ guardIs ops (D.T i) o.guard (D.wn i) ∧ (D.wn i = true → PureSem P G bx (restr o (evOf G (D.T i))) (D.X i) o (D.c i) (D.X (i + 1))) ∧ (D.wn i = false → D.c i = .sc undef ∧ D.X (i + 1) = D.X i)))
theorem LChain.skel {a s : Nat} {l : List Oper} {m m' : Nat} {D : Data} (h : LChain P G bx ops a s l m m' D) : Skel l m m' D := ⟨fun i o a b c => ⟨(h.step i o a b c).1, (h.step i o a b c).2.1⟩⟩
theorem lchain_seg {ops : Array Oper} {a s : Nat} {all : List Oper} {K : St → Prop} : ∀ (l : List Oper) (m : Nat) (cs : Option (List C)) (σ : St), all.drop m = l → m ≤ all.length → ladops P G ops a s l m cs σ K →
    ∃ (D : Data) (p : Nat) (ct : List C), D.T m = σ.tm ∧ D.X m = σ.nx ∧ LChain P G σ.bx ops a s all m all.length D ∧ (ops[a]?).bind (·.dst) = some p ∧ K ⟨(p, .ptr σ.bx.length 0) :: D.T all.length, σ.bx ++ [ct], D.X all.length, σ.lg⟩ ∧
      (cs = some ct ∨ (m ≤ s ∧ s < all.length ∧ ∀ o t q x, all[s]? = some o → o.op = .store t q x → ct = (evOf G (D.T s) x).cells))
  | [], m, cs, σ, hl, hm, h => by
    have : m = all.length := by
      have := congrArg List.length hl
      simp at this; omega
    subst this
    unfold ladops at h
    split at h
    · rename_i cs p hp
      exact ⟨⟨fun _ => σ.tm, fun _ => σ.nx, fun _ => .any, fun _ => true⟩, p, cs, rfl, rfl, ⟨fun i o h1 h2 => by omega⟩, hp, h, .inl rfl⟩
    · exact h.elim
  | o :: rest, m, cs, σ, hl, hm, h => by
    have hlt : m < all.length := by
      rcases Nat.lt_or_ge m all.length with g | g
      · exact g
      · rw [List.drop_eq_nil_of_le g] at hl; cases hl
    have hom : all[m]? = some o := by
      have := List.getElem?_drop (xs := all) (i := m) (j := 0)
      rw [hl] at this; simpa using this.symm
    have hrest : all.drop (m + 1) = rest := by
      have := congrArg List.tail hl
      simpa using this
    have key : ∀ (c : C) (nx' : Nat) (b : Bool) (cs' : Option (List C)), σ.nx ≤ nx' →
        ((m = a ∧ c = .any ∧ nx' = σ.nx ∧ ∃ t kd k b z, o.op = .alloc t ∧ lay P t = some ⟨kd, k, b, some z⟩ ∧ z.length = k ∧ (z.all Value.oneCell') = true) ∨
         (m ≠ a ∧ m = s ∧ c = .any ∧ nx' = σ.nx ∧ ∃ t q x L, o.op = .store t q x ∧ lay P t = some L ∧ (evOf G σ.tm x).partB = true ∧ ((evOf G σ.tm x).cells.all C.cellB) = true ∧ (evOf G σ.tm x).cells.length = L.size) ∨
         (m ≠ a ∧ m ≠ s ∧ guardIs ops σ.tm o.guard b ∧ (b = true → PureSem P G σ.bx (restr o (evOf G σ.tm)) σ.nx o c nx') ∧ (b = false → c = .sc undef ∧ nx' = σ.nx))) →
        (cs' = cs ∨ (m = s ∧ ∀ t q x, o.op = .store t q x → cs' = some (evOf G σ.tm x).cells)) →
        ladops P G ops a s rest (m + 1) cs' ⟨putT σ.tm o.dst c, σ.bx, nx', σ.lg⟩ K →
        ∃ (D : Data) (p : Nat) (ct : List C), D.T m = σ.tm ∧ D.X m = σ.nx ∧ LChain P G σ.bx ops a s all m all.length D ∧ (ops[a]?).bind (·.dst) = some p ∧ K ⟨(p, .ptr σ.bx.length 0) :: D.T all.length, σ.bx ++ [ct], D.X all.length, σ.lg⟩ ∧
          (cs = some ct ∨ (m ≤ s ∧ s < all.length ∧ ∀ o t q x, all[s]? = some o → o.op = .store t q x → ct = (evOf G (D.T s) x).cells)) := fun c nx' b cs' hle hcase hcs hr => by
      obtain ⟨D, p, ct, d1, d2, d3, d4, d5, d6⟩ := lchain_seg rest (m + 1) cs' _ hrest (by omega) hr
      refine ⟨⟨fun i => if i ≤ m then σ.tm else D.T i, fun i => if i ≤ m then σ.nx else D.X i, fun i => if i = m then c else D.c i, fun i => if i = m then b else D.wn i⟩, p, ct, by simp, by simp, ⟨fun i o' hi hi' hio => ?_⟩, d4, ?_, ?_⟩
      · by_cases him : i = m
        · subst him
          rw [hom] at hio; cases hio
          simp only [Nat.le_refl, if_true, show ¬ i + 1 ≤ i by omega, if_false]
          exact ⟨d1, by rw [d2]; exact hle, by rw [d2]; exact hcase⟩
        · simp only [if_neg him, if_neg (show ¬ i ≤ m by omega), if_neg (show ¬ i + 1 ≤ m by omega)]
          exact d3.step i o' (by omega) hi' hio
      · simp only [if_neg (show ¬ all.length ≤ m by omega)]
        exact d5
      · rcases d6 with g | ⟨g1, g2, g3⟩
        · rcases hcs with e | ⟨e1, e2⟩
          · exact .inl (by rw [← e]; exact g)
          · refine .inr ⟨by omega, by omega, fun o' t q x ho hop => ?_⟩
            subst e1
            rw [hom] at ho; cases ho
            simp only [Nat.le_refl, if_true]
            have := e2 t q x hop
            rw [g] at this
            exact Option.some.inj this
        · refine .inr ⟨by omega, g2, fun o' t q x ho hop => ?_⟩
          simp only [if_neg (show ¬ s ≤ m by omega)]
          exact g3 o' t q x ho hop
    unfold ladops at h
    split at h
    · rename_i hma
      split at h
      · rename_i t ho
        unfold aLaid at h
        split at h
        · rename_i kd k b z hl'
          exact key .any σ.nx true cs (Nat.le_refl _) (.inl ⟨hma, rfl, rfl, t, kd, k, b, z, ho, hl', h.1, h.2.1⟩) (.inl rfl) h.2.2
        · exact h.elim
      · exact h.elim
    · rename_i hma
      split at h
      · rename_i hms
        split at h
        · rename_i t q x ho
          unfold aLate at h
          split at h
          · rename_i L hL
            obtain ⟨h1, h2, h3, h4⟩ := h
            exact key .any σ.nx true (some (evOf G σ.tm x).cells) (Nat.le_refl _) (.inr (.inl ⟨hma, hms, rfl, rfl, t, q, x, L, ho, hL, h1, h2, h3⟩)) (.inr ⟨hms, fun t' q' x' ho' => by rw [ho] at ho'; cases ho'; rfl⟩) h4
          · exact h.elim
        · exact h.elim
      · rename_i hms
        obtain ⟨b, hg, h1, h2⟩ := aGuard.out h
        cases b with
        | true =>
          obtain ⟨c, nx', hp, hK⟩ := aPure_restr (h1 rfl)
          exact key c nx' true cs hp.1 (.inr (.inr ⟨hma, hms, hg, fun _ => hp, (fun h => by cases h)⟩)) (.inl rfl) hK
        | false => exact key (.sc undef) σ.nx false cs (Nat.le_refl _) (.inr (.inr ⟨hma, hms, hg, (fun h => by cases h), fun _ => ⟨rfl, rfl⟩⟩)) (.inl rfl) (h2 rfl)
/-- the block that was laid, beside the state -/
structure SideG (E : Ctx) (R : Env) (L : Loc) (p : Nat) (a : Act) (g : Nat) (vs : Array Value) (ty : TypeId) : Prop where
  ptr : a.tmps.getD p undef = .pointer (some ⟨g, 0, none⟩)
  heap : R.w.heap[g]? = some (.cells vs ty (0, 0))
  turn : ∀ o, R.M g o
  new : E.w0.heap.size ≤ g
  fgn : ¬ R.F g
  box : g ∉ L.β
  own : ∀ id e k v, L.T id = some (e, k, v) → v.ownBlock ≠ some g
  one : ∀ v ∈ vs.toList, v.oneCell' = true
theorem SideG.step {R R' : Env} {L L' : Loc} {p nx nx' g : Nat} {a : Act} {vs : Array Value} {ty : TypeId} (h : SideG E R L p a g vs ty) (st : PStep nx nx' R L R' L') {dst : Option Tmp} {v : Value} (hd : dst ≠ some p) : SideG E R' L' p (a.put dst v) g vs ty := by
  have hlt := heap_lt h.heap
  refine ⟨?_, (st.below.block g hlt).trans h.heap, fun o => (st.mt g o hlt).2 (h.turn o), h.new, by rw [st.fgn]; exact h.fgn, by rw [st.box]; exact h.box, fun id e k v ht hv => ?_, h.one⟩
  · rw [← h.ptr]
    cases dst with
    | none => rfl
    | some d =>
      have hne : d ≠ p := fun e => hd (by rw [e])
      simp [Act.put, Array.getD_eq_getD_getElem?, Array.getElem?_setIfInBounds_ne hne]
  · rcases st.cases ht with hi | ⟨hi, hj⟩
    · exact h.own id e k v hi hv
    · have := ((st.new id e k v hi hj ht).block hv).1; omega
/-- the block becomes a box -/
theorem InvV.adopt {tm : List (Nat × C)} {nx lg p g : Nat} {R : Env} {L : Loc} {cs : List C} {vs : Array Value} {ty : TypeId} (h : InvV G E ⟨tm, bx, nx, lg⟩ a R L) (hs : SideG E R L p a g vs ty) (hr : RepL R L cs vs.toList) :
    InvV G E ⟨(p, .ptr bx.length 0) :: tm, bx ++ [cs], nx, lg⟩ a R ⟨L.β ++ [g], L.T⟩ := by
  have hg := h.good
  have hlen := hg.fit.boxes.len
  have hlen : L.β.length = bx.length := hlen
  have hle : LocLe L ⟨L.β ++ [g], L.T⟩ := ⟨fun i b e => by
    show (L.β ++ [g])[i]? = some b
    rw [List.getElem?_append_left (List.getElem?_eq_some_iff.1 e).1]; exact e, fun _ _ e => e⟩
  refine ⟨⟨⟨hg.fit.glob, ⟨by simp [hlen], ?_, fun i b cs' hi hc => ?_⟩, ⟨fun id e k v ht => ?_, hg.fit.owns.apart⟩, hg.fit.base⟩, hg.os, hg.tape, hg.output, hg.size, hg.blk, hg.ext, ?_, fun b hb => ?_, hg.flt, hg.fz, fun b hb => ?_, hg.fow, hg.free, hg.log⟩, h.size, h.df, fun t => ?_⟩
  · show (L.β ++ [g]).Nodup
    rw [List.nodup_append]
    refine ⟨hg.fit.boxes.nodup, by simp, fun x hx y hy e => ?_⟩
    simp at hy; subst hy; subst e
    exact hs.box hx
  · have hi : (L.β ++ [g])[i]? = some b := hi
    rcases Nat.lt_or_ge i L.β.length with hl | hl
    · rw [List.getElem?_append_left hl] at hi
      rw [List.getElem?_append_left (by omega)] at hc
      obtain ⟨us, ty', e1, e2, e3, e4⟩ := hg.fit.boxes.box i b cs' hi hc
      exact ⟨us, ty', e1, RepL.ext (Ext.refl R) hle _ _ e2, e3, e4⟩
    · rw [List.getElem?_append_right hl] at hi
      rw [List.getElem?_append_right (by omega)] at hc
      have h0 : i - L.β.length = 0 := by
        have := (List.getElem?_eq_some_iff.1 hi).1
        simp at this; omega
      rw [h0] at hi
      rw [show i - bx.length = 0 by omega] at hc
      simp at hi hc
      subst hi hc
      exact ⟨vs, ty, hs.heap, RepL.ext (Ext.refl R) hle _ _ hr, hs.one, hs.turn⟩
  · rcases hg.fit.owns.own id e k v ht with q | ⟨g', n', cap, cur, _, q1, q2, q3, q4, q5, q6, q7, q8⟩
    · exact .inl q
    · refine .inr ⟨g', n', cap, cur, _, q1, q2, q3, q4, q5, q6, fun hx => ?_, q8⟩
      have hx : g' ∈ L.β ++ [g] := hx
      rcases List.mem_append.1 hx with hx | hx
      · exact q7 hx
      · simp at hx; subst hx
        exact hs.own id e k v ht (by rw [q1]; rfl)
  · obtain ⟨more, hm⟩ := hg.box
    exact ⟨more ++ [g], by show L.β ++ [g] = _; rw [hm, List.append_assoc]⟩
  · have hb : b ∈ L.β ++ [g] := hb
    rcases List.mem_append.1 hb with hb | hb
    · exact hg.tub b hb
    · simp at hb; subst hb; exact .inl hs.new
  · have hb : b ∈ L.β ++ [g] := hb
    rcases List.mem_append.1 hb with hb | hb
    · exact hg.fbx b hb
    · simp at hb; subst hb; exact hs.fgn
  · show Rep R _ (if t = p then _ else getC tm t) _
    split
    · subst_vars
      exact rep_ptr.2 ⟨g, by show (L.β ++ [g])[bx.length]? = _; rw [← hlen]; simp, hs.ptr⟩
    · exact Rep.ext (Ext.refl R) hle _ _ (h.tm t)
/-- what a fill leaves -/
theorem Good.fill {σ : St} {R : Env} {L : Loc} {p g : Nat} {vs us : Array Value} {ty : TypeId} (h : Good G E σ R L) (hs : SideG E R L p a g vs ty) : Nigh E.w0 E.ex R ⟨R.w.setRow g us, R.M, R.F⟩ ∧ Good G E σ ⟨R.w.setRow g us, R.M, R.F⟩ L := by
  have hext : Ext R ⟨R.w.setRow g us, R.M, R.F⟩ := ⟨fun b' o v hcell hm => ⟨by
    have hne : b' ≠ g := fun e => hm (e ▸ hs.turn o)
    rw [cell_setRow_other R.w g us b' o hne]; exact hcell, hm⟩⟩
  have hn : Nigh E.w0 E.ex R ⟨R.w.setRow g us, R.M, R.F⟩ := ⟨rfl, rfl, rfl, by rw [size_setRow]; exact Nat.le_refl _, rfl, hext, fun k hk => by
    by_cases hkb : k = g
    · subst hkb; exact .inr ⟨.inl hs.new, hs.fgn⟩
    · exact .inl ⟨setRow_other R.w g k us hkb, fun _ => Iff.rfl⟩⟩
  refine ⟨hn, h.move hn ⟨h.fit.glob.ext hext, ⟨h.fit.boxes.len, h.fit.boxes.nodup, fun i b cs hi hc => ?_⟩, ⟨fun id e k v ht => ?_, h.fit.owns.apart⟩, fun q hq => ?_⟩ ⟨[], by rw [List.append_nil], fun b hb => by cases hb⟩ (fun id e k v b ht hv => .inl ⟨id, e, k, v, ht, hv⟩) h.free⟩
  · obtain ⟨ws, ty', e1, e2, e3, e4⟩ := h.fit.boxes.box i b cs hi hc
    have hne : b ≠ g := fun e => hs.box (e ▸ List.mem_of_getElem? hi)
    exact ⟨ws, ty', (setRow_other R.w g b us hne).trans e1, RepL.ext hext (LocLe.refl _) _ _ e2, e3, e4⟩
  · rcases h.fit.owns.own id e k v ht with q | ⟨g', n', cap, cur, _, q1, q2, q3, q4, q5, q6, q7, q8⟩
    · exact .inl q
    · have hne : g' ≠ g := fun e' => hs.own id e k v ht (by rw [q1, ← e']; rfl)
      exact .inr ⟨g', n', cap, cur, _, q1, q2, (setRow_other R.w g g' us hne).trans q3, q4, q5, q6, q7, q8⟩
  · exact h.fit.base q (by
      have hq : (R.w.setRow g us).heap.size ≤ q := hq
      rwa [size_setRow] at hq)
theorem lateOk.out {al st : Nat} (h : lateOk ops al st = true) : ∃ oa os p t x, ops.toList[al]? = some oa ∧ ops.toList[st]? = some os ∧ oa.dst = some p ∧ oa.op = .alloc t ∧ oa.guard = none ∧ os.dst = none ∧ os.op = .store t (.tmp p) x ∧ os.guard = none ∧ al < st ∧
    inC (clsUpto ops.toList ops.size) st al = true ∧ ∀ (i : Nat) o, ops.toList[i]? = some o → i ≠ al → o.dst ≠ some p := by
  unfold lateOk at h
  split at h
  · rename_i p t ty1 pos1 af1 t' p' x ty2 pos2 af2 h1 h2
    simp only [Bool.and_eq_true, beq_iff_eq, decide_eq_true_eq] at h
    obtain ⟨⟨⟨⟨rfl, rfl⟩, h3⟩, h4⟩, h5⟩ := h
    refine ⟨_, _, p, t, x, by rw [Array.getElem?_toList]; exact h1, by rw [Array.getElem?_toList]; exact h2, rfl, rfl, rfl, rfl, rfl, rfl, h3, h4, fun i o ho hne hd => ?_⟩
    have := List.all_eq_true.1 h5 (o, i) (List.mem_zipIdx_iff_getElem?.2 ho)
    simp [hd, hne] at this
  · cases h
theorem guard_none {l : Array Bool} {o : Oper} (h : o.guard = none) (f : Nat → Option Bool) : Region.wanted o f = true := by
  unfold Region.wanted; rw [h]
/-- a store into the block that was laid -/
theorem run_fillG {t : TypeId} {o : Oper} {p g : Nat} {x : Operand} {R : Env} {L : Loc} {vs : Array Value} {ty : TypeId} {Ly : Lay} {c : C} (ho : o.op = .store t (.tmp p) x) (hl : lay P t = some Ly) (hs : SideG E R L p a g vs ty) (hx : Rep R L c (a.eval x)) (h1 : c.partB = true) (h2 : (c.cells.all C.cellB) = true) (h3 : c.cells.length = Ly.size) (hsz : vs.size = Ly.size) :
    ∃ us : Array Value, (execOp a.eval o).run P R.w = .ok .skip (R.w.setRow g us) ∧ RepL R L c.cells us.toList ∧ us.size = Ly.size ∧ ∀ v ∈ us.toList, v.oneCell' = true := by
  have hxc := rep_cells hx h1
  have hxl := repL_length hxc
  simp only [Array.length_toList] at hxl
  have hone := repL_one hxc h2
  have hst := run_storeCells_at P g 0 ty (a.eval x).cells.toList 0 vs R.w hs.heap (by simp; omega) hone
  simp only [Nat.add_zero, Nat.zero_add] at hst
  have hpv : a.eval (.tmp p) = .pointer (some ⟨g, 0, none⟩) := hs.ptr
  have hall : (vs.toList.take 0 ++ (a.eval x).cells.toList ++ vs.toList.drop ((a.eval x).cells.toList.length)) = (a.eval x).cells.toList := by
    rw [List.take_zero, List.nil_append, List.drop_of_length_le (by simp; omega), List.append_nil]
  rw [hall] at hst
  refine ⟨(a.eval x).cells, ?_, hxc, by omega, hone⟩
  have hszz := lay_sizeOf hl R.w
  unfold execOp
  simp only [ho, hpv, Instr.storeAt, Instr.sureAddr, storeVar, Sem.run_bind, Sem.run_pure, Result.andThen_ok, hszz]
  rw [if_neg (by omega)]
  simp only [Sem.run_bind, hst, Result.andThen_ok, Sem.run_pure]
theorem late_seg {r : Option Nat} {n lg al st p : Nat} {ct : List C} {Q : Exit → Act → World → Prop} {D : Data} (hN : ∀ o ∈ ops.toList, dstOk E.N o.dst) (hok : regOk ops = true) (hlo : lateOk ops al st = true) (hc : LChain P G bx ops al st ops.toList 0 ops.toList.length D)
    (hp : (ops[al]?).bind (·.dst) = some p) (hct : ∀ o t q x, ops.toList[st]? = some o → o.op = .store t q x → ct = (evOf G (D.T st) x).cells)
    (hEnd : ∀ (a : Act) (R : Env) (L : Loc), InvV G E ⟨(p, .ptr bx.length 0) :: D.T ops.toList.length, bx ++ [ct], D.X ops.toList.length, lg⟩ a R L → Q .normal a R.w) : ∀ (fuel : Nat) (listed : Array Bool) (a : Act) (R : Env) (L : Loc), listed.size = ops.size → listed.toList.count false ≤ fuel →
    Closed ops.toList (fun i => listed.getD i false) → (∀ i, ops.size ≤ i → listed.getD i false = false) → InvD G E bx lg ops.toList 0 ops.toList.length D (fun i => listed.getD i false) a R L →
    (listed.getD al false = true → ∃ g vs ty, SideG E R L p a g vs ty ∧ (∀ kd k b z t, lay P t = some ⟨kd, k, b, z⟩ → (∃ o, ops.toList[al]? = some o ∧ o.op = .alloc t) → vs.size = k) ∧ (listed.getD st false = true → RepL R L ct vs.toList)) → wpAnyIn (Fl r) n P .any ops Q fuel listed a R.w := by
  obtain ⟨oa, os, p', t, x, la1, ls1, la2, la3, la4, ls2, ls3, ls4, hlt, hcl0, honly⟩ := lateOk.out hlo
  have hpp : p' = p := by
    have : ops[al]? = some oa := by rw [← Array.getElem?_toList]; exact la1
    rw [this] at hp
    have hp : oa.dst = some p := hp
    rw [la2] at hp; exact Option.some.inj hp
  subst hpp
  have hl : ops.toList.length ≤ ops.toList.length := Nat.le_refl _
  have done : ∀ (listed : Array Bool) (a : Act) (R : Env) (L : Loc), listed.size = ops.size → (∀ i, i < ops.size → listed.getD i false = true) → InvD G E bx lg ops.toList 0 ops.toList.length D (fun i => listed.getD i false) a R L →
      (listed.getD al false = true → ∃ g vs ty, SideG E R L p' a g vs ty ∧ (∀ kd k b z t, lay P t = some ⟨kd, k, b, z⟩ → (∃ o, ops.toList[al]? = some o ∧ o.op = .alloc t) → vs.size = k) ∧ (listed.getD st false = true → RepL R L ct vs.toList)) → Q .normal a R.w := fun listed a R L hsz h1 h hside => by
    have hsl : st < ops.size := by simpa using (List.getElem?_eq_some_iff.1 ls1).1
    obtain ⟨g, vs, ty, q1, _, q2⟩ := hside (h1 al (by omega))
    refine hEnd a R ⟨L.β ++ [g], L.T⟩ (InvV.adopt (tm := D.T ops.toList.length) (nx := D.X ops.toList.length) (lg := lg) (cs := ct) (p := p') (g := g) (vs := vs) (ty := ty) ⟨{ h.good with }, h.size, h.df, fun t => ?_⟩ q1 (q2 (h1 st hsl)))
    have ht := h.tm t
    rw [val_congr (D' := fun j => decide (0 ≤ j)) ops.toList.length fun j hj _ => by rw [h1 j (by simpa using hj)]; simp] at ht
    show Rep R L (getC (D.T ops.toList.length) t) _
    rw [val_text hl hc.skel t _ (Nat.zero_le _) (Nat.le_refl _)]
    exact ht
  intro fuel
  induction fuel with
  | zero =>
    intro listed a R L hsz hcnt hcl h2 h hside
    have hall : ∀ i, i < ops.size → listed.getD i false = true := fun i hi => by
      cases hq : listed.getD i false with
      | true => rfl
      | false =>
        have : listed.toList[i]? = some false := by
          rw [Array.getD_eq_getD_getElem?, Array.getElem?_eq_getElem (by omega)] at hq
          simp [show i < listed.size by omega]; simpa using hq
        have hpos : 0 < listed.toList.count false := List.count_pos_iff.2 (List.mem_of_getElem? this)
        omega
    have hre : Region.ready .any ops listed = [] := by
      cases hq : Region.ready .any ops listed with
      | nil => rfl
      | cons i rest =>
        obtain ⟨o, ho, h3, _⟩ := ready_mem (ops := ops) (listed := listed) (i := i) (by rw [hq]; simp)
        have hio : i < ops.size := by simpa using (List.getElem?_eq_some_iff.1 ho).1
        have := (listed_false hsz hio h3).1
        rw [hall i hio] at this; cases this
    exact ⟨hre, done listed a R L hsz hall h hside⟩
  | succ fuel ih =>
    intro listed a R L hsz hcnt hcl h2 h hside
    refine ⟨fun hr => done listed a R L hsz (ready_none hok hsz hr) h hside, fun i hi => ?_⟩
    obtain ⟨o, ho, hl0, hpre⟩ := ready_mem hi
    have hio : i < ops.size := by simpa using (List.getElem?_eq_some_iff.1 ho).1
    obtain ⟨hlf, hil'⟩ := listed_false hsz hio hl0
    have hil : i < listed.size := by omega
    have hcnt' : (listed.setIfInBounds i true).toList.count false ≤ fuel := by
      have := count_set_true hil'
      rw [Array.toList_setIfInBounds]; omega
    have hset : ∀ j, (listed.setIfInBounds i true).getD j false = (listed.getD j false || j == i) := fun j => congrFun (getD_set hil) j
    have next : ∀ (a' : Act) (R' : Env) (L' : Loc), InvD G E bx lg ops.toList 0 ops.toList.length D (fun x => listed.getD x false || x == i) a' R' L' →
        ((listed.getD al false || al == i) = true → ∃ g vs ty, SideG E R' L' p' a' g vs ty ∧ (∀ kd k b z t, lay P t = some ⟨kd, k, b, z⟩ → (∃ o, ops.toList[al]? = some o ∧ o.op = .alloc t) → vs.size = k) ∧ ((listed.getD st false || st == i) = true → RepL R' L' ct vs.toList)) →
        wpAnyIn (Fl r) n P .any ops Q fuel (listed.setIfInBounds i true) a' R'.w := fun a' R' L' hi' hs' =>
      ih _ _ R' L' (by simpa using hsz) hcnt' (closed_set hil hcl ho hpre) (fun j hj => by rw [hset, h2 j hj]; simp; omega) (by rw [getD_set hil]; exact hi') (by rw [hset, hset]; exact hs')
    obtain ⟨c1, c2, c3⟩ := hc.step i o (Nat.zero_le _) (by simpa using hio) ho
    have hmi' : i < ops.toList.length := by simpa using hio
    have hev := h.ev hl hc.skel hok hcl (Nat.zero_le _) hmi' ho hlf hpre
    have hop : ∀ x ∈ o.op.operands, Rep R L (evOf G (D.T i) x) (a.eval x) := fun x hx => by
      cases x with
      | tmp t =>
        refine hev t ?_
        unfold touches Oper.looksAt
        exact List.mem_append_left _ (List.mem_append_left _ (List.mem_filterMap.2 ⟨.tmp t, by simpa using hx, rfl⟩))
      | const v => exact rep_ofConst R L v
      | global g =>
        simp only [evOf]
        cases hg : G g with
        | none => unfold Rep; trivial
        | some cs => exact rep_row.2 ⟨g, 0, rfl, h.good.fit.glob g cs hg⟩
      | func f => exact rep_clo.2 ⟨#[], #[], rfl, repL_nil.2 rfl, repL_nil.2 rfl⟩
    have hoa : ops[i]? = some o := by simpa using ho
    unfold wpOpIn
    rw [hoa]
    simp only
    rcases c3 with ⟨hia, hca, hxa, t1, kd, k, b, z, hot, hly, hzk, hz1⟩ | ⟨hna, his, hca, hxs, t1, q, x1, Ly, hot, hly, h1, h2', h3⟩ | ⟨hna, hns, c3, c4, c5⟩
    · -- the variable is laid
      subst hia
      rw [la1] at ho; cases ho
      rw [la3] at hot; cases hot
      have hw : Region.wanted oa (yielded ops a.tmps) = true := guard_none (l := listed) la4 _
      simp only [hw, if_true]
      obtain ⟨ti, d, hti, htd, _, _, _, hz⟩ := lay_spec hly
      cases hiz : ti.zero with
      | none => simp [hiz] at hz
      | some zv =>
        simp only [hiz, Option.map_some, Option.some.injEq] at hz
        subst hz
        have hzz : (zeroValue t).run P R.w = .ok zv R.w := by simp [zeroValue, typeInfo, hti, hiz]
        refine runs_wpIn (Runs.value (w' := R.w.alloc (.cells zv.cells t (0, 0))) (v := .pointer (some ⟨R.w.heap.size, 0, none⟩)) (by
          unfold execOp
          simp [la3, Instr.alloc, hzz, newVar, newRow]) ?_)
        have hbel : Below R.w.heap.size R.w (R.w.alloc (.cells zv.cells t (0, 0))) := (Below.refl _ _).alloc (Nat.le_refl _) _
        have hmt : ∀ b o, b < R.w.heap.size → (((b < R.w.heap.size ∧ R.M b o) ∨ b = R.w.heap.size) ↔ R.M b o) := fun b o hlt => ⟨fun h' => by rcases h' with h' | h'; exact h'.2; omega, fun h' => .inl ⟨hlt, h'⟩⟩
        have stp : PStep (D.X i) (D.X (i + 1)) R L ⟨R.w.alloc (.cells zv.cells t (0, 0)), fun b o => (b < R.w.heap.size ∧ R.M b o) ∨ b = R.w.heap.size, R.F⟩ L := by
          rw [hxa]
          exact ⟨hbel, rfl, rfl, hmt, fun _ _ => rfl, fun id e k v h h' => by omega, fun id id' e k v e' k' v' b h h' => by omega⟩
        have hst0 : listed.getD st false = false := by
          cases hq : listed.getD st false with
          | false => rfl
          | true =>
            have := cls_sound hcl _ st i hcl0 hq
            rw [this] at hlf; cases hlf
        refine next _ _ L (h.put hl hc.skel hok hcl (Nat.zero_le _) hmi' la1 hlf hpre (hN _ (List.mem_of_getElem? la1)) stp (by rw [hca]; unfold Rep; trivial)) fun _ => ⟨R.w.heap.size, zv.cells, t, ⟨?_, heap_alloc_new _ _, fun o => .inr rfl, h.good.size, fun hF => ?_, fun hb => ?_, fun id e k v ht hv => ?_, fun v hv => List.all_eq_true.1 hz1 v hv⟩, fun kd' k' b' z' t' hl' ⟨o', ho', hop'⟩ => ?_, fun hst => ?_⟩
        · have hd := hN _ (List.mem_of_getElem? la1)
          rw [la2] at hd ⊢
          have hlt2 : p' < a.tmps.size := by rw [h.size]; exact hd
          simp [Act.put, Array.getD_eq_getD_getElem?, hlt2]
        · have := h.good.flt _ hF; omega
        · have := h.good.fit.β_lt _ hb; omega
        · have := ((h.good.fit.owns.own id e k v ht).block hv).2.1; omega
        · rw [la1] at ho'; cases ho'
          rw [la3] at hop'; cases hop'
          rw [hly] at hl'; cases hl'
          simpa using hzk
        · rw [hst0] at hst
          have : st = i := by simpa using hst
          omega
    · -- the variable is filled
      subst his
      rw [ls1] at ho; cases ho
      have hot0 := hot
      rw [ls3] at hot; cases hot
      have hw : Region.wanted os (yielded ops a.tmps) = true := guard_none (l := listed) ls4 _
      simp only [hw, if_true]
      have hal : listed.getD al false = true := by
        have hS' : Closed ops.toList (fun x => listed.getD x false || x == i) := fun k q hq hk e he hb => by
          simp only [Bool.or_eq_true, beq_iff_eq] at hk ⊢
          rcases hk with hk | hk
          · exact .inl (hcl k q hq hk e he hb)
          · subst hk; rw [ls1] at hq; cases hq
            exact .inl (hpre e he hb)
        have := cls_sound hS' _ i al hcl0 (by simp)
        simp only [Bool.or_eq_true, beq_iff_eq] at this
        exact this.resolve_right (by omega)
      obtain ⟨g, vs, ty, q1, q2, _⟩ := hside hal
      have hsize : vs.size = Ly.size := q2 _ _ _ _ t hly ⟨oa, la1, la3⟩
      obtain ⟨us, u1, u2, u3, u4⟩ := run_fillG ls3 hly q1 (hop x (by rw [ls3]; simp [Op.operands])) h1 h2' h3 hsize
      obtain ⟨hn, hgood⟩ := h.good.fill (us := us) q1
      have hput : ∀ v, a.put os.dst v = a := fun v => by rw [ls2]; rfl
      refine runs_wpIn ?_
      unfold Runs
      rw [u1]
      show wpAnyIn _ _ _ _ _ _ _ _ (a.put os.dst undef) _
      rw [hput]
      have hs' : SideG E ⟨R.w.setRow g us, R.M, R.F⟩ L p' a g us ty := ⟨q1.ptr, setRow_heap R.w g vs us ty (0, 0) q1.heap, q1.turn, q1.new, q1.fgn, q1.box, q1.own, u4⟩
      refine next a ⟨R.w.setRow g us, R.M, R.F⟩ L ⟨hgood, fun id hid hfr => h.free id hid fun j hmj hj hsj => hfr j hmj hj (by simp [hsj]), h.size, ?_, fun t => ?_⟩ fun _ => ⟨g, us, ty, hs', fun kd' k' b' z' t' hl' ⟨o', ho', hop'⟩ => ?_, fun _ => ?_⟩
      · obtain ⟨l, e, hl', hd⟩ := h.df
        refine ⟨l, e, hl', fun d hdm => ?_⟩
        obtain ⟨g1, g2, g3⟩ := hd d hdm
        refine ⟨?_, g2, g3⟩
        have hne : d ≠ g := fun e => by rw [e, q1.heap] at g1; cases g1
        exact (setRow_other R.w g d us hne).trans g1
      · have hold := Rep.ext hn.ext (LocLe.refl _) _ _ (h.tm t)
        have e1 : val (D.T 0) ops.toList D.c (fun j => decide (0 ≤ j) && (listed.getD j false || j == i)) ops.toList.length t = val (D.T 0) ops.toList D.c (fun j => decide (0 ≤ j) && listed.getD j false) ops.toList.length t := val_congr _ fun j hj hdj => by
          have hji : j ≠ i := fun e => by
            subst e; rw [ls1] at hdj
            have hdj : os.dst = some t := hdj
            rw [ls2] at hdj; cases hdj
          have hj2 : (j == i) = false := by simpa using hji
          show (decide (0 ≤ j) && (listed.getD j false || j == i)) = _
          rw [hj2, Bool.or_false]
        rw [e1]; exact hold
      · rw [u3, ← hsize]
        exact q2 kd' k' b' z' t' hl' ⟨o', ho', hop'⟩
      · rw [hct os t (.tmp p') x ls1 ls3]
        exact RepL.ext hn.ext (LocLe.refl _) _ _ u2
    · -- any other one
      have hdp : o.dst ≠ some p' := honly i o ho hna
      have hstep : ∀ (v : Value) (R' : Env) (L' : Loc), PStep (D.X i) (D.X (i + 1)) R L R' L' → Rep R' L' (D.c i) v → wpAnyIn (Fl r) n P .any ops Q fuel (listed.setIfInBounds i true) (a.put o.dst v) R'.w := fun v R' L' stp hv =>
        next _ R' L' (h.put hl hc.skel hok hcl (Nat.zero_le _) hmi' ho hlf hpre (hN o (List.mem_of_getElem? ho)) stp hv) fun hal => by
          have hal' : listed.getD al false = true := by
            simp only [Bool.or_eq_true, beq_iff_eq] at hal
            exact hal.resolve_right fun e => hna e.symm
          obtain ⟨g, vs, ty, q1, q2, q3⟩ := hside hal'
          refine ⟨g, vs, ty, q1.step stp hdp, q2, fun hst => ?_⟩
          have hst' : listed.getD st false = true := by
            simp only [Bool.or_eq_true, beq_iff_eq] at hst
            exact hst.resolve_right fun e => hns e.symm
          exact RepL.ext stp.ext (stp.le (h.freeAt hl hc.skel (Nat.zero_le _) hmi' hlf)) _ _ (q3 hst')
      have hguard : Region.wanted o (yielded ops a.tmps) = D.wn i := guard_wanted (tm := D.T i) rfl c3 fun j want d hg hd => by
        have ht : d ∈ touches ops o := by
          unfold touches Oper.looksAt
          rw [hg]
          simp [hd]
        refine ⟨?_, hev d ht⟩
        rw [h.size]
        cases hj : ops[j]? with
        | none => rw [hj] at hd; cases hd
        | some o' =>
          rw [hj] at hd
          have hd' : o'.dst = some d := hd
          have := hN o' (by rw [Array.mem_toList_iff]; exact Array.mem_of_getElem? hj)
          rw [hd'] at this; exact this
      simp only [hguard]
      cases hw : D.wn i with
      | true =>
        simp only [if_true]
        refine runs_wpIn ?_
        refine ((c4 hw).2 _ R L a.eval h.good.fit (h.freeAt hl hc.skel (Nat.zero_le _) hmi' hlf) fun x => ?_).mono fun v w' ⟨R', L', hw', stp, hv⟩ => ?_
        · unfold restr
          split
          · rename_i hx; exact hop x hx
          · unfold Rep; trivial
        · rw [← hw']; exact hstep v R' L' stp hv
      | false =>
        simp only [Bool.false_eq_true, if_false]
        refine ⟨fun f _ => trivial, ?_⟩
        obtain ⟨d1, d2⟩ := c5 hw
        have stp : PStep (D.X i) (D.X (i + 1)) R L R L := by rw [d2]; exact PStep.refl _ _ _
        exact hstep undef R L stp (by rw [d1]; exact rep_sc.2 rfl)
theorem late_sound {r : Option Nat} {n id al st : Nat} {Q : Exit → Act → World → Prop} {K : St → Prop} {w : World} (hm : P.follows .mixedOrders = true) (hN : ∀ o ∈ ops.toList, dstOk E.N o.dst) (hok : regOk ops = true) (hlo : lateOk ops al st = true)
    (h : ladops P G ops al st ops.toList 0 none σ K) (hI : Inv G E σ a w) (hQ : ∀ a' w' σ', K σ' → Inv G E σ' a' w' → Q .normal a' w') : (Code.region id ops true).wpIn (Fl r) n P Q a w := by
  obtain ⟨R, L, rfl, hI⟩ := hI
  refine wpIn_region_any hm ?_
  let R' : Env := ⟨{ R.w with drawn := R.w.drawn + 1 }, R.M, R.F⟩
  have hext : Ext R R' := ⟨fun b o v h1 h2 => ⟨h1, h2⟩⟩
  have hnear : Near E.w0 E.ex R R' := ⟨rfl, rfl, rfl, Nat.le_refl _, rfl, hext, fun b _ => .inl ⟨rfl, fun _ => Iff.rfl⟩⟩
  have hg := hI.good
  have hinv : InvV G E σ a R' L := by
    refine ⟨hg.move hnear.nigh ⟨hg.fit.glob.ext hext, ⟨hg.fit.boxes.len, hg.fit.boxes.nodup, fun i b cs hi hc => ?_⟩, ⟨fun id e k v ht => ?_, hg.fit.owns.apart⟩, hg.fit.base⟩ ⟨[], by rw [List.append_nil], fun b hb => by cases hb⟩ (fun id e k v b ht hv => .inl ⟨id, e, k, v, ht, hv⟩) hg.free, hI.size, hI.df.near hnear, fun t => Rep.ext hext (LocLe.refl _) _ _ (hI.tm t)⟩
    · obtain ⟨vs, ty, e1, e2, e3, e4⟩ := hg.fit.boxes.box i b cs hi hc
      exact ⟨vs, ty, e1, RepL.ext hext (LocLe.refl _) _ _ e2, e3, e4⟩
    · rcases hg.fit.owns.own id e k v ht with g | ⟨g, n', cap, cur, _, q⟩
      · exact .inl g
      · exact .inr ⟨g, n', cap, cur, _, q⟩
  have hlist : ∀ i, (Array.replicate ops.size false).getD i false = false := fun i => by
    rw [Array.getD_eq_getD_getElem?, Array.getElem?_replicate]; split <;> rfl
  obtain ⟨D, p, ct, d1, d2, d3, d4, d5, d6⟩ := lchain_seg _ 0 none σ rfl (Nat.zero_le _) h
  have hct : ∀ o t q x, ops.toList[st]? = some o → o.op = .store t q x → ct = (evOf G (D.T st) x).cells := by
    rcases d6 with g | ⟨_, _, g⟩
    · cases g
    · exact g
  refine late_seg (lg := σ.lg) (D := D) hN hok hlo d3 d4 hct (fun a1 R1 L1 h1 => hQ a1 R1.w _ d5 ⟨R1, L1, rfl, h1⟩) ops.size _ a R' L (by simp) ?_ (fun i o hi h => ?_) (fun i _ => hlist i) ?_ (fun h => by rw [hlist] at h; cases h)
  · rw [Array.toList_replicate, List.count_replicate_self]; exact Nat.le_refl _
  · have h : (Array.replicate ops.size false).getD i false = true := h
    rw [hlist] at h; cases h
  · have hx := X_mono (Nat.le_refl _) d3.skel 0 ops.toList.length (Nat.le_refl _) (Nat.zero_le _) (Nat.le_refl _)
    refine ⟨{ hinv.good with free := fun id hid => hinv.good.free id (by rw [d2] at hx; exact Nat.le_trans hx hid) }, fun id hid _ => hinv.good.free id (by rw [d2] at hid; exact hid), hinv.size, hinv.df, fun t => ?_⟩
    rw [val_congr (D' := fun _ => false) _ fun j _ _ => by simp [hlist j], val_skip 0 _ (Nat.zero_le _) fun _ _ _ _ => rfl]
    show Rep R' L (getC (D.T 0) t) _
    rw [d1]; exact hinv.tm t
end
end Go.Proofs.Ytheokoehnmlafaa.Vcg
