/- What the proof of LangBack leans on, part 3: Vcg30 Vcg17 Vcg26 Lay. No condition beyond what each theorem states. -/
import Derived.Test.YtbphobmohdclaaaGreatDoorLangBackKb
import Derived.Test.YtbphobmohdclaaaGreatDoorProg
section
set_option linter.unusedVariables false
set_option linter.unusedSimpArgs false
namespace Go.Proofs.YtbphobmohdclaaaGreatDoor.Vcg
open Go.RowKit
section
variable {P : Program} {G : Globs} {E : Ctx} {σ : St} {a : Act} {N p : Nat} {bx : List (List C)} {ops : Array Oper}
def valT (T0 : List (Nat × C)) (l : List Oper) (c : Nat → C) (D : Nat → Bool) : Nat → List (Nat × C)
 | 0 => T0
 | m + 1 => if D m = true then putT (valT T0 l c D m) ((l[m]?).bind (·.dst)) (c m) else valT T0 l c D m
theorem getC_valT (T0 : List (Nat × C)) (l : List Oper) (c : Nat → C) (D : Nat → Bool) (t : Nat) : ∀ n, getC (valT T0 l c D n) t = val T0 l c D n t
 | 0 => rfl
 | m + 1 => by
  unfold valT val
  cases hD : D m with
  | false => simp only [Bool.false_eq_true, if_false, false_and]; exact getC_valT T0 l c D t m
  | true =>
   simp only [if_true, true_and]
   cases hd : (l[m]?).bind (·.dst) with
   | none => simp only [putT, reduceCtorEq, if_false]; exact getC_valT T0 l c D t m
   | some d =>
    simp only [putT, getC, Option.some.injEq]
    by_cases h : t = d
    ·rw [if_pos h, if_pos h.symm]
    ·rw [if_neg h, if_neg fun e => h e.symm]; exact getC_valT T0 l c D t m
theorem InvD.toV {D : Data} {S : Nat → Bool} {m m' lg : Nat} {R : Env} {L : Loc} {l : List Oper} (h : InvD G E bx lg l m m' D S a R L) : InvV G E ⟨valT (D.T m) l D.c (fun j => decide (m ≤ j) && S j) l.length, bx, D.X m', lg⟩ a R L :=
 ⟨{ h.good with }, h.size, h.df, fun t => by rw [getC_valT]; exact h.tm t⟩
theorem val_ev {D : Data} {S : Nat → Bool} {m m' : Nat} (hl : m' ≤ ops.toList.length) (hc : Skel ops.toList m m' D) (hok : regOk ops = true) (hS : Closed ops.toList S) {i : Nat} {o : Oper} (hmi : m ≤ i) (hmi' : i ≤ m') (ho : ops.toList[i]? = some o) (hi : S i = false)
  (hpre : ∀ e ∈ o.after.toList, Region.binds .any e = true → S e.on = true) : ∀ t ∈ touches ops o, val (D.T m) ops.toList D.c (fun j => decide (m ≤ j) && S j) ops.toList.length t = getC (D.T i) t := fun t ht => by
 have hlt : i < ops.toList.length := (List.getElem?_eq_some_iff.1 ho).1
 have e1 : val (D.T m) ops.toList D.c (fun j => decide (m ≤ j) && S j) ops.toList.length t = val (D.T m) ops.toList D.c (fun j => decide (m ≤ j) && S j) i t := by
  refine val_skip i _ (by omega) fun j hj hj' hd => ?_
  simp only [Bool.and_eq_false_iff]
  by_cases hne : j = i
  ·rw [hne]; exact .inr hi
  ·rw [agree hok hS ho hi hpre hd ht hne]; exact .inr (decide_eq_false (by omega))
 have e2 : val (D.T m) ops.toList D.c (fun j => decide (m ≤ j) && S j) i t = val (D.T m) ops.toList D.c (fun j => decide (m ≤ j)) i t := val_congr i fun j hj hd => by
  rw [agree hok hS ho hi hpre hd ht (by omega), decide_eq_true hj, Bool.and_true]
 rw [e1, e2, ← val_text hl hc t i hmi hmi']
theorem aStore_tm {t : TypeId} {p c : C} {tm1 tm2 : List (Nat × C)} {nx1 nx2 lg : Nat} {K : C → St → Prop} (h : aStore P t p c ⟨tm1, bx, nx1, lg⟩ K) :
  ∃ bx2, K .any ⟨tm1, bx2, nx1, lg⟩ ∧ aStore P t p c ⟨tm2, bx, nx2, lg⟩ fun c' σ' => c' = .any ∧ σ' = ⟨tm2, bx2, nx2, lg⟩ := by
 unfold aStore at h ⊢
 split at h
 ·rename_i Ly i off hl
  split at h
  ·rename_i cs hcs
   obtain ⟨h1, h2, h3, h4, hK⟩ := h
   refine ⟨_, hK, ?_⟩
   have hcs' : (St.mk tm2 bx nx2 lg).bx[i]? = some cs := hcs
   rw [hcs']
   exact ⟨h1, h2, h3, h4, rfl, rfl⟩
  ·exact h.elim
 ·exact h.elim
theorem aStore_mono {t : TypeId} {p c : C} {K K' : C → St → Prop} (h : aStore P t p c σ K) (hk : ∀ c' σ', K c' σ' → K' c' σ') : aStore P t p c σ K' := by
 unfold aStore at h ⊢
 split at h
 ·split at h
  ·rename_i cs hcs
   obtain ⟨h1, h2, h3, h4, hK⟩ := h
   exact ⟨h1, h2, h3, h4, hk _ _ hK⟩
  ·exact h.elim
 ·exact h.elim
theorem InvD.store {D : Data} {S : Nat → Bool} {m m' s lg n1 : Nat} {R : Env} {L : Loc} (hl : m' ≤ ops.toList.length) (hc : Skel ops.toList m m' D) (hok : regOk ops = true) (hS : Closed ops.toList S) (h : InvD G E bx lg ops.toList m m' D S a R L) {o : Oper} {t : TypeId} {q x : Operand}
  (hmi : m ≤ s) (hmi' : s ≤ m') (ho : ops.toList[s]? = some o) (hop : o.op = .store t q x) (hd : o.dst = none) (hi : S s = false) (hpre : ∀ e ∈ o.after.toList, Region.binds .any e = true → S e.on = true) {K : C → St → Prop}
  (hK : aStore P t (evOf G (D.T s) q) (evOf G (D.T s) x) ⟨D.T s, bx, n1, lg⟩ K) :
  ∃ bx2, K .any ⟨D.T s, bx2, n1, lg⟩ ∧ Runs P o a.eval R.w fun v w' => ∃ R', R'.w = w' ∧ InvD G E bx2 lg ops.toList m m' D (fun y => S y || y == s) (a.put o.dst v) R' L := by
 have hev := val_ev hl hc hok hS hmi hmi' ho hi hpre
 have hop2 : ∀ y, y ∈ o.op.operands → evOf G (valT (D.T m) ops.toList D.c (fun j => decide (m ≤ j) && S j) ops.toList.length) y = evOf G (D.T s) y := fun y hy => by
  cases y with
  | tmp u =>
   show getC _ u = getC _ u
   rw [getC_valT]
   refine hev u ?_
   unfold touches Oper.looksAt
   exact List.mem_append_left _ (List.mem_append_left _ (List.mem_filterMap.2 ⟨.tmp u, by simpa using hy, rfl⟩))
  | const v => rfl
  | global g => rfl
  | func f => rfl
 have hq := hop2 q (by rw [hop]; simp [Op.operands])
 have hx := hop2 x (by rw [hop]; simp [Op.operands])
 rw [← hq, ← hx] at hK
 obtain ⟨bx2, hK1, hK2⟩ := aStore_tm (tm2 := valT (D.T m) ops.toList D.c (fun j => decide (m ≤ j) && S j) ops.toList.length) (nx2 := D.X m') hK
 refine ⟨bx2, hK1, (store_afterL (σ := ⟨valT (D.T m) ops.toList D.c (fun j => decide (m ≤ j) && S j) ops.toList.length, bx, D.X m', lg⟩) hop h.toV hK2).mono fun v w' => ?_⟩
 rintro ⟨c, σ', R', rfl, hI, hext, hr, rfl, rfl⟩
 refine ⟨R', rfl, { hI.good with }, fun id h1 h2 => h.free id h1 fun i g1 g2 g3 => h2 i g1 g2 (by rw [g3]; rfl), ?_, ?_, fun u => ?_⟩
 ·rw [hd]; exact hI.size
 ·rw [hd]; exact hI.df
 ·have h1 := hI.tm u
  rw [getC_valT] at h1
  have e : val (D.T m) ops.toList D.c (fun j => decide (m ≤ j) && (S j || j == s)) ops.toList.length u = val (D.T m) ops.toList D.c (fun j => decide (m ≤ j) && S j) ops.toList.length u := val_congr _ fun j hj hdj => by
   have hne : j ≠ s := fun e => by
    subst e
    rw [ho] at hdj
    simp [hd] at hdj
   have : (j == s) = false := by simpa using hne
   rw [this, Bool.or_false]
  rw [e, hd]
  exact h1
theorem pure_step {r : Option Nat} {n s lg fuel : Nat} {Q : Exit → Act → World → Prop} {D : Data} (hN : ∀ o ∈ ops.toList, dstOk E.N o.dst) (hok : regOk ops = true) (hc : Chain P G bx ops ops.toList 0 s D) (hsk : Skel ops.toList 0 (s + 1) D) (hl : s + 1 ≤ ops.toList.length)
  {listed : Array Bool} {R : Env} {L : Loc} (hcl : Closed ops.toList (fun i => listed.getD i false)) (h : InvD G E bx lg ops.toList 0 (s + 1) D (fun i => listed.getD i false) a R L) {i : Nat} {o : Oper} (his : i < s) (ho : ops.toList[i]? = some o) (hlf : listed.getD i false = false)
  (hpre : ∀ e ∈ o.after.toList, Region.binds .any e = true → listed.getD e.on false = true)
  (hnext : ∀ (v : Value) (R' : Env) (L' : Loc), InvD G E bx lg ops.toList 0 (s + 1) D (fun x => listed.getD x false || x == i) (a.put o.dst v) R' L' → wpAnyIn (Fl r) n P .any ops Q fuel (listed.setIfInBounds i true) (a.put o.dst v) R'.w) :
  wpOpIn (Fl r) n P ops Q i (wpAnyIn (Fl r) n P .any ops Q fuel (listed.setIfInBounds i true)) a R.w := by
 have next : ∀ (v : Value) (R' : Env) (L' : Loc), PStep (D.X i) (D.X (i + 1)) R L R' L' → Rep R' L' (D.c i) v → wpAnyIn (Fl r) n P .any ops Q fuel (listed.setIfInBounds i true) (a.put o.dst v) R'.w := fun v R' L' st hv =>
  hnext v R' L' (h.put hl hsk hok hcl (Nat.zero_le _) (Nat.lt_succ_of_lt his) ho hlf hpre (hN o (List.mem_of_getElem? ho)) st hv)
 obtain ⟨c1, c2, c3, c4, c5⟩ := hc.step i o (Nat.zero_le _) his ho
 have hev := h.ev hl hsk hok hcl (Nat.zero_le _) (Nat.lt_succ_of_lt his) ho hlf hpre
 have hguard : Region.wanted o (yielded ops a.tmps) = D.wn i := guard_wanted (tm := D.T i) rfl c3 fun j want d hg hd => by
  have ht : d ∈ touches ops o := by
   unfold touches Oper.looksAt
   rw [hg]
   simp [hd]
  refine ⟨?_, hev d ht⟩
  rw [h.size]
  cases hj : ops[j]? with
  | none => rw [hj] at hd; cases hd
  | some o' =>
   rw [hj] at hd
   have hd' : o'.dst = some d := hd
   have := hN o' (by rw [Array.mem_toList_iff]; exact Array.mem_of_getElem? hj)
   rw [hd'] at this; exact this
 unfold wpOpIn
 have hoa : ops[i]? = some o := by simpa using ho
 rw [hoa]
 simp only [hguard]
 cases hw : D.wn i with
 | true =>
  simp only [if_true]
  refine runs_wpIn ?_
  refine ((c4 hw).2 _ R L a.eval h.good.fit (h.freeAt hl hsk (Nat.zero_le _) (Nat.lt_succ_of_lt his) hlf) fun x => ?_).mono fun v w' ⟨R', L', hw', st, hv⟩ => ?_
  ·unfold restr
   split
   ·rename_i hx
    cases x with
    | tmp t =>
     refine hev t ?_
     unfold touches Oper.looksAt
     exact List.mem_append_left _ (List.mem_append_left _ (List.mem_filterMap.2 ⟨.tmp t, by simpa using hx, rfl⟩))
    | const v => exact rep_ofConst R L v
    | global g =>
     simp only [evOf]
     cases hg : G g with
     | none => unfold Rep; trivial
     | some cs => exact rep_row.2 ⟨g, 0, rfl, (h.good.fit.glob g cs hg).1⟩
    | func f => exact rep_clo.2 ⟨#[], #[], rfl, repL_nil.2 rfl, repL_nil.2 rfl⟩
   ·unfold Rep; trivial
  ·rw [← hw']; exact next v R' L' st hv
 | false =>
  simp only [Bool.false_eq_true, if_false]
  refine ⟨fun f _ => trivial, ?_⟩
  obtain ⟨d1, d2⟩ := c5 hw
  have st : PStep (D.X i) (D.X (i + 1)) R L R L := by rw [d2]; exact PStep.refl _ _ _
  exact next undef R L st (by rw [d1]; exact rep_sc.2 rfl)
theorem float_seg {r : Option Nat} {n s lg : Nat} {bx2 : List (List C)} {Q : Exit → Act → World → Prop} {D : Data} (hN : ∀ o ∈ ops.toList, dstOk E.N o.dst) (hok : regOk ops = true) (hc : Chain P G bx ops ops.toList 0 s D) (hc2 : Chain P G bx2 ops ops.toList 0 s D) (hsk : Skel ops.toList 0 (s + 1) D) (hl : s + 1 ≤ ops.toList.length)
  {os : Oper} {t : TypeId} {q x : Operand} (hos : ops.toList[s]? = some os) (hop : os.op = .store t q x) (hod : os.dst = none) (hog : os.guard = none)
  (hSt : aStore P t (evOf G (D.T s) q) (evOf G (D.T s) x) ⟨D.T s, bx, D.X s, lg⟩ fun _ σ' => σ' = ⟨D.T s, bx2, D.X s, lg⟩)
  (hrdy : ∀ (listed : Array Bool) (i : Nat) (o : Oper), s + 1 ≤ i → i < ops.size → Closed ops.toList (fun i => listed.getD i false) → ops.toList[i]? = some o → (∀ e ∈ o.after.toList, Region.binds .any e = true → listed.getD e.on false = true) → (∀ i, s + 1 ≤ i → listed.getD i false = false) → ∀ j, j < s + 1 → listed.getD j false = true)
  (hEnd : ∀ (fuel : Nat) (listed : Array Bool) (a : Act) (R : Env) (L : Loc), listed.size = ops.size → listed.toList.count false ≤ fuel → Closed ops.toList (fun i => listed.getD i false) → (∀ i, i < s + 1 → listed.getD i false = true) → (∀ i, s + 1 ≤ i → listed.getD i false = false) →
   InvV G E ⟨D.T (s + 1), bx2, D.X (s + 1), lg⟩ a R L → wpAnyIn (Fl r) n P .any ops Q fuel listed a R.w) : ∀ (fuel : Nat) (listed : Array Bool) (a : Act) (R : Env) (L : Loc), listed.size = ops.size → listed.toList.count false ≤ fuel →
  Closed ops.toList (fun i => listed.getD i false) → (∀ i, s + 1 ≤ i → listed.getD i false = false) →
  ((listed.getD s false = false ∧ InvD G E bx lg ops.toList 0 (s + 1) D (fun i => listed.getD i false) a R L) ∨ (listed.getD s false = true ∧ InvD G E bx2 lg ops.toList 0 (s + 1) D (fun i => listed.getD i false) a R L)) → wpAnyIn (Fl r) n P .any ops Q fuel listed a R.w := by
 have hls : s + 1 ≤ ops.size := by simpa using hl
 have done : ∀ (fuel : Nat) (listed : Array Bool) (a : Act) (R : Env) (L : Loc), listed.size = ops.size → listed.toList.count false ≤ fuel → Closed ops.toList (fun i => listed.getD i false) → (∀ i, i < s + 1 → listed.getD i false = true) → (∀ i, s + 1 ≤ i → listed.getD i false = false) →
   ((listed.getD s false = false ∧ InvD G E bx lg ops.toList 0 (s + 1) D (fun i => listed.getD i false) a R L) ∨ (listed.getD s false = true ∧ InvD G E bx2 lg ops.toList 0 (s + 1) D (fun i => listed.getD i false) a R L)) → wpAnyIn (Fl r) n P .any ops Q fuel listed a R.w := fun fuel listed a R L hsz hcnt hcl h1 h2 hI => by
  rcases hI with ⟨g, _⟩ | ⟨_, h⟩
  ·rw [h1 s (Nat.lt_succ_self s)] at g; cases g
  refine hEnd fuel listed a R L hsz hcnt hcl h1 h2 ⟨{ h.good with }, h.size, h.df, fun t => ?_⟩
  have ht := h.tm t
  rw [val_skip (s + 1) _ hl fun j hj _ _ => by simp [h2 j hj]] at ht
  rw [val_text hl hsk t (s + 1) (Nat.zero_le _) (Nat.le_refl _), val_congr (D' := fun j => decide (0 ≤ j) && listed.getD j false) (s + 1) fun j hj _ => by rw [h1 j hj, Bool.and_true]]
  exact ht
 intro fuel
 induction fuel with
 | zero =>
  intro listed a R L hsz hcnt hcl h2 h
  refine done 0 listed a R L hsz hcnt hcl (fun i hi => ?_) h2 h
  have hil : i < listed.size := by omega
  cases hq : listed.getD i false with
  | true => rfl
  | false =>
   have : listed.toList[i]? = some false := by
    rw [Array.getD_eq_getD_getElem?, Array.getElem?_eq_getElem hil] at hq
    simp [hil]; simpa using hq
   have hpos : 0 < listed.toList.count false := List.count_pos_iff.2 (List.mem_of_getElem? this)
   omega
 | succ fuel ih =>
  intro listed a R L hsz hcnt hcl h2 h
  by_cases hall : ∀ i, i < s + 1 → listed.getD i false = true
  ·exact done _ listed a R L hsz hcnt hcl hall h2 h
  refine ⟨fun hr => absurd (fun i hi => ready_none hok hsz hr i (by omega)) hall, fun i hi => ?_⟩
  obtain ⟨o, ho, hl0, hpre⟩ := ready_mem hi
  have hio : i < ops.size := by simpa using (List.getElem?_eq_some_iff.1 ho).1
  obtain ⟨hlf, hil'⟩ := listed_false hsz hio hl0
  have hil : i < listed.size := by omega
  have hcnt' : (listed.setIfInBounds i true).toList.count false ≤ fuel := by
   have := count_set_true hil'
   rw [Array.toList_setIfInBounds]; omega
  have hset : ∀ x, (listed.setIfInBounds i true).getD x false = (listed.getD x false || x == i) := fun x => congrFun (getD_set hil) x
  have hcl' := closed_set hil hcl ho hpre
  rcases Nat.lt_trichotomy i s with g | g | g
  ·have hns : (s == i) = false := by simp; omega
   have h2' : ∀ k, s + 1 ≤ k → (listed.setIfInBounds i true).getD k false = false := fun k hk => by
    rw [hset, h2 k hk]; simp; omega
   rcases h with ⟨e, h⟩ | ⟨e, h⟩
   ·exact pure_step hN hok hc hsk hl hcl h g ho hlf hpre fun v R' L' hI => ih _ _ R' L' (by simpa using hsz) hcnt' hcl' h2' (.inl ⟨by rw [hset, e, hns]; rfl, by rw [getD_set hil]; exact hI⟩)
   ·exact pure_step hN hok hc2 hsk hl hcl h g ho hlf hpre fun v R' L' hI => ih _ _ R' L' (by simpa using hsz) hcnt' hcl' h2' (.inr ⟨by rw [hset, e]; rfl, by rw [getD_set hil]; exact hI⟩)
  ·subst g
   rw [hos] at ho; cases ho
   rcases h with ⟨e, h⟩ | ⟨e, h⟩
   ·obtain ⟨bx3, e3, hrun⟩ := h.store hl hsk hok hcl (Nat.zero_le _) (Nat.le_succ _) hos hop hod hlf hpre hSt
    cases e3
    have h2' : ∀ k, i + 1 ≤ k → (listed.setIfInBounds i true).getD k false = false := fun k hk => by
     rw [hset, h2 k hk]; simp; omega
    unfold wpOpIn
    have hoa : ops[i]? = some os := by simpa using hos
    rw [hoa]
    have hguard : Region.wanted os (yielded ops a.tmps) = true := by unfold Region.wanted; rw [hog]
    simp only [hguard, if_true]
    refine runs_wpIn (hrun.mono fun v w' => ?_)
    rintro ⟨R', rfl, hI⟩
    exact ih _ _ R' L (by simpa using hsz) hcnt' hcl' h2' (.inr ⟨by rw [hset]; simp, by rw [getD_set hil]; exact hI⟩)
   ·rw [hlf] at e; cases e
  ·exact absurd (hrdy listed i o (by omega) hio hcl ho hpre h2) hall
def adops2 (P : Program) (G : Globs) (ops : Array Oper) (b1 b2 : List (List C)) : List Oper → List (Nat × C) → Nat → (List (Nat × C) → Nat → Prop) → Prop
 | [], tm, nx, K => K tm nx
 | o :: rest, tm, nx, K => aGuard ops tm o.guard
   (aPure P G b1 (evOf G tm) o.op nx fun c nx' => aPure P G b2 (evOf G tm) o.op nx (fun c' nx'' => c' = c ∧ nx'' = nx') ∧ adops2 P G ops b1 b2 rest (putT tm o.dst c) nx' K)
   (adops2 P G ops b1 b2 rest (putT tm o.dst (.sc undef)) nx K)
theorem chain_seg2 {b1 b2 : List (List C)} {all : List Oper} {K : List (Nat × C) → Nat → Prop} : ∀ (l : List Oper) (m : Nat) (tm : List (Nat × C)) (nx : Nat), all.drop m = l → m ≤ all.length → adops2 P G ops b1 b2 l tm nx K →
  ∃ D : Data, D.T m = tm ∧ D.X m = nx ∧ Chain P G b1 ops all m all.length D ∧ Chain P G b2 ops all m all.length D ∧ K (D.T all.length) (D.X all.length)
 | [], m, tm, nx, hl, hm, h => by
  have : m = all.length := by
   have := congrArg List.length hl
   simp at this; omega
  subst this
  exact ⟨⟨fun _ => tm, fun _ => nx, fun _ => .any, fun _ => true⟩, rfl, rfl, ⟨fun i o h1 h2 => by omega⟩, ⟨fun i o h1 h2 => by omega⟩, h⟩
 | o :: rest, m, tm, nx, hl, hm, h => by
  have hlt : m < all.length := by
   rcases Nat.lt_or_ge m all.length with g | g
   ·exact g
   ·rw [List.drop_eq_nil_of_le g] at hl; cases hl
  have hom : all[m]? = some o := by
   have := List.getElem?_drop (xs := all) (i := m) (j := 0)
   rw [hl] at this; simpa using this.symm
  have hrest : all.drop (m + 1) = rest := by
   have := congrArg List.tail hl
   simpa using this
  unfold adops2 at h
  obtain ⟨b, hg, h1, h2⟩ := aGuard.out h
  have key : ∀ (c : C) (nx' : Nat), (b = true → PureSem P G b1 (restr o (evOf G tm)) nx o c nx') → (b = true → PureSem P G b2 (restr o (evOf G tm)) nx o c nx') → (b = false → c = .sc undef ∧ nx' = nx) → nx ≤ nx' → adops2 P G ops b1 b2 rest (putT tm o.dst c) nx' K →
    ∃ D : Data, D.T m = tm ∧ D.X m = nx ∧ Chain P G b1 ops all m all.length D ∧ Chain P G b2 ops all m all.length D ∧ K (D.T all.length) (D.X all.length) := fun c nx' hp hp2 hq hle hrst => by
   obtain ⟨D, d3, d4, d5, d5', d6⟩ := chain_seg2 rest (m + 1) _ _ hrest (by omega) hrst
   refine ⟨⟨fun i => if i ≤ m then tm else D.T i, fun i => if i ≤ m then nx else D.X i, fun i => if i = m then c else D.c i, fun i => if i = m then b else D.wn i⟩, by simp, by simp, ⟨fun i o' hi hi' hio => ?_⟩, ⟨fun i o' hi hi' hio => ?_⟩, ?_⟩
   ·by_cases him : i = m
    ·subst him
     rw [hom] at hio; cases hio
     simp only [Nat.le_refl, if_true, show ¬ i + 1 ≤ i by omega, if_false]
     refine ⟨d3, by rw [d4]; exact hle, hg, fun hb => ?_, fun hb => ?_⟩
     ·rw [d4]; exact hp hb
     ·rw [d4]; exact hq hb
    ·simp only [if_neg him, if_neg (show ¬ i ≤ m by omega), if_neg (show ¬ i + 1 ≤ m by omega)]
     exact d5.step i o' (by omega) hi' hio
   ·by_cases him : i = m
    ·subst him
     rw [hom] at hio; cases hio
     simp only [Nat.le_refl, if_true, show ¬ i + 1 ≤ i by omega, if_false]
     refine ⟨d3, by rw [d4]; exact hle, hg, fun hb => ?_, fun hb => ?_⟩
     ·rw [d4]; exact hp2 hb
     ·rw [d4]; exact hq hb
    ·simp only [if_neg him, if_neg (show ¬ i ≤ m by omega), if_neg (show ¬ i + 1 ≤ m by omega)]
     exact d5'.step i o' (by omega) hi' hio
   ·simp only [if_neg (show ¬ all.length ≤ m by omega)]
    exact d6
  cases b with
  | true =>
   obtain ⟨c, nx', hp, hK, hK2⟩ := aPure_restr (h1 rfl)
   obtain ⟨c2, nx2, hp2, e1, e2⟩ := aPure_restr hK
   subst e1 e2
   exact key c2 nx2 (fun _ => hp) (fun _ => hp2) (fun h => by cases h) hp.1 hK2
  | false => exact key (.sc undef) nx (fun h => by cases h) (fun h => by cases h) (fun _ => ⟨rfl, rfl⟩) (Nat.le_refl _) (h2 rfl)
def floatB (s : Nat) (br : List Bool) : List Bool := true :: true :: false :: true :: (List.replicate s false ++ true :: br)
def floatOf : List Bool → Option (Nat × List Bool)
 | true :: true :: false :: true :: r => some ((leadF r).1, (leadF r).2.tail)
 | _ => none
theorem floatOf_floatB (s : Nat) (br : List Bool) : floatOf (floatB s br) = some (s, br) := by
 show some ((leadF (List.replicate s false ++ true :: br)).1, (leadF (List.replicate s false ++ true :: br)).2.tail) = _
 rw [leadF_rep]; rfl
def afl1 (P : Program) (G : Globs) (Y : Hd) (ops : Array Oper) (all : List Oper) (s : Nat) (br : List Bool) (s0 : St) (rest : List Oper) (o : Option Oper) (σ1 : St) (K : St → Prop) : Prop := match o with
 | some ⟨none, .store t q x, _, _, _, none⟩ => aStore P t (evOf G σ1.tm q) (evOf G σ1.tm x) σ1 fun _ σ2 =>
   adops2 P G ops s0.bx σ2.bx (all.take s) s0.tm s0.nx (fun tm nx => tm = σ1.tm ∧ nx = σ1.nx) ∧ adops P G Y ops rest br σ2 K
 | _ => False
def afloat (P : Program) (G : Globs) (Y : Hd) (ops : Array Oper) (s : Nat) (br : List Bool) (σ : St) (K : St → Prop) : Prop :=
 adops P G Y ops (ops.toList.take s) [] σ fun σ1 => afl1 P G Y ops ops.toList s br σ (ops.toList.drop (s + 1)) (ops.toList[s]?) σ1 K
def floatOk (ops : Array Oper) (s : Nat) (br : List Bool) : Bool :=
 let cl := clsUpto ops.toList ops.size
 decide (s < ops.size) && ((List.range (ops.size - (s + 1))).all fun d => (List.range (s + 1)).all fun j => inC cl (s + 1 + d) j) && barrOk ops (List.replicate (s + 1) false ++ br)
theorem float_sound {r : Option Nat} {n id s : Nat} {br : List Bool} {Q : Exit → Act → World → Prop} {K : St → Prop} {Y : Hd} {w : World} (hY : HdOk P Y E) (hm : P.follows .mixedOrders = true) (hN : ∀ o ∈ ops.toList, dstOk E.N o.dst) (hok : regOk ops = true) (hfl : floatOk ops s br = true)
  (h : afloat P G Y ops s br σ K) (hI : Inv G E σ a w) (hQ : ∀ a' w' σ', K σ' → Inv G E σ' a' w' → Q .normal a' w') : (Code.region id ops true).wpIn (Fl r) n P Q a w := by
 obtain ⟨R, L, rfl, hI⟩ := hI
 refine wpIn_region_any hm ?_
 let R' : Env := ⟨{ R.w with drawn := R.w.drawn + 1 }, R.M, R.F⟩
 have hext : Ext R R' := ⟨fun b o v h1 h2 => ⟨h1, h2⟩, fun _ _ _ _ h1 h2 => ⟨h1, h2⟩⟩
 have hnear : Near E.w0 E.ex R R' := ⟨rfl, rfl, rfl, Nat.le_refl _, rfl, hext, fun b _ => .inl ⟨rfl, fun _ => Iff.rfl⟩⟩
 have hg := hI.good
 have hinv : InvV G E σ a R' L := by
  refine ⟨hg.move hnear.nigh ⟨hg.fit.glob.ext hext, ⟨hg.fit.boxes.len, hg.fit.boxes.nodup, fun i b cs hi hc => ?_⟩, ⟨fun id e k v ht => ?_, hg.fit.owns.apart⟩, hg.fit.base⟩ ⟨[], by rw [List.append_nil], fun b hb => by cases hb⟩ (fun id e k v b ht hv => .inl ⟨id, e, k, v, ht, hv⟩) hg.free, hI.size, hI.df.near hnear, fun t => Rep.ext hext (LocLe.refl _) _ _ (hI.tm t)⟩
  ·obtain ⟨vs, ty, e1, e2, e3, e4⟩ := hg.fit.boxes.box i b cs hi hc
   exact ⟨vs, ty, e1, RepL.ext hext (LocLe.refl _) _ _ e2, e3, e4⟩
  ·exact (hg.fit.owns.own id e k v ht).move fun g _ q2 _ q7 => ⟨q2, rfl, q7, fun _ h => h⟩
 have hlist : ∀ i, (Array.replicate ops.size false).getD i false = false := fun i => by
  rw [Array.getD_eq_getD_getElem?, Array.getElem?_replicate]; split <;> rfl
 unfold floatOk at hfl
 simp only [Bool.and_eq_true, decide_eq_true_eq] at hfl
 obtain ⟨⟨t1, t2⟩, t3⟩ := hfl
 have t2' : ∀ i j, s + 1 ≤ i → i < ops.size → j < s + 1 → inC (clsUpto ops.toList ops.size) i j = true := fun i j h1 h2 h3 => by
  have q1 := List.all_eq_true.1 t2 (i - (s + 1)) (by simp; omega)
  have q2 := List.all_eq_true.1 q1 j (by simpa using h3)
  rw [show s + 1 + (i - (s + 1)) = i by omega] at q2
  exact q2
 have hml : (ops.toList.take s).length = s := by simp; omega
 unfold afloat at h
 obtain ⟨m', D0, d1, d2, d3, d4, d5, d6⟩ := chain_seg (all := ops.toList.take s) _ _ 0 σ rfl (Nat.zero_le _) h
 have hA : ∃ tm1 nx1, afl1 P G Y ops ops.toList s br σ (ops.toList.drop (s + 1)) (ops.toList[s]?) ⟨tm1, σ.bx, nx1, σ.lg⟩ K := by
  rcases d6 with ⟨g, hK⟩ | ⟨g, g2, _⟩
  ·exact ⟨_, _, hK⟩
  ·simp at g2
 clear d1 d2 d3 d4 d5 d6 h
 obtain ⟨tm1, nx1, hA⟩ := hA
 unfold afl1 at hA
 split at hA
 ·rename_i t q x ty pos af hos
  obtain ⟨bx2, ⟨hag, hrest⟩, hSt⟩ := aStore_tm (tm2 := tm1) (nx2 := nx1) hA
  simp only at hag hrest
  obtain ⟨D, e1, e2, e3, e4, e5, e6⟩ := chain_seg2 (all := ops.toList.take s) _ 0 _ _ rfl (Nat.zero_le _) hag
  rw [hml] at e3 e4 e5 e6
  obtain ⟨D', hT, hX, hc', hw'⟩ : ∃ D' : Data, (∀ i, D'.T i = if i ≤ s then D.T i else D.T s) ∧ (∀ i, D'.X i = if i ≤ s then D.X i else D.X s) ∧ D'.c = D.c ∧ D'.wn = D.wn := ⟨⟨fun i => if i ≤ s then D.T i else D.T s, fun i => if i ≤ s then D.X i else D.X s, D.c, D.wn⟩, fun _ => rfl, fun _ => rfl, rfl, rfl⟩
  have conv : ∀ {b : List (List C)}, Chain P G b ops (ops.toList.take s) 0 s D → Chain P G b ops ops.toList 0 s D' := fun {b} hc => ⟨fun i o h1 h2 h3 => by
   have := hc.step i o h1 h2 (by rw [List.getElem?_take, if_pos h2]; exact h3)
   rw [hT, hT, hX, hX, hc', hw', if_pos (by omega), if_pos (by omega), if_pos (by omega), if_pos (by omega)]
   exact this⟩
  have c1 := conv e3
  have c2 := conv e4
  have hTs : D'.T s = tm1 := by rw [hT, if_pos (Nat.le_refl _)]; exact e5
  have hXs : D'.X s = nx1 := by rw [hX, if_pos (Nat.le_refl _)]; exact e6
  have hT1 : D'.T (s + 1) = tm1 := by rw [hT, if_neg (by omega)]; exact e5
  have hX1 : D'.X (s + 1) = nx1 := by rw [hX, if_neg (by omega)]; exact e6
  have hT0 : D'.T 0 = σ.tm := by rw [hT, if_pos (Nat.zero_le _)]; exact e1
  have hX0 : D'.X 0 = σ.nx := by rw [hX, if_pos (Nat.zero_le _)]; exact e2
  have hsk : Skel ops.toList 0 (s + 1) D' := ⟨fun i o h1 h2 h3 => by
   by_cases his : i = s
   ·subst his
    rw [hos] at h3; cases h3
    exact ⟨by rw [hT1, hTs]; rfl, by rw [hX1, hXs]; exact Nat.le_refl _⟩
   ·exact c1.skel.step i o h1 (by omega) h3⟩
  have hl : s + 1 ≤ ops.toList.length := by simp; omega
  have hInit : InvD G E σ.bx σ.lg ops.toList 0 (s + 1) D' (fun i => (Array.replicate ops.size false).getD i false) a R' L := by
   have hx := X_mono (l := ops.toList) hl hsk 0 (s + 1) (Nat.le_refl _) (Nat.zero_le _) (Nat.le_refl _)
   refine ⟨{ hinv.good with free := fun id hid => hinv.good.free id (by rw [hX0] at hx; exact Nat.le_trans hx hid) }, fun id hid _ => hinv.good.free id (by rw [hX0] at hid; exact hid), hinv.size, hinv.df, fun t => ?_⟩
   rw [val_congr (D' := fun _ => false) _ fun j _ _ => by simp [hlist j], val_skip 0 _ (Nat.zero_le _) fun _ _ _ _ => rfl]
   show Rep R' L (getC (D'.T 0) t) _
   rw [hT0]; exact hinv.tm t
  refine float_seg (lg := σ.lg) (bx := σ.bx) (bx2 := bx2) (D := D') hN hok c1 c2 hsk hl hos rfl rfl rfl ?_ (fun listed i o q1 q2 q3 q4 q5 q6 j hj => ready_in (t2' i j q1 q2 hj) q3 q4 q5 (by omega)) ?_ ops.size _ a R' L (by simp) ?_ (fun i o hi h => ?_) (fun i _ => hlist i) (.inl ⟨hlist s, hInit⟩)
  ·rw [hTs, hXs]
   exact aStore_mono hSt fun c' σ' h => h.2
  ·intro fuel listed a R L hsz hcnt hcl h1 h2 hI
   rw [hT1, hX1] at hI
   refine draw_all hY hN hok t3 (fun a1 R1 L1 σ1 hK h1 => hQ a1 R1.w σ1 hK ⟨R1, L1, rfl, h1⟩) _ (s + 1) fuel listed _ a R L rfl (by omega) hsz hcnt hcl h1 h2 ?_ hI
   rw [List.drop_left' (by simp)]
   exact hrest
  ·rw [Array.toList_replicate, List.count_replicate_self]; exact Nat.le_refl _
  ·have h : (Array.replicate ops.size false).getD i false = true := h
   rw [hlist] at h; cases h
 ·exact hA.elim
end
end Go.Proofs.YtbphobmohdclaaaGreatDoor.Vcg
end
section
set_option linter.unusedVariables false
set_option linter.unusedSimpArgs false
namespace Go.Proofs.YtbphobmohdclaaaGreatDoor.Vcg
open Go.RowKit
def thenK (next : St → Prop) (Q : Exit → St → Prop) : Exit → St → Prop
 | .normal, σ => next σ
 | e, σ => Q e σ
def blockK (id : Nat) (Q : Exit → St → Prop) : Exit → St → Prop
 | .exit id', σ => if id' = id then Q .normal σ else Q (.exit id') σ
 | e, σ => Q e σ
def noGotoK (Q : Exit → St → Prop) : Exit → St → Prop
 | .goto _, _ => False
 | e, σ => Q e σ
def loopK (next : St → Prop) (Q : Exit → St → Prop) : Exit → St → Prop
 | .normal, σ => next σ
 | e, σ => Q e σ
def ALoop (p : Nat) (B : (Exit → St → Prop) → St → Prop) (Q : Exit → St → Prop) (σ : St) : Prop :=
 ∃ (ι : Type) (I : ι → St) (ok : ι → Prop) (μ : ι → Nat) (i0 : ι), ok i0 ∧ Weak p σ (I i0) ∧ ∀ i, ok i → B (loopK (fun σ' => ∃ j, ok j ∧ μ j < μ i ∧ Weak p σ' (I j)) Q) (I i)
def aops (P : Program) (G : Globs) (Y : Hd) (ops : Array Oper) : List Oper → St → (St → Prop) → Prop
 | [], σ, K => K σ
 | o :: rest, σ, K => aGuard ops σ.tm o.guard (aEff P G Y o.op σ fun c σ' => aops P G Y ops rest (σ'.put o.dst c) K) (aops P G Y ops rest (σ.put o.dst (.sc undef)) K)
def adraw (P : Program) (G : Globs) (h : Hd) (ops : Array Oper) (br : List Bool) (σ : St) (K : St → Prop) : Prop :=
 match lateOf br with
 | some (a, s) => match s == 0 with
  | true => adops P G h ops (ops.toList.take a) [] σ fun σ' => atwin P G h (ops.toList.drop a) σ' K
  | false => ladops P G ops a s ops.toList 0 none σ K
 | none => match floatOf br with
  | some (s, br') => afloat P G h ops s br' σ K
  | none => adops P G h ops ops.toList br σ K
def awp (P : Program) (G : Globs) : Hd → Code → (Exit → St → Prop) → St → Prop
 | _, .skip, Q, σ => Q .normal σ
 | _, .label _, Q, σ => Q .normal σ
 | _, .exit id, Q, σ => Q (.exit id) σ
 | _, .goto l, Q, σ => Q (.goto l) σ
 | _, .ret, Q, σ => Q .ret σ
 | h, .seq x y, Q, σ => awp P G h x (thenK (awp P G h y Q) Q) σ
 | h, .cond c x y, Q, σ => ABr (evOf G σ.tm c) (awp P G h x Q σ) (awp P G h y Q σ)
 | h, .block id c, Q, σ => awp P G h c (blockK id Q) σ
 | h, .loop c, Q, σ => ALoop h.p (awp P G h c) Q σ
 | h, .scope c, Q, σ => awp P G h c (noGotoK Q) σ
 | h, .region id ops draw, Q, σ => match draw with
  | true => adraw P G h ops (h.b id) σ (Q .normal)
  | false => aops P G h ops ops.toList σ (Q .normal)
 | h, .rangeFunc f ps x y, Q, σ => ARange P G h.p (fun m => awp P G ⟨m, h.y, h.b⟩ x) (fun m => awp P G ⟨m, h.y, h.b⟩ y) Q ps.toList (evOf G σ.tm f) σ
 | _, .refuse _, _, _ => False
def codeOk (N : Nat) (b : Nat → List Bool) : Code → Bool
 | .seq x y => codeOk N b x && codeOk N b y
 | .cond _ x y => codeOk N b x && codeOk N b y
 | .block _ c => codeOk N b c
 | .loop c => codeOk N b c
 | .scope c => codeOk N b c
 | .region id ops draw => (ops.toList.all fun o => match o.dst with | some d => decide (d < N) | none => true) && (!draw || (regOk ops && match lateOf (b id) with | some (a, s) => if s == 0 then twinOk ops a else lateOk ops a s | none => match floatOf (b id) with | some (s, br') => floatOk ops s br' | none => barrOk ops (b id)))
 | .rangeFunc _ ps x y => (ps.toList.all fun p => decide (p < N)) && codeOk N b x && codeOk N b y
 | _ => true
section
variable {P : Program} {G : Globs} {E : Ctx} {σ : St} {a : Act} {N p : Nat} {bx : List (List C)} {ops : Array Oper}
theorem dstOk_of {l : List Oper} (h : (l.all fun o => match o.dst with | some d => decide (d < N) | none => true) = true) : ∀ o ∈ l, dstOk N o.dst := fun o ho => by
 have := List.all_eq_true.1 h o ho
 unfold dstOk
 cases hd : o.dst with
 | none => trivial
 | some d => simpa [hd] using this
theorem aops_sound {Y : Hd} (hY : HdOk P Y E) {r : Option Nat} {n : Nat} {Q : Exit → Act → World → Prop} {K : St → Prop} (hQ : ∀ a' w' σ', K σ' → Inv G E σ' a' w' → Q .normal a' w') : ∀ (l : List Oper) (σ : St) (a : Act) (w : World), (∀ o ∈ l, dstOk E.N o.dst) → aops P G Y ops l σ K → Inv G E σ a w →
  (∀ (j : Nat) (o : Oper), ops[j]? = some o → dstOk E.N o.dst) → wpListIn (Fl r) n P ops Q l a w
 | [], σ, a, w, _, h, hI, _ => hQ a w σ h hI
 | o :: rest, σ, a, w, hd, h, hI, hops => by
  obtain ⟨b, hg, h1, h2⟩ := aGuard.out h
  obtain ⟨R, L, rfl, hI⟩ := hI
  have hguard : Region.wanted o (yielded ops a.tmps) = b := guard_wanted (tm := σ.tm) (R := R) (L := L) rfl hg fun j want d hgd hdd => by
   refine ⟨?_, hI.tm d⟩
   rw [hI.size]
   cases hj : ops[j]? with
   | none => rw [hj] at hdd; cases hdd
   | some o' =>
    rw [hj] at hdd
    have hd' : o'.dst = some d := hdd
    have := hops j o' hj
    rw [hd'] at this; exact this
  have hdo := hd o List.mem_cons_self
  have hdr : ∀ o' ∈ rest, dstOk E.N o'.dst := fun o' ho' => hd o' (List.mem_cons_of_mem _ ho')
  simp only [wpListIn, hguard]
  cases b with
  | true =>
   simp only [if_true]
   refine runs_wpIn ((aEff_after hY (h1 rfl) hI).mono fun v w' => ?_)
   rintro ⟨c, σ', R', L', rfl, hI', hv, hK⟩
   exact aops_sound hY hQ rest _ _ _ hdr hK ⟨R', L', rfl, hI'.put hdo hv⟩ hops
  | false =>
   simp only [Bool.false_eq_true, if_false]
   exact ⟨fun f _ => trivial, aops_sound hY hQ rest _ _ _ hdr (h2 rfl) ⟨R, L, rfl, hI.put hdo (rep_sc.2 rfl)⟩ hops⟩
theorem wpIn_scope_straight {F : Fence} {n : Nat} {c : Code} {Q : Exit → Act → World → Prop} {w : World} (h : c.wpIn F n P (Exit.noGoto Q) a w) : (Code.scope c).wpIn F n P Q a w := by
 intro b k cs hro hb hr
 obtain ⟨e, a₁, w₁, hq, harr⟩ := h b (.inScope c :: k) cs hro hb hr
 have h0 : StepsIn (Machine.fenced P F) P (lone (b.atR a (.code (.scope c) :: k)) cs w) (lone (b.atR a (.code c :: .inScope c :: k)) cs w) :=
  .one (fenced_calm hb hr rfl) (step_lone_go (by simp [stepG, stepG.exec, Frame.atR]))
 cases e with
 | normal => exact ⟨.normal, a₁, w₁, hq, .trans (.trans h0 harr) (.one (fenced_calm hb hr rfl) (step_lone_go (by simp [stepG, stepG.exec, Frame.atR])))⟩
 | exit id => exact ⟨.exit id, a₁, w₁, hq, fun k' hk => StepsIn.trans h0 (harr.1 k' (by simp [exitTo, hk])), fun hr hk => let ⟨k₁, h1, h2⟩ := harr.2 hr (by simp [exitTo, hk]); ⟨k₁, h1, StepsIn.trans h0 h2⟩⟩
 | goto l => exact hq.elim
 | ret => exact ⟨_, a₁, w₁, hq, .of_steps h0 harr⟩
 | panic ch => exact ⟨_, a₁, w₁, hq, .of_steps h0 harr⟩
 | outgrown => exact ⟨_, a₁, w₁, hq, .of_steps (b := b) (k := k) (cs := cs) (e := .outgrown) h0 harr⟩
theorem awp_sound (hm : P.follows .mixedOrders = true) : ∀ (c : Code) (h : Hd) (E : Ctx) (r : Option Nat) (n : Nat), E.β0.length ≤ h.p → (∀ y, h.y = some y → YOk P y E.J) → RndOk r E → ∀ (Q : Exit → St → Prop) (σ : St) (a : Act) (w : World), codeOk E.N h.b c = true → awp P G h c Q σ → Inv G E σ a w → c.wpIn (Fl r) n P (outK G E Q) a w := by
  intro c
  induction c with
  | skip => exact fun h E r n _ _ _ Q σ a w _ hA hI => wpIn_skip ⟨σ, hA, hI⟩
  | label l => exact fun h E r n _ _ _ Q σ a w _ hA hI => wpIn_label ⟨σ, hA, hI⟩
  | exit id => exact fun h E r n _ _ _ Q σ a w _ hA hI => wpIn_exit ⟨σ, hA, hI⟩
  | goto l => exact fun h E r n _ _ _ Q σ a w _ hA hI => wpIn_goto ⟨σ, hA, hI⟩
  | ret => exact fun h E r n _ _ _ Q σ a w _ hA hI => wpIn_ret ⟨σ, hA, hI⟩
  | refuse s => exact fun h E r n _ _ _ Q σ a w _ hA hI => hA.elim
  | rangeFunc f ps x y ihx ihy =>
    intro h E r n hp hY hr Q σ a w hc hA hI
    simp only [codeOk, Bool.and_eq_true] at hc
    exact range_sound (fun E' m l Q' σ' a' w' hN hβ hJ hr' hA' hI' => ihx ⟨m, h.y, h.b⟩ E' (some l) 0 hβ (fun y hy => by rw [hJ]; exact hY y hy) hr' Q' σ' a' w' (by rw [hN]; exact hc.1.2) hA' hI')
      (fun E' m l Q' σ' a' w' hN hβ hJ hr' hA' hI' => ihy ⟨m, h.y, h.b⟩ E' (some l) 0 hβ (fun y hy => by rw [hJ]; exact hY y hy) hr' Q' σ' a' w' (by rw [hN]; exact hc.2) hA' hI')
      (fun p hp => by have := List.all_eq_true.1 hc.1.1 p hp; simpa using this) hp hr hA hI
  | seq x y ihx ihy =>
    intro h E r n hp hY hr Q σ a w hc hA hI
    simp only [codeOk, Bool.and_eq_true] at hc
    refine wpIn_seq (wpIn_mono (ihx h E r n hp hY hr _ σ a w hc.1 hA hI) ?_)
    rintro e a' w' ⟨σ', hq, hI'⟩
    cases e <;> first | exact ihy h E r n hp hY hr Q σ' a' w' hc.2 hq hI' | exact ⟨σ', hq, hI'⟩
  | cond c x y ihx ihy =>
    intro h E r n hp hY hr Q σ a w hc hA hI
    simp only [codeOk, Bool.and_eq_true] at hc
    obtain ⟨b, hb, h1, h2⟩ := ABr.out hA
    obtain ⟨R, L, rfl, hI⟩ := hI
    have hev := hI.ev c
    rw [hb, rep_sc] at hev
    refine wpIn_cond hev ?_
    cases b with
    | true => exact ihx h E r n hp hY hr Q σ a _ hc.1 (h1 rfl) ⟨R, L, rfl, hI⟩
    | false => exact ihy h E r n hp hY hr Q σ a _ hc.2 (h2 rfl) ⟨R, L, rfl, hI⟩
  | block id c ih =>
    intro h E r n hp hY hr Q σ a w hc hA hI
    refine wpIn_block (wpIn_mono (ih h E r n hp hY hr _ σ a w hc hA hI) ?_)
    rintro e a' w' ⟨σ', hq, hI'⟩
    cases e <;> first
      | exact ⟨σ', hq, hI'⟩
      | (simp only [blockK] at hq
         simp only [Exit.inBlock]
         split at hq
         · rw [if_pos (by assumption)]; exact ⟨σ', hq, hI'⟩
         · rw [if_neg (by assumption)]; exact ⟨σ', hq, hI'⟩)
  | scope c ih =>
    intro h E r n hp hY hr Q σ a w hc hA hI
    refine wpIn_scope_straight (wpIn_mono (ih h E r n hp hY hr _ σ a w hc hA hI) ?_)
    rintro e a' w' ⟨σ', hq, hI'⟩
    cases e <;> first | exact hq.elim | exact ⟨σ', hq, hI'⟩
  | loop c ih =>
    intro h E r n hp hY hr Q σ a w hc hA hI
    obtain ⟨ι, I, ok, μ, i0, h0, hw, hrd⟩ := hA
    refine wpIn_loop_ghost (fun m a w => ∃ i, ok i ∧ μ i = m ∧ Inv G E (I i) a w) (μ i0) ⟨i0, h0, rfl, hI.weak hp hw⟩ ?_
    rintro m a w ⟨i, hi, rfl, hI⟩
    refine wpIn_mono (ih h E r n hp hY hr _ _ a w hc (hrd i hi) hI) ?_
    rintro e a' w' ⟨σ', hq, hI'⟩
    cases e <;> first
      | exact ⟨σ', hq, hI'⟩
      | (obtain ⟨j, hj, hlt, hw'⟩ := hq
         exact ⟨_, hlt, j, hj, rfl, hI'.weak hp hw'⟩)
  | region id ops draw =>
    intro h E r n hp hY hr Q σ a w hc hA hI
    simp only [codeOk, Bool.and_eq_true] at hc
    have hd := dstOk_of hc.1
    cases draw with
    | true =>
      have hok : regOk ops = true ∧ (match lateOf (h.b id) with | some (a, s) => if s == 0 then twinOk ops a else lateOk ops a s | none => match floatOf (h.b id) with | some (s, br') => floatOk ops s br' | none => barrOk ops (h.b id)) = true := by simpa using hc.2
      obtain ⟨ho1, ho2⟩ := hok
      have hA : adraw P G h ops (h.b id) σ (Q .normal) := hA
      unfold adraw at hA
      cases hl : lateOf (h.b id) with
      | none =>
        rw [hl] at ho2 hA
        simp only at ho2 hA
        cases hfl : floatOf (h.b id) with
        | none =>
          rw [hfl] at ho2 hA
          exact draw_sound ⟨hY, hp⟩ hm hd ho1 ho2 hA hI fun a' w' σ' hK hI' => ⟨_, hK, hI'⟩
        | some q =>
          rw [hfl] at ho2 hA
          exact float_sound ⟨hY, hp⟩ hm hd ho1 ho2 hA hI fun a' w' σ' hK hI' => ⟨_, hK, hI'⟩
      | some q =>
        obtain ⟨qa, qs⟩ := q
        rw [hl] at ho2 hA
        simp only at ho2 hA
        cases hqs : qs == 0 with
        | true =>
          rw [hqs] at ho2 hA
          exact twin_sound ⟨hY, hp⟩ hm hd ho1 (by simpa using ho2) hA hI fun a' w' σ' hK hI' => ⟨_, hK, hI'⟩
        | false =>
          rw [hqs] at ho2 hA
          exact late_sound hm hd ho1 (by simpa using ho2) hA hI fun a' w' σ' hK hI' => ⟨_, hK, hI'⟩
    | false =>
      refine wpIn_region_list (aops_sound ⟨hY, hp⟩ (K := Q .normal) (fun a' w' σ' hK hI' => ⟨σ', hK, hI'⟩) _ σ a w hd hA hI fun j o hj => ?_)
      exact hd o (by rw [Array.mem_toList_iff]; exact Array.mem_of_getElem? hj)
def aResOne (P : Program) (σ : St) (rv : ResultVar) (K : C → Prop) : Prop :=
 match rv with
 | .tmp t => K (getC σ.tm t)
 | .cell b t => aLoad P t (getC σ.tm b) σ.bx K
def aRes (P : Program) (σ : St) (rs : List ResultVar) (K : C → Prop) : Prop :=
 match rs with
 | [] => K (.tup [])
 | [x] => aResOne P σ x K
 | [x, y] => aResOne P σ x fun c => aResOne P σ y fun d => K (.tup [c, d])
 | [x, y, z] => aResOne P σ x fun c => aResOne P σ y fun d => aResOne P σ z fun e => K (.tup [c, d, e])
 | [x, y, z, u] => aResOne P σ x fun c => aResOne P σ y fun d => aResOne P σ z fun e => aResOne P σ u fun f => K (.tup [c, d, e, f])
 | _ => False
def resOne (tmps : Array Value) : ResultVar → Sem Value
 | .tmp t => pure (tmps.getD t undef)
 | .cell b t => do loadVar t (← asAddr (tmps.getD b undef))
theorem aResOne_run {R : Env} {L : Loc} (h : InvV G E σ a R L) {rv : ResultVar} {K : C → Prop} (hK : aResOne P σ rv K) : ∃ v c, (resOne a.tmps rv).run P R.w = .ok v R.w ∧ Rep R L c v ∧ K c := by
 cases rv with
 | tmp t => exact ⟨_, _, rfl, h.tm t, hK⟩
 | cell b t =>
  obtain ⟨c, h1, h2⟩ := load_at K (show aLoad P t (getC σ.tm b) σ.bx K from hK)
  obtain ⟨v, ad, e1, e2, e3⟩ := h1 R L (a.tmps.getD b undef) h.good.fit.boxes (h.tm b)
  refine ⟨v, c, ?_, e3, h2⟩
  rw [e1] at e2
  simp only [Instr.loadAt, Instr.sureAddr, Sem.run_bind, Sem.run_pure, Result.andThen_ok] at e2
  simp only [resOne, e1, asAddr, Sem.run_bind, Sem.run_pure, Result.andThen_ok, e2]
theorem run_results {fn : Func} {rs : List ResultVar} (hrs : fn.results.toList = rs) (tmps : Array Value) (w : World) : (results fn tmps).run P w = (((rs.mapM (resOne tmps)).run P w).andThen fun vs w' => .ok (if h : vs.length = 1 then vs[0]'(by omega) else .tuple vs.toArray) w') := by
 have e0 : fn.results = rs.toArray := by rw [← hrs]
 unfold results
 rw [e0, Array.mapM_eq_mapM_toList]
 change (Sem.run P (do
  let vs ← List.toArray <$> List.mapM (resOne tmps) rs
  pure (if h : vs.size = 1 then vs[0] else Value.tuple vs)) w) = _
 simp only [Sem.run_bind, Sem.run_map]
 cases h : (rs.mapM (resOne tmps)).run P w with
 | ok vs w' =>
  simp
 | halt x w' => simp
theorem aRes_run {fn : Func} {R : Env} {L : Loc} (h : InvV G E σ a R L) {rs : List ResultVar} (hrs : fn.results.toList = rs) {K : C → Prop} (hK : aRes P σ rs K) : ∃ v c, (results fn a.tmps).run P R.w = .ok v R.w ∧ Rep R L c v ∧ K c := by
 rw [run_results hrs]
 unfold aRes at hK
 split at hK
 ·exact ⟨.tuple #[], _, by simp, rep_tup.2 ⟨_, rfl, repL_nil.2 rfl⟩, hK⟩
 ·rename_i x
  obtain ⟨v, c, h1, h2, h3⟩ := aResOne_run h hK
  exact ⟨v, c, by simp [h1], h2, h3⟩
 ·rename_i x y
  obtain ⟨v, c, h1, h2, hK⟩ := aResOne_run h hK
  obtain ⟨v2, c2, g1, g2, hK⟩ := aResOne_run h hK
  exact ⟨_, _, by simp [h1, g1], rep_tup.2 ⟨#[v, v2], rfl, repL_cons.2 ⟨_, _, rfl, h2, repL_cons.2 ⟨_, _, rfl, g2, repL_nil.2 rfl⟩⟩⟩, hK⟩
 ·rename_i x y z
  obtain ⟨v, c, h1, h2, hK⟩ := aResOne_run h hK
  obtain ⟨v2, c2, g1, g2, hK⟩ := aResOne_run h hK
  obtain ⟨v3, c3, k1, k2, hK⟩ := aResOne_run h hK
  exact ⟨_, _, by simp [h1, g1, k1], rep_tup.2 ⟨#[v, v2, v3], rfl, repL_cons.2 ⟨_, _, rfl, h2, repL_cons.2 ⟨_, _, rfl, g2, repL_cons.2 ⟨_, _, rfl, k2, repL_nil.2 rfl⟩⟩⟩⟩, hK⟩
 ·rename_i x y z u
  obtain ⟨v, c, h1, h2, hK⟩ := aResOne_run h hK
  obtain ⟨v2, c2, g1, g2, hK⟩ := aResOne_run h hK
  obtain ⟨v3, c3, k1, k2, hK⟩ := aResOne_run h hK
  obtain ⟨v4, c4, l1, l2, hK⟩ := aResOne_run h hK
  exact ⟨_, _, by simp [h1, g1, k1, l1], rep_tup.2 ⟨#[v, v2, v3, v4], rfl, repL_cons.2 ⟨_, _, rfl, h2, repL_cons.2 ⟨_, _, rfl, g2, repL_cons.2 ⟨_, _, rfl, k2, repL_cons.2 ⟨_, _, rfl, l2, repL_nil.2 rfl⟩⟩⟩⟩⟩, hK⟩
 ·exact hK.elim
def retK (P : Program) (rs : List ResultVar) (K : C → St → Prop) : Exit → St → Prop
 | .normal, σ => aRes P σ rs fun c => K c σ
 | .ret, σ => aRes P σ rs fun c => K c σ
 | _, _ => False
def tmOf : Nat → List C → List (Nat × C)
 | _, [] => []
 | i, c :: r => (i, c) :: tmOf (i + 1) r
theorem tmOf_get {R : Env} {L : Loc} : ∀ (cs : List C) (vs : List Value) (i : Nat) (f : Nat → Value), RepL R L cs vs → (∀ (j : Nat) v, vs[j]? = some v → f (i + j) = v) → ∀ t, Rep R L (getC (tmOf i cs) t) (f t)
 | [], vs, i, f, h, hf, t => by unfold tmOf getC Rep; trivial
 | c :: r, vs, i, f, h, hf, t => by
  obtain ⟨v, us, rfl, h1, h2⟩ := repL_cons.1 h
  simp only [tmOf, getC]
  split
  ·subst_vars
   have := hf 0 v rfl
   rw [Nat.add_zero] at this
   rw [this]; exact h1
  ·exact tmOf_get r us (i + 1) f h2 (fun j v hj => by
    have := hf (j + 1) v (by simpa using hj)
    rwa [show i + 1 + j = i + (j + 1) by omega]) t
theorem leaves_marks {L : Loc} {Rr : Ending → World → Prop} {fn : Func} (hE : E.df = []) : ∀ (l : List Nat) (a : Act) (R : Env), a.defers = l.map markOf → l.Nodup → (∀ d ∈ l, R.w.heap[d]? = some (.deferred (some [])) ∧ E.w0.heap.size ≤ d ∧ ¬ R.F d) → InvV G E σ a R L →
  (∀ a' R', a'.tmps = a.tmps → InvV G E σ a' R' L → ∃ v, (results fn a.tmps).run P R'.w = .ok v R'.w ∧ Rr (.returned v) R'.w) → LeavesInM Fence.wide 0 P fn a.tmps Rr a.defers .returning R.w
 | [], a, R, hd, _, _, hI, hk => by
  rw [hd]
  obtain ⟨v, h1, h2⟩ := hk a R rfl hI
  exact ⟨v, h1, h2⟩
 | d :: l, a, R, hd, hn, hl, hI, hk => by
  obtain ⟨h1, h2, h3⟩ := hl d List.mem_cons_self
  rw [hd]
  refine ⟨by simp, .inl ⟨d, _, rfl, run_takeDeferred h1, ?_⟩⟩
  have hni := nigh_putObj (E := E) (R := R) (o := .deferred none) (.inl h2) h3 (fun cs t f hc => by rw [h1] at hc; cases hc)
  have hnT : ¬ Turf L d := fun hb => by
   obtain ⟨_, _, _, hc⟩ := hI.good.turf hb
   rcases hc with ⟨cs, t, f, hc⟩ | ⟨cs, t, hc⟩ <;> exact nomatch h1.symm.trans hc
  have hg := hI.good.stay hni fun b hb => ⟨World.putObj_heap_other fun e => hnT (e ▸ hb), fun _ => Iff.rfl⟩
  have hl' : ∀ x ∈ l, (R.w.putObj d (.deferred none)).heap[x]? = some (.deferred (some [])) ∧ E.w0.heap.size ≤ x ∧ ¬ R.F x := fun x hx => by
   obtain ⟨g1, g2, g3⟩ := hl x (List.mem_cons_of_mem _ hx)
   exact ⟨(World.putObj_heap_other fun e : x = d => (List.nodup_cons.1 hn).1 (by rw [← e]; exact hx)).trans g1, g2, g3⟩
  exact leaves_marks hE l { a with defers := l.map markOf } ⟨R.w.putObj d (.deferred none), R.M, R.F⟩ rfl (List.nodup_cons.1 hn).2 hl'
   ⟨hg, hI.size, ⟨l, by rw [hE, List.append_nil], (List.nodup_cons.1 hn).2, hl'⟩, fun t => Rep.ext hni.ext (LocLe.refl _) _ _ (hI.tm t)⟩ hk
theorem calls_of_awp {h : Hd} {R : Env} {L : Loc} {f : FuncId} {fn : Func} {code : Code} {vs : List Value} {K : C → St → Prop} {Rr : Ending → World → Prop} (hm : P.follows .mixedOrders = true) (hf : P.funcs[f]? = some fn) (hb : fn.body = some code) (hok : codeOk fn.ntmps h.b code = true)
  (hN : E.N = fn.ntmps) (hdf : E.df = []) (hp : E.β0.length ≤ h.p) (hY : ∀ y, h.y = some y → YOk P y E.J) (hA : awp P G h code (retK P fn.results.toList K) σ)
  (hI : InvV G E σ { tmps := vs.toArray ++ Array.replicate (fn.ntmps - vs.toArray.size) undef, defers := [] } R L)
  (hK : ∀ σ' a' R' L' v c, K c σ' → InvV G E σ' a' R' L' → Rep R' L' c v → Rr (.returned v) R'.w) : Calls P f vs.toArray R.w Rr := by
 refine (callsIn_wide (n := 0)).1 (callsIn_of_wp_marks hf hb trivial (wpIn_mono (awp_sound hm code h E none 0 hp hY (fun l0 hl0 => by cases hl0) _ σ _ _ (by rw [hN]; exact hok) hA ⟨R, L, rfl, hI⟩) ?_))
 have fin : ∀ a' w' σ', aRes P σ' fn.results.toList (fun c => K c σ') → Inv G E σ' a' w' → LeavesInM Fence.wide 0 P fn a'.tmps Rr a'.defers .returning w' := by
  rintro a' w' σ' hres ⟨R', L', rfl, hI'⟩
  obtain ⟨l, e, hn, hl⟩ := hI'.df
  rw [hdf, List.append_nil] at e
  refine leaves_marks hdf l a' R' e hn hl hI' fun a2 R2 ha hI2 => ?_
  obtain ⟨v, c, h1, h2, h3⟩ := aRes_run (fn := fn) hI2 rfl hres
  rw [ha] at h1
  exact ⟨v, h1, hK σ' a2 R2 L' v c h3 hI2 h2⟩
 rintro e a' w' ⟨σ', hq, hI'⟩
 cases e <;> first | exact hq.elim | exact fin a' w' σ' hq hI'
theorem init_tmps {R : Env} {L : Loc} {args : List C} {vs : List Value} {n : Nat} (hN : args.length ≤ n) (hargs : RepL R L args vs) : (vs.toArray ++ Array.replicate (n - vs.toArray.size) undef).size = n ∧ ∀ t, Rep R L (getC (tmOf 0 args) t) ((vs.toArray ++ Array.replicate (n - vs.toArray.size) undef).getD t undef) := by
 have hvl := repL_length hargs
 refine ⟨by simp; omega, tmOf_get args vs 0 _ hargs fun j v hj => ?_⟩
 have hj' : j < vs.length := (List.getElem?_eq_some_iff.1 hj).1
 rw [Nat.zero_add, Array.getD_eq_getD_getElem?, Array.getElem?_append_left (by simpa using hj')]
 simp [hj]
theorem frz_cells {R R2 : Env} {L : Loc} {b : Nat} {vs : Array Value} {ty : TypeId} (he : Ext R R2) (hh : R2.w.heap[b]? = some (.cells vs ty (0, 0))) (hM : ∀ o, ¬ R2.M b o) : ∀ (cs : List C) (us : List Value) (off : Nat), RepL R L cs us → vs.toList.drop off = us → (∀ v ∈ us, v.oneCell' = true) → RepCells R2 (C.frzL cs) b off
 | [], _, _, _, _, _ => by unfold C.frzL; exact repCells_nil
 | c :: r, us, off, hr, hd, h1 => by
  obtain ⟨v, us', rfl, g1, g2⟩ := repL_cons.1 hr
  unfold C.frzL
  have hv : vs[off]? = some v := by
   have := List.getElem?_drop (xs := vs.toList) (i := off) (j := 0)
   rw [hd] at this
   simpa using this.symm
  refine repCells_cons.2 ⟨⟨v, ?_, hM off, Rep.ext he (LocLe.refl _) _ _ (g1.frz noLoc), h1 v List.mem_cons_self⟩, frz_cells he hh hM r us' (off + 1) g2 ?_ fun x hx => h1 x (List.mem_cons_of_mem _ hx)⟩
  ·rw [cell_of_row R2.w b off vs ty (0, 0) hh]; exact hv
  ·rw [← List.drop_drop, hd]; rfl
theorem frzL_drop : ∀ (n : Nat) (cs : List C), C.frzL (cs.drop n) = (C.frzL cs).drop n
 | 0, _ => rfl
 | n + 1, [] => by simp [C.frzL]
 | n + 1, c :: r => by
  have h : C.frzL (c :: r) = c.frz :: C.frzL r := by rw [C.frzL]
  rw [h]; exact frzL_drop n r
mutual
theorem Rep.fz {R R2 : Env} {L : Loc} {bx : List (List C)} (he : Ext R R2) (hbx : BoxesOk R L bx) (hw : R2.w = R.w) (hM : ∀ b ∈ L.β, ∀ o, ¬ R2.M b o) : ∀ (c : C) (v : Value), Rep R L c v → Rep R2 L (c.fz bx) v
 | .ptr i off, _, h => by
  unfold C.fz
  obtain ⟨b, hb, e⟩ := rep_ptr.1 h
  split
  ·rename_i cs hcs
   obtain ⟨vs, ty, e1, e2, e3, e4⟩ := hbx.box i b cs hb hcs
   refine rep_row.2 ⟨b, off, e, ?_⟩
   rw [← frzL_drop]
   refine frz_cells (L := L) he (by rw [hw]; exact e1) (hM b (List.mem_of_getElem? hb)) _ (vs.toList.drop off) off (repL_drop off e2) rfl fun x hx => e3 x (List.mem_of_mem_drop hx)
  ·exact le_any
 | .agg cs, _, h => by
  unfold C.fz; unfold Rep at h ⊢
  obtain ⟨vs, e, hl⟩ := h
  exact ⟨vs, e, RepL.fz he hbx hw hM cs _ hl⟩
 | .tup cs, _, h => by
  unfold C.fz; unfold Rep at h ⊢
  obtain ⟨vs, e, hl⟩ := h
  exact ⟨vs, e, RepL.fz he hbx hw hM cs _ hl⟩
 | .clo fn first cap, _, h => by
  unfold C.fz; unfold Rep at h ⊢
  obtain ⟨fs, cs, e, h1, h2⟩ := h
  exact ⟨fs, cs, e, RepL.fz he hbx hw hM first _ h1, RepL.fz he hbx hw hM cap _ h2⟩
 | .sc v, _, h => Rep.ext he (LocLe.refl _) _ _ h
 | .str l, _, h => Rep.ext he (LocLe.refl _) _ _ h
 | .sl k rows, _, h => Rep.ext he (LocLe.refl _) _ _ h
 | .tight k rows, _, h => Rep.ext he (LocLe.refl _) _ _ h
 | .own id e k rows, _, h => Rep.ext he (LocLe.refl _) _ _ h
 | .mo id t ks vs, _, h => Rep.ext he (LocLe.refl _) _ _ h
 | .row cs, _, h => Rep.ext he (LocLe.refl _) _ _ h
 | .bs i off k n c, _, h => by unfold C.fz; exact le_any
 | .any, _, h => Rep.ext he (LocLe.refl _) _ _ h
theorem RepL.fz {R R2 : Env} {L : Loc} {bx : List (List C)} (he : Ext R R2) (hbx : BoxesOk R L bx) (hw : R2.w = R.w) (hM : ∀ b ∈ L.β, ∀ o, ¬ R2.M b o) : ∀ (cs : List C) (vs : List Value), RepL R L cs vs → RepL R2 L (C.fzL bx cs) vs
 | [], _, h => by unfold C.fzL; rw [repL_nil] at h ⊢; exact h
 | c :: r, _, h => by
  unfold C.fzL; rw [repL_cons] at h ⊢
  obtain ⟨v, us, e, h1, h2⟩ := h
  exact ⟨v, us, e, Rep.fz he hbx hw hM c v h1, RepL.fz he hbx hw hM r us h2⟩
end
theorem Fun.of_awp {f : FuncId} {fn : Func} {code : Code} {args : List C} {r : C} {n : Nat} (b : Nat → List Bool) (hm : P.follows .mixedOrders = true) (hf : P.funcs[f]? = some fn) (hb : fn.body = some code) (hnm : (fn.name == "runtime.NumGoroutine") = false) (hN : args.length ≤ fn.ntmps) (hok : codeOk fn.ntmps b code = true)
  (h : awp P G ⟨0, none, b⟩ code (retK P fn.results.toList fun c σ => ∃ src : Src, srcOk src = true ∧ src.length = n ∧ CLe src 0 (c.fz σ.bx) r) ⟨tmOf 0 args, [], 0, 0⟩) : Fun P G f args r n := by
 refine ⟨by unfold entersB; rw [hf]; simp [hnm, hb], fun R vs hg hargs => ?_⟩
 let E : Ctx := ⟨R.w, R.M, [], fun _ => False, fn.ntmps, [], fun _ => False, fun _ => False, fun _ h => h, fun _ _ => True, fun _ _ _ _ _ => trivial⟩
 let R0 : Env := ⟨R.w, R.M, fun _ => False⟩
 have hx : Ext R R0 := ⟨fun _ _ _ h1 h2 => ⟨h1, h2⟩, fun _ _ _ _ h1 h2 => ⟨h1, h2⟩⟩
 have hargs0 : RepL R0 noLoc args vs := RepL.ext hx (LocLe.refl _) _ _ hargs
 obtain ⟨i1, i2⟩ := init_tmps hN hargs0
 have hinv : InvV G E ⟨tmOf 0 args, [], 0, 0⟩ { tmps := vs.toArray ++ Array.replicate (fn.ntmps - vs.toArray.size) undef, defers := [] } R0 noLoc :=
  ⟨⟨⟨hg.ext hx, ⟨rfl, List.nodup_nil, fun i b cs hi => (by simp at hi)⟩, ⟨fun id e k v ht => (by cases ht), fun id id' e k v e' k' v' b ht => (by cases ht)⟩, fun g hg => .inl hg⟩, rfl, rfl, rfl, Nat.le_refl _, fun _ _ _ _ => ⟨rfl, fun _ => Iff.rfl⟩, ⟨fun _ _ _ h1 h2 => ⟨h1, h2⟩, fun _ _ _ _ h1 h2 => ⟨h1, h2⟩⟩, ⟨[], rfl⟩, fun b hb => (by cases hb), fun _ h => h.elim, fun _ _ => Iff.rfl, fun b hb => (by cases hb), fun id e k v b ht => (by cases ht), fun _ _ => rfl, trivial⟩, i1, ⟨[], rfl, List.nodup_nil, fun d hd => (by cases hd)⟩, i2⟩
 refine calls_of_awp (E := E) (R := R0) hm hf hb hok rfl rfl (Nat.zero_le _) (fun y hy => by cases hy) h hinv ?_
 rintro σ' a' R' L' v c ⟨src, h3, h4, h5⟩ hI h2
 have hgd := hI.good
 have hblk : ∀ b, b < R.w.heap.size → R'.w.heap[b]? = R.w.heap[b]? ∧ ∀ o, (R'.M b o ↔ R.M b o) := fun b hb => hgd.blk b hb (fun h => h) fun hF => (hgd.fz b hb).1 hF
 have hx' : Ext R' ⟨R'.w, fun b o => R'.M b o ∧ b ∉ L'.β, R.F⟩ := ⟨fun _ _ _ h1 h2 => ⟨h1, fun h => h2 h.1⟩, fun _ _ _ _ h1 h2 => ⟨h1, fun o h => h2 o h.1⟩⟩
 have how := srcT_own (β' := []) h3 (fun b hb => (by cases hb)) hgd.fit.owns
 have hnew : ∀ b ∈ L'.β, R.w.heap.size ≤ b := fun b hb => (hgd.tub b hb).elim id fun g => g.elim
 have hfz : Rep ⟨R'.w, fun b o => R'.M b o ∧ b ∉ L'.β, R.F⟩ L' (c.fz σ'.bx) v := Rep.fz hx' hgd.fit.boxes rfl (fun b hb o h => h.2 hb) _ _ h2
 refine ⟨v, ⟨R'.w, fun b o => R'.M b o ∧ b ∉ L'.β, R.F⟩, lessLoc src 0 L', rfl, rfl, ⟨⟨hgd.os, hgd.tape, hgd.output, hgd.size, fun b hb => (hblk b hb).1⟩, rfl, by simp, fun b o hb => ?_, fun id hi => ?_, fun id e k v hi hj ht => ?_, fun id id' e k v e' k' v' b hi hi2 hj hj2 h6 h7 h8 h9 => ?_⟩, Rep.less _ _ _ h5 hfz⟩
 ·refine ⟨fun h => ((hblk b hb).2 o).1 h.1, fun h => ⟨((hblk b hb).2 o).2 h, fun hx => ?_⟩⟩
  have := hnew b hx; omega
 ·show srcT src L'.T id = none
  unfold srcT
  rw [List.getElem?_eq_none (by omega)]
 ·have hob := hgd.fit.owns
  ·refine (how.own id e k v ht).move fun g hv q2 hlt q7 => ?_
   have hnb : g ∉ L'.β := by
    obtain ⟨i, _, hi2⟩ := srcT_block (R := R) ht hv
    exact ((hob.own i e k v hi2).block hv).2.2
   refine ⟨?_, rfl, q7, fun o ho => ⟨ho, hnb⟩⟩
   rcases q2 with q2 | q2
   ·exact q2
   ·exact q2.elim
 ·exact how.apart id id' e k v e' k' v' b h6 h7 h8 h9
theorem FunX.of_awpK {f : FuncId} {fn : Func} {code : Code} {args : List C} {bx : List (List C)} {q : Nat} {post : C → List (List C) → Nat → Prop} {K0 : C → St → Prop} (b : Nat → List Bool) (hm : P.follows .mixedOrders = true) (hf : P.funcs[f]? = some fn) (hb : fn.body = some code) (hnm : (fn.name == "runtime.NumGoroutine") = false) (hN : args.length ≤ fn.ntmps) (hok : codeOk fn.ntmps b code = true) 
  (h : awp P G ⟨bx.length, none, b⟩ code (retK P fn.results.toList K0) ⟨tmOf 0 args, bx, q, 0⟩) (hK0 : ∀ c σ, K0 c σ → ∃ r bx' n, (post r bx' n ∧ bx.length ≤ bx'.length) ∧ ∃ src : Src, srcOk src = true ∧ src.length = n ∧ WeakBx src bx'.length σ.bx bx' ∧ CLe src bx'.length c r) : FunX P G f args bx q post := by
 refine ⟨by unfold entersB; rw [hf]; simp [hnm, hb], fun R L vs hg hbx how hfree hflt hFT hargs => ?_⟩
 let E : Ctx := ⟨R.w, R.M, L.β, Turf L, fn.ntmps, [], fun _ => False, fun b => b ∈ L.β, fun _ h => .inl h, fun _ _ => True, fun _ _ _ _ _ => trivial⟩
 let R0 : Env := ⟨R.w, R.M, fun _ => False⟩
 have hx : Ext R R0 := ⟨fun _ _ _ h1 h2 => ⟨h1, h2⟩, fun _ _ _ _ h1 h2 => ⟨h1, h2⟩⟩
 have hargs0 : RepL R0 L args vs := RepL.ext hx (LocLe.refl _) _ _ hargs
 obtain ⟨i1, i2⟩ := init_tmps hN hargs0
 have hinv : InvV G E ⟨tmOf 0 args, bx, q, 0⟩ { tmps := vs.toArray ++ Array.replicate (fn.ntmps - vs.toArray.size) undef, defers := [] } R0 L := by
  refine ⟨⟨⟨hg.ext hx, ⟨hbx.len, hbx.nodup, fun i b cs hi hc => ?_⟩, ⟨fun id e k v ht => ?_, how.apart⟩, fun g hg => .inl hg⟩, rfl, rfl, rfl, Nat.le_refl _, fun _ _ _ _ => ⟨rfl, fun _ => Iff.rfl⟩, ⟨fun _ _ _ h1 h2 => ⟨h1, h2⟩, fun _ _ _ _ h1 h2 => ⟨h1, h2⟩⟩, ⟨[], by simp [E]⟩, fun b hb => .inr hb, fun _ h => h.elim, fun _ _ => Iff.rfl, fun b hb h => h, fun id e k v b ht hv h => h, hfree, trivial⟩, i1, ⟨[], rfl, List.nodup_nil, fun d hd => (by cases hd)⟩, i2⟩
  ·obtain ⟨vs, ty, e1, e2, e3, e4⟩ := hbx.box i b cs hi hc
   exact ⟨vs, ty, e1, RepL.ext hx (LocLe.refl _) _ _ e2, e3, e4⟩
  ·exact (how.own id e k v ht).move fun g hv q2 _ q7 => ⟨.inr (.inr ⟨id, e, k, v, ht, hv⟩), rfl, q7, fun _ h => h⟩
 refine calls_of_awp (E := E) (R := R0) hm hf hb hok rfl rfl (by show L.β.length ≤ bx.length; rw [hbx.len]; exact Nat.le_refl _) (fun y hy => by cases hy) h hinv ?_
 rintro σ' a' R' L' v c h0 hI h2
 obtain ⟨r, bx', n, ⟨hpost, hlen⟩, src, h3, h4, h5, h6⟩ := hK0 _ _ h0
 have hgd := hI.good
 have hwk : Weak bx.length ⟨[], σ'.bx, σ'.nx, σ'.lg⟩ ⟨[], bx', n, σ'.lg⟩ := ⟨src, h3, h4, hlen, rfl, trivial, h5⟩
 have hx' : Ext R' ⟨R'.w, R'.M, R.F⟩ := ⟨fun _ _ _ h1 h2 => ⟨h1, h2⟩, fun _ _ _ _ h1 h2 => ⟨h1, h2⟩⟩
 have hblen : σ'.bx.length = L'.β.length := hgd.fit.boxes.len.symm
 have hle : bx'.length ≤ σ'.bx.length := by
  rcases Nat.lt_or_ge σ'.bx.length bx'.length with hx | hx
  ·obtain ⟨cs, hc, _⟩ := weakBx_get h5 σ'.bx.length (bx'[σ'.bx.length]) (List.getElem?_eq_getElem hx)
   simp at hc
  ·exact hx
 obtain ⟨more, hm1⟩ := hgd.box
 have hm1 : L'.β = L.β ++ more := hm1
 have hbl := hbx.len
 have hown := srcT_own (β' := L'.β.take bx'.length) h3 (fun b hb => List.mem_of_mem_take hb) hgd.fit.owns
 have hblk : ∀ b, b < R.w.heap.size → ¬ Turf L b → R'.w.heap[b]? = R.w.heap[b]? ∧ ∀ o, (R'.M b o ↔ R.M b o) := fun b hb hT => hgd.blk b hb hT fun hF => (hgd.fz b hb).1 hF
 have hcells : ∀ b, Turf L b → (∃ cs t f, R.w.heap[b]? = some (.cells cs t f)) ∨ ∃ es cl, R.w.heap[b]? = some (.map es cl) := fun b hT => by
  rcases hT with hT | ⟨id, e, k, v, ht, hv⟩
  ·obtain ⟨i, hi, rfl⟩ := List.getElem_of_mem hT
   obtain ⟨vs, ty, g, _⟩ := hbx.box i L.β[i] (bx[i]'(by omega)) (List.getElem?_eq_getElem hi) (List.getElem?_eq_getElem (by omega))
   exact .inl ⟨_, _, _, g⟩
  ·exact (how.own id e k v ht).held hv
 refine ⟨r, bx', n, ⟨hpost, hlen⟩, v, ⟨R'.w, R'.M, R.F⟩, lessLoc src bx'.length L', rfl, rfl, ⟨hgd.os, hgd.tape, hgd.output, hgd.size, rfl, ⟨hgd.ext.cell, hgd.ext.whole⟩, fun b hb => ?_⟩, ⟨by simp; omega, hgd.fit.boxes.nodup.sublist (List.take_sublist _ _), fun i b cs' hi hc => ?_⟩, ⟨fun id e k v ht => ?_, hown.apart⟩, ⟨more.take (bx'.length - L.β.length), ?_, fun b hb => ?_⟩, fun id hi => ?_, Rep.ext hx' (LocLe.refl _) _ _ (Rep.less _ _ _ h6 h2)⟩
 ·by_cases hT : Turf L b
  ·exact .inr ⟨.inr hT, hFT b hT, hcells b hT⟩
  ·exact .inl (hblk b hb hT)
 ·obtain ⟨cs, hc1, hc2⟩ := weakBx_get h5 i cs' hc
  have hi' : L'.β[i]? = some b := by
   have hi : (L'.β.take bx'.length)[i]? = some b := hi
   rw [List.getElem?_take] at hi
   split at hi
   ·exact hi
   ·cases hi
  obtain ⟨vs, ty, e1, e2, e3, e4⟩ := hgd.fit.boxes.box i b cs hi' hc1
  exact ⟨vs, ty, e1, RepL.ext hx' (LocLe.refl _) _ _ (RepL.less _ _ _ hc2 e2), e3, e4⟩
 ·exact (hown.own id e k v ht).move fun g _ q2 _ q7 => ⟨q2, rfl, q7, fun _ h => h⟩
 ·show L'.β.take bx'.length = _
  rw [hm1, List.take_append, List.take_of_length_le (by omega)]
 ·have hb' : b ∈ more := List.mem_of_mem_take hb
  have hbm : b ∈ L'.β := by rw [hm1]; exact List.mem_append_right _ hb'
  rcases hgd.tub b hbm with g | g
  ·exact g
  ·have hn := hgd.fit.boxes.nodup
   rw [hm1, List.nodup_append] at hn
   exact absurd rfl (hn.2.2 b g b hb')
 ·show srcT src L'.T id = none
  unfold srcT
  rw [List.getElem?_eq_none (by omega)]
theorem FunX.of_awp {f : FuncId} {fn : Func} {code : Code} {args : List C} {bx : List (List C)} {q : Nat} {post : C → List (List C) → Nat → Prop} (b : Nat → List Bool) (hm : P.follows .mixedOrders = true) (hf : P.funcs[f]? = some fn) (hb : fn.body = some code) (hnm : (fn.name == "runtime.NumGoroutine") = false) (hN : args.length ≤ fn.ntmps) (hok : codeOk fn.ntmps b code = true)
  (h : awp P G ⟨bx.length, none, b⟩ code (retK P fn.results.toList fun c σ => ∃ r bx' n, (post r bx' n ∧ bx.length ≤ bx'.length) ∧ ∃ src : Src, srcOk src = true ∧ src.length = n ∧ WeakBx src bx'.length σ.bx bx' ∧ CLe src bx'.length c r) ⟨tmOf 0 args, bx, q, 0⟩) : FunX P G f args bx q post :=
 FunX.of_awpK b hm hf hb hnm hN hok h fun _ _ h => h
theorem FunB.of_awp {f : FuncId} {fn : Func} {code : Code} {args : List C} {bx bx' : List (List C)} {r : C} {q n : Nat} (b : Nat → List Bool) (hm : P.follows .mixedOrders = true) (hf : P.funcs[f]? = some fn) (hb : fn.body = some code) (hnm : (fn.name == "runtime.NumGoroutine") = false) (hN : args.length ≤ fn.ntmps) (hok : codeOk fn.ntmps b code = true) (hlen : bx.length ≤ bx'.length)
  (h : awp P G ⟨bx.length, none, b⟩ code (retK P fn.results.toList fun c σ => ∃ src : Src, srcOk src = true ∧ src.length = n ∧ WeakBx src bx'.length σ.bx bx' ∧ CLe src bx'.length c r) ⟨tmOf 0 args, bx, q, 0⟩) : FunB P G f args bx q r bx' n :=
 FunX.of_awpK b hm hf hb hnm hN hok h fun c σ h => ⟨r, bx', n, ⟨⟨rfl, rfl, rfl⟩, hlen⟩, h⟩
theorem Iter.of_awp {f : FuncId} {fn : Func} {code : Code} {first cap : List C} {bx items : List (List C)} (b : Nat → List Bool) (hm : P.follows .mixedOrders = true) (hf : P.funcs[f]? = some fn) (hb : fn.body = some code) (hnm : (fn.name == "runtime.NumGoroutine") = false) (hN : first.length + 1 + cap.length ≤ fn.ntmps) (hok : codeOk fn.ntmps b code = true)
  (h : ∀ (l : Nat) (st : Nat → Bool), awp P G ⟨0, some ⟨l, items, st⟩, b⟩ code (retK P fn.results.toList fun c σ => EndAt items st σ.lg) ⟨tmOf 0 (first ++ [.sc (.func (.yield l) #[] #[])] ++ cap), bx, 0, 0⟩) : Iter P G f first cap bx items := by
 refine ⟨by unfold entersB; rw [hf]; simp [hnm, hb], fun l st J R L us vs hg hbx hT hflt hfb hstab hYk hJ hus hvs => ?_⟩
 let E : Ctx := ⟨R.w, R.M, [], fun b => b ∈ L.β, fn.ntmps, [], R.F, fun b => b ∈ L.β, fun _ h => h, J, hstab⟩
 have hargs : RepL R L (first ++ [.sc (.func (.yield l) #[] #[])] ++ cap) (us ++ [Value.func (.yield l) #[] #[]] ++ vs) := repL_append (repL_append hus (repL_cons.2 ⟨_, _, rfl, rep_sc.2 rfl, repL_nil.2 rfl⟩)) hvs
 obtain ⟨i1, i2⟩ := init_tmps (n := fn.ntmps) (by simp; omega) hargs
 have hinv : InvV G E ⟨tmOf 0 (first ++ [.sc (.func (.yield l) #[] #[])] ++ cap), bx, 0, 0⟩ { tmps := (us ++ [Value.func (.yield l) #[] #[]] ++ vs).toArray ++ Array.replicate (fn.ntmps - (us ++ [Value.func (.yield l) #[] #[]] ++ vs).toArray.size) undef, defers := [] } R L :=
  ⟨⟨⟨hg, hbx, ⟨fun id e k v ht => (by rw [hT] at ht; cases ht), fun id id' e k v e' k' v' b ht => (by rw [hT] at ht; cases ht)⟩, fun g hg => .inl hg⟩, rfl, rfl, rfl, Nat.le_refl _, fun _ _ _ _ => ⟨rfl, fun _ => Iff.rfl⟩, ⟨fun _ _ _ h1 h2 => ⟨h1, h2⟩, fun _ _ _ _ h1 h2 => ⟨h1, h2⟩⟩, ⟨L.β, rfl⟩, fun b hb => .inr hb, hflt, fun _ _ => Iff.rfl, hfb, fun id e k v b ht => (by rw [hT] at ht; cases ht), fun id _ => hT id, hJ⟩, i1, ⟨[], rfl, List.nodup_nil, fun d hd => (by cases hd)⟩, i2⟩
 refine calls_of_awp (E := E) hm hf hb hok rfl rfl (Nat.zero_le _) (fun y hy => by cases hy; exact hYk) (h l st) hinv ?_
 rintro σ' a' R' L' v c hend hI h2
 exact ⟨v, R', σ'.lg, rfl, rfl, hI.good.log, hend⟩
end
end Go.Proofs.YtbphobmohdclaaaGreatDoor.Vcg
end
section
set_option linter.unusedVariables false
set_option linter.unusedSimpArgs false
namespace Go.Proofs.YtbphobmohdclaaaGreatDoor.Vcg
open Go.RowKit
abbrev Fr := List (Nat × TypeId × Nat × List (List C) × Nat)
def frGet (nx : Nat) : Fr → Nat → Nat → Nat → Nat → Nat → C
 | [], _, _, _, _, _ => .any
 | (i', e, k', rows, cap) :: r, i, off, k, n, c => if i = i' ∧ off = 0 ∧ k = k' ∧ n = rows.length ∧ c = cap then .own nx e k' rows else frGet (nx + 1) r i off k n c
theorem frGet_out : ∀ (fr : Fr) (nx i off k n c : Nat), frGet nx fr i off k n c = .any ∨ ∃ j e rows, fr[j]? = some (i, e, k, rows, c) ∧ off = 0 ∧ n = rows.length ∧ frGet nx fr i off k n c = .own (nx + j) e k rows
 | [], nx, i, off, k, n, c => .inl rfl
 | (i', e, k', rows, cap) :: r, nx, i, off, k, n, c => by
  unfold frGet
  split
  ·rename_i h
   obtain ⟨rfl, rfl, rfl, rfl, rfl⟩ := h
   exact .inr ⟨0, e, rows, rfl, rfl, rfl, rfl⟩
  ·rcases frGet_out r (nx + 1) i off k n c with h | ⟨j, e', rows', h1, h2, h3, h4⟩
   ·exact .inl h
   ·exact .inr ⟨j + 1, e', rows', by simpa using h1, h2, h3, by rw [h4, show nx + 1 + j = nx + (j + 1) by omega]⟩
def frOk (fr : Fr) (bx : List (List C)) : Prop := (fr.map (·.1)).Nodup ∧ ∀ x ∈ fr, ∃ cs, bx[x.1]? = some cs ∧ 0 < x.2.2.2.2 ∧ x.2.2.2.1.length ≤ x.2.2.2.2 ∧ x.2.2.2.2 ≤ maxLen ∧ cs.length = x.2.2.2.2 * x.2.2.1 ∧ (∀ r ∈ x.2.2.2.1, r.length = x.2.2.1) ∧ (C.frzL cs).take (x.2.2.2.1.length * x.2.2.1) = x.2.2.2.1.flatten
mutual
/-- a result, at the function's end, some boxes being turned into owners -/
def C.fy (nx : Nat) (fr : Fr) (bx : List (List C)) : C → C
 | .ptr i off => if i ∈ fr.map (·.1) then .any else C.fz bx (.ptr i off)
 | .agg cs => .agg (C.fyL nx fr bx cs)
 | .tup cs => .tup (C.fyL nx fr bx cs)
 | .clo fn first cap => .clo fn (C.fyL nx fr bx first) (C.fyL nx fr bx cap)
 | .bs i off k n c => frGet nx fr i off k n c
 | .sc v => .sc v
 | .str l => .str l
 | .sl k rows => .sl k rows
 | .tight k rows => .tight k rows
 | .own id e k rows => .own id e k rows
 | .mo id t ks vs => .mo id t ks vs
 | .row cs => .row cs
 | .any => .any
def C.fyL (nx : Nat) (fr : Fr) (bx : List (List C)) : List C → List C
 | [] => []
 | c :: r => c.fy nx fr bx :: C.fyL nx fr bx r
end
def frT (nx : Nat) (fr : Fr) (β : List Nat) (T : Own) : Own := fun id => if id < nx then T id else match fr[id - nx]? with
 | some (i, e, k, rows, cap) => (β[i]?).map fun b => (e, k, .slice (some ⟨b, 0, none⟩) rows.length cap)
 | none => none
def frM (fr : Fr) (β : List Nat) (b o : Nat) : Prop := ∃ x ∈ fr, β[x.1]? = some b ∧ x.2.2.2.1.length * x.2.2.1 ≤ o
section
variable {P : Program} {G : Globs} {E : Ctx} {σ : St}
theorem frz_cellsN {R R2 : Env} {L : Loc} {b : Nat} {vs : Array Value} {ty : TypeId} (he : Ext R R2) (hh : R2.w.heap[b]? = some (.cells vs ty (0, 0))) {N : Nat} (hM : ∀ o, o < N → ¬ R2.M b o) : ∀ (cs : List C) (us : List Value) (off : Nat), off + cs.length ≤ N → RepL R L cs us → (∃ z, vs.toList.drop off = us ++ z) → (∀ v ∈ us, v.oneCell' = true) → RepCells R2 (C.frzL cs) b off
 | [], _, _, _, _, _, _ => by unfold C.frzL; exact repCells_nil
 | c :: r, us, off, hN, hr, hd, h1 => by
  obtain ⟨v, us', rfl, g1, g2⟩ := repL_cons.1 hr
  obtain ⟨z, hd⟩ := hd
  unfold C.frzL
  simp only [List.length_cons] at hN
  have hv : vs[off]? = some v := by
   have := List.getElem?_drop (xs := vs.toList) (i := off) (j := 0)
   rw [hd] at this
   simpa using this.symm
  refine repCells_cons.2 ⟨⟨v, ?_, hM off (by omega), Rep.ext he (LocLe.refl _) _ _ (g1.frz noLoc), h1 v List.mem_cons_self⟩, frz_cellsN he hh hM r us' (off + 1) (by omega) g2 ⟨z, ?_⟩ fun x hx => h1 x (List.mem_cons_of_mem _ hx)⟩
  ·rw [cell_of_row R2.w b off vs ty (0, 0) hh]; exact hv
  ·rw [← List.drop_drop, hd]; rfl
theorem frzL_take : ∀ (n : Nat) (cs : List C), C.frzL (cs.take n) = (C.frzL cs).take n
 | 0, cs => by simp [C.frzL]
 | n + 1, [] => by simp [C.frzL]
 | n + 1, c :: r => by
  have h : C.frzL (c :: r) = c.frz :: C.frzL r := by rw [C.frzL]
  rw [List.take_succ_cons, h, List.take_succ_cons, ← frzL_take n r]
  rw [C.frzL]
theorem rows_of_cells {R : Env} {b k : Nat} : ∀ (rows : List (List C)) (off : Nat), (∀ r ∈ rows, r.length = k) → RepCells R rows.flatten b off → RepRows R rows k b off
 | [], _, _, _ => by unfold RepRows; trivial
 | row :: r, off, hk, h => by
  have hrow := hk row List.mem_cons_self
  rw [List.flatten_cons] at h
  unfold RepRows
  refine ⟨hrow, repCells_of_get fun j c hc => ?_, rows_of_cells r (off + k) (fun x hx => hk x (List.mem_cons_of_mem _ hx)) (repCells_of_get fun j c hc => ?_)⟩
  ·exact repCells_get h j c (by rw [List.getElem?_append_left (List.getElem?_eq_some_iff.1 hc).1]; exact hc)
  ·have := repCells_get h (k + j) c (by rw [List.getElem?_append_right (by omega), hrow, Nat.add_sub_cancel_left]; exact hc)
   rwa [← Nat.add_assoc] at this
mutual
theorem Rep.fy {R R2 : Env} {L : Loc} {bx : List (List C)} {fr : Fr} {nx : Nat} {F : Nat → Prop} (he : Ext R R2) (hbx : BoxesOk R L bx) (h2 : R2 = ⟨R.w, fun b o => R.M b o ∧ (b ∉ L.β ∨ frM fr L.β b o), F⟩) (hfr : frOk fr bx) (hnx : ∀ id, nx ≤ id → L.T id = none) : ∀ (c : C) (v : Value), Rep R L c v → Rep R2 ⟨L.β, frT nx fr L.β L.T⟩ (c.fy nx fr bx) v
 | .ptr i off, v, h => by
  unfold C.fy
  split
  ·exact le_any
  rename_i hni
  unfold C.fz
  obtain ⟨b, hb, e⟩ := rep_ptr.1 h
  split
  ·rename_i cs hcs
   obtain ⟨vs, ty, e1, e2, e3, e4⟩ := hbx.box i b cs hb hcs
   refine rep_row.2 ⟨b, off, e, ?_⟩
   rw [← frzL_drop]
   refine frz_cells (L := L) he (by rw [h2]; exact e1) (fun o => ?_) _ (vs.toList.drop off) off (repL_drop off e2) rfl fun x hx => e3 x (List.mem_of_mem_drop hx)
   rw [h2]
   rintro ⟨_, h3 | ⟨x, hx, hxb, _⟩⟩
   ·exact h3 (List.mem_of_getElem? hb)
   ·have := (List.getElem?_inj (List.getElem?_eq_some_iff.1 hb).1 hbx.nodup).1 (hb.trans hxb.symm)
    subst this
    exact hni (List.mem_map.2 ⟨x, hx, rfl⟩)
  ·exact le_any
 | .agg cs, _, h => by
  unfold C.fy; unfold Rep at h ⊢
  obtain ⟨vs, e, hl⟩ := h
  exact ⟨vs, e, RepL.fy he hbx h2 hfr hnx cs _ hl⟩
 | .tup cs, _, h => by
  unfold C.fy; unfold Rep at h ⊢
  obtain ⟨vs, e, hl⟩ := h
  exact ⟨vs, e, RepL.fy he hbx h2 hfr hnx cs _ hl⟩
 | .clo fn first cap, _, h => by
  unfold C.fy; unfold Rep at h ⊢
  obtain ⟨fs, cs, e, h3, h4⟩ := h
  exact ⟨fs, cs, e, RepL.fy he hbx h2 hfr hnx first _ h3, RepL.fy he hbx h2 hfr hnx cap _ h4⟩
 | .sc v, _, h => by unfold C.fy; unfold Rep at h ⊢; exact h
 | .str l, _, h => by unfold C.fy; unfold Rep at h ⊢; exact h
 | .sl k rows, v, h => by
  unfold C.fy
  exact Rep.ext he (LocLe.none _) (.sl k rows) v (T := noLoc) (by unfold Rep at h ⊢; exact h)
 | .tight k rows, v, h => by
  unfold C.fy
  exact Rep.ext he (LocLe.none _) (.tight k rows) v (T := noLoc) (by unfold Rep at h ⊢; exact h)
 | .mo id t ks vs, v, h => by
  unfold C.fy
  unfold Rep at h ⊢
  obtain ⟨b, vvs, e, ht, hl⟩ := h
  refine ⟨b, vvs, e, ?_, RepL.ext he (LocLe.refl _) _ _ hl⟩
  have hlt : id < nx := by
   rcases Nat.lt_or_ge id nx with q | q
   ·exact q
   ·have := hnx id q; rw [ht] at this; cases this
  show frT nx fr L.β L.T id = _
  unfold frT
  rw [if_pos hlt]; exact ht
 | .own id e k rows, v, h => by
  unfold C.fy
  have h3 := Rep.ext he (LocLe.none ⟨L.β, frT nx fr L.β L.T⟩) (.sl k rows) v (T := noLoc) (by unfold Rep at h ⊢; exact h.2)
  unfold Rep at h h3 ⊢
  refine ⟨?_, h3⟩
  have hlt : id < nx := by
   rcases Nat.lt_or_ge id nx with q | q
   ·exact q
   ·have := hnx id q; rw [h.1] at this; cases this
  show frT nx fr L.β L.T id = _
  unfold frT
  rw [if_pos hlt]; exact h.1
 | .row cs, v, h => by
  unfold C.fy
  exact Rep.ext he (LocLe.none _) (.row cs) v (T := noLoc) (by unfold Rep at h ⊢; exact h)
 | .bs i off k n c, v, h => by
  unfold C.fy
  obtain ⟨b, hb, ad, e, had⟩ := rep_bs.1 h
  rcases frGet_out fr nx i off k n c with hq | ⟨j, e', rows, hj, rfl, rfl, hq⟩
  ·rw [hq]; exact le_any
  ·rw [hq]
   have hmem := List.mem_of_getElem? hj
   obtain ⟨cs, c1, c2, c3, c4, c5, c6, c7⟩ := hfr.2 _ hmem
   simp only at c1 c2 c3 c4 c5 c6 c7
   obtain ⟨vs, ty, e1, e2, e3, e4⟩ := hbx.box i b cs hb c1
   obtain rfl := had (by omega)
   unfold Rep
   refine ⟨?_, some ⟨b, 0, none⟩, c, e, c3, c4, .inr ⟨b, 0, rfl, rows_of_cells rows 0 c6 ?_⟩⟩
   ·show frT nx fr L.β L.T (nx + j) = _
    unfold frT
    rw [if_neg (by omega), Nat.add_sub_cancel_left, hj]
    simp only [hb, Option.map_some, e]
   ·rw [← c7, ← frzL_take]
    have hlen : (cs.take (rows.length * k)).length = rows.length * k := by
     rw [List.length_take]
     have : rows.length * k ≤ c * k := Nat.mul_le_mul_right _ c3
     omega
    refine frz_cellsN (L := L) (N := rows.length * k) he (by rw [h2]; exact e1) (fun o ho => ?_) _ (vs.toList.take (rows.length * k)) 0 (by omega) (repL_take _ e2) ⟨vs.toList.drop (rows.length * k), by simp⟩ fun x hx => e3 x (List.mem_of_mem_take hx)
    rw [h2]
    rintro ⟨_, h3 | ⟨x, hx, hxb, hxo⟩⟩
    ·exact h3 (List.mem_of_getElem? hb)
    ·have hii := (List.getElem?_inj (List.getElem?_eq_some_iff.1 hb).1 hbx.nodup).1 (hb.trans hxb.symm)
     obtain ⟨j2, hj2, hj2'⟩ := List.getElem_of_mem hx
     have g1 : (fr.map (·.1))[j]? = some i := by rw [List.getElem?_map, hj]; rfl
     have g2 : (fr.map (·.1))[j2]? = some i := by rw [List.getElem?_map, List.getElem?_eq_getElem hj2, hj2', hii]; rfl
     have := (List.getElem?_inj (List.getElem?_eq_some_iff.1 g1).1 hfr.1).1 (g1.trans g2.symm)
     subst this
     rw [List.getElem?_eq_getElem hj2, hj2'] at hj
     cases hj
     simp only at hxo
     omega
 | .any, _, h => by unfold C.fy; exact le_any
theorem RepL.fy {R R2 : Env} {L : Loc} {bx : List (List C)} {fr : Fr} {nx : Nat} {F : Nat → Prop} (he : Ext R R2) (hbx : BoxesOk R L bx) (h2 : R2 = ⟨R.w, fun b o => R.M b o ∧ (b ∉ L.β ∨ frM fr L.β b o), F⟩) (hfr : frOk fr bx) (hnx : ∀ id, nx ≤ id → L.T id = none) : ∀ (cs : List C) (vs : List Value), RepL R L cs vs → RepL R2 ⟨L.β, frT nx fr L.β L.T⟩ (C.fyL nx fr bx cs) vs
 | [], _, h => by unfold C.fyL; rw [repL_nil] at h ⊢; exact h
 | c :: r, _, h => by
  unfold C.fyL; rw [repL_cons] at h ⊢
  obtain ⟨v, us, e, h3, h4⟩ := h
  exact ⟨v, us, e, Rep.fy he hbx h2 hfr hnx c v h3, RepL.fy he hbx h2 hfr hnx r us h4⟩
end
end
end Go.Proofs.YtbphobmohdclaaaGreatDoor.Vcg
end
section
namespace Go.Proofs.YtbphobmohdclaaaGreatDoor.Vcg
open Go
theorem lay0 : lay Tryz.prog 0 = some { kind := LK.other, size := 1, bytes := 0, zero := some [Value.tuple { toList := [] }] } := by kernel_rfl
theorem lay1 : lay Tryz.prog 1 = some { kind := LK.other, size := 1, bytes := 8, zero := some [Value.nilFunc] } := by kernel_rfl
theorem lay2 : lay Tryz.prog 2 = some { kind := LK.int IntKind.i64, size := 1, bytes := 8, zero := some [Value.int IntKind.i64 (Int.ofNat 0)] } := by kernel_rfl
theorem lay3 : lay Tryz.prog 3 = some { kind := LK.int IntKind.i64, size := 1, bytes := 8, zero := some [Value.int IntKind.i64 (Int.ofNat 0)] } := by kernel_rfl
theorem lay4 : lay Tryz.prog 4 = some { kind := LK.bool, size := 1, bytes := 1, zero := some [Value.bool false] } := by kernel_rfl
theorem lay5 : lay Tryz.prog 5 = some { kind := LK.int IntKind.u8, size := 1, bytes := 1, zero := some [Value.int IntKind.u8 (Int.ofNat 0)] } := by kernel_rfl
theorem lay6 : lay Tryz.prog 6 = some { kind := LK.int IntKind.u8, size := 1, bytes := 1, zero := some [Value.int IntKind.u8 (Int.ofNat 0)] } := by kernel_rfl
theorem lay7 : lay Tryz.prog 7 = some { kind := LK.struct [(0, 1, false), (1, 1, false), (2, 1, false), (3, 1, false)], size := 4, bytes := 24, zero := some [Value.int IntKind.i64 (Int.ofNat 0), Value.int IntKind.i64 (Int.ofNat 0), Value.bool false, Value.int IntKind.u8 (Int.ofNat 0)] } := by kernel_rfl
theorem lay8 : lay Tryz.prog 8 = some { kind := LK.struct [(0, 1, false), (1, 1, false), (2, 1, false), (3, 1, false)], size := 4, bytes := 24, zero := some [Value.int IntKind.i64 (Int.ofNat 0), Value.int IntKind.i64 (Int.ofNat 0), Value.bool false, Value.int IntKind.u8 (Int.ofNat 0)] } := by kernel_rfl
theorem lay9 : lay Tryz.prog 9 = some { kind := LK.str, size := 1, bytes := 16, zero := some [Value.string ⟨#[]⟩] } := by kernel_rfl
theorem lay10 : lay Tryz.prog 10 = some { kind := LK.str, size := 1, bytes := 16, zero := some [Value.string ⟨#[]⟩] } := by kernel_rfl
theorem lay11 : lay Tryz.prog 11 = some { kind := LK.str, size := 1, bytes := 16, zero := some [Value.string ⟨#[]⟩] } := by kernel_rfl
theorem lay12 : lay Tryz.prog 12 = some { kind := LK.int IntKind.u64, size := 1, bytes := 8, zero := some [Value.int IntKind.u64 (Int.ofNat 0)] } := by kernel_rfl
theorem lay13 : lay Tryz.prog 13 = some { kind := LK.struct [(0, 1, false), (1, 1, false)], size := 2, bytes := 24, zero := some [Value.string ⟨#[]⟩, Value.int IntKind.u64 (Int.ofNat 0)] } := by kernel_rfl
theorem lay14 : lay Tryz.prog 14 = some { kind := LK.struct [(0, 1, false), (1, 1, false)], size := 2, bytes := 24, zero := some [Value.string ⟨#[]⟩, Value.int IntKind.u64 (Int.ofNat 0)] } := by kernel_rfl
theorem lay15 : lay Tryz.prog 15 = some { kind := LK.other, size := 1, bytes := 8, zero := some [Value.pointer none] } := by kernel_rfl
theorem lay16 : lay Tryz.prog 16 = some { kind := LK.other, size := 1, bytes := 8, zero := some [Value.pointer none] } := by kernel_rfl
theorem lay17 : lay Tryz.prog 17 = some { kind := LK.other, size := 1, bytes := 8, zero := some [Value.pointer none] } := by kernel_rfl
theorem lay18 : lay Tryz.prog 18 = some { kind := LK.struct [(0, 1, false)], size := 1, bytes := 8, zero := some [Value.pointer none] } := by kernel_rfl
theorem lay19 : lay Tryz.prog 19 = some { kind := LK.struct [(0, 1, false)], size := 1, bytes := 8, zero := some [Value.pointer none] } := by kernel_rfl
theorem lay20 : lay Tryz.prog 20 = some { kind := LK.other, size := 1, bytes := 16, zero := some [Value.nilIface] } := by kernel_rfl
theorem lay21 : lay Tryz.prog 21 = some { kind := LK.int IntKind.i32, size := 1, bytes := 4, zero := some [Value.int IntKind.i32 (Int.ofNat 0)] } := by kernel_rfl
theorem lay22 : lay Tryz.prog 22 = some { kind := LK.struct [(0, 1, false), (1, 1, false), (2, 1, false), (3, 1, false), (4, 1, false)], size := 5, bytes := 64, zero := some [Value.int IntKind.i64 (Int.ofNat 0), Value.int IntKind.i64 (Int.ofNat 0), Value.string ⟨#[]⟩, Value.string ⟨#[]⟩, Value.string ⟨#[]⟩] } := by kernel_rfl
theorem lay23 : lay Tryz.prog 23 = some { kind := LK.struct [(0, 1, false), (1, 1, false), (2, 1, false), (3, 1, false), (4, 1, false)], size := 5, bytes := 64, zero := some [Value.int IntKind.i64 (Int.ofNat 0), Value.int IntKind.i64 (Int.ofNat 0), Value.string ⟨#[]⟩, Value.string ⟨#[]⟩, Value.string ⟨#[]⟩] } := by kernel_rfl
theorem lay24 : lay Tryz.prog 24 = some { kind := LK.other, size := 1, bytes := 8, zero := some [Value.nilFunc] } := by kernel_rfl
theorem lay25 : lay Tryz.prog 25 = some { kind := LK.other, size := 1, bytes := 8, zero := some [Value.nilFunc] } := by kernel_rfl
theorem lay26 : lay Tryz.prog 26 = some { kind := LK.slice 23, size := 1, bytes := 24, zero := some [Value.slice none 0 0] } := by kernel_rfl
theorem lay27 : lay Tryz.prog 27 = some { kind := LK.other, size := 1, bytes := 0, zero := some [Value.tuple { toList := [Value.agg { toList := [Value.int IntKind.i64 (Int.ofNat 0), Value.int IntKind.i64 (Int.ofNat 0), Value.string ⟨#[]⟩, Value.string ⟨#[]⟩, Value.string ⟨#[]⟩] }, Value.bool false] }] } := by kernel_rfl
theorem lay28 : lay Tryz.prog 28 = some { kind := LK.other, size := 1, bytes := 8, zero := some [Value.nilFunc] } := by kernel_rfl
theorem lay29 : lay Tryz.prog 29 = some { kind := LK.other, size := 1, bytes := 8, zero := some [Value.nilFunc] } := by kernel_rfl
theorem lay30 : lay Tryz.prog 30 = some { kind := LK.other, size := 1, bytes := 8, zero := some [Value.nilFunc] } := by kernel_rfl
theorem lay31 : lay Tryz.prog 31 = some { kind := LK.other, size := 1, bytes := 8, zero := some [Value.nilFunc] } := by kernel_rfl
theorem lay32 : lay Tryz.prog 32 = some { kind := LK.int IntKind.i64, size := 1, bytes := 8, zero := some [Value.int IntKind.i64 (Int.ofNat 0)] } := by kernel_rfl
theorem lay33 : lay Tryz.prog 33 = some { kind := LK.other, size := 1, bytes := 0, zero := some [Value.tuple { toList := [Value.string ⟨#[]⟩, Value.int IntKind.i64 (Int.ofNat 0)] }] } := by kernel_rfl
theorem lay34 : lay Tryz.prog 34 = some { kind := LK.other, size := 1, bytes := 8, zero := some [Value.nilFunc] } := by kernel_rfl
theorem lay35 : lay Tryz.prog 35 = some { kind := LK.other, size := 1, bytes := 0, zero := some [Value.tuple { toList := [Value.string ⟨#[]⟩, Value.int IntKind.i64 (Int.ofNat 0)] }] } := by kernel_rfl
theorem lay36 : lay Tryz.prog 36 = some { kind := LK.other, size := 1, bytes := 8, zero := some [Value.nilFunc] } := by kernel_rfl
theorem lay37 : lay Tryz.prog 37 = some { kind := LK.struct [(0, 1, false), (1, 1, false)], size := 2, bytes := 16, zero := some [Value.int IntKind.i64 (Int.ofNat 0), Value.int IntKind.i64 (Int.ofNat 0)] } := by kernel_rfl
theorem lay38 : lay Tryz.prog 38 = some { kind := LK.struct [(0, 1, false), (1, 1, false)], size := 2, bytes := 16, zero := some [Value.int IntKind.i64 (Int.ofNat 0), Value.int IntKind.i64 (Int.ofNat 0)] } := by kernel_rfl
theorem lay39 : lay Tryz.prog 39 = some { kind := LK.other, size := 1, bytes := 0, zero := some [Value.tuple { toList := [Value.slice none 0 0, Value.agg { toList := [Value.int IntKind.i64 (Int.ofNat 0), Value.int IntKind.i64 (Int.ofNat 0)] }] }] } := by kernel_rfl
theorem lay40 : lay Tryz.prog 40 = some { kind := LK.other, size := 1, bytes := 8, zero := some [Value.nilFunc] } := by kernel_rfl
theorem lay41 : lay Tryz.prog 41 = some { kind := LK.other, size := 1, bytes := 8, zero := some [Value.nilFunc] } := by kernel_rfl
theorem lay42 : lay Tryz.prog 42 = some { kind := LK.other, size := 1, bytes := 8, zero := some [Value.nilFunc] } := by kernel_rfl
theorem lay43 : lay Tryz.prog 43 = some { kind := LK.other, size := 1, bytes := 8, zero := some [Value.nilFunc] } := by kernel_rfl
theorem lay44 : lay Tryz.prog 44 = some { kind := LK.slice 9, size := 1, bytes := 24, zero := some [Value.slice none 0 0] } := by kernel_rfl
theorem lay45 : lay Tryz.prog 45 = some { kind := LK.other, size := 1, bytes := 0, zero := some [Value.tuple { toList := [Value.slice none 0 0, Value.bool false] }] } := by kernel_rfl
theorem lay46 : lay Tryz.prog 46 = some { kind := LK.other, size := 1, bytes := 8, zero := some [Value.nilFunc] } := by kernel_rfl
theorem lay47 : lay Tryz.prog 47 = some { kind := LK.other, size := 1, bytes := 8, zero := some [Value.map none] } := by kernel_rfl
theorem lay48 : lay Tryz.prog 48 = some { kind := LK.other, size := 1, bytes := 8, zero := some [Value.nilFunc] } := by kernel_rfl
theorem lay49 : lay Tryz.prog 49 = some { kind := LK.other, size := 1, bytes := 0, zero := some [Value.tuple { toList := [Value.int IntKind.i64 (Int.ofNat 0), Value.bool false] }] } := by kernel_rfl
theorem lay50 : lay Tryz.prog 50 = some { kind := LK.other, size := 1, bytes := 8, zero := some [Value.nilFunc] } := by kernel_rfl
theorem lay51 : lay Tryz.prog 51 = some { kind := LK.other, size := 1, bytes := 0, zero := some [Value.tuple { toList := [Value.string ⟨#[]⟩, Value.bool false] }] } := by kernel_rfl
theorem lay52 : lay Tryz.prog 52 = some { kind := LK.other, size := 1, bytes := 8, zero := some [Value.nilFunc] } := by kernel_rfl
theorem lay53 : lay Tryz.prog 53 = some { kind := LK.other, size := 1, bytes := 8, zero := some [Value.nilFunc] } := by kernel_rfl
theorem lay54 : lay Tryz.prog 54 = some { kind := LK.other, size := 1, bytes := 8, zero := some [Value.nilFunc] } := by kernel_rfl
theorem lay55 : lay Tryz.prog 55 = some { kind := LK.other, size := 1, bytes := 8, zero := some [Value.nilFunc] } := by kernel_rfl
theorem lay56 : lay Tryz.prog 56 = some { kind := LK.array 11 9, size := 11, bytes := 176, zero := some [Value.string ⟨#[]⟩, Value.string ⟨#[]⟩, Value.string ⟨#[]⟩, Value.string ⟨#[]⟩, Value.string ⟨#[]⟩, Value.string ⟨#[]⟩, Value.string ⟨#[]⟩, Value.string ⟨#[]⟩, Value.string ⟨#[]⟩, Value.string ⟨#[]⟩, Value.string ⟨#[]⟩] } := by kernel_rfl
theorem lay57 : lay Tryz.prog 57 = some { kind := LK.slice 3, size := 1, bytes := 24, zero := some [Value.slice none 0 0] } := by kernel_rfl
theorem lay58 : lay Tryz.prog 58 = some { kind := LK.other, size := 1, bytes := 8, zero := some [Value.nilFunc] } := by kernel_rfl
theorem lay59 : lay Tryz.prog 59 = some { kind := LK.other, size := 1, bytes := 8, zero := some [Value.nilFunc] } := by kernel_rfl
theorem lay60 : lay Tryz.prog 60 = some { kind := LK.other, size := 1, bytes := 8, zero := some [Value.nilFunc] } := by kernel_rfl
theorem lay61 : lay Tryz.prog 61 = some { kind := LK.other, size := 1, bytes := 8, zero := some [Value.nilFunc] } := by kernel_rfl
theorem lay62 : lay Tryz.prog 62 = some { kind := LK.other, size := 1, bytes := 8, zero := some [Value.pointer none] } := by kernel_rfl
theorem lay63 : lay Tryz.prog 63 = some { kind := LK.slice 5, size := 1, bytes := 24, zero := some [Value.slice none 0 0] } := by kernel_rfl
theorem lay64 : lay Tryz.prog 64 = some { kind := LK.struct [(0, 1, false), (1, 1, false)], size := 2, bytes := 32, zero := some [Value.pointer none, Value.slice none 0 0] } := by kernel_rfl
theorem lay65 : lay Tryz.prog 65 = some { kind := LK.struct [(0, 1, false), (1, 1, false)], size := 2, bytes := 32, zero := some [Value.pointer none, Value.slice none 0 0] } := by kernel_rfl
theorem lay66 : lay Tryz.prog 66 = some { kind := LK.other, size := 1, bytes := 16, zero := some [Value.nilIface] } := by kernel_rfl
theorem lay67 : lay Tryz.prog 67 = some { kind := LK.other, size := 1, bytes := 16, zero := some [Value.nilIface] } := by kernel_rfl
theorem lay68 : lay Tryz.prog 68 = some { kind := LK.other, size := 1, bytes := 0, zero := some [Value.tuple { toList := [Value.int IntKind.i64 (Int.ofNat 0), Value.nilIface] }] } := by kernel_rfl
theorem lay69 : lay Tryz.prog 69 = some { kind := LK.other, size := 1, bytes := 8, zero := some [Value.nilFunc] } := by kernel_rfl
theorem lay70 : lay Tryz.prog 70 = some { kind := LK.other, size := 1, bytes := 8, zero := some [Value.nilFunc] } := by kernel_rfl
theorem lay71 : lay Tryz.prog 71 = some { kind := LK.other, size := 1, bytes := 8, zero := some [Value.nilFunc] } := by kernel_rfl
theorem lay72 : lay Tryz.prog 72 = some { kind := LK.other, size := 1, bytes := 8, zero := some [Value.nilFunc] } := by kernel_rfl
theorem lay73 : lay Tryz.prog 73 = some { kind := LK.other, size := 1, bytes := 8, zero := some [Value.nilFunc] } := by kernel_rfl
theorem lay74 : lay Tryz.prog 74 = some { kind := LK.other, size := 1, bytes := 8, zero := some [Value.nilFunc] } := by kernel_rfl
theorem lay75 : lay Tryz.prog 75 = some { kind := LK.other, size := 1, bytes := 0, zero := some [Value.tuple { toList := [Value.slice none 0 0, Value.bool false] }] } := by kernel_rfl
theorem lay76 : lay Tryz.prog 76 = some { kind := LK.other, size := 1, bytes := 8, zero := some [Value.nilFunc] } := by kernel_rfl
theorem lay77 : lay Tryz.prog 77 = some { kind := LK.other, size := 1, bytes := 8, zero := some [Value.nilFunc] } := by kernel_rfl
theorem lay78 : lay Tryz.prog 78 = some { kind := LK.other, size := 1, bytes := 0, zero := some [Value.tuple { toList := [Value.string ⟨#[]⟩, Value.int IntKind.i64 (Int.ofNat 0), Value.bool false] }] } := by kernel_rfl
theorem lay79 : lay Tryz.prog 79 = some { kind := LK.other, size := 1, bytes := 8, zero := some [Value.nilFunc] } := by kernel_rfl
theorem lay80 : lay Tryz.prog 80 = some { kind := LK.struct [(0, 1, false), (1, 1, false), (2, 1, false)], size := 3, bytes := 3, zero := some [Value.bool false, Value.bool false, Value.bool false] } := by kernel_rfl
theorem lay81 : lay Tryz.prog 81 = some { kind := LK.struct [(0, 1, false), (1, 1, false), (2, 1, false)], size := 3, bytes := 3, zero := some [Value.bool false, Value.bool false, Value.bool false] } := by kernel_rfl
theorem lay82 : lay Tryz.prog 82 = some { kind := LK.array 11 81, size := 33, bytes := 33, zero := some [Value.bool false, Value.bool false, Value.bool false, Value.bool false, Value.bool false, Value.bool false, Value.bool false, Value.bool false, Value.bool false, Value.bool false, Value.bool false, Value.bool false, Value.bool false, Value.bool false, Value.bool false, Value.bool false, Value.bool false, Value.bool false, Value.bool false, Value.bool false, Value.bool false, Value.bool false, Value.bool false, Value.bool false, Value.bool false, Value.bool false, Value.bool false, Value.bool false, Value.bool false, Value.bool false, Value.bool false, Value.bool false, Value.bool false] } := by kernel_rfl
theorem lay83 : lay Tryz.prog 83 = some { kind := LK.other, size := 1, bytes := 8, zero := some [Value.nilFunc] } := by kernel_rfl
theorem lay84 : lay Tryz.prog 84 = some { kind := LK.other, size := 1, bytes := 8, zero := some [Value.nilFunc] } := by kernel_rfl
theorem lay85 : lay Tryz.prog 85 = some { kind := LK.other, size := 1, bytes := 8, zero := some [Value.nilFunc] } := by kernel_rfl
theorem lay86 : lay Tryz.prog 86 = some { kind := LK.int IntKind.u64, size := 1, bytes := 8, zero := some [Value.int IntKind.u64 (Int.ofNat 0)] } := by kernel_rfl
theorem lay87 : lay Tryz.prog 87 = some { kind := LK.other, size := 1, bytes := 8, zero := some [Value.nilFunc] } := by kernel_rfl
theorem lay88 : lay Tryz.prog 88 = some { kind := LK.other, size := 1, bytes := 8, zero := some [Value.nilFunc] } := by kernel_rfl
theorem lay89 : lay Tryz.prog 89 = some { kind := LK.other, size := 1, bytes := 8, zero := some [Value.nilFunc] } := by kernel_rfl
theorem lay90 : lay Tryz.prog 90 = some { kind := LK.other, size := 1, bytes := 8, zero := some [Value.nilFunc] } := by kernel_rfl
theorem lay91 : lay Tryz.prog 91 = some { kind := LK.other, size := 1, bytes := 8, zero := some [Value.pointer none] } := by kernel_rfl
theorem lay92 : lay Tryz.prog 92 = some { kind := LK.other, size := 1, bytes := 8, zero := some [Value.nilFunc] } := by kernel_rfl
theorem lay93 : lay Tryz.prog 93 = some { kind := LK.other, size := 1, bytes := 0, zero := some [Value.tuple { toList := [Value.string ⟨#[]⟩, Value.string ⟨#[]⟩, Value.bool false] }] } := by kernel_rfl
theorem lay94 : lay Tryz.prog 94 = some { kind := LK.other, size := 1, bytes := 8, zero := some [Value.nilFunc] } := by kernel_rfl
theorem lay95 : lay Tryz.prog 95 = some { kind := LK.other, size := 1, bytes := 0, zero := some [Value.tuple { toList := [Value.int IntKind.u8 (Int.ofNat 0), Value.int IntKind.i64 (Int.ofNat 0)] }] } := by kernel_rfl
theorem lay96 : lay Tryz.prog 96 = some { kind := LK.other, size := 1, bytes := 8, zero := some [Value.nilFunc] } := by kernel_rfl
theorem lay97 : lay Tryz.prog 97 = some { kind := LK.other, size := 1, bytes := 8, zero := some [Value.nilFunc] } := by kernel_rfl
theorem lay98 : lay Tryz.prog 98 = some { kind := LK.other, size := 1, bytes := 8, zero := some [Value.nilFunc] } := by kernel_rfl
theorem lay99 : lay Tryz.prog 99 = some { kind := LK.other, size := 1, bytes := 8, zero := some [Value.nilFunc] } := by kernel_rfl
theorem lay100 : lay Tryz.prog 100 = some { kind := LK.other, size := 1, bytes := 8, zero := some [Value.nilFunc] } := by kernel_rfl
theorem lay101 : lay Tryz.prog 101 = some { kind := LK.other, size := 1, bytes := 8, zero := some [Value.pointer none] } := by kernel_rfl
theorem lay102 : lay Tryz.prog 102 = some { kind := LK.other, size := 1, bytes := 8, zero := some [Value.nilFunc] } := by kernel_rfl
theorem lay103 : lay Tryz.prog 103 = some { kind := LK.other, size := 1, bytes := 0, zero := some [Value.tuple { toList := [Value.int IntKind.i32 (Int.ofNat 0), Value.int IntKind.i64 (Int.ofNat 0)] }] } := by kernel_rfl
theorem lay104 : lay Tryz.prog 104 = some { kind := LK.other, size := 1, bytes := 8, zero := some [Value.nilFunc] } := by kernel_rfl
theorem lay105 : lay Tryz.prog 105 = some { kind := LK.other, size := 1, bytes := 8, zero := some [Value.nilFunc] } := by kernel_rfl
theorem lay106 : lay Tryz.prog 106 = some { kind := LK.other, size := 1, bytes := 8, zero := some [Value.nilFunc] } := by kernel_rfl
theorem lay107 : lay Tryz.prog 107 = some { kind := LK.other, size := 1, bytes := 8, zero := some [Value.nilFunc] } := by kernel_rfl
theorem lay108 : lay Tryz.prog 108 = some { kind := LK.other, size := 1, bytes := 8, zero := some [Value.nilFunc] } := by kernel_rfl
theorem lay109 : lay Tryz.prog 109 = some { kind := LK.other, size := 1, bytes := 8, zero := some [Value.nilFunc] } := by kernel_rfl
theorem lay110 : lay Tryz.prog 110 = some { kind := LK.other, size := 1, bytes := 8, zero := some [Value.nilFunc] } := by kernel_rfl
theorem lay111 : lay Tryz.prog 111 = some { kind := LK.array 24 5, size := 24, bytes := 24, zero := some [Value.int IntKind.u8 (Int.ofNat 0), Value.int IntKind.u8 (Int.ofNat 0), Value.int IntKind.u8 (Int.ofNat 0), Value.int IntKind.u8 (Int.ofNat 0), Value.int IntKind.u8 (Int.ofNat 0), Value.int IntKind.u8 (Int.ofNat 0), Value.int IntKind.u8 (Int.ofNat 0), Value.int IntKind.u8 (Int.ofNat 0), Value.int IntKind.u8 (Int.ofNat 0), Value.int IntKind.u8 (Int.ofNat 0), Value.int IntKind.u8 (Int.ofNat 0), Value.int IntKind.u8 (Int.ofNat 0), Value.int IntKind.u8 (Int.ofNat 0), Value.int IntKind.u8 (Int.ofNat 0), Value.int IntKind.u8 (Int.ofNat 0), Value.int IntKind.u8 (Int.ofNat 0), Value.int IntKind.u8 (Int.ofNat 0), Value.int IntKind.u8 (Int.ofNat 0), Value.int IntKind.u8 (Int.ofNat 0), Value.int IntKind.u8 (Int.ofNat 0), Value.int IntKind.u8 (Int.ofNat 0), Value.int IntKind.u8 (Int.ofNat 0), Value.int IntKind.u8 (Int.ofNat 0), Value.int IntKind.u8 (Int.ofNat 0)] } := by kernel_rfl
theorem lay112 : lay Tryz.prog 112 = some { kind := LK.int IntKind.u64, size := 1, bytes := 8, zero := some [Value.int IntKind.u64 (Int.ofNat 0)] } := by kernel_rfl
theorem lay113 : lay Tryz.prog 113 = some { kind := LK.other, size := 1, bytes := 8, zero := some [Value.nilFunc] } := by kernel_rfl
theorem lay114 : lay Tryz.prog 114 = some { kind := LK.other, size := 1, bytes := 8, zero := some [Value.nilFunc] } := by kernel_rfl
theorem lay115 : lay Tryz.prog 115 = some { kind := LK.other, size := 1, bytes := 0, zero := some [Value.tuple { toList := [Value.slice none 0 0, Value.string ⟨#[]⟩] }] } := by kernel_rfl
theorem lay116 : lay Tryz.prog 116 = some { kind := LK.other, size := 1, bytes := 8, zero := some [Value.nilFunc] } := by kernel_rfl
theorem lay117 : lay Tryz.prog 117 = some { kind := LK.other, size := 1, bytes := 8, zero := some [Value.nilFunc] } := by kernel_rfl
theorem lay118 : lay Tryz.prog 118 = some { kind := LK.other, size := 1, bytes := 8, zero := some [Value.nilFunc] } := by kernel_rfl
theorem lay119 : lay Tryz.prog 119 = some { kind := LK.other, size := 1, bytes := 8, zero := some [Value.nilFunc] } := by kernel_rfl
theorem lay120 : lay Tryz.prog 120 = some { kind := LK.other, size := 1, bytes := 8, zero := some [Value.nilFunc] } := by kernel_rfl
theorem lay121 : lay Tryz.prog 121 = some { kind := LK.array 20 112, size := 20, bytes := 160, zero := some [Value.int IntKind.u64 (Int.ofNat 0), Value.int IntKind.u64 (Int.ofNat 0), Value.int IntKind.u64 (Int.ofNat 0), Value.int IntKind.u64 (Int.ofNat 0), Value.int IntKind.u64 (Int.ofNat 0), Value.int IntKind.u64 (Int.ofNat 0), Value.int IntKind.u64 (Int.ofNat 0), Value.int IntKind.u64 (Int.ofNat 0), Value.int IntKind.u64 (Int.ofNat 0), Value.int IntKind.u64 (Int.ofNat 0), Value.int IntKind.u64 (Int.ofNat 0), Value.int IntKind.u64 (Int.ofNat 0), Value.int IntKind.u64 (Int.ofNat 0), Value.int IntKind.u64 (Int.ofNat 0), Value.int IntKind.u64 (Int.ofNat 0), Value.int IntKind.u64 (Int.ofNat 0), Value.int IntKind.u64 (Int.ofNat 0), Value.int IntKind.u64 (Int.ofNat 0), Value.int IntKind.u64 (Int.ofNat 0), Value.int IntKind.u64 (Int.ofNat 0)] } := by kernel_rfl
theorem lay122 : lay Tryz.prog 122 = some { kind := LK.int IntKind.u32, size := 1, bytes := 4, zero := some [Value.int IntKind.u32 (Int.ofNat 0)] } := by kernel_rfl
theorem lay123 : lay Tryz.prog 123 = some { kind := LK.array 65 5, size := 65, bytes := 65, zero := some [Value.int IntKind.u8 (Int.ofNat 0), Value.int IntKind.u8 (Int.ofNat 0), Value.int IntKind.u8 (Int.ofNat 0), Value.int IntKind.u8 (Int.ofNat 0), Value.int IntKind.u8 (Int.ofNat 0), Value.int IntKind.u8 (Int.ofNat 0), Value.int IntKind.u8 (Int.ofNat 0), Value.int IntKind.u8 (Int.ofNat 0), Value.int IntKind.u8 (Int.ofNat 0), Value.int IntKind.u8 (Int.ofNat 0), Value.int IntKind.u8 (Int.ofNat 0), Value.int IntKind.u8 (Int.ofNat 0), Value.int IntKind.u8 (Int.ofNat 0), Value.int IntKind.u8 (Int.ofNat 0), Value.int IntKind.u8 (Int.ofNat 0), Value.int IntKind.u8 (Int.ofNat 0), Value.int IntKind.u8 (Int.ofNat 0), Value.int IntKind.u8 (Int.ofNat 0), Value.int IntKind.u8 (Int.ofNat 0), Value.int IntKind.u8 (Int.ofNat 0), Value.int IntKind.u8 (Int.ofNat 0), Value.int IntKind.u8 (Int.ofNat 0), Value.int IntKind.u8 (Int.ofNat 0), Value.int IntKind.u8 (Int.ofNat 0), Value.int IntKind.u8 (Int.ofNat 0), Value.int IntKind.u8 (Int.ofNat 0), Value.int IntKind.u8 (Int.ofNat 0), Value.int IntKind.u8 (Int.ofNat 0), Value.int IntKind.u8 (Int.ofNat 0), Value.int IntKind.u8 (Int.ofNat 0), Value.int IntKind.u8 (Int.ofNat 0), Value.int IntKind.u8 (Int.ofNat 0), Value.int IntKind.u8 (Int.ofNat 0), Value.int IntKind.u8 (Int.ofNat 0), Value.int IntKind.u8 (Int.ofNat 0), Value.int IntKind.u8 (Int.ofNat 0), Value.int IntKind.u8 (Int.ofNat 0), Value.int IntKind.u8 (Int.ofNat 0), Value.int IntKind.u8 (Int.ofNat 0), Value.int IntKind.u8 (Int.ofNat 0), Value.int IntKind.u8 (Int.ofNat 0), Value.int IntKind.u8 (Int.ofNat 0), Value.int IntKind.u8 (Int.ofNat 0), Value.int IntKind.u8 (Int.ofNat 0), Value.int IntKind.u8 (Int.ofNat 0), Value.int IntKind.u8 (Int.ofNat 0), Value.int IntKind.u8 (Int.ofNat 0), Value.int IntKind.u8 (Int.ofNat 0), Value.int IntKind.u8 (Int.ofNat 0), Value.int IntKind.u8 (Int.ofNat 0), Value.int IntKind.u8 (Int.ofNat 0), Value.int IntKind.u8 (Int.ofNat 0), Value.int IntKind.u8 (Int.ofNat 0), Value.int IntKind.u8 (Int.ofNat 0), Value.int IntKind.u8 (Int.ofNat 0), Value.int IntKind.u8 (Int.ofNat 0), Value.int IntKind.u8 (Int.ofNat 0), Value.int IntKind.u8 (Int.ofNat 0), Value.int IntKind.u8 (Int.ofNat 0), Value.int IntKind.u8 (Int.ofNat 0), Value.int IntKind.u8 (Int.ofNat 0), Value.int IntKind.u8 (Int.ofNat 0), Value.int IntKind.u8 (Int.ofNat 0), Value.int IntKind.u8 (Int.ofNat 0), Value.int IntKind.u8 (Int.ofNat 0)] } := by kernel_rfl
theorem lay124 : lay Tryz.prog 124 = some { kind := LK.other, size := 1, bytes := 8, zero := some [Value.nilFunc] } := by kernel_rfl
theorem lay125 : lay Tryz.prog 125 = some { kind := LK.other, size := 1, bytes := 8, zero := some [Value.nilFunc] } := by kernel_rfl
theorem lay127 : lay Tryz.prog 127 = some { kind := LK.struct [(0, 1, false), (1, 1, false)], size := 2, bytes := 2, zero := some [Value.int IntKind.u8 (Int.ofNat 0), Value.int IntKind.u8 (Int.ofNat 0)] } := by kernel_rfl
theorem lay128 : lay Tryz.prog 128 = some { kind := LK.struct [(0, 1, false), (1, 1, false)], size := 2, bytes := 2, zero := some [Value.int IntKind.u8 (Int.ofNat 0), Value.int IntKind.u8 (Int.ofNat 0)] } := by kernel_rfl
theorem lay129 : lay Tryz.prog 129 = some { kind := LK.array 16 128, size := 32, bytes := 32, zero := some [Value.int IntKind.u8 (Int.ofNat 0), Value.int IntKind.u8 (Int.ofNat 0), Value.int IntKind.u8 (Int.ofNat 0), Value.int IntKind.u8 (Int.ofNat 0), Value.int IntKind.u8 (Int.ofNat 0), Value.int IntKind.u8 (Int.ofNat 0), Value.int IntKind.u8 (Int.ofNat 0), Value.int IntKind.u8 (Int.ofNat 0), Value.int IntKind.u8 (Int.ofNat 0), Value.int IntKind.u8 (Int.ofNat 0), Value.int IntKind.u8 (Int.ofNat 0), Value.int IntKind.u8 (Int.ofNat 0), Value.int IntKind.u8 (Int.ofNat 0), Value.int IntKind.u8 (Int.ofNat 0), Value.int IntKind.u8 (Int.ofNat 0), Value.int IntKind.u8 (Int.ofNat 0), Value.int IntKind.u8 (Int.ofNat 0), Value.int IntKind.u8 (Int.ofNat 0), Value.int IntKind.u8 (Int.ofNat 0), Value.int IntKind.u8 (Int.ofNat 0), Value.int IntKind.u8 (Int.ofNat 0), Value.int IntKind.u8 (Int.ofNat 0), Value.int IntKind.u8 (Int.ofNat 0), Value.int IntKind.u8 (Int.ofNat 0), Value.int IntKind.u8 (Int.ofNat 0), Value.int IntKind.u8 (Int.ofNat 0), Value.int IntKind.u8 (Int.ofNat 0), Value.int IntKind.u8 (Int.ofNat 0), Value.int IntKind.u8 (Int.ofNat 0), Value.int IntKind.u8 (Int.ofNat 0), Value.int IntKind.u8 (Int.ofNat 0), Value.int IntKind.u8 (Int.ofNat 0)] } := by kernel_rfl
theorem lay130 : lay Tryz.prog 130 = some { kind := LK.other, size := 1, bytes := 8, zero := some [Value.nilFunc] } := by kernel_rfl
theorem lay131 : lay Tryz.prog 131 = some { kind := LK.other, size := 1, bytes := 0, zero := some [Value.tuple { toList := [Value.int IntKind.u32 (Int.ofNat 0), Value.int IntKind.u32 (Int.ofNat 0)] }] } := by kernel_rfl
theorem lay132 : lay Tryz.prog 132 = some { kind := LK.other, size := 1, bytes := 8, zero := some [Value.nilFunc] } := by kernel_rfl
theorem lay133 : lay Tryz.prog 133 = some { kind := LK.other, size := 1, bytes := 8, zero := some [Value.nilFunc] } := by kernel_rfl
theorem lay134 : lay Tryz.prog 134 = some { kind := LK.array 256 4, size := 256, bytes := 256, zero := some [Value.bool false, Value.bool false, Value.bool false, Value.bool false, Value.bool false, Value.bool false, Value.bool false, Value.bool false, Value.bool false, Value.bool false, Value.bool false, Value.bool false, Value.bool false, Value.bool false, Value.bool false, Value.bool false, Value.bool false, Value.bool false, Value.bool false, Value.bool false, Value.bool false, Value.bool false, Value.bool false, Value.bool false, Value.bool false, Value.bool false, Value.bool false, Value.bool false, Value.bool false, Value.bool false, Value.bool false, Value.bool false, Value.bool false, Value.bool false, Value.bool false, Value.bool false, Value.bool false, Value.bool false, Value.bool false, Value.bool false, Value.bool false, Value.bool false, Value.bool false, Value.bool false, Value.bool false, Value.bool false, Value.bool false, Value.bool false, Value.bool false, Value.bool false, Value.bool false, Value.bool false, Value.bool false, Value.bool false, Value.bool false, Value.bool false, Value.bool false, Value.bool false, Value.bool false, Value.bool false, Value.bool false, Value.bool false, Value.bool false, Value.bool false, Value.bool false, Value.bool false, Value.bool false, Value.bool false, Value.bool false, Value.bool false, Value.bool false, Value.bool false, Value.bool false, Value.bool false, Value.bool false, Value.bool false, Value.bool false, Value.bool false, Value.bool false, Value.bool false, Value.bool false, Value.bool false, Value.bool false, Value.bool false, Value.bool false, Value.bool false, Value.bool false, Value.bool false, Value.bool false, Value.bool false, Value.bool false, Value.bool false, Value.bool false, Value.bool false, Value.bool false, Value.bool false, Value.bool false, Value.bool false, Value.bool false, Value.bool false, Value.bool false, Value.bool false, Value.bool false, Value.bool false, Value.bool false, Value.bool false, Value.bool false, Value.bool false, Value.bool false, Value.bool false, Value.bool false, Value.bool false, Value.bool false, Value.bool false, Value.bool false, Value.bool false, Value.bool false, Value.bool false, Value.bool false, Value.bool false, Value.bool false, Value.bool false, Value.bool false, Value.bool false, Value.bool false, Value.bool false, Value.bool false, Value.bool false, Value.bool false, Value.bool false, Value.bool false, Value.bool false, Value.bool false, Value.bool false, Value.bool false, Value.bool false, Value.bool false, Value.bool false, Value.bool false, Value.bool false, Value.bool false, Value.bool false, Value.bool false, Value.bool false, Value.bool false, Value.bool false, Value.bool false, Value.bool false, Value.bool false, Value.bool false, Value.bool false, Value.bool false, Value.bool false, Value.bool false, Value.bool false, Value.bool false, Value.bool false, Value.bool false, Value.bool false, Value.bool false, Value.bool false, Value.bool false, Value.bool false, Value.bool false, Value.bool false, Value.bool false, Value.bool false, Value.bool false, Value.bool false, Value.bool false, Value.bool false, Value.bool false, Value.bool false, Value.bool false, Value.bool false, Value.bool false, Value.bool false, Value.bool false, Value.bool false, Value.bool false, Value.bool false, Value.bool false, Value.bool false, Value.bool false, Value.bool false, Value.bool false, Value.bool false, Value.bool false, Value.bool false, Value.bool false, Value.bool false, Value.bool false, Value.bool false, Value.bool false, Value.bool false, Value.bool false, Value.bool false, Value.bool false, Value.bool false, Value.bool false, Value.bool false, Value.bool false, Value.bool false, Value.bool false, Value.bool false, Value.bool false, Value.bool false, Value.bool false, Value.bool false, Value.bool false, Value.bool false, Value.bool false, Value.bool false, Value.bool false, Value.bool false, Value.bool false, Value.bool false, Value.bool false, Value.bool false, Value.bool false, Value.bool false, Value.bool false, Value.bool false, Value.bool false, Value.bool false, Value.bool false, Value.bool false, Value.bool false, Value.bool false, Value.bool false, Value.bool false, Value.bool false, Value.bool false, Value.bool false, Value.bool false, Value.bool false, Value.bool false, Value.bool false, Value.bool false, Value.bool false, Value.bool false, Value.bool false, Value.bool false, Value.bool false, Value.bool false, Value.bool false, Value.bool false, Value.bool false, Value.bool false, Value.bool false, Value.bool false, Value.bool false, Value.bool false, Value.bool false, Value.bool false, Value.bool false] } := by kernel_rfl
theorem lay135 : lay Tryz.prog 135 = some { kind := LK.array 256 4, size := 256, bytes := 256, zero := some [Value.bool false, Value.bool false, Value.bool false, Value.bool false, Value.bool false, Value.bool false, Value.bool false, Value.bool false, Value.bool false, Value.bool false, Value.bool false, Value.bool false, Value.bool false, Value.bool false, Value.bool false, Value.bool false, Value.bool false, Value.bool false, Value.bool false, Value.bool false, Value.bool false, Value.bool false, Value.bool false, Value.bool false, Value.bool false, Value.bool false, Value.bool false, Value.bool false, Value.bool false, Value.bool false, Value.bool false, Value.bool false, Value.bool false, Value.bool false, Value.bool false, Value.bool false, Value.bool false, Value.bool false, Value.bool false, Value.bool false, Value.bool false, Value.bool false, Value.bool false, Value.bool false, Value.bool false, Value.bool false, Value.bool false, Value.bool false, Value.bool false, Value.bool false, Value.bool false, Value.bool false, Value.bool false, Value.bool false, Value.bool false, Value.bool false, Value.bool false, Value.bool false, Value.bool false, Value.bool false, Value.bool false, Value.bool false, Value.bool false, Value.bool false, Value.bool false, Value.bool false, Value.bool false, Value.bool false, Value.bool false, Value.bool false, Value.bool false, Value.bool false, Value.bool false, Value.bool false, Value.bool false, Value.bool false, Value.bool false, Value.bool false, Value.bool false, Value.bool false, Value.bool false, Value.bool false, Value.bool false, Value.bool false, Value.bool false, Value.bool false, Value.bool false, Value.bool false, Value.bool false, Value.bool false, Value.bool false, Value.bool false, Value.bool false, Value.bool false, Value.bool false, Value.bool false, Value.bool false, Value.bool false, Value.bool false, Value.bool false, Value.bool false, Value.bool false, Value.bool false, Value.bool false, Value.bool false, Value.bool false, Value.bool false, Value.bool false, Value.bool false, Value.bool false, Value.bool false, Value.bool false, Value.bool false, Value.bool false, Value.bool false, Value.bool false, Value.bool false, Value.bool false, Value.bool false, Value.bool false, Value.bool false, Value.bool false, Value.bool false, Value.bool false, Value.bool false, Value.bool false, Value.bool false, Value.bool false, Value.bool false, Value.bool false, Value.bool false, Value.bool false, Value.bool false, Value.bool false, Value.bool false, Value.bool false, Value.bool false, Value.bool false, Value.bool false, Value.bool false, Value.bool false, Value.bool false, Value.bool false, Value.bool false, Value.bool false, Value.bool false, Value.bool false, Value.bool false, Value.bool false, Value.bool false, Value.bool false, Value.bool false, Value.bool false, Value.bool false, Value.bool false, Value.bool false, Value.bool false, Value.bool false, Value.bool false, Value.bool false, Value.bool false, Value.bool false, Value.bool false, Value.bool false, Value.bool false, Value.bool false, Value.bool false, Value.bool false, Value.bool false, Value.bool false, Value.bool false, Value.bool false, Value.bool false, Value.bool false, Value.bool false, Value.bool false, Value.bool false, Value.bool false, Value.bool false, Value.bool false, Value.bool false, Value.bool false, Value.bool false, Value.bool false, Value.bool false, Value.bool false, Value.bool false, Value.bool false, Value.bool false, Value.bool false, Value.bool false, Value.bool false, Value.bool false, Value.bool false, Value.bool false, Value.bool false, Value.bool false, Value.bool false, Value.bool false, Value.bool false, Value.bool false, Value.bool false, Value.bool false, Value.bool false, Value.bool false, Value.bool false, Value.bool false, Value.bool false, Value.bool false, Value.bool false, Value.bool false, Value.bool false, Value.bool false, Value.bool false, Value.bool false, Value.bool false, Value.bool false, Value.bool false, Value.bool false, Value.bool false, Value.bool false, Value.bool false, Value.bool false, Value.bool false, Value.bool false, Value.bool false, Value.bool false, Value.bool false, Value.bool false, Value.bool false, Value.bool false, Value.bool false, Value.bool false, Value.bool false, Value.bool false, Value.bool false, Value.bool false, Value.bool false, Value.bool false, Value.bool false, Value.bool false, Value.bool false, Value.bool false, Value.bool false, Value.bool false, Value.bool false, Value.bool false, Value.bool false, Value.bool false, Value.bool false, Value.bool false, Value.bool false, Value.bool false, Value.bool false, Value.bool false, Value.bool false] } := by kernel_rfl
theorem lay136 : lay Tryz.prog 136 = some { kind := LK.other, size := 1, bytes := 0, zero := some [Value.tuple { toList := [Value.agg { toList := [Value.bool false, Value.bool false, Value.bool false, Value.bool false, Value.bool false, Value.bool false, Value.bool false, Value.bool false, Value.bool false, Value.bool false, Value.bool false, Value.bool false, Value.bool false, Value.bool false, Value.bool false, Value.bool false, Value.bool false, Value.bool false, Value.bool false, Value.bool false, Value.bool false, Value.bool false, Value.bool false, Value.bool false, Value.bool false, Value.bool false, Value.bool false, Value.bool false, Value.bool false, Value.bool false, Value.bool false, Value.bool false, Value.bool false, Value.bool false, Value.bool false, Value.bool false, Value.bool false, Value.bool false, Value.bool false, Value.bool false, Value.bool false, Value.bool false, Value.bool false, Value.bool false, Value.bool false, Value.bool false, Value.bool false, Value.bool false, Value.bool false, Value.bool false, Value.bool false, Value.bool false, Value.bool false, Value.bool false, Value.bool false, Value.bool false, Value.bool false, Value.bool false, Value.bool false, Value.bool false, Value.bool false, Value.bool false, Value.bool false, Value.bool false, Value.bool false, Value.bool false, Value.bool false, Value.bool false, Value.bool false, Value.bool false, Value.bool false, Value.bool false, Value.bool false, Value.bool false, Value.bool false, Value.bool false, Value.bool false, Value.bool false, Value.bool false, Value.bool false, Value.bool false, Value.bool false, Value.bool false, Value.bool false, Value.bool false, Value.bool false, Value.bool false, Value.bool false, Value.bool false, Value.bool false, Value.bool false, Value.bool false, Value.bool false, Value.bool false, Value.bool false, Value.bool false, Value.bool false, Value.bool false, Value.bool false, Value.bool false, Value.bool false, Value.bool false, Value.bool false, Value.bool false, Value.bool false, Value.bool false, Value.bool false, Value.bool false, Value.bool false, Value.bool false, Value.bool false, Value.bool false, Value.bool false, Value.bool false, Value.bool false, Value.bool false, Value.bool false, Value.bool false, Value.bool false, Value.bool false, Value.bool false, Value.bool false, Value.bool false, Value.bool false, Value.bool false, Value.bool false, Value.bool false, Value.bool false, Value.bool false, Value.bool false, Value.bool false, Value.bool false, Value.bool false, Value.bool false, Value.bool false, Value.bool false, Value.bool false, Value.bool false, Value.bool false, Value.bool false, Value.bool false, Value.bool false, Value.bool false, Value.bool false, Value.bool false, Value.bool false, Value.bool false, Value.bool false, Value.bool false, Value.bool false, Value.bool false, Value.bool false, Value.bool false, Value.bool false, Value.bool false, Value.bool false, Value.bool false, Value.bool false, Value.bool false, Value.bool false, Value.bool false, Value.bool false, Value.bool false, Value.bool false, Value.bool false, Value.bool false, Value.bool false, Value.bool false, Value.bool false, Value.bool false, Value.bool false, Value.bool false, Value.bool false, Value.bool false, Value.bool false, Value.bool false, Value.bool false, Value.bool false, Value.bool false, Value.bool false, Value.bool false, Value.bool false, Value.bool false, Value.bool false, Value.bool false, Value.bool false, Value.bool false, Value.bool false, Value.bool false, Value.bool false, Value.bool false, Value.bool false, Value.bool false, Value.bool false, Value.bool false, Value.bool false, Value.bool false, Value.bool false, Value.bool false, Value.bool false, Value.bool false, Value.bool false, Value.bool false, Value.bool false, Value.bool false, Value.bool false, Value.bool false, Value.bool false, Value.bool false, Value.bool false, Value.bool false, Value.bool false, Value.bool false, Value.bool false, Value.bool false, Value.bool false, Value.bool false, Value.bool false, Value.bool false, Value.bool false, Value.bool false, Value.bool false, Value.bool false, Value.bool false, Value.bool false, Value.bool false, Value.bool false, Value.bool false, Value.bool false, Value.bool false, Value.bool false, Value.bool false, Value.bool false, Value.bool false, Value.bool false, Value.bool false, Value.bool false, Value.bool false, Value.bool false, Value.bool false, Value.bool false, Value.bool false, Value.bool false, Value.bool false, Value.bool false, Value.bool false, Value.bool false, Value.bool false, Value.bool false, Value.bool false, Value.bool false, Value.bool false, Value.bool false, Value.bool false, Value.bool false, Value.bool false] }, Value.bool false] }] } := by kernel_rfl
theorem lay137 : lay Tryz.prog 137 = some { kind := LK.other, size := 1, bytes := 8, zero := some [Value.nilFunc] } := by kernel_rfl
theorem lay138 : lay Tryz.prog 138 = some { kind := LK.array 32 5, size := 32, bytes := 32, zero := some [Value.int IntKind.u8 (Int.ofNat 0), Value.int IntKind.u8 (Int.ofNat 0), Value.int IntKind.u8 (Int.ofNat 0), Value.int IntKind.u8 (Int.ofNat 0), Value.int IntKind.u8 (Int.ofNat 0), Value.int IntKind.u8 (Int.ofNat 0), Value.int IntKind.u8 (Int.ofNat 0), Value.int IntKind.u8 (Int.ofNat 0), Value.int IntKind.u8 (Int.ofNat 0), Value.int IntKind.u8 (Int.ofNat 0), Value.int IntKind.u8 (Int.ofNat 0), Value.int IntKind.u8 (Int.ofNat 0), Value.int IntKind.u8 (Int.ofNat 0), Value.int IntKind.u8 (Int.ofNat 0), Value.int IntKind.u8 (Int.ofNat 0), Value.int IntKind.u8 (Int.ofNat 0), Value.int IntKind.u8 (Int.ofNat 0), Value.int IntKind.u8 (Int.ofNat 0), Value.int IntKind.u8 (Int.ofNat 0), Value.int IntKind.u8 (Int.ofNat 0), Value.int IntKind.u8 (Int.ofNat 0), Value.int IntKind.u8 (Int.ofNat 0), Value.int IntKind.u8 (Int.ofNat 0), Value.int IntKind.u8 (Int.ofNat 0), Value.int IntKind.u8 (Int.ofNat 0), Value.int IntKind.u8 (Int.ofNat 0), Value.int IntKind.u8 (Int.ofNat 0), Value.int IntKind.u8 (Int.ofNat 0), Value.int IntKind.u8 (Int.ofNat 0), Value.int IntKind.u8 (Int.ofNat 0), Value.int IntKind.u8 (Int.ofNat 0), Value.int IntKind.u8 (Int.ofNat 0)] } := by kernel_rfl
theorem lay139 : lay Tryz.prog 139 = some { kind := LK.array 64 5, size := 64, bytes := 64, zero := some [Value.int IntKind.u8 (Int.ofNat 0), Value.int IntKind.u8 (Int.ofNat 0), Value.int IntKind.u8 (Int.ofNat 0), Value.int IntKind.u8 (Int.ofNat 0), Value.int IntKind.u8 (Int.ofNat 0), Value.int IntKind.u8 (Int.ofNat 0), Value.int IntKind.u8 (Int.ofNat 0), Value.int IntKind.u8 (Int.ofNat 0), Value.int IntKind.u8 (Int.ofNat 0), Value.int IntKind.u8 (Int.ofNat 0), Value.int IntKind.u8 (Int.ofNat 0), Value.int IntKind.u8 (Int.ofNat 0), Value.int IntKind.u8 (Int.ofNat 0), Value.int IntKind.u8 (Int.ofNat 0), Value.int IntKind.u8 (Int.ofNat 0), Value.int IntKind.u8 (Int.ofNat 0), Value.int IntKind.u8 (Int.ofNat 0), Value.int IntKind.u8 (Int.ofNat 0), Value.int IntKind.u8 (Int.ofNat 0), Value.int IntKind.u8 (Int.ofNat 0), Value.int IntKind.u8 (Int.ofNat 0), Value.int IntKind.u8 (Int.ofNat 0), Value.int IntKind.u8 (Int.ofNat 0), Value.int IntKind.u8 (Int.ofNat 0), Value.int IntKind.u8 (Int.ofNat 0), Value.int IntKind.u8 (Int.ofNat 0), Value.int IntKind.u8 (Int.ofNat 0), Value.int IntKind.u8 (Int.ofNat 0), Value.int IntKind.u8 (Int.ofNat 0), Value.int IntKind.u8 (Int.ofNat 0), Value.int IntKind.u8 (Int.ofNat 0), Value.int IntKind.u8 (Int.ofNat 0), Value.int IntKind.u8 (Int.ofNat 0), Value.int IntKind.u8 (Int.ofNat 0), Value.int IntKind.u8 (Int.ofNat 0), Value.int IntKind.u8 (Int.ofNat 0), Value.int IntKind.u8 (Int.ofNat 0), Value.int IntKind.u8 (Int.ofNat 0), Value.int IntKind.u8 (Int.ofNat 0), Value.int IntKind.u8 (Int.ofNat 0), Value.int IntKind.u8 (Int.ofNat 0), Value.int IntKind.u8 (Int.ofNat 0), Value.int IntKind.u8 (Int.ofNat 0), Value.int IntKind.u8 (Int.ofNat 0), Value.int IntKind.u8 (Int.ofNat 0), Value.int IntKind.u8 (Int.ofNat 0), Value.int IntKind.u8 (Int.ofNat 0), Value.int IntKind.u8 (Int.ofNat 0), Value.int IntKind.u8 (Int.ofNat 0), Value.int IntKind.u8 (Int.ofNat 0), Value.int IntKind.u8 (Int.ofNat 0), Value.int IntKind.u8 (Int.ofNat 0), Value.int IntKind.u8 (Int.ofNat 0), Value.int IntKind.u8 (Int.ofNat 0), Value.int IntKind.u8 (Int.ofNat 0), Value.int IntKind.u8 (Int.ofNat 0), Value.int IntKind.u8 (Int.ofNat 0), Value.int IntKind.u8 (Int.ofNat 0), Value.int IntKind.u8 (Int.ofNat 0), Value.int IntKind.u8 (Int.ofNat 0), Value.int IntKind.u8 (Int.ofNat 0), Value.int IntKind.u8 (Int.ofNat 0), Value.int IntKind.u8 (Int.ofNat 0), Value.int IntKind.u8 (Int.ofNat 0)] } := by kernel_rfl
theorem lay140 : lay Tryz.prog 140 = some { kind := LK.other, size := 1, bytes := 8, zero := some [Value.nilFunc] } := by kernel_rfl
theorem lay141 : lay Tryz.prog 141 = some { kind := LK.other, size := 1, bytes := 8, zero := some [Value.pointer none] } := by kernel_rfl
theorem lay142 : lay Tryz.prog 142 = some { kind := LK.struct [(0, 1, false), (1, 1, false), (2, 1, false), (3, 1, false)], size := 4, bytes := 40, zero := some [Value.pointer none, Value.pointer none, Value.pointer none, Value.string ⟨#[]⟩] } := by kernel_rfl
theorem lay143 : lay Tryz.prog 143 = some { kind := LK.struct [(0, 1, false), (1, 1, false), (2, 1, false), (3, 1, false)], size := 4, bytes := 40, zero := some [Value.pointer none, Value.pointer none, Value.pointer none, Value.string ⟨#[]⟩] } := by kernel_rfl
theorem lay144 : lay Tryz.prog 144 = some { kind := LK.array 0 16, size := 0, bytes := 0, zero := some [] } := by kernel_rfl
theorem lay145 : lay Tryz.prog 145 = some { kind := LK.struct [(0, 0, true)], size := 0, bytes := 0, zero := some [] } := by kernel_rfl
theorem lay146 : lay Tryz.prog 146 = some { kind := LK.struct [(0, 0, true)], size := 0, bytes := 0, zero := some [] } := by kernel_rfl
theorem lay147 : lay Tryz.prog 147 = some { kind := LK.other, size := 1, bytes := 8, zero := some [Value.nilFunc] } := by kernel_rfl
theorem lay148 : lay Tryz.prog 148 = some { kind := LK.int IntKind.u8, size := 1, bytes := 1, zero := some [Value.int IntKind.u8 (Int.ofNat 0)] } := by kernel_rfl
theorem lay149 : lay Tryz.prog 149 = some { kind := LK.int IntKind.u8, size := 1, bytes := 1, zero := some [Value.int IntKind.u8 (Int.ofNat 0)] } := by kernel_rfl
theorem lay150 : lay Tryz.prog 150 = some { kind := LK.other, size := 1, bytes := 8, zero := some [Value.nilFunc] } := by kernel_rfl
theorem lay151 : lay Tryz.prog 151 = some { kind := LK.int IntKind.i32, size := 1, bytes := 4, zero := some [Value.int IntKind.i32 (Int.ofNat 0)] } := by kernel_rfl
theorem lay152 : lay Tryz.prog 152 = some { kind := LK.int IntKind.i32, size := 1, bytes := 4, zero := some [Value.int IntKind.i32 (Int.ofNat 0)] } := by kernel_rfl
theorem lay153 : lay Tryz.prog 153 = some { kind := LK.struct [(0, 1, false), (1, 1, false), (2, 1, false), (3, 1, false), (4, 1, false), (5, 1, false), (6, 1, false), (7, 1, false), (8, 1, false), (9, 1, false), (10, 1, false)], size := 11, bytes := 48, zero := some [Value.int IntKind.u64 (Int.ofNat 0), Value.int IntKind.u64 (Int.ofNat 0), Value.int IntKind.u32 (Int.ofNat 0), Value.int IntKind.u8 (Int.ofNat 0), Value.int IntKind.u8 (Int.ofNat 0), Value.int IntKind.u8 (Int.ofNat 0), Value.int IntKind.u8 (Int.ofNat 0), Value.nilFunc, Value.pointer none, Value.int IntKind.i32 (Int.ofNat 0), Value.int IntKind.i32 (Int.ofNat 0)] } := by kernel_rfl
theorem lay154 : lay Tryz.prog 154 = some { kind := LK.struct [(0, 1, false), (1, 1, false), (2, 1, false), (3, 1, false), (4, 1, false), (5, 1, false), (6, 1, false), (7, 1, false), (8, 1, false), (9, 1, false), (10, 1, false)], size := 11, bytes := 48, zero := some [Value.int IntKind.u64 (Int.ofNat 0), Value.int IntKind.u64 (Int.ofNat 0), Value.int IntKind.u32 (Int.ofNat 0), Value.int IntKind.u8 (Int.ofNat 0), Value.int IntKind.u8 (Int.ofNat 0), Value.int IntKind.u8 (Int.ofNat 0), Value.int IntKind.u8 (Int.ofNat 0), Value.nilFunc, Value.pointer none, Value.int IntKind.i32 (Int.ofNat 0), Value.int IntKind.i32 (Int.ofNat 0)] } := by kernel_rfl
theorem keyl7 : keyL Tryz.prog 7 = some [LK.int IntKind.i64, LK.int IntKind.i64, LK.bool, LK.int IntKind.u8] := by kernel_rfl
theorem keyl8 : keyL Tryz.prog 8 = some [LK.int IntKind.i64, LK.int IntKind.i64, LK.bool, LK.int IntKind.u8] := by kernel_rfl
theorem keyl22 : keyL Tryz.prog 22 = some [LK.int IntKind.i64, LK.int IntKind.i64, LK.str, LK.str, LK.str] := by kernel_rfl
theorem keyl23 : keyL Tryz.prog 23 = some [LK.int IntKind.i64, LK.int IntKind.i64, LK.str, LK.str, LK.str] := by kernel_rfl
theorem keyl37 : keyL Tryz.prog 37 = some [LK.int IntKind.i64, LK.int IntKind.i64] := by kernel_rfl
theorem keyl38 : keyL Tryz.prog 38 = some [LK.int IntKind.i64, LK.int IntKind.i64] := by kernel_rfl
theorem keyl80 : keyL Tryz.prog 80 = some [LK.bool, LK.bool, LK.bool] := by kernel_rfl
theorem keyl81 : keyL Tryz.prog 81 = some [LK.bool, LK.bool, LK.bool] := by kernel_rfl
theorem keyl127 : keyL Tryz.prog 127 = some [LK.int IntKind.u8, LK.int IntKind.u8] := by kernel_rfl
theorem keyl128 : keyL Tryz.prog 128 = some [LK.int IntKind.u8, LK.int IntKind.u8] := by kernel_rfl
theorem mapl47 : mapL Tryz.prog 47 = some (MKd.str, C.sc (Value.int IntKind.i64 (Int.ofNat 0))) := by kernel_rfl
attribute [push_cast] lay0 lay1 lay2 lay3 lay4 lay5 lay6 lay7 lay8 lay9 lay10 lay11 lay12 lay13 lay14 lay15 lay16 lay17 lay18 lay19 lay20 lay21 lay22 lay23 lay24 lay25 lay26 lay27 lay28 lay29 lay30 lay31 lay32 lay33 lay34 lay35 lay36 lay37 lay38 lay39 lay40 lay41 lay42 lay43 lay44 lay45 lay46 lay47 lay48 lay49 lay50 lay51 lay52 lay53 lay54 lay55 lay56 lay57 lay58 lay59 lay60 lay61 lay62 lay63 lay64 lay65 lay66 lay67 lay68 lay69 lay70 lay71 lay72 lay73 lay74 lay75 lay76 lay77 lay78 lay79 lay80 lay81 lay82 lay83 lay84 lay85 lay86 lay87 lay88 lay89 lay90 lay91 lay92 lay93 lay94 lay95 lay96 lay97 lay98 lay99 lay100 lay101 lay102 lay103 lay104 lay105 lay106 lay107 lay108 lay109 lay110 lay111 lay112 lay113 lay114 lay115 lay116 lay117 lay118 lay119 lay120 lay121 lay122 lay123 lay124 lay125 lay127 lay128 lay129 lay130 lay131 lay132 lay133 lay134 lay135 lay136 lay137 lay138 lay139 lay140 lay141 lay142 lay143 lay144 lay145 lay146 lay147 lay148 lay149 lay150 lay151 lay152 lay153 lay154 keyl7 keyl8 keyl22 keyl23 keyl37 keyl38 keyl80 keyl81 keyl127 keyl128 mapl47
end Go.Proofs.YtbphobmohdclaaaGreatDoor.Vcg
end
