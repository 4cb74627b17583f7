/- What the proof of ShapeHas leans on, part 3: Vcg17 Vcg26 Lay Vcg18. No condition beyond what each theorem states. -/
import Derived.Test.YtdmfififkcnecaaDoorShapeHasKb
import Derived.Test.YtdmfififkcnecaaDoorProg
section
set_option linter.unusedVariables false
set_option linter.unusedSimpArgs false
namespace Go.Proofs.YtdmfififkcnecaaDoor.Vcg
open Go.RowKit
def thenK (next : St → Prop) (Q : Exit → St → Prop) : Exit → St → Prop
  | .normal, σ => next σ
  | e, σ => Q e σ
def blockK (id : Nat) (Q : Exit → St → Prop) : Exit → St → Prop
  | .exit id', σ => if id' = id then Q .normal σ else Q (.exit id') σ
  | e, σ => Q e σ
def noGotoK (Q : Exit → St → Prop) : Exit → St → Prop
  | .goto _, _ => False
  | e, σ => Q e σ
def loopK (next : St → Prop) (Q : Exit → St → Prop) : Exit → St → Prop
  | .normal, σ => next σ
  | e, σ => Q e σ
/-- a loop: what holds at every round's head, by a number that every round lowers -/
def ALoop (p : Nat) (B : (Exit → St → Prop) → St → Prop) (Q : Exit → St → Prop) (σ : St) : Prop :=
  ∃ (ι : Type) (I : ι → St) (ok : ι → Prop) (μ : ι → Nat) (i0 : ι), ok i0 ∧ Weak p σ (I i0) ∧ ∀ i, ok i → B (loopK (fun σ' => ∃ j, ok j ∧ μ j < μ i ∧ Weak p σ' (I j)) Q) (I i)
/-- operations in the text's order -/
def aops (P : Program) (G : Globs) (Y : Hd) (ops : Array Oper) : List Oper → St → (St → Prop) → Prop
  | [], σ, K => K σ
  | o :: rest, σ, K => aGuard ops σ.tm o.guard (aEff P G Y o.op σ fun c σ' => aops P G Y ops rest (σ'.put o.dst c) K) (aops P G Y ops rest (σ.put o.dst (.sc undef)) K)
/-- a region whose order is open: with a variable that is laid and filled, or without -/
def adraw (P : Program) (G : Globs) (h : Hd) (ops : Array Oper) (br : List Bool) (σ : St) (K : St → Prop) : Prop :=
  match lateOf br with
  | some (a, s) => ladops P G ops a s ops.toList 0 none σ K
  | none => adops P G h ops ops.toList br σ K
def awp (P : Program) (G : Globs) : Hd → Code → (Exit → St → Prop) → St → Prop
  | _, .skip, Q, σ => Q .normal σ
  | _, .label _, Q, σ => Q .normal σ
  | _, .exit id, Q, σ => Q (.exit id) σ
  | _, .goto l, Q, σ => Q (.goto l) σ
  | _, .ret, Q, σ => Q .ret σ
  | h, .seq x y, Q, σ => awp P G h x (thenK (awp P G h y Q) Q) σ
  | h, .cond c x y, Q, σ => ABr (evOf G σ.tm c) (awp P G h x Q σ) (awp P G h y Q σ)
  | h, .block id c, Q, σ => awp P G h c (blockK id Q) σ
  | h, .loop c, Q, σ => ALoop h.p (awp P G h c) Q σ
  | h, .scope c, Q, σ => awp P G h c (noGotoK Q) σ
  | h, .region id ops draw, Q, σ => match draw with
    | true => adraw P G h ops (h.b id) σ (Q .normal)
    | false => aops P G h ops ops.toList σ (Q .normal)
  | h, .rangeFunc f ps x y, Q, σ => ARange P G h.p (fun m => awp P G ⟨m, h.y, h.b⟩ x) (fun m => awp P G ⟨m, h.y, h.b⟩ y) Q ps.toList (evOf G σ.tm f) σ
  | _, .refuse _, _, _ => False
/-- what is to be looked at in the text alone -/
def codeOk (N : Nat) (b : Nat → List Bool) : Code → Bool
  | .seq x y => codeOk N b x && codeOk N b y
  | .cond _ x y => codeOk N b x && codeOk N b y
  | .block _ c => codeOk N b c
  | .loop c => codeOk N b c
  | .scope c => codeOk N b c
  | .region id ops draw => (ops.toList.all fun o => match o.dst with | some d => decide (d < N) | none => true) && (!draw || (regOk ops && match lateOf (b id) with | some (a, s) => lateOk ops a s | none => barrOk ops (b id)))
  | .rangeFunc _ ps x y => (ps.toList.all fun p => decide (p < N)) && codeOk N b x && codeOk N b y
  | _ => true
section
variable {P : Program} {G : Globs} {E : Ctx} {σ : St} {a : Act} {N p : Nat} {bx : List (List C)} {ops : Array Oper}
theorem dstOk_of {l : List Oper} (h : (l.all fun o => match o.dst with | some d => decide (d < N) | none => true) = true) : ∀ o ∈ l, dstOk N o.dst := fun o ho => by
  have := List.all_eq_true.1 h o ho
  unfold dstOk
  cases hd : o.dst with
  | none => trivial
  | some d => simpa [hd] using this
theorem aops_sound {Y : Hd} (hY : HdOk P Y E) {r : Option Nat} {n : Nat} {Q : Exit → Act → World → Prop} {K : St → Prop} (hQ : ∀ a' w' σ', K σ' → Inv G E σ' a' w' → Q .normal a' w') : ∀ (l : List Oper) (σ : St) (a : Act) (w : World), (∀ o ∈ l, dstOk E.N o.dst) → aops P G Y ops l σ K → Inv G E σ a w →
    (∀ (j : Nat) (o : Oper), ops[j]? = some o → dstOk E.N o.dst) → wpListIn (Fl r) n P ops Q l a w
  | [], σ, a, w, _, h, hI, _ => hQ a w σ h hI
  | o :: rest, σ, a, w, hd, h, hI, hops => by
    obtain ⟨b, hg, h1, h2⟩ := aGuard.out h
    obtain ⟨R, L, rfl, hI⟩ := hI
    have hguard : Region.wanted o (yielded ops a.tmps) = b := guard_wanted (tm := σ.tm) (R := R) (L := L) rfl hg fun j want d hgd hdd => by
      refine ⟨?_, hI.tm d⟩
      rw [hI.size]
      cases hj : ops[j]? with
      | none => rw [hj] at hdd; cases hdd
      | some o' =>
        rw [hj] at hdd
        have hd' : o'.dst = some d := hdd
        have := hops j o' hj
        rw [hd'] at this; exact this
    have hdo := hd o List.mem_cons_self
    have hdr : ∀ o' ∈ rest, dstOk E.N o'.dst := fun o' ho' => hd o' (List.mem_cons_of_mem _ ho')
    simp only [wpListIn, hguard]
    cases b with
    | true =>
      simp only [if_true]
      refine runs_wpIn ((aEff_after hY (h1 rfl) hI).mono fun v w' => ?_)
      rintro ⟨c, σ', R', L', rfl, hI', hv, hK⟩
      exact aops_sound hY hQ rest _ _ _ hdr hK ⟨R', L', rfl, hI'.put hdo hv⟩ hops
    | false =>
      simp only [Bool.false_eq_true, if_false]
      exact ⟨fun f _ => trivial, aops_sound hY hQ rest _ _ _ hdr (h2 rfl) ⟨R, L, rfl, hI.put hdo (rep_sc.2 rfl)⟩ hops⟩
theorem wpIn_scope_straight {F : Fence} {n : Nat} {c : Code} {Q : Exit → Act → World → Prop} {w : World} (h : c.wpIn F n P (Exit.noGoto Q) a w) : (Code.scope c).wpIn F n P Q a w := by
  intro b k cs hro hb hr
  obtain ⟨e, a₁, w₁, hq, harr⟩ := h b (.inScope c :: k) cs hro hb hr
  have h0 : StepsIn (Machine.fenced P F) P (lone (b.atR a (.code (.scope c) :: k)) cs w) (lone (b.atR a (.code c :: .inScope c :: k)) cs w) :=
    .one (fenced_calm hb hr rfl) (step_lone_go (by simp [stepG, stepG.exec, Frame.atR]))
  cases e with
  | normal => exact ⟨.normal, a₁, w₁, hq, .trans (.trans h0 harr) (.one (fenced_calm hb hr rfl) (step_lone_go (by simp [stepG, stepG.exec, Frame.atR])))⟩
  | exit id => exact ⟨.exit id, a₁, w₁, hq, fun k' hk => StepsIn.trans h0 (harr.1 k' (by simp [exitTo, hk])), fun hr hk => let ⟨k₁, h1, h2⟩ := harr.2 hr (by simp [exitTo, hk]); ⟨k₁, h1, StepsIn.trans h0 h2⟩⟩
  | goto l => exact hq.elim
  | ret => exact ⟨_, a₁, w₁, hq, .of_steps h0 harr⟩
  | panic ch => exact ⟨_, a₁, w₁, hq, .of_steps h0 harr⟩
  | outgrown => exact ⟨_, a₁, w₁, hq, .of_steps (b := b) (k := k) (cs := cs) (e := .outgrown) h0 harr⟩
theorem awp_sound (hm : P.follows .mixedOrders = true) : ∀ (c : Code) (h : Hd) (E : Ctx) (r : Option Nat) (n : Nat), E.β0.length ≤ h.p → (∀ y, h.y = some y → YOk P y E.J) → RndOk r E → ∀ (Q : Exit → St → Prop) (σ : St) (a : Act) (w : World), codeOk E.N h.b c = true → awp P G h c Q σ → Inv G E σ a w → c.wpIn (Fl r) n P (outK G E Q) a w := by
  intro c
  induction c with
  | skip => exact fun h E r n _ _ _ Q σ a w _ hA hI => wpIn_skip ⟨σ, hA, hI⟩
  | label l => exact fun h E r n _ _ _ Q σ a w _ hA hI => wpIn_label ⟨σ, hA, hI⟩
  | exit id => exact fun h E r n _ _ _ Q σ a w _ hA hI => wpIn_exit ⟨σ, hA, hI⟩
  | goto l => exact fun h E r n _ _ _ Q σ a w _ hA hI => wpIn_goto ⟨σ, hA, hI⟩
  | ret => exact fun h E r n _ _ _ Q σ a w _ hA hI => wpIn_ret ⟨σ, hA, hI⟩
  | refuse s => exact fun h E r n _ _ _ Q σ a w _ hA hI => hA.elim
  | rangeFunc f ps x y ihx ihy =>
    intro h E r n hp hY hr Q σ a w hc hA hI
    simp only [codeOk, Bool.and_eq_true] at hc
    exact range_sound (fun E' m l Q' σ' a' w' hN hβ hJ hr' hA' hI' => ihx ⟨m, h.y, h.b⟩ E' (some l) 0 hβ (fun y hy => by rw [hJ]; exact hY y hy) hr' Q' σ' a' w' (by rw [hN]; exact hc.1.2) hA' hI')
      (fun E' m l Q' σ' a' w' hN hβ hJ hr' hA' hI' => ihy ⟨m, h.y, h.b⟩ E' (some l) 0 hβ (fun y hy => by rw [hJ]; exact hY y hy) hr' Q' σ' a' w' (by rw [hN]; exact hc.2) hA' hI')
      (fun p hp => by have := List.all_eq_true.1 hc.1.1 p hp; simpa using this) hp hr hA hI
  | seq x y ihx ihy =>
    intro h E r n hp hY hr Q σ a w hc hA hI
    simp only [codeOk, Bool.and_eq_true] at hc
    refine wpIn_seq (wpIn_mono (ihx h E r n hp hY hr _ σ a w hc.1 hA hI) ?_)
    rintro e a' w' ⟨σ', hq, hI'⟩
    cases e <;> first | exact ihy h E r n hp hY hr Q σ' a' w' hc.2 hq hI' | exact ⟨σ', hq, hI'⟩
  | cond c x y ihx ihy =>
    intro h E r n hp hY hr Q σ a w hc hA hI
    simp only [codeOk, Bool.and_eq_true] at hc
    obtain ⟨b, hb, h1, h2⟩ := ABr.out hA
    obtain ⟨R, L, rfl, hI⟩ := hI
    have hev := hI.ev c
    rw [hb, rep_sc] at hev
    refine wpIn_cond hev ?_
    cases b with
    | true => exact ihx h E r n hp hY hr Q σ a _ hc.1 (h1 rfl) ⟨R, L, rfl, hI⟩
    | false => exact ihy h E r n hp hY hr Q σ a _ hc.2 (h2 rfl) ⟨R, L, rfl, hI⟩
  | block id c ih =>
    intro h E r n hp hY hr Q σ a w hc hA hI
    refine wpIn_block (wpIn_mono (ih h E r n hp hY hr _ σ a w hc hA hI) ?_)
    rintro e a' w' ⟨σ', hq, hI'⟩
    cases e <;> first
      | exact ⟨σ', hq, hI'⟩
      | (simp only [blockK] at hq
         simp only [Exit.inBlock]
         split at hq
         · rw [if_pos (by assumption)]; exact ⟨σ', hq, hI'⟩
         · rw [if_neg (by assumption)]; exact ⟨σ', hq, hI'⟩)
  | scope c ih =>
    intro h E r n hp hY hr Q σ a w hc hA hI
    refine wpIn_scope_straight (wpIn_mono (ih h E r n hp hY hr _ σ a w hc hA hI) ?_)
    rintro e a' w' ⟨σ', hq, hI'⟩
    cases e <;> first | exact hq.elim | exact ⟨σ', hq, hI'⟩
  | loop c ih =>
    intro h E r n hp hY hr Q σ a w hc hA hI
    obtain ⟨ι, I, ok, μ, i0, h0, hw, hrd⟩ := hA
    refine wpIn_loop_ghost (fun m a w => ∃ i, ok i ∧ μ i = m ∧ Inv G E (I i) a w) (μ i0) ⟨i0, h0, rfl, hI.weak hp hw⟩ ?_
    rintro m a w ⟨i, hi, rfl, hI⟩
    refine wpIn_mono (ih h E r n hp hY hr _ _ a w hc (hrd i hi) hI) ?_
    rintro e a' w' ⟨σ', hq, hI'⟩
    cases e <;> first
      | exact ⟨σ', hq, hI'⟩
      | (obtain ⟨j, hj, hlt, hw'⟩ := hq
         exact ⟨_, hlt, j, hj, rfl, hI'.weak hp hw'⟩)
  | region id ops draw =>
    intro h E r n hp hY hr Q σ a w hc hA hI
    simp only [codeOk, Bool.and_eq_true] at hc
    have hd := dstOk_of hc.1
    cases draw with
    | true =>
      have hok : regOk ops = true ∧ (match lateOf (h.b id) with | some (a, s) => lateOk ops a s | none => barrOk ops (h.b id)) = true := by simpa using hc.2
      obtain ⟨ho1, ho2⟩ := hok
      have hA : adraw P G h ops (h.b id) σ (Q .normal) := hA
      unfold adraw at hA
      cases hl : lateOf (h.b id) with
      | none =>
        rw [hl] at ho2 hA
        exact draw_sound ⟨hY, hp⟩ hm hd ho1 ho2 hA hI fun a' w' σ' hK hI' => ⟨_, hK, hI'⟩
      | some q =>
        rw [hl] at ho2 hA
        exact late_sound hm hd ho1 ho2 hA hI fun a' w' σ' hK hI' => ⟨_, hK, hI'⟩
    | false =>
      refine wpIn_region_list (aops_sound ⟨hY, hp⟩ (K := Q .normal) (fun a' w' σ' hK hI' => ⟨σ', hK, hI'⟩) _ σ a w hd hA hI fun j o hj => ?_)
      exact hd o (by rw [Array.mem_toList_iff]; exact Array.mem_of_getElem? hj)
/-- what a function hands back -/
def aResOne (P : Program) (σ : St) (rv : ResultVar) (K : C → Prop) : Prop :=
  match rv with
  | .tmp t => K (getC σ.tm t)
  | .cell b t => aLoad P t (getC σ.tm b) σ.bx K
def aRes (P : Program) (σ : St) (rs : List ResultVar) (K : C → Prop) : Prop :=
  match rs with
  | [] => K (.tup [])
  | [x] => aResOne P σ x K
  | [x, y] => aResOne P σ x fun c => aResOne P σ y fun d => K (.tup [c, d])
  | [x, y, z] => aResOne P σ x fun c => aResOne P σ y fun d => aResOne P σ z fun e => K (.tup [c, d, e])
  | [x, y, z, u] => aResOne P σ x fun c => aResOne P σ y fun d => aResOne P σ z fun e => aResOne P σ u fun f => K (.tup [c, d, e, f])
  | _ => False
def resOne (tmps : Array Value) : ResultVar → Sem Value
  | .tmp t => pure (tmps.getD t undef)
  | .cell b t => do loadVar t (← asAddr (tmps.getD b undef))
theorem aResOne_run {R : Env} {L : Loc} (h : InvV G E σ a R L) {rv : ResultVar} {K : C → Prop} (hK : aResOne P σ rv K) : ∃ v c, (resOne a.tmps rv).run P R.w = .ok v R.w ∧ Rep R L c v ∧ K c := by
  cases rv with
  | tmp t => exact ⟨_, _, rfl, h.tm t, hK⟩
  | cell b t =>
    obtain ⟨c, h1, h2⟩ := load_at K (show aLoad P t (getC σ.tm b) σ.bx K from hK)
    obtain ⟨v, ad, e1, e2, e3⟩ := h1 R L (a.tmps.getD b undef) h.good.fit.boxes (h.tm b)
    refine ⟨v, c, ?_, e3, h2⟩
    rw [e1] at e2
    simp only [Instr.loadAt, Instr.sureAddr, Sem.run_bind, Sem.run_pure, Result.andThen_ok] at e2
    simp only [resOne, e1, asAddr, Sem.run_bind, Sem.run_pure, Result.andThen_ok, e2]
theorem run_results {fn : Func} {rs : List ResultVar} (hrs : fn.results.toList = rs) (tmps : Array Value) (w : World) : (results fn tmps).run P w = (((rs.mapM (resOne tmps)).run P w).andThen fun vs w' => .ok (if h : vs.length = 1 then vs[0]'(by omega) else .tuple vs.toArray) w') := by
  have e0 : fn.results = rs.toArray := by rw [← hrs]
  unfold results
  rw [e0, Array.mapM_eq_mapM_toList]
  change (Sem.run P (do
    let vs ← List.toArray <$> List.mapM (resOne tmps) rs
    pure (if h : vs.size = 1 then vs[0] else Value.tuple vs)) w) = _
  simp only [Sem.run_bind, Sem.run_map]
  cases h : (rs.mapM (resOne tmps)).run P w with
  | ok vs w' =>
    simp
  | halt x w' => simp
theorem aRes_run {fn : Func} {R : Env} {L : Loc} (h : InvV G E σ a R L) {rs : List ResultVar} (hrs : fn.results.toList = rs) {K : C → Prop} (hK : aRes P σ rs K) : ∃ v c, (results fn a.tmps).run P R.w = .ok v R.w ∧ Rep R L c v ∧ K c := by
  rw [run_results hrs]
  unfold aRes at hK
  split at hK
  · exact ⟨.tuple #[], _, by simp, rep_tup.2 ⟨_, rfl, repL_nil.2 rfl⟩, hK⟩
  · rename_i x
    obtain ⟨v, c, h1, h2, h3⟩ := aResOne_run h hK
    exact ⟨v, c, by simp [h1], h2, h3⟩
  · rename_i x y
    obtain ⟨v, c, h1, h2, hK⟩ := aResOne_run h hK
    obtain ⟨v2, c2, g1, g2, hK⟩ := aResOne_run h hK
    exact ⟨_, _, by simp [h1, g1], rep_tup.2 ⟨#[v, v2], rfl, repL_cons.2 ⟨_, _, rfl, h2, repL_cons.2 ⟨_, _, rfl, g2, repL_nil.2 rfl⟩⟩⟩, hK⟩
  · rename_i x y z
    obtain ⟨v, c, h1, h2, hK⟩ := aResOne_run h hK
    obtain ⟨v2, c2, g1, g2, hK⟩ := aResOne_run h hK
    obtain ⟨v3, c3, k1, k2, hK⟩ := aResOne_run h hK
    exact ⟨_, _, by simp [h1, g1, k1], rep_tup.2 ⟨#[v, v2, v3], rfl, repL_cons.2 ⟨_, _, rfl, h2, repL_cons.2 ⟨_, _, rfl, g2, repL_cons.2 ⟨_, _, rfl, k2, repL_nil.2 rfl⟩⟩⟩⟩, hK⟩
  · rename_i x y z u
    obtain ⟨v, c, h1, h2, hK⟩ := aResOne_run h hK
    obtain ⟨v2, c2, g1, g2, hK⟩ := aResOne_run h hK
    obtain ⟨v3, c3, k1, k2, hK⟩ := aResOne_run h hK
    obtain ⟨v4, c4, l1, l2, hK⟩ := aResOne_run h hK
    exact ⟨_, _, by simp [h1, g1, k1, l1], rep_tup.2 ⟨#[v, v2, v3, v4], rfl, repL_cons.2 ⟨_, _, rfl, h2, repL_cons.2 ⟨_, _, rfl, g2, repL_cons.2 ⟨_, _, rfl, k2, repL_cons.2 ⟨_, _, rfl, l2, repL_nil.2 rfl⟩⟩⟩⟩⟩, hK⟩
  · exact hK.elim
/-- the end of a function -/
def retK (P : Program) (rs : List ResultVar) (K : C → St → Prop) : Exit → St → Prop
  | .normal, σ => aRes P σ rs fun c => K c σ
  | .ret, σ => aRes P σ rs fun c => K c σ
  | _, _ => False
/-- a function's contract -/
def tmOf : Nat → List C → List (Nat × C)
  | _, [] => []
  | i, c :: r => (i, c) :: tmOf (i + 1) r
theorem tmOf_get {R : Env} {L : Loc} : ∀ (cs : List C) (vs : List Value) (i : Nat) (f : Nat → Value), RepL R L cs vs → (∀ (j : Nat) v, vs[j]? = some v → f (i + j) = v) → ∀ t, Rep R L (getC (tmOf i cs) t) (f t)
  | [], vs, i, f, h, hf, t => by unfold tmOf getC Rep; trivial
  | c :: r, vs, i, f, h, hf, t => by
    obtain ⟨v, us, rfl, h1, h2⟩ := repL_cons.1 h
    simp only [tmOf, getC]
    split
    · subst_vars
      have := hf 0 v rfl
      rw [Nat.add_zero] at this
      rw [this]; exact h1
    · exact tmOf_get r us (i + 1) f h2 (fun j v hj => by
        have := hf (j + 1) v (by simpa using hj)
        rwa [show i + 1 + j = i + (j + 1) by omega]) t
/-- the marks of the loops over iterators, taken up at the function's end -/
theorem leaves_marks {L : Loc} {Rr : Ending → World → Prop} {fn : Func} (hE : E.df = []) : ∀ (l : List Nat) (a : Act) (R : Env), a.defers = l.map markOf → l.Nodup → (∀ d ∈ l, R.w.heap[d]? = some (.deferred (some [])) ∧ E.w0.heap.size ≤ d ∧ ¬ R.F d) → InvV G E σ a R L →
    (∀ a' R', a'.tmps = a.tmps → InvV G E σ a' R' L → ∃ v, (results fn a.tmps).run P R'.w = .ok v R'.w ∧ Rr (.returned v) R'.w) → LeavesInM Fence.wide 0 P fn a.tmps Rr a.defers .returning R.w
  | [], a, R, hd, _, _, hI, hk => by
    rw [hd]
    obtain ⟨v, h1, h2⟩ := hk a R rfl hI
    exact ⟨v, h1, h2⟩
  | d :: l, a, R, hd, hn, hl, hI, hk => by
    obtain ⟨h1, h2, h3⟩ := hl d List.mem_cons_self
    rw [hd]
    refine ⟨by simp, .inl ⟨d, _, rfl, run_takeDeferred h1, ?_⟩⟩
    have hni := nigh_putObj (E := E) (R := R) (o := .deferred none) (.inl h2) h3 (fun cs t f hc => by rw [h1] at hc; cases hc)
    have hnT : ¬ Turf L d := fun hb => by
      obtain ⟨_, _, _, hc⟩ := hI.good.turf hb
      rcases hc with ⟨cs, t, f, hc⟩ | ⟨cs, t, hc⟩ <;> exact nomatch h1.symm.trans hc
    have hg := hI.good.stay hni fun b hb => ⟨World.putObj_heap_other fun e => hnT (e ▸ hb), fun _ => Iff.rfl⟩
    have hl' : ∀ x ∈ l, (R.w.putObj d (.deferred none)).heap[x]? = some (.deferred (some [])) ∧ E.w0.heap.size ≤ x ∧ ¬ R.F x := fun x hx => by
      obtain ⟨g1, g2, g3⟩ := hl x (List.mem_cons_of_mem _ hx)
      exact ⟨(World.putObj_heap_other fun e : x = d => (List.nodup_cons.1 hn).1 (by rw [← e]; exact hx)).trans g1, g2, g3⟩
    exact leaves_marks hE l { a with defers := l.map markOf } ⟨R.w.putObj d (.deferred none), R.M, R.F⟩ rfl (List.nodup_cons.1 hn).2 hl'
      ⟨hg, hI.size, ⟨l, by rw [hE, List.append_nil], (List.nodup_cons.1 hn).2, hl'⟩, fun t => Rep.ext hni.ext (LocLe.refl _) _ _ (hI.tm t)⟩ hk
theorem calls_of_awp {h : Hd} {R : Env} {L : Loc} {f : FuncId} {fn : Func} {code : Code} {vs : List Value} {K : C → St → Prop} {Rr : Ending → World → Prop} (hm : P.follows .mixedOrders = true) (hf : P.funcs[f]? = some fn) (hb : fn.body = some code) (hok : codeOk fn.ntmps h.b code = true)
    (hN : E.N = fn.ntmps) (hdf : E.df = []) (hp : E.β0.length ≤ h.p) (hY : ∀ y, h.y = some y → YOk P y E.J) (hA : awp P G h code (retK P fn.results.toList K) σ)
    (hI : InvV G E σ { tmps := vs.toArray ++ Array.replicate (fn.ntmps - vs.toArray.size) undef, defers := [] } R L)
    (hK : ∀ σ' a' R' L' v c, K c σ' → InvV G E σ' a' R' L' → Rep R' L' c v → Rr (.returned v) R'.w) : Calls P f vs.toArray R.w Rr := by
  refine (callsIn_wide (n := 0)).1 (callsIn_of_wp_marks hf hb trivial (wpIn_mono (awp_sound hm code h E none 0 hp hY (fun l0 hl0 => by cases hl0) _ σ _ _ (by rw [hN]; exact hok) hA ⟨R, L, rfl, hI⟩) ?_))
  have fin : ∀ a' w' σ', aRes P σ' fn.results.toList (fun c => K c σ') → Inv G E σ' a' w' → LeavesInM Fence.wide 0 P fn a'.tmps Rr a'.defers .returning w' := by
    rintro a' w' σ' hres ⟨R', L', rfl, hI'⟩
    obtain ⟨l, e, hn, hl⟩ := hI'.df
    rw [hdf, List.append_nil] at e
    refine leaves_marks hdf l a' R' e hn hl hI' fun a2 R2 ha hI2 => ?_
    obtain ⟨v, c, h1, h2, h3⟩ := aRes_run (fn := fn) hI2 rfl hres
    rw [ha] at h1
    exact ⟨v, h1, hK σ' a2 R2 L' v c h3 hI2 h2⟩
  rintro e a' w' ⟨σ', hq, hI'⟩
  cases e <;> first | exact hq.elim | exact fin a' w' σ' hq hI'
theorem init_tmps {R : Env} {L : Loc} {args : List C} {vs : List Value} {n : Nat} (hN : args.length ≤ n) (hargs : RepL R L args vs) : (vs.toArray ++ Array.replicate (n - vs.toArray.size) undef).size = n ∧ ∀ t, Rep R L (getC (tmOf 0 args) t) ((vs.toArray ++ Array.replicate (n - vs.toArray.size) undef).getD t undef) := by
  have hvl := repL_length hargs
  refine ⟨by simp; omega, tmOf_get args vs 0 _ hargs fun j v hj => ?_⟩
  have hj' : j < vs.length := (List.getElem?_eq_some_iff.1 hj).1
  rw [Nat.zero_add, Array.getD_eq_getD_getElem?, Array.getElem?_append_left (by simpa using hj')]
  simp [hj]
theorem frz_cells {R R2 : Env} {L : Loc} {b : Nat} {vs : Array Value} {ty : TypeId} (he : Ext R R2) (hh : R2.w.heap[b]? = some (.cells vs ty (0, 0))) (hM : ∀ o, ¬ R2.M b o) : ∀ (cs : List C) (us : List Value) (off : Nat), RepL R L cs us → vs.toList.drop off = us → (∀ v ∈ us, v.oneCell' = true) → RepCells R2 (C.frzL cs) b off
  | [], _, _, _, _, _ => by unfold C.frzL; exact repCells_nil
  | c :: r, us, off, hr, hd, h1 => by
    obtain ⟨v, us', rfl, g1, g2⟩ := repL_cons.1 hr
    unfold C.frzL
    have hv : vs[off]? = some v := by
      have := List.getElem?_drop (xs := vs.toList) (i := off) (j := 0)
      rw [hd] at this
      simpa using this.symm
    refine repCells_cons.2 ⟨⟨v, ?_, hM off, Rep.ext he (LocLe.refl _) _ _ (g1.frz noLoc), h1 v List.mem_cons_self⟩, frz_cells he hh hM r us' (off + 1) g2 ?_ fun x hx => h1 x (List.mem_cons_of_mem _ hx)⟩
    · rw [cell_of_row R2.w b off vs ty (0, 0) hh]; exact hv
    · rw [← List.drop_drop, hd]; rfl
theorem frzL_drop : ∀ (n : Nat) (cs : List C), C.frzL (cs.drop n) = (C.frzL cs).drop n
  | 0, _ => rfl
  | n + 1, [] => by simp [C.frzL]
  | n + 1, c :: r => by
    have h : C.frzL (c :: r) = c.frz :: C.frzL r := by rw [C.frzL]
    rw [h]; exact frzL_drop n r
mutual
theorem Rep.fz {R R2 : Env} {L : Loc} {bx : List (List C)} (he : Ext R R2) (hbx : BoxesOk R L bx) (hw : R2.w = R.w) (hM : ∀ b ∈ L.β, ∀ o, ¬ R2.M b o) : ∀ (c : C) (v : Value), Rep R L c v → Rep R2 L (c.fz bx) v
  | .ptr i off, _, h => by
    unfold C.fz
    obtain ⟨b, hb, e⟩ := rep_ptr.1 h
    split
    · rename_i cs hcs
      obtain ⟨vs, ty, e1, e2, e3, e4⟩ := hbx.box i b cs hb hcs
      refine rep_row.2 ⟨b, off, e, ?_⟩
      rw [← frzL_drop]
      refine frz_cells (L := L) he (by rw [hw]; exact e1) (hM b (List.mem_of_getElem? hb)) _ (vs.toList.drop off) off (repL_drop off e2) rfl fun x hx => e3 x (List.mem_of_mem_drop hx)
    · exact le_any
  | .agg cs, _, h => by
    unfold C.fz; unfold Rep at h ⊢
    obtain ⟨vs, e, hl⟩ := h
    exact ⟨vs, e, RepL.fz he hbx hw hM cs _ hl⟩
  | .tup cs, _, h => by
    unfold C.fz; unfold Rep at h ⊢
    obtain ⟨vs, e, hl⟩ := h
    exact ⟨vs, e, RepL.fz he hbx hw hM cs _ hl⟩
  | .clo fn first cap, _, h => by
    unfold C.fz; unfold Rep at h ⊢
    obtain ⟨fs, cs, e, h1, h2⟩ := h
    exact ⟨fs, cs, e, RepL.fz he hbx hw hM first _ h1, RepL.fz he hbx hw hM cap _ h2⟩
  | .sc v, _, h => Rep.ext he (LocLe.refl _) _ _ h
  | .str l, _, h => Rep.ext he (LocLe.refl _) _ _ h
  | .sl k rows, _, h => Rep.ext he (LocLe.refl _) _ _ h
  | .tight k rows, _, h => Rep.ext he (LocLe.refl _) _ _ h
  | .own id e k rows, _, h => Rep.ext he (LocLe.refl _) _ _ h
  | .mo id t ks vs, _, h => Rep.ext he (LocLe.refl _) _ _ h
  | .row cs, _, h => Rep.ext he (LocLe.refl _) _ _ h
  | .bs i off k n c, _, h => by unfold C.fz; exact le_any
  | .any, _, h => Rep.ext he (LocLe.refl _) _ _ h
theorem RepL.fz {R R2 : Env} {L : Loc} {bx : List (List C)} (he : Ext R R2) (hbx : BoxesOk R L bx) (hw : R2.w = R.w) (hM : ∀ b ∈ L.β, ∀ o, ¬ R2.M b o) : ∀ (cs : List C) (vs : List Value), RepL R L cs vs → RepL R2 L (C.fzL bx cs) vs
  | [], _, h => by unfold C.fzL; rw [repL_nil] at h ⊢; exact h
  | c :: r, _, h => by
    unfold C.fzL; rw [repL_cons] at h ⊢
    obtain ⟨v, us, e, h1, h2⟩ := h
    exact ⟨v, us, e, Rep.fz he hbx hw hM c v h1, RepL.fz he hbx hw hM r us h2⟩
end
theorem Fun.of_awp {f : FuncId} {fn : Func} {code : Code} {args : List C} {r : C} {n : Nat} (b : Nat → List Bool) (hm : P.follows .mixedOrders = true) (hf : P.funcs[f]? = some fn) (hb : fn.body = some code) (hnm : (fn.name == "runtime.NumGoroutine") = false) (hN : args.length ≤ fn.ntmps) (hok : codeOk fn.ntmps b code = true)
    (h : awp P G ⟨0, none, b⟩ code (retK P fn.results.toList fun c σ => ∃ src : Src, srcOk src = true ∧ src.length = n ∧ CLe src 0 (c.fz σ.bx) r) ⟨tmOf 0 args, [], 0, 0⟩) : Fun P G f args r n := by
  refine ⟨by unfold entersB; rw [hf]; simp [hnm, hb], fun R vs hg hargs => ?_⟩
  let E : Ctx := ⟨R.w, R.M, [], fun _ => False, fn.ntmps, [], fun _ => False, fun _ => False, fun _ h => h, fun _ _ => True, fun _ _ _ _ _ => trivial⟩
  let R0 : Env := ⟨R.w, R.M, fun _ => False⟩
  have hx : Ext R R0 := ⟨fun _ _ _ h1 h2 => ⟨h1, h2⟩⟩
  have hargs0 : RepL R0 noLoc args vs := RepL.ext hx (LocLe.refl _) _ _ hargs
  obtain ⟨i1, i2⟩ := init_tmps hN hargs0
  have hinv : InvV G E ⟨tmOf 0 args, [], 0, 0⟩ { tmps := vs.toArray ++ Array.replicate (fn.ntmps - vs.toArray.size) undef, defers := [] } R0 noLoc :=
    ⟨⟨⟨hg.ext hx, ⟨rfl, List.nodup_nil, fun i b cs hi => (by simp at hi)⟩, ⟨fun id e k v ht => (by cases ht), fun id id' e k v e' k' v' b ht => (by cases ht)⟩, fun g hg => .inl hg⟩, rfl, rfl, rfl, Nat.le_refl _, fun _ _ _ _ => ⟨rfl, fun _ => Iff.rfl⟩, ⟨fun _ _ _ h1 h2 => ⟨h1, h2⟩⟩, ⟨[], rfl⟩, fun b hb => (by cases hb), fun _ h => h.elim, fun _ _ => Iff.rfl, fun b hb => (by cases hb), fun id e k v b ht => (by cases ht), fun _ _ => rfl, trivial⟩, i1, ⟨[], rfl, List.nodup_nil, fun d hd => (by cases hd)⟩, i2⟩
  refine calls_of_awp (E := E) (R := R0) hm hf hb hok rfl rfl (Nat.zero_le _) (fun y hy => by cases hy) h hinv ?_
  rintro σ' a' R' L' v c ⟨src, h3, h4, h5⟩ hI h2
  have hgd := hI.good
  have hblk : ∀ b, b < R.w.heap.size → R'.w.heap[b]? = R.w.heap[b]? ∧ ∀ o, (R'.M b o ↔ R.M b o) := fun b hb => hgd.blk b hb (fun h => h) fun hF => (hgd.fz b hb).1 hF
  have hx' : Ext R' ⟨R'.w, fun b o => R'.M b o ∧ b ∉ L'.β, R.F⟩ := ⟨fun _ _ _ h1 h2 => ⟨h1, fun h => h2 h.1⟩⟩
  have how := srcT_own (β' := []) h3 (fun b hb => (by cases hb)) hgd.fit.owns
  have hnew : ∀ b ∈ L'.β, R.w.heap.size ≤ b := fun b hb => (hgd.tub b hb).elim id fun g => g.elim
  have hfz : Rep ⟨R'.w, fun b o => R'.M b o ∧ b ∉ L'.β, R.F⟩ L' (c.fz σ'.bx) v := Rep.fz hx' hgd.fit.boxes rfl (fun b hb o h => h.2 hb) _ _ h2
  refine ⟨v, ⟨R'.w, fun b o => R'.M b o ∧ b ∉ L'.β, R.F⟩, lessLoc src 0 L', rfl, rfl, ⟨⟨hgd.os, hgd.tape, hgd.output, hgd.size, fun b hb => (hblk b hb).1⟩, rfl, by simp, fun b o hb => ?_, fun id hi => ?_, fun id e k v hi hj ht => ?_, fun id id' e k v e' k' v' b hi hi2 hj hj2 h6 h7 h8 h9 => ?_⟩, Rep.less _ _ _ h5 hfz⟩
  · refine ⟨fun h => ((hblk b hb).2 o).1 h.1, fun h => ⟨((hblk b hb).2 o).2 h, fun hx => ?_⟩⟩
    have := hnew b hx; omega
  · show srcT src L'.T id = none
    unfold srcT
    rw [List.getElem?_eq_none (by omega)]
  · have hob := hgd.fit.owns
    · refine (how.own id e k v ht).move fun g hv q2 hlt q7 => ?_
      have hnb : g ∉ L'.β := by
        obtain ⟨i, _, hi2⟩ := srcT_block (R := R) ht hv
        exact ((hob.own i e k v hi2).block hv).2.2
      refine ⟨?_, rfl, q7, fun o ho => ⟨ho, hnb⟩⟩
      rcases q2 with q2 | q2
      · exact q2
      · exact q2.elim
  · exact how.apart id id' e k v e' k' v' b h6 h7 h8 h9
theorem FunX.of_awpK {f : FuncId} {fn : Func} {code : Code} {args : List C} {bx : List (List C)} {q : Nat} {post : C → List (List C) → Nat → Prop} {K0 : C → St → Prop} (b : Nat → List Bool) (hm : P.follows .mixedOrders = true) (hf : P.funcs[f]? = some fn) (hb : fn.body = some code) (hnm : (fn.name == "runtime.NumGoroutine") = false) (hN : args.length ≤ fn.ntmps) (hok : codeOk fn.ntmps b code = true) 
    (h : awp P G ⟨bx.length, none, b⟩ code (retK P fn.results.toList K0) ⟨tmOf 0 args, bx, q, 0⟩) (hK0 : ∀ c σ, K0 c σ → ∃ r bx' n, (post r bx' n ∧ bx.length ≤ bx'.length) ∧ ∃ src : Src, srcOk src = true ∧ src.length = n ∧ WeakBx src bx'.length σ.bx bx' ∧ CLe src bx'.length c r) : FunX P G f args bx q post := by
  refine ⟨by unfold entersB; rw [hf]; simp [hnm, hb], fun R L vs hg hbx how hfree hflt hFT hargs => ?_⟩
  let E : Ctx := ⟨R.w, R.M, L.β, Turf L, fn.ntmps, [], fun _ => False, fun b => b ∈ L.β, fun _ h => .inl h, fun _ _ => True, fun _ _ _ _ _ => trivial⟩
  let R0 : Env := ⟨R.w, R.M, fun _ => False⟩
  have hx : Ext R R0 := ⟨fun _ _ _ h1 h2 => ⟨h1, h2⟩⟩
  have hargs0 : RepL R0 L args vs := RepL.ext hx (LocLe.refl _) _ _ hargs
  obtain ⟨i1, i2⟩ := init_tmps hN hargs0
  have hinv : InvV G E ⟨tmOf 0 args, bx, q, 0⟩ { tmps := vs.toArray ++ Array.replicate (fn.ntmps - vs.toArray.size) undef, defers := [] } R0 L := by
    refine ⟨⟨⟨hg.ext hx, ⟨hbx.len, hbx.nodup, fun i b cs hi hc => ?_⟩, ⟨fun id e k v ht => ?_, how.apart⟩, fun g hg => .inl hg⟩, rfl, rfl, rfl, Nat.le_refl _, fun _ _ _ _ => ⟨rfl, fun _ => Iff.rfl⟩, ⟨fun _ _ _ h1 h2 => ⟨h1, h2⟩⟩, ⟨[], by simp [E]⟩, fun b hb => .inr hb, fun _ h => h.elim, fun _ _ => Iff.rfl, fun b hb h => h, fun id e k v b ht hv h => h, hfree, trivial⟩, i1, ⟨[], rfl, List.nodup_nil, fun d hd => (by cases hd)⟩, i2⟩
    · obtain ⟨vs, ty, e1, e2, e3, e4⟩ := hbx.box i b cs hi hc
      exact ⟨vs, ty, e1, RepL.ext hx (LocLe.refl _) _ _ e2, e3, e4⟩
    · exact (how.own id e k v ht).move fun g hv q2 _ q7 => ⟨.inr (.inr ⟨id, e, k, v, ht, hv⟩), rfl, q7, fun _ h => h⟩
  refine calls_of_awp (E := E) (R := R0) hm hf hb hok rfl rfl (by show L.β.length ≤ bx.length; rw [hbx.len]; exact Nat.le_refl _) (fun y hy => by cases hy) h hinv ?_
  rintro σ' a' R' L' v c h0 hI h2
  obtain ⟨r, bx', n, ⟨hpost, hlen⟩, src, h3, h4, h5, h6⟩ := hK0 _ _ h0
  have hgd := hI.good
  have hwk : Weak bx.length ⟨[], σ'.bx, σ'.nx, σ'.lg⟩ ⟨[], bx', n, σ'.lg⟩ := ⟨src, h3, h4, hlen, rfl, trivial, h5⟩
  have hx' : Ext R' ⟨R'.w, R'.M, R.F⟩ := ⟨fun _ _ _ h1 h2 => ⟨h1, h2⟩⟩
  have hblen : σ'.bx.length = L'.β.length := hgd.fit.boxes.len.symm
  have hle : bx'.length ≤ σ'.bx.length := by
    rcases Nat.lt_or_ge σ'.bx.length bx'.length with hx | hx
    · obtain ⟨cs, hc, _⟩ := weakBx_get h5 σ'.bx.length (bx'[σ'.bx.length]) (List.getElem?_eq_getElem hx)
      simp at hc
    · exact hx
  obtain ⟨more, hm1⟩ := hgd.box
  have hm1 : L'.β = L.β ++ more := hm1
  have hbl := hbx.len
  have hown := srcT_own (β' := L'.β.take bx'.length) h3 (fun b hb => List.mem_of_mem_take hb) hgd.fit.owns
  have hblk : ∀ b, b < R.w.heap.size → ¬ Turf L b → R'.w.heap[b]? = R.w.heap[b]? ∧ ∀ o, (R'.M b o ↔ R.M b o) := fun b hb hT => hgd.blk b hb hT fun hF => (hgd.fz b hb).1 hF
  have hcells : ∀ b, Turf L b → (∃ cs t f, R.w.heap[b]? = some (.cells cs t f)) ∨ ∃ es cl, R.w.heap[b]? = some (.map es cl) := fun b hT => by
    rcases hT with hT | ⟨id, e, k, v, ht, hv⟩
    · obtain ⟨i, hi, rfl⟩ := List.getElem_of_mem hT
      obtain ⟨vs, ty, g, _⟩ := hbx.box i L.β[i] (bx[i]'(by omega)) (List.getElem?_eq_getElem hi) (List.getElem?_eq_getElem (by omega))
      exact .inl ⟨_, _, _, g⟩
    · exact (how.own id e k v ht).held hv
  refine ⟨r, bx', n, ⟨hpost, hlen⟩, v, ⟨R'.w, R'.M, R.F⟩, lessLoc src bx'.length L', rfl, rfl, ⟨hgd.os, hgd.tape, hgd.output, hgd.size, rfl, ⟨hgd.ext.cell⟩, fun b hb => ?_⟩, ⟨by simp; omega, hgd.fit.boxes.nodup.sublist (List.take_sublist _ _), fun i b cs' hi hc => ?_⟩, ⟨fun id e k v ht => ?_, hown.apart⟩, ⟨more.take (bx'.length - L.β.length), ?_, fun b hb => ?_⟩, fun id hi => ?_, Rep.ext hx' (LocLe.refl _) _ _ (Rep.less _ _ _ h6 h2)⟩
  · by_cases hT : Turf L b
    · exact .inr ⟨.inr hT, hFT b hT, hcells b hT⟩
    · exact .inl (hblk b hb hT)
  · obtain ⟨cs, hc1, hc2⟩ := weakBx_get h5 i cs' hc
    have hi' : L'.β[i]? = some b := by
      have hi : (L'.β.take bx'.length)[i]? = some b := hi
      rw [List.getElem?_take] at hi
      split at hi
      · exact hi
      · cases hi
    obtain ⟨vs, ty, e1, e2, e3, e4⟩ := hgd.fit.boxes.box i b cs hi' hc1
    exact ⟨vs, ty, e1, RepL.ext hx' (LocLe.refl _) _ _ (RepL.less _ _ _ hc2 e2), e3, e4⟩
  · exact (hown.own id e k v ht).move fun g _ q2 _ q7 => ⟨q2, rfl, q7, fun _ h => h⟩
  · show L'.β.take bx'.length = _
    rw [hm1, List.take_append, List.take_of_length_le (by omega)]
  · have hb' : b ∈ more := List.mem_of_mem_take hb
    have hbm : b ∈ L'.β := by rw [hm1]; exact List.mem_append_right _ hb'
    rcases hgd.tub b hbm with g | g
    · exact g
    · have hn := hgd.fit.boxes.nodup
      rw [hm1, List.nodup_append] at hn
      exact absurd rfl (hn.2.2 b g b hb')
  · show srcT src L'.T id = none
    unfold srcT
    rw [List.getElem?_eq_none (by omega)]
theorem FunX.of_awp {f : FuncId} {fn : Func} {code : Code} {args : List C} {bx : List (List C)} {q : Nat} {post : C → List (List C) → Nat → Prop} (b : Nat → List Bool) (hm : P.follows .mixedOrders = true) (hf : P.funcs[f]? = some fn) (hb : fn.body = some code) (hnm : (fn.name == "runtime.NumGoroutine") = false) (hN : args.length ≤ fn.ntmps) (hok : codeOk fn.ntmps b code = true)
    (h : awp P G ⟨bx.length, none, b⟩ code (retK P fn.results.toList fun c σ => ∃ r bx' n, (post r bx' n ∧ bx.length ≤ bx'.length) ∧ ∃ src : Src, srcOk src = true ∧ src.length = n ∧ WeakBx src bx'.length σ.bx bx' ∧ CLe src bx'.length c r) ⟨tmOf 0 args, bx, q, 0⟩) : FunX P G f args bx q post :=
  FunX.of_awpK b hm hf hb hnm hN hok h fun _ _ h => h
theorem FunB.of_awp {f : FuncId} {fn : Func} {code : Code} {args : List C} {bx bx' : List (List C)} {r : C} {q n : Nat} (b : Nat → List Bool) (hm : P.follows .mixedOrders = true) (hf : P.funcs[f]? = some fn) (hb : fn.body = some code) (hnm : (fn.name == "runtime.NumGoroutine") = false) (hN : args.length ≤ fn.ntmps) (hok : codeOk fn.ntmps b code = true) (hlen : bx.length ≤ bx'.length)
    (h : awp P G ⟨bx.length, none, b⟩ code (retK P fn.results.toList fun c σ => ∃ src : Src, srcOk src = true ∧ src.length = n ∧ WeakBx src bx'.length σ.bx bx' ∧ CLe src bx'.length c r) ⟨tmOf 0 args, bx, q, 0⟩) : FunB P G f args bx q r bx' n :=
  FunX.of_awpK b hm hf hb hnm hN hok h fun c σ h => ⟨r, bx', n, ⟨⟨rfl, rfl, rfl⟩, hlen⟩, h⟩
theorem Iter.of_awp {f : FuncId} {fn : Func} {code : Code} {first cap : List C} {bx items : List (List C)} (b : Nat → List Bool) (hm : P.follows .mixedOrders = true) (hf : P.funcs[f]? = some fn) (hb : fn.body = some code) (hnm : (fn.name == "runtime.NumGoroutine") = false) (hN : first.length + 1 + cap.length ≤ fn.ntmps) (hok : codeOk fn.ntmps b code = true)
    (h : ∀ (l : Nat) (st : Nat → Bool), awp P G ⟨0, some ⟨l, items, st⟩, b⟩ code (retK P fn.results.toList fun c σ => EndAt items st σ.lg) ⟨tmOf 0 (first ++ [.sc (.func (.yield l) #[] #[])] ++ cap), bx, 0, 0⟩) : Iter P G f first cap bx items := by
  refine ⟨by unfold entersB; rw [hf]; simp [hnm, hb], fun l st J R L us vs hg hbx hT hflt hfb hstab hYk hJ hus hvs => ?_⟩
  let E : Ctx := ⟨R.w, R.M, [], fun b => b ∈ L.β, fn.ntmps, [], R.F, fun b => b ∈ L.β, fun _ h => h, J, hstab⟩
  have hargs : RepL R L (first ++ [.sc (.func (.yield l) #[] #[])] ++ cap) (us ++ [Value.func (.yield l) #[] #[]] ++ vs) := repL_append (repL_append hus (repL_cons.2 ⟨_, _, rfl, rep_sc.2 rfl, repL_nil.2 rfl⟩)) hvs
  obtain ⟨i1, i2⟩ := init_tmps (n := fn.ntmps) (by simp; omega) hargs
  have hinv : InvV G E ⟨tmOf 0 (first ++ [.sc (.func (.yield l) #[] #[])] ++ cap), bx, 0, 0⟩ { tmps := (us ++ [Value.func (.yield l) #[] #[]] ++ vs).toArray ++ Array.replicate (fn.ntmps - (us ++ [Value.func (.yield l) #[] #[]] ++ vs).toArray.size) undef, defers := [] } R L :=
    ⟨⟨⟨hg, hbx, ⟨fun id e k v ht => (by rw [hT] at ht; cases ht), fun id id' e k v e' k' v' b ht => (by rw [hT] at ht; cases ht)⟩, fun g hg => .inl hg⟩, rfl, rfl, rfl, Nat.le_refl _, fun _ _ _ _ => ⟨rfl, fun _ => Iff.rfl⟩, ⟨fun _ _ _ h1 h2 => ⟨h1, h2⟩⟩, ⟨L.β, rfl⟩, fun b hb => .inr hb, hflt, fun _ _ => Iff.rfl, hfb, fun id e k v b ht => (by rw [hT] at ht; cases ht), fun id _ => hT id, hJ⟩, i1, ⟨[], rfl, List.nodup_nil, fun d hd => (by cases hd)⟩, i2⟩
  refine calls_of_awp (E := E) hm hf hb hok rfl rfl (Nat.zero_le _) (fun y hy => by cases hy; exact hYk) (h l st) hinv ?_
  rintro σ' a' R' L' v c hend hI h2
  exact ⟨v, R', σ'.lg, rfl, rfl, hI.good.log, hend⟩
end
end Go.Proofs.YtdmfififkcnecaaDoor.Vcg
end
section
set_option linter.unusedVariables false
set_option linter.unusedSimpArgs false
namespace Go.Proofs.YtdmfififkcnecaaDoor.Vcg
open Go.RowKit
/-- boxes that become owners at the function's end: the box, its elements' type, their cells, the elements, the room -/
abbrev Fr := List (Nat × TypeId × Nat × List (List C) × Nat)
def frGet (nx : Nat) : Fr → Nat → Nat → Nat → Nat → Nat → C
  | [], _, _, _, _, _ => .any
  | (i', e, k', rows, cap) :: r, i, off, k, n, c => if i = i' ∧ off = 0 ∧ k = k' ∧ n = rows.length ∧ c = cap then .own nx e k' rows else frGet (nx + 1) r i off k n c
theorem frGet_out : ∀ (fr : Fr) (nx i off k n c : Nat), frGet nx fr i off k n c = .any ∨ ∃ j e rows, fr[j]? = some (i, e, k, rows, c) ∧ off = 0 ∧ n = rows.length ∧ frGet nx fr i off k n c = .own (nx + j) e k rows
  | [], nx, i, off, k, n, c => .inl rfl
  | (i', e, k', rows, cap) :: r, nx, i, off, k, n, c => by
    unfold frGet
    split
    · rename_i h
      obtain ⟨rfl, rfl, rfl, rfl, rfl⟩ := h
      exact .inr ⟨0, e, rows, rfl, rfl, rfl, rfl⟩
    · rcases frGet_out r (nx + 1) i off k n c with h | ⟨j, e', rows', h1, h2, h3, h4⟩
      · exact .inl h
      · exact .inr ⟨j + 1, e', rows', by simpa using h1, h2, h3, by rw [h4, show nx + 1 + j = nx + (j + 1) by omega]⟩
def frOk (fr : Fr) (bx : List (List C)) : Prop := (fr.map (·.1)).Nodup ∧ ∀ x ∈ fr, ∃ cs, bx[x.1]? = some cs ∧ 0 < x.2.2.2.2 ∧ x.2.2.2.1.length ≤ x.2.2.2.2 ∧ x.2.2.2.2 ≤ maxLen ∧ cs.length = x.2.2.2.2 * x.2.2.1 ∧ (∀ r ∈ x.2.2.2.1, r.length = x.2.2.1) ∧ (C.frzL cs).take (x.2.2.2.1.length * x.2.2.1) = x.2.2.2.1.flatten
mutual
/-- a result, at the function's end, some boxes being turned into owners -/
def C.fy (nx : Nat) (fr : Fr) (bx : List (List C)) : C → C
  | .ptr i off => if i ∈ fr.map (·.1) then .any else C.fz bx (.ptr i off)
  | .agg cs => .agg (C.fyL nx fr bx cs)
  | .tup cs => .tup (C.fyL nx fr bx cs)
  | .clo fn first cap => .clo fn (C.fyL nx fr bx first) (C.fyL nx fr bx cap)
  | .bs i off k n c => frGet nx fr i off k n c
  | .sc v => .sc v
  | .str l => .str l
  | .sl k rows => .sl k rows
  | .tight k rows => .tight k rows
  | .own id e k rows => .own id e k rows
  | .mo id t ks vs => .mo id t ks vs
  | .row cs => .row cs
  | .any => .any
def C.fyL (nx : Nat) (fr : Fr) (bx : List (List C)) : List C → List C
  | [] => []
  | c :: r => c.fy nx fr bx :: C.fyL nx fr bx r
end
/-- the owners, and those that were boxes -/
def frT (nx : Nat) (fr : Fr) (β : List Nat) (T : Own) : Own := fun id => if id < nx then T id else match fr[id - nx]? with
  | some (i, e, k, rows, cap) => (β[i]?).map fun b => (e, k, .slice (some ⟨b, 0, none⟩) rows.length cap)
  | none => none
/-- what may be turned still of boxes that become owners -/
def frM (fr : Fr) (β : List Nat) (b o : Nat) : Prop := ∃ x ∈ fr, β[x.1]? = some b ∧ x.2.2.2.1.length * x.2.2.1 ≤ o
section
variable {P : Program} {G : Globs} {E : Ctx} {σ : St}
theorem frT_out {nx : Nat} {fr : Fr} {β : List Nat} {T : Own} {id e k : Nat} {v : Value} (h : frT nx fr β T id = some (e, k, v)) :
    (id < nx ∧ T id = some (e, k, v)) ∨ (nx ≤ id ∧ ∃ i rows cap b, fr[id - nx]? = some (i, e, k, rows, cap) ∧ β[i]? = some b ∧ v = .slice (some ⟨b, 0, none⟩) rows.length cap) := by
  unfold frT at h
  split at h
  · exact .inl ⟨by assumption, h⟩
  · split at h
    · rename_i i e' k' rows cap hq
      cases hb : β[i]? with
      | none => rw [hb] at h; cases h
      | some b =>
        rw [hb] at h
        cases h
        exact .inr ⟨by omega, i, rows, cap, b, hq, hb, rfl⟩
    · cases h
theorem frT_own {R' : Env} {L' : Loc} {fr : Fr} (hgd : Good G E σ R' L') (hfr : frOk fr σ.bx) {F : Nat → Prop} :
    OwnsOk E.tu ⟨R'.w, fun b o => R'.M b o ∧ (b ∉ L'.β ∨ frM fr L'.β b o), F⟩ ⟨[], frT σ.nx fr L'.β L'.T⟩ := by
  have hold : ∀ id e k v b, L'.T id = some (e, k, v) → v.ownB = some b → b ∉ L'.β := fun id e k v b ht hv => ((hgd.fit.owns.own id e k v ht).block hv).2.2
  refine ⟨fun id e k v ht => ?_, fun id id' e k v e' k' v' b ht ht' hv hv' => ?_⟩
  · rcases frT_out ht with ⟨_, ht⟩ | ⟨_, i, rows, cap, b, hf, hb, rfl⟩
    · exact (hgd.fit.owns.own id e k v ht).move fun g _ q2 _ q7 => ⟨q2, rfl, by simp, fun o ho => ⟨ho, .inl q7⟩⟩
    · have hmem := List.mem_of_getElem? hf
      obtain ⟨cs, c1, c2, c3, c4, c5, c6, c7⟩ := hfr.2 _ hmem
      obtain ⟨vs, ty, e1, e2, e3, e4⟩ := hgd.fit.boxes.box i b cs hb c1
      have hl := repL_length e2
      exact .inr (.inl ⟨b, rows.length, cap, vs, ty, rfl, hgd.tubx b (List.mem_of_getElem? hb), e1, c3, c4, by simpa [c5] using hl, by simp, fun o ho => ⟨e4 o, .inr ⟨_, hmem, hb, ho⟩⟩⟩)
  · rcases frT_out ht with ⟨_, ht⟩ | ⟨g1, i, rows, cap, b1, hf, hb, rfl⟩ <;> rcases frT_out ht' with ⟨_, ht'⟩ | ⟨g1', i', rows', cap', b1', hf', hb', rfl⟩
    · exact hgd.fit.owns.apart id id' e k v e' k' v' b ht ht' hv hv'
    · cases hv'
      exact absurd (List.mem_of_getElem? hb') (hold id e k v _ ht hv)
    · cases hv
      exact absurd (List.mem_of_getElem? hb) (hold id' e' k' v' _ ht' hv')
    · cases hv; cases hv'
      have hii : i = i' := (List.getElem?_inj (List.getElem?_eq_some_iff.1 hb).1 hgd.fit.boxes.nodup).1 (hb.trans hb'.symm)
      subst hii
      have hn := hfr.1
      have h1 : (fr.map (·.1))[id - σ.nx]? = some i := by rw [List.getElem?_map, hf]; rfl
      have h2 : (fr.map (·.1))[id' - σ.nx]? = some i := by rw [List.getElem?_map, hf']; rfl
      have := (List.getElem?_inj (List.getElem?_eq_some_iff.1 h1).1 hn).1 (h1.trans h2.symm)
      omega
theorem frz_cellsN {R R2 : Env} {L : Loc} {b : Nat} {vs : Array Value} {ty : TypeId} (he : Ext R R2) (hh : R2.w.heap[b]? = some (.cells vs ty (0, 0))) {N : Nat} (hM : ∀ o, o < N → ¬ R2.M b o) : ∀ (cs : List C) (us : List Value) (off : Nat), off + cs.length ≤ N → RepL R L cs us → (∃ z, vs.toList.drop off = us ++ z) → (∀ v ∈ us, v.oneCell' = true) → RepCells R2 (C.frzL cs) b off
  | [], _, _, _, _, _, _ => by unfold C.frzL; exact repCells_nil
  | c :: r, us, off, hN, hr, hd, h1 => by
    obtain ⟨v, us', rfl, g1, g2⟩ := repL_cons.1 hr
    obtain ⟨z, hd⟩ := hd
    unfold C.frzL
    simp only [List.length_cons] at hN
    have hv : vs[off]? = some v := by
      have := List.getElem?_drop (xs := vs.toList) (i := off) (j := 0)
      rw [hd] at this
      simpa using this.symm
    refine repCells_cons.2 ⟨⟨v, ?_, hM off (by omega), Rep.ext he (LocLe.refl _) _ _ (g1.frz noLoc), h1 v List.mem_cons_self⟩, frz_cellsN he hh hM r us' (off + 1) (by omega) g2 ⟨z, ?_⟩ fun x hx => h1 x (List.mem_cons_of_mem _ hx)⟩
    · rw [cell_of_row R2.w b off vs ty (0, 0) hh]; exact hv
    · rw [← List.drop_drop, hd]; rfl
theorem frzL_take : ∀ (n : Nat) (cs : List C), C.frzL (cs.take n) = (C.frzL cs).take n
  | 0, cs => by simp [C.frzL]
  | n + 1, [] => by simp [C.frzL]
  | n + 1, c :: r => by
    have h : C.frzL (c :: r) = c.frz :: C.frzL r := by rw [C.frzL]
    rw [List.take_succ_cons, h, List.take_succ_cons, ← frzL_take n r]
    rw [C.frzL]
theorem rows_of_cells {R : Env} {b k : Nat} : ∀ (rows : List (List C)) (off : Nat), (∀ r ∈ rows, r.length = k) → RepCells R rows.flatten b off → RepRows R rows k b off
  | [], _, _, _ => by unfold RepRows; trivial
  | row :: r, off, hk, h => by
    have hrow := hk row List.mem_cons_self
    rw [List.flatten_cons] at h
    unfold RepRows
    refine ⟨hrow, repCells_of_get fun j c hc => ?_, rows_of_cells r (off + k) (fun x hx => hk x (List.mem_cons_of_mem _ hx)) (repCells_of_get fun j c hc => ?_)⟩
    · exact repCells_get h j c (by rw [List.getElem?_append_left (List.getElem?_eq_some_iff.1 hc).1]; exact hc)
    · have := repCells_get h (k + j) c (by rw [List.getElem?_append_right (by omega), hrow, Nat.add_sub_cancel_left]; exact hc)
      rwa [← Nat.add_assoc] at this
mutual
theorem Rep.fy {R R2 : Env} {L : Loc} {bx : List (List C)} {fr : Fr} {nx : Nat} {F : Nat → Prop} (he : Ext R R2) (hbx : BoxesOk R L bx) (h2 : R2 = ⟨R.w, fun b o => R.M b o ∧ (b ∉ L.β ∨ frM fr L.β b o), F⟩) (hfr : frOk fr bx) (hnx : ∀ id, nx ≤ id → L.T id = none) : ∀ (c : C) (v : Value), Rep R L c v → Rep R2 ⟨L.β, frT nx fr L.β L.T⟩ (c.fy nx fr bx) v
  | .ptr i off, v, h => by
    unfold C.fy
    split
    · exact le_any
    rename_i hni
    unfold C.fz
    obtain ⟨b, hb, e⟩ := rep_ptr.1 h
    split
    · rename_i cs hcs
      obtain ⟨vs, ty, e1, e2, e3, e4⟩ := hbx.box i b cs hb hcs
      refine rep_row.2 ⟨b, off, e, ?_⟩
      rw [← frzL_drop]
      refine frz_cells (L := L) he (by rw [h2]; exact e1) (fun o => ?_) _ (vs.toList.drop off) off (repL_drop off e2) rfl fun x hx => e3 x (List.mem_of_mem_drop hx)
      rw [h2]
      rintro ⟨_, h3 | ⟨x, hx, hxb, _⟩⟩
      · exact h3 (List.mem_of_getElem? hb)
      · have := (List.getElem?_inj (List.getElem?_eq_some_iff.1 hb).1 hbx.nodup).1 (hb.trans hxb.symm)
        subst this
        exact hni (List.mem_map.2 ⟨x, hx, rfl⟩)
    · exact le_any
  | .agg cs, _, h => by
    unfold C.fy; unfold Rep at h ⊢
    obtain ⟨vs, e, hl⟩ := h
    exact ⟨vs, e, RepL.fy he hbx h2 hfr hnx cs _ hl⟩
  | .tup cs, _, h => by
    unfold C.fy; unfold Rep at h ⊢
    obtain ⟨vs, e, hl⟩ := h
    exact ⟨vs, e, RepL.fy he hbx h2 hfr hnx cs _ hl⟩
  | .clo fn first cap, _, h => by
    unfold C.fy; unfold Rep at h ⊢
    obtain ⟨fs, cs, e, h3, h4⟩ := h
    exact ⟨fs, cs, e, RepL.fy he hbx h2 hfr hnx first _ h3, RepL.fy he hbx h2 hfr hnx cap _ h4⟩
  | .sc v, _, h => by unfold C.fy; unfold Rep at h ⊢; exact h
  | .str l, _, h => by unfold C.fy; unfold Rep at h ⊢; exact h
  | .sl k rows, v, h => by
    unfold C.fy
    exact Rep.ext he (LocLe.none _) (.sl k rows) v (T := noLoc) (by unfold Rep at h ⊢; exact h)
  | .tight k rows, v, h => by
    unfold C.fy
    exact Rep.ext he (LocLe.none _) (.tight k rows) v (T := noLoc) (by unfold Rep at h ⊢; exact h)
  | .mo id t ks vs, v, h => by
    unfold C.fy
    unfold Rep at h ⊢
    obtain ⟨b, vvs, e, ht, hl⟩ := h
    refine ⟨b, vvs, e, ?_, RepL.ext he (LocLe.refl _) _ _ hl⟩
    have hlt : id < nx := by
      rcases Nat.lt_or_ge id nx with q | q
      · exact q
      · have := hnx id q; rw [ht] at this; cases this
    show frT nx fr L.β L.T id = _
    unfold frT
    rw [if_pos hlt]; exact ht
  | .own id e k rows, v, h => by
    unfold C.fy
    have h3 := Rep.ext he (LocLe.none ⟨L.β, frT nx fr L.β L.T⟩) (.sl k rows) v (T := noLoc) (by unfold Rep at h ⊢; exact h.2)
    unfold Rep at h h3 ⊢
    refine ⟨?_, h3⟩
    have hlt : id < nx := by
      rcases Nat.lt_or_ge id nx with q | q
      · exact q
      · have := hnx id q; rw [h.1] at this; cases this
    show frT nx fr L.β L.T id = _
    unfold frT
    rw [if_pos hlt]; exact h.1
  | .row cs, v, h => by
    unfold C.fy
    exact Rep.ext he (LocLe.none _) (.row cs) v (T := noLoc) (by unfold Rep at h ⊢; exact h)
  | .bs i off k n c, v, h => by
    unfold C.fy
    obtain ⟨b, hb, ad, e, had⟩ := rep_bs.1 h
    rcases frGet_out fr nx i off k n c with hq | ⟨j, e', rows, hj, rfl, rfl, hq⟩
    · rw [hq]; exact le_any
    · rw [hq]
      have hmem := List.mem_of_getElem? hj
      obtain ⟨cs, c1, c2, c3, c4, c5, c6, c7⟩ := hfr.2 _ hmem
      simp only at c1 c2 c3 c4 c5 c6 c7
      obtain ⟨vs, ty, e1, e2, e3, e4⟩ := hbx.box i b cs hb c1
      obtain rfl := had (by omega)
      unfold Rep
      refine ⟨?_, some ⟨b, 0, none⟩, c, e, c3, c4, .inr ⟨b, 0, rfl, rows_of_cells rows 0 c6 ?_⟩⟩
      · show frT nx fr L.β L.T (nx + j) = _
        unfold frT
        rw [if_neg (by omega), Nat.add_sub_cancel_left, hj]
        simp only [hb, Option.map_some, e]
      · rw [← c7, ← frzL_take]
        have hlen : (cs.take (rows.length * k)).length = rows.length * k := by
          rw [List.length_take]
          have : rows.length * k ≤ c * k := Nat.mul_le_mul_right _ c3
          omega
        refine frz_cellsN (L := L) (N := rows.length * k) he (by rw [h2]; exact e1) (fun o ho => ?_) _ (vs.toList.take (rows.length * k)) 0 (by omega) (repL_take _ e2) ⟨vs.toList.drop (rows.length * k), by simp⟩ fun x hx => e3 x (List.mem_of_mem_take hx)
        rw [h2]
        rintro ⟨_, h3 | ⟨x, hx, hxb, hxo⟩⟩
        · exact h3 (List.mem_of_getElem? hb)
        · have hii := (List.getElem?_inj (List.getElem?_eq_some_iff.1 hb).1 hbx.nodup).1 (hb.trans hxb.symm)
          obtain ⟨j2, hj2, hj2'⟩ := List.getElem_of_mem hx
          have g1 : (fr.map (·.1))[j]? = some i := by rw [List.getElem?_map, hj]; rfl
          have g2 : (fr.map (·.1))[j2]? = some i := by rw [List.getElem?_map, List.getElem?_eq_getElem hj2, hj2', hii]; rfl
          have := (List.getElem?_inj (List.getElem?_eq_some_iff.1 g1).1 hfr.1).1 (g1.trans g2.symm)
          subst this
          rw [List.getElem?_eq_getElem hj2, hj2'] at hj
          cases hj
          simp only at hxo
          omega
  | .any, _, h => by unfold C.fy; exact le_any
theorem RepL.fy {R R2 : Env} {L : Loc} {bx : List (List C)} {fr : Fr} {nx : Nat} {F : Nat → Prop} (he : Ext R R2) (hbx : BoxesOk R L bx) (h2 : R2 = ⟨R.w, fun b o => R.M b o ∧ (b ∉ L.β ∨ frM fr L.β b o), F⟩) (hfr : frOk fr bx) (hnx : ∀ id, nx ≤ id → L.T id = none) : ∀ (cs : List C) (vs : List Value), RepL R L cs vs → RepL R2 ⟨L.β, frT nx fr L.β L.T⟩ (C.fyL nx fr bx cs) vs
  | [], _, h => by unfold C.fyL; rw [repL_nil] at h ⊢; exact h
  | c :: r, _, h => by
    unfold C.fyL; rw [repL_cons] at h ⊢
    obtain ⟨v, us, e, h3, h4⟩ := h
    exact ⟨v, us, e, Rep.fy he hbx h2 hfr hnx c v h3, RepL.fy he hbx h2 hfr hnx r us h4⟩
end
theorem Fun.of_awpF {f : FuncId} {fn : Func} {code : Code} {args : List C} {r : C} {n : Nat} (b : Nat → List Bool) (hm : P.follows .mixedOrders = true) (hf : P.funcs[f]? = some fn) (hb : fn.body = some code) (hnm : (fn.name == "runtime.NumGoroutine") = false) (hN : args.length ≤ fn.ntmps) (hok : codeOk fn.ntmps b code = true)
    (h : awp P G ⟨0, none, b⟩ code (retK P fn.results.toList fun c σ => ∃ (fr : Fr) (src : Src), frOk fr σ.bx ∧ srcOk src = true ∧ src.length = n ∧ CLe src 0 (c.fy σ.nx fr σ.bx) r) ⟨tmOf 0 args, [], 0, 0⟩) : Fun P G f args r n := by
  refine ⟨by unfold entersB; rw [hf]; simp [hnm, hb], fun R vs hg hargs => ?_⟩
  let E : Ctx := ⟨R.w, R.M, [], fun _ => False, fn.ntmps, [], fun _ => False, fun _ => False, fun _ h => h, fun _ _ => True, fun _ _ _ _ _ => trivial⟩
  let R0 : Env := ⟨R.w, R.M, fun _ => False⟩
  have hx : Ext R R0 := ⟨fun _ _ _ h1 h2 => ⟨h1, h2⟩⟩
  have hargs0 : RepL R0 noLoc args vs := RepL.ext hx (LocLe.refl _) _ _ hargs
  obtain ⟨i1, i2⟩ := init_tmps hN hargs0
  have hinv : InvV G E ⟨tmOf 0 args, [], 0, 0⟩ { tmps := vs.toArray ++ Array.replicate (fn.ntmps - vs.toArray.size) undef, defers := [] } R0 noLoc :=
    ⟨⟨⟨hg.ext hx, ⟨rfl, List.nodup_nil, fun i b cs hi => (by simp at hi)⟩, ⟨fun id e k v ht => (by cases ht), fun id id' e k v e' k' v' b ht => (by cases ht)⟩, fun g hg => .inl hg⟩, rfl, rfl, rfl, Nat.le_refl _, fun _ _ _ _ => ⟨rfl, fun _ => Iff.rfl⟩, ⟨fun _ _ _ h1 h2 => ⟨h1, h2⟩⟩, ⟨[], rfl⟩, fun b hb => (by cases hb), fun _ h => h.elim, fun _ _ => Iff.rfl, fun b hb => (by cases hb), fun id e k v b ht => (by cases ht), fun _ _ => rfl, trivial⟩, i1, ⟨[], rfl, List.nodup_nil, fun d hd => (by cases hd)⟩, i2⟩
  refine calls_of_awp (E := E) (R := R0) hm hf hb hok rfl rfl (Nat.zero_le _) (fun y hy => by cases hy) h hinv ?_
  rintro σ' a' R' L' v c ⟨fr, src, hfr, h3, h4, h5⟩ hI h2
  have hgd := hI.good
  have hblk : ∀ b, b < R.w.heap.size → R'.w.heap[b]? = R.w.heap[b]? ∧ ∀ o, (R'.M b o ↔ R.M b o) := fun b hb => hgd.blk b hb (fun h => h) fun hF => (hgd.fz b hb).1 hF
  have hnew : ∀ b ∈ L'.β, R.w.heap.size ≤ b := fun b hb => (hgd.tub b hb).elim id fun g => g.elim
  let R2 : Env := ⟨R'.w, fun b o => R'.M b o ∧ (b ∉ L'.β ∨ frM fr L'.β b o), R.F⟩
  let T2 : Own := frT σ'.nx fr L'.β L'.T
  have hx2 : Ext R' R2 := ⟨fun _ _ _ h1 h2 => ⟨h1, fun h => h2 h.1⟩⟩
  have hown2 : OwnsOk E.tu R2 ⟨[], T2⟩ := frT_own hgd hfr
  have how := srcT_own (β' := []) h3 (fun b hb => (by cases hb)) hown2
  have hfz : Rep R2 ⟨L'.β, T2⟩ (c.fy σ'.nx fr σ'.bx) v := Rep.fy hx2 hgd.fit.boxes rfl hfr (fun id hid => hgd.free id hid) _ _ h2
  refine ⟨v, R2, lessLoc src 0 ⟨L'.β, T2⟩, rfl, rfl, ⟨⟨hgd.os, hgd.tape, hgd.output, hgd.size, fun b hb => (hblk b hb).1⟩, rfl, by simp, fun b o hb => ?_, fun id hi => ?_, fun id e k v hi hj ht => ?_, fun id id' e k v e' k' v' b hi hi2 hj hj2 h6 h7 h8 h9 => ?_⟩, Rep.less _ _ _ h5 hfz⟩
  · refine ⟨fun h => ((hblk b hb).2 o).1 h.1, fun h => ⟨((hblk b hb).2 o).2 h, .inl fun hx => ?_⟩⟩
    have := hnew b hx; omega
  · show srcT src T2 id = none
    unfold srcT
    rw [List.getElem?_eq_none (by omega)]
  · · refine (how.own id e k v ht).move fun g _ q2 _ q7 => ⟨?_, rfl, q7, fun _ h => h⟩
      rcases q2 with q2 | q2
      · exact q2
      · exact q2.elim
  · exact how.apart id id' e k v e' k' v' b h6 h7 h8 h9
end
end Go.Proofs.YtdmfififkcnecaaDoor.Vcg
end
section
namespace Go.Proofs.YtdmfififkcnecaaDoor.Vcg
open Go
theorem lay0 : lay Tryd.prog 0 = some { kind := LK.other, size := 1, bytes := 0, zero := some [Value.tuple { toList := [] }] } := by kernel_rfl
theorem lay1 : lay Tryd.prog 1 = some { kind := LK.other, size := 1, bytes := 8, zero := some [Value.nilFunc] } := by kernel_rfl
theorem lay2 : lay Tryd.prog 2 = some { kind := LK.int IntKind.i64, size := 1, bytes := 8, zero := some [Value.int IntKind.i64 (Int.ofNat 0)] } := by kernel_rfl
theorem lay3 : lay Tryd.prog 3 = some { kind := LK.int IntKind.i64, size := 1, bytes := 8, zero := some [Value.int IntKind.i64 (Int.ofNat 0)] } := by kernel_rfl
theorem lay4 : lay Tryd.prog 4 = some { kind := LK.bool, size := 1, bytes := 1, zero := some [Value.bool false] } := by kernel_rfl
theorem lay5 : lay Tryd.prog 5 = some { kind := LK.int IntKind.u8, size := 1, bytes := 1, zero := some [Value.int IntKind.u8 (Int.ofNat 0)] } := by kernel_rfl
theorem lay6 : lay Tryd.prog 6 = some { kind := LK.int IntKind.u8, size := 1, bytes := 1, zero := some [Value.int IntKind.u8 (Int.ofNat 0)] } := by kernel_rfl
theorem lay7 : lay Tryd.prog 7 = some { kind := LK.struct [(0, 1, false), (1, 1, false), (2, 1, false), (3, 1, false)], size := 4, bytes := 24, zero := some [Value.int IntKind.i64 (Int.ofNat 0), Value.int IntKind.i64 (Int.ofNat 0), Value.bool false, Value.int IntKind.u8 (Int.ofNat 0)] } := by kernel_rfl
theorem lay8 : lay Tryd.prog 8 = some { kind := LK.struct [(0, 1, false), (1, 1, false), (2, 1, false), (3, 1, false)], size := 4, bytes := 24, zero := some [Value.int IntKind.i64 (Int.ofNat 0), Value.int IntKind.i64 (Int.ofNat 0), Value.bool false, Value.int IntKind.u8 (Int.ofNat 0)] } := by kernel_rfl
theorem lay9 : lay Tryd.prog 9 = some { kind := LK.str, size := 1, bytes := 16, zero := some [Value.string ⟨#[]⟩] } := by kernel_rfl
theorem lay10 : lay Tryd.prog 10 = some { kind := LK.str, size := 1, bytes := 16, zero := some [Value.string ⟨#[]⟩] } := by kernel_rfl
theorem lay11 : lay Tryd.prog 11 = some { kind := LK.str, size := 1, bytes := 16, zero := some [Value.string ⟨#[]⟩] } := by kernel_rfl
theorem lay12 : lay Tryd.prog 12 = some { kind := LK.int IntKind.u64, size := 1, bytes := 8, zero := some [Value.int IntKind.u64 (Int.ofNat 0)] } := by kernel_rfl
theorem lay13 : lay Tryd.prog 13 = some { kind := LK.struct [(0, 1, false), (1, 1, false)], size := 2, bytes := 24, zero := some [Value.string ⟨#[]⟩, Value.int IntKind.u64 (Int.ofNat 0)] } := by kernel_rfl
theorem lay14 : lay Tryd.prog 14 = some { kind := LK.struct [(0, 1, false), (1, 1, false)], size := 2, bytes := 24, zero := some [Value.string ⟨#[]⟩, Value.int IntKind.u64 (Int.ofNat 0)] } := by kernel_rfl
theorem lay15 : lay Tryd.prog 15 = some { kind := LK.other, size := 1, bytes := 8, zero := some [Value.pointer none] } := by kernel_rfl
theorem lay16 : lay Tryd.prog 16 = some { kind := LK.other, size := 1, bytes := 8, zero := some [Value.pointer none] } := by kernel_rfl
theorem lay17 : lay Tryd.prog 17 = some { kind := LK.other, size := 1, bytes := 8, zero := some [Value.pointer none] } := by kernel_rfl
theorem lay18 : lay Tryd.prog 18 = some { kind := LK.struct [(0, 1, false)], size := 1, bytes := 8, zero := some [Value.pointer none] } := by kernel_rfl
theorem lay19 : lay Tryd.prog 19 = some { kind := LK.struct [(0, 1, false)], size := 1, bytes := 8, zero := some [Value.pointer none] } := by kernel_rfl
theorem lay20 : lay Tryd.prog 20 = some { kind := LK.other, size := 1, bytes := 16, zero := some [Value.nilIface] } := by kernel_rfl
theorem lay21 : lay Tryd.prog 21 = some { kind := LK.int IntKind.i32, size := 1, bytes := 4, zero := some [Value.int IntKind.i32 (Int.ofNat 0)] } := by kernel_rfl
theorem lay22 : lay Tryd.prog 22 = some { kind := LK.slice 33, size := 1, bytes := 24, zero := some [Value.slice none 0 0] } := by kernel_rfl
theorem lay23 : lay Tryd.prog 23 = some { kind := LK.struct [(0, 1, false), (1, 1, false), (2, 1, false), (3, 1, false)], size := 4, bytes := 48, zero := some [Value.int IntKind.i64 (Int.ofNat 0), Value.int IntKind.i64 (Int.ofNat 0), Value.int IntKind.i64 (Int.ofNat 0), Value.slice none 0 0] } := by kernel_rfl
theorem lay24 : lay Tryd.prog 24 = some { kind := LK.struct [(0, 1, false), (1, 1, false), (2, 1, false), (3, 1, false)], size := 4, bytes := 48, zero := some [Value.int IntKind.i64 (Int.ofNat 0), Value.int IntKind.i64 (Int.ofNat 0), Value.int IntKind.i64 (Int.ofNat 0), Value.slice none 0 0] } := by kernel_rfl
theorem lay25 : lay Tryd.prog 25 = some { kind := LK.other, size := 1, bytes := 8, zero := some [Value.nilFunc] } := by kernel_rfl
theorem lay26 : lay Tryd.prog 26 = some { kind := LK.other, size := 1, bytes := 8, zero := some [Value.nilFunc] } := by kernel_rfl
theorem lay27 : lay Tryd.prog 27 = some { kind := LK.other, size := 1, bytes := 8, zero := some [Value.nilFunc] } := by kernel_rfl
theorem lay28 : lay Tryd.prog 28 = some { kind := LK.slice 37, size := 1, bytes := 24, zero := some [Value.slice none 0 0] } := by kernel_rfl
theorem lay29 : lay Tryd.prog 29 = some { kind := LK.other, size := 1, bytes := 8, zero := some [Value.nilFunc] } := by kernel_rfl
theorem lay30 : lay Tryd.prog 30 = some { kind := LK.other, size := 1, bytes := 8, zero := some [Value.nilFunc] } := by kernel_rfl
theorem lay31 : lay Tryd.prog 31 = some { kind := LK.slice 52, size := 1, bytes := 24, zero := some [Value.slice none 0 0] } := by kernel_rfl
theorem lay32 : lay Tryd.prog 32 = some { kind := LK.struct [(0, 1, false), (1, 1, false), (2, 1, false), (3, 1, false), (4, 1, false), (5, 1, false)], size := 6, bytes := 72, zero := some [Value.int IntKind.i64 (Int.ofNat 0), Value.int IntKind.i64 (Int.ofNat 0), Value.int IntKind.i64 (Int.ofNat 0), Value.string ⟨#[]⟩, Value.int IntKind.i64 (Int.ofNat 0), Value.slice none 0 0] } := by kernel_rfl
theorem lay33 : lay Tryd.prog 33 = some { kind := LK.struct [(0, 1, false), (1, 1, false), (2, 1, false), (3, 1, false), (4, 1, false), (5, 1, false)], size := 6, bytes := 72, zero := some [Value.int IntKind.i64 (Int.ofNat 0), Value.int IntKind.i64 (Int.ofNat 0), Value.int IntKind.i64 (Int.ofNat 0), Value.string ⟨#[]⟩, Value.int IntKind.i64 (Int.ofNat 0), Value.slice none 0 0] } := by kernel_rfl
theorem lay34 : lay Tryd.prog 34 = some { kind := LK.other, size := 1, bytes := 8, zero := some [Value.nilFunc] } := by kernel_rfl
theorem lay35 : lay Tryd.prog 35 = some { kind := LK.other, size := 1, bytes := 8, zero := some [Value.nilFunc] } := by kernel_rfl
theorem lay36 : lay Tryd.prog 36 = some { kind := LK.struct [(0, 1, false), (1, 1, false), (2, 1, false), (3, 1, false)], size := 4, bytes := 48, zero := some [Value.string ⟨#[]⟩, Value.int IntKind.i64 (Int.ofNat 0), Value.string ⟨#[]⟩, Value.int IntKind.i64 (Int.ofNat 0)] } := by kernel_rfl
theorem lay37 : lay Tryd.prog 37 = some { kind := LK.struct [(0, 1, false), (1, 1, false), (2, 1, false), (3, 1, false)], size := 4, bytes := 48, zero := some [Value.string ⟨#[]⟩, Value.int IntKind.i64 (Int.ofNat 0), Value.string ⟨#[]⟩, Value.int IntKind.i64 (Int.ofNat 0)] } := by kernel_rfl
theorem lay38 : lay Tryd.prog 38 = some { kind := LK.other, size := 1, bytes := 8, zero := some [Value.nilFunc] } := by kernel_rfl
theorem lay39 : lay Tryd.prog 39 = some { kind := LK.other, size := 1, bytes := 8, zero := some [Value.nilFunc] } := by kernel_rfl
theorem lay40 : lay Tryd.prog 40 = some { kind := LK.other, size := 1, bytes := 8, zero := some [Value.map none] } := by kernel_rfl
theorem lay41 : lay Tryd.prog 41 = some { kind := LK.slice 44, size := 1, bytes := 24, zero := some [Value.slice none 0 0] } := by kernel_rfl
theorem lay42 : lay Tryd.prog 42 = some { kind := LK.other, size := 1, bytes := 8, zero := some [Value.nilFunc] } := by kernel_rfl
theorem lay43 : lay Tryd.prog 43 = some { kind := LK.struct [(0, 1, false), (1, 1, false)], size := 2, bytes := 24, zero := some [Value.string ⟨#[]⟩, Value.int IntKind.i64 (Int.ofNat 0)] } := by kernel_rfl
theorem lay44 : lay Tryd.prog 44 = some { kind := LK.struct [(0, 1, false), (1, 1, false)], size := 2, bytes := 24, zero := some [Value.string ⟨#[]⟩, Value.int IntKind.i64 (Int.ofNat 0)] } := by kernel_rfl
theorem lay45 : lay Tryd.prog 45 = some { kind := LK.other, size := 1, bytes := 0, zero := some [Value.tuple { toList := [Value.int IntKind.i64 (Int.ofNat 0), Value.bool false] }] } := by kernel_rfl
theorem lay46 : lay Tryd.prog 46 = some { kind := LK.other, size := 1, bytes := 0, zero := some [Value.tuple { toList := [Value.agg { toList := [Value.int IntKind.i64 (Int.ofNat 0), Value.int IntKind.i64 (Int.ofNat 0), Value.int IntKind.i64 (Int.ofNat 0), Value.string ⟨#[]⟩, Value.int IntKind.i64 (Int.ofNat 0), Value.slice none 0 0] }, Value.bool false] }] } := by kernel_rfl
theorem lay47 : lay Tryd.prog 47 = some { kind := LK.other, size := 1, bytes := 8, zero := some [Value.nilFunc] } := by kernel_rfl
theorem lay48 : lay Tryd.prog 48 = some { kind := LK.other, size := 1, bytes := 8, zero := some [Value.nilFunc] } := by kernel_rfl
theorem lay49 : lay Tryd.prog 49 = some { kind := LK.other, size := 1, bytes := 8, zero := some [Value.nilFunc] } := by kernel_rfl
theorem lay50 : lay Tryd.prog 50 = some { kind := LK.other, size := 1, bytes := 8, zero := some [Value.nilFunc] } := by kernel_rfl
theorem lay51 : lay Tryd.prog 51 = some { kind := LK.struct [(0, 1, false), (1, 1, false)], size := 2, bytes := 24, zero := some [Value.string ⟨#[]⟩, Value.int IntKind.i64 (Int.ofNat 0)] } := by kernel_rfl
theorem lay52 : lay Tryd.prog 52 = some { kind := LK.struct [(0, 1, false), (1, 1, false)], size := 2, bytes := 24, zero := some [Value.string ⟨#[]⟩, Value.int IntKind.i64 (Int.ofNat 0)] } := by kernel_rfl
theorem lay53 : lay Tryd.prog 53 = some { kind := LK.other, size := 1, bytes := 8, zero := some [Value.nilFunc] } := by kernel_rfl
theorem lay54 : lay Tryd.prog 54 = some { kind := LK.other, size := 1, bytes := 8, zero := some [Value.nilFunc] } := by kernel_rfl
theorem lay55 : lay Tryd.prog 55 = some { kind := LK.other, size := 1, bytes := 8, zero := some [Value.nilFunc] } := by kernel_rfl
theorem lay56 : lay Tryd.prog 56 = some { kind := LK.other, size := 1, bytes := 8, zero := some [Value.nilFunc] } := by kernel_rfl
theorem lay57 : lay Tryd.prog 57 = some { kind := LK.other, size := 1, bytes := 8, zero := some [Value.nilFunc] } := by kernel_rfl
theorem lay58 : lay Tryd.prog 58 = some { kind := LK.other, size := 1, bytes := 8, zero := some [Value.nilFunc] } := by kernel_rfl
theorem lay59 : lay Tryd.prog 59 = some { kind := LK.other, size := 1, bytes := 8, zero := some [Value.nilFunc] } := by kernel_rfl
theorem lay60 : lay Tryd.prog 60 = some { kind := LK.other, size := 1, bytes := 0, zero := some [Value.tuple { toList := [Value.int IntKind.i64 (Int.ofNat 0), Value.int IntKind.i64 (Int.ofNat 0)] }] } := by kernel_rfl
theorem lay61 : lay Tryd.prog 61 = some { kind := LK.other, size := 1, bytes := 8, zero := some [Value.nilFunc] } := by kernel_rfl
theorem lay62 : lay Tryd.prog 62 = some { kind := LK.slice 3, size := 1, bytes := 24, zero := some [Value.slice none 0 0] } := by kernel_rfl
theorem lay63 : lay Tryd.prog 63 = some { kind := LK.other, size := 1, bytes := 8, zero := some [Value.nilFunc] } := by kernel_rfl
theorem lay64 : lay Tryd.prog 64 = some { kind := LK.other, size := 1, bytes := 8, zero := some [Value.nilFunc] } := by kernel_rfl
theorem lay65 : lay Tryd.prog 65 = some { kind := LK.other, size := 1, bytes := 8, zero := some [Value.nilFunc] } := by kernel_rfl
theorem lay66 : lay Tryd.prog 66 = some { kind := LK.slice 9, size := 1, bytes := 24, zero := some [Value.slice none 0 0] } := by kernel_rfl
theorem lay67 : lay Tryd.prog 67 = some { kind := LK.struct [(0, 1, false), (1, 1, false), (2, 1, false)], size := 3, bytes := 40, zero := some [Value.bool false, Value.slice none 0 0, Value.bool false] } := by kernel_rfl
theorem lay68 : lay Tryd.prog 68 = some { kind := LK.struct [(0, 1, false), (1, 1, false), (2, 1, false)], size := 3, bytes := 40, zero := some [Value.bool false, Value.slice none 0 0, Value.bool false] } := by kernel_rfl
theorem lay69 : lay Tryd.prog 69 = some { kind := LK.other, size := 1, bytes := 8, zero := some [Value.nilFunc] } := by kernel_rfl
theorem lay70 : lay Tryd.prog 70 = some { kind := LK.other, size := 1, bytes := 8, zero := some [Value.nilFunc] } := by kernel_rfl
theorem lay71 : lay Tryd.prog 71 = some { kind := LK.other, size := 1, bytes := 8, zero := some [Value.nilFunc] } := by kernel_rfl
theorem lay72 : lay Tryd.prog 72 = some { kind := LK.other, size := 1, bytes := 8, zero := some [Value.nilFunc] } := by kernel_rfl
theorem lay73 : lay Tryd.prog 73 = some { kind := LK.other, size := 1, bytes := 8, zero := some [Value.nilFunc] } := by kernel_rfl
theorem lay74 : lay Tryd.prog 74 = some { kind := LK.other, size := 1, bytes := 8, zero := some [Value.nilFunc] } := by kernel_rfl
theorem lay75 : lay Tryd.prog 75 = some { kind := LK.other, size := 1, bytes := 8, zero := some [Value.nilFunc] } := by kernel_rfl
theorem lay76 : lay Tryd.prog 76 = some { kind := LK.other, size := 1, bytes := 8, zero := some [Value.nilFunc] } := by kernel_rfl
theorem lay77 : lay Tryd.prog 77 = some { kind := LK.struct [(0, 1, false), (1, 1, false)], size := 2, bytes := 48, zero := some [Value.slice none 0 0, Value.slice none 0 0] } := by kernel_rfl
theorem lay78 : lay Tryd.prog 78 = some { kind := LK.struct [(0, 1, false), (1, 1, false)], size := 2, bytes := 48, zero := some [Value.slice none 0 0, Value.slice none 0 0] } := by kernel_rfl
theorem lay79 : lay Tryd.prog 79 = some { kind := LK.slice 78, size := 1, bytes := 24, zero := some [Value.slice none 0 0] } := by kernel_rfl
theorem lay80 : lay Tryd.prog 80 = some { kind := LK.other, size := 1, bytes := 8, zero := some [Value.pointer none] } := by kernel_rfl
theorem lay81 : lay Tryd.prog 81 = some { kind := LK.other, size := 1, bytes := 8, zero := some [Value.nilFunc] } := by kernel_rfl
theorem lay82 : lay Tryd.prog 82 = some { kind := LK.other, size := 1, bytes := 8, zero := some [Value.nilFunc] } := by kernel_rfl
theorem lay83 : lay Tryd.prog 83 = some { kind := LK.other, size := 1, bytes := 8, zero := some [Value.nilFunc] } := by kernel_rfl
theorem lay84 : lay Tryd.prog 84 = some { kind := LK.other, size := 1, bytes := 8, zero := some [Value.nilFunc] } := by kernel_rfl
theorem lay85 : lay Tryd.prog 85 = some { kind := LK.other, size := 1, bytes := 8, zero := some [Value.nilFunc] } := by kernel_rfl
theorem lay86 : lay Tryd.prog 86 = some { kind := LK.int IntKind.u64, size := 1, bytes := 8, zero := some [Value.int IntKind.u64 (Int.ofNat 0)] } := by kernel_rfl
theorem lay87 : lay Tryd.prog 87 = some { kind := LK.other, size := 1, bytes := 8, zero := some [Value.nilFunc] } := by kernel_rfl
theorem lay88 : lay Tryd.prog 88 = some { kind := LK.other, size := 1, bytes := 8, zero := some [Value.nilFunc] } := by kernel_rfl
theorem lay89 : lay Tryd.prog 89 = some { kind := LK.other, size := 1, bytes := 8, zero := some [Value.nilFunc] } := by kernel_rfl
theorem lay90 : lay Tryd.prog 90 = some { kind := LK.other, size := 1, bytes := 8, zero := some [Value.nilFunc] } := by kernel_rfl
theorem lay91 : lay Tryd.prog 91 = some { kind := LK.other, size := 1, bytes := 8, zero := some [Value.pointer none] } := by kernel_rfl
theorem lay92 : lay Tryd.prog 92 = some { kind := LK.slice 5, size := 1, bytes := 24, zero := some [Value.slice none 0 0] } := by kernel_rfl
theorem lay93 : lay Tryd.prog 93 = some { kind := LK.struct [(0, 1, false), (1, 1, false)], size := 2, bytes := 32, zero := some [Value.pointer none, Value.slice none 0 0] } := by kernel_rfl
theorem lay94 : lay Tryd.prog 94 = some { kind := LK.struct [(0, 1, false), (1, 1, false)], size := 2, bytes := 32, zero := some [Value.pointer none, Value.slice none 0 0] } := by kernel_rfl
theorem lay95 : lay Tryd.prog 95 = some { kind := LK.other, size := 1, bytes := 8, zero := some [Value.nilFunc] } := by kernel_rfl
theorem lay96 : lay Tryd.prog 96 = some { kind := LK.other, size := 1, bytes := 16, zero := some [Value.nilIface] } := by kernel_rfl
theorem lay97 : lay Tryd.prog 97 = some { kind := LK.other, size := 1, bytes := 16, zero := some [Value.nilIface] } := by kernel_rfl
theorem lay98 : lay Tryd.prog 98 = some { kind := LK.other, size := 1, bytes := 0, zero := some [Value.tuple { toList := [Value.int IntKind.i64 (Int.ofNat 0), Value.nilIface] }] } := by kernel_rfl
theorem lay99 : lay Tryd.prog 99 = some { kind := LK.other, size := 1, bytes := 8, zero := some [Value.nilFunc] } := by kernel_rfl
theorem lay100 : lay Tryd.prog 100 = some { kind := LK.other, size := 1, bytes := 8, zero := some [Value.nilFunc] } := by kernel_rfl
theorem lay101 : lay Tryd.prog 101 = some { kind := LK.other, size := 1, bytes := 8, zero := some [Value.nilFunc] } := by kernel_rfl
theorem lay102 : lay Tryd.prog 102 = some { kind := LK.other, size := 1, bytes := 8, zero := some [Value.pointer none] } := by kernel_rfl
theorem lay103 : lay Tryd.prog 103 = some { kind := LK.other, size := 1, bytes := 0, zero := some [Value.tuple { toList := [Value.int IntKind.i32 (Int.ofNat 0), Value.int IntKind.i64 (Int.ofNat 0)] }] } := by kernel_rfl
theorem lay104 : lay Tryd.prog 104 = some { kind := LK.other, size := 1, bytes := 8, zero := some [Value.nilFunc] } := by kernel_rfl
theorem lay105 : lay Tryd.prog 105 = some { kind := LK.other, size := 1, bytes := 8, zero := some [Value.nilFunc] } := by kernel_rfl
theorem lay106 : lay Tryd.prog 106 = some { kind := LK.other, size := 1, bytes := 8, zero := some [Value.pointer none] } := by kernel_rfl
theorem lay107 : lay Tryd.prog 107 = some { kind := LK.other, size := 1, bytes := 8, zero := some [Value.nilFunc] } := by kernel_rfl
theorem lay108 : lay Tryd.prog 108 = some { kind := LK.other, size := 1, bytes := 8, zero := some [Value.nilFunc] } := by kernel_rfl
theorem lay110 : lay Tryd.prog 110 = some { kind := LK.struct [(0, 1, false), (1, 1, false)], size := 2, bytes := 2, zero := some [Value.int IntKind.u8 (Int.ofNat 0), Value.int IntKind.u8 (Int.ofNat 0)] } := by kernel_rfl
theorem lay111 : lay Tryd.prog 111 = some { kind := LK.struct [(0, 1, false), (1, 1, false)], size := 2, bytes := 2, zero := some [Value.int IntKind.u8 (Int.ofNat 0), Value.int IntKind.u8 (Int.ofNat 0)] } := by kernel_rfl
theorem lay112 : lay Tryd.prog 112 = some { kind := LK.array 16 111, size := 32, bytes := 32, zero := some [Value.int IntKind.u8 (Int.ofNat 0), Value.int IntKind.u8 (Int.ofNat 0), Value.int IntKind.u8 (Int.ofNat 0), Value.int IntKind.u8 (Int.ofNat 0), Value.int IntKind.u8 (Int.ofNat 0), Value.int IntKind.u8 (Int.ofNat 0), Value.int IntKind.u8 (Int.ofNat 0), Value.int IntKind.u8 (Int.ofNat 0), Value.int IntKind.u8 (Int.ofNat 0), Value.int IntKind.u8 (Int.ofNat 0), Value.int IntKind.u8 (Int.ofNat 0), Value.int IntKind.u8 (Int.ofNat 0), Value.int IntKind.u8 (Int.ofNat 0), Value.int IntKind.u8 (Int.ofNat 0), Value.int IntKind.u8 (Int.ofNat 0), Value.int IntKind.u8 (Int.ofNat 0), Value.int IntKind.u8 (Int.ofNat 0), Value.int IntKind.u8 (Int.ofNat 0), Value.int IntKind.u8 (Int.ofNat 0), Value.int IntKind.u8 (Int.ofNat 0), Value.int IntKind.u8 (Int.ofNat 0), Value.int IntKind.u8 (Int.ofNat 0), Value.int IntKind.u8 (Int.ofNat 0), Value.int IntKind.u8 (Int.ofNat 0), Value.int IntKind.u8 (Int.ofNat 0), Value.int IntKind.u8 (Int.ofNat 0), Value.int IntKind.u8 (Int.ofNat 0), Value.int IntKind.u8 (Int.ofNat 0), Value.int IntKind.u8 (Int.ofNat 0), Value.int IntKind.u8 (Int.ofNat 0), Value.int IntKind.u8 (Int.ofNat 0), Value.int IntKind.u8 (Int.ofNat 0)] } := by kernel_rfl
theorem lay113 : lay Tryd.prog 113 = some { kind := LK.other, size := 1, bytes := 8, zero := some [Value.nilFunc] } := by kernel_rfl
theorem lay114 : lay Tryd.prog 114 = some { kind := LK.other, size := 1, bytes := 8, zero := some [Value.nilFunc] } := by kernel_rfl
theorem lay115 : lay Tryd.prog 115 = some { kind := LK.int IntKind.u32, size := 1, bytes := 4, zero := some [Value.int IntKind.u32 (Int.ofNat 0)] } := by kernel_rfl
theorem lay116 : lay Tryd.prog 116 = some { kind := LK.other, size := 1, bytes := 0, zero := some [Value.tuple { toList := [Value.int IntKind.u32 (Int.ofNat 0), Value.int IntKind.u32 (Int.ofNat 0)] }] } := by kernel_rfl
theorem lay117 : lay Tryd.prog 117 = some { kind := LK.other, size := 1, bytes := 8, zero := some [Value.nilFunc] } := by kernel_rfl
theorem lay118 : lay Tryd.prog 118 = some { kind := LK.struct [(0, 1, false), (1, 1, false), (2, 1, false), (3, 1, false)], size := 4, bytes := 40, zero := some [Value.pointer none, Value.pointer none, Value.pointer none, Value.string ⟨#[]⟩] } := by kernel_rfl
theorem lay119 : lay Tryd.prog 119 = some { kind := LK.struct [(0, 1, false), (1, 1, false), (2, 1, false), (3, 1, false)], size := 4, bytes := 40, zero := some [Value.pointer none, Value.pointer none, Value.pointer none, Value.string ⟨#[]⟩] } := by kernel_rfl
theorem lay120 : lay Tryd.prog 120 = some { kind := LK.array 0 16, size := 0, bytes := 0, zero := some [] } := by kernel_rfl
theorem lay121 : lay Tryd.prog 121 = some { kind := LK.struct [(0, 0, true)], size := 0, bytes := 0, zero := some [] } := by kernel_rfl
theorem lay122 : lay Tryd.prog 122 = some { kind := LK.struct [(0, 0, true)], size := 0, bytes := 0, zero := some [] } := by kernel_rfl
theorem lay123 : lay Tryd.prog 123 = some { kind := LK.other, size := 1, bytes := 8, zero := some [Value.nilFunc] } := by kernel_rfl
theorem lay124 : lay Tryd.prog 124 = some { kind := LK.int IntKind.u8, size := 1, bytes := 1, zero := some [Value.int IntKind.u8 (Int.ofNat 0)] } := by kernel_rfl
theorem lay125 : lay Tryd.prog 125 = some { kind := LK.int IntKind.u8, size := 1, bytes := 1, zero := some [Value.int IntKind.u8 (Int.ofNat 0)] } := by kernel_rfl
theorem lay126 : lay Tryd.prog 126 = some { kind := LK.other, size := 1, bytes := 8, zero := some [Value.nilFunc] } := by kernel_rfl
theorem lay127 : lay Tryd.prog 127 = some { kind := LK.int IntKind.i32, size := 1, bytes := 4, zero := some [Value.int IntKind.i32 (Int.ofNat 0)] } := by kernel_rfl
theorem lay128 : lay Tryd.prog 128 = some { kind := LK.int IntKind.i32, size := 1, bytes := 4, zero := some [Value.int IntKind.i32 (Int.ofNat 0)] } := by kernel_rfl
theorem lay129 : lay Tryd.prog 129 = some { kind := LK.struct [(0, 1, false), (1, 1, false), (2, 1, false), (3, 1, false), (4, 1, false), (5, 1, false), (6, 1, false), (7, 1, false), (8, 1, false), (9, 1, false), (10, 1, false)], size := 11, bytes := 48, zero := some [Value.int IntKind.u64 (Int.ofNat 0), Value.int IntKind.u64 (Int.ofNat 0), Value.int IntKind.u32 (Int.ofNat 0), Value.int IntKind.u8 (Int.ofNat 0), Value.int IntKind.u8 (Int.ofNat 0), Value.int IntKind.u8 (Int.ofNat 0), Value.int IntKind.u8 (Int.ofNat 0), Value.nilFunc, Value.pointer none, Value.int IntKind.i32 (Int.ofNat 0), Value.int IntKind.i32 (Int.ofNat 0)] } := by kernel_rfl
theorem lay130 : lay Tryd.prog 130 = some { kind := LK.struct [(0, 1, false), (1, 1, false), (2, 1, false), (3, 1, false), (4, 1, false), (5, 1, false), (6, 1, false), (7, 1, false), (8, 1, false), (9, 1, false), (10, 1, false)], size := 11, bytes := 48, zero := some [Value.int IntKind.u64 (Int.ofNat 0), Value.int IntKind.u64 (Int.ofNat 0), Value.int IntKind.u32 (Int.ofNat 0), Value.int IntKind.u8 (Int.ofNat 0), Value.int IntKind.u8 (Int.ofNat 0), Value.int IntKind.u8 (Int.ofNat 0), Value.int IntKind.u8 (Int.ofNat 0), Value.nilFunc, Value.pointer none, Value.int IntKind.i32 (Int.ofNat 0), Value.int IntKind.i32 (Int.ofNat 0)] } := by kernel_rfl
theorem keyl7 : keyL Tryd.prog 7 = some [LK.int IntKind.i64, LK.int IntKind.i64, LK.bool, LK.int IntKind.u8] := by kernel_rfl
theorem keyl8 : keyL Tryd.prog 8 = some [LK.int IntKind.i64, LK.int IntKind.i64, LK.bool, LK.int IntKind.u8] := by kernel_rfl
theorem keyl36 : keyL Tryd.prog 36 = some [LK.str, LK.int IntKind.i64, LK.str, LK.int IntKind.i64] := by kernel_rfl
theorem keyl37 : keyL Tryd.prog 37 = some [LK.str, LK.int IntKind.i64, LK.str, LK.int IntKind.i64] := by kernel_rfl
theorem keyl43 : keyL Tryd.prog 43 = some [LK.str, LK.int IntKind.i64] := by kernel_rfl
theorem keyl44 : keyL Tryd.prog 44 = some [LK.str, LK.int IntKind.i64] := by kernel_rfl
theorem keyl51 : keyL Tryd.prog 51 = some [LK.str, LK.int IntKind.i64] := by kernel_rfl
theorem keyl52 : keyL Tryd.prog 52 = some [LK.str, LK.int IntKind.i64] := by kernel_rfl
theorem keyl110 : keyL Tryd.prog 110 = some [LK.int IntKind.u8, LK.int IntKind.u8] := by kernel_rfl
theorem keyl111 : keyL Tryd.prog 111 = some [LK.int IntKind.u8, LK.int IntKind.u8] := by kernel_rfl
theorem mapl40 : mapL Tryd.prog 40 = some (MKd.int IntKind.i64, C.sc (Value.int IntKind.i64 (Int.ofNat 0))) := by kernel_rfl
attribute [push_cast] lay0 lay1 lay2 lay3 lay4 lay5 lay6 lay7 lay8 lay9 lay10 lay11 lay12 lay13 lay14 lay15 lay16 lay17 lay18 lay19 lay20 lay21 lay22 lay23 lay24 lay25 lay26 lay27 lay28 lay29 lay30 lay31 lay32 lay33 lay34 lay35 lay36 lay37 lay38 lay39 lay40 lay41 lay42 lay43 lay44 lay45 lay46 lay47 lay48 lay49 lay50 lay51 lay52 lay53 lay54 lay55 lay56 lay57 lay58 lay59 lay60 lay61 lay62 lay63 lay64 lay65 lay66 lay67 lay68 lay69 lay70 lay71 lay72 lay73 lay74 lay75 lay76 lay77 lay78 lay79 lay80 lay81 lay82 lay83 lay84 lay85 lay86 lay87 lay88 lay89 lay90 lay91 lay92 lay93 lay94 lay95 lay96 lay97 lay98 lay99 lay100 lay101 lay102 lay103 lay104 lay105 lay106 lay107 lay108 lay110 lay111 lay112 lay113 lay114 lay115 lay116 lay117 lay118 lay119 lay120 lay121 lay122 lay123 lay124 lay125 lay126 lay127 lay128 lay129 lay130 keyl7 keyl8 keyl36 keyl37 keyl43 keyl44 keyl51 keyl52 keyl110 keyl111 mapl40
end Go.Proofs.YtdmfififkcnecaaDoor.Vcg
end
section
set_option linter.unusedVariables false
set_option linter.unusedSimpArgs false
namespace Go.Proofs.YtdmfififkcnecaaDoor.Vcg
open Go.RowKit
section
variable {P : Program} {G : Globs} {σ σ' : St} {N p lg m : Nat} {h : Hd} {yd : Option Yd} {brs : List Bool} {bf : Nat → List Bool} {bx bx' : List (List C)} {ops : Array Oper} {c c' d d' : C} {t t' : TypeId} {K : C → Prop} {K2 : C → Nat → Prop} {K3 : C → St → Prop} {nx : Nat} {tm : List (Nat × C)} {x y z : Operand} {Q : Exit → St → Prop} {X Y : Prop}
/-- a call by contract -/
def aCallN (P : Program) (G : Globs) (f : FuncId) (args : List C) (nx : Nat) (K : C → Nat → Prop) : Prop := ∃ r n, Fun P G f args r n ∧ K (r.sh nx) (nx + n)
theorem aCallN.mk {f : FuncId} {args : List C} {r : C} {n : Nat} (h : Fun P G f args r n) (hK : K2 (r.sh nx) (nx + n)) : aCallN P G f args nx K2 := ⟨r, n, h, hK⟩
/-- a call of a function that is known: by a contract that hands nothing over, or by one that does -/
def aCallC (P : Program) (G : Globs) (f : FuncId) (args fargs : List C) (σ : St) (K : C → St → Prop) : Prop :=
  (∃ r n, Fun P G f fargs r n ∧ K (r.sh σ.nx) ⟨σ.tm, σ.bx, σ.nx + n, σ.lg⟩) ∨ aCallB0 P G f args σ K ∨ aCallR P G f args σ K ∨ aCallX0 P G f args σ K ∨ aCallO P f args σ K
def aGd (d : Option Tmp) (tm : List (Nat × C)) (want : Bool) (X Y : Prop) : Prop := match d with
  | some d => match want with
    | true => ABrU (getC tm d) Y X Y
    | false => ABrU (getC tm d) Y Y X
  | none => False
def aLoad1 (L : Option Lay) (c : C) (bx : List (List C)) (K : C → Prop) : Prop :=
  match L with
  | none => False
  | some L => match c with
    | .ptr i off => match bx[i]? with
      | some cs => aTake L (cs.drop off) K
      | none => False
    | .row cs => aTake L cs K
    | _ => False
def aLoad2 (cs : Option (List C)) (off : Nat) (L : Lay) (K : C → Prop) : Prop := match cs with | some cs => aTake L (cs.drop off) K | none => False
def aTake1 (cs : List C) (K : C → Prop) : Prop := match cs with | c :: _ => K c | [] => False
def aBool1 (L : Option Lay) (op : BinOp) (a b : Bool) (K : C → Prop) : Prop := match L with | some ⟨.bool, _, _, _⟩ => aBool op a b K | _ => False
def aOpt (x : Option C) (K : C → Prop) : Prop := match x with | some c => K c | none => False
def aField1 (L : Option Lay) (c : C) (f : Nat) (K : C → Prop) : Prop :=
  match L with
  | some ⟨.struct fs, _, _, _⟩ => match fs[f]?, c with
    | some (off, size, agg), .agg cs =>
      if agg then off + size ≤ cs.length ∧ K (.agg ((cs.drop off).take size)) else match cs[off]? with
        | some c => K c
        | none => False
    | _, _ => False
  | _ => False
def aField2 (f : Option (Nat × Nat × Bool)) (cs : List C) (K : C → Prop) : Prop :=
  match f with
  | some (off, size, agg) => if agg then off + size ≤ cs.length ∧ K (.agg ((cs.drop off).take size)) else match cs[off]? with
        | some c => K c
        | none => False
  | none => False
def aFA1 (L : Option Lay) (c : C) (f : Nat) (K : C → Prop) : Prop :=
  match L with
  | some ⟨.struct fs, _, _, _⟩ => match fs[f]?, c with
    | some (off, size, _), .ptr i o => if size = 0 then False else K (.ptr i (o + off))
    | some (off, size, _), .row cs => if size = 0 then False else K (.row (cs.drop off))
    | _, _ => False
  | _ => False
def aFA2 (f : Option (Nat × Nat × Bool)) (c : C) (K : C → Prop) : Prop :=
  match f, c with
    | some (off, size, _), .ptr i o => if size = 0 then False else K (.ptr i (o + off))
    | some (off, size, _), .row cs => if size = 0 then False else K (.row (cs.drop off))
    | _, _ => False
def aIA1 (P : Program) (L : Option Lay) (c : C) (i : C) (K : C → Prop) : Prop :=
  match L, i with
  | some ⟨.slice e, _, _, _⟩, .sc (.int _ n) => match lay P e with
    | some L => match c with
      | .bs j off k m _ => k = L.size ∧ 0 ≤ n ∧ n < (m : Int) ∧ K (.ptr j (off + n.toNat * L.size))
      | c => match c.rows? L.size with
        | some rows => match rows[n.toNat]? with
          | some r => 0 ≤ n ∧ K (.row r)
          | none => False
        | none => False
    | none => False
  | some ⟨.array (m + 1) e, _, _, _⟩, .sc (.int _ n) => match lay P e with
    | some L => match c with
      | .ptr j off => 0 ≤ n ∧ n < ((m + 1 : Nat) : Int) ∧ K (.ptr j (off + n.toNat * L.size))
      | .row cs => 0 ≤ n ∧ n < ((m + 1 : Nat) : Int) ∧ K (.row (cs.drop (n.toNat * L.size)))
      | _ => False
    | none => False
  | _, _ => False
def aIAs (L : Option Lay) (c : C) (n : Int) (K : C → Prop) : Prop :=
  match L with
    | some L => match c with
      | .bs j off k m _ => k = L.size ∧ 0 ≤ n ∧ n < (m : Int) ∧ K (.ptr j (off + n.toNat * L.size))
      | c => match c.rows? L.size with
        | some rows => match rows[n.toNat]? with
          | some r => 0 ≤ n ∧ K (.row r)
          | none => False
        | none => False
    | none => False
def aIAr (rows : Option (List (List C))) (n : Int) (K : C → Prop) : Prop :=
  match rows with
      | some rows => match rows[n.toNat]? with
        | some r => 0 ≤ n ∧ K (.row r)
        | none => False
      | none => False
/-- an element at a place -/
def aAt (r : Option (List C)) (n : Int) (K : C → Prop) : Prop := match r with | some r => 0 ≤ n ∧ K (.row r) | none => False
def aIAa (L : Option Lay) (c : C) (m : Nat) (n : Int) (K : C → Prop) : Prop :=
  match L with
    | some L => match c with
      | .ptr j off => 0 ≤ n ∧ n < ((m + 1 : Nat) : Int) ∧ K (.ptr j (off + n.toNat * L.size))
      | .row cs => 0 ≤ n ∧ n < ((m + 1 : Nat) : Int) ∧ K (.row (cs.drop (n.toNat * L.size)))
      | _ => False
    | none => False
def aIx1 (L : Option Lay) (c i : C) (K : C → Prop) : Prop :=
  match L, c, i with
  | some ⟨.str, _, _, _⟩, .str l, .sc (.int _ n) => match l[n.toNat]? with
    | some b => 0 ≤ n ∧ K (.sc (.int .u8 (b.toNat : Int)))
    | none => False
  | _, _, _ => False
/-- a byte at a place -/
def aByte (b : Option UInt8) (n : Int) (K : C → Prop) : Prop := match b with | some b => 0 ≤ n ∧ K (.sc (.int .u8 (b.toNat : Int))) | none => False
def aSl1 (P : Program) (L : Option Lay) (c : C) (lo hi mx : Option Int) (K : C → Prop) : Prop :=
   match L with
    | some ⟨.str, _, _, _⟩ => match c, mx with
      | .str l, none => cutOk l.length lo hi ∧ K (.str (cut l lo hi))
      | _, _ => False
    | some ⟨.slice e, _, _, _⟩ => match lay P e with
      | some L => match c with
        | .bs i off k n cap => aSlB L.size i off k n cap lo hi mx K
        | c => match c.rows? L.size with
          | some rows => match mx, hi with
            | none, _ => cutOk rows.length lo hi ∧ K (.sl L.size (cut rows lo hi))
            | some m, some h => m = h ∧ cutOk rows.length lo hi ∧ K (.tight L.size (cut rows lo hi))
            | some _, none => False
          | none => False
      | none => False
    | _ => False
def aSl0 (P : Program) (t : TypeId) (c : C) (lo hi mx : Option (Option Int)) (K : C → Prop) : Prop :=
  match lo, hi, mx with
  | some lo, some hi, some mx => aSl1 P (lay P t) c lo hi mx K
  | _, _, _ => False
def aSlS (L : Option Lay) (c : C) (lo hi mx : Option Int) (K : C → Prop) : Prop :=
  match L with
      | some L => match c with
        | .bs i off k n cap => aSlB L.size i off k n cap lo hi mx K
        | c => match c.rows? L.size with
          | some rows => match mx, hi with
            | none, _ => cutOk rows.length lo hi ∧ K (.sl L.size (cut rows lo hi))
            | some m, some h => m = h ∧ cutOk rows.length lo hi ∧ K (.tight L.size (cut rows lo hi))
            | some _, none => False
          | none => False
      | none => False
def aSlR (rows : Option (List (List C))) (k : Nat) (lo hi mx : Option Int) (K : C → Prop) : Prop :=
  match rows with
        | some rows => match mx, hi with
          | none, _ => cutOk rows.length lo hi ∧ K (.sl k (cut rows lo hi))
          | some m, some h => m = h ∧ cutOk rows.length lo hi ∧ K (.tight k (cut rows lo hi))
          | some _, none => False
        | none => False
/-- a text of a slice of bytes -/
def aBytes (rows : Option (List (List C))) (K : C → Prop) : Prop := match rows with | some rows => ∃ l, rows = bytesC l ∧ K (.str l) | none => False
theorem aBytes.mk {rows : List (List C)} (l : List UInt8) (h : rows = bytesC l) (hK : K (.str l)) : aBytes (some rows) K := ⟨l, h, hK⟩
def aCv1 (P : Program) (D S : Option Lay) (c : C) (K : C → Prop) : Prop :=
  match D with
  | some ⟨.int k, _, _, _⟩ => match c with
    | .sc (.int _ n) => match S with | some _ => inR k n ∧ K (.sc (.int k n)) | none => False
    | _ => False
  | some ⟨.str, _, _, _⟩ => match S with
    | some ⟨.str, _, _, _⟩ => match c with
      | .str l => K (.str l)
      | _ => False
    | some ⟨.slice e, _, _, _⟩ => match lay P e with
      | some ⟨.int .u8, _, _, _⟩ => match c.rows? 1 with
        | some rows => ∃ l, rows = bytesC l ∧ K (.str l)
        | none => False
      | _ => False
    | some ⟨.int _, _, _, _⟩ => match c with
      | .sc (.int _ n) => K (.str (Utf8.encode n).data.toList)
      | _ => False
    | _ => False
  | some ⟨.slice e, _, _, _⟩ => match S, lay P e with
    | some ⟨.str, _, _, _⟩, some ⟨.int .u8, _, _, _⟩ => match c with
      | .str l => ((l.length : Nat) : Int) ≤ 9223372036854775807 ∧ K (.sl 1 (bytesC l))
      | _ => False
    | _, _ => False
  | _ => False
def aCvB (L : Option Lay) (c : C) (K : C → Prop) : Prop :=
  match L with
      | some ⟨.int .u8, _, _, _⟩ => match c.rows? 1 with
        | some rows => ∃ l, rows = bytesC l ∧ K (.str l)
        | none => False
      | _ => False
def aCvS (L : Option Lay) (l : List UInt8) (K : C → Prop) : Prop :=
  match L with
    | some ⟨.int .u8, _, _, _⟩ => ((l.length : Nat) : Int) ≤ 9223372036854775807 ∧ K (.sl 1 (bytesC l))
    | _ => False
def aCap1 (L : Option Lay) (c : C) (K : C → Prop) : Prop :=
  match L, c with
  | some ⟨.slice _, _, _, _⟩, .bs _ _ _ _ c => K (.sc (.int .i64 (c : Int)))
  | some ⟨.slice _, _, _, _⟩, .sc (.slice none 0 0) => K (.sc (.int .i64 0))
  | _, _ => False
def aLenL (L : Option Lay) (n : Int) (K : C → Prop) : Prop := match L with | some ⟨.slice _, _, _, _⟩ => K (.sc (.int .i64 n)) | _ => False
def aLenT (L : Option Lay) (n : Int) (K : C → Prop) : Prop := match L with | some ⟨.str, _, _, _⟩ => K (.sc (.int .i64 n)) | _ => False
def aBd1 (L : Option Lay) (parts : List (Nat × C)) (K : C → Prop) : Prop :=
  match L with
  | some ⟨.struct fs, _, _, some z⟩ => (parts.all fun p => p.2.partB) = true ∧ match aFill (fun i => (fs[i]?).map fun f => (f.1, f.2.1)) (z.map ofConst) parts with
    | some cs => K (.agg cs)
    | none => False
  | _ => False
def aFl (cs : Option (List C)) (K : C → Prop) : Prop := match cs with | some cs => K (.agg cs) | none => False
/-- where a struct's field lies -/
def plS (fs : List (Nat × Nat × Bool)) (i : Nat) : Option (Nat × Nat) := (fs[i]?).map fun f => (f.1, f.2.1)
def plA (k : Nat) (i : Nat) : Option (Nat × Nat) := some (i * k, k)
def aFillP (pl : Option (Nat × Nat)) (place : Nat → Option (Nat × Nat)) (cs : List C) (c : List C) (rest : List (Nat × C)) : Option (List C) :=
  match pl with
    | none => none
    | some (off, size) => if c.length = size ∧ off + size ≤ cs.length then aFill place (cs.take off ++ c ++ cs.drop (off + size)) rest else none
def aBS1 (P : Program) (L : Option Lay) (n : Nat) (parts : List (Nat × C)) (nx : Nat) (K : C → Nat → Prop) : Prop :=
  match L with
  | some ⟨.slice e, _, _, _⟩ => match lay P e with
    | some ⟨_, k, _, some z⟩ => z.length = k ∧ 0 < k ∧ n * k ≤ 16777216 ∧ (parts.all fun p => p.2.frz.partB) = true ∧ match aFill (fun i => some (i * k, k)) (List.replicate n (z.map ofConst)).flatten (parts.map fun p => (p.1, p.2.frz)) with
      | some cs => (cs.all C.cellB) = true ∧ cs.length = n * k ∧ K (.own nx e k (aRows k n cs)) (nx + 1)
      | none => False
    | _ => False
  | _ => False
def aBS2 (L : Option Lay) (e : TypeId) (n : Nat) (parts : List (Nat × C)) (nx : Nat) (K : C → Nat → Prop) : Prop :=
   match L with
    | some ⟨_, k, _, some z⟩ => z.length = k ∧ 0 < k ∧ n * k ≤ 16777216 ∧ (parts.all fun p => p.2.frz.partB) = true ∧ match aFill (fun i => some (i * k, k)) (List.replicate n (z.map ofConst)).flatten (parts.map fun p => (p.1, p.2.frz)) with
      | some cs => (cs.all C.cellB) = true ∧ cs.length = n * k ∧ K (.own nx e k (aRows k n cs)) (nx + 1)
      | none => False
    | _ => False
def aBS3 (cs : Option (List C)) (e k n nx : Nat) (K : C → Nat → Prop) : Prop :=
  match cs with
      | some cs => (cs.all C.cellB) = true ∧ cs.length = n * k ∧ K (.own nx e k (aRows k n cs)) (nx + 1)
      | none => False
def aMk1 (P : Program) (L : Option Lay) (l c : C) (nx : Nat) (K : C → Nat → Prop) : Prop :=
  match L, l, c with
  | some ⟨.slice e, _, _, _⟩, .sc (.int _ l), .sc (.int _ c) => match lay P e with
    | some ⟨_, k, by', some z⟩ => z.length = k ∧ 0 < k ∧ (z.all Value.oneCell') = true ∧ 0 ≤ l ∧ l ≤ c ∧ (by' : Int) * c ≤ 281474976710656 ∧ c ≤ 9223372036854775807 ∧ K (.own nx e k (List.replicate l.toNat (z.map ofConst))) (nx + 1)
    | _ => False
  | _, _, _ => False
def aMk2 (L : Option Lay) (e : TypeId) (l c : Int) (nx : Nat) (K : C → Nat → Prop) : Prop :=
  match L with
    | some ⟨_, k, by', some z⟩ => z.length = k ∧ 0 < k ∧ (z.all Value.oneCell') = true ∧ 0 ≤ l ∧ l ≤ c ∧ (by' : Int) * c ≤ 281474976710656 ∧ c ≤ 9223372036854775807 ∧ K (.own nx e k (List.replicate l.toNat (z.map ofConst))) (nx + 1)
    | _ => False
def aMkB1 (P : Program) (L : Option Lay) (l c : C) (σ : St) (K : C → St → Prop) : Prop :=
  match L, l, c with
  | some ⟨.slice e, _, _, _⟩, .sc (.int _ l), .sc (.int _ c) => match lay P e with
    | some ⟨_, k, by', some z⟩ => z.length = k ∧ 0 < k ∧ (z.all Value.oneCell') = true ∧ 0 ≤ l ∧ l ≤ c ∧ (by' : Int) * c ≤ 281474976710656 ∧ c ≤ 9223372036854775807 ∧ K (.bs σ.bx.length 0 k l.toNat c.toNat) ⟨σ.tm, σ.bx ++ [(List.replicate c.toNat (z.map ofConst)).flatten], σ.nx, σ.lg⟩
    | _ => False
  | _, _, _ => False
def aMkB2 (L : Option Lay) (l c : Int) (σ : St) (K : C → St → Prop) : Prop :=
  match L with
    | some ⟨_, k, by', some z⟩ => z.length = k ∧ 0 < k ∧ (z.all Value.oneCell') = true ∧ 0 ≤ l ∧ l ≤ c ∧ (by' : Int) * c ≤ 281474976710656 ∧ c ≤ 9223372036854775807 ∧ K (.bs σ.bx.length 0 k l.toNat c.toNat) ⟨σ.tm, σ.bx ++ [(List.replicate c.toNat (z.map ofConst)).flatten], σ.nx, σ.lg⟩
    | _ => False
def aAp1 (P : Program) (L : Option Lay) (s x : C) (nx : Nat) (K : C → Nat → Prop) : Prop :=
  match L with
  | some ⟨.slice e, _, _, _⟩ => match lay P e with
    | some ⟨_, k, by', some z⟩ => match x.rows? k with
      | some xs => match s with
        | .sc (.slice none 0 0) => z.length = k ∧ 0 < k ∧ xs.length ≤ 9223372036854775807 ∧ xs.length * by' ≤ 140737488355328 ∧ K (.own nx e k xs) (nx + 1)
        | .tight k' rows => k' = k ∧ z.length = k ∧ 0 < k ∧ xs ≠ [] ∧ rows.length + xs.length ≤ 9223372036854775807 ∧ (rows.length + xs.length) * by' ≤ 140737488355328 ∧ K (.own nx e k (rows ++ xs)) (nx + 1)
        | _ => False
      | none => False
    | _ => False
  | _ => False
def aAp2 (L : Option Lay) (e : TypeId) (s x : C) (nx : Nat) (K : C → Nat → Prop) : Prop :=
    match L with
    | some ⟨_, k, by', some z⟩ => match x.rows? k with
      | some xs => match s with
        | .sc (.slice none 0 0) => z.length = k ∧ 0 < k ∧ xs.length ≤ 9223372036854775807 ∧ xs.length * by' ≤ 140737488355328 ∧ K (.own nx e k xs) (nx + 1)
        | .tight k' rows => k' = k ∧ z.length = k ∧ 0 < k ∧ xs ≠ [] ∧ rows.length + xs.length ≤ 9223372036854775807 ∧ (rows.length + xs.length) * by' ≤ 140737488355328 ∧ K (.own nx e k (rows ++ xs)) (nx + 1)
        | _ => False
      | none => False
    | _ => False
def aAp3 (xs : Option (List (List C))) (s : C) (e k by' : Nat) (z : List Value) (nx : Nat) (K : C → Nat → Prop) : Prop :=
  match xs with
      | some xs => match s with
        | .sc (.slice none 0 0) => z.length = k ∧ 0 < k ∧ xs.length ≤ 9223372036854775807 ∧ xs.length * by' ≤ 140737488355328 ∧ K (.own nx e k xs) (nx + 1)
        | .tight k' rows => k' = k ∧ z.length = k ∧ 0 < k ∧ xs ≠ [] ∧ rows.length + xs.length ≤ 9223372036854775807 ∧ (rows.length + xs.length) * by' ≤ 140737488355328 ∧ K (.own nx e k (rows ++ xs)) (nx + 1)
        | _ => False
      | none => False
def aAo1 (P : Program) (L : Option Lay) (id e k : Nat) (rows : List (List C)) (x : C) (σ : St) (K : C → St → Prop) : Prop :=
   match L with
    | some ⟨.slice e', _, _, _⟩ => match lay P e with
      | some ⟨_, k', by', some z⟩ => match x.rows? k with
        | some xs => e' = e ∧ k' = k ∧ z.length = k ∧ 0 < k ∧ rows.length + xs.length ≤ 9223372036854775807 ∧ (rows.length + xs.length) * by' ≤ 140737488355328 ∧ K (.own id e k (rows ++ xs)) ⟨dgTm id σ.tm, dgBx id σ.bx, σ.nx, σ.lg⟩
        | none => False
      | _ => False
    | _ => False
def aAo2 (L : Option Lay) (e' id e k : Nat) (rows : List (List C)) (x : C) (σ : St) (K : C → St → Prop) : Prop :=
    match L with
      | some ⟨_, k', by', some z⟩ => match x.rows? k with
        | some xs => e' = e ∧ k' = k ∧ z.length = k ∧ 0 < k ∧ rows.length + xs.length ≤ 9223372036854775807 ∧ (rows.length + xs.length) * by' ≤ 140737488355328 ∧ K (.own id e k (rows ++ xs)) ⟨dgTm id σ.tm, dgBx id σ.bx, σ.nx, σ.lg⟩
        | none => False
      | _ => False
def aAo3 (xs : Option (List (List C))) (by' id e k : Nat) (rows : List (List C)) (σ : St) (K : C → St → Prop) : Prop :=
   match xs with
        | some xs => rows.length + xs.length ≤ 9223372036854775807 ∧ (rows.length + xs.length) * by' ≤ 140737488355328 ∧ K (.own id e k (rows ++ xs)) ⟨dgTm id σ.tm, dgBx id σ.bx, σ.nx, σ.lg⟩
        | none => False
def aAl1 (L : Option Lay) (σ : St) (K : C → St → Prop) : Prop :=
  match L with
  | some ⟨_, _, _, some z⟩ => (z.all Value.oneCell') = true ∧ K (.ptr σ.bx.length 0) ⟨σ.tm, σ.bx ++ [z.map ofConst], σ.nx, σ.lg⟩
  | _ => False
def aSm1 (L : Option Lay) (p c : C) (bx : List (List C)) (K : C → Prop) : Prop :=
  match L, p with
  | some L, .ptr i off => match bx[i]? with
    | some cs => c.partB = true ∧ (c.cells.all C.cellB) = true ∧ c.cells.length = L.size ∧ off + L.size ≤ cs.length ∧ sameC ((cs.drop off).take L.size) c.cells ∧ K .any
    | none => False
  | _, _ => False
def aSm2 (cs : Option (List C)) (off size : Nat) (c : C) (K : C → Prop) : Prop :=
  match cs with
    | some cs => c.partB = true ∧ (c.cells.all C.cellB) = true ∧ c.cells.length = size ∧ off + size ≤ cs.length ∧ sameC ((cs.drop off).take size) c.cells ∧ K .any
    | none => False
def aSt1 (L : Option Lay) (p c : C) (σ : St) (K : C → St → Prop) : Prop :=
  match L, p with
  | some L, .ptr i off => match σ.bx[i]? with
    | some cs => c.partB = true ∧ (c.cells.all C.cellB) = true ∧ c.cells.length = L.size ∧ off + L.size ≤ cs.length ∧ K .any ⟨σ.tm, σ.bx.set i (cs.take off ++ c.cells ++ cs.drop (off + L.size)), σ.nx, σ.lg⟩
    | none => False
  | _, _ => False
def aSt2 (cs : Option (List C)) (i off size : Nat) (c : C) (σ : St) (K : C → St → Prop) : Prop :=
  match cs with
    | some cs => c.partB = true ∧ (c.cells.all C.cellB) = true ∧ c.cells.length = size ∧ off + size ≤ cs.length ∧ K .any ⟨σ.tm, σ.bx.set i (cs.take off ++ c.cells ++ cs.drop (off + size)), σ.nx, σ.lg⟩
    | none => False
/-- a text of a box's bytes -/
def aBytesB (cs : Option (List C)) (off n : Nat) (K : C → Prop) : Prop := match cs with
      | some cs => ∃ l : List UInt8, l.length = n ∧ (cs.drop off).take n = l.map (fun b => C.sc (.int .u8 (b.toNat : Int))) ∧ K (.str l)
      | none => False
theorem aBytesB.mk {cs : List C} {off n : Nat} {K : C → Prop} (l : List UInt8) (hl : l.length = n) (h : (cs.drop off).take n = l.map (fun b => C.sc (.int .u8 (b.toNat : Int)))) (hK : K (.str l)) : aBytesB (some cs) off n K := ⟨l, hl, h, hK⟩
def aCvb1 (P : Program) (D S : Option Lay) (bx : List (List C)) (i off n : Nat) (K : C → Prop) : Prop :=
  match D, S with
  | some ⟨.str, _, _, _⟩, some ⟨.slice e, _, _, _⟩ => match lay P e with
    | some ⟨.int .u8, _, _, _⟩ => match bx[i]? with
      | some cs => ∃ l : List UInt8, l.length = n ∧ (cs.drop off).take n = l.map (fun b => C.sc (.int .u8 (b.toNat : Int))) ∧ K (.str l)
      | none => False
    | _ => False
  | _, _ => False
def aCvb2 (L : Option Lay) (cs : Option (List C)) (off n : Nat) (K : C → Prop) : Prop :=
  match L with
    | some ⟨.int .u8, _, _, _⟩ => match cs with
      | some cs => ∃ l : List UInt8, l.length = n ∧ (cs.drop off).take n = l.map (fun b => C.sc (.int .u8 (b.toNat : Int))) ∧ K (.str l)
      | none => False
    | _ => False
def aBB1 (P : Program) (L : Option Lay) (n : Nat) (parts : List (Nat × C)) (σ : St) (K : C → St → Prop) : Prop :=
  match L with
  | some ⟨.slice e, _, _, _⟩ => match lay P e with
    | some ⟨_, k, _, some z⟩ => z.length = k ∧ 0 < k ∧ n * k ≤ 16777216 ∧ (parts.all fun p => p.2.frz.partB) = true ∧ match aFill (fun i => some (i * k, k)) (List.replicate n (z.map ofConst)).flatten (parts.map fun p => (p.1, p.2.frz)) with
      | some cs => (cs.all C.cellB) = true ∧ cs.length = n * k ∧ K (.bs σ.bx.length 0 k n n) ⟨σ.tm, σ.bx ++ [cs], σ.nx, σ.lg⟩
      | none => False
    | _ => False
  | _ => False
def aBB2 (L : Option Lay) (n : Nat) (parts : List (Nat × C)) (σ : St) (K : C → St → Prop) : Prop :=
   match L with
    | some ⟨_, k, _, some z⟩ => z.length = k ∧ 0 < k ∧ n * k ≤ 16777216 ∧ (parts.all fun p => p.2.frz.partB) = true ∧ match aFill (fun i => some (i * k, k)) (List.replicate n (z.map ofConst)).flatten (parts.map fun p => (p.1, p.2.frz)) with
      | some cs => (cs.all C.cellB) = true ∧ cs.length = n * k ∧ K (.bs σ.bx.length 0 k n n) ⟨σ.tm, σ.bx ++ [cs], σ.nx, σ.lg⟩
      | none => False
    | _ => False
def aBB3 (cs : Option (List C)) (k n : Nat) (σ : St) (K : C → St → Prop) : Prop :=
  match cs with
      | some cs => (cs.all C.cellB) = true ∧ cs.length = n * k ∧ K (.bs σ.bx.length 0 k n n) ⟨σ.tm, σ.bx ++ [cs], σ.nx, σ.lg⟩
      | none => False
def aPB1 (P : Program) (L : Option Lay) (p : Nat) (s x : C) (σ : St) (K : C → St → Prop) : Prop :=
  match L with
  | some ⟨.slice e, _, _, _⟩ => match lay P e with
    | some ⟨_, k, by', some z⟩ => match x.xs? k σ.bx with
      | some (m, xs) => z.length = k ∧ 0 < k ∧ (z.all Value.oneCell') = true ∧ 0 < m ∧ match s with
        | .sc (.slice none 0 0) => m ≤ 9223372036854775807 ∧ m * by' ≤ 140737488355328 ∧ ∀ c, m ≤ c → c ≤ maxLen → K (.bs σ.bx.length 0 k m c) ⟨σ.tm, σ.bx ++ [xs ++ List.replicate ((c - m) * k) .any], σ.nx, σ.lg⟩
        | .bs i 0 k' n c => match σ.bx[i]? with
          | some cs => k' = k ∧ p ≤ i ∧ cs.length = c * k ∧ n ≤ c ∧ c ≤ 9223372036854775807 ∧ n + m ≤ 9223372036854775807 ∧ (n + m) * by' ≤ 140737488355328 ∧
              ∀ c', n + m ≤ c' → c' ≤ maxLen → K (.bs i 0 k (n + m) c') ⟨reTm (fpBut i) some σ.tm, butBx i (C.reL (fpBut i) some (cs.take (n * k) ++ xs) ++ List.replicate ((c' - (n + m)) * k) .any) σ.bx, σ.nx, σ.lg⟩
          | none => False
        | _ => False
      | none => False
    | _ => False
  | _ => False
def aPB2 (L : Option Lay) (p : Nat) (s x : C) (σ : St) (K : C → St → Prop) : Prop :=
    match L with
    | some ⟨_, k, by', some z⟩ => match x.xs? k σ.bx with
      | some (m, xs) => z.length = k ∧ 0 < k ∧ (z.all Value.oneCell') = true ∧ 0 < m ∧ match s with
        | .sc (.slice none 0 0) => m ≤ 9223372036854775807 ∧ m * by' ≤ 140737488355328 ∧ ∀ c, m ≤ c → c ≤ maxLen → K (.bs σ.bx.length 0 k m c) ⟨σ.tm, σ.bx ++ [xs ++ List.replicate ((c - m) * k) .any], σ.nx, σ.lg⟩
        | .bs i 0 k' n c => match σ.bx[i]? with
          | some cs => k' = k ∧ p ≤ i ∧ cs.length = c * k ∧ n ≤ c ∧ c ≤ 9223372036854775807 ∧ n + m ≤ 9223372036854775807 ∧ (n + m) * by' ≤ 140737488355328 ∧
              ∀ c', n + m ≤ c' → c' ≤ maxLen → K (.bs i 0 k (n + m) c') ⟨reTm (fpBut i) some σ.tm, butBx i (C.reL (fpBut i) some (cs.take (n * k) ++ xs) ++ List.replicate ((c' - (n + m)) * k) .any) σ.bx, σ.nx, σ.lg⟩
          | none => False
        | _ => False
      | none => False
    | _ => False
/-- an append to a box, or to nothing: the elements' cells, what they are appended to -/
def aPB3 (X : Option (Nat × List C)) (p k by' : Nat) (z : List Value) (s : C) (σ : St) (K : C → St → Prop) : Prop :=
    match X with
      | some (m, xs) => z.length = k ∧ 0 < k ∧ (z.all Value.oneCell') = true ∧ 0 < m ∧ match s with
        | .sc (.slice none 0 0) => m ≤ 9223372036854775807 ∧ m * by' ≤ 140737488355328 ∧ ∀ c, m ≤ c → c ≤ maxLen → K (.bs σ.bx.length 0 k m c) ⟨σ.tm, σ.bx ++ [xs ++ List.replicate ((c - m) * k) .any], σ.nx, σ.lg⟩
        | .bs i 0 k' n c => match σ.bx[i]? with
          | some cs => k' = k ∧ p ≤ i ∧ cs.length = c * k ∧ n ≤ c ∧ c ≤ 9223372036854775807 ∧ n + m ≤ 9223372036854775807 ∧ (n + m) * by' ≤ 140737488355328 ∧
              ∀ c', n + m ≤ c' → c' ≤ maxLen → K (.bs i 0 k (n + m) c') ⟨reTm (fpBut i) some σ.tm, butBx i (C.reL (fpBut i) some (cs.take (n * k) ++ xs) ++ List.replicate ((c' - (n + m)) * k) .any) σ.bx, σ.nx, σ.lg⟩
          | none => False
        | _ => False
      | none => False
def bsO (j : Option Nat) (off k n c : Nat) : C := match j with | some j => .bs j off k n c | none => .any
def xsB (k' k off n : Nat) (cs : Option (List C)) : Option (Nat × List C) := if k' = k then cs.bind fun cs => if off + n * k ≤ cs.length then some (n, (cs.drop off).take (n * k)) else none else none
def ownO (j : Option Nat) (e k : Nat) (rows : List (List C)) : C := match j with | some j => .own j e k rows | none => .sl k rows
def rowO (cs : Option (List C)) (off : Nat) : C := match cs with | some cs => .row ((C.frzL cs).drop off) | none => .any
def ptrO (j : Option Nat) (off : Nat) : C := match j with | some j => .ptr j off | none => .any
/-- a variable that is laid and filled is at hand -/
def aLend (cs : Option (List C)) (p : Option Tmp) (σ : St) (K : St → Prop) : Prop := match cs, p with
    | some cs, some p => K ⟨(p, .ptr σ.bx.length 0) :: σ.tm, σ.bx ++ [cs], σ.nx, σ.lg⟩
    | _, _ => False
/-- maps -/
def aMm1 (M : Option (MKd × C)) (t : TypeId) (r : Option C) (nx : Nat) (K : C → Nat → Prop) : Prop :=
  match M with
  | some (kd, _) => match r with
    | none => K (.mo nx t kd.nil []) (nx + 1)
    | some (.sc (.int _ _)) => K (.mo nx t kd.nil []) (nx + 1)
    | _ => False
  | none => False
def aLk1 (M : Option (MKd × C)) (t : TypeId) (m key : C) (ok : Bool) (K : C → Prop) : Prop :=
  match M with
  | some (.int k, z) => match m, key with
    | .mo _ t' (.int k' l) vs, .sc (.int q n) => t' = t ∧ k' = k ∧ q = k ∧ aLook2 (mget n l vs) z ok K
    | _, _ => False
  | some (.str, z) => match m, key with
    | .mo _ t' (.str l) vs, .str s => t' = t ∧ aLook2 (mget s l vs) z ok K
    | _, _ => False
  | none => False
def aMu1 (M : Option (MKd × C)) (t : TypeId) (m key x : C) (σ : St) (K : C → St → Prop) : Prop :=
  match M with
  | some (.int k, _) => match m, key with
    | .mo id t' (.int k' l) vs, .sc (.int q n) => t' = t ∧ k' = k ∧ q = k ∧ aMapUp2 id (.int k (mput n x.frz l vs).1) (mput n x.frz l vs).2 σ K
    | _, _ => False
  | some (.str, _) => match m, key with
    | .mo id t' (.str l) vs, .str s => t' = t ∧ aMapUp2 id (.str (mput s x.frz l vs).1) (mput s x.frz l vs).2 σ K
    | _, _ => False
  | none => False
def aLm1 (M : Option (MKd × C)) (n : Nat) (K : C → Prop) : Prop := match M with | some _ => K (.sc (.int .i64 (n : Int))) | none => False
def moO (j : Option Nat) (t : TypeId) (ks : MK) (vs : List C) : C := match j with | some j => .mo j t ks vs | none => .any
def evGl (x : Option (List C)) : C := match x with | some cs => .row cs | none => .any
/-- what is held: the simplifier goes by -/
structure Tag.{u} {α : Sort u} (a : α) : Type where
def baMm1 (M : Option (MKd × C)) (t : TypeId) (r : Option C) (nx : Nat) (K : C → Nat → Prop) (_ : Tag K) : Prop := aMm1 M t r nx K
def baLk1 (M : Option (MKd × C)) (t : TypeId) (m key : C) (ok : Bool) (K : C → Prop) (_ : Tag K) : Prop := aLk1 M t m key ok K
def baLook2 (r : Option C) (z : C) (ok : Bool) (K : C → Prop) (_ : Tag K) : Prop := aLook2 r z ok K
def baMu1 (M : Option (MKd × C)) (t : TypeId) (m key x : C) (σ : St) (K : C → St → Prop) (_ : Tag K) : Prop := aMu1 M t m key x σ K
def baLm1 (M : Option (MKd × C)) (n : Nat) (K : C → Prop) (_ : Tag K) : Prop := aLm1 M n K
def baSlB (sz i off k n cap : Nat) (lo hi mx : Option Int) (K : C → Prop) (_ : Tag K) : Prop := aSlB sz i off k n cap lo hi mx K
def baAppB2 (P : Program) (t : TypeId) (s x : C) (σ : St) (K : C → St → Prop) (_ : Tag K) : Prop := aAppB2 P t s x σ K
def baAppZ (P : Program) (t tn : TypeId) (s x : C) (σ : St) (K : C → St → Prop) (_ : Tag K) : Prop := aAppZ P t tn s x σ K
def baCopy (P : Program) (t : TypeId) (d x : C) (σ : St) (K : C → St → Prop) (_ : Tag K) : Prop := aCopy P t d x σ K
def baClear (P : Program) (t : TypeId) (x : C) (σ : St) (K : C → St → Prop) (_ : Tag K) : Prop := aClear P t x σ K
def baCap (P : Program) (t : TypeId) (c : C) (K : C → Prop) (_ : Tag K) : Prop := aCap P t c K
def baCap1 (L : Option Lay) (c : C) (K : C → Prop) (_ : Tag K) : Prop := aCap1 L c K
def baConvX (P : Program) (bx : List (List C)) (s d : TypeId) (c : C) (K : C → Prop) (_ : Tag K) : Prop := aConvX P bx s d c K
def baBytesB (cs : Option (List C)) (off n : Nat) (K : C → Prop) (_ : Tag K) : Prop := aBytesB cs off n K
def baCvb1 (P : Program) (D S : Option Lay) (bx : List (List C)) (i off n : Nat) (K : C → Prop) (_ : Tag K) : Prop := aCvb1 P D S bx i off n K
def baCvb2 (L : Option Lay) (cs : Option (List C)) (off n : Nat) (K : C → Prop) (_ : Tag K) : Prop := aCvb2 L cs off n K
def baBuildBox (P : Program) (t : TypeId) (n : Nat) (parts : List (Nat × C)) (σ : St) (K : C → St → Prop) (_ : Tag K) : Prop := aBuildBox P t n parts σ K
def baBB1 (P : Program) (L : Option Lay) (n : Nat) (parts : List (Nat × C)) (σ : St) (K : C → St → Prop) (_ : Tag K) : Prop := aBB1 P L n parts σ K
def baBB2 (L : Option Lay) (n : Nat) (parts : List (Nat × C)) (σ : St) (K : C → St → Prop) (_ : Tag K) : Prop := aBB2 L n parts σ K
def baBB3 (cs : Option (List C)) (k n : Nat) (σ : St) (K : C → St → Prop) (_ : Tag K) : Prop := aBB3 cs k n σ K
def baAppBox (P : Program) (p : Nat) (t : TypeId) (s x : C) (σ : St) (K : C → St → Prop) (_ : Tag K) : Prop := aAppBox P p t s x σ K
def baPB1 (P : Program) (L : Option Lay) (p : Nat) (s x : C) (σ : St) (K : C → St → Prop) (_ : Tag K) : Prop := aPB1 P L p s x σ K
def baPB2 (L : Option Lay) (p : Nat) (s x : C) (σ : St) (K : C → St → Prop) (_ : Tag K) : Prop := aPB2 L p s x σ K
def baPB3 (X : Option (Nat × List C)) (p k by' : Nat) (z : List Value) (s : C) (σ : St) (K : C → St → Prop) (_ : Tag K) : Prop := aPB3 X p k by' z s σ K
def bABr (c : C) (X Y : Prop) (_ : Tag X) (_ : Tag Y) : Prop := ABr c X Y
def bABrU (c : C) (U X Y : Prop) (_ : Tag U) (_ : Tag X) (_ : Tag Y) : Prop := ABrU c U X Y
def baGuard (ops : Array Oper) (tm : List (Nat × C)) (g : Option (Nat × Bool)) (X Y : Prop) (_ : Tag ops) (_ : Tag X) (_ : Tag Y) : Prop := aGuard ops tm g X Y
def baGd (d : Option Tmp) (tm : List (Nat × C)) (want : Bool) (X Y : Prop) (_ : Tag X) (_ : Tag Y) : Prop := aGd d tm want X Y
def bawp (P : Program) (G : Globs) (h : Hd) (c : Code) (Q : Exit → St → Prop) (σ : St) (_ : Tag c) (_ : Tag Q) : Prop := awp P G h c Q σ
def baops (P : Program) (G : Globs) (h : Hd) (ops : Array Oper) (l : List Oper) (σ : St) (K : St → Prop) (_ : Tag h) (_ : Tag ops) (_ : Tag l) (_ : Tag K) : Prop := aops P G h ops l σ K
def badops (P : Program) (G : Globs) (h : Hd) (ops : Array Oper) (l : List Oper) (br : List Bool) (σ : St) (K : St → Prop) (_ : Tag h) (_ : Tag ops) (_ : Tag l) (_ : Tag K) : Prop := adops P G h ops l br σ K
def badraw (P : Program) (G : Globs) (h : Hd) (ops : Array Oper) (br : List Bool) (σ : St) (K : St → Prop) (_ : Tag h) (_ : Tag ops) (_ : Tag K) : Prop := adraw P G h ops br σ K
def bladops (P : Program) (G : Globs) (ops : Array Oper) (a s : Nat) (l : List Oper) (i : Nat) (cs : Option (List C)) (σ : St) (K : St → Prop) (_ : Tag ops) (_ : Tag l) (_ : Tag K) : Prop := ladops P G ops a s l i cs σ K
def baLend (cs : Option (List C)) (p : Option Tmp) (σ : St) (K : St → Prop) (_ : Tag K) : Prop := aLend cs p σ K
def baLaid (L : Option Lay) (K : Prop) (_ : Tag K) : Prop := aLaid L K
def baLate (L : Option Lay) (c : C) (K : C → Prop) (_ : Tag K) : Prop := aLate L c K
def baEff (P : Program) (G : Globs) (h : Hd) (op : Op) (σ : St) (K : C → St → Prop) (_ : Tag h) (_ : Tag op) (_ : Tag K) : Prop := aEff P G h op σ K
def baCallC (P : Program) (G : Globs) (f : FuncId) (args fargs : List C) (σ : St) (K : C → St → Prop) (_ : Tag K) : Prop := aCallC P G f args fargs σ K
def baCallV (P : Program) (G : Globs) (h : Hd) (c : C) (args : List C) (σ : St) (K : C → St → Prop) (_ : Tag h) (_ : Tag K) : Prop := aCallV P G h c args σ K
def baYield1 (y : Yd) (it : Option (List C)) (args : List C) (σ : St) (K : C → St → Prop) (_ : Tag y) (_ : Tag K) : Prop := aYield1 y it args σ K
def bARange (P : Program) (G : Globs) (p : Nat) (A B : Nat → (Exit → St → Prop) → St → Prop) (Q : Exit → St → Prop) (ps : List Tmp) (c : C) (σ : St) (_ : Tag A) (_ : Tag B) (_ : Tag Q) : Prop := ARange P G p A B Q ps c σ
def baPure (P : Program) (G : Globs) (bx : List (List C)) (ev : Operand → C) (op : Op) (nx : Nat) (K : C → Nat → Prop) (_ : Tag ev) (_ : Tag op) (_ : Tag K) : Prop := aPure P G bx ev op nx K
def baRes (P : Program) (σ : St) (rs : List ResultVar) (K : C → Prop) (_ : Tag K) : Prop := aRes P σ rs K
def baResOne (P : Program) (σ : St) (rv : ResultVar) (K : C → Prop) (_ : Tag K) : Prop := aResOne P σ rv K
def baBin (P : Program) (t : TypeId) (op : BinOp) (x y : C) (K : C → Prop) (_ : Tag K) : Prop := aBin P t op x y K
def baInt (op : BinOp) (k : IntKind) (a b : Int) (K : C → Prop) (_ : Tag K) : Prop := aInt op k a b K
def baNilL (l : Option Lay) (op : BinOp) (x : C) (K : C → Prop) (_ : Tag K) : Prop := aNilL l op x K
def baNil1 (op : BinOp) (b : Bool) (K : C → Prop) (_ : Tag K) : Prop := aNil1 op b K
def baStr (op : BinOp) (a b : List UInt8) (K : C → Prop) (_ : Tag K) : Prop := aStr op a b K
def baBool (op : BinOp) (a b : Bool) (K : C → Prop) (_ : Tag K) : Prop := aBool op a b K
def baBool1 (L : Option Lay) (op : BinOp) (a b : Bool) (K : C → Prop) (_ : Tag K) : Prop := aBool1 L op a b K
def baEq0 (op : BinOp) (ks : Option (List LK)) (xs ys : List C) (K : C → Prop) (_ : Tag K) : Prop := aEq0 op ks xs ys K
def baEq (n : Bool) (ks : List LK) (xs ys : List C) (e : Bool) (K : C → Prop) (_ : Tag K) : Prop := aEq n ks xs ys e K
def baUn (op : UnOp) (x : C) (K : C → Prop) (_ : Tag K) : Prop := aUn op x K
def baLoad (P : Program) (t : TypeId) (c : C) (bx : List (List C)) (K : C → Prop) (_ : Tag K) : Prop := aLoad P t c bx K
def baLoad1 (L : Option Lay) (c : C) (bx : List (List C)) (K : C → Prop) (_ : Tag K) : Prop := aLoad1 L c bx K
def baLoad2 (cs : Option (List C)) (off : Nat) (L : Lay) (K : C → Prop) (_ : Tag K) : Prop := aLoad2 cs off L K
def baTake (L : Lay) (cs : List C) (K : C → Prop) (_ : Tag K) : Prop := aTake L cs K
def baOpt (x : Option C) (K : C → Prop) (_ : Tag K) : Prop := aOpt x K
def baExtract (c : C) (i : Nat) (K : C → Prop) (_ : Tag K) : Prop := aExtract c i K
def baNil (c : C) (K : C → Prop) (_ : Tag K) : Prop := aNil c K
def baField (P : Program) (t : TypeId) (c : C) (f : Nat) (K : C → Prop) (_ : Tag K) : Prop := aField P t c f K
def baField1 (L : Option Lay) (c : C) (f : Nat) (K : C → Prop) (_ : Tag K) : Prop := aField1 L c f K
def baField2 (f : Option (Nat × Nat × Bool)) (cs : List C) (K : C → Prop) (_ : Tag K) : Prop := aField2 f cs K
def baFieldAddr (P : Program) (t : TypeId) (c : C) (f : Nat) (K : C → Prop) (_ : Tag K) : Prop := aFieldAddr P t c f K
def baFA1 (L : Option Lay) (c : C) (f : Nat) (K : C → Prop) (_ : Tag K) : Prop := aFA1 L c f K
def baFA2 (f : Option (Nat × Nat × Bool)) (c : C) (K : C → Prop) (_ : Tag K) : Prop := aFA2 f c K
def baIndexAddr (P : Program) (t : TypeId) (c : C) (i : C) (K : C → Prop) (_ : Tag K) : Prop := aIndexAddr P t c i K
def baIA1 (P : Program) (L : Option Lay) (c : C) (i : C) (K : C → Prop) (_ : Tag K) : Prop := aIA1 P L c i K
def baIAs (L : Option Lay) (c : C) (n : Int) (K : C → Prop) (_ : Tag K) : Prop := aIAs L c n K
def baIAr (rows : Option (List (List C))) (n : Int) (K : C → Prop) (_ : Tag K) : Prop := aIAr rows n K
def baAt (r : Option (List C)) (n : Int) (K : C → Prop) (_ : Tag K) : Prop := aAt r n K
def baIAa (L : Option Lay) (c : C) (m : Nat) (n : Int) (K : C → Prop) (_ : Tag K) : Prop := aIAa L c m n K
def baIndex (P : Program) (t : TypeId) (c i : C) (K : C → Prop) (_ : Tag K) : Prop := aIndex P t c i K
def baIx1 (L : Option Lay) (c i : C) (K : C → Prop) (_ : Tag K) : Prop := aIx1 L c i K
def baByte (b : Option UInt8) (n : Int) (K : C → Prop) (_ : Tag K) : Prop := aByte b n K
def baSlice (P : Program) (t : TypeId) (c : C) (lo hi mx : Option C) (K : C → Prop) (_ : Tag K) : Prop := aSlice P t c lo hi mx K
def baSl0 (P : Program) (t : TypeId) (c : C) (lo hi mx : Option (Option Int)) (K : C → Prop) (_ : Tag K) : Prop := aSl0 P t c lo hi mx K
def baSl1 (P : Program) (L : Option Lay) (c : C) (lo hi mx : Option Int) (K : C → Prop) (_ : Tag K) : Prop := aSl1 P L c lo hi mx K
def baSlS (L : Option Lay) (c : C) (lo hi mx : Option Int) (K : C → Prop) (_ : Tag K) : Prop := aSlS L c lo hi mx K
def baSlR (rows : Option (List (List C))) (k : Nat) (lo hi mx : Option Int) (K : C → Prop) (_ : Tag K) : Prop := aSlR rows k lo hi mx K
def baBytes (rows : Option (List (List C))) (K : C → Prop) (_ : Tag K) : Prop := aBytes rows K
def baConv (P : Program) (s d : TypeId) (c : C) (K : C → Prop) (_ : Tag K) : Prop := aConv P s d c K
def baCv1 (P : Program) (D S : Option Lay) (c : C) (K : C → Prop) (_ : Tag K) : Prop := aCv1 P D S c K
def baCvB (L : Option Lay) (c : C) (K : C → Prop) (_ : Tag K) : Prop := aCvB L c K
def baCvS (L : Option Lay) (l : List UInt8) (K : C → Prop) (_ : Tag K) : Prop := aCvS L l K
def baLen (P : Program) (t : TypeId) (c : C) (K : C → Prop) (_ : Tag K) : Prop := aLen P t c K
def baLenL (L : Option Lay) (n : Int) (K : C → Prop) (_ : Tag K) : Prop := aLenL L n K
def baLenT (L : Option Lay) (n : Int) (K : C → Prop) (_ : Tag K) : Prop := aLenT L n K
def baBuild (P : Program) (t : TypeId) (parts : List (Nat × C)) (K : C → Prop) (_ : Tag K) : Prop := aBuild P t parts K
def baBd1 (L : Option Lay) (parts : List (Nat × C)) (K : C → Prop) (_ : Tag K) : Prop := aBd1 L parts K
def baFl (cs : Option (List C)) (K : C → Prop) (_ : Tag K) : Prop := aFl cs K
def baBuildSlice (P : Program) (t : TypeId) (n : Nat) (parts : List (Nat × C)) (nx : Nat) (K : C → Nat → Prop) (_ : Tag K) : Prop := aBuildSlice P t n parts nx K
def baBS1 (P : Program) (L : Option Lay) (n : Nat) (parts : List (Nat × C)) (nx : Nat) (K : C → Nat → Prop) (_ : Tag K) : Prop := aBS1 P L n parts nx K
def baBS2 (L : Option Lay) (e : TypeId) (n : Nat) (parts : List (Nat × C)) (nx : Nat) (K : C → Nat → Prop) (_ : Tag K) : Prop := aBS2 L e n parts nx K
def baBS3 (cs : Option (List C)) (e k n nx : Nat) (K : C → Nat → Prop) (_ : Tag K) : Prop := aBS3 cs e k n nx K
def baMake (P : Program) (t : TypeId) (l c : C) (nx : Nat) (K : C → Nat → Prop) (_ : Tag K) : Prop := aMake P t l c nx K
def baMakeBox (P : Program) (t : TypeId) (l c : C) (σ : St) (K : C → St → Prop) (_ : Tag K) : Prop := aMakeBox P t l c σ K
def baMkB1 (P : Program) (L : Option Lay) (l c : C) (σ : St) (K : C → St → Prop) (_ : Tag K) : Prop := aMkB1 P L l c σ K
def baMkB2 (L : Option Lay) (l c : Int) (σ : St) (K : C → St → Prop) (_ : Tag K) : Prop := aMkB2 L l c σ K
def baMk1 (P : Program) (L : Option Lay) (l c : C) (nx : Nat) (K : C → Nat → Prop) (_ : Tag K) : Prop := aMk1 P L l c nx K
def baMk2 (L : Option Lay) (e : TypeId) (l c : Int) (nx : Nat) (K : C → Nat → Prop) (_ : Tag K) : Prop := aMk2 L e l c nx K
def baAppend (P : Program) (t : TypeId) (s x : C) (σ : St) (K : C → St → Prop) (_ : Tag K) : Prop := aAppend P t s x σ K
def baAppNew (P : Program) (t : TypeId) (s x : C) (nx : Nat) (K : C → Nat → Prop) (_ : Tag K) : Prop := aAppNew P t s x nx K
def baAp1 (P : Program) (L : Option Lay) (s x : C) (nx : Nat) (K : C → Nat → Prop) (_ : Tag K) : Prop := aAp1 P L s x nx K
def baAp2 (L : Option Lay) (e : TypeId) (s x : C) (nx : Nat) (K : C → Nat → Prop) (_ : Tag K) : Prop := aAp2 L e s x nx K
def baAp3 (xs : Option (List (List C))) (s : C) (e k by' : Nat) (z : List Value) (nx : Nat) (K : C → Nat → Prop) (_ : Tag K) : Prop := aAp3 xs s e k by' z nx K
def baAo1 (P : Program) (L : Option Lay) (id e k : Nat) (rows : List (List C)) (x : C) (σ : St) (K : C → St → Prop) (_ : Tag K) : Prop := aAo1 P L id e k rows x σ K
def baAo2 (L : Option Lay) (e' id e k : Nat) (rows : List (List C)) (x : C) (σ : St) (K : C → St → Prop) (_ : Tag K) : Prop := aAo2 L e' id e k rows x σ K
def baAo3 (xs : Option (List (List C))) (by' id e k : Nat) (rows : List (List C)) (σ : St) (K : C → St → Prop) (_ : Tag K) : Prop := aAo3 xs by' id e k rows σ K
def baCallF (P : Program) (G : Globs) (callee : C) (args : List C) (nx : Nat) (K : C → Nat → Prop) (_ : Tag K) : Prop := aCallF P G callee args nx K
def baCallN (P : Program) (G : Globs) (f : FuncId) (args : List C) (nx : Nat) (K : C → Nat → Prop) (_ : Tag K) : Prop := aCallN P G f args nx K
def baBox (c : C) (σ : St) (K : C → St → Prop) (_ : Tag K) : Prop := aBox c σ K
def baAl1 (L : Option Lay) (σ : St) (K : C → St → Prop) (_ : Tag K) : Prop := aAl1 L σ K
def baSt1 (L : Option Lay) (p c : C) (σ : St) (K : C → St → Prop) (_ : Tag K) : Prop := aSt1 L p c σ K
def baSm1 (L : Option Lay) (p c : C) (bx : List (List C)) (K : C → Prop) (_ : Tag K) : Prop := aSm1 L p c bx K
def baSm2 (cs : Option (List C)) (off size : Nat) (c : C) (K : C → Prop) (_ : Tag K) : Prop := aSm2 cs off size c K
def baSt2 (cs : Option (List C)) (i off size : Nat) (c : C) (σ : St) (K : C → St → Prop) (_ : Tag K) : Prop := aSt2 cs i off size c σ K
def bALoop (p : Nat) (B : (Exit → St → Prop) → St → Prop) (Q : Exit → St → Prop) (σ : St) (_ : Tag B) (_ : Tag Q) : Prop := ALoop p B Q σ
def bthenK (next : St → Prop) (Q : Exit → St → Prop) (_ : Tag next) (_ : Tag Q) : Exit → St → Prop := thenK next Q
def bblockK (id : Nat) (Q : Exit → St → Prop) (_ : Tag Q) : Exit → St → Prop := blockK id Q
def bnoGotoK (Q : Exit → St → Prop) (_ : Tag Q) : Exit → St → Prop := noGotoK Q
def bloopK (next : St → Prop) (Q : Exit → St → Prop) (_ : Tag next) (_ : Tag Q) : Exit → St → Prop := loopK next Q
def bonlyK (K : St → Prop) (_ : Tag K) : Exit → St → Prop := onlyK K
def broundK (m : Nat) (tm : List (Nat × C)) (st : Bool) (next : St) (Q : Exit → St → Prop) (_ : Tag next) (_ : Tag Q) : Exit → St → Prop := roundK m tm st next Q
def bretK (P : Program) (rs : List ResultVar) (K : C → St → Prop) (_ : Tag K) : Exit → St → Prop := retK P rs K
theorem s_skip : bawp P G h .skip Q σ ⟨⟩ ⟨⟩ = Q .normal σ := (show awp P G h .skip Q σ = Q .normal σ from rfl)
theorem s_label {l : Nat} : bawp P G h (.label l) Q σ ⟨⟩ ⟨⟩ = Q .normal σ := (show awp P G h (.label l) Q σ = Q .normal σ from rfl)
theorem s_exit {id : Nat} : bawp P G h (.exit id) Q σ ⟨⟩ ⟨⟩ = Q (.exit id) σ := (show awp P G h (.exit id) Q σ = Q (.exit id) σ from rfl)
theorem s_goto {l : Nat} : bawp P G h (.goto l) Q σ ⟨⟩ ⟨⟩ = Q (.goto l) σ := (show awp P G h (.goto l) Q σ = Q (.goto l) σ from rfl)
theorem s_ret : bawp P G h .ret Q σ ⟨⟩ ⟨⟩ = Q .ret σ := (show awp P G h .ret Q σ = Q .ret σ from rfl)
theorem s_seq {a b : Code} : bawp P G h (.seq a b) Q σ ⟨⟩ ⟨⟩ = bawp P G h a (bthenK (fun σ => bawp P G h b Q σ ⟨⟩ ⟨⟩) Q ⟨⟩ ⟨⟩) σ ⟨⟩ ⟨⟩ := (show awp P G h (.seq a b) Q σ = awp P G h a (thenK (awp P G h b Q) Q) σ from rfl)
theorem s_cond {cc : Operand} {a b : Code} : bawp P G h (.cond cc a b) Q ⟨tm, bx, nx, lg⟩ ⟨⟩ ⟨⟩ = bABr (evOf G tm cc) (bawp P G h a Q ⟨tm, bx, nx, lg⟩ ⟨⟩ ⟨⟩) (bawp P G h b Q ⟨tm, bx, nx, lg⟩ ⟨⟩ ⟨⟩) ⟨⟩ ⟨⟩ := (show awp P G h (.cond cc a b) Q ⟨tm, bx, nx, lg⟩ = ABr (evOf G tm cc) (awp P G h a Q ⟨tm, bx, nx, lg⟩) (awp P G h b Q ⟨tm, bx, nx, lg⟩) from rfl)
theorem s_block {id : Nat} {a : Code} : bawp P G h (.block id a) Q σ ⟨⟩ ⟨⟩ = bawp P G h a (bblockK id Q ⟨⟩) σ ⟨⟩ ⟨⟩ := (show awp P G h (.block id a) Q σ = awp P G h a (blockK id Q) σ from rfl)
theorem s_loop {a : Code} : bawp P G ⟨p, yd, bf⟩ (.loop a) Q σ ⟨⟩ ⟨⟩ = bALoop p (fun Q σ => bawp P G ⟨p, yd, bf⟩ a Q σ ⟨⟩ ⟨⟩) Q σ ⟨⟩ ⟨⟩ := (show awp P G ⟨p, yd, bf⟩ (.loop a) Q σ = ALoop p (awp P G ⟨p, yd, bf⟩ a) Q σ from rfl)
theorem s_rangeF {a b : Code} {x : Operand} {ps : List Tmp} : bawp P G ⟨p, yd, bf⟩ (.rangeFunc x ps.toArray a b) Q ⟨tm, bx, nx, lg⟩ ⟨⟩ ⟨⟩ = bARange P G p (fun m => fun Q σ => bawp P G ⟨m, yd, bf⟩ a Q σ ⟨⟩ ⟨⟩) (fun m => fun Q σ => bawp P G ⟨m, yd, bf⟩ b Q σ ⟨⟩ ⟨⟩) Q ps (evOf G tm x) ⟨tm, bx, nx, lg⟩ ⟨⟩ ⟨⟩ ⟨⟩ := (show awp P G ⟨p, yd, bf⟩ (.rangeFunc x ps.toArray a b) Q ⟨tm, bx, nx, lg⟩ = ARange P G p (fun m => awp P G ⟨m, yd, bf⟩ a) (fun m => awp P G ⟨m, yd, bf⟩ b) Q ps (evOf G tm x) ⟨tm, bx, nx, lg⟩ from rfl)
theorem s_scope {a : Code} : bawp P G h (.scope a) Q σ ⟨⟩ ⟨⟩ = bawp P G h a (bnoGotoK Q ⟨⟩) σ ⟨⟩ ⟨⟩ := (show awp P G h (.scope a) Q σ = awp P G h a (noGotoK Q) σ from rfl)
theorem s_region {id : Nat} {l : List Oper} : bawp P G ⟨p, yd, bf⟩ (.region id l.toArray false) Q σ ⟨⟩ ⟨⟩ = baops P G ⟨p, yd, bf⟩ l.toArray l σ (Q .normal) ⟨⟩ ⟨⟩ ⟨⟩ ⟨⟩ := (show awp P G ⟨p, yd, bf⟩ (.region id l.toArray false) Q σ = aops P G ⟨p, yd, bf⟩ l.toArray l σ (Q .normal) from rfl)
theorem s_regiond {id : Nat} {l : List Oper} : bawp P G ⟨p, yd, bf⟩ (.region id l.toArray true) Q σ ⟨⟩ ⟨⟩ = badraw P G ⟨p, yd, bf⟩ l.toArray (bf id) σ (Q .normal) ⟨⟩ ⟨⟩ ⟨⟩ := (show awp P G ⟨p, yd, bf⟩ (.region id l.toArray true) Q σ = adraw P G ⟨p, yd, bf⟩ l.toArray (bf id) σ (Q .normal) from rfl)
theorem s_adraw0 {KS : St → Prop} {l : List Oper} : badraw P G h l.toArray [] σ KS ⟨⟩ ⟨⟩ ⟨⟩ = badops P G h l.toArray l [] σ KS ⟨⟩ ⟨⟩ ⟨⟩ ⟨⟩ := (show adraw P G h l.toArray [] σ KS = adops P G h l.toArray l [] σ KS from rfl)
theorem s_adrawF {KS : St → Prop} {l : List Oper} {r : List Bool} : badraw P G h l.toArray (false :: r) σ KS ⟨⟩ ⟨⟩ ⟨⟩ = badops P G h l.toArray l (false :: r) σ KS ⟨⟩ ⟨⟩ ⟨⟩ ⟨⟩ := (show adraw P G h l.toArray (false :: r) σ KS = adops P G h l.toArray l (false :: r) σ KS from rfl)
theorem s_adrawT1 {KS : St → Prop} {l : List Oper} : badraw P G h l.toArray [true] σ KS ⟨⟩ ⟨⟩ ⟨⟩ = badops P G h l.toArray l [true] σ KS ⟨⟩ ⟨⟩ ⟨⟩ ⟨⟩ := (show adraw P G h l.toArray [true] σ KS = adops P G h l.toArray l [true] σ KS from rfl)
theorem s_adrawT2 {KS : St → Prop} {l : List Oper} {r : List Bool} : badraw P G h l.toArray (true :: false :: r) σ KS ⟨⟩ ⟨⟩ ⟨⟩ = badops P G h l.toArray l (true :: false :: r) σ KS ⟨⟩ ⟨⟩ ⟨⟩ ⟨⟩ := (show adraw P G h l.toArray (true :: false :: r) σ KS = adops P G h l.toArray l (true :: false :: r) σ KS from rfl)
theorem s_adrawT3 {KS : St → Prop} {l : List Oper} : badraw P G h l.toArray [true, true] σ KS ⟨⟩ ⟨⟩ ⟨⟩ = badops P G h l.toArray l [true, true] σ KS ⟨⟩ ⟨⟩ ⟨⟩ ⟨⟩ := (show adraw P G h l.toArray [true, true] σ KS = adops P G h l.toArray l [true, true] σ KS from rfl)
theorem s_adrawT4 {KS : St → Prop} {l : List Oper} {r : List Bool} : badraw P G h l.toArray (true :: true :: false :: r) σ KS ⟨⟩ ⟨⟩ ⟨⟩ = badops P G h l.toArray l (true :: true :: false :: r) σ KS ⟨⟩ ⟨⟩ ⟨⟩ ⟨⟩ := (show adraw P G h l.toArray (true :: true :: false :: r) σ KS = adops P G h l.toArray l (true :: true :: false :: r) σ KS from rfl)
theorem s_adrawL {KS : St → Prop} {l : List Oper} {a s : Nat} : badraw P G h l.toArray (lateB a s) σ KS ⟨⟩ ⟨⟩ ⟨⟩ = bladops P G l.toArray a s l 0 none σ KS ⟨⟩ ⟨⟩ ⟨⟩ := (show adraw P G h l.toArray (lateB a s) σ KS = ladops P G l.toArray a s l 0 none σ KS from by unfold adraw; rw [lateOf_lateB])
theorem s_ladops0 {KS : St → Prop} {a s i : Nat} {cs : Option (List C)} {l : List Oper} : bladops P G l.toArray a s [] i cs σ KS ⟨⟩ ⟨⟩ ⟨⟩ = baLend cs ((l[a]?).bind (·.dst)) σ KS ⟨⟩ := (show ladops P G l.toArray a s [] i cs σ KS = aLend cs ((l[a]?).bind (·.dst)) σ KS from by simp only [ladops, aLend, List.getElem?_toArray]; rfl)
theorem s_ladopsA {KS : St → Prop} {a s : Nat} {cs : Option (List C)} {dst : Option Tmp} {ty : TypeId} {pos : String} {af : Array Edge} {g : Option (Nat × Bool)} {rest : List Oper} : bladops P G ops a s (⟨dst, .alloc t, ty, pos, af, g⟩ :: rest) a cs ⟨tm, bx, nx, lg⟩ KS ⟨⟩ ⟨⟩ ⟨⟩ = baLaid (lay P t) (bladops P G ops a s rest (a + 1) cs ⟨putT tm dst .any, bx, nx, lg⟩ KS ⟨⟩ ⟨⟩ ⟨⟩) ⟨⟩ := (show ladops P G ops a s (⟨dst, .alloc t, ty, pos, af, g⟩ :: rest) a cs ⟨tm, bx, nx, lg⟩ KS = aLaid (lay P t) (ladops P G ops a s rest (a + 1) cs ⟨putT tm dst .any, bx, nx, lg⟩ KS) from by simp only [ladops, if_true])
theorem s_ladopsS {KS : St → Prop} {a s : Nat} {cs : Option (List C)} {dst : Option Tmp} {ty : TypeId} {pos : String} {af : Array Edge} {g : Option (Nat × Bool)} {rest : List Oper} (hsa : (s == a) = false) : bladops P G ops a s (⟨dst, .store t y x, ty, pos, af, g⟩ :: rest) s cs ⟨tm, bx, nx, lg⟩ KS ⟨⟩ ⟨⟩ ⟨⟩ = baLate (lay P t) (evOf G tm x) (fun c => bladops P G ops a s rest (s + 1) (some c.cells) ⟨putT tm dst .any, bx, nx, lg⟩ KS ⟨⟩ ⟨⟩ ⟨⟩) ⟨⟩ := (show ladops P G ops a s (⟨dst, .store t y x, ty, pos, af, g⟩ :: rest) s cs ⟨tm, bx, nx, lg⟩ KS = aLate (lay P t) (evOf G tm x) fun c => ladops P G ops a s rest (s + 1) (some c.cells) ⟨putT tm dst .any, bx, nx, lg⟩ KS from by simp only [beq_eq_false_iff_ne] at hsa; simp only [ladops, if_neg hsa, if_true])
theorem s_ladops {KS : St → Prop} {a s i : Nat} {cs : Option (List C)} {dst : Option Tmp} {ty : TypeId} {pos : String} {af : Array Edge} {g : Option (Nat × Bool)} {rest : List Oper} {op : Op} (hia : (i == a) = false) (his : (i == s) = false) : bladops P G ops a s (⟨dst, op, ty, pos, af, g⟩ :: rest) i cs ⟨tm, bx, nx, lg⟩ KS ⟨⟩ ⟨⟩ ⟨⟩ = baGuard ops tm g (baPure P G bx (evOf G tm) op nx (fun c nx' => bladops P G ops a s rest (i + 1) cs ⟨putT tm dst c, bx, nx', lg⟩ KS ⟨⟩ ⟨⟩ ⟨⟩) ⟨⟩ ⟨⟩ ⟨⟩) (bladops P G ops a s rest (i + 1) cs ⟨putT tm dst (.sc undef), bx, nx, lg⟩ KS ⟨⟩ ⟨⟩ ⟨⟩) ⟨⟩ ⟨⟩ ⟨⟩ := (show ladops P G ops a s (⟨dst, op, ty, pos, af, g⟩ :: rest) i cs ⟨tm, bx, nx, lg⟩ KS = aGuard ops tm g (aPure P G bx (evOf G tm) op nx fun c nx' => ladops P G ops a s rest (i + 1) cs ⟨putT tm dst c, bx, nx', lg⟩ KS) (ladops P G ops a s rest (i + 1) cs ⟨putT tm dst (.sc undef), bx, nx, lg⟩ KS) from by simp only [beq_eq_false_iff_ne] at hia his; simp only [ladops, if_neg hia, if_neg his])
theorem s_lend {KS : St → Prop} {cs : List C} {u : Tmp} : baLend (some cs) (some u) ⟨tm, bx, nx, lg⟩ KS ⟨⟩ = KS ⟨(u, .ptr bx.length 0) :: tm, bx ++ [cs], nx, lg⟩ := (show aLend (some cs) (some u) ⟨tm, bx, nx, lg⟩ KS = KS ⟨(u, .ptr bx.length 0) :: tm, bx ++ [cs], nx, lg⟩ from rfl)
theorem s_laid {kd : LK} {k b1 : Nat} {z1 : List Value} : baLaid (some ⟨kd, k, b1, some z1⟩) X ⟨⟩ = (z1.length = k ∧ (z1.all Value.oneCell') = true ∧ X) := (show aLaid (some ⟨kd, k, b1, some z1⟩) X = (z1.length = k ∧ (z1.all Value.oneCell') = true ∧ X) from rfl)
theorem s_late {L : Lay} : baLate (some L) c K ⟨⟩ = (c.partB = true ∧ (c.cells.all C.cellB) = true ∧ c.cells.length = L.size ∧ K c) := (show aLate (some L) c K = (c.partB = true ∧ (c.cells.all C.cellB) = true ∧ c.cells.length = L.size ∧ K c) from rfl)
theorem s_only {KS : St → Prop} : bonlyK KS ⟨⟩ .normal σ = KS σ := (show onlyK KS .normal σ = KS σ from rfl)
theorem s_round_n {next : St} {b : Bool} : broundK m tm b next Q ⟨⟩ ⟨⟩ .normal σ = (b = false ∧ Weak m ⟨[], σ.bx, σ.nx, σ.lg⟩ (next.wt [])) := (show roundK m tm b next Q .normal σ = (b = false ∧ Weak m ⟨[], σ.bx, σ.nx, σ.lg⟩ (next.wt [])) from rfl)
theorem s_round_ret {next : St} {b : Bool} : broundK m tm b next Q ⟨⟩ ⟨⟩ .ret σ = (b = true ∧ ∃ σ' : St, σ'.bx.length = m ∧ Weak m ⟨[], σ.bx, σ.nx, σ.lg⟩ (σ'.wt []) ∧ Q .ret (σ'.wt tm)) := (show roundK m tm b next Q .ret σ = (b = true ∧ ∃ σ' : St, σ'.bx.length = m ∧ Weak m ⟨[], σ.bx, σ.nx, σ.lg⟩ (σ'.wt []) ∧ Q .ret (σ'.wt tm)) from rfl)
theorem s_round_exit {next : St} {b : Bool} {id : Nat} : broundK m tm b next Q ⟨⟩ ⟨⟩ (.exit id) σ = (b = true ∧ ∃ σ' : St, σ'.bx.length = m ∧ Weak m ⟨[], σ.bx, σ.nx, σ.lg⟩ (σ'.wt []) ∧ Q (.exit id) (σ'.wt tm)) := (show roundK m tm b next Q (.exit id) σ = (b = true ∧ ∃ σ' : St, σ'.bx.length = m ∧ Weak m ⟨[], σ.bx, σ.nx, σ.lg⟩ (σ'.wt []) ∧ Q (.exit id) (σ'.wt tm)) from rfl)
theorem s_round_goto {next : St} {b : Bool} {t : Nat} : broundK m tm b next Q ⟨⟩ ⟨⟩ (.goto t) σ = (b = true ∧ ∃ σ' : St, σ'.bx.length = m ∧ Weak m ⟨[], σ.bx, σ.nx, σ.lg⟩ (σ'.wt []) ∧ Q (.goto t) (σ'.wt tm)) := (show roundK m tm b next Q (.goto t) σ = (b = true ∧ ∃ σ' : St, σ'.bx.length = m ∧ Weak m ⟨[], σ.bx, σ.nx, σ.lg⟩ (σ'.wt []) ∧ Q (.goto t) (σ'.wt tm)) from rfl)
theorem s_wt {tm2 : List (Nat × C)} : St.wt ⟨tm, bx, nx, lg⟩ tm2 = ⟨tm2, bx, nx, lg⟩ := (show St.wt ⟨tm, bx, nx, lg⟩ tm2 = ⟨tm2, bx, nx, lg⟩ from rfl)
theorem s_putPs0 {cs : List C} : putPs [] cs tm = tm := (show putPs [] cs tm = tm from rfl)
theorem s_putPs {u : Nat} {ps : List Tmp} {cs : List C} : putPs (u :: ps) (c :: cs) tm = putPs ps cs ((u, c) :: tm) := (show putPs (u :: ps) (c :: cs) tm = putPs ps cs ((u, c) :: tm) from rfl)
theorem s_tlTm0 : tlTm m [] = [] := (show tlTm m [] = [] from rfl)
theorem s_tlTm {u : Nat} {r : List (Nat × C)} : tlTm m ((u, c) :: r) = (u, c.sel (fpKeep m)) :: tlTm m r := (show tlTm m ((u, c) :: r) = (u, c.sel (fpKeep m)) :: tlTm m r from rfl)
theorem s_then {next : St → Prop} : bthenK next Q ⟨⟩ ⟨⟩ .normal σ = next σ := (show thenK next Q .normal σ = next σ from rfl)
theorem s_then_exit {next : St → Prop} {id : Nat} : bthenK next Q ⟨⟩ ⟨⟩ (.exit id) σ = Q (.exit id) σ := (show thenK next Q (.exit id) σ = Q (.exit id) σ from rfl)
theorem s_then_ret {next : St → Prop} : bthenK next Q ⟨⟩ ⟨⟩ .ret σ = Q .ret σ := (show thenK next Q .ret σ = Q .ret σ from rfl)
theorem s_then_goto {next : St → Prop} {l : Nat} : bthenK next Q ⟨⟩ ⟨⟩ (.goto l) σ = Q (.goto l) σ := (show thenK next Q (.goto l) σ = Q (.goto l) σ from rfl)
theorem s_block_n {id : Nat} : bblockK id Q ⟨⟩ .normal σ = Q .normal σ := (show blockK id Q .normal σ = Q .normal σ from rfl)
theorem s_block_same {id : Nat} : bblockK id Q ⟨⟩ (.exit id) σ = Q .normal σ := (show blockK id Q (.exit id) σ = Q .normal σ from if_pos rfl)
theorem s_block_exit {id id2 : Nat} (h : (id2 == id) = false) : bblockK id Q ⟨⟩ (.exit id2) σ = Q (.exit id2) σ := (show blockK id Q (.exit id2) σ = Q (.exit id2) σ from if_neg (by simpa using h))
theorem s_block_ret {id : Nat} : bblockK id Q ⟨⟩ .ret σ = Q .ret σ := (show blockK id Q .ret σ = Q .ret σ from rfl)
theorem s_block_goto {id l : Nat} : bblockK id Q ⟨⟩ (.goto l) σ = Q (.goto l) σ := (show blockK id Q (.goto l) σ = Q (.goto l) σ from rfl)
theorem s_noGoto_n : bnoGotoK Q ⟨⟩ .normal σ = Q .normal σ := (show noGotoK Q .normal σ = Q .normal σ from rfl)
theorem s_noGoto_exit {id : Nat} : bnoGotoK Q ⟨⟩ (.exit id) σ = Q (.exit id) σ := (show noGotoK Q (.exit id) σ = Q (.exit id) σ from rfl)
theorem s_noGoto_ret : bnoGotoK Q ⟨⟩ .ret σ = Q .ret σ := (show noGotoK Q .ret σ = Q .ret σ from rfl)
theorem s_loop_n {next : St → Prop} : bloopK next Q ⟨⟩ ⟨⟩ .normal σ = next σ := (show loopK next Q .normal σ = next σ from rfl)
theorem s_loop_exit {next : St → Prop} {id : Nat} : bloopK next Q ⟨⟩ ⟨⟩ (.exit id) σ = Q (.exit id) σ := (show loopK next Q (.exit id) σ = Q (.exit id) σ from rfl)
theorem s_loop_ret {next : St → Prop} : bloopK next Q ⟨⟩ ⟨⟩ .ret σ = Q .ret σ := (show loopK next Q .ret σ = Q .ret σ from rfl)
theorem s_loop_goto {next : St → Prop} {l : Nat} : bloopK next Q ⟨⟩ ⟨⟩ (.goto l) σ = Q (.goto l) σ := (show loopK next Q (.goto l) σ = Q (.goto l) σ from rfl)
theorem s_ret_n {rs : List ResultVar} : bretK P rs K3 ⟨⟩ .normal σ = baRes P σ rs (fun c => K3 c σ) ⟨⟩ := (show retK P rs K3 .normal σ = aRes P σ rs fun c => K3 c σ from rfl)
theorem s_ret_r {rs : List ResultVar} : bretK P rs K3 ⟨⟩ .ret σ = baRes P σ rs (fun c => K3 c σ) ⟨⟩ := (show retK P rs K3 .ret σ = aRes P σ rs fun c => K3 c σ from rfl)
theorem s_res0 : baRes P σ [] K ⟨⟩ = K (.tup []) := (show aRes P σ [] K = K (.tup []) from rfl)
theorem s_res1 {a : ResultVar} : baRes P σ [a] K ⟨⟩ = baResOne P σ a K ⟨⟩ := (show aRes P σ [a] K = aResOne P σ a K from rfl)
theorem s_res2 {a b : ResultVar} : baRes P σ [a, b] K ⟨⟩ = baResOne P σ a (fun c => baResOne P σ b (fun d => K (.tup [c, d])) ⟨⟩) ⟨⟩ := (show aRes P σ [a, b] K = aResOne P σ a fun c => aResOne P σ b fun d => K (.tup [c, d]) from rfl)
theorem s_res3 {a b c1 : ResultVar} : baRes P σ [a, b, c1] K ⟨⟩ = baResOne P σ a (fun c => baResOne P σ b (fun d => baResOne P σ c1 (fun e => K (.tup [c, d, e])) ⟨⟩) ⟨⟩) ⟨⟩ := (show aRes P σ [a, b, c1] K = aResOne P σ a fun c => aResOne P σ b fun d => aResOne P σ c1 fun e => K (.tup [c, d, e]) from rfl)
theorem s_res4 {a b c1 d1 : ResultVar} : baRes P σ [a, b, c1, d1] K ⟨⟩ = baResOne P σ a (fun c => baResOne P σ b (fun d => baResOne P σ c1 (fun e => baResOne P σ d1 (fun f => K (.tup [c, d, e, f])) ⟨⟩) ⟨⟩) ⟨⟩) ⟨⟩ := (show aRes P σ [a, b, c1, d1] K = aResOne P σ a fun c => aResOne P σ b fun d => aResOne P σ c1 fun e => aResOne P σ d1 fun f => K (.tup [c, d, e, f]) from rfl)
theorem s_resT {u : Nat} : baResOne P ⟨tm, bx, nx, lg⟩ (.tmp u) K ⟨⟩ = K (getC tm u) := (show aResOne P ⟨tm, bx, nx, lg⟩ (.tmp u) K = K (getC tm u) from rfl)
theorem s_resC {u : Nat} : baResOne P ⟨tm, bx, nx, lg⟩ (.cell u t) K ⟨⟩ = baLoad P t (getC tm u) bx K ⟨⟩ := (show aResOne P ⟨tm, bx, nx, lg⟩ (.cell u t) K = aLoad P t (getC tm u) bx K from rfl)
theorem s_aops0 {KS : St → Prop} : baops P G h ops [] σ KS ⟨⟩ ⟨⟩ ⟨⟩ ⟨⟩ = KS σ := (show aops P G h ops [] σ KS = KS σ from rfl)
theorem s_aops {KS : St → Prop} {dst : Option Tmp} {op : Op} {ty : TypeId} {pos : String} {af : Array Edge} {g : Option (Nat × Bool)} {rest : List Oper} : baops P G h ops (⟨dst, op, ty, pos, af, g⟩ :: rest) ⟨tm, bx, nx, lg⟩ KS ⟨⟩ ⟨⟩ ⟨⟩ ⟨⟩ = baGuard ops tm g (baEff P G h op ⟨tm, bx, nx, lg⟩ (fun c σ' => baops P G h ops rest (σ'.put dst c) KS ⟨⟩ ⟨⟩ ⟨⟩ ⟨⟩) ⟨⟩ ⟨⟩ ⟨⟩) (baops P G h ops rest (St.put ⟨tm, bx, nx, lg⟩ dst (.sc undef)) KS ⟨⟩ ⟨⟩ ⟨⟩ ⟨⟩) ⟨⟩ ⟨⟩ ⟨⟩ := (show aops P G h ops (⟨dst, op, ty, pos, af, g⟩ :: rest) ⟨tm, bx, nx, lg⟩ KS = aGuard ops tm g (aEff P G h op ⟨tm, bx, nx, lg⟩ fun c σ' => aops P G h ops rest (σ'.put dst c) KS) (aops P G h ops rest (St.put ⟨tm, bx, nx, lg⟩ dst (.sc undef)) KS) from rfl)
theorem s_adops0 {KS : St → Prop} : badops P G h ops [] brs σ KS ⟨⟩ ⟨⟩ ⟨⟩ ⟨⟩ = KS σ := (show adops P G h ops [] brs σ KS = KS σ from rfl)
theorem s_adopsN {KS : St → Prop} {dst : Option Tmp} {op : Op} {ty : TypeId} {pos : String} {af : Array Edge} {g : Option (Nat × Bool)} {rest : List Oper} : badops P G h ops (⟨dst, op, ty, pos, af, g⟩ :: rest) [] ⟨tm, bx, nx, lg⟩ KS ⟨⟩ ⟨⟩ ⟨⟩ ⟨⟩ = baGuard ops tm g (baPure P G bx (evOf G tm) op nx (fun c nx' => badops P G h ops rest [] ⟨putT tm dst c, bx, nx', lg⟩ KS ⟨⟩ ⟨⟩ ⟨⟩ ⟨⟩) ⟨⟩ ⟨⟩ ⟨⟩) (badops P G h ops rest [] ⟨putT tm dst (.sc undef), bx, nx, lg⟩ KS ⟨⟩ ⟨⟩ ⟨⟩ ⟨⟩) ⟨⟩ ⟨⟩ ⟨⟩ := (show adops P G h ops (⟨dst, op, ty, pos, af, g⟩ :: rest) [] ⟨tm, bx, nx, lg⟩ KS = aGuard ops tm g (aPure P G bx (evOf G tm) op nx fun c nx' => adops P G h ops rest [] ⟨putT tm dst c, bx, nx', lg⟩ KS) (adops P G h ops rest [] ⟨putT tm dst (.sc undef), bx, nx, lg⟩ KS) from rfl)
theorem s_adopsF {KS : St → Prop} {dst : Option Tmp} {op : Op} {ty : TypeId} {pos : String} {af : Array Edge} {g : Option (Nat × Bool)} {rest : List Oper} : badops P G h ops (⟨dst, op, ty, pos, af, g⟩ :: rest) (false :: brs) ⟨tm, bx, nx, lg⟩ KS ⟨⟩ ⟨⟩ ⟨⟩ ⟨⟩ = baGuard ops tm g (baPure P G bx (evOf G tm) op nx (fun c nx' => badops P G h ops rest brs ⟨putT tm dst c, bx, nx', lg⟩ KS ⟨⟩ ⟨⟩ ⟨⟩ ⟨⟩) ⟨⟩ ⟨⟩ ⟨⟩) (badops P G h ops rest brs ⟨putT tm dst (.sc undef), bx, nx, lg⟩ KS ⟨⟩ ⟨⟩ ⟨⟩ ⟨⟩) ⟨⟩ ⟨⟩ ⟨⟩ := (show adops P G h ops (⟨dst, op, ty, pos, af, g⟩ :: rest) (false :: brs) ⟨tm, bx, nx, lg⟩ KS = aGuard ops tm g (aPure P G bx (evOf G tm) op nx fun c nx' => adops P G h ops rest brs ⟨putT tm dst c, bx, nx', lg⟩ KS) (adops P G h ops rest brs ⟨putT tm dst (.sc undef), bx, nx, lg⟩ KS) from rfl)
theorem s_adopsT {KS : St → Prop} {dst : Option Tmp} {op : Op} {ty : TypeId} {pos : String} {af : Array Edge} {g : Option (Nat × Bool)} {rest : List Oper} : badops P G h ops (⟨dst, op, ty, pos, af, g⟩ :: rest) (true :: brs) ⟨tm, bx, nx, lg⟩ KS ⟨⟩ ⟨⟩ ⟨⟩ ⟨⟩ = baGuard ops tm g (baEff P G h op ⟨tm, bx, nx, lg⟩ (fun c σ' => badops P G h ops rest brs (σ'.put dst c) KS ⟨⟩ ⟨⟩ ⟨⟩ ⟨⟩) ⟨⟩ ⟨⟩ ⟨⟩) (badops P G h ops rest brs ⟨putT tm dst (.sc undef), bx, nx, lg⟩ KS ⟨⟩ ⟨⟩ ⟨⟩ ⟨⟩) ⟨⟩ ⟨⟩ ⟨⟩ := (show adops P G h ops (⟨dst, op, ty, pos, af, g⟩ :: rest) (true :: brs) ⟨tm, bx, nx, lg⟩ KS = aGuard ops tm g (aEff P G h op ⟨tm, bx, nx, lg⟩ fun c σ' => adops P G h ops rest brs (σ'.put dst c) KS) (adops P G h ops rest brs ⟨putT tm dst (.sc undef), bx, nx, lg⟩ KS) from rfl)
theorem s_guard0 : baGuard ops tm none X Y ⟨⟩ ⟨⟩ ⟨⟩ = X := (show aGuard ops tm none X Y = X from rfl)
theorem s_guard {l : List Oper} {j : Nat} {want : Bool} : baGuard l.toArray tm (some (j, want)) X Y ⟨⟩ ⟨⟩ ⟨⟩ = baGd ((l[j]?).bind (·.dst)) tm want X Y ⟨⟩ ⟨⟩ := (show aGuard l.toArray tm (some (j, want)) X Y = aGd ((l[j]?).bind (·.dst)) tm want X Y from by simp only [aGuard, List.getElem?_toArray]; rfl)
theorem s_gd_t {u : Tmp} : baGd (some u) tm true X Y ⟨⟩ ⟨⟩ = bABrU (getC tm u) Y X Y ⟨⟩ ⟨⟩ ⟨⟩ := (show aGd (some u) tm true X Y = ABrU (getC tm u) Y X Y from rfl)
theorem s_gd_f {u : Tmp} : baGd (some u) tm false X Y ⟨⟩ ⟨⟩ = bABrU (getC tm u) Y Y X ⟨⟩ ⟨⟩ ⟨⟩ := (show aGd (some u) tm false X Y = ABrU (getC tm u) Y Y X from rfl)
theorem s_bru_b {U : Prop} {b : Bool} : bABrU (.sc (.bool b)) U X Y ⟨⟩ ⟨⟩ ⟨⟩ = bABr (.sc (.bool b)) X Y ⟨⟩ ⟨⟩ := (show ABrU (.sc (.bool b)) U X Y = ABr (.sc (.bool b)) X Y from rfl)
theorem s_bru_u {U : Prop} : bABrU (.sc undef) U X Y ⟨⟩ ⟨⟩ ⟨⟩ = U := (show ABrU (.sc undef) U X Y = U from rfl)
theorem s_put_some {u : Tmp} : St.put ⟨tm, bx, nx, lg⟩ (some u) c = ⟨(u, c) :: tm, bx, nx, lg⟩ := (show St.put ⟨tm, bx, nx, lg⟩ (some u) c = ⟨(u, c) :: tm, bx, nx, lg⟩ from rfl)
theorem s_put_none : St.put ⟨tm, bx, nx, lg⟩ none c = ⟨tm, bx, nx, lg⟩ := (show St.put ⟨tm, bx, nx, lg⟩ none c = ⟨tm, bx, nx, lg⟩ from rfl)
theorem s_putT_some {u : Tmp} : putT tm (some u) c = (u, c) :: tm := (show putT tm (some u) c = (u, c) :: tm from rfl)
theorem s_putT_none : putT tm none c = tm := (show putT tm none c = tm from rfl)
theorem s_e_buildSlice {n : Nat} {ps : List (Nat × Operand)} : baEff P G h (.buildSlice t n ps.toArray) ⟨tm, bx, nx, lg⟩ K3 ⟨⟩ ⟨⟩ ⟨⟩ = if h.bx t then baBuildBox P t n (ps.map fun p => (p.1, evOf G tm p.2)) ⟨tm, bx, nx, lg⟩ K3 ⟨⟩ else baBuildSlice P t n (ps.map fun p => (p.1, evOf G tm p.2)) nx (fun c nx' => K3 c ⟨tm, bx, nx', lg⟩) ⟨⟩ := (show aEff P G h (.buildSlice t n ps.toArray) ⟨tm, bx, nx, lg⟩ K3 = if h.bx t then aBuildBox P t n (ps.map fun p => (p.1, evOf G tm p.2)) ⟨tm, bx, nx, lg⟩ K3 else aBuildSlice P t n (ps.map fun p => (p.1, evOf G tm p.2)) nx fun c nx' => K3 c ⟨tm, bx, nx', lg⟩ from rfl)
theorem s_p_buildSlice {n : Nat} {ps : List (Nat × Operand)} {ev : Operand → C} : baPure P G bx ev (.buildSlice t n ps.toArray) nx K2 ⟨⟩ ⟨⟩ ⟨⟩ = baBuildSlice P t n (ps.map fun p => (p.1, ev p.2)) nx K2 ⟨⟩ := (show aPure P G bx ev (.buildSlice t n ps.toArray) nx K2 = aBuildSlice P t n (ps.map fun p => (p.1, ev p.2)) nx K2 from rfl)
theorem s_e_makeSlice : baEff P G h (.makeSlice t x y) ⟨tm, bx, nx, lg⟩ K3 ⟨⟩ ⟨⟩ ⟨⟩ = if h.bx t then baMakeBox P t (evOf G tm x) (evOf G tm y) ⟨tm, bx, nx, lg⟩ K3 ⟨⟩ else baMake P t (evOf G tm x) (evOf G tm y) nx (fun c nx' => K3 c ⟨tm, bx, nx', lg⟩) ⟨⟩ := (show aEff P G h (.makeSlice t x y) ⟨tm, bx, nx, lg⟩ K3 = if h.bx t then aMakeBox P t (evOf G tm x) (evOf G tm y) ⟨tm, bx, nx, lg⟩ K3 else aMake P t (evOf G tm x) (evOf G tm y) nx fun c nx' => K3 c ⟨tm, bx, nx', lg⟩ from rfl)
theorem s_p_makeSlice {ev : Operand → C} : baPure P G bx ev (.makeSlice t x y) nx K2 ⟨⟩ ⟨⟩ ⟨⟩ = baMake P t (ev x) (ev y) nx K2 ⟨⟩ := (show aPure P G bx ev (.makeSlice t x y) nx K2 = aMake P t (ev x) (ev y) nx K2 from rfl)
theorem s_hdbx : Hd.bx ⟨p, yd, bf⟩ t = (bf (1000000 + t)).headD false := (show Hd.bx ⟨p, yd, bf⟩ t = (bf (1000000 + t)).headD false from rfl)
theorem s_hdbx2 : Hd.bx2 ⟨p, yd, bf⟩ t = ((bf (1000000 + t)).drop 1).headD false := (show Hd.bx2 ⟨p, yd, bf⟩ t = ((bf (1000000 + t)).drop 1).headD false from rfl)
theorem s_e_move : baEff P G h (.move x) ⟨tm, bx, nx, lg⟩ K3 ⟨⟩ ⟨⟩ ⟨⟩ = K3 (evOf G tm x) ⟨tm, bx, nx, lg⟩ := (show aEff P G h (.move x) ⟨tm, bx, nx, lg⟩ K3 = K3 (evOf G tm x) ⟨tm, bx, nx, lg⟩ from rfl)
theorem s_p_move {ev : Operand → C} : baPure P G bx ev (.move x) nx K2 ⟨⟩ ⟨⟩ ⟨⟩ = K2 (ev x) nx := (show aPure P G bx ev (.move x) nx K2 = K2 (ev x) nx from rfl)
theorem s_e_assign : baEff P G h (.assign x) ⟨tm, bx, nx, lg⟩ K3 ⟨⟩ ⟨⟩ ⟨⟩ = K3 (evOf G tm x) ⟨tm, bx, nx, lg⟩ := (show aEff P G h (.assign x) ⟨tm, bx, nx, lg⟩ K3 = K3 (evOf G tm x) ⟨tm, bx, nx, lg⟩ from rfl)
theorem s_p_assign {ev : Operand → C} : baPure P G bx ev (.assign x) nx K2 ⟨⟩ ⟨⟩ ⟨⟩ = K2 (ev x) nx := (show aPure P G bx ev (.assign x) nx K2 = K2 (ev x) nx from rfl)
theorem s_e_pick : baEff P G h (.pick x y z) ⟨tm, bx, nx, lg⟩ K3 ⟨⟩ ⟨⟩ ⟨⟩ = bABr (evOf G tm x) (K3 (evOf G tm y) ⟨tm, bx, nx, lg⟩) (K3 (evOf G tm z) ⟨tm, bx, nx, lg⟩) ⟨⟩ ⟨⟩ := (show aEff P G h (.pick x y z) ⟨tm, bx, nx, lg⟩ K3 = ABr (evOf G tm x) (K3 (evOf G tm y) ⟨tm, bx, nx, lg⟩) (K3 (evOf G tm z) ⟨tm, bx, nx, lg⟩) from rfl)
theorem s_p_pick {ev : Operand → C} : baPure P G bx ev (.pick x y z) nx K2 ⟨⟩ ⟨⟩ ⟨⟩ = bABr (ev x) (K2 (ev y) nx) (K2 (ev z) nx) ⟨⟩ ⟨⟩ := (show aPure P G bx ev (.pick x y z) nx K2 = ABr (ev x) (K2 (ev y) nx) (K2 (ev z) nx) from rfl)
theorem s_e_build {ps : List (Nat × Operand)} : baEff P G h (.build t ps.toArray) ⟨tm, bx, nx, lg⟩ K3 ⟨⟩ ⟨⟩ ⟨⟩ = baBuild P t (ps.map fun p => (p.1, evOf G tm p.2)) (fun c => K3 c ⟨tm, bx, nx, lg⟩) ⟨⟩ := (show aEff P G h (.build t ps.toArray) ⟨tm, bx, nx, lg⟩ K3 = aBuild P t (ps.map fun p => (p.1, evOf G tm p.2)) fun c => K3 c ⟨tm, bx, nx, lg⟩ from rfl)
theorem s_p_build {ps : List (Nat × Operand)} {ev : Operand → C} : baPure P G bx ev (.build t ps.toArray) nx K2 ⟨⟩ ⟨⟩ ⟨⟩ = baBuild P t (ps.map fun p => (p.1, ev p.2)) (fun c => K2 c nx) ⟨⟩ := (show aPure P G bx ev (.build t ps.toArray) nx K2 = aBuild P t (ps.map fun p => (p.1, ev p.2)) fun c => K2 c nx from rfl)
theorem s_e_load : baEff P G h (.load t x) ⟨tm, bx, nx, lg⟩ K3 ⟨⟩ ⟨⟩ ⟨⟩ = baLoad P t (evOf G tm x) bx (fun c => K3 c ⟨tm, bx, nx, lg⟩) ⟨⟩ := (show aEff P G h (.load t x) ⟨tm, bx, nx, lg⟩ K3 = aLoad P t (evOf G tm x) bx fun c => K3 c ⟨tm, bx, nx, lg⟩ from rfl)
theorem s_p_load {ev : Operand → C} : baPure P G bx ev (.load t x) nx K2 ⟨⟩ ⟨⟩ ⟨⟩ = baLoad P t (ev x) bx (fun c => K2 c nx) ⟨⟩ := (show aPure P G bx ev (.load t x) nx K2 = aLoad P t (ev x) bx fun c => K2 c nx from rfl)
theorem s_e_nilCheck : baEff P G h (.nilCheck x) ⟨tm, bx, nx, lg⟩ K3 ⟨⟩ ⟨⟩ ⟨⟩ = baNil (evOf G tm x) (fun c => K3 c ⟨tm, bx, nx, lg⟩) ⟨⟩ := (show aEff P G h (.nilCheck x) ⟨tm, bx, nx, lg⟩ K3 = aNil (evOf G tm x) fun c => K3 c ⟨tm, bx, nx, lg⟩ from rfl)
theorem s_p_nilCheck {ev : Operand → C} : baPure P G bx ev (.nilCheck x) nx K2 ⟨⟩ ⟨⟩ ⟨⟩ = baNil (ev x) (fun c => K2 c nx) ⟨⟩ := (show aPure P G bx ev (.nilCheck x) nx K2 = aNil (ev x) fun c => K2 c nx from rfl)
theorem s_e_binOp {op : BinOp} : baEff P G h (.binOp op t x y t') ⟨tm, bx, nx, lg⟩ K3 ⟨⟩ ⟨⟩ ⟨⟩ = baBin P t op (evOf G tm x) (evOf G tm y) (fun c => K3 c ⟨tm, bx, nx, lg⟩) ⟨⟩ := (show aEff P G h (.binOp op t x y t') ⟨tm, bx, nx, lg⟩ K3 = aBin P t op (evOf G tm x) (evOf G tm y) fun c => K3 c ⟨tm, bx, nx, lg⟩ from rfl)
theorem s_p_binOp {op : BinOp} {ev : Operand → C} : baPure P G bx ev (.binOp op t x y t') nx K2 ⟨⟩ ⟨⟩ ⟨⟩ = baBin P t op (ev x) (ev y) (fun c => K2 c nx) ⟨⟩ := (show aPure P G bx ev (.binOp op t x y t') nx K2 = aBin P t op (ev x) (ev y) fun c => K2 c nx from rfl)
theorem s_e_unOp {op : UnOp} : baEff P G h (.unOp op t x) ⟨tm, bx, nx, lg⟩ K3 ⟨⟩ ⟨⟩ ⟨⟩ = baUn op (evOf G tm x) (fun c => K3 c ⟨tm, bx, nx, lg⟩) ⟨⟩ := (show aEff P G h (.unOp op t x) ⟨tm, bx, nx, lg⟩ K3 = aUn op (evOf G tm x) fun c => K3 c ⟨tm, bx, nx, lg⟩ from rfl)
theorem s_p_unOp {op : UnOp} {ev : Operand → C} : baPure P G bx ev (.unOp op t x) nx K2 ⟨⟩ ⟨⟩ ⟨⟩ = baUn op (ev x) (fun c => K2 c nx) ⟨⟩ := (show aPure P G bx ev (.unOp op t x) nx K2 = aUn op (ev x) fun c => K2 c nx from rfl)
theorem s_e_convert : baEff P G h (.convert t t' x) ⟨tm, bx, nx, lg⟩ K3 ⟨⟩ ⟨⟩ ⟨⟩ = baConvX P bx t t' (evOf G tm x) (fun c => K3 c ⟨tm, bx, nx, lg⟩) ⟨⟩ := (show aEff P G h (.convert t t' x) ⟨tm, bx, nx, lg⟩ K3 = aConvX P bx t t' (evOf G tm x) fun c => K3 c ⟨tm, bx, nx, lg⟩ from rfl)
theorem s_p_convert {ev : Operand → C} : baPure P G bx ev (.convert t t' x) nx K2 ⟨⟩ ⟨⟩ ⟨⟩ = baConvX P bx t t' (ev x) (fun c => K2 c nx) ⟨⟩ := (show aPure P G bx ev (.convert t t' x) nx K2 = aConvX P bx t t' (ev x) fun c => K2 c nx from rfl)
theorem s_e_makeFunc {fn : Fn} {fs cs : List Operand} : baEff P G h (.makeFunc fn fs.toArray cs.toArray) ⟨tm, bx, nx, lg⟩ K3 ⟨⟩ ⟨⟩ ⟨⟩ = K3 (.clo fn (fs.map (evOf G tm)) (cs.map (evOf G tm))) ⟨tm, bx, nx, lg⟩ := (show aEff P G h (.makeFunc fn fs.toArray cs.toArray) ⟨tm, bx, nx, lg⟩ K3 = K3 (.clo fn (fs.map (evOf G tm)) (cs.map (evOf G tm))) ⟨tm, bx, nx, lg⟩ from rfl)
theorem s_p_makeFunc {fn : Fn} {fs cs : List Operand} {ev : Operand → C} : baPure P G bx ev (.makeFunc fn fs.toArray cs.toArray) nx K2 ⟨⟩ ⟨⟩ ⟨⟩ = K2 (.clo fn (fs.map ev) (cs.map ev)) nx := (show aPure P G bx ev (.makeFunc fn fs.toArray cs.toArray) nx K2 = K2 (.clo fn (fs.map ev) (cs.map ev)) nx from rfl)
theorem s_e_slice {lo hi mx : Option Operand} : baEff P G h (.slice t x lo hi mx) ⟨tm, bx, nx, lg⟩ K3 ⟨⟩ ⟨⟩ ⟨⟩ = baSlice P t (evOf G tm x) (lo.map (evOf G tm)) (hi.map (evOf G tm)) (mx.map (evOf G tm)) (fun c => K3 c ⟨tm, bx, nx, lg⟩) ⟨⟩ := (show aEff P G h (.slice t x lo hi mx) ⟨tm, bx, nx, lg⟩ K3 = aSlice P t (evOf G tm x) (lo.map (evOf G tm)) (hi.map (evOf G tm)) (mx.map (evOf G tm)) fun c => K3 c ⟨tm, bx, nx, lg⟩ from rfl)
theorem s_p_slice {lo hi mx : Option Operand} {ev : Operand → C} : baPure P G bx ev (.slice t x lo hi mx) nx K2 ⟨⟩ ⟨⟩ ⟨⟩ = baSlice P t (ev x) (lo.map ev) (hi.map ev) (mx.map ev) (fun c => K2 c nx) ⟨⟩ := (show aPure P G bx ev (.slice t x lo hi mx) nx K2 = aSlice P t (ev x) (lo.map ev) (hi.map ev) (mx.map ev) fun c => K2 c nx from rfl)
theorem s_e_fieldAddr {f : Nat} : baEff P G h (.fieldAddr t x f) ⟨tm, bx, nx, lg⟩ K3 ⟨⟩ ⟨⟩ ⟨⟩ = baFieldAddr P t (evOf G tm x) f (fun c => K3 c ⟨tm, bx, nx, lg⟩) ⟨⟩ := (show aEff P G h (.fieldAddr t x f) ⟨tm, bx, nx, lg⟩ K3 = aFieldAddr P t (evOf G tm x) f fun c => K3 c ⟨tm, bx, nx, lg⟩ from rfl)
theorem s_p_fieldAddr {f : Nat} {ev : Operand → C} : baPure P G bx ev (.fieldAddr t x f) nx K2 ⟨⟩ ⟨⟩ ⟨⟩ = baFieldAddr P t (ev x) f (fun c => K2 c nx) ⟨⟩ := (show aPure P G bx ev (.fieldAddr t x f) nx K2 = aFieldAddr P t (ev x) f fun c => K2 c nx from rfl)
theorem s_e_field {f : Nat} : baEff P G h (.field t x f) ⟨tm, bx, nx, lg⟩ K3 ⟨⟩ ⟨⟩ ⟨⟩ = baField P t (evOf G tm x) f (fun c => K3 c ⟨tm, bx, nx, lg⟩) ⟨⟩ := (show aEff P G h (.field t x f) ⟨tm, bx, nx, lg⟩ K3 = aField P t (evOf G tm x) f fun c => K3 c ⟨tm, bx, nx, lg⟩ from rfl)
theorem s_p_field {f : Nat} {ev : Operand → C} : baPure P G bx ev (.field t x f) nx K2 ⟨⟩ ⟨⟩ ⟨⟩ = baField P t (ev x) f (fun c => K2 c nx) ⟨⟩ := (show aPure P G bx ev (.field t x f) nx K2 = aField P t (ev x) f fun c => K2 c nx from rfl)
theorem s_e_indexAddr : baEff P G h (.indexAddr t x y) ⟨tm, bx, nx, lg⟩ K3 ⟨⟩ ⟨⟩ ⟨⟩ = baIndexAddr P t (evOf G tm x) (evOf G tm y) (fun c => K3 c ⟨tm, bx, nx, lg⟩) ⟨⟩ := (show aEff P G h (.indexAddr t x y) ⟨tm, bx, nx, lg⟩ K3 = aIndexAddr P t (evOf G tm x) (evOf G tm y) fun c => K3 c ⟨tm, bx, nx, lg⟩ from rfl)
theorem s_p_indexAddr {ev : Operand → C} : baPure P G bx ev (.indexAddr t x y) nx K2 ⟨⟩ ⟨⟩ ⟨⟩ = baIndexAddr P t (ev x) (ev y) (fun c => K2 c nx) ⟨⟩ := (show aPure P G bx ev (.indexAddr t x y) nx K2 = aIndexAddr P t (ev x) (ev y) fun c => K2 c nx from rfl)
theorem s_e_index : baEff P G h (.index t x y) ⟨tm, bx, nx, lg⟩ K3 ⟨⟩ ⟨⟩ ⟨⟩ = baIndex P t (evOf G tm x) (evOf G tm y) (fun c => K3 c ⟨tm, bx, nx, lg⟩) ⟨⟩ := (show aEff P G h (.index t x y) ⟨tm, bx, nx, lg⟩ K3 = aIndex P t (evOf G tm x) (evOf G tm y) fun c => K3 c ⟨tm, bx, nx, lg⟩ from rfl)
theorem s_p_index {ev : Operand → C} : baPure P G bx ev (.index t x y) nx K2 ⟨⟩ ⟨⟩ ⟨⟩ = baIndex P t (ev x) (ev y) (fun c => K2 c nx) ⟨⟩ := (show aPure P G bx ev (.index t x y) nx K2 = aIndex P t (ev x) (ev y) fun c => K2 c nx from rfl)
theorem s_e_extract {i : Nat} : baEff P G h (.extract x i) ⟨tm, bx, nx, lg⟩ K3 ⟨⟩ ⟨⟩ ⟨⟩ = baExtract (evOf G tm x) i (fun c => K3 c ⟨tm, bx, nx, lg⟩) ⟨⟩ := (show aEff P G h (.extract x i) ⟨tm, bx, nx, lg⟩ K3 = aExtract (evOf G tm x) i fun c => K3 c ⟨tm, bx, nx, lg⟩ from rfl)
theorem s_p_extract {i : Nat} {ev : Operand → C} : baPure P G bx ev (.extract x i) nx K2 ⟨⟩ ⟨⟩ ⟨⟩ = baExtract (ev x) i (fun c => K2 c nx) ⟨⟩ := (show aPure P G bx ev (.extract x i) nx K2 = aExtract (ev x) i fun c => K2 c nx from rfl)
theorem s_e_callv {us : List Operand} {ts : List TypeId} : baEff P G h (.call ⟨.value x, us.toArray, ts.toArray⟩) ⟨tm, bx, nx, lg⟩ K3 ⟨⟩ ⟨⟩ ⟨⟩ = baCallV P G h (evOf G tm x) (us.map (evOf G tm)) ⟨tm, bx, nx, lg⟩ K3 ⟨⟩ ⟨⟩ := (show aEff P G h (.call ⟨.value x, us.toArray, ts.toArray⟩) ⟨tm, bx, nx, lg⟩ K3 = aCallV P G h (evOf G tm x) (us.map (evOf G tm)) ⟨tm, bx, nx, lg⟩ K3 from rfl)
theorem s_p_callv {us : List Operand} {ts : List TypeId} {ev : Operand → C} : baPure P G bx ev (.call ⟨.value x, us.toArray, ts.toArray⟩) nx K2 ⟨⟩ ⟨⟩ ⟨⟩ = baCallF P G (ev x) (us.map ev) nx K2 ⟨⟩ := (show aPure P G bx ev (.call ⟨.value x, us.toArray, ts.toArray⟩) nx K2 = aCallF P G (ev x) (us.map ev) nx K2 from rfl)
theorem s_e_len : baEff P G h (.call ⟨.builtin .len, #[x], #[t]⟩) ⟨tm, bx, nx, lg⟩ K3 ⟨⟩ ⟨⟩ ⟨⟩ = baLen P t (evOf G tm x) (fun c => K3 c ⟨tm, bx, nx, lg⟩) ⟨⟩ := (show aEff P G h (.call ⟨.builtin .len, #[x], #[t]⟩) ⟨tm, bx, nx, lg⟩ K3 = aLen P t (evOf G tm x) fun c => K3 c ⟨tm, bx, nx, lg⟩ from rfl)
theorem s_p_len {ev : Operand → C} : baPure P G bx ev (.call ⟨.builtin .len, #[x], #[t]⟩) nx K2 ⟨⟩ ⟨⟩ ⟨⟩ = baLen P t (ev x) (fun c => K2 c nx) ⟨⟩ := (show aPure P G bx ev (.call ⟨.builtin .len, #[x], #[t]⟩) nx K2 = aLen P t (ev x) fun c => K2 c nx from rfl)
theorem s_e_makeMap {r : Option Operand} : baEff P G h (.makeMap t r) ⟨tm, bx, nx, lg⟩ K3 ⟨⟩ ⟨⟩ ⟨⟩ = baMm1 (mapL P t) t (r.map (evOf G tm)) nx (fun c nx' => K3 c ⟨tm, bx, nx', lg⟩) ⟨⟩ := (show aEff P G h (.makeMap t r) ⟨tm, bx, nx, lg⟩ K3 = aMm1 (mapL P t) t (r.map (evOf G tm)) nx fun c nx' => K3 c ⟨tm, bx, nx', lg⟩ from rfl)
theorem s_p_makeMap {r : Option Operand} {ev : Operand → C} : baPure P G bx ev (.makeMap t r) nx K2 ⟨⟩ ⟨⟩ ⟨⟩ = baMm1 (mapL P t) t (r.map ev) nx K2 ⟨⟩ := (show aPure P G bx ev (.makeMap t r) nx K2 = aMm1 (mapL P t) t (r.map ev) nx K2 from rfl)
theorem s_mm_n {kd : MKd} {z : C} : baMm1 (some (kd, z)) t none nx K2 ⟨⟩ = K2 (.mo nx t kd.nil []) (nx + 1) := (show aMm1 (some (kd, z)) t none nx K2 = K2 (.mo nx t kd.nil []) (nx + 1) from rfl)
theorem s_mm_s {kd : MKd} {z : C} {k : IntKind} {n : Int} : baMm1 (some (kd, z)) t (some (.sc (.int k n))) nx K2 ⟨⟩ = K2 (.mo nx t kd.nil []) (nx + 1) := (show aMm1 (some (kd, z)) t (some (.sc (.int k n))) nx K2 = K2 (.mo nx t kd.nil []) (nx + 1) from rfl)
theorem s_mkd_i {k : IntKind} : MKd.nil (.int k) = .int k [] := (show MKd.nil (.int k) = .int k [] from rfl)
theorem s_mkd_s : MKd.nil .str = .str [] := (show MKd.nil .str = .str [] from rfl)
theorem s_e_lookup {ok : Bool} : baEff P G h (.lookup t x y ok) ⟨tm, bx, nx, lg⟩ K3 ⟨⟩ ⟨⟩ ⟨⟩ = baLk1 (mapL P t) t (evOf G tm x) (evOf G tm y) ok (fun c => K3 c ⟨tm, bx, nx, lg⟩) ⟨⟩ := (show aEff P G h (.lookup t x y ok) ⟨tm, bx, nx, lg⟩ K3 = aLk1 (mapL P t) t (evOf G tm x) (evOf G tm y) ok fun c => K3 c ⟨tm, bx, nx, lg⟩ from rfl)
theorem s_p_lookup {ok : Bool} {ev : Operand → C} : baPure P G bx ev (.lookup t x y ok) nx K2 ⟨⟩ ⟨⟩ ⟨⟩ = baLk1 (mapL P t) t (ev x) (ev y) ok (fun c => K2 c nx) ⟨⟩ := (show aPure P G bx ev (.lookup t x y ok) nx K2 = aLk1 (mapL P t) t (ev x) (ev y) ok fun c => K2 c nx from rfl)
theorem s_lk_i {k k2 q : IntKind} {z : C} {id : Nat} {t2 : TypeId} {l : List Int} {vs : List C} {n : Int} {ok : Bool} : baLk1 (some (.int k, z)) t (.mo id t2 (.int k2 l) vs) (.sc (.int q n)) ok K ⟨⟩ = (t2 = t ∧ k2 = k ∧ q = k ∧ baLook2 (mget n l vs) z ok K ⟨⟩) := (show aLk1 (some (.int k, z)) t (.mo id t2 (.int k2 l) vs) (.sc (.int q n)) ok K = (t2 = t ∧ k2 = k ∧ q = k ∧ aLook2 (mget n l vs) z ok K) from rfl)
theorem s_lk_s {z : C} {id : Nat} {t2 : TypeId} {l : List (List UInt8)} {vs : List C} {s : List UInt8} {ok : Bool} : baLk1 (some (.str, z)) t (.mo id t2 (.str l) vs) (.str s) ok K ⟨⟩ = (t2 = t ∧ baLook2 (mget s l vs) z ok K ⟨⟩) := (show aLk1 (some (.str, z)) t (.mo id t2 (.str l) vs) (.str s) ok K = (t2 = t ∧ aLook2 (mget s l vs) z ok K) from rfl)
theorem s_lk2_st {z : C} : baLook2 (some c) z true K ⟨⟩ = K (.tup [c, .sc (.bool true)]) := (show aLook2 (some c) z true K = K (.tup [c, .sc (.bool true)]) from rfl)
theorem s_lk2_sf {z : C} : baLook2 (some c) z false K ⟨⟩ = K c := (show aLook2 (some c) z false K = K c from rfl)
theorem s_lk2_nt {z : C} : baLook2 none z true K ⟨⟩ = K (.tup [z, .sc (.bool false)]) := (show aLook2 none z true K = K (.tup [z, .sc (.bool false)]) from rfl)
theorem s_lk2_nf {z : C} : baLook2 none z false K ⟨⟩ = K z := (show aLook2 none z false K = K z from rfl)
theorem s_e_mapUpdate {w : Operand} : baEff P G h (.mapUpdate t x y w) ⟨tm, bx, nx, lg⟩ K3 ⟨⟩ ⟨⟩ ⟨⟩ = baMu1 (mapL P t) t (evOf G tm x) (evOf G tm y) (evOf G tm w) ⟨tm, bx, nx, lg⟩ K3 ⟨⟩ := (show aEff P G h (.mapUpdate t x y w) ⟨tm, bx, nx, lg⟩ K3 = aMu1 (mapL P t) t (evOf G tm x) (evOf G tm y) (evOf G tm w) ⟨tm, bx, nx, lg⟩ K3 from rfl)
theorem s_e_insert {w : Operand} : baEff P G h (.insert t x y w) ⟨tm, bx, nx, lg⟩ K3 ⟨⟩ ⟨⟩ ⟨⟩ = baMu1 (mapL P t) t (evOf G tm x) (evOf G tm y) (evOf G tm w) ⟨tm, bx, nx, lg⟩ K3 ⟨⟩ := (show aEff P G h (.insert t x y w) ⟨tm, bx, nx, lg⟩ K3 = aMu1 (mapL P t) t (evOf G tm x) (evOf G tm y) (evOf G tm w) ⟨tm, bx, nx, lg⟩ K3 from rfl)
theorem s_mu_i {k k2 q : IntKind} {z : C} {id : Nat} {t2 : TypeId} {l : List Int} {vs : List C} {n : Int} : baMu1 (some (.int k, z)) t (.mo id t2 (.int k2 l) vs) (.sc (.int q n)) d ⟨tm, bx, nx, lg⟩ K3 ⟨⟩ = (t2 = t ∧ k2 = k ∧ q = k ∧ K3 .any ⟨upTm id (.int k (mput n d.frz l vs).1) (mput n d.frz l vs).2 tm, upBx id (.int k (mput n d.frz l vs).1) (mput n d.frz l vs).2 bx, nx, lg⟩) := (show aMu1 (some (.int k, z)) t (.mo id t2 (.int k2 l) vs) (.sc (.int q n)) d ⟨tm, bx, nx, lg⟩ K3 = (t2 = t ∧ k2 = k ∧ q = k ∧ K3 .any ⟨upTm id (.int k (mput n d.frz l vs).1) (mput n d.frz l vs).2 tm, upBx id (.int k (mput n d.frz l vs).1) (mput n d.frz l vs).2 bx, nx, lg⟩) from rfl)
theorem s_mu_s {z : C} {id : Nat} {t2 : TypeId} {l : List (List UInt8)} {vs : List C} {s : List UInt8} : baMu1 (some (.str, z)) t (.mo id t2 (.str l) vs) (.str s) d ⟨tm, bx, nx, lg⟩ K3 ⟨⟩ = (t2 = t ∧ K3 .any ⟨upTm id (.str (mput s d.frz l vs).1) (mput s d.frz l vs).2 tm, upBx id (.str (mput s d.frz l vs).1) (mput s d.frz l vs).2 bx, nx, lg⟩) := (show aMu1 (some (.str, z)) t (.mo id t2 (.str l) vs) (.str s) d ⟨tm, bx, nx, lg⟩ K3 = (t2 = t ∧ K3 .any ⟨upTm id (.str (mput s d.frz l vs).1) (mput s d.frz l vs).2 tm, upBx id (.str (mput s d.frz l vs).1) (mput s d.frz l vs).2 bx, nx, lg⟩) from rfl)
theorem s_len_mo {id : Nat} {t2 : TypeId} {ks : MK} {vs : List C} : baLen P t (.mo id t2 ks vs) K ⟨⟩ = baLm1 (mapL P t) vs.length K ⟨⟩ := (show aLen P t (.mo id t2 ks vs) K = aLm1 (mapL P t) vs.length K from by show aLenM P t t2 vs K = _; unfold aLenM aLm1; cases mapL P t <;> rfl)
theorem s_lm1 {M : MKd × C} {n : Nat} : baLm1 (some M) n K ⟨⟩ = K (.sc (.int .i64 (n : Int))) := (show aLm1 (some M) n K = K (.sc (.int .i64 (n : Int))) from rfl)
theorem s_e_append : baEff P G h (.call ⟨.builtin .append, #[x, y], #[t, t]⟩) ⟨tm, bx, nx, lg⟩ K3 ⟨⟩ ⟨⟩ ⟨⟩ = if h.bx t then if h.bx2 t then baAppB2 P t (evOf G tm x) (evOf G tm y) ⟨tm, bx, nx, lg⟩ K3 ⟨⟩ else baAppBox P h.p t (evOf G tm x) (evOf G tm y) ⟨tm, bx, nx, lg⟩ K3 ⟨⟩ else baAppend P t (evOf G tm x) (evOf G tm y) ⟨tm, bx, nx, lg⟩ K3 ⟨⟩ := (show aEff P G h (.call ⟨.builtin .append, #[x, y], #[t, t]⟩) ⟨tm, bx, nx, lg⟩ K3 = if h.bx t then if h.bx2 t then aAppB2 P t (evOf G tm x) (evOf G tm y) ⟨tm, bx, nx, lg⟩ K3 else aAppBox P h.p t (evOf G tm x) (evOf G tm y) ⟨tm, bx, nx, lg⟩ K3 else aAppend P t (evOf G tm x) (evOf G tm y) ⟨tm, bx, nx, lg⟩ K3 from by simp [aEff, aEffB])
theorem s_e_appz (h0 : (t' == t) = false) : baEff P G h (.call ⟨.builtin .append, #[x, y], #[t, t']⟩) ⟨tm, bx, nx, lg⟩ K3 ⟨⟩ ⟨⟩ ⟨⟩ = baAppZ P t t' (evOf G tm x) (evOf G tm y) ⟨tm, bx, nx, lg⟩ K3 ⟨⟩ := (show aEff P G h (.call ⟨.builtin .append, #[x, y], #[t, t']⟩) ⟨tm, bx, nx, lg⟩ K3 = aAppZ P t t' (evOf G tm x) (evOf G tm y) ⟨tm, bx, nx, lg⟩ K3 from by simp only [beq_eq_false_iff_ne] at h0; simp [aEff, aEffB, h0])
theorem s_e_copy : baEff P G h (.call ⟨.builtin .copy, #[x, y], #[t, t']⟩) ⟨tm, bx, nx, lg⟩ K3 ⟨⟩ ⟨⟩ ⟨⟩ = baCopy P t (evOf G tm x) (evOf G tm y) ⟨tm, bx, nx, lg⟩ K3 ⟨⟩ := (show aEff P G h (.call ⟨.builtin .copy, #[x, y], #[t, t']⟩) ⟨tm, bx, nx, lg⟩ K3 = aCopy P t (evOf G tm x) (evOf G tm y) ⟨tm, bx, nx, lg⟩ K3 from by simp [aEff, aEffB])
theorem s_e_clear : baEff P G h (.call ⟨.builtin .clear, #[x], #[t]⟩) ⟨tm, bx, nx, lg⟩ K3 ⟨⟩ ⟨⟩ ⟨⟩ = baClear P t (evOf G tm x) ⟨tm, bx, nx, lg⟩ K3 ⟨⟩ := (show aEff P G h (.call ⟨.builtin .clear, #[x], #[t]⟩) ⟨tm, bx, nx, lg⟩ K3 = aClear P t (evOf G tm x) ⟨tm, bx, nx, lg⟩ K3 from by simp [aEff, aEffB])
theorem s_e_cap : baEff P G h (.call ⟨.builtin .cap, #[x], #[t]⟩) ⟨tm, bx, nx, lg⟩ K3 ⟨⟩ ⟨⟩ ⟨⟩ = baCap P t (evOf G tm x) (fun c => K3 c ⟨tm, bx, nx, lg⟩) ⟨⟩ := (show aEff P G h (.call ⟨.builtin .cap, #[x], #[t]⟩) ⟨tm, bx, nx, lg⟩ K3 = aCap P t (evOf G tm x) fun c => K3 c ⟨tm, bx, nx, lg⟩ from by simp [aEff, aEffB])
theorem s_cap : baCap P t c K ⟨⟩ = baCap1 (lay P t) c K ⟨⟩ := (show aCap P t c K = aCap1 (lay P t) c K from rfl)
theorem s_cap_bs {i off k n cap : Nat} {e s1 b1 : Nat} {z1 : Option (List Value)} : baCap1 (some ⟨.slice e, s1, b1, z1⟩) (.bs i off k n cap) K ⟨⟩ = K (.sc (.int .i64 (cap : Int))) := (show aCap1 (some ⟨.slice e, s1, b1, z1⟩) (.bs i off k n cap) K = K (.sc (.int .i64 (cap : Int))) from rfl)
theorem s_cap_nil {e s1 b1 : Nat} {z1 : Option (List Value)} : baCap1 (some ⟨.slice e, s1, b1, z1⟩) (.sc (.slice none 0 0)) K ⟨⟩ = K (.sc (.int .i64 0)) := (show aCap1 (some ⟨.slice e, s1, b1, z1⟩) (.sc (.slice none 0 0)) K = K (.sc (.int .i64 0)) from rfl)
theorem s_p_append {ev : Operand → C} : baPure P G bx ev (.call ⟨.builtin .append, #[x, y], #[t, t]⟩) nx K2 ⟨⟩ ⟨⟩ ⟨⟩ = baAppNew P t (ev x) (ev y) nx K2 ⟨⟩ := (show aPure P G bx ev (.call ⟨.builtin .append, #[x, y], #[t, t]⟩) nx K2 = aAppNew P t (ev x) (ev y) nx K2 from by simp [aPure, aCall, aCallB])
theorem s_e_alloc : baEff P G h (.alloc t) ⟨tm, bx, nx, lg⟩ K3 ⟨⟩ ⟨⟩ ⟨⟩ = baAl1 (lay P t) ⟨tm, bx, nx, lg⟩ K3 ⟨⟩ := (show aEff P G h (.alloc t) ⟨tm, bx, nx, lg⟩ K3 = aAl1 (lay P t) ⟨tm, bx, nx, lg⟩ K3 from rfl)
theorem s_e_box : baEff P G h (.box t x) ⟨tm, bx, nx, lg⟩ K3 ⟨⟩ ⟨⟩ ⟨⟩ = baBox (evOf G tm x) ⟨tm, bx, nx, lg⟩ K3 ⟨⟩ := (show aEff P G h (.box t x) ⟨tm, bx, nx, lg⟩ K3 = aBox (evOf G tm x) ⟨tm, bx, nx, lg⟩ K3 from rfl)
theorem s_e_store : baEff P G h (.store t x y) ⟨tm, bx, nx, lg⟩ K3 ⟨⟩ ⟨⟩ ⟨⟩ = baSt1 (lay P t) (evOf G tm x) (evOf G tm y) ⟨tm, bx, nx, lg⟩ K3 ⟨⟩ := (show aEff P G h (.store t x y) ⟨tm, bx, nx, lg⟩ K3 = aSt1 (lay P t) (evOf G tm x) (evOf G tm y) ⟨tm, bx, nx, lg⟩ K3 from rfl)
theorem s_ev_tmp {u : Tmp} : evOf G tm (.tmp u) = getC tm u := (show evOf G tm (.tmp u) = getC tm u from rfl)
theorem s_ev_const {v : Value} : evOf G tm (.const v) = ofConst v := (show evOf G tm (.const v) = ofConst v from rfl)
theorem s_ev_func {f : FuncId} : evOf G tm (.func f) = .clo (.func f) [] [] := (show evOf G tm (.func f) = .clo (.func f) [] [] from rfl)
theorem s_ev_global {g : Nat} : evOf G tm (.global g) = evGl (G g) := (show evOf G tm (.global g) = evGl (G g) from rfl)
theorem s_evGl_some {cs : List C} : evGl (some cs) = .row cs := (show evGl (some cs) = .row cs from rfl)
theorem s_getC {u v : Nat} {r : List (Nat × C)} : getC ((u, c) :: r) v = if v = u then c else getC r v := (show getC ((u, c) :: r) v = if v = u then c else getC r v from rfl)
theorem s_const_int {k : IntKind} {n : Int} : ofConst (.int k n) = .sc (.int k n) := (show ofConst (.int k n) = .sc (.int k n) from rfl)
theorem s_const_bool {b : Bool} : ofConst (.bool b) = .sc (.bool b) := (show ofConst (.bool b) = .sc (.bool b) from rfl)
theorem s_const_str {l : List UInt8} : ofConst (.string ⟨l.toArray⟩) = .str l := (show ofConst (.string ⟨l.toArray⟩) = .str l from rfl)
theorem s_const_slice {a : Option Addr} {n m : Nat} : ofConst (.slice a n m) = .sc (.slice a n m) := (show ofConst (.slice a n m) = .sc (.slice a n m) from rfl)
theorem s_const_agg {l : List Value} : ofConst (.agg l.toArray) = .agg (l.map .sc) := (show ofConst (.agg l.toArray) = .agg (l.map .sc) from rfl)
theorem s_const_ptr {a : Option Addr} : ofConst (.pointer a) = .sc (.pointer a) := (show ofConst (.pointer a) = .sc (.pointer a) from rfl)
theorem s_const_map {a : Option Nat} : ofConst (.map a) = .sc (.map a) := (show ofConst (.map a) = .sc (.map a) from rfl)
theorem s_const_nilf : ofConst .nilFunc = .sc .nilFunc := (show ofConst .nilFunc = .sc .nilFunc from rfl)
theorem s_const_nili : ofConst .nilIface = .sc .nilIface := (show ofConst .nilIface = .sc .nilIface from rfl)
theorem s_bin_int {op : BinOp} {k : IntKind} {a b : Int} : baBin P t op (.sc (.int k a)) (.sc (.int k b)) K ⟨⟩ = baInt op k a b K ⟨⟩ := (show aBin P t op (.sc (.int k a)) (.sc (.int k b)) K = aInt op k a b K from by simp [aBin])
theorem s_bin_str {op : BinOp} {a b : List UInt8} : baBin P t op (.str a) (.str b) K ⟨⟩ = baStr op a b K ⟨⟩ := (show aBin P t op (.str a) (.str b) K = aStr op a b K from rfl)
theorem s_bin_bool {op : BinOp} {a b : Bool} : baBin P t op (.sc (.bool a)) (.sc (.bool b)) K ⟨⟩ = baBool1 (lay P t) op a b K ⟨⟩ := (show aBin P t op (.sc (.bool a)) (.sc (.bool b)) K = aBool1 (lay P t) op a b K from rfl)
theorem s_bin_agg {op : BinOp} {cs ds : List C} : baBin P t op (.agg cs) (.agg ds) K ⟨⟩ = baEq0 op (keyL P t) cs ds K ⟨⟩ := (show aBin P t op (.agg cs) (.agg ds) K = aEq0 op (keyL P t) cs ds K from rfl)
theorem s_bin_nil_sl {op : BinOp} {k : Nat} {rows : List (List C)} : baBin P t op (.sl k rows) (.sc (.slice none 0 0)) K ⟨⟩ = baNilL (lay P t) op (.sl k rows) K ⟨⟩ := (show aBin P t op (.sl k rows) (.sc (.slice none 0 0)) K = aNilL (lay P t) op (.sl k rows) K from rfl)
theorem s_nilL_sl {op : BinOp} {e0 : TypeId} {k0 b0 : Nat} {z0 : Option (List Value)} {k : Nat} {rows : List (List C)} : baNilL (some ⟨.slice e0, k0, b0, z0⟩) op (.sl k rows) K ⟨⟩ = (rows ≠ [] ∧ baNil1 op false K ⟨⟩) := (show aNilL (some ⟨.slice e0, k0, b0, z0⟩) op (.sl k rows) K = (rows ≠ [] ∧ aNil1 op false K) from rfl)
theorem s_bin_nil_tight {op : BinOp} {k : Nat} {rows : List (List C)} : baBin P t op (.tight k rows) (.sc (.slice none 0 0)) K ⟨⟩ = baNilL (lay P t) op (.tight k rows) K ⟨⟩ := (show aBin P t op (.tight k rows) (.sc (.slice none 0 0)) K = aNilL (lay P t) op (.tight k rows) K from rfl)
theorem s_nilL_tight {op : BinOp} {e0 : TypeId} {k0 b0 : Nat} {z0 : Option (List Value)} {k : Nat} {rows : List (List C)} : baNilL (some ⟨.slice e0, k0, b0, z0⟩) op (.tight k rows) K ⟨⟩ = (rows ≠ [] ∧ baNil1 op false K ⟨⟩) := (show aNilL (some ⟨.slice e0, k0, b0, z0⟩) op (.tight k rows) K = (rows ≠ [] ∧ aNil1 op false K) from rfl)
theorem s_bin_nil_own {op : BinOp} {i k : Nat} {e : TypeId} {rows : List (List C)} : baBin P t op (.own i e k rows) (.sc (.slice none 0 0)) K ⟨⟩ = baNilL (lay P t) op (.own i e k rows) K ⟨⟩ := (show aBin P t op (.own i e k rows) (.sc (.slice none 0 0)) K = aNilL (lay P t) op (.own i e k rows) K from rfl)
theorem s_nilL_own {op : BinOp} {e0 : TypeId} {k0 b0 : Nat} {z0 : Option (List Value)} {i k : Nat} {e : TypeId} {rows : List (List C)} : baNilL (some ⟨.slice e0, k0, b0, z0⟩) op (.own i e k rows) K ⟨⟩ = (rows ≠ [] ∧ baNil1 op false K ⟨⟩) := (show aNilL (some ⟨.slice e0, k0, b0, z0⟩) op (.own i e k rows) K = (rows ≠ [] ∧ aNil1 op false K) from rfl)
theorem s_bin_nil_bs {op : BinOp} {i q k n cap : Nat} : baBin P t op (.bs i q k n cap) (.sc (.slice none 0 0)) K ⟨⟩ = baNilL (lay P t) op (.bs i q k n cap) K ⟨⟩ := (show aBin P t op (.bs i q k n cap) (.sc (.slice none 0 0)) K = aNilL (lay P t) op (.bs i q k n cap) K from rfl)
theorem s_nilL_bs {op : BinOp} {e0 : TypeId} {k0 b0 : Nat} {z0 : Option (List Value)} {i q k n cap : Nat} : baNilL (some ⟨.slice e0, k0, b0, z0⟩) op (.bs i q k n cap) K ⟨⟩ = baNil1 op false K ⟨⟩ := (show aNilL (some ⟨.slice e0, k0, b0, z0⟩) op (.bs i q k n cap) K = aNil1 op false K from rfl)
theorem s_bin_nil_sc {op : BinOp} {a : Option Addr} {n cap : Nat} : baBin P t op (.sc (.slice a n cap)) (.sc (.slice none 0 0)) K ⟨⟩ = baNilL (lay P t) op (.sc (.slice a n cap)) K ⟨⟩ := (show aBin P t op (.sc (.slice a n cap)) (.sc (.slice none 0 0)) K = aNilL (lay P t) op (.sc (.slice a n cap)) K from rfl)
theorem s_nilL_sc {op : BinOp} {e0 : TypeId} {k0 b0 : Nat} {z0 : Option (List Value)} {a : Option Addr} {n cap : Nat} : baNilL (some ⟨.slice e0, k0, b0, z0⟩) op (.sc (.slice a n cap)) K ⟨⟩ = baNil1 op a.isNone K ⟨⟩ := (show aNilL (some ⟨.slice e0, k0, b0, z0⟩) op (.sc (.slice a n cap)) K = aNil1 op a.isNone K from rfl)
theorem s_nil1_eql {b : Bool} : baNil1 .eql b K ⟨⟩ = K (.sc (.bool b)) := (show aNil1 .eql b K = K (.sc (.bool b)) from rfl)
theorem s_nil1_neq {b : Bool} : baNil1 .neq b K ⟨⟩ = K (.sc (.bool (!b))) := (show aNil1 .neq b K = K (.sc (.bool (!b))) from rfl)
theorem s_eq0_eql {lk : List LK} {cs ds : List C} : baEq0 .eql (some lk) cs ds K ⟨⟩ = baEq false lk cs ds true K ⟨⟩ := (show aEq0 .eql (some lk) cs ds K = aEq false lk cs ds true K from rfl)
theorem s_eq0_neq {lk : List LK} {cs ds : List C} : baEq0 .neq (some lk) cs ds K ⟨⟩ = baEq true lk cs ds true K ⟨⟩ := (show aEq0 .neq (some lk) cs ds K = aEq true lk cs ds true K from rfl)
theorem s_eq_nil {e : Bool} : baEq false [] [] [] e K ⟨⟩ = K (.sc (.bool e)) := (show aEq false [] [] [] e K = K (.sc (.bool e)) from rfl)
theorem s_eq_nil_n {e : Bool} : baEq true [] [] [] e K ⟨⟩ = K (.sc (.bool (!e))) := (show aEq true [] [] [] e K = K (.sc (.bool (!e))) from rfl)
theorem s_eq_int {n e : Bool} {lk : List LK} {k k1 k2 : IntKind} {a b : Int} {cs ds : List C} : baEq n (.int k :: lk) (.sc (.int k1 a) :: cs) (.sc (.int k2 b) :: ds) e K ⟨⟩ = (k1 = k ∧ k2 = k ∧ baEq n lk cs ds (e && decide (a = b)) K ⟨⟩) := (show aEq n (.int k :: lk) (.sc (.int k1 a) :: cs) (.sc (.int k2 b) :: ds) e K = (k1 = k ∧ k2 = k ∧ aEq n lk cs ds (e && decide (a = b)) K) from rfl)
theorem s_eq_bool {n e : Bool} {lk : List LK} {a b : Bool} {cs ds : List C} : baEq n (.bool :: lk) (.sc (.bool a) :: cs) (.sc (.bool b) :: ds) e K ⟨⟩ = baEq n lk cs ds (e && (a == b)) K ⟨⟩ := (show aEq n (.bool :: lk) (.sc (.bool a) :: cs) (.sc (.bool b) :: ds) e K = aEq n lk cs ds (e && (a == b)) K from rfl)
theorem s_eq_str {n e : Bool} {lk : List LK} {a b : List UInt8} {cs ds : List C} : baEq n (.str :: lk) (.str a :: cs) (.str b :: ds) e K ⟨⟩ = baEq n lk cs ds (e && decide (a = b)) K ⟨⟩ := (show aEq n (.str :: lk) (.str a :: cs) (.str b :: ds) e K = aEq n lk cs ds (e && decide (a = b)) K from rfl)
theorem s_bool1 {op : BinOp} {a b : Bool} {s b1 : Nat} {z1 : Option (List Value)} : baBool1 (some ⟨.bool, s, b1, z1⟩) op a b K ⟨⟩ = baBool op a b K ⟨⟩ := (show aBool1 (some ⟨.bool, s, b1, z1⟩) op a b K = aBool op a b K from rfl)
theorem s_int_add {k : IntKind} {a b : Int} : baInt .add k a b K ⟨⟩ = (inR k (a + b) ∧ K (.sc (.int k (a + b)))) := (show aInt .add k a b K = (inR k (a + b) ∧ K (.sc (.int k (a + b)))) from rfl)
theorem s_int_sub {k : IntKind} {a b : Int} : baInt .sub k a b K ⟨⟩ = (inR k (a - b) ∧ K (.sc (.int k (a - b)))) := (show aInt .sub k a b K = (inR k (a - b) ∧ K (.sc (.int k (a - b)))) from rfl)
theorem s_int_mul {k : IntKind} {a b : Int} : baInt .mul k a b K ⟨⟩ = (inR k (a * b) ∧ K (.sc (.int k (a * b)))) := (show aInt .mul k a b K = (inR k (a * b) ∧ K (.sc (.int k (a * b)))) from rfl)
theorem s_int_quo {k : IntKind} {a b : Int} : baInt .quo k a b K ⟨⟩ = (0 ≤ a ∧ 0 < b ∧ inR k a ∧ K (.sc (.int k (a / b)))) := (show aInt .quo k a b K = (0 ≤ a ∧ 0 < b ∧ inR k a ∧ K (.sc (.int k (a / b)))) from rfl)
theorem s_int_rem {k : IntKind} {a b : Int} : baInt .rem k a b K ⟨⟩ = (0 ≤ a ∧ 0 < b ∧ K (.sc (.int k (a % b)))) := (show aInt .rem k a b K = (0 ≤ a ∧ 0 < b ∧ K (.sc (.int k (a % b)))) from rfl)
theorem s_int_shr {k : IntKind} {a b : Int} : baInt .shr k a b K ⟨⟩ = (b = 1 ∧ K (.sc (.int k (a / 2)))) := (show aInt .shr k a b K = (b = 1 ∧ K (.sc (.int k (a / 2)))) from rfl)
theorem s_int_eql {k : IntKind} {a b : Int} : baInt .eql k a b K ⟨⟩ = (K (.sc (.bool (decide (a = b))))) := (show aInt .eql k a b K = (K (.sc (.bool (decide (a = b))))) from rfl)
theorem s_int_neq {k : IntKind} {a b : Int} : baInt .neq k a b K ⟨⟩ = (K (.sc (.bool (!decide (a = b))))) := (show aInt .neq k a b K = (K (.sc (.bool (!decide (a = b))))) from rfl)
theorem s_int_lss {k : IntKind} {a b : Int} : baInt .lss k a b K ⟨⟩ = (K (.sc (.bool (decide (a < b))))) := (show aInt .lss k a b K = (K (.sc (.bool (decide (a < b))))) from rfl)
theorem s_int_leq {k : IntKind} {a b : Int} : baInt .leq k a b K ⟨⟩ = (K (.sc (.bool (decide (a ≤ b))))) := (show aInt .leq k a b K = (K (.sc (.bool (decide (a ≤ b))))) from rfl)
theorem s_int_gtr {k : IntKind} {a b : Int} : baInt .gtr k a b K ⟨⟩ = (K (.sc (.bool (decide (b < a))))) := (show aInt .gtr k a b K = (K (.sc (.bool (decide (b < a))))) from rfl)
theorem s_int_geq {k : IntKind} {a b : Int} : baInt .geq k a b K ⟨⟩ = (K (.sc (.bool (decide (b ≤ a))))) := (show aInt .geq k a b K = (K (.sc (.bool (decide (b ≤ a))))) from rfl)
theorem s_str_add {a b : List UInt8} : baStr .add a b K ⟨⟩ = (((a.length + b.length : Nat) : Int) ≤ 9223372036854775807 ∧ K (.str (a ++ b))) := (show aStr .add a b K = (((a.length + b.length : Nat) : Int) ≤ 9223372036854775807 ∧ K (.str (a ++ b))) from rfl)
theorem s_str_eql {a b : List UInt8} : baStr .eql a b K ⟨⟩ = (K (.sc (.bool (decide (a = b))))) := (show aStr .eql a b K = (K (.sc (.bool (decide (a = b))))) from rfl)
theorem s_str_neq {a b : List UInt8} : baStr .neq a b K ⟨⟩ = (K (.sc (.bool (!decide (a = b))))) := (show aStr .neq a b K = (K (.sc (.bool (!decide (a = b))))) from rfl)
theorem s_str_lss {a b : List UInt8} : baStr .lss a b K ⟨⟩ = (K (.sc (.bool (Op.bytesLess a b)))) := (show aStr .lss a b K = (K (.sc (.bool (Op.bytesLess a b)))) from rfl)
theorem s_str_geq {a b : List UInt8} : baStr .geq a b K ⟨⟩ = (K (.sc (.bool (!Op.bytesLess a b)))) := (show aStr .geq a b K = (K (.sc (.bool (!Op.bytesLess a b)))) from rfl)
theorem s_str_leq {a b : List UInt8} : baStr .leq a b K ⟨⟩ = (K (.sc (.bool (Op.bytesLess a b || decide (a = b))))) := (show aStr .leq a b K = (K (.sc (.bool (Op.bytesLess a b || decide (a = b))))) from rfl)
theorem s_str_gtr {a b : List UInt8} : baStr .gtr a b K ⟨⟩ = (K (.sc (.bool (!(Op.bytesLess a b || decide (a = b)))))) := (show aStr .gtr a b K = (K (.sc (.bool (!(Op.bytesLess a b || decide (a = b)))))) from rfl)
theorem s_bool_eql {a b : Bool} : baBool .eql a b K ⟨⟩ = K (.sc (.bool (a == b))) := (show aBool .eql a b K = K (.sc (.bool (a == b))) from rfl)
theorem s_bool_neq {a b : Bool} : baBool .neq a b K ⟨⟩ = K (.sc (.bool (!(a == b)))) := (show aBool .neq a b K = K (.sc (.bool (!(a == b)))) from rfl)
theorem s_un_not {b : Bool} : baUn .not (.sc (.bool b)) K ⟨⟩ = K (.sc (.bool (!b))) := (show aUn .not (.sc (.bool b)) K = K (.sc (.bool (!b))) from rfl)
theorem s_un_neg {k : IntKind} {n : Int} : baUn .neg (.sc (.int k n)) K ⟨⟩ = (inR k (0 - n) ∧ K (.sc (.int k (0 - n)))) := (show aUn .neg (.sc (.int k n)) K = (inR k (0 - n) ∧ K (.sc (.int k (0 - n)))) from rfl)
theorem s_extract {cs : List C} {i : Nat} : baExtract (.tup cs) i K ⟨⟩ = baOpt (cs[i]?) K ⟨⟩ := (show aExtract (.tup cs) i K = aOpt (cs[i]?) K from rfl)
theorem s_opt : baOpt (some c) K ⟨⟩ = K c := (show aOpt (some c) K = K c from rfl)
theorem s_nil_ptr {i off : Nat} : baNil (.ptr i off) K ⟨⟩ = K (.ptr i off) := (show aNil (.ptr i off) K = K (.ptr i off) from rfl)
theorem s_nil_row {cs : List C} : baNil (.row cs) K ⟨⟩ = K (.row cs) := (show aNil (.row cs) K = K (.row cs) from rfl)
theorem s_nil_clo {f : FuncId} {fs cs : List C} : baNil (.clo (.func f) fs cs) K ⟨⟩ = K (.clo (.func f) fs cs) := (show aNil (.clo (.func f) fs cs) K = K (.clo (.func f) fs cs) from rfl)
theorem s_load : baLoad P t c bx K ⟨⟩ = baLoad1 (lay P t) c bx K ⟨⟩ := (show aLoad P t c bx K = aLoad1 (lay P t) c bx K from rfl)
theorem s_p_store {ev : Operand → C} : baPure P G bx ev (.store t x y) nx K2 ⟨⟩ ⟨⟩ ⟨⟩ = baSm1 (lay P t) (ev x) (ev y) bx (fun c => K2 c nx) ⟨⟩ := (show aPure P G bx ev (.store t x y) nx K2 = aSm1 (lay P t) (ev x) (ev y) bx (fun c => K2 c nx) from rfl)
theorem s_sm1 {L : Lay} {i off : Nat} : baSm1 (some L) (.ptr i off) c bx K ⟨⟩ = baSm2 (bx[i]?) off L.size c K ⟨⟩ := (show aSm1 (some L) (.ptr i off) c bx K = aSm2 (bx[i]?) off L.size c K from rfl)
theorem s_sm2 {cs : List C} {off size : Nat} : baSm2 (some cs) off size c K ⟨⟩ = (c.partB = true ∧ (c.cells.all C.cellB) = true ∧ c.cells.length = size ∧ off + size ≤ cs.length ∧ sameC ((cs.drop off).take size) c.cells ∧ K .any) := (show aSm2 (some cs) off size c K = (c.partB = true ∧ (c.cells.all C.cellB) = true ∧ c.cells.length = size ∧ off + size ≤ cs.length ∧ sameC ((cs.drop off).take size) c.cells ∧ K .any) from rfl)
theorem s_same_nil : sameC [] [] = True := (show sameC [] [] = True from rfl)
theorem s_same_sc {u v : Value} {r s : List C} : sameC (.sc u :: r) (.sc v :: s) = (u = v ∧ sameC r s) := (show sameC (.sc u :: r) (.sc v :: s) = (u = v ∧ sameC r s) from rfl)
theorem s_same_str {u v : List UInt8} {r s : List C} : sameC (.str u :: r) (.str v :: s) = (u = v ∧ sameC r s) := (show sameC (.str u :: r) (.str v :: s) = (u = v ∧ sameC r s) from rfl)
theorem s_load_ptr {L : Lay} {i off : Nat} : baLoad1 (some L) (.ptr i off) bx K ⟨⟩ = baLoad2 (bx[i]?) off L K ⟨⟩ := (show aLoad1 (some L) (.ptr i off) bx K = aLoad2 (bx[i]?) off L K from rfl)
theorem s_load_row {L : Lay} {cs : List C} : baLoad1 (some L) (.row cs) bx K ⟨⟩ = baTake L cs K ⟨⟩ := (show aLoad1 (some L) (.row cs) bx K = aTake L cs K from rfl)
theorem s_load2 {L : Lay} {off : Nat} {cs : List C} : baLoad2 (some cs) off L K ⟨⟩ = baTake L (cs.drop off) K ⟨⟩ := (show aLoad2 (some cs) off L K = aTake L (cs.drop off) K from rfl)
theorem s_take_struct {fs : List (Nat × Nat × Bool)} {s b : Nat} {z1 : Option (List Value)} {cs : List C} : baTake ⟨.struct fs, s, b, z1⟩ cs K ⟨⟩ = (s ≤ cs.length ∧ K (.agg (cs.take s))) := (show aTake ⟨.struct fs, s, b, z1⟩ cs K = (s ≤ cs.length ∧ K (.agg (cs.take s))) from by simp [aTake, LK.agg])
theorem s_take_array {n e s b : Nat} {z1 : Option (List Value)} {cs : List C} : baTake ⟨.array n e, s, b, z1⟩ cs K ⟨⟩ = (s ≤ cs.length ∧ K (.agg (cs.take s))) := (show aTake ⟨.array n e, s, b, z1⟩ cs K = (s ≤ cs.length ∧ K (.agg (cs.take s))) from by simp [aTake, LK.agg])
theorem s_take_int {ik : IntKind} {s b : Nat} {z1 : Option (List Value)} {r : List C} : baTake ⟨.int ik, s, b, z1⟩ (c :: r) K ⟨⟩ = K c := (show aTake ⟨.int ik, s, b, z1⟩ (c :: r) K = K c from by simp [aTake, LK.agg])
theorem s_take_bool {s b : Nat} {z1 : Option (List Value)} {r : List C} : baTake ⟨.bool, s, b, z1⟩ (c :: r) K ⟨⟩ = K c := (show aTake ⟨.bool, s, b, z1⟩ (c :: r) K = K c from by simp [aTake, LK.agg])
theorem s_take_str {s b : Nat} {z1 : Option (List Value)} {r : List C} : baTake ⟨.str, s, b, z1⟩ (c :: r) K ⟨⟩ = K c := (show aTake ⟨.str, s, b, z1⟩ (c :: r) K = K c from by simp [aTake, LK.agg])
theorem s_take_slice {e : TypeId} {s b : Nat} {z1 : Option (List Value)} {r : List C} : baTake ⟨.slice e, s, b, z1⟩ (c :: r) K ⟨⟩ = K c := (show aTake ⟨.slice e, s, b, z1⟩ (c :: r) K = K c from by simp [aTake, LK.agg])
theorem s_take_other {s b : Nat} {z1 : Option (List Value)} {r : List C} : baTake ⟨.other, s, b, z1⟩ (c :: r) K ⟨⟩ = K c := (show aTake ⟨.other, s, b, z1⟩ (c :: r) K = K c from by simp [aTake, LK.agg])
theorem s_field {f : Nat} : baField P t c f K ⟨⟩ = baField1 (lay P t) c f K ⟨⟩ := (show aField P t c f K = aField1 (lay P t) c f K from rfl)
theorem s_field1 {fs : List (Nat × Nat × Bool)} {s b : Nat} {z1 : Option (List Value)} {cs : List C} {f : Nat} : baField1 (some ⟨.struct fs, s, b, z1⟩) (.agg cs) f K ⟨⟩ = baField2 (fs[f]?) cs K ⟨⟩ := (show aField1 (some ⟨.struct fs, s, b, z1⟩) (.agg cs) f K = aField2 (fs[f]?) cs K from by unfold aField1 aField2; simp only []; cases fs[f]? <;> simp)
theorem s_field2t {off size : Nat} {cs : List C} : baField2 (some (off, size, true)) cs K ⟨⟩ = (off + size ≤ cs.length ∧ K (.agg ((cs.drop off).take size))) := (show aField2 (some (off, size, true)) cs K = (off + size ≤ cs.length ∧ K (.agg ((cs.drop off).take size))) from by simp [aField2])
theorem s_field2f {off size : Nat} {cs : List C} : baField2 (some (off, size, false)) cs K ⟨⟩ = baOpt (cs[off]?) K ⟨⟩ := (show aField2 (some (off, size, false)) cs K = aOpt (cs[off]?) K from by unfold aField2 aOpt; simp)
theorem s_fa {f : Nat} : baFieldAddr P t c f K ⟨⟩ = baFA1 (lay P t) c f K ⟨⟩ := (show aFieldAddr P t c f K = aFA1 (lay P t) c f K from rfl)
theorem s_fa1 {fs : List (Nat × Nat × Bool)} {s b : Nat} {z1 : Option (List Value)} {f : Nat} : baFA1 (some ⟨.struct fs, s, b, z1⟩) c f K ⟨⟩ = baFA2 (fs[f]?) c K ⟨⟩ := (show aFA1 (some ⟨.struct fs, s, b, z1⟩) c f K = aFA2 (fs[f]?) c K from rfl)
theorem s_fa_ptr {off size i q : Nat} {g : Bool} : baFA2 (some (off, size + 1, g)) (.ptr i q) K ⟨⟩ = K (.ptr i (q + off)) := (show aFA2 (some (off, size + 1, g)) (.ptr i q) K = K (.ptr i (q + off)) from by simp [aFA2])
theorem s_fa_row {off size : Nat} {g : Bool} {cs : List C} : baFA2 (some (off, size + 1, g)) (.row cs) K ⟨⟩ = K (.row (cs.drop off)) := (show aFA2 (some (off, size + 1, g)) (.row cs) K = K (.row (cs.drop off)) from by simp [aFA2])
theorem s_ia : baIndexAddr P t c d K ⟨⟩ = baIA1 P (lay P t) c d K ⟨⟩ := (show aIndexAddr P t c d K = aIA1 P (lay P t) c d K from rfl)
theorem s_ia_slice {e s b : Nat} {z1 : Option (List Value)} {k : IntKind} {n : Int} : baIA1 P (some ⟨.slice e, s, b, z1⟩) c (.sc (.int k n)) K ⟨⟩ = baIAs (lay P e) c n K ⟨⟩ := (show aIA1 P (some ⟨.slice e, s, b, z1⟩) c (.sc (.int k n)) K = aIAs (lay P e) c n K from rfl)
theorem s_ia_array {m e s b : Nat} {z1 : Option (List Value)} {k : IntKind} {n : Int} : baIA1 P (some ⟨.array (m + 1) e, s, b, z1⟩) c (.sc (.int k n)) K ⟨⟩ = baIAa (lay P e) c m n K ⟨⟩ := (show aIA1 P (some ⟨.array (m + 1) e, s, b, z1⟩) c (.sc (.int k n)) K = aIAa (lay P e) c m n K from rfl)
theorem s_ia_s_sl {k : Nat} {rows : List (List C)} {L : Lay} {n : Int} : baIAs (some L) (.sl k rows) n K ⟨⟩ = baIAr (C.rows? L.size (.sl k rows)) n K ⟨⟩ := (show aIAs (some L) (.sl k rows) n K = aIAr (C.rows? L.size (.sl k rows)) n K from rfl)
theorem s_sl_s_sl {k : Nat} {rows : List (List C)} {L : Lay} {lo hi mx : Option Int} : baSlS (some L) (.sl k rows) lo hi mx K ⟨⟩ = baSlR (C.rows? L.size (.sl k rows)) L.size lo hi mx K ⟨⟩ := (show aSlS (some L) (.sl k rows) lo hi mx K = aSlR (C.rows? L.size (.sl k rows)) L.size lo hi mx K from rfl)
theorem s_convx_sl {k : Nat} {rows : List (List C)}  : baConvX P bx t t' (.sl k rows) K ⟨⟩ = baConv P t t' (.sl k rows) K ⟨⟩ := (show aConvX P bx t t' (.sl k rows) K = aConv P t t' (.sl k rows) K from rfl)
theorem s_ia_s_tight {k : Nat} {rows : List (List C)} {L : Lay} {n : Int} : baIAs (some L) (.tight k rows) n K ⟨⟩ = baIAr (C.rows? L.size (.tight k rows)) n K ⟨⟩ := (show aIAs (some L) (.tight k rows) n K = aIAr (C.rows? L.size (.tight k rows)) n K from rfl)
theorem s_sl_s_tight {k : Nat} {rows : List (List C)} {L : Lay} {lo hi mx : Option Int} : baSlS (some L) (.tight k rows) lo hi mx K ⟨⟩ = baSlR (C.rows? L.size (.tight k rows)) L.size lo hi mx K ⟨⟩ := (show aSlS (some L) (.tight k rows) lo hi mx K = aSlR (C.rows? L.size (.tight k rows)) L.size lo hi mx K from rfl)
theorem s_convx_tight {k : Nat} {rows : List (List C)}  : baConvX P bx t t' (.tight k rows) K ⟨⟩ = baConv P t t' (.tight k rows) K ⟨⟩ := (show aConvX P bx t t' (.tight k rows) K = aConv P t t' (.tight k rows) K from rfl)
theorem s_ia_s_own {id e k : Nat} {rows : List (List C)} {L : Lay} {n : Int} : baIAs (some L) (.own id e k rows) n K ⟨⟩ = baIAr (C.rows? L.size (.own id e k rows)) n K ⟨⟩ := (show aIAs (some L) (.own id e k rows) n K = aIAr (C.rows? L.size (.own id e k rows)) n K from rfl)
theorem s_sl_s_own {id e k : Nat} {rows : List (List C)} {L : Lay} {lo hi mx : Option Int} : baSlS (some L) (.own id e k rows) lo hi mx K ⟨⟩ = baSlR (C.rows? L.size (.own id e k rows)) L.size lo hi mx K ⟨⟩ := (show aSlS (some L) (.own id e k rows) lo hi mx K = aSlR (C.rows? L.size (.own id e k rows)) L.size lo hi mx K from rfl)
theorem s_convx_own {id e k : Nat} {rows : List (List C)}  : baConvX P bx t t' (.own id e k rows) K ⟨⟩ = baConv P t t' (.own id e k rows) K ⟨⟩ := (show aConvX P bx t t' (.own id e k rows) K = aConv P t t' (.own id e k rows) K from rfl)
theorem s_ia_s_sc {v : Value} {L : Lay} {n : Int} : baIAs (some L) (.sc v) n K ⟨⟩ = baIAr (C.rows? L.size (.sc v)) n K ⟨⟩ := (show aIAs (some L) (.sc v) n K = aIAr (C.rows? L.size (.sc v)) n K from rfl)
theorem s_sl_s_sc {v : Value} {L : Lay} {lo hi mx : Option Int} : baSlS (some L) (.sc v) lo hi mx K ⟨⟩ = baSlR (C.rows? L.size (.sc v)) L.size lo hi mx K ⟨⟩ := (show aSlS (some L) (.sc v) lo hi mx K = aSlR (C.rows? L.size (.sc v)) L.size lo hi mx K from rfl)
theorem s_convx_sc {v : Value}  : baConvX P bx t t' (.sc v) K ⟨⟩ = baConv P t t' (.sc v) K ⟨⟩ := (show aConvX P bx t t' (.sc v) K = aConv P t t' (.sc v) K from rfl)
theorem s_convx_str {l : List UInt8} : baConvX P bx t t' (.str l) K ⟨⟩ = baConv P t t' (.str l) K ⟨⟩ := (show aConvX P bx t t' (.str l) K = aConv P t t' (.str l) K from rfl)
theorem s_ia_s_bs {L : Lay} {n : Int} {j off k m1 cap : Nat} : baIAs (some L) (.bs j off k m1 cap) n K ⟨⟩ = (k = L.size ∧ 0 ≤ n ∧ n < (m1 : Int) ∧ K (.ptr j (off + n.toNat * L.size))) := (show aIAs (some L) (.bs j off k m1 cap) n K = (k = L.size ∧ 0 ≤ n ∧ n < (m1 : Int) ∧ K (.ptr j (off + n.toNat * L.size))) from rfl)
theorem s_sl_s_bs {L : Lay} {lo hi mx : Option Int} {i off k n cap : Nat} : baSlS (some L) (.bs i off k n cap) lo hi mx K ⟨⟩ = baSlB L.size i off k n cap lo hi mx K ⟨⟩ := (show aSlS (some L) (.bs i off k n cap) lo hi mx K = aSlB L.size i off k n cap lo hi mx K from rfl)
theorem s_slB000 {sz i off k n cap : Nat} : baSlB sz i off k n cap none none none K ⟨⟩ = (n ≤ cap ∧ K (.bs i off k n cap)) := (show aSlB sz i off k n cap none none none K = (n ≤ cap ∧ K (.bs i off k n cap)) from rfl)
theorem s_slB010 {b : Int} {sz i off k n cap : Nat} : baSlB sz i off k n cap none (some b) none K ⟨⟩ = (n ≤ cap ∧ (0 ≤ b ∧ b ≤ (cap : Int)) ∧ K (.bs i off k b.toNat cap)) := (show aSlB sz i off k n cap none (some b) none K = (n ≤ cap ∧ (0 ≤ b ∧ b ≤ (cap : Int)) ∧ K (.bs i off k b.toNat cap)) from rfl)
theorem s_slB100 {a : Int} {sz i off k n cap : Nat} : baSlB sz i off k n cap (some a) none none K ⟨⟩ = (sz = k ∧ n ≤ cap ∧ (0 ≤ a ∧ a ≤ (n : Int)) ∧ K (.bs i (off + a.toNat * k) k (n - a.toNat) (cap - a.toNat))) := (show aSlB sz i off k n cap (some a) none none K = (sz = k ∧ n ≤ cap ∧ (0 ≤ a ∧ a ≤ (n : Int)) ∧ K (.bs i (off + a.toNat * k) k (n - a.toNat) (cap - a.toNat))) from rfl)
theorem s_slB110 {a b : Int} {sz i off k n cap : Nat} : baSlB sz i off k n cap (some a) (some b) none K ⟨⟩ = (sz = k ∧ (0 ≤ a ∧ a ≤ b ∧ b ≤ (cap : Int)) ∧ K (.bs i (off + a.toNat * k) k (b.toNat - a.toNat) (cap - a.toNat))) := (show aSlB sz i off k n cap (some a) (some b) none K = (sz = k ∧ (0 ≤ a ∧ a ≤ b ∧ b ≤ (cap : Int)) ∧ K (.bs i (off + a.toNat * k) k (b.toNat - a.toNat) (cap - a.toNat))) from rfl)
theorem s_slB011 {b m1 : Int} {sz i off k n cap : Nat} : baSlB sz i off k n cap none (some b) (some m1) K ⟨⟩ = ((0 ≤ b ∧ b ≤ m1 ∧ m1 ≤ (cap : Int)) ∧ K (.bs i off k b.toNat m1.toNat)) := (show aSlB sz i off k n cap none (some b) (some m1) K = ((0 ≤ b ∧ b ≤ m1 ∧ m1 ≤ (cap : Int)) ∧ K (.bs i off k b.toNat m1.toNat)) from rfl)
theorem s_slB111 {a b m1 : Int} {sz i off k n cap : Nat} : baSlB sz i off k n cap (some a) (some b) (some m1) K ⟨⟩ = (sz = k ∧ (0 ≤ a ∧ a ≤ b ∧ b ≤ m1 ∧ m1 ≤ (cap : Int)) ∧ K (.bs i (off + a.toNat * k) k (b.toNat - a.toNat) (m1.toNat - a.toNat))) := (show aSlB sz i off k n cap (some a) (some b) (some m1) K = (sz = k ∧ (0 ≤ a ∧ a ≤ b ∧ b ≤ m1 ∧ m1 ≤ (cap : Int)) ∧ K (.bs i (off + a.toNat * k) k (b.toNat - a.toNat) (m1.toNat - a.toNat))) from rfl)
theorem s_convx_bs {i off k n cap : Nat} : baConvX P bx t t' (.bs i off k n cap) K ⟨⟩ = baCvb1 P (lay P t') (lay P t) bx i off n K ⟨⟩ := (show aConvX P bx t t' (.bs i off k n cap) K = aCvb1 P (lay P t') (lay P t) bx i off n K from rfl)
theorem s_cvb1 {e s b s2 b2 : Nat} {z1 z2 : Option (List Value)} {i off n : Nat} : baCvb1 P (some ⟨.str, s, b, z1⟩) (some ⟨.slice e, s2, b2, z2⟩) bx i off n K ⟨⟩ = baCvb2 (lay P e) (bx[i]?) off n K ⟨⟩ := (show aCvb1 P (some ⟨.str, s, b, z1⟩) (some ⟨.slice e, s2, b2, z2⟩) bx i off n K = aCvb2 (lay P e) (bx[i]?) off n K from rfl)
theorem s_cvb2 {s b : Nat} {z1 : Option (List Value)} {cs : Option (List C)} {off n : Nat} : baCvb2 (some ⟨.int .u8, s, b, z1⟩) cs off n K ⟨⟩ = baBytesB cs off n K ⟨⟩ := (show aCvb2 (some ⟨.int .u8, s, b, z1⟩) cs off n K = aBytesB cs off n K from rfl)
theorem s_len_bs {i off k n cap : Nat} : baLen P t (.bs i off k n cap) K ⟨⟩ = baLenL (lay P t) (n : Int) K ⟨⟩ := (show aLen P t (.bs i off k n cap) K = aLenL (lay P t) (n : Int) K from rfl)
theorem s_bb {n : Nat} {ps : List (Nat × C)} : baBuildBox P t n ps ⟨tm, bx, nx, lg⟩ K3 ⟨⟩ = baBB1 P (lay P t) n ps ⟨tm, bx, nx, lg⟩ K3 ⟨⟩ := (show aBuildBox P t n ps ⟨tm, bx, nx, lg⟩ K3 = aBB1 P (lay P t) n ps ⟨tm, bx, nx, lg⟩ K3 from rfl)
theorem s_bb1 {e s b n : Nat} {z1 : Option (List Value)} {ps : List (Nat × C)} : baBB1 P (some ⟨.slice e, s, b, z1⟩) n ps σ K3 ⟨⟩ = baBB2 (lay P e) n ps σ K3 ⟨⟩ := (show aBB1 P (some ⟨.slice e, s, b, z1⟩) n ps σ K3 = aBB2 (lay P e) n ps σ K3 from rfl)
theorem s_bb2 {kd : LK} {k b n : Nat} {z1 : List Value} {ps : List (Nat × C)} : baBB2 (some ⟨kd, k, b, some z1⟩) n ps σ K3 ⟨⟩ = (z1.length = k ∧ 0 < k ∧ n * k ≤ 16777216 ∧ (ps.all fun p => p.2.frz.partB) = true ∧ baBB3 (aFill (plA k) (List.replicate n (z1.map ofConst)).flatten (ps.map fun p => (p.1, p.2.frz))) k n σ K3 ⟨⟩) := (show aBB2 (some ⟨kd, k, b, some z1⟩) n ps σ K3 = (z1.length = k ∧ 0 < k ∧ n * k ≤ 16777216 ∧ (ps.all fun p => p.2.frz.partB) = true ∧ aBB3 (aFill (plA k) (List.replicate n (z1.map ofConst)).flatten (ps.map fun p => (p.1, p.2.frz))) k n σ K3) from rfl)
theorem s_bb3 {cs : List C} {k n : Nat} : baBB3 (some cs) k n ⟨tm, bx, nx, lg⟩ K3 ⟨⟩ = ((cs.all C.cellB) = true ∧ cs.length = n * k ∧ K3 (.bs bx.length 0 k n n) ⟨tm, bx ++ [cs], nx, lg⟩) := (show aBB3 (some cs) k n ⟨tm, bx, nx, lg⟩ K3 = ((cs.all C.cellB) = true ∧ cs.length = n * k ∧ K3 (.bs bx.length 0 k n n) ⟨tm, bx ++ [cs], nx, lg⟩) from rfl)
theorem s_pb : baAppBox P p t c d ⟨tm, bx, nx, lg⟩ K3 ⟨⟩ = baPB1 P (lay P t) p c d ⟨tm, bx, nx, lg⟩ K3 ⟨⟩ := (show aAppBox P p t c d ⟨tm, bx, nx, lg⟩ K3 = aPB1 P (lay P t) p c d ⟨tm, bx, nx, lg⟩ K3 from rfl)
theorem s_pb1 {e s b : Nat} {z1 : Option (List Value)} : baPB1 P (some ⟨.slice e, s, b, z1⟩) p c d σ K3 ⟨⟩ = baPB2 (lay P e) p c d σ K3 ⟨⟩ := (show aPB1 P (some ⟨.slice e, s, b, z1⟩) p c d σ K3 = aPB2 (lay P e) p c d σ K3 from rfl)
theorem s_pb2 {kd : LK} {k b : Nat} {z1 : List Value} : baPB2 (some ⟨kd, k, b, some z1⟩) p c d ⟨tm, bx, nx, lg⟩ K3 ⟨⟩ = baPB3 (d.xs? k bx) p k b z1 c ⟨tm, bx, nx, lg⟩ K3 ⟨⟩ := (show aPB2 (some ⟨kd, k, b, some z1⟩) p c d ⟨tm, bx, nx, lg⟩ K3 = aPB3 (d.xs? k bx) p k b z1 c ⟨tm, bx, nx, lg⟩ K3 from rfl)
theorem s_xs_sl {k : Nat} {rows : List (List C)}  : C.xs? k bx (.sl k rows) = some (rows.length, rows.flatten) := (show C.xs? k bx (.sl k rows) = some (rows.length, rows.flatten) from by simp [C.xs?, C.rows?])
theorem s_xs_tight {k : Nat} {rows : List (List C)}  : C.xs? k bx (.tight k rows) = some (rows.length, rows.flatten) := (show C.xs? k bx (.tight k rows) = some (rows.length, rows.flatten) from by simp [C.xs?, C.rows?])
theorem s_xs_own {id e k : Nat} {rows : List (List C)}  : C.xs? k bx (.own id e k rows) = some (rows.length, rows.flatten) := (show C.xs? k bx (.own id e k rows) = some (rows.length, rows.flatten) from by simp [C.xs?, C.rows?])
theorem s_xs_bs {i off k k2 n cap : Nat} : C.xs? k bx (.bs i off k2 n cap) = xsB k2 k off n (bx[i]?) := (show C.xs? k bx (.bs i off k2 n cap) = xsB k2 k off n (bx[i]?) from rfl)
theorem s_xsB1 {k off n : Nat} {cs : List C} : xsB k k off n (some cs) = if off + n * k ≤ cs.length then some (n, (cs.drop off).take (n * k)) else none := (show xsB k k off n (some cs) = if off + n * k ≤ cs.length then some (n, (cs.drop off).take (n * k)) else none from by simp [xsB])
theorem s_butBx {i : Nat} {cs : List C} : butBx i cs bx = (reBx (fpBut i) some bx).set i cs := (show butBx i cs bx = (reBx (fpBut i) some bx).set i cs from rfl)
theorem s_fpBut {i j : Nat} : fpBut i j = if j = i then none else some j := (show fpBut i j = if j = i then none else some j from rfl)
theorem s_frz_bs {i off k n cap : Nat} : C.frz (.bs i off k n cap) = .any := (show C.frz (.bs i off k n cap) = .any from by rw [C.frz])
theorem s_dg_bs {i off k n cap : Nat} {id : Nat} : C.dg id (.bs i off k n cap) = .bs i off k n cap := (show C.dg id (.bs i off k n cap) = .bs i off k n cap from by rw [C.dg])
theorem s_sh_bs {i off k n cap : Nat} {m : Nat} : C.sh m (.bs i off k n cap) = .bs i off k n cap := (show C.sh m (.bs i off k n cap) = .bs i off k n cap from by rw [C.sh])
theorem s_fz_bs {i off k n cap : Nat} : C.fz bx (.bs i off k n cap) = .any := (show C.fz bx (.bs i off k n cap) = .any from by rw [C.fz])
theorem s_re_bs {i off k n cap : Nat} {fp fo : Nat → Option Nat} : C.re fp fo (.bs i off k n cap) = bsO (fp i) off k n cap := (show C.re fp fo (.bs i off k n cap) = bsO (fp i) off k n cap from by rw [C.re]; rfl)
theorem s_sel_bs {i off k n cap : Nat} {fp : Nat → Option Nat} : C.sel fp (.bs i off k n cap) = bsO (fp i) off k n cap := (show C.sel fp (.bs i off k n cap) = bsO (fp i) off k n cap from by rw [C.sel]; rfl)
theorem s_bsO1 {j off k n cap : Nat} : bsO (some j) off k n cap = .bs j off k n cap := (show bsO (some j) off k n cap = .bs j off k n cap from rfl)
theorem s_bsO0 {off k n cap : Nat} : bsO none off k n cap = .any := (show bsO none off k n cap = .any from rfl)
theorem s_cellB_bs {i off k n cap : Nat} : C.cellB (.bs i off k n cap) = true := (show C.cellB (.bs i off k n cap) = true from rfl)
theorem s_partB_bs {i off k n cap : Nat} : C.partB (.bs i off k n cap) = true := (show C.partB (.bs i off k n cap) = true from rfl)
theorem s_cells_bs {i off k n cap : Nat} : C.cells (.bs i off k n cap) = [.bs i off k n cap] := (show C.cells (.bs i off k n cap) = [.bs i off k n cap] from rfl)
theorem s_ia_r {rows : List (List C)} {n : Int} : baIAr (some rows) n K ⟨⟩ = baAt (rows[n.toNat]?) n K ⟨⟩ := (show aIAr (some rows) n K = aAt (rows[n.toNat]?) n K from rfl)
theorem s_at {r : List C} {n : Int} : baAt (some r) n K ⟨⟩ = (0 ≤ n ∧ K (.row r)) := (show aAt (some r) n K = (0 ≤ n ∧ K (.row r)) from rfl)
theorem s_ia_ap {L : Lay} {m j off : Nat} {n : Int} : baIAa (some L) (.ptr j off) m n K ⟨⟩ = (0 ≤ n ∧ n < ((m + 1 : Nat) : Int) ∧ K (.ptr j (off + n.toNat * L.size))) := (show aIAa (some L) (.ptr j off) m n K = (0 ≤ n ∧ n < ((m + 1 : Nat) : Int) ∧ K (.ptr j (off + n.toNat * L.size))) from rfl)
theorem s_ia_ar {L : Lay} {m : Nat} {n : Int} {cs : List C} : baIAa (some L) (.row cs) m n K ⟨⟩ = (0 ≤ n ∧ n < ((m + 1 : Nat) : Int) ∧ K (.row (cs.drop (n.toNat * L.size)))) := (show aIAa (some L) (.row cs) m n K = (0 ≤ n ∧ n < ((m + 1 : Nat) : Int) ∧ K (.row (cs.drop (n.toNat * L.size)))) from rfl)
theorem s_ix : baIndex P t c d K ⟨⟩ = baIx1 (lay P t) c d K ⟨⟩ := (show aIndex P t c d K = aIx1 (lay P t) c d K from rfl)
theorem s_ix1 {s b : Nat} {z1 : Option (List Value)} {l : List UInt8} {k : IntKind} {n : Int} : baIx1 (some ⟨.str, s, b, z1⟩) (.str l) (.sc (.int k n)) K ⟨⟩ = baByte (l[n.toNat]?) n K ⟨⟩ := (show aIx1 (some ⟨.str, s, b, z1⟩) (.str l) (.sc (.int k n)) K = aByte (l[n.toNat]?) n K from by unfold aIx1 aByte; simp)
theorem s_byte {b : UInt8} {n : Int} : baByte (some b) n K ⟨⟩ = (0 ≤ n ∧ K (.sc (.int .u8 (b.toNat : Int)))) := (show aByte (some b) n K = (0 ≤ n ∧ K (.sc (.int .u8 (b.toNat : Int)))) from rfl)
theorem s_sl {lo hi mx : Option C} : baSlice P t c lo hi mx K ⟨⟩ = baSl0 P t c (optI lo) (optI hi) (optI mx) K ⟨⟩ := (show aSlice P t c lo hi mx K = aSl0 P t c (optI lo) (optI hi) (optI mx) K from rfl)
theorem s_sl0 {lo hi mx : Option Int} : baSl0 P t c (some lo) (some hi) (some mx) K ⟨⟩ = baSl1 P (lay P t) c lo hi mx K ⟨⟩ := (show aSl0 P t c (some lo) (some hi) (some mx) K = aSl1 P (lay P t) c lo hi mx K from rfl)
theorem s_opt_none : optI none = some none := (show optI none = some none from rfl)
theorem s_opt_int {k : IntKind} {n : Int} : optI (some (.sc (.int k n))) = some (some n) := (show optI (some (.sc (.int k n))) = some (some n) from rfl)
theorem s_sl_str {s b : Nat} {z1 : Option (List Value)} {l : List UInt8} {lo hi : Option Int} : baSl1 P (some ⟨.str, s, b, z1⟩) (.str l) lo hi none K ⟨⟩ = (cutOk l.length lo hi ∧ K (.str (cut l lo hi))) := (show aSl1 P (some ⟨.str, s, b, z1⟩) (.str l) lo hi none K = (cutOk l.length lo hi ∧ K (.str (cut l lo hi))) from rfl)
theorem s_sl_slice {e s b : Nat} {z1 : Option (List Value)} {lo hi mx : Option Int} : baSl1 P (some ⟨.slice e, s, b, z1⟩) c lo hi mx K ⟨⟩ = baSlS (lay P e) c lo hi mx K ⟨⟩ := (show aSl1 P (some ⟨.slice e, s, b, z1⟩) c lo hi mx K = aSlS (lay P e) c lo hi mx K from rfl)
theorem s_sl_r {rows : List (List C)} {k : Nat} {lo hi : Option Int} : baSlR (some rows) k lo hi none K ⟨⟩ = (cutOk rows.length lo hi ∧ K (.sl k (cut rows lo hi))) := (show aSlR (some rows) k lo hi none K = (cutOk rows.length lo hi ∧ K (.sl k (cut rows lo hi))) from rfl)
theorem s_sl_t {rows : List (List C)} {k : Nat} {lo : Option Int} {h m : Int} : baSlR (some rows) k lo (some h) (some m) K ⟨⟩ = (m = h ∧ cutOk rows.length lo (some h) ∧ K (.tight k (cut rows lo (some h)))) := (show aSlR (some rows) k lo (some h) (some m) K = (m = h ∧ cutOk rows.length lo (some h) ∧ K (.tight k (cut rows lo (some h)))) from rfl)
theorem s_cut_nn {α : Type} {l : List α} : cut l none none = l := (show cut l none none = l from rfl)
theorem s_cut_sn {α : Type} {l : List α} {a : Int} : cut l (some a) none = l.drop a.toNat := (show cut l (some a) none = l.drop a.toNat from rfl)
theorem s_cut_ns {α : Type} {l : List α} {b : Int} : cut l none (some b) = l.take b.toNat := (show cut l none (some b) = l.take b.toNat from rfl)
theorem s_cut_ss {α : Type} {l : List α} {a b : Int} : cut l (some a) (some b) = (l.take b.toNat).drop a.toNat := (show cut l (some a) (some b) = (l.take b.toNat).drop a.toNat from rfl)
theorem s_cutOk_nn {n : Nat} : cutOk n none none = True := (show cutOk n none none = True from rfl)
theorem s_cutOk_sn {n : Nat} {a : Int} : cutOk n (some a) none = (0 ≤ a ∧ a ≤ (n : Int)) := (show cutOk n (some a) none = (0 ≤ a ∧ a ≤ (n : Int)) from rfl)
theorem s_cutOk_ns {n : Nat} {b : Int} : cutOk n none (some b) = (0 ≤ b ∧ b ≤ (n : Int)) := (show cutOk n none (some b) = (0 ≤ b ∧ b ≤ (n : Int)) from rfl)
theorem s_cutOk_ss {n : Nat} {a b : Int} : cutOk n (some a) (some b) = (0 ≤ a ∧ a ≤ b ∧ b ≤ (n : Int)) := (show cutOk n (some a) (some b) = (0 ≤ a ∧ a ≤ b ∧ b ≤ (n : Int)) from rfl)
theorem s_rows_sl {k : Nat} {rows : List (List C)} : C.rows? k (.sl k rows) = some rows := (show C.rows? k (.sl k rows) = some rows from by simp [C.rows?])
theorem s_rows_tight {k : Nat} {rows : List (List C)} : C.rows? k (.tight k rows) = some rows := (show C.rows? k (.tight k rows) = some rows from by simp [C.rows?])
theorem s_rows_own {id e : Nat} {k : Nat} {rows : List (List C)} : C.rows? k (.own id e k rows) = some rows := (show C.rows? k (.own id e k rows) = some rows from by simp [C.rows?])
theorem s_rows_nil {k : Nat} : C.rows? k (.sc (.slice none 0 0)) = some [] := (show C.rows? k (.sc (.slice none 0 0)) = some [] from rfl)
theorem s_conv : baConv P t t' c K ⟨⟩ = baCv1 P (lay P t') (lay P t) c K ⟨⟩ := (show aConv P t t' c K = aCv1 P (lay P t') (lay P t) c K from rfl)
theorem s_conv_int {k k0 : IntKind} {n : Int} {s b : Nat} {z1 : Option (List Value)} {L : Lay} : baCv1 P (some ⟨.int k, s, b, z1⟩) (some L) (.sc (.int k0 n)) K ⟨⟩ = (inR k n ∧ K (.sc (.int k n))) := (show aCv1 P (some ⟨.int k, s, b, z1⟩) (some L) (.sc (.int k0 n)) K = (inR k n ∧ K (.sc (.int k n))) from rfl)
theorem s_conv_str {s b s2 b2 : Nat} {z1 z2 : Option (List Value)} {l : List UInt8} : baCv1 P (some ⟨.str, s, b, z1⟩) (some ⟨.str, s2, b2, z2⟩) (.str l) K ⟨⟩ = K (.str l) := (show aCv1 P (some ⟨.str, s, b, z1⟩) (some ⟨.str, s2, b2, z2⟩) (.str l) K = K (.str l) from rfl)
theorem s_conv_i {s b s2 b2 : Nat} {z1 z2 : Option (List Value)} {k k0 : IntKind} {n : Int} : baCv1 P (some ⟨.str, s, b, z1⟩) (some ⟨.int k, s2, b2, z2⟩) (.sc (.int k0 n)) K ⟨⟩ = K (.str (Utf8.encode n).data.toList) := (show aCv1 P (some ⟨.str, s, b, z1⟩) (some ⟨.int k, s2, b2, z2⟩) (.sc (.int k0 n)) K = K (.str (Utf8.encode n).data.toList) from rfl)
theorem s_conv_b {e s b s2 b2 : Nat} {z1 z2 : Option (List Value)} : baCv1 P (some ⟨.str, s, b, z1⟩) (some ⟨.slice e, s2, b2, z2⟩) c K ⟨⟩ = baCvB (lay P e) c K ⟨⟩ := (show aCv1 P (some ⟨.str, s, b, z1⟩) (some ⟨.slice e, s2, b2, z2⟩) c K = aCvB (lay P e) c K from rfl)
theorem s_conv_b1 {s b : Nat} {z1 : Option (List Value)} : baCvB (some ⟨.int .u8, s, b, z1⟩) c K ⟨⟩ = baBytes (c.rows? 1) K ⟨⟩ := (show aCvB (some ⟨.int .u8, s, b, z1⟩) c K = aBytes (c.rows? 1) K from rfl)
theorem s_conv_s {e s b s2 b2 : Nat} {z1 z2 : Option (List Value)} {l : List UInt8} : baCv1 P (some ⟨.slice e, s, b, z1⟩) (some ⟨.str, s2, b2, z2⟩) (.str l) K ⟨⟩ = baCvS (lay P e) l K ⟨⟩ := (show aCv1 P (some ⟨.slice e, s, b, z1⟩) (some ⟨.str, s2, b2, z2⟩) (.str l) K = aCvS (lay P e) l K from by unfold aCv1 aCvS; simp; split <;> simp_all)
theorem s_conv_s1 {s b : Nat} {z1 : Option (List Value)} {l : List UInt8} : baCvS (some ⟨.int .u8, s, b, z1⟩) l K ⟨⟩ = (((l.length : Nat) : Int) ≤ 9223372036854775807 ∧ K (.sl 1 (bytesC l))) := (show aCvS (some ⟨.int .u8, s, b, z1⟩) l K = (((l.length : Nat) : Int) ≤ 9223372036854775807 ∧ K (.sl 1 (bytesC l))) from rfl)
theorem s_len_str {l : List UInt8} : baLen P t (.str l) K ⟨⟩ = baLenT (lay P t) (l.length : Int) K ⟨⟩ := (show aLen P t (.str l) K = aLenT (lay P t) (l.length : Int) K from rfl)
theorem s_len_sl {k : Nat} {rows : List (List C)} : baLen P t (.sl k rows) K ⟨⟩ = baLenL (lay P t) (rows.length : Int) K ⟨⟩ := (show aLen P t (.sl k rows) K = aLenL (lay P t) (rows.length : Int) K from rfl)
theorem s_len_tight {k : Nat} {rows : List (List C)} : baLen P t (.tight k rows) K ⟨⟩ = baLenL (lay P t) (rows.length : Int) K ⟨⟩ := (show aLen P t (.tight k rows) K = aLenL (lay P t) (rows.length : Int) K from rfl)
theorem s_len_own {id e : Nat} {k : Nat} {rows : List (List C)} : baLen P t (.own id e k rows) K ⟨⟩ = baLenL (lay P t) (rows.length : Int) K ⟨⟩ := (show aLen P t (.own id e k rows) K = aLenL (lay P t) (rows.length : Int) K from rfl)
theorem s_len_nil : baLen P t (.sc (.slice none 0 0)) K ⟨⟩ = baLenL (lay P t) 0 K ⟨⟩ := (show aLen P t (.sc (.slice none 0 0)) K = aLenL (lay P t) 0 K from rfl)
theorem s_lenL {e s b : Nat} {z1 : Option (List Value)} {n : Int} : baLenL (some ⟨.slice e, s, b, z1⟩) n K ⟨⟩ = K (.sc (.int .i64 n)) := (show aLenL (some ⟨.slice e, s, b, z1⟩) n K = K (.sc (.int .i64 n)) from rfl)
theorem s_lenT {s b : Nat} {z1 : Option (List Value)} {n : Int} : baLenT (some ⟨.str, s, b, z1⟩) n K ⟨⟩ = K (.sc (.int .i64 n)) := (show aLenT (some ⟨.str, s, b, z1⟩) n K = K (.sc (.int .i64 n)) from rfl)
theorem s_build {ps : List (Nat × C)} : baBuild P t ps K ⟨⟩ = baBd1 (lay P t) ps K ⟨⟩ := (show aBuild P t ps K = aBd1 (lay P t) ps K from rfl)
theorem s_build1 {fs : List (Nat × Nat × Bool)} {s b : Nat} {z1 : List Value} {ps : List (Nat × C)} : baBd1 (some ⟨.struct fs, s, b, some z1⟩) ps K ⟨⟩ = ((ps.all fun p => p.2.partB) = true ∧ baFl (aFill (plS fs) (z1.map ofConst) ps) K ⟨⟩) := (show aBd1 (some ⟨.struct fs, s, b, some z1⟩) ps K = ((ps.all fun p => p.2.partB) = true ∧ aFl (aFill (plS fs) (z1.map ofConst) ps) K) from by unfold aBd1 aFl; simp only []; rfl)
theorem s_fl {cs : List C} : baFl (some cs) K ⟨⟩ = K (.agg cs) := (show aFl (some cs) K = K (.agg cs) from rfl)
theorem s_fill0 {place : Nat → Option (Nat × Nat)} {cs : List C} : aFill place cs [] = some cs := (show aFill place cs [] = some cs from rfl)
theorem s_fill {place : Nat → Option (Nat × Nat)} {cs : List C} {i : Nat} {rest : List (Nat × C)} : aFill place cs ((i, c) :: rest) = aFillP (place i) place cs c.cells rest := (show aFill place cs ((i, c) :: rest) = aFillP (place i) place cs c.cells rest from rfl)
theorem s_fillP {place : Nat → Option (Nat × Nat)} {cs l : List C} {off size : Nat} {rest : List (Nat × C)} : aFillP (some (off, size)) place cs l rest = (if l.length = size ∧ off + size ≤ cs.length then aFill place (cs.take off ++ l ++ cs.drop (off + size)) rest else none) := (show aFillP (some (off, size)) place cs l rest = (if l.length = size ∧ off + size ≤ cs.length then aFill place (cs.take off ++ l ++ cs.drop (off + size)) rest else none) from rfl)
theorem s_plS {fs : List (Nat × Nat × Bool)} {i : Nat} : plS fs i = (fs[i]?).map fun f => (f.1, f.2.1) := (show plS fs i = (fs[i]?).map fun f => (f.1, f.2.1) from rfl)
theorem s_plA {k i : Nat} : plA k i = some (i * k, k) := (show plA k i = some (i * k, k) from rfl)
theorem s_bs {n : Nat} {ps : List (Nat × C)} : baBuildSlice P t n ps nx K2 ⟨⟩ = baBS1 P (lay P t) n ps nx K2 ⟨⟩ := (show aBuildSlice P t n ps nx K2 = aBS1 P (lay P t) n ps nx K2 from rfl)
theorem s_bs1 {e s b n : Nat} {z1 : Option (List Value)} {ps : List (Nat × C)} : baBS1 P (some ⟨.slice e, s, b, z1⟩) n ps nx K2 ⟨⟩ = baBS2 (lay P e) e n ps nx K2 ⟨⟩ := (show aBS1 P (some ⟨.slice e, s, b, z1⟩) n ps nx K2 = aBS2 (lay P e) e n ps nx K2 from rfl)
theorem s_bs2 {kd : LK} {k b e n : Nat} {z1 : List Value} {ps : List (Nat × C)} : baBS2 (some ⟨kd, k, b, some z1⟩) e n ps nx K2 ⟨⟩ = (z1.length = k ∧ 0 < k ∧ n * k ≤ 16777216 ∧ (ps.all fun p => p.2.frz.partB) = true ∧ baBS3 (aFill (plA k) (List.replicate n (z1.map ofConst)).flatten (ps.map fun p => (p.1, p.2.frz))) e k n nx K2 ⟨⟩) := (show aBS2 (some ⟨kd, k, b, some z1⟩) e n ps nx K2 = (z1.length = k ∧ 0 < k ∧ n * k ≤ 16777216 ∧ (ps.all fun p => p.2.frz.partB) = true ∧ aBS3 (aFill (plA k) (List.replicate n (z1.map ofConst)).flatten (ps.map fun p => (p.1, p.2.frz))) e k n nx K2) from rfl)
theorem s_bs3 {cs : List C} {e k n : Nat} : baBS3 (some cs) e k n nx K2 ⟨⟩ = ((cs.all C.cellB) = true ∧ cs.length = n * k ∧ K2 (.own nx e k (aRows k n cs)) (nx + 1)) := (show aBS3 (some cs) e k n nx K2 = ((cs.all C.cellB) = true ∧ cs.length = n * k ∧ K2 (.own nx e k (aRows k n cs)) (nx + 1)) from rfl)
theorem s_mkb : baMakeBox P t c d ⟨tm, bx, nx, lg⟩ K3 ⟨⟩ = baMkB1 P (lay P t) c d ⟨tm, bx, nx, lg⟩ K3 ⟨⟩ := (show aMakeBox P t c d ⟨tm, bx, nx, lg⟩ K3 = aMkB1 P (lay P t) c d ⟨tm, bx, nx, lg⟩ K3 from rfl)
theorem s_mkb1 {e s b : Nat} {z1 : Option (List Value)} {k k2 : IntKind} {l m : Int} : baMkB1 P (some ⟨.slice e, s, b, z1⟩) (.sc (.int k l)) (.sc (.int k2 m)) ⟨tm, bx, nx, lg⟩ K3 ⟨⟩ = baMkB2 (lay P e) l m ⟨tm, bx, nx, lg⟩ K3 ⟨⟩ := (show aMkB1 P (some ⟨.slice e, s, b, z1⟩) (.sc (.int k l)) (.sc (.int k2 m)) ⟨tm, bx, nx, lg⟩ K3 = aMkB2 (lay P e) l m ⟨tm, bx, nx, lg⟩ K3 from rfl)
theorem s_mkb2 {kd : LK} {k b : Nat} {z1 : List Value} {l m : Int} : baMkB2 (some ⟨kd, k, b, some z1⟩) l m ⟨tm, bx, nx, lg⟩ K3 ⟨⟩ = (z1.length = k ∧ 0 < k ∧ (z1.all Value.oneCell') = true ∧ 0 ≤ l ∧ l ≤ m ∧ (b : Int) * m ≤ 281474976710656 ∧ m ≤ 9223372036854775807 ∧ K3 (.bs bx.length 0 k l.toNat m.toNat) ⟨tm, bx ++ [(List.replicate m.toNat (z1.map ofConst)).flatten], nx, lg⟩) := (show aMkB2 (some ⟨kd, k, b, some z1⟩) l m ⟨tm, bx, nx, lg⟩ K3 = (z1.length = k ∧ 0 < k ∧ (z1.all Value.oneCell') = true ∧ 0 ≤ l ∧ l ≤ m ∧ (b : Int) * m ≤ 281474976710656 ∧ m ≤ 9223372036854775807 ∧ K3 (.bs bx.length 0 k l.toNat m.toNat) ⟨tm, bx ++ [(List.replicate m.toNat (z1.map ofConst)).flatten], nx, lg⟩) from rfl)
theorem s_mk : baMake P t c d nx K2 ⟨⟩ = baMk1 P (lay P t) c d nx K2 ⟨⟩ := (show aMake P t c d nx K2 = aMk1 P (lay P t) c d nx K2 from rfl)
theorem s_mk1 {e s b : Nat} {z1 : Option (List Value)} {k k2 : IntKind} {l m : Int} : baMk1 P (some ⟨.slice e, s, b, z1⟩) (.sc (.int k l)) (.sc (.int k2 m)) nx K2 ⟨⟩ = baMk2 (lay P e) e l m nx K2 ⟨⟩ := (show aMk1 P (some ⟨.slice e, s, b, z1⟩) (.sc (.int k l)) (.sc (.int k2 m)) nx K2 = aMk2 (lay P e) e l m nx K2 from rfl)
theorem s_mk2 {kd : LK} {k b e : Nat} {z1 : List Value} {l m : Int} : baMk2 (some ⟨kd, k, b, some z1⟩) e l m nx K2 ⟨⟩ = (z1.length = k ∧ 0 < k ∧ (z1.all Value.oneCell') = true ∧ 0 ≤ l ∧ l ≤ m ∧ (b : Int) * m ≤ 281474976710656 ∧ m ≤ 9223372036854775807 ∧ K2 (.own nx e k (List.replicate l.toNat (z1.map ofConst))) (nx + 1)) := (show aMk2 (some ⟨kd, k, b, some z1⟩) e l m nx K2 = (z1.length = k ∧ 0 < k ∧ (z1.all Value.oneCell') = true ∧ 0 ≤ l ∧ l ≤ m ∧ (b : Int) * m ≤ 281474976710656 ∧ m ≤ 9223372036854775807 ∧ K2 (.own nx e k (List.replicate l.toNat (z1.map ofConst))) (nx + 1)) from rfl)
theorem s_app_own {id e k : Nat} {rows : List (List C)} : baAppend P t (.own id e k rows) d ⟨tm, bx, nx, lg⟩ K3 ⟨⟩ = baAo1 P (lay P t) id e k rows d ⟨tm, bx, nx, lg⟩ K3 ⟨⟩ := (show aAppend P t (.own id e k rows) d ⟨tm, bx, nx, lg⟩ K3 = aAo1 P (lay P t) id e k rows d ⟨tm, bx, nx, lg⟩ K3 from rfl)
theorem s_app_nil : baAppend P t (.sc (.slice none 0 0)) d ⟨tm, bx, nx, lg⟩ K3 ⟨⟩ = baAppNew P t (.sc (.slice none 0 0)) d nx (fun c nx' => K3 c ⟨tm, bx, nx', lg⟩) ⟨⟩ := (show aAppend P t (.sc (.slice none 0 0)) d ⟨tm, bx, nx, lg⟩ K3 = aAppNew P t (.sc (.slice none 0 0)) d nx fun c nx' => K3 c ⟨tm, bx, nx', lg⟩ from rfl)
theorem s_app_tight {k : Nat} {rows : List (List C)} : baAppend P t (.tight k rows) d ⟨tm, bx, nx, lg⟩ K3 ⟨⟩ = baAppNew P t (.tight k rows) d nx (fun c nx' => K3 c ⟨tm, bx, nx', lg⟩) ⟨⟩ := (show aAppend P t (.tight k rows) d ⟨tm, bx, nx, lg⟩ K3 = aAppNew P t (.tight k rows) d nx fun c nx' => K3 c ⟨tm, bx, nx', lg⟩ from rfl)
theorem s_appN : baAppNew P t c d nx K2 ⟨⟩ = baAp1 P (lay P t) c d nx K2 ⟨⟩ := (show aAppNew P t c d nx K2 = aAp1 P (lay P t) c d nx K2 from rfl)
theorem s_ap1 {e s b : Nat} {z1 : Option (List Value)} : baAp1 P (some ⟨.slice e, s, b, z1⟩) c d nx K2 ⟨⟩ = baAp2 (lay P e) e c d nx K2 ⟨⟩ := (show aAp1 P (some ⟨.slice e, s, b, z1⟩) c d nx K2 = aAp2 (lay P e) e c d nx K2 from rfl)
theorem s_ap2 {kd : LK} {k b e : Nat} {z1 : List Value} : baAp2 (some ⟨kd, k, b, some z1⟩) e c d nx K2 ⟨⟩ = baAp3 (d.rows? k) c e k b z1 nx K2 ⟨⟩ := (show aAp2 (some ⟨kd, k, b, some z1⟩) e c d nx K2 = aAp3 (d.rows? k) c e k b z1 nx K2 from rfl)
theorem s_ap3n {k b e : Nat} {z1 : List Value} {xs : List (List C)} : baAp3 (some xs) (.sc (.slice none 0 0)) e k b z1 nx K2 ⟨⟩ = (z1.length = k ∧ 0 < k ∧ xs.length ≤ 9223372036854775807 ∧ xs.length * b ≤ 140737488355328 ∧ K2 (.own nx e k xs) (nx + 1)) := (show aAp3 (some xs) (.sc (.slice none 0 0)) e k b z1 nx K2 = (z1.length = k ∧ 0 < k ∧ xs.length ≤ 9223372036854775807 ∧ xs.length * b ≤ 140737488355328 ∧ K2 (.own nx e k xs) (nx + 1)) from rfl)
theorem s_ap3t {k k0 b e : Nat} {z1 : List Value} {xs rows : List (List C)} : baAp3 (some xs) (.tight k0 rows) e k b z1 nx K2 ⟨⟩ = (k0 = k ∧ z1.length = k ∧ 0 < k ∧ xs ≠ [] ∧ rows.length + xs.length ≤ 9223372036854775807 ∧ (rows.length + xs.length) * b ≤ 140737488355328 ∧ K2 (.own nx e k (rows ++ xs)) (nx + 1)) := (show aAp3 (some xs) (.tight k0 rows) e k b z1 nx K2 = (k0 = k ∧ z1.length = k ∧ 0 < k ∧ xs ≠ [] ∧ rows.length + xs.length ≤ 9223372036854775807 ∧ (rows.length + xs.length) * b ≤ 140737488355328 ∧ K2 (.own nx e k (rows ++ xs)) (nx + 1)) from rfl)
theorem s_ao1 {e0 s b id e k : Nat} {z1 : Option (List Value)} {rows : List (List C)} : baAo1 P (some ⟨.slice e0, s, b, z1⟩) id e k rows c σ K3 ⟨⟩ = baAo2 (lay P e) e0 id e k rows c σ K3 ⟨⟩ := (show aAo1 P (some ⟨.slice e0, s, b, z1⟩) id e k rows c σ K3 = aAo2 (lay P e) e0 id e k rows c σ K3 from rfl)
theorem s_ao2 {kd : LK} {k0 b e0 id e k : Nat} {z1 : List Value} {rows : List (List C)} : baAo2 (some ⟨kd, k0, b, some z1⟩) e0 id e k rows c σ K3 ⟨⟩ = (e0 = e ∧ k0 = k ∧ z1.length = k ∧ 0 < k ∧ baAo3 (c.rows? k) b id e k rows σ K3 ⟨⟩) := (show aAo2 (some ⟨kd, k0, b, some z1⟩) e0 id e k rows c σ K3 = (e0 = e ∧ k0 = k ∧ z1.length = k ∧ 0 < k ∧ aAo3 (c.rows? k) b id e k rows σ K3) from by unfold aAo2 aAo3; simp only []; cases c.rows? k <;> simp)
theorem s_ao3 {xs rows : List (List C)} {b id e k : Nat} : baAo3 (some xs) b id e k rows ⟨tm, bx, nx, lg⟩ K3 ⟨⟩ = (rows.length + xs.length ≤ 9223372036854775807 ∧ (rows.length + xs.length) * b ≤ 140737488355328 ∧ K3 (.own id e k (rows ++ xs)) ⟨dgTm id tm, dgBx id bx, nx, lg⟩) := (show aAo3 (some xs) b id e k rows ⟨tm, bx, nx, lg⟩ K3 = (rows.length + xs.length ≤ 9223372036854775807 ∧ (rows.length + xs.length) * b ≤ 140737488355328 ∧ K3 (.own id e k (rows ++ xs)) ⟨dgTm id tm, dgBx id bx, nx, lg⟩) from rfl)
theorem s_callV {f : FuncId} {fs cs args : List C} : baCallV P G h (.clo (.func f) fs cs) args ⟨tm, bx, nx, lg⟩ K3 ⟨⟩ ⟨⟩ = baCallC P G f (fs ++ args ++ cs) (C.frzL (fs ++ args ++ cs)) ⟨tm, bx, nx, lg⟩ K3 ⟨⟩ := (show aCallV P G h (.clo (.func f) fs cs) args ⟨tm, bx, nx, lg⟩ K3 = aCallC P G f (fs ++ args ++ cs) (C.frzL (fs ++ args ++ cs)) ⟨tm, bx, nx, lg⟩ K3 from rfl)
theorem s_yield {l : Nat} {items : List (List C)} {sf : Nat → Bool} {args : List C} : baCallV P G ⟨p, some ⟨l, items, sf⟩, bf⟩ (.sc (.func (.yield l) #[] #[])) args ⟨tm, bx, nx, lg⟩ K3 ⟨⟩ ⟨⟩ = baYield1 ⟨l, items, sf⟩ (items[lg]?) args ⟨tm, bx, nx, lg⟩ K3 ⟨⟩ ⟨⟩ := (show aCallV P G ⟨p, some ⟨l, items, sf⟩, bf⟩ (.sc (.func (.yield l) #[] #[])) args ⟨tm, bx, nx, lg⟩ K3 = aYield1 ⟨l, items, sf⟩ (items[lg]?) args ⟨tm, bx, nx, lg⟩ K3 from by simp [aCallV, aYield])
theorem s_yield1 {l : Nat} {items : List (List C)} {sf : Nat → Bool} {args it : List C} : baYield1 ⟨l, items, sf⟩ (some it) args ⟨tm, bx, nx, lg⟩ K3 ⟨⟩ ⟨⟩ = (CLeL [] 0 args it ∧ (∀ j, j < lg → sf j = false) ∧ K3 (.sc (.bool (!sf lg))) ⟨tm, bx, nx, lg + 1⟩) := (show aYield1 ⟨l, items, sf⟩ (some it) args ⟨tm, bx, nx, lg⟩ K3 = (CLeL [] 0 args it ∧ (∀ j, j < lg → sf j = false) ∧ K3 (.sc (.bool (!sf lg))) ⟨tm, bx, nx, lg + 1⟩) from rfl)
theorem s_nil_yield {l : Nat} : baNil (.sc (.func (.yield l) #[] #[])) K ⟨⟩ = K (.sc (.func (.yield l) #[] #[])) := (show aNil (.sc (.func (.yield l) #[] #[])) K = K (.sc (.func (.yield l) #[] #[])) from rfl)
theorem s_const_func {f : Fn} {a b : Array Value} : ofConst (.func f a b) = .sc (.func f a b) := (show ofConst (.func f a b) = .sc (.func f a b) from rfl)
theorem s_upBs {ι : List Nat} {j : Nat} : upB ι m j = match ι[j]? with | some i => some i | none => some (m + (j - ι.length)) := (show upB ι m j = match ι[j]? with | some i => some i | none => some (m + (j - ι.length)) from rfl)
theorem s_upO {j : Nat} : upO nx j = some (nx + j) := (show upO nx j = some (nx + j) from rfl)
theorem s_ix0 {i : Nat} : ixOf [] i = none := (show ixOf [] i = none from rfl)
theorem s_ixc {x1 i : Nat} {r : List Nat} : ixOf (x1 :: r) i = if i = x1 then some 0 else (ixOf r i).map (· + 1) := (show ixOf (x1 :: r) i = if i = x1 then some 0 else (ixOf r i).map (· + 1) from rfl)
theorem s_reTm0 {fp fo : Nat → Option Nat} : reTm fp fo [] = [] := (show reTm fp fo [] = [] from rfl)
theorem s_reTm {fp fo : Nat → Option Nat} {u : Nat} {r : List (Nat × C)} : reTm fp fo ((u, c) :: r) = (u, c.re fp fo) :: reTm fp fo r := (show reTm fp fo ((u, c) :: r) = (u, c.re fp fo) :: reTm fp fo r from rfl)
theorem s_reBx0 {fp fo : Nat → Option Nat} : reBx fp fo [] = [] := (show reBx fp fo [] = [] from rfl)
theorem s_reBx {fp fo : Nat → Option Nat} {cs : List C} {r : List (List C)} : reBx fp fo (cs :: r) = C.reL fp fo cs :: reBx fp fo r := (show reBx fp fo (cs :: r) = C.reL fp fo cs :: reBx fp fo r from rfl)
theorem s_putBx0 {l : List (List C)} : putBx [] l bx = bx := (show putBx [] l bx = bx from rfl)
theorem s_putBx1 {i : Nat} {ι : List Nat} {cs : List C} {r : List (List C)} : putBx (i :: ι) (cs :: r) bx = putBx ι r (bx.set i cs) := (show putBx (i :: ι) (cs :: r) bx = putBx ι r (bx.set i cs) from rfl)
theorem s_afterB {ι κ : List Nat} {n : Nat} : afterB ι κ bx' n ⟨tm, bx, nx, lg⟩ = ⟨reTm some (keepO κ) tm, putBx ι (reBx (upB ι bx.length) (upO nx) bx') (reBx some (keepO κ) bx) ++ reBx (upB ι bx.length) (upO nx) (bx'.drop ι.length), nx + n, lg⟩ := (show afterB ι κ bx' n ⟨tm, bx, nx, lg⟩ = ⟨reTm some (keepO κ) tm, putBx ι (reBx (upB ι bx.length) (upO nx) bx') (reBx some (keepO κ) bx) ++ reBx (upB ι bx.length) (upO nx) (bx'.drop ι.length), nx + n, lg⟩ from rfl)
theorem s_keepO {κ : List Nat} {i : Nat} : keepO κ i = if i ∈ κ then none else some i := (show keepO κ i = if i ∈ κ then none else some i from rfl)
theorem s_fpKeep {i : Nat} : fpKeep m i = if i < m then some i else none := (show fpKeep m i = if i < m then some i else none from rfl)
theorem s_fpDrop {i : Nat} : fpDrop m i = if i < m then none else some (i - m) := (show fpDrop m i = if i < m then none else some (i - m) from rfl)
theorem s_callF {f : FuncId} {fs cs args : List C} : baCallF P G (.clo (.func f) fs cs) args nx K2 ⟨⟩ = baCallN P G f (C.frzL (fs ++ args ++ cs)) nx K2 ⟨⟩ := (show aCallF P G (.clo (.func f) fs cs) args nx K2 = aCallN P G f (C.frzL (fs ++ args ++ cs)) nx K2 from rfl)
theorem s_al1 {kd : LK} {s b : Nat} {z1 : List Value} : baAl1 (some ⟨kd, s, b, some z1⟩) ⟨tm, bx, nx, lg⟩ K3 ⟨⟩ = ((z1.all Value.oneCell') = true ∧ K3 (.ptr bx.length 0) ⟨tm, bx ++ [z1.map ofConst], nx, lg⟩) := (show aAl1 (some ⟨kd, s, b, some z1⟩) ⟨tm, bx, nx, lg⟩ K3 = ((z1.all Value.oneCell') = true ∧ K3 (.ptr bx.length 0) ⟨tm, bx ++ [z1.map ofConst], nx, lg⟩) from rfl)
theorem s_box : baBox c ⟨tm, bx, nx, lg⟩ K3 ⟨⟩ = (c.partB = true ∧ (c.cells.all C.cellB) = true ∧ K3 (.ptr bx.length 0) ⟨tm, bx ++ [c.cells], nx, lg⟩) := (show aBox c ⟨tm, bx, nx, lg⟩ K3 = (c.partB = true ∧ (c.cells.all C.cellB) = true ∧ K3 (.ptr bx.length 0) ⟨tm, bx ++ [c.cells], nx, lg⟩) from rfl)
theorem s_st1 {L : Lay} {i off : Nat} : baSt1 (some L) (.ptr i off) c ⟨tm, bx, nx, lg⟩ K3 ⟨⟩ = baSt2 (bx[i]?) i off L.size c ⟨tm, bx, nx, lg⟩ K3 ⟨⟩ := (show aSt1 (some L) (.ptr i off) c ⟨tm, bx, nx, lg⟩ K3 = aSt2 (bx[i]?) i off L.size c ⟨tm, bx, nx, lg⟩ K3 from rfl)
theorem s_st2 {cs : List C} {i off size : Nat} : baSt2 (some cs) i off size c ⟨tm, bx, nx, lg⟩ K3 ⟨⟩ = (c.partB = true ∧ (c.cells.all C.cellB) = true ∧ c.cells.length = size ∧ off + size ≤ cs.length ∧ K3 .any ⟨tm, bx.set i (cs.take off ++ c.cells ++ cs.drop (off + size)), nx, lg⟩) := (show aSt2 (some cs) i off size c ⟨tm, bx, nx, lg⟩ K3 = (c.partB = true ∧ (c.cells.all C.cellB) = true ∧ c.cells.length = size ∧ off + size ≤ cs.length ∧ K3 .any ⟨tm, bx.set i (cs.take off ++ c.cells ++ cs.drop (off + size)), nx, lg⟩) from rfl)
theorem s_frz_sc {v : Value} : C.frz (.sc v) = .sc v := (show C.frz (.sc v) = .sc v from by rw [C.frz])
theorem s_dg_sc {v : Value} {id : Nat} : C.dg id (.sc v) = .sc v := (show C.dg id (.sc v) = .sc v from by rw [C.dg])
theorem s_sh_sc {v : Value} {n : Nat} : C.sh n (.sc v) = .sc v := (show C.sh n (.sc v) = .sc v from by rw [C.sh])
theorem s_frz_str {l : List UInt8} : C.frz (.str l) = .str l := (show C.frz (.str l) = .str l from by rw [C.frz])
theorem s_dg_str {l : List UInt8} {id : Nat} : C.dg id (.str l) = .str l := (show C.dg id (.str l) = .str l from by rw [C.dg])
theorem s_sh_str {l : List UInt8} {n : Nat} : C.sh n (.str l) = .str l := (show C.sh n (.str l) = .str l from by rw [C.sh])
theorem s_frz_sl {k : Nat} {rows : List (List C)} : C.frz (.sl k rows) = .sl k rows := (show C.frz (.sl k rows) = .sl k rows from by rw [C.frz])
theorem s_dg_sl {k : Nat} {rows : List (List C)} {id : Nat} : C.dg id (.sl k rows) = .sl k rows := (show C.dg id (.sl k rows) = .sl k rows from by rw [C.dg])
theorem s_sh_sl {k : Nat} {rows : List (List C)} {n : Nat} : C.sh n (.sl k rows) = .sl k rows := (show C.sh n (.sl k rows) = .sl k rows from by rw [C.sh])
theorem s_frz_tight {k : Nat} {rows : List (List C)} : C.frz (.tight k rows) = .tight k rows := (show C.frz (.tight k rows) = .tight k rows from by rw [C.frz])
theorem s_dg_tight {k : Nat} {rows : List (List C)} {id : Nat} : C.dg id (.tight k rows) = .tight k rows := (show C.dg id (.tight k rows) = .tight k rows from by rw [C.dg])
theorem s_sh_tight {k : Nat} {rows : List (List C)} {n : Nat} : C.sh n (.tight k rows) = .tight k rows := (show C.sh n (.tight k rows) = .tight k rows from by rw [C.sh])
theorem s_frz_row {cs : List C} : C.frz (.row cs) = .row cs := (show C.frz (.row cs) = .row cs from by rw [C.frz])
theorem s_dg_row {cs : List C} {id : Nat} : C.dg id (.row cs) = .row cs := (show C.dg id (.row cs) = .row cs from by rw [C.dg])
theorem s_sh_row {cs : List C} {n : Nat} : C.sh n (.row cs) = .row cs := (show C.sh n (.row cs) = .row cs from by rw [C.sh])
theorem s_frz_any : C.frz (.any) = .any := (show C.frz (.any) = .any from by rw [C.frz])
theorem s_dg_any {id : Nat} : C.dg id (.any) = .any := (show C.dg id (.any) = .any from by rw [C.dg])
theorem s_sh_any {n : Nat} : C.sh n (.any) = .any := (show C.sh n (.any) = .any from by rw [C.sh])
theorem s_frz_mo {i : Nat} {t2 : TypeId} {ks : MK} {vs : List C} : C.frz (.mo i t2 ks vs) = .any := (show C.frz (.mo i t2 ks vs) = .any from by rw [C.frz])
theorem s_dg_mo {i : Nat} {t2 : TypeId} {ks : MK} {vs : List C} {id : Nat} : C.dg id (.mo i t2 ks vs) = if i = id then .any else .mo i t2 ks vs := (show C.dg id (.mo i t2 ks vs) = if i = id then .any else .mo i t2 ks vs from by rw [C.dg])
theorem s_sh_mo {i : Nat} {t2 : TypeId} {ks : MK} {vs : List C} {n : Nat} : C.sh n (.mo i t2 ks vs) = .mo (n + i) t2 ks vs := (show C.sh n (.mo i t2 ks vs) = .mo (n + i) t2 ks vs from by rw [C.sh])
theorem s_re_mo {i : Nat} {t2 : TypeId} {ks : MK} {vs : List C} {fp fo : Nat → Option Nat} : C.re fp fo (.mo i t2 ks vs) = moO (fo i) t2 ks vs := (show C.re fp fo (.mo i t2 ks vs) = moO (fo i) t2 ks vs from by rw [C.re]; rfl)
theorem s_moO1 {j : Nat} {t2 : TypeId} {ks : MK} {vs : List C} : moO (some j) t2 ks vs = .mo j t2 ks vs := (show moO (some j) t2 ks vs = .mo j t2 ks vs from rfl)
theorem s_moO0 {t2 : TypeId} {ks : MK} {vs : List C} : moO none t2 ks vs = .any := (show moO none t2 ks vs = .any from rfl)
theorem s_sel_mo {i : Nat} {t2 : TypeId} {ks : MK} {vs : List C} {fp : Nat → Option Nat} : C.sel fp (.mo i t2 ks vs) = .any := (show C.sel fp (.mo i t2 ks vs) = .any from by rw [C.sel])
theorem s_fz_mo {i : Nat} {t2 : TypeId} {ks : MK} {vs : List C} : C.fz bx (.mo i t2 ks vs) = .mo i t2 ks vs := (show C.fz bx (.mo i t2 ks vs) = .mo i t2 ks vs from by rw [C.fz])
theorem s_fy_mo {i : Nat} {t2 : TypeId} {ks : MK} {vs : List C} {fr : Fr} : C.fy nx fr bx (.mo i t2 ks vs) = .mo i t2 ks vs := (show C.fy nx fr bx (.mo i t2 ks vs) = .mo i t2 ks vs from by rw [C.fy])
theorem s_cellB_mo {i : Nat} {t2 : TypeId} {ks : MK} {vs : List C} : C.cellB (.mo i t2 ks vs) = true := (show C.cellB (.mo i t2 ks vs) = true from rfl)
theorem s_partB_mo {i : Nat} {t2 : TypeId} {ks : MK} {vs : List C} : C.partB (.mo i t2 ks vs) = true := (show C.partB (.mo i t2 ks vs) = true from rfl)
theorem s_cells_mo {i : Nat} {t2 : TypeId} {ks : MK} {vs : List C} : C.cells (.mo i t2 ks vs) = [.mo i t2 ks vs] := (show C.cells (.mo i t2 ks vs) = [.mo i t2 ks vs] from rfl)
theorem s_up_sc {v : Value} {id : Nat} {ks1 : MK} {vs1 : List C} : C.up id ks1 vs1 (.sc v) = .sc v := (show C.up id ks1 vs1 (.sc v) = .sc v from by rw [C.up])
theorem s_up_str {l : List UInt8} {id : Nat} {ks1 : MK} {vs1 : List C} : C.up id ks1 vs1 (.str l) = .str l := (show C.up id ks1 vs1 (.str l) = .str l from by rw [C.up])
theorem s_up_sl {k : Nat} {rows : List (List C)} {id : Nat} {ks1 : MK} {vs1 : List C} : C.up id ks1 vs1 (.sl k rows) = .sl k rows := (show C.up id ks1 vs1 (.sl k rows) = .sl k rows from by rw [C.up])
theorem s_up_tight {k : Nat} {rows : List (List C)} {id : Nat} {ks1 : MK} {vs1 : List C} : C.up id ks1 vs1 (.tight k rows) = .tight k rows := (show C.up id ks1 vs1 (.tight k rows) = .tight k rows from by rw [C.up])
theorem s_up_row {cs : List C} {id : Nat} {ks1 : MK} {vs1 : List C} : C.up id ks1 vs1 (.row cs) = .row cs := (show C.up id ks1 vs1 (.row cs) = .row cs from by rw [C.up])
theorem s_up_any {id : Nat} {ks1 : MK} {vs1 : List C} : C.up id ks1 vs1 (.any) = .any := (show C.up id ks1 vs1 (.any) = .any from by rw [C.up])
theorem s_up_ptr {i off : Nat} {id : Nat} {ks1 : MK} {vs1 : List C} : C.up id ks1 vs1 (.ptr i off) = .ptr i off := (show C.up id ks1 vs1 (.ptr i off) = .ptr i off from by rw [C.up])
theorem s_up_bs {i off k n cap : Nat} {id : Nat} {ks1 : MK} {vs1 : List C} : C.up id ks1 vs1 (.bs i off k n cap) = .bs i off k n cap := (show C.up id ks1 vs1 (.bs i off k n cap) = .bs i off k n cap from by rw [C.up])
theorem s_up_own {i e k : Nat} {rows : List (List C)} {id : Nat} {ks1 : MK} {vs1 : List C} : C.up id ks1 vs1 (.own i e k rows) = if i = id then .any else .own i e k rows := (show C.up id ks1 vs1 (.own i e k rows) = if i = id then .any else .own i e k rows from by rw [C.up])
theorem s_up_mo {i : Nat} {t2 : TypeId} {ks : MK} {vs : List C} {id : Nat} {ks1 : MK} {vs1 : List C} : C.up id ks1 vs1 (.mo i t2 ks vs) = if i = id then .mo i t2 ks1 vs1 else .mo i t2 ks vs := (show C.up id ks1 vs1 (.mo i t2 ks vs) = if i = id then .mo i t2 ks1 vs1 else .mo i t2 ks vs from by rw [C.up])
theorem s_up_agg {cs : List C} {id : Nat} {ks1 : MK} {vs1 : List C} : C.up id ks1 vs1 (.agg cs) = .agg (C.upL id ks1 vs1 cs) := (show C.up id ks1 vs1 (.agg cs) = .agg (C.upL id ks1 vs1 cs) from by rw [C.up])
theorem s_up_tup {cs : List C} {id : Nat} {ks1 : MK} {vs1 : List C} : C.up id ks1 vs1 (.tup cs) = .tup (C.upL id ks1 vs1 cs) := (show C.up id ks1 vs1 (.tup cs) = .tup (C.upL id ks1 vs1 cs) from by rw [C.up])
theorem s_up_clo {fn : Fn} {fs cs : List C} {id : Nat} {ks1 : MK} {vs1 : List C} : C.up id ks1 vs1 (.clo fn fs cs) = .clo fn (C.upL id ks1 vs1 fs) (C.upL id ks1 vs1 cs) := (show C.up id ks1 vs1 (.clo fn fs cs) = .clo fn (C.upL id ks1 vs1 fs) (C.upL id ks1 vs1 cs) from by rw [C.up])
theorem s_upL_nil {id : Nat} {ks1 : MK} {vs1 : List C} : C.upL id ks1 vs1 [] = [] := (show C.upL id ks1 vs1 [] = [] from by rw [C.upL])
theorem s_upL_cons {r : List C} {id : Nat} {ks1 : MK} {vs1 : List C} : C.upL id ks1 vs1 (c :: r) = c.up id ks1 vs1 :: C.upL id ks1 vs1 r := (show C.upL id ks1 vs1 (c :: r) = c.up id ks1 vs1 :: C.upL id ks1 vs1 r from by rw [C.upL])
theorem s_upTm_nil {id : Nat} {ks1 : MK} {vs1 : List C} : upTm id ks1 vs1 [] = [] := (show upTm id ks1 vs1 [] = [] from rfl)
theorem s_upTm {u : Nat} {r : List (Nat × C)} {id : Nat} {ks1 : MK} {vs1 : List C} : upTm id ks1 vs1 ((u, c) :: r) = (u, c.up id ks1 vs1) :: upTm id ks1 vs1 r := (show upTm id ks1 vs1 ((u, c) :: r) = (u, c.up id ks1 vs1) :: upTm id ks1 vs1 r from rfl)
theorem s_upBx_nil {id : Nat} {ks1 : MK} {vs1 : List C} : upBx id ks1 vs1 [] = [] := (show upBx id ks1 vs1 [] = [] from rfl)
theorem s_upBx {cs : List C} {r : List (List C)} {id : Nat} {ks1 : MK} {vs1 : List C} : upBx id ks1 vs1 (cs :: r) = C.upL id ks1 vs1 cs :: upBx id ks1 vs1 r := (show upBx id ks1 vs1 (cs :: r) = C.upL id ks1 vs1 cs :: upBx id ks1 vs1 r from rfl)
theorem s_frz_own {id e k : Nat} {rows : List (List C)} : C.frz (.own id e k rows) = .sl k rows := (show C.frz (.own id e k rows) = .sl k rows from by rw [C.frz])
theorem s_frz_ptr {i off : Nat} : C.frz (.ptr i off) = .any := (show C.frz (.ptr i off) = .any from by rw [C.frz])
theorem s_dg_ptr {id i off : Nat} : C.dg id (.ptr i off) = .ptr i off := (show C.dg id (.ptr i off) = .ptr i off from by rw [C.dg])
theorem s_sh_ptr {n i off : Nat} : C.sh n (.ptr i off) = .ptr i off := (show C.sh n (.ptr i off) = .ptr i off from by rw [C.sh])
theorem s_dg_own {id i e k : Nat} {rows : List (List C)} : C.dg id (.own i e k rows) = if i = id then .sl k rows else .own i e k rows := (show C.dg id (.own i e k rows) = if i = id then .sl k rows else .own i e k rows from by rw [C.dg])
theorem s_sh_own {n i e k : Nat} {rows : List (List C)} : C.sh n (.own i e k rows) = .own (n + i) e k rows := (show C.sh n (.own i e k rows) = .own (n + i) e k rows from by rw [C.sh])
theorem s_re_sc {v : Value} {fp fo : Nat → Option Nat} : C.re fp fo (.sc v) = .sc v := (show C.re fp fo (.sc v) = .sc v from by rw [C.re])
theorem s_sel_sc {v : Value} {fp : Nat → Option Nat} : C.sel fp (.sc v) = .sc v := (show C.sel fp (.sc v) = .sc v from by rw [C.sel])
theorem s_re_str {l : List UInt8} {fp fo : Nat → Option Nat} : C.re fp fo (.str l) = .str l := (show C.re fp fo (.str l) = .str l from by rw [C.re])
theorem s_sel_str {l : List UInt8} {fp : Nat → Option Nat} : C.sel fp (.str l) = .str l := (show C.sel fp (.str l) = .str l from by rw [C.sel])
theorem s_re_sl {k : Nat} {rows : List (List C)} {fp fo : Nat → Option Nat} : C.re fp fo (.sl k rows) = .sl k rows := (show C.re fp fo (.sl k rows) = .sl k rows from by rw [C.re])
theorem s_sel_sl {k : Nat} {rows : List (List C)} {fp : Nat → Option Nat} : C.sel fp (.sl k rows) = .sl k rows := (show C.sel fp (.sl k rows) = .sl k rows from by rw [C.sel])
theorem s_re_tight {k : Nat} {rows : List (List C)} {fp fo : Nat → Option Nat} : C.re fp fo (.tight k rows) = .tight k rows := (show C.re fp fo (.tight k rows) = .tight k rows from by rw [C.re])
theorem s_sel_tight {k : Nat} {rows : List (List C)} {fp : Nat → Option Nat} : C.sel fp (.tight k rows) = .tight k rows := (show C.sel fp (.tight k rows) = .tight k rows from by rw [C.sel])
theorem s_re_row {cs : List C} {fp fo : Nat → Option Nat} : C.re fp fo (.row cs) = .row cs := (show C.re fp fo (.row cs) = .row cs from by rw [C.re])
theorem s_sel_row {cs : List C} {fp : Nat → Option Nat} : C.sel fp (.row cs) = .row cs := (show C.sel fp (.row cs) = .row cs from by rw [C.sel])
theorem s_re_any {fp fo : Nat → Option Nat} : C.re fp fo (.any) = .any := (show C.re fp fo (.any) = .any from by rw [C.re])
theorem s_sel_any {fp : Nat → Option Nat} : C.sel fp (.any) = .any := (show C.sel fp (.any) = .any from by rw [C.sel])
theorem s_fz_sc {v : Value} : C.fz bx (.sc v) = .sc v := (show C.fz bx (.sc v) = .sc v from by rw [C.fz])
theorem s_fz_str {l : List UInt8} : C.fz bx (.str l) = .str l := (show C.fz bx (.str l) = .str l from by rw [C.fz])
theorem s_fz_sl {k : Nat} {rows : List (List C)} : C.fz bx (.sl k rows) = .sl k rows := (show C.fz bx (.sl k rows) = .sl k rows from by rw [C.fz])
theorem s_fz_tight {k : Nat} {rows : List (List C)} : C.fz bx (.tight k rows) = .tight k rows := (show C.fz bx (.tight k rows) = .tight k rows from by rw [C.fz])
theorem s_fz_own {id e k : Nat} {rows : List (List C)} : C.fz bx (.own id e k rows) = .own id e k rows := (show C.fz bx (.own id e k rows) = .own id e k rows from by rw [C.fz])
theorem s_fz_row {cs : List C} : C.fz bx (.row cs) = .row cs := (show C.fz bx (.row cs) = .row cs from by rw [C.fz])
theorem s_fz_any : C.fz bx (.any) = .any := (show C.fz bx (.any) = .any from by rw [C.fz])
theorem s_fz_ptr {i off : Nat} : C.fz bx (.ptr i off) = rowO (bx[i]?) off := (show C.fz bx (.ptr i off) = rowO (bx[i]?) off from by rw [C.fz]; rfl)
theorem s_rowO1 {off : Nat} {cs : List C} : rowO (some cs) off = .row ((C.frzL cs).drop off) := (show rowO (some cs) off = .row ((C.frzL cs).drop off) from rfl)
theorem s_rowO0 {off : Nat} : rowO none off = .any := (show rowO none off = .any from rfl)
theorem s_one_func {f : Fn} {a b : Array Value} : Value.oneCell' (.func f a b) = true := (show Value.oneCell' (.func f a b) = true from rfl)
theorem s_re_own {id e k : Nat} {rows : List (List C)} {fp fo : Nat → Option Nat} : C.re fp fo (.own id e k rows) = ownO (fo id) e k rows := (show C.re fp fo (.own id e k rows) = ownO (fo id) e k rows from by rw [C.re]; rfl)
theorem s_re_ptr {i off : Nat} {fp fo : Nat → Option Nat} : C.re fp fo (.ptr i off) = ptrO (fp i) off := (show C.re fp fo (.ptr i off) = ptrO (fp i) off from by rw [C.re]; rfl)
theorem s_sel_own {id e k : Nat} {rows : List (List C)} {fp : Nat → Option Nat} : C.sel fp (.own id e k rows) = .sl k rows := (show C.sel fp (.own id e k rows) = .sl k rows from by rw [C.sel])
theorem s_sel_ptr {i off : Nat} {fp : Nat → Option Nat} : C.sel fp (.ptr i off) = ptrO (fp i) off := (show C.sel fp (.ptr i off) = ptrO (fp i) off from by rw [C.sel]; rfl)
theorem s_ownO1 {j e k : Nat} {rows : List (List C)} : ownO (some j) e k rows = .own j e k rows := (show ownO (some j) e k rows = .own j e k rows from rfl)
theorem s_ownO0 {e k : Nat} {rows : List (List C)} : ownO none e k rows = .sl k rows := (show ownO none e k rows = .sl k rows from rfl)
theorem s_ptrO1 {j off : Nat} : ptrO (some j) off = .ptr j off := (show ptrO (some j) off = .ptr j off from rfl)
theorem s_ptrO0 {off : Nat} : ptrO none off = .any := (show ptrO none off = .any from rfl)
theorem s_fy_sc {v : Value} {fr : Fr} : C.fy nx fr bx (.sc v) = .sc v := (show C.fy nx fr bx (.sc v) = .sc v from by rw [C.fy])
theorem s_fy_str {l : List UInt8} {fr : Fr} : C.fy nx fr bx (.str l) = .str l := (show C.fy nx fr bx (.str l) = .str l from by rw [C.fy])
theorem s_fy_sl {k : Nat} {rows : List (List C)} {fr : Fr} : C.fy nx fr bx (.sl k rows) = .sl k rows := (show C.fy nx fr bx (.sl k rows) = .sl k rows from by rw [C.fy])
theorem s_fy_tight {k : Nat} {rows : List (List C)} {fr : Fr} : C.fy nx fr bx (.tight k rows) = .tight k rows := (show C.fy nx fr bx (.tight k rows) = .tight k rows from by rw [C.fy])
theorem s_fy_own {id e k : Nat} {rows : List (List C)} {fr : Fr} : C.fy nx fr bx (.own id e k rows) = .own id e k rows := (show C.fy nx fr bx (.own id e k rows) = .own id e k rows from by rw [C.fy])
theorem s_fy_row {cs : List C} {fr : Fr} : C.fy nx fr bx (.row cs) = .row cs := (show C.fy nx fr bx (.row cs) = .row cs from by rw [C.fy])
theorem s_fy_any {fr : Fr} : C.fy nx fr bx (.any) = .any := (show C.fy nx fr bx (.any) = .any from by rw [C.fy])
theorem s_fy_ptr {i off : Nat} {fr : Fr} : C.fy nx fr bx (.ptr i off) = if i ∈ fr.map (·.1) then .any else C.fz bx (.ptr i off) := (show C.fy nx fr bx (.ptr i off) = if i ∈ fr.map (·.1) then .any else C.fz bx (.ptr i off) from by rw [C.fy])
theorem s_fy_bs {i off k n cap : Nat} {fr : Fr} : C.fy nx fr bx (.bs i off k n cap) = frGet nx fr i off k n cap := (show C.fy nx fr bx (.bs i off k n cap) = frGet nx fr i off k n cap from by rw [C.fy])
theorem s_frGet0 {i off k n cap : Nat} : frGet nx [] i off k n cap = .any := (show frGet nx [] i off k n cap = .any from rfl)
theorem s_frGet1 {i off k n cap i2 e k2 cap2 : Nat} {rows : List (List C)} {r : Fr} : frGet nx ((i2, e, k2, rows, cap2) :: r) i off k n cap = if i = i2 ∧ off = 0 ∧ k = k2 ∧ n = rows.length ∧ cap = cap2 then .own nx e k2 rows else frGet (nx + 1) r i off k n cap := (show frGet nx ((i2, e, k2, rows, cap2) :: r) i off k n cap = if i = i2 ∧ off = 0 ∧ k = k2 ∧ n = rows.length ∧ cap = cap2 then .own nx e k2 rows else frGet (nx + 1) r i off k n cap from by rw [frGet])
theorem s_re_agg {cs : List C} {fp fo : Nat → Option Nat} : C.re fp fo (.agg cs) = .agg (C.reL fp fo cs) := (show C.re fp fo (.agg cs) = .agg (C.reL fp fo cs) from by rw [C.re])
theorem s_re_tup {cs : List C} {fp fo : Nat → Option Nat} : C.re fp fo (.tup cs) = .tup (C.reL fp fo cs) := (show C.re fp fo (.tup cs) = .tup (C.reL fp fo cs) from by rw [C.re])
theorem s_re_clo {fn : Fn} {fs cs : List C} {fp fo : Nat → Option Nat} : C.re fp fo (.clo fn fs cs) = .clo fn (C.reL fp fo fs) (C.reL fp fo cs) := (show C.re fp fo (.clo fn fs cs) = .clo fn (C.reL fp fo fs) (C.reL fp fo cs) from by rw [C.re])
theorem s_reL_nil {fp fo : Nat → Option Nat} : C.reL fp fo [] = [] := (show C.reL fp fo [] = [] from by rw [C.reL])
theorem s_reL_cons {r : List C} {fp fo : Nat → Option Nat} : C.reL fp fo (c :: r) = C.re fp fo c :: C.reL fp fo r := (show C.reL fp fo (c :: r) = C.re fp fo c :: C.reL fp fo r from by rw [C.reL])
theorem s_sel_agg {cs : List C} {fp : Nat → Option Nat} : C.sel fp (.agg cs) = .agg (C.selL fp cs) := (show C.sel fp (.agg cs) = .agg (C.selL fp cs) from by rw [C.sel])
theorem s_sel_tup {cs : List C} {fp : Nat → Option Nat} : C.sel fp (.tup cs) = .tup (C.selL fp cs) := (show C.sel fp (.tup cs) = .tup (C.selL fp cs) from by rw [C.sel])
theorem s_sel_clo {fn : Fn} {fs cs : List C} {fp : Nat → Option Nat} : C.sel fp (.clo fn fs cs) = .clo fn (C.selL fp fs) (C.selL fp cs) := (show C.sel fp (.clo fn fs cs) = .clo fn (C.selL fp fs) (C.selL fp cs) from by rw [C.sel])
theorem s_selL_nil {fp : Nat → Option Nat} : C.selL fp [] = [] := (show C.selL fp [] = [] from by rw [C.selL])
theorem s_selL_cons {r : List C} {fp : Nat → Option Nat} : C.selL fp (c :: r) = C.sel fp c :: C.selL fp r := (show C.selL fp (c :: r) = C.sel fp c :: C.selL fp r from by rw [C.selL])
theorem s_fz_agg {cs : List C}  : C.fz bx (.agg cs) = .agg (C.fzL bx cs) := (show C.fz bx (.agg cs) = .agg (C.fzL bx cs) from by rw [C.fz])
theorem s_fz_tup {cs : List C}  : C.fz bx (.tup cs) = .tup (C.fzL bx cs) := (show C.fz bx (.tup cs) = .tup (C.fzL bx cs) from by rw [C.fz])
theorem s_fz_clo {fn : Fn} {fs cs : List C}  : C.fz bx (.clo fn fs cs) = .clo fn (C.fzL bx fs) (C.fzL bx cs) := (show C.fz bx (.clo fn fs cs) = .clo fn (C.fzL bx fs) (C.fzL bx cs) from by rw [C.fz])
theorem s_fzL_nil : C.fzL bx [] = [] := (show C.fzL bx [] = [] from by rw [C.fzL])
theorem s_fzL_cons {r : List C}  : C.fzL bx (c :: r) = C.fz bx c :: C.fzL bx r := (show C.fzL bx (c :: r) = C.fz bx c :: C.fzL bx r from by rw [C.fzL])
theorem s_fy_agg {cs : List C} {fr : Fr} : C.fy nx fr bx (.agg cs) = .agg (C.fyL nx fr bx cs) := (show C.fy nx fr bx (.agg cs) = .agg (C.fyL nx fr bx cs) from by rw [C.fy])
theorem s_fy_tup {cs : List C} {fr : Fr} : C.fy nx fr bx (.tup cs) = .tup (C.fyL nx fr bx cs) := (show C.fy nx fr bx (.tup cs) = .tup (C.fyL nx fr bx cs) from by rw [C.fy])
theorem s_fy_clo {fn : Fn} {fs cs : List C} {fr : Fr} : C.fy nx fr bx (.clo fn fs cs) = .clo fn (C.fyL nx fr bx fs) (C.fyL nx fr bx cs) := (show C.fy nx fr bx (.clo fn fs cs) = .clo fn (C.fyL nx fr bx fs) (C.fyL nx fr bx cs) from by rw [C.fy])
theorem s_fyL_nil {fr : Fr} : C.fyL nx fr bx [] = [] := (show C.fyL nx fr bx [] = [] from by rw [C.fyL])
theorem s_fyL_cons {r : List C} {fr : Fr} : C.fyL nx fr bx (c :: r) = C.fy nx fr bx c :: C.fyL nx fr bx r := (show C.fyL nx fr bx (c :: r) = C.fy nx fr bx c :: C.fyL nx fr bx r from by rw [C.fyL])
theorem s_frz_agg {cs : List C} : C.frz (.agg cs) = .agg (C.frzL cs) := (show C.frz (.agg cs) = .agg (C.frzL cs) from by rw [C.frz])
theorem s_frz_tup {cs : List C} : C.frz (.tup cs) = .tup (C.frzL cs) := (show C.frz (.tup cs) = .tup (C.frzL cs) from by rw [C.frz])
theorem s_frz_clo {fn : Fn} {fs cs : List C} : C.frz (.clo fn fs cs) = .clo fn (C.frzL fs) (C.frzL cs) := (show C.frz (.clo fn fs cs) = .clo fn (C.frzL fs) (C.frzL cs) from by rw [C.frz])
theorem s_frzL_nil : C.frzL [] = [] := (show C.frzL [] = [] from by rw [C.frzL])
theorem s_frzL_cons {r : List C} : C.frzL (c :: r) = C.frz c :: C.frzL r := (show C.frzL (c :: r) = C.frz c :: C.frzL r from by rw [C.frzL])
theorem s_dg_agg {cs : List C} {id : Nat} : C.dg id (.agg cs) = .agg (C.dgL id cs) := (show C.dg id (.agg cs) = .agg (C.dgL id cs) from by rw [C.dg])
theorem s_dg_tup {cs : List C} {id : Nat} : C.dg id (.tup cs) = .tup (C.dgL id cs) := (show C.dg id (.tup cs) = .tup (C.dgL id cs) from by rw [C.dg])
theorem s_dg_clo {fn : Fn} {fs cs : List C} {id : Nat} : C.dg id (.clo fn fs cs) = .clo fn (C.dgL id fs) (C.dgL id cs) := (show C.dg id (.clo fn fs cs) = .clo fn (C.dgL id fs) (C.dgL id cs) from by rw [C.dg])
theorem s_dgL_nil {id : Nat} : C.dgL id [] = [] := (show C.dgL id [] = [] from by rw [C.dgL])
theorem s_dgL_cons {r : List C} {id : Nat} : C.dgL id (c :: r) = C.dg id c :: C.dgL id r := (show C.dgL id (c :: r) = C.dg id c :: C.dgL id r from by rw [C.dgL])
theorem s_sh_agg {cs : List C} {n : Nat} : C.sh n (.agg cs) = .agg (C.shL n cs) := (show C.sh n (.agg cs) = .agg (C.shL n cs) from by rw [C.sh])
theorem s_sh_tup {cs : List C} {n : Nat} : C.sh n (.tup cs) = .tup (C.shL n cs) := (show C.sh n (.tup cs) = .tup (C.shL n cs) from by rw [C.sh])
theorem s_sh_clo {fn : Fn} {fs cs : List C} {n : Nat} : C.sh n (.clo fn fs cs) = .clo fn (C.shL n fs) (C.shL n cs) := (show C.sh n (.clo fn fs cs) = .clo fn (C.shL n fs) (C.shL n cs) from by rw [C.sh])
theorem s_shL_nil {n : Nat} : C.shL n [] = [] := (show C.shL n [] = [] from by rw [C.shL])
theorem s_shL_cons {r : List C} {n : Nat} : C.shL n (c :: r) = C.sh n c :: C.shL n r := (show C.shL n (c :: r) = C.sh n c :: C.shL n r from by rw [C.shL])
theorem s_dgTm_nil {id : Nat} : dgTm id [] = [] := (show dgTm id [] = [] from rfl)
theorem s_dgTm {id u : Nat} {r : List (Nat × C)} : dgTm id ((u, c) :: r) = (u, c.dg id) :: dgTm id r := (show dgTm id ((u, c) :: r) = (u, c.dg id) :: dgTm id r from rfl)
theorem s_dgBx_nil {id : Nat} : dgBx id [] = [] := (show dgBx id [] = [] from rfl)
theorem s_dgBx {id : Nat} {cs : List C} {r : List (List C)} : dgBx id (cs :: r) = C.dgL id cs :: dgBx id r := (show dgBx id (cs :: r) = C.dgL id cs :: dgBx id r from rfl)
theorem s_cellB_str {l : List UInt8} : C.cellB (.str l) = true := (show C.cellB (.str l) = true from rfl)
theorem s_partB_str {l : List UInt8} : C.partB (.str l) = true := (show C.partB (.str l) = true from rfl)
theorem s_cells_str {l : List UInt8} : C.cells (.str l) = [.str l] := (show C.cells (.str l) = [.str l] from rfl)
theorem s_cellB_sl {k : Nat} {rows : List (List C)} : C.cellB (.sl k rows) = true := (show C.cellB (.sl k rows) = true from rfl)
theorem s_partB_sl {k : Nat} {rows : List (List C)} : C.partB (.sl k rows) = true := (show C.partB (.sl k rows) = true from rfl)
theorem s_cells_sl {k : Nat} {rows : List (List C)} : C.cells (.sl k rows) = [.sl k rows] := (show C.cells (.sl k rows) = [.sl k rows] from rfl)
theorem s_cellB_tight {k : Nat} {rows : List (List C)} : C.cellB (.tight k rows) = true := (show C.cellB (.tight k rows) = true from rfl)
theorem s_partB_tight {k : Nat} {rows : List (List C)} : C.partB (.tight k rows) = true := (show C.partB (.tight k rows) = true from rfl)
theorem s_cells_tight {k : Nat} {rows : List (List C)} : C.cells (.tight k rows) = [.tight k rows] := (show C.cells (.tight k rows) = [.tight k rows] from rfl)
theorem s_cellB_own {id e k : Nat} {rows : List (List C)} : C.cellB (.own id e k rows) = true := (show C.cellB (.own id e k rows) = true from rfl)
theorem s_partB_own {id e k : Nat} {rows : List (List C)} : C.partB (.own id e k rows) = true := (show C.partB (.own id e k rows) = true from rfl)
theorem s_cells_own {id e k : Nat} {rows : List (List C)} : C.cells (.own id e k rows) = [.own id e k rows] := (show C.cells (.own id e k rows) = [.own id e k rows] from rfl)
theorem s_cellB_ptr {i off : Nat} : C.cellB (.ptr i off) = true := (show C.cellB (.ptr i off) = true from rfl)
theorem s_partB_ptr {i off : Nat} : C.partB (.ptr i off) = true := (show C.partB (.ptr i off) = true from rfl)
theorem s_cells_ptr {i off : Nat} : C.cells (.ptr i off) = [.ptr i off] := (show C.cells (.ptr i off) = [.ptr i off] from rfl)
theorem s_cellB_row {cs : List C} : C.cellB (.row cs) = true := (show C.cellB (.row cs) = true from rfl)
theorem s_partB_row {cs : List C} : C.partB (.row cs) = true := (show C.partB (.row cs) = true from rfl)
theorem s_cells_row {cs : List C} : C.cells (.row cs) = [.row cs] := (show C.cells (.row cs) = [.row cs] from rfl)
theorem s_cellB_clo {fn : Fn} {fs cs : List C} : C.cellB (.clo fn fs cs) = true := (show C.cellB (.clo fn fs cs) = true from rfl)
theorem s_partB_clo {fn : Fn} {fs cs : List C} : C.partB (.clo fn fs cs) = true := (show C.partB (.clo fn fs cs) = true from rfl)
theorem s_cells_clo {fn : Fn} {fs cs : List C} : C.cells (.clo fn fs cs) = [.clo fn fs cs] := (show C.cells (.clo fn fs cs) = [.clo fn fs cs] from rfl)
theorem s_cellB_sc {v : Value} : C.cellB (.sc v) = v.oneCell' := (show C.cellB (.sc v) = v.oneCell' from rfl)
theorem s_partB_sc {v : Value} : C.partB (.sc v) = v.oneCell' := (show C.partB (.sc v) = v.oneCell' from rfl)
theorem s_cells_sc {v : Value} : C.cells (.sc v) = [.sc v] := (show C.cells (.sc v) = [.sc v] from rfl)
theorem s_partB_agg {cs : List C} : C.partB (.agg cs) = true := (show C.partB (.agg cs) = true from rfl)
theorem s_cells_agg {cs : List C} : C.cells (.agg cs) = cs := (show C.cells (.agg cs) = cs from rfl)
theorem s_one_int {k : IntKind} {n : Int} : Value.oneCell' (.int k n) = true := (show Value.oneCell' (.int k n) = true from rfl)
theorem s_one_bool {b : Bool} : Value.oneCell' (.bool b) = true := (show Value.oneCell' (.bool b) = true from rfl)
theorem s_one_slice {a : Option Addr} {n m : Nat} : Value.oneCell' (.slice a n m) = true := (show Value.oneCell' (.slice a n m) = true from rfl)
theorem s_one_ptr {a : Option Addr} : Value.oneCell' (.pointer a) = true := (show Value.oneCell' (.pointer a) = true from rfl)
theorem s_one_string {s : ByteArray} : Value.oneCell' (.string s) = true := (show Value.oneCell' (.string s) = true from rfl)
theorem s_one_nilf : Value.oneCell' (.nilFunc) = true := (show Value.oneCell' (.nilFunc) = true from rfl)
theorem s_one_nili : Value.oneCell' (.nilIface) = true := (show Value.oneCell' (.nilIface) = true from rfl)
theorem s_one_map {a : Option Nat} : Value.oneCell' (.map a) = true := (show Value.oneCell' (.map a) = true from rfl)
theorem s_rows0 {k : Nat} {cs : List C} : aRows k 0 cs = [] := (show aRows k 0 cs = [] from rfl)
theorem s_rows1 {k n : Nat} {cs : List C} : aRows k (n + 1) cs = cs.take k :: aRows k n (cs.drop k) := (show aRows k (n + 1) cs = cs.take k :: aRows k n (cs.drop k) from rfl)
theorem s_tmOf0 {i : Nat} : tmOf i [] = [] := (show tmOf i [] = [] from rfl)
theorem s_tmOf {i : Nat} {r : List C} : tmOf i (c :: r) = (i, c) :: tmOf (i + 1) r := (show tmOf i (c :: r) = (i, c) :: tmOf (i + 1) r from rfl)
theorem s_br_true : bABr (.sc (.bool true)) X Y ⟨⟩ ⟨⟩ = X := ABr_true
theorem s_br_false : bABr (.sc (.bool false)) X Y ⟨⟩ ⟨⟩ = Y := ABr_false
theorem br {b : Bool} (hx : b = true → X) (hy : b = false → Y) : bABr (.sc (.bool b)) X Y ⟨⟩ ⟨⟩ := ABr.mk hx hy
theorem callX {f : FuncId} {args fargs a1 : List C} {fbx : List (List C)} {q : Nat} {post : C → List (List C) → Nat → Prop} (ι κ : List Nat) (hf : FunX P G f a1 fbx q post) (hq : κ.length = q) (hι : ι.Nodup) (hκ : κ.Nodup) (hb : ∀ i ∈ ι, i < bx.length)
    (ha : C.reL (ixOf ι) (ixOf κ) args = a1) (hx : (ι.map fun i => C.reL (ixOf ι) (ixOf κ) (bx.getD i [])) = fbx) (hK : ∀ r fbx' n, post r fbx' n → K3 (r.re (upB ι bx.length) (upO nx)) (afterB ι κ fbx' n ⟨tm, bx, nx, lg⟩)) : baCallC P G f args fargs ⟨tm, bx, nx, lg⟩ K3 ⟨⟩ :=
  .inr <| .inr <| .inr <| .inl ⟨ι, κ, post, hι, hκ, hb, by rw [ha, hq]; exact hx ▸ hf, hK⟩
theorem callO {f : FuncId} {args fargs : List C} {r : C} (hf : ExtC P f args bx r) (hK : K3 r ⟨tm, bx, nx, lg⟩) : baCallC P G f args fargs ⟨tm, bx, nx, lg⟩ K3 ⟨⟩ := .inr <| .inr <| .inr <| .inr ⟨r, hf, hK⟩
theorem copyB {e s1 b1 k by' m i off n cap : Nat} {kd : LK} {z1 z : Option (List Value)} {xs cs : List C} (hl : lay P t = some ⟨.slice e, s1, b1, z1⟩) (hle : lay P e = some ⟨kd, k, by', z⟩) (hx : d.xs? k bx = some (m, xs)) (hb : bx[i]? = some cs) (hxl : xs.length = m * k) (hfit : off + n * k ≤ cs.length)
    (hK : K3 (.sc (.int .i64 ((min m n : Nat) : Int))) ⟨tm, bx.set i (spl cs off (xs.take (min m n * k))), nx, lg⟩) : baCopy P t (.bs i off k n cap) d ⟨tm, bx, nx, lg⟩ K3 ⟨⟩ := by
  show aCopy P t _ _ _ _
  unfold aCopy
  simp only [hl, hle, hx, hb]
  exact ⟨trivial, hxl, hfit, hK⟩
theorem clearB {e s1 b1 k by' i off n cap : Nat} {kd : LK} {z1 : Option (List Value)} {z : List Value} {cs : List C} (hl : lay P t = some ⟨.slice e, s1, b1, z1⟩) (hle : lay P e = some ⟨kd, k, by', some z⟩) (hb : bx[i]? = some cs) (hz : z.length = k) (hk : 0 < k) (h1 : (z.all Value.oneCell') = true) (hfit : off + n * k ≤ cs.length)
    (hK : K3 .any ⟨tm, bx.set i (spl cs off (List.replicate n (z.map ofConst)).flatten), nx, lg⟩) : baClear P t (.bs i off k n cap) ⟨tm, bx, nx, lg⟩ K3 ⟨⟩ := by
  show aClear P t _ _ _
  unfold aClear
  simp only [hl, hle, hb]
  exact ⟨trivial, hz, hk, h1, hfit, hK⟩
theorem appB2nil {e s1 b1 k by' m : Nat} {kd : LK} {z1 : Option (List Value)} {z : List Value} {xs : List C} (hl : lay P t = some ⟨.slice e, s1, b1, z1⟩) (hle : lay P e = some ⟨kd, k, by', some z⟩) (hx : d.xs? k bx = some (m, xs)) (hz : z.length = k) (hk : 0 < k) (h1 : (z.all Value.oneCell') = true) (hxl : xs.length = m * k) (hm : 0 < m) (h63 : m ≤ 9223372036854775807) (hby : m * by' ≤ 140737488355328)
    (hK : ∀ cap, m ≤ cap → cap ≤ 9223372036854775807 → K3 (.bs bx.length 0 k m cap) ⟨tm, bx ++ [xs ++ List.replicate ((cap - m) * k) .any], nx, lg⟩) : baAppB2 P t (.sc (.slice none 0 0)) d ⟨tm, bx, nx, lg⟩ K3 ⟨⟩ := by
  show aAppB2 P t _ _ _ _
  unfold aAppB2
  simp only [hl, hle, hx]
  exact ⟨hz, hk, h1, hxl, hm, h63, hby, fun c h1 h2 => hK c h1 (by unfold maxLen at h2; omega)⟩
theorem appB2 {e s1 b1 k by' m i off n cap : Nat} {kd : LK} {z1 : Option (List Value)} {z : List Value} {xs cs : List C} (hl : lay P t = some ⟨.slice e, s1, b1, z1⟩) (hle : lay P e = some ⟨kd, k, by', some z⟩) (hx : d.xs? k bx = some (m, xs)) (hz : z.length = k) (hk : 0 < k) (h1 : (z.all Value.oneCell') = true) (hxl : xs.length = m * k)
    (hb : bx[i]? = some cs) (hfit : off + cap * k ≤ cs.length) (hn : n ≤ cap) (h63 : n + m ≤ 9223372036854775807) (hby : (n + m) * by' ≤ 140737488355328)
    (hK1 : n + m ≤ cap → K3 (.bs i off k (n + m) cap) ⟨tm, bx.set i (spl cs (off + n * k) xs), nx, lg⟩)
    (hK2 : cap < n + m → ∀ c', n + m ≤ c' → c' ≤ 9223372036854775807 → K3 (.bs bx.length 0 k (n + m) c') ⟨tm, bx ++ [(cs.drop off).take (n * k) ++ xs ++ List.replicate ((c' - (n + m)) * k) .any], nx, lg⟩) : baAppB2 P t (.bs i off k n cap) d ⟨tm, bx, nx, lg⟩ K3 ⟨⟩ := by
  show aAppB2 P t _ _ _ _
  unfold aAppB2
  simp only [hl, hle, hx, hb]
  exact ⟨hz, hk, h1, hxl, trivial, hfit, hn, h63, hby, hK1, fun h c h1 h2 => hK2 h c h1 (by unfold maxLen at h2; omega)⟩
theorem appZ {tn e s1 b1 s2 b2 k by' i off n cap : Nat} {kn kq : IntKind} {kd : LK} {z1 z2 : Option (List Value)} {z : List Value} {cs : List C} {q : Int} (hl : lay P t = some ⟨.slice e, s1, b1, z1⟩) (hln : lay P tn = some ⟨.int kn, s2, b2, z2⟩) (hle : lay P e = some ⟨kd, k, by', some z⟩) (hz : z.length = k) (hk : 0 < k) (h1 : (z.all Value.oneCell') = true)
    (hb : bx[i]? = some cs) (hfit : off + cap * k ≤ cs.length) (hn : n ≤ cap) (hq : 0 < q) (h63 : (n : Int) + q ≤ 9223372036854775807) (hby : ((n : Int) + q) * by' ≤ 140737488355328) (hg : (cap : Int) < n + q)
    (hK : ∀ c', n + q.toNat ≤ c' → c' ≤ 9223372036854775807 → K3 (.bs bx.length 0 k (n + q.toNat) c') ⟨tm, bx ++ [(cs.drop off).take (n * k) ++ (List.replicate q.toNat (z.map ofConst)).flatten ++ List.replicate ((c' - (n + q.toNat)) * k) .any], nx, lg⟩) : baAppZ P t tn (.bs i off k n cap) (.sc (.int kq q)) ⟨tm, bx, nx, lg⟩ K3 ⟨⟩ := by
  show aAppZ P t tn _ _ _ _
  unfold aAppZ
  simp only [hl, hln, hle, hb]
  exact ⟨hz, hk, h1, trivial, hfit, hn, hq, h63, hby, hg, fun c h1 h2 => hK c h1 (by unfold maxLen at h2; omega)⟩
theorem Fun.ofF {f : FuncId} {fn : Func} {code : Code} {args : List C} {r : C} {n : Nat} (b : Nat → List Bool) (hm : P.follows .mixedOrders = true) (hf : P.funcs[f]? = some fn) (hb : fn.body = some code) (hnm : (fn.name == "runtime.NumGoroutine") = false) (hN : args.length ≤ fn.ntmps) (hok : codeOk fn.ntmps b code = true)
    (h : bawp P G ⟨0, none, b⟩ code (bretK P fn.results.toList (fun c σ => ∃ (fr : Fr) (src : Src), frOk fr σ.bx ∧ srcOk src = true ∧ src.length = n ∧ CLe src 0 (c.fy σ.nx fr σ.bx) r) ⟨⟩) ⟨tmOf 0 args, [], 0, 0⟩ ⟨⟩ ⟨⟩) : Fun P G f args r n := Fun.of_awpF b hm hf hb hnm hN hok h
theorem FunX.of {f : FuncId} {fn : Func} {code : Code} {args : List C} {bx : List (List C)} {q : Nat} {post : C → List (List C) → Nat → Prop} (b : Nat → List Bool) (hm : P.follows .mixedOrders = true) (hf : P.funcs[f]? = some fn) (hb : fn.body = some code) (hnm : (fn.name == "runtime.NumGoroutine") = false) (hN : args.length ≤ fn.ntmps) (hok : codeOk fn.ntmps b code = true)
    (h : bawp P G ⟨bx.length, none, b⟩ code (bretK P fn.results.toList (fun c σ => ∃ r bx' n, (post r bx' n ∧ bx.length ≤ bx'.length) ∧ ∃ src : Src, srcOk src = true ∧ src.length = n ∧ WeakBx src bx'.length σ.bx bx' ∧ CLe src bx'.length c r) ⟨⟩) ⟨tmOf 0 args, bx, q, 0⟩ ⟨⟩ ⟨⟩) : FunX P G f args bx q post := FunX.of_awp b hm hf hb hnm hN hok h
theorem callR {f : FuncId} {args fargs : List C} {r : C} {n : Nat} (gargs : List C) (hf : Fun P G f gargs r n) (hr : r.freshB = true) (hl : lendsL bx args gargs) (hK : K3 (r.sh nx) ⟨tm, bx, nx + n, lg⟩) : baCallC P G f args fargs ⟨tm, bx, nx, lg⟩ K3 ⟨⟩ := .inr <| .inr <| .inl ⟨gargs, r, n, hl, hf, hr, hK⟩
theorem call {f : FuncId} {args fargs : List C} {r : C} {n : Nat} (hf : Fun P G f fargs r n) (hK : K3 (r.sh nx) ⟨tm, bx, nx + n, lg⟩) : baCallC P G f args fargs ⟨tm, bx, nx, lg⟩ K3 ⟨⟩ := .inl ⟨r, n, hf, hK⟩
theorem callP {f : FuncId} {args : List C} {r : C} {n : Nat} (hf : Fun P G f args r n) (hK : K2 (r.sh nx) (nx + n)) : baCallN P G f args nx K2 ⟨⟩ := aCallN.mk hf hK
theorem Fun.less {f : FuncId} {args args' : List C} {r : C} {n : Nat} (hf : Fun P G f args' r n) (hl : CLeL [] 0 args args') : Fun P G f args r n := ⟨hf.1, fun R vs hg ha => hf.2 R vs hg (by
  have := RepL.less _ _ _ hl ha
  refine RepL.ext (Ext.refl R) ⟨fun i b hb => ?_, fun id x hx => ?_⟩ _ _ this
  · simp at hb
  · have hx : srcT [] noLoc.T id = some x := hx
    simp [srcT] at hx)⟩
theorem callB {f : FuncId} {args fargs a1 : List C} {fbx fbx' : List (List C)} {r : C} {n q : Nat} (ι κ : List Nat) (hf : FunB P G f a1 fbx q r fbx' n) (hq : κ.length = q) (hι : ι.Nodup) (hκ : κ.Nodup) (hb : ∀ i ∈ ι, i < bx.length)
    (ha : C.reL (ixOf ι) (ixOf κ) args = a1) (hx : (ι.map fun i => C.reL (ixOf ι) (ixOf κ) (bx.getD i [])) = fbx) (hK : K3 (r.re (upB ι bx.length) (upO nx)) (afterB ι κ fbx' n ⟨tm, bx, nx, lg⟩)) : baCallC P G f args fargs ⟨tm, bx, nx, lg⟩ K3 ⟨⟩ :=
  .inr <| .inl ⟨ι, κ, r, fbx', n, hι, hκ, hb, by rw [ha, hq]; exact hx ▸ hf, hK⟩
theorem range {A B : Nat → (Exit → St → Prop) → St → Prop} {ps : List Tmp} {f : FuncId} {first cap first' cap' : List C} {bx' : List (List C)} (items : List (List C)) (sf : Nat → Bool) (m : Nat) (I : Nat → St) (hit : Iter P G f first' cap' bx' items) (e1 : C.selL (fpDrop m) first = first') (e2 : C.selL (fpDrop m) cap = cap') (e3 : (bx.drop m).map (C.selL (fpDrop m)) = bx')
    (hp : p ≤ m) (hm : m ≤ bx.length) (hlen : ∀ it ∈ items, it.length = ps.length) (hI : ∀ k, k ≤ items.length → (I k).bx.length = m) (hw : Weak m ⟨[], bx, nx, lg⟩ ((I 0).wt []))
    (hbody : ∀ k it, items[k]? = some it → (∀ j, j < k → sf j = false) → A m (bonlyK (B m (broundK m (tlTm m tm) (sf k) (I (k + 1)) Q ⟨⟩ ⟨⟩)) ⟨⟩) ((I k).wt (putPs ps it (tlTm m tm))))
    (hdone : (∀ j, j < items.length → sf j = false) → Q .normal ((I items.length).wt (tlTm m tm))) : bARange P G p A B Q ps (.clo (.func f) first cap) ⟨tm, bx, nx, lg⟩ ⟨⟩ ⟨⟩ ⟨⟩ :=
  ⟨items, sf, m, I, hp, hm, by rw [e1, e2]; exact e3 ▸ hit, hlen, hI, hw, hbody, hdone⟩
theorem loop {B : (Exit → St → Prop) → St → Prop} {ι : Type} (I : ι → St) (ok : ι → Prop) (μ : ι → Nat) (i0 : ι) (h0 : ok i0) (hw : Weak p σ (I i0))
    (hr : ∀ i, ok i → B (bloopK (fun σ' => ∃ j, ok j ∧ μ j < μ i ∧ Weak p σ' (I j)) Q ⟨⟩ ⟨⟩) (I i)) : bALoop p B Q σ ⟨⟩ ⟨⟩ := ⟨ι, I, ok, μ, i0, h0, hw, hr⟩
theorem Fun.of {f : FuncId} {fn : Func} {code : Code} {args : List C} {r : C} {n : Nat} (b : Nat → List Bool) (hm : P.follows .mixedOrders = true) (hf : P.funcs[f]? = some fn) (hb : fn.body = some code) (hnm : (fn.name == "runtime.NumGoroutine") = false) (hN : args.length ≤ fn.ntmps) (hok : codeOk fn.ntmps b code = true)
    (h : bawp P G ⟨0, none, b⟩ code (bretK P fn.results.toList (fun c σ => ∃ src : Src, srcOk src = true ∧ src.length = n ∧ CLe src 0 (c.fz σ.bx) r) ⟨⟩) ⟨tmOf 0 args, [], 0, 0⟩ ⟨⟩ ⟨⟩) : Fun P G f args r n := Fun.of_awp b hm hf hb hnm hN hok h
theorem FunB.of {f : FuncId} {fn : Func} {code : Code} {args : List C} {bx bx' : List (List C)} {r : C} {q n : Nat} (b : Nat → List Bool) (hm : P.follows .mixedOrders = true) (hf : P.funcs[f]? = some fn) (hb : fn.body = some code) (hnm : (fn.name == "runtime.NumGoroutine") = false) (hN : args.length ≤ fn.ntmps) (hok : codeOk fn.ntmps b code = true) (hlen : bx.length ≤ bx'.length)
    (h : bawp P G ⟨bx.length, none, b⟩ code (bretK P fn.results.toList (fun c σ => ∃ src : Src, srcOk src = true ∧ src.length = n ∧ WeakBx src bx'.length σ.bx bx' ∧ CLe src bx'.length c r) ⟨⟩) ⟨tmOf 0 args, bx, q, 0⟩ ⟨⟩ ⟨⟩) : FunB P G f args bx q r bx' n := FunB.of_awp b hm hf hb hnm hN hok hlen h
theorem Iter.of {f : FuncId} {fn : Func} {code : Code} {first cap : List C} {bx items : List (List C)} (b : Nat → List Bool) (hm : P.follows .mixedOrders = true) (hf : P.funcs[f]? = some fn) (hb : fn.body = some code) (hnm : (fn.name == "runtime.NumGoroutine") = false) (hN : first.length + 1 + cap.length ≤ fn.ntmps) (hok : codeOk fn.ntmps b code = true)
    (h : ∀ (l : Nat) (sf : Nat → Bool), bawp P G ⟨0, some ⟨l, items, sf⟩, b⟩ code (bretK P fn.results.toList (fun c σ => EndAt items sf σ.lg) ⟨⟩) ⟨tmOf 0 (first ++ [.sc (.func (.yield l) #[] #[])] ++ cap), bx, 0, 0⟩ ⟨⟩ ⟨⟩) : Iter P G f first cap bx items := Iter.of_awp b hm hf hb hnm hN hok h
theorem appNil {m k b : Nat} {xs : List C} {z1 : List Value} (h1 : z1.length = k) (h2 : 0 < k) (h3 : (z1.all Value.oneCell') = true) (h4 : 0 < m) (h5 : m ≤ 9223372036854775807) (h6 : m * b ≤ 140737488355328)
    (hK : ∀ c, m ≤ c → c ≤ 9223372036854775807 → K3 (.bs bx.length 0 k m c) ⟨tm, bx ++ [xs ++ List.replicate ((c - m) * k) .any], nx, lg⟩) : baPB3 (some (m, xs)) p k b z1 (.sc (.slice none 0 0)) ⟨tm, bx, nx, lg⟩ K3 ⟨⟩ :=
  ⟨h1, h2, h3, h4, h5, h6, fun c hc hm => hK c hc (by unfold maxLen at hm; omega)⟩
theorem appBx {i m k n cap b : Nat} {cs xs : List C} {z1 : List Value} (A : List C) (hbx : bx[i]? = some cs) (h1 : z1.length = k) (h2 : 0 < k) (h3 : (z1.all Value.oneCell') = true) (h4 : 0 < m) (hp : p ≤ i) (hl : cs.length = cap * k) (hn : n ≤ cap) (hc : cap ≤ 9223372036854775807)
    (h5 : n + m ≤ 9223372036854775807) (h6 : (n + m) * b ≤ 140737488355328) (hA : C.reL (fpBut i) some (cs.take (n * k) ++ xs) = A)
    (hK : ∀ c', n + m ≤ c' → c' ≤ 9223372036854775807 → K3 (.bs i 0 k (n + m) c') ⟨reTm (fpBut i) some tm, butBx i (A ++ List.replicate ((c' - (n + m)) * k) .any) bx, nx, lg⟩) : baPB3 (some (m, xs)) p k b z1 (.bs i 0 k n cap) ⟨tm, bx, nx, lg⟩ K3 ⟨⟩ := by
  refine ⟨h1, h2, h3, h4, ?_⟩
  simp only [hbx]
  exact ⟨trivial, hp, hl, hn, hc, h5, h6, fun c' q1 q2 => by rw [hA]; exact hK c' q1 (by unfold maxLen at q2; omega)⟩
theorem bytesB {cs : List C} {off n : Nat} (l : List UInt8) (hl : l.length = n) (h : (cs.drop off).take n = l.map (fun b => C.sc (.int .u8 (b.toNat : Int)))) (hK : K (.str l)) : baBytesB (some cs) off n K ⟨⟩ := ⟨l, hl, h, hK⟩
theorem toNat_succ (k : Nat) : ((k : Int) + 1).toNat = k + 1 := by omega
theorem ALoop.mk {B : (Exit → St → Prop) → St → Prop} {ι : Type} (I : ι → St) (ok : ι → Prop) (μ : ι → Nat) (i0 : ι) (h0 : ok i0) (hw : Weak p σ (I i0))
    (hr : ∀ i, ok i → B (loopK (fun σ' => ∃ j, ok j ∧ μ j < μ i ∧ Weak p σ' (I j)) Q) (I i)) : ALoop p B Q σ := ⟨ι, I, ok, μ, i0, h0, hw, hr⟩
end
attribute [push_cast] s_skip s_label s_exit s_goto s_ret s_seq s_cond s_block s_loop s_rangeF s_scope s_region s_regiond s_adraw0 s_adrawF s_adrawT1 s_adrawT2 s_adrawT3 s_adrawT4 s_adrawL s_ladops0 s_ladopsA s_ladopsS s_ladops s_lend s_laid s_late s_only s_round_n s_round_ret s_round_exit s_round_goto s_wt s_putPs0 s_putPs s_tlTm0 s_tlTm s_then s_then_exit s_then_ret s_then_goto s_block_n s_block_same s_block_exit s_block_ret s_block_goto s_noGoto_n s_noGoto_exit s_noGoto_ret s_loop_n s_loop_exit s_loop_ret s_loop_goto s_ret_n s_ret_r s_res0 s_res1 s_res2 s_res3 s_res4 s_resT s_resC s_aops0 s_aops s_adops0 s_adopsN s_adopsF s_adopsT s_guard0 s_guard s_gd_t s_gd_f s_bru_b s_bru_u s_put_some s_put_none s_putT_some s_putT_none s_e_buildSlice s_p_buildSlice s_e_makeSlice s_p_makeSlice s_hdbx s_hdbx2 s_e_move s_p_move s_e_assign s_p_assign s_e_pick s_p_pick s_e_build s_p_build s_e_load s_p_load s_e_nilCheck s_p_nilCheck s_e_binOp s_p_binOp s_e_unOp s_p_unOp s_e_convert s_p_convert s_e_makeFunc s_p_makeFunc s_e_slice s_p_slice s_e_fieldAddr s_p_fieldAddr s_e_field s_p_field s_e_indexAddr s_p_indexAddr s_e_index s_p_index s_e_extract s_p_extract s_e_callv s_p_callv s_e_len s_p_len s_e_makeMap s_p_makeMap s_mm_n s_mm_s s_mkd_i s_mkd_s s_e_lookup s_p_lookup s_lk_i s_lk_s s_lk2_st s_lk2_sf s_lk2_nt s_lk2_nf s_e_mapUpdate s_e_insert s_mu_i s_mu_s s_len_mo s_lm1 s_e_append s_e_appz s_e_copy s_e_clear s_e_cap s_cap s_cap_bs s_cap_nil s_p_append s_e_alloc s_e_box s_e_store s_ev_tmp s_ev_const s_ev_func s_ev_global s_evGl_some s_getC s_const_int s_const_bool s_const_str s_const_slice s_const_agg s_const_ptr s_const_map s_const_nilf s_const_nili s_bin_int s_bin_str s_bin_bool s_bin_agg s_bin_nil_sl s_nilL_sl s_bin_nil_tight s_nilL_tight s_bin_nil_own s_nilL_own s_bin_nil_bs s_nilL_bs s_bin_nil_sc s_nilL_sc s_nil1_eql s_nil1_neq s_eq0_eql s_eq0_neq s_eq_nil s_eq_nil_n s_eq_int s_eq_bool s_eq_str s_bool1 s_int_add s_int_sub s_int_mul s_int_quo s_int_rem s_int_shr s_int_eql s_int_neq s_int_lss s_int_leq s_int_gtr s_int_geq s_str_add s_str_eql s_str_neq s_str_lss s_str_geq s_str_leq s_str_gtr s_bool_eql s_bool_neq s_un_not s_un_neg s_extract s_opt s_nil_ptr s_nil_row s_nil_clo s_load s_p_store s_sm1 s_sm2 s_same_nil s_same_sc s_same_str s_load_ptr s_load_row s_load2 s_take_struct s_take_array s_take_int s_take_bool s_take_str s_take_slice s_take_other s_field s_field1 s_field2t s_field2f s_fa s_fa1 s_fa_ptr s_fa_row s_ia s_ia_slice s_ia_array s_ia_s_sl s_sl_s_sl s_convx_sl s_ia_s_tight s_sl_s_tight s_convx_tight s_ia_s_own s_sl_s_own s_convx_own s_ia_s_sc s_sl_s_sc s_convx_sc s_convx_str s_ia_s_bs s_sl_s_bs s_slB000 s_slB010 s_slB100 s_slB110 s_slB011 s_slB111 s_convx_bs s_cvb1 s_cvb2 s_len_bs s_bb s_bb1 s_bb2 s_bb3 s_pb s_pb1 s_pb2 s_xs_sl s_xs_tight s_xs_own s_xs_bs s_xsB1 s_butBx s_fpBut s_frz_bs s_dg_bs s_sh_bs s_fz_bs s_re_bs s_sel_bs s_bsO1 s_bsO0 s_cellB_bs s_partB_bs s_cells_bs s_ia_r s_at s_ia_ap s_ia_ar s_ix s_ix1 s_byte s_sl s_sl0 s_opt_none s_opt_int s_sl_str s_sl_slice s_sl_r s_sl_t s_cut_nn s_cut_sn s_cut_ns s_cut_ss s_cutOk_nn s_cutOk_sn s_cutOk_ns s_cutOk_ss s_rows_sl s_rows_tight s_rows_own s_rows_nil s_conv s_conv_int s_conv_str s_conv_i s_conv_b s_conv_b1 s_conv_s s_conv_s1 s_len_str s_len_sl s_len_tight s_len_own s_len_nil s_lenL s_lenT s_build s_build1 s_fl s_fill0 s_fill s_fillP s_plS s_plA s_bs s_bs1 s_bs2 s_bs3 s_mkb s_mkb1 s_mkb2 s_mk s_mk1 s_mk2 s_app_own s_app_nil s_app_tight s_appN s_ap1 s_ap2 s_ap3n s_ap3t s_ao1 s_ao2 s_ao3 s_callV s_yield s_yield1 s_nil_yield s_const_func s_upBs s_upO s_ix0 s_ixc s_reTm0 s_reTm s_reBx0 s_reBx s_putBx0 s_putBx1 s_afterB s_keepO s_fpKeep s_fpDrop s_callF s_al1 s_box s_st1 s_st2 s_frz_sc s_dg_sc s_sh_sc s_frz_str s_dg_str s_sh_str s_frz_sl s_dg_sl s_sh_sl s_frz_tight s_dg_tight s_sh_tight s_frz_row s_dg_row s_sh_row s_frz_any s_dg_any s_sh_any s_frz_mo s_dg_mo s_sh_mo s_re_mo s_moO1 s_moO0 s_sel_mo s_fz_mo s_fy_mo s_cellB_mo s_partB_mo s_cells_mo s_up_sc s_up_str s_up_sl s_up_tight s_up_row s_up_any s_up_ptr s_up_bs s_up_own s_up_mo s_up_agg s_up_tup s_up_clo s_upL_nil s_upL_cons s_upTm_nil s_upTm s_upBx_nil s_upBx s_frz_own s_frz_ptr s_dg_ptr s_sh_ptr s_dg_own s_sh_own s_re_sc s_sel_sc s_re_str s_sel_str s_re_sl s_sel_sl s_re_tight s_sel_tight s_re_row s_sel_row s_re_any s_sel_any s_fz_sc s_fz_str s_fz_sl s_fz_tight s_fz_own s_fz_row s_fz_any s_fz_ptr s_rowO1 s_rowO0 s_one_func s_re_own s_re_ptr s_sel_own s_sel_ptr s_ownO1 s_ownO0 s_ptrO1 s_ptrO0 s_fy_sc s_fy_str s_fy_sl s_fy_tight s_fy_own s_fy_row s_fy_any s_fy_ptr s_fy_bs s_frGet0 s_frGet1 s_re_agg s_re_tup s_re_clo s_reL_nil s_reL_cons s_sel_agg s_sel_tup s_sel_clo s_selL_nil s_selL_cons s_fz_agg s_fz_tup s_fz_clo s_fzL_nil s_fzL_cons s_fy_agg s_fy_tup s_fy_clo s_fyL_nil s_fyL_cons s_frz_agg s_frz_tup s_frz_clo s_frzL_nil s_frzL_cons s_dg_agg s_dg_tup s_dg_clo s_dgL_nil s_dgL_cons s_sh_agg s_sh_tup s_sh_clo s_shL_nil s_shL_cons s_dgTm_nil s_dgTm s_dgBx_nil s_dgBx s_cellB_str s_partB_str s_cells_str s_cellB_sl s_partB_sl s_cells_sl s_cellB_tight s_partB_tight s_cells_tight s_cellB_own s_partB_own s_cells_own s_cellB_ptr s_partB_ptr s_cells_ptr s_cellB_row s_partB_row s_cells_row s_cellB_clo s_partB_clo s_cells_clo s_cellB_sc s_partB_sc s_cells_sc s_partB_agg s_cells_agg s_one_int s_one_bool s_one_slice s_one_ptr s_one_string s_one_nilf s_one_nili s_one_map s_rows0 s_rows1 s_tmOf0 s_tmOf s_br_true s_br_false
attribute [push_cast] Int.ofNat_eq_natCast Bool.not_false Bool.not_true Bool.true_beq Bool.false_beq beq_self_eq_true Bool.true_and inR_i64 inR_u64 inR_u8 inR_u16 inR_i32 List.map_cons List.map_nil List.getElem?_cons_zero List.getElem?_cons_succ List.getElem?_toArray List.getElem?_nil List.drop_zero List.drop_succ_cons List.drop_nil List.take_succ_cons List.take_zero List.take_nil List.length_cons List.length_nil List.getD_cons_zero List.getD_cons_succ List.set_cons_zero List.set_cons_succ List.cons_append List.nil_append List.append_nil List.all_cons List.all_nil List.tail_cons List.tail_nil List.headD_cons List.headD_nil List.flatten_cons List.flatten_nil List.replicate_succ List.replicate_zero Bool.and_self Bool.and_true Bool.true_and Bool.not_true Bool.not_false Option.bind_some Option.map_some Option.map_none if_true if_false true_and and_true and_self decide_true decide_false Int.ofNat_le Int.ofNat_lt Int.natCast_inj toNat_succ Int.toNat_natCast Nat.zero_add Nat.add_zero List.toList_toArray Int.add_zero Int.zero_add Bool.not_not Int.sub_zero Int.natCast_pos Nat.sub_zero Int.cast_ofNat_Int Nat.one_mul Nat.mul_one
end Go.Proofs.YtdmfififkcnecaaDoor.Vcg
end
