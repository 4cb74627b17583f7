/- Code on abstract states: what is to be shown, and that it is enough; a function's contract out of it. No condition. -/
import Derived.Test.YtheokoehnmlafaaVcg22
import Derived.Test.YtheokoehnmlafaaVcg27
set_option linter.unusedVariables false
set_option linter.unusedSimpArgs false
namespace Go.Proofs.Ytheokoehnmlafaa.Vcg
open Go.RowKit
def thenK (next : St → Prop) (Q : Exit → St → Prop) : Exit → St → Prop
  | .normal, σ => next σ
  | e, σ => Q e σ
def blockK (id : Nat) (Q : Exit → St → Prop) : Exit → St → Prop
  | .exit id', σ => if id' = id then Q .normal σ else Q (.exit id') σ
  | e, σ => Q e σ
def noGotoK (Q : Exit → St → Prop) : Exit → St → Prop
  | .goto _, _ => False
  | e, σ => Q e σ
def loopK (next : St → Prop) (Q : Exit → St → Prop) : Exit → St → Prop
  | .normal, σ => next σ
  | e, σ => Q e σ
/-- a loop: what holds at every round's head, by a number that every round lowers -/
def ALoop (p : Nat) (B : (Exit → St → Prop) → St → Prop) (Q : Exit → St → Prop) (σ : St) : Prop :=
  ∃ (ι : Type) (I : ι → St) (ok : ι → Prop) (μ : ι → Nat) (i0 : ι), ok i0 ∧ Weak p σ (I i0) ∧ ∀ i, ok i → B (loopK (fun σ' => ∃ j, ok j ∧ μ j < μ i ∧ Weak p σ' (I j)) Q) (I i)
/-- operations in the text's order -/
def aops (P : Program) (G : Globs) (Y : Hd) (ops : Array Oper) : List Oper → St → (St → Prop) → Prop
  | [], σ, K => K σ
  | o :: rest, σ, K => aGuard ops σ.tm o.guard (aEff P G Y o.op σ fun c σ' => aops P G Y ops rest (σ'.put o.dst c) K) (aops P G Y ops rest (σ.put o.dst (.sc undef)) K)
/-- a region whose order is open: with a variable that is laid and filled, or without -/
def adraw (P : Program) (G : Globs) (h : Hd) (ops : Array Oper) (br : List Bool) (σ : St) (K : St → Prop) : Prop :=
  match lateOf br with
  | some (a, s) => ladops P G ops a s ops.toList 0 none σ K
  | none => adops P G h ops ops.toList br σ K
def awp (P : Program) (G : Globs) : Hd → Code → (Exit → St → Prop) → St → Prop
  | _, .skip, Q, σ => Q .normal σ
  | _, .label _, Q, σ => Q .normal σ
  | _, .exit id, Q, σ => Q (.exit id) σ
  | _, .goto l, Q, σ => Q (.goto l) σ
  | _, .ret, Q, σ => Q .ret σ
  | h, .seq x y, Q, σ => awp P G h x (thenK (awp P G h y Q) Q) σ
  | h, .cond c x y, Q, σ => ABr (evOf G σ.tm c) (awp P G h x Q σ) (awp P G h y Q σ)
  | h, .block id c, Q, σ => awp P G h c (blockK id Q) σ
  | h, .loop c, Q, σ => ALoop h.p (awp P G h c) Q σ
  | h, .scope c, Q, σ => awp P G h c (noGotoK Q) σ
  | h, .region id ops draw, Q, σ => match draw with
    | true => adraw P G h ops (h.b id) σ (Q .normal)
    | false => aops P G h ops ops.toList σ (Q .normal)
  | h, .rangeFunc f ps x y, Q, σ => ARange P G h.p (fun m => awp P G ⟨m, h.y, h.b⟩ x) (fun m => awp P G ⟨m, h.y, h.b⟩ y) Q ps.toList (evOf G σ.tm f) σ
  | _, .refuse _, _, _ => False
/-- what is to be looked at in the text alone -/
def codeOk (N : Nat) (b : Nat → List Bool) : Code → Bool
  | .seq x y => codeOk N b x && codeOk N b y
  | .cond _ x y => codeOk N b x && codeOk N b y
  | .block _ c => codeOk N b c
  | .loop c => codeOk N b c
  | .scope c => codeOk N b c
  | .region id ops draw => (ops.toList.all fun o => match o.dst with | some d => decide (d < N) | none => true) && (!draw || (regOk ops && match lateOf (b id) with | some (a, s) => lateOk ops a s | none => barrOk ops (b id)))
  | .rangeFunc _ ps x y => (ps.toList.all fun p => decide (p < N)) && codeOk N b x && codeOk N b y
  | _ => true
section
variable {P : Program} {G : Globs} {E : Ctx} {σ : St} {a : Act} {N p : Nat} {bx : List (List C)} {ops : Array Oper}
theorem dstOk_of {l : List Oper} (h : (l.all fun o => match o.dst with | some d => decide (d < N) | none => true) = true) : ∀ o ∈ l, dstOk N o.dst := fun o ho => by
  have := List.all_eq_true.1 h o ho
  unfold dstOk
  cases hd : o.dst with
  | none => trivial
  | some d => simpa [hd] using this
theorem aops_sound {Y : Hd} (hY : HdOk P Y E) {r : Option Nat} {n : Nat} {Q : Exit → Act → World → Prop} {K : St → Prop} (hQ : ∀ a' w' σ', K σ' → Inv G E σ' a' w' → Q .normal a' w') : ∀ (l : List Oper) (σ : St) (a : Act) (w : World), (∀ o ∈ l, dstOk E.N o.dst) → aops P G Y ops l σ K → Inv G E σ a w →
    (∀ (j : Nat) (o : Oper), ops[j]? = some o → dstOk E.N o.dst) → wpListIn (Fl r) n P ops Q l a w
  | [], σ, a, w, _, h, hI, _ => hQ a w σ h hI
  | o :: rest, σ, a, w, hd, h, hI, hops => by
    obtain ⟨b, hg, h1, h2⟩ := aGuard.out h
    obtain ⟨R, L, rfl, hI⟩ := hI
    have hguard : Region.wanted o (yielded ops a.tmps) = b := guard_wanted (tm := σ.tm) (R := R) (L := L) rfl hg fun j want d hgd hdd => by
      refine ⟨?_, hI.tm d⟩
      rw [hI.size]
      cases hj : ops[j]? with
      | none => rw [hj] at hdd; cases hdd
      | some o' =>
        rw [hj] at hdd
        have hd' : o'.dst = some d := hdd
        have := hops j o' hj
        rw [hd'] at this; exact this
    have hdo := hd o List.mem_cons_self
    have hdr : ∀ o' ∈ rest, dstOk E.N o'.dst := fun o' ho' => hd o' (List.mem_cons_of_mem _ ho')
    simp only [wpListIn, hguard]
    cases b with
    | true =>
      simp only [if_true]
      refine runs_wpIn ((aEff_after hY (h1 rfl) hI).mono fun v w' => ?_)
      rintro ⟨c, σ', R', L', rfl, hI', hv, hK⟩
      exact aops_sound hY hQ rest _ _ _ hdr hK ⟨R', L', rfl, hI'.put hdo hv⟩ hops
    | false =>
      simp only [Bool.false_eq_true, if_false]
      exact ⟨fun f _ => trivial, aops_sound hY hQ rest _ _ _ hdr (h2 rfl) ⟨R, L, rfl, hI.put hdo (rep_sc.2 rfl)⟩ hops⟩
theorem wpIn_scope_straight {F : Fence} {n : Nat} {c : Code} {Q : Exit → Act → World → Prop} {w : World} (h : c.wpIn F n P (Exit.noGoto Q) a w) : (Code.scope c).wpIn F n P Q a w := by
  intro b k cs hro hb hr
  obtain ⟨e, a₁, w₁, hq, harr⟩ := h b (.inScope c :: k) cs hro hb hr
  have h0 : StepsIn (Machine.fenced P F) P (lone (b.atR a (.code (.scope c) :: k)) cs w) (lone (b.atR a (.code c :: .inScope c :: k)) cs w) :=
    .one (fenced_calm hb hr rfl) (step_lone_go (by simp [stepG, stepG.exec, Frame.atR]))
  cases e with
  | normal => exact ⟨.normal, a₁, w₁, hq, .trans (.trans h0 harr) (.one (fenced_calm hb hr rfl) (step_lone_go (by simp [stepG, stepG.exec, Frame.atR])))⟩
  | exit id => exact ⟨.exit id, a₁, w₁, hq, fun k' hk => StepsIn.trans h0 (harr.1 k' (by simp [exitTo, hk])), fun hr hk => let ⟨k₁, h1, h2⟩ := harr.2 hr (by simp [exitTo, hk]); ⟨k₁, h1, StepsIn.trans h0 h2⟩⟩
  | goto l => exact hq.elim
  | ret => exact ⟨_, a₁, w₁, hq, .of_steps h0 harr⟩
  | panic ch => exact ⟨_, a₁, w₁, hq, .of_steps h0 harr⟩
  | outgrown => exact ⟨_, a₁, w₁, hq, .of_steps (b := b) (k := k) (cs := cs) (e := .outgrown) h0 harr⟩
theorem awp_sound (hm : P.follows .mixedOrders = true) : ∀ (c : Code) (h : Hd) (E : Ctx) (r : Option Nat) (n : Nat), E.β0.length ≤ h.p → (∀ y, h.y = some y → YOk P y E.J) → RndOk r E → ∀ (Q : Exit → St → Prop) (σ : St) (a : Act) (w : World), codeOk E.N h.b c = true → awp P G h c Q σ → Inv G E σ a w → c.wpIn (Fl r) n P (outK G E Q) a w := by
  intro c
  induction c with
  | skip => exact fun h E r n _ _ _ Q σ a w _ hA hI => wpIn_skip ⟨σ, hA, hI⟩
  | label l => exact fun h E r n _ _ _ Q σ a w _ hA hI => wpIn_label ⟨σ, hA, hI⟩
  | exit id => exact fun h E r n _ _ _ Q σ a w _ hA hI => wpIn_exit ⟨σ, hA, hI⟩
  | goto l => exact fun h E r n _ _ _ Q σ a w _ hA hI => wpIn_goto ⟨σ, hA, hI⟩
  | ret => exact fun h E r n _ _ _ Q σ a w _ hA hI => wpIn_ret ⟨σ, hA, hI⟩
  | refuse s => exact fun h E r n _ _ _ Q σ a w _ hA hI => hA.elim
  | rangeFunc f ps x y ihx ihy =>
    intro h E r n hp hY hr Q σ a w hc hA hI
    simp only [codeOk, Bool.and_eq_true] at hc
    exact range_sound (fun E' m l Q' σ' a' w' hN hβ hJ hr' hA' hI' => ihx ⟨m, h.y, h.b⟩ E' (some l) 0 hβ (fun y hy => by rw [hJ]; exact hY y hy) hr' Q' σ' a' w' (by rw [hN]; exact hc.1.2) hA' hI')
      (fun E' m l Q' σ' a' w' hN hβ hJ hr' hA' hI' => ihy ⟨m, h.y, h.b⟩ E' (some l) 0 hβ (fun y hy => by rw [hJ]; exact hY y hy) hr' Q' σ' a' w' (by rw [hN]; exact hc.2) hA' hI')
      (fun p hp => by have := List.all_eq_true.1 hc.1.1 p hp; simpa using this) hp hr hA hI
  | seq x y ihx ihy =>
    intro h E r n hp hY hr Q σ a w hc hA hI
    simp only [codeOk, Bool.and_eq_true] at hc
    refine wpIn_seq (wpIn_mono (ihx h E r n hp hY hr _ σ a w hc.1 hA hI) ?_)
    rintro e a' w' ⟨σ', hq, hI'⟩
    cases e <;> first | exact ihy h E r n hp hY hr Q σ' a' w' hc.2 hq hI' | exact ⟨σ', hq, hI'⟩
  | cond c x y ihx ihy =>
    intro h E r n hp hY hr Q σ a w hc hA hI
    simp only [codeOk, Bool.and_eq_true] at hc
    obtain ⟨b, hb, h1, h2⟩ := ABr.out hA
    obtain ⟨R, L, rfl, hI⟩ := hI
    have hev := hI.ev c
    rw [hb, rep_sc] at hev
    refine wpIn_cond hev ?_
    cases b with
    | true => exact ihx h E r n hp hY hr Q σ a _ hc.1 (h1 rfl) ⟨R, L, rfl, hI⟩
    | false => exact ihy h E r n hp hY hr Q σ a _ hc.2 (h2 rfl) ⟨R, L, rfl, hI⟩
  | block id c ih =>
    intro h E r n hp hY hr Q σ a w hc hA hI
    refine wpIn_block (wpIn_mono (ih h E r n hp hY hr _ σ a w hc hA hI) ?_)
    rintro e a' w' ⟨σ', hq, hI'⟩
    cases e <;> first
      | exact ⟨σ', hq, hI'⟩
      | (simp only [blockK] at hq
         simp only [Exit.inBlock]
         split at hq
         · rw [if_pos (by assumption)]; exact ⟨σ', hq, hI'⟩
         · rw [if_neg (by assumption)]; exact ⟨σ', hq, hI'⟩)
  | scope c ih =>
    intro h E r n hp hY hr Q σ a w hc hA hI
    refine wpIn_scope_straight (wpIn_mono (ih h E r n hp hY hr _ σ a w hc hA hI) ?_)
    rintro e a' w' ⟨σ', hq, hI'⟩
    cases e <;> first | exact hq.elim | exact ⟨σ', hq, hI'⟩
  | loop c ih =>
    intro h E r n hp hY hr Q σ a w hc hA hI
    obtain ⟨ι, I, ok, μ, i0, h0, hw, hrd⟩ := hA
    refine wpIn_loop_ghost (fun m a w => ∃ i, ok i ∧ μ i = m ∧ Inv G E (I i) a w) (μ i0) ⟨i0, h0, rfl, hI.weak hp hw⟩ ?_
    rintro m a w ⟨i, hi, rfl, hI⟩
    refine wpIn_mono (ih h E r n hp hY hr _ _ a w hc (hrd i hi) hI) ?_
    rintro e a' w' ⟨σ', hq, hI'⟩
    cases e <;> first
      | exact ⟨σ', hq, hI'⟩
      | (obtain ⟨j, hj, hlt, hw'⟩ := hq
         exact ⟨_, hlt, j, hj, rfl, hI'.weak hp hw'⟩)
  | region id ops draw =>
    intro h E r n hp hY hr Q σ a w hc hA hI
    simp only [codeOk, Bool.and_eq_true] at hc
    have hd := dstOk_of hc.1
    cases draw with
    | true =>
      have hok : regOk ops = true ∧ (match lateOf (h.b id) with | some (a, s) => lateOk ops a s | none => barrOk ops (h.b id)) = true := by simpa using hc.2
      obtain ⟨ho1, ho2⟩ := hok
      have hA : adraw P G h ops (h.b id) σ (Q .normal) := hA
      unfold adraw at hA
      cases hl : lateOf (h.b id) with
      | none =>
        rw [hl] at ho2 hA
        exact draw_sound ⟨hY, hp⟩ hm hd ho1 ho2 hA hI fun a' w' σ' hK hI' => ⟨_, hK, hI'⟩
      | some q =>
        rw [hl] at ho2 hA
        exact late_sound hm hd ho1 ho2 hA hI fun a' w' σ' hK hI' => ⟨_, hK, hI'⟩
    | false =>
      refine wpIn_region_list (aops_sound ⟨hY, hp⟩ (K := Q .normal) (fun a' w' σ' hK hI' => ⟨σ', hK, hI'⟩) _ σ a w hd hA hI fun j o hj => ?_)
      exact hd o (by rw [Array.mem_toList_iff]; exact Array.mem_of_getElem? hj)
/-- what a function hands back -/
def aResOne (P : Program) (σ : St) (rv : ResultVar) (K : C → Prop) : Prop :=
  match rv with
  | .tmp t => K (getC σ.tm t)
  | .cell b t => aLoad P t (getC σ.tm b) σ.bx K
def aRes (P : Program) (σ : St) (rs : List ResultVar) (K : C → Prop) : Prop :=
  match rs with
  | [] => K (.tup [])
  | [x] => aResOne P σ x K
  | [x, y] => aResOne P σ x fun c => aResOne P σ y fun d => K (.tup [c, d])
  | [x, y, z] => aResOne P σ x fun c => aResOne P σ y fun d => aResOne P σ z fun e => K (.tup [c, d, e])
  | [x, y, z, u] => aResOne P σ x fun c => aResOne P σ y fun d => aResOne P σ z fun e => aResOne P σ u fun f => K (.tup [c, d, e, f])
  | _ => False
def resOne (tmps : Array Value) : ResultVar → Sem Value
  | .tmp t => pure (tmps.getD t undef)
  | .cell b t => do loadVar t (← asAddr (tmps.getD b undef))
theorem aResOne_run {R : Env} {L : Loc} (h : InvV G E σ a R L) {rv : ResultVar} {K : C → Prop} (hK : aResOne P σ rv K) : ∃ v c, (resOne a.tmps rv).run P R.w = .ok v R.w ∧ Rep R L c v ∧ K c := by
  cases rv with
  | tmp t => exact ⟨_, _, rfl, h.tm t, hK⟩
  | cell b t =>
    obtain ⟨c, h1, h2⟩ := load_at K (show aLoad P t (getC σ.tm b) σ.bx K from hK)
    obtain ⟨v, ad, e1, e2, e3⟩ := h1 R L (a.tmps.getD b undef) h.good.fit.boxes (h.tm b)
    refine ⟨v, c, ?_, e3, h2⟩
    rw [e1] at e2
    simp only [Instr.loadAt, Instr.sureAddr, Sem.run_bind, Sem.run_pure, Result.andThen_ok] at e2
    simp only [resOne, e1, asAddr, Sem.run_bind, Sem.run_pure, Result.andThen_ok, e2]
theorem run_results {fn : Func} {rs : List ResultVar} (hrs : fn.results.toList = rs) (tmps : Array Value) (w : World) : (results fn tmps).run P w = (((rs.mapM (resOne tmps)).run P w).andThen fun vs w' => .ok (if h : vs.length = 1 then vs[0]'(by omega) else .tuple vs.toArray) w') := by
  have e0 : fn.results = rs.toArray := by rw [← hrs]
  unfold results
  rw [e0, Array.mapM_eq_mapM_toList]
  change (Sem.run P (do
    let vs ← List.toArray <$> List.mapM (resOne tmps) rs
    pure (if h : vs.size = 1 then vs[0] else Value.tuple vs)) w) = _
  simp only [Sem.run_bind, Sem.run_map]
  cases h : (rs.mapM (resOne tmps)).run P w with
  | ok vs w' =>
    simp
  | halt x w' => simp
theorem aRes_run {fn : Func} {R : Env} {L : Loc} (h : InvV G E σ a R L) {rs : List ResultVar} (hrs : fn.results.toList = rs) {K : C → Prop} (hK : aRes P σ rs K) : ∃ v c, (results fn a.tmps).run P R.w = .ok v R.w ∧ Rep R L c v ∧ K c := by
  rw [run_results hrs]
  unfold aRes at hK
  split at hK
  · exact ⟨.tuple #[], _, by simp, rep_tup.2 ⟨_, rfl, repL_nil.2 rfl⟩, hK⟩
  · rename_i x
    obtain ⟨v, c, h1, h2, h3⟩ := aResOne_run h hK
    exact ⟨v, c, by simp [h1], h2, h3⟩
  · rename_i x y
    obtain ⟨v, c, h1, h2, hK⟩ := aResOne_run h hK
    obtain ⟨v2, c2, g1, g2, hK⟩ := aResOne_run h hK
    exact ⟨_, _, by simp [h1, g1], rep_tup.2 ⟨#[v, v2], rfl, repL_cons.2 ⟨_, _, rfl, h2, repL_cons.2 ⟨_, _, rfl, g2, repL_nil.2 rfl⟩⟩⟩, hK⟩
  · rename_i x y z
    obtain ⟨v, c, h1, h2, hK⟩ := aResOne_run h hK
    obtain ⟨v2, c2, g1, g2, hK⟩ := aResOne_run h hK
    obtain ⟨v3, c3, k1, k2, hK⟩ := aResOne_run h hK
    exact ⟨_, _, by simp [h1, g1, k1], rep_tup.2 ⟨#[v, v2, v3], rfl, repL_cons.2 ⟨_, _, rfl, h2, repL_cons.2 ⟨_, _, rfl, g2, repL_cons.2 ⟨_, _, rfl, k2, repL_nil.2 rfl⟩⟩⟩⟩, hK⟩
  · rename_i x y z u
    obtain ⟨v, c, h1, h2, hK⟩ := aResOne_run h hK
    obtain ⟨v2, c2, g1, g2, hK⟩ := aResOne_run h hK
    obtain ⟨v3, c3, k1, k2, hK⟩ := aResOne_run h hK
    obtain ⟨v4, c4, l1, l2, hK⟩ := aResOne_run h hK
    exact ⟨_, _, by simp [h1, g1, k1, l1], rep_tup.2 ⟨#[v, v2, v3, v4], rfl, repL_cons.2 ⟨_, _, rfl, h2, repL_cons.2 ⟨_, _, rfl, g2, repL_cons.2 ⟨_, _, rfl, k2, repL_cons.2 ⟨_, _, rfl, l2, repL_nil.2 rfl⟩⟩⟩⟩⟩, hK⟩
  · exact hK.elim
/-- the end of a function -/
def retK (P : Program) (rs : List ResultVar) (K : C → St → Prop) : Exit → St → Prop
  | .normal, σ => aRes P σ rs fun c => K c σ
  | .ret, σ => aRes P σ rs fun c => K c σ
  | _, _ => False
/-- a function's contract -/
def tmOf : Nat → List C → List (Nat × C)
  | _, [] => []
  | i, c :: r => (i, c) :: tmOf (i + 1) r
theorem tmOf_get {R : Env} {L : Loc} : ∀ (cs : List C) (vs : List Value) (i : Nat) (f : Nat → Value), RepL R L cs vs → (∀ (j : Nat) v, vs[j]? = some v → f (i + j) = v) → ∀ t, Rep R L (getC (tmOf i cs) t) (f t)
  | [], vs, i, f, h, hf, t => by unfold tmOf getC Rep; trivial
  | c :: r, vs, i, f, h, hf, t => by
    obtain ⟨v, us, rfl, h1, h2⟩ := repL_cons.1 h
    simp only [tmOf, getC]
    split
    · subst_vars
      have := hf 0 v rfl
      rw [Nat.add_zero] at this
      rw [this]; exact h1
    · exact tmOf_get r us (i + 1) f h2 (fun j v hj => by
        have := hf (j + 1) v (by simpa using hj)
        rwa [show i + 1 + j = i + (j + 1) by omega]) t
/-- the marks of the loops over iterators, taken up at the function's end -/
theorem leaves_marks {L : Loc} {Rr : Ending → World → Prop} {fn : Func} (hE : E.df = []) : ∀ (l : List Nat) (a : Act) (R : Env), a.defers = l.map markOf → l.Nodup → (∀ d ∈ l, R.w.heap[d]? = some (.deferred (some [])) ∧ E.w0.heap.size ≤ d ∧ ¬ R.F d) → InvV G E σ a R L →
    (∀ a' R', a'.tmps = a.tmps → InvV G E σ a' R' L → ∃ v, (results fn a.tmps).run P R'.w = .ok v R'.w ∧ Rr (.returned v) R'.w) → LeavesInM Fence.wide 0 P fn a.tmps Rr a.defers .returning R.w
  | [], a, R, hd, _, _, hI, hk => by
    rw [hd]
    obtain ⟨v, h1, h2⟩ := hk a R rfl hI
    exact ⟨v, h1, h2⟩
  | d :: l, a, R, hd, hn, hl, hI, hk => by
    obtain ⟨h1, h2, h3⟩ := hl d List.mem_cons_self
    rw [hd]
    refine ⟨by simp, .inl ⟨d, _, rfl, run_takeDeferred h1, ?_⟩⟩
    have hni := nigh_putObj (E := E) (R := R) (o := .deferred none) (.inl h2) h3 (fun cs t f hc => by rw [h1] at hc; cases hc)
    have hnT : ¬ Turf L d := fun hb => by
      obtain ⟨_, _, _, cs, t, f, hc⟩ := hI.good.turf hb
      rw [h1] at hc; cases hc
    have hg := hI.good.stay hni fun b hb => ⟨World.putObj_heap_other fun e => hnT (e ▸ hb), fun _ => Iff.rfl⟩
    have hl' : ∀ x ∈ l, (R.w.putObj d (.deferred none)).heap[x]? = some (.deferred (some [])) ∧ E.w0.heap.size ≤ x ∧ ¬ R.F x := fun x hx => by
      obtain ⟨g1, g2, g3⟩ := hl x (List.mem_cons_of_mem _ hx)
      exact ⟨(World.putObj_heap_other fun e : x = d => (List.nodup_cons.1 hn).1 (by rw [← e]; exact hx)).trans g1, g2, g3⟩
    exact leaves_marks hE l { a with defers := l.map markOf } ⟨R.w.putObj d (.deferred none), R.M, R.F⟩ rfl (List.nodup_cons.1 hn).2 hl'
      ⟨hg, hI.size, ⟨l, by rw [hE, List.append_nil], (List.nodup_cons.1 hn).2, hl'⟩, fun t => Rep.ext hni.ext (LocLe.refl _) _ _ (hI.tm t)⟩ hk
theorem calls_of_awp {h : Hd} {R : Env} {L : Loc} {f : FuncId} {fn : Func} {code : Code} {vs : List Value} {K : C → St → Prop} {Rr : Ending → World → Prop} (hm : P.follows .mixedOrders = true) (hf : P.funcs[f]? = some fn) (hb : fn.body = some code) (hok : codeOk fn.ntmps h.b code = true)
    (hN : E.N = fn.ntmps) (hdf : E.df = []) (hp : E.β0.length ≤ h.p) (hY : ∀ y, h.y = some y → YOk P y E.J) (hA : awp P G h code (retK P fn.results.toList K) σ)
    (hI : InvV G E σ { tmps := vs.toArray ++ Array.replicate (fn.ntmps - vs.toArray.size) undef, defers := [] } R L)
    (hK : ∀ σ' a' R' L' v c, K c σ' → InvV G E σ' a' R' L' → Rep R' L' c v → Rr (.returned v) R'.w) : Calls P f vs.toArray R.w Rr := by
  refine (callsIn_wide (n := 0)).1 (callsIn_of_wp_marks hf hb trivial (wpIn_mono (awp_sound hm code h E none 0 hp hY (fun l0 hl0 => by cases hl0) _ σ _ _ (by rw [hN]; exact hok) hA ⟨R, L, rfl, hI⟩) ?_))
  have fin : ∀ a' w' σ', aRes P σ' fn.results.toList (fun c => K c σ') → Inv G E σ' a' w' → LeavesInM Fence.wide 0 P fn a'.tmps Rr a'.defers .returning w' := by
    rintro a' w' σ' hres ⟨R', L', rfl, hI'⟩
    obtain ⟨l, e, hn, hl⟩ := hI'.df
    rw [hdf, List.append_nil] at e
    refine leaves_marks hdf l a' R' e hn hl hI' fun a2 R2 ha hI2 => ?_
    obtain ⟨v, c, h1, h2, h3⟩ := aRes_run (fn := fn) hI2 rfl hres
    rw [ha] at h1
    exact ⟨v, h1, hK σ' a2 R2 L' v c h3 hI2 h2⟩
  rintro e a' w' ⟨σ', hq, hI'⟩
  cases e <;> first | exact hq.elim | exact fin a' w' σ' hq hI'
theorem init_tmps {R : Env} {L : Loc} {args : List C} {vs : List Value} {n : Nat} (hN : args.length ≤ n) (hargs : RepL R L args vs) : (vs.toArray ++ Array.replicate (n - vs.toArray.size) undef).size = n ∧ ∀ t, Rep R L (getC (tmOf 0 args) t) ((vs.toArray ++ Array.replicate (n - vs.toArray.size) undef).getD t undef) := by
  have hvl := repL_length hargs
  refine ⟨by simp; omega, tmOf_get args vs 0 _ hargs fun j v hj => ?_⟩
  have hj' : j < vs.length := (List.getElem?_eq_some_iff.1 hj).1
  rw [Nat.zero_add, Array.getD_eq_getD_getElem?, Array.getElem?_append_left (by simpa using hj')]
  simp [hj]
theorem frz_cells {R R2 : Env} {L : Loc} {b : Nat} {vs : Array Value} {ty : TypeId} (he : Ext R R2) (hh : R2.w.heap[b]? = some (.cells vs ty (0, 0))) (hM : ∀ o, ¬ R2.M b o) : ∀ (cs : List C) (us : List Value) (off : Nat), RepL R L cs us → vs.toList.drop off = us → (∀ v ∈ us, v.oneCell' = true) → RepCells R2 (C.frzL cs) b off
  | [], _, _, _, _, _ => by unfold C.frzL; exact repCells_nil
  | c :: r, us, off, hr, hd, h1 => by
    obtain ⟨v, us', rfl, g1, g2⟩ := repL_cons.1 hr
    unfold C.frzL
    have hv : vs[off]? = some v := by
      have := List.getElem?_drop (xs := vs.toList) (i := off) (j := 0)
      rw [hd] at this
      simpa using this.symm
    refine repCells_cons.2 ⟨⟨v, ?_, hM off, Rep.ext he (LocLe.refl _) _ _ (g1.frz noLoc), h1 v List.mem_cons_self⟩, frz_cells he hh hM r us' (off + 1) g2 ?_ fun x hx => h1 x (List.mem_cons_of_mem _ hx)⟩
    · rw [cell_of_row R2.w b off vs ty (0, 0) hh]; exact hv
    · rw [← List.drop_drop, hd]; rfl
theorem frzL_drop : ∀ (n : Nat) (cs : List C), C.frzL (cs.drop n) = (C.frzL cs).drop n
  | 0, _ => rfl
  | n + 1, [] => by simp [C.frzL]
  | n + 1, c :: r => by
    have h : C.frzL (c :: r) = c.frz :: C.frzL r := by rw [C.frzL]
    rw [h]; exact frzL_drop n r
mutual
theorem Rep.fz {R R2 : Env} {L : Loc} {bx : List (List C)} (he : Ext R R2) (hbx : BoxesOk R L bx) (hw : R2.w = R.w) (hM : ∀ b ∈ L.β, ∀ o, ¬ R2.M b o) : ∀ (c : C) (v : Value), Rep R L c v → Rep R2 L (c.fz bx) v
  | .ptr i off, _, h => by
    unfold C.fz
    obtain ⟨b, hb, e⟩ := rep_ptr.1 h
    split
    · rename_i cs hcs
      obtain ⟨vs, ty, e1, e2, e3, e4⟩ := hbx.box i b cs hb hcs
      refine rep_row.2 ⟨b, off, e, ?_⟩
      rw [← frzL_drop]
      refine frz_cells (L := L) he (by rw [hw]; exact e1) (hM b (List.mem_of_getElem? hb)) _ (vs.toList.drop off) off (repL_drop off e2) rfl fun x hx => e3 x (List.mem_of_mem_drop hx)
    · exact le_any
  | .agg cs, _, h => by
    unfold C.fz; unfold Rep at h ⊢
    obtain ⟨vs, e, hl⟩ := h
    exact ⟨vs, e, RepL.fz he hbx hw hM cs _ hl⟩
  | .tup cs, _, h => by
    unfold C.fz; unfold Rep at h ⊢
    obtain ⟨vs, e, hl⟩ := h
    exact ⟨vs, e, RepL.fz he hbx hw hM cs _ hl⟩
  | .clo fn first cap, _, h => by
    unfold C.fz; unfold Rep at h ⊢
    obtain ⟨fs, cs, e, h1, h2⟩ := h
    exact ⟨fs, cs, e, RepL.fz he hbx hw hM first _ h1, RepL.fz he hbx hw hM cap _ h2⟩
  | .sc v, _, h => Rep.ext he (LocLe.refl _) _ _ h
  | .str l, _, h => Rep.ext he (LocLe.refl _) _ _ h
  | .sl k rows, _, h => Rep.ext he (LocLe.refl _) _ _ h
  | .tight k rows, _, h => Rep.ext he (LocLe.refl _) _ _ h
  | .own id e k rows, _, h => Rep.ext he (LocLe.refl _) _ _ h
  | .row cs, _, h => Rep.ext he (LocLe.refl _) _ _ h
  | .bs i off k n c, _, h => by unfold C.fz; exact le_any
  | .any, _, h => Rep.ext he (LocLe.refl _) _ _ h
theorem RepL.fz {R R2 : Env} {L : Loc} {bx : List (List C)} (he : Ext R R2) (hbx : BoxesOk R L bx) (hw : R2.w = R.w) (hM : ∀ b ∈ L.β, ∀ o, ¬ R2.M b o) : ∀ (cs : List C) (vs : List Value), RepL R L cs vs → RepL R2 L (C.fzL bx cs) vs
  | [], _, h => by unfold C.fzL; rw [repL_nil] at h ⊢; exact h
  | c :: r, _, h => by
    unfold C.fzL; rw [repL_cons] at h ⊢
    obtain ⟨v, us, e, h1, h2⟩ := h
    exact ⟨v, us, e, Rep.fz he hbx hw hM c v h1, RepL.fz he hbx hw hM r us h2⟩
end
theorem Fun.of_awp {f : FuncId} {fn : Func} {code : Code} {args : List C} {r : C} {n : Nat} (b : Nat → List Bool) (hm : P.follows .mixedOrders = true) (hf : P.funcs[f]? = some fn) (hb : fn.body = some code) (hnm : (fn.name == "runtime.NumGoroutine") = false) (hN : args.length ≤ fn.ntmps) (hok : codeOk fn.ntmps b code = true)
    (h : awp P G ⟨0, none, b⟩ code (retK P fn.results.toList fun c σ => ∃ src : Src, srcOk src = true ∧ src.length = n ∧ CLe src 0 (c.fz σ.bx) r) ⟨tmOf 0 args, [], 0, 0⟩) : Fun P G f args r n := by
  refine ⟨by unfold entersB; rw [hf]; simp [hnm, hb], fun R vs hg hargs => ?_⟩
  let E : Ctx := ⟨R.w, R.M, [], fun _ => False, fn.ntmps, [], fun _ => False, fun _ => False, fun _ h => h, fun _ _ => True, fun _ _ _ _ _ => trivial⟩
  let R0 : Env := ⟨R.w, R.M, fun _ => False⟩
  have hx : Ext R R0 := ⟨fun _ _ _ h1 h2 => ⟨h1, h2⟩⟩
  have hargs0 : RepL R0 noLoc args vs := RepL.ext hx (LocLe.refl _) _ _ hargs
  obtain ⟨i1, i2⟩ := init_tmps hN hargs0
  have hinv : InvV G E ⟨tmOf 0 args, [], 0, 0⟩ { tmps := vs.toArray ++ Array.replicate (fn.ntmps - vs.toArray.size) undef, defers := [] } R0 noLoc :=
    ⟨⟨⟨hg.ext hx, ⟨rfl, List.nodup_nil, fun i b cs hi => (by simp at hi)⟩, ⟨fun id e k v ht => (by cases ht), fun id id' e k v e' k' v' b ht => (by cases ht)⟩, fun g hg => .inl hg⟩, rfl, rfl, rfl, Nat.le_refl _, fun _ _ _ _ => ⟨rfl, fun _ => Iff.rfl⟩, ⟨fun _ _ _ h1 h2 => ⟨h1, h2⟩⟩, ⟨[], rfl⟩, fun b hb => (by cases hb), fun _ h => h.elim, fun _ _ => Iff.rfl, fun b hb => (by cases hb), fun id e k v b ht => (by cases ht), fun _ _ => rfl, trivial⟩, i1, ⟨[], rfl, List.nodup_nil, fun d hd => (by cases hd)⟩, i2⟩
  refine calls_of_awp (E := E) (R := R0) hm hf hb hok rfl rfl (Nat.zero_le _) (fun y hy => by cases hy) h hinv ?_
  rintro σ' a' R' L' v c ⟨src, h3, h4, h5⟩ hI h2
  have hgd := hI.good
  have hblk : ∀ b, b < R.w.heap.size → R'.w.heap[b]? = R.w.heap[b]? ∧ ∀ o, (R'.M b o ↔ R.M b o) := fun b hb => hgd.blk b hb (fun h => h) fun hF => (hgd.fz b hb).1 hF
  have hx' : Ext R' ⟨R'.w, fun b o => R'.M b o ∧ b ∉ L'.β, R.F⟩ := ⟨fun _ _ _ h1 h2 => ⟨h1, fun h => h2 h.1⟩⟩
  have how := srcT_own (β' := []) h3 (fun b hb => (by cases hb)) hgd.fit.owns
  have hnew : ∀ b ∈ L'.β, R.w.heap.size ≤ b := fun b hb => (hgd.tub b hb).elim id fun g => g.elim
  have hfz : Rep ⟨R'.w, fun b o => R'.M b o ∧ b ∉ L'.β, R.F⟩ L' (c.fz σ'.bx) v := Rep.fz hx' hgd.fit.boxes rfl (fun b hb o h => h.2 hb) _ _ h2
  refine ⟨v, ⟨R'.w, fun b o => R'.M b o ∧ b ∉ L'.β, R.F⟩, lessLoc src 0 L', rfl, rfl, ⟨⟨hgd.os, hgd.tape, hgd.output, hgd.size, fun b hb => (hblk b hb).1⟩, rfl, by simp, fun b o hb => ?_, fun id hi => ?_, fun id e k v hi hj ht => ?_, fun id id' e k v e' k' v' b hi hi2 hj hj2 h6 h7 h8 h9 => ?_⟩, Rep.less _ _ _ h5 hfz⟩
  · refine ⟨fun h => ((hblk b hb).2 o).1 h.1, fun h => ⟨((hblk b hb).2 o).2 h, fun hx => ?_⟩⟩
    have := hnew b hx; omega
  · show srcT src L'.T id = none
    unfold srcT
    rw [List.getElem?_eq_none (by omega)]
  · have hob := hgd.fit.owns
    rcases how.own id e k v ht with g | ⟨g, n', cap, cur, _, q1, q2, q3, q4, q5, q6, q7, q8⟩
    · exact .inl g
    · have hnb : g ∉ L'.β := by
        obtain ⟨i, _, hi2⟩ := srcT_block (R := R) ht (by rw [q1]; rfl)
        exact ((hob.own i e k v hi2).block (by rw [q1]; rfl)).2.2
      refine .inr ⟨g, n', cap, cur, _, q1, ?_, q3, q4, q5, q6, q7, fun o ho => ⟨q8 o ho, hnb⟩⟩
      rcases q2 with q2 | q2
      · exact q2
      · exact q2.elim
  · exact how.apart id id' e k v e' k' v' b h6 h7 h8 h9
theorem FunX.of_awpK {f : FuncId} {fn : Func} {code : Code} {args : List C} {bx : List (List C)} {q : Nat} {post : C → List (List C) → Nat → Prop} {K0 : C → St → Prop} (b : Nat → List Bool) (hm : P.follows .mixedOrders = true) (hf : P.funcs[f]? = some fn) (hb : fn.body = some code) (hnm : (fn.name == "runtime.NumGoroutine") = false) (hN : args.length ≤ fn.ntmps) (hok : codeOk fn.ntmps b code = true) 
    (h : awp P G ⟨bx.length, none, b⟩ code (retK P fn.results.toList K0) ⟨tmOf 0 args, bx, q, 0⟩) (hK0 : ∀ c σ, K0 c σ → ∃ r bx' n, (post r bx' n ∧ bx.length ≤ bx'.length) ∧ ∃ src : Src, srcOk src = true ∧ src.length = n ∧ WeakBx src bx'.length σ.bx bx' ∧ CLe src bx'.length c r) : FunX P G f args bx q post := by
  refine ⟨by unfold entersB; rw [hf]; simp [hnm, hb], fun R L vs hg hbx how hfree hflt hFT hargs => ?_⟩
  let E : Ctx := ⟨R.w, R.M, L.β, Turf L, fn.ntmps, [], fun _ => False, fun b => b ∈ L.β, fun _ h => .inl h, fun _ _ => True, fun _ _ _ _ _ => trivial⟩
  let R0 : Env := ⟨R.w, R.M, fun _ => False⟩
  have hx : Ext R R0 := ⟨fun _ _ _ h1 h2 => ⟨h1, h2⟩⟩
  have hargs0 : RepL R0 L args vs := RepL.ext hx (LocLe.refl _) _ _ hargs
  obtain ⟨i1, i2⟩ := init_tmps hN hargs0
  have hinv : InvV G E ⟨tmOf 0 args, bx, q, 0⟩ { tmps := vs.toArray ++ Array.replicate (fn.ntmps - vs.toArray.size) undef, defers := [] } R0 L := by
    refine ⟨⟨⟨hg.ext hx, ⟨hbx.len, hbx.nodup, fun i b cs hi hc => ?_⟩, ⟨fun id e k v ht => ?_, how.apart⟩, fun g hg => .inl hg⟩, rfl, rfl, rfl, Nat.le_refl _, fun _ _ _ _ => ⟨rfl, fun _ => Iff.rfl⟩, ⟨fun _ _ _ h1 h2 => ⟨h1, h2⟩⟩, ⟨[], by simp [E]⟩, fun b hb => .inr hb, fun _ h => h.elim, fun _ _ => Iff.rfl, fun b hb h => h, fun id e k v b ht hv h => h, hfree, trivial⟩, i1, ⟨[], rfl, List.nodup_nil, fun d hd => (by cases hd)⟩, i2⟩
    · obtain ⟨vs, ty, e1, e2, e3, e4⟩ := hbx.box i b cs hi hc
      exact ⟨vs, ty, e1, RepL.ext hx (LocLe.refl _) _ _ e2, e3, e4⟩
    · rcases how.own id e k v ht with g | ⟨g, n', cap, cur, _, q1, q2, q3⟩
      · exact .inl g
      · exact .inr ⟨g, n', cap, cur, _, q1, .inr (.inr ⟨id, e, k, v, ht, by rw [q1]; rfl⟩), q3⟩
  refine calls_of_awp (E := E) (R := R0) hm hf hb hok rfl rfl (by show L.β.length ≤ bx.length; rw [hbx.len]; exact Nat.le_refl _) (fun y hy => by cases hy) h hinv ?_
  rintro σ' a' R' L' v c h0 hI h2
  obtain ⟨r, bx', n, ⟨hpost, hlen⟩, src, h3, h4, h5, h6⟩ := hK0 _ _ h0
  have hgd := hI.good
  have hwk : Weak bx.length ⟨[], σ'.bx, σ'.nx, σ'.lg⟩ ⟨[], bx', n, σ'.lg⟩ := ⟨src, h3, h4, hlen, rfl, trivial, h5⟩
  have hx' : Ext R' ⟨R'.w, R'.M, R.F⟩ := ⟨fun _ _ _ h1 h2 => ⟨h1, h2⟩⟩
  have hblen : σ'.bx.length = L'.β.length := hgd.fit.boxes.len.symm
  have hle : bx'.length ≤ σ'.bx.length := by
    rcases Nat.lt_or_ge σ'.bx.length bx'.length with hx | hx
    · obtain ⟨cs, hc, _⟩ := weakBx_get h5 σ'.bx.length (bx'[σ'.bx.length]) (List.getElem?_eq_getElem hx)
      simp at hc
    · exact hx
  obtain ⟨more, hm1⟩ := hgd.box
  have hm1 : L'.β = L.β ++ more := hm1
  have hbl := hbx.len
  have hown := srcT_own (β' := L'.β.take bx'.length) h3 (fun b hb => List.mem_of_mem_take hb) hgd.fit.owns
  have hblk : ∀ b, b < R.w.heap.size → ¬ Turf L b → R'.w.heap[b]? = R.w.heap[b]? ∧ ∀ o, (R'.M b o ↔ R.M b o) := fun b hb hT => hgd.blk b hb hT fun hF => (hgd.fz b hb).1 hF
  have hcells : ∀ b, Turf L b → ∃ cs t f, R.w.heap[b]? = some (.cells cs t f) := fun b hT => by
    rcases hT with hT | ⟨id, e, k, v, ht, hv⟩
    · obtain ⟨i, hi, rfl⟩ := List.getElem_of_mem hT
      obtain ⟨vs, ty, g, _⟩ := hbx.box i L.β[i] (bx[i]'(by omega)) (List.getElem?_eq_getElem hi) (List.getElem?_eq_getElem (by omega))
      exact ⟨_, _, _, g⟩
    · rcases how.own id e k v ht with g | ⟨g, n', cap, cur, _, q1, q2, q3, q4⟩
      · subst g; cases hv
      · subst q1; cases hv; exact ⟨_, _, _, q3⟩
  refine ⟨r, bx', n, ⟨hpost, hlen⟩, v, ⟨R'.w, R'.M, R.F⟩, lessLoc src bx'.length L', rfl, rfl, ⟨hgd.os, hgd.tape, hgd.output, hgd.size, rfl, ⟨hgd.ext.cell⟩, fun b hb => ?_⟩, ⟨by simp; omega, hgd.fit.boxes.nodup.sublist (List.take_sublist _ _), fun i b cs' hi hc => ?_⟩, ⟨fun id e k v ht => ?_, hown.apart⟩, ⟨more.take (bx'.length - L.β.length), ?_, fun b hb => ?_⟩, fun id hi => ?_, Rep.ext hx' (LocLe.refl _) _ _ (Rep.less _ _ _ h6 h2)⟩
  · by_cases hT : Turf L b
    · exact .inr ⟨.inr hT, hFT b hT, hcells b hT⟩
    · exact .inl (hblk b hb hT)
  · obtain ⟨cs, hc1, hc2⟩ := weakBx_get h5 i cs' hc
    have hi' : L'.β[i]? = some b := by
      have hi : (L'.β.take bx'.length)[i]? = some b := hi
      rw [List.getElem?_take] at hi
      split at hi
      · exact hi
      · cases hi
    obtain ⟨vs, ty, e1, e2, e3, e4⟩ := hgd.fit.boxes.box i b cs hi' hc1
    exact ⟨vs, ty, e1, RepL.ext hx' (LocLe.refl _) _ _ (RepL.less _ _ _ hc2 e2), e3, e4⟩
  · rcases hown.own id e k v ht with g | ⟨g, n', cap, cur, _, q1, q2, q3, q4⟩
    · exact .inl g
    · exact .inr ⟨g, n', cap, cur, _, q1, q2, q3, q4⟩
  · show L'.β.take bx'.length = _
    rw [hm1, List.take_append, List.take_of_length_le (by omega)]
  · have hb' : b ∈ more := List.mem_of_mem_take hb
    have hbm : b ∈ L'.β := by rw [hm1]; exact List.mem_append_right _ hb'
    rcases hgd.tub b hbm with g | g
    · exact g
    · have hn := hgd.fit.boxes.nodup
      rw [hm1, List.nodup_append] at hn
      exact absurd rfl (hn.2.2 b g b hb')
  · show srcT src L'.T id = none
    unfold srcT
    rw [List.getElem?_eq_none (by omega)]
theorem FunX.of_awp {f : FuncId} {fn : Func} {code : Code} {args : List C} {bx : List (List C)} {q : Nat} {post : C → List (List C) → Nat → Prop} (b : Nat → List Bool) (hm : P.follows .mixedOrders = true) (hf : P.funcs[f]? = some fn) (hb : fn.body = some code) (hnm : (fn.name == "runtime.NumGoroutine") = false) (hN : args.length ≤ fn.ntmps) (hok : codeOk fn.ntmps b code = true)
    (h : awp P G ⟨bx.length, none, b⟩ code (retK P fn.results.toList fun c σ => ∃ r bx' n, (post r bx' n ∧ bx.length ≤ bx'.length) ∧ ∃ src : Src, srcOk src = true ∧ src.length = n ∧ WeakBx src bx'.length σ.bx bx' ∧ CLe src bx'.length c r) ⟨tmOf 0 args, bx, q, 0⟩) : FunX P G f args bx q post :=
  FunX.of_awpK b hm hf hb hnm hN hok h fun _ _ h => h
theorem FunB.of_awp {f : FuncId} {fn : Func} {code : Code} {args : List C} {bx bx' : List (List C)} {r : C} {q n : Nat} (b : Nat → List Bool) (hm : P.follows .mixedOrders = true) (hf : P.funcs[f]? = some fn) (hb : fn.body = some code) (hnm : (fn.name == "runtime.NumGoroutine") = false) (hN : args.length ≤ fn.ntmps) (hok : codeOk fn.ntmps b code = true) (hlen : bx.length ≤ bx'.length)
    (h : awp P G ⟨bx.length, none, b⟩ code (retK P fn.results.toList fun c σ => ∃ src : Src, srcOk src = true ∧ src.length = n ∧ WeakBx src bx'.length σ.bx bx' ∧ CLe src bx'.length c r) ⟨tmOf 0 args, bx, q, 0⟩) : FunB P G f args bx q r bx' n :=
  FunX.of_awpK b hm hf hb hnm hN hok h fun c σ h => ⟨r, bx', n, ⟨⟨rfl, rfl, rfl⟩, hlen⟩, h⟩
theorem Iter.of_awp {f : FuncId} {fn : Func} {code : Code} {first cap : List C} {bx items : List (List C)} (b : Nat → List Bool) (hm : P.follows .mixedOrders = true) (hf : P.funcs[f]? = some fn) (hb : fn.body = some code) (hnm : (fn.name == "runtime.NumGoroutine") = false) (hN : first.length + 1 + cap.length ≤ fn.ntmps) (hok : codeOk fn.ntmps b code = true)
    (h : ∀ (l : Nat) (st : Nat → Bool), awp P G ⟨0, some ⟨l, items, st⟩, b⟩ code (retK P fn.results.toList fun c σ => EndAt items st σ.lg) ⟨tmOf 0 (first ++ [.sc (.func (.yield l) #[] #[])] ++ cap), bx, 0, 0⟩) : Iter P G f first cap bx items := by
  refine ⟨by unfold entersB; rw [hf]; simp [hnm, hb], fun l st J R L us vs hg hbx hT hflt hfb hstab hYk hJ hus hvs => ?_⟩
  let E : Ctx := ⟨R.w, R.M, [], fun b => b ∈ L.β, fn.ntmps, [], R.F, fun b => b ∈ L.β, fun _ h => h, J, hstab⟩
  have hargs : RepL R L (first ++ [.sc (.func (.yield l) #[] #[])] ++ cap) (us ++ [Value.func (.yield l) #[] #[]] ++ vs) := repL_append (repL_append hus (repL_cons.2 ⟨_, _, rfl, rep_sc.2 rfl, repL_nil.2 rfl⟩)) hvs
  obtain ⟨i1, i2⟩ := init_tmps (n := fn.ntmps) (by simp; omega) hargs
  have hinv : InvV G E ⟨tmOf 0 (first ++ [.sc (.func (.yield l) #[] #[])] ++ cap), bx, 0, 0⟩ { tmps := (us ++ [Value.func (.yield l) #[] #[]] ++ vs).toArray ++ Array.replicate (fn.ntmps - (us ++ [Value.func (.yield l) #[] #[]] ++ vs).toArray.size) undef, defers := [] } R L :=
    ⟨⟨⟨hg, hbx, ⟨fun id e k v ht => (by rw [hT] at ht; cases ht), fun id id' e k v e' k' v' b ht => (by rw [hT] at ht; cases ht)⟩, fun g hg => .inl hg⟩, rfl, rfl, rfl, Nat.le_refl _, fun _ _ _ _ => ⟨rfl, fun _ => Iff.rfl⟩, ⟨fun _ _ _ h1 h2 => ⟨h1, h2⟩⟩, ⟨L.β, rfl⟩, fun b hb => .inr hb, hflt, fun _ _ => Iff.rfl, hfb, fun id e k v b ht => (by rw [hT] at ht; cases ht), fun id _ => hT id, hJ⟩, i1, ⟨[], rfl, List.nodup_nil, fun d hd => (by cases hd)⟩, i2⟩
  refine calls_of_awp (E := E) hm hf hb hok rfl rfl (Nat.zero_le _) (fun y hy => by cases hy; exact hYk) (h l st) hinv ?_
  rintro σ' a' R' L' v c hend hI h2
  exact ⟨v, R', σ'.lg, rfl, rfl, hI.good.log, hend⟩
end
end Go.Proofs.Ytheokoehnmlafaa.Vcg
