/- Code on abstract states: what is to be shown, and that it is enough. No condition. -/
import Derived.Test.YtheokoehnmlafaaVcg15
set_option linter.unusedVariables false
set_option linter.unusedSimpArgs false
namespace Go.Proofs.Ytheokoehnmlafaa.Vcg
open Go.RowKit
section
variable {P : Program} {G : Globs} {E : Ctx} {σ : St} {a : Act} {N p : Nat} {bx : List (List C)} {ops : Array Oper}
theorem ready_mem {listed : Array Bool} {i : Nat} (h : i ∈ Region.ready .any ops listed) : ∃ o, ops.toList[i]? = some o ∧ listed.getD i true = false ∧ ∀ e ∈ o.after.toList, Region.binds .any e = true → listed.getD e.on false = true := by
  unfold Region.ready at h
  rw [List.mem_filter] at h
  obtain ⟨h1, h2⟩ := h
  simp only [Bool.and_eq_true, Bool.not_eq_true'] at h2
  have hi : i < ops.size := by simpa using h1
  rw [Array.getElem?_eq_getElem hi] at h2
  simp only [Option.map_some, Option.getD_some, Array.all_eq_true_iff_forall_mem] at h2
  refine ⟨ops[i], by simp [hi], h2.1, fun e he hb => ?_⟩
  have := h2.2 e (by simpa using he)
  simpa [hb] using this
theorem ready_none {listed : Array Bool} (hok : regOk ops = true) (hsz : listed.size = ops.size) (h : Region.ready .any ops listed = []) : ∀ i, i < ops.size → listed.getD i false = true := by
  intro i
  induction i using Nat.strongRecOn with
  | _ i ih =>
    intro hi
    cases hl : listed.getD i false with
    | true => rfl
    | false =>
      exfalso
      have : i ∈ Region.ready .any ops listed := by
        unfold Region.ready
        rw [List.mem_filter]
        refine ⟨by simpa using hi, ?_⟩
        have h1 : listed.getD i true = false := by
          rw [Array.getD_eq_getD_getElem?, Array.getElem?_eq_getElem (by omega)] at hl ⊢
          simpa using hl
        rw [h1, Array.getElem?_eq_getElem hi]
        simp only [Bool.not_false, Bool.true_and, Option.map_some, Option.getD_some, Array.all_eq_true_iff_forall_mem]
        intro e he
        cases hb : Region.binds .any e with
        | false => simp
        | true =>
          have hlt := regOk_edge hok (i := i) (o := ops[i]) (by simp [hi]) e (by simpa using he) hb
          simp [ih e.on hlt (by omega)]
      rw [h] at this; cases this
theorem count_set_true {l : List Bool} {i : Nat} (hi : l[i]? = some false) : (l.set i true).count false + 1 = l.count false := by
  have hlt : i < l.length := (List.getElem?_eq_some_iff.1 hi).1
  have hv : l[i] = false := (List.getElem?_eq_some_iff.1 hi).2
  rw [List.count_set hlt, hv]
  have hpos : 0 < l.count false := List.count_pos_iff.2 (List.mem_of_getElem? hi)
  simp; omega
theorem not_ready {br : List Bool} {listed : Array Bool} {i m' : Nat} {o : Oper} (hbr : barrOk ops br = true) (hbm : br.getD m' false = true) (hcl : Closed ops.toList (fun i => listed.getD i false)) (hm : listed.getD m' false = false) (ho : ops.toList[i]? = some o)
    (hpre : ∀ e ∈ o.after.toList, Region.binds .any e = true → listed.getD e.on false = true) (hlt : m' < i) (hm' : m' < ops.size) : False := by
  have hi : i < ops.size := by simpa using (List.getElem?_eq_some_iff.1 ho).1
  have hmem := barrOk_behind hbr hm' hi hbm hlt
  have hS' : Closed ops.toList (fun x => listed.getD x false || x == i) := fun k q hq hk e he hb => by
    simp only [Bool.or_eq_true, beq_iff_eq] at hk ⊢
    rcases hk with hk | hk
    · exact .inl (hcl k q hq hk e he hb)
    · subst hk; rw [ho] at hq; cases hq
      exact .inl (hpre e he hb)
  have := cls_sound hS' _ i m' hmem (by simp)
  simp only [Bool.or_eq_true, beq_iff_eq] at this
  rcases this with h | h
  · rw [hm] at h; cases h
  · omega
theorem ready_behind {br : List Bool} {listed : Array Bool} {i j : Nat} {o : Oper} (hbr : barrOk ops br = true) (hbm : br.getD i false = true) (hcl : Closed ops.toList (fun i => listed.getD i false)) (ho : ops.toList[i]? = some o)
    (hpre : ∀ e ∈ o.after.toList, Region.binds .any e = true → listed.getD e.on false = true) (hlt : j < i) : listed.getD j false = true := by
  have hi : i < ops.size := by simpa using (List.getElem?_eq_some_iff.1 ho).1
  have hmem := barrOk_ahead hbr hi hbm hlt
  have hS' : Closed ops.toList (fun x => listed.getD x false || x == i) := fun k q hq hk e he hb => by
    simp only [Bool.or_eq_true, beq_iff_eq] at hk ⊢
    rcases hk with hk | hk
    · exact .inl (hcl k q hq hk e he hb)
    · subst hk; rw [ho] at hq; cases hq
      exact .inl (hpre e he hb)
  have := cls_sound hS' _ i j hmem (by simp)
  simp only [Bool.or_eq_true, beq_iff_eq] at this
  rcases this with h | h
  · exact h
  · omega
theorem listed_false {listed : Array Bool} {i : Nat} (hsz : listed.size = ops.size) (hi : i < ops.size) (h : listed.getD i true = false) : listed.getD i false = false ∧ listed.toList[i]? = some false := by
  have hil : i < listed.size := by omega
  rw [Array.getD_eq_getD_getElem?, Array.getElem?_eq_getElem hil] at h ⊢
  refine ⟨by simpa using h, by simp [hil]; simpa using h⟩
theorem getD_set {listed : Array Bool} {i : Nat} (hil : i < listed.size) : (fun x => (listed.setIfInBounds i true).getD x false) = fun x => (listed.getD x false || x == i) := by
  funext x
  by_cases hx : x = i
  · subst hx; simp [Array.getD_eq_getD_getElem?, hil]
  · have : i ≠ x := fun e => hx e.symm
    simp [Array.getD_eq_getD_getElem?, Array.getElem?_setIfInBounds_ne this, hx]
theorem closed_set {listed : Array Bool} {i : Nat} {o : Oper} (hil : i < listed.size) (hcl : Closed ops.toList (fun i => listed.getD i false)) (ho : ops.toList[i]? = some o)
    (hpre : ∀ e ∈ o.after.toList, Region.binds .any e = true → listed.getD e.on false = true) : Closed ops.toList (fun x => (listed.setIfInBounds i true).getD x false) := by
  rw [getD_set hil]
  intro k q hq hk e he hb
  simp only [Bool.or_eq_true, beq_iff_eq] at hk ⊢
  rcases hk with hk | hk
  · exact .inl (hcl k q hq hk e he hb)
  · subst hk; rw [ho] at hq; cases hq
    exact .inl (hpre e he hb)
/-- a stretch of operations that turn nothing, in every order -/
theorem draw_seg {r : Option Nat} {n m m' lg : Nat} {Q : Exit → Act → World → Prop} {D : Data} {br : List Bool} (hN : ∀ o ∈ ops.toList, dstOk E.N o.dst) (hok : regOk ops = true) (hbr : barrOk ops br = true) (hmm : m ≤ m') (hl : m' ≤ ops.toList.length) (hbar : m' < ops.size → br.getD m' false = true) (hc : Chain P G bx ops ops.toList m m' D)
    (hEnd : ∀ (fuel : Nat) (listed : Array Bool) (a : Act) (R : Env) (L : Loc), listed.size = ops.size → listed.toList.count false ≤ fuel → Closed ops.toList (fun i => listed.getD i false) → (∀ i, i < m' → listed.getD i false = true) → (∀ i, m' ≤ i → listed.getD i false = false) →
      InvV G E ⟨D.T m', bx, D.X m', lg⟩ a R L → wpAnyIn (Fl r) n P .any ops Q fuel listed a R.w) : ∀ (fuel : Nat) (listed : Array Bool) (a : Act) (R : Env) (L : Loc), listed.size = ops.size → listed.toList.count false ≤ fuel →
    Closed ops.toList (fun i => listed.getD i false) → (∀ i, i < m → listed.getD i false = true) → (∀ i, m' ≤ i → listed.getD i false = false) → InvD G E bx lg ops.toList m m' D (fun i => listed.getD i false) a R L → wpAnyIn (Fl r) n P .any ops Q fuel listed a R.w := by
  have done : ∀ (fuel : Nat) (listed : Array Bool) (a : Act) (R : Env) (L : Loc), listed.size = ops.size → listed.toList.count false ≤ fuel → Closed ops.toList (fun i => listed.getD i false) → (∀ i, i < m' → listed.getD i false = true) → (∀ i, m' ≤ i → listed.getD i false = false) → InvD G E bx lg ops.toList m m' D (fun i => listed.getD i false) a R L → wpAnyIn (Fl r) n P .any ops Q fuel listed a R.w := fun fuel listed a R L hsz hcnt hcl h1 h2 h => by
    refine hEnd fuel listed a R L hsz hcnt hcl h1 h2 ⟨{ h.good with }, h.size, h.df, fun t => ?_⟩
    have ht := h.tm t
    rw [val_skip m' _ hl fun j hj _ _ => by simp [h2 j hj]] at ht
    rw [val_text hl hc.skel t m' hmm (Nat.le_refl _), val_congr (D' := fun j => decide (m ≤ j) && listed.getD j false) m' fun j hj _ => by rw [h1 j hj, Bool.and_true]]
    exact ht
  intro fuel
  induction fuel with
  | zero =>
    intro listed a R L hsz hcnt hcl h1 h2 h
    refine done 0 listed a R L hsz hcnt hcl (fun i hi => ?_) h2 h
    have hil : i < listed.size := by simp at hl; omega
    cases hq : listed.getD i false with
    | true => rfl
    | false =>
      have : listed.toList[i]? = some false := by
        rw [Array.getD_eq_getD_getElem?, Array.getElem?_eq_getElem hil] at hq
        simp [hil]; simpa using hq
      have hpos : 0 < listed.toList.count false := List.count_pos_iff.2 (List.mem_of_getElem? this)
      omega
  | succ fuel ih =>
    intro listed a R L hsz hcnt hcl h1 h2 h
    by_cases hall : ∀ i, i < m' → listed.getD i false = true
    · exact done _ listed a R L hsz hcnt hcl hall h2 h
    refine ⟨fun hr => absurd (fun i hi => ready_none hok hsz hr i (by simp at hl; omega)) hall, fun i hi => ?_⟩
    obtain ⟨o, ho, hl0, hpre⟩ := ready_mem hi
    have hio : i < ops.size := by simpa using (List.getElem?_eq_some_iff.1 ho).1
    obtain ⟨hlf, hil'⟩ := listed_false hsz hio hl0
    have hil : i < listed.size := by omega
    have hmi : m ≤ i := by
      rcases Nat.lt_or_ge i m with g | g
      · rw [h1 i g] at hlf; cases hlf
      · exact g
    have hmi' : i < m' := by
      rcases Nat.lt_trichotomy i m' with g | g | g
      · exact g
      · subst g
        exact absurd (fun j hj => ready_behind hbr (hbar hio) hcl ho hpre hj) hall
      · exact (not_ready hbr (hbar (by omega)) hcl (h2 m' (Nat.le_refl _)) ho hpre g (by omega)).elim
    have hcnt' : (listed.setIfInBounds i true).toList.count false ≤ fuel := by
      have := count_set_true hil'
      rw [Array.toList_setIfInBounds]; omega
    have next : ∀ (v : Value) (R' : Env) (L' : Loc), PStep (D.X i) (D.X (i + 1)) R L R' L' → Rep R' L' (D.c i) v → wpAnyIn (Fl r) n P .any ops Q fuel (listed.setIfInBounds i true) (a.put o.dst v) R'.w := fun v R' L' st hv =>
      ih _ _ R' L' (by simpa using hsz) hcnt' (closed_set hil hcl ho hpre) (fun j hj => by have := congrFun (getD_set hil) j; rw [this, h1 j hj]; rfl)
        (fun j hj => by have := congrFun (getD_set hil) j; rw [this, h2 j hj]; simp; omega) (by rw [getD_set hil]; exact h.put hl hc.skel hok hcl hmi hmi' ho hlf hpre (hN o (List.mem_of_getElem? ho)) st hv)
    obtain ⟨c1, c2, c3, c4, c5⟩ := hc.step i o hmi hmi' ho
    have hev := h.ev hl hc.skel hok hcl hmi hmi' ho hlf hpre
    have hguard : Region.wanted o (yielded ops a.tmps) = D.wn i := guard_wanted (tm := D.T i) rfl c3 fun j want d hg hd => by
      have ht : d ∈ touches ops o := by
        unfold touches Oper.looksAt
        rw [hg]
        simp [hd]
      refine ⟨?_, hev d ht⟩
      rw [h.size]
      cases hj : ops[j]? with
      | none => rw [hj] at hd; cases hd
      | some o' =>
        rw [hj] at hd
        have hd' : o'.dst = some d := hd
        have := hN o' (by rw [Array.mem_toList_iff]; exact Array.mem_of_getElem? hj)
        rw [hd'] at this; exact this
    unfold wpOpIn
    have hoa : ops[i]? = some o := by simpa using ho
    rw [hoa]
    simp only [hguard]
    cases hw : D.wn i with
    | true =>
      simp only [if_true]
      refine runs_wpIn ?_
      refine ((c4 hw).2 _ R L a.eval h.good.fit (h.freeAt hl hc.skel hmi hmi' hlf) fun x => ?_).mono fun v w' ⟨R', L', hw', st, hv⟩ => ?_
      · unfold restr
        split
        · rename_i hx
          cases x with
          | tmp t =>
            refine hev t ?_
            unfold touches Oper.looksAt
            exact List.mem_append_left _ (List.mem_append_left _ (List.mem_filterMap.2 ⟨.tmp t, by simpa using hx, rfl⟩))
          | const v => exact rep_ofConst R L v
          | global g =>
            simp only [evOf]
            cases hg : G g with
            | none => unfold Rep; trivial
            | some cs => exact rep_row.2 ⟨g, 0, rfl, h.good.fit.glob g cs hg⟩
          | func f => exact rep_clo.2 ⟨#[], #[], rfl, repL_nil.2 rfl, repL_nil.2 rfl⟩
        · unfold Rep; trivial
      · rw [← hw']; exact next v R' L' st hv
    | false =>
      simp only [Bool.false_eq_true, if_false]
      refine ⟨fun f _ => trivial, ?_⟩
      obtain ⟨d1, d2⟩ := c5 hw
      have st : PStep (D.X i) (D.X (i + 1)) R L R L := by rw [d2]; exact PStep.refl _ _ _
      exact next undef R L st (by rw [d1]; exact rep_sc.2 rfl)
/-- stretch behind stretch -/
theorem draw_all {r : Option Nat} {n : Nat} {Q : Exit → Act → World → Prop} {K : St → Prop} {Y : Hd} {br : List Bool} (hY : HdOk P Y E) (hN : ∀ o ∈ ops.toList, dstOk E.N o.dst) (hok : regOk ops = true) (hbr : barrOk ops br = true)
    (hQ : ∀ a R L σ, K σ → InvV G E σ a R L → Q .normal a R.w) : ∀ (k m : Nat) (fuel : Nat) (listed : Array Bool) (σ : St) (a : Act) (R : Env) (L : Loc), ops.size - m = k → m ≤ ops.size → listed.size = ops.size → listed.toList.count false ≤ fuel →
    Closed ops.toList (fun i => listed.getD i false) → (∀ i, i < m → listed.getD i false = true) → (∀ i, m ≤ i → listed.getD i false = false) → adops P G Y ops (ops.toList.drop m) (br.drop m) σ K → InvV G E σ a R L → wpAnyIn (Fl r) n P .any ops Q fuel listed a R.w := by
  intro k
  induction k using Nat.strongRecOn with
  | _ k ih =>
    intro m fuel listed σ a R L hk hm hsz hcnt hcl h1 h2 hA hI
    obtain ⟨m', D, d1, d2, d3, d4, d5, d6⟩ := chain_seg _ _ m σ rfl (by simpa using hm) hA
    have hd2 : m' ≤ ops.size := by simpa using d2
    have hlf : ∀ j, m ≤ j → listed.getD j false = false := h2
    have hInit : InvD G E σ.bx σ.lg ops.toList m m' D (fun i => listed.getD i false) a R L := by
      have hx := X_mono d2 d5.skel m m' (Nat.le_refl _) d1 (Nat.le_refl _)
      refine ⟨{ hI.good with free := fun id hid => hI.good.free id (by rw [d4] at hx; exact Nat.le_trans hx hid) }, fun id hid _ => hI.good.free id (by rw [d4] at hid; exact hid), hI.size, hI.df, fun t => ?_⟩
      rw [val_congr (D' := fun _ => false) _ fun j _ _ => by
        by_cases hj : m ≤ j
        · simp [hlf j hj]
        · simp [hj], val_skip 0 _ (Nat.zero_le _) fun _ _ _ _ => rfl]
      show Rep R L (getC (D.T m) t) _
      rw [d3]; exact hI.tm t
    have hbar : m' < ops.size → br.getD m' false = true := fun hlt => by
      rcases d6 with ⟨g, _⟩ | ⟨g, g2, _⟩
      · simp at g; omega
      · rw [List.getElem?_drop, show m + (m' - m) = m' by omega] at g2
        rw [List.getD_eq_getElem?_getD, g2]; rfl
    refine draw_seg (lg := σ.lg) hN hok hbr d1 d2 hbar d5 ?_ fuel listed a R L hsz hcnt hcl h1 (fun i hi => hlf i (by omega)) hInit
    clear hInit hI hcnt hcl h1 h2 hlf hA hsz
    intro fuel listed a R L hsz hcnt hcl h1 h2 hI
    rcases d6 with ⟨g, hK⟩ | ⟨g, g2, hA⟩
    · have hms : m' = ops.size := by simpa using g
      have hre : Region.ready .any ops listed = [] := by
        cases hq : Region.ready .any ops listed with
        | nil => rfl
        | cons i rest =>
          obtain ⟨o, ho, h3, _⟩ := ready_mem (ops := ops) (listed := listed) (i := i) (by rw [hq]; simp)
          have hio : i < ops.size := by simpa using (List.getElem?_eq_some_iff.1 ho).1
          have := (listed_false hsz hio h3).1
          rw [h1 i (by omega)] at this; cases this
      have hq := hQ a R L _ hK hI
      cases fuel with
      | zero => exact ⟨hre, hq⟩
      | succ fuel => exact ⟨fun _ => hq, fun i hi => by rw [hre] at hi; cases hi⟩
    · have hms : m' < ops.size := by simpa using g
      have hlm := h2 m' (Nat.le_refl _)
      obtain ⟨fuel, rfl⟩ : ∃ f, fuel = f + 1 := by
        have hil : m' < listed.size := by omega
        have : listed.toList[m']? = some false := by
          rw [Array.getD_eq_getD_getElem?, Array.getElem?_eq_getElem hil] at hlm
          simp [hil]; simpa using hlm
        have hpos : 0 < listed.toList.count false := List.count_pos_iff.2 (List.mem_of_getElem? this)
        exact ⟨fuel - 1, by omega⟩
      refine ⟨fun hr => ?_, fun i hi => ?_⟩
      · have := ready_none hok hsz hr m' hms
        rw [hlm] at this; cases this
      · obtain ⟨o, ho, hl0, hpre⟩ := ready_mem hi
        have hio : i < ops.size := by simpa using (List.getElem?_eq_some_iff.1 ho).1
        obtain ⟨hlf, hil'⟩ := listed_false hsz hio hl0
        have hil : i < listed.size := by omega
        have him : i = m' := by
          rcases Nat.lt_trichotomy i m' with g | g | g
          · rw [h1 i g] at hlf; cases hlf
          · exact g
          · exact (not_ready hbr (hbar hms) hcl hlm ho hpre g hms).elim
        subst him
        have hcnt' : (listed.setIfInBounds i true).toList.count false ≤ fuel := by
          have := count_set_true hil'
          rw [Array.toList_setIfInBounds]; omega
        have hdrop : ops.toList.drop i = o :: ops.toList.drop (i + 1) := by
          have hlt : i < ops.toList.length := by simpa using hio
          rw [List.drop_eq_getElem_cons hlt]
          congr 1
          have := List.getElem?_eq_getElem hlt
          rw [ho] at this
          exact (Option.some.inj this).symm
        have hbrd : (br.drop m).drop (i - m) = br.drop i := by rw [List.drop_drop]; congr 1; omega
        rw [hdrop, hbrd] at hA
        unfold adops at hA
        have hhead : (br.drop i).headD false = true := by
          have := hbar hms
          rw [List.getD_eq_getElem?_getD] at this
          cases hq : br[i]? with
          | none => rw [hq] at this; cases this
          | some x =>
            rw [hq] at this
            simp at this
            rw [List.headD_eq_head?_getD, List.head?_drop, hq, this]; rfl
        have htail : (br.drop i).tail = br.drop (i + 1) := by simp
        rw [hhead, htail] at hA
        have next : ∀ (σ' : St) (a' : Act) (R' : Env) (L' : Loc), adops P G Y ops (ops.toList.drop (i + 1)) (br.drop (i + 1)) σ' K → InvV G E σ' a' R' L' → wpAnyIn (Fl r) n P .any ops Q fuel (listed.setIfInBounds i true) a' R'.w := fun σ' a' R' L' hA' hI' =>
          ih (ops.size - (i + 1)) (by omega) (i + 1) fuel _ σ' a' R' L' rfl (by omega) (by simpa using hsz) hcnt' (closed_set hil hcl ho hpre) (fun j hj => by
            have := congrFun (getD_set hil) j
            rw [this]
            rcases Nat.lt_or_ge j i with g | g
            · rw [h1 j g]; rfl
            · have : j = i := by omega
              simp [this]) (fun j hj => by
            have := congrFun (getD_set hil) j
            rw [this, h2 j (by omega)]; simp; omega) hA' hI'
        have hd := hN o (List.mem_of_getElem? ho)
        obtain ⟨b, hg, hA1, hA2⟩ := aGuard.out hA
        have hguard : Region.wanted o (yielded ops a.tmps) = b := guard_wanted (tm := D.T i) (R := R) (L := L) rfl hg fun j want d hgd hdd => by
          refine ⟨?_, hI.tm d⟩
          rw [hI.size]
          cases hj : ops[j]? with
          | none => rw [hj] at hdd; cases hdd
          | some o' =>
            rw [hj] at hdd
            have hd' : o'.dst = some d := hdd
            have := hN o' (by rw [Array.mem_toList_iff]; exact Array.mem_of_getElem? hj)
            rw [hd'] at this; exact this
        unfold wpOpIn
        have hoa : ops[i]? = some o := by simpa using ho
        rw [hoa]
        simp only [hguard]
        cases b with
        | true =>
          simp only [if_true]
          refine runs_wpIn ((aEff_after hY (hA1 rfl) hI).mono fun v w' => ?_)
          rintro ⟨c, σ', R', L', rfl, hI', hv, hK⟩
          exact next _ _ R' L' hK (hI'.put hd hv)
        | false =>
          simp only [Bool.false_eq_true, if_false]
          refine ⟨fun f _ => trivial, next _ _ R L (hA2 rfl) ?_⟩
          have := hI.put (dst := o.dst) (c := .sc undef) (v := undef) hd (rep_sc.2 rfl)
          cases hdst : o.dst with
          | none => rw [hdst] at this; exact this
          | some d => rw [hdst] at this; exact this
theorem draw_sound {r : Option Nat} {n id : Nat} {Q : Exit → Act → World → Prop} {K : St → Prop} {Y : Hd} {br : List Bool} {w : World} (hY : HdOk P Y E) (hm : P.follows .mixedOrders = true) (hN : ∀ o ∈ ops.toList, dstOk E.N o.dst) (hok : regOk ops = true) (hbr : barrOk ops br = true)
    (h : adops P G Y ops ops.toList br σ K) (hI : Inv G E σ a w) (hQ : ∀ a' w' σ', K σ' → Inv G E σ' a' w' → Q .normal a' w') : (Code.region id ops true).wpIn (Fl r) n P Q a w := by
  obtain ⟨R, L, rfl, hI⟩ := hI
  refine wpIn_region_any hm ?_
  let R' : Env := ⟨{ R.w with drawn := R.w.drawn + 1 }, R.M, R.F⟩
  have hext : Ext R R' := ⟨fun b o v h1 h2 => ⟨h1, h2⟩⟩
  have hnear : Near E.w0 E.ex R R' := ⟨rfl, rfl, rfl, Nat.le_refl _, rfl, hext, fun b _ => .inl ⟨rfl, fun _ => Iff.rfl⟩⟩
  have hg := hI.good
  have hinv : InvV G E σ a R' L := by
    refine ⟨hg.move hnear.nigh ⟨hg.fit.glob.ext hext, ⟨hg.fit.boxes.len, hg.fit.boxes.nodup, fun i b cs hi hc => ?_⟩, ⟨fun id e k v ht => ?_, hg.fit.owns.apart⟩, hg.fit.base⟩ ⟨[], by rw [List.append_nil], fun b hb => by cases hb⟩ (fun id e k v b ht hv => .inl ⟨id, e, k, v, ht, hv⟩) hg.free, hI.size, hI.df.near hnear, fun t => Rep.ext hext (LocLe.refl _) _ _ (hI.tm t)⟩
    · obtain ⟨vs, ty, e1, e2, e3, e4⟩ := hg.fit.boxes.box i b cs hi hc
      exact ⟨vs, ty, e1, RepL.ext hext (LocLe.refl _) _ _ e2, e3, e4⟩
    · rcases hg.fit.owns.own id e k v ht with g | ⟨g, n', cap, cur, _, q⟩
      · exact .inl g
      · exact .inr ⟨g, n', cap, cur, _, q⟩
  have hlist : ∀ i, (Array.replicate ops.size false).getD i false = false := fun i => by
    rw [Array.getD_eq_getD_getElem?, Array.getElem?_replicate]; split <;> rfl
  refine draw_all (E := E) (R := R') (L := L) hY hN hok hbr (fun a1 R1 L1 σ1 hK h1 => hQ a1 R1.w σ1 hK ⟨R1, L1, rfl, h1⟩) _ 0 ops.size _ σ a rfl (Nat.zero_le _) (by simp) ?_ (fun i o hi h => ?_) (fun i hi => by omega) (fun i _ => hlist i) (by simpa using h) hinv
  · rw [Array.toList_replicate, List.count_replicate_self]; exact Nat.le_refl _
  · have h : (Array.replicate ops.size false).getD i false = true := h
    rw [hlist] at h; cases h
end
end Go.Proofs.Ytheokoehnmlafaa.Vcg
