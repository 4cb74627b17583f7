/- A region whose order is open, of operations that turn nothing: every order comes to the same. No condition. -/
import Derived.Test.YtheokoehnmlafaaVcg14
set_option linter.unusedVariables false
set_option linter.unusedSimpArgs false
namespace Go.Proofs.Ytheokoehnmlafaa.Vcg
open Go.RowKit
/-- which operations are ahead of each, as bits -/
def clsUpto (l : List Oper) : Nat → List Nat
  | 0 => []
  | m + 1 => clsUpto l m ++ [match l[m]? with
    | some o => o.after.toList.foldl (fun acc e => if Region.binds .any e then acc ||| 2 ^ e.on ||| (clsUpto l m).getD e.on 0 else acc) 0
    | none => 0]
def inC (cl : List Nat) (i j : Nat) : Bool := (cl.getD i 0).testBit j
theorem clsUpto_length (l : List Oper) : ∀ m, (clsUpto l m).length = m
  | 0 => rfl
  | m + 1 => by simp [clsUpto, clsUpto_length l m]
theorem fold_bits {p : List Nat} {x : Nat} : ∀ (l : List Edge) (acc : Nat), (l.foldl (fun acc e => if Region.binds .any e then acc ||| 2 ^ e.on ||| p.getD e.on 0 else acc) acc).testBit x = true →
    acc.testBit x = true ∨ ∃ e ∈ l, Region.binds .any e = true ∧ (x = e.on ∨ inC p e.on x = true)
  | [], acc, h => .inl h
  | e :: l, acc, h => by
    rw [List.foldl_cons] at h
    rcases fold_bits l _ h with h | ⟨e', h1, h2⟩
    · split at h
      · rename_i hb
        simp only [Nat.testBit_or, Bool.or_eq_true, Nat.testBit_two_pow, decide_eq_true_eq] at h
        rcases h with (h | h) | h
        · exact .inl h
        · exact .inr ⟨e, List.mem_cons_self, hb, .inl h.symm⟩
        · exact .inr ⟨e, List.mem_cons_self, hb, .inr h⟩
      · exact .inl h
    · exact .inr ⟨e', List.mem_cons_of_mem _ h1, h2⟩
/-- what an operation looks at, and where it writes -/
def touches (ops : Array Oper) (o : Oper) : List Tmp := o.looksAt ops ++ o.dst.toList
def pairOk (ops : Array Oper) (cl : List Nat) (i : Nat) (o : Oper) (j : Nat) (o' : Oper) : Bool :=
  i == j || match o'.dst with
    | none => true
    | some d => !((touches ops o).contains d) || (if j < i then inC cl i j else inC cl j i)
def regOk (ops : Array Oper) : Bool :=
  let cl := clsUpto ops.toList ops.size
  ops.toList.zipIdx.all fun (o, i) => (o.after.toList.all fun e => !Region.binds .any e || decide (e.on < i)) && ops.toList.zipIdx.all fun (o', j) => pairOk ops cl i o j o'
def Closed (l : List Oper) (D : Nat → Bool) : Prop := ∀ (i : Nat) o, l[i]? = some o → D i = true → ∀ e ∈ o.after.toList, Region.binds .any e = true → D e.on = true
theorem cls_sound {l : List Oper} {D : Nat → Bool} (hD : Closed l D) : ∀ (m i x : Nat), inC (clsUpto l m) i x = true → D i = true → D x = true
  | 0, i, x, h, _ => by simp [clsUpto, inC] at h
  | m + 1, i, x, h, hi => by
    have hl := clsUpto_length l m
    simp only [clsUpto, inC] at h
    rcases Nat.lt_or_ge i m with hlt | hge
    · rw [List.getD_eq_getElem?_getD, List.getElem?_append_left (by omega), ← List.getD_eq_getElem?_getD] at h
      exact cls_sound hD m i x h hi
    · rw [List.getD_eq_getElem?_getD, List.getElem?_append_right (by omega), ← List.getD_eq_getElem?_getD] at h
      rcases Nat.lt_or_ge m i with h1 | h1
      · rw [List.getD_eq_getElem?_getD, List.getElem?_eq_none (by simp; omega)] at h
        simp at h
      · have : i = m := by omega
        subst this
        rw [hl, Nat.sub_self] at h
        simp only [List.getD_cons_zero] at h
        cases ho : l[i]? with
        | none => rw [ho] at h; simp at h
        | some o =>
          rw [ho] at h
          rcases fold_bits _ _ h with h | ⟨e, he, hb, hx⟩
          · simp at h
          · have hon := hD i o ho hi e he hb
            rcases hx with rfl | hx
            · exact hon
            · exact cls_sound hD i e.on x hx hon
/-- what stands in a slot when the operations of D are done -/
def val (T0 : List (Nat × C)) (l : List Oper) (c : Nat → C) (D : Nat → Bool) : Nat → Nat → C
  | 0, t => getC T0 t
  | m + 1, t => if D m = true ∧ (l[m]?).bind (·.dst) = some t then c m else val T0 l c D m t
section
variable {P : Program} {G : Globs} {E : Ctx} {σ : St} {a : Act} {N p : Nat} {bx : List (List C)} {ops : Array Oper}
theorem val_text {D : Data} {l : List Oper} {m m' : Nat} (hl : m' ≤ l.length) (h : Skel l m m' D) (t : Nat) : ∀ k, m ≤ k → k ≤ m' → getC (D.T k) t = val (D.T m) l D.c (fun j => decide (m ≤ j)) k t
  | k, hm, hk => by
    rcases Nat.lt_or_ge m k with hlt | hge
    · obtain ⟨k, rfl⟩ : ∃ j, k = j + 1 := ⟨k - 1, by omega⟩
      obtain ⟨h1, _⟩ := h.step k l[k] (by omega) (by omega) (List.getElem?_eq_getElem (by omega))
      rw [h1]
      simp only [val, List.getElem?_eq_getElem (show k < l.length by omega), Option.bind_some]
      have hmk : m ≤ k := by omega
      cases hd : (l[k]).dst with
      | none => simp [putT, val_text hl h t k hmk (by omega)]
      | some d =>
        simp only [putT, getC]
        by_cases ht : t = d
        · simp [ht, hmk]
        · have : ¬ d = t := fun e => ht e.symm
          simp [ht, this, val_text hl h t k hmk (by omega)]
    · obtain rfl : k = m := by omega
      have : ∀ n, n ≤ k → val (D.T k) l D.c (fun j => decide (k ≤ j)) n t = getC (D.T k) t := fun n => by
        induction n with
        | zero => intro _; rfl
        | succ n ih =>
          intro hn
          simp only [val]
          rw [if_neg (by simp; omega), ih (by omega)]
      exact (this k (Nat.le_refl _)).symm
theorem val_congr {T0 : List (Nat × C)} {l : List Oper} {c : Nat → C} {D D' : Nat → Bool} {t : Nat} : ∀ m, (∀ j, j < m → (l[j]?).bind (·.dst) = some t → D j = D' j) → val T0 l c D m t = val T0 l c D' m t
  | 0, _ => rfl
  | m + 1, h => by
    simp only [val]
    rw [val_congr m fun j hj => h j (by omega)]
    by_cases hd : (l[m]?).bind (·.dst) = some t
    · rw [h m (by omega) hd]
    · simp [hd]
theorem val_skip {T0 : List (Nat × C)} {l : List Oper} {c : Nat → C} {D : Nat → Bool} {t : Nat} (i : Nat) : ∀ m, i ≤ m → (∀ j, i ≤ j → j < m → (l[j]?).bind (·.dst) = some t → D j = false) → val T0 l c D m t = val T0 l c D i t
  | 0, hi, _ => by rw [show i = 0 by omega]
  | m + 1, hi, h => by
    rcases Nat.lt_or_ge m i with h1 | h1
    · rw [show i = m + 1 by omega]
    · simp only [val]
      rw [val_skip i m h1 fun j hj hj' => h j hj (by omega)]
      by_cases hd : (l[m]?).bind (·.dst) = some t
      · rw [h m h1 (by omega) hd]; simp
      · simp [hd]
/-- the state when the operations of S are done -/
structure InvD (G : Globs) (E : Ctx) (bx : List (List C)) (lg : Nat) (l : List Oper) (m m' : Nat) (D : Data) (S : Nat → Bool) (a : Act) (R : Env) (L : Loc) : Prop where
  good : Good G E ⟨[], bx, D.X m', lg⟩ R L
  free : ∀ id, D.X m ≤ id → (∀ i, m ≤ i → i < m' → S i = true → ¬ (D.X i ≤ id ∧ id < D.X (i + 1))) → L.T id = none
  size : a.tmps.size = E.N
  df : DfOk E a.defers R
  tm : ∀ t, Rep R L (val (D.T m) l D.c (fun j => decide (m ≤ j) && S j) l.length t) (a.tmps.getD t undef)
theorem X_mono {D : Data} {l : List Oper} {m m' : Nat} (hl : m' ≤ l.length) (h : Skel l m m' D) : ∀ (i j : Nat), m ≤ i → i ≤ j → j ≤ m' → D.X i ≤ D.X j
  | i, 0, _, hij, _ => by rw [show i = 0 by omega]; exact Nat.le_refl _
  | i, j + 1, hm, hij, hj => by
    rcases Nat.lt_or_ge j i with h1 | h1
    · rw [show i = j + 1 by omega]; exact Nat.le_refl _
    · obtain ⟨_, h2⟩ := h.step j l[j] (by omega) (by omega) (List.getElem?_eq_getElem (by omega))
      exact Nat.le_trans (X_mono hl h i j hm h1 (by omega)) h2
theorem X_apart {D : Data} {l : List Oper} {m m' : Nat} (hl : m' ≤ l.length) (h : Skel l m m' D) {i j id : Nat} (hmi : m ≤ i) (hmj : m ≤ j) (hi : i < m') (hj : j < m') (h1 : D.X i ≤ id) (h2 : id < D.X (i + 1)) (h3 : D.X j ≤ id) (h4 : id < D.X (j + 1)) : i = j := by
  rcases Nat.lt_trichotomy i j with g | g | g
  · have := X_mono hl h (i + 1) j (by omega) (by omega) (by omega); omega
  · exact g
  · have := X_mono hl h (j + 1) i (by omega) (by omega) (by omega); omega
/-- an operation that turns nothing, in whatever later order: the walk's operands are those of the text's order -/
theorem regOk_edge (h : regOk ops = true) {i : Nat} {o : Oper} (ho : ops.toList[i]? = some o) : ∀ e ∈ o.after.toList, Region.binds .any e = true → e.on < i := by
  unfold regOk at h
  have h1 := List.all_eq_true.1 h (o, i) (List.mem_zipIdx_iff_getElem?.2 ho)
  simp only [Bool.and_eq_true] at h1
  intro e he hb
  have := List.all_eq_true.1 h1.1 e he
  simpa [hb] using this
theorem regOk_pair (h : regOk ops = true) {i j : Nat} {o o' : Oper} (ho : ops.toList[i]? = some o) (ho' : ops.toList[j]? = some o') : pairOk ops (clsUpto ops.toList ops.size) i o j o' = true := by
  unfold regOk at h
  have h1 := List.all_eq_true.1 h (o, i) (List.mem_zipIdx_iff_getElem?.2 ho)
  simp only [Bool.and_eq_true] at h1
  exact List.all_eq_true.1 h1.2 (o', j) (List.mem_zipIdx_iff_getElem?.2 ho')
/-- of an operation that may go next, the other operations that write what it touches are done just if they stand ahead of it -/
theorem agree (h : regOk ops = true) {S : Nat → Bool} (hS : Closed ops.toList S) {i : Nat} {o : Oper} (ho : ops.toList[i]? = some o) (hi : S i = false) (hpre : ∀ e ∈ o.after.toList, Region.binds .any e = true → S e.on = true)
    {j t : Nat} (hj : (ops.toList[j]?).bind (·.dst) = some t) (ht : t ∈ touches ops o) (hne : j ≠ i) : S j = decide (j < i) := by
  cases ho' : ops.toList[j]? with
  | none => rw [ho'] at hj; cases hj
  | some o' =>
    rw [ho'] at hj
    have hd : o'.dst = some t := hj
    have hp := regOk_pair h ho ho'
    unfold pairOk at hp
    have hij : (i == j) = false := by simp; omega
    rw [hij, hd] at hp
    have htc : (touches ops o).contains t = true := by simpa using ht
    simp only [Bool.false_or, htc, Bool.not_true] at hp
    by_cases hlt : j < i
    · rw [if_pos hlt] at hp
      have hmem : inC (clsUpto ops.toList ops.size) i j = true := by simpa using hp
      rw [decide_eq_true hlt]
      -- S' closes over i
      have hS' : Closed ops.toList (fun x => S x || x == i) := fun k q hq hk e he hb => by
        simp only [Bool.or_eq_true, beq_iff_eq] at hk ⊢
        rcases hk with hk | hk
        · exact .inl (hS k q hq hk e he hb)
        · subst hk
          rw [ho] at hq; cases hq
          exact .inl (hpre e he hb)
      have := cls_sound hS' _ i j hmem (by simp)
      simp only [Bool.or_eq_true, beq_iff_eq] at this
      exact this.resolve_right hne
    · rw [if_neg hlt] at hp
      have hmem : inC (clsUpto ops.toList ops.size) j i = true := by simpa using hp
      rw [decide_eq_false hlt]
      cases hsj : S j with
      | false => rfl
      | true =>
        have := cls_sound hS _ j i hmem hsj
        rw [hi] at this; cases this
theorem InvD.ev {D : Data} {S : Nat → Bool} {m m' lg : Nat} {R : Env} {L : Loc} (hl : m' ≤ ops.toList.length) (hc : Skel ops.toList m m' D) (hok : regOk ops = true) (hS : Closed ops.toList S) (h : InvD G E bx lg ops.toList m m' D S a R L) {i : Nat} {o : Oper} (hmi : m ≤ i) (hmi' : i < m') (ho : ops.toList[i]? = some o) (hi : S i = false)
    (hpre : ∀ e ∈ o.after.toList, Region.binds .any e = true → S e.on = true) : ∀ t ∈ touches ops o, Rep R L (getC (D.T i) t) (a.tmps.getD t undef) := fun t ht => by
  have hlt : i < ops.toList.length := (List.getElem?_eq_some_iff.1 ho).1
  have h1 := h.tm t
  have e1 : val (D.T m) ops.toList D.c (fun j => decide (m ≤ j) && S j) ops.toList.length t = val (D.T m) ops.toList D.c (fun j => decide (m ≤ j) && S j) i t := by
    refine val_skip i _ (by omega) fun j hj hj' hd => ?_
    simp only [Bool.and_eq_false_iff]
    by_cases hne : j = i
    · rw [hne]; exact .inr hi
    · rw [agree hok hS ho hi hpre hd ht hne]; exact .inr (decide_eq_false (by omega))
  have e2 : val (D.T m) ops.toList D.c (fun j => decide (m ≤ j) && S j) i t = val (D.T m) ops.toList D.c (fun j => decide (m ≤ j)) i t := val_congr i fun j hj hd => by
    rw [agree hok hS ho hi hpre hd ht (by omega), decide_eq_true hj, Bool.and_true]
  rw [e1, e2, ← val_text hl hc t i hmi (by omega)] at h1
  exact h1
theorem InvD.freeAt {D : Data} {S : Nat → Bool} {m m' lg : Nat} {R : Env} {L : Loc} (hl : m' ≤ ops.toList.length) (hc : Skel ops.toList m m' D) (h : InvD G E bx lg ops.toList m m' D S a R L) {i : Nat} (hmi : m ≤ i) (hmi' : i < m') (hi : S i = false) : Free L (D.X i) (D.X (i + 1)) := fun id h1 h2 =>
  h.free id (Nat.le_trans (X_mono hl hc m i (Nat.le_refl _) hmi (by omega)) h1) fun j hmj hj hsj hx => by
    have := X_apart hl hc hmi hmj hmi' hj h1 h2 hx.1 hx.2
    subst this; rw [hi] at hsj; cases hsj
theorem InvD.put {D : Data} {S : Nat → Bool} {m m' lg : Nat} {R R' : Env} {L L' : Loc} (hl : m' ≤ ops.toList.length) (hc : Skel ops.toList m m' D) (hok : regOk ops = true) (hS : Closed ops.toList S) (h : InvD G E bx lg ops.toList m m' D S a R L) {i : Nat} {o : Oper} (hmi : m ≤ i) (hmi' : i < m') (ho : ops.toList[i]? = some o) (hi : S i = false)
    (hpre : ∀ e ∈ o.after.toList, Region.binds .any e = true → S e.on = true) (hd : dstOk E.N o.dst) {v : Value} (st : PStep (D.X i) (D.X (i + 1)) R L R' L') (hv : Rep R' L' (D.c i) v) :
    InvD G E bx lg ops.toList m m' D (fun x => S x || x == i) (a.put o.dst v) R' L' := by
  have hlt : i < ops.toList.length := (List.getElem?_eq_some_iff.1 ho).1
  have hfree := h.freeAt hl hc hmi hmi' hi
  have hxm := X_mono hl hc (i + 1) m' (by omega) (by omega) (Nat.le_refl _)
  refine ⟨?_, fun id h1 h2 => ?_, ?_, ?_, fun t => ?_⟩
  · refine h.good.move (st.near _ _).nigh (h.good.fit.step hfree st) ⟨[], by rw [st.box, List.append_nil], fun b hb => by cases hb⟩ (fun id e k v b ht hv => ?_) fun id hid => ?_
    · rcases st.cases ht with g | ⟨g1, g2⟩
      · exact .inl ⟨id, e, k, v, g, hv⟩
      · exact .inr ((st.new id e k v g1 g2 ht).block hv).1
    · rw [st.old id (.inr (by omega))]; exact h.good.free id hid
  · have hni := h2 i hmi hmi' (by simp)
    rw [st.old id (by omega)]
    exact h.free id h1 fun j hmj hj hsj => h2 j hmj hj (by simp [hsj])
  · cases hdst : o.dst <;> simpa [Act.put] using h.size
  · have hdf := h.df.near (st.near _ _)
    cases hdst : o.dst <;> exact hdf
  · have hold : ∀ t, Rep R' L' (val (D.T m) ops.toList D.c (fun j => decide (m ≤ j) && S j) ops.toList.length t) (a.tmps.getD t undef) := fun t => Rep.ext st.ext (st.le hfree) _ _ (h.tm t)
    by_cases hdt : o.dst = some t
    · have hlt2 : t < a.tmps.size := by rw [hdt] at hd; rw [h.size]; exact hd
      have e1 : val (D.T m) ops.toList D.c (fun j => decide (m ≤ j) && (S j || j == i)) ops.toList.length t = D.c i := by
        rw [val_skip (i + 1) _ (by omega) fun j hj hj' hdj => ?_]
        · simp [val, ho, hdt, hmi]
        · have hag := agree hok hS ho hi hpre hdj (by simp [touches, hdt]) (by omega)
          simp only [Bool.and_eq_false_iff, Bool.or_eq_false_iff]
          exact .inr ⟨by rw [hag]; exact decide_eq_false (by omega), by simp; omega⟩
      rw [e1, hdt]
      have : (a.put (some t) v).tmps.getD t undef = v := by simp [Act.put, Array.getD_eq_getD_getElem?, hlt2]
      rw [this]; exact hv
    · have e1 : val (D.T m) ops.toList D.c (fun j => decide (m ≤ j) && (S j || j == i)) ops.toList.length t = val (D.T m) ops.toList D.c (fun j => decide (m ≤ j) && S j) ops.toList.length t := val_congr _ fun j hj hdj => by
        have hji : j ≠ i := fun e => by
          subst e; rw [ho] at hdj; exact hdt hdj
        have hj2 : (j == i) = false := by simpa using hji
        show (decide (m ≤ j) && (S j || j == i)) = (decide (m ≤ j) && S j)
        rw [hj2, Bool.or_false]
      rw [e1]
      have e2 : (a.put o.dst v).tmps.getD t undef = a.tmps.getD t undef := by
        cases hdst : o.dst with
        | none => rfl
        | some d =>
          have hne : d ≠ t := fun e => hdt (by rw [hdst, e])
          simp [Act.put, Array.getD_eq_getD_getElem?, Array.getElem?_setIfInBounds_ne hne]
      rw [e2]; exact hold t
/-- the flags: an operation that stands behind all ahead of it, and ahead of all behind it -/
def barrOk (ops : Array Oper) (br : List Bool) : Bool :=
  let cl := clsUpto ops.toList ops.size
  (List.range ops.size).all fun i => !(br.getD i false) || (List.range ops.size).all fun j => j == i || if j < i then inC cl i j else inC cl j i
theorem barrOk_ahead {br : List Bool} (h : barrOk ops br = true) {i j : Nat} (hi : i < ops.size) (hb : br.getD i false = true) (hji : j < i) : inC (clsUpto ops.toList ops.size) i j = true := by
  unfold barrOk at h
  have h1 := List.all_eq_true.1 h i (by simpa using hi)
  rw [hb] at h1
  simp only [Bool.not_true, Bool.false_or] at h1
  have h2 := List.all_eq_true.1 h1 j (by simp; omega)
  rw [if_pos hji] at h2
  have : (j == i) = false := by simp; omega
  rw [this] at h2
  simpa using h2
theorem barrOk_behind {br : List Bool} (h : barrOk ops br = true) {i j : Nat} (hi : i < ops.size) (hj : j < ops.size) (hb : br.getD i false = true) (hji : i < j) : inC (clsUpto ops.toList ops.size) j i = true := by
  unfold barrOk at h
  have h1 := List.all_eq_true.1 h i (by simpa using hi)
  rw [hb] at h1
  simp only [Bool.not_true, Bool.false_or] at h1
  have h2 := List.all_eq_true.1 h1 j (by simpa using hj)
  rw [if_neg (by omega)] at h2
  have : (j == i) = false := by simp; omega
  rw [this] at h2
  simpa using h2
end
end Go.Proofs.Ytheokoehnmlafaa.Vcg
