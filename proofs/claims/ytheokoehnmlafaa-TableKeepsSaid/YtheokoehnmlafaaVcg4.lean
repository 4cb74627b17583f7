/- Operations that turn nothing, more: arithmetic, texts, fields, indexes, slices. No condition. -/
import Derived.Test.YtheokoehnmlafaaVcg3
import Derived.Laws.StructEq
import Derived.Laws.Cover3
set_option linter.unusedVariables false
set_option linter.unusedSimpArgs false
namespace Go.Proofs.Ytheokoehnmlafaa.Vcg
open Go.RowKit
section
variable {P : Program} {G : Globs} {bx : List (List C)} {ev : Operand → C} {nx : Nat} {o : Oper}
/-- binary operations -/
def aInt (op : BinOp) (k : IntKind) (a b : Int) (K : C → Prop) : Prop :=
  match op with
  | .add => inR k (a + b) ∧ K (.sc (.int k (a + b)))
  | .sub => inR k (a - b) ∧ K (.sc (.int k (a - b)))
  | .mul => inR k (a * b) ∧ K (.sc (.int k (a * b)))
  | .quo => 0 ≤ a ∧ 0 < b ∧ inR k a ∧ K (.sc (.int k (a / b)))
  | .rem => 0 ≤ a ∧ 0 < b ∧ K (.sc (.int k (a % b)))
  | .shr => b = 1 ∧ K (.sc (.int k (a / 2)))
  | .eql => K (.sc (.bool (decide (a = b))))
  | .neq => K (.sc (.bool (!decide (a = b))))
  | .lss => K (.sc (.bool (decide (a < b))))
  | .leq => K (.sc (.bool (decide (a ≤ b))))
  | .gtr => K (.sc (.bool (decide (b < a))))
  | .geq => K (.sc (.bool (decide (b ≤ a))))
  | _ => False
def aStr (op : BinOp) (a b : List UInt8) (K : C → Prop) : Prop :=
  match op with
  | .add => ((a.length + b.length : Nat) : Int) ≤ 9223372036854775807 ∧ K (.str (a ++ b))
  | .eql => K (.sc (.bool (decide (a = b))))
  | .neq => K (.sc (.bool (!decide (a = b))))
  | .lss => K (.sc (.bool (Op.bytesLess a b)))
  | .geq => K (.sc (.bool (!Op.bytesLess a b)))
  | .leq => K (.sc (.bool (Op.bytesLess a b || decide (a = b))))
  | .gtr => K (.sc (.bool (!(Op.bytesLess a b || decide (a = b)))))
  | _ => False
def aBool (op : BinOp) (a b : Bool) (K : C → Prop) : Prop :=
  match op with
  | .eql => K (.sc (.bool (a == b)))
  | .neq => K (.sc (.bool (!(a == b))))
  | _ => False
/-- '==' and '!=' of structs, part by part -/
def aEq (n : Bool) : List LK → List C → List C → Bool → (C → Prop) → Prop
  | [], [], [], e, K => K (.sc (.bool (if n then !e else e)))
  | .int k :: ks, .sc (.int k1 a) :: r, .sc (.int k2 b) :: s, e, K => k1 = k ∧ k2 = k ∧ aEq n ks r s (e && decide (a = b)) K
  | .bool :: ks, .sc (.bool a) :: r, .sc (.bool b) :: s, e, K => aEq n ks r s (e && (a == b)) K
  | .str :: ks, .str a :: r, .str b :: s, e, K => aEq n ks r s (e && decide (a = b)) K
  | _, _, _, _, _ => False
def aEq0 (op : BinOp) (ks : Option (List LK)) (as bs : List C) (K : C → Prop) : Prop :=
  match op, ks with
  | .eql, some ks => aEq false ks as bs true K
  | .neq, some ks => aEq true ks as bs true K
  | _, _ => False
/-- a slice, compared with nil -/
def aNil1 (op : BinOp) (b : Bool) (K : C → Prop) : Prop :=
  match op with
  | .eql => K (.sc (.bool b))
  | .neq => K (.sc (.bool (!b)))
  | _ => False
def aNilL (l : Option Lay) (op : BinOp) (x : C) (K : C → Prop) : Prop :=
  match l with
  | some ⟨.slice _, _, _, _⟩ => match x with
    | .sl _ rows => rows ≠ [] ∧ aNil1 op false K
    | .tight _ rows => rows ≠ [] ∧ aNil1 op false K
    | .own _ _ _ rows => rows ≠ [] ∧ aNil1 op false K
    | .bs _ _ _ _ _ => aNil1 op false K
    | .sc (.slice a _ _) => aNil1 op a.isNone K
    | _ => False
  | _ => False
def aBin (P : Program) (t : TypeId) (op : BinOp) (x y : C) (K : C → Prop) : Prop :=
  match x, y with
  | .sc (.int k a), .sc (.int k' b) => k = k' ∧ aInt op k a b K
  | .str a, .str b => aStr op a b K
  | .sc (.bool a), .sc (.bool b) => match lay P t with | some ⟨.bool, _, _, _⟩ => aBool op a b K | _ => False
  | .agg as, .agg bs => aEq0 op (keyL P t) as bs K
  | c, .sc (.slice none 0 0) => aNilL (lay P t) op c K
  | _, _ => False
theorem keyFs_cons {P : Program} {j : Nat} {f : Field} {fs : List Field} {ks : List LK} (h : keyFs P j (f :: fs) = some ks) :
    f.name ≠ "_" ∧ f.offset = j ∧ ∃ ks', keyFs P (j + 1) fs = some ks' ∧ ((P.underlying f.type = some .bool ∧ ks = .bool :: ks') ∨ (∃ k, P.underlying f.type = some (.int k) ∧ ks = .int k :: ks') ∨ (P.underlying f.type = some .string ∧ ks = .str :: ks')) := by
  unfold keyFs at h
  split at h
  · rename_i hc
    simp only [Bool.and_eq_true, bne_iff_ne, ne_eq, beq_iff_eq] at hc
    refine ⟨hc.1, hc.2, ?_⟩
    split at h
    · rename_i hu
      obtain ⟨ks', h1, rfl⟩ := Option.map_eq_some_iff.1 h
      exact ⟨ks', h1, .inl ⟨hu, rfl⟩⟩
    · rename_i k hu
      obtain ⟨ks', h1, rfl⟩ := Option.map_eq_some_iff.1 h
      exact ⟨ks', h1, .inr (.inl ⟨k, hu, rfl⟩)⟩
    · rename_i hu
      obtain ⟨ks', h1, rfl⟩ := Option.map_eq_some_iff.1 h
      exact ⟨ks', h1, .inr (.inr ⟨hu, rfl⟩)⟩
    · cases h
  · cases h
theorem run_part_cell {P : Program} {w : World} {t : TypeId} {d : TypeDesc} (hu : P.underlying t = some d) (hd : aggB P t = false) {xs : Array Value} {j : Nat} {v : Value} {r : List Value} (hx : xs.toList.drop j = v :: r) : (part t xs j).run P w = .ok v w := by
  have h1 : xs[j]? = some v := by
    have : (xs.toList.drop j)[0]? = some v := by rw [hx]; rfl
    simpa using this
  unfold part
  rw [Sem.run_bind, aggB_run hu, hd]
  simp [h1]
theorem drop_tail {xs : Array Value} {j : Nat} {v : Value} {r : List Value} (hx : xs.toList.drop j = v :: r) : xs.toList.drop (j + 1) = r := by
  rw [← List.drop_drop, hx]; rfl
/-- what a comparison of structs answers -/
def eqR : List C → List C → Bool
  | .sc (.int _ a) :: r, .sc (.int _ b) :: s => decide (a = b) && eqR r s
  | .sc (.bool a) :: r, .sc (.bool b) :: s => (a == b) && eqR r s
  | .str a :: r, .str b :: s => decide (a = b) && eqR r s
  | _, _ => true
def eqFit : List LK → List C → List C → Prop
  | [], [], [] => True
  | .int k :: ks, .sc (.int k1 _) :: r, .sc (.int k2 _) :: s => k1 = k ∧ k2 = k ∧ eqFit ks r s
  | .bool :: ks, .sc (.bool _) :: r, .sc (.bool _) :: s => eqFit ks r s
  | .str :: ks, .str _ :: r, .str _ :: s => eqFit ks r s
  | _, _, _ => False
theorem aEq_out {n : Bool} {K : C → Prop} (ks : List LK) (as bs : List C) (e : Bool) (h : aEq n ks as bs e K) : eqFit ks as bs ∧ K (.sc (.bool (if n then !(e && eqR as bs) else (e && eqR as bs)))) := by
  fun_induction aEq n ks as bs e K with
  | case1 e K => exact ⟨trivial, by simpa [eqR] using h⟩
  | case2 k ks k1 a r k2 b s e K ih =>
    obtain ⟨h1, h2, h3⟩ := h
    obtain ⟨g1, g2⟩ := ih h3
    exact ⟨⟨h1, h2, g1⟩, by simpa [eqR, Bool.and_assoc] using g2⟩
  | case3 ks a r b s e K ih =>
    obtain ⟨g1, g2⟩ := ih h
    exact ⟨g1, by simpa [eqR, Bool.and_assoc] using g2⟩
  | case4 ks a r b s e K ih =>
    obtain ⟨g1, g2⟩ := ih h
    exact ⟨g1, by simpa [eqR, Bool.and_assoc] using g2⟩
  | case5 => exact h.elim
/-- a struct is compared field by field -/
theorem eqR_run {P : Program} {w : World} {xs ys : Array Value} {R1 R2 : Env} {L1 L2 : Loc} : ∀ (fs : List Field) (j : Nat) (ks : List LK) (as bs : List C), keyFs P j fs = some ks → eqFit ks as bs →
    RepL R1 L1 as (xs.toList.drop j) → RepL R2 L2 bs (ys.toList.drop j) → (Op.eqFields 9999 xs ys fs).run P w = .ok (eqR as bs) w
  | [], j, ks, as, bs, hk, h, ha, hb => by
    simp only [keyFs, Option.some.injEq] at hk
    subst hk
    match as, bs, h with
    | [], [], _ => simp [Op.eqFields, eqR]
  | f :: fs, j, ks, as, bs, hk, h, ha, hb => by
    obtain ⟨hn, ho, ks', hk', hc⟩ := keyFs_cons hk
    have step : ∀ (c c' : C) (r s : List C) (v u : Value) (q : Bool), RepL R1 L1 (c :: r) (xs.toList.drop j) → RepL R2 L2 (c' :: s) (ys.toList.drop j) → (∀ v, Rep R1 L1 c v → ∀ u, Rep R2 L2 c' u → (Op.equalIn 9999 f.type v u).run P w = .ok q w) → aggB P f.type = false → (∃ d, P.underlying f.type = some d) →
        eqFit ks' r s → eqR (c :: r) (c' :: s) = (q && eqR r s) → (Op.eqFields 9999 xs ys (f :: fs)).run P w = .ok (eqR (c :: r) (c' :: s)) w := by
      intro c c' r s v u q ea eb hq hag ⟨d, hd⟩ hfit he
      obtain ⟨v, rest, e1, hv, hr⟩ := repL_cons.1 ea
      obtain ⟨u, rest', e2, hu, hs⟩ := repL_cons.1 eb
      have p1 := run_part_cell (w := w) hd hag (xs := xs) (j := f.offset) (by rw [ho]; exact e1)
      have p2 := run_part_cell (w := w) hd hag (xs := ys) (j := f.offset) (by rw [ho]; exact e2)
      have ih := eqR_run (w := w) fs (j + 1) ks' r s hk' hfit (by rw [drop_tail e1]; exact hr) (by rw [drop_tail e2]; exact hs)
      simp only [Op.eqFields, hn, ne_eq, not_false_eq_true, if_true, Sem.run_bind, p1, p2, hq v hv u hu, Result.andThen_ok, he]
      cases q
      · simp
      · simpa using ih
    rcases hc with ⟨hu, rfl⟩ | ⟨k, hu, rfl⟩ | ⟨hu, rfl⟩
    · match as, bs, h, ha, hb with
      | .sc (.bool a) :: r, .sc (.bool b) :: s, h, ha, hb =>
        exact step _ _ r s undef undef (a == b) ha hb (fun v hv u hu' => by
          rw [rep_sc] at hv hu'; subst hv hu'
          exact run_equalIn_bool' w 9998 f.type a b hu) (by unfold aggB; rw [hu]) ⟨_, hu⟩ h (by simp [eqR])
    · match as, bs, h, ha, hb with
      | .sc (.int k1 a) :: r, .sc (.int k2 b) :: s, h, ha, hb =>
        have h1 := h.1
        have h2 := h.2.1
        subst h1 h2
        exact step _ _ r s undef undef (decide (a = b)) ha hb (fun v hv u hu' => by
          rw [rep_sc] at hv hu'; subst hv hu'
          rw [run_equalIn_int w 9998 f.type _ _ a b hu]; rfl) (by unfold aggB; rw [hu]) ⟨_, hu⟩ h.2.2 (by simp [eqR])
    · match as, bs, h, ha, hb with
      | .str a :: r, .str b :: s, h, ha, hb =>
        exact step _ _ r s undef undef (decide (a = b)) ha hb (fun v hv u hu' => by
          rw [rep_str] at hv hu'; subst hv hu'
          rw [run_equalIn_string w 9998 f.type _ _ hu, ByteArray.toList_mk, ByteArray.toList_mk]
          by_cases hab : a = b <;> simp [hab]) (by unfold aggB; rw [hu]) ⟨_, hu⟩ h (by simp [eqR])
theorem ofToList (l : List UInt8) : (ByteArray.mk l.toArray).toList = l := ByteArray.toList_mk l
theorem beq_dec (a b : List UInt8) : (a == b) = decide (a = b) := by by_cases h : a = b <;> simp [h]
theorem pure_bin {op : BinOp} {t t' : TypeId} {x y : Operand} (ho : o.op = .binOp op t x y t') (K : C → Prop) (h : aBin P t op (ev x) (ev y) K) : ∃ c, PureSem P G bx ev nx o c nx ∧ K c := by
  unfold aBin at h
  split at h
  · rename_i k a k' b hx hy
    obtain ⟨rfl, h⟩ := h
    have key : ∀ (v : Value), K (.sc v) → (∀ w : World, (do eqGuard op t x y (.int k a) (.int k b); binOp op t (.int k a) (.int k b) : Sem Value).run P w = .ok v w) → ∃ c, PureSem P G bx ev nx o c nx ∧ K c := fun v hK hrun =>
      ⟨_, .of_same fun B R L ρ hf hr => ⟨v, by
        have h1 := hr x; rw [hx, rep_sc] at h1
        have h2 := hr y; rw [hy, rep_sc] at h2
        unfold execOp
        simp only [ho, h1, h2]
        rw [Sem.run_bind, hrun R.w]; rfl, rep_sc.2 rfl⟩, hK⟩
    unfold aInt at h
    split at h
    · exact key _ h.2 fun w => by simp [eqGuard, binOp, Op.intArith, wrap_inR h.1]
    · exact key _ h.2 fun w => by simp [eqGuard, binOp, Op.intArith, wrap_inR h.1]
    · exact key _ h.2 fun w => by simp [eqGuard, binOp, Op.intArith, wrap_inR h.1]
    · obtain ⟨h0, h1, h2, hK⟩ := h
      have hq : inR k (a / b) := by
        unfold inR at h2 ⊢
        have e1 : a / b ≤ a := Int.ediv_le_self b h0
        have e2 : 0 ≤ a / b := Int.ediv_nonneg h0 (by omega)
        have e3 : k.min ≤ 0 := by cases k <;> simp [IntKind.min, IntKind.bits, IntKind.signed]
        omega
      exact key _ hK fun w => by simp [eqGuard, binOp, Op.intDiv, show b ≠ 0 by omega, Int.tdiv_eq_ediv_of_nonneg h0, wrap_inR hq]
    · obtain ⟨h0, h1, hK⟩ := h
      exact key _ hK fun w => by simp [eqGuard, binOp, Op.intDiv, show b ≠ 0 by omega, Int.tmod_eq_emod_of_nonneg h0]
    · obtain ⟨rfl, hK⟩ := h
      have hs : Op.shift .shr k a k 1 = pure (.int k (a / 2)) := shift_shr k k a 1 (by decide) (by cases k <;> decide)
      exact key _ hK fun w => by simp [eqGuard, binOp, hs]
    · exact key _ h fun w => by
        simp only [eqGuard, binOp, Op.intCmp]
        simp [show (a == b) = decide (a = b) from rfl]
    · exact key _ h fun w => by
        simp only [eqGuard, binOp, Op.intCmp]
        simp [bne, show (a == b) = decide (a = b) from rfl]
    · exact key _ h fun w => by simp [eqGuard, binOp, Op.intCmp]
    · exact key _ h fun w => by simp [eqGuard, binOp, Op.intCmp]
    · exact key _ h fun w => by simp [eqGuard, binOp, Op.intCmp]
    · exact key _ h fun w => by simp [eqGuard, binOp, Op.intCmp]
    · exact h.elim
  · rename_i a b hx hy
    have key : ∀ (c : C) (v : Value), K c → (∀ (R : Env) (L : Loc), Rep R L c v) → (∀ w : World, (do eqGuard op t x y (.string ⟨a.toArray⟩) (.string ⟨b.toArray⟩); binOp op t (.string ⟨a.toArray⟩) (.string ⟨b.toArray⟩) : Sem Value).run P w = .ok v w) → ∃ c, PureSem P G bx ev nx o c nx ∧ K c := fun c v hK hv hrun =>
      ⟨_, .of_same fun B R L ρ hf hr => ⟨v, by
        have h1 := hr x; rw [hx, rep_str] at h1
        have h2 := hr y; rw [hy, rep_str] at h2
        unfold execOp
        simp only [ho, h1, h2]
        rw [Sem.run_bind, hrun R.w]; rfl, hv R L⟩, hK⟩
    have sb : ∀ t, ∀ (R : Env) (L : Loc), Rep R L (.sc (.bool t)) (.bool t) := fun t R L => rep_sc.2 rfl
    unfold aStr at h
    split at h
    · refine key _ (.string (⟨a.toArray⟩ ++ ⟨b.toArray⟩)) h.2 (fun R L => rep_str.2 (by rw [ByteArray.mk_append_mk])) fun w => ?_
      have h1 := h.1
      have hs : ¬ (((ByteArray.mk a.toArray).size + (ByteArray.mk b.toArray).size : Nat) : Int) > IntKind.i64.max := by
        rw [show IntKind.i64.max = 9223372036854775807 from rfl]
        have e1 : (ByteArray.mk a.toArray).size = a.length := by simp [ByteArray.size]
        have e2 : (ByteArray.mk b.toArray).size = b.length := by simp [ByteArray.size]
        rw [e1, e2]; omega
      simp only [eqGuard, binOp, Op.stringOp, if_neg hs]
      simp
    · exact key _ _ h (sb _) fun w => by simp [eqGuard, binOp, Op.stringOp, beq_dec]
    · exact key _ _ h (sb _) fun w => by simp [eqGuard, binOp, Op.stringOp, beq_dec]
    · exact key _ _ h (sb _) fun w => by simp [eqGuard, binOp, Op.stringOp]
    · exact key _ _ h (sb _) fun w => by simp [eqGuard, binOp, Op.stringOp]
    · exact key _ _ h (sb _) fun w => by simp [eqGuard, binOp, Op.stringOp, beq_dec]
    · exact key _ _ h (sb _) fun w => by simp [eqGuard, binOp, Op.stringOp, beq_dec]
    · exact h.elim
  · rename_i a b hx hy
    split at h <;> try exact h.elim
    rename_i hlb
    have hu := lay_bool hlb rfl
    have key : ∀ (v : Value), K (.sc v) → (∀ w : World, (do eqGuard op t x y (.bool a) (.bool b); binOp op t (.bool a) (.bool b) : Sem Value).run P w = .ok v w) → ∃ c, PureSem P G bx ev nx o c nx ∧ K c := fun v hK hrun =>
      ⟨_, .of_same fun B R L ρ hf hr => ⟨v, by
        have h1 := hr x; rw [hx, rep_sc] at h1
        have h2 := hr y; rw [hy, rep_sc] at h2
        unfold execOp
        simp only [ho, h1, h2]
        rw [Sem.run_bind, hrun R.w]; rfl, rep_sc.2 rfl⟩, hK⟩
    have he : ∀ w, (Op.equal t (.bool a) (.bool b)).run P w = .ok (a == b) w := fun w => by
      show (Op.equalIn (9999 + 1) t (.bool a) (.bool b)).run P w = _
      rw [Op.equalIn, Sem.run_bind, run_underlying hu]
      rfl
    unfold aBool at h
    split at h
    · exact key _ h fun w => by simp [eqGuard, binOp, he w]
    · exact key _ h fun w => by simp [eqGuard, binOp, he w]
    · exact h.elim
  · rename_i as bs hx hy
    have main : ∀ (n : Bool) (ks : List LK), keyL P t = some ks → aEq n ks as bs true K → op = (if n then .neq else .eql) → ∃ c, PureSem P G bx ev nx o c nx ∧ K c := fun n ks hk h hop => by
      have hkl := hk
      unfold keyL at hk
      split at hk
      · rename_i fs hu
        split at hk
        · cases hk
        · rename_i hno
          simp only [Bool.or_eq_true, not_or, Bool.not_eq_true] at hno
          have hfo : P.fieldsOf t = fs := by simp [Program.fieldsOf, hu]
          obtain ⟨hfit, hK⟩ := aEq_out ks as bs true h
          refine ⟨_, .of_same fun B R L ρ hf hr => ?_, hK⟩
          have h1 := hr x; rw [hx, rep_agg] at h1
          have h2 := hr y; rw [hy, rep_agg] at h2
          obtain ⟨xs, e1, q1⟩ := h1
          obtain ⟨ys, e2, q2⟩ := h2
          refine ⟨.bool (if n then !(true && eqR as bs) else (true && eqR as bs)), ?_, rep_sc.2 rfl⟩
          have he : (Op.equal t (.agg xs) (.agg ys)).run P R.w = .ok (eqR as bs) R.w := by
            show (Op.equalIn (9999 + 1) t (.agg xs) (.agg ys)).run P R.w = _
            rw [run_equalIn_struct R.w 9999 t xs ys (by rw [hfo]; exact hu) hno.1, hfo]
            exact eqR_run fs.toList 0 ks as bs hk hfit q1 q2
          have hg : (eqGuard op t x y (.agg xs) (.agg ys)).run P R.w = .ok () R.w := by
            unfold eqGuard
            cases n <;> simp [hop, hno.2, run_program]
          unfold execOp
          simp only [ho, e1, e2]
          rw [Sem.run_bind, Sem.run_bind, hg]
          cases n <;> simp [hop, binOp, he]
      · cases hk
    unfold aEq0 at h
    split at h
    · rename_i ks hk
      exact main false ks hk h rfl
    · rename_i ks hk
      exact main true ks hk h rfl
    · exact h.elim
  · rename_i hy
    unfold aNilL at h
    split at h
    · rename_i el k b z hl
      have ht := lay_slice hl rfl
      have key : ∀ (b : Bool), aNil1 op b K → (∀ (B : Nat → Prop) (R : Env) (L : Loc) (v : Value), Fit G B bx R L → Rep R L (ev x) v → ∃ a l c, v = .slice a l c ∧ a.isNone = b) → ∃ c, PureSem P G bx ev nx o c nx ∧ K c := fun b hK hv => by
        have run : ∀ (n : Bool), op = (if n then .neq else .eql) → ∃ c, PureSem P G bx ev nx o c nx ∧ c = .sc (.bool (if n then !b else b)) := fun n hop =>
          ⟨_, .of_same fun B R L ρ hf hr => ⟨.bool (if n then !b else b), by
            have h1 := hr x
            have h2 := hr y; rw [hy, rep_sc] at h2
            obtain ⟨a, l, c, e, he⟩ := hv B R L _ hf h1
            unfold execOp
            simp only [ho, e, h2]
            subst he
            cases n <;> simp [hop, eqGuard, binOp, run_equal_slice_nil R.w t el a l c ht], rep_sc.2 rfl⟩, rfl⟩
        unfold aNil1 at hK
        split at hK
        · obtain ⟨c, h1, rfl⟩ := run false rfl; exact ⟨_, h1, hK⟩
        · obtain ⟨c, h1, rfl⟩ := run true rfl; exact ⟨_, h1, hK⟩
        · exact hK.elim
      have rows : ∀ (k : Nat) (rs : List (List C)), (ev x).rows? k = some rs → rs ≠ [] → aNil1 op false K → ∃ c, PureSem P G bx ev nx o c nx ∧ K c := fun k rs hr hne hK =>
        key false hK fun B R L v hf hv => by
          obtain ⟨a, cap, e, h1, h2, h3⟩ := hv.rows hr
          rcases h3 with h3 | ⟨b, o, e2, _⟩
          · exact absurd h3 hne
          · exact ⟨a, _, cap, e, by rw [e2]; rfl⟩
      split at h
      · rename_i k rs hx; exact rows k rs (by rw [hx]; simp [C.rows?]) h.1 h.2
      · rename_i k rs hx; exact rows k rs (by rw [hx]; simp [C.rows?]) h.1 h.2
      · rename_i k rs hx; exact rows k rs (by rw [hx]; simp [C.rows?]) h.1 h.2
      · rename_i hx
        exact key false h fun B R L v hf hv => by
          rw [hx] at hv
          unfold Rep at hv
          obtain ⟨b, _, ad, e, _⟩ := hv
          exact ⟨_, _, _, e, rfl⟩
      · rename_i hx
        exact key _ h fun B R L v hf hv => by
          rw [hx, rep_sc] at hv
          exact ⟨_, _, _, hv, rfl⟩
      · exact h.elim
    · exact h.elim
  · exact h.elim
/-- unary operations -/
def aUn (op : UnOp) (x : C) (K : C → Prop) : Prop :=
  match op, x with
  | .not, .sc (.bool b) => K (.sc (.bool (!b)))
  | .neg, .sc (.int k n) => inR k (0 - n) ∧ K (.sc (.int k (0 - n)))
  | _, _ => False
theorem pure_un {op : UnOp} {t : TypeId} {x : Operand} (ho : o.op = .unOp op t x) (K : C → Prop) (h : aUn op (ev x) K) : ∃ c, PureSem P G bx ev nx o c nx ∧ K c := by
  unfold aUn at h
  split at h
  · rename_i b hx
    exact ⟨_, .of_same fun B R L ρ hf hr => ⟨.bool (!b), by
      have h1 := hr x; rw [hx, rep_sc] at h1
      unfold execOp
      simp [ho, h1, Op.unary], rep_sc.2 rfl⟩, h⟩
  · rename_i k n hx
    exact ⟨_, .of_same fun B R L ρ hf hr => ⟨.int k (0 - n), by
      have h1 := hr x; rw [hx, rep_sc] at h1
      have := wrap_inR h.1
      unfold execOp
      simp only [ho, h1, Op.unary, Op.intArith, this, Sem.run_bind, Sem.run_pure, Result.andThen_ok], rep_sc.2 rfl⟩, h.2⟩
  · exact h.elim
/-- a tuple's part; a function value; a nil check -/
def aExtract (c : C) (i : Nat) (K : C → Prop) : Prop :=
  match c with
  | .tup cs => match cs[i]? with
    | some c => K c
    | none => False
  | _ => False
theorem pure_extract {t : Operand} {i : Nat} (ho : o.op = .extract t i) (K : C → Prop) (h : aExtract (ev t) i K) : ∃ c, PureSem P G bx ev nx o c nx ∧ K c := by
  unfold aExtract at h
  split at h
  · rename_i cs hev
    split at h
    · rename_i c hc
      exact ⟨c, .of_same fun B R L ρ hf hr => by
        have h1 := hr t; rw [hev, rep_tup] at h1
        obtain ⟨vs, e, hl⟩ := h1
        obtain ⟨v, hv, hrep⟩ := repL_get hl i c hc
        refine ⟨v, ?_, hrep⟩
        have hv' : vs[i]? = some v := by simpa using hv
        unfold execOp
        simp [ho, e, Instr.extract, hv'], h⟩
    · exact h.elim
  · exact h.elim
theorem repL_map {R : Env} {L : Loc} {ρ : Operand → Value} (hr : ∀ x, Rep R L (ev x) (ρ x)) : ∀ l : List Operand, RepL R L (l.map ev) (l.map ρ)
  | [] => repL_nil.2 rfl
  | x :: r => repL_cons.2 ⟨_, _, rfl, hr x, repL_map hr r⟩
theorem pure_func {fn : Fn} {first captured : Array Operand} (ho : o.op = .makeFunc fn first captured) : PureSem P G bx ev nx o (.clo fn (first.toList.map ev) (captured.toList.map ev)) nx :=
  .of_same fun B R L ρ hf hr => ⟨.func fn (first.map ρ) (captured.map ρ), by
    unfold execOp
    simp [ho, Instr.makeFunc], rep_clo.2 ⟨_, _, rfl, by rw [Array.toList_map]; exact repL_map hr _, by rw [Array.toList_map]; exact repL_map hr _⟩⟩
def aNil (c : C) (K : C → Prop) : Prop :=
  match c with
  | .ptr i off => K (.ptr i off)
  | .row cs => K (.row cs)
  | .clo (.func f) first cap => K (.clo (.func f) first cap)
  | .sc (.func (.yield l) fs cs) => K (.sc (.func (.yield l) fs cs))
  | _ => False
theorem pure_nil {x : Operand} (ho : o.op = .nilCheck x) (K : C → Prop) (h : aNil (ev x) K) : ∃ c, PureSem P G bx ev nx o c nx ∧ K c := by
  unfold aNil at h
  split at h
  · rename_i i off hev
    exact ⟨_, .of_same fun B R L ρ hf hr => by
      have h1 := hr x; rw [hev] at h1
      have h2 := rep_ptr.1 h1
      obtain ⟨b, _, e⟩ := h2
      exact ⟨ρ x, by unfold execOp; simp [ho, e], h1⟩, h⟩
  · rename_i cs hev
    exact ⟨_, .of_same fun B R L ρ hf hr => by
      have h1 := hr x; rw [hev] at h1
      have h2 := rep_row.1 h1
      obtain ⟨b, _, e, _⟩ := h2
      exact ⟨ρ x, by unfold execOp; simp [ho, e], h1⟩, h⟩
  · rename_i f first cap hev
    exact ⟨_, .of_same fun B R L ρ hf hr => by
      have h1 := hr x; rw [hev] at h1
      have h2 := rep_clo.1 h1
      obtain ⟨fs, cs, e, _⟩ := h2
      exact ⟨ρ x, by unfold execOp; simp [ho, e], h1⟩, h⟩
  · rename_i f fs cs hev
    exact ⟨_, .of_same fun B R L ρ hf hr => by
      have h1 := hr x; rw [hev] at h1
      have h2 := rep_sc.1 h1
      exact ⟨ρ x, by unfold execOp; simp [ho, h2], h1⟩, h⟩
  · exact h.elim
/-- fields -/
def aField (P : Program) (t : TypeId) (c : C) (f : Nat) (K : C → Prop) : Prop :=
  match lay P t with
  | some ⟨.struct fs, _, _, _⟩ => match fs[f]?, c with
    | some (off, size, agg), .agg cs =>
      if agg then off + size ≤ cs.length ∧ K (.agg ((cs.drop off).take size)) else match cs[off]? with
        | some c => K c
        | none => False
    | _, _ => False
  | _ => False
theorem field_at {fields : Array Field} {fs : List (Nat × Nat × Bool)} (h : fs = fields.toList.map fun f => (f.offset, ((P.info? f.type).map (·.size)).getD 0, aggB P f.type)) {f : Nat} {off size : Nat} {agg : Bool} (hf : fs[f]? = some (off, size, agg)) :
    ∃ fd, fields[f]? = some fd ∧ fd.offset = off ∧ ((P.info? fd.type).map (·.size)).getD 0 = size ∧ aggB P fd.type = agg := by
  subst h
  rw [List.getElem?_map] at hf
  cases hq : fields.toList[f]? with
  | none => rw [hq] at hf; cases hf
  | some fd =>
    rw [hq] at hf
    cases hf
    exact ⟨fd, by simpa using hq, rfl, rfl, rfl⟩
theorem info_of_size {t : TypeId} {size : Nat} (h : ((P.info? t).map (·.size)).getD 0 = size) (h0 : size ≠ 0) : ∃ i, P.info? t = some i ∧ i.size = size := by
  cases hq : P.info? t with
  | none => simp [hq] at h; omega
  | some i => exact ⟨i, rfl, by simpa [hq] using h⟩
theorem pure_field {t : TypeId} {x : Operand} {f : Nat} (ho : o.op = .field t x f) (K : C → Prop) (h : aField P t (ev x) f K) : ∃ c, PureSem P G bx ev nx o c nx ∧ K c := by
  unfold aField at h
  split at h
  · rename_i fs s b z hl
    obtain ⟨fields, hfu, hall, hfs⟩ := lay_struct hl rfl
    split at h
    · rename_i off size agg cs hfi hev
      obtain ⟨fd, hfd, h1, h2, h3⟩ := field_at hfs hfi
      obtain ⟨d, hd⟩ := Option.isSome_iff_exists.mp (hall fd (Array.mem_toList_iff.2 (Array.mem_of_getElem? hfd)))
      cases agg with
      | true =>
        simp only [if_true] at h
        refine ⟨_, .of_same fun B R L ρ hf hr => ?_, h.2⟩
        have hx := hr x; rw [hev, rep_agg] at hx
        obtain ⟨vs, e, hrl⟩ := hx
        have hi : ∃ i, P.info? fd.type = some i ∧ i.size = size := by
          cases hq : P.info? fd.type with
          | none => unfold Program.underlying at hd; simp [hq] at hd
          | some i => exact ⟨i, rfl, by simpa [hq] using h2⟩
        obtain ⟨i, hi1, hi2⟩ := hi
        refine ⟨.agg (vs.extract off (off + size)), ?_, rep_agg.2 ⟨_, rfl, ?_⟩⟩
        · have hag := aggB_run hd R.w
          rw [h3] at hag
          unfold execOp
          simp [ho, e, Instr.field, run_underlying hfu, hfd, part, asAgg, h1, hag, sizeOf, typeInfo, hi1, hi2]
        · rw [Array.toList_extract]
          have := repL_take size (repL_drop off hrl)
          rw [List.extract_eq_take_drop, show off + size - off = size by omega]
          exact this
      | false =>
        simp only [Bool.false_eq_true, if_false] at h
        split at h
        · rename_i c hc
          refine ⟨c, .of_same fun B R L ρ hf hr => ?_, h⟩
          have hx := hr x; rw [hev, rep_agg] at hx
          obtain ⟨vs, e, hrl⟩ := hx
          obtain ⟨v, hv, hrep⟩ := repL_get hrl off c hc
          have hv' : vs[off]? = some v := by simpa using hv
          have hag := aggB_run hd R.w
          rw [h3] at hag
          refine ⟨v, ?_, hrep⟩
          unfold execOp
          simp [ho, e, Instr.field, run_underlying hfu, hfd, part, asAgg, h1, hag, hv']
        · exact h.elim
    · exact h.elim
  · exact h.elim
end
end Go.Proofs.Ytheokoehnmlafaa.Vcg
