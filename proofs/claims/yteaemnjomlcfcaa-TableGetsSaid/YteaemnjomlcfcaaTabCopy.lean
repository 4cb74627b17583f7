/- copy, clear and append of records of k cells in a row that is known whole. No condition beyond what each says. -/
import Derived.Laws.CopyOwn
import Derived.Laws.OwnMore
import Derived.Lib.AppendZerosOnto
import Derived.Lib.Overlaps
import Derived.Laws.Externs
import Derived.Lib.SliceRun
import Derived.Deep.RegionLaw
set_option linter.unusedVariables false
namespace Go.Proofs.Yteaemnjomlcfcaa.Tab
open Go.RowKit
section
variable {P : Program}
theorem run_copy_rowK (w : World) (dT sT ty elem : TypeId) (k g o dLen dCap : Nat) (a : Addr) (sLen sCap : Nat) (cur : Array Value) (t : TypeId) (cs : List Value)
    (hu : P.underlying dT = some (.slice elem)) (hs : (P.info? elem).map (·.size) = some k)
    (hg : w.heap[g]? = some (.cells cur t (0, 0))) (hn : cs.length = Nat.min sLen dLen * k)
    (hsrc : ∀ j v, cs[j]? = some v → w.cell? (a.add j) = some v) (hfit : o + cs.length ≤ cur.size) (h1 : ∀ v ∈ cs, v.oneCell' = true) :
    (Builtin.copy_ #[dT, sT] ty #[.slice (some ⟨g, o, none⟩) dLen dCap, .slice (some a) sLen sCap]).run P w =
      .ok (goInt (Nat.min sLen dLen)) (w.setRow g (splice cur.toList o cs).toArray) := by
  have hl := run_loadCells_list (P := P) w a cs hsrc
  have hst := run_storeCells_at P g o t cs 0 cur w hg (by simpa using hfit) h1
  cases hq : P.info? elem with
  | none => simp [hq] at hs
  | some i =>
    have hi : i.size = k := by simpa [hq] using hs
    simp [Builtin.copy_, run_underlying hu, Builtin.lenOf, Builtin.firstCells, sizeOf, typeInfo, hq, hi, ← hn, hl, hst, splice]
theorem run_clear_rowK (w : World) (t e ty : TypeId) (z : Value) (ht : P.underlying t = some (.slice e)) (hv : ∀ w, (zeroValue e).run P w = .ok z w) (cur : Array Value) (et : TypeId) (g o n c : Nat) (hn : 0 < n)
    (hg : w.heap[g]? = some (.cells cur et (0, 0))) (hfit : o + n * z.cells.size ≤ cur.size) (h1 : ∀ v ∈ (Builtin.zeroCells z.cells n).toList, v.oneCell' = true) :
    (Builtin.clear_ #[t] ty #[.slice (some ⟨g, o, none⟩) n c]).run P w = .ok (.tuple #[]) (w.setRow g (splice cur.toList o (Builtin.zeroCells z.cells n).toList).toArray) := by
  have hst := run_storeCells_at P g o et (Builtin.zeroCells z.cells n).toList 0 cur w hg (by rw [Array.length_toList, size_zeroCells]; simpa using hfit) h1
  obtain ⟨m, rfl⟩ : ∃ m, n = m + 1 := ⟨n - 1, by omega⟩
  simp [Builtin.clear_, run_underlying ht, hv, hst, splice]
end
section
variable {P : Program}
/-- the operation copy, its run being known -/
theorem wp_copy_known (w : World) {o : Oper} {a : Act} {K : Act → World → Prop} {Q : Exit → Act → World → Prop} (d s : Operand) (t t' : TypeId)
    (ho : o.op = .call { callee := .builtin .copy, args := #[d, s], argTypes := #[t, t'] }) (v u : Value) (hd : a.eval d = v) (hs : a.eval s = u) {v' : Value} {w' : World}
    (hr : (Builtin.copy_ #[t, t'] o.type #[v, u]).run P w = .ok v' w') (h : K (a.put o.dst v') w') : o.wp P a w K Q := by
  unfold Oper.wp execOp
  simp only [ho, resolve, invoke, builtin, Sem.run_bind, Sem.run_pure, Result.andThen_ok, List.map_toArray, List.map_cons, List.map_nil, hd, hs, hr]
  exact h
theorem wpList_copy_known (w : World) {ops : Array Oper} {rest : List Oper} {o : Oper} {a : Act} {Q : Exit → Act → World → Prop} (hgd : o.guard = none) (d s : Operand) (t t' : TypeId)
    (ho : o.op = .call { callee := .builtin .copy, args := #[d, s], argTypes := #[t, t'] }) (v u : Value) (hd : a.eval d = v) (hs : a.eval s = u) {v' : Value} {w' : World}
    (hr : (Builtin.copy_ #[t, t'] o.type #[v, u]).run P w = .ok v' w') (h : wpList P ops Q rest (a.put o.dst v') w') : wpList P ops Q (o :: rest) a w :=
  wpList_plain hgd fun _ hK => wp_copy_known w d s t t' ho v u hd hs hr (hK _ _ h)
theorem step_copy_known {ops : Array Oper} {o : Oper} {a : Act} {w : World} {K : Act → World → Prop} {Q : Exit → Act → World → Prop} {E : Prop}
    (hg : o.guard = none) (d x : Operand) (dT sT : TypeId) (hop : o.op = Op.call { callee := Callee.builtin Builtin.copy, args := #[d, x], argTypes := #[dT, sT] })
    (v u : Value) (hd : a.eval d = v) (hx : a.eval x = u) {v' : Value} {w' : World} (hr : (Builtin.copy_ #[dT, sT] o.type #[v, u]).run P w = .ok v' w') (hK : K (a.put o.dst v') w') :
    if Region.wanted o (yielded ops a.tmps) = true then Oper.wp P o a w K Q else E := by
  have hw : Region.wanted o (yielded ops a.tmps) = true := by simp [Region.wanted, hg]
  rw [if_pos hw]
  unfold Oper.wp
  simp [execOp, hop, resolve, invoke, builtin, hd, hx, hr, Result.andThen]
  exact hK
/-- the same of clear and append -/
theorem step_append_known {ops : Array Oper} {o : Oper} {a : Act} {w : World} {K : Act → World → Prop} {Q : Exit → Act → World → Prop} {E : Prop}
    (hg : o.guard = none) (d x : Operand) (dT sT : TypeId) (hop : o.op = Op.call { callee := Callee.builtin Builtin.append, args := #[d, x], argTypes := #[dT, sT] })
    (v u : Value) (hd : a.eval d = v) (hx : a.eval x = u) {v' : Value} {w' : World} (hr : (Builtin.append_ #[dT, sT] o.type #[v, u]).run P w = .ok v' w') (hK : K (a.put o.dst v') w') :
    if Region.wanted o (yielded ops a.tmps) = true then Oper.wp P o a w K Q else E := by
  have hw : Region.wanted o (yielded ops a.tmps) = true := by simp [Region.wanted, hg]
  rw [if_pos hw]
  unfold Oper.wp
  simp [execOp, hop, resolve, invoke, builtin, hd, hx, hr, Result.andThen]
  exact hK
theorem wpList_clear_known (w : World) {ops : Array Oper} {rest : List Oper} {o : Oper} {a : Act} {Q : Exit → Act → World → Prop} (hgd : o.guard = none) (d : Operand) (t : TypeId)
    (ho : o.op = .call { callee := .builtin .clear, args := #[d], argTypes := #[t] }) (v : Value) (hd : a.eval d = v) {v' : Value} {w' : World}
    (hr : (Builtin.clear_ #[t] o.type #[v]).run P w = .ok v' w') (h : wpList P ops Q rest (a.put o.dst v') w') : wpList P ops Q (o :: rest) a w := by
  refine wpList_plain hgd fun K hK => ?_
  unfold Oper.wp execOp
  simp only [ho, resolve, invoke, builtin, Sem.run_bind, Sem.run_pure, Result.andThen_ok, List.map_toArray, List.map_cons, List.map_nil, hd, hr]
  exact hK _ _ h
end
/-- splices of a row, read: in the shift of slices.Insert -/
theorem splice_shift {α : Type} (cur L M X : List α) (p q : Nat) (hp : p ≤ L.length) (hq : q = p + X.length) (hL : cur.take L.length = L) (hM : M = L.drop p) (hc : L.length + X.length ≤ cur.length) :
    (splice (splice cur q M) p X).take (L.length + X.length) = L.take p ++ (X ++ L.drop p) := by
  subst hM hq
  apply List.ext_getElem?
  intro j
  have hcur : ∀ j, j < L.length → cur[j]? = L[j]? := fun j hj => by
    have h := congrArg (fun l => l[j]?) hL
    simp only [List.getElem?_take, if_pos hj] at h
    exact h
  simp only [splice, List.getElem?_take, List.getElem?_append, List.getElem?_drop, List.length_take, List.length_append, List.length_drop]
  repeat' (first | split | omega)
  all_goals (first | rfl | omega | exact (List.getElem?_eq_none (by omega)).symm | (congr 1; omega) | (rw [hcur _ (by omega)]; first | done | (congr 1; omega)) | (symm; rw [List.getElem?_eq_none]; simp; omega) | (rw [List.getElem?_eq_none]; simp; omega) | skip)
theorem splice_grow {α : Type} (R L M X : List α) (p q : Nat) (hp : p ≤ L.length) (hq : q = p + X.length) (hR : R.take p = L.take p) (hM : M = L.drop p) (hc : L.length + X.length ≤ R.length) :
    (splice (splice R p X) q M).take (L.length + X.length) = L.take p ++ (X ++ L.drop p) := by
  subst hM hq
  have h1 : (splice R p X).take (p + X.length) = L.take p ++ X := by
    unfold splice
    rw [hR, List.take_append, List.take_of_length_le (l := L.take p) (by simp; omega), show p + X.length - (L.take p).length = X.length by simp; omega, List.take_left]
  have h2 : (splice (splice R p X) (p + X.length) (L.drop p)) = (L.take p ++ X) ++ (L.drop p ++ (splice R p X).drop (p + X.length + (L.drop p).length)) := by
    conv => lhs; unfold splice
    rw [← h1]; rfl
  rw [h2, ← List.append_assoc, List.take_append_of_le_length (by simp; omega), List.take_of_length_le (by simp; omega), List.append_assoc]
theorem splice_cut {α : Type} (cur L M Z : List α) (p q n : Nat) (hq : q ≤ L.length) (hpq : p ≤ q) (hL : cur.take L.length = L) (hM : M = L.drop q) (hn : n = p + M.length) (hc : L.length ≤ cur.length) (hz : n + Z.length ≤ cur.length) :
    (splice (splice cur p M) n Z).take n = L.take p ++ L.drop q := by
  subst hM hn
  have h0 : cur.take p = L.take p := by rw [← hL, List.take_take, Nat.min_eq_left (by omega)]
  have h1 : (splice cur p (L.drop q)).take (p + (L.drop q).length) = L.take p ++ L.drop q := by
    unfold splice
    rw [h0, List.take_append, List.take_of_length_le (l := L.take p) (by simp; omega), show p + (L.drop q).length - (L.take p).length = (L.drop q).length by simp; omega, List.take_left]
  have h2 : (splice cur p (L.drop q)).length = cur.length := length_splice _ _ _ (by simp; omega)
  conv => lhs; unfold splice
  rw [List.take_append_of_le_length (by rw [List.length_take]; have := h2; unfold splice at this; omega), List.take_take, Nat.min_self]
  exact h1
theorem run_append_rowK {P : Program} (w : World) (t ty e : TypeId) (i : TypeInfo) (k : Nat) (ht : P.underlying t = some (.slice e)) (hi : P.info? e = some i) (hk : i.size = k)
    (g sLen sCap : Nat) (cur : Array Value) (hg : w.heap[g]? = some (.cells cur e (0, 0)))
    (a : Addr) (m c : Nat) (news : List Value) (hl : news.length = m * k) (hnews : ∀ j u, news[j]? = some u → w.cell? (a.add j) = some u) (h1 : ∀ u ∈ news, u.oneCell' = true)
    (hroom : sLen + m ≤ sCap) (hfit : sLen * k + news.length ≤ cur.size) :
    (Builtin.append_ #[t, t] ty #[.slice (some ⟨g, 0, none⟩) sLen sCap, .slice (some a) m c]).run P w =
      .ok (.slice (some ⟨g, 0, none⟩) (sLen + m) sCap) (w.setRow g (splice cur.toList (sLen * k) news).toArray) := by
  subst hk
  rw [run_append_room (P := P) w t ty e i ht hi g sLen sCap cur hg a m c news hl hnews h1 hroom hfit]
  simp [splice]
theorem setRow_setRow (w : World) (g : Nat) (a b : Array Value) : (w.setRow g a).setRow g b = w.setRow g b := by
  unfold World.setRow
  cases w with
  | mk heap tape drawn os output =>
    congr 1
    apply Array.ext
    · simp
    · intro k h1 h2
      simp only [Array.getElem_modify]
      split
      · rename_i hk; subst hk
        cases h : heap[g]'(by simpa using h1) <;> simp
      · rfl
end Go.Proofs.Yteaemnjomlcfcaa.Tab
