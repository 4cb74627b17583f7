/- Slices over boxes, more: copied into, cleared, appended to where the room is known. No condition. -/
import Derived.Test.YtheokoehnmlafaaVcg24
import Derived.Lib.AppendZerosOnto
set_option linter.unusedVariables false
set_option linter.unusedSimpArgs false
namespace Go.Proofs.Ytheokoehnmlafaa.Vcg
open Go.RowKit
section
variable {P : Program} {G : Globs} {E : Ctx} {σ : St} {o : Oper} {a : Act}
/-- what stands in a part of a box -/
def spl (cs : List C) (at' : Nat) (xs : List C) : List C := cs.take at' ++ xs ++ cs.drop (at' + xs.length)
/-- copy into a box -/
def aCopy (P : Program) (t : TypeId) (d x : C) (σ : St) (K : C → St → Prop) : Prop :=
  match lay P t with
  | some ⟨.slice e, _, _, _⟩ => match lay P e with
    | some ⟨_, k, _, _⟩ => match x.xs? k σ.bx with
      | some (m, xs) => match d with
        | .bs i off k' n c => match σ.bx[i]? with
          | some cs => k' = k ∧ xs.length = m * k ∧ off + n * k ≤ cs.length ∧ K (.sc (.int .i64 ((min m n : Nat) : Int))) ⟨σ.tm, σ.bx.set i (spl cs off (xs.take (min m n * k))), σ.nx, σ.lg⟩
          | none => False
        | _ => False
      | none => False
    | _ => False
  | _ => False
theorem copy_after {t t' : TypeId} {d x : Operand} (ho : o.op = .call { callee := .builtin .copy, args := #[d, x], argTypes := #[t, t'] }) {K : C → St → Prop} {R : Env} {L : Loc} (h : InvV G E σ a R L) (hK : aCopy P t (evOf G σ.tm d) (evOf G σ.tm x) σ K) : Runs P o a.eval R.w (After G E a K) := by
  unfold aCopy at hK
  split at hK <;> try exact hK.elim
  rename_i e s1 b1 z1 hl
  have ht := lay_slice hl rfl
  split at hK <;> try exact hK.elim
  rename_i kd k by' z hle
  obtain ⟨i, dd, hi, hd, _, hsz, hbyt, hzz⟩ := lay_spec hle
  simp only at hsz hbyt hzz
  split at hK <;> try exact hK.elim
  rename_i m xs hxs
  split at hK <;> try exact hK.elim
  rename_i bi off k' n c hev
  split at hK <;> try exact hK.elim
  rename_i cs hcs
  obtain ⟨rfl, hxl, hfit, hK⟩ := hK
  obtain ⟨ad, capx, ex, hx⟩ := xs_vals h.good.fit (h.ev x) hxs
  have hs := h.ev d; rw [hev, rep_bs] at hs
  obtain ⟨b, hb, ad0, es, had0⟩ := hs
  obtain ⟨vs, ty, e1, e2, e3, e4⟩ := h.good.fit.boxes.box bi b cs hb hcs
  have hvl := repL_length e2
  have hbil : bi < σ.bx.length := (List.getElem?_eq_some_iff.1 hcs).1
  have hss : (sizeOf e).run P R.w = .ok k' R.w := by simp [sizeOf, typeInfo, hi, ← hsz]
  have hexec : ∀ v' w', (Builtin.copy_ #[t, t'] o.type #[a.eval d, a.eval x]).run P R.w = .ok v' w' → (execOp a.eval o).run P R.w = .ok (.value v') w' := fun v' w' hrun => by
    unfold execOp
    simp only [ho, resolve, invoke, builtin, Sem.run_bind, Sem.run_pure, Result.andThen_ok, List.map_toArray, List.map_cons, List.map_nil, hrun]
  by_cases h0 : min m n * k' = 0
  · have hspl : spl cs off (xs.take (min m n * k')) = cs := by
      rw [h0]; simp [spl]
    have hset : σ.bx.set bi cs = σ.bx := by
      apply List.ext_getElem?
      intro j
      by_cases hj : bi = j
      · subst hj; rw [List.getElem?_set_self hbil, hcs]
      · rw [List.getElem?_set_ne hj]
    rw [hspl, hset] at hK
    refine Runs.value (hexec (goInt ((Nat.min m n : Nat) : Int)) R.w ?_) ⟨_, _, R, L, rfl, h, rep_sc.2 rfl, hK⟩
    rw [es, ex]
    simp only [Builtin.copy_, Builtin.lenOf, Sem.run_bind, Sem.run_pure, Result.andThen_ok, run_underlying ht, hss]
    have hm0 : Nat.min m n * k' = 0 := h0
    have hfc : (Builtin.firstCells k' (Nat.min m n) (.slice ad m capx)).run P R.w = .ok #[] R.w := by
      cases ad with
      | none => simp [Builtin.firstCells]
      | some ad => simp [Builtin.firstCells, hm0, loadCells, loadCellsFrom]
    simp [hfc, storeCells, run_underlying ht, hss]
  · have hpos : 0 < m := by
      rcases Nat.eq_zero_or_pos m with q | q
      · subst q; simp at h0
      · exact q
    have hnpos : 0 < n := by
      rcases Nat.eq_zero_or_pos n with q | q
      · subst q; simp at h0
      · exact q
    obtain ⟨bb, offx, news, rfl, n1, n2, n3, n4⟩ := hx hpos
    obtain rfl := had0 (by omega)
    have hmn : min m n * k' ≤ m * k' := Nat.mul_le_mul_right _ (Nat.min_le_left _ _)
    have hmn2 : min m n * k' ≤ n * k' := Nat.mul_le_mul_right _ (Nat.min_le_right _ _)
    have hnl : (news.take (min m n * k')).length = min m n * k' := by rw [List.length_take]; omega
    have hfc := run_firstCells_some (P := P) R.w k' (min m n) ⟨bb, offx, none⟩ m capx (news.take (min m n * k')) hnl (fun j u hj => n2 j u (by
      rw [List.getElem?_take] at hj
      split at hj
      · exact hj
      · cases hj))
    have hst := run_storeCells_at P b off ty (news.take (min m n * k')) 0 vs R.w e1 (by simp only [Array.length_toList] at hvl; omega) (fun v hv => n4 v (List.mem_of_mem_take hv))
    simp only [Nat.add_zero] at hst
    have hrun : (Builtin.copy_ #[t, t'] o.type #[a.eval d, a.eval x]).run P R.w = .ok (goInt ((Nat.min m n : Nat) : Int)) (R.w.setRow b (vs.toList.take off ++ news.take (min m n * k') ++ vs.toList.drop (off + (news.take (min m n * k')).length)).toArray) := by
      rw [es, ex]
      have hfc' : (Builtin.firstCells k' (Nat.min m n) (.slice (some ⟨bb, offx, none⟩) m capx)).run P R.w = .ok (news.take (min m n * k')).toArray R.w := hfc
      simp only [Builtin.copy_, Builtin.lenOf, Sem.run_bind, Sem.run_pure, Result.andThen_ok, run_underlying ht, hss]
      simp [hfc', hst, run_underlying ht, hss]
    have hxtl : (xs.take (min m n * k')).length = (news.take (min m n * k')).length := by rw [hnl, List.length_take]; omega
    have hinv := h.setBox hb hcs e1 e4 (cs' := spl cs off (xs.take (min m n * k'))) (us := (vs.toList.take off ++ news.take (min m n * k') ++ vs.toList.drop (off + (news.take (min m n * k')).length)).toArray) (by
        unfold spl
        rw [hxtl]
        exact repL_append (repL_append (repL_take _ e2) (repL_take _ n3)) (repL_drop _ e2)) (fun v hv => by
        simp only [List.mem_append] at hv
        rcases hv with (hv | hv) | hv
        · exact e3 v (List.mem_of_mem_take hv)
        · exact n4 v (List.mem_of_mem_take hv)
        · exact e3 v (List.mem_of_mem_drop hv))
    exact Runs.value (hexec _ _ hrun) ⟨_, _, _, L, rfl, hinv, rep_sc.2 rfl, hK⟩
/-- zeros into a box -/
def aClear (P : Program) (t : TypeId) (x : C) (σ : St) (K : C → St → Prop) : Prop :=
  match lay P t with
  | some ⟨.slice e, _, _, _⟩ => match lay P e with
    | some ⟨_, k, _, some z⟩ => match x with
      | .bs i off k' n c => match σ.bx[i]? with
        | some cs => k' = k ∧ z.length = k ∧ 0 < k ∧ (z.all Value.oneCell') = true ∧ off + n * k ≤ cs.length ∧ K .any ⟨σ.tm, σ.bx.set i (spl cs off (List.replicate n (z.map ofConst)).flatten), σ.nx, σ.lg⟩
        | none => False
      | _ => False
    | _ => False
  | _ => False
theorem zeroCells_rep {R : Env} {L : Loc} (zc : Array Value) (k n : Nat) (hz : zc.size = k) (hk : 0 < k) : RepL R L (List.replicate n (zc.toList.map ofConst)).flatten (Builtin.zeroCells zc n).toList := by
  have h := RepL.ext (Ext.refl R) (LocLe.none L) _ _ (zeros_rep (R := R) (L := noLoc) zc k n hz hk)
  simp only [Builtin.zeroCells, hz]
  rw [hz] at h
  exact h
theorem clear_after {t : TypeId} {x : Operand} (ho : o.op = .call { callee := .builtin .clear, args := #[x], argTypes := #[t] }) {K : C → St → Prop} {R : Env} {L : Loc} (h : InvV G E σ a R L) (hK : aClear P t (evOf G σ.tm x) σ K) : Runs P o a.eval R.w (After G E a K) := by
  unfold aClear at hK
  split at hK <;> try exact hK.elim
  rename_i e s1 b1 z1 hl
  have ht := lay_slice hl rfl
  split at hK <;> try exact hK.elim
  rename_i kd k by' z hle
  obtain ⟨i, dd, hi, hd, _, hsz, hbyt, hzz⟩ := lay_spec hle
  simp only at hsz hbyt hzz
  split at hK <;> try exact hK.elim
  rename_i bi off k' n c hev
  split at hK <;> try exact hK.elim
  rename_i cs hcs
  obtain ⟨rfl, hzk, hk0, hz1, hfit, hK⟩ := hK
  cases hiz : i.zero with
  | none => simp [hiz] at hzz
  | some zv =>
    simp only [hiz, Option.map_some, Option.some.injEq] at hzz
    subst hzz
    have hs := h.ev x; rw [hev, rep_bs] at hs
    obtain ⟨b, hb, ad0, es, had0⟩ := hs
    obtain ⟨vs, ty, e1, e2, e3, e4⟩ := h.good.fit.boxes.box bi b cs hb hcs
    have hvl := repL_length e2
    have hbil : bi < σ.bx.length := (List.getElem?_eq_some_iff.1 hcs).1
    have hzv : ∀ w, (zeroValue e).run P w = .ok zv w := fun w => by simp [zeroValue, typeInfo, hi, hiz]
    have hexec : ∀ v' w', (Builtin.clear_ #[t] o.type #[a.eval x]).run P R.w = .ok v' w' → (execOp a.eval o).run P R.w = .ok (.value v') w' := fun v' w' hrun => by
      unfold execOp
      simp only [ho, resolve, invoke, builtin, Sem.run_bind, Sem.run_pure, Result.andThen_ok, List.map_toArray, List.map_cons, List.map_nil, hrun]
    have hzl : (Builtin.zeroCells zv.cells n).toList.length = n * k' := by rw [Array.length_toList, size_zeroCells]; simpa using congrArg (n * ·) hzk
    have hzr := zeroCells_rep (R := R) (L := L) zv.cells k' n (by simpa using hzk) hk0
    have hxl : (List.replicate n (zv.cells.toList.map ofConst)).flatten.length = n * k' := by rw [← hzl]; exact (repL_length hzr).symm
    cases n with
    | zero =>
      have hspl : spl cs off (List.replicate 0 (zv.cells.toList.map ofConst)).flatten = cs := by simp [spl]
      have hset : σ.bx.set bi cs = σ.bx := by
        apply List.ext_getElem?
        intro j
        by_cases hj : bi = j
        · subst hj; rw [List.getElem?_set_self hbil, hcs]
        · rw [List.getElem?_set_ne hj]
      rw [hspl, hset] at hK
      refine Runs.value (hexec (.tuple #[]) R.w ?_) ⟨_, _, R, L, rfl, h, by unfold Rep; trivial, hK⟩
      rw [es]
      simp [Builtin.clear_, run_underlying ht]
    | succ n =>
      obtain rfl := had0 (by omega)
      have hst := run_storeCells_at P b off ty (Builtin.zeroCells zv.cells (n + 1)).toList 0 vs R.w e1 (by rw [hzl]; simp only [Array.length_toList] at hvl; omega) (zeroCells_one hz1 _)
      simp only [Nat.add_zero] at hst
      have hinv := h.setBox hb hcs e1 e4 (cs' := spl cs off (List.replicate (n + 1) (zv.cells.toList.map ofConst)).flatten) (us := (vs.toList.take off ++ (Builtin.zeroCells zv.cells (n + 1)).toList ++ vs.toList.drop (off + (Builtin.zeroCells zv.cells (n + 1)).toList.length)).toArray) (by
          unfold spl
          rw [hzl, hxl]
          exact repL_append (repL_append (repL_take _ e2) hzr) (repL_drop _ e2)) (fun v hv => by
          simp only [List.mem_append] at hv
          rcases hv with (hv | hv) | hv
          · exact e3 v (List.mem_of_mem_take hv)
          · exact zeroCells_one hz1 _ v hv
          · exact e3 v (List.mem_of_mem_drop hv))
      refine Runs.value (hexec (.tuple #[]) _ ?_) ⟨_, _, _, L, rfl, hinv, by unfold Rep; trivial, hK⟩
      rw [es]
      simp [Builtin.clear_, run_underlying ht, hzv, hst]
/-- an append to a box whose room is known: in place, or into a new one -/
def aAppB2 (P : Program) (t : TypeId) (s x : C) (σ : St) (K : C → St → Prop) : Prop :=
  match lay P t with
  | some ⟨.slice e, _, _, _⟩ => match lay P e with
    | some ⟨_, k, by', some z⟩ => match x.xs? k σ.bx with
      | some (m, xs) => z.length = k ∧ 0 < k ∧ (z.all Value.oneCell') = true ∧ xs.length = m * k ∧ match s with
        | .sc (.slice none 0 0) => 0 < m ∧ m ≤ 9223372036854775807 ∧ m * by' ≤ 140737488355328 ∧ ∀ c, m ≤ c → c ≤ maxLen → K (.bs σ.bx.length 0 k m c) ⟨σ.tm, σ.bx ++ [xs ++ List.replicate ((c - m) * k) .any], σ.nx, σ.lg⟩
        | .bs i off k' n c => match σ.bx[i]? with
          | some cs => k' = k ∧ off + c * k ≤ cs.length ∧ n ≤ c ∧ n + m ≤ 9223372036854775807 ∧ (n + m) * by' ≤ 140737488355328 ∧
              (n + m ≤ c → K (.bs i off k (n + m) c) ⟨σ.tm, σ.bx.set i (spl cs (off + n * k) xs), σ.nx, σ.lg⟩) ∧
              (c < n + m → ∀ c', n + m ≤ c' → c' ≤ maxLen → K (.bs σ.bx.length 0 k (n + m) c') ⟨σ.tm, σ.bx ++ [(cs.drop off).take (n * k) ++ xs ++ List.replicate ((c' - (n + m)) * k) .any], σ.nx, σ.lg⟩)
          | none => False
        | _ => False
      | none => False
    | _ => False
  | _ => False
/-- an append of zeros, into a new box -/
def aAppZ (P : Program) (t tn : TypeId) (s x : C) (σ : St) (K : C → St → Prop) : Prop :=
  match lay P t, lay P tn with
  | some ⟨.slice e, _, _, _⟩, some ⟨.int _, _, _, _⟩ => match lay P e with
    | some ⟨_, k, by', some z⟩ => match s, x with
      | .bs i off k' n c, .sc (.int _ q) => match σ.bx[i]? with
          | some cs => z.length = k ∧ 0 < k ∧ (z.all Value.oneCell') = true ∧ k' = k ∧ off + c * k ≤ cs.length ∧ n ≤ c ∧ 0 < q ∧ (n : Int) + q ≤ 9223372036854775807 ∧ ((n : Int) + q) * by' ≤ 140737488355328 ∧ (c : Int) < n + q ∧
              ∀ c', n + q.toNat ≤ c' → c' ≤ maxLen → K (.bs σ.bx.length 0 k (n + q.toNat) c') ⟨σ.tm, σ.bx ++ [(cs.drop off).take (n * k) ++ (List.replicate q.toNat (z.map ofConst)).flatten ++ List.replicate ((c' - (n + q.toNat)) * k) .any], σ.nx, σ.lg⟩
          | none => False
      | _, _ => False
    | _ => False
  | _, _ => False
theorem InvV.setSame {R : Env} {L : Loc} (h : InvV G E σ a R L) {i : Nat} {cs : List C} (hc : σ.bx[i]? = some cs) : σ.bx.set i cs = σ.bx := by
  have hil : i < σ.bx.length := (List.getElem?_eq_some_iff.1 hc).1
  apply List.ext_getElem?
  intro j
  by_cases hj : i = j
  · subst hj; rw [List.getElem?_set_self hil, hc]
  · rw [List.getElem?_set_ne hj]
theorem appB2_after {t : TypeId} {s x : Operand} (ho : o.op = .call { callee := .builtin .append, args := #[s, x], argTypes := #[t, t] }) {K : C → St → Prop} {R : Env} {L : Loc} (h : InvV G E σ a R L) (hK : aAppB2 P t (evOf G σ.tm s) (evOf G σ.tm x) σ K) : Runs P o a.eval R.w (After G E a K) := by
  unfold aAppB2 at hK
  split at hK <;> try exact hK.elim
  rename_i e s1 b1 z1 hl
  have ht := lay_slice hl rfl
  split at hK <;> try exact hK.elim
  rename_i kd k by' z hle
  obtain ⟨i, d, hi, hd, _, hsz, hbyt, hzz⟩ := lay_spec hle
  simp only at hsz hbyt hzz
  split at hK <;> try exact hK.elim
  rename_i m xs hxs
  obtain ⟨hzk, hk0, hz1, hxl, hK⟩ := hK
  have hexec : ∀ v' w', (Builtin.append_ #[t, t] o.type #[a.eval s, a.eval x]).run P R.w = .ok v' w' → (execOp a.eval o).run P R.w = .ok (.value v') w' := fun v' w' hrun => by
    unfold execOp
    simp only [ho, resolve, invoke, builtin, Sem.run_bind, Sem.run_pure, Result.andThen_ok, List.map_toArray, List.map_cons, List.map_nil, hrun]
  cases hiz : i.zero with
  | none => simp [hiz] at hzz
  | some zv =>
    simp only [hiz, Option.map_some, Option.some.injEq] at hzz
    have hzc : zv.cells.size = k := by rw [← hzk, hzz]; simp
    obtain ⟨ad, capx, ex, hx⟩ := xs_vals h.good.fit (h.ev x) hxs
    have hzone : ∀ n, ∀ v ∈ (Builtin.zeroCells zv.cells n).toList, v.oneCell' = true := zeroCells_one (by rw [← hzz]; exact hz1)
    split at hK
    · rename_i hev
      obtain ⟨hm, h63, hby, hK⟩ := hK
      obtain ⟨bb, off, news, rfl, n1, n2, n3, n4⟩ := hx hm
      have hs := h.ev s; rw [hev, rep_sc] at hs
      have hrun := run_append_nil (P := P) R.w t o.type e i zv ht hi hiz ⟨bb, off, none⟩ m capx news (by rw [n1, hsz]) n2 hm (by omega) (by rw [← hbyt]; omega)
      rw [← hs, ← ex] at hrun
      have hge := grownCap_ge R.w m 0 e
      have hgm : grownCap R.w m 0 e ≤ maxLen := grownCap_le_maxLen _ _ _ _ (by unfold maxLen; omega)
      generalize grownCap R.w m 0 e = nc at hrun hge hgm
      have hb : Below R.w.heap.size R.w (R.w.drew.alloc (.cells (news.toArray ++ Builtin.zeroCells zv.cells (nc - m)) e)) := ((Below.refl _ _).drew).alloc (Nat.le_refl _) _
      have hzl : (Builtin.zeroCells zv.cells (nc - m)).toList.length = (nc - m) * k := by rw [Array.length_toList, size_zeroCells, hzc]
      obtain ⟨R', L', e1, e2, e3⟩ := h.newBoxW hb (Nat.le_refl _) (xs ++ List.replicate ((nc - m) * k) .any) (news.toArray ++ Builtin.zeroCells zv.cells (nc - m)) e (heap_alloc_new R.w.drew _) (fun M' hM _ _ => by
        simp only [Array.toList_append]
        refine repL_append (RepL.ext (R := R) (Ext.of_below hb hM) (LocLe.refl L) _ _ n3) ?_
        rw [← hzl]; exact repL_any _) (fun v hv => by
        simp only [Array.toList_append] at hv
        rcases List.mem_append.1 hv with hv | hv
        · exact n4 v hv
        · exact hzone _ v hv)
      exact Runs.value (hexec _ _ hrun) ⟨_, _, R', L', e1, e2, rep_bs.2 ⟨_, e3, _, rfl, fun _ => rfl⟩, hK nc hge hgm⟩
    · rename_i bi off k' n c hev
      split at hK <;> try exact hK.elim
      rename_i cs hcs
      obtain ⟨rfl, hcl, hnc, h63, hby, hK1, hK2⟩ := hK
      have hs := h.ev s; rw [hev, rep_bs] at hs
      obtain ⟨b, hb, ad0, es, had0⟩ := hs
      obtain ⟨vs, ty, e1, e2, e3, e4⟩ := h.good.fit.boxes.box bi b cs hb hcs
      have hvl := repL_length e2
      simp only [Array.length_toList] at hvl
      have hnk : n * k' ≤ c * k' := Nat.mul_le_mul_right _ hnc
      have hadd : (n + m) * k' = n * k' + m * k' := Nat.add_mul _ _ _
      by_cases hroom : n + m ≤ c
      · have hck : (n + m) * k' ≤ c * k' := Nat.mul_le_mul_right _ hroom
        rcases Nat.eq_zero_or_pos m with hm | hm
        · subst hm
          have hx0 : xs = [] := List.eq_nil_of_length_eq_zero (by simpa using hxl)
          subst hx0
          have hK := hK1 hroom
          have hspl : spl cs (off + n * k') [] = cs := by simp [spl]
          rw [hspl, h.setSame hcs] at hK
          refine Runs.value (hexec (.slice (some ad0) n c) R.w ?_) ⟨_, _, R, L, rfl, h, rep_bs.2 ⟨b, hb, ad0, rfl, had0⟩, hK⟩
          rw [es, ex]
          exact run_append_zero ht hi R.w _ _ _ _ _ hnc
        · obtain rfl := had0 (by omega)
          obtain ⟨bb, offx, news, rfl, n1, n2, n3, n4⟩ := hx hm
          have hst := run_storeCells_at P b (off + n * k') ty news 0 vs R.w e1 (by rw [n1]; omega) n4
          simp only [Nat.add_zero] at hst
          have hfc := run_firstCells_some (P := P) R.w k' m ⟨bb, offx, none⟩ m capx news n1 n2
          have hrun : (Builtin.append_ #[t, t] o.type #[a.eval s, a.eval x]).run P R.w = .ok (.slice (some ⟨b, off, none⟩) (n + m) c) (R.w.setRow b (vs.toList.take (off + n * k') ++ news ++ vs.toList.drop (off + n * k' + news.length)).toArray) := by
            rw [es, ex]
            simp [Builtin.append_, run_underlying ht, sizeOf, typeInfo, hi, Builtin.lenOf, hroom, ← hsz, hfc, Addr.add_none, hst]
          have hnx : news.length = xs.length := by rw [n1, hxl]
          have hinv := h.setBox hb hcs e1 e4 (cs' := spl cs (off + n * k') xs) (us := (vs.toList.take (off + n * k') ++ news ++ vs.toList.drop (off + n * k' + news.length)).toArray) (by
              unfold spl
              rw [hnx]
              exact repL_append (repL_append (repL_take _ e2) n3) (repL_drop _ e2)) (fun v hv => by
              simp only [List.mem_append] at hv
              rcases hv with (hv | hv) | hv
              · exact e3 v (List.mem_of_mem_take hv)
              · exact n4 v hv
              · exact e3 v (List.mem_of_mem_drop hv))
          exact Runs.value (hexec _ _ hrun) ⟨_, _, _, L, rfl, hinv, rep_bs.2 ⟨_, hb, _, rfl, fun _ => rfl⟩, hK1 hroom⟩
      · have hm : 0 < m := by omega
        obtain ⟨bb, offx, news, rfl, n1, n2, n3, n4⟩ := hx hm
        have hol : ((vs.toList.drop off).take (n * k')).length = n * k' := by simp; omega
        have hrun := run_append_grow (P := P) R.w t o.type e i zv ht hi hiz ad0 n c ((vs.toList.drop off).take (n * k')) (by rw [hol, hsz]) (fun j v hj => by
            obtain rfl := had0 (by
              rcases Nat.eq_zero_or_pos n with h0 | h0
              · subst h0; simp at hj
              · omega)
            rw [Addr.add_none, cell_of_row R.w b (off + j) vs ty (0, 0) e1]
            rw [List.getElem?_take] at hj
            split at hj
            · rw [List.getElem?_drop] at hj; simpa using hj
            · cases hj) ⟨bb, offx, none⟩ m capx news (by rw [n1, hsz]) n2 (by omega) (by omega) (growslice_fits (by omega) (by rw [← hbyt]; exact hby))
        rw [← es, ← ex] at hrun
        have hge := grownCap_ge R.w (n + m) c e
        have hgm : grownCap R.w (n + m) c e ≤ maxLen := grownCap_le_maxLen _ _ _ _ (by unfold maxLen; omega)
        generalize grownCap R.w (n + m) c e = nc at hrun hge hgm
        have hbel : Below R.w.heap.size R.w (R.w.drew.alloc (.cells (((vs.toList.drop off).take (n * k')).toArray ++ news.toArray ++ Builtin.zeroCells zv.cells (nc - (n + m))) e)) := ((Below.refl _ _).drew).alloc (Nat.le_refl _) _
        have hzl : (Builtin.zeroCells zv.cells (nc - (n + m))).toList.length = (nc - (n + m)) * k' := by rw [Array.length_toList, size_zeroCells, hzc]
        obtain ⟨R', L', f1, f2, f3⟩ := h.newBoxW hbel (Nat.le_refl _) ((cs.drop off).take (n * k') ++ xs ++ List.replicate ((nc - (n + m)) * k') .any) (((vs.toList.drop off).take (n * k')).toArray ++ news.toArray ++ Builtin.zeroCells zv.cells (nc - (n + m))) e (heap_alloc_new R.w.drew _) (fun M' hM _ _ => by
          simp only [Array.toList_append]
          refine repL_append (RepL.ext (R := R) (Ext.of_below hbel hM) (LocLe.refl L) _ _ (repL_append (repL_take _ (repL_drop _ e2)) n3)) ?_
          rw [← hzl]; exact repL_any _) (fun v hv => by
          simp only [Array.toList_append, List.mem_append] at hv
          rcases hv with (hv | hv) | hv
          · exact e3 v (List.mem_of_mem_drop (List.mem_of_mem_take hv))
          · exact n4 v hv
          · exact hzone _ v hv)
        exact Runs.value (hexec _ _ hrun) ⟨_, _, R', L', f1, f2, rep_bs.2 ⟨_, f3, _, rfl, fun _ => rfl⟩, hK2 (by omega) nc hge hgm⟩
    · exact hK.elim
theorem appZ_after {t tn : TypeId} {s x : Operand} (ho : o.op = .call { callee := .builtin .append, args := #[s, x], argTypes := #[t, tn] }) {K : C → St → Prop} {R : Env} {L : Loc} (h : InvV G E σ a R L) (hK : aAppZ P t tn (evOf G σ.tm s) (evOf G σ.tm x) σ K) : Runs P o a.eval R.w (After G E a K) := by
  unfold aAppZ at hK
  split at hK <;> try exact hK.elim
  rename_i e s1 b1 z1 kn s2 b2 z2 hl hln
  have ht := lay_slice hl rfl
  have htn := lay_int hln rfl
  split at hK <;> try exact hK.elim
  rename_i kd k by' z hle
  obtain ⟨i, d, hi, hd, _, hsz, hbyt, hzz⟩ := lay_spec hle
  simp only at hsz hbyt hzz
  split at hK <;> try exact hK.elim
  rename_i bi off k' n c kq q hev hevx
  split at hK <;> try exact hK.elim
  rename_i cs hcs
  obtain ⟨hzk, hk0, hz1, rfl, hcl, hnc, hq0, h63, hby, hg, hK⟩ := hK
  have hexec : ∀ v' w', (Builtin.append_ #[t, tn] o.type #[a.eval s, a.eval x]).run P R.w = .ok v' w' → (execOp a.eval o).run P R.w = .ok (.value v') w' := fun v' w' hrun => by
    unfold execOp
    simp only [ho, resolve, invoke, builtin, Sem.run_bind, Sem.run_pure, Result.andThen_ok, List.map_toArray, List.map_cons, List.map_nil, hrun]
  cases hiz : i.zero with
  | none => simp [hiz] at hzz
  | some zv =>
    simp only [hiz, Option.map_some, Option.some.injEq] at hzz
    have hzc : zv.cells.size = k' := by rw [← hzk, hzz]; simp
    have hzone : ∀ n, ∀ v ∈ (Builtin.zeroCells zv.cells n).toList, v.oneCell' = true := zeroCells_one (by rw [← hzz]; exact hz1)
    have hs := h.ev s; rw [hev, rep_bs] at hs
    have hxv := h.ev x; rw [hevx, rep_sc] at hxv
    obtain ⟨b, hb, ad0, es, had0⟩ := hs
    obtain ⟨vs, ty, e1, e2, e3, e4⟩ := h.good.fit.boxes.box bi b cs hb hcs
    have hvl := repL_length e2
    simp only [Array.length_toList] at hvl
    have hnk : n * k' ≤ c * k' := Nat.mul_le_mul_right _ hnc
    obtain ⟨m, rfl⟩ : ∃ m : Nat, q = (m : Int) := ⟨q.toNat, by omega⟩
    simp only [Int.toNat_natCast] at hK
    have hby' : (n + m) * by' ≤ 140737488355328 := by
      have : (((n + m) * by' : Nat) : Int) ≤ 140737488355328 := by
        rw [Int.natCast_mul, Int.natCast_add]; exact hby
      omega
    have hol : ((vs.toList.drop off).take (n * k')).length = n * k' := by simp; omega
    have hold : ∀ w, w.heap = R.w.heap → (Builtin.firstCells i.size n (.slice (some ad0) n c)).run P w = .ok ((vs.toList.drop off).take (n * k')).toArray w := fun w hw => by
      refine run_firstCells_some (P := P) w i.size n ad0 n c _ (by rw [hol, hsz]) fun j v hj => ?_
      obtain rfl := had0 (by
        rcases Nat.eq_zero_or_pos n with h0 | h0
        · subst h0; simp at hj
        · omega)
      rw [Addr.add_none, cell_of_row w b (off + j) vs ty (0, 0) (by rw [hw]; exact e1)]
      rw [List.getElem?_take] at hj
      split at hj
      · rw [List.getElem?_drop] at hj; simpa using hj
      · cases hj
    have hmb : m * i.bytes ≤ 281474976710656 := by
      have : m * by' ≤ (n + m) * by' := Nat.mul_le_mul_right _ (by omega)
      rw [← hbyt]; omega
    have hrun := Lib.run_append_grow_zeros (P := P) R.w t tn o.type e i zv kq kn ht htn hi hiz (some ad0) n c ((vs.toList.drop off).take (n * k')) (hold R.w.drew rfl) m (by omega) (by omega) (by omega) (by omega) hmb (growslice_fits (by omega) (by rw [← hbyt]; exact hby'))
    rw [← es, ← hxv] at hrun
    have hge := grownCap_ge R.w (n + m) c e
    have hgm : grownCap R.w (n + m) c e ≤ maxLen := grownCap_le_maxLen _ _ _ _ (by unfold maxLen; omega)
    generalize grownCap R.w (n + m) c e = nc at hrun hge hgm
    have hbel : Below R.w.heap.size R.w (R.w.drew.alloc (.cells (((vs.toList.drop off).take (n * k')).toArray ++ Builtin.zeroCells zv.cells m ++ Builtin.zeroCells zv.cells (nc - (n + m))) e)) := ((Below.refl _ _).drew).alloc (Nat.le_refl _) _
    have hzl : (Builtin.zeroCells zv.cells (nc - (n + m))).toList.length = (nc - (n + m)) * k' := by rw [Array.length_toList, size_zeroCells, hzc]
    obtain ⟨R', L', f1, f2, f3⟩ := h.newBoxW hbel (Nat.le_refl _) ((cs.drop off).take (n * k') ++ (List.replicate m (z.map ofConst)).flatten ++ List.replicate ((nc - (n + m)) * k') .any) (((vs.toList.drop off).take (n * k')).toArray ++ Builtin.zeroCells zv.cells m ++ Builtin.zeroCells zv.cells (nc - (n + m))) e (heap_alloc_new R.w.drew _) (fun M' hM _ _ => by
      simp only [Array.toList_append]
      refine repL_append (repL_append (RepL.ext (R := R) (Ext.of_below hbel hM) (LocLe.refl L) _ _ (repL_take _ (repL_drop _ e2))) ?_) ?_
      · rw [hzz]; exact zeroCells_rep _ k' m hzc hk0
      · rw [← hzl]; exact repL_any _) (fun v hv => by
      simp only [Array.toList_append, List.mem_append] at hv
      rcases hv with (hv | hv) | hv
      · exact e3 v (List.mem_of_mem_drop (List.mem_of_mem_take hv))
      · exact hzone _ v hv
      · exact hzone _ v hv)
    exact Runs.value (hexec _ _ hrun) ⟨_, _, R', L', f1, f2, rep_bs.2 ⟨_, f3, _, rfl, fun _ => rfl⟩, hK nc hge hgm⟩
end
end Go.Proofs.Ytheokoehnmlafaa.Vcg
