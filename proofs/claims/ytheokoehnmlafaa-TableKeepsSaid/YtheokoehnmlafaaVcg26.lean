/- A function's contract, some of its boxes being turned into owners at its end. No condition. -/
import Derived.Test.YtheokoehnmlafaaVcg17
set_option linter.unusedVariables false
set_option linter.unusedSimpArgs false
namespace Go.Proofs.Ytheokoehnmlafaa.Vcg
open Go.RowKit
/-- boxes that become owners at the function's end: the box, its elements' type, their cells, the elements, the room -/
abbrev Fr := List (Nat × TypeId × Nat × List (List C) × Nat)
def frGet (nx : Nat) : Fr → Nat → Nat → Nat → Nat → Nat → C
  | [], _, _, _, _, _ => .any
  | (i', e, k', rows, cap) :: r, i, off, k, n, c => if i = i' ∧ off = 0 ∧ k = k' ∧ n = rows.length ∧ c = cap then .own nx e k' rows else frGet (nx + 1) r i off k n c
theorem frGet_out : ∀ (fr : Fr) (nx i off k n c : Nat), frGet nx fr i off k n c = .any ∨ ∃ j e rows, fr[j]? = some (i, e, k, rows, c) ∧ off = 0 ∧ n = rows.length ∧ frGet nx fr i off k n c = .own (nx + j) e k rows
  | [], nx, i, off, k, n, c => .inl rfl
  | (i', e, k', rows, cap) :: r, nx, i, off, k, n, c => by
    unfold frGet
    split
    · rename_i h
      obtain ⟨rfl, rfl, rfl, rfl, rfl⟩ := h
      exact .inr ⟨0, e, rows, rfl, rfl, rfl, rfl⟩
    · rcases frGet_out r (nx + 1) i off k n c with h | ⟨j, e', rows', h1, h2, h3, h4⟩
      · exact .inl h
      · exact .inr ⟨j + 1, e', rows', by simpa using h1, h2, h3, by rw [h4, show nx + 1 + j = nx + (j + 1) by omega]⟩
def frOk (fr : Fr) (bx : List (List C)) : Prop := (fr.map (·.1)).Nodup ∧ ∀ x ∈ fr, ∃ cs, bx[x.1]? = some cs ∧ 0 < x.2.2.2.2 ∧ x.2.2.2.1.length ≤ x.2.2.2.2 ∧ x.2.2.2.2 ≤ maxLen ∧ cs.length = x.2.2.2.2 * x.2.2.1 ∧ (∀ r ∈ x.2.2.2.1, r.length = x.2.2.1) ∧ (C.frzL cs).take (x.2.2.2.1.length * x.2.2.1) = x.2.2.2.1.flatten
mutual
/-- a result, at the function's end, some boxes being turned into owners -/
def C.fy (nx : Nat) (fr : Fr) (bx : List (List C)) : C → C
  | .ptr i off => if i ∈ fr.map (·.1) then .any else C.fz bx (.ptr i off)
  | .agg cs => .agg (C.fyL nx fr bx cs)
  | .tup cs => .tup (C.fyL nx fr bx cs)
  | .clo fn first cap => .clo fn (C.fyL nx fr bx first) (C.fyL nx fr bx cap)
  | .bs i off k n c => frGet nx fr i off k n c
  | .sc v => .sc v
  | .str l => .str l
  | .sl k rows => .sl k rows
  | .tight k rows => .tight k rows
  | .own id e k rows => .own id e k rows
  | .row cs => .row cs
  | .any => .any
def C.fyL (nx : Nat) (fr : Fr) (bx : List (List C)) : List C → List C
  | [] => []
  | c :: r => c.fy nx fr bx :: C.fyL nx fr bx r
end
/-- the owners, and those that were boxes -/
def frT (nx : Nat) (fr : Fr) (β : List Nat) (T : Own) : Own := fun id => if id < nx then T id else match fr[id - nx]? with
  | some (i, e, k, rows, cap) => (β[i]?).map fun b => (e, k, .slice (some ⟨b, 0, none⟩) rows.length cap)
  | none => none
/-- what may be turned still of boxes that become owners -/
def frM (fr : Fr) (β : List Nat) (b o : Nat) : Prop := ∃ x ∈ fr, β[x.1]? = some b ∧ x.2.2.2.1.length * x.2.2.1 ≤ o
section
variable {P : Program} {G : Globs} {E : Ctx} {σ : St}
theorem frT_out {nx : Nat} {fr : Fr} {β : List Nat} {T : Own} {id e k : Nat} {v : Value} (h : frT nx fr β T id = some (e, k, v)) :
    (id < nx ∧ T id = some (e, k, v)) ∨ (nx ≤ id ∧ ∃ i rows cap b, fr[id - nx]? = some (i, e, k, rows, cap) ∧ β[i]? = some b ∧ v = .slice (some ⟨b, 0, none⟩) rows.length cap) := by
  unfold frT at h
  split at h
  · exact .inl ⟨by assumption, h⟩
  · split at h
    · rename_i i e' k' rows cap hq
      cases hb : β[i]? with
      | none => rw [hb] at h; cases h
      | some b =>
        rw [hb] at h
        cases h
        exact .inr ⟨by omega, i, rows, cap, b, hq, hb, rfl⟩
    · cases h
theorem frT_own {R' : Env} {L' : Loc} {fr : Fr} (hgd : Good G E σ R' L') (hfr : frOk fr σ.bx) {F : Nat → Prop} :
    OwnsOk E.tu ⟨R'.w, fun b o => R'.M b o ∧ (b ∉ L'.β ∨ frM fr L'.β b o), F⟩ ⟨[], frT σ.nx fr L'.β L'.T⟩ := by
  have hold : ∀ id e k v b, L'.T id = some (e, k, v) → v.ownBlock = some b → b ∉ L'.β := fun id e k v b ht hv => ((hgd.fit.owns.own id e k v ht).block hv).2.2
  refine ⟨fun id e k v ht => ?_, fun id id' e k v e' k' v' b ht ht' hv hv' => ?_⟩
  · rcases frT_out ht with ⟨_, ht⟩ | ⟨_, i, rows, cap, b, hf, hb, rfl⟩
    · rcases hgd.fit.owns.own id e k v ht with g | ⟨g, n', cap, cur, ty, q1, q2, q3, q4, q5, q6, q7, q8⟩
      · exact .inl g
      · exact .inr ⟨g, n', cap, cur, ty, q1, q2, q3, q4, q5, q6, by simp, fun o ho => ⟨q8 o ho, .inl q7⟩⟩
    · have hmem := List.mem_of_getElem? hf
      obtain ⟨cs, c1, c2, c3, c4, c5, c6, c7⟩ := hfr.2 _ hmem
      obtain ⟨vs, ty, e1, e2, e3, e4⟩ := hgd.fit.boxes.box i b cs hb c1
      have hl := repL_length e2
      exact .inr ⟨b, rows.length, cap, vs, ty, rfl, hgd.tubx b (List.mem_of_getElem? hb), e1, c3, c4, by simpa [c5] using hl, by simp, fun o ho => ⟨e4 o, .inr ⟨_, hmem, hb, ho⟩⟩⟩
  · rcases frT_out ht with ⟨_, ht⟩ | ⟨g1, i, rows, cap, b1, hf, hb, rfl⟩ <;> rcases frT_out ht' with ⟨_, ht'⟩ | ⟨g1', i', rows', cap', b1', hf', hb', rfl⟩
    · exact hgd.fit.owns.apart id id' e k v e' k' v' b ht ht' hv hv'
    · cases hv'
      exact absurd (List.mem_of_getElem? hb') (hold id e k v _ ht hv)
    · cases hv
      exact absurd (List.mem_of_getElem? hb) (hold id' e' k' v' _ ht' hv')
    · cases hv; cases hv'
      have hii : i = i' := (List.getElem?_inj (List.getElem?_eq_some_iff.1 hb).1 hgd.fit.boxes.nodup).1 (hb.trans hb'.symm)
      subst hii
      have hn := hfr.1
      have h1 : (fr.map (·.1))[id - σ.nx]? = some i := by rw [List.getElem?_map, hf]; rfl
      have h2 : (fr.map (·.1))[id' - σ.nx]? = some i := by rw [List.getElem?_map, hf']; rfl
      have := (List.getElem?_inj (List.getElem?_eq_some_iff.1 h1).1 hn).1 (h1.trans h2.symm)
      omega
theorem frz_cellsN {R R2 : Env} {L : Loc} {b : Nat} {vs : Array Value} {ty : TypeId} (he : Ext R R2) (hh : R2.w.heap[b]? = some (.cells vs ty (0, 0))) {N : Nat} (hM : ∀ o, o < N → ¬ R2.M b o) : ∀ (cs : List C) (us : List Value) (off : Nat), off + cs.length ≤ N → RepL R L cs us → (∃ z, vs.toList.drop off = us ++ z) → (∀ v ∈ us, v.oneCell' = true) → RepCells R2 (C.frzL cs) b off
  | [], _, _, _, _, _, _ => by unfold C.frzL; exact repCells_nil
  | c :: r, us, off, hN, hr, hd, h1 => by
    obtain ⟨v, us', rfl, g1, g2⟩ := repL_cons.1 hr
    obtain ⟨z, hd⟩ := hd
    unfold C.frzL
    simp only [List.length_cons] at hN
    have hv : vs[off]? = some v := by
      have := List.getElem?_drop (xs := vs.toList) (i := off) (j := 0)
      rw [hd] at this
      simpa using this.symm
    refine repCells_cons.2 ⟨⟨v, ?_, hM off (by omega), Rep.ext he (LocLe.refl _) _ _ (g1.frz noLoc), h1 v List.mem_cons_self⟩, frz_cellsN he hh hM r us' (off + 1) (by omega) g2 ⟨z, ?_⟩ fun x hx => h1 x (List.mem_cons_of_mem _ hx)⟩
    · rw [cell_of_row R2.w b off vs ty (0, 0) hh]; exact hv
    · rw [← List.drop_drop, hd]; rfl
theorem frzL_take : ∀ (n : Nat) (cs : List C), C.frzL (cs.take n) = (C.frzL cs).take n
  | 0, cs => by simp [C.frzL]
  | n + 1, [] => by simp [C.frzL]
  | n + 1, c :: r => by
    have h : C.frzL (c :: r) = c.frz :: C.frzL r := by rw [C.frzL]
    rw [List.take_succ_cons, h, List.take_succ_cons, ← frzL_take n r]
    rw [C.frzL]
theorem rows_of_cells {R : Env} {b k : Nat} : ∀ (rows : List (List C)) (off : Nat), (∀ r ∈ rows, r.length = k) → RepCells R rows.flatten b off → RepRows R rows k b off
  | [], _, _, _ => by unfold RepRows; trivial
  | row :: r, off, hk, h => by
    have hrow := hk row List.mem_cons_self
    rw [List.flatten_cons] at h
    unfold RepRows
    refine ⟨hrow, repCells_of_get fun j c hc => ?_, rows_of_cells r (off + k) (fun x hx => hk x (List.mem_cons_of_mem _ hx)) (repCells_of_get fun j c hc => ?_)⟩
    · exact repCells_get h j c (by rw [List.getElem?_append_left (List.getElem?_eq_some_iff.1 hc).1]; exact hc)
    · have := repCells_get h (k + j) c (by rw [List.getElem?_append_right (by omega), hrow, Nat.add_sub_cancel_left]; exact hc)
      rwa [← Nat.add_assoc] at this
mutual
theorem Rep.fy {R R2 : Env} {L : Loc} {bx : List (List C)} {fr : Fr} {nx : Nat} {F : Nat → Prop} (he : Ext R R2) (hbx : BoxesOk R L bx) (h2 : R2 = ⟨R.w, fun b o => R.M b o ∧ (b ∉ L.β ∨ frM fr L.β b o), F⟩) (hfr : frOk fr bx) (hnx : ∀ id, nx ≤ id → L.T id = none) : ∀ (c : C) (v : Value), Rep R L c v → Rep R2 ⟨L.β, frT nx fr L.β L.T⟩ (c.fy nx fr bx) v
  | .ptr i off, v, h => by
    unfold C.fy
    split
    · exact le_any
    rename_i hni
    unfold C.fz
    obtain ⟨b, hb, e⟩ := rep_ptr.1 h
    split
    · rename_i cs hcs
      obtain ⟨vs, ty, e1, e2, e3, e4⟩ := hbx.box i b cs hb hcs
      refine rep_row.2 ⟨b, off, e, ?_⟩
      rw [← frzL_drop]
      refine frz_cells (L := L) he (by rw [h2]; exact e1) (fun o => ?_) _ (vs.toList.drop off) off (repL_drop off e2) rfl fun x hx => e3 x (List.mem_of_mem_drop hx)
      rw [h2]
      rintro ⟨_, h3 | ⟨x, hx, hxb, _⟩⟩
      · exact h3 (List.mem_of_getElem? hb)
      · have := (List.getElem?_inj (List.getElem?_eq_some_iff.1 hb).1 hbx.nodup).1 (hb.trans hxb.symm)
        subst this
        exact hni (List.mem_map.2 ⟨x, hx, rfl⟩)
    · exact le_any
  | .agg cs, _, h => by
    unfold C.fy; unfold Rep at h ⊢
    obtain ⟨vs, e, hl⟩ := h
    exact ⟨vs, e, RepL.fy he hbx h2 hfr hnx cs _ hl⟩
  | .tup cs, _, h => by
    unfold C.fy; unfold Rep at h ⊢
    obtain ⟨vs, e, hl⟩ := h
    exact ⟨vs, e, RepL.fy he hbx h2 hfr hnx cs _ hl⟩
  | .clo fn first cap, _, h => by
    unfold C.fy; unfold Rep at h ⊢
    obtain ⟨fs, cs, e, h3, h4⟩ := h
    exact ⟨fs, cs, e, RepL.fy he hbx h2 hfr hnx first _ h3, RepL.fy he hbx h2 hfr hnx cap _ h4⟩
  | .sc v, _, h => by unfold C.fy; unfold Rep at h ⊢; exact h
  | .str l, _, h => by unfold C.fy; unfold Rep at h ⊢; exact h
  | .sl k rows, v, h => by
    unfold C.fy
    exact Rep.ext he (LocLe.none _) (.sl k rows) v (T := noLoc) (by unfold Rep at h ⊢; exact h)
  | .tight k rows, v, h => by
    unfold C.fy
    exact Rep.ext he (LocLe.none _) (.tight k rows) v (T := noLoc) (by unfold Rep at h ⊢; exact h)
  | .own id e k rows, v, h => by
    unfold C.fy
    have h3 := Rep.ext he (LocLe.none ⟨L.β, frT nx fr L.β L.T⟩) (.sl k rows) v (T := noLoc) (by unfold Rep at h ⊢; exact h.2)
    unfold Rep at h h3 ⊢
    refine ⟨?_, h3⟩
    have hlt : id < nx := by
      rcases Nat.lt_or_ge id nx with q | q
      · exact q
      · have := hnx id q; rw [h.1] at this; cases this
    show frT nx fr L.β L.T id = _
    unfold frT
    rw [if_pos hlt]; exact h.1
  | .row cs, v, h => by
    unfold C.fy
    exact Rep.ext he (LocLe.none _) (.row cs) v (T := noLoc) (by unfold Rep at h ⊢; exact h)
  | .bs i off k n c, v, h => by
    unfold C.fy
    obtain ⟨b, hb, ad, e, had⟩ := rep_bs.1 h
    rcases frGet_out fr nx i off k n c with hq | ⟨j, e', rows, hj, rfl, rfl, hq⟩
    · rw [hq]; exact le_any
    · rw [hq]
      have hmem := List.mem_of_getElem? hj
      obtain ⟨cs, c1, c2, c3, c4, c5, c6, c7⟩ := hfr.2 _ hmem
      simp only at c1 c2 c3 c4 c5 c6 c7
      obtain ⟨vs, ty, e1, e2, e3, e4⟩ := hbx.box i b cs hb c1
      obtain rfl := had (by omega)
      unfold Rep
      refine ⟨?_, some ⟨b, 0, none⟩, c, e, c3, c4, .inr ⟨b, 0, rfl, rows_of_cells rows 0 c6 ?_⟩⟩
      · show frT nx fr L.β L.T (nx + j) = _
        unfold frT
        rw [if_neg (by omega), Nat.add_sub_cancel_left, hj]
        simp only [hb, Option.map_some, e]
      · rw [← c7, ← frzL_take]
        have hlen : (cs.take (rows.length * k)).length = rows.length * k := by
          rw [List.length_take]
          have : rows.length * k ≤ c * k := Nat.mul_le_mul_right _ c3
          omega
        refine frz_cellsN (L := L) (N := rows.length * k) he (by rw [h2]; exact e1) (fun o ho => ?_) _ (vs.toList.take (rows.length * k)) 0 (by omega) (repL_take _ e2) ⟨vs.toList.drop (rows.length * k), by simp⟩ fun x hx => e3 x (List.mem_of_mem_take hx)
        rw [h2]
        rintro ⟨_, h3 | ⟨x, hx, hxb, hxo⟩⟩
        · exact h3 (List.mem_of_getElem? hb)
        · have hii := (List.getElem?_inj (List.getElem?_eq_some_iff.1 hb).1 hbx.nodup).1 (hb.trans hxb.symm)
          obtain ⟨j2, hj2, hj2'⟩ := List.getElem_of_mem hx
          have g1 : (fr.map (·.1))[j]? = some i := by rw [List.getElem?_map, hj]; rfl
          have g2 : (fr.map (·.1))[j2]? = some i := by rw [List.getElem?_map, List.getElem?_eq_getElem hj2, hj2', hii]; rfl
          have := (List.getElem?_inj (List.getElem?_eq_some_iff.1 g1).1 hfr.1).1 (g1.trans g2.symm)
          subst this
          rw [List.getElem?_eq_getElem hj2, hj2'] at hj
          cases hj
          simp only at hxo
          omega
  | .any, _, h => by unfold C.fy; exact le_any
theorem RepL.fy {R R2 : Env} {L : Loc} {bx : List (List C)} {fr : Fr} {nx : Nat} {F : Nat → Prop} (he : Ext R R2) (hbx : BoxesOk R L bx) (h2 : R2 = ⟨R.w, fun b o => R.M b o ∧ (b ∉ L.β ∨ frM fr L.β b o), F⟩) (hfr : frOk fr bx) (hnx : ∀ id, nx ≤ id → L.T id = none) : ∀ (cs : List C) (vs : List Value), RepL R L cs vs → RepL R2 ⟨L.β, frT nx fr L.β L.T⟩ (C.fyL nx fr bx cs) vs
  | [], _, h => by unfold C.fyL; rw [repL_nil] at h ⊢; exact h
  | c :: r, _, h => by
    unfold C.fyL; rw [repL_cons] at h ⊢
    obtain ⟨v, us, e, h3, h4⟩ := h
    exact ⟨v, us, e, Rep.fy he hbx h2 hfr hnx c v h3, RepL.fy he hbx h2 hfr hnx r us h4⟩
end
theorem Fun.of_awpF {f : FuncId} {fn : Func} {code : Code} {args : List C} {r : C} {n : Nat} (b : Nat → List Bool) (hm : P.follows .mixedOrders = true) (hf : P.funcs[f]? = some fn) (hb : fn.body = some code) (hnm : (fn.name == "runtime.NumGoroutine") = false) (hN : args.length ≤ fn.ntmps) (hok : codeOk fn.ntmps b code = true)
    (h : awp P G ⟨0, none, b⟩ code (retK P fn.results.toList fun c σ => ∃ (fr : Fr) (src : Src), frOk fr σ.bx ∧ srcOk src = true ∧ src.length = n ∧ CLe src 0 (c.fy σ.nx fr σ.bx) r) ⟨tmOf 0 args, [], 0, 0⟩) : Fun P G f args r n := by
  refine ⟨by unfold entersB; rw [hf]; simp [hnm, hb], fun R vs hg hargs => ?_⟩
  let E : Ctx := ⟨R.w, R.M, [], fun _ => False, fn.ntmps, [], fun _ => False, fun _ => False, fun _ h => h, fun _ _ => True, fun _ _ _ _ _ => trivial⟩
  let R0 : Env := ⟨R.w, R.M, fun _ => False⟩
  have hx : Ext R R0 := ⟨fun _ _ _ h1 h2 => ⟨h1, h2⟩⟩
  have hargs0 : RepL R0 noLoc args vs := RepL.ext hx (LocLe.refl _) _ _ hargs
  obtain ⟨i1, i2⟩ := init_tmps hN hargs0
  have hinv : InvV G E ⟨tmOf 0 args, [], 0, 0⟩ { tmps := vs.toArray ++ Array.replicate (fn.ntmps - vs.toArray.size) undef, defers := [] } R0 noLoc :=
    ⟨⟨⟨hg.ext hx, ⟨rfl, List.nodup_nil, fun i b cs hi => (by simp at hi)⟩, ⟨fun id e k v ht => (by cases ht), fun id id' e k v e' k' v' b ht => (by cases ht)⟩, fun g hg => .inl hg⟩, rfl, rfl, rfl, Nat.le_refl _, fun _ _ _ _ => ⟨rfl, fun _ => Iff.rfl⟩, ⟨fun _ _ _ h1 h2 => ⟨h1, h2⟩⟩, ⟨[], rfl⟩, fun b hb => (by cases hb), fun _ h => h.elim, fun _ _ => Iff.rfl, fun b hb => (by cases hb), fun id e k v b ht => (by cases ht), fun _ _ => rfl, trivial⟩, i1, ⟨[], rfl, List.nodup_nil, fun d hd => (by cases hd)⟩, i2⟩
  refine calls_of_awp (E := E) (R := R0) hm hf hb hok rfl rfl (Nat.zero_le _) (fun y hy => by cases hy) h hinv ?_
  rintro σ' a' R' L' v c ⟨fr, src, hfr, h3, h4, h5⟩ hI h2
  have hgd := hI.good
  have hblk : ∀ b, b < R.w.heap.size → R'.w.heap[b]? = R.w.heap[b]? ∧ ∀ o, (R'.M b o ↔ R.M b o) := fun b hb => hgd.blk b hb (fun h => h) fun hF => (hgd.fz b hb).1 hF
  have hnew : ∀ b ∈ L'.β, R.w.heap.size ≤ b := fun b hb => (hgd.tub b hb).elim id fun g => g.elim
  let R2 : Env := ⟨R'.w, fun b o => R'.M b o ∧ (b ∉ L'.β ∨ frM fr L'.β b o), R.F⟩
  let T2 : Own := frT σ'.nx fr L'.β L'.T
  have hx2 : Ext R' R2 := ⟨fun _ _ _ h1 h2 => ⟨h1, fun h => h2 h.1⟩⟩
  have hown2 : OwnsOk E.tu R2 ⟨[], T2⟩ := frT_own hgd hfr
  have how := srcT_own (β' := []) h3 (fun b hb => (by cases hb)) hown2
  have hfz : Rep R2 ⟨L'.β, T2⟩ (c.fy σ'.nx fr σ'.bx) v := Rep.fy hx2 hgd.fit.boxes rfl hfr (fun id hid => hgd.free id hid) _ _ h2
  refine ⟨v, R2, lessLoc src 0 ⟨L'.β, T2⟩, rfl, rfl, ⟨⟨hgd.os, hgd.tape, hgd.output, hgd.size, fun b hb => (hblk b hb).1⟩, rfl, by simp, fun b o hb => ?_, fun id hi => ?_, fun id e k v hi hj ht => ?_, fun id id' e k v e' k' v' b hi hi2 hj hj2 h6 h7 h8 h9 => ?_⟩, Rep.less _ _ _ h5 hfz⟩
  · refine ⟨fun h => ((hblk b hb).2 o).1 h.1, fun h => ⟨((hblk b hb).2 o).2 h, .inl fun hx => ?_⟩⟩
    have := hnew b hx; omega
  · show srcT src T2 id = none
    unfold srcT
    rw [List.getElem?_eq_none (by omega)]
  · rcases how.own id e k v ht with g | ⟨g, n', cap, cur, ty, q1, q2, q3, q4, q5, q6, q7, q8⟩
    · exact .inl g
    · refine .inr ⟨g, n', cap, cur, ty, q1, ?_, q3, q4, q5, q6, q7, q8⟩
      rcases q2 with q2 | q2
      · exact q2
      · exact q2.elim
  · exact how.apart id id' e k v e' k' v' b h6 h7 h8 h9
end
end Go.Proofs.Ytheokoehnmlafaa.Vcg
