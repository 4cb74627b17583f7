/- Operations that make memory and turn none: literals, new slices, appends onto nothing, conversions, calls. No condition. -/
import Derived.Test.YtheokoehnmlafaaVcg5
set_option linter.unusedVariables false
set_option linter.unusedSimpArgs false
namespace Go.Proofs.Ytheokoehnmlafaa.Vcg
open Go.RowKit
section
variable {P : Program} {G : Globs} {bx : List (List C)} {ev : Operand → C} {nx : Nat} {o : Oper}
theorem repCells_vals {R : Env} : ∀ {cs : List C} {b off : Nat}, RepCells R cs b off → ∃ vs : List Value, (∀ (j : Nat) v, vs[j]? = some v → R.w.cell? ⟨b, off + j, none⟩ = some v) ∧ RepL R noLoc cs vs ∧ ∀ v ∈ vs, v.oneCell' = true
  | [], _, _, _ => ⟨[], fun j v h => by simp at h, repL_nil.2 rfl, fun v h => by cases h⟩
  | x :: r, b, off, h => by
    obtain ⟨⟨v0, e1, e2, e3, e4⟩, h2⟩ := repCells_cons.1 h
    obtain ⟨us, g1, g2, g3⟩ := repCells_vals h2
    refine ⟨v0 :: us, fun j v hj => ?_, repL_cons.2 ⟨v0, us, rfl, e3, g2⟩, fun v hv => ?_⟩
    · cases j with
      | zero => simp at hj; subst hj; exact e1
      | succ j =>
        have := g1 j v (by simpa using hj)
        rwa [show off + (j + 1) = off + 1 + j by omega]
    · rcases List.mem_cons.1 hv with rfl | hv
      · exact e4
      · exact g3 v hv
theorem flatten_length {k : Nat} : ∀ {rows : List (List C)}, (∀ r ∈ rows, r.length = k) → rows.flatten.length = rows.length * k
  | [], _ => by simp
  | r :: rs, h => by
    rw [List.flatten_cons, List.length_append, h r List.mem_cons_self, flatten_length fun x hx => h x (List.mem_cons_of_mem _ hx), List.length_cons, Nat.add_mul]; omega
theorem flatten_get {k : Nat} : ∀ {rows : List (List C)}, (∀ r ∈ rows, r.length = k) → ∀ (i j : Nat) row, rows[i]? = some row → j < k → rows.flatten[i * k + j]? = row[j]?
  | [], _, i, j, row, h, _ => by simp at h
  | r :: rs, h, 0, j, row, hr, hj => by
    simp at hr; subst hr
    rw [List.flatten_cons, Nat.zero_mul, Nat.zero_add, List.getElem?_append_left (by rw [h r List.mem_cons_self]; exact hj)]
  | r :: rs, h, i + 1, j, row, hr, hj => by
    have h0 := h r List.mem_cons_self
    rw [List.flatten_cons, List.getElem?_append_right (by rw [h0, Nat.add_mul]; omega)]
    have := flatten_get (fun x hx => h x (List.mem_cons_of_mem _ hx)) i j row (by simpa using hr) hj
    rw [← this]
    congr 1
    rw [h0, Nat.add_mul]; omega
/-- a new slice of the walk's own, in a new block -/
theorem own_new {R : Env} {L : Loc} {w' : World} {g cap e k nx : Nat} {cur : Array Value} {rows : List (List C)} {vs : List Value} (hβ : ∀ b ∈ L.β, b < R.w.heap.size)
    (hb : Below R.w.heap.size R.w w') (hg : R.w.heap.size ≤ g) (hh : w'.heap[g]? = some (.cells cur e (0, 0))) (hcur : cur.size = cap * k) (hk : ∀ r ∈ rows, r.length = k)
    (hrep : RepL R noLoc rows.flatten vs) (hone : ∀ v ∈ vs, v.oneCell' = true) (htake : cur.toList.take (rows.length * k) = vs) (hcap : rows.length ≤ cap) (hm : cap ≤ maxLen) :
    ∃ R' L', R'.w = w' ∧ PStep nx (nx + 1) R L R' L' ∧ Rep R' L' (.own nx e k rows) (.slice (some ⟨g, 0, none⟩) rows.length cap) := by
  have hext : Ext R ⟨w', fun b o => (b < R.w.heap.size ∧ R.M b o) ∨ (b = g ∧ rows.length * k ≤ o), R.F⟩ := by
    refine Ext.of_below hb fun b o h => ⟨fun h' => ?_, fun h' => .inl ⟨h, h'⟩⟩
    rcases h' with h' | h'
    · exact h'.2
    · omega
  refine ⟨⟨w', fun b o => (b < R.w.heap.size ∧ R.M b o) ∨ (b = g ∧ rows.length * k ≤ o), R.F⟩, ⟨L.β, fun id => if id = nx then some (e, k, .slice (some ⟨g, 0, none⟩) rows.length cap) else L.T id⟩, rfl, ⟨hb, rfl, rfl, fun b o h => ⟨fun h' => ?_, fun h' => .inl ⟨h, h'⟩⟩, fun id hi => if_neg (by omega), fun id e' k' v' hi hi2 h => ?_, fun id id' e1 k1 v1 e2 k2 v2 b hi hi2 hj hj2 h1 h2 h3 h4 => by omega⟩, rep_own.2 ⟨if_pos rfl, _, _, rfl, hcap, hm, ?_⟩⟩
  · rcases h' with h' | h'
    · exact h'.2
    · omega
  · simp only at h
    rw [if_pos (by omega)] at h
    cases h
    exact .inr ⟨g, _, cap, cur, _, rfl, hg, hh, hcap, hm, hcur, fun hx => by have := hβ g hx; omega, fun o ho => .inr ⟨rfl, ho⟩⟩
  · by_cases h0 : rows = []
    · exact .inl h0
    · refine .inr ⟨g, 0, rfl, repRows_of_get fun i row hrow => ⟨hk row (List.mem_of_getElem? hrow), repCells_of_get fun j c hc => ?_⟩⟩
      have hkr := hk row (List.mem_of_getElem? hrow)
      have hj : j < k := by rw [← hkr]; exact (List.getElem?_eq_some_iff.1 hc).1
      have hi : i < rows.length := (List.getElem?_eq_some_iff.1 hrow).1
      have hf := flatten_get hk i j row hrow hj
      rw [hc] at hf
      obtain ⟨v, hv, hr⟩ := repL_get hrep _ _ hf
      have hlt2 : i * k + j < rows.length * k := by
        have : (i + 1) * k ≤ rows.length * k := Nat.mul_le_mul_right _ hi
        rw [Nat.add_mul] at this; omega
      refine ⟨v, ?_, ?_, Rep.ext hext (LocLe.refl _) _ _ hr, hone v (List.mem_of_getElem? hv)⟩
      · rw [cell_of_row w' g (0 + i * k + j) cur e (0, 0) hh]
        rw [← htake, List.getElem?_take] at hv
        rw [Nat.zero_add]
        rw [if_pos hlt2] at hv
        simpa using hv
      · rintro (hx | hx)
        · omega
        · omega
theorem own_nil {R : Env} {L : Loc} {e k nx : Nat} :
    ∃ R' L', R'.w = R.w ∧ PStep nx (nx + 1) R L R' L' ∧ Rep R' L' (.own nx e k []) (.slice none 0 0) := by
  refine ⟨R, ⟨L.β, fun id => if id = nx then some (e, k, .slice none 0 0) else L.T id⟩, rfl, ⟨Below.refl _ _, rfl, rfl, fun b o h => Iff.rfl, fun id hi => if_neg (by omega), fun id e' k' v' hi hi2 h => ?_, fun id id' e1 k1 v1 e2 k2 v2 b hi hi2 hj hj2 h1 h2 h3 h4 => by omega⟩, rep_own.2 ⟨if_pos rfl, _, _, rfl, Nat.le_refl _, Nat.zero_le _, .inl rfl⟩⟩
  simp only at h
  rw [if_pos (by omega)] at h
  cases h
  exact .inl rfl
theorem Fit.β_lt {B : Nat → Prop} {R : Env} {L : Loc} (hf : Fit G B bx R L) : ∀ b ∈ L.β, b < R.w.heap.size := fun b hb => by
  obtain ⟨i, hi, rfl⟩ := List.getElem_of_mem hb
  have hl := hf.boxes.len
  obtain ⟨vs, ty, h, _⟩ := hf.boxes.box i L.β[i] (bx[i]'(by omega)) (List.getElem?_eq_getElem hi) (List.getElem?_eq_getElem (by omega))
  exact heap_lt h
/-- a step that makes memory which nobody names -/
theorem PStep.mem {R : Env} {L : Loc} {w' : World} (hb : Below R.w.heap.size R.w w') : PStep nx nx R L ⟨w', fun b o => b < R.w.heap.size ∧ R.M b o, R.F⟩ L :=
  ⟨hb, rfl, rfl, fun b o h => ⟨fun h' => h'.2, fun h' => ⟨h, h'⟩⟩, fun _ _ => rfl, fun id e k v h h' => by omega, fun id id' e k v e' k' v' b h h' => by omega⟩
/-- values of a literal's parts, laid into cells -/
def aFill (place : Nat → Option (Nat × Nat)) (cs : List C) : List (Nat × C) → Option (List C)
  | [] => some cs
  | (i, c) :: rest =>
    match place i with
    | none => none
    | some (off, size) => if c.cells.length = size ∧ off + size ≤ cs.length then aFill place (cs.take off ++ c.cells ++ cs.drop (off + size)) rest else none
def C.partB : C → Bool
  | .agg _ => true
  | c => c.cellB
theorem rep_cells {R : Env} {L : Loc} {c : C} {v : Value} (h : Rep R L c v) (hc : c.partB = true) : RepL R L c.cells v.cells.toList := by
  cases c <;> simp only [C.partB] at hc
  case agg cs => obtain ⟨vs, rfl, hl⟩ := rep_agg.1 h; exact hl
  all_goals
    have h1 := h.oneCell hc
    have : v.cells = #[v] := by cases v <;> simp_all [Value.oneCell', Value.cells]
    rw [this]
    exact repL_cons.2 ⟨v, [], rfl, h, repL_nil.2 rfl⟩
theorem foldl_cells : ∀ (us : List Value) (k off : Nat) (cs : Array Value), off + k + us.length ≤ cs.size →
    ((us.zipIdx k).foldl (fun (cs : Array Value) (p : Value × Nat) => cs.setIfInBounds (off + p.2) p.1) cs).toList = cs.toList.take (off + k) ++ us ++ cs.toList.drop (off + k + us.length)
  | [], k, off, cs, h => by simp
  | u :: us, k, off, cs, h => by
    simp only [List.zipIdx_cons, List.foldl_cons]
    rw [foldl_cells us (k + 1) off _ (by simp at h ⊢; omega)]
    simp only [List.length_cons] at h ⊢
    apply List.ext_getElem?
    intro i
    simp only [Array.toList_setIfInBounds]
    rcases Nat.lt_trichotomy i (off + k) with hi | hi | hi
    · rw [List.append_assoc, List.append_assoc, List.getElem?_append_left (by simp at h ⊢; omega), List.getElem?_append_left (by simp at h ⊢; omega)]
      rw [List.getElem?_take, List.getElem?_take, if_pos (by omega), if_pos hi, List.getElem?_set_ne (by omega)]
    · subst hi
      rw [List.append_assoc, List.append_assoc, List.getElem?_append_left (by simp at h ⊢; omega), List.getElem?_append_right (by simp at h ⊢; omega)]
      rw [List.getElem?_take, if_pos (by omega), List.getElem?_set_self (by simpa using (by omega : off + k < cs.size))]
      simp [Nat.min_eq_left (by omega : off + k ≤ cs.size)]
    · have e1 : (cs.toList.set (off + k) u).take (off + (k + 1)) = cs.toList.take (off + k) ++ [u] := by
        apply List.ext_getElem?
        intro j
        rcases Nat.lt_trichotomy j (off + k) with hj | hj | hj
        · rw [List.getElem?_append_left (by simp; omega), List.getElem?_take, List.getElem?_take, if_pos (by omega), if_pos hj, List.getElem?_set_ne (by omega)]
        · subst hj
          rw [List.getElem?_append_right (by simp; omega), List.getElem?_take, if_pos (by omega), List.getElem?_set_self (by simp; omega)]
          simp [Nat.min_eq_left (by omega : off + k ≤ cs.size)]
        · rw [List.getElem?_append_right (by simp; omega), List.getElem?_take, if_neg (by omega), List.getElem?_eq_none (by simp; omega)]
      have e2 : (cs.toList.set (off + k) u).drop (off + (k + 1) + us.length) = cs.toList.drop (off + k + (us.length + 1)) := by
        rw [List.drop_set_of_lt (by omega)]
        congr 1; omega
      rw [e1, e2]
      simp
theorem run_fill {R : Env} {L : Loc} (place : Nat → Option (Nat × Nat)) : ∀ (parts : List (Nat × C)) (pv : List (Nat × Value)) (cs : List C) (vs : Array Value) (out : List C),
    RepL R L cs vs.toList → pv.map (·.1) = parts.map (·.1) → RepL R L (parts.map (·.2)) (pv.map (·.2)) → (∀ p ∈ parts, p.2.partB = true) → aFill place cs parts = some out →
    ∃ us : Array Value, Instr.fill place vs pv = some us ∧ RepL R L out us.toList
  | [], pv, cs, vs, out, h, h1, h2, h3, h4 => by
    cases pv with
    | nil => simp only [aFill] at h4; cases h4; exact ⟨vs, rfl, h⟩
    | cons p q => simp at h1
  | (i, c) :: rest, pv, cs, vs, out, h, h1, h2, h3, h4 => by
    cases pv with
    | nil => simp at h1
    | cons p q =>
      obtain ⟨i', v⟩ := p
      simp only [List.map_cons, List.cons.injEq] at h1
      obtain ⟨rfl, h1⟩ := h1
      simp only [List.map_cons] at h2
      obtain ⟨v', us, e, hv, h2⟩ := repL_cons.1 h2
      cases e
      simp only [aFill] at h4
      cases hp : place i' with
      | none => simp [hp] at h4
      | some x =>
        obtain ⟨off, size⟩ := x
        simp only [hp] at h4
        split at h4
        · rename_i hc
          have hcells := rep_cells hv (h3 (i', c) List.mem_cons_self)
          have hl1 := repL_length hcells
          have hl2 := repL_length h
          simp only [Array.length_toList] at hl1 hl2
          have hfold := foldl_cells v.cells.toList 0 off vs (by simp; omega)
          obtain ⟨out', g1, g2⟩ := run_fill place rest q (cs.take off ++ c.cells ++ cs.drop (off + size)) (v.cells.zipIdx.foldl (fun cs (p : Value × Nat) => cs.setIfInBounds (off + p.2) p.1) vs) out (by
            have : (v.cells.zipIdx.foldl (fun (cs : Array Value) (p : Value × Nat) => cs.setIfInBounds (off + p.2) p.1) vs).toList = vs.toList.take off ++ v.cells.toList ++ vs.toList.drop (off + size) := by
              rw [← Array.foldl_toList, Array.toList_zipIdx]
              rw [hfold]
              simp only [Nat.add_zero, Array.length_toList]
              rw [hl1, hc.1]
            rw [this]
            exact repL_append (repL_append (repL_take off h) hcells) (repL_drop (off + size) h)) h1 h2 (fun p hp => h3 p (List.mem_cons_of_mem _ hp)) h4
          refine ⟨out', ?_, g2⟩
          simp only [Instr.fill, hp]
          rw [if_neg (by simp; omega)]
          exact g1
        · cases h4
end
end Go.Proofs.Ytheokoehnmlafaa.Vcg
