/- Operations that make memory and turn none, on abstract values: what each answers, and that it does. No condition. -/
import Derived.Test.YtheokoehnmlafaaVcg6
set_option linter.unusedVariables false
set_option linter.unusedSimpArgs false
namespace Go.Proofs.Ytheokoehnmlafaa.Vcg
open Go.RowKit
section
variable {P : Program} {G : Globs} {bx : List (List C)} {ev : Operand → C} {nx : Nat} {o : Oper}
theorem repL_ofConst {R : Env} {T : Loc} : ∀ vs : List Value, RepL R T (vs.map ofConst) vs
  | [] => repL_nil.2 rfl
  | v :: r => repL_cons.2 ⟨v, _, rfl, rep_ofConst R T v, repL_ofConst r⟩
/-- a struct of its parts -/
def aBuild (P : Program) (t : TypeId) (parts : List (Nat × C)) (K : C → Prop) : Prop :=
  match lay P t with
  | some ⟨.struct fs, _, _, some z⟩ => (parts.all fun p => p.2.partB) = true ∧ match aFill (fun i => (fs[i]?).map fun f => (f.1, f.2.1)) (z.map ofConst) parts with
    | some cs => K (.agg cs)
    | none => False
  | _ => False
theorem info_of_underlying {t : TypeId} (h : (P.underlying t).isSome = true) : ∃ i, P.info? t = some i := by
  cases hq : P.info? t with
  | none => unfold Program.underlying at h; simp [hq] at h
  | some i => exact ⟨i, rfl⟩
theorem places_mapM : ∀ (fields : List Field), (∀ f ∈ fields, (P.underlying f.type).isSome = true) →
    fields.mapM (fun f => (P.info? f.type).map fun i => (f.offset, i.size)) = some (fields.map fun f => (f.offset, ((P.info? f.type).map (·.size)).getD 0))
  | [], _ => rfl
  | f :: r, h => by
    obtain ⟨i, hi⟩ := info_of_underlying (h f List.mem_cons_self)
    simp [List.mapM_cons, hi, places_mapM r fun g hg => h g (List.mem_cons_of_mem _ hg)]
theorem repL_parts {R : Env} {L : Loc} {ρ : Operand → Value} (hr : ∀ x, Rep R L (ev x) (ρ x)) : ∀ l : List (Nat × Operand), RepL R L ((l.map fun p => (p.1, ev p.2)).map (·.2)) ((l.map fun p => (p.1, ρ p.2)).map (·.2))
  | [] => repL_nil.2 rfl
  | x :: r => repL_cons.2 ⟨_, _, rfl, hr x.2, repL_parts hr r⟩
theorem pure_build {t : TypeId} {parts : Array (Nat × Operand)} (ho : o.op = .build t parts) (K : C → Prop) (h : aBuild P t (parts.toList.map fun p => (p.1, ev p.2)) K) : ∃ c, PureSem P G bx ev nx o c nx ∧ K c := by
  unfold aBuild at h
  split at h
  · rename_i fs s b z hl
    obtain ⟨hall, h⟩ := h
    obtain ⟨fields, hfu, hfk, hfs⟩ := lay_struct hl rfl
    obtain ⟨i, d, hi, hd, _, _, _, hz⟩ := lay_spec hl
    split at h
    · rename_i cs hfill
      refine ⟨_, .of_same fun B R L ρ hf hr => ?_, h⟩
      cases hiz : i.zero with
      | none => simp [hiz] at hz
      | some zv =>
        simp only [hiz, Option.map_some, Option.some.injEq] at hz
        subst hz
        obtain ⟨us, g1, g2⟩ := run_fill (R := R) (L := L) (fun i => (fs[i]?).map fun f => (f.1, f.2.1)) (parts.toList.map fun p => (p.1, ev p.2)) (parts.toList.map fun p => (p.1, ρ p.2)) (zv.cells.toList.map ofConst) zv.cells cs
          (repL_ofConst _) (by simp) (repL_parts hr _) (fun p hp => List.all_eq_true.1 hall p hp) hfill
        have hb : P.built t (parts.map fun p => (p.1, ρ p.2)).toList = some us := by
          unfold Program.built
          rw [hi, hfu]
          simp only [hiz]
          rw [places_mapM _ hfk]
          simp only
          have hpl : (fun x : Nat => (fields.toList.map fun f => (f.offset, ((P.info? f.type).map (·.size)).getD 0)).toArray[x]?) = fun i : Nat => (fs[i]?).map fun f : Nat × Nat × Bool => (f.1, f.2.1) := by
            funext x
            rw [hfs]
            simp only [List.getElem?_toArray, List.getElem?_map, Option.map_map]
            rfl
          rw [hpl, Array.toList_map]
          exact g1
        have hrun := run_build (P := P) R.w t (parts.map fun p => (p.1, ρ p.2)) us hb
        refine ⟨.agg us, ?_, rep_agg.2 ⟨us, rfl, g2⟩⟩
        unfold execOp
        simp only [ho]
        rw [Sem.run_bind, hrun]; rfl
    · exact h.elim
  · exact h.elim
/-- rows of a list of cells -/
def aRows (k : Nat) : Nat → List C → List (List C)
  | 0, _ => []
  | n + 1, cs => cs.take k :: aRows k n (cs.drop k)
theorem aRows_length (k : Nat) : ∀ (n : Nat) (cs : List C), (aRows k n cs).length = n
  | 0, _ => rfl
  | n + 1, cs => by simp [aRows, aRows_length k n]
theorem aRows_row (k : Nat) : ∀ (n : Nat) (cs : List C), n * k ≤ cs.length → ∀ r ∈ aRows k n cs, r.length = k
  | 0, _, _, r, h => by cases h
  | n + 1, cs, hl, r, h => by
    rw [Nat.add_mul] at hl
    rcases List.mem_cons.1 h with rfl | h
    · simp; omega
    · exact aRows_row k n _ (by simp; omega) r h
theorem aRows_flatten (k : Nat) : ∀ (n : Nat) (cs : List C), cs.length = n * k → (aRows k n cs).flatten = cs
  | 0, cs, h => by simp at h; simp [aRows, h]
  | n + 1, cs, h => by
    rw [Nat.add_mul] at h
    simp only [aRows, List.flatten_cons]
    rw [aRows_flatten k n _ (by simp; omega), List.take_append_drop]
/-- a slice of its parts -/
def aBuildSlice (P : Program) (t : TypeId) (n : Nat) (parts : List (Nat × C)) (nx : Nat) (K : C → Nat → Prop) : Prop :=
  match lay P t with
  | some ⟨.slice e, _, _, _⟩ => match lay P e with
    | some ⟨_, k, _, some z⟩ => z.length = k ∧ 0 < k ∧ n * k ≤ 16777216 ∧ (parts.all fun p => p.2.frz.partB) = true ∧ match aFill (fun i => some (i * k, k)) (List.replicate n (z.map ofConst)).flatten (parts.map fun p => (p.1, p.2.frz)) with
      | some cs => (cs.all C.cellB) = true ∧ cs.length = n * k ∧ K (.own nx e k (aRows k n cs)) (nx + 1)
      | none => False
    | _ => False
  | _ => False
theorem replicate_flatten_get {α : Type} (z : List α) (k : Nat) (hz : z.length = k) : ∀ (n p : Nat), p < n * k → (List.replicate n z).flatten[p]? = z[p % k]?
  | 0, p, h => by simp at h
  | n + 1, p, h => by
    rw [List.replicate_succ, List.flatten_cons]
    rcases Nat.lt_or_ge p k with hp | hp
    · rw [List.getElem?_append_left (by omega), Nat.mod_eq_of_lt hp]
    · rw [List.getElem?_append_right (by omega), replicate_flatten_get z k hz n (p - z.length) (by rw [Nat.add_mul] at h; omega), hz]
      rw [← Nat.mod_eq_sub_mod hp]
theorem replicate_flatten_length {α : Type} (z : List α) (n : Nat) : (List.replicate n z).flatten.length = n * z.length := by
  induction n with
  | zero => simp
  | succ n ih => rw [List.replicate_succ, List.flatten_cons, List.length_append, ih, Nat.add_mul]; omega
theorem zeros_rep {R : Env} {L : Loc} (z : Array Value) (k n : Nat) (hz : z.size = k) (hk : 0 < k) : RepL R L (List.replicate n (z.toList.map ofConst)).flatten ((Array.range (n * k)).map (z[· % z.size]!)).toList := by
  refine repL_of_get ?_ fun p c v hc hv => ?_
  · rw [replicate_flatten_length]; simp [hz]
  · have hp : p < n * k := by
      have := (List.getElem?_eq_some_iff.1 hv).1
      simpa using this
    rw [replicate_flatten_get _ k (by simpa using hz) n p hp] at hc
    rw [List.getElem?_map] at hc
    have hm : p % k < z.size := by rw [hz]; exact Nat.mod_lt _ hk
    have hv' : v = z[p % z.size]! := by
      simp [List.getElem?_map, Array.getElem?_range, hp] at hv
      exact hv.symm
    rw [hz] at hv'
    rw [getElem!_pos z (p % k) hm] at hv'
    have : z.toList[p % k]? = some z[p % k] := by simp [hm]
    rw [this] at hc
    simp at hc
    subst hc hv'
    exact rep_ofConst R L _
theorem frz_parts {R : Env} {L : Loc} (L' : Loc) : ∀ (l : List (Nat × C)) (vs : List Value), RepL R L (l.map (·.2)) vs → RepL R L' ((l.map fun p => (p.1, p.2.frz)).map (·.2)) vs
  | [], _, h => by simpa using repL_nil.2 (repL_nil.1 h)
  | p :: r, _, h => by
    obtain ⟨v, us, rfl, h1, h2⟩ := repL_cons.1 h
    exact repL_cons.2 ⟨v, us, rfl, h1.frz L', frz_parts L' r us h2⟩
theorem repL_one {R : Env} {L : Loc} : ∀ {cs : List C} {vs : List Value}, RepL R L cs vs → cs.all C.cellB = true → ∀ v ∈ vs, v.oneCell' = true
  | [], _, h, _, v, hv => by rw [repL_nil.1 h] at hv; cases hv
  | c :: r, _, h, ha, v, hv => by
    obtain ⟨v0, us, rfl, h1, h2⟩ := repL_cons.1 h
    simp only [List.all_cons, Bool.and_eq_true] at ha
    rcases List.mem_cons.1 hv with rfl | hv
    · exact h1.oneCell ha.1
    · exact repL_one h2 ha.2 v hv
theorem pure_buildSlice {t : TypeId} {n : Nat} {parts : Array (Nat × Operand)} (ho : o.op = .buildSlice t n parts) (K : C → Nat → Prop) (h : aBuildSlice P t n (parts.toList.map fun p => (p.1, ev p.2)) nx K) : ∃ c nx', PureSem P G bx ev nx o c nx' ∧ K c nx' := by
  unfold aBuildSlice at h
  split at h
  · rename_i e s b zz hl
    have ht := lay_slice hl rfl
    split at h
    · rename_i kd k by' z hle
      obtain ⟨hzk, hk0, hsz, hall, h⟩ := h
      split at h
      · rename_i cs hfill
        obtain ⟨hcb, hlen, hK⟩ := h
        refine ⟨_, _, ⟨by omega, fun B R L ρ hf hfree hr => ?_⟩, hK⟩
        obtain ⟨i, d, hi, hd, h1, h2, h3, h4⟩ := lay_spec hle
        cases hiz : i.zero with
        | none => simp [hiz] at h4
        | some zv =>
          simp only [hiz, Option.map_some, Option.some.injEq] at h4
          subst h4
          have hzs : zv.cells.size = k := by simpa using hzk
          obtain ⟨us, g1, g2⟩ := run_fill (R := R) (L := noLoc) (fun i => some (i * k, k)) ((parts.toList.map fun p => (p.1, ev p.2)).map fun p => (p.1, p.2.frz)) (parts.toList.map fun p => (p.1, ρ p.2)) _ ((Array.range (n * k)).map (zv.cells[· % zv.cells.size]!)) cs
            (zeros_rep zv.cells k n hzs hk0) (by simp) (frz_parts noLoc _ _ (repL_parts hr _)) (fun p hp => by
              obtain ⟨q, hq, rfl⟩ := List.mem_map.1 hp
              exact List.all_eq_true.1 hall q hq) hfill
          have husz : us.size = n * k := by have := repL_length g2; simp at this; omega
          have hrun : (execOp ρ o).run P R.w = .ok (.value (.slice (some ⟨R.w.heap.size, 0, none⟩) n n)) (R.w.alloc (.cells us e)) := by
            have hss : (sizeOf e).run P R.w = .ok k R.w := by simp [sizeOf, typeInfo, hi, ← h2]
            have hzz : (zeroValue e).run P R.w = .ok zv R.w := by simp [zeroValue, typeInfo, hi, hiz]
            unfold execOp
            simp only [ho, Instr.buildSlice, Sem.run_bind, run_underlying ht, Result.andThen_ok, hss]
            rw [if_neg (show ¬ n * k > 2 ^ 24 by omega)]
            by_cases hn : n * k = 0
            · have hn0 : n = 0 := by
                rcases Nat.mul_eq_zero.1 hn with h | h
                · exact h
                · omega
              subst hn0
              have hz0 : (Array.map (fun x => (#[] : Array Value)[x % (#[] : Array Value).size]!) (Array.range (0 * k))) = (Array.range (0 * k)).map (zv.cells[· % zv.cells.size]!) := by simp [Array.range_zero']
              simp only [if_pos hn, Sem.run_pure, Sem.run_bind, Result.andThen_ok, hz0, Array.toList_map, g1]
              simp [newRow]
            · simp only [if_neg hn, Sem.run_pure, Sem.run_bind, Result.andThen_ok, hzz, Array.toList_map, g1]
              simp [newRow]
          have hrl := aRows_length k n cs
          obtain ⟨R', L', w1, w2, w3⟩ := own_new (R := R) (L := L) (w' := R.w.alloc (.cells us e)) (g := R.w.heap.size) (cap := n) (e := e) (k := k) (nx := nx) (cur := us) (rows := aRows k n cs) (vs := us.toList) hf.β_lt
            ((Below.refl _ _).alloc (Nat.le_refl _) _) (Nat.le_refl _) (heap_alloc_new _ _) husz (aRows_row k n cs (by omega)) (by rw [aRows_flatten k n cs hlen]; exact g2) (repL_one g2 hcb)
            (by rw [hrl, List.take_of_length_le (by simp [husz])]) (by omega) (by
              have : n ≤ n * k := Nat.le_mul_of_pos_right n hk0
              unfold maxLen; omega)
          rw [hrl] at w3
          exact Runs.value hrun ⟨R', L', w1, w2, w3⟩
      · exact h.elim
    · exact h.elim
  · exact h.elim
/-- make -/
def aMake (P : Program) (t : TypeId) (l c : C) (nx : Nat) (K : C → Nat → Prop) : Prop :=
  match lay P t, l, c with
  | some ⟨.slice e, _, _, _⟩, .sc (.int _ l), .sc (.int _ c) => match lay P e with
    | some ⟨_, k, by', some z⟩ => z.length = k ∧ 0 < k ∧ (z.all Value.oneCell') = true ∧ 0 ≤ l ∧ l ≤ c ∧ (by' : Int) * c ≤ 281474976710656 ∧ c ≤ 9223372036854775807 ∧ K (.own nx e k (List.replicate l.toNat (z.map ofConst))) (nx + 1)
    | _ => False
  | _, _, _ => False
theorem pure_make {t : TypeId} {l c : Operand} (ho : o.op = .makeSlice t l c) (K : C → Nat → Prop) (h : aMake P t (ev l) (ev c) nx K) : ∃ c nx', PureSem P G bx ev nx o c nx' ∧ K c nx' := by
  unfold aMake at h
  split at h
  · rename_i e s b zz k1 l' k2 c' hl hev1 hev2
    have ht := lay_slice hl rfl
    split at h
    · rename_i kd k by' z hle
      obtain ⟨hzk, hk0, hone, h0, hlc, hby, h63, hK⟩ := h
      refine ⟨_, _, ⟨by omega, fun B R L ρ hf hfree hr => ?_⟩, hK⟩
      obtain ⟨i, d, hi, hd, h1, h2, h3, h4⟩ := lay_spec hle
      cases hiz : i.zero with
      | none => simp [hiz] at h4
      | some zv =>
        simp only [hiz, Option.map_some, Option.some.injEq] at h4
        subst h4
        have hzs : zv.cells.size = k := by simpa using hzk
        have hx := hr l; rw [hev1, rep_sc] at hx
        have hy := hr c; rw [hev2, rep_sc] at hy
        have hrun := run_make (P := P) R.w t e i zv ht hi hiz k1 k2 l' c' h0 hlc (by rw [← h3]; exact hby) h63
        have hrep := zeros_rep (R := R) (L := noLoc) zv.cells k l'.toNat hzs hk0
        have hle2 : l'.toNat ≤ c'.toNat := by omega
        have hlk : l'.toNat * k ≤ c'.toNat * k := Nat.mul_le_mul_right _ hle2
        have hks : i.size = k := h2.symm
        obtain ⟨R', L', w1, w2, w3⟩ := own_new (R := R) (L := L) (w' := R.w.alloc (.cells (madeCells zv.cells (c'.toNat * k)) e)) (g := R.w.heap.size) (cap := c'.toNat) (e := e) (k := k) (nx := nx) (cur := madeCells zv.cells (c'.toNat * k)) (rows := List.replicate l'.toNat (zv.cells.toList.map ofConst))
          (vs := ((Array.range (l'.toNat * k)).map (zv.cells[· % zv.cells.size]!)).toList) hf.β_lt
          ((Below.refl _ _).alloc (Nat.le_refl _) _) (Nat.le_refl _) (heap_alloc_new _ _) (size_madeCells _ _) (fun r hr => by rw [List.eq_of_mem_replicate hr]; simpa using hzs) hrep
          (fun v hv => by
            simp only [Array.toList_map, List.mem_map] at hv
            obtain ⟨p, hp, rfl⟩ := hv
            have hm : p % zv.cells.size < zv.cells.size := Nat.mod_lt _ (by omega)
            rw [getElem!_pos zv.cells _ hm]
            exact List.all_eq_true.1 hone _ (by simp))
          (by
            simp only [madeCells, List.length_replicate]
            apply List.ext_getElem?
            intro p
            rw [List.getElem?_take]
            simp only [Array.toList_map, List.getElem?_map, Array.toList_range, List.getElem?_range]
            by_cases hp : p < l'.toNat * k
            · rw [if_pos hp, List.getElem?_range (by omega), List.getElem?_range hp]
            · rw [if_neg hp, List.getElem?_eq_none (by simp; omega)]; rfl)
          (by simp; omega) (by unfold maxLen; omega)
        rw [List.length_replicate] at w3
        refine Runs.value ?_ ⟨R', L', w1, w2, w3⟩
        unfold execOp
        simp only [ho, hx, hy]
        rw [Sem.run_bind, hrun, hks]; rfl
    · exact h.elim
  · exact h.elim
end
end Go.Proofs.Ytheokoehnmlafaa.Vcg
