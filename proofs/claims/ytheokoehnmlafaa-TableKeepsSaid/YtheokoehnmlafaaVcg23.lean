/- Slices over boxes: made, out of nothing or of parts, and appended to. No condition. -/
import Derived.Test.YtheokoehnmlafaaVcg19
import Derived.ArgAppend
set_option linter.unusedVariables false
set_option linter.unusedSimpArgs false
namespace Go.Proofs.Ytheokoehnmlafaa.Vcg
open Go.RowKit
section
variable {P : Program} {G : Globs} {E : Ctx} {σ : St} {o : Oper} {a : Act}
/-- a new box, in whatever world that only adds -/
theorem InvV.newBoxW {R : Env} {L : Loc} (h : InvV G E σ a R L) {w' : World} (hb : Below R.w.heap.size R.w w') {g : Nat} (hg : R.w.heap.size ≤ g) (cs : List C) (vs : Array Value) (ty : TypeId) (hh : w'.heap[g]? = some (.cells vs ty (0, 0)))
    (hr : ∀ M', (∀ b o, b < R.w.heap.size → (M' b o ↔ R.M b o)) → (∀ o, M' g o) → (∀ b o, R.w.heap.size ≤ b → b ≠ g → ¬ M' b o) → RepL ⟨w', M', R.F⟩ L cs vs.toList) (h1 : ∀ v ∈ vs.toList, v.oneCell' = true) :
    ∃ R' L', R'.w = w' ∧ InvV G E ⟨σ.tm, σ.bx ++ [cs], σ.nx, σ.lg⟩ a R' L' ∧ L'.β[σ.bx.length]? = some g := by
  have hmt : ∀ b o, b < R.w.heap.size → (((b < R.w.heap.size ∧ R.M b o) ∨ b = g) ↔ R.M b o) := fun b o hlt => ⟨fun h' => by rcases h' with h' | h'; exact h'.2; omega, fun h' => .inl ⟨hlt, h'⟩⟩
  have hext : Ext R ⟨w', fun b o => (b < R.w.heap.size ∧ R.M b o) ∨ b = g, R.F⟩ := Ext.of_below hb hmt
  have hnear : Near E.w0 E.ex R ⟨w', fun b o => (b < R.w.heap.size ∧ R.M b o) ∨ b = g, R.F⟩ :=
    ⟨hb.os, hb.tape, hb.output, hb.size, rfl, hext, fun b hlt => .inl ⟨hb.block b hlt, fun o => hmt b o hlt⟩⟩
  have hlen := h.good.fit.boxes.len
  have hle : LocLe L ⟨L.β ++ [g], L.T⟩ := ⟨fun i b e => by
    have hi : i < L.β.length := (List.getElem?_eq_some_iff.1 e).1
    rw [List.getElem?_append_left hi]; exact e, fun _ _ e => e⟩
  have hrr := hr (fun b o => (b < R.w.heap.size ∧ R.M b o) ∨ b = g) hmt (fun o => .inr rfl) (fun b o hb' hne hx => by rcases hx with hx | hx; omega; exact hne hx)
  refine ⟨⟨w', fun b o => (b < R.w.heap.size ∧ R.M b o) ∨ b = g, R.F⟩, ⟨L.β ++ [g], L.T⟩, rfl,
    ⟨h.good.move hnear.nigh ⟨h.good.fit.glob.ext hext, ⟨by simp [hlen], ?_, fun i b cs' hi hc => ?_⟩, ⟨fun id e k v ht => ?_, fun id id' e k v e' k' v' b => h.good.fit.owns.apart id id' e k v e' k' v' b⟩, fun g hg => ?_⟩
      ⟨[g], rfl, fun b hb => by simp at hb; omega⟩ (fun id e k v b ht hv => .inl ⟨id, e, k, v, ht, hv⟩) h.good.free, h.size, h.df.near hnear, fun t => Rep.ext hext hle _ _ (h.tm t)⟩, ?_⟩
  · rw [List.nodup_append]
    refine ⟨h.good.fit.boxes.nodup, by simp, fun x hx y hy e => ?_⟩
    have := h.good.fit.β_lt x hx
    simp at hy; omega
  · rcases Nat.lt_or_ge i L.β.length with hl | hl
    · rw [List.getElem?_append_left hl] at hi
      rw [List.getElem?_append_left (by omega)] at hc
      obtain ⟨us, ty', e1, e2, e3, e4⟩ := h.good.fit.boxes.box i b cs' hi hc
      exact ⟨us, ty', (hb.block b (heap_lt e1)).trans e1, RepL.ext hext hle _ _ e2, e3, fun o => .inl ⟨heap_lt e1, e4 o⟩⟩
    · rw [List.getElem?_append_right hl] at hi
      rw [List.getElem?_append_right (by omega)] at hc
      have h0 : i - L.β.length = 0 := by
        have := (List.getElem?_eq_some_iff.1 hi).1
        simp at this; omega
      rw [h0] at hi
      rw [show i - σ.bx.length = 0 by omega] at hc
      simp at hi hc
      subst hi hc
      exact ⟨vs, ty, hh, RepL.ext (Ext.refl _) hle _ _ hrr, h1, fun o => .inr rfl⟩
  · rcases h.good.fit.owns.own id e k v ht with g2 | ⟨g', n', cap, cur, _, e1, e2, e3, e4, e5, e6, e7, e8⟩
    · exact .inl g2
    · refine .inr ⟨g', n', cap, cur, _, e1, e2, (hb.block g' (heap_lt e3)).trans e3, e4, e5, e6, fun hx => ?_, fun o ho => .inl ⟨heap_lt e3, e8 o ho⟩⟩
      rcases List.mem_append.1 hx with hx | hx
      · exact e7 hx
      · have := heap_lt e3; simp at hx; omega
  · exact h.good.fit.base g (Nat.le_trans hb.size hg)
  · simp [hlen]
/-- a slice of its parts, as a box -/
def aBuildBox (P : Program) (t : TypeId) (n : Nat) (parts : List (Nat × C)) (σ : St) (K : C → St → Prop) : Prop :=
  match lay P t with
  | some ⟨.slice e, _, _, _⟩ => match lay P e with
    | some ⟨_, k, _, some z⟩ => z.length = k ∧ 0 < k ∧ n * k ≤ 16777216 ∧ (parts.all fun p => p.2.frz.partB) = true ∧ match aFill (fun i => some (i * k, k)) (List.replicate n (z.map ofConst)).flatten (parts.map fun p => (p.1, p.2.frz)) with
      | some cs => (cs.all C.cellB) = true ∧ cs.length = n * k ∧ K (.bs σ.bx.length 0 k n n) ⟨σ.tm, σ.bx ++ [cs], σ.nx, σ.lg⟩
      | none => False
    | _ => False
  | _ => False
theorem buildBox_after {t : TypeId} {n : Nat} {parts : Array (Nat × Operand)} (ho : o.op = .buildSlice t n parts) {K : C → St → Prop} {R : Env} {L : Loc} (hI : InvV G E σ a R L) (h : aBuildBox P t n (parts.toList.map fun p => (p.1, evOf G σ.tm p.2)) σ K) : Runs P o a.eval R.w (After G E a K) := by
  unfold aBuildBox at h
  split at h
  · rename_i e s b zz hl
    have ht := lay_slice hl rfl
    split at h
    · rename_i kd k by' z hle
      obtain ⟨hzk, hk0, hsz, hall, h⟩ := h
      split at h
      · rename_i cs hfill
        obtain ⟨hcb, hlen, hK⟩ := h
        obtain ⟨i, d, hi, hd, h1, h2, h3, h4⟩ := lay_spec hle
        cases hiz : i.zero with
        | none => simp [hiz] at h4
        | some zv =>
          simp only [hiz, Option.map_some, Option.some.injEq] at h4
          subst h4
          have hzs : zv.cells.size = k := by simpa using hzk
          obtain ⟨us, g1, g2⟩ := run_fill (R := R) (L := noLoc) (fun i => some (i * k, k)) ((parts.toList.map fun p => (p.1, evOf G σ.tm p.2)).map fun p => (p.1, p.2.frz)) (parts.toList.map fun p => (p.1, a.eval p.2)) _ ((Array.range (n * k)).map (zv.cells[· % zv.cells.size]!)) cs
            (zeros_rep zv.cells k n hzs hk0) (by simp) (frz_parts noLoc _ _ (repL_parts hI.ev _)) (fun p hp => by
              obtain ⟨q, hq, rfl⟩ := List.mem_map.1 hp
              exact List.all_eq_true.1 hall q hq) hfill
          have husz : us.size = n * k := by have := repL_length g2; simp at this; omega
          have hrun : (execOp a.eval o).run P R.w = .ok (.value (.slice (some ⟨R.w.heap.size, 0, none⟩) n n)) (R.w.alloc (.cells us e)) := by
            have hss : (sizeOf e).run P R.w = .ok k R.w := by simp [sizeOf, typeInfo, hi, ← h2]
            have hzz : (zeroValue e).run P R.w = .ok zv R.w := by simp [zeroValue, typeInfo, hi, hiz]
            unfold execOp
            simp only [ho, Instr.buildSlice, Sem.run_bind, run_underlying ht, Result.andThen_ok, hss]
            rw [if_neg (show ¬ n * k > 2 ^ 24 by omega)]
            by_cases hn : n * k = 0
            · have hn0 : n = 0 := by
                rcases Nat.mul_eq_zero.1 hn with h | h
                · exact h
                · omega
              subst hn0
              have hz0 : (Array.map (fun x => (#[] : Array Value)[x % (#[] : Array Value).size]!) (Array.range (0 * k))) = (Array.range (0 * k)).map (zv.cells[· % zv.cells.size]!) := by simp [Array.range_zero']
              simp only [if_pos hn, Sem.run_pure, Sem.run_bind, Result.andThen_ok, hz0, Array.toList_map, g1]
              simp [newRow]
            · simp only [if_neg hn, Sem.run_pure, Sem.run_bind, Result.andThen_ok, hzz, Array.toList_map, g1]
              simp [newRow]
          have hbel : Below R.w.heap.size R.w (R.w.alloc (.cells us e)) := (Below.refl _ _).alloc (Nat.le_refl _) _
          obtain ⟨R', L', e1, e2, e3⟩ := hI.newBoxW hbel (Nat.le_refl _) cs us e (heap_alloc_new _ _) (fun M' hM _ _ => RepL.ext (R := R) (Ext.of_below hbel hM) (LocLe.none L) _ _ g2) (repL_one g2 hcb)
          exact Runs.value hrun ⟨_, _, R', L', e1, e2, rep_bs.2 ⟨_, e3, _, rfl, fun _ => rfl⟩, hK⟩
      · exact h.elim
    · exact h.elim
  · exact h.elim
/-- make, as a box -/
def aMakeBox (P : Program) (t : TypeId) (l c : C) (σ : St) (K : C → St → Prop) : Prop :=
  match lay P t, l, c with
  | some ⟨.slice e, _, _, _⟩, .sc (.int _ l), .sc (.int _ c) => match lay P e with
    | some ⟨_, k, by', some z⟩ => z.length = k ∧ 0 < k ∧ (z.all Value.oneCell') = true ∧ 0 ≤ l ∧ l ≤ c ∧ (by' : Int) * c ≤ 281474976710656 ∧ c ≤ 9223372036854775807 ∧ K (.bs σ.bx.length 0 k l.toNat c.toNat) ⟨σ.tm, σ.bx ++ [(List.replicate c.toNat (z.map ofConst)).flatten], σ.nx, σ.lg⟩
    | _ => False
  | _, _, _ => False
theorem makeBox_after {t : TypeId} {l c : Operand} (ho : o.op = .makeSlice t l c) {K : C → St → Prop} {R : Env} {L : Loc} (hI : InvV G E σ a R L) (h : aMakeBox P t (evOf G σ.tm l) (evOf G σ.tm c) σ K) : Runs P o a.eval R.w (After G E a K) := by
  unfold aMakeBox at h
  split at h
  · rename_i e s b zz k1 l' k2 c' hl hev1 hev2
    have ht := lay_slice hl rfl
    split at h
    · rename_i kd k by' z hle
      obtain ⟨hzk, hk0, hone, h0, hlc, hby, h63, hK⟩ := h
      obtain ⟨i, d, hi, hd, h1, h2, h3, h4⟩ := lay_spec hle
      cases hiz : i.zero with
      | none => simp [hiz] at h4
      | some zv =>
        simp only [hiz, Option.map_some, Option.some.injEq] at h4
        subst h4
        have hzs : zv.cells.size = k := by simpa using hzk
        have hx := hI.ev l; rw [hev1, rep_sc] at hx
        have hy := hI.ev c; rw [hev2, rep_sc] at hy
        have hrun := run_make (P := P) R.w t e i zv ht hi hiz k1 k2 l' c' h0 hlc (by rw [← h3]; exact hby) h63
        have hrep := zeros_rep (R := R) (L := noLoc) zv.cells k c'.toNat hzs hk0
        have hks : i.size = k := h2.symm
        have hbel : Below R.w.heap.size R.w (R.w.alloc (.cells (madeCells zv.cells (c'.toNat * k)) e)) := (Below.refl _ _).alloc (Nat.le_refl _) _
        obtain ⟨R', L', e1, e2, e3⟩ := hI.newBoxW hbel (Nat.le_refl _) ((List.replicate c'.toNat (zv.cells.toList.map ofConst)).flatten) (madeCells zv.cells (c'.toNat * k)) e (heap_alloc_new _ _) (fun M' hM _ _ => RepL.ext (R := R) (Ext.of_below hbel hM) (LocLe.none L) _ _ hrep)
          (fun v hv => by
            simp only [madeCells, Array.toList_map, List.mem_map] at hv
            obtain ⟨p, hp, rfl⟩ := hv
            have hm : p % zv.cells.size < zv.cells.size := Nat.mod_lt _ (by omega)
            rw [getElem!_pos zv.cells _ hm]
            exact List.all_eq_true.1 hone _ (by simp))
        refine Runs.value ?_ ⟨_, _, R', L', e1, e2, rep_bs.2 ⟨_, e3, _, rfl, fun _ => rfl⟩, hK⟩
        unfold execOp
        simp only [ho, hx, hy]
        rw [Sem.run_bind, hrun, hks]; rfl
    · exact h.elim
  · exact h.elim
/-- the same of a state, where a box of the walk's own may lie anew -/
theorem Good.moveB {R R' : Env} {L L' : Loc} {tm' : List (Nat × C)} {bx' : List (List C)} {nx' : Nat} (h : Good G E σ R L) (hn : Nigh E.w0 E.ex R R') (hf : Fit G E.tu bx' R' L')
    (hbox : ∃ more, L'.β = E.β0 ++ more) (htub : ∀ b ∈ L'.β, b ∈ L.β ∨ R.w.heap.size ≤ b)
    (hown : ∀ id e k v b, L'.T id = some (e, k, v) → v.ownBlock = some b → (∃ i e' k' v', L.T i = some (e', k', v') ∧ v'.ownBlock = some b) ∨ R.w.heap.size ≤ b)
    (hfree : ∀ id, nx' ≤ id → L'.T id = none) : Good G E ⟨tm', bx', nx', σ.lg⟩ R' L' := by
  refine ⟨hf, hn.os.trans h.os, hn.tape.trans h.tape, hn.output.trans h.output, Nat.le_trans h.size hn.size, fun b hb hx hF => ?_, h.ext.trans hn.ext, hbox, fun b hb => ?_, fun b hF => ?_, fun b hb => by rw [hn.fgn]; exact h.fz b hb, fun b hb hF => ?_, fun id e k v b ht hv hF => ?_, hfree, E.stab _ _ _ h.log hn⟩
  · rw [hn.fgn] at hF
    obtain ⟨g1, g2⟩ := h.blk b hb hx hF
    rcases hn.blk b (Nat.lt_of_lt_of_le hb h.size) with ⟨k1, k2⟩ | ⟨k1, _⟩
    · exact ⟨k1.trans g1, fun o => (k2 o).trans (g2 o)⟩
    · rcases k1 with k1 | k1
      · omega
      · exact absurd k1 hx
  · rcases htub b hb with hb | hb
    · exact h.tub b hb
    · exact .inl (Nat.le_trans h.size hb)
  · rw [hn.fgn] at hF; exact Nat.lt_of_lt_of_le (h.flt b hF) hn.size
  · rw [hn.fgn] at hF
    rcases htub b hb with hb | hb
    · exact h.fbx b hb hF
    · have := h.flt b hF; omega
  · rw [hn.fgn] at hF
    rcases hown id e k v b ht hv with ⟨i, e', k', v', g1, g2⟩ | g
    · exact h.fow i e' k' v' b g1 g2 hF
    · have := h.flt b hF; omega
/-- all boxes but one -/
def fpBut (i j : Nat) : Option Nat := if j = i then none else some j
/-- the state in which box i lies anew, and whoever pointed into it knows it no more -/
def butBx (i : Nat) (cs : List C) (bx : List (List C)) : List (List C) := (reBx (fpBut i) some bx).set i cs
theorem InvV.reBox {R : Env} {L : Loc} (h : InvV G E σ a R L) {i : Nat} (hi0 : E.β0.length ≤ i) (hil : i < σ.bx.length) {w' : World} (hb : Below R.w.heap.size R.w w') {g : Nat} (hg : R.w.heap.size ≤ g) (cs : List C) (vs : Array Value) (ty : TypeId) (hh : w'.heap[g]? = some (.cells vs ty (0, 0)))
    (hr : ∀ M', (∀ b o, b < R.w.heap.size → (M' b o ↔ R.M b o)) → RepL ⟨w', M', R.F⟩ ⟨L.β.set i g, L.T⟩ cs vs.toList) (h1 : ∀ v ∈ vs.toList, v.oneCell' = true) :
    ∃ R' L', R'.w = w' ∧ InvV G E ⟨reTm (fpBut i) some σ.tm, butBx i cs σ.bx, σ.nx, σ.lg⟩ a R' L' ∧ L'.β[i]? = some g := by
  have hmt : ∀ b o, b < R.w.heap.size → (((b < R.w.heap.size ∧ R.M b o) ∨ b = g) ↔ R.M b o) := fun b o hlt => ⟨fun h' => by rcases h' with h' | h'; exact h'.2; omega, fun h' => .inl ⟨hlt, h'⟩⟩
  have hext : Ext R ⟨w', fun b o => (b < R.w.heap.size ∧ R.M b o) ∨ b = g, R.F⟩ := Ext.of_below hb hmt
  have hnear : Near E.w0 E.ex R ⟨w', fun b o => (b < R.w.heap.size ∧ R.M b o) ∨ b = g, R.F⟩ :=
    ⟨hb.os, hb.tape, hb.output, hb.size, rfl, hext, fun b hlt => .inl ⟨hb.block b hlt, fun o => hmt b o hlt⟩⟩
  have hlen := h.good.fit.boxes.len
  have hrr := hr (fun b o => (b < R.w.heap.size ∧ R.M b o) ∨ b = g) hmt
  have hβ : ∀ j q b, fpBut i j = some q → L.β[j]? = some b → (Loc.mk (L.β.set i g) L.T).β[q]? = some b := fun j q b hq hb => by
    unfold fpBut at hq
    split at hq
    · cases hq
    · rename_i hne
      cases hq
      show (L.β.set i g)[j]? = some b
      rw [List.getElem?_set_ne (fun e => hne e.symm)]; exact hb
  have hT : ∀ j q x, (some j : Option Nat) = some q → L.T j = some x → (Loc.mk (L.β.set i g) L.T).T q = some x := fun j q x hq hx => by cases hq; exact hx
  have hget : (L.β.set i g)[i]? = some g := List.getElem?_set_self (by omega)
  refine ⟨⟨w', fun b o => (b < R.w.heap.size ∧ R.M b o) ∨ b = g, R.F⟩, ⟨L.β.set i g, L.T⟩, rfl,
    ⟨h.good.moveB hnear.nigh ⟨h.good.fit.glob.ext hext, ⟨by simp [butBx, reBx_length, hlen], ?_, fun j b cs' hj hc => ?_⟩, ⟨fun id e k v ht => ?_, fun id id' e k v e' k' v' b => h.good.fit.owns.apart id id' e k v e' k' v' b⟩, fun g hg => ?_⟩ ?_ (fun b hb => ?_) (fun id e k v b ht hv => .inl ⟨id, e, k, v, ht, hv⟩) h.good.free, h.size, h.df.near hnear, fun t => ?_⟩, hget⟩
  · show (L.β.set i g).Nodup
    have hnd := h.good.fit.boxes.nodup
    rw [List.Nodup, List.pairwise_iff_getElem] at hnd ⊢
    intro x y hx hy hxy
    rw [List.length_set] at hx hy
    have hxl := h.good.fit.β_lt _ (List.getElem_mem hx)
    have hyl := h.good.fit.β_lt _ (List.getElem_mem hy)
    rw [List.getElem_set, List.getElem_set]
    split <;> split
    · omega
    · omega
    · omega
    · exact hnd x y hx hy hxy
  · have hj : (L.β.set i g)[j]? = some b := hj
    by_cases hji : i = j
    · subst hji
      rw [hget] at hj
      cases hj
      rw [butBx, List.getElem?_set_self (by rw [reBx_length]; exact hil)] at hc
      cases hc
      exact ⟨vs, ty, hh, hrr, h1, fun o => .inr rfl⟩
    · rw [List.getElem?_set_ne hji] at hj
      rw [butBx, List.getElem?_set_ne hji, reBx_get] at hc
      cases hq : σ.bx[j]? with
      | none => rw [hq] at hc; cases hc
      | some c0 =>
        rw [hq] at hc; cases hc
        obtain ⟨us, ty', e1, e2, e3, e4⟩ := h.good.fit.boxes.box j b c0 hj hq
        exact ⟨us, ty', (hb.block b (heap_lt e1)).trans e1, RepL.re hext hβ hT _ _ e2, e3, fun o => .inl ⟨heap_lt e1, e4 o⟩⟩
  · rcases h.good.fit.owns.own id e k v ht with g2 | ⟨g', n', cap, cur, _, e1, e2, e3, e4, e5, e6, e7, e8⟩
    · exact .inl g2
    · refine .inr ⟨g', n', cap, cur, _, e1, e2, (hb.block g' (heap_lt e3)).trans e3, e4, e5, e6, fun hx => ?_, fun o ho => .inl ⟨heap_lt e3, e8 o ho⟩⟩
      have hx : g' ∈ L.β.set i g := hx
      rcases List.mem_or_eq_of_mem_set hx with hx | hx
      · exact e7 hx
      · have := heap_lt e3; omega
  · exact h.good.fit.base g (Nat.le_trans hb.size hg)
  · obtain ⟨more, hm⟩ := h.good.box
    refine ⟨more.set (i - E.β0.length) g, ?_⟩
    show L.β.set i g = _
    rw [hm, List.set_append_right _ _ hi0]
  · have hb' : b ∈ L.β.set i g := hb
    rcases List.mem_or_eq_of_mem_set hb' with hx | hx
    · exact .inl hx
    · exact .inr (by omega)
  · rw [getC_re]
    exact Rep.re hext hβ hT _ _ (h.tm t)
theorem fpBut_box {L : Loc} {i g : Nat} : ∀ (j q b : Nat), fpBut i j = some q → L.β[j]? = some b → (Loc.mk (L.β.set i g) L.T).β[q]? = some b := fun j q b hq hb => by
  unfold fpBut at hq
  split at hq
  · cases hq
  · rename_i hne
    cases hq
    show (L.β.set i g)[j]? = some b
    rw [List.getElem?_set_ne (fun e => hne e.symm)]; exact hb
theorem fpBut_same {L : Loc} {i : Nat} : ∀ (j q b : Nat), fpBut i j = some q → L.β[j]? = some b → L.β[q]? = some b := fun j q b hq hb => by
  unfold fpBut at hq
  split at hq
  · cases hq
  · cases hq; exact hb
theorem some_own {L L' : Loc} (h : ∀ i, L'.T i = L.T i) : ∀ (i j : Nat) x, (some i : Option Nat) = some j → L.T i = some x → L'.T j = some x := fun i j x hij hx => by cases hij; rw [h]; exact hx
/-- a state that says less of its slots and boxes -/
theorem InvV.lessB {R : Env} {L : Loc} (h : InvV G E σ a R L) (tm' : List (Nat × C)) (bx' : List (List C)) (hl : bx'.length = σ.bx.length) (ht : ∀ t v, Rep R L (getC σ.tm t) v → Rep R L (getC tm' t) v)
    (hb : ∀ (i : Nat) cs cs' vs, σ.bx[i]? = some cs → bx'[i]? = some cs' → RepL R L cs vs → RepL R L cs' vs) : InvV G E ⟨tm', bx', σ.nx, σ.lg⟩ a R L := by
  have g := h.good
  refine ⟨⟨⟨g.fit.glob, ⟨by rw [hl]; exact g.fit.boxes.len, g.fit.boxes.nodup, fun i b cs' hi hc => ?_⟩, g.fit.owns, g.fit.base⟩, g.os, g.tape, g.output, g.size, g.blk, g.ext, g.box, g.tub, g.flt, g.fz, g.fbx, g.fow, g.free, g.log⟩, h.size, h.df, fun t => ht t _ (h.tm t)⟩
  have hi' : i < σ.bx.length := by rw [← hl]; exact (List.getElem?_eq_some_iff.1 hc).1
  obtain ⟨vs, ty, e1, e2, e3, e4⟩ := g.fit.boxes.box i b _ hi (List.getElem?_eq_getElem hi')
  exact ⟨vs, ty, e1, hb i _ _ _ (List.getElem?_eq_getElem hi') hc e2, e3, e4⟩
theorem repL_any {R : Env} {L : Loc} : ∀ vs : List Value, RepL R L (List.replicate vs.length .any) vs
  | [] => repL_nil.2 rfl
  | v :: r => repL_cons.2 ⟨v, r, rfl, by unfold Rep; trivial, repL_any r⟩
/-- how many elements are appended, and their cells -/
def C.xs? (k : Nat) (bx : List (List C)) : C → Option (Nat × List C)
  | .bs i off k' n _ => if k' = k then (bx[i]?).bind fun cs => if off + n * k ≤ cs.length then some (n, (cs.drop off).take (n * k)) else none else none
  | c => (c.rows? k).map fun rows => (rows.length, rows.flatten)
theorem xs_vals {B : Nat → Prop} {bx : List (List C)} {R : Env} {L : Loc} {c : C} {v : Value} {k m : Nat} {xs : List C} (hf : Fit G B bx R L) (h : Rep R L c v) (hx : c.xs? k bx = some (m, xs)) :
    ∃ ad cap, v = .slice ad m cap ∧ (0 < m → ∃ b off news, ad = some ⟨b, off, none⟩ ∧ news.length = m * k ∧ (∀ (j : Nat) u, news[j]? = some u → R.w.cell? ((⟨b, off, none⟩ : Addr).add j) = some u) ∧ RepL R L xs news ∧ ∀ u ∈ news, u.oneCell' = true) := by
  have hrows : ∀ rows, c.rows? k = some rows → (rows.length, rows.flatten) = (m, xs) → ∃ ad cap, v = .slice ad m cap ∧ (0 < m → ∃ b off news, ad = some ⟨b, off, none⟩ ∧ news.length = m * k ∧ (∀ (j : Nat) u, news[j]? = some u → R.w.cell? ((⟨b, off, none⟩ : Addr).add j) = some u) ∧ RepL R L xs news ∧ ∀ u ∈ news, u.oneCell' = true) := fun rows hr he => by
    cases he
    obtain ⟨ad, cap, e, h1, h2, h3⟩ := h.rows hr
    refine ⟨ad, cap, e, fun hm => ?_⟩
    rcases h3 with h3 | ⟨b, o, e, h3⟩
    · subst h3; cases hm
    · obtain ⟨g1, g2⟩ := repCells_flatten h3
      obtain ⟨news, n1, n2, n3⟩ := repCells_vals g1
      exact ⟨b, o, news, e, by rw [repL_length n2, g2], fun j u hj => by rw [Addr.add_none]; exact n1 j u hj, RepL.ext (Ext.refl R) (LocLe.none L) _ _ n2, n3⟩
  cases c with
  | bs i off k' n c' =>
    simp only [C.xs?] at hx
    split at hx
    · subst_vars
      cases hq : bx[i]? with
      | none => rw [hq] at hx; cases hx
      | some cs =>
        rw [hq] at hx
        simp only [Option.bind_some] at hx
        split at hx
        · rename_i hle
          cases hx
          obtain ⟨b, hb, ad, rfl, had⟩ := rep_bs.1 h
          obtain ⟨vs, ty, e1, e2, e3, e4⟩ := hf.boxes.box i b cs hb hq
          have hvl := repL_length e2
          refine ⟨_, _, rfl, fun hm => ⟨b, off, (vs.toList.drop off).take (m * k'), congrArg some (had (by omega)), by simp at hvl ⊢; omega, fun j u hj => ?_, repL_take _ (repL_drop _ e2), fun u hu => e3 u (List.mem_of_mem_drop (List.mem_of_mem_take hu))⟩⟩
          rw [Addr.add_none, cell_of_row R.w b (off + j) vs ty (0, 0) e1]
          rw [List.getElem?_take] at hj
          split at hj
          · rw [List.getElem?_drop] at hj; simpa using hj
          · cases hj
        · cases hx
    · cases hx
  | _ =>
    simp only [C.xs?] at hx
    first
    | (cases hq : C.rows? k _ with
       | none => rw [hq] at hx; cases hx
       | some rows => rw [hq] at hx; exact hrows rows hq (by simpa using hx))
/-- an append that makes a box, or onto a box -/
def aAppBox (P : Program) (p : Nat) (t : TypeId) (s x : C) (σ : St) (K : C → St → Prop) : Prop :=
  match lay P t with
  | some ⟨.slice e, _, _, _⟩ => match lay P e with
    | some ⟨_, k, by', some z⟩ => match x.xs? k σ.bx with
      | some (m, xs) => z.length = k ∧ 0 < k ∧ (z.all Value.oneCell') = true ∧ 0 < m ∧ match s with
        | .sc (.slice none 0 0) => m ≤ 9223372036854775807 ∧ m * by' ≤ 140737488355328 ∧ ∀ c, m ≤ c → c ≤ maxLen → K (.bs σ.bx.length 0 k m c) ⟨σ.tm, σ.bx ++ [xs ++ List.replicate ((c - m) * k) .any], σ.nx, σ.lg⟩
        | .bs i 0 k' n c => match σ.bx[i]? with
          | some cs => k' = k ∧ p ≤ i ∧ cs.length = c * k ∧ n ≤ c ∧ c ≤ 9223372036854775807 ∧ n + m ≤ 9223372036854775807 ∧ (n + m) * by' ≤ 140737488355328 ∧
              ∀ c', n + m ≤ c' → c' ≤ maxLen → K (.bs i 0 k (n + m) c') ⟨reTm (fpBut i) some σ.tm, butBx i (C.reL (fpBut i) some (cs.take (n * k) ++ xs) ++ List.replicate ((c' - (n + m)) * k) .any) σ.bx, σ.nx, σ.lg⟩
          | none => False
        | _ => False
      | none => False
    | _ => False
  | _ => False
theorem zeroCells_one {zc : Array Value} (hz : (zc.toList.all Value.oneCell') = true) (n : Nat) : ∀ v ∈ (Builtin.zeroCells zc n).toList, v.oneCell' = true := by
  intro v hv
  simp only [Builtin.zeroCells, Array.toList_map, List.mem_map] at hv
  obtain ⟨i, hi, rfl⟩ := hv
  have hi' : i < n * zc.size := by simpa using hi
  have hpos : 0 < zc.size := by
    rcases Nat.eq_zero_or_pos zc.size with h | h
    · rw [h] at hi'; omega
    · exact h
  have hlt := Nat.mod_lt i hpos
  rw [getElem!_pos zc _ hlt]
  exact List.all_eq_true.1 hz _ (by simp)
theorem appBox_after {p : Nat} (hp : E.β0.length ≤ p) {t : TypeId} {s x : Operand} (ho : o.op = .call { callee := .builtin .append, args := #[s, x], argTypes := #[t, t] }) {K : C → St → Prop} {R : Env} {L : Loc} (h : InvV G E σ a R L) (hK : aAppBox P p t (evOf G σ.tm s) (evOf G σ.tm x) σ K) : Runs P o a.eval R.w (After G E a K) := by
  unfold aAppBox at hK
  split at hK
  · rename_i e s1 b1 z1 hl
    have ht := lay_slice hl rfl
    split at hK
    · rename_i kd k by' z hle
      obtain ⟨i, d, hi, hd, _, hsz, hbyt, hzz⟩ := lay_spec hle
      simp only at hsz hbyt hzz
      split at hK
      · rename_i m xs hxs
        obtain ⟨hzk, hk0, hz1, hm, hK⟩ := hK
        have hexec : ∀ v' w', (Builtin.append_ #[t, t] o.type #[a.eval s, a.eval x]).run P R.w = .ok v' w' → (execOp a.eval o).run P R.w = .ok (.value v') w' := fun v' w' hrun => by
          unfold execOp
          simp only [ho, resolve, invoke, builtin, Sem.run_bind, Sem.run_pure, Result.andThen_ok, List.map_toArray, List.map_cons, List.map_nil, hrun]
        cases hiz : i.zero with
        | none => simp [hiz] at hzz
        | some zv =>
          simp only [hiz, Option.map_some, Option.some.injEq] at hzz
          have hzc : zv.cells.size = k := by rw [← hzk, hzz]; simp
          obtain ⟨ad, capx, ex, hx⟩ := xs_vals h.good.fit (h.ev x) hxs
          obtain ⟨bb, off, news, rfl, n1, n2, n3, n4⟩ := hx hm
          have hxl := repL_length n3
          have hzone : ∀ n, ∀ v ∈ (Builtin.zeroCells zv.cells n).toList, v.oneCell' = true := zeroCells_one (by rw [← hzz]; exact hz1)
          split at hK
          · rename_i hev
            obtain ⟨h63, hby, hK⟩ := hK
            have hs := h.ev s; rw [hev, rep_sc] at hs
            have hrun := run_append_nil (P := P) R.w t o.type e i zv ht hi hiz ⟨bb, off, none⟩ m capx news (by rw [n1, hsz]) n2 hm (by omega) (by rw [← hbyt]; omega)
            rw [← hs, ← ex] at hrun
            have hge := grownCap_ge R.w m 0 e
            have hgm : grownCap R.w m 0 e ≤ maxLen := grownCap_le_maxLen _ _ _ _ (by unfold maxLen; omega)
            generalize grownCap R.w m 0 e = nc at hrun hge hgm
            have hb : Below R.w.heap.size R.w (R.w.drew.alloc (.cells (news.toArray ++ Builtin.zeroCells zv.cells (nc - m)) e)) := ((Below.refl _ _).drew).alloc (Nat.le_refl _) _
            have hzl : (Builtin.zeroCells zv.cells (nc - m)).toList.length = (nc - m) * k := by rw [Array.length_toList, size_zeroCells, hzc]
            obtain ⟨R', L', e1, e2, e3⟩ := h.newBoxW hb (Nat.le_refl _) (xs ++ List.replicate ((nc - m) * k) .any) (news.toArray ++ Builtin.zeroCells zv.cells (nc - m)) e (heap_alloc_new R.w.drew _) (fun M' hM _ _ => by
              simp only [Array.toList_append]
              refine repL_append (RepL.ext (R := R) (Ext.of_below hb hM) (LocLe.refl L) _ _ n3) ?_
              rw [← hzl]; exact repL_any _) (fun v hv => by
              simp only [Array.toList_append] at hv
              rcases List.mem_append.1 hv with hv | hv
              · exact n4 v hv
              · exact hzone _ v hv)
            exact Runs.value (hexec _ _ hrun) ⟨_, _, R', L', e1, e2, rep_bs.2 ⟨_, e3, _, rfl, fun _ => rfl⟩, hK nc hge hgm⟩
          · rename_i bi k' n c hev
            split at hK
            · rename_i cs hcs
              obtain ⟨rfl, hpi, hcl, hnc, hcm, h63, hby, hK⟩ := hK
              have hs := h.ev s; rw [hev, rep_bs] at hs
              obtain ⟨b, hb, ad0, es, had0⟩ := hs
              obtain ⟨vs, ty, e1, e2, e3, e4⟩ := h.good.fit.boxes.box bi b cs hb hcs
              have hvl := repL_length e2
              have hvs : vs.size = c * k' := by simpa [hcl] using hvl
              have hbil : bi < σ.bx.length := (List.getElem?_eq_some_iff.1 hcs).1
              have hnk : n * k' ≤ c * k' := Nat.mul_le_mul_right _ hnc
              have hadd : (n + m) * k' = n * k' + m * k' := Nat.add_mul _ _ _
              by_cases hroom : n + m ≤ c
              · have hck : (n + m) * k' ≤ c * k' := Nat.mul_le_mul_right _ hroom
                obtain rfl := had0 (by omega)
                have hrun := run_append_roomT (P := P) (ty := o.type) ht hi R.w b n c vs ty e1 ⟨bb, off, none⟩ m capx news (by rw [n1, hsz]) n2 n4 hroom (by rw [← hsz]; omega)
                rw [← hsz, ← es, ← ex] at hrun
                have hA : (cs.take (n * k') ++ xs).length = n * k' + m * k' := by simp; omega
                have hinv := h.setBox hb hcs e1 e4 (cs' := cs.take (n * k') ++ xs ++ cs.drop (n * k' + news.length)) (us := (vs.toList.take (n * k') ++ news ++ vs.toList.drop (n * k' + news.length)).toArray) (repL_append (repL_append (repL_take _ e2) n3) (repL_drop _ e2)) (fun v hv => by
                  simp only [List.mem_append] at hv
                  rcases hv with (hv | hv) | hv
                  · exact e3 v (List.mem_of_mem_take hv)
                  · exact n4 v hv
                  · exact e3 v (List.mem_of_mem_drop hv))
                have hinv2 := hinv.lessB (reTm (fpBut bi) some σ.tm) (butBx bi (C.reL (fpBut bi) some (cs.take (n * k') ++ xs) ++ List.replicate ((c - (n + m)) * k') .any) σ.bx) (by simp [butBx, reBx_length]) (fun t v hv => by
                    rw [getC_re]; exact Rep.re (Ext.refl _) fpBut_same (some_own fun _ => rfl) _ _ hv) (fun j c1 c2 us hc1 hc2 hr => by
                  by_cases hji : bi = j
                  · subst hji
                    rw [List.getElem?_set_self hbil] at hc1
                    rw [butBx, List.getElem?_set_self (by rw [reBx_length]; exact hbil)] at hc2
                    cases hc1; cases hc2
                    have hul := repL_length hr
                    simp only [List.length_append] at hul hA
                    have h1 := repL_take (n * k' + m * k') hr
                    rw [List.take_left' (by simp only [List.length_append]; exact hA)] at h1
                    have h2 := repL_any (R := ⟨R.w.setRow b (vs.toList.take (n * k') ++ news ++ vs.toList.drop (n * k' + news.length)).toArray, R.M, R.F⟩) (L := L) (us.drop (n * k' + m * k'))
                    have hdl : (us.drop (n * k' + m * k')).length = (c - (n + m)) * k' := by
                      rw [List.length_drop, hul, List.length_drop, hcl, n1, Nat.sub_mul, hadd]; omega
                    rw [hdl] at h2
                    have h3 := repL_append (RepL.re (fp := fpBut bi) (fo := some) (L' := L) (Ext.refl _) fpBut_same (some_own fun _ => rfl) _ _ h1) h2
                    rwa [List.take_append_drop] at h3
                  · rw [List.getElem?_set_ne hji] at hc1
                    rw [butBx, List.getElem?_set_ne hji, reBx_get, hc1] at hc2
                    cases hc2
                    exact RepL.re (Ext.refl _) fpBut_same (some_own fun _ => rfl) _ _ hr)
                exact Runs.value (hexec _ _ hrun) ⟨_, _, _, L, rfl, hinv2, rep_bs.2 ⟨_, hb, _, rfl, fun _ => rfl⟩, hK c hroom (by unfold maxLen; omega)⟩
              · have hol : (vs.toList.take (n * k')).length = n * k' := by simp; omega
                have hrun := run_append_grow (P := P) R.w t o.type e i zv ht hi hiz ad0 n c (vs.toList.take (n * k')) (by rw [hol, hsz]) (fun j v hj => by
                    obtain rfl := had0 (by
                      rcases Nat.eq_zero_or_pos n with h0 | h0
                      · subst h0; simp at hj
                      · omega)
                    rw [Addr.add_none, Nat.zero_add, cell_of_row R.w b j vs ty (0, 0) e1]
                    rw [List.getElem?_take] at hj
                    split at hj
                    · simpa using hj
                    · cases hj) ⟨bb, off, none⟩ m capx news (by rw [n1, hsz]) n2 (by omega) (by omega) (growslice_fits (by omega) (by rw [← hbyt]; exact hby))
                rw [← es, ← ex] at hrun
                have hge := grownCap_ge R.w (n + m) c e
                have hgm : grownCap R.w (n + m) c e ≤ maxLen := grownCap_le_maxLen _ _ _ _ (by unfold maxLen; omega)
                generalize grownCap R.w (n + m) c e = nc at hrun hge hgm
                have hbel : Below R.w.heap.size R.w (R.w.drew.alloc (.cells ((vs.toList.take (n * k')).toArray ++ news.toArray ++ Builtin.zeroCells zv.cells (nc - (n + m))) e)) := ((Below.refl _ _).drew).alloc (Nat.le_refl _) _
                have hzl : (Builtin.zeroCells zv.cells (nc - (n + m))).toList.length = (nc - (n + m)) * k' := by rw [Array.length_toList, size_zeroCells, hzc]
                obtain ⟨R', L', f1, f2, f3⟩ := h.reBox (Nat.le_trans hp hpi) hbil hbel (Nat.le_refl _) (C.reL (fpBut bi) some (cs.take (n * k') ++ xs) ++ List.replicate ((nc - (n + m)) * k') .any) ((vs.toList.take (n * k')).toArray ++ news.toArray ++ Builtin.zeroCells zv.cells (nc - (n + m))) e (heap_alloc_new R.w.drew _) (fun M' hM => by
                  simp only [Array.toList_append]
                  refine repL_append (RepL.re (R := R) (L := L) (Ext.of_below hbel hM) fpBut_box (some_own fun _ => rfl) _ _ (repL_append (repL_take _ e2) n3)) ?_
                  rw [← hzl]; exact repL_any _) (fun v hv => by
                  simp only [Array.toList_append, List.mem_append] at hv
                  rcases hv with (hv | hv) | hv
                  · exact e3 v (List.mem_of_mem_take hv)
                  · exact n4 v hv
                  · exact hzone _ v hv)
                exact Runs.value (hexec _ _ hrun) ⟨_, _, R', L', f1, f2, rep_bs.2 ⟨_, f3, _, rfl, fun _ => rfl⟩, hK nc hge hgm⟩
            · exact hK.elim
          · exact hK.elim
      · exact hK.elim
    · exact hK.elim
  · exact hK.elim
end
end Go.Proofs.Ytheokoehnmlafaa.Vcg
