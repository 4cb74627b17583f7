/- How arguments that read as data are opened into what the walks take: by their types. No condition. -/
import Derived.Test.YtheokoehnmlafaaVcg18
import Derived.ProofKit
import Derived.Deep.Slices
import Derived.Deep.Fields
import Derived.ChangeSame
import Derived.ChangeOld
import Derived.Lib.SmallJoins
set_option linter.unusedVariables false
namespace Go.Proofs.Ytheokoehnmlafaa.Vcg
open Go.RowKit Go.ChangeMaps Go.ChangeShapes Go.WideShapes Go.Deep Go.Joins
/-- the call's world: all of it stays -/
def env0 (W : World) : Env := ⟨W, fun _ _ => False, fun _ => False⟩
theorem Fun.answers {P : Program} {G : Globs} {f : FuncId} {args : List C} {u : Value} {n : Nat} (h : Fun P G f args (.sc u) n) {W : World} {vs : List Value} (hg : GlobOk G (env0 W)) (ha : RepL (env0 W) noLoc args vs) :
    Calls P f vs.toArray W fun e w' => e = .returned u ∧ Below W.heap.size W w' := by
  refine (h.2 (env0 W) vs hg ha).mono ?_
  rintro e w' ⟨v, R', L', rfl, rfl, st, hr⟩
  rw [rep_sc] at hr
  subst hr
  exact ⟨rfl, st.below⟩
theorem globOk_any {G : Globs} (h : ∀ g, G g = none) (R : Env) : GlobOk G R := fun g cs hc => by rw [h] at hc; cases hc
section
variable {H : Type} {enc : TypeId × Value → H} {P : Program} {W : World}
/-- one cell that reads at type t is opened as a C of which Q holds -/
def Opn (enc : TypeId × Value → H) (P : Program) (W : World) (t : TypeId) (Q : C → Prop) : Prop :=
  ∀ (fuel : Nat) (cs : List Value) (x : DataW H × List MemPlace), DataW.trod enc P W 0 (fun _ => true) true fuel t cs = some x → ∃ v c, cs = [v] ∧ Q c ∧ Rep (env0 W) noLoc c v ∧ v.oneCell' = true
/-- the same of k cells -/
def OpnRow (enc : TypeId × Value → H) (P : Program) (W : World) (t : TypeId) (k : Nat) (Q : List C → Prop) : Prop :=
  ∀ (fuel : Nat) (cs : List Value) (x : DataW H × List MemPlace), DataW.trod enc P W 0 (fun _ => true) true fuel t cs = some x →
    ∃ row, Q row ∧ row.length = k ∧ cs.length = k ∧ ∀ (j : Nat) c v, row[j]? = some c → cs[j]? = some v → Rep (env0 W) noLoc c v ∧ v.oneCell' = true
theorem Opn.int {t : TypeId} {k : IntKind} (ht : P.underlying t = some (.int k)) : Opn enc P W t fun c => ∃ n, c = .sc (.int k n) ∧ (Lit.int k n).wf = true := fun fuel cs x h => by
  obtain ⟨n, rfl, _, hw⟩ := DataW.trod_int ht h
  exact ⟨_, _, rfl, ⟨n, rfl, hw⟩, rep_sc.2 rfl, rfl⟩
theorem Opn.bool {t : TypeId} (ht : P.underlying t = some .bool) : Opn enc P W t fun c => ∃ b, c = .sc (.bool b) := fun fuel cs x h => by
  obtain ⟨n, rfl, _⟩ := DataW.trod_bool ht h
  exact ⟨_, _, rfl, ⟨n, rfl⟩, rep_sc.2 rfl, rfl⟩
theorem Opn.str {t : TypeId} (ht : P.underlying t = some .string) : Opn enc P W t fun c => ∃ l : List UInt8, c = .str l ∧ l.length ≤ maxLen := fun fuel cs x h => by
  obtain ⟨s, rfl, _, hs⟩ := DataW.trod_string ht h
  exact ⟨_, _, rfl, ⟨s.data.toList, rfl, by rw [Array.length_toList]; exact hs⟩, rep_str.2 (by cases s; simp), rfl⟩
theorem OpnRow.one {t : TypeId} {Q : C → Prop} (h : Opn enc P W t Q) : OpnRow enc P W t 1 fun row => ∃ c, row = [c] ∧ Q c := fun fuel cs x hx => by
  obtain ⟨v, c, rfl, hq, hr, ho⟩ := h fuel cs x hx
  refine ⟨[c], ⟨c, rfl, hq⟩, rfl, rfl, fun j c' v' h1 h2 => ?_⟩
  cases j with
  | zero => cases h1; cases h2; exact ⟨hr, ho⟩
  | succ j => cases h1
theorem list_of_opn {α : Type} {Q : Nat → α → Prop} : ∀ n : Nat, (∀ i, i < n → ∃ x, Q i x) → ∃ l : List α, l.length = n ∧ ∀ i (h : i < l.length), Q i l[i]
  | 0, _ => ⟨[], rfl, fun i h => absurd h (Nat.not_lt_zero _)⟩
  | n + 1, h => by
    obtain ⟨l, hl, hq⟩ := list_of_opn n fun i hi => h i (by omega)
    obtain ⟨x, hx⟩ := h n (by omega)
    refine ⟨l ++ [x], by simp [hl], fun i hi => ?_⟩
    rcases Nat.lt_or_ge i n with h1 | h1
    · rw [List.getElem_append_left (by omega)]; exact hq i (by omega)
    · have : i = n := by simp [hl] at hi; omega
      subst this
      rw [List.getElem_append_right (by omega)]
      simpa [hl] using hx
theorem OpnRow.struct {t : TypeId} {fs : Array Field} {Qs : Nat → C → Prop} (hs : P.underlying t = some (.struct fs)) (hone : oneCellFields P fs = true) (hC : P.cellsOf t = fs.size)
    (h : ∀ (j : Nat) f, fs[j]? = some f → Opn enc P W f.type (Qs j)) : OpnRow enc P W t fs.size fun row => row.length = fs.size ∧ ∀ (j : Nat) c, row[j]? = some c → Qs j c := fun fuel cs x hx => by
  obtain ⟨ys, n', hn', hy, hlen, hyl, hf⟩ := DataW.trod_struct hs hx
  rw [hC] at hlen
  obtain ⟨row, hl, hq⟩ := list_of_opn (Q := fun j (c : C) => Qs j c ∧ ∃ v, cs[j]? = some v ∧ Rep (env0 W) noLoc c v ∧ v.oneCell' = true) fs.size (fun j hj => by
    have hfj : fs[j]? = some fs[j] := Array.getElem?_eq_getElem hj
    obtain ⟨ho, hk⟩ := hone_of hone j _ hfj
    have h1 := hf j _ hfj
    rw [ho, hk] at h1
    have hone' : (cs.drop j).take 1 = [cs[j]'(by omega)] := by
      rw [List.drop_eq_getElem_cons (by omega)]
      rfl
    rw [hone', List.getElem?_eq_getElem (by omega)] at h1
    obtain ⟨v, c, e, hq, hr, hoc⟩ := h j _ hfj _ _ _ h1
    cases e
    exact ⟨c, hq, _, List.getElem?_eq_getElem (by omega), hr, hoc⟩)
  refine ⟨row, ⟨hl, fun j c hj => ?_⟩, hl, hlen, fun j c v h1 h2 => ?_⟩
  · obtain ⟨hj', rfl⟩ := List.getElem?_eq_some_iff.1 hj
    exact (hq j hj').1
  · obtain ⟨hj', rfl⟩ := List.getElem?_eq_some_iff.1 h1
    obtain ⟨_, v', e, hr, ho⟩ := hq j hj'
    rw [h2] at e; cases e
    exact ⟨hr, ho⟩
theorem Opn.slice {t e : TypeId} {k : Nat} {Q : List C → Prop} (ht : P.underlying t = some (.slice e)) (hC : P.cellsOf e = k) (hk : 0 < k) (h : OpnRow enc P W e k Q) : Opn enc P W t fun c => ∃ rows, c = .sl k rows ∧ rows.length ≤ maxLen ∧ ∀ r ∈ rows, Q r := fun fuel cs x hx => by
  rcases open_slice ht hx with h0 | ⟨a, len, cap, m, n, D, Pl, hcs, hb, hl, hm, hmm, hx, hi⟩
  · exact ⟨_, .sl k [], h0.1, ⟨[], rfl, Nat.zero_le _, fun r hr => by cases hr⟩, rep_sl.2 ⟨none, 0, rfl, Nat.le_refl _, Nat.zero_le _, .inl rfl⟩, rfl⟩
  · simp only [if_true] at hmm
    subst hmm
    obtain ⟨rows, hrl, hq⟩ := list_of_opn (Q := fun i (row : List C) => Q row ∧ row.length = k ∧ ∀ (j : Nat) c, row[j]? = some c → ∃ v, W.cell? (a.add (i * k + j)) = some v ∧ Rep (env0 W) noLoc c v ∧ v.oneCell' = true) len (fun i hlt => by
      obtain ⟨cs', hc, ht'⟩ := hi i (by omega)
      rw [hC] at hc
      obtain ⟨row, hq, hl1, hl2, hr⟩ := h _ _ _ ht'
      obtain ⟨_, hcl, hat⟩ := World.cells?_some hc
      refine ⟨row, hq, hl1, fun j c hj => ?_⟩
      have hjl : j < k := by have := (List.getElem?_eq_some_iff.1 hj).1; omega
      have hv : cs'[j]? = some (cs'[j]'(by omega)) := List.getElem?_eq_getElem (by omega)
      obtain ⟨hr1, hr2⟩ := hr j c _ hj hv
      refine ⟨_, ?_, hr1, hr2⟩
      rw [← Go.Deep.add_add, hat j hjl, hv])
    refine ⟨_, .sl k rows, hcs, ⟨rows, rfl, by omega, fun r hr => ?_⟩, ?_, rfl⟩
    · obtain ⟨i, hi', rfl⟩ := List.getElem_of_mem hr
      exact (hq i hi').1
    · refine rep_sl.2 ⟨some a, m, by rw [hrl], by omega, by omega, ?_⟩
      by_cases h0 : rows = []
      · exact .inl h0
      · have hpos : 0 < rows.length := List.length_pos_iff.2 h0
        obtain ⟨b, off, spot⟩ := a
        obtain ⟨_, hl0, h00⟩ := hq 0 hpos
        obtain ⟨v0, hc0, _⟩ := h00 0 ((rows[0]'hpos)[0]'(by omega)) (List.getElem?_eq_getElem _)
        have hspot : spot = none := by simpa [Addr.add] using World.cell?_spot hc0
        subst hspot
        refine .inr ⟨b, off, rfl, repRows_of_get fun i row hrow => ?_⟩
        obtain ⟨hi', rfl⟩ := List.getElem?_eq_some_iff.1 hrow
        obtain ⟨_, hlr, hcr⟩ := hq i hi'
        refine ⟨hlr, repCells_of_get fun j c hj => ?_⟩
        obtain ⟨v, h1, h2, h3⟩ := hcr j c hj
        rw [Addr.add_lit] at h1
        exact ⟨v, by rw [Nat.add_assoc]; exact h1, fun hf => hf, h2, h3⟩
/-- an argument of one cell -/
theorem Opn.arg {r : Reach} {b0 : Nat} {t : TypeId} {Q : C → Prop} {v : Value} {d : DataW H} {p : List MemPlace} (h : Opn enc P W t Q) (hv : v.cells = #[v]) (hd : DataW.Trod enc P W 0 (fun _ => true) true t v d p) : ∃ c, Q c ∧ Rep (env0 W) noLoc c v := by
  obtain ⟨fuel, hf⟩ := hd
  rw [hv] at hf
  obtain ⟨v', c, e, hq, hr, _⟩ := h _ _ _ hf
  cases e
  exact ⟨c, hq, hr⟩
/-- an argument that is a struct -/
theorem OpnRow.arg {r : Reach} {b0 : Nat} {t : TypeId} {fs : Array Field} {k : Nat} {Q : List C → Prop} {v : Value} {d : DataW H} {p : List MemPlace} (h : OpnRow enc P W t k Q) (hs : P.underlying t = some (.struct fs)) (hval : Value.okWide P W r b0 t v)
    (hd : DataW.Trod enc P W 0 (fun _ => true) true t v d p) : ∃ row, Q row ∧ Rep (env0 W) noLoc (.agg row) v := by
  obtain ⟨cs, rfl, hsz⟩ := okWide_struct hs hval
  obtain ⟨fuel, hf⟩ := hd
  obtain ⟨row, hq, h1, h2, hr⟩ := h _ _ _ hf
  refine ⟨row, hq, rep_agg.2 ⟨cs, rfl, repL_of_get ?_ fun i c v hc hv => (hr i c v hc hv).1⟩⟩
  have : cs.toList.length = k := h2
  omega
end
end Go.Proofs.Ytheokoehnmlafaa.Vcg
