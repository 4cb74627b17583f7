/- Conversions, lengths, appends onto nothing, calls by contract; all operations that turn nothing, in one. No condition. -/
import Derived.Test.YtheokoehnmlafaaVcg7
set_option linter.unusedVariables false
set_option linter.unusedSimpArgs false
namespace Go.Proofs.Ytheokoehnmlafaa.Vcg
open Go.RowKit
section
variable {P : Program} {G : Globs} {bx : List (List C)} {ev : Operand → C} {nx : Nat} {o : Oper}
/-- a text's bytes, as a slice's elements -/
def bytesC (l : List UInt8) : List (List C) := l.map fun b => [.sc (.int .u8 (b.toNat : Int))]
def aConv (P : Program) (s d : TypeId) (c : C) (K : C → Prop) : Prop :=
  match lay P d with
  | some ⟨.int k, _, _, _⟩ => match c with
    | .sc (.int _ n) => match lay P s with | some _ => inR k n ∧ K (.sc (.int k n)) | none => False
    | _ => False
  | some ⟨.str, _, _, _⟩ => match lay P s with
    | some ⟨.str, _, _, _⟩ => match c with
      | .str l => K (.str l)
      | _ => False
    | some ⟨.slice e, _, _, _⟩ => match lay P e with
      | some ⟨.int .u8, _, _, _⟩ => match c.rows? 1 with
        | some rows => ∃ l, rows = bytesC l ∧ K (.str l)
        | none => False
      | _ => False
    | some ⟨.int _, _, _, _⟩ => match c with
      | .sc (.int _ n) => K (.str (Utf8.encode n).data.toList)
      | _ => False
    | _ => False
  | some ⟨.slice e, _, _, _⟩ => match lay P s, lay P e with
    | some ⟨.str, _, _, _⟩, some ⟨.int .u8, _, _, _⟩ => match c with
      | .str l => ((l.length : Nat) : Int) ≤ 9223372036854775807 ∧ K (.sl 1 (bytesC l))
      | _ => False
    | _, _ => False
  | _ => False
/-- a text of a box's bytes -/
def aConvBs (P : Program) (bx : List (List C)) (s d : TypeId) (i off n : Nat) (K : C → Prop) : Prop :=
  match lay P d, lay P s with
  | some ⟨.str, _, _, _⟩, some ⟨.slice e, _, _, _⟩ => match lay P e with
    | some ⟨.int .u8, _, _, _⟩ => match bx[i]? with
      | some cs => ∃ l : List UInt8, l.length = n ∧ (cs.drop off).take n = l.map (fun b => C.sc (.int .u8 (b.toNat : Int))) ∧ K (.str l)
      | none => False
    | _ => False
  | _, _ => False
def aConvX (P : Program) (bx : List (List C)) (s d : TypeId) (c : C) (K : C → Prop) : Prop :=
  match c with
  | .bs i off _ n _ => aConvBs P bx s d i off n K
  | c => aConv P s d c K
theorem bytes_at {R : Env} {b o : Nat} : ∀ {l : List UInt8}, RepRows R (bytesC l) 1 b o → ∀ j (hj : j < l.length), R.w.cell? ((⟨b, o, none⟩ : Addr).add j) = some (.int .u8 (l[j].toNat : Int)) := fun {l} h j hj => by
  obtain ⟨_, h2⟩ := repRows_get h j [.sc (.int .u8 (l[j].toNat : Int))] (by simp [bytesC, List.getElem?_eq_getElem hj])
  obtain ⟨⟨v, h3, _, h4, _⟩, _⟩ := repCells_cons.1 h2
  rw [rep_sc] at h4
  subst h4
  rw [Addr.add_none]
  simpa using h3
theorem grownCap_le' (w : World) (need old : Nat) (e : TypeId) (h : need ≤ maxLen) : grownCap w need old e ≤ maxLen := grownCap_le_maxLen w need old e h
theorem pure_conv {s d : TypeId} {x : Operand} (ho : o.op = .convert s d x) (K : C → Prop) (h : aConv P s d (ev x) K) : ∃ c, PureSem P G bx ev nx o c nx ∧ K c := by
  unfold aConv at h
  split at h
  · rename_i k s1 b1 z1 hd
    have hu := lay_int hd rfl
    split at h
    · rename_i k0 n hev
      split at h <;> try exact h.elim
      rename_i Ls hls
      refine ⟨_, .of_same fun B R L ρ hf hr => ?_, h.2⟩
      have hx := hr x; rw [hev, rep_sc] at hx
      obtain ⟨ds, hds⟩ := Option.isSome_iff_exists.mp (lay_some hls)
      refine ⟨.int k n, ?_, rep_sc.2 rfl⟩
      unfold execOp
      simp [ho, hx, convert, run_underlying hds, run_underlying hu, Conv.intToInt, wrap_inR h.1]
    · exact h.elim
  · rename_i s1 b1 z1 hd
    have hu := lay_str hd rfl
    split at h
    · rename_i s2 b2 z2 hs
      have hus := lay_str hs rfl
      split at h
      · rename_i l hev
        refine ⟨_, .of_same fun B R L ρ hf hr => ?_, h⟩
        have hx := hr x; rw [hev, rep_str] at hx
        refine ⟨.string ⟨l.toArray⟩, ?_, rep_str.2 rfl⟩
        unfold execOp
        simp [ho, hx, convert, run_underlying hus, run_underlying hu]
      · exact h.elim
    · rename_i e s2 b2 z2 hs
      have hus := lay_slice hs rfl
      split at h
      · rename_i s3 b3 z3 he
        have hue := lay_int he rfl
        split at h
        · rename_i rows hrows
          obtain ⟨l, rfl, hK⟩ := h
          refine ⟨_, .of_same fun B R L ρ hf hr => ?_, hK⟩
          obtain ⟨a, cap, e1, h1, h2, h3⟩ := (hr x).rows hrows
          have hlen : (bytesC l).length = l.length := by simp [bytesC]
          refine ⟨.string ⟨l.toArray⟩, ?_, rep_str.2 rfl⟩
          have hrun : (convert s d (ρ x)).run P R.w = .ok (.string ⟨l.toArray⟩) R.w := by
            rw [e1, hlen]
            cases a with
            | none =>
              have hl0 : l = [] := by
                rcases h3 with h3 | ⟨b, o, h3, _⟩
                · simpa [bytesC] using h3
                · cases h3
              subst hl0
              exact run_convert_bytes_nil R.w s e hus hue _ _ d hu
            | some ad =>
              refine run_convert_bytes_back R.w s d e ad cap l hus hue hu fun j hj => ?_
              rcases h3 with h3 | ⟨b, o, h3, h4⟩
              · have : l = [] := by simpa [bytesC] using h3
                subst this; simp at hj
              · cases h3
                exact bytes_at h4 j hj
          unfold execOp
          simp only [ho]
          rw [Sem.run_bind, hrun]; rfl
        · exact h.elim
      · exact h.elim
    · rename_i k2 s2 b2 z2 hs
      have hus := lay_int hs rfl
      split at h
      · rename_i k0 n hev
        refine ⟨_, .of_same fun B R L ρ hf hr => ?_, h⟩
        have hx := hr x; rw [hev, rep_sc] at hx
        refine ⟨.string (Utf8.encode n), ?_, rep_str.2 (by simp)⟩
        unfold execOp
        simp [ho, hx, convert, run_underlying hus, run_underlying hu, Conv.intToString]
      · exact h.elim
    · exact h.elim
  · rename_i e s1 b1 z1 hd
    have hu := lay_slice hd rfl
    split at h
    · rename_i s2 b2 z2 s3 b3 z3 hs he
      have hus := lay_str hs rfl
      have hue := lay_int he rfl
      split at h
      · rename_i l hev
        obtain ⟨hsz, hK⟩ := h
        refine ⟨_, ⟨Nat.le_refl _, fun B R L ρ hf hfree hr => ?_⟩, hK⟩
        have hx := hr x; rw [hev, rep_str] at hx
        have hls : (ByteArray.mk l.toArray).size = l.length := by simp [ByteArray.size]
        have hrun := run_bytes_of_string (P := P) R.w s d e ⟨l.toArray⟩ hus hu hue
        have hbelow : Below R.w.heap.size R.w (R.w.drew.alloc (.cells (bytesRow ⟨l.toArray⟩ (grownCap R.w (ByteArray.mk l.toArray).size 0 e)) e ((bytesRow ⟨l.toArray⟩ (grownCap R.w (ByteArray.mk l.toArray).size 0 e)).size, (bytesRow ⟨l.toArray⟩ (grownCap R.w (ByteArray.mk l.toArray).size 0 e)).size + 1))) :=
          ((Below.refl _ _).drew).alloc (Nat.le_refl _) _
        have hge := grownCap_ge R.w l.length 0 e
        refine Runs.value (w' := R.w.drew.alloc (.cells (bytesRow ⟨l.toArray⟩ (grownCap R.w (ByteArray.mk l.toArray).size 0 e)) e ((bytesRow ⟨l.toArray⟩ (grownCap R.w (ByteArray.mk l.toArray).size 0 e)).size, (bytesRow ⟨l.toArray⟩ (grownCap R.w (ByteArray.mk l.toArray).size 0 e)).size + 1))) (v := .slice (some ⟨R.w.heap.size, 0, none⟩) (ByteArray.mk l.toArray).size (grownCap R.w (ByteArray.mk l.toArray).size 0 e)) ?_ ⟨_, L, rfl, PStep.mem hbelow, ?_⟩
        · unfold execOp
          simp only [ho, hx]
          rw [Sem.run_bind, hrun]; rfl
        · rw [hls]
          refine rep_sl.2 ⟨some ⟨R.w.heap.size, 0, none⟩, grownCap R.w l.length 0 e, by simp [bytesC], by simpa [bytesC] using hge, grownCap_le_maxLen _ _ _ _ (by unfold maxLen; omega), ?_⟩
          by_cases h0 : bytesC l = []
          · exact .inl h0
          · refine .inr ⟨R.w.heap.size, 0, rfl, repRows_of_get fun i row hrow => ?_⟩
            simp only [bytesC, List.getElem?_map] at hrow
            cases hq : l[i]? with
            | none => simp [hq] at hrow
            | some bt =>
              simp [hq] at hrow
              subst hrow
              refine ⟨rfl, repCells_cons.2 ⟨⟨.int .u8 (bt.toNat : Int), ?_, fun hm => by have := hm.1; omega, rep_sc.2 rfl, rfl⟩, repCells_nil⟩⟩
              have hh := heap_alloc_new R.w.drew (.cells (bytesRow ⟨l.toArray⟩ (grownCap R.w l.length 0 e)) e ((bytesRow ⟨l.toArray⟩ (grownCap R.w l.length 0 e)).size, (bytesRow ⟨l.toArray⟩ (grownCap R.w l.length 0 e)).size + 1))
              rw [cell_of_row _ R.w.heap.size (0 + i * 1) _ _ _ hh]
              have hi : i < l.length := (List.getElem?_eq_some_iff.1 hq).1
              unfold bytesRow
              rw [Nat.zero_add, Nat.mul_one, Array.getElem?_append_left (by simpa using hi)]
              simp [hq]
      · exact h.elim
    · exact h.elim
  · exact h.elim
theorem pure_convX {s d : TypeId} {x : Operand} (ho : o.op = .convert s d x) (K : C → Prop) (h : aConvX P bx s d (ev x) K) : ∃ c, PureSem P G bx ev nx o c nx ∧ K c := by
  unfold aConvX at h
  split at h
  · rename_i i off k n cap hev
    unfold aConvBs at h
    split at h <;> try exact h.elim
    rename_i s1 b1 z1 e s2 b2 z2 hd hs
    have hu := lay_str hd rfl
    have hus := lay_slice hs rfl
    split at h <;> try exact h.elim
    rename_i s3 b3 z3 he
    have hue := lay_int he rfl
    split at h <;> try exact h.elim
    rename_i cs hcs
    obtain ⟨l, rfl, hl, hK⟩ := h
    refine ⟨_, .of_same fun B R L ρ hf hr => ?_, hK⟩
    have hx := hr x; rw [hev, rep_bs] at hx
    obtain ⟨b, hb, ad, e1, had⟩ := hx
    obtain ⟨vs, ty, h1, h2, h3, _⟩ := hf.boxes.box i b cs hb hcs
    refine ⟨.string ⟨l.toArray⟩, ?_, rep_str.2 rfl⟩
    have hrun : (convert s d (ρ x)).run P R.w = .ok (.string ⟨l.toArray⟩) R.w := by
      rw [e1]
      refine run_convert_bytes_back R.w s d e ad cap l hus hue hu fun j hj => ?_
      obtain rfl := had (by omega)
      have hcj : cs[off + j]? = some (.sc (.int .u8 (l[j].toNat : Int))) := by
        have := congrArg (·[j]?) hl
        simp only [List.getElem?_take, if_pos hj, List.getElem?_drop, List.getElem?_map, List.getElem?_eq_getElem hj] at this
        exact this
      obtain ⟨v, hv, hrep⟩ := repL_get h2 _ _ hcj
      rw [rep_sc] at hrep
      subst hrep
      rw [Addr.add_none, cell_of_row R.w b (off + j) vs ty (0, 0) h1]
      simpa using hv
    unfold execOp
    simp only [ho]
    rw [Sem.run_bind, hrun]; rfl
  · exact pure_conv ho K h
/-- len -/
def aLenS (P : Program) (t : TypeId) (rows : List (List C)) (K : C → Prop) : Prop :=
  match lay P t with
  | some ⟨.slice _, _, _, _⟩ => K (.sc (.int .i64 (rows.length : Int)))
  | _ => False
def aLen (P : Program) (t : TypeId) (c : C) (K : C → Prop) : Prop :=
  match c with
  | .str l => match lay P t with
    | some ⟨.str, _, _, _⟩ => K (.sc (.int .i64 (l.length : Int)))
    | _ => False
  | .sl _ rows => aLenS P t rows K
  | .tight _ rows => aLenS P t rows K
  | .own _ _ _ rows => aLenS P t rows K
  | .sc (.slice none 0 0) => match lay P t with
    | some ⟨.slice _, _, _, _⟩ => K (.sc (.int .i64 0))
    | _ => False
  | .bs _ _ _ n _ => match lay P t with
    | some ⟨.slice _, _, _, _⟩ => K (.sc (.int .i64 (n : Int)))
    | _ => False
  | _ => False
theorem aLenS.out {t : TypeId} {rows : List (List C)} {K : C → Prop} (h : aLenS P t rows K) : (∃ e, P.underlying t = some (.slice e)) ∧ K (.sc (.int .i64 (rows.length : Int))) := by
  unfold aLenS at h
  split at h
  · rename_i hl; exact ⟨⟨_, lay_slice hl rfl⟩, h⟩
  · exact h.elim
theorem run_len_sl {t ty e : TypeId} (h : P.underlying t = some (.slice e)) (w : World) (a : Option Addr) (n c : Nat) : (Builtin.len_ #[t] ty #[.slice a n c]).run P w = .ok (goInt n) w := by
  simp [Builtin.len_, run_underlying h]
theorem pure_len {t : TypeId} {x : Operand} (ho : o.op = .call { callee := .builtin .len, args := #[x], argTypes := #[t] }) (K : C → Prop) (h : aLen P t (ev x) K) : ∃ c, PureSem P G bx ev nx o c nx ∧ K c := by
  have key : ∀ (n : Nat), K (.sc (.int .i64 (n : Int))) → (∃ e, P.underlying t = some (.slice e)) → (∀ (R : Env) (L : Loc) v, Rep R L (ev x) v → ∃ a c, v = .slice a n c) → ∃ c, PureSem P G bx ev nx o c nx ∧ K c := fun n hK ⟨e, he⟩ hv =>
    ⟨_, .of_same fun B R L ρ hf hr => by
      obtain ⟨a, c, e1⟩ := hv R L _ (hr x)
      refine ⟨.int .i64 (n : Int), ?_, rep_sc.2 rfl⟩
      unfold execOp
      simp only [ho, resolve, invoke, builtin, Sem.run_bind, Sem.run_pure, Result.andThen_ok, List.map_toArray, List.map_cons, List.map_nil, e1, run_len_sl he]
      rfl, hK⟩
  unfold aLen at h
  split at h
  · rename_i l hev
    split at h <;> try exact h.elim
    rename_i hls
    refine ⟨_, .of_same fun B R L ρ hf hr => ?_, h⟩
    have hx := hr x; rw [hev, rep_str] at hx
    refine ⟨.int .i64 (l.length : Int), ?_, rep_sc.2 rfl⟩
    have hsz : (ByteArray.mk l.toArray).size = l.length := by simp [ByteArray.size]
    unfold execOp
    simp only [ho, resolve, invoke, builtin, Sem.run_bind, Sem.run_pure, Result.andThen_ok, List.map_toArray, List.map_cons, List.map_nil, hx, run_len_string R.w t _ _ (lay_str hls rfl), hsz]
    rfl
  · rename_i k rows hev
    refine key rows.length h.out.2 h.out.1 fun R L v hv => ?_
    rw [hev] at hv
    obtain ⟨a, cap, e1, _⟩ := rep_sl.1 hv
    exact ⟨a, cap, e1⟩
  · rename_i k rows hev
    refine key rows.length h.out.2 h.out.1 fun R L v hv => ?_
    rw [hev] at hv
    obtain ⟨a, e1, _⟩ := rep_tight.1 hv
    exact ⟨a, _, e1⟩
  · rename_i id e k rows hev
    refine key rows.length h.out.2 h.out.1 fun R L v hv => ?_
    rw [hev] at hv
    obtain ⟨_, a, cap, e1, _⟩ := rep_own.1 hv
    exact ⟨a, _, e1⟩
  · rename_i hev
    split at h <;> try exact h.elim
    rename_i hls
    refine key 0 h ⟨_, lay_slice hls rfl⟩ fun R L v hv => ?_
    rw [hev, rep_sc] at hv
    exact ⟨none, 0, hv⟩
  · rename_i i0 off0 k0 n0 c0 hev
    split at h <;> try exact h.elim
    rename_i hls
    refine key n0 h ⟨_, lay_slice hls rfl⟩ fun R L v hv => ?_
    rw [hev, rep_bs] at hv
    obtain ⟨b, _, ad, e1, _⟩ := hv
    exact ⟨_, _, e1⟩
  · exact h.elim
/-- append onto nothing, or onto a slice that has no room -/
def aAppNew (P : Program) (t : TypeId) (s x : C) (nx : Nat) (K : C → Nat → Prop) : Prop :=
  match lay P t with
  | some ⟨.slice e, _, _, _⟩ => match lay P e with
    | some ⟨_, k, by', some z⟩ => match x.rows? k with
      | some xs => match s with
        | .sc (.slice none 0 0) => z.length = k ∧ 0 < k ∧ xs.length ≤ 9223372036854775807 ∧ xs.length * by' ≤ 140737488355328 ∧ K (.own nx e k xs) (nx + 1)
        | .tight k' rows => k' = k ∧ z.length = k ∧ 0 < k ∧ xs ≠ [] ∧ rows.length + xs.length ≤ 9223372036854775807 ∧ (rows.length + xs.length) * by' ≤ 140737488355328 ∧ K (.own nx e k (rows ++ xs)) (nx + 1)
        | _ => False
      | none => False
    | _ => False
  | _ => False
theorem run_append_zero {t ty e : TypeId} {i : TypeInfo} (ht : P.underlying t = some (.slice e)) (hi : P.info? e = some i) (w : World) (a b : Option Addr) (n c c' : Nat) (hc : n ≤ c) :
    (Builtin.append_ #[t, t] ty #[.slice a n c, .slice b 0 c']).run P w = .ok (.slice a n c) w := by
  cases a <;> cases b <;> simp [Builtin.append_, run_underlying ht, sizeOf, typeInfo, hi, Builtin.lenOf, Builtin.firstCells, loadCells, loadCellsFrom, hc, storeCells]
theorem run_append_fresh {t ty e : TypeId} {i : TypeInfo} {z : Value} (ht : P.underlying t = some (.slice e)) (hi : P.info? e = some i) (hz : i.zero = some z) (w : World)
    (b : Option Addr) (n : Nat) (olds : List Value) (hlo : olds.length = n * i.size) (holds : n = 0 ∨ ∃ ad, b = some ad ∧ ∀ (j : Nat) v, olds[j]? = some v → w.cell? (ad.add j) = some v)
    (a : Addr) (m c : Nat) (news : List Value) (hl : news.length = m * i.size) (hnews : ∀ (j : Nat) v, news[j]? = some v → w.cell? (a.add j) = some v)
    (hm : 0 < m) (h63 : n + m ≤ 9223372036854775807) (hby : (n + m) * i.bytes ≤ 140737488355328) :
    (Builtin.append_ #[t, t] ty #[.slice b n n, .slice (some a) m c]).run P w =
      .ok (.slice (some ⟨w.heap.size, 0, none⟩) (n + m) (grownCap w (n + m) n e)) (w.drew.alloc (.cells (olds.toArray ++ news.toArray ++ Builtin.zeroCells z.cells (grownCap w (n + m) n e - (n + m))) e)) := by
  have hfit := growslice_fits (need := n + m) (old := n) (bytes := i.bytes) (by omega) hby
  rcases b with _ | ad
  · have hn0 : n = 0 := by
      rcases holds with h | ⟨ad, h, _⟩
      · exact h
      · cases h
    subst hn0
    have ho : olds = [] := List.eq_nil_of_length_eq_zero (by simpa using hlo)
    subst ho
    have := run_append_nil (P := P) w t ty e i z ht hi hz a m c news hl hnews hm (by omega) (by rw [Nat.zero_add] at hby; omega)
    simpa using this
  · rcases holds with h | ⟨ad', h, hh⟩
    · subst h
      have ho : olds = [] := List.eq_nil_of_length_eq_zero (by simpa using hlo)
      subst ho
      exact run_append_grow (P := P) w t ty e i z ht hi hz ad 0 0 [] (by simp) (fun j v h => by simp at h) a m c news hl hnews (by omega) (by omega) hfit
    · cases h
      exact run_append_grow (P := P) w t ty e i z ht hi hz ad n n olds hlo hh a m c news hl hnews (by omega) (by omega) hfit
theorem pure_appNew {t : TypeId} {s x : Operand} (ho : o.op = .call { callee := .builtin .append, args := #[s, x], argTypes := #[t, t] }) (K : C → Nat → Prop) (h : aAppNew P t (ev s) (ev x) nx K) : ∃ c nx', PureSem P G bx ev nx o c nx' ∧ K c nx' := by
  unfold aAppNew at h
  split at h
  · rename_i e s1 b1 z1 hl
    have ht := lay_slice hl rfl
    split at h
    · rename_i kd k by' z hle
      obtain ⟨i, d, hi, hd, _, hsz, hbyt, hzz⟩ := lay_spec hle
      simp only at hsz hbyt hzz
      split at h
      · rename_i xs hxs
        have key : ∀ (rows : List (List C)), z.length = k → 0 < k → rows.length + xs.length ≤ 9223372036854775807 → (rows.length + xs.length) * by' ≤ 140737488355328 → xs ≠ [] →
            (∀ (R : Env) (L : Loc) v, Rep R L (ev s) v → ∃ a, v = .slice a rows.length rows.length ∧ (rows = [] ∨ ∃ b o, a = some ⟨b, o, none⟩ ∧ RepRows R rows k b o)) → PureSem P G bx ev nx o (.own nx e k (rows ++ xs)) (nx + 1) := by
          intro rows hzk hk0 h63 hby hne hsv
          refine ⟨by omega, fun B R L ρ hf hfree hr => ?_⟩
          obtain ⟨a, es, hrows⟩ := hsv R L _ (hr s)
          obtain ⟨ax, capx, ex, hx1, hx2, hx3⟩ := (hr x).rows hxs
          rcases hx3 with hx3 | ⟨bb, off, rfl, hxr⟩
          · exact absurd hx3 hne
          · cases hiz : i.zero with
            | none => simp [hiz] at hzz
            | some zv =>
              simp only [hiz, Option.map_some, Option.some.injEq] at hzz
              obtain ⟨hxc, hxl⟩ := repCells_flatten hxr
              obtain ⟨news, n1, n2, n3⟩ := repCells_vals hxc
              have hnl := repL_length n2
              have hrs : ∃ olds : List Value, RepL R noLoc rows.flatten olds ∧ (∀ v ∈ olds, v.oneCell' = true) ∧ olds.length = rows.length * k ∧ (∀ r ∈ rows, r.length = k) ∧ (rows.length = 0 ∨ ∃ ad, a = some ad ∧ ∀ (j : Nat) v, olds[j]? = some v → R.w.cell? (ad.add j) = some v) := by
                rcases hrows with rfl | ⟨b, o', rfl, hrr⟩
                · exact ⟨[], repL_nil.2 rfl, fun v h => by (cases h), by simp, fun r h => by (cases h), .inl rfl⟩
                · obtain ⟨h1, h2⟩ := repCells_flatten hrr
                  obtain ⟨olds, o1, o2, o3⟩ := repCells_vals h1
                  refine ⟨olds, o2, o3, by rw [repL_length o2, h2], fun r hr => ?_, .inr ⟨_, rfl, fun j v hj => by rw [Addr.add_none]; exact o1 j v hj⟩⟩
                  obtain ⟨i, hi, rfl⟩ := List.getElem_of_mem hr
                  exact (repRows_get hrr i _ (List.getElem?_eq_getElem hi)).1
              obtain ⟨olds, p1, p2, p3, p4, p5⟩ := hrs
              have hrun := run_append_fresh (P := P) (ty := o.type) ht hi hiz R.w a rows.length olds (by rw [p3, hsz]) p5 ⟨bb, off, none⟩ xs.length capx news (by rw [hnl, hxl, hsz]) (fun j v hj => by rw [Addr.add_none]; exact n1 j v hj)
                (List.length_pos_iff.2 hne) h63 (by rw [← hbyt]; exact hby)
              have hxk : ∀ r ∈ xs, r.length = k := fun r hr => by
                obtain ⟨i, hi, rfl⟩ := List.getElem_of_mem hr
                exact (repRows_get hxr i _ (List.getElem?_eq_getElem hi)).1
              have hall : ∀ r ∈ rows ++ xs, r.length = k := fun r hr => by
                rcases List.mem_append.1 hr with hr | hr
                · exact p4 r hr
                · exact hxk r hr
              have hlen : (rows ++ xs).length = rows.length + xs.length := List.length_append
              have hge := grownCap_ge R.w (rows.length + xs.length) rows.length e
              have hzc : zv.cells.size = k := by rw [← hzk, hzz]; simp
              obtain ⟨R', L', w1, w2, w3⟩ := own_new (R := R) (L := L) (w' := R.w.drew.alloc (.cells (olds.toArray ++ news.toArray ++ Builtin.zeroCells zv.cells (grownCap R.w (rows.length + xs.length) rows.length e - (rows.length + xs.length))) e))
                (g := R.w.heap.size) (cap := grownCap R.w (rows.length + xs.length) rows.length e) (e := e) (k := k) (nx := nx) (rows := rows ++ xs) (vs := olds ++ news) hf.β_lt
                (((Below.refl _ _).drew).alloc (Nat.le_refl _) _) (Nat.le_refl _) (heap_alloc_new _ _) (by
                  simp only [Array.size_append, List.size_toArray, size_zeroCells, hzc, p3, hnl, hxl, ← Nat.add_mul]
                  congr 1; omega) hall (by rw [List.flatten_append]; exact repL_append p1 n2) (fun v hv => by
                  rcases List.mem_append.1 hv with hv | hv
                  · exact p2 v hv
                  · exact n3 v hv) (by
                  rw [hlen, Nat.add_mul, ← p3, ← hxl, ← hnl]
                  simp only [Array.toList_append]
                  rw [← List.length_append, List.take_left']
                  simp) (by rw [hlen]; exact hge) (grownCap_le_maxLen _ _ _ _ (by unfold maxLen; omega))
              rw [hlen] at w3
              refine Runs.value ?_ ⟨R', L', w1, w2, w3⟩
              unfold execOp
              simp only [ho, resolve, invoke, builtin, Sem.run_bind, Sem.run_pure, Result.andThen_ok, List.map_toArray, List.map_cons, List.map_nil, es, ex, hrun]
        split at h
        · rename_i hev
          obtain ⟨hzk, hk0, h63, hby, hK⟩ := h
          refine ⟨_, _, ?_, hK⟩
          by_cases hne : xs = []
          · subst hne
            refine ⟨by omega, fun B R L ρ hf hfree hr => ?_⟩
            have hs := hr s; rw [hev, rep_sc] at hs
            obtain ⟨ax, capx, ex, _⟩ := (hr x).rows hxs
            obtain ⟨R', L', w1, w2, w3⟩ := own_nil (R := R) (L := L) (e := e) (k := k) (nx := nx)
            refine Runs.value (w' := R.w) (v := .slice none 0 0) ?_ ⟨R', L', w1, w2, w3⟩
            unfold execOp
            simp only [ho, resolve, invoke, builtin, Sem.run_bind, Sem.run_pure, Result.andThen_ok, List.map_toArray, List.map_cons, List.map_nil, hs, ex]
            simp only [List.length_nil, run_append_zero ht hi R.w none ax 0 0 capx (Nat.le_refl _), Result.andThen_ok]
          · have := key [] hzk hk0 (by simpa using h63) (by simpa using hby) hne fun R L v hv => ⟨none, by rw [hev, rep_sc] at hv; simpa using hv, .inl rfl⟩
            simpa using this
        · rename_i k' rows hev
          obtain ⟨rfl, hzk, hk0, hne, h63, hby, hK⟩ := h
          refine ⟨_, _, key rows hzk hk0 h63 hby hne fun R L v hv => ?_, hK⟩
          rw [hev] at hv
          obtain ⟨a, e1, _, e2⟩ := rep_tight.1 hv
          exact ⟨a, e1, e2⟩
        · exact h.elim
      · exact h.elim
    · exact h.elim
  · exact h.elim
end
end Go.Proofs.Ytheokoehnmlafaa.Vcg
