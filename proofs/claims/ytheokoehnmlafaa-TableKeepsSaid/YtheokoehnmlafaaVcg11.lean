/- append onto a slice of the walk's own. No condition. -/
import Derived.Test.YtheokoehnmlafaaVcg10
set_option linter.unusedVariables false
set_option linter.unusedSimpArgs false
namespace Go.Proofs.Ytheokoehnmlafaa.Vcg
open Go.RowKit
section
variable {P : Program} {G : Globs} {E : Ctx} {σ : St} {o : Oper} {a : Act}
def dgTm (id : Nat) : List (Nat × C) → List (Nat × C)
  | [] => []
  | (t, c) :: r => (t, c.dg id) :: dgTm id r
def dgBx (id : Nat) : List (List C) → List (List C)
  | [] => []
  | cs :: r => C.dgL id cs :: dgBx id r
theorem getC_dg (id : Nat) : ∀ (tm : List (Nat × C)) (t : Nat), getC (dgTm id tm) t = (getC tm t).dg id
  | [], t => by simp only [dgTm, getC]; unfold C.dg; rfl
  | (u, c) :: r, t => by
    simp only [dgTm, getC]
    split
    · rfl
    · exact getC_dg id r t
theorem dgBx_length (id : Nat) : ∀ bx : List (List C), (dgBx id bx).length = bx.length
  | [] => rfl
  | c :: r => by simp [dgBx, dgBx_length id r]
theorem dgBx_get (id : Nat) : ∀ (bx : List (List C)) (i : Nat), (dgBx id bx)[i]? = (bx[i]?).map (C.dgL id)
  | [], i => by simp [dgBx]
  | c :: r, 0 => by simp [dgBx]
  | c :: r, i + 1 => by simp [dgBx, dgBx_get id r i]
def aAppOwn (P : Program) (t : TypeId) (s x : C) (σ : St) (K : C → St → Prop) : Prop :=
  match s with
  | .own id e k rows => match lay P t with
    | some ⟨.slice e', _, _, _⟩ => match lay P e with
      | some ⟨_, k', by', some z⟩ => match x.rows? k with
        | some xs => e' = e ∧ k' = k ∧ z.length = k ∧ 0 < k ∧ rows.length + xs.length ≤ 9223372036854775807 ∧ (rows.length + xs.length) * by' ≤ 140737488355328 ∧ K (.own id e k (rows ++ xs)) ⟨dgTm id σ.tm, dgBx id σ.bx, σ.nx, σ.lg⟩
        | none => False
      | _ => False
    | _ => False
  | _ => False
/-- the state behind an append: the owner holds another value, in a block of the walk's own -/
theorem InvV.regrow {R : Env} {L : Loc} (h : InvV G E σ a R L) {id e k : Nat} {v0 v' : Value} (hid : L.T id = some (e, k, v0)) {R' : Env} (hext : Ext R R') (hos : R'.w.os = R.w.os) (htp : R'.w.tape = R.w.tape) (hout : R'.w.output = R.w.output) (hsz : R.w.heap.size ≤ R'.w.heap.size) (hfgn : R'.F = R.F)
    (hblk : ∀ b, b < R.w.heap.size → v0.ownBlock ≠ some b → R'.w.heap[b]? = R.w.heap[b]? ∧ ∀ o, R'.M b o ↔ R.M b o)
    (hown : OwnAt E.tu R' L.β e k v') (hnew : ∀ b, v'.ownBlock = some b → v0.ownBlock = some b ∨ R.w.heap.size ≤ b) :
    InvV G E ⟨dgTm id σ.tm, dgBx id σ.bx, σ.nx, σ.lg⟩ a R' ⟨L.β, fun i => if i = id then some (e, k, v') else L.T i⟩ := by
  have hdgb : ∀ (i b : Nat), L.β[i]? = some b → (Loc.mk L.β (fun i => if i = id then some (e, k, v') else L.T i)).β[i]? = some b := fun i b hb => hb
  have hdgt : ∀ i x, i ≠ id → L.T i = some x → (Loc.mk L.β (fun i => if i = id then some (e, k, v') else L.T i)).T i = some x := fun i x hne hi => by
    show (if i = id then _ else L.T i) = some x
    rw [if_neg hne]; exact hi
  have hv0 := h.good.fit.owns.own id e k v0 hid
  have hother : ∀ i e1 k1 v1 b, i ≠ id → L.T i = some (e1, k1, v1) → v1.ownBlock = some b → v0.ownBlock ≠ some b := fun i e1 k1 v1 b hne h1 h2 h3 => hne (h.good.fit.owns.apart i id e1 k1 v1 e k v0 b h1 hid h2 h3)
  have hbase : ∀ b, v0.ownBlock = some b → E.tu b ∧ b < R.w.heap.size ∧ b ∉ L.β := fun b hb => hv0.block hb
  have hcells : ∀ b, v0.ownBlock = some b → ∃ cs t f, R.w.heap[b]? = some (.cells cs t f) := fun b hb => by
    rcases hv0 with g | ⟨g, n', cap, cur, _, q1, q2, q3, q⟩
    · subst g; cases hb
    · subst q1; cases hb; exact ⟨_, _, _, q3⟩
  have hnear : Near E.w0 E.ex R R' := ⟨hos, htp, hout, hsz, hfgn, hext, fun b hb => by
    by_cases hvb : v0.ownBlock = some b
    · exact .inr ⟨(hbase b hvb).1, h.good.fow id e k v0 b hid hvb, hcells b hvb⟩
    · exact .inl (hblk b hb hvb)⟩
  refine ⟨h.good.move hnear.nigh ⟨h.good.fit.glob.ext hext, ⟨by rw [dgBx_length]; exact h.good.fit.boxes.len, h.good.fit.boxes.nodup, fun i b cs hi hc => ?_⟩, ⟨fun i e1 k1 v1 ht => ?_, fun i j e1 k1 v1 e2 k2 v2 b h1 h2 h3 h4 => ?_⟩, fun g hg => h.good.fit.base g (Nat.le_trans hsz hg)⟩
    ⟨[], by rw [List.append_nil], fun b hb => by cases hb⟩ (fun i e1 k1 v1 b ht hv => ?_) (fun i hi => ?_), h.size, h.df.near hnear, fun t => ?_⟩
  · simp only [dgBx_get] at hc
    cases hq : σ.bx[i]? with
    | none => simp [hq] at hc
    | some cs0 =>
      simp [hq] at hc
      subst hc
      obtain ⟨vs, ty, e1, e2, e3, e4⟩ := h.good.fit.boxes.box i b cs0 hi hq
      have hne : v0.ownBlock ≠ some b := fun e' => (hbase b e').2.2 (List.mem_of_getElem? hi)
      obtain ⟨g1, g2⟩ := hblk b (heap_lt e1) hne
      exact ⟨vs, ty, by rw [g1]; exact e1, RepL.dg hdgb hdgt _ _ (RepL.ext hext (LocLe.refl _) _ _ e2), e3, fun o => (g2 o).2 (e4 o)⟩
  · simp only at ht
    split at ht
    · cases ht; exact hown
    · rename_i hne
      rcases h.good.fit.owns.own i e1 k1 v1 ht with g | ⟨g, n', cap, cur, _, q1, q2, q3, q4, q5, q6, q7, q8⟩
      · exact .inl g
      · obtain ⟨g1, g2⟩ := hblk g (heap_lt q3) (hother i e1 k1 v1 g hne ht (by rw [q1]; rfl))
        exact .inr ⟨g, n', cap, cur, _, q1, q2, by rw [g1]; exact q3, q4, q5, q6, q7, fun o ho => (g2 o).2 (q8 o ho)⟩
  · simp only at h1 h2
    split at h1 <;> split at h2
    · omega
    · rename_i hi hj
      cases h1
      rcases hnew b h3 with g | g
      · exact absurd g (hother j e2 k2 v2 b hj h2 h4)
      · have := ((h.good.fit.owns.own j e2 k2 v2 h2).block h4).2.1; omega
    · rename_i hi hj
      cases h2
      rcases hnew b h4 with g | g
      · exact absurd g (hother i e1 k1 v1 b hi h1 h3)
      · have := ((h.good.fit.owns.own i e1 k1 v1 h1).block h3).2.1; omega
    · exact h.good.fit.owns.apart i j e1 k1 v1 e2 k2 v2 b h1 h2 h3 h4
  · simp only at ht
    split at ht
    · cases ht
      rcases hnew b hv with g | g
      · exact .inl ⟨id, e, k, v0, hid, g⟩
      · exact .inr g
    · exact .inl ⟨i, e1, k1, v1, ht, hv⟩
  · show (if i = id then _ else L.T i) = none
    have hne : i ≠ id := fun e' => by
      subst e'
      rw [h.good.free i hi] at hid; cases hid
    rw [if_neg hne]; exact h.good.free i hi
  · simp only [getC_dg]
    exact Rep.dg hdgb hdgt _ _ (Rep.ext hext (LocLe.refl _) _ _ (h.tm t))
theorem run_append_roomT {t ty e : TypeId} {i : TypeInfo} (ht : P.underlying t = some (.slice e)) (hi : P.info? e = some i) (w : World)
    (g sLen sCap : Nat) (cur : Array Value) (e' : TypeId) (hg : w.heap[g]? = some (.cells cur e' (0, 0)))
    (a : Addr) (m c : Nat) (news : List Value) (hl : news.length = m * i.size) (hnews : ∀ (j : Nat) u, news[j]? = some u → w.cell? (a.add j) = some u) (h1 : ∀ u ∈ news, u.oneCell' = true)
    (hroom : sLen + m ≤ sCap) (hfit : sLen * i.size + news.length ≤ cur.size) :
    (Builtin.append_ #[t, t] ty #[.slice (some ⟨g, 0, none⟩) sLen sCap, .slice (some a) m c]).run P w =
      .ok (.slice (some ⟨g, 0, none⟩) (sLen + m) sCap) (w.setRow g (cur.toList.take (sLen * i.size) ++ news ++ cur.toList.drop (sLen * i.size + news.length)).toArray) := by
  have hf := run_firstCells_some (P := P) w i.size m a m c news hl hnews
  have hst := run_storeCells_at P g (sLen * i.size) e' news 0 cur w hg (by simpa using hfit) h1
  simp only [Nat.add_zero] at hst
  simp [Builtin.append_, run_underlying ht, sizeOf, typeInfo, hi, Builtin.lenOf, hroom, hf, Addr.add_lit, hst]
theorem rep_rows_new {R' : Env} {g k : Nat} {e : TypeId} {rows : List (List C)} {vs : List Value} {cur : Array Value} {R : Env} (hext : Ext R R') (hh : R'.w.heap[g]? = some (.cells cur e (0, 0))) (hk : ∀ r ∈ rows, r.length = k)
    (hrep : RepL R noLoc rows.flatten vs) (hone : ∀ v ∈ vs, v.oneCell' = true) (htake : cur.toList.take (rows.length * k) = vs) (hM : ∀ o, o < rows.length * k → ¬ R'.M g o) : RepRows R' rows k g 0 := by
  refine repRows_of_get fun i row hrow => ⟨hk row (List.mem_of_getElem? hrow), repCells_of_get fun j c hc => ?_⟩
  have hkr := hk row (List.mem_of_getElem? hrow)
  have hj : j < k := by rw [← hkr]; exact (List.getElem?_eq_some_iff.1 hc).1
  have hi : i < rows.length := (List.getElem?_eq_some_iff.1 hrow).1
  have hf := flatten_get hk i j row hrow hj
  rw [hc] at hf
  obtain ⟨v, hv, hr⟩ := repL_get hrep _ _ hf
  have hlt2 : i * k + j < rows.length * k := by
    have : (i + 1) * k ≤ rows.length * k := Nat.mul_le_mul_right _ hi
    rw [Nat.add_mul] at this; omega
  refine ⟨v, ?_, hM _ (by omega), Rep.ext hext (LocLe.refl _) _ _ hr, hone v (List.mem_of_getElem? hv)⟩
  rw [cell_of_row R'.w g (0 + i * k + j) cur e (0, 0) hh]
  rw [← htake, List.getElem?_take] at hv
  rw [Nat.zero_add]
  rw [if_pos hlt2] at hv
  simpa using hv
theorem appOwn_after {t : TypeId} {s x : Operand} (ho : o.op = .call { callee := .builtin .append, args := #[s, x], argTypes := #[t, t] }) {K : C → St → Prop} {R : Env} {L : Loc} (h : InvV G E σ a R L) (hK : aAppOwn P t (evOf G σ.tm s) (evOf G σ.tm x) σ K) : Runs P o a.eval R.w (After G E a K) := by
  unfold aAppOwn at hK
  split at hK
  · rename_i id e k rows hev
    split at hK
    · rename_i e' s1 b1 z1 hl
      have ht := lay_slice hl rfl
      split at hK
      · rename_i kd k' by' z hle
        obtain ⟨i, d, hi, hd, _, hsz, hbyt, hzz⟩ := lay_spec hle
        simp only at hsz hbyt hzz
        split at hK
        · rename_i xs hxs
          obtain ⟨rfl, rfl, hzk, hk0, h63, hby, hK⟩ := hK
          have hs := h.ev s; rw [hev, rep_own] at hs
          obtain ⟨hid, aa, cap, ev1, hcap, hcm, hrows⟩ := hs
          rw [ev1] at hid
          obtain ⟨ax, capx, ex, hx1, hx2, hx3⟩ := (h.ev x).rows hxs
          have hexec : ∀ v' w', (Builtin.append_ #[t, t] o.type #[a.eval s, a.eval x]).run P R.w = .ok v' w' → (execOp a.eval o).run P R.w = .ok (.value v') w' := fun v' w' hrun => by
            unfold execOp
            simp only [ho, resolve, invoke, builtin, Sem.run_bind, Sem.run_pure, Result.andThen_ok, List.map_toArray, List.map_cons, List.map_nil, hrun]
          by_cases hne : xs = []
          · subst hne
            have hrun := hexec _ _ (by rw [ev1, ex]; exact run_append_zero ht hi R.w aa ax rows.length cap capx hcap)
            have hinv := h.regrow hid (Ext.refl R) rfl rfl rfl (Nat.le_refl _) rfl (fun b hb hn => ⟨rfl, fun o => Iff.rfl⟩) (h.good.fit.owns.own id e' k' _ hid) (fun b hb => .inl hb)
            refine Runs.value hrun ⟨_, _, R, _, rfl, hinv, rep_own.2 ⟨if_pos rfl, aa, cap, ?_, ?_, hcm, ?_⟩, hK⟩
            · simp
            · simpa using hcap
            · simpa using hrows
          · rcases hx3 with hx3 | ⟨bb, off, rfl, hxr⟩
            · exact absurd hx3 hne
            · cases hiz : i.zero with
              | none => simp [hiz] at hzz
              | some zv =>
                simp only [hiz, Option.map_some, Option.some.injEq] at hzz
                have hzc : zv.cells.size = k' := by rw [← hzk, hzz]; simp
                obtain ⟨hxc, hxl⟩ := repCells_flatten hxr
                obtain ⟨news, n1, n2, n3⟩ := repCells_vals hxc
                have hnl := repL_length n2
                have hxk : ∀ r ∈ xs, r.length = k' := fun r hr => by
                  obtain ⟨i, hi, rfl⟩ := List.getElem_of_mem hr
                  exact (repRows_get hxr i _ (List.getElem?_eq_getElem hi)).1
                have hlen : (rows ++ xs).length = rows.length + xs.length := List.length_append
                have hn1' : ∀ (j : Nat) v, news[j]? = some v → R.w.cell? ((⟨bb, off, none⟩ : Addr).add j) = some v := fun j v hj => by rw [Addr.add_none]; exact n1 j v hj
                have hmpos : 0 < xs.length := List.length_pos_iff.2 hne
                -- the new block, where it grows
                have grow : ∀ (olds : List Value), RepL R noLoc rows.flatten olds → (∀ v ∈ olds, v.oneCell' = true) → olds.length = rows.length * k' → (∀ r ∈ rows, r.length = k') →
                    (Builtin.append_ #[t, t] o.type #[a.eval s, a.eval x]).run P R.w = .ok (.slice (some ⟨R.w.heap.size, 0, none⟩) (rows.length + xs.length) (grownCap R.w (rows.length + xs.length) cap e'))
                      (R.w.drew.alloc (.cells (olds.toArray ++ news.toArray ++ Builtin.zeroCells zv.cells (grownCap R.w (rows.length + xs.length) cap e' - (rows.length + xs.length))) e')) → Runs P o a.eval R.w (After G E a K) := by
                  intro olds p1 p2 p3 p4 hrun
                  have hall : ∀ r ∈ rows ++ xs, r.length = k' := fun r hr => by
                    rcases List.mem_append.1 hr with hr | hr
                    · exact p4 r hr
                    · exact hxk r hr
                  have hge := grownCap_ge R.w (rows.length + xs.length) cap e'
                  have hgm : grownCap R.w (rows.length + xs.length) cap e' ≤ maxLen := grownCap_le_maxLen _ _ _ _ (by unfold maxLen; omega)
                  generalize grownCap R.w (rows.length + xs.length) cap e' = nc at hrun hge hgm
                  have hcs : (olds.toArray ++ news.toArray ++ Builtin.zeroCells zv.cells (nc - (rows.length + xs.length))).size = nc * k' := by
                    simp only [Array.size_append, List.size_toArray, size_zeroCells, hzc, p3, hnl, hxl, ← Nat.add_mul]
                    congr 1; omega
                  have htk : (olds.toArray ++ news.toArray ++ Builtin.zeroCells zv.cells (nc - (rows.length + xs.length))).toList.take ((rows ++ xs).length * k') = olds ++ news := by
                    rw [hlen, Nat.add_mul, ← p3, ← hxl, ← hnl]
                    simp only [Array.toList_append]
                    rw [← List.length_append, List.take_left']
                    simp
                  generalize (olds.toArray ++ news.toArray ++ Builtin.zeroCells zv.cells (nc - (rows.length + xs.length))) = cur at hrun hcs htk
                  have hb : Below R.w.heap.size R.w (R.w.drew.alloc (.cells cur e')) := ((Below.refl _ _).drew).alloc (Nat.le_refl _) _
                  have hext : Ext R ⟨R.w.drew.alloc (.cells cur e'), fun b o => (b < R.w.heap.size ∧ R.M b o) ∨ (b = R.w.heap.size ∧ (rows ++ xs).length * k' ≤ o), R.F⟩ :=
                    Ext.of_below hb fun b o hlt => ⟨fun h' => by rcases h' with h' | h'; exact h'.2; omega, fun h' => .inl ⟨hlt, h'⟩⟩
                  have hh : (R.w.drew.alloc (.cells cur e')).heap[R.w.heap.size]? = some (.cells cur e' (0, 0)) := heap_alloc_new R.w.drew _
                  have hinv := h.regrow hid (v' := .slice (some ⟨R.w.heap.size, 0, none⟩) (rows.length + xs.length) nc) hext hb.os hb.tape hb.output hb.size rfl
                    (fun b hlt _ => ⟨hb.block b hlt, fun o => ⟨fun h' => by rcases h' with h' | h'; exact h'.2; omega, fun h' => .inl ⟨hlt, h'⟩⟩⟩)
                    (.inr ⟨_, _, nc, cur, _, rfl, h.good.fit.base _ (Nat.le_refl _), hh, hge, hgm, hcs, fun hx => by have := h.good.fit.β_lt _ hx; omega, fun o ho => .inr ⟨rfl, by rw [hlen]; exact ho⟩⟩)
                    (fun b hb' => .inr (by cases hb'; exact Nat.le_refl _))
                  refine Runs.value (hexec _ _ hrun) ⟨_, _, _, _, rfl, hinv, rep_own.2 ⟨if_pos rfl, _, nc, by rw [hlen], by rw [hlen]; exact hge, hgm, .inr ⟨_, 0, rfl, rep_rows_new hext hh hall (by rw [List.flatten_append]; exact repL_append p1 n2) (fun v hv => ?_) htk fun o ho => ?_⟩⟩, hK⟩
                  · rcases List.mem_append.1 hv with hv | hv
                    · exact p2 v hv
                    · exact n3 v hv
                  · rintro (h' | h')
                    · omega
                    · omega
                rcases h.good.fit.owns.own id e' k' _ hid with hnil | ⟨g, n', cap', cur, tyq, q1, q2, q3, q4, q5, q6, q7, q8⟩
                · obtain ⟨rfl, hr0, rfl⟩ := Value.slice.inj hnil
                  have hr0' : rows = [] := List.eq_nil_of_length_eq_zero hr0
                  subst hr0'
                  refine grow [] (repL_nil.2 rfl) (fun v h => by cases h) (by simp) (fun r h => by cases h) ?_
                  have := run_append_nil (P := P) R.w t o.type e' i zv ht hi hiz ⟨bb, off, none⟩ xs.length capx news (by rw [hnl, hxl, hsz]) hn1' hmpos (by omega) (by rw [← hbyt]; simp only [List.length_nil, Nat.zero_add] at hby; omega)
                  rw [ev1, ex]
                  simpa using this
                · cases q1
                  have hrr : RepRows R rows k' g 0 ∨ rows = [] := by
                    rcases hrows with h0 | ⟨b0, o0, hb0, h0⟩
                    · exact .inr h0
                    · cases hb0; exact .inl h0
                  have hvals : ∃ olds : List Value, RepL R noLoc rows.flatten olds ∧ (∀ v ∈ olds, v.oneCell' = true) ∧ olds.length = rows.length * k' ∧ (∀ r ∈ rows, r.length = k') ∧ ∀ (j : Nat) v, olds[j]? = some v → R.w.cell? ⟨g, j, none⟩ = some v := by
                    rcases hrr with hrr | rfl
                    · obtain ⟨h1, h2⟩ := repCells_flatten hrr
                      obtain ⟨olds, o1, o2, o3⟩ := repCells_vals h1
                      refine ⟨olds, o2, o3, by rw [repL_length o2, h2], fun r hr => ?_, fun j v hj => by simpa using o1 j v hj⟩
                      obtain ⟨i, hi, rfl⟩ := List.getElem_of_mem hr
                      exact (repRows_get hrr i _ (List.getElem?_eq_getElem hi)).1
                    · exact ⟨[], repL_nil.2 rfl, fun v h => by (cases h), by simp, fun r h => by (cases h), fun j v h => by simp at h⟩
                  obtain ⟨olds, p1, p2, p3, p4, p5⟩ := hvals
                  by_cases hroom : rows.length + xs.length ≤ cap
                  · -- in place
                    have hfit : rows.length * i.size + news.length ≤ cur.size := by
                      rw [← hsz, hnl, hxl, q6, ← Nat.add_mul]; exact Nat.mul_le_mul_right _ hroom
                    have hrun := run_append_roomT (P := P) (ty := o.type) ht hi R.w g rows.length cap cur tyq q3 ⟨bb, off, none⟩ xs.length capx news (by rw [hnl, hxl, hsz]) hn1' n3 hroom hfit
                    rw [← hsz] at hrun hfit
                    have htk0 : cur.toList.take (rows.length * k') = olds := by
                      apply List.ext_getElem?
                      intro j
                      rw [List.getElem?_take]
                      by_cases hj : j < rows.length * k'
                      · rw [if_pos hj]
                        have hjo : j < olds.length := by omega
                        have := p5 j olds[j] (List.getElem?_eq_getElem hjo)
                        rw [cell_of_row R.w g j cur tyq (0, 0) q3] at this
                        rw [List.getElem?_eq_getElem hjo]
                        simpa using this
                      · rw [if_neg hj, List.getElem?_eq_none (by omega)]
                    have hcs : (cur.toList.take (rows.length * k') ++ news ++ cur.toList.drop (rows.length * k' + news.length)).toArray.size = cap * k' := by
                      simp only [List.size_toArray, List.length_append, List.length_take, List.length_drop, Array.length_toList]; omega
                    have htk : (cur.toList.take (rows.length * k') ++ news ++ cur.toList.drop (rows.length * k' + news.length)).toArray.toList.take ((rows ++ xs).length * k') = olds ++ news := by
                      simp only [htk0]
                      rw [hlen, Nat.add_mul, ← p3, ← hxl, ← hnl, ← List.length_append]
                      exact List.take_left' rfl
                    have hold : ∀ j, j < rows.length * k' → (cur.toList.take (rows.length * k') ++ news ++ cur.toList.drop (rows.length * k' + news.length)).toArray[j]? = cur[j]? := fun j hj => by
                      simp only [List.getElem?_toArray]
                      rw [List.append_assoc, List.getElem?_append_left (by simp; omega), List.getElem?_take, if_pos hj]
                      simp
                    generalize (cur.toList.take (rows.length * k') ++ news ++ cur.toList.drop (rows.length * k' + news.length)).toArray = cur' at hrun hcs htk hold
                    have hh := setRow_heap R.w g cur cur' tyq (0, 0) q3
                    have hext : Ext R ⟨R.w.setRow g cur', fun b o => R.M b o ∧ ¬ (b = g ∧ o < (rows ++ xs).length * k'), R.F⟩ := ⟨fun b o v hc hm => ⟨by
                      by_cases hbg : b = g
                      · subst hbg
                        have hlt : o < rows.length * k' := by
                          rcases Nat.lt_or_ge o (rows.length * k') with h' | h'
                          · exact h'
                          · exact absurd (q8 o h') hm
                        rw [cell_of_row R.w b o cur tyq (0, 0) q3] at hc
                        rw [cell_of_row _ b o cur' tyq (0, 0) hh, hold o hlt]; exact hc
                      · rw [cell_setRow_other R.w g cur' b o hbg]; exact hc, fun h' => hm h'.1⟩⟩
                    have hinv := h.regrow hid (v' := .slice (some ⟨g, 0, none⟩) (rows.length + xs.length) cap) (R' := ⟨R.w.setRow g cur', fun b o => R.M b o ∧ ¬ (b = g ∧ o < (rows ++ xs).length * k'), R.F⟩) hext rfl rfl rfl (by rw [size_setRow]; exact Nat.le_refl _) rfl
                      (fun b hlt hne' => by
                        have hbg : b ≠ g := fun e1 => hne' (by rw [e1]; rfl)
                        exact ⟨setRow_other R.w g b cur' hbg, fun o => ⟨fun h' => h'.1, fun h' => ⟨h', fun h2 => hbg h2.1⟩⟩⟩)
                      (.inr ⟨g, _, cap, cur', _, rfl, q2, hh, hroom, hcm, hcs, q7, fun o ho => ⟨q8 o (Nat.le_trans (Nat.mul_le_mul_right _ (Nat.le_add_right _ _)) ho), fun h2 => by rw [hlen] at h2; omega⟩⟩)
                      (fun b hb' => .inl (by cases hb'; rfl))
                    rw [← ev1, ← ex] at hrun
                    have hall : ∀ r ∈ rows ++ xs, r.length = k' := fun r hr => by
                      rcases List.mem_append.1 hr with hr | hr
                      · exact p4 r hr
                      · exact hxk r hr
                    refine Runs.value (hexec _ _ hrun) ⟨_, _, _, _, rfl, hinv, rep_own.2 ⟨if_pos rfl, _, cap, by rw [hlen], by rw [hlen]; exact hroom, hcm, .inr ⟨g, 0, rfl, rep_rows_new hext hh hall (by rw [List.flatten_append]; exact repL_append p1 n2) (fun v hv => ?_) htk fun o ho h' => h'.2 ⟨rfl, ho⟩⟩⟩, hK⟩
                    rcases List.mem_append.1 hv with hv | hv
                    · exact p2 v hv
                    · exact n3 v hv
                  · refine grow olds p1 p2 p3 p4 ?_
                    rw [ev1, ex]
                    exact run_append_grow (P := P) R.w t o.type e' i zv ht hi hiz ⟨g, 0, none⟩ rows.length cap olds (by rw [p3, hsz]) (fun j v hj => by rw [Addr.add_none]; simpa using p5 j v hj) ⟨bb, off, none⟩ xs.length capx news (by rw [hnl, hxl, hsz]) hn1' (by omega) (by omega)
                      (growslice_fits (by omega) (by rw [← hbyt]; exact hby))
        · exact hK.elim
      · exact hK.elim
    · exact hK.elim
  · exact hK.elim
end
end Go.Proofs.Ytheokoehnmlafaa.Vcg
