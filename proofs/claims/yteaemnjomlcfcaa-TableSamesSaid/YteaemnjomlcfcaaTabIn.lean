/- How arguments that read as data are opened: entries, inodes, tables. No condition. -/
import Derived.Test.YteaemnjomlcfcaaTabLaw4
import Derived.ProofKit
import Derived.Deep.Slices
import Derived.Deep.Fields
import Derived.ChangeSame
import Derived.Lib.SmallJoins
set_option linter.unusedVariables false
namespace Go.Proofs.Yteaemnjomlcfcaa.Tab
open Go.RowKit Go.ChangeMaps Go.ChangeShapes Go.WideShapes Go.Deep Go.Joins
section
variable {H : Type} {enc : TypeId × Value → H} {P : Program} {w : World} {base : Nat} {spare : Nat → Bool} {held : Bool}
theorem open_slice_fields {t e : TypeId} {fs : Array Field} {fuel : Nat} {cs : List Value} {x : DataW H × List MemPlace} (ht : P.underlying t = some (.slice e)) (he : P.underlying e = some (.struct fs))
    (hone : oneCellFields P fs = true) (hC : P.cellsOf e = fs.size) (h : DataW.trod enc P w base spare held fuel t cs = some x) :
    cs = [.slice none 0 0] ∨
    ∃ (a : Addr) (len cap m : Nat), cs = [.slice (some a) len cap] ∧ len ≤ cap ∧ cap ≤ maxLen ∧ m = (if spare a.block then cap else len) ∧
      ∀ i, i < m → ∃ (n : Nat), ∀ (j : Nat) (f : Field), fs[j]? = some f → ∃ (v : Value) (y : DataW H × List MemPlace), w.cell? (a.add (i * fs.size + j)) = some v ∧ DataW.trod enc P w base spare held n f.type [v] = some y := by
  rcases open_slice ht h with h0 | ⟨a, len, cap, m, n, D, Pl, hcs, hb, hl, hm, hmm, hx, hi⟩
  · exact .inl h0.1
  · refine .inr ⟨a, len, cap, m, hcs, hl, hm, hmm, fun i him => ?_⟩
    obtain ⟨cs', hc, ht'⟩ := hi i him
    rw [hC] at hc
    obtain ⟨ys, n', hn', hy, hlen, hyl, hf⟩ := DataW.trod_struct he ht'
    obtain ⟨_, hcl, hat⟩ := World.cells?_some hc
    refine ⟨n', fun j f hj => ?_⟩
    obtain ⟨ho, hk⟩ := hone_of hone j f hj
    have hjl : j < fs.size := (Array.getElem?_eq_some_iff.1 hj).1
    have hcell := hat j hjl
    have hv : cs'[j]? = some (cs'[j]'(by omega)) := List.getElem?_eq_getElem (by omega)
    have h1 := hf j f hj
    rw [ho, hk] at h1
    have hone' : (cs'.drop j).take 1 = [cs'[j]'(by omega)] := by
      rw [List.drop_eq_getElem_cons (by omega)]
      rfl
    rw [hone'] at h1
    have hys : ys[j]? = some (ys[j]'(by omega)) := List.getElem?_eq_getElem (by omega)
    refine ⟨_, _, ?_, h1.trans hys⟩
    rw [← Go.Deep.add_add, hcell, hv]
theorem open_agg6 {r : Reach} {b0 : Nat} {t : TypeId} {f0 f1 f2 f3 f4 f5 : Field} {v : Value} {d : DataW H} {p : List MemPlace} (hs : P.underlying t = some (.struct #[f0, f1, f2, f3, f4, f5])) (hone : oneCellFields P #[f0, f1, f2, f3, f4, f5] = true) (hC : P.cellsOf t = 6)
    (hv : Value.okWide P w r b0 t v) (h : DataW.Trod enc P w base spare held t v d p) :
    ∃ (v0 v1 v2 v3 v4 v5 : Value) (y0 y1 y2 y3 y4 y5 : DataW H × List MemPlace) (n : Nat), v = .agg #[v0, v1, v2, v3, v4, v5] ∧
      DataW.trod enc P w base spare held n f0.type [v0] = some y0 ∧ DataW.trod enc P w base spare held n f1.type [v1] = some y1 ∧ DataW.trod enc P w base spare held n f2.type [v2] = some y2 ∧ DataW.trod enc P w base spare held n f3.type [v3] = some y3 ∧ DataW.trod enc P w base spare held n f4.type [v4] = some y4 ∧ DataW.trod enc P w base spare held n f5.type [v5] = some y5 := by
  obtain ⟨cs, rfl, hsz⟩ := okWide_struct hs hv
  obtain ⟨l⟩ := cs
  match l, hsz.trans hC with
  | [c0, c1, c2, c3, c4, c5], _ =>
    obtain ⟨fuel, hf⟩ := h
    obtain ⟨xs, n, _, hx, _, hlen, hg⟩ := DataW.trod_struct hs hf
    obtain ⟨o0, k0⟩ := hone_of hone 0 f0 rfl
    obtain ⟨o1, k1⟩ := hone_of hone 1 f1 rfl
    obtain ⟨o2, k2⟩ := hone_of hone 2 f2 rfl
    obtain ⟨o3, k3⟩ := hone_of hone 3 f3 rfl
    obtain ⟨o4, k4⟩ := hone_of hone 4 f4 rfl
    obtain ⟨o5, k5⟩ := hone_of hone 5 f5 rfl
    match xs, hlen with
    | [y0, y1, y2, y3, y4, y5], _ =>
      exact ⟨c0, c1, c2, c3, c4, c5, y0, y1, y2, y3, y4, y5, n, rfl, by simpa [Value.cells, o0, k0] using hg 0 f0 rfl, by simpa [Value.cells, o1, k1] using hg 1 f1 rfl, by simpa [Value.cells, o2, k2] using hg 2 f2 rfl, by simpa [Value.cells, o3, k3] using hg 3 f3 rfl, by simpa [Value.cells, o4, k4] using hg 4 f4 rfl, by simpa [Value.cells, o5, k5] using hg 5 f5 rfl⟩
end
theorem list_of {α : Type} {Q : Nat → α → Prop} : ∀ n : Nat, (∀ i, i < n → ∃ x, Q i x) → ∃ l : List α, l.length = n ∧ ∀ i (h : i < l.length), Q i l[i]
  | 0, _ => ⟨[], rfl, fun i h => absurd h (Nat.not_lt_zero _)⟩
  | n + 1, h => by
    obtain ⟨l, hl, hq⟩ := list_of n fun i hi => h i (by omega)
    obtain ⟨x, hx⟩ := h n (by omega)
    refine ⟨l ++ [x], by simp [hl], fun i hi => ?_⟩
    rcases Nat.lt_or_ge i n with h1 | h1
    · rw [List.getElem_append_left (by omega)]; exact hq i (by omega)
    · have : i = n := by simp [hl] at hi; omega
      subst this
      rw [List.getElem_append_right (by omega)]
      simpa [hl] using hx
section
variable {H : Type} {enc : TypeId × Value → H} {W : World}
theorem open_ents {fuel : Nat} {v : Value} {x : DataW H × List MemPlace} (h : DataW.trod enc Try.prog W 0 (fun _ => true) true fuel 33 [v] = some x) : ∃ es a c, v = .slice a es.length c ∧ Ents W a c es := by
  rcases open_slice_fields Try.underlying33 Try.underlying49 (by kernel_rfl) (by kernel_rfl) h with hc | ⟨ad, len, cap, m, hc, hl, hm, hmm, hi⟩
  · exact ⟨[], none, 0, by simpa using hc, Sl.nil _ _ _ _ _ (by decide)⟩
  · simp only [if_true] at hmm
    subst hmm
    have hv : v = .slice (some ad) len m := by simpa using hc
    subst hv
    obtain ⟨es, hes, hq⟩ := list_of (Q := fun i (e : Ent) => W.cell? (ad.add (i * 2)) = some (.string e.name) ∧ W.cell? (ad.add (i * 2 + 1)) = some (.int .i64 e.ino)) len (fun i hlt => by
      obtain ⟨n, hf⟩ := hi i (by omega)
      obtain ⟨v0, y0, c0, t0⟩ := hf 0 _ rfl
      obtain ⟨v1, y1, c1, t1⟩ := hf 1 _ rfl
      obtain ⟨s, hs, -, -⟩ := DataW.trod_string (t := 9) Try.underlying9 t0
      obtain ⟨k, hk, -, -⟩ := DataW.trod_int (t := 3) Try.underlying3 t1
      have hs' : v0 = .string s := by simpa using hs
      have hk' : v1 = .int .i64 k := by simpa using hk
      subst hs' hk'
      exact ⟨⟨s, k⟩, c0, c1⟩)
    subst hes
    refine ⟨es, some ad, m, rfl, hl, hm, ?_⟩
    by_cases h0 : es = []
    · exact .inl h0
    · have hpos : 0 < es.length := List.length_pos_iff.2 h0
      obtain ⟨b, off, spot⟩ := ad
      have h1 := (hq 0 hpos).1
      have hspot : spot = none := by simpa [Addr.add] using World.cell?_spot h1
      subst hspot
      have hb : b < W.heap.size := by
        rcases Nat.lt_or_ge b W.heap.size with h | h
        · exact h
        · simp [World.cell?, Addr.add, Array.getElem?_eq_none h] at h1
      refine .inr ⟨b, off, rfl, hb, fun j hj i u hu => ?_⟩
      obtain ⟨q0, q1⟩ := hq j hj
      rw [Addr.add_lit] at q0 q1
      match i, hu with
      | 0, hu => cases hu; exact q0
      | 1, hu => cases hu; exact q1
      | i + 2, hu => simp [Ent.cells] at hu
theorem open_nods {fuel : Nat} {v : Value} {x : DataW H × List MemPlace} (h : DataW.trod enc Try.prog W 0 (fun _ => true) true fuel 23 [v] = some x) : ∃ xs a c, v = .slice a xs.length c ∧ Nods W a c xs := by
  rcases open_slice_fields Try.underlying23 Try.underlying35 (by kernel_rfl) (by kernel_rfl) h with hc | ⟨ad, len, cap, m, hc, hl, hm, hmm, hi⟩
  · exact ⟨[], none, 0, by simpa using hc, Nods.nil _ _ _ (by decide)⟩
  · simp only [if_true] at hmm
    subst hmm
    have hv : v = .slice (some ad) len m := by simpa using hc
    subst hv
    obtain ⟨xs, hxs, hq⟩ := list_of (Q := fun i (x : Nod) => NodOk W x ∧ W.cell? (ad.add (i * 6)) = some (.int .i64 x.ino) ∧ W.cell? (ad.add (i * 6 + 1)) = some (.int .i64 x.kind) ∧ W.cell? (ad.add (i * 6 + 2)) = some (.int .i64 x.links) ∧ W.cell? (ad.add (i * 6 + 3)) = some (.string x.data) ∧ W.cell? (ad.add (i * 6 + 4)) = some (.int .i64 x.parent) ∧ W.cell? (ad.add (i * 6 + 5)) = some (.slice x.ea x.es.length x.ec)) len (fun i hlt => by
      obtain ⟨n, hf⟩ := hi i (by omega)
      obtain ⟨v0, y0, c0, t0⟩ := hf 0 _ rfl
      obtain ⟨v1, y1, c1, t1⟩ := hf 1 _ rfl
      obtain ⟨v2, y2, c2, t2⟩ := hf 2 _ rfl
      obtain ⟨v3, y3, c3, t3⟩ := hf 3 _ rfl
      obtain ⟨v4, y4, c4, t4⟩ := hf 4 _ rfl
      obtain ⟨v5, y5, c5, t5⟩ := hf 5 _ rfl
      obtain ⟨k0, h0, -, -⟩ := DataW.trod_int (t := 3) Try.underlying3 t0
      obtain ⟨k1, h1, -, -⟩ := DataW.trod_int (t := 3) Try.underlying3 t1
      obtain ⟨k2, h2, -, -⟩ := DataW.trod_int (t := 3) Try.underlying3 t2
      obtain ⟨s3, h3, -, -⟩ := DataW.trod_string (t := 9) Try.underlying9 t3
      obtain ⟨k4, h4, -, -⟩ := DataW.trod_int (t := 3) Try.underlying3 t4
      obtain ⟨es, ea, ec, h5, hes⟩ := open_ents t5
      have e0 : v0 = .int .i64 k0 := by simpa using h0
      have e1 : v1 = .int .i64 k1 := by simpa using h1
      have e2 : v2 = .int .i64 k2 := by simpa using h2
      have e3 : v3 = .string s3 := by simpa using h3
      have e4 : v4 = .int .i64 k4 := by simpa using h4
      subst e0 e1 e2 e3 e4 h5
      exact ⟨⟨k0, k1, k2, s3, k4, ea, ec, es⟩, hes, c0, c1, c2, c3, c4, c5⟩)
    subst hxs
    refine ⟨xs, some ad, m, rfl, ⟨hl, hm, ?_⟩, fun x hx => ?_⟩
    · by_cases h0 : xs = []
      · exact .inl h0
      · have hpos : 0 < xs.length := List.length_pos_iff.2 h0
        obtain ⟨b, off, spot⟩ := ad
        have h1 := (hq 0 hpos).2.1
        have hspot : spot = none := by simpa [Addr.add] using World.cell?_spot h1
        subst hspot
        have hb : b < W.heap.size := by
          rcases Nat.lt_or_ge b W.heap.size with h | h
          · exact h
          · simp [World.cell?, Addr.add, Array.getElem?_eq_none h] at h1
        refine .inr ⟨b, off, rfl, hb, fun j hj i u hu => ?_⟩
        obtain ⟨-, q0, q1, q2, q3, q4, q5⟩ := hq j hj
        rw [Addr.add_lit] at q0 q1 q2 q3 q4 q5
        match i, hu with
        | 0, hu => cases hu; exact q0
        | 1, hu => cases hu; exact q1
        | 2, hu => cases hu; exact q2
        | 3, hu => cases hu; exact q3
        | 4, hu => cases hu; exact q4
        | 5, hu => cases hu; exact q5
        | i + 6, hu => simp [Nod.cells] at hu
    · obtain ⟨j, hj, rfl⟩ := List.getElem_of_mem hx
      exact (hq j hj).1
theorem open_fs {b0 : Nat} {v : Value} {d : DataW H} {p : List MemPlace} (hv : Value.okWide Try.prog W .any b0 25 v) (h : DataW.Trod enc Try.prog W 0 (fun _ => true) true 25 v d p) :
    ∃ mi mb nx xs a c, v = .agg #[.int .i64 mi, .int .i64 mb, .int .i64 nx, .slice a xs.length c] ∧ Nods W a c xs := by
  obtain ⟨v0, v1, v2, v3, y0, y1, y2, y3, n, rfl, -, -, t0, t1, t2, t3⟩ := open_agg4 Try.underlying25 (by kernel_rfl) (by kernel_rfl) hv h
  obtain ⟨k0, h0, -, -⟩ := DataW.trod_int (t := 3) Try.underlying3 t0
  obtain ⟨k1, h1, -, -⟩ := DataW.trod_int (t := 3) Try.underlying3 t1
  obtain ⟨k2, h2, -, -⟩ := DataW.trod_int (t := 3) Try.underlying3 t2
  obtain ⟨xs, a, c, h3, hN⟩ := open_nods t3
  have e0 : v0 = .int .i64 k0 := by simpa using h0
  have e1 : v1 = .int .i64 k1 := by simpa using h1
  have e2 : v2 = .int .i64 k2 := by simpa using h2
  subst e0 e1 e2 h3
  exact ⟨k0, k1, k2, xs, a, c, rfl, hN⟩
theorem open_inode {b0 : Nat} {v : Value} {d : DataW H} {p : List MemPlace} (hv : Value.okWide Try.prog W .any b0 35 v) (h : DataW.Trod enc Try.prog W 0 (fun _ => true) true 35 v d p) :
    ∃ x : Nod, v = .agg #[.int .i64 x.ino, .int .i64 x.kind, .int .i64 x.links, .string x.data, .int .i64 x.parent, .slice x.ea x.es.length x.ec] ∧ NodOk W x := by
  obtain ⟨v0, v1, v2, v3, v4, v5, y0, y1, y2, y3, y4, y5, n, rfl, t0, t1, t2, t3, t4, t5⟩ := open_agg6 Try.underlying35 (by kernel_rfl) (by kernel_rfl) hv h
  obtain ⟨k0, h0, -, -⟩ := DataW.trod_int (t := 3) Try.underlying3 t0
  obtain ⟨k1, h1, -, -⟩ := DataW.trod_int (t := 3) Try.underlying3 t1
  obtain ⟨k2, h2, -, -⟩ := DataW.trod_int (t := 3) Try.underlying3 t2
  obtain ⟨s3, h3, -, -⟩ := DataW.trod_string (t := 9) Try.underlying9 t3
  obtain ⟨k4, h4, -, -⟩ := DataW.trod_int (t := 3) Try.underlying3 t4
  obtain ⟨es, ea, ec, h5, hes⟩ := open_ents t5
  have e0 : v0 = .int .i64 k0 := by simpa using h0
  have e1 : v1 = .int .i64 k1 := by simpa using h1
  have e2 : v2 = .int .i64 k2 := by simpa using h2
  have e3 : v3 = .string s3 := by simpa using h3
  have e4 : v4 = .int .i64 k4 := by simpa using h4
  subst e0 e1 e2 e3 e4 h5
  exact ⟨⟨k0, k1, k2, s3, k4, ea, ec, es⟩, rfl, hes⟩
end
end Go.Proofs.Yteaemnjomlcfcaa.Tab
