/- A package variable that reads as listed, of plain data (numbers, texts, true and false; structs and arrays of them): its cells. No condition but what each states. -/
import Derived.Test.YtphiahlodjblcaaDoorOpen
import Derived.Lib.LaidU8
import Derived.OpenShut
import Derived.FnData
set_option linter.unusedVariables false
namespace Go.Proofs.YtphiahlodjblcaaDoor.Vcg
open Go.RowKit
mutual
/-- the cells that read as a datum of plain data -/
def flatD : DataW Unit → Option (List Value)
  | .lit (.int k n) => some [.int k n]
  | .lit (.bool b) => some [.bool b]
  | .lit (.string l) => some [.string ⟨l.toArray⟩]
  | .agg ds => flatDs ds
  | _ => none
def flatDs : List (DataW Unit) → Option (List Value)
  | [] => some []
  | d :: ds => match flatD d, flatDs ds with
    | some a, some b => some (a ++ b)
    | _, _ => none
end
/-- fields that lie one behind another from `at` on -/
def contig (P : Program) : Nat → List Field → Nat → Bool
  | j, [], n => j == n
  | j, f :: fs, n => f.offset == j && contig P (j + P.cellsOf f.type) fs n
def flatT (P : Program) : Nat → TypeId → Bool
  | 0, _ => false
  | m + 1, t => match P.underlying t with
    | some .bool => true
    | some (.int _) => true
    | some .string => true
    | some (.struct fs) => contig P 0 fs.toList (P.cellsOf t) && fs.toList.all fun f => flatT P m f.type
    | some (.array n e) => flatT P m e && P.cellsOf t == n * P.cellsOf e
    | _ => false
section
variable {enc : TypeId × Value → Unit} {P : Program} {w : World} {base : Nat} {spare : Nat → Bool} {held : Bool}
theorem flatDs_cons {d : DataW Unit} {ds : List (DataW Unit)} {a b : List Value} (h1 : flatD d = some a) (h2 : flatDs ds = some b) : flatDs (d :: ds) = some (a ++ b) := by
  rw [flatDs, h1, h2]
theorem flatDs_fields {n : Nat} {cs : List Value} (ih : ∀ t cs d p, flatT P n t = true → DataW.trod enc P w base spare held n t cs = some (d, p) → flatD d = some cs) {m : Nat} (hm : ∀ t cs d p, flatT P m t = true → DataW.trod enc P w base spare held n t cs = some (d, p) → flatD d = some cs) :
    ∀ (fs : List Field) (j N : Nat) (xs : List (DataW Unit × List MemPlace)), contig P j fs N = true → (fs.all fun f => flatT P m f.type) = true → cs.length = N → xs.length = fs.length →
      (∀ (i : Nat) (f : Field), fs[i]? = some f → DataW.trod enc P w base spare held n f.type ((cs.drop f.offset).take (P.cellsOf f.type)) = xs[i]?) → flatDs (xs.map (·.1)) = some (cs.drop j)
  | [], j, N, xs, hc, _, hl, hx, _ => by
    simp only [contig, beq_iff_eq] at hc
    match xs, hx with
    | [], _ => rw [List.drop_of_length_le (by omega)]; rfl
  | f :: fs, j, N, xs, hc, ha, hl, hx, hf => by
    simp only [contig, Bool.and_eq_true, beq_iff_eq] at hc
    simp only [List.all_cons, Bool.and_eq_true] at ha
    match xs, hx with
    | x :: xs, hx =>
      have h0 := hf 0 f rfl
      have e0 : flatD x.1 = some ((cs.drop f.offset).take (P.cellsOf f.type)) := hm _ _ _ x.2 ha.1 h0
      have e1 := flatDs_fields ih hm fs _ N xs hc.2 ha.2 hl (by simpa using hx) fun i g hg => hf (i + 1) g hg
      rw [List.map_cons, flatDs_cons e0 e1, hc.1, ← List.drop_drop, List.take_append_drop]
theorem flatDs_items {n : Nat} {e : TypeId} {cs : List Value} : ∀ (N j : Nat) (xs : List (DataW Unit × List MemPlace)), (∀ cs d p, DataW.trod enc P w base spare held n e cs = some (d, p) → flatD d = some cs) → cs.length = (j + N) * P.cellsOf e → xs.length = N →
      (∀ (i : Nat), i < N → DataW.trod enc P w base spare held n e ((cs.drop ((j + i) * P.cellsOf e)).take (P.cellsOf e)) = xs[i]?) → flatDs (xs.map (·.1)) = some (cs.drop (j * P.cellsOf e))
  | 0, j, xs, _, hl, hx, _ => by
    match xs, hx with
    | [], _ => rw [List.drop_of_length_le (by simp at hl; omega)]; rfl
  | N + 1, j, xs, hm, hl, hx, hf => by
    match xs, hx with
    | x :: xs, hx =>
      have e0 := hm _ _ x.2 (hf 0 (Nat.zero_lt_succ _))
      have e1 := flatDs_items N (j + 1) xs hm (by rw [hl]; congr 1; omega) (by simpa using hx) fun i hi => by
        have := hf (i + 1) (by omega)
        rw [show j + (i + 1) = j + 1 + i by omega] at this
        exact this
      rw [List.map_cons, flatDs_cons e0 e1, Nat.add_zero, show (j + 1) * P.cellsOf e = j * P.cellsOf e + P.cellsOf e by rw [Nat.add_mul]; omega, ← List.drop_drop, List.take_append_drop]
theorem flat_trod : ∀ (n m : Nat) (t : TypeId) (cs : List Value) (d : DataW Unit) (p : List MemPlace), flatT P m t = true → DataW.trod enc P w base spare held n t cs = some (d, p) → flatD d = some cs
  | 0, m, t, cs, d, p, _, h => by simp [DataW.trod] at h
  | n + 1, 0, t, cs, d, p, hf, h => by simp [flatT] at hf
  | n + 1, m + 1, t, cs, d, p, hf, h => by
    unfold flatT at hf
    split at hf
    · rename_i hu
      obtain ⟨b, rfl, e⟩ := DataW.trod_bool hu h
      cases e; rfl
    · rename_i k hu
      obtain ⟨b, rfl, e, _⟩ := DataW.trod_int hu h
      cases e; rfl
    · rename_i hu
      obtain ⟨s, rfl, e, _⟩ := DataW.trod_string hu h
      cases e
      rw [flatD]
    · rename_i fs hu
      simp only [Bool.and_eq_true] at hf
      obtain ⟨xs, n', hn, e, hl, hx, hg⟩ := DataW.trod_struct hu h
      cases hn; cases e
      have hrec : ∀ t cs d p, flatT P m t = true → DataW.trod enc P w base spare held n t cs = some (d, p) → flatD d = some cs := fun t cs d p => flat_trod n m t cs d p
      have := flatDs_fields (n := n) (fun t cs d p => flat_trod n n t cs d p) hrec fs.toList 0 _ xs hf.1 hf.2 hl (by rw [hx]; rfl) fun i f hif => hg i f (by simpa using hif)
      rw [List.drop_zero] at this
      rw [flatD, this]
    · rename_i N e hu
      simp only [Bool.and_eq_true, beq_iff_eq] at hf
      obtain ⟨xs, n', hn, e', hl, hx, hg⟩ := DataW.trod_array hu h
      cases hn; cases e'
      have := flatDs_items (n := n) (e := e) (cs := cs) N 0 xs (fun cs d p => flat_trod n m e cs d p hf.1) (by rw [hl, hf.2, Nat.zero_add]) hx fun i hi => by rw [Nat.zero_add]; exact hg i hi
      rw [Nat.zero_mul, List.drop_zero] at this
      rw [flatD, this]
    · cases hf
end
theorem repCells_flat {W : World} {g : Nat} : ∀ (vs : List Value) (o : Nat), (∀ (i : Nat) v, vs[i]? = some v → W.cell? ⟨g, o + i, none⟩ = some v) → (vs.all fun v => v.oneCell') = true → RepCells (env0 W) (vs.map ofConst) g o := fun vs o h ho => by
  refine repCells_of_get fun i c hc => ?_
  rw [List.getElem?_map, Option.map_eq_some_iff] at hc
  obtain ⟨v, hv, rfl⟩ := hc
  exact ⟨v, h i v hv, fun hf => hf, rep_ofConst _ _ v, List.all_eq_true.1 ho v (List.mem_of_getElem? hv)⟩
/-- a listed variable's cells -/
theorem repCells_laid {P : Program} {W : World} {l : List (String × DataW Unit)} (h : laidMetH P l W) (hp : (l.filter fun x => x.2.handleName?.isSome) = []) {n : String} {d : DataW Unit} (hm : (n, d) ∈ l) {g : Nat} {t : TypeId} {m : Nat} {vs : List Value}
    (hg : P.globalNamed n = some g) (ht : (P.globals[g]?).map (·.type) = some t) (hf : flatT P m t = true) (hd : flatD d = some vs) (ho : (vs.all fun v => v.oneCell') = true) : RepCells (env0 W) (vs.map ofConst) g 0 := by
  unfold laidMetH at h
  rw [hp] at h
  obtain ⟨g', t', cs, fuel, p, hg', ht', hvar, htr⟩ := Lib.laidMet.reads h hm
  rw [hg] at hg'; cases hg'
  rw [ht] at ht'; cases ht'
  have e := flat_trod _ _ _ _ _ _ hf htr
  have e' : vs = cs.toList := Option.some.inj (hd.symm.trans e)
  subst e'
  refine repCells_flat _ 0 (fun i v hv => ?_) ho
  rw [World.var?_cell hg hvar, Nat.zero_add]
  simpa using hv
theorem Fun.glob {P : Program} {G G' : Globs} {f : FuncId} {args : List C} {r : C} {n : Nat} (h : Fun P G f args r n) (hG : ∀ g cs, G g = some cs → G' g = some cs) : Fun P G' f args r n :=
  ⟨h.1, fun R vs hg ha => h.2 R vs (fun g cs e => hg g cs (hG g cs e)) ha⟩
theorem Fun.glob0 {P : Program} {G' : Globs} {f : FuncId} {args : List C} {r : C} {n : Nat} (h : Fun P G0 f args r n) : Fun P G' f args r n := h.glob fun g cs e => by cases e
end Go.Proofs.YtphiahlodjblcaaDoor.Vcg
