/- What the proof of LangBack leans on, part 5: Laid Op1 Spl QuotePlain QuotePlain2 QuotePlain3 OpV Lng0 Lng1 Lng2 Lng3 Lng4 Lng5 Lng6 Op2 Op3 Op4 Op5 Lng7 Ref19 Ref19b Ref19c Kit KitBytes QuoteWalk1 Builder QuoteWalk2 QuoteWalk3 QuoteWalk4 QuoteWalk5 QuoteWalk6 QuoteF Lsp1 Lsp2 Lng8 Lng9 Lng10. No condition beyond what each theorem states. -/
import Derived.Test.YtbphobmohdclaaaGreatDoorLangBackKd
import Derived.Lib.LaidU8
import Derived.OpenShut
import Derived.FnData
import Derived.Lib.Bytealg
import Derived.Lib.ItoaNum
import Derived.Lib.AppendIntMem
import Derived.Lib.LaidTab
import Derived.WalkKit
import Derived.Lib.Hide
import Derived.Lib.Join
import Derived.Deep.Draws
import Derived.Lib.SlBytesRow
import Derived.StillTailTactics
import Derived.Test.YtbphobmohdclaaaGreatDoorProg
import Derived.WalkLawsBesides
import Derived.WalkSpells
import Derived.Shelf.Strings.Builder1
import Derived.Shelf.Strings.BuilderF
import Derived.Deep.QuietTactic
import Derived.BigQuiet
section
set_option linter.unusedVariables false
namespace Go.Proofs.YtbphobmohdclaaaGreatDoor.Vcg
open Go.RowKit
mutual
/-- the cells that read as a datum of plain data -/
def flatD : DataW Unit → Option (List Value)
 | .lit (.int k n) => some [.int k n]
 | .lit (.bool b) => some [.bool b]
 | .lit (.string l) => some [.string ⟨l.toArray⟩]
 | .agg ds => flatDs ds
 | _ => none
def flatDs : List (DataW Unit) → Option (List Value)
 | [] => some []
 | d :: ds => match flatD d, flatDs ds with
  | some a, some b => some (a ++ b)
  | _, _ => none
end
def contig (P : Program) : Nat → List Field → Nat → Bool
 | j, [], n => j == n
 | j, f :: fs, n => f.offset == j && contig P (j + P.cellsOf f.type) fs n
def flatT (P : Program) : Nat → TypeId → Bool
 | 0, _ => false
 | m + 1, t => match P.underlying t with
  | some .bool => true
  | some (.int _) => true
  | some .string => true
  | some (.struct fs) => contig P 0 fs.toList (P.cellsOf t) && fs.toList.all fun f => flatT P m f.type
  | some (.array n e) => flatT P m e && P.cellsOf t == n * P.cellsOf e
  | _ => false
section
variable {enc : TypeId × Value → Unit} {P : Program} {w : World} {base : Nat} {spare : Nat → Bool} {held : Bool}
theorem flatDs_cons {d : DataW Unit} {ds : List (DataW Unit)} {a b : List Value} (h1 : flatD d = some a) (h2 : flatDs ds = some b) : flatDs (d :: ds) = some (a ++ b) := by
 rw [flatDs, h1, h2]
theorem flatDs_fields {n : Nat} {cs : List Value} (ih : ∀ t cs d p, flatT P n t = true → DataW.trod enc P w base spare held n t cs = some (d, p) → flatD d = some cs) {m : Nat} (hm : ∀ t cs d p, flatT P m t = true → DataW.trod enc P w base spare held n t cs = some (d, p) → flatD d = some cs) :
  ∀ (fs : List Field) (j N : Nat) (xs : List (DataW Unit × List MemPlace)), contig P j fs N = true → (fs.all fun f => flatT P m f.type) = true → cs.length = N → xs.length = fs.length →
   (∀ (i : Nat) (f : Field), fs[i]? = some f → DataW.trod enc P w base spare held n f.type ((cs.drop f.offset).take (P.cellsOf f.type)) = xs[i]?) → flatDs (xs.map (·.1)) = some (cs.drop j)
 | [], j, N, xs, hc, _, hl, hx, _ => by
  simp only [contig, beq_iff_eq] at hc
  match xs, hx with
  | [], _ => rw [List.drop_of_length_le (by omega)]; rfl
 | f :: fs, j, N, xs, hc, ha, hl, hx, hf => by
  simp only [contig, Bool.and_eq_true, beq_iff_eq] at hc
  simp only [List.all_cons, Bool.and_eq_true] at ha
  match xs, hx with
  | x :: xs, hx =>
   have h0 := hf 0 f rfl
   have e0 : flatD x.1 = some ((cs.drop f.offset).take (P.cellsOf f.type)) := hm _ _ _ x.2 ha.1 h0
   have e1 := flatDs_fields ih hm fs _ N xs hc.2 ha.2 hl (by simpa using hx) fun i g hg => hf (i + 1) g hg
   rw [List.map_cons, flatDs_cons e0 e1, hc.1, ← List.drop_drop, List.take_append_drop]
theorem flatDs_items {n : Nat} {e : TypeId} {cs : List Value} : ∀ (N j : Nat) (xs : List (DataW Unit × List MemPlace)), (∀ cs d p, DataW.trod enc P w base spare held n e cs = some (d, p) → flatD d = some cs) → cs.length = (j + N) * P.cellsOf e → xs.length = N →
   (∀ (i : Nat), i < N → DataW.trod enc P w base spare held n e ((cs.drop ((j + i) * P.cellsOf e)).take (P.cellsOf e)) = xs[i]?) → flatDs (xs.map (·.1)) = some (cs.drop (j * P.cellsOf e))
 | 0, j, xs, _, hl, hx, _ => by
  match xs, hx with
  | [], _ => rw [List.drop_of_length_le (by simp at hl; omega)]; rfl
 | N + 1, j, xs, hm, hl, hx, hf => by
  match xs, hx with
  | x :: xs, hx =>
   have e0 := hm _ _ x.2 (hf 0 (Nat.zero_lt_succ _))
   have e1 := flatDs_items N (j + 1) xs hm (by rw [hl]; congr 1; omega) (by simpa using hx) fun i hi => by
    have := hf (i + 1) (by omega)
    rw [show j + (i + 1) = j + 1 + i by omega] at this
    exact this
   rw [List.map_cons, flatDs_cons e0 e1, Nat.add_zero, show (j + 1) * P.cellsOf e = j * P.cellsOf e + P.cellsOf e by rw [Nat.add_mul]; omega, ← List.drop_drop, List.take_append_drop]
theorem flat_trod : ∀ (n m : Nat) (t : TypeId) (cs : List Value) (d : DataW Unit) (p : List MemPlace), flatT P m t = true → DataW.trod enc P w base spare held n t cs = some (d, p) → flatD d = some cs
 | 0, m, t, cs, d, p, _, h => by simp [DataW.trod] at h
 | n + 1, 0, t, cs, d, p, hf, h => by simp [flatT] at hf
 | n + 1, m + 1, t, cs, d, p, hf, h => by
  unfold flatT at hf
  split at hf
  ·rename_i hu
   obtain ⟨b, rfl, e⟩ := DataW.trod_bool hu h
   cases e; rfl
  ·rename_i k hu
   obtain ⟨b, rfl, e, _⟩ := DataW.trod_int hu h
   cases e; rfl
  ·rename_i hu
   obtain ⟨s, rfl, e, _⟩ := DataW.trod_string hu h
   cases e
   rw [flatD]
  ·rename_i fs hu
   simp only [Bool.and_eq_true] at hf
   obtain ⟨xs, n', hn, e, hl, hx, hg⟩ := DataW.trod_struct hu h
   cases hn; cases e
   have hrec : ∀ t cs d p, flatT P m t = true → DataW.trod enc P w base spare held n t cs = some (d, p) → flatD d = some cs := fun t cs d p => flat_trod n m t cs d p
   have := flatDs_fields (n := n) (fun t cs d p => flat_trod n n t cs d p) hrec fs.toList 0 _ xs hf.1 hf.2 hl (by rw [hx]; rfl) fun i f hif => hg i f (by simpa using hif)
   rw [List.drop_zero] at this
   rw [flatD, this]
  ·rename_i N e hu
   simp only [Bool.and_eq_true, beq_iff_eq] at hf
   obtain ⟨xs, n', hn, e', hl, hx, hg⟩ := DataW.trod_array hu h
   cases hn; cases e'
   have := flatDs_items (n := n) (e := e) (cs := cs) N 0 xs (fun cs d p => flat_trod n m e cs d p hf.1) (by rw [hl, hf.2, Nat.zero_add]) hx fun i hi => by rw [Nat.zero_add]; exact hg i hi
   rw [Nat.zero_mul, List.drop_zero] at this
   rw [flatD, this]
  ·cases hf
end
theorem repCells_flat {W : World} {g : Nat} : ∀ (vs : List Value) (o : Nat), (∀ (i : Nat) v, vs[i]? = some v → W.cell? ⟨g, o + i, none⟩ = some v) → (vs.all fun v => v.oneCell') = true → RepCells (env0 W) (vs.map ofConst) g o := fun vs o h ho => by
 refine repCells_of_get fun i c hc => ?_
 rw [List.getElem?_map, Option.map_eq_some_iff] at hc
 obtain ⟨v, hv, rfl⟩ := hc
 exact ⟨v, h i v hv, fun hf => hf, rep_ofConst _ _ v, List.all_eq_true.1 ho v (List.mem_of_getElem? hv)⟩
theorem repCells_laid {P : Program} {W : World} {l : List (String × DataW Unit)} (h : laidMetH P l W) (hp : (l.filter fun x => x.2.handleName?.isSome) = []) {n : String} {d : DataW Unit} (hm : (n, d) ∈ l) {g : Nat} {t : TypeId} {m : Nat} {vs : List Value}
  (hg : P.globalNamed n = some g) (ht : (P.globals[g]?).map (·.type) = some t) (hf : flatT P m t = true) (hd : flatD d = some vs) (ho : (vs.all fun v => v.oneCell') = true) : RepCells (env0 W) (vs.map ofConst) g 0 := by
 unfold laidMetH at h
 rw [hp] at h
 obtain ⟨g', t', cs, fuel, p, hg', ht', hvar, htr⟩ := Lib.laidMet.reads h hm
 rw [hg] at hg'; cases hg'
 rw [ht] at ht'; cases ht'
 have e := flat_trod _ _ _ _ _ _ hf htr
 have e' : vs = cs.toList := Option.some.inj (hd.symm.trans e)
 subst e'
 refine repCells_flat _ 0 (fun i v hv => ?_) ho
 rw [World.var?_cell hg hvar, Nat.zero_add]
 simpa using hv
theorem globCells_laid {P : Program} {W : World} {l : List (String × DataW Unit)} (h : laidMetH P l W) (hp : (l.filter fun x => x.2.handleName?.isSome) = []) {n : String} {d : DataW Unit} (hm : (n, d) ∈ l) {g : Nat} {t : TypeId} {m : Nat} {vs : List Value}
  (hg : P.globalNamed n = some g) (ht : (P.globals[g]?).map (·.type) = some t) (hf : flatT P m t = true) (hd : flatD d = some vs) (ho : (vs.all fun v => v.oneCell') = true) :
  RepCells (env0 W) (vs.map ofConst) g 0 ∧ (∃ us ty fl, (env0 W).w.heap[g]? = some (.cells us ty fl) ∧ us.size = (vs.map ofConst).length) ∧ ∀ o, ¬ (env0 W).M g o := by
 refine ⟨repCells_laid h hp hm hg ht hf hd ho, ?_, fun o h => h⟩
 unfold laidMetH at h
 rw [hp] at h
 obtain ⟨g', t', cs, fuel, p, hg', ht', hvar, htr⟩ := Lib.laidMet.reads h hm
 rw [hg] at hg'; cases hg'
 rw [ht] at ht'; cases ht'
 have e := flat_trod _ _ _ _ _ _ hf htr
 have e' : vs = cs.toList := Option.some.inj (hd.symm.trans e)
 subst e'
 unfold World.var? at hvar
 rw [hg] at hvar
 simp only [Option.bind_some] at hvar
 split at hvar
 ·rename_i cs' ty fl hh
  cases hvar
  exact ⟨_, _, _, hh, by simp⟩
 ·cases hvar
theorem Fun.glob {P : Program} {G G' : Globs} {f : FuncId} {args : List C} {r : C} {n : Nat} (h : Fun P G f args r n) (hG : ∀ g cs, G g = some cs → G' g = some cs) : Fun P G' f args r n :=
 ⟨h.1, fun R vs hg ha => h.2 R vs (fun g cs e => hg g cs (hG g cs e)) ha⟩
theorem Fun.glob0 {P : Program} {G' : Globs} {f : FuncId} {args : List C} {r : C} {n : Nat} (h : Fun P G0 f args r n) : Fun P G' f args r n := h.glob fun g cs e => by cases e
end Go.Proofs.YtbphobmohdclaaaGreatDoor.Vcg
end
section
set_option linter.unusedVariables false
set_option linter.unusedSimpArgs false
namespace Go.Proofs.YtbphobmohdclaaaGreatDoor.Vcg
open Go.RowKit
def hasV : List Value := [.bool false, .bool false, .bool false, .bool false, .bool false, .bool false, .bool false, .bool true, .bool false, .bool true, .bool true, .bool false, .bool false, .bool false, .bool true, .bool false, .bool true, .bool false, .bool false, .bool true, .bool false, .bool true, .bool false, .bool false, .bool false, .bool false, .bool false, .bool true, .bool false, .bool false, .bool true, .bool false, .bool false]
def G1 : Globs := fun g => if g = 1 then some (hasV.map ofConst) else none
theorem G1_has : G1 1 = some [.sc (.bool false), .sc (.bool false), .sc (.bool false), .sc (.bool false), .sc (.bool false), .sc (.bool false), .sc (.bool false), .sc (.bool true), .sc (.bool false), .sc (.bool true), .sc (.bool true), .sc (.bool false), .sc (.bool false), .sc (.bool false), .sc (.bool true), .sc (.bool false), .sc (.bool true), .sc (.bool false), .sc (.bool false), .sc (.bool true), .sc (.bool false), .sc (.bool true), .sc (.bool false), .sc (.bool false), .sc (.bool false), .sc (.bool false), .sc (.bool false), .sc (.bool true), .sc (.bool false), .sc (.bool false), .sc (.bool true), .sc (.bool false), .sc (.bool false)] := rfl
attribute [push_cast] G1_has
def placeB (p : List UInt8) : Bool := plain p && !decide (names p = [])
set_option maxRecDepth 100000 in
set_option maxHeartbeats 1000000 in
theorem place_fun (p : List UInt8) (hp : p.length ≤ 1000000) : Fun Tryz.prog G0 50 [.str p] (boolC (placeB p)) 0 := by
 have h := plain_fun p hp
 unfold plainC at h
 cases hb : plain p with
 | false =>
  rw [hb] at h
  refine Fun.of (fun _ => []) (by kernel_rfl) Tryz.func50 rfl rfl (Nat.le_of_ble_eq_true rfl) (by kernel_rfl) ?_; dsimp only [Tryz.f50, List.append_eq, List.cons_append, List.nil_append]
  simp -dsimp only [push_cast, seval]
  (first | refine call (h) ?_ | refine callP (h) ?_); simp -dsimp only [push_cast, seval]
  exact ⟨[], rfl, rfl, by simp -dsimp only [WeakTm, WeakBx, CLe, CLeL, push_cast, seval]; simp [placeB, hb]⟩
 | true =>
  rw [hb, if_pos rfl] at h
  refine Fun.of (fun _ => []) (by kernel_rfl) Tryz.func50 rfl rfl (Nat.le_of_ble_eq_true rfl) (by kernel_rfl) ?_; dsimp only [Tryz.f50, List.append_eq, List.cons_append, List.nil_append]
  simp -dsimp only [push_cast, seval]
  (first | refine call (h) ?_ | refine callP (h) ?_); simp -dsimp only [push_cast, seval]
  refine ⟨[], rfl, rfl, ?_⟩
  simp -dsimp only [WeakTm, WeakBx, CLe, CLeL, push_cast, seval]
  by_cases hn : names p = []
  ·simp [placeB, hb, hn]
  ·have := List.length_pos_iff.2 hn
   simp [placeB, hb, hn, this]
theorem index0_fun (l : List UInt8) : Fun Tryz.prog G0 82 [.str l, .str [0]] (.sc (.int .i64 (Lib.indexByte l 0))) 0 := by
 refine Fun.wrap (by kernel_rfl) fun R vs h => ?_
 obtain ⟨v1, us1, rfl, h1, h⟩ := repL_cons.1 h
 obtain ⟨v2, us2, rfl, h2, h⟩ := repL_cons.1 h
 rw [repL_nil] at h
 subst h
 rw [rep_str] at h1 h2
 subst h1 h2
 refine (Tryz.strings_Index_one ⟨l.toArray⟩ 0 R.w).mono ?_
 rintro e w' ⟨rfl, rfl⟩
 exact ⟨_, rfl, Below.refl _ _, fun R' _ => rep_sc.2 (by simp)⟩
theorem index0_mem : ∀ l : List UInt8, decide (0 ≤ Lib.indexByte l 0) = l.any (fun b => decide (b = 0)) ∧ -1 ≤ Lib.indexByte l 0
 | [] => ⟨rfl, by decide⟩
 | b :: l => by
  obtain ⟨h1, h2⟩ := index0_mem l
  unfold Lib.indexByte
  by_cases hb : b = 0
  ·subst hb; simp
  ·have hb' : (b == 0) = false := by simpa using hb
   rw [hb']
   simp only [Bool.false_eq_true, if_false, List.any_cons, hb, decide_false, Bool.false_or, ← h1]
   split
   ·rename_i hm
    have := beq_iff_eq.1 hm
    rw [this]; simp
   ·rename_i hm
    have : ¬ Lib.indexByte l 0 = -1 := fun e => hm (by rw [e]; rfl)
    constructor
    ·rw [decide_eq_decide]; omega
    ·omega
theorem contains0_fun (l : List UInt8) (hl : l.length ≤ 1000000) : Fun Tryz.prog G0 71 [.str l, .str [0]] (boolC (l.any fun b => decide (b = 0))) 0 := by
 have h := (index0_mem l).1
 refine Fun.of (fun _ => []) (by kernel_rfl) Tryz.func71 rfl rfl (Nat.le_of_ble_eq_true rfl) (by kernel_rfl) ?_; dsimp only [Tryz.f71, List.append_eq, List.cons_append, List.nil_append]
 simp -dsimp only [push_cast, seval]
 (first | refine call (index0_fun l) ?_ | refine callP (index0_fun l) ?_); simp -dsimp only [push_cast, seval]
 exact ⟨[], rfl, rfl, by simp -dsimp only [WeakTm, WeakBx, CLe, CLeL, push_cast, seval, h]⟩
def targetB (s : List UInt8) : Bool := !decide (s = []) && decide (s.length ≤ 4095) && !(s.any fun b => decide (b = 0))
set_option maxRecDepth 100000 in
set_option maxHeartbeats 1000000 in
theorem target_fun (s : List UInt8) (hs : s.length ≤ 1000000) : Fun Tryz.prog G0 51 [.str s] (boolC (targetB s)) 0 := by
 have h := contains0_fun s hs
 by_cases h1 : s = []
 ·refine Fun.of (fun _ => []) (by kernel_rfl) Tryz.func51 rfl rfl (Nat.le_of_ble_eq_true rfl) (by kernel_rfl) ?_; dsimp only [Tryz.f51, List.append_eq, List.cons_append, List.nil_append]
  simp -dsimp only [push_cast, seval, h1]
  exact ⟨[], rfl, rfl, by simp -dsimp only [WeakTm, WeakBx, CLe, CLeL, push_cast, seval]; simp [targetB, h1]⟩
 ·by_cases h2 : s.length ≤ 4095
  ·have h2' : (s.length : Int) ≤ 4095 := by omega
   refine Fun.of (fun _ => []) (by kernel_rfl) Tryz.func51 rfl rfl (Nat.le_of_ble_eq_true rfl) (by kernel_rfl) ?_; dsimp only [Tryz.f51, List.append_eq, List.cons_append, List.nil_append]
   simp -dsimp only [push_cast, seval, h1, h2']
   (first | refine call (h) ?_ | refine callP (h) ?_); simp -dsimp only [push_cast, seval]
   exact ⟨[], rfl, rfl, by simp -dsimp only [WeakTm, WeakBx, CLe, CLeL, push_cast, seval]; simp [targetB, h1, h2]⟩
  ·have h2' : ¬ (s.length : Int) ≤ 4095 := by omega
   refine Fun.of (fun _ => []) (by kernel_rfl) Tryz.func51 rfl rfl (Nat.le_of_ble_eq_true rfl) (by kernel_rfl) ?_; dsimp only [Tryz.f51, List.append_eq, List.cons_append, List.nil_append]
   simp -dsimp only [push_cast, seval, h1, h2']
   exact ⟨[], rfl, rfl, by simp -dsimp only [WeakTm, WeakBx, CLe, CLeL, push_cast, seval]; simp [targetB, h1, h2]⟩
end Go.Proofs.YtbphobmohdclaaaGreatDoor.Vcg
end
section
set_option linter.unusedVariables false
set_option linter.unusedSimpArgs false
namespace Go.Proofs.YtbphobmohdclaaaGreatDoor.Vcg
open Go.RowKit
theorem FunB.glob0 {P : Program} {G' : Globs} {f : FuncId} {args : List C} {bx bx' : List (List C)} {q : Nat} {r : C} {n : Nat} (h : FunB P G0 f args bx q r bx' n) : FunB P G' f args bx q r bx' n :=
 ⟨h.1, fun R L vs hg => h.2 R L vs fun g cs e => by cases e⟩
theorem Iter.glob0 {P : Program} {G' : Globs} {f : FuncId} {first cap : List C} {bx items : List (List C)} (h : Iter P G0 f first cap bx items) : Iter P G' f first cap bx items :=
 ⟨h.1, fun l st J R L us vs hg => h.2 l st J R L us vs fun g cs e => by cases e⟩
theorem indexc_ge (c : UInt8) : ∀ l : List UInt8, -1 ≤ Lib.indexByte l c
 | [] => Int.le_refl _
 | b :: l => by
  have := indexc_ge c l
  unfold Lib.indexByte
  split
  ·decide
  ·split
   ·decide
   ·omega
theorem indexc_fun (c : UInt8) (l : List UInt8) : Fun Tryz.prog G0 82 [.str l, .str [c]] (.sc (.int .i64 (Lib.indexByte l c))) 0 := by
 refine Fun.wrap (by kernel_rfl) fun R vs h => ?_
 obtain ⟨v1, us1, rfl, h1, h⟩ := repL_cons.1 h
 obtain ⟨v2, us2, rfl, h2, h⟩ := repL_cons.1 h
 rw [repL_nil] at h
 subst h
 rw [rep_str] at h1 h2
 subst h1 h2
 refine (Tryz.strings_Index_one ⟨l.toArray⟩ c R.w).mono ?_
 rintro e w' ⟨rfl, rfl⟩
 exact ⟨_, rfl, Below.refl _ _, fun R' _ => rep_sc.2 (by simp)⟩
end Go.Proofs.YtbphobmohdclaaaGreatDoor.Vcg
end
section
namespace Go.Proofs.YtbphobmohdclaaaGreatDoor.QuotePlain
abbrev Bs := List UInt8
def good (c : UInt8) : Bool := decide (32 ≤ c.toNat ∧ c.toNat ≤ 126 ∧ c.toNat ≠ 34 ∧ c.toNat ≠ 92)
def digits : Bs := [48, 49, 50, 51, 52, 53, 54, 55, 56, 57, 97, 98, 99, 100, 101, 102]
def hexd (n : Nat) : UInt8 := digits.getD n 0
def qb (c : UInt8) : Bs := if good c then [c] else [92, 120, hexd (c.toNat / 16), hexd (c.toNat % 16)]
def mid (l : Bs) : Bs := l.flatMap qb
def quoteL (l : Bs) : Bs := 34 :: (mid l ++ [34])
def plainL (l : Bs) : Bool := decide (l ≠ []) && l.all fun c => decide (33 ≤ c.toNat ∧ c.toNat ≤ 126 ∧ c.toNat ≠ 34)
def hexv (c : UInt8) : Nat := (digits.findIdx? (· == c)).getD 16
def taken : Bs → UInt8 × Nat
 | [] => (0, 0)
 | c :: r =>
  if c ≠ 92 then (if good c then (c, 1) else (0, 0))
  else match r with
   | x :: a :: b :: _ => if x = 120 ∧ hexv a < 16 ∧ hexv b < 16 ∧ good (UInt8.ofNat (hexv a * 16 + hexv b)) = false then (UInt8.ofNat (hexv a * 16 + hexv b), 4) else (0, 0)
   | _ => (0, 0)
theorem taken_cons (c : UInt8) (r : Bs) : taken (c :: r) = if c ≠ 92 then (if good c then (c, 1) else (0, 0))
  else match r with
   | x :: a :: b :: _ => if x = 120 ∧ hexv a < 16 ∧ hexv b < 16 ∧ good (UInt8.ofNat (hexv a * 16 + hexv b)) = false then (UInt8.ofNat (hexv a * 16 + hexv b), 4) else (0, 0)
   | _ => (0, 0) := rfl
theorem all_bytes {p : UInt8 → Bool} (h : (List.range 256).all (fun n => p (UInt8.ofNat n)) = true) (c : UInt8) : p c = true := by
 have h1 := List.all_eq_true.1 h c.toNat (List.mem_range.2 c.toNat_lt)
 simpa using h1
theorem hex_back (c : UInt8) : hexv (hexd (c.toNat / 16)) = c.toNat / 16 ∧ hexv (hexd (c.toNat % 16)) = c.toNat % 16 := by
 have := all_bytes (p := fun c => decide (hexv (hexd (c.toNat / 16)) = c.toNat / 16 ∧ hexv (hexd (c.toNat % 16)) = c.toNat % 16)) (by decide +kernel) c
 simpa using this
theorem hexv_16 (c : UInt8) : hexv c < 16 → hexd (hexv c) = c := by
 have := all_bytes (p := fun c => decide (hexv c < 16 → hexd (hexv c) = c)) (by decide +kernel) c
 exact of_decide_eq_true this
theorem hexd_sign (c : UInt8) : (32 ≤ (hexd (c.toNat / 16)).toNat ∧ (hexd (c.toNat / 16)).toNat ≤ 126 ∧ hexd (c.toNat / 16) ≠ 34) ∧ (32 ≤ (hexd (c.toNat % 16)).toNat ∧ (hexd (c.toNat % 16)).toNat ≤ 126 ∧ hexd (c.toNat % 16) ≠ 34) := by
 have := all_bytes (p := fun c => decide ((32 ≤ (hexd (c.toNat / 16)).toNat ∧ (hexd (c.toNat / 16)).toNat ≤ 126 ∧ hexd (c.toNat / 16) ≠ 34) ∧ (32 ≤ (hexd (c.toNat % 16)).toNat ∧ (hexd (c.toNat % 16)).toNat ≤ 126 ∧ hexd (c.toNat % 16) ≠ 34))) (by decide +kernel) c
 simpa using this
theorem good_34 {c : UInt8} (h : good c = true) : c ≠ 34 := by rintro rfl; revert h; decide
theorem good_92 {c : UInt8} (h : good c = true) : c ≠ 92 := by rintro rfl; revert h; decide
theorem ofNat_parts (c : UInt8) : UInt8.ofNat (c.toNat / 16 * 16 + c.toNat % 16) = c := by
 have : c.toNat / 16 * 16 + c.toNat % 16 = c.toNat := by omega
 rw [this]; simp
theorem taken_qb (c : UInt8) (r : Bs) : taken (qb c ++ r) = (c, (qb c).length) := by
 unfold qb
 by_cases h : good c = true
 ·rw [if_pos h]
  simp [taken, good_92 h, h]
 ·rw [if_neg h]
  obtain ⟨h1, h2⟩ := hex_back c
  simp only [List.cons_append, List.nil_append, taken, h1, h2, ofNat_parts]
  rw [if_neg (by simp), if_pos ⟨trivial, by have := c.toNat_lt; omega, by omega, by simpa using h⟩]
  rfl
theorem taken_of {l : Bs} {c : UInt8} {n : Nat} (h : taken l = (c, n)) (hn : n ≠ 0) : l = qb c ++ l.drop n ∧ n = (qb c).length := by
 match l with
 | [] => simp only [taken, Prod.mk.injEq] at h; exact absurd h.2.symm hn
 | x :: r =>
  rw [taken_cons] at h
  split at h
  ·split at h
   ·rename_i h1 h2
    simp only [Prod.mk.injEq] at h
    obtain ⟨rfl, rfl⟩ := h
    simp [qb, h2]
   ·simp only [Prod.mk.injEq] at h; exact absurd h.2.symm hn
  ·rename_i h1
   have hx : x = 92 := by simpa using h1
   subst hx
   split at h
   ·split at h
    ·rename_i y a b r' h2
     simp only [Prod.mk.injEq] at h
     obtain ⟨rfl, rfl⟩ := h
     obtain ⟨e1, e2, e3, e4⟩ := h2
     have e5 : (UInt8.ofNat (hexv a * 16 + hexv b)).toNat = hexv a * 16 + hexv b := by
      rw [UInt8.toNat_ofNat']; omega
     have e6 : (hexv a * 16 + hexv b) / 16 = hexv a := by omega
     have e7 : (hexv a * 16 + hexv b) % 16 = hexv b := by omega
     generalize UInt8.ofNat (hexv a * 16 + hexv b) = v at e4 e5
     have e8 : qb v = [92, 120, a, b] := by
      rw [qb, e4, e5, e6, e7, hexv_16 a e2, hexv_16 b e3]; rfl
     rw [e8, e1]
     exact ⟨rfl, rfl⟩
    ·simp only [Prod.mk.injEq] at h; exact absurd h.2.symm hn
   ·simp only [Prod.mk.injEq] at h; exact absurd h.2.symm hn
theorem qb_no34 (c : UInt8) : 34 ∉ qb c := by
 unfold qb
 split
 ·rename_i h; simp; exact fun e => good_34 h e.symm
 ·have := hexd_sign c; simp; exact ⟨fun e => this.1.2.2 e.symm, fun e => this.2.2.2 e.symm⟩
theorem qb_pos (c : UInt8) : 0 < (qb c).length := by unfold qb; split <;> simp
def bodyF : Nat → Bs → Option (Bs × Nat)
 | 0, _ => none
 | _ + 1, [] => none
 | f + 1, c :: r => if c = 34 then some ([], 1) else if (taken (c :: r)).2 = 0 then none else (bodyF f ((c :: r).drop (taken (c :: r)).2)).map fun x => ((taken (c :: r)).1 :: x.1, (taken (c :: r)).2 + x.2)
theorem bodyF_of : ∀ f l t n, bodyF f l = some (t, n) → ∃ r, l = mid t ++ 34 :: r ∧ n = (mid t).length + 1
 | 0, _, _, _, h => by simp [bodyF] at h
 | f + 1, [], _, _, h => by simp [bodyF] at h
 | f + 1, c :: r, t, n, h => by
  unfold bodyF at h
  split at h
  ·rename_i e
   simp only [Option.some.injEq, Prod.mk.injEq] at h
   obtain ⟨rfl, rfl⟩ := h
   exact ⟨r, by simp [mid, e], by simp [mid]⟩
  ·split at h
   ·simp at h
   ·rename_i h1 h2
    obtain ⟨⟨t', n'⟩, h3, h4⟩ := Option.map_eq_some_iff.1 h
    simp only [Prod.mk.injEq] at h4
    obtain ⟨rfl, rfl⟩ := h4
    obtain ⟨r', e1, e2⟩ := bodyF_of f _ _ _ h3
    obtain ⟨e3, e4⟩ := taken_of (l := c :: r) (c := (taken (c :: r)).1) (n := (taken (c :: r)).2) rfl h2
    refine ⟨r', ?_, ?_⟩
    ·have e5 : c :: r = qb (taken (c :: r)).1 ++ (mid t' ++ 34 :: r') := by rw [← e1]; exact e3
     have e6 : mid ((taken (c :: r)).1 :: t') = qb (taken (c :: r)).1 ++ mid t' := by simp [mid]
     rw [e6, List.append_assoc]; exact e5
    ·rw [e4, e2]; simp [mid]; omega
theorem bodyF_mid : ∀ t f r, (mid t).length < f → bodyF f (mid t ++ 34 :: r) = some (t, (mid t).length + 1)
 | [], 0, _, h => by simp at h
 | [], f + 1, r, _ => by simp [mid, bodyF]
 | c :: t, 0, _, h => by simp at h
 | c :: t, f + 1, r, h => by
  have hp := qb_pos c
  have e : mid (c :: t) ++ 34 :: r = qb c ++ (mid t ++ 34 :: r) := by simp [mid]
  have hl : (mid (c :: t)).length = (qb c).length + (mid t).length := by simp [mid]
  have ht := taken_qb c (mid t ++ 34 :: r)
  rw [e]
  obtain ⟨y, z, hq⟩ : ∃ y z, qb c = y :: z := by
   cases hq : qb c with
   | nil => simp [hq] at hp
   | cons y z => exact ⟨y, z, rfl⟩
  have hy : y ≠ 34 := by rintro rfl; exact qb_no34 c (by simp [hq])
  have h2 : (y :: z ++ (mid t ++ 34 :: r)) = y :: (z ++ (mid t ++ 34 :: r)) := rfl
  rw [hq] at ht ⊢
  rw [h2] at ht ⊢
  unfold bodyF
  rw [if_neg hy, ht, if_neg (by simp)]
  have h3 : (y :: (z ++ (mid t ++ 34 :: r))).drop (y :: z).length = mid t ++ 34 :: r := by rw [← h2]; simp
  rw [h3, bodyF_mid t f r (by omega), hl, hq]
  simp; omega
def body (l : Bs) : Option (Bs × Nat) := bodyF (l.length + 1) l
theorem body_iff (l t : Bs) (n : Nat) : body l = some (t, n) ↔ (∃ r, l = mid t ++ 34 :: r) ∧ n = (mid t).length + 1 := by
 constructor
 ·intro h; obtain ⟨r, e1, e2⟩ := bodyF_of _ _ _ _ h; exact ⟨⟨r, e1⟩, e2⟩
 ·rintro ⟨⟨r, rfl⟩, rfl⟩; exact bodyF_mid t _ r (by simp; omega)
theorem bodyF_more : ∀ f l, l.length < f → bodyF f l = body l := by
 intro f l h
 cases h1 : body l with
 | some x =>
  obtain ⟨t, n⟩ := x
  obtain ⟨⟨r, e1⟩, e2⟩ := (body_iff l t n).1 h1
  rw [e1, e2]; exact bodyF_mid t f r (by rw [e1] at h; simp at h; omega)
 | none =>
  cases h2 : bodyF f l with
  | none => rfl
  | some x =>
   obtain ⟨t, n⟩ := x
   obtain ⟨r, e1, e2⟩ := bodyF_of _ _ _ _ h2
   rw [(body_iff l t n).2 ⟨⟨r, e1⟩, e2⟩] at h1; cases h1
theorem body_nil : body [] = none := by
 cases h : body [] with
 | none => rfl
 | some x => obtain ⟨⟨r, e⟩, _⟩ := (body_iff [] x.1 x.2).1 h; simp at e
theorem body_mark (r : Bs) : body (34 :: r) = some ([], 1) := (body_iff _ _ _).2 ⟨⟨r, by simp [mid]⟩, by simp [mid]⟩
theorem body_stop (c : UInt8) (r : Bs) (h : c ≠ 34) (h0 : (taken (c :: r)).2 = 0) : body (c :: r) = none := by
 simp [body, bodyF, h, h0]
theorem body_step (c : UInt8) (r : Bs) (h : c ≠ 34) (h0 : (taken (c :: r)).2 ≠ 0) : body (c :: r) = (body ((c :: r).drop (taken (c :: r)).2)).map fun x => ((taken (c :: r)).1 :: x.1, (taken (c :: r)).2 + x.2) := by
 rw [body]
 unfold bodyF
 rw [if_neg h, if_neg h0, bodyF_more]
 simp only [List.length_drop, List.length_cons]; omega
def qtd : Bs → Option (Bs × Nat)
 | [] => none
 | c :: r => if c = 34 then (body r).map fun x => (x.1, x.2 + 1) else none
theorem qtd_cons (c : UInt8) (r : Bs) : qtd (c :: r) = if c = 34 then (body r).map fun x => (x.1, x.2 + 1) else none := rfl
theorem qtd_iff (l t : Bs) (n : Nat) : qtd l = some (t, n) ↔ (∃ r, l = quoteL t ++ r) ∧ n = (quoteL t).length := by
 constructor
 ·intro h
  match l with
  | [] => simp [qtd] at h
  | c :: r =>
   rw [qtd_cons] at h
   split at h
   ·rename_i e
    obtain ⟨⟨t', n'⟩, h1, h2⟩ := Option.map_eq_some_iff.1 h
    simp only [Prod.mk.injEq] at h2
    obtain ⟨rfl, rfl⟩ := h2
    obtain ⟨⟨r', e1⟩, e2⟩ := (body_iff _ _ _).1 h1
    exact ⟨⟨r', by rw [e, e1]; simp [quoteL]⟩, by rw [e2]; simp [quoteL]⟩
   ·simp at h
 ·rintro ⟨⟨r, rfl⟩, rfl⟩
  have : quoteL t ++ r = 34 :: (mid t ++ 34 :: r) := by simp [quoteL]
  rw [this, qtd, if_pos rfl, (body_iff _ t ((mid t).length + 1)).2 ⟨⟨r, rfl⟩, rfl⟩]
  simp [quoteL]
def unq (l : Bs) : Option Bs := match qtd l with | some (t, n) => if n = l.length then some t else none | none => none
theorem unq_iff (l t : Bs) : unq l = some t ↔ l = quoteL t := by
 unfold unq
 constructor
 ·intro h
  split at h
  ·rename_i t' n h1
   split at h
   ·rename_i h2
    simp only [Option.some.injEq] at h
    subst h
    obtain ⟨⟨r, e⟩, e2⟩ := (qtd_iff _ _ _).1 h1
    have : r = [] := by
     have := congrArg List.length e
     rw [List.length_append] at this
     cases r with
     | nil => rfl
     | cons x r => simp at this; omega
    rw [e, this, List.append_nil]
   ·simp at h
  ·simp at h
 ·rintro rfl
  rw [(qtd_iff (quoteL t) t _).2 ⟨⟨[], by simp⟩, rfl⟩]
  simp
theorem quoteL_signs (l : Bs) : ∀ c ∈ quoteL l, 32 ≤ c.toNat ∧ c.toNat ≤ 126 := by
 intro c hc
 simp only [quoteL, mid, List.mem_cons, List.mem_append, List.mem_flatMap, List.not_mem_nil, or_false] at hc
 rcases hc with rfl | ⟨x, _, hx⟩ | rfl
 ·decide
 ·unfold qb at hx
  split at hx
  ·rename_i h
   simp at hx; subst hx
   simp [good] at h; omega
  ·have := hexd_sign x
   simp at hx
   rcases hx with rfl | rfl | rfl | rfl
   ·decide
   ·decide
   ·exact ⟨this.1.1, this.1.2.1⟩
   ·exact ⟨this.2.1, this.2.2.1⟩
 ·decide
end Go.Proofs.YtbphobmohdclaaaGreatDoor.QuotePlain
end
section
namespace Go.Proofs.YtbphobmohdclaaaGreatDoor.QuotePlain
def okw (w : Bs) : Bool := (unq w).isSome || plainL w
def blanks (ws : List Bs) : Bs := [32].intercalate ws
theorem blanks_one (w : Bs) : blanks [w] = w := by simp [blanks, List.intercalate]
theorem blanks_cons (w v : Bs) (ws : List Bs) : blanks (w :: v :: ws) = w ++ 32 :: blanks (v :: ws) := by
 simp [blanks, List.intercalate, List.intersperse]
def wd : Bs → Bs
 | [] => []
 | c :: r => if c = 32 then [] else c :: wd r
theorem wd_split : ∀ l : Bs, l = wd l ++ l.drop (wd l).length
 | [] => rfl
 | c :: r => by
  rw [wd]
  split
  ·rfl
  ·rw [List.length_cons, List.drop_succ_cons, List.cons_append, ← wd_split r]
theorem wd_no : ∀ (l r : Bs), 32 ∉ l → wd (l ++ r) = l ++ wd r
 | [], r, _ => rfl
 | c :: l, r, h => by
  have h1 : c ≠ 32 := by rintro rfl; simp at h
  rw [List.cons_append, wd, if_neg h1, wd_no l r (fun e => h (List.mem_cons_of_mem _ e))]; rfl
def word1 (l : Bs) : Option Bs :=
 match qtd l with
 | some (_, n) => some (l.take n)
 | none => if plainL (wd l) then some (wd l) else none
def splitF : Nat → Bs → Option (List Bs)
 | 0, _ => none
 | f + 1, l => match word1 l with
  | none => none
  | some w => match l.drop w.length with
   | [] => some [w]
   | c :: r => if c = 32 ∧ r ≠ [] then (splitF f r).map (w :: ·) else none
theorem plain_ne {w : Bs} (h : plainL w = true) : w ≠ [] := by
 simp only [plainL, Bool.and_eq_true, decide_eq_true_eq] at h; exact h.1
theorem plain_mem {w : Bs} (h : plainL w = true) : ∀ c ∈ w, 33 ≤ c.toNat ∧ c.toNat ≤ 126 ∧ c.toNat ≠ 34 := by
 simp only [plainL, Bool.and_eq_true, List.all_eq_true, decide_eq_true_eq] at h; exact h.2
theorem plain_32 {w : Bs} (h : plainL w = true) : 32 ∉ w := fun e => by have := (plain_mem h 32 e).1; revert this; decide
theorem plain_34 {w : Bs} (h : plainL w = true) : 34 ∉ w := fun e => by have := (plain_mem h 34 e).2.2; revert this; decide
theorem quoteL_ne (t : Bs) : quoteL t ≠ [] := by simp [quoteL]
theorem okw_ne {w : Bs} (h : okw w = true) : w ≠ [] := by
 simp only [okw, Bool.or_eq_true] at h
 rcases h with h | h
 ·obtain ⟨t, ht⟩ := Option.isSome_iff_exists.1 h
  rw [(unq_iff _ _).1 ht]; exact quoteL_ne t
 ·exact plain_ne h
theorem okw_quote (t : Bs) : okw (quoteL t) = true := by simp [okw, (unq_iff _ _).2 (rfl : quoteL t = quoteL t)]
theorem word1_of {l w : Bs} (h : word1 l = some w) : okw w = true ∧ l = w ++ l.drop w.length := by
 unfold word1 at h
 split at h
 ·rename_i t n hq
  simp only [Option.some.injEq] at h
  subst h
  obtain ⟨⟨r, e⟩, e2⟩ := (qtd_iff _ _ _).1 hq
  have hw : l.take n = quoteL t := by rw [e, e2]; simp
  rw [hw]
  exact ⟨okw_quote t, by rw [e]; simp⟩
 ·split at h
  ·rename_i hp
   simp only [Option.some.injEq] at h
   subst h
   exact ⟨by simp [okw, hp], wd_split l⟩
  ·cases h
theorem word1_ok {w r : Bs} (h : okw w = true) (hr : r = [] ∨ ∃ r', r = 32 :: r') : word1 (w ++ r) = some w := by
 simp only [okw, Bool.or_eq_true] at h
 by_cases hu : (unq w).isSome = true
 ·obtain ⟨t, ht⟩ := Option.isSome_iff_exists.1 hu
  have hw := (unq_iff _ _).1 ht
  rw [word1, (qtd_iff (w ++ r) t w.length).2 ⟨⟨r, by rw [hw]⟩, by rw [hw]⟩]
  simp
 ·have hp : plainL w = true := by rcases h with h | h; exact absurd h hu; exact h
  have hq : qtd (w ++ r) = none := by
   match w, plain_ne hp, plain_34 hp with
   | c :: w, _, h34 =>
    rw [List.cons_append, qtd_cons, if_neg]
    rintro rfl; simp at h34
  have ht : wd (w ++ r) = w := by
   rw [wd_no _ _ (plain_32 hp)]
   rcases hr with rfl | ⟨r', rfl⟩
   ·rw [wd, List.append_nil]
   ·rw [wd, if_pos rfl, List.append_nil]
  rw [word1, hq]
  simp only [ht, hp, if_true]
theorem splitF_of : ∀ f l ws, splitF f l = some ws → ws ≠ [] ∧ (∀ w ∈ ws, okw w = true) ∧ l = blanks ws
 | 0, _, _, h => by simp [splitF] at h
 | f + 1, l, ws, h => by
  rw [splitF] at h
  split at h
  ·cases h
  ·rename_i w hw
   obtain ⟨h1, h2⟩ := word1_of hw
   split at h
   ·rename_i hd
    simp only [Option.some.injEq] at h
    subst h
    rw [hd, List.append_nil] at h2
    exact ⟨by simp, by simpa using h1, by rw [blanks_one]; exact h2⟩
   ·rename_i c r hd
    split at h
    ·rename_i hc
     obtain ⟨rfl, _⟩ := hc
     obtain ⟨ws', h3, rfl⟩ := Option.map_eq_some_iff.1 h
     obtain ⟨h4, h5, h6⟩ := splitF_of f r ws' h3
     refine ⟨by simp, by simpa using ⟨h1, h5⟩, ?_⟩
     match ws', h4 with
     | v :: ws', _ => rw [blanks_cons, ← h6, ← hd]; exact h2
    ·cases h
theorem blanks_ne {ws : List Bs} (h0 : ws ≠ []) (h : ∀ w ∈ ws, okw w = true) : blanks ws ≠ [] := by
 match ws, h0 with
 | [w], _ => rw [blanks_one]; exact okw_ne (h w (by simp))
 | w :: v :: ws, _ => rw [blanks_cons]; simp
theorem splitF_blanks : ∀ (ws : List Bs) (f : Nat), ws ≠ [] → (∀ w ∈ ws, okw w = true) → ws.length ≤ f → splitF f (blanks ws) = some ws
 | [], _, h, _, _ => absurd rfl h
 | _ :: _, 0, _, _, h => by simp at h
 | [w], f + 1, _, h, _ => by
  have := word1_ok (w := w) (r := []) (h w (by simp)) (.inl rfl)
  rw [List.append_nil] at this
  rw [blanks_one, splitF, this]
  simp
 | w :: v :: ws, f + 1, _, h, hf => by
  have hw := word1_ok (w := w) (r := 32 :: blanks (v :: ws)) (h w (by simp)) (.inr ⟨_, rfl⟩)
  rw [blanks_cons, splitF, hw]
  have hne := blanks_ne (ws := v :: ws) (by simp) (fun x hx => h x (List.mem_cons_of_mem _ hx))
  simp only [List.drop_left]
  rw [if_pos ⟨trivial, hne⟩, splitF_blanks (v :: ws) f (by simp) (fun x hx => h x (List.mem_cons_of_mem _ hx)) (by simp at hf ⊢; omega)]
  rfl
theorem blanks_length : ∀ (ws : List Bs), (∀ w ∈ ws, okw w = true) → ws.length ≤ (blanks ws).length
 | [], _ => by simp
 | [w], h => by
  rw [blanks_one]
  have := okw_ne (h w (by simp))
  cases w with
  | nil => exact absurd rfl this
  | cons _ _ => simp
 | w :: v :: ws, h => by
  have := blanks_length (v :: ws) fun x hx => h x (List.mem_cons_of_mem _ hx)
  rw [blanks_cons]
  simp only [List.length_cons, List.length_append] at this ⊢
  omega
def split1 (l : Bs) : Option (List Bs) := splitF (l.length + 1) l
theorem split1_iff (l : Bs) (ws : List Bs) : split1 l = some ws ↔ ws ≠ [] ∧ (∀ w ∈ ws, okw w = true) ∧ l = blanks ws := by
 constructor
 ·exact splitF_of _ _ _
 ·rintro ⟨h1, h2, rfl⟩
  exact splitF_blanks ws _ h1 h2 (by have := blanks_length ws h2; omega)
theorem splitF_more (f : Nat) (l : Bs) (h : l.length ≤ f) : splitF f l = split1 l := by
 cases h1 : split1 l with
 | some ws =>
  obtain ⟨a, b, c⟩ := (split1_iff l ws).1 h1
  have := blanks_length ws b
  rw [← c] at this
  rw [c]; exact splitF_blanks ws f a b (by omega)
 | none =>
  cases h2 : splitF f l with
  | none => rfl
  | some ws => rw [(split1_iff l ws).2 (splitF_of _ _ _ h2)] at h1; cases h1
theorem split1_none {l : Bs} (h : word1 l = none) : split1 l = none := by rw [split1, splitF, h]
theorem split1_last {l w : Bs} (h : word1 l = some w) (h1 : l.drop w.length = []) : split1 l = some [w] := by rw [split1, splitF, h]; simp only [h1]
theorem split1_bad {l w : Bs} {c : UInt8} {r : Bs} (h : word1 l = some w) (h1 : l.drop w.length = c :: r) (h2 : ¬ (c = 32 ∧ r ≠ [])) : split1 l = none := by
 rw [split1, splitF, h]; simp only [h1]; rw [if_neg h2]
theorem split1_more {l w : Bs} {r : Bs} (h : word1 l = some w) (h1 : l.drop w.length = 32 :: r) (h2 : r ≠ []) : split1 l = (split1 r).map (w :: ·) := by
 have hl : r.length < l.length := by
  have := congrArg List.length h1
  simp only [List.length_drop, List.length_cons] at this; omega
 rw [split1, splitF, h]; simp only [h1]; rw [if_pos ⟨trivial, h2⟩, splitF_more _ _ (by omega)]
def splitW (l : Bs) : Option (List Bs) := if l = [] then some [] else split1 l
def cut : Bs → Bs → Bool → Option (List Bs)
 | [], w, _ => if okw w then some [w] else none
 | c :: r, w, i => if c = 32 ∧ i = false then (if okw w then (cut r [] i).map (w :: ·) else none) else cut r (w ++ [c]) (if c = 34 then !i else i)
end Go.Proofs.YtbphobmohdclaaaGreatDoor.QuotePlain
end
section
namespace Go.Proofs.YtbphobmohdclaaaGreatDoor.QuotePlain
def F (q : List Bs) : Bs := q.flatMap (· ++ [32])
theorem splitW_back (l : Bs) (ws : List Bs) (h : splitW l = some ws) : blanks ws = l ∧ ws.length ≤ l.length := by
 unfold splitW at h
 split at h
 ·rename_i e
  simp only [Option.some.injEq] at h
  subst h e
  exact ⟨rfl, Nat.le_refl _⟩
 ·obtain ⟨_, h2, h3⟩ := (split1_iff _ _).1 h
  exact ⟨h3.symm, by rw [h3]; exact blanks_length ws h2⟩
end Go.Proofs.YtbphobmohdclaaaGreatDoor.QuotePlain
end
section
set_option linter.unusedVariables false
namespace Go.Proofs.YtbphobmohdclaaaGreatDoor.Vcg
structure OpV where
 kind : Int
 slot : Int
 a : List UInt8
 b : List UInt8
 d : List UInt8
deriving DecidableEq, Inhabited
def slotted (k : Int) : Bool := decide (k = 3) || decide (k = 7) || decide (k = 9) || decide (k = 10)
def hasB (k : Int) : Bool := decide (k = 2) || decide (k = 3) || decide (k = 5) || decide (k = 6)
end Go.Proofs.YtbphobmohdclaaaGreatDoor.Vcg
end
section
set_option linter.unusedVariables false
set_option linter.unusedSimpArgs false
namespace Go.Proofs.YtbphobmohdclaaaGreatDoor.QuotePlain
open Go.Lib
def isDig (b : UInt8) : Bool := decide (48 ≤ b.toNat) && decide (b.toNat ≤ 57)
def valV (s : Bs) : Nat := s.foldl (fun n b => 10 * n + (b.toNat - 48)) 0
theorem val_snoc (s : Bs) (b : UInt8) : valV (s ++ [b]) = 10 * valV s + (b.toNat - 48) := by unfold valV; rw [List.foldl_append]; rfl
theorem fold_ge : ∀ (s : Bs) (n : Nat), n ≤ s.foldl (fun n b => 10 * n + (b.toNat - 48)) n
 | [], n => Nat.le_refl _
 | b :: r, n => by
  rw [List.foldl_cons]
  exact Nat.le_trans (by omega) (fold_ge r _)
theorem val_take (s : Bs) (j : Nat) : valV (s.take j) ≤ valV s := by
 conv => rhs; rw [← List.take_append_drop j s]
 unfold valV
 rw [List.foldl_append]
 exact fold_ge _ _
theorem dec_step {n : Nat} (h : ¬ n < 10) : decDigits n = decDigits (n / 10) ++ [UInt8.ofNat (48 + n % 10)] := by rw [decDigits, dif_neg h]
theorem dig_toNat (m : Nat) (h : m < 10) : (UInt8.ofNat (48 + m)).toNat = 48 + m := by rw [UInt8.toNat_ofNat']; omega
theorem val_dec : ∀ n : Nat, valV (decDigits n) = n ∧ (decDigits n).all isDig = true ∧ decDigits n ≠ [] := by
 intro n
 induction n using Nat.strongRecOn with
 | ind n ih =>
  by_cases h : n < 10
  ·rw [decDigits_one h]
   have := dig_toNat n h
   refine ⟨by unfold valV; simp only [List.foldl_cons, List.foldl_nil, this]; omega, by simp only [List.all_cons, List.all_nil, isDig, this]; simp; omega, by simp⟩
  ·obtain ⟨h1, h2, h3⟩ := ih (n / 10) (by omega)
   have hd := dig_toNat (n % 10) (by omega)
   rw [dec_step h]
   refine ⟨by rw [val_snoc, h1, hd]; omega, ?_, by simp⟩
   rw [List.all_append, h2]
   simp only [List.all_cons, List.all_nil, Bool.and_true, Bool.true_and, isDig, hd]
   simp; omega
theorem dec_len : ∀ (k n : Nat), 1 ≤ k → n < 10 ^ k → (decDigits n).length ≤ k := by
 intro k
 induction k with
 | zero => intro n h; omega
 | succ k ih =>
  intro n _ hn
  by_cases h : n < 10
  ·rw [decDigits_one h]; simp
  ·rw [dec_step h]
   have hk : 1 ≤ k := by
    rcases Nat.eq_zero_or_pos k with rfl | h'
    ·simp at hn; omega
    ·exact h'
   have := ih (n / 10) hk (by rw [Nat.pow_succ] at hn; omega)
   simp; omega
abbrev most : Nat := 1073741824
def okTo (s : Bs) (i : Nat) : Prop := ∀ j, j < i → (∃ b, s[j]? = some b ∧ isDig b = true) ∧ valV (s.take j) ≤ most
def numB (s : Bs) : Bool := decide (valV s ≤ most) && decide (decDigits (valV s) = s)
theorem num_ok {s : Bs} (h : numB s = true) : okTo s s.length ∧ s ≠ [] := by
 unfold numB at h
 simp only [Bool.and_eq_true, decide_eq_true_eq] at h
 obtain ⟨h1, h2⟩ := h
 obtain ⟨_, g2, g3⟩ := val_dec (valV s)
 rw [h2] at g2 g3
 exact ⟨fun j hj => ⟨⟨s[j], List.getElem?_eq_getElem hj, List.all_eq_true.1 g2 _ (List.getElem_mem hj)⟩, Nat.le_trans (val_take s j) h1⟩, g3⟩
theorem num_dec (n : Nat) (h : n ≤ most) : numB (decDigits n) = true ∧ valV (decDigits n) = n := by
 have h1 := (val_dec n).1
 exact ⟨by unfold numB; rw [h1]; simp [h], h1⟩
theorem num_iff (s : Bs) : numB s = true ↔ ∃ n, n ≤ most ∧ s = decDigits n := by
 constructor
 ·intro h
  unfold numB at h
  simp only [Bool.and_eq_true, decide_eq_true_eq] at h
  exact ⟨_, h.1, h.2.symm⟩
 ·rintro ⟨n, h, rfl⟩; exact (num_dec n h).1
theorem num_len {s : Bs} (h : numB s = true) : 1 ≤ s.length ∧ s.length ≤ 10 := by
 obtain ⟨n, hn, rfl⟩ := (num_iff s).1 h
 have h1 := (val_dec n).2.2
 have h2 := dec_len 10 n (by omega) (Nat.lt_of_le_of_lt hn (by decide))
 exact ⟨List.length_pos_iff.2 h1, h2⟩
theorem dec_plain (n : Nat) : plainL (decDigits n) = true := by
 obtain ⟨_, h2, h3⟩ := val_dec n
 unfold plainL
 rw [decide_eq_true h3, Bool.true_and, List.all_eq_true]
 intro c hc
 have := List.all_eq_true.1 h2 c hc
 unfold isDig at this
 simp only [Bool.and_eq_true, decide_eq_true_eq] at this ⊢
 omega
end Go.Proofs.YtbphobmohdclaaaGreatDoor.QuotePlain
end
section
set_option linter.unusedVariables false
set_option linter.unusedSimpArgs false
namespace Go.Proofs.YtbphobmohdclaaaGreatDoor.Vcg
open Go.Lib
open QuotePlain (Bs quoteL plainL blanks okw unq split1 splitW numB valV most)
def namesL : List Bs := [[], [109, 107, 100, 105, 114], [99, 111, 112, 121], [119, 114, 105, 116, 101], [115, 121, 109], [108, 105, 110, 107], [109, 111, 118, 101], [115, 116, 97, 115, 104], [101, 114, 97, 115, 101], [114, 101, 116, 117, 114, 110], [114, 101, 115, 116, 111, 114, 101]]
def nameW (k : Int) : Bs := namesL.getD k.toNat []
def wordsV (o : OpV) : List Bs := [nameW o.kind] ++ (if slotted o.kind then [decDigits o.slot.toNat] else []) ++ (if o.kind = 4 then [quoteL o.d] else []) ++ [quoteL o.a] ++ (if hasB o.kind then [quoteL o.b] else [])
def lineV (o : OpV) : Bs := blanks (wordsV o)
structure LineOk (o : OpV) : Prop where
 lo : 1 ≤ o.kind
 hi : o.kind ≤ 10
 slot : slotted o.kind = true → 1 ≤ o.slot ∧ o.slot ≤ 1073741824
 none : slotted o.kind = false → o.slot = 0
 b : hasB o.kind = false → o.b = []
 d : o.kind ≠ 4 → o.d = []
theorem kind_cases {k : Int} (h1 : 1 ≤ k) (h2 : k ≤ 10) : k = 1 ∨ k = 2 ∨ k = 3 ∨ k = 4 ∨ k = 5 ∨ k = 6 ∨ k = 7 ∨ k = 8 ∨ k = 9 ∨ k = 10 := by omega
theorem name_plain {k : Int} (h1 : 1 ≤ k) (h2 : k ≤ 10) : plainL (nameW k) = true := by
 rcases kind_cases h1 h2 with rfl | rfl | rfl | rfl | rfl | rfl | rfl | rfl | rfl | rfl <;> decide
theorem okw_plain {w : Bs} (h : plainL w = true) : okw w = true := by unfold okw; rw [h, Bool.or_true]
theorem words_ok {o : OpV} (h : LineOk o) : wordsV o ≠ [] ∧ ∀ w ∈ wordsV o, okw w = true := by
 refine ⟨by simp [wordsV], fun w hw => ?_⟩
 unfold wordsV at hw
 simp only [List.mem_append, List.mem_cons, List.not_mem_nil, or_false] at hw
 rcases hw with (((rfl | hw) | hw) | rfl) | hw
 ·exact okw_plain (name_plain h.lo h.hi)
 ·split at hw
  ·simp at hw; subst hw; exact okw_plain (QuotePlain.dec_plain _)
  ·cases hw
 ·split at hw
  ·simp at hw; subst hw; exact QuotePlain.okw_quote _
  ·cases hw
 ·exact QuotePlain.okw_quote _
 ·split at hw
  ·simp at hw; subst hw; exact QuotePlain.okw_quote _
  ·cases hw
theorem line_split {o : OpV} (h : LineOk o) : splitW (lineV o) = some (wordsV o) := by
 obtain ⟨h1, h2⟩ := words_ok h
 unfold splitW lineV
 rw [if_neg (QuotePlain.blanks_ne h1 h2)]
 exact (QuotePlain.split1_iff _ _).2 ⟨h1, h2, rfl⟩
end Go.Proofs.YtbphobmohdclaaaGreatDoor.Vcg
end
section
set_option linter.unusedVariables false
set_option linter.unusedSimpArgs false
namespace Go.Proofs.YtbphobmohdclaaaGreatDoor.Vcg
open Go.Lib
open QuotePlain (Bs quoteL plainL blanks okw unq split1 splitW numB valV most)
def namesT : List Bs := namesL.drop 1
def kindOf (w : Bs) : Int := match midx w namesT with | some j => (j : Int) + 1 | none => 0
def textsV : List Bs → Option (List Bs)
 | [] => some []
 | w :: r => match unq w with
  | some t => (textsV r).map (t :: ·)
  | none => none
def buildV (k s : Int) (ts : List Bs) : OpV :=
 match ts with
 | [x, y] => if k = 4 then ⟨k, s, y, [], x⟩ else ⟨k, s, x, y, []⟩
 | [x] => ⟨k, s, x, [], []⟩
 | _ => ⟨k, s, [], [], []⟩
def restV (w : Bs) (r : List Bs) : Int × List Bs := if numB w then ((valV w : Int), r) else (0, w :: r)
def parseV (s : Bs) : Option OpV :=
 match splitW s with
 | some (w0 :: w1 :: r) => (textsV (restV w1 r).2).map (buildV (kindOf w0) (restV w1 r).1)
 | _ => none
theorem kindOf_name {k : Int} (h1 : 1 ≤ k) (h2 : k ≤ 10) : kindOf (nameW k) = k := by
 rcases kind_cases h1 h2 with rfl | rfl | rfl | rfl | rfl | rfl | rfl | rfl | rfl | rfl <;> decide
theorem num_quote (x : Bs) : numB (quoteL x) = false := by
 cases h : numB (quoteL x) with
 | false => rfl
 | true =>
  obtain ⟨n, _, e⟩ := (QuotePlain.num_iff _).1 h
  obtain ⟨_, g, _⟩ := QuotePlain.val_dec n
  rw [← e] at g
  simp [quoteL, QuotePlain.isDig] at g
theorem unq_quote (x : Bs) : unq (quoteL x) = some x := (QuotePlain.unq_iff _ _).2 rfl
theorem parse_line {o : OpV} (h : LineOk o) : parseV (lineV o) = some o := by
 unfold parseV
 rw [line_split h]
 obtain ⟨k, s, a, b, d⟩ := o
 have g1 := h.slot; have g3 := h.none; have g5 := h.b; have g7 := h.d
 have hlo := h.lo; have hhi := h.hi
 simp only at g1 g3 g5 g7 hlo hhi
 have hk := kindOf_name hlo hhi
 unfold wordsV
 simp only
 cases hs : slotted k with
 | true =>
  obtain ⟨s1, s2⟩ := g1 hs
  have hn := QuotePlain.num_dec s.toNat (by unfold most; omega)
  have h4 : k ≠ 4 := fun e => by subst e; revert hs; decide
  have hst : ((s.toNat : Nat) : Int) = s := by omega
  cases hb : hasB k <;> simp [h4, hk, restV, hn.1, hn.2, textsV, unq_quote, buildV, hst, g7 h4]
  exact g5 hb
 | false =>
  have hs0 := g3 hs
  subst hs0
  by_cases h4 : k = 4
  ·subst h4
   have hb : hasB 4 = false := by decide
   simp [hb, hk, restV, num_quote, textsV, unq_quote, buildV, g5 hb]
  ·cases hb : hasB k <;> simp [h4, hk, restV, num_quote, textsV, unq_quote, buildV, g7 h4]
   exact g5 hb
def readV (may : OpV → Bool) (s : Bs) : Option OpV := match parseV s with
 | some o => if may o && decide (lineV o = s) then some o else none
 | none => none
theorem read_iff {may : OpV → Bool} (hm : ∀ o, may o = true → LineOk o) (s : Bs) (o : OpV) : readV may s = some o ↔ may o = true ∧ lineV o = s := by
 constructor
 ·intro h
  unfold readV at h
  split at h
  ·split at h
   ·rename_i hc
    cases h
    simpa using hc
   ·cases h
  ·cases h
 ·rintro ⟨h1, rfl⟩
  unfold readV
  rw [parse_line (hm o h1)]
  simp [h1]
end Go.Proofs.YtbphobmohdclaaaGreatDoor.Vcg
end
section
set_option linter.unusedVariables false
set_option linter.unusedSimpArgs false
namespace Go.Proofs.YtbphobmohdclaaaGreatDoor.Vcg
open Go.Lib
open QuotePlain (Bs quoteL plainL blanks okw unq split1 splitW numB valV most)
def bodyV (l : List OpV) : Bs := l.flatMap fun o => lineV o ++ [10]
def headV (n : Nat) : Bs := [112, 108, 97, 110, 32] ++ decDigits n
def textV (l : List OpV) : Bs := headV l.length ++ [10] ++ bodyV l
def ln : Bs → Option (Bs × Bs)
 | [] => none
 | c :: r => if c = 10 then some ([], r) else (ln r).map fun x => (c :: x.1, x.2)
theorem ln_app : ∀ (a r : Bs), 10 ∉ a → ln (a ++ 10 :: r) = some (a, r)
 | [], r, _ => by simp [ln]
 | c :: a, r, h => by
  have hc : c ≠ 10 := fun e => h (by subst e; exact List.mem_cons_self)
  rw [List.cons_append, ln, if_neg hc, ln_app a r fun h' => h (List.mem_cons_of_mem _ h')]
  rfl
theorem ln_some : ∀ {s a r : Bs}, ln s = some (a, r) → s = a ++ 10 :: r ∧ 10 ∉ a
 | [], a, r, h => by cases h
 | c :: s, a, r, h => by
  unfold ln at h
  by_cases hc : c = 10
  ·rw [if_pos hc] at h
   cases h
   subst hc
   exact ⟨rfl, by simp⟩
  ·rw [if_neg hc] at h
   cases hq : ln s with
   | none => rw [hq] at h; cases h
   | some x =>
    obtain ⟨a', r'⟩ := x
    rw [hq] at h
    simp only [Option.map_some, Option.some.injEq, Prod.mk.injEq] at h
    obtain ⟨rfl, rfl⟩ := h
    obtain ⟨e1, e2⟩ := ln_some hq
    exact ⟨by rw [e1]; rfl, fun hm => by
     rcases List.mem_cons.1 hm with h | h
     ·exact hc h.symm
     ·exact e2 h⟩
theorem ln_none : ∀ {s : Bs}, ln s = none → 10 ∉ s
 | [], _ => by simp
 | c :: s, h => by
  unfold ln at h
  by_cases hc : c = 10
  ·rw [if_pos hc] at h; cases h
  ·rw [if_neg hc] at h
   have := ln_none (s := s) (by cases hq : ln s with | none => rfl | some x => rw [hq] at h; cases h)
   intro hm
   rcases List.mem_cons.1 hm with h | h
   ·exact hc h.symm
   ·exact this h
def restG (rd : Bs → Option OpV) (ok : List OpV → Bool) : Nat → Nat → List OpV → Nat → Bs → Option (List OpV) × Nat
 | 0, _, l, at_, _ => (none, at_)
 | f + 1, want, l, at_, s =>
  if l.length = want then (if s = [] then (some l, 0) else (none, at_))
  else match ln s with
   | none => (none, at_)
   | some (a, r) => match rd a with
    | none => (none, at_)
    | some o => if ok (l ++ [o]) then restG rd ok f want (l ++ [o]) (at_ + a.length + 1) r else (none, at_)
def headG (a : Bs) : Option Nat := if a.take 5 = [112, 108, 97, 110, 32] then (if numB (a.drop 5) then some (valV (a.drop 5)) else none) else none
def getV (rd : Bs → Option OpV) (ok : List OpV → Bool) (s : Bs) : Option (List OpV) × Nat :=
 match ln s with
 | none => (none, 0)
 | some (a, r) => match headG a with
  | none => (none, 0)
  | some n => restG rd ok (s.length + 1) n [] (a.length + 1) r
theorem headG_iff (a : Bs) (n : Nat) : headG a = some n ↔ n ≤ most ∧ a = headV n := by
 unfold headG
 constructor
 ·intro h
  split at h
  ·rename_i h1
   split at h
   ·rename_i h2
    cases h
    obtain ⟨m, hm, e⟩ := (QuotePlain.num_iff _).1 h2
    have hv := (QuotePlain.val_dec m).1
    rw [e, hv]
    refine ⟨hm, ?_⟩
    unfold headV
    rw [← h1, ← e, List.take_append_drop]
   ·cases h
  ·cases h
 ·rintro ⟨hn, rfl⟩
  obtain ⟨h1, h2⟩ := QuotePlain.num_dec n hn
  unfold headV
  simp [h1, h2]
theorem head_no10 (n : Nat) : (10 : UInt8) ∉ headV n := by
 unfold headV
 intro h
 rcases List.mem_append.1 h with h | h
 ·revert h; decide
 ·have := QuotePlain.plain_mem (QuotePlain.dec_plain n) 10 h
  revert this; decide
theorem okw_no10 {w : Bs} (hw : okw w = true) : (10 : UInt8) ∉ w := by
 intro h10
 unfold okw at hw
 simp only [Bool.or_eq_true] at hw
 rcases hw with hw | hw
 ·obtain ⟨t, ht⟩ := Option.isSome_iff_exists.1 hw
  have e := (QuotePlain.unq_iff _ _).1 ht
  rw [e] at h10
  have := QuotePlain.quoteL_signs t 10 h10
  revert this; decide
 ·have := QuotePlain.plain_mem hw 10 h10
  revert this; decide
theorem blanks_signs : ∀ (ws : List Bs), (∀ w ∈ ws, okw w = true) → (10 : UInt8) ∉ blanks ws
 | [], _ => by simp [blanks]
 | [w], h => by
  rw [QuotePlain.blanks_one]
  exact okw_no10 (h w List.mem_cons_self)
 | w :: v :: ws, h => by
  rw [QuotePlain.blanks_cons]
  intro h10
  rcases List.mem_append.1 h10 with h1 | h1
  ·exact okw_no10 (h w List.mem_cons_self) h1
  ·rcases List.mem_cons.1 h1 with h1 | h1
   ·revert h1; decide
   ·exact blanks_signs (v :: ws) (fun x hx => h x (List.mem_cons_of_mem _ hx)) h1
theorem line_no10 {o : OpV} (h : LineOk o) : (10 : UInt8) ∉ lineV o := blanks_signs _ (words_ok h).2
section
variable {may : OpV → Bool} {ok : List OpV → Bool}
theorem body_cons (o : OpV) (l : List OpV) : bodyV (o :: l) = lineV o ++ 10 :: bodyV l := by unfold bodyV; rw [List.flatMap_cons, List.append_assoc]; rfl
theorem body_len : ∀ l : List OpV, l.length ≤ (bodyV l).length
 | [] => Nat.zero_le _
 | o :: l => by rw [body_cons]; have := body_len l; simp; omega
theorem rest_body (hm : ∀ o, may o = true → LineOk o) (hok : ∀ l r, ok (l ++ r) = true → ok l = true) (hall : ∀ l, ok l = true → ∀ o ∈ l, may o = true) : ∀ (m l : List OpV) (f at_ want : Nat) (more : Bs), m.length < f → want = l.length + m.length → ok (l ++ m) = true →
  restG (readV may) ok f want l at_ (bodyV m ++ more) = if more = [] then (some (l ++ m), 0) else (none, at_ + (bodyV m).length)
 | [], l, 0, _, _, _, h, _, _ => by simp at h
 | [], l, f + 1, at_, want, more, _, hw, _ => by
  unfold restG
  rw [if_pos (by simpa using hw.symm)]
  simp [bodyV]
 | o :: m, l, 0, _, _, _, h, _, _ => by simp at h
 | o :: m, l, f + 1, at_, want, more, hf, hw, h => by
  have h' : ok ((l ++ [o]) ++ m) = true := by rw [List.append_assoc]; exact h
  have ho := hall _ h o (by simp)
  have hl := hm o ho
  unfold restG
  rw [if_neg (by simp at hw; omega), body_cons, List.append_assoc, List.cons_append, ln_app _ _ (line_no10 hl)]
  simp only
  rw [(read_iff hm _ o).2 ⟨ho, rfl⟩]
  simp only
  rw [if_pos (hok _ _ h'), rest_body hm hok hall m (l ++ [o]) f _ want more (by simp at hf; omega) (by simp at hw ⊢; omega) h']
  simp only [List.append_assoc, List.cons_append, List.nil_append, List.length_append, List.length_cons]
  congr 1
  simp; omega
theorem get_put (hm : ∀ o, may o = true → LineOk o) (hok : ∀ l r, ok (l ++ r) = true → ok l = true) (hall : ∀ l, ok l = true → ∀ o ∈ l, may o = true) (l : List OpV) (hl : ok l = true) (hn : l.length ≤ most) (more : Bs) :
  getV (readV may) ok (textV l ++ more) = if more = [] then (some l, 0) else (none, (textV l).length) := by
 have e : textV l ++ more = headV l.length ++ 10 :: (bodyV l ++ more) := by unfold textV; simp
 have hb := body_len l
 unfold getV
 rw [e, ln_app _ _ (head_no10 _)]
 simp only
 rw [(headG_iff _ _).2 ⟨hn, rfl⟩]
 simp only
 rw [rest_body hm hok hall l [] _ _ _ more (by simp; omega) (by simp) (by simpa using hl)]
 have : (textV l).length = (headV l.length).length + 1 + (bodyV l).length := by unfold textV; simp; omega
 rw [this]; rfl
theorem rest_some (hm : ∀ o, may o = true → LineOk o) : ∀ (f want : Nat) (l : List OpV) (at_ : Nat) (s : Bs) (x : List OpV), restG (readV may) ok f want l at_ s = (some x, 0) ∨ (restG (readV may) ok f want l at_ s).1 = some x → ∃ m, x = l ++ m ∧ s = bodyV m ∧ x.length = want ∧ (m = [] ∨ ok x = true)
 | 0, want, l, at_, s, x, h => by unfold restG at h; rcases h with h | h <;> cases h
 | f + 1, want, l, at_, s, x, h => by
  have h : (restG (readV may) ok (f + 1) want l at_ s).1 = some x := by
   rcases h with h | h
   ·rw [h]
   ·exact h
  unfold restG at h
  split at h
  ·rename_i hw
   split at h
   ·rename_i hs
    cases h
    exact ⟨[], by simp, by rw [hs]; rfl, hw, .inl rfl⟩
   ·cases h
  ·split at h
   ·cases h
   ·rename_i a r hln
    split at h
    ·cases h
    ·rename_i o ho
     split at h
     ·rename_i hk
      obtain ⟨m, h1, h2, h3, h4⟩ := rest_some hm f want (l ++ [o]) _ r x (.inr h)
      obtain ⟨e1, e2⟩ := ln_some hln
      obtain ⟨_, e3⟩ := (read_iff hm _ _).1 ho
      refine ⟨o :: m, by rw [h1, List.append_assoc]; rfl, by rw [body_cons, e3, ← h2]; exact e1, h3, .inr ?_⟩
      rcases h4 with h4 | h4
      ·subst h4
       rw [h1, List.append_nil]; exact hk
      ·exact h4
     ·cases h
theorem get_some (hm : ∀ o, may o = true → LineOk o) (h0 : ok [] = true) {s : Bs} {x : List OpV} (h : (getV (readV may) ok s).1 = some x) : s = textV x ∧ ok x = true ∧ x.length ≤ most := by
 unfold getV at h
 split at h
 ·cases h
 ·rename_i a r hln
  split at h
  ·cases h
  ·rename_i n hn
   obtain ⟨m, h1, h2, h3, h4⟩ := rest_some hm _ _ _ _ _ _ (.inr h)
   obtain ⟨e1, e2⟩ := ln_some hln
   obtain ⟨e3, e4⟩ := (headG_iff _ _).1 hn
   rw [List.nil_append] at h1
   subst h1
   refine ⟨by rw [e1, e4, h2, ← h3]; unfold textV; simp, ?_, by omega⟩
   rcases h4 with h4 | h4
   ·rw [h4]; exact h0
   ·exact h4
theorem get_zero {s : Bs} {x : List OpV} {k : Nat} (h : getV (readV may) ok s = (some x, k)) : k = 0 := by
 have key : ∀ (f want : Nat) (l : List OpV) (at_ : Nat) (s : Bs), restG (readV may) ok f want l at_ s = (some x, k) → k = 0 := by
  intro f
  induction f with
  | zero => intro want l at_ s h; unfold restG at h; cases h
  | succ f ih =>
   intro want l at_ s h
   unfold restG at h
   split at h
   ·split at h
    ·cases h; rfl
    ·cases h
   ·split at h
    ·cases h
    ·split at h
     ·cases h
     ·split at h
      ·exact ih _ _ _ _ h
      ·cases h
 unfold getV at h
 split at h
 ·cases h
 ·split at h
  ·cases h
  ·exact key _ _ _ _ _ h
theorem rest_le : ∀ (f want : Nat) (l : List OpV) (at_ : Nat) (s : Bs), (restG (readV may) ok f want l at_ s).2 ≤ at_ + s.length
 | 0, want, l, at_, s => by unfold restG; exact Nat.le_add_right _ _
 | f + 1, want, l, at_, s => by
  unfold restG
  split
  ·split
   ·exact Nat.zero_le _
   ·exact Nat.le_add_right _ _
  ·split
   ·exact Nat.le_add_right _ _
   ·rename_i a r hln
    obtain ⟨e1, _⟩ := ln_some hln
    have hlen : s.length = a.length + 1 + r.length := by rw [e1]; simp; omega
    split
    ·exact Nat.le_add_right _ _
    ·split
     ·have := rest_le f want (l ++ [by assumption]) (at_ + a.length + 1) r
      omega
     ·exact Nat.le_add_right _ _
theorem get_le (s : Bs) : (getV (readV may) ok s).2 ≤ s.length := by
 unfold getV
 split
 ·exact Nat.zero_le _
 ·rename_i a r hln
  obtain ⟨e1, _⟩ := ln_some hln
  have hlen : s.length = a.length + 1 + r.length := by rw [e1]; simp; omega
  split
  ·exact Nat.zero_le _
  ·have := rest_le (may := may) (ok := ok) (s.length + 1) (by assumption) [] (a.length + 1) r
   omega
end
end Go.Proofs.YtbphobmohdclaaaGreatDoor.Vcg
end
section
set_option linter.unusedVariables false
set_option maxRecDepth 100000
set_option linter.unusedSimpArgs false
namespace Go.Proofs.YtbphobmohdclaaaGreatDoor.Vcg
open Go.RowKit
open QuotePlain (Bs quoteL plainL blanks okw unq splitW numB valV most okTo isDig)
def powV : List Value := Lib.pow10Tab.map (Value.int .u64)
def GL : Globs := fun g => if g = 1 then some (hasV.map ofConst) else if g = 0 then some (namesL.map C.str) else if g = 2 then some (powV.map C.sc) else none
theorem GL_has : GL 1 = some [.sc (.bool false), .sc (.bool false), .sc (.bool false), .sc (.bool false), .sc (.bool false), .sc (.bool false), .sc (.bool false), .sc (.bool true), .sc (.bool false), .sc (.bool true), .sc (.bool true), .sc (.bool false), .sc (.bool false), .sc (.bool false), .sc (.bool true), .sc (.bool false), .sc (.bool true), .sc (.bool false), .sc (.bool false), .sc (.bool true), .sc (.bool false), .sc (.bool true), .sc (.bool false), .sc (.bool false), .sc (.bool false), .sc (.bool false), .sc (.bool false), .sc (.bool true), .sc (.bool false), .sc (.bool false), .sc (.bool true), .sc (.bool false), .sc (.bool false)] := rfl
theorem GL_names : GL 0 = some [.str [], .str [109, 107, 100, 105, 114], .str [99, 111, 112, 121], .str [119, 114, 105, 116, 101], .str [115, 121, 109], .str [108, 105, 110, 107], .str [109, 111, 118, 101], .str [115, 116, 97, 115, 104], .str [101, 114, 97, 115, 101], .str [114, 101, 116, 117, 114, 110], .str [114, 101, 115, 116, 111, 114, 101]] := rfl
attribute [push_cast] GL_has GL_names
theorem GL_pow : GL 2 = some (powV.map C.sc) := rfl
theorem GL_of1 (g : Nat) (cs : List C) (h : G1 g = some cs) : GL g = some cs := by
 unfold G1 at h
 split at h
 ·rename_i e; subst e; cases h; rfl
 ·cases h
theorem Fun.glob1 {f : FuncId} {args : List C} {r : C} {n : Nat} (h : Fun Tryz.prog G1 f args r n) : Fun Tryz.prog GL f args r n := h.glob GL_of1
theorem Fun.wrapG {P : Program} {G : Globs} {f : FuncId} {args : List C} {r : C} (he : entersB P f = true)
  (h : ∀ (R : Env) (vs : List Value), GlobOk G R → RepL R noLoc args vs → Calls P f vs.toArray R.w fun e w' => ∃ v, e = .returned v ∧ Below R.w.heap.size R.w w' ∧ ∀ R', Ext R R' → Rep R' noLoc r v) : Fun P G f args r 0 := by
 refine ⟨he, fun R vs hg ha => (h R vs hg ha).mono ?_⟩
 rintro e w' ⟨v, rfl, hb, hr⟩
 have st : PStep 0 0 R noLoc ⟨w', fun b o => b < R.w.heap.size ∧ R.M b o, R.F⟩ noLoc := PStep.mem (nx := 0) hb
 exact ⟨v, _, noLoc, rfl, rfl, st, hr _ st.ext⟩
theorem cells_sc {R : Env} {b : Nat} : ∀ (vs : List Value) (o : Nat), RepCells R (vs.map C.sc) b o → ∀ i, i < vs.length → R.w.cell? ⟨b, o + i, none⟩ = vs[i]?
 | [], o, h, i, hi => by simp at hi
 | v :: vs, o, h, i, hi => by
  rw [List.map_cons] at h
  unfold RepCells at h
  obtain ⟨⟨u, h1, _, h2, _⟩, h3⟩ := h
  rw [rep_sc] at h2
  subst h2
  cases i with
  | zero => simpa using h1
  | succ i =>
   have := cells_sc vs (o + 1) h3 i (by simpa using hi)
   rw [List.getElem?_cons_succ, ← this]
   congr 2; omega
theorem tab_glob {R : Env} (h : GlobOk GL R) : Lib.TabIs Tryz.prog R.w "internal/strconv.uint64pow10" .u64 Lib.pow10Tab := by
 obtain ⟨h1, ⟨us, ty, fl, h2, h3⟩, _⟩ := h _ _ GL_pow
 have hl : powV.length = 20 := by unfold powV; rw [List.length_map, Lib.pow10Tab_length]
 rw [List.length_map, hl] at h3
 unfold Lib.TabIs World.var?
 rw [show Program.globalNamed Tryz.prog "internal/strconv.uint64pow10" = some 2 by kernel_rfl]
 simp only [Option.bind_some, h2, Option.some.injEq]
 show us = powV.toArray
 apply Array.ext_getElem?
 intro i
 have ht : powV.toArray[i]? = powV[i]? := by simp
 rw [ht]
 by_cases hi : i < 20
 ·have := cells_sc powV 0 h1 i (by omega)
  rw [Nat.zero_add, cell_of_row R.w _ i us ty fl h2] at this
  exact this
 ·rw [Array.getElem?_eq_none (by omega), List.getElem?_eq_none (by omega)]
theorem itoa_fun (n : Nat) (hn : n ≤ 4000000000000000000) : Fun Tryz.prog GL 34 [.sc (.int .i64 n)] (.str (Lib.decDigits n)) 0 := by
 refine Fun.wrapG (by kernel_rfl) fun R vs hg h => ?_
 obtain ⟨v1, us1, rfl, h1, h⟩ := repL_cons.1 h
 rw [repL_nil] at h
 subst h
 rw [rep_sc] at h1
 subst h1
 refine (Tryz.strconv_Itoa n (by omega) (by omega) R.w (tab_glob hg)).mono ?_
 rintro e w' ⟨rfl, k, os, rfl⟩
 exact ⟨_, rfl, Lib.below_grow _ _ (Nat.le_refl _) k os, fun R' _ => rep_str.2 (by unfold Lib.itoa; rw [if_neg (by omega)]; rfl)⟩
end Go.Proofs.YtbphobmohdclaaaGreatDoor.Vcg
end
section
set_option linter.unusedVariables false
set_option maxRecDepth 100000
set_option linter.unusedSimpArgs false
namespace Go.Proofs.YtbphobmohdclaaaGreatDoor.Vcg
open Go.RowKit
open QuotePlain (Bs quoteL plainL blanks okw unq splitW numB valV most okTo isDig)
open Classical in
noncomputable def numV (s : Bs) : Nat := if okTo s s.length then valV s else 0
theorem ok_zero (s : Bs) : okTo s 0 := fun j hj => absurd hj (Nat.not_lt_zero j)
theorem ok_mono {s : Bs} {i k : Nat} (h : okTo s k) (hi : i ≤ k) : okTo s i := fun j hj => h j (by omega)
theorem val_at {s : Bs} {i : Nat} {b : UInt8} (h : s[i]? = some b) : valV (s.take (i + 1)) = 10 * valV (s.take i) + (b.toNat - 48) := by
 rw [List.take_add_one, h]; exact QuotePlain.val_snoc _ _
theorem dig_le {b : UInt8} (h : isDig b = true) : 48 ≤ b.toNat ∧ b.toNat ≤ 57 := by
 unfold QuotePlain.isDig at h
 simpa using h
theorem ok_bound {s : Bs} {i : Nat} (h : okTo s i) : valV (s.take i) ≤ 10737418249 := by
 cases i with
 | zero => rw [List.take_zero]; exact Nat.zero_le _
 | succ i =>
  obtain ⟨⟨b, h1, h2⟩, h3⟩ := h i (Nat.lt_succ_self i)
  have := dig_le h2
  rw [val_at h1]
  unfold QuotePlain.most at h3
  omega
theorem num_not {s : Bs} {i : Nat} (hi : i < s.length) (h : ¬ okTo s (i + 1)) : numV s = 0 ∧ numB s = false := by
 have h1 : ¬ okTo s s.length := fun h2 => h (ok_mono h2 hi)
 refine ⟨by unfold numV; rw [if_neg h1], ?_⟩
 rw [Bool.eq_false_iff]
 exact fun h2 => h1 (QuotePlain.num_ok h2).1
set_option maxHeartbeats 2000000 in
theorem number_fun (s : Bs) (hs : s.length ≤ 1000000) : Fun Tryz.prog GL 23 [.str s] (.tup [.sc (.int .i64 (numV s)), .sc (.bool (numB s))]) 0 := by
 refine Fun.of (fun _ => []) (by kernel_rfl) Tryz.func23 rfl rfl (Nat.le_of_ble_eq_true rfl) (by kernel_rfl) ?_; dsimp only [Tryz.f23, List.append_eq, List.cons_append, List.nil_append]
 simp -dsimp only [push_cast, seval]
 refine loop (fun i : Nat => ⟨[(0, .str s), (4, .sc (.int .i64 (valV (s.take i)))), (7, .sc (.int .i64 s.length)), (8, .sc (.int .i64 i))], [], 0, 0⟩) (fun i => i ≤ s.length ∧ okTo s i) (fun i => s.length - i) 0 ⟨Nat.zero_le _, ok_zero s⟩ ?_ ?_
 ·exact Weak.mk [] rfl rfl (Nat.zero_le _) rfl (by simp -dsimp only [WeakTm, WeakBx, CLe, CLeL, push_cast, seval, List.take_zero, show valV [] = 0 from rfl]) (by simp -dsimp only [WeakTm, WeakBx, CLe, CLeL, push_cast, seval])
 rintro i ⟨hi, hok⟩
 have hbd := ok_bound hok
 by_cases hlt : i < s.length
 ·have ge : s[i]? = some s[i] := List.getElem?_eq_getElem hlt
  by_cases h1 : (s[i].toNat : Int) < 48
  ·obtain ⟨e1, e2⟩ := num_not hlt fun h => by
    obtain ⟨⟨b, g1, g2⟩, _⟩ := h i (Nat.lt_succ_self i)
    rw [ge] at g1
    have := dig_le g2
    cases g1; omega
   simp -dsimp only [push_cast, seval, hlt, ge, h1]
   (try simp only [List.length_append, List.length_cons, List.length_nil, List.length_map, List.length_take, List.length_drop]); repeat (refine And.intro (by omega) ?_)
   exact ⟨[], rfl, rfl, by simp -dsimp only [WeakTm, WeakBx, CLe, CLeL, push_cast, seval, e1, e2]⟩
  by_cases h2 : 57 < (s[i].toNat : Int)
  ·obtain ⟨e1, e2⟩ := num_not hlt fun h => by
    obtain ⟨⟨b, g1, g2⟩, _⟩ := h i (Nat.lt_succ_self i)
    rw [ge] at g1
    have := dig_le g2
    cases g1; omega
   simp -dsimp only [push_cast, seval, hlt, ge, h1, h2]
   (try simp only [List.length_append, List.length_cons, List.length_nil, List.length_map, List.length_take, List.length_drop]); repeat (refine And.intro (by omega) ?_)
   exact ⟨[], rfl, rfl, by simp -dsimp only [WeakTm, WeakBx, CLe, CLeL, push_cast, seval, e1, e2]⟩
  by_cases h3 : 1073741824 < (valV (s.take i) : Int)
  ·obtain ⟨e1, e2⟩ := num_not hlt fun h => by
    have := (h i (Nat.lt_succ_self i)).2
    unfold QuotePlain.most at this
    omega
   simp -dsimp only [push_cast, seval, hlt, ge, h1, h2, h3]
   (try simp only [List.length_append, List.length_cons, List.length_nil, List.length_map, List.length_take, List.length_drop]); repeat (refine And.intro (by omega) ?_)
   exact ⟨[], rfl, rfl, by simp -dsimp only [WeakTm, WeakBx, CLe, CLeL, push_cast, seval, e1, e2]⟩
  have hdig : isDig s[i] = true := by unfold QuotePlain.isDig; simp; omega
  have hok' : okTo s (i + 1) := fun j hj => by
   rcases Nat.lt_or_ge j i with h | h
   ·exact hok j h
   ·have : j = i := by omega
    subst this
    exact ⟨⟨_, ge, hdig⟩, by unfold QuotePlain.most; omega⟩
  have hv := val_at ge
  have hsub : ((s[i].toNat - 48 : Nat) : Int) = (s[i].toNat : Int) - 48 := by omega
  simp -dsimp only [push_cast, seval, hlt, ge, h1, h2, h3]
  (try simp only [List.length_append, List.length_cons, List.length_nil, List.length_map, List.length_take, List.length_drop]); repeat (refine And.intro (by omega) ?_)
  exact ⟨i + 1, ⟨hlt, hok'⟩, by omega, Weak.mk [] rfl rfl (Nat.zero_le _) rfl (by simp -dsimp only [WeakTm, WeakBx, CLe, CLeL, push_cast, seval, hv, hsub]) (by simp -dsimp only [WeakTm, WeakBx, CLe, CLeL, push_cast, seval])⟩
 ·have hie : i = s.length := by omega
  subst hie
  rw [List.take_length] at hbd
  have hn : numV s = valV s := by unfold numV; rw [if_pos hok]
  have hit := itoa_fun (valV s) (by omega)
  by_cases h3 : (valV s : Int) ≤ 1073741824
  ·have hb : numB s = decide (Lib.decDigits (valV s) = s) := by
    unfold QuotePlain.numB QuotePlain.most
    rw [decide_eq_true (p := valV s ≤ 1073741824) (by omega), Bool.true_and]
   simp -dsimp only [push_cast, seval, hlt, List.take_length, h3]
   (first | refine call (hit) ?_ | refine callP (hit) ?_); simp -dsimp only [push_cast, seval]
   exact ⟨[], rfl, rfl, by simp -dsimp only [WeakTm, WeakBx, CLe, CLeL, push_cast, seval, hn, hb]⟩
  ·have hb : numB s = false := by
    unfold QuotePlain.numB QuotePlain.most
    rw [decide_eq_false (p := valV s ≤ 1073741824) (by omega), Bool.false_and]
   simp -dsimp only [push_cast, seval, hlt, List.take_length, h3]
   exact ⟨[], rfl, rfl, by simp -dsimp only [WeakTm, WeakBx, CLe, CLeL, push_cast, seval, hn, hb]⟩
end Go.Proofs.YtbphobmohdclaaaGreatDoor.Vcg
end
section
set_option linter.unusedVariables false
set_option maxRecDepth 100000
set_option linter.unusedSimpArgs false
namespace Go.Proofs.YtbphobmohdclaaaGreatDoor.Vcg
open Go.RowKit
open QuotePlain (Bs quoteL plainL blanks okw unq splitW numB valV most okTo isDig)
end Go.Proofs.YtbphobmohdclaaaGreatDoor.Vcg
end
section
set_option linter.unusedVariables false
set_option linter.unusedSimpArgs false
namespace Go.Proofs.YtbphobmohdclaaaGreatDoor.Vcg
open Go.RowKit
def opL (o : OpV) : List C := [.sc (.int .i64 o.kind), .sc (.int .i64 o.slot), .str o.a, .str o.b, .str o.d]
def mayB (o : OpV) : Bool := decide (1 ≤ o.kind) && decide (o.kind ≤ 10) && placeB o.a && (if slotted o.kind then decide (1 ≤ o.slot) && decide (o.slot ≤ 1073741824) else decide (o.slot = 0)) && (if hasB o.kind then placeB o.b else decide (o.b = []))
 && (if o.kind = 4 then targetB o.d else decide (o.d = [])) && (!decide (o.kind = 6) || (!underP o.a o.b && !underP o.b o.a))
def short (o : OpV) : Prop := o.a.length ≤ 100000 ∧ o.b.length ≤ 100000 ∧ o.d.length ≤ 100000
set_option maxRecDepth 100000 in
set_option maxHeartbeats 2000000 in
theorem opMay_fun (k s : Int) (a b d : List UInt8) (hs : short ⟨k, s, a, b, d⟩) : Fun Tryz.prog G1 25 [.agg (opL ⟨k, s, a, b, d⟩)] (boolC (mayB ⟨k, s, a, b, d⟩)) 0 := by
 have hs1 : a.length ≤ 100000 := hs.1
 have hs2 : b.length ≤ 100000 := hs.2.1
 have hs3 : d.length ≤ 100000 := hs.2.2
 have h1 := (place_fun a (by omega)).glob0 (G' := G1)
 have h2 := (place_fun b (by omega)).glob0 (G' := G1)
 have h3 := (target_fun d (by omega)).glob0 (G' := G1)
 have h4 := (underP_fun a b (by omega)).glob0 (G' := G1)
 have h5 := (underP_fun b a (by omega)).glob0 (G' := G1)
 unfold opL
 by_cases hk1 : k < 1
 ·have : ¬ 1 ≤ k := by omega
  refine Fun.of (fun _ => []) (by kernel_rfl) Tryz.func25 rfl rfl (Nat.le_of_ble_eq_true rfl) (by kernel_rfl) ?_; dsimp only [Tryz.f25, List.append_eq, List.cons_append, List.nil_append]
  simp -dsimp only [push_cast, seval, hk1]
  exact ⟨[], rfl, rfl, by simp -dsimp only [WeakTm, WeakBx, CLe, CLeL, push_cast, seval]; simp [mayB, this]⟩
 by_cases hk2 : 10 < k
 ·have : ¬ k ≤ 10 := by omega
  refine Fun.of (fun _ => []) (by kernel_rfl) Tryz.func25 rfl rfl (Nat.le_of_ble_eq_true rfl) (by kernel_rfl) ?_; dsimp only [Tryz.f25, List.append_eq, List.cons_append, List.nil_append]
  simp -dsimp only [push_cast, seval, hk1, hk2]
  exact ⟨[], rfl, rfl, by simp -dsimp only [WeakTm, WeakBx, CLe, CLeL, push_cast, seval]; simp [mayB, this]⟩
 cases hp : placeB a with
 | false =>
  rw [hp] at h1
  refine Fun.of (fun _ => []) (by kernel_rfl) Tryz.func25 rfl rfl (Nat.le_of_ble_eq_true rfl) (by kernel_rfl) ?_; dsimp only [Tryz.f25, List.append_eq, List.cons_append, List.nil_append]
  simp -dsimp only [push_cast, seval, hk1, hk2]
  (first | refine call (h1) ?_ | refine callP (h1) ?_); simp -dsimp only [push_cast, seval]
  exact ⟨[], rfl, rfl, by simp -dsimp only [WeakTm, WeakBx, CLe, CLeL, push_cast, seval]; simp [mayB, hp]⟩
 | true =>
  rw [hp] at h1
  have hk : k = 1 ∨ k = 2 ∨ k = 3 ∨ k = 4 ∨ k = 5 ∨ k = 6 ∨ k = 7 ∨ k = 8 ∨ k = 9 ∨ k = 10 := by omega
  clear hk1 hk2 hs hs1 hs2 hs3
  rcases hk with rfl | rfl | rfl | rfl | rfl | rfl | rfl | rfl | rfl | rfl
  all_goals
   refine Fun.of (fun _ => []) (by kernel_rfl) Tryz.func25 rfl rfl (Nat.le_of_ble_eq_true rfl) (by kernel_rfl) ?_; dsimp only [Tryz.f25, List.append_eq, List.cons_append, List.nil_append]
   simp -dsimp only [push_cast, seval]
   (first | refine call (h1) ?_ | refine callP (h1) ?_); simp -dsimp only [push_cast, seval]
   repeat' (first
    | (refine call h2 ?_; simp -dsimp only [push_cast, seval])
    | (refine callP h2 ?_; simp -dsimp only [push_cast, seval])
    | (refine call h3 ?_; simp -dsimp only [push_cast, seval])
    | (refine callP h3 ?_; simp -dsimp only [push_cast, seval])
    | (refine call h4 ?_; simp -dsimp only [push_cast, seval])
    | (refine callP h4 ?_; simp -dsimp only [push_cast, seval])
    | (refine call h5 ?_; simp -dsimp only [push_cast, seval])
    | (refine callP h5 ?_; simp -dsimp only [push_cast, seval])
    | (refine br (fun h => ?_) (fun h => ?_) <;> simp -dsimp only [push_cast, seval, h])
    | (refine ⟨[], rfl, rfl, ?_⟩; simp -dsimp only [WeakTm, WeakBx, CLe, CLeL, push_cast, seval]; clear h1 h2 h3 h4 h5; simp_all [mayB, slotted, hasB] <;> omega))
end Go.Proofs.YtbphobmohdclaaaGreatDoor.Vcg
end
section
set_option linter.unusedVariables false
set_option linter.unusedSimpArgs false
namespace Go.Proofs.YtbphobmohdclaaaGreatDoor.Vcg
open Go.RowKit
def intC (n : Int) : List C := [.sc (.int .i64 n)]
abbrev ints (l : List Int) : List (List C) := l.map intC
theorem ints_length (l : List Int) : (ints l).length = l.length := List.length_map _
theorem ints_snoc (l : List Int) (n : Int) : ints l ++ [[.sc (.int .i64 n)]] = ints (l ++ [n]) := by simp [intC]
theorem ints_at (l : List Int) (k : Nat) (h : k < l.length) : (ints l)[k]? = some [.sc (.int .i64 (l[k]'h))] := by rw [List.getElem?_map, List.getElem?_eq_getElem h]; rfl
attribute [push_cast] ints_length ints_snoc
abbrev opsC (l : List OpV) : List (List C) := l.map opL
theorem opsC_length (l : List OpV) : (opsC l).length = l.length := List.length_map _
theorem opsC_at (l : List OpV) (k : Nat) (h : k < l.length) : (opsC l)[k]? = some (opL (l[k]'h)) := by rw [List.getElem?_map, List.getElem?_eq_getElem h]; rfl
theorem opsC_take (l : List OpV) (k : Nat) : (opsC l).take k = opsC (l.take k) := List.map_take.symm
theorem opsC_drop (l : List OpV) (k : Nat) : (opsC l).drop k = opsC (l.drop k) := List.map_drop.symm
attribute [push_cast] opsC_length opsC_take opsC_drop
def cmpI (a b : Int) : Int := if a < b then -1 else if b < a then 1 else 0
theorem isNaN_fun (a : Int) : Fun Tryz.prog G0 98 [.sc (.int .i64 a)] (boolC false) 0 := by
 refine Fun.of (fun _ => []) (by kernel_rfl) Tryz.func98 rfl rfl (Nat.le_of_ble_eq_true rfl) (by kernel_rfl) ?_; dsimp only [Tryz.f98, List.append_eq, List.cons_append, List.nil_append]
 simp -dsimp only [push_cast, seval]
 exact ⟨[], rfl, rfl, by simp -dsimp only [WeakTm, WeakBx, CLe, CLeL, push_cast, seval] <;> simp⟩
theorem compare_fun (a b : Int) : Fun Tryz.prog G0 78 [.sc (.int .i64 a), .sc (.int .i64 b)] (.sc (.int .i64 (cmpI a b))) 0 := by
 by_cases h1 : a < b
 ·refine Fun.of (fun _ => []) (by kernel_rfl) Tryz.func78 rfl rfl (Nat.le_of_ble_eq_true rfl) (by kernel_rfl) ?_; dsimp only [Tryz.f78, List.append_eq, List.cons_append, List.nil_append]
  simp -dsimp only [push_cast, seval]
  (first | refine call (isNaN_fun a) ?_ | refine callP (isNaN_fun a) ?_); simp -dsimp only [push_cast, seval]
  (first | refine call (isNaN_fun b) ?_ | refine callP (isNaN_fun b) ?_); simp -dsimp only [push_cast, seval, h1]
  exact ⟨[], rfl, rfl, by simp -dsimp only [WeakTm, WeakBx, CLe, CLeL, push_cast, seval] <;> simp [cmpI, h1]⟩
 ·by_cases h2 : b < a
  ·refine Fun.of (fun _ => []) (by kernel_rfl) Tryz.func78 rfl rfl (Nat.le_of_ble_eq_true rfl) (by kernel_rfl) ?_; dsimp only [Tryz.f78, List.append_eq, List.cons_append, List.nil_append]
   simp -dsimp only [push_cast, seval]
   (first | refine call (isNaN_fun a) ?_ | refine callP (isNaN_fun a) ?_); simp -dsimp only [push_cast, seval]
   (first | refine call (isNaN_fun b) ?_ | refine callP (isNaN_fun b) ?_); simp -dsimp only [push_cast, seval, h1, h2]
   exact ⟨[], rfl, rfl, by simp -dsimp only [WeakTm, WeakBx, CLe, CLeL, push_cast, seval] <;> simp [cmpI, h1, h2]⟩
  ·refine Fun.of (fun _ => []) (by kernel_rfl) Tryz.func78 rfl rfl (Nat.le_of_ble_eq_true rfl) (by kernel_rfl) ?_; dsimp only [Tryz.f78, List.append_eq, List.cons_append, List.nil_append]
   simp -dsimp only [push_cast, seval]
   (first | refine call (isNaN_fun a) ?_ | refine callP (isNaN_fun a) ?_); simp -dsimp only [push_cast, seval]
   (first | refine call (isNaN_fun b) ?_ | refine callP (isNaN_fun b) ?_); simp -dsimp only [push_cast, seval, h1, h2]
   exact ⟨[], rfl, rfl, by simp -dsimp only [WeakTm, WeakBx, CLe, CLeL, push_cast, seval] <;> simp [cmpI, h1, h2]⟩
def runB (w : Int) : List Int → Bool
 | a :: b :: r => decide (cmpI b a = w) && runB w (b :: r)
 | _ => true
theorem runB_iff (w : Int) : ∀ l : List Int, runB w l = true ↔ ∀ (j : Nat) (h : j + 1 < l.length), cmpI (l[j + 1]'h) (l[j]'(by omega)) = w
 | [] => by simp [runB]
 | [a] => by simp [runB]
 | a :: b :: r => by
  have ih := runB_iff w (b :: r)
  simp only [runB, Bool.and_eq_true, decide_eq_true_eq, ih]
  constructor
  ·rintro ⟨h1, h2⟩ j h
   cases j with
   | zero => exact h1
   | succ j => exact h2 j (by simpa using h)
  ·exact fun h => ⟨h 0 (by simp), fun j hj => h (j + 1) (by simpa using hj)⟩
set_option maxRecDepth 100000 in
set_option maxHeartbeats 1000000 in
theorem run_fun (l : List Int) (w : Int) (hl : l.length ≤ 1000000) : Fun Tryz.prog G0 63 [.sl 1 (ints l), .sc (.int .i64 w)] (boolC (runB w l)) 0 := by
 refine Fun.of (fun _ => []) (by kernel_rfl) Tryz.func63 rfl rfl (Nat.le_of_ble_eq_true rfl) (by kernel_rfl) ?_; dsimp only [Tryz.f63, List.append_eq, List.cons_append, List.nil_append]
 simp -dsimp only [push_cast, seval]
 refine loop (fun k : Nat => ⟨[(0, .sl 1 (ints l)), (1, .sc (.int .i64 w)), (5, .sc (.int .i64 ((k : Int) + 1)))], [], 0, 0⟩) (fun k => (k = 0 ∨ k + 1 ≤ l.length) ∧ ∀ (j : Nat) (h : j + 1 < l.length), j < k → cmpI (l[j + 1]'h) (l[j]'(by omega)) = w) (fun k => l.length - k) 0 ⟨.inl rfl, fun j h hj => by omega⟩ ?_ ?_
 ·exact Weak.mk [] rfl rfl (Nat.zero_le _) rfl (by simp -dsimp only [WeakTm, WeakBx, CLe, CLeL, push_cast, seval]) (by simp -dsimp only [WeakTm, WeakBx, CLe, CLeL, push_cast, seval])
 ·intro k hk
  have hk1 := hk.1
  have hk2 := hk.2
  by_cases h : k + 1 < l.length
  ·have h' : (k : Int) + 1 < (l.length : Int) := by omega
   have g1 := ints_at l (k + 1) h
   have g2 := ints_at l k (by omega)
   have i1 : ((k : Int) + 1).toNat = k + 1 := by omega
   have i2 : ((k : Int) + 1 - 1).toNat = k := by omega
   by_cases he : cmpI (l[k + 1]'h) (l[k]'(by omega)) = w
   ·simp -dsimp only [push_cast, seval, h', g1, g2, i1, i2]
    (try simp only [List.length_append, List.length_cons, List.length_nil, List.length_map, List.length_take, List.length_drop]); repeat (refine And.intro (by omega) ?_)
    (first | refine call (compare_fun (l[k + 1]'h) (l[k]'(by omega))) ?_ | refine callP (compare_fun (l[k + 1]'h) (l[k]'(by omega))) ?_); simp -dsimp only [push_cast, seval, he]
    (try simp only [List.length_append, List.length_cons, List.length_nil, List.length_map, List.length_take, List.length_drop]); repeat (refine And.intro (by omega) ?_)
    refine ⟨k + 1, ⟨.inr (by omega), fun j hj hjk => ?_⟩, by omega, Weak.mk [] rfl rfl (Nat.zero_le _) rfl (by simp -dsimp only [WeakTm, WeakBx, CLe, CLeL, push_cast, seval] <;> omega) (by simp -dsimp only [WeakTm, WeakBx, CLe, CLeL, push_cast, seval])⟩
    rcases Nat.lt_or_ge j k with q | q
    ·exact hk2 j hj q
    ·have : j = k := by omega
     subst this; exact he
   ·simp -dsimp only [push_cast, seval, h', g1, g2, i1, i2]
    (try simp only [List.length_append, List.length_cons, List.length_nil, List.length_map, List.length_take, List.length_drop]); repeat (refine And.intro (by omega) ?_)
    (first | refine call (compare_fun (l[k + 1]'h) (l[k]'(by omega))) ?_ | refine callP (compare_fun (l[k + 1]'h) (l[k]'(by omega))) ?_); simp -dsimp only [push_cast, seval, he]
    refine ⟨[], rfl, rfl, ?_⟩
    simp -dsimp only [WeakTm, WeakBx, CLe, CLeL, push_cast, seval]
    have : ¬ runB w l = true := fun e => he ((runB_iff w l).1 e k h)
    simp [this]
  ·have h' : ¬ (k : Int) + 1 < (l.length : Int) := by omega
   simp -dsimp only [push_cast, seval, h']
   refine ⟨[], rfl, rfl, ?_⟩
   simp -dsimp only [WeakTm, WeakBx, CLe, CLeL, push_cast, seval]
   have : runB w l = true := (runB_iff w l).2 fun j hj => hk2 j hj (by omega)
   simp [this]
end Go.Proofs.YtbphobmohdclaaaGreatDoor.Vcg
end
section
set_option linter.unusedVariables false
set_option linter.unusedSimpArgs false
namespace Go.Proofs.YtbphobmohdclaaaGreatDoor.Vcg
open Go.RowKit
def slotsV (l : List OpV) : List Int := (l.filter fun o => slotted o.kind).map (·.slot)
theorem slotsV_take (l : List OpV) (k : Nat) (h : k < l.length) : slotsV (l.take (k + 1)) = if slotted (l[k]'h).kind then slotsV (l.take k) ++ [(l[k]'h).slot] else slotsV (l.take k) := by
 unfold slotsV
 rw [List.take_add_one, List.getElem?_eq_getElem h, List.filter_append]
 cases hf : slotted (l[k]'h).kind <;> simp [hf]
theorem slotsV_len (l : List OpV) (k : Nat) : (slotsV (l.take k)).length ≤ k := by
 unfold slotsV
 rw [List.length_map]
 have := List.length_filter_le (fun o : OpV => slotted o.kind) (l.take k)
 have : (l.take k).length ≤ k := by rw [List.length_take]; omega
 omega
set_option maxRecDepth 100000 in
set_option maxHeartbeats 2000000 in
theorem slots_fun (l : List OpV) (hl : l.length ≤ 100000) : Fun Tryz.prog G1 33 [.sl 5 (opsC l)] (.own 0 3 1 (ints (slotsV l))) 1 := by
 refine Fun.of (fun _ => []) (by kernel_rfl) Tryz.func33 rfl rfl (Nat.le_of_ble_eq_true rfl) (by kernel_rfl) ?_; dsimp only [Tryz.f33, List.append_eq, List.cons_append, List.nil_append]
 simp -dsimp only [push_cast, seval]
 refine loop (fun k : Nat => ⟨[(0, .sl 5 (opsC l)), (3, .own 0 3 1 (ints (slotsV (l.take k)))), (6, .sl 5 (opsC l)), (7, .sc (.int .i64 (l.length : Int))), (8, .sc (.int .i64 k))], [], 1, 0⟩) (fun k => k ≤ l.length) (fun k => l.length - k) 0 (Nat.zero_le _) ?_ ?_
 ·exact Weak.mk [.inr (3, 1)] rfl rfl (Nat.zero_le _) rfl (by simp -dsimp only [WeakTm, WeakBx, CLe, CLeL, push_cast, seval] <;> simp [slotsV]) (by simp -dsimp only [WeakTm, WeakBx, CLe, CLeL, push_cast, seval])
 ·intro k hk
  by_cases h : k < l.length
  ·have hg := opsC_at l k h
   have hst := slotsV_take l k h
   have hsl := slotsV_len l k
   cases ho : l[k]'h with
   | mk kd s a b d =>
    rw [ho] at hg hst
    simp only [opL] at hg
    simp only at hst
    have hnext : ∀ b, slotted kd = b → (if slotted kd = true then slotsV (l.take k) ++ [s] else slotsV (l.take k)) = (if b = true then slotsV (l.take k) ++ [s] else slotsV (l.take k)) := fun b hb => by rw [hb]
    by_cases h0 : 0 ≤ kd
    ·by_cases h1 : kd ≤ 10
     ·have hc : kd = 0 ∨ kd = 1 ∨ kd = 2 ∨ kd = 3 ∨ kd = 4 ∨ kd = 5 ∨ kd = 6 ∨ kd = 7 ∨ kd = 8 ∨ kd = 9 ∨ kd = 10 := by omega
      clear h0 h1
      rcases hc with rfl | rfl | rfl | rfl | rfl | rfl | rfl | rfl | rfl | rfl | rfl
      all_goals
       simp only [slotted] at hst
       simp at hst
       simp -dsimp only [push_cast, seval, h, hg]
       (try simp only [List.length_append, List.length_cons, List.length_nil, List.length_map, List.length_take, List.length_drop]); repeat (refine And.intro (by omega) ?_)
       refine ⟨k + 1, by omega, by omega, Weak.mk [.inl 0] rfl rfl (Nat.zero_le _) rfl (by simp -dsimp only [WeakTm, WeakBx, CLe, CLeL, push_cast, seval, hst]) (by simp -dsimp only [WeakTm, WeakBx, CLe, CLeL, push_cast, seval])⟩
     ·have hs : slotted kd = false := by
       have h3 : ¬ kd = 3 := by omega
       have h7 : ¬ kd = 7 := by omega
       have h9 : ¬ kd = 9 := by omega
       have h10 : ¬ kd = 10 := by omega
       simp [slotted, h3, h7, h9, h10]
      rw [hs, if_neg (by simp)] at hst
      simp -dsimp only [push_cast, seval, h, hg, h0, h1]
      (try simp only [List.length_append, List.length_cons, List.length_nil, List.length_map, List.length_take, List.length_drop]); repeat (refine And.intro (by omega) ?_)
      refine ⟨k + 1, by omega, by omega, Weak.mk [.inl 0] rfl rfl (Nat.zero_le _) rfl (by simp -dsimp only [WeakTm, WeakBx, CLe, CLeL, push_cast, seval, hst]) (by simp -dsimp only [WeakTm, WeakBx, CLe, CLeL, push_cast, seval])⟩
    ·have hs : slotted kd = false := by
      have h3 : ¬ kd = 3 := by omega
      have h7 : ¬ kd = 7 := by omega
      have h9 : ¬ kd = 9 := by omega
      have h10 : ¬ kd = 10 := by omega
      simp [slotted, h3, h7, h9, h10]
     rw [hs, if_neg (by simp)] at hst
     simp -dsimp only [push_cast, seval, h, hg, h0]
     (try simp only [List.length_append, List.length_cons, List.length_nil, List.length_map, List.length_take, List.length_drop]); repeat (refine And.intro (by omega) ?_)
     refine ⟨k + 1, by omega, by omega, Weak.mk [.inl 0] rfl rfl (Nat.zero_le _) rfl (by simp -dsimp only [WeakTm, WeakBx, CLe, CLeL, push_cast, seval, hst]) (by simp -dsimp only [WeakTm, WeakBx, CLe, CLeL, push_cast, seval])⟩
  ·obtain rfl : k = l.length := by omega
   rw [List.take_length]
   simp -dsimp only [push_cast, seval, h]
   exact ⟨[.inl 0], rfl, rfl, by simp -dsimp only [WeakTm, WeakBx, CLe, CLeL, push_cast, seval]⟩
end Go.Proofs.YtbphobmohdclaaaGreatDoor.Vcg
end
section
set_option linter.unusedVariables false
set_option linter.unusedSimpArgs false
namespace Go.Proofs.YtbphobmohdclaaaGreatDoor.Vcg
open Go.RowKit
def planBad (o : OpV) : Bool := !mayB o || decide (7 < o.kind)
def undoBad (o : OpV) : Bool := !mayB o || (decide (o.kind < 8) && !decide (o.kind = 6))
set_option maxRecDepth 100000 in
set_option maxHeartbeats 1000000 in
theorem planBad_fun (o : OpV) (hs : short o) : Fun Tryz.prog G1 62 [.agg (opL o)] (boolC (planBad o)) 0 := by
 have h1 := opMay_fun o.kind o.slot o.a o.b o.d hs
 obtain ⟨k, s, a, b, d⟩ := o
 simp only [opL] at h1 ⊢
 cases hm : mayB ⟨k, s, a, b, d⟩ with
 | true =>
  rw [hm] at h1
  refine Fun.of (fun _ => []) (by kernel_rfl) Tryz.func62 rfl rfl (Nat.le_of_ble_eq_true rfl) (by kernel_rfl) ?_; dsimp only [Tryz.f62, List.append_eq, List.cons_append, List.nil_append]
  simp -dsimp only [push_cast, seval]
  (first | refine call (h1) ?_ | refine callP (h1) ?_); simp -dsimp only [push_cast, seval]
  exact ⟨[], rfl, rfl, by simp -dsimp only [WeakTm, WeakBx, CLe, CLeL, push_cast, seval]; simp [planBad, hm]⟩
 | false =>
  rw [hm] at h1
  refine Fun.of (fun _ => []) (by kernel_rfl) Tryz.func62 rfl rfl (Nat.le_of_ble_eq_true rfl) (by kernel_rfl) ?_; dsimp only [Tryz.f62, List.append_eq, List.cons_append, List.nil_append]
  simp -dsimp only [push_cast, seval]
  (first | refine call (h1) ?_ | refine callP (h1) ?_); simp -dsimp only [push_cast, seval]
  exact ⟨[], rfl, rfl, by simp -dsimp only [WeakTm, WeakBx, CLe, CLeL, push_cast, seval]; simp [planBad, hm]⟩
set_option maxRecDepth 100000 in
set_option maxHeartbeats 1000000 in
theorem undoBad_fun (o : OpV) (hs : short o) : Fun Tryz.prog G1 64 [.agg (opL o)] (boolC (undoBad o)) 0 := by
 have h1 := opMay_fun o.kind o.slot o.a o.b o.d hs
 obtain ⟨k, s, a, b, d⟩ := o
 simp only [opL] at h1 ⊢
 cases hm : mayB ⟨k, s, a, b, d⟩ with
 | true =>
  rw [hm] at h1
  by_cases hk : k < 8
  ·refine Fun.of (fun _ => []) (by kernel_rfl) Tryz.func64 rfl rfl (Nat.le_of_ble_eq_true rfl) (by kernel_rfl) ?_; dsimp only [Tryz.f64, List.append_eq, List.cons_append, List.nil_append]
   simp -dsimp only [push_cast, seval]
   (first | refine call (h1) ?_ | refine callP (h1) ?_); simp -dsimp only [push_cast, seval, hk]
   exact ⟨[], rfl, rfl, by simp -dsimp only [WeakTm, WeakBx, CLe, CLeL, push_cast, seval]; simp [undoBad, hm, hk]⟩
  ·refine Fun.of (fun _ => []) (by kernel_rfl) Tryz.func64 rfl rfl (Nat.le_of_ble_eq_true rfl) (by kernel_rfl) ?_; dsimp only [Tryz.f64, List.append_eq, List.cons_append, List.nil_append]
   simp -dsimp only [push_cast, seval]
   (first | refine call (h1) ?_ | refine callP (h1) ?_); simp -dsimp only [push_cast, seval, hk]
   exact ⟨[], rfl, rfl, by simp -dsimp only [WeakTm, WeakBx, CLe, CLeL, push_cast, seval]; simp [undoBad, hm, hk]⟩
 | false =>
  rw [hm] at h1
  refine Fun.of (fun _ => []) (by kernel_rfl) Tryz.func64 rfl rfl (Nat.le_of_ble_eq_true rfl) (by kernel_rfl) ?_; dsimp only [Tryz.f64, List.append_eq, List.cons_append, List.nil_append]
  simp -dsimp only [push_cast, seval]
  (first | refine call (h1) ?_ | refine callP (h1) ?_); simp -dsimp only [push_cast, seval]
  exact ⟨[], rfl, rfl, by simp -dsimp only [WeakTm, WeakBx, CLe, CLeL, push_cast, seval]; simp [undoBad, hm]⟩
def ixOp (bad : OpV → Bool) (xs : List OpV) : Int := match xs.findIdx? bad with | some i => (i : Int) | none => -1
theorem ixOp_ge (bad : OpV → Bool) (xs : List OpV) : decide (0 ≤ ixOp bad xs) = xs.any bad := by
 unfold ixOp
 cases h : xs.findIdx? bad with
 | none =>
  have := List.findIdx?_eq_none_iff.1 h
  have h2 : xs.any bad = false := List.any_eq_false.2 fun x hx => by simpa using this x hx
  rw [h2]; rfl
 | some i =>
  have h1 := List.findIdx?_eq_some_iff_getElem.1 h
  obtain ⟨hi, hp, _⟩ := h1
  have h2 : xs.any bad = true := List.any_eq_true.2 ⟨xs[i], List.getElem_mem hi, hp⟩
  rw [h2]; simp
def shortL (l : List OpV) : Prop := ∀ o ∈ l, short o
set_option maxRecDepth 100000 in
set_option maxHeartbeats 1000000 in
theorem indexOp_fun (bad : OpV → Bool) (f : FuncId) (hb : ∀ o, short o → Fun Tryz.prog G1 f [.agg (opL o)] (boolC (bad o)) 0) (xs : List OpV) (hx : xs.length ≤ 1000001) (hl : shortL xs) : Fun Tryz.prog G1 77 [.sl 5 (opsC xs), .clo (.func f) [] []] (.sc (.int .i64 (ixOp bad xs))) 0 := by
 refine Fun.of (fun _ => []) (by kernel_rfl) Tryz.func77 rfl rfl (Nat.le_of_ble_eq_true rfl) (by kernel_rfl) ?_; dsimp only [Tryz.f77, List.append_eq, List.cons_append, List.nil_append]
 simp -dsimp only [push_cast, seval]
 refine loop (fun k : Nat => ⟨[(0, .sl 5 (opsC xs)), (1, .clo (.func f) [] []), (7, .sc (.int .i64 (xs.length : Int))), (8, .sc (.int .i64 k))], [], 0, 0⟩) (fun k => k ≤ xs.length ∧ ∀ j (hj : j < xs.length), j < k → bad (xs[j]'hj) = false) (fun k => xs.length - k) 0 ⟨Nat.zero_le _, fun j _ hj => by omega⟩ ?_ ?_
 ·exact Weak.mk [] rfl rfl (Nat.le_refl _) rfl (by simp -dsimp only [WeakTm, WeakBx, CLe, CLeL, push_cast, seval]) (by simp -dsimp only [WeakTm, WeakBx, CLe, CLeL, push_cast, seval])
 ·intro k hk
  have hk1 := hk.1
  have hk2 := hk.2
  by_cases h : k < xs.length
  ·have hg := opsC_at xs k h
   have hbk := hb (xs[k]'h) (hl _ (List.getElem_mem h))
   generalize hr : opL (xs[k]'h) = row at hg hbk
   have hrow : ∃ a b c d e, row = [.sc (.int .i64 a), .sc (.int .i64 b), .str c, .str d, .str e] := ⟨_, _, _, _, _, hr.symm⟩
   obtain ⟨a, b, c, d, e, rfl⟩ := hrow
   cases hm : bad (xs[k]'h) with
   | false =>
    rw [hm] at hbk
    simp -dsimp only [push_cast, seval, h, hg]
    refine ⟨by omega, ?_⟩
    (first | refine call (hbk) ?_ | refine callP (hbk) ?_); simp -dsimp only [push_cast, seval]
    refine ⟨by omega, k + 1, ⟨by omega, fun j hj hjk => ?_⟩, by omega, Weak.mk [] rfl rfl (Nat.le_refl _) rfl (by simp -dsimp only [WeakTm, WeakBx, CLe, CLeL, push_cast, seval]) (by simp -dsimp only [WeakTm, WeakBx, CLe, CLeL, push_cast, seval])⟩
    rcases Nat.lt_or_ge j k with g | g
    ·exact hk2 j hj g
    ·have : j = k := by omega
     subst this; exact hm
   | true =>
    rw [hm] at hbk
    simp -dsimp only [push_cast, seval, h, hg]
    refine ⟨by omega, ?_⟩
    (first | refine call (hbk) ?_ | refine callP (hbk) ?_); simp -dsimp only [push_cast, seval]
    refine ⟨[], rfl, rfl, ?_⟩
    simp -dsimp only [WeakTm, WeakBx, CLe, CLeL, push_cast, seval]
    have : xs.findIdx? bad = some k := List.findIdx?_eq_some_iff_getElem.2 ⟨h, hm, fun j hj => by simp [hk2 j (by omega) hj]⟩
    simp [ixOp, this]
  ·simp -dsimp only [push_cast, seval, h]
   refine ⟨[], rfl, rfl, ?_⟩
   simp -dsimp only [WeakTm, WeakBx, CLe, CLeL, push_cast, seval]
   have : xs.findIdx? bad = none := List.findIdx?_eq_none_iff.2 fun x hx => by
    obtain ⟨j, hj, rfl⟩ := List.getElem_of_mem hx
    simp [hk2 j hj (by omega)]
   simp [ixOp, this]
theorem containsOp_fun (bad : OpV → Bool) (f : FuncId) (hb : ∀ o, short o → Fun Tryz.prog G1 f [.agg (opL o)] (boolC (bad o)) 0) (xs : List OpV) (hx : xs.length ≤ 1000001) (hl : shortL xs) : Fun Tryz.prog G1 61 [.sl 5 (opsC xs), .clo (.func f) [] []] (boolC (xs.any bad)) 0 := by
 have h := ixOp_ge bad xs
 refine Fun.of (fun _ => []) (by kernel_rfl) Tryz.func61 rfl rfl (Nat.le_of_ble_eq_true rfl) (by kernel_rfl) ?_; dsimp only [Tryz.f61, List.append_eq, List.cons_append, List.nil_append]
 simp -dsimp only [push_cast, seval]
 (first | refine call (indexOp_fun bad f hb xs hx hl) ?_ | refine callP (indexOp_fun bad f hb xs hx hl) ?_); simp -dsimp only [push_cast, seval]
 exact ⟨[], rfl, rfl, by simp -dsimp only [WeakTm, WeakBx, CLe, CLeL, push_cast, seval, h]⟩
def planB (l : List OpV) : Bool := !l.any planBad && runB 1 (slotsV l)
def undoB (l : List OpV) : Bool := !l.any undoBad && runB (-1) (slotsV l)
theorem slotsV_le (l : List OpV) : (slotsV l).length ≤ l.length := by
 have := slotsV_len l l.length
 rw [List.take_length] at this
 exact this
set_option maxRecDepth 100000 in
set_option maxHeartbeats 1000000 in
theorem plan19_fun (l : List OpV) (hx : l.length ≤ 100000) (hl : shortL l) : Fun Tryz.prog G1 39 [.sl 5 (opsC l)] (boolC (planB l)) 0 := by
 have h1 := containsOp_fun planBad 62 planBad_fun l (by omega) hl
 have h2 := slots_fun l hx
 have h3 := (run_fun (slotsV l) 1 (by have := slotsV_le l; omega)).glob0 (G' := G1)
 cases hb : l.any planBad with
 | true =>
  rw [hb] at h1
  refine Fun.of (fun _ => []) (by kernel_rfl) Tryz.func39 rfl rfl (Nat.le_of_ble_eq_true rfl) (by kernel_rfl) ?_; dsimp only [Tryz.f39, List.append_eq, List.cons_append, List.nil_append]
  simp -dsimp only [push_cast, seval]
  (first | refine call (h1) ?_ | refine callP (h1) ?_); simp -dsimp only [push_cast, seval]
  exact ⟨[], rfl, rfl, by simp -dsimp only [WeakTm, WeakBx, CLe, CLeL, push_cast, seval]; simp [planB, hb]⟩
 | false =>
  rw [hb] at h1
  refine Fun.of (fun _ => []) (by kernel_rfl) Tryz.func39 rfl rfl (Nat.le_of_ble_eq_true rfl) (by kernel_rfl) ?_; dsimp only [Tryz.f39, List.append_eq, List.cons_append, List.nil_append]
  simp -dsimp only [push_cast, seval]
  (first | refine call (h1) ?_ | refine callP (h1) ?_); simp -dsimp only [push_cast, seval]
  (first | refine call (h2) ?_ | refine callP (h2) ?_); simp -dsimp only [push_cast, seval]
  (first | refine call (h3) ?_ | refine callP (h3) ?_); simp -dsimp only [push_cast, seval]
  exact ⟨[], rfl, rfl, by simp -dsimp only [WeakTm, WeakBx, CLe, CLeL, push_cast, seval]; simp [planB, hb]⟩
set_option maxRecDepth 100000 in
set_option maxHeartbeats 1000000 in
theorem undo19_fun (l : List OpV) (hx : l.length ≤ 100000) (hl : shortL l) : Fun Tryz.prog G1 40 [.sl 5 (opsC l)] (boolC (undoB l)) 0 := by
 have h1 := containsOp_fun undoBad 64 undoBad_fun l (by omega) hl
 have h2 := slots_fun l hx
 have h3 := (run_fun (slotsV l) (-1) (by have := slotsV_le l; omega)).glob0 (G' := G1)
 cases hb : l.any undoBad with
 | true =>
  rw [hb] at h1
  refine Fun.of (fun _ => []) (by kernel_rfl) Tryz.func40 rfl rfl (Nat.le_of_ble_eq_true rfl) (by kernel_rfl) ?_; dsimp only [Tryz.f40, List.append_eq, List.cons_append, List.nil_append]
  simp -dsimp only [push_cast, seval]
  (first | refine call (h1) ?_ | refine callP (h1) ?_); simp -dsimp only [push_cast, seval]
  exact ⟨[], rfl, rfl, by simp -dsimp only [WeakTm, WeakBx, CLe, CLeL, push_cast, seval]; simp [undoB, hb]⟩
 | false =>
  rw [hb] at h1
  refine Fun.of (fun _ => []) (by kernel_rfl) Tryz.func40 rfl rfl (Nat.le_of_ble_eq_true rfl) (by kernel_rfl) ?_; dsimp only [Tryz.f40, List.append_eq, List.cons_append, List.nil_append]
  simp -dsimp only [push_cast, seval]
  (first | refine call (h1) ?_ | refine callP (h1) ?_); simp -dsimp only [push_cast, seval]
  (first | refine call (h2) ?_ | refine callP (h2) ?_); simp -dsimp only [push_cast, seval]
  (first | refine call (h3) ?_ | refine callP (h3) ?_); simp -dsimp only [push_cast, seval]
  exact ⟨[], rfl, rfl, by simp -dsimp only [WeakTm, WeakBx, CLe, CLeL, push_cast, seval]; simp [undoB, hb]⟩
def eqOp (o p : OpV) : Bool := decide (o.kind = p.kind) && decide (o.slot = p.slot) && decide (o.a = p.a) && decide (o.b = p.b) && decide (o.d = p.d)
def sameOps : List OpV → List OpV → Bool
 | [], [] => true
 | o :: r, p :: s => eqOp o p && sameOps r s
 | _, _ => false
theorem sameOps_iff : ∀ l m : List OpV, sameOps l m = true ↔ l.length = m.length ∧ ∀ (j : Nat) (h : j < l.length) (h' : j < m.length), eqOp (l[j]'h) (m[j]'h') = true
 | [], [] => by simp [sameOps]
 | [], p :: s => by simp [sameOps]
 | o :: r, [] => by simp [sameOps]
 | o :: r, p :: s => by
  have ih := sameOps_iff r s
  simp only [sameOps, Bool.and_eq_true, ih, List.length_cons]
  constructor
  ·rintro ⟨h1, h2, h3⟩
   refine ⟨by omega, fun j hj hj' => ?_⟩
   cases j with
   | zero => exact h1
   | succ j => exact h3 j (by omega) (by omega)
  ·rintro ⟨h1, h2⟩
   exact ⟨h2 0 (by omega) (by omega), by omega, fun j hj hj' => h2 (j + 1) (by omega) (by omega)⟩
theorem eqOp_refl (o : OpV) : eqOp o o = true := by simp [eqOp]
theorem sameOps_refl (l : List OpV) : sameOps l l = true := (sameOps_iff l l).2 ⟨rfl, fun j h h' => eqOp_refl _⟩
end Go.Proofs.YtbphobmohdclaaaGreatDoor.Vcg
end
section
set_option linter.unusedVariables false
set_option maxRecDepth 100000
set_option linter.unusedSimpArgs false
namespace Go.Proofs.YtbphobmohdclaaaGreatDoor.Vcg
open Go.RowKit
open QuotePlain (Bs quoteL plainL blanks okw unq splitW numB valV most okTo isDig)
def kindVals (k : Nat) : List C := (List.range k).map fun j : Nat => C.sc (.int .i64 ((j : Int) + 1))
set_option maxHeartbeats 4000000 in
theorem kinds_fun : Fun Tryz.prog GL 22 [] (.mo 0 47 (.str namesT) (kindVals 10)) 1 := by
 refine Fun.of (fun _ => []) (by kernel_rfl) Tryz.func22 rfl rfl (Nat.le_of_ble_eq_true rfl) (by kernel_rfl) ?_; dsimp only [Tryz.f22, List.append_eq, List.cons_append, List.nil_append]
 simp -dsimp only [push_cast, seval]
 refine loop (fun k : Nat => ⟨[(1, .mo 0 47 (.str (namesT.take k)) (kindVals k)), (2, .sc (.int .i64 ((k : Int) + 1)))], [], 1, 0⟩) (fun k => k ≤ 10) (fun k => 10 - k) 0 (by omega) ?_ ?_
 ·exact Weak.mk [.inl 0] rfl rfl (Nat.zero_le _) rfl (by simp -dsimp only [WeakTm, WeakBx, CLe, CLeL, push_cast, seval]; rfl) (by simp -dsimp only [WeakTm, WeakBx, CLe, CLeL, push_cast, seval])
 rintro k hk
 rcases (show k = 10 ∨ k = 0 ∨ k = 1 ∨ k = 2 ∨ k = 3 ∨ k = 4 ∨ k = 5 ∨ k = 6 ∨ k = 7 ∨ k = 8 ∨ k = 9 by omega) with rfl | rfl | rfl | rfl | rfl | rfl | rfl | rfl | rfl | rfl | rfl
 ·simp -dsimp only [push_cast, seval]
  exact ⟨[.inl 0], rfl, rfl, by simp -dsimp only [WeakTm, WeakBx, CLe, CLeL, push_cast, seval] <;> rfl⟩
 ·simp -dsimp only [push_cast, seval]
  exact ⟨1, by omega, by omega, Weak.mk [.inl 0] rfl rfl (Nat.zero_le _) rfl (by simp -dsimp only [WeakTm, WeakBx, CLe, CLeL, push_cast, seval]; exact ⟨rfl, rfl⟩) (by simp -dsimp only [WeakTm, WeakBx, CLe, CLeL, push_cast, seval])⟩
 ·simp -dsimp only [push_cast, seval]
  exact ⟨2, by omega, by omega, Weak.mk [.inl 0] rfl rfl (Nat.zero_le _) rfl (by simp -dsimp only [WeakTm, WeakBx, CLe, CLeL, push_cast, seval]; exact ⟨rfl, rfl⟩) (by simp -dsimp only [WeakTm, WeakBx, CLe, CLeL, push_cast, seval])⟩
 ·simp -dsimp only [push_cast, seval]
  exact ⟨3, by omega, by omega, Weak.mk [.inl 0] rfl rfl (Nat.zero_le _) rfl (by simp -dsimp only [WeakTm, WeakBx, CLe, CLeL, push_cast, seval]; exact ⟨rfl, rfl⟩) (by simp -dsimp only [WeakTm, WeakBx, CLe, CLeL, push_cast, seval])⟩
 ·simp -dsimp only [push_cast, seval]
  exact ⟨4, by omega, by omega, Weak.mk [.inl 0] rfl rfl (Nat.zero_le _) rfl (by simp -dsimp only [WeakTm, WeakBx, CLe, CLeL, push_cast, seval]; exact ⟨rfl, rfl⟩) (by simp -dsimp only [WeakTm, WeakBx, CLe, CLeL, push_cast, seval])⟩
 ·simp -dsimp only [push_cast, seval]
  exact ⟨5, by omega, by omega, Weak.mk [.inl 0] rfl rfl (Nat.zero_le _) rfl (by simp -dsimp only [WeakTm, WeakBx, CLe, CLeL, push_cast, seval]; exact ⟨rfl, rfl⟩) (by simp -dsimp only [WeakTm, WeakBx, CLe, CLeL, push_cast, seval])⟩
 ·simp -dsimp only [push_cast, seval]
  exact ⟨6, by omega, by omega, Weak.mk [.inl 0] rfl rfl (Nat.zero_le _) rfl (by simp -dsimp only [WeakTm, WeakBx, CLe, CLeL, push_cast, seval]; exact ⟨rfl, rfl⟩) (by simp -dsimp only [WeakTm, WeakBx, CLe, CLeL, push_cast, seval])⟩
 ·simp -dsimp only [push_cast, seval]
  exact ⟨7, by omega, by omega, Weak.mk [.inl 0] rfl rfl (Nat.zero_le _) rfl (by simp -dsimp only [WeakTm, WeakBx, CLe, CLeL, push_cast, seval]; exact ⟨rfl, rfl⟩) (by simp -dsimp only [WeakTm, WeakBx, CLe, CLeL, push_cast, seval])⟩
 ·simp -dsimp only [push_cast, seval]
  exact ⟨8, by omega, by omega, Weak.mk [.inl 0] rfl rfl (Nat.zero_le _) rfl (by simp -dsimp only [WeakTm, WeakBx, CLe, CLeL, push_cast, seval]; exact ⟨rfl, rfl⟩) (by simp -dsimp only [WeakTm, WeakBx, CLe, CLeL, push_cast, seval])⟩
 ·simp -dsimp only [push_cast, seval]
  exact ⟨9, by omega, by omega, Weak.mk [.inl 0] rfl rfl (Nat.zero_le _) rfl (by simp -dsimp only [WeakTm, WeakBx, CLe, CLeL, push_cast, seval]; exact ⟨rfl, rfl⟩) (by simp -dsimp only [WeakTm, WeakBx, CLe, CLeL, push_cast, seval])⟩
 ·simp -dsimp only [push_cast, seval]
  exact ⟨10, by omega, by omega, Weak.mk [.inl 0] rfl rfl (Nat.zero_le _) rfl (by simp -dsimp only [WeakTm, WeakBx, CLe, CLeL, push_cast, seval]; exact ⟨rfl, rfl⟩) (by simp -dsimp only [WeakTm, WeakBx, CLe, CLeL, push_cast, seval])⟩
theorem kind_get (w : Bs) : (mget w namesT (kindVals 10)).getD (.sc (.int .i64 0)) = .sc (.int .i64 (kindOf w)) := by
 unfold mget kindOf
 cases h : midx w namesT with
 | none => rfl
 | some j =>
  have hj := midx_lt h
  have : j < 10 := (List.getElem?_eq_some_iff.1 hj).1
  simp [kindVals, this]
end Go.Proofs.YtbphobmohdclaaaGreatDoor.Vcg
end
section
set_option linter.unusedVariables false
set_option linter.unusedSimpArgs false
namespace Go.Proofs.YtbphobmohdclaaaGreatDoor.Vcg
open Go.RowKit
set_option maxRecDepth 100000 in
set_option maxHeartbeats 1000000 in
theorem rplace_fun (p : List UInt8) (hp : p.length ≤ 100000) : Fun Tryz.prog G0 30 [.str p] (boolC (placeB p)) 0 := by
 have h := refPlain_fun p hp
 unfold plainC at h
 cases hb : plain p with
 | false =>
  rw [hb] at h
  refine Fun.of (fun _ => []) (by kernel_rfl) Tryz.func30 rfl rfl (Nat.le_of_ble_eq_true rfl) (by kernel_rfl) ?_; dsimp only [Tryz.f30, List.append_eq, List.cons_append, List.nil_append]
  simp -dsimp only [push_cast, seval]
  (first | refine call (h) ?_ | refine callP (h) ?_); simp -dsimp only [push_cast, seval]
  exact ⟨[], rfl, rfl, by simp -dsimp only [WeakTm, WeakBx, CLe, CLeL, push_cast, seval]; simp [placeB, hb]⟩
 | true =>
  rw [hb, if_pos rfl] at h
  refine Fun.of (fun _ => []) (by kernel_rfl) Tryz.func30 rfl rfl (Nat.le_of_ble_eq_true rfl) (by kernel_rfl) ?_; dsimp only [Tryz.f30, List.append_eq, List.cons_append, List.nil_append]
  simp -dsimp only [push_cast, seval]
  (first | refine call (h) ?_ | refine callP (h) ?_); simp -dsimp only [push_cast, seval]
  refine ⟨[], rfl, rfl, ?_⟩
  simp -dsimp only [WeakTm, WeakBx, CLe, CLeL, push_cast, seval]
  by_cases hn : names p = []
  ·simp [placeB, hb, hn]
  ·have := List.length_pos_iff.2 hn
   simp [placeB, hb, hn, this]
set_option maxRecDepth 100000 in
set_option maxHeartbeats 1000000 in
theorem rtarget_fun (s : List UInt8) (hs : s.length ≤ 1000000) : Fun Tryz.prog G0 31 [.str s] (boolC (targetB s)) 0 := by
 refine Fun.of (fun _ => []) (by kernel_rfl) Tryz.func31 rfl rfl (Nat.le_of_ble_eq_true rfl) (by kernel_rfl) ?_; dsimp only [Tryz.f31, List.append_eq, List.cons_append, List.nil_append]
 simp -dsimp only [push_cast, seval]
 refine loop (fun k : Nat => ⟨[(0, .str s), (3, .sc (.int .i64 k))], [], 0, 0⟩) (fun k => k ≤ s.length ∧ ∀ j (hj : j < s.length), j < k → decide (s[j]'hj = 0) = false) (fun k => s.length - k) 0 ⟨Nat.zero_le _, fun j _ hj => by omega⟩ ?_ ?_
 ·exact Weak.mk [] rfl rfl (Nat.zero_le _) rfl (by simp -dsimp only [WeakTm, WeakBx, CLe, CLeL, push_cast, seval]) (by simp -dsimp only [WeakTm, WeakBx, CLe, CLeL, push_cast, seval])
 ·intro k hk
  have hk1 := hk.1
  have hk2 := hk.2
  by_cases h : k < s.length
  ·have hb : s[k]? = some (s[k]'h) := List.getElem?_eq_getElem h
   by_cases h0 : s[k]'h = 0
   ·have h1 : ((s[k]'h).toNat : Int) = 0 := by rw [h0]; rfl
    simp -dsimp only [push_cast, seval, h, hb, h1]
    refine ⟨by omega, [], rfl, rfl, ?_⟩
    simp -dsimp only [WeakTm, WeakBx, CLe, CLeL, push_cast, seval]
    have : s.any (fun b => decide (b = 0)) = true := List.any_eq_true.2 ⟨s[k]'h, List.getElem_mem h, by simpa using h0⟩
    simp [targetB, this]
   ·have h1 : ¬ ((s[k]'h).toNat : Int) = 0 := u8_ne h0
    simp -dsimp only [push_cast, seval, h, hb, h1]
    (try simp only [List.length_append, List.length_cons, List.length_nil, List.length_map, List.length_take, List.length_drop]); repeat (refine And.intro (by omega) ?_)
    refine ⟨k + 1, ⟨by omega, fun j hj hjk => ?_⟩, by omega, Weak.mk [] rfl rfl (Nat.zero_le _) rfl (by simp -dsimp only [WeakTm, WeakBx, CLe, CLeL, push_cast, seval]) (by simp -dsimp only [WeakTm, WeakBx, CLe, CLeL, push_cast, seval])⟩
    rcases Nat.lt_or_ge j k with g | g
    ·exact hk2 j hj g
    ·have : j = k := by omega
     subst this; simpa using h0
  ·have hall : s.any (fun b => decide (b = 0)) = false := List.any_eq_false.2 fun x hx => by
    obtain ⟨j, hj, rfl⟩ := List.getElem_of_mem hx
    have := hk2 j hj (by omega)
    simp [this]
   by_cases h1 : s = []
   ·have hn : ¬ (1 : Int) ≤ (s.length : Int) := by rw [h1]; simp
    simp -dsimp only [push_cast, seval, h, hn]
    exact ⟨[], rfl, rfl, by simp -dsimp only [WeakTm, WeakBx, CLe, CLeL, push_cast, seval] <;> simp [targetB, h1]⟩
   ·have hpos : 1 ≤ s.length := List.length_pos_iff.2 h1
    have hpos' : (1 : Int) ≤ (s.length : Int) := by omega
    simp -dsimp only [push_cast, seval, h, hpos, hpos']
    refine ⟨[], rfl, rfl, ?_⟩
    simp -dsimp only [WeakTm, WeakBx, CLe, CLeL, push_cast, seval]
    have : decide ((s.length : Int) ≤ 4095) = decide (s.length ≤ 4095) := by rw [decide_eq_decide]; omega
    simp [targetB, h1, hall, this]
set_option maxRecDepth 100000 in
set_option maxHeartbeats 1000000 in
theorem slotted_fun (k : Int) : Fun Tryz.prog G0 28 [.sc (.int .i64 k)] (boolC (slotted k)) 0 := by
 refine Fun.of (fun _ => []) (by kernel_rfl) Tryz.func28 rfl rfl (Nat.le_of_ble_eq_true rfl) (by kernel_rfl) ?_; dsimp only [Tryz.f28, List.append_eq, List.cons_append, List.nil_append]
 simp -dsimp only [push_cast, seval]
 repeat' (first
  | (refine br (fun h => ?_) (fun h => ?_) <;> simp -dsimp only [push_cast, seval, h])
  | (refine ⟨[], rfl, rfl, ?_⟩; simp -dsimp only [WeakTm, WeakBx, CLe, CLeL, push_cast, seval]; simp_all [slotted]))
theorem place_under {a b : List UInt8} (ha : placeB a = true) (hb : placeB b = true) : underP a b = refUnder a b := by
 simp only [placeB, Bool.and_eq_true] at ha hb
 exact under_plain a b ha.1 hb.1
set_option maxRecDepth 100000 in
set_option maxHeartbeats 2000000 in
theorem rMay_fun (k s : Int) (a b d : List UInt8) (hs : short ⟨k, s, a, b, d⟩) : Fun Tryz.prog G0 11 [.agg (opL ⟨k, s, a, b, d⟩)] (boolC (mayB ⟨k, s, a, b, d⟩)) 0 := by
 have hs1 : a.length ≤ 100000 := hs.1
 have hs2 : b.length ≤ 100000 := hs.2.1
 have hs3 : d.length ≤ 100000 := hs.2.2
 have h1 := (rplace_fun a (by omega))
 have h2 := (rplace_fun b (by omega))
 have h3 := (rtarget_fun d (by omega))
 have h4 := (refUnder_fun a b (by omega) (by omega))
 have h5 := (refUnder_fun b a (by omega) (by omega))
 have h6 := slotted_fun k
 unfold opL
 by_cases hk1 : k < 1
 ·have : ¬ 1 ≤ k := by omega
  refine Fun.of (fun _ => []) (by kernel_rfl) Tryz.func11 rfl rfl (Nat.le_of_ble_eq_true rfl) (by kernel_rfl) ?_; dsimp only [Tryz.f11, List.append_eq, List.cons_append, List.nil_append]
  simp -dsimp only [push_cast, seval, hk1]
  exact ⟨[], rfl, rfl, by simp -dsimp only [WeakTm, WeakBx, CLe, CLeL, push_cast, seval]; simp [mayB, this]⟩
 by_cases hk2 : 10 < k
 ·have : ¬ k ≤ 10 := by omega
  refine Fun.of (fun _ => []) (by kernel_rfl) Tryz.func11 rfl rfl (Nat.le_of_ble_eq_true rfl) (by kernel_rfl) ?_; dsimp only [Tryz.f11, List.append_eq, List.cons_append, List.nil_append]
  simp -dsimp only [push_cast, seval, hk1, hk2]
  exact ⟨[], rfl, rfl, by simp -dsimp only [WeakTm, WeakBx, CLe, CLeL, push_cast, seval]; simp [mayB, this]⟩
 cases hp : placeB a with
 | false =>
  rw [hp] at h1
  refine Fun.of (fun _ => []) (by kernel_rfl) Tryz.func11 rfl rfl (Nat.le_of_ble_eq_true rfl) (by kernel_rfl) ?_; dsimp only [Tryz.f11, List.append_eq, List.cons_append, List.nil_append]
  simp -dsimp only [push_cast, seval, hk1, hk2]
  (first | refine call (h1) ?_ | refine callP (h1) ?_); simp -dsimp only [push_cast, seval]
  exact ⟨[], rfl, rfl, by simp -dsimp only [WeakTm, WeakBx, CLe, CLeL, push_cast, seval]; simp [mayB, hp]⟩
 | true =>
  rw [hp] at h1
  have hu : placeB b = true → underP a b = refUnder a b := fun hb => place_under hp hb
  have hu2 : placeB b = true → underP b a = refUnder b a := fun hb => place_under hb hp
  have hk : k = 1 ∨ k = 2 ∨ k = 3 ∨ k = 4 ∨ k = 5 ∨ k = 6 ∨ k = 7 ∨ k = 8 ∨ k = 9 ∨ k = 10 := by omega
  clear hk1 hk2 hs hs1 hs2 hs3
  rcases hk with rfl | rfl | rfl | rfl | rfl | rfl | rfl | rfl | rfl | rfl
  all_goals
   simp [slotted] at h6
   refine Fun.of (fun _ => []) (by kernel_rfl) Tryz.func11 rfl rfl (Nat.le_of_ble_eq_true rfl) (by kernel_rfl) ?_; dsimp only [Tryz.f11, List.append_eq, List.cons_append, List.nil_append]
   simp -dsimp only [push_cast, seval]
   (first | refine call (h1) ?_ | refine callP (h1) ?_); simp -dsimp only [push_cast, seval]
   (first | refine call (h6) ?_ | refine callP (h6) ?_); simp -dsimp only [push_cast, seval]
   repeat' (first
    | (refine call h2 ?_; simp -dsimp only [push_cast, seval])
    | (refine callP h2 ?_; simp -dsimp only [push_cast, seval])
    | (refine call h3 ?_; simp -dsimp only [push_cast, seval])
    | (refine callP h3 ?_; simp -dsimp only [push_cast, seval])
    | (refine call h4 ?_; simp -dsimp only [push_cast, seval])
    | (refine callP h4 ?_; simp -dsimp only [push_cast, seval])
    | (refine call h5 ?_; simp -dsimp only [push_cast, seval])
    | (refine callP h5 ?_; simp -dsimp only [push_cast, seval])
    | (refine br (fun h => ?_) (fun h => ?_) <;> simp -dsimp only [push_cast, seval, h])
    | (refine ⟨[], rfl, rfl, ?_⟩; simp -dsimp only [WeakTm, WeakBx, CLe, CLeL, push_cast, seval]; clear h1 h2 h3 h4 h5 h6; simp_all [mayB, slotted, hasB] <;> omega))
end Go.Proofs.YtbphobmohdclaaaGreatDoor.Vcg
end
section
set_option linter.unusedVariables false
set_option linter.unusedSimpArgs false
namespace Go.Proofs.YtbphobmohdclaaaGreatDoor.Vcg
open Go.RowKit
theorem cmp_gt (n m : Int) : cmpI n m = 1 ↔ m < n := by
 unfold cmpI
 split
 ·omega
 ·split <;> omega
theorem cmp_lt (n m : Int) : cmpI n m = -1 ↔ n < m := by
 unfold cmpI
 split
 ·omega
 ·split <;> omega
theorem runB_snoc (w : Int) : ∀ (l : List Int) (n : Int), runB w (l ++ [n]) = (runB w l && (match l.getLast? with | none => true | some m => decide (cmpI n m = w)))
 | [], n => by simp [runB]
 | [a], n => by simp [runB]
 | a :: b :: r, n => by
  have ih := runB_snoc w (b :: r) n
  simp only [List.cons_append, runB] at ih ⊢
  rw [ih, List.getLast?_cons_cons, Bool.and_assoc]
theorem runB_prefix (w : Int) : ∀ (l r : List Int), runB w (l ++ r) = true → runB w l = true
 | [], r, _ => rfl
 | [a], r, _ => rfl
 | a :: b :: l, r, h => by
  simp only [List.cons_append, runB, Bool.and_eq_true] at h ⊢
  exact ⟨h.1, runB_prefix w (b :: l) r h.2⟩
theorem slotsV_append (a b : List OpV) : slotsV (a ++ b) = slotsV a ++ slotsV b := by simp [slotsV]
theorem any_take {f : OpV → Bool} {l : List OpV} (k : Nat) (h : l.any f = false) : (l.take k).any f = false := List.any_eq_false.2 fun x hx => List.any_eq_false.1 h x (List.mem_of_mem_take hx)
theorem planB_take {l : List OpV} (k : Nat) (h : planB l = true) : planB (l.take k) = true := by
 simp only [planB, Bool.and_eq_true, Bool.not_eq_true'] at h ⊢
 refine ⟨any_take k h.1, runB_prefix 1 _ (slotsV (l.drop k)) ?_⟩
 rw [← slotsV_append, List.take_append_drop]; exact h.2
theorem undoB_take {l : List OpV} (k : Nat) (h : undoB l = true) : undoB (l.take k) = true := by
 simp only [undoB, Bool.and_eq_true, Bool.not_eq_true'] at h ⊢
 refine ⟨any_take k h.1, runB_prefix (-1) _ (slotsV (l.drop k)) ?_⟩
 rw [← slotsV_append, List.take_append_drop]; exact h.2
theorem may_slot {o : OpV} (h : mayB o = true) (hs : slotted o.kind = true) : 1 ≤ o.slot ∧ o.slot ≤ 1073741824 := by
 simp only [mayB, hs, Bool.and_eq_true, if_true, decide_eq_true_eq] at h
 exact h.1.1.1.2
theorem take_any (f : OpV → Bool) (l : List OpV) (k : Nat) (h : k < l.length) : (l.take (k + 1)).any f = ((l.take k).any f || f (l[k]'h)) := by
 rw [List.take_add_one, List.getElem?_eq_getElem h, List.any_append]
 simp
theorem last_none {l : List Int} {d : Int} (h : l.getLast? = none) : l.getLastD d = d := by rw [List.getLastD_eq_getLast?, h]; rfl
theorem last_some {l : List Int} {d m : Int} (h : l.getLast? = some m) : l.getLastD d = m := by rw [List.getLastD_eq_getLast?, h]; rfl
theorem planB_step (l : List OpV) (k : Nat) (h : k < l.length) (hp : planB (l.take k) = true) (hb : planBad (l[k]'h) = false) : planB (l.take (k + 1)) = (!slotted (l[k]'h).kind || decide ((slotsV (l.take k)).getLastD 0 < (l[k]'h).slot)) := by
 simp only [planB, Bool.and_eq_true, Bool.not_eq_true'] at hp ⊢
 rw [take_any _ l k h, hp.1, hb, slotsV_take l k h]
 cases hs : slotted (l[k]'h).kind with
 | false => simp [hp.2]
 | true =>
  have hm : mayB (l[k]'h) = true := by simp only [planBad, Bool.or_eq_false_iff, Bool.not_eq_false'] at hb; exact hb.1
  have := may_slot hm hs
  rw [if_pos rfl, runB_snoc, hp.2]
  cases hl : (slotsV (l.take k)).getLast? with
  | none => rw [last_none hl]; simp; omega
  | some m => rw [last_some hl]; simp [cmp_gt]
theorem undoB_step (l : List OpV) (k : Nat) (h : k < l.length) (hp : undoB (l.take k) = true) (hb : undoBad (l[k]'h) = false) : undoB (l.take (k + 1)) = (!slotted (l[k]'h).kind || decide ((l[k]'h).slot < (slotsV (l.take k)).getLastD 2147483648)) := by
 simp only [undoB, Bool.and_eq_true, Bool.not_eq_true'] at hp ⊢
 rw [take_any _ l k h, hp.1, hb, slotsV_take l k h]
 cases hs : slotted (l[k]'h).kind with
 | false => simp [hp.2]
 | true =>
  have hm : mayB (l[k]'h) = true := by simp only [undoBad, Bool.or_eq_false_iff, Bool.not_eq_false'] at hb; exact hb.1
  have := may_slot hm hs
  rw [if_pos rfl, runB_snoc, hp.2]
  cases hl : (slotsV (l.take k)).getLast? with
  | none => rw [last_none hl]; simp; omega
  | some m => rw [last_some hl]; simp [cmp_lt]
theorem last_snoc (l : List Int) (n d : Int) : (l ++ [n]).getLastD d = n := by simp
theorem planB_nil : planB [] = true := rfl
theorem undoB_nil : undoB [] = true := rfl
set_option maxRecDepth 100000 in
set_option maxHeartbeats 2000000 in
theorem rPlan_fun (l : List OpV) (hx : l.length ≤ 100000) (hl : shortL l) : Fun Tryz.prog G0 19 [.sl 5 (opsC l)] (boolC (planB l)) 0 := by
 refine Fun.of (fun _ => []) (by kernel_rfl) Tryz.func19 rfl rfl (Nat.le_of_ble_eq_true rfl) (by kernel_rfl) ?_; dsimp only [Tryz.f19, List.append_eq, List.cons_append, List.nil_append]
 simp -dsimp only [push_cast, seval]
 refine loop (fun k : Nat => ⟨[(0, .sl 5 (opsC l)), (3, .sc (.int .i64 ((slotsV (l.take k)).getLastD 0))), (4, .sc (.int .i64 k))], [], 0, 0⟩) (fun k => k ≤ l.length ∧ planB (l.take k) = true) (fun k => l.length - k) 0 ⟨Nat.zero_le _, planB_nil⟩ ?_ ?_
 ·exact Weak.mk [] rfl rfl (Nat.zero_le _) rfl (by simp -dsimp only [WeakTm, WeakBx, CLe, CLeL, push_cast, seval] <;> rfl) (by simp -dsimp only [WeakTm, WeakBx, CLe, CLeL, push_cast, seval])
 ·intro k hk
  have hk1 := hk.1
  have hk2 := hk.2
  by_cases h : k < l.length
  ·have hg := opsC_at l k h
   have hsh := hl _ (List.getElem_mem h)
   have hstep := planB_step l k h hk2
   have hst := slotsV_take l k h
   have hfail : planB (l.take (k + 1)) = false → planB l = false := fun e => by
    cases hq : planB l with
    | false => rfl
    | true => rw [planB_take (k + 1) hq] at e; cases e
   have hbadf : planBad (l[k]'h) = true → planB l = false := fun e => hfail (by simp [planB, take_any, h, e])
   cases ho : l[k]'h with
   | mk kd s a b d =>
    rw [ho] at hg hsh hstep hst hbadf
    simp only [opL] at hg
    simp only at hst hstep
    have h1 := rMay_fun kd s a b d hsh
    have h2 := slotted_fun kd
    simp only [opL] at h1
    cases hm : mayB ⟨kd, s, a, b, d⟩ with
    | false =>
     have hp := hbadf (by simp [planBad, hm])
     rw [hm] at h1
     simp -dsimp only [push_cast, seval, h, hg]
     refine ⟨by omega, ?_⟩
     (first | refine call (h1) ?_ | refine callP (h1) ?_); simp -dsimp only [push_cast, seval]
     exact ⟨[], rfl, rfl, by simp -dsimp only [WeakTm, WeakBx, CLe, CLeL, push_cast, seval]; simp [hp]⟩
    | true =>
     rw [hm] at h1
     by_cases h7 : 7 < kd
     ·have hp := hbadf (by simp [planBad, hm, h7])
      simp -dsimp only [push_cast, seval, h, hg]
      refine ⟨by omega, ?_⟩
      (first | refine call (h1) ?_ | refine callP (h1) ?_); simp -dsimp only [push_cast, seval, hg, h7]
      (try simp only [List.length_append, List.length_cons, List.length_nil, List.length_map, List.length_take, List.length_drop]); repeat (refine And.intro (by omega) ?_)
      exact ⟨[], rfl, rfl, by simp -dsimp only [WeakTm, WeakBx, CLe, CLeL, push_cast, seval]; simp [hp]⟩
     ·have hstep := hstep (by simp [planBad, hm, h7])
      cases hs : slotted kd with
      | false =>
       rw [hs] at h2 hstep hst
       rw [if_neg (by simp)] at hst
       simp -dsimp only [push_cast, seval, h, hg]
       refine ⟨by omega, ?_⟩
       (first | refine call (h1) ?_ | refine callP (h1) ?_); simp -dsimp only [push_cast, seval, hg, h7]
       (try simp only [List.length_append, List.length_cons, List.length_nil, List.length_map, List.length_take, List.length_drop]); repeat (refine And.intro (by omega) ?_)
       (first | refine call (h2) ?_ | refine callP (h2) ?_); simp -dsimp only [push_cast, seval]
       (try simp only [List.length_append, List.length_cons, List.length_nil, List.length_map, List.length_take, List.length_drop]); repeat (refine And.intro (by omega) ?_)
       refine ⟨k + 1, ⟨by omega, by simpa using hstep⟩, by omega, Weak.mk [] rfl rfl (Nat.zero_le _) rfl (by simp -dsimp only [WeakTm, WeakBx, CLe, CLeL, push_cast, seval, hst]) (by simp -dsimp only [WeakTm, WeakBx, CLe, CLeL, push_cast, seval])⟩
      | true =>
       rw [hs] at h2 hstep hst
       rw [if_pos rfl] at hst
       by_cases hlt : s ≤ (slotsV (l.take k)).getLastD 0
       ·have hp := hfail (by rw [hstep, decide_eq_false (by omega)]; rfl)
        simp -dsimp only [push_cast, seval, h, hg]
        refine ⟨by omega, ?_⟩
        (first | refine call (h1) ?_ | refine callP (h1) ?_); simp -dsimp only [push_cast, seval, hg, h7]
        (try simp only [List.length_append, List.length_cons, List.length_nil, List.length_map, List.length_take, List.length_drop]); repeat (refine And.intro (by omega) ?_)
        (first | refine call (h2) ?_ | refine callP (h2) ?_); simp -dsimp only [push_cast, seval, hg, hlt]
        (try simp only [List.length_append, List.length_cons, List.length_nil, List.length_map, List.length_take, List.length_drop]); repeat (refine And.intro (by omega) ?_)
        exact ⟨[], rfl, rfl, by simp -dsimp only [WeakTm, WeakBx, CLe, CLeL, push_cast, seval]; simp [hp]⟩
       ·have hn : planB (l.take (k + 1)) = true := by rw [hstep, decide_eq_true (by omega)]; rfl
        have hlast := last_snoc (slotsV (l.take k)) s 0
        simp -dsimp only [push_cast, seval, h, hg]
        refine ⟨by omega, ?_⟩
        (first | refine call (h1) ?_ | refine callP (h1) ?_); simp -dsimp only [push_cast, seval, hg, h7]
        (try simp only [List.length_append, List.length_cons, List.length_nil, List.length_map, List.length_take, List.length_drop]); repeat (refine And.intro (by omega) ?_)
        (first | refine call (h2) ?_ | refine callP (h2) ?_); simp -dsimp only [push_cast, seval, hg, hlt]
        (try simp only [List.length_append, List.length_cons, List.length_nil, List.length_map, List.length_take, List.length_drop]); repeat (refine And.intro (by omega) ?_)
        refine ⟨k + 1, ⟨by omega, hn⟩, by omega, Weak.mk [] rfl rfl (Nat.zero_le _) rfl (by simp -dsimp only [WeakTm, WeakBx, CLe, CLeL, push_cast, seval, hst, hlast]) (by simp -dsimp only [WeakTm, WeakBx, CLe, CLeL, push_cast, seval])⟩
  ·obtain rfl : k = l.length := by omega
   rw [List.take_length] at hk2
   simp -dsimp only [push_cast, seval, h]
   exact ⟨[], rfl, rfl, by simp -dsimp only [WeakTm, WeakBx, CLe, CLeL, push_cast, seval]; simp [hk2]⟩
set_option maxRecDepth 100000 in
set_option maxHeartbeats 2000000 in
theorem rUndo_fun (l : List OpV) (hx : l.length ≤ 100000) (hl : shortL l) : Fun Tryz.prog G0 20 [.sl 5 (opsC l)] (boolC (undoB l)) 0 := by
  refine Fun.of (fun _ => []) (by kernel_rfl) Tryz.func20 rfl rfl (Nat.le_of_ble_eq_true rfl) (by kernel_rfl) ?_; dsimp only [Tryz.f20, List.append_eq, List.cons_append, List.nil_append]
  simp -dsimp only [push_cast, seval]
  refine loop (fun k : Nat => ⟨[(0, .sl 5 (opsC l)), (3, .sc (.int .i64 ((slotsV (l.take k)).getLastD 2147483648))), (4, .sc (.int .i64 k))], [], 0, 0⟩) (fun k => k ≤ l.length ∧ undoB (l.take k) = true) (fun k => l.length - k) 0 ⟨Nat.zero_le _, undoB_nil⟩ ?_ ?_
  · exact Weak.mk [] rfl rfl (Nat.zero_le _) rfl (by simp -dsimp only [WeakTm, WeakBx, CLe, CLeL, push_cast, seval] <;> rfl) (by simp -dsimp only [WeakTm, WeakBx, CLe, CLeL, push_cast, seval])
  · intro k hk
    have hk1 := hk.1
    have hk2 := hk.2
    by_cases h : k < l.length
    · have hg := opsC_at l k h
      have hsh := hl _ (List.getElem_mem h)
      have hstep := undoB_step l k h hk2
      have hst := slotsV_take l k h
      have hfail : undoB (l.take (k + 1)) = false → undoB l = false := fun e => by
        cases hq : undoB l with
        | false => rfl
        | true => rw [undoB_take (k + 1) hq] at e; cases e
      have hbadf : undoBad (l[k]'h) = true → undoB l = false := fun e => hfail (by simp [undoB, take_any, h, e])
      cases ho : l[k]'h with
      | mk kd s a b d =>
        rw [ho] at hg hsh hstep hst hbadf
        simp only [opL] at hg
        simp only at hst hstep
        have h1 := rMay_fun kd s a b d hsh
        have h2 := slotted_fun kd
        simp only [opL] at h1
        cases hm : mayB ⟨kd, s, a, b, d⟩ with
        | false =>
          have hp := hbadf (by simp [undoBad, hm])
          rw [hm] at h1
          simp -dsimp only [push_cast, seval, h, hg]
          refine ⟨by omega, ?_⟩
          (first | refine call (h1) ?_ | refine callP (h1) ?_); simp -dsimp only [push_cast, seval]
          exact ⟨[], rfl, rfl, by simp -dsimp only [WeakTm, WeakBx, CLe, CLeL, push_cast, seval]; simp [hp]⟩
        | true =>
          rw [hm] at h1
          by_cases h5 : kd < 6
          · have hp := hbadf (by have h8 : kd < 8 := by omega
                                 have h9 : ¬ kd = 6 := by omega
                                 simp [undoBad, hm, h8, h9])
            simp -dsimp only [push_cast, seval, h, hg]
            refine ⟨by omega, ?_⟩
            (first | refine call (h1) ?_ | refine callP (h1) ?_); simp -dsimp only [push_cast, seval, hg, h5]
            (try simp only [List.length_append, List.length_cons, List.length_nil, List.length_map, List.length_take, List.length_drop]); repeat (refine And.intro (by omega) ?_)
            exact ⟨[], rfl, rfl, by simp -dsimp only [WeakTm, WeakBx, CLe, CLeL, push_cast, seval]; simp [hp]⟩
          by_cases h7 : kd = 7
          · have hp := hbadf (by subst h7; simp [undoBad, hm])
            simp -dsimp only [push_cast, seval, h, hg]
            refine ⟨by omega, ?_⟩
            (first | refine call (h1) ?_ | refine callP (h1) ?_); simp -dsimp only [push_cast, seval, hg, h5, h7]
            (try simp only [List.length_append, List.length_cons, List.length_nil, List.length_map, List.length_take, List.length_drop]); repeat (refine And.intro (by omega) ?_)
            exact ⟨[], rfl, rfl, by simp -dsimp only [WeakTm, WeakBx, CLe, CLeL, push_cast, seval]; simp [hp]⟩
          · have hstep := hstep (by
              by_cases h8 : kd < 8
              · have : kd = 6 := by omega
                simp only [undoBad, hm, Bool.not_true, Bool.false_or]
                simp [this]
              · simp [undoBad, hm, h8])
            cases hs : slotted kd with
            | false =>
              rw [hs] at h2 hstep hst
              rw [if_neg (by simp)] at hst
              simp -dsimp only [push_cast, seval, h, hg]
              refine ⟨by omega, ?_⟩
              (first | refine call (h1) ?_ | refine callP (h1) ?_); simp -dsimp only [push_cast, seval, hg, h5, h7]
              (try simp only [List.length_append, List.length_cons, List.length_nil, List.length_map, List.length_take, List.length_drop]); repeat (refine And.intro (by omega) ?_)
              (first | refine call (h2) ?_ | refine callP (h2) ?_); simp -dsimp only [push_cast, seval]
              (try simp only [List.length_append, List.length_cons, List.length_nil, List.length_map, List.length_take, List.length_drop]); repeat (refine And.intro (by omega) ?_)
              refine ⟨k + 1, ⟨by omega, by simpa using hstep⟩, by omega, Weak.mk [] rfl rfl (Nat.zero_le _) rfl (by simp -dsimp only [WeakTm, WeakBx, CLe, CLeL, push_cast, seval, hst]) (by simp -dsimp only [WeakTm, WeakBx, CLe, CLeL, push_cast, seval])⟩
            | true =>
              rw [hs] at h2 hstep hst
              rw [if_pos rfl] at hst
              by_cases hlt : (slotsV (l.take k)).getLastD 2147483648 ≤ s
              · have hp := hfail (by rw [hstep, decide_eq_false (by omega)]; rfl)
                simp -dsimp only [push_cast, seval, h, hg]
                refine ⟨by omega, ?_⟩
                (first | refine call (h1) ?_ | refine callP (h1) ?_); simp -dsimp only [push_cast, seval, hg, h5, h7]
                (try simp only [List.length_append, List.length_cons, List.length_nil, List.length_map, List.length_take, List.length_drop]); repeat (refine And.intro (by omega) ?_)
                (first | refine call (h2) ?_ | refine callP (h2) ?_); simp -dsimp only [push_cast, seval, hg, hlt]
                (try simp only [List.length_append, List.length_cons, List.length_nil, List.length_map, List.length_take, List.length_drop]); repeat (refine And.intro (by omega) ?_)
                exact ⟨[], rfl, rfl, by simp -dsimp only [WeakTm, WeakBx, CLe, CLeL, push_cast, seval]; simp [hp]⟩
              · have hn : undoB (l.take (k + 1)) = true := by rw [hstep, decide_eq_true (by omega)]; rfl
                have hlast := last_snoc (slotsV (l.take k)) s 2147483648
                simp -dsimp only [push_cast, seval, h, hg]
                refine ⟨by omega, ?_⟩
                (first | refine call (h1) ?_ | refine callP (h1) ?_); simp -dsimp only [push_cast, seval, hg, h5, h7]
                (try simp only [List.length_append, List.length_cons, List.length_nil, List.length_map, List.length_take, List.length_drop]); repeat (refine And.intro (by omega) ?_)
                (first | refine call (h2) ?_ | refine callP (h2) ?_); simp -dsimp only [push_cast, seval, hg, hlt]
                (try simp only [List.length_append, List.length_cons, List.length_nil, List.length_map, List.length_take, List.length_drop]); repeat (refine And.intro (by omega) ?_)
                refine ⟨k + 1, ⟨by omega, hn⟩, by omega, Weak.mk [] rfl rfl (Nat.zero_le _) rfl (by simp -dsimp only [WeakTm, WeakBx, CLe, CLeL, push_cast, seval, hst, hlast]) (by simp -dsimp only [WeakTm, WeakBx, CLe, CLeL, push_cast, seval])⟩
    · obtain rfl : k = l.length := by omega
      rw [List.take_length] at hk2
      simp -dsimp only [push_cast, seval, h]
      exact ⟨[], rfl, rfl, by simp -dsimp only [WeakTm, WeakBx, CLe, CLeL, push_cast, seval]; simp [hk2]⟩
end Go.Proofs.YtbphobmohdclaaaGreatDoor.Vcg
end
section
set_option linter.unusedVariables false
set_option linter.unusedSimpArgs false
namespace Go.Proofs.YtbphobmohdclaaaGreatDoor.Vcg
open Go.RowKit
set_option maxRecDepth 100000 in
set_option maxHeartbeats 1000000 in
theorem rSame_fun (a b : List OpV) (ha : a.length ≤ 100000) : Fun Tryz.prog G0 18 [.sl 5 (opsC a), .sl 5 (opsC b)] (boolC (sameOps a b)) 0 := by
 by_cases hl : a.length = b.length
 ·refine Fun.of (fun _ => []) (by kernel_rfl) Tryz.func18 rfl rfl (Nat.le_of_ble_eq_true rfl) (by kernel_rfl) ?_; dsimp only [Tryz.f18, List.append_eq, List.cons_append, List.nil_append]
  simp -dsimp only [push_cast, seval, hl]
  refine loop (fun k : Nat => ⟨[(0, .sl 5 (opsC a)), (1, .sl 5 (opsC b)), (5, .sc (.int .i64 k))], [], 0, 0⟩) (fun k => k ≤ a.length ∧ ∀ (j : Nat) (h : j < a.length) (h' : j < b.length), j < k → eqOp (a[j]'h) (b[j]'h') = true) (fun k => a.length - k) 0 ⟨Nat.zero_le _, fun j _ _ hj => by omega⟩ ?_ ?_
  ·exact Weak.mk [] rfl rfl (Nat.le_refl _) rfl (by simp -dsimp only [WeakTm, WeakBx, CLe, CLeL, push_cast, seval, hl]) (by simp -dsimp only [WeakTm, WeakBx, CLe, CLeL, push_cast, seval])
  ·intro k hk
   have hk1 := hk.1
   have hk2 := hk.2
   by_cases h : k < a.length
   ·have hga := opsC_at a k h
    have hgb := opsC_at b k (by omega)
    have heq : eqOp (a[k]'h) (b[k]'(by omega)) = eqOp (a[k]'h) (b[k]'(by omega)) := rfl
    simp only [opL] at hga hgb
    conv at heq => lhs; unfold eqOp
    cases he : eqOp (a[k]'h) (b[k]'(by omega)) with
    | true =>
     rw [he] at heq
     simp -dsimp only [push_cast, seval, h, hga, hgb, heq]
     (try simp only [List.length_append, List.length_cons, List.length_nil, List.length_map, List.length_take, List.length_drop]); repeat (refine And.intro (by omega) ?_)
     refine ⟨k + 1, ⟨by omega, fun j hj hj' hjk => ?_⟩, by omega, Weak.mk [] rfl rfl (Nat.le_refl _) rfl (by simp -dsimp only [WeakTm, WeakBx, CLe, CLeL, push_cast, seval]) (by simp -dsimp only [WeakTm, WeakBx, CLe, CLeL, push_cast, seval])⟩
     rcases Nat.lt_or_ge j k with g | g
     ·exact hk2 j hj hj' g
     ·have : j = k := by omega
      subst this; exact he
    | false =>
     rw [he] at heq
     simp -dsimp only [push_cast, seval, h, hga, hgb, heq]
     (try simp only [List.length_append, List.length_cons, List.length_nil, List.length_map, List.length_take, List.length_drop]); repeat (refine And.intro (by omega) ?_)
     refine ⟨[], rfl, rfl, ?_⟩
     simp -dsimp only [WeakTm, WeakBx, CLe, CLeL, push_cast, seval]
     have : ¬ sameOps a b = true := fun e => by
      have := ((sameOps_iff a b).1 e).2 k h (by omega)
      rw [he] at this; cases this
     simp [this]
   ·simp -dsimp only [push_cast, seval, h]
    refine ⟨[], rfl, rfl, ?_⟩
    simp -dsimp only [WeakTm, WeakBx, CLe, CLeL, push_cast, seval]
    have : sameOps a b = true := (sameOps_iff a b).2 ⟨hl, fun j hj hj' => hk2 j hj hj' (by omega)⟩
    simp [this]
 ·refine Fun.of (fun _ => []) (by kernel_rfl) Tryz.func18 rfl rfl (Nat.le_of_ble_eq_true rfl) (by kernel_rfl) ?_; dsimp only [Tryz.f18, List.append_eq, List.cons_append, List.nil_append]
  simp -dsimp only [push_cast, seval, hl]
  refine ⟨[], rfl, rfl, ?_⟩
  simp -dsimp only [WeakTm, WeakBx, CLe, CLeL, push_cast, seval]
  have : ¬ sameOps a b = true := fun e => hl ((sameOps_iff a b).1 e).1
  simp [this]
def okO (o : OpV) : Bool := decide (o.a.length ≤ 1000) && decide (o.b.length ≤ 1000) && decide (o.d.length ≤ 5000)
def fewO (l : List OpV) : Bool := (l.take 200).all okO && decide (l.length ≤ 100)
theorem fewO_short {l : List OpV} (h : fewO l = true) : l.length ≤ 100 ∧ shortL l := by
 simp only [fewO, Bool.and_eq_true, decide_eq_true_eq] at h
 refine ⟨h.2, fun o ho => ?_⟩
 rw [List.take_of_length_le (by omega)] at h
 have := List.all_eq_true.1 h.1 o ho
 simp only [okO, Bool.and_eq_true, decide_eq_true_eq] at this
 unfold short
 omega
set_option maxRecDepth 100000 in
set_option maxHeartbeats 1000000 in
theorem fewO_fun (l : List OpV) : Fun Tryz.prog G0 8 [.sl 5 (opsC l)] (boolC (fewO l)) 0 := by
 refine Fun.of (fun _ => []) (by kernel_rfl) Tryz.func8 rfl rfl (Nat.le_of_ble_eq_true rfl) (by kernel_rfl) ?_; dsimp only [Tryz.f8, List.append_eq, List.cons_append, List.nil_append]
 simp -dsimp only [push_cast, seval]
 refine loop (fun k : Nat => ⟨[(0, .sl 5 (opsC l)), (3, .sc (.int .i64 k))], [], 0, 0⟩) (fun k => k ≤ l.length ∧ k ≤ 200 ∧ ∀ j (hj : j < l.length), j < k → okO (l[j]'hj) = true) (fun k => l.length - k) 0 ⟨Nat.zero_le _, Nat.zero_le _, fun j _ hj => by omega⟩ ?_ ?_
 ·exact Weak.mk [] rfl rfl (Nat.le_refl _) rfl (by simp -dsimp only [WeakTm, WeakBx, CLe, CLeL, push_cast, seval]) (by simp -dsimp only [WeakTm, WeakBx, CLe, CLeL, push_cast, seval])
 ·intro k hk
  have hk1 := hk.1
  have hk2 := hk.2.1
  have hk3 := hk.2.2
  have fin : (¬ k < l.length ∨ ¬ k < 200) → fewO l = decide ((l.length : Int) ≤ 100) := fun hh => by
   have : (l.take 200).all okO = true := List.all_eq_true.2 fun x hx => by
    obtain ⟨j, hj, rfl⟩ := List.getElem_of_mem hx
    rw [List.length_take] at hj
    rw [List.getElem_take]
    exact hk3 j (by omega) (by omega)
   simp only [fewO, this, Bool.true_and]
   rw [decide_eq_decide]; omega
  by_cases h : k < l.length
  ·by_cases h2 : k < 200
   ·have hg := opsC_at l k h
    have h2' : (k : Int) < 200 := by omega
    have hno : okO (l[k]'h) = false → fewO l = false := fun e => by
     have : (l.take 200).all okO = false := List.all_eq_false.2 ⟨l[k]'h, List.mem_of_getElem? (i := k) (by rw [List.getElem?_take, if_pos h2, List.getElem?_eq_getElem h]), by simp [e]⟩
     simp [fewO, this]
    have hyes : okO (l[k]'h) = true → ∀ j (hj : j < l.length), j < k + 1 → okO (l[j]'hj) = true := fun e j hj hjk => by
     rcases Nat.lt_or_ge j k with g | g
     ·exact hk3 j hj g
     ·have : j = k := by omega
      subst this; exact e
    cases ho : l[k]'h with
    | mk kd s a b d =>
     rw [ho] at hg hno hyes
     simp only [opL] at hg
     simp only [okO] at hno hyes
     by_cases ha : a.length ≤ 1000
     ·have ha' : ¬ (1000 : Int) < (a.length : Int) := by omega
      by_cases hb : b.length ≤ 1000
      ·have hb' : ¬ (1000 : Int) < (b.length : Int) := by omega
       by_cases hd : d.length ≤ 5000
       ·have hd' : ¬ (5000 : Int) < (d.length : Int) := by omega
        simp -dsimp only [push_cast, seval, h, h2', hg, ha', hb', hd']
        (try simp only [List.length_append, List.length_cons, List.length_nil, List.length_map, List.length_take, List.length_drop]); repeat (refine And.intro (by omega) ?_)
        refine ⟨k + 1, ⟨by omega, by omega, hyes (by simp [ha, hb, hd])⟩, by omega, Weak.mk [] rfl rfl (Nat.le_refl _) rfl (by simp -dsimp only [WeakTm, WeakBx, CLe, CLeL, push_cast, seval]) (by simp -dsimp only [WeakTm, WeakBx, CLe, CLeL, push_cast, seval])⟩
       ·have hd' : (5000 : Int) < (d.length : Int) := by omega
        have hf := hno (by simp [hd])
        simp -dsimp only [push_cast, seval, h, h2', hg, ha', hb', hd']
        (try simp only [List.length_append, List.length_cons, List.length_nil, List.length_map, List.length_take, List.length_drop]); repeat (refine And.intro (by omega) ?_)
        exact ⟨[], rfl, rfl, by simp -dsimp only [WeakTm, WeakBx, CLe, CLeL, push_cast, seval]; simp [hf]⟩
      ·have hb' : (1000 : Int) < (b.length : Int) := by omega
       have hf := hno (by simp [hb])
       simp -dsimp only [push_cast, seval, h, h2', hg, ha', hb']
       (try simp only [List.length_append, List.length_cons, List.length_nil, List.length_map, List.length_take, List.length_drop]); repeat (refine And.intro (by omega) ?_)
       exact ⟨[], rfl, rfl, by simp -dsimp only [WeakTm, WeakBx, CLe, CLeL, push_cast, seval]; simp [hf]⟩
     ·have ha' : (1000 : Int) < (a.length : Int) := by omega
      have hf := hno (by simp [ha])
      simp -dsimp only [push_cast, seval, h, h2', hg, ha']
      (try simp only [List.length_append, List.length_cons, List.length_nil, List.length_map, List.length_take, List.length_drop]); repeat (refine And.intro (by omega) ?_)
      exact ⟨[], rfl, rfl, by simp -dsimp only [WeakTm, WeakBx, CLe, CLeL, push_cast, seval]; simp [hf]⟩
   ·have h2' : ¬ (k : Int) < 200 := by omega
    have hf := fin (.inr h2)
    simp -dsimp only [push_cast, seval, h, h2']
    refine ⟨[], rfl, rfl, ?_⟩
    simp -dsimp only [WeakTm, WeakBx, CLe, CLeL, push_cast, seval]
    rw [hf]
  ·have hf := fin (.inl h)
   simp -dsimp only [push_cast, seval, h]
   refine ⟨[], rfl, rfl, ?_⟩
   simp -dsimp only [WeakTm, WeakBx, CLe, CLeL, push_cast, seval]
   rw [hf]
end Go.Proofs.YtbphobmohdclaaaGreatDoor.Vcg
end
section
namespace Go.Proofs.YtbphobmohdclaaaGreatDoor.Kit
open Go.RowKit
theorem isEmpty_false {a : ByteArray} (h : a ≠ ⟨#[]⟩) : a.toList.isEmpty = false := by
 cases hl : a.toList with
 | nil => exact absurd (ByteArray.ext (by rw [ByteArray.toList_eq] at hl; exact Array.toList_inj.1 hl)) h
 | cons x r => rfl
theorem bdrewN {B : Nat} {a w : World} (h : Below B a w) (n : Nat) : Below B a (w.drewN n) := ⟨h.os, h.tape, h.output, h.size, h.block⟩
theorem ownsRow_below {w w' : World} {base : Nat} {e : TypeId} {size : Nat} {v : Value} {n : Nat} {xs : List Value} {B : Nat} (h : w.ownsRow base e size v n xs) (hb : Below B w w') (hB : w.heap.size ≤ B) : w'.ownsRow base e size v n xs := by
 refine ⟨h.1, ?_⟩
 rcases h.2 with h2 | ⟨g, cap, cur, hv, hg, hh, r⟩
 ·exact .inl h2
 ·exact .inr ⟨g, cap, cur, hv, hg, by rw [hb.block _ (Nat.lt_of_lt_of_le (Array.getElem?_eq_some_iff.1 hh).1 hB)]; exact hh, r⟩
theorem ret_string {a b : ByteArray} (h : a = b) : Ending.returned (.string a) = .returned (.string b) := by rw [h]
theorem ret_bool {a b : Bool} (h : a = b) : Ending.returned (.bool a) = .returned (.bool b) := by rw [h]
def toL (s : ByteArray) : List UInt8 := s.data.toList
def ofL (l : List UInt8) : ByteArray := ⟨l.toArray⟩
@[simp] theorem toL_ofL (l : List UInt8) : toL (ofL l) = l := by simp [toL, ofL]
@[simp] theorem ofL_toL (s : ByteArray) : ofL (toL s) = s := by cases s; simp [toL, ofL]
theorem toL_append (a b : ByteArray) : toL (a ++ b) = toL a ++ toL b := by simp [toL, ByteArray.data_append]
theorem size_toL (s : ByteArray) : (toL s).length = s.size := Array.length_toList
theorem size_ofL (l : List UInt8) : (ofL l).size = l.length := by rw [← size_toL, toL_ofL]
def join (sep : ByteArray) (xs : List ByteArray) : ByteArray := ⟨(Lib.join (xs.map (·.data.toList)) sep.data.toList).toArray⟩
theorem join_one (sep x : ByteArray) : join sep [x] = x := by
 cases x; simp [join, Lib.join_one]
def Strs (w : World) (v : Value) (xs : List ByteArray) : Prop :=
 ∃ a cap, v = .slice a xs.length cap ∧ xs.length ≤ cap ∧ (cap : Int) ≤ 9223372036854775807 ∧
  (xs = [] ∨ ∃ b o, a = some ⟨b, o, none⟩ ∧ b < w.heap.size ∧ ∀ j, j < xs.length → w.cell? ⟨b, o + j, none⟩ = some (.string (xs.getD j ⟨#[]⟩)))
theorem Strs.below {w w' : World} {v : Value} {xs : List ByteArray} {B : Nat} (h : Strs w v xs) (hb : Below B w w') (hB : w.heap.size ≤ B) : Strs w' v xs := by
 obtain ⟨a, cap, e, h1, h2, h3⟩ := h
 refine ⟨a, cap, e, h1, h2, ?_⟩
 rcases h3 with h3 | ⟨b, o, e1, e2, e3⟩
 ·exact .inl h3
 ·exact .inr ⟨b, o, e1, Nat.lt_of_lt_of_le e2 hb.size, fun j hj => by rw [hb.cell (p := ⟨b, o + j, none⟩) (Nat.lt_of_lt_of_le e2 hB)]; exact e3 j hj⟩
theorem Strs.new (w : World) (xs : List ByteArray) (cs : Array Value) (T : TypeId) (n : Nat) (hcs : cs = (xs.map Value.string).toArray) (hn : n = xs.length) (hm : n ≤ 9223372036854775807) (fr : Nat × Nat) :
  Strs (w.alloc (.cells cs T fr)) (.slice (some ⟨w.heap.size, 0, none⟩) n n) xs := by
 subst hcs hn
 refine ⟨_, _, rfl, Nat.le_refl _, by omega, ?_⟩
 refine .inr ⟨_, _, rfl, by rw [World.size_alloc]; omega, fun j hj => ?_⟩
 have h1 : (w.alloc (.cells (xs.map Value.string).toArray T fr)).heap[w.heap.size]? = some (.cells (xs.map Value.string).toArray T fr) := by
  show (w.heap.push _)[w.heap.size]? = _
  rw [Array.getElem?_push, if_pos rfl]
 simp only [World.cell?, h1]
 show ((xs.map Value.string).toArray)[0 + j]? = _
 rw [Nat.zero_add, List.getElem?_toArray, List.getElem?_map, List.getElem?_eq_getElem hj, List.getD_eq_getElem?_getD, List.getElem?_eq_getElem hj]; rfl
theorem Strs.nil (w : World) (a : Option Addr) (cap : Nat) (hm : cap ≤ 9223372036854775807) : Strs w (.slice a 0 cap) [] := ⟨a, cap, rfl, Nat.zero_le _, by omega, .inl rfl⟩
end Go.Proofs.YtbphobmohdclaaaGreatDoor.Kit
end
section
namespace Go.Proofs.YtbphobmohdclaaaGreatDoor.Kit
open Go.RowKit
def byteCells (l : List UInt8) : Array Value := (l.map fun c => Value.int .u8 (c.toNat : Int)).toArray
theorem bytes_new (w : World) (l : List UInt8) (T : TypeId) (fr : Nat × Nat) (n : Nat) (hn : n = w.heap.size) : Lib.Bytes (w.alloc (.cells (byteCells l) T fr)) n 0 (ofL l) := by
 intro i h
 subst hn
 have h1 : (w.alloc (.cells (byteCells l) T fr)).heap[w.heap.size]? = some (.cells (byteCells l) T fr) := by
  show (w.heap.push _)[w.heap.size]? = _
  rw [Array.getElem?_push, if_pos rfl]
 simp only [World.cell?, h1]
 show (byteCells l)[0 + i]? = _
 have h2 : i < l.length := by rw [size_ofL] at h; exact h
 rw [Nat.zero_add, byteCells, List.getElem?_toArray, List.getElem?_map, List.getElem?_eq_getElem h2]
 rfl
theorem conv_new {P : Program} (w : World) (l : List UInt8) (src e dst : TypeId) (hs : P.underlying src = some (.slice e)) (he : P.underlying e = some (.int .u8)) (hd : P.underlying dst = some .string) (cs : Array Value) (hcs : cs = byteCells l) (fr : Nat × Nat) (m cap n : Nat) (hm : m = w.heap.size) (hn : n = l.length) :
  (convert src dst (.slice (some ⟨m, 0, none⟩) n cap)).run P (w.alloc (.cells cs e fr)) = .ok (.string (ofL l)) (w.alloc (.cells cs e fr)) := by
 subst hcs hm hn
 have := Lib.run_convert_whole (P := P) (w.alloc (.cells (byteCells l) e fr)) src e dst hs he hd w.heap.size 0 (ofL l) (bytes_new w l e fr _ rfl) cap
 rw [size_ofL] at this
 exact this
end Go.Proofs.YtbphobmohdclaaaGreatDoor.Kit
end
section
set_option maxRecDepth 100000
namespace Go.Proofs.YtbphobmohdclaaaGreatDoor
open Go.RowKit
namespace QuoteWalk
open Kit QuotePlain
theorem bad_cases {c : UInt8} (h : good c = false) : ¬ (32 : Int) ≤ (c.toNat : Int) ∨ ((32 : Int) ≤ (c.toNat : Int) ∧ ¬ (c.toNat : Int) ≤ 126) ∨ ((32 : Int) ≤ (c.toNat : Int) ∧ (c.toNat : Int) ≤ 126 ∧ ((c.toNat : Int) != 34) = false) ∨
  ((32 : Int) ≤ (c.toNat : Int) ∧ (c.toNat : Int) ≤ 126 ∧ ((c.toNat : Int) != 34) = true ∧ ((c.toNat : Int) != 92) = false) := by
 simp only [good, decide_eq_false_iff_not] at h
 simp only [bne_iff_ne, ne_eq, bne_eq_false_iff_eq]
 omega
theorem good_parts {c : UInt8} (h : good c = true) : (32 : Int) ≤ (c.toNat : Int) ∧ (c.toNat : Int) ≤ 126 ∧ ((c.toNat : Int) != 34) = true ∧ ((c.toNat : Int) != 92) = true := by
 simp only [good, decide_eq_true_eq] at h
 refine ⟨by omega, by omega, ?_, ?_⟩ <;> (simp only [bne_iff_ne, ne_eq]; omega)
theorem itself_walk (c : UInt8) (w : World) :
  Calls Tryz.prog 58 #[.int .u8 c.toNat] w fun e w' => e = .returned (.bool (good c)) ∧ w = w' := by
 have hc := c.toNat_lt
 cases hg : good c with
 | true =>
  obtain ⟨g1, g2, g3, g4⟩ := good_parts hg
  clear hg
  go_enter Tryz.func58, Tryz.ntmps58
  go_wp2
  go_ret
  exact ⟨rfl, rfl⟩
 | false =>
  rcases bad_cases hg with h | ⟨h0, h⟩ | ⟨h0, h1, h2⟩ | ⟨h0, h1, h2, h3⟩
  all_goals clear hg
  ·go_enter Tryz.func58, Tryz.ntmps58
   go_wp2
   go_ret
   exact ⟨rfl, rfl⟩
  ·go_enter Tryz.func58, Tryz.ntmps58
   go_wp2
   go_ret
   exact ⟨rfl, rfl⟩
  ·go_enter Tryz.func58, Tryz.ntmps58
   go_wp2
   go_ret
   exact ⟨rfl, rfl⟩
  ·go_enter Tryz.func58, Tryz.ntmps58
   go_wp2
   go_ret
   exact ⟨rfl, rfl⟩
theorem at_list (s : ByteArray) (k : Nat) (h : k < s.size) : (toL s)[k]'(by rw [size_toL]; exact h) = s[k] := rfl
theorem mem_at (s : ByteArray) (c : UInt8) (h : c ∈ toL s) : ∃ k, ∃ h : k < s.size, s[k] = c := by
 obtain ⟨k, hk, e⟩ := List.mem_iff_getElem.1 h
 rw [size_toL] at hk
 exact ⟨k, hk, e⟩
theorem plain_no {s : ByteArray} {k : Nat} {h : k < s.size} {c : UInt8} (hc : s[k] = c) (hb : ¬ (33 ≤ c.toNat ∧ c.toNat ≤ 126 ∧ c.toNat ≠ 34)) : plainL (toL s) = false := by
 cases e : plainL (toL s) with
 | false => rfl
 | true => exact absurd (plain_mem e c (by rw [← hc, ← at_list s k h]; exact List.getElem_mem _)) hb
theorem plain_yes {s : ByteArray} (h : ∀ j (hj : j < s.size), 33 ≤ s[j].toNat ∧ s[j].toNat ≤ 126 ∧ s[j].toNat ≠ 34) : plainL (toL s) = !s.toList.isEmpty := by
 have h1 : ((toL s).all fun c => decide (33 ≤ c.toNat ∧ c.toNat ≤ 126 ∧ c.toNat ≠ 34)) = true := by
  rw [List.all_eq_true]
  intro c hc
  obtain ⟨k, hk, rfl⟩ := mem_at s c hc
  exact decide_eq_true (h k hk)
 rw [plainL, h1, ByteArray.toList_eq]
 show _ = !(toL s).isEmpty
 cases toL s <;> rfl
theorem plain_walk (s : ByteArray) (w : World) (hs : (s.size : Int) ≤ 9223372036854775807) :
  Calls Tryz.prog 49 #[.string s] w fun e w' => e = .returned (.bool (plainL (toL s))) ∧ w = w' := by
 go_enter Tryz.func49, Tryz.ntmps49
 go_wp2
 go_loop [6] (fun i => ∃ k : Nat, k ≤ s.size ∧ i = .int .i64 k ∧ ∀ j (hj : j < s.size), j < k → 33 ≤ s[j].toNat ∧ s[j].toNat ≤ 126 ∧ s[j].toNat ≠ 34) (fun i => s.size - (intOf i).toNat)
 case atStart => exact ⟨0, by omega, rfl, fun j _ h => by omega⟩
 case round =>
  obtain ⟨k, hk, rfl, hno⟩ := hrel
  have hno' := Lib.hid hno
  clear hno
  by_cases hlt : k < s.size
  ·obtain ⟨c, hc⟩ : ∃ c, s[k] = c := ⟨_, rfl⟩
   have hc' := Lib.hid hc
   by_cases hb : 33 ≤ c.toNat ∧ c.toNat ≤ 126 ∧ c.toNat ≠ 34
   ·obtain ⟨b1, b2, b3⟩ := hb
    have b1' : ¬ (c.toNat : Int) ≤ 32 := by omega
    have b2' : ¬ 126 < (c.toNat : Int) := by omega
    have b3' : ((c.toNat : Int) == 34) = false := by simp; omega
    go_wp2
    go_round
    case rel => exact ⟨k + 1, by omega, by go_num, fun j hj hlt' => by
     by_cases h : j = k
     ·subst h; rw [hc'.out]; exact ⟨b1, b2, b3⟩
     ·exact hno'.out j hj (by omega)⟩
    case measure => simp [intOf]; omega
   ·have hf := Lib.hid (plain_no hc'.out hb)
    by_cases d1 : (c.toNat : Int) ≤ 32
    ·clear hb
     go_wp2
     go_ret
     exact ⟨ret_bool hf.out.symm, rfl⟩
    ·by_cases d2 : 126 < (c.toNat : Int)
     ·clear hb
      go_wp2
      go_ret
      exact ⟨ret_bool hf.out.symm, rfl⟩
     ·have d3 : ((c.toNat : Int) == 34) = true := by simp; omega
      clear hb
      go_wp2
      go_ret
      exact ⟨ret_bool hf.out.symm, rfl⟩
  ·have hf := Lib.hid (plain_yes (s := s) fun j hj => hno'.out j hj (by omega))
   go_wp2
   go_ret
   exact ⟨ret_bool hf.out.symm, rfl⟩
theorem hexi (n : Nat) (h : n < 16) (w : World) : (Instr.index 9 (.string ⟨#[48, 49, 50, 51, 52, 53, 54, 55, 56, 57, 97, 98, 99, 100, 101, 102]⟩) (.int .u8 (n : Int))).run Tryz.prog w = .ok (.int .u8 ((hexd n).toNat : Int)) w := by
 rcases (by omega : n = 0 ∨ n = 1 ∨ n = 2 ∨ n = 3 ∨ n = 4 ∨ n = 5 ∨ n = 6 ∨ n = 7 ∨ n = 8 ∨ n = 9 ∨ n = 10 ∨ n = 11 ∨ n = 12 ∨ n = 13 ∨ n = 14 ∨ n = 15) with rfl | rfl | rfl | rfl | rfl | rfl | rfl | rfl | rfl | rfl | rfl | rfl | rfl | rfl | rfl | rfl
 all_goals kernel_rfl
theorem hex_hi (c : UInt8) (w : World) : (Instr.index 9 (.string ⟨#[48, 49, 50, 51, 52, 53, 54, 55, 56, 57, 97, 98, 99, 100, 101, 102]⟩) (.int .u8 ((c.toNat : Int) / 16))).run Tryz.prog w = .ok (.int .u8 ((hexd (c.toNat / 16)).toNat : Int)) w :=
 hexi (c.toNat / 16) (by have := c.toNat_lt; omega) w
theorem hex_lo (c : UInt8) (w : World) : (Instr.index 9 (.string ⟨#[48, 49, 50, 51, 52, 53, 54, 55, 56, 57, 97, 98, 99, 100, 101, 102]⟩) (.int .u8 ((c.toNat : Int) % 16))).run Tryz.prog w = .ok (.int .u8 ((hexd (c.toNat % 16)).toNat : Int)) w :=
 hexi (c.toNat % 16) (by omega) w
end QuoteWalk
end Go.Proofs.YtbphobmohdclaaaGreatDoor
end
section
namespace Go.Proofs
open Go.Shelf
def Tryz.zlays166_ren : Go.Shelf.Ren := ⟨fun | 166 => 41 | 240 => 65 | 276 => 79 | n => n, fun | 0 => 0 | 3 => 3 | 4 => 4 | 9 => 9 | 20 => 20 | 37 => 63 | 70 => 62 | 72 => 65 | 75 => 67 | 164 => 101 | 80 => 70 | 5 => 5 | n => n, fun | n => n⟩
theorem Tryz.zlays166 : Go.Proofs.Lays.n166 Tryz.prog Tryz.zlays166_ren := {
 mixed := by kernel_rfl
 f166 := Tryz.func41.trans (congrArg some (by kernel_rfl))
 f240 := Tryz.func65.trans (congrArg some (by kernel_rfl))
 f276 := Tryz.func79.trans (congrArg some (by kernel_rfl))
 t0 := Tryz.underlying0
 a0 := Tryz.isAgg0
 z0 := Tryz.sizeOf0
 v0 := Tryz.zeroValue0
 t3 := Tryz.underlying3
 a3 := Tryz.isAgg3
 z3 := Tryz.sizeOf3
 v3 := Tryz.zeroValue3
 t4 := Tryz.underlying4
 a4 := Tryz.isAgg4
 z4 := Tryz.sizeOf4
 v4 := Tryz.zeroValue4
 t9 := Tryz.underlying9
 a9 := Tryz.isAgg9
 z9 := Tryz.sizeOf9
 v9 := Tryz.zeroValue9
 t20 := Tryz.underlying20
 a20 := Tryz.isAgg20
 z20 := Tryz.sizeOf20
 v20 := Tryz.zeroValue20
 t37 := Tryz.underlying63
 a37 := Tryz.isAgg63
 z37 := Tryz.sizeOf63
 v37 := Tryz.zeroValue63
 t70 := Tryz.underlying62
 a70 := Tryz.isAgg62
 z70 := Tryz.sizeOf62
 v70 := Tryz.zeroValue62
 t72 := Tryz.underlying65
 a72 := Tryz.isAgg65
 z72 := Tryz.sizeOf65
 v72 := Tryz.zeroValue65
 t75 := Tryz.underlying67
 a75 := Tryz.isAgg67
 z75 := Tryz.sizeOf67
 v75 := Tryz.zeroValue67
 t164 := Tryz.underlying101
 a164 := Tryz.isAgg101
 z164 := Tryz.sizeOf101
 v164 := Tryz.zeroValue101 }
theorem Tryz.zBuilder_Extra_166 : Builder.Extra Tryz.prog Tryz.zlays166_ren := {
 sizeBuilder := by kernel_rfl
 liesBuilder := by kernel_rfl
 t5 := Tryz.underlying5
 a5 := Tryz.isAgg5
 z5 := Tryz.sizeOf5
 v5 := Tryz.zeroValue5
 infoByte := by kernel_rfl
 cellsByte := by kernel_rfl
 sizeByte := by kernel_rfl
 neB5 := by decide }
def Tryz.zlays167_ren : Go.Shelf.Ren := ⟨fun | 167 => 57 | 240 => 65 | 276 => 79 | n => n, fun | 0 => 0 | 4 => 4 | 5 => 5 | 9 => 9 | 20 => 20 | 37 => 63 | 70 => 62 | 72 => 65 | 75 => 67 | 164 => 101 | 80 => 70 | n => n, fun | n => n⟩
theorem Tryz.zlays167 : Go.Proofs.Lays.n167 Tryz.prog Tryz.zlays167_ren := {
 mixed := by kernel_rfl
 f167 := Tryz.func57.trans (congrArg some (by kernel_rfl))
 f240 := Tryz.func65.trans (congrArg some (by kernel_rfl))
 f276 := Tryz.func79.trans (congrArg some (by kernel_rfl))
 t0 := Tryz.underlying0
 a0 := Tryz.isAgg0
 z0 := Tryz.sizeOf0
 v0 := Tryz.zeroValue0
 t4 := Tryz.underlying4
 a4 := Tryz.isAgg4
 z4 := Tryz.sizeOf4
 v4 := Tryz.zeroValue4
 t5 := Tryz.underlying5
 a5 := Tryz.isAgg5
 z5 := Tryz.sizeOf5
 v5 := Tryz.zeroValue5
 t9 := Tryz.underlying9
 a9 := Tryz.isAgg9
 z9 := Tryz.sizeOf9
 v9 := Tryz.zeroValue9
 t20 := Tryz.underlying20
 a20 := Tryz.isAgg20
 z20 := Tryz.sizeOf20
 v20 := Tryz.zeroValue20
 t37 := Tryz.underlying63
 a37 := Tryz.isAgg63
 z37 := Tryz.sizeOf63
 v37 := Tryz.zeroValue63
 t70 := Tryz.underlying62
 a70 := Tryz.isAgg62
 z70 := Tryz.sizeOf62
 v70 := Tryz.zeroValue62
 t72 := Tryz.underlying65
 a72 := Tryz.isAgg65
 z72 := Tryz.sizeOf65
 v72 := Tryz.zeroValue65
 t75 := Tryz.underlying67
 a75 := Tryz.isAgg67
 z75 := Tryz.sizeOf67
 v75 := Tryz.zeroValue67
 t164 := Tryz.underlying101
 a164 := Tryz.isAgg101
 z164 := Tryz.sizeOf101
 v164 := Tryz.zeroValue101 }
theorem Tryz.zBuilder_Extra_167 : Builder.Extra Tryz.prog Tryz.zlays167_ren := {
 sizeBuilder := by kernel_rfl
 liesBuilder := by kernel_rfl
 t5 := Tryz.underlying5
 a5 := Tryz.isAgg5
 z5 := Tryz.sizeOf5
 v5 := Tryz.zeroValue5
 infoByte := by kernel_rfl
 cellsByte := by kernel_rfl
 sizeByte := by kernel_rfl
 neB5 := by decide }
open Go.RowKit in
theorem Tryz.zBuilder_WriteByte (B b : Nat) (bs : List Value) (c : Int) (w : World) (h : Lib.IsBuilder 65 5 B b bs w) (hlen : bs.length + 1 ≤ 140737488355328) (hBw : B ≤ w.heap.size) :
  Calls Tryz.prog 57 #[.pointer (some ⟨b, 0, none⟩), .int .u8 c] w fun e w' => e = .returned .nilIface ∧ (Lib.BuilderAt 65 5 B b (.pointer (some ⟨b, 0, none⟩)) (bs ++ [.int .u8 c]) w' ∧ Below B w w') := Any.Builder_WriteByte Tryz.zlays167 Tryz.zBuilder_Extra_167 B b bs c w h hlen hBw
open Go.RowKit in
theorem Tryz.zBuilder_WriteString (B b : Nat) (bs : List Value) (s : ByteArray) (w : World) (h : Lib.IsBuilder 65 5 B b bs w) (hlen : bs.length + s.size ≤ 140737488355328) (hBw : B ≤ w.heap.size) :
  Calls Tryz.prog 41 #[.pointer (some ⟨b, 0, none⟩), .string s] w fun e w' => e = .returned (.tuple #[.int .i64 s.size, .nilIface]) ∧ (Lib.BuilderAt 65 5 B b (.pointer (some ⟨b, 0, none⟩)) (bs ++ Lib.strCells s) w' ∧ Below B w w') := Any.Builder_WriteString Tryz.zlays166 Tryz.zBuilder_Extra_166 B b bs s w h hlen hBw
end Go.Proofs
end
section
set_option maxRecDepth 100000
namespace Go.Proofs.YtbphobmohdclaaaGreatDoor
open Go.RowKit
namespace QuoteWalk
open Kit QuotePlain
def pre (s : ByteArray) (k : Nat) : Bs := 34 :: mid ((toL s).take k)
theorem pre_zero (s : ByteArray) : pre s 0 = [34] := by simp [pre, mid]
theorem pre_succ (s : ByteArray) (k : Nat) (h : k < s.size) {c : UInt8} (hc : s[k] = c) : pre s (k + 1) = pre s k ++ qb c := by
 have h' : k < (toL s).length := by rw [size_toL]; exact h
 have : (toL s)[k] = c := hc
 rw [pre, pre, List.take_succ_eq_append_getElem h', this, mid, mid, List.flatMap_append]
 simp
theorem pre_all (s : ByteArray) (k : Nat) (h : s.size ≤ k) : pre s k ++ [34] = quoteL (toL s) := by
 rw [pre, List.take_of_length_le (by rw [size_toL]; exact h)]; rfl
theorem qb_len (c : UInt8) : (qb c).length ≤ 4 := by unfold qb; split <;> simp
theorem mid_len (l : Bs) : (mid l).length ≤ 4 * l.length := by
 induction l with
 | nil => simp [mid]
 | cons c l ih =>
  have := qb_len c
  simp only [mid, List.flatMap_cons, List.length_append, List.length_cons] at ih ⊢
  omega
theorem pre_len (s : ByteArray) (k : Nat) : (pre s k).length ≤ 1 + 4 * k := by
 have h1 := mid_len ((toL s).take k)
 have h2 : ((toL s).take k).length ≤ k := List.length_take_le _ _
 simp only [pre, List.length_cons]; omega
def Bld (B : Nat) (l : Bs) (w : World) : Prop := Lib.BuilderAt 65 5 B B (.pointer (some ⟨B, 0, none⟩)) (Lib.byteCells l) w
theorem Bld.alloc {B : Nat} {l : Bs} {w : World} (h : Bld B l w) (o : Obj) : Bld B l (w.alloc o) := by
 obtain ⟨h1, v, h2, h3, h4⟩ := h
 refine ⟨h1, v, ?_, h3.alloc o, h4⟩
 rw [Lib.alloc_old _ _ _ (Array.getElem?_eq_some_iff.1 h2).1]; exact h2
theorem Bld.drew {B : Nat} {l : Bs} {w : World} (h : Bld B l w) : Bld B l w.drew := h
theorem writeByte (B : Nat) (l : Bs) (c : UInt8) (w : World) (h : Bld B l w) (hl : l.length < 140737488355328) (hB : B ≤ w.heap.size) :
  Calls Tryz.prog 57 #[.pointer (some ⟨B, 0, none⟩), .int .u8 (c.toNat : Int)] w fun e w' => e = .returned .nilIface ∧ Bld B (l ++ [c]) w' ∧ Below B w w' := by
 refine (Tryz.zBuilder_WriteByte B B (Lib.byteCells l) c.toNat w (.inr h) (by rw [Lib.byteCells_length]; omega) hB).mono ?_
 rintro e w' ⟨h1, h2, h3⟩
 exact ⟨h1, by rw [Bld, Lib.byteCells_append]; exact h2, h3⟩
theorem writeByte0 (w : World) (c : UInt8) :
  Calls Tryz.prog 57 #[.pointer (some ⟨w.heap.size, 0, none⟩), .int .u8 (c.toNat : Int)] (w.alloc (.cells #[.pointer none, .slice none 0 0] 65 (0, 0))) fun e w' => e = .returned .nilIface ∧ Bld w.heap.size [c] w' ∧ Below w.heap.size w w' := by
 refine (Tryz.zBuilder_WriteByte w.heap.size w.heap.size [] c.toNat _ (Lib.fresh_isBuilder _ _ w) (by decide) (by simp)).mono ?_
 rintro e w' ⟨h1, h2, h3⟩
 exact ⟨h1, h2, ((Below.refl _ _).alloc (Nat.le_refl _) _).trans h3⟩
theorem writeString (B : Nat) (l : Bs) (x : ByteArray) (w : World) (h : Bld B l w) (hl : l.length + x.size ≤ 140737488355328) (hB : B ≤ w.heap.size) :
  Calls Tryz.prog 41 #[.pointer (some ⟨B, 0, none⟩), .string x] w fun e w' => e = .returned (.tuple #[.int .i64 x.size, .nilIface]) ∧ Bld B (l ++ toL x) w' ∧ Below B w w' := by
 refine (Tryz.zBuilder_WriteString B B (Lib.byteCells l) x w (.inr h) (by rw [Lib.byteCells_length]; omega) hB).mono ?_
 rintro e w' ⟨h1, h2, h3⟩
 exact ⟨h1, by rw [Bld, Lib.byteCells_append]; exact h2, h3⟩
theorem bldString (B : Nat) (l : Bs) (w : World) (h : Bld B l w) (hB : B ≤ w.heap.size) :
  Calls Tryz.prog 42 #[.pointer (some ⟨B, 0, none⟩)] w fun e w' => e = .returned (.string (ofL l)) ∧ Below B w w' :=
 Tryz.Builder_String_any B B l w (.inr h) hB
theorem and_lo (c : UInt8) : bits BinOp.and IntKind.u8 (c.toNat : Int) 15 = (c.toNat : Int) % 16 := by
 have := all_bytes (p := fun c => decide (bits BinOp.and IntKind.u8 (c.toNat : Int) 15 = (c.toNat : Int) % 16)) (by decide +kernel) c
 exact of_decide_eq_true this
set_option maxHeartbeats 400000 in
theorem quote_walk (s : ByteArray) (w : World) (hs : s.size ≤ 1099511627776) :
  Calls Tryz.prog 35 #[.string s] w fun e w' => e = .returned (.string (ofL (quoteL (toL s)))) ∧ Below w.heap.size w w' := by
 go_enter Tryz.func35, Tryz.ntmps35
 go_wp2_with fail
 refine (writeByte0 w 34).mono ?_
 rintro e w1 ⟨rfl, hI1, hB1⟩
 go_wp2_with fail
 go_loopw [9] (fun i wr => ∃ k : Nat, k ≤ s.size ∧ i = .int .i64 k ∧ Bld w.heap.size (pre s k) wr ∧ Below w.heap.size w wr) (fun i _ => s.size - (intOf i).toNat)
 case atStart => exact ⟨0, by omega, rfl, by rw [pre_zero]; exact hI1, hB1⟩
 case round =>
  obtain ⟨k, hk, rfl, hI, hB⟩ := hrel
  clear hI1 hB1
  have hpl := pre_len s k
  by_cases hlt : k < s.size
  ·obtain ⟨c, hc⟩ : ∃ c, s[k] = c := ⟨_, rfl⟩
   have hsn := Lib.hid (pre_succ s k hlt hc)
   go_wp2_with fail
   refine (itself_walk c _).mono ?_
   rintro e w' ⟨rfl, rfl⟩
   cases hg : good c with
   | true =>
    have hq := Lib.hid (show qb c = [c] by rw [qb, if_pos hg])
    clear hg
    go_wp2_with fail
    refine (writeByte w.heap.size (pre s k) c _ hI (by omega) hB.size).mono ?_
    rintro e w2 ⟨rfl, hI2, hb2⟩
    go_wp2
    go_roundw
    case rel => exact ⟨k + 1, by omega, by go_num, by rw [hsn.out, hq.out]; exact hI2, hB.trans hb2⟩
    case measure => simp [intOf]; omega
   | false =>
    have hq := Lib.hid (show qb c = [92, 120, hexd (c.toNat / 16), hexd (c.toNat % 16)] by rw [qb, hg]; rfl)
    clear hg
    have x1 := hex_hi c
    have x2 := hex_lo c
    have x3 := and_lo c
    have hcv := fun w2 : World => conv_new (P := Tryz.prog) w2 [92, 120, hexd (c.toNat / 16), hexd (c.toNat % 16)] 63 5 9 Tryz.underlying63 Tryz.underlying5 Tryz.underlying9 #[.int .u8 92, .int .u8 120, .int .u8 (hexd (c.toNat / 16)).toNat, .int .u8 (hexd (c.toNat % 16)).toNat] rfl (0, 0) w2.heap.size 4 4 rfl rfl
    go_wp2_with fail
    go_still_tail 6, (by kernel_rfl)
    change wpList _ _ _ _ _ wr.drew
    obtain ⟨w2, hw2, hI2, hsz⟩ : ∃ w2 : World, Below w.heap.size w w2 ∧ Bld w.heap.size (pre s k) w2 ∧ w2 = wr.drew := ⟨_, hB.drew, hI.drew, rfl⟩
    rw [← hsz]
    clear hsz hI hB
    go_wp2_with fail
    refine (writeString w.heap.size (pre s k) (ofL [92, 120, hexd (c.toNat / 16), hexd (c.toNat % 16)]) _ (hI2.alloc _) (by rw [size_ofL]; show _ + 4 ≤ _; omega) (by have := hw2.size; simp; omega)).mono ?_
    rintro e w3 ⟨rfl, hI3, hb3⟩
    rw [toL_ofL] at hI3
    have hB3 := (hw2.alloc hw2.size _).trans hb3
    clear hb3 hcv x1 x2 x3 hI2
    go_wp2
    go_roundw
    case rel => exact ⟨k + 1, by omega, by go_num, by rw [hsn.out, hq.out]; exact hI3, hB3⟩
    case measure => simp [intOf]; omega
  ·have hfin := Lib.hid (pre_all s k (by omega))
   go_wp2_with fail
   refine (writeByte w.heap.size (pre s k) 34 _ hI (by omega) hB.size).mono ?_
   rintro e w2 ⟨rfl, hI2, hb2⟩
   go_wp2_with fail
   refine (bldString w.heap.size _ _ hI2 (hB.trans hb2).size).mono ?_
   rintro e w3 ⟨rfl, hb3⟩
   go_wp2
   go_ret
   exact ⟨ret_string (by rw [hfin.out]), (hB.trans hb2).trans hb3⟩
end QuoteWalk
end Go.Proofs.YtbphobmohdclaaaGreatDoor
end
section
set_option maxRecDepth 100000
namespace Go.Proofs.YtbphobmohdclaaaGreatDoor
open Go.RowKit
namespace QuoteWalk
open Kit QuotePlain
theorem idx_hexv (c : UInt8) : Lib.indexByte digits c = if hexv c < 16 then (hexv c : Int) else -1 := by
 have := all_bytes (p := fun c => decide (Lib.indexByte digits c = if hexv c < 16 then (hexv c : Int) else -1)) (by decide +kernel) c
 exact of_decide_eq_true this
theorem indexByte_walk (c : UInt8) (w : World) :
  Calls Tryz.prog 85 #[.string ⟨#[48, 49, 50, 51, 52, 53, 54, 55, 56, 57, 97, 98, 99, 100, 101, 102]⟩, .int .u8 (c.toNat : Int)] w fun e w' => e = .returned (.int .i64 (if hexv c < 16 then (hexv c : Int) else -1)) ∧ w' = w := by
 have h := Tryz.strings_IndexByte ⟨#[48, 49, 50, 51, 52, 53, 54, 55, 56, 57, 97, 98, 99, 100, 101, 102]⟩ (c.toNat : Int) w
 refine h.mono ?_
 rintro e w' ⟨h1, h2⟩
 refine ⟨?_, h2⟩
 rw [h1, ← idx_hexv]
 simp
 rfl
def TakenPost (l : Bs) (w : World) (e : Ending) (w' : World) : Prop := e = .returned (.tuple #[.int .u8 ((taken l).1.toNat : Int), .int .i64 ((taken l).2 : Int)]) ∧ ∃ n, w' = w.drewN n
theorem takenPost_of {l : Bs} {w : World} {x y : Int} {c : UInt8} {n : Nat} (h : taken l = (c, n)) (hx : x = c.toNat) (hy : y = n) : TakenPost l w (.returned (.tuple #[.int .u8 x, .int .i64 y])) w := by
 subst hx hy
 exact ⟨by rw [h], 0, rfl⟩
theorem taken_one (c : UInt8) (s : ByteArray) (w : World) (h : 0 < s.size) (hc : s[0] = c) (h92 : c ≠ 92) (l : Bs) (hl : taken l = if good c then (c, 1) else (0, 0)) :
  Calls Tryz.prog 69 #[.string s] w (TakenPost l w) := by
 have hn : ((c.toNat : Int) != 92) = true := by
  rw [bne_iff_ne]; intro e; apply h92; apply UInt8.toNat_inj.1; show c.toNat = 92; omega
 clear h92
 cases hg : good c with
 | true =>
  rw [hg, if_pos rfl] at hl
  have hl' := Lib.hid hl
  have hg' := Lib.hid hg
  clear hl hg
  go_enter Tryz.func69, Tryz.ntmps69
  go_wp2_with fail
  refine (itself_walk c _).mono ?_
  rintro e w' ⟨rfl, rfl⟩
  rw [hg'.out]
  go_wp2
  go_ret2
  exact takenPost_of hl'.out rfl rfl
 | false =>
  rw [hg, if_neg (by decide)] at hl
  have hl' := Lib.hid hl
  have hg' := Lib.hid hg
  clear hl hg
  go_enter Tryz.func69, Tryz.ntmps69
  go_wp2_with fail
  refine (itself_walk c _).mono ?_
  rintro e w' ⟨rfl, rfl⟩
  rw [hg'.out]
  go_wp2
  go_ret2
  exact takenPost_of hl'.out rfl rfl
theorem taken_short (s : ByteArray) (w : World) (h : 0 < s.size) (hc : s[0] = 92) (h4 : s.size < 4) (l : Bs) (hl : taken l = (0, 0)) :
  Calls Tryz.prog 69 #[.string s] w (TakenPost l w) := by
 have hl' := Lib.hid hl
 clear hl
 go_enter Tryz.func69, Tryz.ntmps69
 go_wp2
 go_ret2
 exact takenPost_of hl'.out rfl rfl
theorem taken_nox (x : UInt8) (s : ByteArray) (w : World) (h : 4 ≤ s.size) (hc : s[0] = 92) (hx : s[1] = x) (h4 : x ≠ 120) (l : Bs) (hl : taken l = (0, 0)) :
  Calls Tryz.prog 69 #[.string s] w (TakenPost l w) := by
 have hl' := Lib.hid hl
 clear hl
 have hn : ((x.toNat : Int) != 120) = true := by
  rw [bne_iff_ne]; intro e; apply h4; apply UInt8.toNat_inj.1; show x.toNat = 120; omega
 clear h4
 go_enter Tryz.func69, Tryz.ntmps69
 go_wp2
 go_ret2
 exact takenPost_of hl'.out rfl rfl
theorem takenPost_drew {l : Bs} {w w2 : World} {x y : Int} {c : UInt8} {n : Nat} (h : taken l = (c, n)) (hx : x = c.toNat) (hy : y = n) (hw : ∃ n, w2 = w.drewN n) : TakenPost l w (.returned (.tuple #[.int .u8 x, .int .i64 y])) w2 := by
 subst hx hy
 exact ⟨by rw [h], hw⟩
theorem or_hex : ∀ m : Nat, m < 16 → ∀ n : Nat, n < 16 → bits BinOp.or IntKind.i64 ((m : Int) * 16) (n : Int) % 256 = ((UInt8.ofNat (m * 16 + n)).toNat : Int) := by decide +kernel
set_option maxHeartbeats 1000000 in
theorem taken_hex (a b : UInt8) (s : ByteArray) (w : World) (h : 4 ≤ s.size) (hc : s[0] = 92) (hx : s[1] = 120) (ha : s[2] = a) (hb : s[3] = b) (l : Bs) (m n : Nat) (h1 : hexv a = m) (h2 : hexv b = n) (hm : m < 16) (hn : n < 16) (v : UInt8) (hv : UInt8.ofNat (m * 16 + n) = v) (hl : taken l = if good v then (0, 0) else (v, 4)) :
  Calls Tryz.prog 69 #[.string s] w (TakenPost l w) := by
 have c1 := indexByte_walk a
 have c2 := indexByte_walk b
 rw [h1, if_pos hm] at c1
 rw [h2, if_pos hn] at c2
 have d1 := Lib.hid c1
 have d2 := Lib.hid c2
 have hor := or_hex m hm n hn
 rw [hv] at hor
 have hor' := Lib.hid hor
 cases hg : good v with
 | true =>
  rw [hg, if_pos rfl] at hl
  have hl' := Lib.hid hl
  have hg' := Lib.hid hg
  clear hl h1 h2 c1 c2 hor hv hg
  go_enter Tryz.func69, Tryz.ntmps69
  go_wp2_with fail
  go_quiet ((first | (go_at_call 85; exact Calls.quiet_of_same (d1.out _)) | (go_at_call 85; exact Calls.quiet_of_same (d2.out _))))
  go_wp2_with fail
  rw [hor'.out]
  refine (itself_walk v _).mono ?_
  rintro e w' ⟨rfl, rfl⟩
  rw [hg'.out]
  go_wp2
  go_ret2
  exact takenPost_drew hl'.out rfl rfl ⟨_, rfl⟩
 | false =>
  rw [hg, if_neg (by decide)] at hl
  have hl' := Lib.hid hl
  have hg' := Lib.hid hg
  clear hl h1 h2 c1 c2 hor hv hg
  go_enter Tryz.func69, Tryz.ntmps69
  go_wp2_with fail
  go_quiet ((first | (go_at_call 85; exact Calls.quiet_of_same (d1.out _)) | (go_at_call 85; exact Calls.quiet_of_same (d2.out _))))
  go_wp2_with fail
  rw [hor'.out]
  refine (itself_walk v _).mono ?_
  rintro e w' ⟨rfl, rfl⟩
  rw [hg'.out]
  go_wp2
  go_ret2
  exact takenPost_drew hl'.out rfl rfl ⟨_, rfl⟩
theorem taken_bad1a (a b : UInt8) (s : ByteArray) (w : World) (h : 4 ≤ s.size) (hc : s[0] = 92) (hx : s[1] = 120) (ha : s[2] = a) (hb : s[3] = b) (l : Bs) (h1 : ¬ hexv a < 16) (n : Nat) (h2 : hexv b = n) (hn : n < 16) (hl : taken l = (0, 0)) :
  Calls Tryz.prog 69 #[.string s] w (TakenPost l w) := by
 have c1 := indexByte_walk a
 have c2 := indexByte_walk b
 rw [if_neg h1] at c1
 rw [h2, if_pos hn] at c2
 have d1 := Lib.hid c1
 have d2 := Lib.hid c2
 have hl' := Lib.hid hl
 clear hl h1 h2 c1 c2
 go_enter Tryz.func69, Tryz.ntmps69
 go_wp2_with fail
 go_quiet ((first | (go_at_call 85; exact Calls.quiet_of_same (d1.out _)) | (go_at_call 85; exact Calls.quiet_of_same (d2.out _))))
 go_wp2_with fail
 go_ret2
 exact takenPost_drew hl'.out rfl rfl ⟨_, rfl⟩
theorem taken_bad1b (a b : UInt8) (s : ByteArray) (w : World) (h : 4 ≤ s.size) (hc : s[0] = 92) (hx : s[1] = 120) (ha : s[2] = a) (hb : s[3] = b) (l : Bs) (h1 : ¬ hexv a < 16) (h2 : ¬ hexv b < 16) (hl : taken l = (0, 0)) :
  Calls Tryz.prog 69 #[.string s] w (TakenPost l w) := by
 have c1 := indexByte_walk a
 have c2 := indexByte_walk b
 rw [if_neg h1] at c1
 rw [if_neg h2] at c2
 have d1 := Lib.hid c1
 have d2 := Lib.hid c2
 have hl' := Lib.hid hl
 clear hl h1 h2 c1 c2
 go_enter Tryz.func69, Tryz.ntmps69
 go_wp2_with fail
 go_quiet ((first | (go_at_call 85; exact Calls.quiet_of_same (d1.out _)) | (go_at_call 85; exact Calls.quiet_of_same (d2.out _))))
 go_wp2_with fail
 go_ret2
 exact takenPost_drew hl'.out rfl rfl ⟨_, rfl⟩
theorem taken_bad2 (a b : UInt8) (s : ByteArray) (w : World) (h : 4 ≤ s.size) (hc : s[0] = 92) (hx : s[1] = 120) (ha : s[2] = a) (hb : s[3] = b) (l : Bs) (m : Nat) (h1 : hexv a = m) (hm : m < 16) (h2 : ¬ hexv b < 16) (hl : taken l = (0, 0)) :
  Calls Tryz.prog 69 #[.string s] w (TakenPost l w) := by
 have c1 := indexByte_walk a
 have c2 := indexByte_walk b
 rw [h1, if_pos hm] at c1
 rw [if_neg h2] at c2
 have d1 := Lib.hid c1
 have d2 := Lib.hid c2
 have hl' := Lib.hid hl
 clear hl h1 h2 c1 c2
 go_enter Tryz.func69, Tryz.ntmps69
 go_wp2_with fail
 go_quiet ((first | (go_at_call 85; exact Calls.quiet_of_same (d1.out _)) | (go_at_call 85; exact Calls.quiet_of_same (d2.out _))))
 go_wp2_with fail
 go_ret2
 exact takenPost_drew hl'.out rfl rfl ⟨_, rfl⟩
theorem toL_get (s : ByteArray) (k : Nat) (h : k < s.size) : (toL s)[k]? = some s[k] := by
 rw [List.getElem?_eq_getElem (by rw [size_toL]; exact h)]; rfl
theorem taken_walk (s : ByteArray) (w : World) (h : 0 < s.size) : Calls Tryz.prog 69 #[.string s] w (TakenPost (toL s) w) := by
 have g0 := toL_get s 0 h
 have hsz := size_toL s
 generalize hl : toL s = l at *
 match l, g0 with
 | c :: r, g0 =>
  simp only [List.getElem?_cons_zero, Option.some.injEq] at g0
  by_cases h92 : c = 92
  ·subst h92
   by_cases h4 : s.size < 4
   ·refine taken_short s w h g0.symm h4 _ ?_
    match r, hsz with
    | [], _ => rfl
    | [_], _ => rfl
    | [_, _], _ => rfl
    | _ :: _ :: _ :: _, hsz => simp at hsz; omega
   ·have h4' : 4 ≤ s.size := by omega
    match r, hsz with
    | [], hsz => simp at hsz; omega
    | [_], hsz => simp at hsz; omega
    | [_, _], hsz => simp at hsz; omega
    | x :: a :: b :: r, hsz =>
     have g1 := toL_get s 1 (by omega)
     have g2 := toL_get s 2 (by omega)
     have g3 := toL_get s 3 (by omega)
     rw [hl] at g1 g2 g3
     simp only [List.getElem?_cons_succ, List.getElem?_cons_zero, Option.some.injEq] at g1 g2 g3
     have ht : taken (92 :: x :: a :: b :: r) = if x = 120 ∧ hexv a < 16 ∧ hexv b < 16 ∧ good (UInt8.ofNat (hexv a * 16 + hexv b)) = false then (UInt8.ofNat (hexv a * 16 + hexv b), 4) else (0, 0) := by
      rw [taken_cons, if_neg (by simp)]
     by_cases hx : x = 120
     ·subst hx
      by_cases h1 : hexv a < 16
      ·by_cases h2 : hexv b < 16
       ·refine taken_hex a b s w h4' g0.symm g1.symm g2.symm g3.symm _ _ _ rfl rfl h1 h2 _ rfl ?_
        rw [ht]
        cases good (UInt8.ofNat (hexv a * 16 + hexv b)) <;> simp [h1, h2]
       ·refine taken_bad2 a b s w h4' g0.symm g1.symm g2.symm g3.symm _ _ rfl h1 h2 ?_
        rw [ht, if_neg (fun e => h2 e.2.2.1)]
      ·have ht' : taken (92 :: 120 :: a :: b :: r) = (0, 0) := by rw [ht, if_neg (fun e => h1 e.2.1)]
       by_cases h2 : hexv b < 16
       ·exact taken_bad1a a b s w h4' g0.symm g1.symm g2.symm g3.symm _ h1 _ rfl h2 ht'
       ·exact taken_bad1b a b s w h4' g0.symm g1.symm g2.symm g3.symm _ h1 h2 ht'
     ·refine taken_nox x s w h4' g0.symm g1.symm hx _ ?_
      rw [ht, if_neg (fun e => hx e.1)]
  ·refine taken_one c s w h g0.symm h92 _ ?_
   rw [taken_cons, if_pos h92]
end QuoteWalk
end Go.Proofs.YtbphobmohdclaaaGreatDoor
end
section
set_option maxRecDepth 100000
namespace Go.Proofs.YtbphobmohdclaaaGreatDoor
open Go.RowKit
namespace QuoteWalk
open Kit QuotePlain
def rTxt : Option (Bs × Nat) → ByteArray | some (t, _) => ofL t | none => ⟨#[]⟩
def rLen : Option (Bs × Nat) → Nat | some (_, n) => n | none => 0
def rOk : Option (Bs × Nat) → Bool | some _ => true | none => false
def QuotedPost (r : Option (Bs × Nat)) (B : Nat) (w : World) (e : Ending) (w' : World) : Prop := e = .returned (.tuple #[.string (rTxt r), .int .i64 (rLen r : Int), .bool (rOk r)]) ∧ Below B w w'
def Own8 (B : Nat) (v : Value) (l : Bs) (w : World) : Prop := w.ownsRow B 5 1 v l.length (Lib.byteCells l)
theorem Own8.drewN {B : Nat} {v : Value} {l : Bs} {w : World} (h : Own8 B v l w) (n : Nat) : Own8 B v l (w.drewN n) := h
theorem conv_own {B : Nat} {v : Value} {l : Bs} {w : World} (h : Own8 B v l w) : (convert 63 9 v).run Tryz.prog w = .ok (.string (ofL l)) w := by
 rcases h.2 with ⟨rfl, h0⟩ | ⟨g, cap, cur, rfl, hb, hg, hn, hm, hs, ht⟩
 ·have : l = [] := List.length_eq_zero_iff.1 h0
  subst this
  exact run_convert_bytes_nil w 63 5 Tryz.underlying63 Tryz.underlying5 0 0 9 Tryz.underlying9
 ·have hb : Lib.Bytes w g 0 (ofL l) := by
   intro i hi
   rw [size_ofL] at hi
   simp only [World.cell?, hg]
   show cur[0 + i]? = _
   rw [Nat.zero_add]
   have h1 : (cur.toList.take (l.length * 1))[i]? = (Lib.byteCells l)[i]? := by rw [ht]
   rw [List.getElem?_take, if_pos (by omega), Array.getElem?_toList] at h1
   rw [h1, Lib.byteCells, List.getElem?_map, List.getElem?_eq_getElem hi]
   rfl
  have := Lib.run_convert_whole (P := Tryz.prog) w 63 5 9 Tryz.underlying63 Tryz.underlying5 Tryz.underlying9 g 0 (ofL l) hb cap
  rw [size_ofL] at this
  exact this
theorem info8 : (Tryz.prog.info? 5).map (fun i => (i.zero, i.size, i.bytes)) = some (some (.int .u8 0), 1, 1) := by kernel_rfl
theorem drop_at (s : ByteArray) (k : Nat) (h : k < s.size) : (toL s).drop k = s[k] :: (toL s).drop (k + 1) := by
 rw [List.drop_eq_getElem_cons (by rw [size_toL]; exact h)]; rfl
theorem toL_from (s : ByteArray) (k : Nat) : toL (s.extract k s.size) = (toL s).drop k := by
 rw [toL, Lib.extract_data, List.take_of_length_le]
 ·rfl
 ·rw [List.length_drop]
  have : s.data.toList.length = s.size := Array.length_toList
  omega
theorem size_from (s : ByteArray) (k : Nat) : (s.extract k s.size).size = s.size - k := by
 rw [← size_toL, toL_from, List.length_drop, size_toL]
theorem quoted_none (s : ByteArray) (w : World) (h : s.size = 0) : Calls Tryz.prog 48 #[.string s] w (QuotedPost (qtd (toL s)) w.heap.size w) := by
 have hl : toL s = [] := List.length_eq_zero_iff.1 (by rw [size_toL]; exact h)
 obtain rfl : s = ⟨#[]⟩ := by rw [← ofL_toL s, hl]; rfl
 go_enter Tryz.func48, Tryz.ntmps48
 go_wp2
 go_ret3
 exact ⟨rfl, Below.refl _ _⟩
theorem quoted_nomark (s : ByteArray) (w : World) (h : 0 < s.size) (c : UInt8) (hc : s[0] = c) (h34 : c ≠ 34) : Calls Tryz.prog 48 #[.string s] w (QuotedPost (qtd (toL s)) w.heap.size w) := by
 have hq : qtd (toL s) = none := by
  have := drop_at s 0 h
  rw [List.drop_zero] at this
  rw [this, qtd_cons, if_neg (by rw [hc]; exact h34)]
 have hq' := Lib.hid hq
 have hne := isEmpty_false (show s ≠ ⟨#[]⟩ by rintro rfl; exact absurd h (by decide))
 have hn : ((c.toNat : Int) != 34) = true := by
  rw [bne_iff_ne]; intro e; apply h34; apply UInt8.toNat_inj.1; show c.toNat = 34; omega
 clear hq h34
 go_enter Tryz.func48, Tryz.ntmps48
 go_wp2
 go_ret3
 rw [hq'.out]
 exact ⟨rfl, Below.refl _ _⟩
theorem quoted_mark (s : ByteArray) (w : World) (hs : s.size ≤ 1099511627776) (h : 0 < s.size) (hc : s[0] = 34) : Calls Tryz.prog 48 #[.string s] w (QuotedPost (qtd (toL s)) w.heap.size w) := by
 have hq : qtd (toL s) = (body ((toL s).drop 1)).map fun x => (x.1, x.2 + 1) := by
  have := drop_at s 0 h
  rw [List.drop_zero] at this
  conv => lhs; rw [this, qtd_cons, if_pos hc]
 have hne := isEmpty_false (show s ≠ ⟨#[]⟩ by rintro rfl; exact absurd h (by decide))
 obtain ⟨i0, hi, hz0, hz1, hz2⟩ := info_parts info8
 have hi' := Lib.hid hi
 have hz0' := Lib.hid hz0
 have hz1' := Lib.hid hz1
 have hz2' := Lib.hid hz2
 have hq' := Lib.hid hq
 clear hq hi hz0 hz1 hz2
 go_enter Tryz.func48, Tryz.ntmps48
 go_wp2
 go_loopw [5, 6] (fun v i wr => ∃ (k : Nat) (o : Bs), 1 ≤ k ∧ k ≤ s.size ∧ o.length ≤ k ∧ i = .int .i64 k ∧ Own8 w.heap.size v o wr ∧ Below w.heap.size w wr ∧
   Hid ((body ((toL s).drop k)).map (fun x => (o ++ x.1, k + x.2)) = qtd (toL s))) (fun _ i _ => s.size - (intOf i).toNat)
 case atStart =>
  refine ⟨1, [], by omega, h, by simp, rfl, World.ownsRow_nil _ _ _ _, Below.refl _ _, Lib.hid ?_⟩
  rw [hq'.out]
  congr 1
  funext x; simp; omega
 case round =>
  obtain ⟨k, o, hk1, hk, hol, rfl, hown, hB, hR⟩ := hrel
  clear hc
  by_cases hlt : k < s.size
  ·obtain ⟨c, hc⟩ : ∃ c, s[k] = c := ⟨_, rfl⟩
   have hd := drop_at s k hlt
   rw [hc] at hd
   by_cases h34 : c = 34
   ·subst h34
    have hr : qtd (toL s) = some (o, k + 1) := by
     rw [← hR.out, hd, body_mark]; simp
    have hr' := Lib.hid hr
    have hcv := conv_own hown
    have hd' := Lib.hid hd
    clear hr hd
    go_wp2
    go_ret3
    rw [hr'.out]
    exact ⟨rfl, hB⟩
   ·have hn : ((c.toNat : Int) == 34) = false := by
     rw [beq_eq_false_iff_ne]; intro e; apply h34; apply UInt8.toNat_inj.1; show c.toNat = 34; omega
    have hsz := size_from s k
    have ht := taken_walk (s.extract k s.size) wr (by omega)
    rw [toL_from, hd] at ht
    have hx : ∀ y n, taken (c :: (toL s).drop (k + 1)) = (y, n) → n ≠ 0 → (body ((toL s).drop (k + n))).map (fun x => ((o ++ [y]) ++ x.1, k + n + x.2)) = qtd (toL s) := by
     intro y n hyn hn0
     rw [← hR.out, hd, body_step c _ h34 (by rw [hyn]; exact hn0), hyn]
     rw [← hd, List.drop_drop, Option.map_map]
     congr 1
     funext x; simp; omega
    have hz : ∀ y, taken (c :: (toL s).drop (k + 1)) = (y, 0) → qtd (toL s) = none := by
     intro y hyn
     rw [← hR.out, hd, body_stop c _ h34 (by rw [hyn])]; rfl
    have hx' := Lib.hid hx
    have hz' := Lib.hid hz
    have hT : ∃ r, taken (c :: (toL s).drop (k + 1)) = r ∧ (r.2 ≤ s.size - k) := by
     refine ⟨_, rfl, ?_⟩
     by_cases h0 : (taken (c :: (toL s).drop (k + 1))).2 = 0
     ·omega
     ·have h1 := taken_of (l := c :: (toL s).drop (k + 1)) (c := (taken (c :: (toL s).drop (k + 1))).1) (n := (taken (c :: (toL s).drop (k + 1))).2) rfl h0
      have h2 := congrArg List.length h1.1
      rw [List.length_append] at h2
      have h3 : (c :: (toL s).drop (k + 1)).length = s.size - k := by rw [← hd, List.length_drop, size_toL]
      have h4 := h1.2
      omega
    obtain ⟨⟨y, n⟩, hyn, hnle⟩ := hT
    have hyn' := Lib.hid hyn
    simp only at hnle
    clear hx hz hd h34 hR hyn hq'
    go_wp2_with fail
    refine ht.mono ?_
    rintro e w1 ⟨rfl, q, rfl⟩
    clear ht
    rw [hyn'.out]
    by_cases hn0 : n = 0
    ·subst hn0
     have hr := Lib.hid (hz'.out y hyn'.out)
     go_wp2
     go_ret3
     rw [hr.out]
     exact ⟨rfl, bdrewN hB q⟩
    ·have hn1 : ((n : Int) == 0) = false := by rw [beq_eq_false_iff_ne]; omega
     have hnew := Lib.hid (hx'.out y n hyn'.out hn0)
     obtain ⟨w2, hown1, hB1, hw2⟩ : ∃ w2 : World, w2.ownsRow w.heap.size 5 1 u5 o.length (Lib.byteCells o) ∧ Below w.heap.size w w2 ∧ w2 = wr.drewN q := ⟨_, hown.drewN q, bdrewN hB q, rfl⟩
     rw [← hw2]
     have hol' : (o.length : Int) ≤ 1099511627776 := by omega
     have hBs := hB1.size
     clear hx' hz' hyn' hown hB hw2
     go_wp2_with (at_builtin; refine wpList_append_own _ rfl _ _ 63 rfl w.heap.size 5 i0 (.int .u8 0) 1 1 Tryz.underlying63 hi'.out hz0'.out hz1'.out hz2'.out rfl (by decide) _ _ _ rfl (hown1.alloc _) ⟨w2.heap.size, 0, none⟩ 1 1 [.int .u8 y.toNat] rfl rfl (cell_one_new _ _ _) (by intro u hu; simp at hu; subst hu; rfl) (by unfold maxLen; omega) (by omega) (by simp; omega) ?_; intro v' w3 hown' hgrow _; have hB3 : Below w.heap.size w w3 := (hB1.alloc hB1.size _).grown hgrow (by simp; omega) (fun j e => (hown1.lt j e).1); clear hgrow hown1 hB1)
     go_roundw
     case rel => exact ⟨k + n, o ++ [y], by omega, by omega, by simp; omega, by go_num, by rw [Own8, Lib.byteCells_append, List.length_append]; exact hown', hB3, hnew⟩
     case measure => simp [intOf]; omega
  ·have hr : qtd (toL s) = none := by
    rw [← hR.out, List.drop_eq_nil_of_le (by rw [size_toL]; omega), body_nil]; rfl
   have hr' := Lib.hid hr
   clear hr hq' hR
   go_wp2
   go_ret3
   rw [hr'.out]
   exact ⟨rfl, hB⟩
theorem quoted_walk (s : ByteArray) (w : World) (hs : s.size ≤ 1099511627776) : Calls Tryz.prog 48 #[.string s] w (QuotedPost (qtd (toL s)) w.heap.size w) := by
 by_cases h : 0 < s.size
 ·by_cases hc : s[0] = 34
  ·exact quoted_mark s w hs h hc
  ·exact quoted_nomark s w h _ rfl hc
 ·exact quoted_none s w (by omega)
end QuoteWalk
end Go.Proofs.YtbphobmohdclaaaGreatDoor
end
section
set_option maxRecDepth 100000
namespace Go.Proofs.YtbphobmohdclaaaGreatDoor
open Go.RowKit
namespace QuoteWalk
open Kit QuotePlain
def uTxt : Option Bs → ByteArray | some t => ofL t | none => ⟨#[]⟩
def UnqPost (r : Option Bs) (B : Nat) (w : World) (e : Ending) (w' : World) : Prop := e = .returned (.tuple #[.string (uTxt r), .bool r.isSome]) ∧ Below B w w'
def uOf (m : Nat) : Option (Bs × Nat) → Option Bs
 | some (t, n) => if n = m then some t else none
 | none => none
theorem unq_eq (l : Bs) : unq l = uOf l.length (qtd l) := by unfold unq uOf; cases qtd l <;> rfl
theorem unquote_walk (s : ByteArray) (w : World) (hs : s.size ≤ 1099511627776) : Calls Tryz.prog 24 #[.string s] w (UnqPost (unq (toL s)) w.heap.size w) := by
 have hq := quoted_walk s w hs
 have hu : unq (toL s) = uOf s.size (qtd (toL s)) := by rw [unq_eq, size_toL]
 cases hr : qtd (toL s) with
 | none =>
  rw [hr] at hu hq
  have hu' := Lib.hid (show unq (toL s) = none from hu)
  clear hu hr
  go_enter Tryz.func24, Tryz.ntmps24
  go_wp2_with fail
  refine hq.mono ?_
  rintro e w1 ⟨rfl, hb⟩
  simp only [rTxt, rLen, rOk]
  go_wp2
  go_ret2
  rw [hu'.out]
  exact ⟨rfl, hb⟩
 | some x =>
  obtain ⟨t, n⟩ := x
  rw [hr] at hu hq
  by_cases hn : n = s.size
  ·have hu' := Lib.hid (show unq (toL s) = some t by rw [hu, uOf]; simp [hn])
   have hb : ((n : Int) != (s.size : Int)) = false := by rw [bne_eq_false_iff_eq]; omega
   clear hu hr hn
   go_enter Tryz.func24, Tryz.ntmps24
   go_wp2_with fail
   refine hq.mono ?_
   rintro e w1 ⟨rfl, hb⟩
   simp only [rTxt, rLen, rOk]
   go_wp2
   go_ret2
   rw [hu'.out]
   exact ⟨rfl, hb⟩
  ·have hu' := Lib.hid (show unq (toL s) = none by rw [hu, uOf]; simp [hn])
   have hb : ((n : Int) != (s.size : Int)) = true := by rw [bne_iff_ne]; omega
   clear hu hr hn
   go_enter Tryz.func24, Tryz.ntmps24
   go_wp2_with fail
   refine hq.mono ?_
   rintro e w1 ⟨rfl, hb⟩
   simp only [rTxt, rLen, rOk]
   go_wp2
   go_ret2
   rw [hu'.out]
   exact ⟨rfl, hb⟩
end QuoteWalk
end Go.Proofs.YtbphobmohdclaaaGreatDoor
end
section
set_option maxRecDepth 100000
namespace Go.Proofs.YtbphobmohdclaaaGreatDoor
open Go.RowKit
namespace QuoteWalk
open Kit QuotePlain
end QuoteWalk
end Go.Proofs.YtbphobmohdclaaaGreatDoor
end
section
set_option linter.unusedVariables false
set_option linter.unusedSimpArgs false
namespace Go.Proofs.YtbphobmohdclaaaGreatDoor.Vcg
open Go.RowKit
open QuotePlain in
theorem quote_fun (l : List UInt8) (hl : l.length ≤ 1000000) : Fun Tryz.prog G0 35 [.str l] (.str (quoteL l)) 0 := by
 refine Fun.wrap (by kernel_rfl) fun R vs h => ?_
 obtain ⟨v1, us1, rfl, h1, h⟩ := repL_cons.1 h
 rw [repL_nil] at h
 subst h
 rw [rep_str] at h1
 subst h1
 refine (QuoteWalk.quote_walk ⟨l.toArray⟩ R.w (by simp [ByteArray.size]; omega)).mono ?_
 rintro e w' ⟨rfl, hb⟩
 exact ⟨_, rfl, hb, fun R' _ => rep_str.2 (by simp [Kit.ofL, Kit.toL])⟩
open QuotePlain QuoteWalk in
theorem quoted_fun (l : List UInt8) (hl : l.length ≤ 1000000) : Fun Tryz.prog G0 48 [.str l] (.tup [.str (match qtd l with | some (t, _) => t | none => []), .sc (.int .i64 ((match qtd l with | some (_, n) => n | none => 0 : Nat) : Int)), .sc (.bool (qtd l).isSome)]) 0 := by
 refine Fun.wrap (by kernel_rfl) fun R vs h => ?_
 obtain ⟨v1, us1, rfl, h1, h⟩ := repL_cons.1 h
 rw [repL_nil] at h
 subst h
 rw [rep_str] at h1
 subst h1
 refine (quoted_walk ⟨l.toArray⟩ R.w (by simp [ByteArray.size]; omega)).mono ?_
 rintro e w' ⟨rfl, hb⟩
 have hl2 : Kit.toL ⟨l.toArray⟩ = l := by simp [Kit.toL]
 rw [hl2]
 refine ⟨_, rfl, hb, fun R' _ => rep_tup.2 ⟨_, rfl, ?_⟩⟩
 cases qtd l with
 | none => exact repL_cons.2 ⟨_, _, rfl, rep_str.2 (by simp [rTxt]), repL_cons.2 ⟨_, _, rfl, rep_sc.2 rfl, repL_cons.2 ⟨_, _, rfl, rep_sc.2 rfl, repL_nil.2 rfl⟩⟩⟩
 | some x => exact repL_cons.2 ⟨_, _, rfl, rep_str.2 (by simp [rTxt, Kit.ofL]), repL_cons.2 ⟨_, _, rfl, rep_sc.2 rfl, repL_cons.2 ⟨_, _, rfl, rep_sc.2 rfl, repL_nil.2 rfl⟩⟩⟩
open QuotePlain QuoteWalk in
theorem unquote_fun (l : List UInt8) (hl : l.length ≤ 1000000) : Fun Tryz.prog G0 24 [.str l] (.tup [.str ((unq l).getD []), .sc (.bool (unq l).isSome)]) 0 := by
 refine Fun.wrap (by kernel_rfl) fun R vs h => ?_
 obtain ⟨v1, us1, rfl, h1, h⟩ := repL_cons.1 h
 rw [repL_nil] at h
 subst h
 rw [rep_str] at h1
 subst h1
 refine (unquote_walk ⟨l.toArray⟩ R.w (by simp [ByteArray.size]; omega)).mono ?_
 have hl2 : Kit.toL ⟨l.toArray⟩ = l := by simp [Kit.toL]
 rw [hl2]
 rintro e w' ⟨rfl, hb⟩
 refine ⟨_, rfl, hb, fun R' _ => rep_tup.2 ⟨_, rfl, ?_⟩⟩
 cases unq l with
 | none => exact repL_cons.2 ⟨_, _, rfl, rep_str.2 (by simp [uTxt]), repL_cons.2 ⟨_, _, rfl, rep_sc.2 rfl, repL_nil.2 rfl⟩⟩
 | some x => exact repL_cons.2 ⟨_, _, rfl, rep_str.2 (by simp [uTxt, Kit.ofL]), repL_cons.2 ⟨_, _, rfl, rep_sc.2 rfl, repL_nil.2 rfl⟩⟩
open QuotePlain QuoteWalk in
theorem plainw_fun (l : List UInt8) (hl : l.length ≤ 1000000) : Fun Tryz.prog G0 49 [.str l] (.sc (.bool (plainL l))) 0 := by
 refine Fun.wrap (by kernel_rfl) fun R vs h => ?_
 obtain ⟨v1, us1, rfl, h1, h⟩ := repL_cons.1 h
 rw [repL_nil] at h
 subst h
 rw [rep_str] at h1
 subst h1
 refine (plain_walk ⟨l.toArray⟩ R.w (by simp [ByteArray.size]; omega)).mono ?_
 have hl2 : Kit.toL ⟨l.toArray⟩ = l := by simp [Kit.toL]
 rw [hl2]
 rintro e w' ⟨rfl, rfl⟩
 exact ⟨_, rfl, Below.refl _ _, fun R' _ => rep_sc.2 rfl⟩
end Go.Proofs.YtbphobmohdclaaaGreatDoor.Vcg
end
section
set_option linter.unusedVariables false
set_option maxRecDepth 100000
set_option linter.unusedSimpArgs false
namespace Go.Proofs.YtbphobmohdclaaaGreatDoor.Vcg
open Go.RowKit
open QuotePlain (Bs quoteL plainL blanks okw unq qtd word1 wd split1 splitW cut)
theorem wd_at : ∀ (r : Bs) (j : Nat), j ≤ (wd r).length → (j < (wd r).length ↔ ∃ c, r[j]? = some c ∧ c ≠ 32)
 | [], j, h => by
  have : wd [] = [] := rfl
  rw [this] at h ⊢
  simp
 | c :: r, j, h => by
  rw [QuotePlain.wd] at h ⊢
  by_cases hc : c = 32
  ·rw [if_pos hc] at h ⊢
   have : j = 0 := by simpa using h
   subst this
   simp [hc]
  ·rw [if_neg hc] at h ⊢
   cases j with
   | zero => simp [hc]
   | succ j =>
    have := wd_at r j (by simpa using h)
    simpa using this
theorem wd_len_take (r : Bs) : r.take (wd r).length = wd r := by
 have h1 := QuotePlain.wd_split r
 have h2 := congrArg (List.take (wd r).length) h1
 rw [List.take_left'] at h2
 ·exact h2
 ·rfl
set_option maxHeartbeats 2000000 in
theorem split_fun (l : Bs) (hl : l.length ≤ 1000000) : Fun Tryz.prog G0 21 [.str l] (.tup [.own 0 9 1 (strs ((splitW l).getD [])), .sc (.bool (splitW l).isSome)]) 1 := by
 refine Fun.of (fun _ => []) (by kernel_rfl) Tryz.func21 rfl rfl (Nat.le_of_ble_eq_true rfl) (by kernel_rfl) ?_; dsimp only [Tryz.f21, List.append_eq, List.cons_append, List.nil_append]
 simp -dsimp only [push_cast, seval]
 refine loop (fun x : Nat × List Bs => ⟨[(0, .str l), (4, .own 0 9 1 (strs x.2)), (5, .sc (.int .i64 x.1))], [], 1, 0⟩) (fun x => (x.1 = 0 ∧ x.2 = [] ∧ l = [] ∨ x.1 < l.length ∧ split1 l = (split1 (l.drop x.1)).map (x.2 ++ ·)) ∧ x.2.length ≤ x.1) (fun x => l.length - x.1) (0, []) ⟨?_, Nat.zero_le _⟩ ?_ ?_
 ·by_cases h : l = []
  ·exact .inl ⟨rfl, rfl, h⟩
  ·exact .inr ⟨List.length_pos_iff.2 h, by simp⟩
 ·exact Weak.mk [.inr (9, 1)] rfl rfl (Nat.zero_le _) rfl (by simp -dsimp only [WeakTm, WeakBx, CLe, CLeL, push_cast, seval]) (by simp -dsimp only [WeakTm, WeakBx, CLe, CLeL, push_cast, seval])
 ·rintro ⟨k, out⟩ ⟨hx, hol⟩
  simp only at hx hol ⊢
  rcases hx with ⟨rfl, rfl, rfl⟩ | ⟨hk, hsp⟩
  ·simp -dsimp only [push_cast, seval]
   refine ⟨[.inr (9, 1)], rfl, rfl, ?_⟩
   simp -dsimp only [WeakTm, WeakBx, CLe, CLeL, push_cast, seval, show splitW [] = some [] from rfl, Option.getD_some, Option.isSome_some]
  ·have hq := quoted_fun (l.drop k) (by simp; omega)
   have hdl : (l.drop k).length = l.length - k := List.length_drop
   have hln : l ≠ [] := fun e => by subst e; simp at hk
   have hsw : splitW l = split1 l := by unfold splitW; rw [if_neg hln]
   by_cases hqt : ∃ t n, qtd (l.drop k) = some (t, n)
   ·obtain ⟨t, n, hqt⟩ := hqt
    rw [hqt] at hq
    simp only [Option.isSome_some] at hq
    obtain ⟨⟨r0, hr0⟩, hn⟩ := (QuotePlain.qtd_iff _ _ _).1 hqt
    have hnl : n ≤ l.length - k := by rw [← hdl, hr0, hn]; simp
    have hw : word1 (l.drop k) = some ((l.drop k).take n) := by unfold word1; rw [hqt]
    have hwl : ((l.drop k).take n).length = n := by simp; omega
    have hwv : (l.take (k + n)).drop k = (l.drop k).take n := by rw [List.drop_take]; congr 1; omega
    rw [← hwv] at hw hwl
    have hwl' : ((l.take (k + n)).drop k).length = k + n - k := by rw [hwl]; omega
    simp -dsimp only [push_cast, seval, hk]
    refine ⟨⟨by omega, by omega⟩, ?_⟩
    (first | refine call (hq) ?_ | refine callP (hq) ?_); simp -dsimp only [push_cast, seval]
    refine ⟨⟨by omega, by omega⟩, ⟨by omega, by omega, by omega⟩, by omega, by omega, ⟨by omega, by omega⟩, ?_⟩
    have hto : ((k : Int) + (n : Int)).toNat = k + n := by omega
    by_cases hend2 : k + n = l.length
    ·have hres : splitW l = some (out ++ [(l.take (k + n)).drop k]) := by
      rw [hsw, hsp, QuotePlain.split1_last hw (by rw [List.drop_drop, hwl', show k + (k + n - k) = l.length by omega, List.drop_length])]
      rfl
     have ht1 : ((k : Int) + (n : Int) = (l.length : Int)) = True := eq_true (by omega)
     simp -dsimp only [push_cast, seval, ht1]
     exact ⟨[.inl 0], rfl, rfl, by simp only [hto]; simp -dsimp only [WeakTm, WeakBx, CLe, CLeL, push_cast, seval, hres, Option.getD_some, Option.isSome_some]⟩
    have ht1 : ((k : Int) + (n : Int) = (l.length : Int)) = False := eq_false (by omega)
    have hal : k + n < l.length := by omega
    have ga : l[k + n]? = some l[k + n] := List.getElem?_eq_getElem hal
    have hdr : (l.drop k).drop ((l.take (k + n)).drop k).length = l[k + n] :: l.drop (k + n + 1) := by rw [List.drop_drop, hwl', show k + (k + n - k) = k + n by omega]; exact List.drop_eq_getElem_cons hal
    by_cases hc32 : l[k + n] = 32
    ·have hcf : ((l[k + n].toNat : Int) = 32) = True := eq_true (by rw [hc32]; rfl)
     by_cases hlast : k + n + 1 = l.length
     ·have hres : splitW l = none := by
       rw [hsw, hsp, QuotePlain.split1_bad hw hdr (fun h => h.2 (by rw [hlast, List.drop_length]))]
       rfl
      have ht2 : ((k : Int) + (n : Int) + 1 = (l.length : Int)) = True := eq_true (by omega)
      simp -dsimp only [push_cast, seval, ht1]
      simp only [hto]
      simp -dsimp only [push_cast, seval, ga, hcf, ht2, hln]
      (try simp only [List.length_append, List.length_cons, List.length_nil, List.length_map, List.length_take, List.length_drop]); repeat (refine And.intro (by omega) ?_)
      exact ⟨[.inr (9, 1)], rfl, rfl, by simp -dsimp only [WeakTm, WeakBx, CLe, CLeL, push_cast, seval, hres, Option.getD_none, Option.isSome_none]⟩
     ·have hres : split1 l = (split1 (l.drop (k + n + 1))).map ((out ++ [(l.take (k + n)).drop k]) ++ ·) := by
       have hdr2 := hdr
       rw [hc32] at hdr2
       rw [hsp, QuotePlain.split1_more hw hdr2 (fun h => by have := congrArg List.length h; simp at this; omega)]
       cases split1 (l.drop (k + n + 1)) <;> simp
      have ht2 : ((k : Int) + (n : Int) + 1 = (l.length : Int)) = False := eq_false (by omega)
      simp -dsimp only [push_cast, seval, ht1]
      simp only [hto]
      simp -dsimp only [push_cast, seval, ga, hcf, ht2]
      (try simp only [List.length_append, List.length_cons, List.length_nil, List.length_map, List.length_take, List.length_drop]); repeat (refine And.intro (by omega) ?_)
      exact ⟨(k + n + 1, out ++ [(l.take (k + n)).drop k]), ⟨.inr ⟨by simp only; omega, hres⟩, by simp; omega⟩, by simp only; omega, Weak.mk [.inl 0] rfl rfl (Nat.zero_le _) rfl (by simp only [hto]; simp -dsimp only [WeakTm, WeakBx, CLe, CLeL, push_cast, seval]) (by simp -dsimp only [WeakTm, WeakBx, CLe, CLeL, push_cast, seval])⟩
    ·have hcf : ((l[k + n].toNat : Int) = 32) = False := eq_false fun h => hc32 (UInt8.toNat_inj.1 (by have : (32 : UInt8).toNat = 32 := rfl; omega))
     have hres : splitW l = none := by
      rw [hsw, hsp, QuotePlain.split1_bad hw hdr (fun h => hc32 h.1)]
      rfl
     simp -dsimp only [push_cast, seval, ht1]
     simp only [hto]
     simp -dsimp only [push_cast, seval, ga, hcf, hln]
     (try simp only [List.length_append, List.length_cons, List.length_nil, List.length_map, List.length_take, List.length_drop]); repeat (refine And.intro (by omega) ?_)
     exact ⟨[.inr (9, 1)], rfl, rfl, by simp -dsimp only [WeakTm, WeakBx, CLe, CLeL, push_cast, seval, hres, Option.getD_none, Option.isSome_none]⟩
   ·have hqn : qtd (l.drop k) = none := by
     cases h : qtd (l.drop k) with
     | none => rfl
     | some x => exact absurd ⟨x.1, x.2, h⟩ hqt
    rw [hqn] at hq
    simp only [Option.isSome_none] at hq
    simp -dsimp only [push_cast, seval, hk]
    refine ⟨⟨by omega, by omega⟩, ?_⟩
    (first | refine call (hq) ?_ | refine callP (hq) ?_); simp -dsimp only [push_cast, seval]
    refine loop (fun e : Nat => ⟨[(0, .str l), (4, .own 0 9 1 (strs out)), (5, .sc (.int .i64 k)), (9, .sc (.int .i64 e))], [], 1, 0⟩) (fun e => k ≤ e ∧ e - k ≤ (wd (l.drop k)).length) (fun e => l.length - e) k ⟨Nat.le_refl _, by omega⟩ ?_ ?_
    ·exact Weak.mk [.inl 0] rfl rfl (Nat.zero_le _) rfl (by simp -dsimp only [WeakTm, WeakBx, CLe, CLeL, push_cast, seval]) (by simp -dsimp only [WeakTm, WeakBx, CLe, CLeL, push_cast, seval])
    ·rintro e ⟨he1, he2⟩
     have hat := wd_at (l.drop k) (e - k) he2
     rw [List.getElem?_drop, show k + (e - k) = e by omega] at hat
     have hwl : (wd (l.drop k)).length ≤ l.length - k := by
      have := congrArg List.length (QuotePlain.wd_split (l.drop k))
      rw [List.length_append] at this
      omega
     by_cases hel : e < l.length
     ·have ge : l[e]? = some l[e] := List.getElem?_eq_getElem hel
      by_cases h32 : l[e] = 32
      ·have hend : ¬ e - k < (wd (l.drop k)).length := fun h => by
        obtain ⟨c, h1, h2⟩ := hat.1 h
        rw [ge] at h1
        exact h2 ((Option.some.inj h1).symm.trans h32)
       have hee : e - k = (wd (l.drop k)).length := by omega
       have h32' : ((l[e].toNat : Int) = 32) = True := eq_true (by rw [h32]; rfl)
       simp -dsimp only [push_cast, seval, hel, ge, h32']
       have hp := plainw_fun ((l.take e).drop k) (by simp; omega)
       have hwv : (l.take e).drop k = wd (l.drop k) := by
        rw [List.drop_take, hee]
        exact wd_len_take _
       by_cases hpl : plainL (wd (l.drop k)) = true
       case neg =>
        have hres : splitW l = none := by
         rw [hsw, hsp, QuotePlain.split1_none (by unfold word1; rw [hqn]; simp only; rw [if_neg hpl])]
         rfl
        rw [hwv, Bool.eq_false_iff.2 hpl] at hp
        rw [hwv]
        (try simp only [List.length_append, List.length_cons, List.length_nil, List.length_map, List.length_take, List.length_drop]); repeat (refine And.intro (by omega) ?_)
        (first | refine call (hp) ?_ | refine callP (hp) ?_); simp -dsimp only [push_cast, seval, hln]
        exact ⟨[.inr (9, 1)], rfl, rfl, by simp -dsimp only [WeakTm, WeakBx, CLe, CLeL, push_cast, seval, hres, Option.getD_none, Option.isSome_none]⟩
       have hw : word1 (l.drop k) = some ((l.take e).drop k) := by unfold word1; rw [hqn, hwv]; simp only; rw [if_pos hpl]
       have hwl' : ((l.take e).drop k).length = e - k := by rw [hwv]; omega
       rw [hwv, hpl, ← hwv] at hp
       (try simp only [List.length_append, List.length_cons, List.length_nil, List.length_map, List.length_take, List.length_drop]); repeat (refine And.intro (by omega) ?_)
       (first | refine call (hp) ?_ | refine callP (hp) ?_); simp -dsimp only [push_cast, seval]
       (try simp only [List.length_append, List.length_cons, List.length_nil, List.length_map, List.length_take, List.length_drop]); repeat (refine And.intro (by omega) ?_)
       by_cases hend2 : e = l.length
       ·have hres : splitW l = some (out ++ [(l.take (e)).drop k]) := by
         rw [hsw, hsp, QuotePlain.split1_last hw (by rw [List.drop_drop, hwl', show k + (e - k) = l.length by omega, List.drop_length])]
         rfl
        have ht1 := eq_true hend2
        simp -dsimp only [push_cast, seval, ht1]
        exact ⟨[.inl 0], rfl, rfl, by simp -dsimp only [WeakTm, WeakBx, CLe, CLeL, push_cast, seval, hres, Option.getD_some, Option.isSome_some]⟩
       have ht1 := eq_false hend2
       have hal : e < l.length := by omega
       have ga : l[e]? = some l[e] := List.getElem?_eq_getElem hal
       have hdr : (l.drop k).drop ((l.take (e)).drop k).length = l[e] :: l.drop (e + 1) := by rw [List.drop_drop, hwl', show k + (e - k) = e by omega]; exact List.drop_eq_getElem_cons hal
       by_cases hc32 : l[e] = 32
       ·have hcf : ((l[e].toNat : Int) = 32) = True := eq_true (by rw [hc32]; rfl)
        by_cases hlast : e + 1 = l.length
        ·have hres : splitW l = none := by
          rw [hsw, hsp, QuotePlain.split1_bad hw hdr (fun h => h.2 (by rw [hlast, List.drop_length]))]
          rfl
         have ht2 : ((e : Int) + 1 = (l.length : Int)) = True := eq_true (by omega)
         simp -dsimp only [push_cast, seval, ht1, ga, hcf, ht2, hln]
         (try simp only [List.length_append, List.length_cons, List.length_nil, List.length_map, List.length_take, List.length_drop]); repeat (refine And.intro (by omega) ?_)
         exact ⟨[.inr (9, 1)], rfl, rfl, by simp -dsimp only [WeakTm, WeakBx, CLe, CLeL, push_cast, seval, hres, Option.getD_none, Option.isSome_none]⟩
        ·have hres : split1 l = (split1 (l.drop (e + 1))).map ((out ++ [(l.take (e)).drop k]) ++ ·) := by
          have hdr2 := hdr
          rw [hc32] at hdr2
          rw [hsp, QuotePlain.split1_more hw hdr2 (fun h => by have := congrArg List.length h; simp at this; omega)]
          cases split1 (l.drop (e + 1)) <;> simp
         have ht2 : ((e : Int) + 1 = (l.length : Int)) = False := eq_false (by omega)
         simp -dsimp only [push_cast, seval, ht1, ga, hcf, ht2]
         (try simp only [List.length_append, List.length_cons, List.length_nil, List.length_map, List.length_take, List.length_drop]); repeat (refine And.intro (by omega) ?_)
         exact ⟨(e + 1, out ++ [(l.take (e)).drop k]), ⟨.inr ⟨by simp only; omega, hres⟩, by simp; omega⟩, by simp only; omega, Weak.mk [.inl 0] rfl rfl (Nat.zero_le _) rfl (by simp -dsimp only [WeakTm, WeakBx, CLe, CLeL, push_cast, seval]) (by simp -dsimp only [WeakTm, WeakBx, CLe, CLeL, push_cast, seval])⟩
       ·have hcf : ((l[e].toNat : Int) = 32) = False := eq_false fun h => hc32 (UInt8.toNat_inj.1 (by have : (32 : UInt8).toNat = 32 := rfl; omega))
        have hres : splitW l = none := by
         rw [hsw, hsp, QuotePlain.split1_bad hw hdr (fun h => hc32 h.1)]
         rfl
        simp -dsimp only [push_cast, seval, ht1, ga, hcf, hln]
        (try simp only [List.length_append, List.length_cons, List.length_nil, List.length_map, List.length_take, List.length_drop]); repeat (refine And.intro (by omega) ?_)
        exact ⟨[.inr (9, 1)], rfl, rfl, by simp -dsimp only [WeakTm, WeakBx, CLe, CLeL, push_cast, seval, hres, Option.getD_none, Option.isSome_none]⟩
      ·have hlt := hat.2 ⟨l[e], ge, h32⟩
       have h32' : ((l[e].toNat : Int) = 32) = False := eq_false fun h => h32 (UInt8.toNat_inj.1 (by have : (32 : UInt8).toNat = 32 := rfl; omega))
       simp -dsimp only [push_cast, seval, hel, ge, h32']
       exact ⟨by omega, ⟨by omega, by omega⟩, e + 1, ⟨by omega, by omega⟩, by omega, Weak.mk [.inl 0] rfl rfl (Nat.zero_le _) rfl (by simp -dsimp only [WeakTm, WeakBx, CLe, CLeL, push_cast, seval]) (by simp -dsimp only [WeakTm, WeakBx, CLe, CLeL, push_cast, seval])⟩
     ·have hend : ¬ e - k < (wd (l.drop k)).length := by omega
      have hee : e - k = (wd (l.drop k)).length := by omega
      simp -dsimp only [push_cast, seval, hel]
      have hp := plainw_fun ((l.take e).drop k) (by simp; omega)
      have hwv : (l.take e).drop k = wd (l.drop k) := by
       rw [List.drop_take, hee]
       exact wd_len_take _
      by_cases hpl : plainL (wd (l.drop k)) = true
      case neg =>
       have hres : splitW l = none := by
        rw [hsw, hsp, QuotePlain.split1_none (by unfold word1; rw [hqn]; simp only; rw [if_neg hpl])]
        rfl
       rw [hwv, Bool.eq_false_iff.2 hpl] at hp
       rw [hwv]
       (try simp only [List.length_append, List.length_cons, List.length_nil, List.length_map, List.length_take, List.length_drop]); repeat (refine And.intro (by omega) ?_)
       (first | refine call (hp) ?_ | refine callP (hp) ?_); simp -dsimp only [push_cast, seval, hln]
       exact ⟨[.inr (9, 1)], rfl, rfl, by simp -dsimp only [WeakTm, WeakBx, CLe, CLeL, push_cast, seval, hres, Option.getD_none, Option.isSome_none]⟩
      have hw : word1 (l.drop k) = some ((l.take e).drop k) := by unfold word1; rw [hqn, hwv]; simp only; rw [if_pos hpl]
      have hwl' : ((l.take e).drop k).length = e - k := by rw [hwv]; omega
      rw [hwv, hpl, ← hwv] at hp
      (try simp only [List.length_append, List.length_cons, List.length_nil, List.length_map, List.length_take, List.length_drop]); repeat (refine And.intro (by omega) ?_)
      (first | refine call (hp) ?_ | refine callP (hp) ?_); simp -dsimp only [push_cast, seval]
      (try simp only [List.length_append, List.length_cons, List.length_nil, List.length_map, List.length_take, List.length_drop]); repeat (refine And.intro (by omega) ?_)
      by_cases hend2 : e = l.length
      ·have hres : splitW l = some (out ++ [(l.take (e)).drop k]) := by
        rw [hsw, hsp, QuotePlain.split1_last hw (by rw [List.drop_drop, hwl', show k + (e - k) = l.length by omega, List.drop_length])]
        rfl
       have ht1 := eq_true hend2
       simp -dsimp only [push_cast, seval, ht1]
       exact ⟨[.inl 0], rfl, rfl, by simp -dsimp only [WeakTm, WeakBx, CLe, CLeL, push_cast, seval, hres, Option.getD_some, Option.isSome_some]⟩
      have ht1 := eq_false hend2
      have hal : e < l.length := by omega
      have ga : l[e]? = some l[e] := List.getElem?_eq_getElem hal
      have hdr : (l.drop k).drop ((l.take (e)).drop k).length = l[e] :: l.drop (e + 1) := by rw [List.drop_drop, hwl', show k + (e - k) = e by omega]; exact List.drop_eq_getElem_cons hal
      by_cases hc32 : l[e] = 32
      ·have hcf : ((l[e].toNat : Int) = 32) = True := eq_true (by rw [hc32]; rfl)
       by_cases hlast : e + 1 = l.length
       ·have hres : splitW l = none := by
         rw [hsw, hsp, QuotePlain.split1_bad hw hdr (fun h => h.2 (by rw [hlast, List.drop_length]))]
         rfl
        have ht2 : ((e : Int) + 1 = (l.length : Int)) = True := eq_true (by omega)
        simp -dsimp only [push_cast, seval, ht1, ga, hcf, ht2, hln]
        (try simp only [List.length_append, List.length_cons, List.length_nil, List.length_map, List.length_take, List.length_drop]); repeat (refine And.intro (by omega) ?_)
        exact ⟨[.inr (9, 1)], rfl, rfl, by simp -dsimp only [WeakTm, WeakBx, CLe, CLeL, push_cast, seval, hres, Option.getD_none, Option.isSome_none]⟩
       ·have hres : split1 l = (split1 (l.drop (e + 1))).map ((out ++ [(l.take (e)).drop k]) ++ ·) := by
         have hdr2 := hdr
         rw [hc32] at hdr2
         rw [hsp, QuotePlain.split1_more hw hdr2 (fun h => by have := congrArg List.length h; simp at this; omega)]
         cases split1 (l.drop (e + 1)) <;> simp
        have ht2 : ((e : Int) + 1 = (l.length : Int)) = False := eq_false (by omega)
        simp -dsimp only [push_cast, seval, ht1, ga, hcf, ht2]
        (try simp only [List.length_append, List.length_cons, List.length_nil, List.length_map, List.length_take, List.length_drop]); repeat (refine And.intro (by omega) ?_)
        exact ⟨(e + 1, out ++ [(l.take (e)).drop k]), ⟨.inr ⟨by simp only; omega, hres⟩, by simp; omega⟩, by simp only; omega, Weak.mk [.inl 0] rfl rfl (Nat.zero_le _) rfl (by simp -dsimp only [WeakTm, WeakBx, CLe, CLeL, push_cast, seval]) (by simp -dsimp only [WeakTm, WeakBx, CLe, CLeL, push_cast, seval])⟩
      ·have hcf : ((l[e].toNat : Int) = 32) = False := eq_false fun h => hc32 (UInt8.toNat_inj.1 (by have : (32 : UInt8).toNat = 32 := rfl; omega))
       have hres : splitW l = none := by
        rw [hsw, hsp, QuotePlain.split1_bad hw hdr (fun h => hc32 h.1)]
        rfl
       simp -dsimp only [push_cast, seval, ht1, ga, hcf, hln]
       (try simp only [List.length_append, List.length_cons, List.length_nil, List.length_map, List.length_take, List.length_drop]); repeat (refine And.intro (by omega) ?_)
       exact ⟨[.inr (9, 1)], rfl, rfl, by simp -dsimp only [WeakTm, WeakBx, CLe, CLeL, push_cast, seval, hres, Option.getD_none, Option.isSome_none]⟩
end Go.Proofs.YtbphobmohdclaaaGreatDoor.Vcg
end
section
set_option linter.unusedVariables false
set_option maxRecDepth 100000
set_option linter.unusedSimpArgs false
namespace Go.Proofs.YtbphobmohdclaaaGreatDoor.Vcg
open Go.RowKit
open QuotePlain (Bs quoteL plainL blanks okw unq qtd word1 wd split1 splitW cut)
end Go.Proofs.YtbphobmohdclaaaGreatDoor.Vcg
end
section
set_option linter.unusedVariables false
set_option maxRecDepth 100000
set_option linter.unusedSimpArgs false
namespace Go.Proofs.YtbphobmohdclaaaGreatDoor.Vcg
open Go.RowKit
open QuotePlain (Bs quoteL plainL blanks okw unq splitW numB valV most okTo isDig)
theorem blanks_len : ∀ ws : List Bs, (blanks ws).length ≤ (ws.map fun w => w.length + 1).sum
 | [] => by decide
 | [w] => by rw [QuotePlain.blanks_one]; simp
 | w :: v :: ws => by
  have := blanks_len (v :: ws)
  rw [QuotePlain.blanks_cons]
  simp only [List.length_append, List.length_cons, List.map_cons, List.sum_cons] at this ⊢
  omega
theorem quote_len (l : Bs) : (quoteL l).length ≤ 4 * l.length + 2 := by
 have := QuoteWalk.mid_len l
 simp only [quoteL, List.length_cons, List.length_append, List.length_nil]
 omega
theorem qjoin_fun (ws : List Bs) (hx : ws.length ≤ 1000001) (hl : (blanks ws).length ≤ 100000000) : Fun Tryz.prog G0 36 [.sl 1 (strs ws)] (.str (blanks ws)) 0 := by
 have h := join_fun ws [32] hx hl
 refine Fun.of (fun _ => []) (by kernel_rfl) Tryz.func36 rfl rfl (Nat.le_of_ble_eq_true rfl) (by kernel_rfl) ?_; dsimp only [Tryz.f36, List.append_eq, List.cons_append, List.nil_append]
 simp -dsimp only [push_cast, seval]
 (first | refine call (h) ?_ | refine callP (h) ?_); simp -dsimp only [push_cast, seval]
 exact ⟨[], rfl, rfl, by simp -dsimp only [WeakTm, WeakBx, CLe, CLeL, push_cast, seval]; rfl⟩
theorem line_len {o : OpV} (h : LineOk o) (hs : short o) : (blanks (wordsV o)).length ≤ 2000000 := by
 have h1 := blanks_len (wordsV o)
 have h2 := quote_len o.a
 have h3 := quote_len o.b
 have h4 := quote_len o.d
 obtain ⟨g1, g2, g3⟩ := hs
 have h5 := QuotePlain.dec_len 19 o.slot.toNat (by decide)
 have h6 : (nameW o.kind).length ≤ 7 := by
  have a := h.lo; have b := h.hi
  rcases kind_cases a b with e | e | e | e | e | e | e | e | e | e <;> rw [e] <;> decide
 have h7 : (Lib.decDigits o.slot.toNat).length ≤ 19 := by
  refine h5 ?_
  cases hk : slotted o.kind with
  | true =>
   have := (h.slot hk).2
   have : o.slot.toNat < 1073741825 := by omega
   exact Nat.lt_trans this (by decide)
  | false => rw [h.none hk]; decide
 refine Nat.le_trans h1 ?_
 unfold wordsV
 simp only [List.map_append, List.sum_append, List.map_cons, List.map_nil, List.sum_cons, List.sum_nil]
 split <;> split <;> split <;> simp only [List.map_append, List.sum_append, List.map_cons, List.map_nil, List.sum_cons, List.sum_nil] <;> omega
-- here
theorem words_len (o : OpV) : (wordsV o).length ≤ 1000001 := by
 unfold wordsV
 split <;> split <;> split <;> simp
set_option maxHeartbeats 8000000 in
theorem line_fun (o : OpV) (h : LineOk o) (hs : short o) (hne : hasB o.kind = true → o.b ≠ []) : Fun Tryz.prog GL 12 [.agg (opL o)] (.str (lineV o)) 0 := by
 have hl := line_len h hs
 obtain ⟨k, s, a, b, d⟩ := o
 obtain ⟨g1, g2, g3⟩ := hs
 simp only at g1 g2 g3 hne
 have hqa := (quote_fun a (by omega)).glob0 (G' := GL)
 have hqb := (quote_fun b (by omega)).glob0 (G' := GL)
 have hqd := (quote_fun d (by omega)).glob0 (G' := GL)
 have hsl := (slots_fun [⟨k, s, a, b, d⟩] (by simp)).glob1
 have hj := (qjoin_fun (wordsV ⟨k, s, a, b, d⟩) (words_len _) (by omega)).glob0 (G' := GL)
 have k1 := h.lo; have k2 := h.hi; have k3 := h.slot; have k4 := h.none; have k5 := h.b; have k6 := h.d
 simp only at k1 k2 k3 k4 k5 k6
 rcases kind_cases k1 k2 with rfl | rfl | rfl | rfl | rfl | rfl | rfl | rfl | rfl | rfl
 ·have e1 := k4 rfl
  subst e1
  have e2 := k5 rfl
  subst e2
  have hsn : (slotsV [⟨1, 0, a, [], d⟩]).length = 0 := rfl
  have hj1 : Fun Tryz.prog GL 36 [.sl 1 [[C.str [109, 107, 100, 105, 114]], [C.str (quoteL a)]]] (.str (lineV ⟨1, 0, a, [], d⟩)) 0 := hj
  unfold opL
  refine Fun.of (fun _ => []) (by kernel_rfl) Tryz.func12 rfl rfl (Nat.le_of_ble_eq_true rfl) (by kernel_rfl) ?_; dsimp only [Tryz.f12, List.append_eq, List.cons_append, List.nil_append]
  simp -dsimp only [push_cast, seval]
  (first | refine call (hsl) ?_ | refine callP (hsl) ?_); simp -dsimp only [push_cast, seval, hsn]
  (first | refine call (hqa) ?_ | refine callP (hqa) ?_); simp -dsimp only [push_cast, seval]
  (try simp only [List.length_append, List.length_cons, List.length_nil, List.length_map, List.length_take, List.length_drop]); repeat (refine And.intro (by omega) ?_)
  (first | refine call (hj1) ?_ | refine callP (hj1) ?_); simp -dsimp only [push_cast, seval]
  exact ⟨[], rfl, rfl, by simp -dsimp only [WeakTm, WeakBx, CLe, CLeL, push_cast, seval]⟩
 ·have e1 := k4 rfl
  subst e1
  have hb := hne rfl
  have hsn : (slotsV [⟨2, 0, a, b, d⟩]).length = 0 := rfl
  have hj1 : Fun Tryz.prog GL 36 [.sl 1 [[C.str [99, 111, 112, 121]], [C.str (quoteL a)], [C.str (quoteL b)]]] (.str (lineV ⟨2, 0, a, b, d⟩)) 0 := hj
  unfold opL
  refine Fun.of (fun _ => []) (by kernel_rfl) Tryz.func12 rfl rfl (Nat.le_of_ble_eq_true rfl) (by kernel_rfl) ?_; dsimp only [Tryz.f12, List.append_eq, List.cons_append, List.nil_append]
  simp -dsimp only [push_cast, seval]
  (first | refine call (hsl) ?_ | refine callP (hsl) ?_); simp -dsimp only [push_cast, seval, hsn]
  (first | refine call (hqa) ?_ | refine callP (hqa) ?_); simp -dsimp only [push_cast, seval]
  (try simp only [List.length_append, List.length_cons, List.length_nil, List.length_map, List.length_take, List.length_drop]); repeat (refine And.intro (by omega) ?_)
  simp -dsimp only [push_cast, seval, hb]
  (first | refine call (hqb) ?_ | refine callP (hqb) ?_); simp -dsimp only [push_cast, seval]
  (try simp only [List.length_append, List.length_cons, List.length_nil, List.length_map, List.length_take, List.length_drop]); repeat (refine And.intro (by omega) ?_)
  (first | refine call (hj1) ?_ | refine callP (hj1) ?_); simp -dsimp only [push_cast, seval]
  exact ⟨[], rfl, rfl, by simp -dsimp only [WeakTm, WeakBx, CLe, CLeL, push_cast, seval]⟩
 ·obtain ⟨s1, s2⟩ := k3 rfl
  obtain ⟨n, rfl⟩ : ∃ n : Nat, s = (n : Int) := ⟨s.toNat, by omega⟩
  have hit := itoa_fun n (by omega)
  have hb := hne rfl
  have hsn : (slotsV [⟨3, (n : Int), a, b, d⟩]).length = 1 := rfl
  have hj1 : Fun Tryz.prog GL 36 [.sl 1 [[C.str [119, 114, 105, 116, 101]], [C.str (Lib.decDigits n)], [C.str (quoteL a)], [C.str (quoteL b)]]] (.str (lineV ⟨3, (n : Int), a, b, d⟩)) 0 := hj
  unfold opL
  refine Fun.of (fun _ => []) (by kernel_rfl) Tryz.func12 rfl rfl (Nat.le_of_ble_eq_true rfl) (by kernel_rfl) ?_; dsimp only [Tryz.f12, List.append_eq, List.cons_append, List.nil_append]
  simp -dsimp only [push_cast, seval]
  (first | refine call (hsl) ?_ | refine callP (hsl) ?_); simp -dsimp only [push_cast, seval, hsn]
  (first | refine call (hit) ?_ | refine callP (hit) ?_); simp -dsimp only [push_cast, seval]
  (try simp only [List.length_append, List.length_cons, List.length_nil, List.length_map, List.length_take, List.length_drop]); repeat (refine And.intro (by omega) ?_)
  (first | refine call (hqa) ?_ | refine callP (hqa) ?_); simp -dsimp only [push_cast, seval]
  (try simp only [List.length_append, List.length_cons, List.length_nil, List.length_map, List.length_take, List.length_drop]); repeat (refine And.intro (by omega) ?_)
  simp -dsimp only [push_cast, seval, hb]
  (first | refine call (hqb) ?_ | refine callP (hqb) ?_); simp -dsimp only [push_cast, seval]
  (try simp only [List.length_append, List.length_cons, List.length_nil, List.length_map, List.length_take, List.length_drop]); repeat (refine And.intro (by omega) ?_)
  (first | refine call (hj1) ?_ | refine callP (hj1) ?_); simp -dsimp only [push_cast, seval]
  exact ⟨[], rfl, rfl, by simp -dsimp only [WeakTm, WeakBx, CLe, CLeL, push_cast, seval]⟩
 ·have e1 := k4 rfl
  subst e1
  have e2 := k5 rfl
  subst e2
  have hsn : (slotsV [⟨4, 0, a, [], d⟩]).length = 0 := rfl
  have hj1 : Fun Tryz.prog GL 36 [.sl 1 [[C.str [115, 121, 109]], [C.str (quoteL d)], [C.str (quoteL a)]]] (.str (lineV ⟨4, 0, a, [], d⟩)) 0 := hj
  unfold opL
  refine Fun.of (fun _ => []) (by kernel_rfl) Tryz.func12 rfl rfl (Nat.le_of_ble_eq_true rfl) (by kernel_rfl) ?_; dsimp only [Tryz.f12, List.append_eq, List.cons_append, List.nil_append]
  simp -dsimp only [push_cast, seval]
  (first | refine call (hsl) ?_ | refine callP (hsl) ?_); simp -dsimp only [push_cast, seval, hsn]
  (first | refine call (hqd) ?_ | refine callP (hqd) ?_); simp -dsimp only [push_cast, seval]
  (try simp only [List.length_append, List.length_cons, List.length_nil, List.length_map, List.length_take, List.length_drop]); repeat (refine And.intro (by omega) ?_)
  (first | refine call (hqa) ?_ | refine callP (hqa) ?_); simp -dsimp only [push_cast, seval]
  (try simp only [List.length_append, List.length_cons, List.length_nil, List.length_map, List.length_take, List.length_drop]); repeat (refine And.intro (by omega) ?_)
  (first | refine call (hj1) ?_ | refine callP (hj1) ?_); simp -dsimp only [push_cast, seval]
  exact ⟨[], rfl, rfl, by simp -dsimp only [WeakTm, WeakBx, CLe, CLeL, push_cast, seval]⟩
 ·have e1 := k4 rfl
  subst e1
  have hb := hne rfl
  have hsn : (slotsV [⟨5, 0, a, b, d⟩]).length = 0 := rfl
  have hj1 : Fun Tryz.prog GL 36 [.sl 1 [[C.str [108, 105, 110, 107]], [C.str (quoteL a)], [C.str (quoteL b)]]] (.str (lineV ⟨5, 0, a, b, d⟩)) 0 := hj
  unfold opL
  refine Fun.of (fun _ => []) (by kernel_rfl) Tryz.func12 rfl rfl (Nat.le_of_ble_eq_true rfl) (by kernel_rfl) ?_; dsimp only [Tryz.f12, List.append_eq, List.cons_append, List.nil_append]
  simp -dsimp only [push_cast, seval]
  (first | refine call (hsl) ?_ | refine callP (hsl) ?_); simp -dsimp only [push_cast, seval, hsn]
  (first | refine call (hqa) ?_ | refine callP (hqa) ?_); simp -dsimp only [push_cast, seval]
  (try simp only [List.length_append, List.length_cons, List.length_nil, List.length_map, List.length_take, List.length_drop]); repeat (refine And.intro (by omega) ?_)
  simp -dsimp only [push_cast, seval, hb]
  (first | refine call (hqb) ?_ | refine callP (hqb) ?_); simp -dsimp only [push_cast, seval]
  (try simp only [List.length_append, List.length_cons, List.length_nil, List.length_map, List.length_take, List.length_drop]); repeat (refine And.intro (by omega) ?_)
  (first | refine call (hj1) ?_ | refine callP (hj1) ?_); simp -dsimp only [push_cast, seval]
  exact ⟨[], rfl, rfl, by simp -dsimp only [WeakTm, WeakBx, CLe, CLeL, push_cast, seval]⟩
 ·have e1 := k4 rfl
  subst e1
  have hb := hne rfl
  have hsn : (slotsV [⟨6, 0, a, b, d⟩]).length = 0 := rfl
  have hj1 : Fun Tryz.prog GL 36 [.sl 1 [[C.str [109, 111, 118, 101]], [C.str (quoteL a)], [C.str (quoteL b)]]] (.str (lineV ⟨6, 0, a, b, d⟩)) 0 := hj
  unfold opL
  refine Fun.of (fun _ => []) (by kernel_rfl) Tryz.func12 rfl rfl (Nat.le_of_ble_eq_true rfl) (by kernel_rfl) ?_; dsimp only [Tryz.f12, List.append_eq, List.cons_append, List.nil_append]
  simp -dsimp only [push_cast, seval]
  (first | refine call (hsl) ?_ | refine callP (hsl) ?_); simp -dsimp only [push_cast, seval, hsn]
  (first | refine call (hqa) ?_ | refine callP (hqa) ?_); simp -dsimp only [push_cast, seval]
  (try simp only [List.length_append, List.length_cons, List.length_nil, List.length_map, List.length_take, List.length_drop]); repeat (refine And.intro (by omega) ?_)
  simp -dsimp only [push_cast, seval, hb]
  (first | refine call (hqb) ?_ | refine callP (hqb) ?_); simp -dsimp only [push_cast, seval]
  (try simp only [List.length_append, List.length_cons, List.length_nil, List.length_map, List.length_take, List.length_drop]); repeat (refine And.intro (by omega) ?_)
  (first | refine call (hj1) ?_ | refine callP (hj1) ?_); simp -dsimp only [push_cast, seval]
  exact ⟨[], rfl, rfl, by simp -dsimp only [WeakTm, WeakBx, CLe, CLeL, push_cast, seval]⟩
 ·obtain ⟨s1, s2⟩ := k3 rfl
  obtain ⟨n, rfl⟩ : ∃ n : Nat, s = (n : Int) := ⟨s.toNat, by omega⟩
  have hit := itoa_fun n (by omega)
  have e2 := k5 rfl
  subst e2
  have hsn : (slotsV [⟨7, (n : Int), a, [], d⟩]).length = 1 := rfl
  have hj1 : Fun Tryz.prog GL 36 [.sl 1 [[C.str [115, 116, 97, 115, 104]], [C.str (Lib.decDigits n)], [C.str (quoteL a)]]] (.str (lineV ⟨7, (n : Int), a, [], d⟩)) 0 := hj
  unfold opL
  refine Fun.of (fun _ => []) (by kernel_rfl) Tryz.func12 rfl rfl (Nat.le_of_ble_eq_true rfl) (by kernel_rfl) ?_; dsimp only [Tryz.f12, List.append_eq, List.cons_append, List.nil_append]
  simp -dsimp only [push_cast, seval]
  (first | refine call (hsl) ?_ | refine callP (hsl) ?_); simp -dsimp only [push_cast, seval, hsn]
  (first | refine call (hit) ?_ | refine callP (hit) ?_); simp -dsimp only [push_cast, seval]
  (try simp only [List.length_append, List.length_cons, List.length_nil, List.length_map, List.length_take, List.length_drop]); repeat (refine And.intro (by omega) ?_)
  (first | refine call (hqa) ?_ | refine callP (hqa) ?_); simp -dsimp only [push_cast, seval]
  (try simp only [List.length_append, List.length_cons, List.length_nil, List.length_map, List.length_take, List.length_drop]); repeat (refine And.intro (by omega) ?_)
  (first | refine call (hj1) ?_ | refine callP (hj1) ?_); simp -dsimp only [push_cast, seval]
  exact ⟨[], rfl, rfl, by simp -dsimp only [WeakTm, WeakBx, CLe, CLeL, push_cast, seval]⟩
 ·have e1 := k4 rfl
  subst e1
  have e2 := k5 rfl
  subst e2
  have hsn : (slotsV [⟨8, 0, a, [], d⟩]).length = 0 := rfl
  have hj1 : Fun Tryz.prog GL 36 [.sl 1 [[C.str [101, 114, 97, 115, 101]], [C.str (quoteL a)]]] (.str (lineV ⟨8, 0, a, [], d⟩)) 0 := hj
  unfold opL
  refine Fun.of (fun _ => []) (by kernel_rfl) Tryz.func12 rfl rfl (Nat.le_of_ble_eq_true rfl) (by kernel_rfl) ?_; dsimp only [Tryz.f12, List.append_eq, List.cons_append, List.nil_append]
  simp -dsimp only [push_cast, seval]
  (first | refine call (hsl) ?_ | refine callP (hsl) ?_); simp -dsimp only [push_cast, seval, hsn]
  (first | refine call (hqa) ?_ | refine callP (hqa) ?_); simp -dsimp only [push_cast, seval]
  (try simp only [List.length_append, List.length_cons, List.length_nil, List.length_map, List.length_take, List.length_drop]); repeat (refine And.intro (by omega) ?_)
  (first | refine call (hj1) ?_ | refine callP (hj1) ?_); simp -dsimp only [push_cast, seval]
  exact ⟨[], rfl, rfl, by simp -dsimp only [WeakTm, WeakBx, CLe, CLeL, push_cast, seval]⟩
 ·obtain ⟨s1, s2⟩ := k3 rfl
  obtain ⟨n, rfl⟩ : ∃ n : Nat, s = (n : Int) := ⟨s.toNat, by omega⟩
  have hit := itoa_fun n (by omega)
  have e2 := k5 rfl
  subst e2
  have hsn : (slotsV [⟨9, (n : Int), a, [], d⟩]).length = 1 := rfl
  have hj1 : Fun Tryz.prog GL 36 [.sl 1 [[C.str [114, 101, 116, 117, 114, 110]], [C.str (Lib.decDigits n)], [C.str (quoteL a)]]] (.str (lineV ⟨9, (n : Int), a, [], d⟩)) 0 := hj
  unfold opL
  refine Fun.of (fun _ => []) (by kernel_rfl) Tryz.func12 rfl rfl (Nat.le_of_ble_eq_true rfl) (by kernel_rfl) ?_; dsimp only [Tryz.f12, List.append_eq, List.cons_append, List.nil_append]
  simp -dsimp only [push_cast, seval]
  (first | refine call (hsl) ?_ | refine callP (hsl) ?_); simp -dsimp only [push_cast, seval, hsn]
  (first | refine call (hit) ?_ | refine callP (hit) ?_); simp -dsimp only [push_cast, seval]
  (try simp only [List.length_append, List.length_cons, List.length_nil, List.length_map, List.length_take, List.length_drop]); repeat (refine And.intro (by omega) ?_)
  (first | refine call (hqa) ?_ | refine callP (hqa) ?_); simp -dsimp only [push_cast, seval]
  (try simp only [List.length_append, List.length_cons, List.length_nil, List.length_map, List.length_take, List.length_drop]); repeat (refine And.intro (by omega) ?_)
  (first | refine call (hj1) ?_ | refine callP (hj1) ?_); simp -dsimp only [push_cast, seval]
  exact ⟨[], rfl, rfl, by simp -dsimp only [WeakTm, WeakBx, CLe, CLeL, push_cast, seval]⟩
 ·obtain ⟨s1, s2⟩ := k3 rfl
  obtain ⟨n, rfl⟩ : ∃ n : Nat, s = (n : Int) := ⟨s.toNat, by omega⟩
  have hit := itoa_fun n (by omega)
  have e2 := k5 rfl
  subst e2
  have hsn : (slotsV [⟨10, (n : Int), a, [], d⟩]).length = 1 := rfl
  have hj1 : Fun Tryz.prog GL 36 [.sl 1 [[C.str [114, 101, 115, 116, 111, 114, 101]], [C.str (Lib.decDigits n)], [C.str (quoteL a)]]] (.str (lineV ⟨10, (n : Int), a, [], d⟩)) 0 := hj
  unfold opL
  refine Fun.of (fun _ => []) (by kernel_rfl) Tryz.func12 rfl rfl (Nat.le_of_ble_eq_true rfl) (by kernel_rfl) ?_; dsimp only [Tryz.f12, List.append_eq, List.cons_append, List.nil_append]
  simp -dsimp only [push_cast, seval]
  (first | refine call (hsl) ?_ | refine callP (hsl) ?_); simp -dsimp only [push_cast, seval, hsn]
  (first | refine call (hit) ?_ | refine callP (hit) ?_); simp -dsimp only [push_cast, seval]
  (try simp only [List.length_append, List.length_cons, List.length_nil, List.length_map, List.length_take, List.length_drop]); repeat (refine And.intro (by omega) ?_)
  (first | refine call (hqa) ?_ | refine callP (hqa) ?_); simp -dsimp only [push_cast, seval]
  (try simp only [List.length_append, List.length_cons, List.length_nil, List.length_map, List.length_take, List.length_drop]); repeat (refine And.intro (by omega) ?_)
  (first | refine call (hj1) ?_ | refine callP (hj1) ?_); simp -dsimp only [push_cast, seval]
  exact ⟨[], rfl, rfl, by simp -dsimp only [WeakTm, WeakBx, CLe, CLeL, push_cast, seval]⟩
end Go.Proofs.YtbphobmohdclaaaGreatDoor.Vcg
end
section
set_option linter.unusedVariables false
set_option maxRecDepth 100000
set_option linter.unusedSimpArgs false
namespace Go.Proofs.YtbphobmohdclaaaGreatDoor.Vcg
open Go.RowKit
open QuotePlain (Bs quoteL plainL blanks okw unq splitW numB valV most okTo isDig)
theorem may_ok {o : OpV} (h : mayB o = true) : LineOk o := by
 unfold mayB at h
 simp only [Bool.and_eq_true, decide_eq_true_eq] at h
 obtain ⟨⟨⟨⟨⟨⟨h1, h2⟩, h3⟩, h4⟩, h5⟩, h6⟩, h7⟩ := h
 refine ⟨h1, h2, fun e => ?_, fun e => ?_, fun e => ?_, fun e => ?_⟩
 ·rw [if_pos e] at h4; simpa using h4
 ·rw [if_neg (by rw [e]; simp)] at h4; simpa using h4
 ·rw [if_neg (by rw [e]; simp)] at h5; simpa using h5
 ·rw [if_neg e] at h6; simpa using h6
theorem may_b {o : OpV} (h : mayB o = true) (hb : hasB o.kind = true) : o.b ≠ [] := by
 unfold mayB at h
 simp only [Bool.and_eq_true, decide_eq_true_eq] at h
 obtain ⟨⟨⟨⟨⟨⟨h1, h2⟩, h3⟩, h4⟩, h5⟩, h6⟩, h7⟩ := h
 rw [if_pos hb] at h5
 intro e
 rw [e] at h5
 revert h5
 decide
theorem word_len : ∀ (ws : List Bs) (w : Bs), w ∈ ws → w.length ≤ (blanks ws).length
 | [], w, h => by cases h
 | [v], w, h => by
  rw [QuotePlain.blanks_one]
  have : w = v := by simpa using h
  rw [this]; exact Nat.le_refl _
 | v :: u :: ws, w, h => by
  rw [QuotePlain.blanks_cons]
  simp only [List.length_append, List.length_cons]
  rcases List.mem_cons.1 h with rfl | h
  ·omega
  ·have := word_len (u :: ws) w h
   omega
theorem text_len {w t : Bs} (h : unq w = some t) : t.length ≤ w.length := by
 have := (QuotePlain.unq_iff _ _).1 h
 subst this
 have : t.length ≤ (QuotePlain.mid t).length := by
  clear h
  induction t with
  | nil => simp
  | cons c t ih =>
   have := QuotePlain.qb_pos c
   simp only [QuotePlain.mid, List.flatMap_cons, List.length_append, List.length_cons] at ih ⊢
   omega
 simp only [quoteL, List.length_cons, List.length_append, List.length_nil]
 omega
def zeroOp : OpV := ⟨0, 0, [], [], []⟩
theorem kind_look {K : C → Prop} (w : Bs) (h : K (.sc (.int .i64 (kindOf w)))) : aLook2 (mget w namesT (kindVals 10)) (.sc (.int .i64 0)) false K := by
 have hg := kind_get w
 unfold aLook2
 cases hm : mget w namesT (kindVals 10) with
 | none => rw [hm] at hg; simp only [Option.getD_none] at hg; rw [← hg] at h; simpa using h
 | some c => rw [hm] at hg; simp only [Option.getD_some] at hg; rw [← hg] at h; simpa using h
end Go.Proofs.YtbphobmohdclaaaGreatDoor.Vcg
end
section
set_option linter.unusedVariables false
set_option maxRecDepth 100000
set_option linter.unusedSimpArgs false
namespace Go.Proofs.YtbphobmohdclaaaGreatDoor.Vcg
open Go.RowKit
open QuotePlain (Bs quoteL plainL blanks okw unq splitW numB valV most okTo isDig)
def txt (w : Bs) : Bs := (unq w).getD []
theorem txt_len (w : Bs) : (txt w).length ≤ w.length := by
 unfold txt
 cases h : unq w with
 | none => simp
 | some t => simpa using text_len h
end Go.Proofs.YtbphobmohdclaaaGreatDoor.Vcg
end
