/- What the proof of LangBack leans on, part 4: Vcg18 PathN Ref1 Shelf Path1 Path2 Path3 Path4 May1 May2 May3 Path5 Ref3 PathLaw OpenG Open. No condition beyond what each theorem states. -/
import Derived.Test.YtbphobmohdclaaaGreatDoorLangBackKc
import Derived.Shelf.Strings.Builder1
import Derived.Shelf.Strings.Builder2
import Derived.Shelf.Strings.OnBuilder
import Derived.Shelf.Small.Utf8
import Derived.Shelf.Small.Strs
import Derived.Shelf.Small.Wraps
import Derived.Shelf.Strings.BuilderF
import Derived.Shelf.Strconv.Itoa0
import Derived.Shelf.Strconv.Itoa1
import Derived.Shelf.LaysM
import Derived.Shelf.Strconv.Itoa2
import Derived.Shelf.Strconv.Itoa3
import Derived.Shelf.Strings.Search1
import Derived.Shelf.Strings.Search2
import Derived.Shelf.Strings.Search3
import Derived.Shelf.Strings.Cut
import Derived.Shelf.Strings.Shaped
import Derived.Shelf.Strings.Prefix
import Derived.Shelf.Unicode.Decode
import Derived.Shelf.Strings.Runes
import Derived.Shelf.Strings.IndexAny
import Derived.Shelf.Strings.AsciiSet
import Derived.Shelf.Strings.IndexAnyAll
import Derived.Shelf.Unicode.DecodeSlow
import Derived.Shelf.Unicode.DecodeAny
import Derived.Test.YtbphobmohdclaaaGreatDoorProg
import Derived.Laws.Runes
import Derived.Laws.RangeString
import Derived.WalkKit
import Derived.Deep.LoopGhost
import Derived.Lib.QuoteLoop
import Derived.Lib.IndexAny
import Derived.ProofKit
import Derived.Deep.Slices
import Derived.Deep.Fields
import Derived.ChangeSame
import Derived.ChangeOld
import Derived.Lib.SmallJoins
section
set_option linter.unusedVariables false
set_option linter.unusedSimpArgs false
namespace Go.Proofs.YtbphobmohdclaaaGreatDoor.Vcg
open Go.RowKit
section
variable {P : Program} {G : Globs} {σ σ' : St} {N p lg m : Nat} {h : Hd} {yd : Option Yd} {brs : List Bool} {bf : Nat → List Bool} {bx bx' : List (List C)} {ops : Array Oper} {c c' d d' : C} {t t' : TypeId} {K : C → Prop} {K2 : C → Nat → Prop} {K3 : C → St → Prop} {nx : Nat} {tm : List (Nat × C)} {x y z : Operand} {Q : Exit → St → Prop} {X Y : Prop}
def aCallN (P : Program) (G : Globs) (f : FuncId) (args : List C) (nx : Nat) (K : C → Nat → Prop) : Prop := ∃ r n, Fun P G f args r n ∧ K (r.sh nx) (nx + n)
theorem aCallN.mk {f : FuncId} {args : List C} {r : C} {n : Nat} (h : Fun P G f args r n) (hK : K2 (r.sh nx) (nx + n)) : aCallN P G f args nx K2 := ⟨r, n, h, hK⟩
def aCallC (P : Program) (G : Globs) (f : FuncId) (args fargs : List C) (σ : St) (K : C → St → Prop) : Prop :=
 (∃ r n, Fun P G f fargs r n ∧ K (r.sh σ.nx) ⟨σ.tm, σ.bx, σ.nx + n, σ.lg⟩) ∨ aCallB0 P G f args σ K ∨ aCallR P G f args σ K ∨ aCallX0 P G f args σ K ∨ aCallO P f args σ K
def aGd (d : Option Tmp) (tm : List (Nat × C)) (want : Bool) (X Y : Prop) : Prop := match d with
 | some d => match want with
  | true => ABrU (getC tm d) Y X Y
  | false => ABrU (getC tm d) Y Y X
 | none => False
def aLoad1 (L : Option Lay) (c : C) (bx : List (List C)) (K : C → Prop) : Prop :=
 match L with
 | none => False
 | some L => match c with
  | .ptr i off => match bx[i]? with
   | some cs => aTake L (cs.drop off) K
   | none => False
  | .row cs => aTake L cs K
  | _ => False
def aLoad2 (cs : Option (List C)) (off : Nat) (L : Lay) (K : C → Prop) : Prop := match cs with | some cs => aTake L (cs.drop off) K | none => False
def aBool1 (L : Option Lay) (op : BinOp) (a b : Bool) (K : C → Prop) : Prop := match L with | some ⟨.bool, _, _, _⟩ => aBool op a b K | _ => False
def aOpt (x : Option C) (K : C → Prop) : Prop := match x with | some c => K c | none => False
def aField1 (L : Option Lay) (c : C) (f : Nat) (K : C → Prop) : Prop :=
 match L with
 | some ⟨.struct fs, _, _, _⟩ => match fs[f]?, c with
  | some (off, size, agg), .agg cs =>
   if agg then off + size ≤ cs.length ∧ K (.agg ((cs.drop off).take size)) else match cs[off]? with
    | some c => K c
    | none => False
  | _, _ => False
 | _ => False
def aField2 (f : Option (Nat × Nat × Bool)) (cs : List C) (K : C → Prop) : Prop :=
 match f with
 | some (off, size, agg) => if agg then off + size ≤ cs.length ∧ K (.agg ((cs.drop off).take size)) else match cs[off]? with
    | some c => K c
    | none => False
 | none => False
def aFA1 (L : Option Lay) (c : C) (f : Nat) (K : C → Prop) : Prop :=
 match L with
 | some ⟨.struct fs, _, _, _⟩ => match fs[f]?, c with
  | some (off, size, _), .ptr i o => if size = 0 then False else K (.ptr i (o + off))
  | some (off, size, _), .row cs => if size = 0 then False else K (.row (cs.drop off))
  | _, _ => False
 | _ => False
def aFA2 (f : Option (Nat × Nat × Bool)) (c : C) (K : C → Prop) : Prop :=
 match f, c with
  | some (off, size, _), .ptr i o => if size = 0 then False else K (.ptr i (o + off))
  | some (off, size, _), .row cs => if size = 0 then False else K (.row (cs.drop off))
  | _, _ => False
def aIA1 (P : Program) (L : Option Lay) (c : C) (i : C) (K : C → Prop) : Prop :=
 match L, i with
 | some ⟨.slice e, _, _, _⟩, .sc (.int _ n) => match lay P e with
  | some L => match c with
   | .bs j off k m _ => k = L.size ∧ 0 ≤ n ∧ n < (m : Int) ∧ K (.ptr j (off + n.toNat * L.size))
   | c => match c.rows? L.size with
    | some rows => match rows[n.toNat]? with
     | some r => 0 ≤ n ∧ K (.row r)
     | none => False
    | none => False
  | none => False
 | some ⟨.array (m + 1) e, _, _, _⟩, .sc (.int _ n) => match lay P e with
  | some L => match c with
   | .ptr j off => 0 ≤ n ∧ n < ((m + 1 : Nat) : Int) ∧ K (.ptr j (off + n.toNat * L.size))
   | .row cs => 0 ≤ n ∧ n < ((m + 1 : Nat) : Int) ∧ K (.row (cs.drop (n.toNat * L.size)))
   | _ => False
  | none => False
 | _, _ => False
def aIAs (L : Option Lay) (c : C) (n : Int) (K : C → Prop) : Prop :=
 match L with
  | some L => match c with
   | .bs j off k m _ => k = L.size ∧ 0 ≤ n ∧ n < (m : Int) ∧ K (.ptr j (off + n.toNat * L.size))
   | c => match c.rows? L.size with
    | some rows => match rows[n.toNat]? with
     | some r => 0 ≤ n ∧ K (.row r)
     | none => False
    | none => False
  | none => False
def aIAr (rows : Option (List (List C))) (n : Int) (K : C → Prop) : Prop :=
 match rows with
   | some rows => match rows[n.toNat]? with
    | some r => 0 ≤ n ∧ K (.row r)
    | none => False
   | none => False
def aAt (r : Option (List C)) (n : Int) (K : C → Prop) : Prop := match r with | some r => 0 ≤ n ∧ K (.row r) | none => False
def aIAa (L : Option Lay) (c : C) (m : Nat) (n : Int) (K : C → Prop) : Prop :=
 match L with
  | some L => match c with
   | .ptr j off => 0 ≤ n ∧ n < ((m + 1 : Nat) : Int) ∧ K (.ptr j (off + n.toNat * L.size))
   | .row cs => 0 ≤ n ∧ n < ((m + 1 : Nat) : Int) ∧ K (.row (cs.drop (n.toNat * L.size)))
   | _ => False
  | none => False
def aIx1 (L : Option Lay) (c i : C) (K : C → Prop) : Prop :=
 match L, c, i with
 | some ⟨.str, _, _, _⟩, .str l, .sc (.int _ n) => match l[n.toNat]? with
  | some b => 0 ≤ n ∧ K (.sc (.int .u8 (b.toNat : Int)))
  | none => False
 | _, _, _ => False
def aByte (b : Option UInt8) (n : Int) (K : C → Prop) : Prop := match b with | some b => 0 ≤ n ∧ K (.sc (.int .u8 (b.toNat : Int))) | none => False
def aSl1 (P : Program) (L : Option Lay) (c : C) (lo hi mx : Option Int) (K : C → Prop) : Prop :=
   match L with
    | some ⟨.str, _, _, _⟩ => match c, mx with
      | .str l, none => cutOk l.length lo hi ∧ K (.str (cut l lo hi))
      | _, _ => False
    | some ⟨.slice e, _, _, _⟩ => match lay P e with
      | some L => match c with
        | .bs i off k n cap => aSlB L.size i off k n cap lo hi mx K
        | c => match c.rows? L.size with
          | some rows => match mx, hi with
            | none, _ => cutOk rows.length lo hi ∧ K (.sl L.size (cut rows lo hi))
            | some m, some h => m = h ∧ cutOk rows.length lo hi ∧ K (.tight L.size (cut rows lo hi))
            | some _, none => False
          | none => False
      | none => False
    | _ => False
def aSl0 (P : Program) (t : TypeId) (c : C) (lo hi mx : Option (Option Int)) (K : C → Prop) : Prop :=
 match lo, hi, mx with
 | some lo, some hi, some mx => aSl1 P (lay P t) c lo hi mx K
 | _, _, _ => False
def aSlS (L : Option Lay) (c : C) (lo hi mx : Option Int) (K : C → Prop) : Prop :=
 match L with
   | some L => match c with
    | .bs i off k n cap => aSlB L.size i off k n cap lo hi mx K
    | c => match c.rows? L.size with
     | some rows => match mx, hi with
      | none, _ => cutOk rows.length lo hi ∧ K (.sl L.size (cut rows lo hi))
      | some m, some h => m = h ∧ cutOk rows.length lo hi ∧ K (.tight L.size (cut rows lo hi))
      | some _, none => False
     | none => False
   | none => False
def aSlR (rows : Option (List (List C))) (k : Nat) (lo hi mx : Option Int) (K : C → Prop) : Prop :=
 match rows with
    | some rows => match mx, hi with
     | none, _ => cutOk rows.length lo hi ∧ K (.sl k (cut rows lo hi))
     | some m, some h => m = h ∧ cutOk rows.length lo hi ∧ K (.tight k (cut rows lo hi))
     | some _, none => False
    | none => False
def aBytes (rows : Option (List (List C))) (K : C → Prop) : Prop := match rows with | some rows => ∃ l, rows = bytesC l ∧ K (.str l) | none => False
theorem aBytes.mk {rows : List (List C)} (l : List UInt8) (h : rows = bytesC l) (hK : K (.str l)) : aBytes (some rows) K := ⟨l, h, hK⟩
def aCv1 (P : Program) (D S : Option Lay) (c : C) (K : C → Prop) : Prop :=
 match D with
 | some ⟨.int k, _, _, _⟩ => match c with
  | .sc (.int _ n) => match S with | some _ => inR k n ∧ K (.sc (.int k n)) | none => False
  | _ => False
 | some ⟨.str, _, _, _⟩ => match S with
  | some ⟨.str, _, _, _⟩ => match c with
   | .str l => K (.str l)
   | _ => False
  | some ⟨.slice e, _, _, _⟩ => match lay P e with
   | some ⟨.int .u8, _, _, _⟩ => match c.rows? 1 with
    | some rows => ∃ l, rows = bytesC l ∧ K (.str l)
    | none => False
   | _ => False
  | some ⟨.int _, _, _, _⟩ => match c with
   | .sc (.int _ n) => K (.str (Utf8.encode n).data.toList)
   | _ => False
  | _ => False
 | some ⟨.slice e, _, _, _⟩ => match S, lay P e with
  | some ⟨.str, _, _, _⟩, some ⟨.int .u8, _, _, _⟩ => match c with
   | .str l => ((l.length : Nat) : Int) ≤ 9223372036854775807 ∧ K (.sl 1 (bytesC l))
   | _ => False
  | _, _ => False
 | _ => False
def aCvB (L : Option Lay) (c : C) (K : C → Prop) : Prop :=
 match L with
   | some ⟨.int .u8, _, _, _⟩ => match c.rows? 1 with
    | some rows => ∃ l, rows = bytesC l ∧ K (.str l)
    | none => False
   | _ => False
def aCvS (L : Option Lay) (l : List UInt8) (K : C → Prop) : Prop :=
 match L with
  | some ⟨.int .u8, _, _, _⟩ => ((l.length : Nat) : Int) ≤ 9223372036854775807 ∧ K (.sl 1 (bytesC l))
  | _ => False
def aCap1 (L : Option Lay) (c : C) (K : C → Prop) : Prop :=
 match L, c with
 | some ⟨.slice _, _, _, _⟩, .bs _ _ _ _ c => K (.sc (.int .i64 (c : Int)))
 | some ⟨.slice _, _, _, _⟩, .sc (.slice none 0 0) => K (.sc (.int .i64 0))
 | _, _ => False
def aLenL (L : Option Lay) (n : Int) (K : C → Prop) : Prop := match L with | some ⟨.slice _, _, _, _⟩ => K (.sc (.int .i64 n)) | _ => False
def aLenT (L : Option Lay) (n : Int) (K : C → Prop) : Prop := match L with | some ⟨.str, _, _, _⟩ => K (.sc (.int .i64 n)) | _ => False
def aBd1 (L : Option Lay) (parts : List (Nat × C)) (K : C → Prop) : Prop :=
 match L with
 | some ⟨.struct fs, _, _, some z⟩ => (parts.all fun p => p.2.partB) = true ∧ match aFill (fun i => (fs[i]?).map fun f => (f.1, f.2.1)) (z.map ofConst) parts with
  | some cs => K (.agg cs)
  | none => False
 | _ => False
def aFl (cs : Option (List C)) (K : C → Prop) : Prop := match cs with | some cs => K (.agg cs) | none => False
def plS (fs : List (Nat × Nat × Bool)) (i : Nat) : Option (Nat × Nat) := (fs[i]?).map fun f => (f.1, f.2.1)
def plA (k : Nat) (i : Nat) : Option (Nat × Nat) := some (i * k, k)
def aFillP (pl : Option (Nat × Nat)) (place : Nat → Option (Nat × Nat)) (cs : List C) (c : List C) (rest : List (Nat × C)) : Option (List C) :=
 match pl with
  | none => none
  | some (off, size) => if c.length = size ∧ off + size ≤ cs.length then aFill place (cs.take off ++ c ++ cs.drop (off + size)) rest else none
def aBS1 (P : Program) (L : Option Lay) (n : Nat) (parts : List (Nat × C)) (nx : Nat) (K : C → Nat → Prop) : Prop :=
 match L with
 | some ⟨.slice e, _, _, _⟩ => match lay P e with
  | some ⟨_, k, _, some z⟩ => z.length = k ∧ 0 < k ∧ n * k ≤ 16777216 ∧ (parts.all fun p => p.2.frz.partB) = true ∧ match aFill (fun i => some (i * k, k)) (List.replicate n (z.map ofConst)).flatten (parts.map fun p => (p.1, p.2.frz)) with
   | some cs => (cs.all C.cellB) = true ∧ cs.length = n * k ∧ K (.own nx e k (aRows k n cs)) (nx + 1)
   | none => False
  | _ => False
 | _ => False
def aBS2 (L : Option Lay) (e : TypeId) (n : Nat) (parts : List (Nat × C)) (nx : Nat) (K : C → Nat → Prop) : Prop :=
   match L with
    | some ⟨_, k, _, some z⟩ => z.length = k ∧ 0 < k ∧ n * k ≤ 16777216 ∧ (parts.all fun p => p.2.frz.partB) = true ∧ match aFill (fun i => some (i * k, k)) (List.replicate n (z.map ofConst)).flatten (parts.map fun p => (p.1, p.2.frz)) with
      | some cs => (cs.all C.cellB) = true ∧ cs.length = n * k ∧ K (.own nx e k (aRows k n cs)) (nx + 1)
      | none => False
    | _ => False
def aBS3 (cs : Option (List C)) (e k n nx : Nat) (K : C → Nat → Prop) : Prop :=
 match cs with
   | some cs => (cs.all C.cellB) = true ∧ cs.length = n * k ∧ K (.own nx e k (aRows k n cs)) (nx + 1)
   | none => False
def aMk1 (P : Program) (L : Option Lay) (l c : C) (nx : Nat) (K : C → Nat → Prop) : Prop :=
 match L, l, c with
 | some ⟨.slice e, _, _, _⟩, .sc (.int _ l), .sc (.int _ c) => match lay P e with
  | some ⟨_, k, by', some z⟩ => z.length = k ∧ 0 < k ∧ (z.all Value.oneCell') = true ∧ 0 ≤ l ∧ l ≤ c ∧ (by' : Int) * c ≤ 281474976710656 ∧ c ≤ 9223372036854775807 ∧ K (.own nx e k (List.replicate l.toNat (z.map ofConst))) (nx + 1)
  | _ => False
 | _, _, _ => False
def aMk2 (L : Option Lay) (e : TypeId) (l c : Int) (nx : Nat) (K : C → Nat → Prop) : Prop :=
 match L with
  | some ⟨_, k, by', some z⟩ => z.length = k ∧ 0 < k ∧ (z.all Value.oneCell') = true ∧ 0 ≤ l ∧ l ≤ c ∧ (by' : Int) * c ≤ 281474976710656 ∧ c ≤ 9223372036854775807 ∧ K (.own nx e k (List.replicate l.toNat (z.map ofConst))) (nx + 1)
  | _ => False
def aMkB1 (P : Program) (L : Option Lay) (l c : C) (σ : St) (K : C → St → Prop) : Prop :=
 match L, l, c with
 | some ⟨.slice e, _, _, _⟩, .sc (.int _ l), .sc (.int _ c) => match lay P e with
  | some ⟨_, k, by', some z⟩ => z.length = k ∧ 0 < k ∧ (z.all Value.oneCell') = true ∧ 0 ≤ l ∧ l ≤ c ∧ (by' : Int) * c ≤ 281474976710656 ∧ c ≤ 9223372036854775807 ∧ K (.bs σ.bx.length 0 k l.toNat c.toNat) ⟨σ.tm, σ.bx ++ [(List.replicate c.toNat (z.map ofConst)).flatten], σ.nx, σ.lg⟩
  | _ => False
 | _, _, _ => False
def aMkB2 (L : Option Lay) (l c : Int) (σ : St) (K : C → St → Prop) : Prop :=
 match L with
  | some ⟨_, k, by', some z⟩ => z.length = k ∧ 0 < k ∧ (z.all Value.oneCell') = true ∧ 0 ≤ l ∧ l ≤ c ∧ (by' : Int) * c ≤ 281474976710656 ∧ c ≤ 9223372036854775807 ∧ K (.bs σ.bx.length 0 k l.toNat c.toNat) ⟨σ.tm, σ.bx ++ [(List.replicate c.toNat (z.map ofConst)).flatten], σ.nx, σ.lg⟩
  | _ => False
def aAp1 (P : Program) (L : Option Lay) (s x : C) (nx : Nat) (K : C → Nat → Prop) : Prop :=
 match L with
 | some ⟨.slice e, _, _, _⟩ => match lay P e with
  | some ⟨_, k, by', some z⟩ => match x.rows? k with
   | some xs => match s with
    | .sc (.slice none 0 0) => z.length = k ∧ 0 < k ∧ xs.length ≤ 9223372036854775807 ∧ xs.length * by' ≤ 140737488355328 ∧ K (.own nx e k xs) (nx + 1)
    | .tight k' rows => k' = k ∧ z.length = k ∧ 0 < k ∧ xs ≠ [] ∧ rows.length + xs.length ≤ 9223372036854775807 ∧ (rows.length + xs.length) * by' ≤ 140737488355328 ∧ K (.own nx e k (rows ++ xs)) (nx + 1)
    | _ => False
   | none => False
  | _ => False
 | _ => False
def aAp2 (L : Option Lay) (e : TypeId) (s x : C) (nx : Nat) (K : C → Nat → Prop) : Prop :=
  match L with
  | some ⟨_, k, by', some z⟩ => match x.rows? k with
   | some xs => match s with
    | .sc (.slice none 0 0) => z.length = k ∧ 0 < k ∧ xs.length ≤ 9223372036854775807 ∧ xs.length * by' ≤ 140737488355328 ∧ K (.own nx e k xs) (nx + 1)
    | .tight k' rows => k' = k ∧ z.length = k ∧ 0 < k ∧ xs ≠ [] ∧ rows.length + xs.length ≤ 9223372036854775807 ∧ (rows.length + xs.length) * by' ≤ 140737488355328 ∧ K (.own nx e k (rows ++ xs)) (nx + 1)
    | _ => False
   | none => False
  | _ => False
def aAp3 (xs : Option (List (List C))) (s : C) (e k by' : Nat) (z : List Value) (nx : Nat) (K : C → Nat → Prop) : Prop :=
 match xs with
   | some xs => match s with
    | .sc (.slice none 0 0) => z.length = k ∧ 0 < k ∧ xs.length ≤ 9223372036854775807 ∧ xs.length * by' ≤ 140737488355328 ∧ K (.own nx e k xs) (nx + 1)
    | .tight k' rows => k' = k ∧ z.length = k ∧ 0 < k ∧ xs ≠ [] ∧ rows.length + xs.length ≤ 9223372036854775807 ∧ (rows.length + xs.length) * by' ≤ 140737488355328 ∧ K (.own nx e k (rows ++ xs)) (nx + 1)
    | _ => False
   | none => False
def aAo1 (P : Program) (L : Option Lay) (id e k : Nat) (rows : List (List C)) (x : C) (σ : St) (K : C → St → Prop) : Prop :=
   match L with
    | some ⟨.slice e', _, _, _⟩ => match lay P e with
      | some ⟨_, k', by', some z⟩ => match x.rows? k with
        | some xs => e' = e ∧ k' = k ∧ z.length = k ∧ 0 < k ∧ rows.length + xs.length ≤ 9223372036854775807 ∧ (rows.length + xs.length) * by' ≤ 140737488355328 ∧ K (.own id e k (rows ++ xs)) ⟨dgTm id σ.tm, dgBx id σ.bx, σ.nx, σ.lg⟩
        | none => False
      | _ => False
    | _ => False
def aAo2 (L : Option Lay) (e' id e k : Nat) (rows : List (List C)) (x : C) (σ : St) (K : C → St → Prop) : Prop :=
  match L with
   | some ⟨_, k', by', some z⟩ => match x.rows? k with
    | some xs => e' = e ∧ k' = k ∧ z.length = k ∧ 0 < k ∧ rows.length + xs.length ≤ 9223372036854775807 ∧ (rows.length + xs.length) * by' ≤ 140737488355328 ∧ K (.own id e k (rows ++ xs)) ⟨dgTm id σ.tm, dgBx id σ.bx, σ.nx, σ.lg⟩
    | none => False
   | _ => False
def aAo3 (xs : Option (List (List C))) (by' id e k : Nat) (rows : List (List C)) (σ : St) (K : C → St → Prop) : Prop :=
   match xs with
        | some xs => rows.length + xs.length ≤ 9223372036854775807 ∧ (rows.length + xs.length) * by' ≤ 140737488355328 ∧ K (.own id e k (rows ++ xs)) ⟨dgTm id σ.tm, dgBx id σ.bx, σ.nx, σ.lg⟩
        | none => False
def aAl1 (L : Option Lay) (σ : St) (K : C → St → Prop) : Prop :=
 match L with
 | some ⟨_, _, _, some z⟩ => (z.all Value.oneCell') = true ∧ K (.ptr σ.bx.length 0) ⟨σ.tm, σ.bx ++ [z.map ofConst], σ.nx, σ.lg⟩
 | _ => False
def aSm1 (L : Option Lay) (p c : C) (bx : List (List C)) (K : C → Prop) : Prop :=
 match L, p with
 | some L, .ptr i off => match bx[i]? with
  | some cs => c.partB = true ∧ (c.cells.all C.cellB) = true ∧ c.cells.length = L.size ∧ off + L.size ≤ cs.length ∧ sameC ((cs.drop off).take L.size) c.cells ∧ K .any
  | none => False
 | _, _ => False
def aSm2 (cs : Option (List C)) (off size : Nat) (c : C) (K : C → Prop) : Prop :=
 match cs with
  | some cs => c.partB = true ∧ (c.cells.all C.cellB) = true ∧ c.cells.length = size ∧ off + size ≤ cs.length ∧ sameC ((cs.drop off).take size) c.cells ∧ K .any
  | none => False
def aSt1 (L : Option Lay) (p c : C) (σ : St) (K : C → St → Prop) : Prop :=
 match L, p with
 | some L, .ptr i off => match σ.bx[i]? with
  | some cs => c.partB = true ∧ (c.cells.all C.cellB) = true ∧ c.cells.length = L.size ∧ off + L.size ≤ cs.length ∧ K .any ⟨σ.tm, σ.bx.set i (cs.take off ++ c.cells ++ cs.drop (off + L.size)), σ.nx, σ.lg⟩
  | none => False
 | _, _ => False
def aSt2 (cs : Option (List C)) (i off size : Nat) (c : C) (σ : St) (K : C → St → Prop) : Prop :=
 match cs with
  | some cs => c.partB = true ∧ (c.cells.all C.cellB) = true ∧ c.cells.length = size ∧ off + size ≤ cs.length ∧ K .any ⟨σ.tm, σ.bx.set i (cs.take off ++ c.cells ++ cs.drop (off + size)), σ.nx, σ.lg⟩
  | none => False
def aBytesB (cs : Option (List C)) (off n : Nat) (K : C → Prop) : Prop := match cs with
   | some cs => ∃ l : List UInt8, l.length = n ∧ (cs.drop off).take n = l.map (fun b => C.sc (.int .u8 (b.toNat : Int))) ∧ K (.str l)
   | none => False
theorem aBytesB.mk {cs : List C} {off n : Nat} {K : C → Prop} (l : List UInt8) (hl : l.length = n) (h : (cs.drop off).take n = l.map (fun b => C.sc (.int .u8 (b.toNat : Int)))) (hK : K (.str l)) : aBytesB (some cs) off n K := ⟨l, hl, h, hK⟩
def aCvb1 (P : Program) (D S : Option Lay) (bx : List (List C)) (i off n : Nat) (K : C → Prop) : Prop :=
 match D, S with
 | some ⟨.str, _, _, _⟩, some ⟨.slice e, _, _, _⟩ => match lay P e with
  | some ⟨.int .u8, _, _, _⟩ => match bx[i]? with
   | some cs => ∃ l : List UInt8, l.length = n ∧ (cs.drop off).take n = l.map (fun b => C.sc (.int .u8 (b.toNat : Int))) ∧ K (.str l)
   | none => False
  | _ => False
 | _, _ => False
def aCvb2 (L : Option Lay) (cs : Option (List C)) (off n : Nat) (K : C → Prop) : Prop :=
 match L with
  | some ⟨.int .u8, _, _, _⟩ => match cs with
   | some cs => ∃ l : List UInt8, l.length = n ∧ (cs.drop off).take n = l.map (fun b => C.sc (.int .u8 (b.toNat : Int))) ∧ K (.str l)
   | none => False
  | _ => False
def aBB1 (P : Program) (L : Option Lay) (n : Nat) (parts : List (Nat × C)) (σ : St) (K : C → St → Prop) : Prop :=
 match L with
 | some ⟨.slice e, _, _, _⟩ => match lay P e with
  | some ⟨_, k, _, some z⟩ => z.length = k ∧ 0 < k ∧ n * k ≤ 16777216 ∧ (parts.all fun p => p.2.frz.partB) = true ∧ match aFill (fun i => some (i * k, k)) (List.replicate n (z.map ofConst)).flatten (parts.map fun p => (p.1, p.2.frz)) with
   | some cs => (cs.all C.cellB) = true ∧ cs.length = n * k ∧ K (.bs σ.bx.length 0 k n n) ⟨σ.tm, σ.bx ++ [cs], σ.nx, σ.lg⟩
   | none => False
  | _ => False
 | _ => False
def aBB2 (L : Option Lay) (n : Nat) (parts : List (Nat × C)) (σ : St) (K : C → St → Prop) : Prop :=
   match L with
    | some ⟨_, k, _, some z⟩ => z.length = k ∧ 0 < k ∧ n * k ≤ 16777216 ∧ (parts.all fun p => p.2.frz.partB) = true ∧ match aFill (fun i => some (i * k, k)) (List.replicate n (z.map ofConst)).flatten (parts.map fun p => (p.1, p.2.frz)) with
      | some cs => (cs.all C.cellB) = true ∧ cs.length = n * k ∧ K (.bs σ.bx.length 0 k n n) ⟨σ.tm, σ.bx ++ [cs], σ.nx, σ.lg⟩
      | none => False
    | _ => False
def aBB3 (cs : Option (List C)) (k n : Nat) (σ : St) (K : C → St → Prop) : Prop :=
 match cs with
   | some cs => (cs.all C.cellB) = true ∧ cs.length = n * k ∧ K (.bs σ.bx.length 0 k n n) ⟨σ.tm, σ.bx ++ [cs], σ.nx, σ.lg⟩
   | none => False
def aPB1 (P : Program) (L : Option Lay) (p : Nat) (s x : C) (σ : St) (K : C → St → Prop) : Prop :=
 match L with
 | some ⟨.slice e, _, _, _⟩ => match lay P e with
  | some ⟨_, k, by', some z⟩ => match x.xs? k σ.bx with
   | some (m, xs) => z.length = k ∧ 0 < k ∧ (z.all Value.oneCell') = true ∧ 0 < m ∧ match s with
    | .sc (.slice none 0 0) => m ≤ 9223372036854775807 ∧ m * by' ≤ 140737488355328 ∧ ∀ c, m ≤ c → c ≤ maxLen → K (.bs σ.bx.length 0 k m c) ⟨σ.tm, σ.bx ++ [xs ++ List.replicate ((c - m) * k) .any], σ.nx, σ.lg⟩
    | .bs i 0 k' n c => match σ.bx[i]? with
     | some cs => k' = k ∧ p ≤ i ∧ cs.length = c * k ∧ n ≤ c ∧ c ≤ 9223372036854775807 ∧ n + m ≤ 9223372036854775807 ∧ (n + m) * by' ≤ 140737488355328 ∧
       ∀ c', n + m ≤ c' → c' ≤ maxLen → K (.bs i 0 k (n + m) c') ⟨reTm (fpBut i) some σ.tm, butBx i (C.reL (fpBut i) some (cs.take (n * k) ++ xs) ++ List.replicate ((c' - (n + m)) * k) .any) σ.bx, σ.nx, σ.lg⟩
     | none => False
    | _ => False
   | none => False
  | _ => False
 | _ => False
def aPB2 (L : Option Lay) (p : Nat) (s x : C) (σ : St) (K : C → St → Prop) : Prop :=
  match L with
  | some ⟨_, k, by', some z⟩ => match x.xs? k σ.bx with
   | some (m, xs) => z.length = k ∧ 0 < k ∧ (z.all Value.oneCell') = true ∧ 0 < m ∧ match s with
    | .sc (.slice none 0 0) => m ≤ 9223372036854775807 ∧ m * by' ≤ 140737488355328 ∧ ∀ c, m ≤ c → c ≤ maxLen → K (.bs σ.bx.length 0 k m c) ⟨σ.tm, σ.bx ++ [xs ++ List.replicate ((c - m) * k) .any], σ.nx, σ.lg⟩
    | .bs i 0 k' n c => match σ.bx[i]? with
     | some cs => k' = k ∧ p ≤ i ∧ cs.length = c * k ∧ n ≤ c ∧ c ≤ 9223372036854775807 ∧ n + m ≤ 9223372036854775807 ∧ (n + m) * by' ≤ 140737488355328 ∧
       ∀ c', n + m ≤ c' → c' ≤ maxLen → K (.bs i 0 k (n + m) c') ⟨reTm (fpBut i) some σ.tm, butBx i (C.reL (fpBut i) some (cs.take (n * k) ++ xs) ++ List.replicate ((c' - (n + m)) * k) .any) σ.bx, σ.nx, σ.lg⟩
     | none => False
    | _ => False
   | none => False
  | _ => False
def aPB3 (X : Option (Nat × List C)) (p k by' : Nat) (z : List Value) (s : C) (σ : St) (K : C → St → Prop) : Prop :=
  match X with
   | some (m, xs) => z.length = k ∧ 0 < k ∧ (z.all Value.oneCell') = true ∧ 0 < m ∧ match s with
    | .sc (.slice none 0 0) => m ≤ 9223372036854775807 ∧ m * by' ≤ 140737488355328 ∧ ∀ c, m ≤ c → c ≤ maxLen → K (.bs σ.bx.length 0 k m c) ⟨σ.tm, σ.bx ++ [xs ++ List.replicate ((c - m) * k) .any], σ.nx, σ.lg⟩
    | .bs i 0 k' n c => match σ.bx[i]? with
     | some cs => k' = k ∧ p ≤ i ∧ cs.length = c * k ∧ n ≤ c ∧ c ≤ 9223372036854775807 ∧ n + m ≤ 9223372036854775807 ∧ (n + m) * by' ≤ 140737488355328 ∧
       ∀ c', n + m ≤ c' → c' ≤ maxLen → K (.bs i 0 k (n + m) c') ⟨reTm (fpBut i) some σ.tm, butBx i (C.reL (fpBut i) some (cs.take (n * k) ++ xs) ++ List.replicate ((c' - (n + m)) * k) .any) σ.bx, σ.nx, σ.lg⟩
     | none => False
    | _ => False
   | none => False
def bsO (j : Option Nat) (off k n c : Nat) : C := match j with | some j => .bs j off k n c | none => .any
def xsB (k' k off n : Nat) (cs : Option (List C)) : Option (Nat × List C) := if k' = k then cs.bind fun cs => if off + n * k ≤ cs.length then some (n, (cs.drop off).take (n * k)) else none else none
def ownO (j : Option Nat) (e k : Nat) (rows : List (List C)) : C := match j with | some j => .own j e k rows | none => .sl k rows
def rowO (cs : Option (List C)) (off : Nat) : C := match cs with | some cs => .row ((C.frzL cs).drop off) | none => .any
def ptrO (j : Option Nat) (off : Nat) : C := match j with | some j => .ptr j off | none => .any
def aLend (cs : Option (List C)) (p : Option Tmp) (σ : St) (K : St → Prop) : Prop := match cs, p with
  | some cs, some p => K ⟨(p, .ptr σ.bx.length 0) :: σ.tm, σ.bx ++ [cs], σ.nx, σ.lg⟩
  | _, _ => False
def aMm1 (M : Option (MKd × C)) (t : TypeId) (r : Option C) (nx : Nat) (K : C → Nat → Prop) : Prop :=
 match M with
 | some (kd, _) => match r with
  | none => K (.mo nx t kd.nil []) (nx + 1)
  | some (.sc (.int _ _)) => K (.mo nx t kd.nil []) (nx + 1)
  | _ => False
 | none => False
def aLk1 (M : Option (MKd × C)) (t : TypeId) (m key : C) (ok : Bool) (K : C → Prop) : Prop :=
 match M with
 | some (.int k, z) => match m, key with
  | .mo _ t' (.int k' l) vs, .sc (.int q n) => t' = t ∧ k' = k ∧ q = k ∧ aLook2 (mget n l vs) z ok K
  | _, _ => False
 | some (.str, z) => match m, key with
  | .mo _ t' (.str l) vs, .str s => t' = t ∧ aLook2 (mget s l vs) z ok K
  | _, _ => False
 | none => False
def aMu1 (M : Option (MKd × C)) (t : TypeId) (m key x : C) (σ : St) (K : C → St → Prop) : Prop :=
 match M with
 | some (.int k, _) => match m, key with
  | .mo id t' (.int k' l) vs, .sc (.int q n) => t' = t ∧ k' = k ∧ q = k ∧ aMapUp2 id (.int k (mput n x.frz l vs).1) (mput n x.frz l vs).2 σ K
  | _, _ => False
 | some (.str, _) => match m, key with
  | .mo id t' (.str l) vs, .str s => t' = t ∧ aMapUp2 id (.str (mput s x.frz l vs).1) (mput s x.frz l vs).2 σ K
  | _, _ => False
 | none => False
def aLm1 (M : Option (MKd × C)) (n : Nat) (K : C → Prop) : Prop := match M with | some _ => K (.sc (.int .i64 (n : Int))) | none => False
def moO (j : Option Nat) (t : TypeId) (ks : MK) (vs : List C) : C := match j with | some j => .mo j t ks vs | none => .any
def evGl (x : Option (List C)) : C := match x with | some cs => .row cs | none => .any
structure Tag.{u} {α : Sort u} (a : α) : Type where
def baMm1 (M : Option (MKd × C)) (t : TypeId) (r : Option C) (nx : Nat) (K : C → Nat → Prop) (_ : Tag K) : Prop := aMm1 M t r nx K
def baLk1 (M : Option (MKd × C)) (t : TypeId) (m key : C) (ok : Bool) (K : C → Prop) (_ : Tag K) : Prop := aLk1 M t m key ok K
def baLook2 (r : Option C) (z : C) (ok : Bool) (K : C → Prop) (_ : Tag K) : Prop := aLook2 r z ok K
def baMu1 (M : Option (MKd × C)) (t : TypeId) (m key x : C) (σ : St) (K : C → St → Prop) (_ : Tag K) : Prop := aMu1 M t m key x σ K
def baLm1 (M : Option (MKd × C)) (n : Nat) (K : C → Prop) (_ : Tag K) : Prop := aLm1 M n K
def baSlB (sz i off k n cap : Nat) (lo hi mx : Option Int) (K : C → Prop) (_ : Tag K) : Prop := aSlB sz i off k n cap lo hi mx K
def baAppB2 (P : Program) (t : TypeId) (s x : C) (σ : St) (K : C → St → Prop) (_ : Tag K) : Prop := aAppB2 P t s x σ K
def baAppZ (P : Program) (t tn : TypeId) (s x : C) (σ : St) (K : C → St → Prop) (_ : Tag K) : Prop := aAppZ P t tn s x σ K
def baCopy (P : Program) (t : TypeId) (d x : C) (σ : St) (K : C → St → Prop) (_ : Tag K) : Prop := aCopy P t d x σ K
def baClear (P : Program) (t : TypeId) (x : C) (σ : St) (K : C → St → Prop) (_ : Tag K) : Prop := aClear P t x σ K
def baMax (x y : C) (K : C → Prop) (_ : Tag K) : Prop := aMax x y K
def baCap (P : Program) (t : TypeId) (c : C) (K : C → Prop) (_ : Tag K) : Prop := aCap P t c K
def baCap1 (L : Option Lay) (c : C) (K : C → Prop) (_ : Tag K) : Prop := aCap1 L c K
def baConvX (P : Program) (bx : List (List C)) (s d : TypeId) (c : C) (K : C → Prop) (_ : Tag K) : Prop := aConvX P bx s d c K
def baBytesB (cs : Option (List C)) (off n : Nat) (K : C → Prop) (_ : Tag K) : Prop := aBytesB cs off n K
def baCvb1 (P : Program) (D S : Option Lay) (bx : List (List C)) (i off n : Nat) (K : C → Prop) (_ : Tag K) : Prop := aCvb1 P D S bx i off n K
def baCvb2 (L : Option Lay) (cs : Option (List C)) (off n : Nat) (K : C → Prop) (_ : Tag K) : Prop := aCvb2 L cs off n K
def baBuildBox (P : Program) (t : TypeId) (n : Nat) (parts : List (Nat × C)) (σ : St) (K : C → St → Prop) (_ : Tag K) : Prop := aBuildBox P t n parts σ K
def baBB1 (P : Program) (L : Option Lay) (n : Nat) (parts : List (Nat × C)) (σ : St) (K : C → St → Prop) (_ : Tag K) : Prop := aBB1 P L n parts σ K
def baBB2 (L : Option Lay) (n : Nat) (parts : List (Nat × C)) (σ : St) (K : C → St → Prop) (_ : Tag K) : Prop := aBB2 L n parts σ K
def baBB3 (cs : Option (List C)) (k n : Nat) (σ : St) (K : C → St → Prop) (_ : Tag K) : Prop := aBB3 cs k n σ K
def baAppBox (P : Program) (p : Nat) (t : TypeId) (s x : C) (σ : St) (K : C → St → Prop) (_ : Tag K) : Prop := aAppBox P p t s x σ K
def baPB1 (P : Program) (L : Option Lay) (p : Nat) (s x : C) (σ : St) (K : C → St → Prop) (_ : Tag K) : Prop := aPB1 P L p s x σ K
def baPB2 (L : Option Lay) (p : Nat) (s x : C) (σ : St) (K : C → St → Prop) (_ : Tag K) : Prop := aPB2 L p s x σ K
def baPB3 (X : Option (Nat × List C)) (p k by' : Nat) (z : List Value) (s : C) (σ : St) (K : C → St → Prop) (_ : Tag K) : Prop := aPB3 X p k by' z s σ K
def bABr (c : C) (X Y : Prop) (_ : Tag X) (_ : Tag Y) : Prop := ABr c X Y
def bABrU (c : C) (U X Y : Prop) (_ : Tag U) (_ : Tag X) (_ : Tag Y) : Prop := ABrU c U X Y
def baGuard (ops : Array Oper) (tm : List (Nat × C)) (g : Option (Nat × Bool)) (X Y : Prop) (_ : Tag ops) (_ : Tag X) (_ : Tag Y) : Prop := aGuard ops tm g X Y
def baGd (d : Option Tmp) (tm : List (Nat × C)) (want : Bool) (X Y : Prop) (_ : Tag X) (_ : Tag Y) : Prop := aGd d tm want X Y
def bawp (P : Program) (G : Globs) (h : Hd) (c : Code) (Q : Exit → St → Prop) (σ : St) (_ : Tag c) (_ : Tag Q) : Prop := awp P G h c Q σ
def baops (P : Program) (G : Globs) (h : Hd) (ops : Array Oper) (l : List Oper) (σ : St) (K : St → Prop) (_ : Tag h) (_ : Tag ops) (_ : Tag l) (_ : Tag K) : Prop := aops P G h ops l σ K
def badops (P : Program) (G : Globs) (h : Hd) (ops : Array Oper) (l : List Oper) (br : List Bool) (σ : St) (K : St → Prop) (_ : Tag h) (_ : Tag ops) (_ : Tag l) (_ : Tag K) : Prop := adops P G h ops l br σ K
def badraw (P : Program) (G : Globs) (h : Hd) (ops : Array Oper) (br : List Bool) (σ : St) (K : St → Prop) (_ : Tag h) (_ : Tag ops) (_ : Tag K) : Prop := adraw P G h ops br σ K
def batwin (P : Program) (G : Globs) (h : Hd) (l : List Oper) (σ : St) (K : St → Prop) (_ : Tag h) (_ : Tag l) (_ : Tag K) : Prop := atwin P G h l σ K
def batk (P : Program) (G : Globs) (h : Hd) (ops : Array Oper) (m : Nat) (l : List Oper) (σ : St) (K : St → Prop) (_ : Tag h) (_ : Tag ops) (_ : Tag l) (_ : Tag K) : Prop := adops P G h ops (l.take m) [] σ fun σ' => atwin P G h (l.drop m) σ' K
def ba2 (P : Program) (G : Globs) (ops : Array Oper) (b1 b2 : List (List C)) (m : Nat) (l : List Oper) (tm : List (Nat × C)) (nx : Nat) (K : List (Nat × C) → Nat → Prop) (_ : Tag ops) (_ : Tag l) (_ : Tag K) : Prop := adops2 P G ops b1 b2 (l.take m) tm nx K
def bafl (P : Program) (G : Globs) (h : Hd) (ops : Array Oper) (all : List Oper) (s : Nat) (br : List Bool) (s0 : St) (m : Nat) (l : List Oper) (σ : St) (K : St → Prop) (_ : Tag h) (_ : Tag ops) (_ : Tag all) (_ : Tag l) (_ : Tag K) : Prop := adops P G h ops (l.take m) [] σ fun σ1 => afl1 P G h ops all s br s0 (l.drop (m + 1)) (l[m]?) σ1 K
def bladops (P : Program) (G : Globs) (ops : Array Oper) (a s : Nat) (l : List Oper) (i : Nat) (cs : Option (List C)) (σ : St) (K : St → Prop) (_ : Tag ops) (_ : Tag l) (_ : Tag K) : Prop := ladops P G ops a s l i cs σ K
def baLend (cs : Option (List C)) (p : Option Tmp) (σ : St) (K : St → Prop) (_ : Tag K) : Prop := aLend cs p σ K
def baLaid (L : Option Lay) (K : Prop) (_ : Tag K) : Prop := aLaid L K
def baLate (L : Option Lay) (c : C) (K : C → Prop) (_ : Tag K) : Prop := aLate L c K
def baEff (P : Program) (G : Globs) (h : Hd) (op : Op) (σ : St) (K : C → St → Prop) (_ : Tag h) (_ : Tag op) (_ : Tag K) : Prop := aEff P G h op σ K
def baCallC (P : Program) (G : Globs) (f : FuncId) (args fargs : List C) (σ : St) (K : C → St → Prop) (_ : Tag K) : Prop := aCallC P G f args fargs σ K
def baCallV (P : Program) (G : Globs) (h : Hd) (c : C) (args : List C) (σ : St) (K : C → St → Prop) (_ : Tag h) (_ : Tag K) : Prop := aCallV P G h c args σ K
def baYield1 (y : Yd) (it : Option (List C)) (args : List C) (σ : St) (K : C → St → Prop) (_ : Tag y) (_ : Tag K) : Prop := aYield1 y it args σ K
def bARange (P : Program) (G : Globs) (p : Nat) (A B : Nat → (Exit → St → Prop) → St → Prop) (Q : Exit → St → Prop) (ps : List Tmp) (c : C) (σ : St) (_ : Tag A) (_ : Tag B) (_ : Tag Q) : Prop := ARange P G p A B Q ps c σ
def baPure (P : Program) (G : Globs) (bx : List (List C)) (ev : Operand → C) (op : Op) (nx : Nat) (K : C → Nat → Prop) (_ : Tag ev) (_ : Tag op) (_ : Tag K) : Prop := aPure P G bx ev op nx K
def baRes (P : Program) (σ : St) (rs : List ResultVar) (K : C → Prop) (_ : Tag K) : Prop := aRes P σ rs K
def baResOne (P : Program) (σ : St) (rv : ResultVar) (K : C → Prop) (_ : Tag K) : Prop := aResOne P σ rv K
def baBin (P : Program) (t : TypeId) (op : BinOp) (x y : C) (K : C → Prop) (_ : Tag K) : Prop := aBin P t op x y K
def baInt (op : BinOp) (k : IntKind) (a b : Int) (K : C → Prop) (_ : Tag K) : Prop := aInt op k a b K
def baNilL (l : Option Lay) (op : BinOp) (x : C) (K : C → Prop) (_ : Tag K) : Prop := aNilL l op x K
def baNil1 (op : BinOp) (b : Bool) (K : C → Prop) (_ : Tag K) : Prop := aNil1 op b K
def baStr (op : BinOp) (a b : List UInt8) (K : C → Prop) (_ : Tag K) : Prop := aStr op a b K
def baBool (op : BinOp) (a b : Bool) (K : C → Prop) (_ : Tag K) : Prop := aBool op a b K
def baBool1 (L : Option Lay) (op : BinOp) (a b : Bool) (K : C → Prop) (_ : Tag K) : Prop := aBool1 L op a b K
def baEq0 (op : BinOp) (ks : Option (List LK)) (xs ys : List C) (K : C → Prop) (_ : Tag K) : Prop := aEq0 op ks xs ys K
def baEq (n : Bool) (ks : List LK) (xs ys : List C) (e : Bool) (K : C → Prop) (_ : Tag K) : Prop := aEq n ks xs ys e K
def baUn (op : UnOp) (x : C) (K : C → Prop) (_ : Tag K) : Prop := aUn op x K
def baLoad (P : Program) (t : TypeId) (c : C) (bx : List (List C)) (K : C → Prop) (_ : Tag K) : Prop := aLoad P t c bx K
def baLoad1 (L : Option Lay) (c : C) (bx : List (List C)) (K : C → Prop) (_ : Tag K) : Prop := aLoad1 L c bx K
def baLoad2 (cs : Option (List C)) (off : Nat) (L : Lay) (K : C → Prop) (_ : Tag K) : Prop := aLoad2 cs off L K
def baTake (L : Lay) (cs : List C) (K : C → Prop) (_ : Tag K) : Prop := aTake L cs K
def baOpt (x : Option C) (K : C → Prop) (_ : Tag K) : Prop := aOpt x K
def baExtract (c : C) (i : Nat) (K : C → Prop) (_ : Tag K) : Prop := aExtract c i K
def baNil (c : C) (K : C → Prop) (_ : Tag K) : Prop := aNil c K
def baField (P : Program) (t : TypeId) (c : C) (f : Nat) (K : C → Prop) (_ : Tag K) : Prop := aField P t c f K
def baField1 (L : Option Lay) (c : C) (f : Nat) (K : C → Prop) (_ : Tag K) : Prop := aField1 L c f K
def baField2 (f : Option (Nat × Nat × Bool)) (cs : List C) (K : C → Prop) (_ : Tag K) : Prop := aField2 f cs K
def baFieldAddr (P : Program) (t : TypeId) (c : C) (f : Nat) (K : C → Prop) (_ : Tag K) : Prop := aFieldAddr P t c f K
def baFA1 (L : Option Lay) (c : C) (f : Nat) (K : C → Prop) (_ : Tag K) : Prop := aFA1 L c f K
def baFA2 (f : Option (Nat × Nat × Bool)) (c : C) (K : C → Prop) (_ : Tag K) : Prop := aFA2 f c K
def baIndexAddr (P : Program) (t : TypeId) (c : C) (i : C) (K : C → Prop) (_ : Tag K) : Prop := aIndexAddr P t c i K
def baIA1 (P : Program) (L : Option Lay) (c : C) (i : C) (K : C → Prop) (_ : Tag K) : Prop := aIA1 P L c i K
def baIAs (L : Option Lay) (c : C) (n : Int) (K : C → Prop) (_ : Tag K) : Prop := aIAs L c n K
def baIAr (rows : Option (List (List C))) (n : Int) (K : C → Prop) (_ : Tag K) : Prop := aIAr rows n K
def baAt (r : Option (List C)) (n : Int) (K : C → Prop) (_ : Tag K) : Prop := aAt r n K
def baIAa (L : Option Lay) (c : C) (m : Nat) (n : Int) (K : C → Prop) (_ : Tag K) : Prop := aIAa L c m n K
def baIndex (P : Program) (t : TypeId) (c i : C) (K : C → Prop) (_ : Tag K) : Prop := aIndex P t c i K
def baIx1 (L : Option Lay) (c i : C) (K : C → Prop) (_ : Tag K) : Prop := aIx1 L c i K
def baByte (b : Option UInt8) (n : Int) (K : C → Prop) (_ : Tag K) : Prop := aByte b n K
def baSlice (P : Program) (t : TypeId) (c : C) (lo hi mx : Option C) (K : C → Prop) (_ : Tag K) : Prop := aSlice P t c lo hi mx K
def baSl0 (P : Program) (t : TypeId) (c : C) (lo hi mx : Option (Option Int)) (K : C → Prop) (_ : Tag K) : Prop := aSl0 P t c lo hi mx K
def baSl1 (P : Program) (L : Option Lay) (c : C) (lo hi mx : Option Int) (K : C → Prop) (_ : Tag K) : Prop := aSl1 P L c lo hi mx K
def baSlS (L : Option Lay) (c : C) (lo hi mx : Option Int) (K : C → Prop) (_ : Tag K) : Prop := aSlS L c lo hi mx K
def baSlR (rows : Option (List (List C))) (k : Nat) (lo hi mx : Option Int) (K : C → Prop) (_ : Tag K) : Prop := aSlR rows k lo hi mx K
def baBytes (rows : Option (List (List C))) (K : C → Prop) (_ : Tag K) : Prop := aBytes rows K
def baConv (P : Program) (s d : TypeId) (c : C) (K : C → Prop) (_ : Tag K) : Prop := aConv P s d c K
def baCv1 (P : Program) (D S : Option Lay) (c : C) (K : C → Prop) (_ : Tag K) : Prop := aCv1 P D S c K
def baCvB (L : Option Lay) (c : C) (K : C → Prop) (_ : Tag K) : Prop := aCvB L c K
def baCvS (L : Option Lay) (l : List UInt8) (K : C → Prop) (_ : Tag K) : Prop := aCvS L l K
def baLen (P : Program) (t : TypeId) (c : C) (K : C → Prop) (_ : Tag K) : Prop := aLen P t c K
def baLenL (L : Option Lay) (n : Int) (K : C → Prop) (_ : Tag K) : Prop := aLenL L n K
def baLenT (L : Option Lay) (n : Int) (K : C → Prop) (_ : Tag K) : Prop := aLenT L n K
def baBuild (P : Program) (t : TypeId) (parts : List (Nat × C)) (K : C → Prop) (_ : Tag K) : Prop := aBuild P t parts K
def baBd1 (L : Option Lay) (parts : List (Nat × C)) (K : C → Prop) (_ : Tag K) : Prop := aBd1 L parts K
def baFl (cs : Option (List C)) (K : C → Prop) (_ : Tag K) : Prop := aFl cs K
def baBuildSlice (P : Program) (t : TypeId) (n : Nat) (parts : List (Nat × C)) (nx : Nat) (K : C → Nat → Prop) (_ : Tag K) : Prop := aBuildSlice P t n parts nx K
def baBS1 (P : Program) (L : Option Lay) (n : Nat) (parts : List (Nat × C)) (nx : Nat) (K : C → Nat → Prop) (_ : Tag K) : Prop := aBS1 P L n parts nx K
def baBS2 (L : Option Lay) (e : TypeId) (n : Nat) (parts : List (Nat × C)) (nx : Nat) (K : C → Nat → Prop) (_ : Tag K) : Prop := aBS2 L e n parts nx K
def baBS3 (cs : Option (List C)) (e k n nx : Nat) (K : C → Nat → Prop) (_ : Tag K) : Prop := aBS3 cs e k n nx K
def baMake (P : Program) (t : TypeId) (l c : C) (nx : Nat) (K : C → Nat → Prop) (_ : Tag K) : Prop := aMake P t l c nx K
def baMakeBox (P : Program) (t : TypeId) (l c : C) (σ : St) (K : C → St → Prop) (_ : Tag K) : Prop := aMakeBox P t l c σ K
def baMkB1 (P : Program) (L : Option Lay) (l c : C) (σ : St) (K : C → St → Prop) (_ : Tag K) : Prop := aMkB1 P L l c σ K
def baMkB2 (L : Option Lay) (l c : Int) (σ : St) (K : C → St → Prop) (_ : Tag K) : Prop := aMkB2 L l c σ K
def baMk1 (P : Program) (L : Option Lay) (l c : C) (nx : Nat) (K : C → Nat → Prop) (_ : Tag K) : Prop := aMk1 P L l c nx K
def baMk2 (L : Option Lay) (e : TypeId) (l c : Int) (nx : Nat) (K : C → Nat → Prop) (_ : Tag K) : Prop := aMk2 L e l c nx K
def baAppend (P : Program) (t : TypeId) (s x : C) (σ : St) (K : C → St → Prop) (_ : Tag K) : Prop := aAppend P t s x σ K
def baAppNew (P : Program) (t : TypeId) (s x : C) (nx : Nat) (K : C → Nat → Prop) (_ : Tag K) : Prop := aAppNew P t s x nx K
def baAp1 (P : Program) (L : Option Lay) (s x : C) (nx : Nat) (K : C → Nat → Prop) (_ : Tag K) : Prop := aAp1 P L s x nx K
def baAp2 (L : Option Lay) (e : TypeId) (s x : C) (nx : Nat) (K : C → Nat → Prop) (_ : Tag K) : Prop := aAp2 L e s x nx K
def baAp3 (xs : Option (List (List C))) (s : C) (e k by' : Nat) (z : List Value) (nx : Nat) (K : C → Nat → Prop) (_ : Tag K) : Prop := aAp3 xs s e k by' z nx K
def baAo1 (P : Program) (L : Option Lay) (id e k : Nat) (rows : List (List C)) (x : C) (σ : St) (K : C → St → Prop) (_ : Tag K) : Prop := aAo1 P L id e k rows x σ K
def baAo2 (L : Option Lay) (e' id e k : Nat) (rows : List (List C)) (x : C) (σ : St) (K : C → St → Prop) (_ : Tag K) : Prop := aAo2 L e' id e k rows x σ K
def baAo3 (xs : Option (List (List C))) (by' id e k : Nat) (rows : List (List C)) (σ : St) (K : C → St → Prop) (_ : Tag K) : Prop := aAo3 xs by' id e k rows σ K
def baCallF (P : Program) (G : Globs) (callee : C) (args : List C) (nx : Nat) (K : C → Nat → Prop) (_ : Tag K) : Prop := aCallF P G callee args nx K
def baCallN (P : Program) (G : Globs) (f : FuncId) (args : List C) (nx : Nat) (K : C → Nat → Prop) (_ : Tag K) : Prop := aCallN P G f args nx K
def baBox (c : C) (σ : St) (K : C → St → Prop) (_ : Tag K) : Prop := aBox c σ K
def baAl1 (L : Option Lay) (σ : St) (K : C → St → Prop) (_ : Tag K) : Prop := aAl1 L σ K
def baSt1 (L : Option Lay) (p c : C) (σ : St) (K : C → St → Prop) (_ : Tag K) : Prop := aSt1 L p c σ K
def baSm1 (L : Option Lay) (p c : C) (bx : List (List C)) (K : C → Prop) (_ : Tag K) : Prop := aSm1 L p c bx K
def baSm2 (cs : Option (List C)) (off size : Nat) (c : C) (K : C → Prop) (_ : Tag K) : Prop := aSm2 cs off size c K
def baSt2 (cs : Option (List C)) (i off size : Nat) (c : C) (σ : St) (K : C → St → Prop) (_ : Tag K) : Prop := aSt2 cs i off size c σ K
def bALoop (p : Nat) (B : (Exit → St → Prop) → St → Prop) (Q : Exit → St → Prop) (σ : St) (_ : Tag B) (_ : Tag Q) : Prop := ALoop p B Q σ
def bthenK (next : St → Prop) (Q : Exit → St → Prop) (_ : Tag next) (_ : Tag Q) : Exit → St → Prop := thenK next Q
def bblockK (id : Nat) (Q : Exit → St → Prop) (_ : Tag Q) : Exit → St → Prop := blockK id Q
def bnoGotoK (Q : Exit → St → Prop) (_ : Tag Q) : Exit → St → Prop := noGotoK Q
def bloopK (next : St → Prop) (Q : Exit → St → Prop) (_ : Tag next) (_ : Tag Q) : Exit → St → Prop := loopK next Q
def bonlyK (K : St → Prop) (_ : Tag K) : Exit → St → Prop := onlyK K
def broundK (m : Nat) (tm : List (Nat × C)) (st : Bool) (next : St) (Q : Exit → St → Prop) (_ : Tag next) (_ : Tag Q) : Exit → St → Prop := roundK m tm st next Q
def bretK (P : Program) (rs : List ResultVar) (K : C → St → Prop) (_ : Tag K) : Exit → St → Prop := retK P rs K
theorem s_skip : bawp P G h .skip Q σ ⟨⟩ ⟨⟩ = Q .normal σ := (rfl)
theorem s_label {l : Nat} : bawp P G h (.label l) Q σ ⟨⟩ ⟨⟩ = Q .normal σ := (rfl)
theorem s_exit {id : Nat} : bawp P G h (.exit id) Q σ ⟨⟩ ⟨⟩ = Q (.exit id) σ := (rfl)
theorem s_goto {l : Nat} : bawp P G h (.goto l) Q σ ⟨⟩ ⟨⟩ = Q (.goto l) σ := (rfl)
theorem s_ret : bawp P G h .ret Q σ ⟨⟩ ⟨⟩ = Q .ret σ := (rfl)
theorem s_seq {a b : Code} : bawp P G h (.seq a b) Q σ ⟨⟩ ⟨⟩ = bawp P G h a (bthenK (fun σ => bawp P G h b Q σ ⟨⟩ ⟨⟩) Q ⟨⟩ ⟨⟩) σ ⟨⟩ ⟨⟩ := (rfl)
theorem s_cond {cc : Operand} {a b : Code} : bawp P G h (.cond cc a b) Q ⟨tm, bx, nx, lg⟩ ⟨⟩ ⟨⟩ = bABr (evOf G tm cc) (bawp P G h a Q ⟨tm, bx, nx, lg⟩ ⟨⟩ ⟨⟩) (bawp P G h b Q ⟨tm, bx, nx, lg⟩ ⟨⟩ ⟨⟩) ⟨⟩ ⟨⟩ := (rfl)
theorem s_block {id : Nat} {a : Code} : bawp P G h (.block id a) Q σ ⟨⟩ ⟨⟩ = bawp P G h a (bblockK id Q ⟨⟩) σ ⟨⟩ ⟨⟩ := (rfl)
theorem s_loop {a : Code} : bawp P G ⟨p, yd, bf⟩ (.loop a) Q σ ⟨⟩ ⟨⟩ = bALoop p (fun Q σ => bawp P G ⟨p, yd, bf⟩ a Q σ ⟨⟩ ⟨⟩) Q σ ⟨⟩ ⟨⟩ := (rfl)
theorem s_rangeF {a b : Code} {x : Operand} {ps : List Tmp} : bawp P G ⟨p, yd, bf⟩ (.rangeFunc x ps.toArray a b) Q ⟨tm, bx, nx, lg⟩ ⟨⟩ ⟨⟩ = bARange P G p (fun m => fun Q σ => bawp P G ⟨m, yd, bf⟩ a Q σ ⟨⟩ ⟨⟩) (fun m => fun Q σ => bawp P G ⟨m, yd, bf⟩ b Q σ ⟨⟩ ⟨⟩) Q ps (evOf G tm x) ⟨tm, bx, nx, lg⟩ ⟨⟩ ⟨⟩ ⟨⟩ := (rfl)
theorem s_scope {a : Code} : bawp P G h (.scope a) Q σ ⟨⟩ ⟨⟩ = bawp P G h a (bnoGotoK Q ⟨⟩) σ ⟨⟩ ⟨⟩ := (rfl)
theorem s_region {id : Nat} {l : List Oper} : bawp P G ⟨p, yd, bf⟩ (.region id l.toArray false) Q σ ⟨⟩ ⟨⟩ = baops P G ⟨p, yd, bf⟩ l.toArray l σ (Q .normal) ⟨⟩ ⟨⟩ ⟨⟩ ⟨⟩ := (rfl)
theorem s_regiond {id : Nat} {l : List Oper} : bawp P G ⟨p, yd, bf⟩ (.region id l.toArray true) Q σ ⟨⟩ ⟨⟩ = badraw P G ⟨p, yd, bf⟩ l.toArray (bf id) σ (Q .normal) ⟨⟩ ⟨⟩ ⟨⟩ := (rfl)
theorem s_adraw0 {KS : St → Prop} {l : List Oper} : badraw P G h l.toArray [] σ KS ⟨⟩ ⟨⟩ ⟨⟩ = badops P G h l.toArray l [] σ KS ⟨⟩ ⟨⟩ ⟨⟩ ⟨⟩ := (rfl)
theorem s_adrawF {KS : St → Prop} {l : List Oper} {r : List Bool} : badraw P G h l.toArray (false :: r) σ KS ⟨⟩ ⟨⟩ ⟨⟩ = badops P G h l.toArray l (false :: r) σ KS ⟨⟩ ⟨⟩ ⟨⟩ ⟨⟩ := (rfl)
theorem s_adrawT1 {KS : St → Prop} {l : List Oper} : badraw P G h l.toArray [true] σ KS ⟨⟩ ⟨⟩ ⟨⟩ = badops P G h l.toArray l [true] σ KS ⟨⟩ ⟨⟩ ⟨⟩ ⟨⟩ := (rfl)
theorem s_adrawT2 {KS : St → Prop} {l : List Oper} {r : List Bool} : badraw P G h l.toArray (true :: false :: r) σ KS ⟨⟩ ⟨⟩ ⟨⟩ = badops P G h l.toArray l (true :: false :: r) σ KS ⟨⟩ ⟨⟩ ⟨⟩ ⟨⟩ := (rfl)
theorem s_adrawT3 {KS : St → Prop} {l : List Oper} : badraw P G h l.toArray [true, true] σ KS ⟨⟩ ⟨⟩ ⟨⟩ = badops P G h l.toArray l [true, true] σ KS ⟨⟩ ⟨⟩ ⟨⟩ ⟨⟩ := (rfl)
theorem s_adrawT4 {KS : St → Prop} {l : List Oper} {r : List Bool} : badraw P G h l.toArray (true :: true :: false :: false :: r) σ KS ⟨⟩ ⟨⟩ ⟨⟩ = badops P G h l.toArray l (true :: true :: false :: false :: r) σ KS ⟨⟩ ⟨⟩ ⟨⟩ ⟨⟩ := (rfl)
theorem s_adrawW {KS : St → Prop} {l : List Oper} {m : Nat} : badraw P G h l.toArray (twinB m) σ KS ⟨⟩ ⟨⟩ ⟨⟩ = batk P G h l.toArray m l σ KS ⟨⟩ ⟨⟩ ⟨⟩ ⟨⟩ := (show adraw P G h l.toArray (lateB m 0) σ KS = adops P G h l.toArray (l.take m) [] σ fun σ' => atwin P G h (l.drop m) σ' KS from by unfold adraw; rw [lateOf_lateB]; rfl)
theorem s_atk0 {KS : St → Prop} {l : List Oper} : batk P G h ops 0 l σ KS ⟨⟩ ⟨⟩ ⟨⟩ ⟨⟩ = batwin P G h l σ KS ⟨⟩ ⟨⟩ ⟨⟩ := (rfl)
theorem s_atkS {m : Nat} {KS : St → Prop} {dst : Option Tmp} {op : Op} {ty : TypeId} {pos : String} {af : Array Edge} {g : Option (Nat × Bool)} {rest : List Oper} : batk P G h ops (m + 1) (⟨dst, op, ty, pos, af, g⟩ :: rest) ⟨tm, bx, nx, lg⟩ KS ⟨⟩ ⟨⟩ ⟨⟩ ⟨⟩ = baGuard ops tm g (baPure P G bx (evOf G tm) op nx (fun c nx' => batk P G h ops m rest ⟨putT tm dst c, bx, nx', lg⟩ KS ⟨⟩ ⟨⟩ ⟨⟩ ⟨⟩) ⟨⟩ ⟨⟩ ⟨⟩) (batk P G h ops m rest ⟨putT tm dst (.sc undef), bx, nx, lg⟩ KS ⟨⟩ ⟨⟩ ⟨⟩ ⟨⟩) ⟨⟩ ⟨⟩ ⟨⟩ := (rfl)
theorem s_twin {KS : St → Prop} {d1 d2 d3 : Option Tmp} {o1 o2 o3 : Op} {y1 y2 y3 : TypeId} {p1 p2 p3 : String} {f1 f2 f3 : Array Edge} {g1 g2 g3 : Option (Nat × Bool)} : batwin P G h [⟨d1, o1, y1, p1, f1, g1⟩, ⟨d2, o2, y2, p2, f2, g2⟩, ⟨d3, o3, y3, p3, f3, g3⟩] ⟨tm, bx, nx, lg⟩ KS ⟨⟩ ⟨⟩ ⟨⟩ =
    (baEff P G h o1 ⟨tm, bx, nx, lg⟩ (fun ca s1 => baEff P G h o2 (s1.put d1 ca) (fun cb s2 => baEff P G h o3 (s2.put d2 cb) (fun cc s3 => KS (s3.put d3 cc)) ⟨⟩ ⟨⟩ ⟨⟩) ⟨⟩ ⟨⟩ ⟨⟩) ⟨⟩ ⟨⟩ ⟨⟩ ∧
     baEff P G h o2 ⟨tm, bx, nx, lg⟩ (fun cb s1 => baEff P G h o1 (s1.put d2 cb) (fun ca s2 => baEff P G h o3 (s2.put d1 ca) (fun cc s3 => KS (s3.put d3 cc)) ⟨⟩ ⟨⟩ ⟨⟩) ⟨⟩ ⟨⟩ ⟨⟩) ⟨⟩ ⟨⟩ ⟨⟩) :=
  (show atwin P G h [⟨d1, o1, y1, p1, f1, g1⟩, ⟨d2, o2, y2, p2, f2, g2⟩, ⟨d3, o3, y3, p3, f3, g3⟩] ⟨tm, bx, nx, lg⟩ KS = _ from rfl)
theorem s_adrawQ {KS : St → Prop} {l : List Oper} {s : Nat} {br : List Bool} : badraw P G h l.toArray (floatB s br) σ KS ⟨⟩ ⟨⟩ ⟨⟩ = bafl P G h l.toArray l s br σ s l σ KS ⟨⟩ ⟨⟩ ⟨⟩ ⟨⟩ ⟨⟩ := (show adraw P G h l.toArray (floatB s br) σ KS = afloat P G h l.toArray s br σ KS from by
 unfold adraw
 rw [show lateOf (floatB s br) = none from rfl, floatOf_floatB])
theorem s_flS {KS : St → Prop} {all : List Oper} {s m : Nat} {br : List Bool} {s0 : St} {dst : Option Tmp} {op : Op} {ty : TypeId} {pos : String} {af : Array Edge} {g : Option (Nat × Bool)} {rest : List Oper} : bafl P G h ops all s br s0 (m + 1) (⟨dst, op, ty, pos, af, g⟩ :: rest) ⟨tm, bx, nx, lg⟩ KS ⟨⟩ ⟨⟩ ⟨⟩ ⟨⟩ ⟨⟩ = baGuard ops tm g (baPure P G bx (evOf G tm) op nx (fun c nx' => bafl P G h ops all s br s0 m rest ⟨putT tm dst c, bx, nx', lg⟩ KS ⟨⟩ ⟨⟩ ⟨⟩ ⟨⟩ ⟨⟩) ⟨⟩ ⟨⟩ ⟨⟩) (bafl P G h ops all s br s0 m rest ⟨putT tm dst (.sc undef), bx, nx, lg⟩ KS ⟨⟩ ⟨⟩ ⟨⟩ ⟨⟩ ⟨⟩) ⟨⟩ ⟨⟩ ⟨⟩ :=
 (show (adops P G h ops (⟨dst, op, ty, pos, af, g⟩ :: rest.take m) [] ⟨tm, bx, nx, lg⟩ fun σ1 => afl1 P G h ops all s br s0 (rest.drop (m + 1)) (rest[m]?) σ1 KS) = aGuard ops tm g (aPure P G bx (evOf G tm) op nx fun c nx' => adops P G h ops (rest.take m) [] ⟨putT tm dst c, bx, nx', lg⟩ fun σ1 => afl1 P G h ops all s br s0 (rest.drop (m + 1)) (rest[m]?) σ1 KS) (adops P G h ops (rest.take m) [] ⟨putT tm dst (.sc undef), bx, nx, lg⟩ fun σ1 => afl1 P G h ops all s br s0 (rest.drop (m + 1)) (rest[m]?) σ1 KS) from rfl)
theorem s_fl0 {KS : St → Prop} {all rest : List Oper} {s nx0 lg0 : Nat} {br : List Bool} {tm0 : List (Nat × C)} {bx0 : List (List C)} {ty : TypeId} {pos : String} {af : Array Edge} : bafl P G h ops all s br ⟨tm0, bx0, nx0, lg0⟩ 0 (⟨none, .store t x y, ty, pos, af, none⟩ :: rest) ⟨tm, bx, nx, lg⟩ KS ⟨⟩ ⟨⟩ ⟨⟩ ⟨⟩ ⟨⟩ =
  baEff P G h (.store t x y) ⟨tm, bx, nx, lg⟩ (fun _ σ2 => ba2 P G ops bx0 σ2.bx s all tm0 nx0 (fun tm' nx' => tm' = tm ∧ nx' = nx) ⟨⟩ ⟨⟩ ⟨⟩ ∧ badops P G h ops rest br σ2 KS ⟨⟩ ⟨⟩ ⟨⟩ ⟨⟩) ⟨⟩ ⟨⟩ ⟨⟩ :=
 (show afl1 P G h ops all s br ⟨tm0, bx0, nx0, lg0⟩ rest (some ⟨none, .store t x y, ty, pos, af, none⟩) ⟨tm, bx, nx, lg⟩ KS = _ from rfl)
theorem s_20 {K20 : List (Nat × C) → Nat → Prop} {b1 b2 : List (List C)} {l : List Oper} : ba2 P G ops b1 b2 0 l tm nx K20 ⟨⟩ ⟨⟩ ⟨⟩ = K20 tm nx := (rfl)
theorem s_2S {K20 : List (Nat × C) → Nat → Prop} {b1 b2 : List (List C)} {m : Nat} {dst : Option Tmp} {op : Op} {ty : TypeId} {pos : String} {af : Array Edge} {g : Option (Nat × Bool)} {rest : List Oper} : ba2 P G ops b1 b2 (m + 1) (⟨dst, op, ty, pos, af, g⟩ :: rest) tm nx K20 ⟨⟩ ⟨⟩ ⟨⟩ = baGuard ops tm g (baPure P G b1 (evOf G tm) op nx (fun c nx' => baPure P G b2 (evOf G tm) op nx (fun c' nx'' => c' = c ∧ nx'' = nx') ⟨⟩ ⟨⟩ ⟨⟩ ∧ ba2 P G ops b1 b2 m rest (putT tm dst c) nx' K20 ⟨⟩ ⟨⟩ ⟨⟩) ⟨⟩ ⟨⟩ ⟨⟩) (ba2 P G ops b1 b2 m rest (putT tm dst (.sc undef)) nx K20 ⟨⟩ ⟨⟩ ⟨⟩) ⟨⟩ ⟨⟩ ⟨⟩ :=
 (show adops2 P G ops b1 b2 (⟨dst, op, ty, pos, af, g⟩ :: rest.take m) tm nx K20 = _ from rfl)
theorem s_adrawL {KS : St → Prop} {l : List Oper} {a s : Nat} (h0 : (s == 0) = false) : badraw P G h l.toArray (lateB a s) σ KS ⟨⟩ ⟨⟩ ⟨⟩ = bladops P G l.toArray a s l 0 none σ KS ⟨⟩ ⟨⟩ ⟨⟩ := (show adraw P G h l.toArray (lateB a s) σ KS = ladops P G l.toArray a s l 0 none σ KS from by unfold adraw; rw [lateOf_lateB]; simp only [h0])
theorem s_ladops0 {KS : St → Prop} {a s i : Nat} {cs : Option (List C)} {l : List Oper} : bladops P G l.toArray a s [] i cs σ KS ⟨⟩ ⟨⟩ ⟨⟩ = baLend cs ((l[a]?).bind (·.dst)) σ KS ⟨⟩ := (show ladops P G l.toArray a s [] i cs σ KS = aLend cs ((l[a]?).bind (·.dst)) σ KS from by simp only [ladops, aLend, List.getElem?_toArray]; rfl)
theorem s_ladopsA {KS : St → Prop} {a s : Nat} {cs : Option (List C)} {dst : Option Tmp} {ty : TypeId} {pos : String} {af : Array Edge} {g : Option (Nat × Bool)} {rest : List Oper} : bladops P G ops a s (⟨dst, .alloc t, ty, pos, af, g⟩ :: rest) a cs ⟨tm, bx, nx, lg⟩ KS ⟨⟩ ⟨⟩ ⟨⟩ = baLaid (lay P t) (bladops P G ops a s rest (a + 1) cs ⟨putT tm dst .any, bx, nx, lg⟩ KS ⟨⟩ ⟨⟩ ⟨⟩) ⟨⟩ := (show ladops P G ops a s (⟨dst, .alloc t, ty, pos, af, g⟩ :: rest) a cs ⟨tm, bx, nx, lg⟩ KS = aLaid (lay P t) (ladops P G ops a s rest (a + 1) cs ⟨putT tm dst .any, bx, nx, lg⟩ KS) from by simp only [ladops, if_true])
theorem s_ladopsS {KS : St → Prop} {a s : Nat} {cs : Option (List C)} {dst : Option Tmp} {ty : TypeId} {pos : String} {af : Array Edge} {g : Option (Nat × Bool)} {rest : List Oper} (hsa : (s == a) = false) : bladops P G ops a s (⟨dst, .store t y x, ty, pos, af, g⟩ :: rest) s cs ⟨tm, bx, nx, lg⟩ KS ⟨⟩ ⟨⟩ ⟨⟩ = baLate (lay P t) (evOf G tm x) (fun c => bladops P G ops a s rest (s + 1) (some c.cells) ⟨putT tm dst .any, bx, nx, lg⟩ KS ⟨⟩ ⟨⟩ ⟨⟩) ⟨⟩ := (show ladops P G ops a s (⟨dst, .store t y x, ty, pos, af, g⟩ :: rest) s cs ⟨tm, bx, nx, lg⟩ KS = aLate (lay P t) (evOf G tm x) fun c => ladops P G ops a s rest (s + 1) (some c.cells) ⟨putT tm dst .any, bx, nx, lg⟩ KS from by simp only [beq_eq_false_iff_ne] at hsa; simp only [ladops, if_neg hsa, if_true])
theorem s_ladops {KS : St → Prop} {a s i : Nat} {cs : Option (List C)} {dst : Option Tmp} {ty : TypeId} {pos : String} {af : Array Edge} {g : Option (Nat × Bool)} {rest : List Oper} {op : Op} (hia : (i == a) = false) (his : (i == s) = false) : bladops P G ops a s (⟨dst, op, ty, pos, af, g⟩ :: rest) i cs ⟨tm, bx, nx, lg⟩ KS ⟨⟩ ⟨⟩ ⟨⟩ = baGuard ops tm g (baPure P G bx (evOf G tm) op nx (fun c nx' => bladops P G ops a s rest (i + 1) cs ⟨putT tm dst c, bx, nx', lg⟩ KS ⟨⟩ ⟨⟩ ⟨⟩) ⟨⟩ ⟨⟩ ⟨⟩) (bladops P G ops a s rest (i + 1) cs ⟨putT tm dst (.sc undef), bx, nx, lg⟩ KS ⟨⟩ ⟨⟩ ⟨⟩) ⟨⟩ ⟨⟩ ⟨⟩ := (show ladops P G ops a s (⟨dst, op, ty, pos, af, g⟩ :: rest) i cs ⟨tm, bx, nx, lg⟩ KS = aGuard ops tm g (aPure P G bx (evOf G tm) op nx fun c nx' => ladops P G ops a s rest (i + 1) cs ⟨putT tm dst c, bx, nx', lg⟩ KS) (ladops P G ops a s rest (i + 1) cs ⟨putT tm dst (.sc undef), bx, nx, lg⟩ KS) from by simp only [beq_eq_false_iff_ne] at hia his; simp only [ladops, if_neg hia, if_neg his])
theorem s_lend {KS : St → Prop} {cs : List C} {u : Tmp} : baLend (some cs) (some u) ⟨tm, bx, nx, lg⟩ KS ⟨⟩ = KS ⟨(u, .ptr bx.length 0) :: tm, bx ++ [cs], nx, lg⟩ := (rfl)
theorem s_laid {kd : LK} {k b1 : Nat} {z1 : List Value} : baLaid (some ⟨kd, k, b1, some z1⟩) X ⟨⟩ = (z1.length = k ∧ (z1.all Value.oneCell') = true ∧ X) := (rfl)
theorem s_late {L : Lay} : baLate (some L) c K ⟨⟩ = (c.partB = true ∧ (c.cells.all C.cellB) = true ∧ c.cells.length = L.size ∧ K c) := (rfl)
theorem s_only {KS : St → Prop} : bonlyK KS ⟨⟩ .normal σ = KS σ := (rfl)
theorem s_round_n {next : St} {b : Bool} : broundK m tm b next Q ⟨⟩ ⟨⟩ .normal σ = (b = false ∧ Weak m ⟨[], σ.bx, σ.nx, σ.lg⟩ (next.wt [])) := (rfl)
theorem s_round_ret {next : St} {b : Bool} : broundK m tm b next Q ⟨⟩ ⟨⟩ .ret σ = (b = true ∧ ∃ σ' : St, σ'.bx.length = m ∧ Weak m ⟨[], σ.bx, σ.nx, σ.lg⟩ (σ'.wt []) ∧ Q .ret (σ'.wt tm)) := (rfl)
theorem s_round_exit {next : St} {b : Bool} {id : Nat} : broundK m tm b next Q ⟨⟩ ⟨⟩ (.exit id) σ = (b = true ∧ ∃ σ' : St, σ'.bx.length = m ∧ Weak m ⟨[], σ.bx, σ.nx, σ.lg⟩ (σ'.wt []) ∧ Q (.exit id) (σ'.wt tm)) := (rfl)
theorem s_round_goto {next : St} {b : Bool} {t : Nat} : broundK m tm b next Q ⟨⟩ ⟨⟩ (.goto t) σ = (b = true ∧ ∃ σ' : St, σ'.bx.length = m ∧ Weak m ⟨[], σ.bx, σ.nx, σ.lg⟩ (σ'.wt []) ∧ Q (.goto t) (σ'.wt tm)) := (rfl)
theorem s_wt {tm2 : List (Nat × C)} : St.wt ⟨tm, bx, nx, lg⟩ tm2 = ⟨tm2, bx, nx, lg⟩ := (rfl)
theorem s_putPs0 {cs : List C} : putPs [] cs tm = tm := (rfl)
theorem s_putPs {u : Nat} {ps : List Tmp} {cs : List C} : putPs (u :: ps) (c :: cs) tm = putPs ps cs ((u, c) :: tm) := (rfl)
theorem s_tlTm0 : tlTm m [] = [] := (rfl)
theorem s_tlTm {u : Nat} {r : List (Nat × C)} : tlTm m ((u, c) :: r) = (u, c.sel (fpKeep m)) :: tlTm m r := (rfl)
theorem s_then {next : St → Prop} : bthenK next Q ⟨⟩ ⟨⟩ .normal σ = next σ := (rfl)
theorem s_then_exit {next : St → Prop} {id : Nat} : bthenK next Q ⟨⟩ ⟨⟩ (.exit id) σ = Q (.exit id) σ := (rfl)
theorem s_then_ret {next : St → Prop} : bthenK next Q ⟨⟩ ⟨⟩ .ret σ = Q .ret σ := (rfl)
theorem s_then_goto {next : St → Prop} {l : Nat} : bthenK next Q ⟨⟩ ⟨⟩ (.goto l) σ = Q (.goto l) σ := (rfl)
theorem s_block_n {id : Nat} : bblockK id Q ⟨⟩ .normal σ = Q .normal σ := (rfl)
theorem s_block_same {id : Nat} : bblockK id Q ⟨⟩ (.exit id) σ = Q .normal σ := (show blockK id Q (.exit id) σ = Q .normal σ from if_pos rfl)
theorem s_block_exit {id id2 : Nat} (h : (id2 == id) = false) : bblockK id Q ⟨⟩ (.exit id2) σ = Q (.exit id2) σ := (show blockK id Q (.exit id2) σ = Q (.exit id2) σ from if_neg (by simpa using h))
theorem s_block_ret {id : Nat} : bblockK id Q ⟨⟩ .ret σ = Q .ret σ := (rfl)
theorem s_block_goto {id l : Nat} : bblockK id Q ⟨⟩ (.goto l) σ = Q (.goto l) σ := (rfl)
theorem s_noGoto_n : bnoGotoK Q ⟨⟩ .normal σ = Q .normal σ := (rfl)
theorem s_noGoto_exit {id : Nat} : bnoGotoK Q ⟨⟩ (.exit id) σ = Q (.exit id) σ := (rfl)
theorem s_noGoto_ret : bnoGotoK Q ⟨⟩ .ret σ = Q .ret σ := (rfl)
theorem s_loop_n {next : St → Prop} : bloopK next Q ⟨⟩ ⟨⟩ .normal σ = next σ := (rfl)
theorem s_loop_exit {next : St → Prop} {id : Nat} : bloopK next Q ⟨⟩ ⟨⟩ (.exit id) σ = Q (.exit id) σ := (rfl)
theorem s_loop_ret {next : St → Prop} : bloopK next Q ⟨⟩ ⟨⟩ .ret σ = Q .ret σ := (rfl)
theorem s_loop_goto {next : St → Prop} {l : Nat} : bloopK next Q ⟨⟩ ⟨⟩ (.goto l) σ = Q (.goto l) σ := (rfl)
theorem s_ret_n {rs : List ResultVar} : bretK P rs K3 ⟨⟩ .normal σ = baRes P σ rs (fun c => K3 c σ) ⟨⟩ := (rfl)
theorem s_ret_r {rs : List ResultVar} : bretK P rs K3 ⟨⟩ .ret σ = baRes P σ rs (fun c => K3 c σ) ⟨⟩ := (rfl)
theorem s_res0 : baRes P σ [] K ⟨⟩ = K (.tup []) := (rfl)
theorem s_res1 {a : ResultVar} : baRes P σ [a] K ⟨⟩ = baResOne P σ a K ⟨⟩ := (rfl)
theorem s_res2 {a b : ResultVar} : baRes P σ [a, b] K ⟨⟩ = baResOne P σ a (fun c => baResOne P σ b (fun d => K (.tup [c, d])) ⟨⟩) ⟨⟩ := (rfl)
theorem s_res3 {a b c1 : ResultVar} : baRes P σ [a, b, c1] K ⟨⟩ = baResOne P σ a (fun c => baResOne P σ b (fun d => baResOne P σ c1 (fun e => K (.tup [c, d, e])) ⟨⟩) ⟨⟩) ⟨⟩ := (rfl)
theorem s_res4 {a b c1 d1 : ResultVar} : baRes P σ [a, b, c1, d1] K ⟨⟩ = baResOne P σ a (fun c => baResOne P σ b (fun d => baResOne P σ c1 (fun e => baResOne P σ d1 (fun f => K (.tup [c, d, e, f])) ⟨⟩) ⟨⟩) ⟨⟩) ⟨⟩ := (rfl)
theorem s_resT {u : Nat} : baResOne P ⟨tm, bx, nx, lg⟩ (.tmp u) K ⟨⟩ = K (getC tm u) := (rfl)
theorem s_resC {u : Nat} : baResOne P ⟨tm, bx, nx, lg⟩ (.cell u t) K ⟨⟩ = baLoad P t (getC tm u) bx K ⟨⟩ := (rfl)
theorem s_aops0 {KS : St → Prop} : baops P G h ops [] σ KS ⟨⟩ ⟨⟩ ⟨⟩ ⟨⟩ = KS σ := (rfl)
theorem s_aops {KS : St → Prop} {dst : Option Tmp} {op : Op} {ty : TypeId} {pos : String} {af : Array Edge} {g : Option (Nat × Bool)} {rest : List Oper} : baops P G h ops (⟨dst, op, ty, pos, af, g⟩ :: rest) ⟨tm, bx, nx, lg⟩ KS ⟨⟩ ⟨⟩ ⟨⟩ ⟨⟩ = baGuard ops tm g (baEff P G h op ⟨tm, bx, nx, lg⟩ (fun c σ' => baops P G h ops rest (σ'.put dst c) KS ⟨⟩ ⟨⟩ ⟨⟩ ⟨⟩) ⟨⟩ ⟨⟩ ⟨⟩) (baops P G h ops rest (St.put ⟨tm, bx, nx, lg⟩ dst (.sc undef)) KS ⟨⟩ ⟨⟩ ⟨⟩ ⟨⟩) ⟨⟩ ⟨⟩ ⟨⟩ := (rfl)
theorem s_adops0 {KS : St → Prop} : badops P G h ops [] brs σ KS ⟨⟩ ⟨⟩ ⟨⟩ ⟨⟩ = KS σ := (rfl)
theorem s_adopsN {KS : St → Prop} {dst : Option Tmp} {op : Op} {ty : TypeId} {pos : String} {af : Array Edge} {g : Option (Nat × Bool)} {rest : List Oper} : badops P G h ops (⟨dst, op, ty, pos, af, g⟩ :: rest) [] ⟨tm, bx, nx, lg⟩ KS ⟨⟩ ⟨⟩ ⟨⟩ ⟨⟩ = baGuard ops tm g (baPure P G bx (evOf G tm) op nx (fun c nx' => badops P G h ops rest [] ⟨putT tm dst c, bx, nx', lg⟩ KS ⟨⟩ ⟨⟩ ⟨⟩ ⟨⟩) ⟨⟩ ⟨⟩ ⟨⟩) (badops P G h ops rest [] ⟨putT tm dst (.sc undef), bx, nx, lg⟩ KS ⟨⟩ ⟨⟩ ⟨⟩ ⟨⟩) ⟨⟩ ⟨⟩ ⟨⟩ := (rfl)
theorem s_adopsF {KS : St → Prop} {dst : Option Tmp} {op : Op} {ty : TypeId} {pos : String} {af : Array Edge} {g : Option (Nat × Bool)} {rest : List Oper} : badops P G h ops (⟨dst, op, ty, pos, af, g⟩ :: rest) (false :: brs) ⟨tm, bx, nx, lg⟩ KS ⟨⟩ ⟨⟩ ⟨⟩ ⟨⟩ = baGuard ops tm g (baPure P G bx (evOf G tm) op nx (fun c nx' => badops P G h ops rest brs ⟨putT tm dst c, bx, nx', lg⟩ KS ⟨⟩ ⟨⟩ ⟨⟩ ⟨⟩) ⟨⟩ ⟨⟩ ⟨⟩) (badops P G h ops rest brs ⟨putT tm dst (.sc undef), bx, nx, lg⟩ KS ⟨⟩ ⟨⟩ ⟨⟩ ⟨⟩) ⟨⟩ ⟨⟩ ⟨⟩ := (rfl)
theorem s_adopsT {KS : St → Prop} {dst : Option Tmp} {op : Op} {ty : TypeId} {pos : String} {af : Array Edge} {g : Option (Nat × Bool)} {rest : List Oper} : badops P G h ops (⟨dst, op, ty, pos, af, g⟩ :: rest) (true :: brs) ⟨tm, bx, nx, lg⟩ KS ⟨⟩ ⟨⟩ ⟨⟩ ⟨⟩ = baGuard ops tm g (baEff P G h op ⟨tm, bx, nx, lg⟩ (fun c σ' => badops P G h ops rest brs (σ'.put dst c) KS ⟨⟩ ⟨⟩ ⟨⟩ ⟨⟩) ⟨⟩ ⟨⟩ ⟨⟩) (badops P G h ops rest brs ⟨putT tm dst (.sc undef), bx, nx, lg⟩ KS ⟨⟩ ⟨⟩ ⟨⟩ ⟨⟩) ⟨⟩ ⟨⟩ ⟨⟩ := (rfl)
theorem s_guard0 : baGuard ops tm none X Y ⟨⟩ ⟨⟩ ⟨⟩ = X := (rfl)
theorem s_guard {l : List Oper} {j : Nat} {want : Bool} : baGuard l.toArray tm (some (j, want)) X Y ⟨⟩ ⟨⟩ ⟨⟩ = baGd ((l[j]?).bind (·.dst)) tm want X Y ⟨⟩ ⟨⟩ := (show aGuard l.toArray tm (some (j, want)) X Y = aGd ((l[j]?).bind (·.dst)) tm want X Y from by simp only [aGuard, List.getElem?_toArray]; rfl)
theorem s_gd_t {u : Tmp} : baGd (some u) tm true X Y ⟨⟩ ⟨⟩ = bABrU (getC tm u) Y X Y ⟨⟩ ⟨⟩ ⟨⟩ := (rfl)
theorem s_gd_f {u : Tmp} : baGd (some u) tm false X Y ⟨⟩ ⟨⟩ = bABrU (getC tm u) Y Y X ⟨⟩ ⟨⟩ ⟨⟩ := (rfl)
theorem s_bru_b {U : Prop} {b : Bool} : bABrU (.sc (.bool b)) U X Y ⟨⟩ ⟨⟩ ⟨⟩ = bABr (.sc (.bool b)) X Y ⟨⟩ ⟨⟩ := (rfl)
theorem s_bru_u {U : Prop} : bABrU (.sc undef) U X Y ⟨⟩ ⟨⟩ ⟨⟩ = U := (rfl)
theorem s_put_some {u : Tmp} : St.put ⟨tm, bx, nx, lg⟩ (some u) c = ⟨(u, c) :: tm, bx, nx, lg⟩ := (rfl)
theorem s_put_none : St.put ⟨tm, bx, nx, lg⟩ none c = ⟨tm, bx, nx, lg⟩ := (rfl)
theorem s_putT_some {u : Tmp} : putT tm (some u) c = (u, c) :: tm := (rfl)
theorem s_putT_none : putT tm none c = tm := (rfl)
theorem s_e_buildSlice {n : Nat} {ps : List (Nat × Operand)} : baEff P G h (.buildSlice t n ps.toArray) ⟨tm, bx, nx, lg⟩ K3 ⟨⟩ ⟨⟩ ⟨⟩ = if h.bx t then baBuildBox P t n (ps.map fun p => (p.1, evOf G tm p.2)) ⟨tm, bx, nx, lg⟩ K3 ⟨⟩ else baBuildSlice P t n (ps.map fun p => (p.1, evOf G tm p.2)) nx (fun c nx' => K3 c ⟨tm, bx, nx', lg⟩) ⟨⟩ := (rfl)
theorem s_p_buildSlice {n : Nat} {ps : List (Nat × Operand)} {ev : Operand → C} : baPure P G bx ev (.buildSlice t n ps.toArray) nx K2 ⟨⟩ ⟨⟩ ⟨⟩ = baBuildSlice P t n (ps.map fun p => (p.1, ev p.2)) nx K2 ⟨⟩ := (rfl)
theorem s_e_makeSlice : baEff P G h (.makeSlice t x y) ⟨tm, bx, nx, lg⟩ K3 ⟨⟩ ⟨⟩ ⟨⟩ = if h.bx t then baMakeBox P t (evOf G tm x) (evOf G tm y) ⟨tm, bx, nx, lg⟩ K3 ⟨⟩ else baMake P t (evOf G tm x) (evOf G tm y) nx (fun c nx' => K3 c ⟨tm, bx, nx', lg⟩) ⟨⟩ := (rfl)
theorem s_p_makeSlice {ev : Operand → C} : baPure P G bx ev (.makeSlice t x y) nx K2 ⟨⟩ ⟨⟩ ⟨⟩ = baMake P t (ev x) (ev y) nx K2 ⟨⟩ := (rfl)
theorem s_hdbx : Hd.bx ⟨p, yd, bf⟩ t = (bf (1000000 + t)).headD false := (rfl)
theorem s_hdbx2 : Hd.bx2 ⟨p, yd, bf⟩ t = ((bf (1000000 + t)).drop 1).headD false := (rfl)
theorem s_e_move : baEff P G h (.move x) ⟨tm, bx, nx, lg⟩ K3 ⟨⟩ ⟨⟩ ⟨⟩ = K3 (evOf G tm x) ⟨tm, bx, nx, lg⟩ := (rfl)
theorem s_p_move {ev : Operand → C} : baPure P G bx ev (.move x) nx K2 ⟨⟩ ⟨⟩ ⟨⟩ = K2 (ev x) nx := (rfl)
theorem s_e_assign : baEff P G h (.assign x) ⟨tm, bx, nx, lg⟩ K3 ⟨⟩ ⟨⟩ ⟨⟩ = K3 (evOf G tm x) ⟨tm, bx, nx, lg⟩ := (rfl)
theorem s_p_assign {ev : Operand → C} : baPure P G bx ev (.assign x) nx K2 ⟨⟩ ⟨⟩ ⟨⟩ = K2 (ev x) nx := (rfl)
theorem s_e_pick : baEff P G h (.pick x y z) ⟨tm, bx, nx, lg⟩ K3 ⟨⟩ ⟨⟩ ⟨⟩ = bABr (evOf G tm x) (K3 (evOf G tm y) ⟨tm, bx, nx, lg⟩) (K3 (evOf G tm z) ⟨tm, bx, nx, lg⟩) ⟨⟩ ⟨⟩ := (rfl)
theorem s_p_pick {ev : Operand → C} : baPure P G bx ev (.pick x y z) nx K2 ⟨⟩ ⟨⟩ ⟨⟩ = bABr (ev x) (K2 (ev y) nx) (K2 (ev z) nx) ⟨⟩ ⟨⟩ := (rfl)
theorem s_e_build {ps : List (Nat × Operand)} : baEff P G h (.build t ps.toArray) ⟨tm, bx, nx, lg⟩ K3 ⟨⟩ ⟨⟩ ⟨⟩ = baBuild P t (ps.map fun p => (p.1, evOf G tm p.2)) (fun c => K3 c ⟨tm, bx, nx, lg⟩) ⟨⟩ := (rfl)
theorem s_p_build {ps : List (Nat × Operand)} {ev : Operand → C} : baPure P G bx ev (.build t ps.toArray) nx K2 ⟨⟩ ⟨⟩ ⟨⟩ = baBuild P t (ps.map fun p => (p.1, ev p.2)) (fun c => K2 c nx) ⟨⟩ := (rfl)
theorem s_e_load : baEff P G h (.load t x) ⟨tm, bx, nx, lg⟩ K3 ⟨⟩ ⟨⟩ ⟨⟩ = baLoad P t (evOf G tm x) bx (fun c => K3 c ⟨tm, bx, nx, lg⟩) ⟨⟩ := (rfl)
theorem s_p_load {ev : Operand → C} : baPure P G bx ev (.load t x) nx K2 ⟨⟩ ⟨⟩ ⟨⟩ = baLoad P t (ev x) bx (fun c => K2 c nx) ⟨⟩ := (rfl)
theorem s_e_nilCheck : baEff P G h (.nilCheck x) ⟨tm, bx, nx, lg⟩ K3 ⟨⟩ ⟨⟩ ⟨⟩ = baNil (evOf G tm x) (fun c => K3 c ⟨tm, bx, nx, lg⟩) ⟨⟩ := (rfl)
theorem s_p_nilCheck {ev : Operand → C} : baPure P G bx ev (.nilCheck x) nx K2 ⟨⟩ ⟨⟩ ⟨⟩ = baNil (ev x) (fun c => K2 c nx) ⟨⟩ := (rfl)
theorem s_e_binOp {op : BinOp} : baEff P G h (.binOp op t x y t') ⟨tm, bx, nx, lg⟩ K3 ⟨⟩ ⟨⟩ ⟨⟩ = baBin P t op (evOf G tm x) (evOf G tm y) (fun c => K3 c ⟨tm, bx, nx, lg⟩) ⟨⟩ := (rfl)
theorem s_p_binOp {op : BinOp} {ev : Operand → C} : baPure P G bx ev (.binOp op t x y t') nx K2 ⟨⟩ ⟨⟩ ⟨⟩ = baBin P t op (ev x) (ev y) (fun c => K2 c nx) ⟨⟩ := (rfl)
theorem s_e_unOp {op : UnOp} : baEff P G h (.unOp op t x) ⟨tm, bx, nx, lg⟩ K3 ⟨⟩ ⟨⟩ ⟨⟩ = baUn op (evOf G tm x) (fun c => K3 c ⟨tm, bx, nx, lg⟩) ⟨⟩ := (rfl)
theorem s_p_unOp {op : UnOp} {ev : Operand → C} : baPure P G bx ev (.unOp op t x) nx K2 ⟨⟩ ⟨⟩ ⟨⟩ = baUn op (ev x) (fun c => K2 c nx) ⟨⟩ := (rfl)
theorem s_e_convert : baEff P G h (.convert t t' x) ⟨tm, bx, nx, lg⟩ K3 ⟨⟩ ⟨⟩ ⟨⟩ = baConvX P bx t t' (evOf G tm x) (fun c => K3 c ⟨tm, bx, nx, lg⟩) ⟨⟩ := (rfl)
theorem s_p_convert {ev : Operand → C} : baPure P G bx ev (.convert t t' x) nx K2 ⟨⟩ ⟨⟩ ⟨⟩ = baConvX P bx t t' (ev x) (fun c => K2 c nx) ⟨⟩ := (rfl)
theorem s_e_makeFunc {fn : Fn} {fs cs : List Operand} : baEff P G h (.makeFunc fn fs.toArray cs.toArray) ⟨tm, bx, nx, lg⟩ K3 ⟨⟩ ⟨⟩ ⟨⟩ = K3 (.clo fn (fs.map (evOf G tm)) (cs.map (evOf G tm))) ⟨tm, bx, nx, lg⟩ := (rfl)
theorem s_p_makeFunc {fn : Fn} {fs cs : List Operand} {ev : Operand → C} : baPure P G bx ev (.makeFunc fn fs.toArray cs.toArray) nx K2 ⟨⟩ ⟨⟩ ⟨⟩ = K2 (.clo fn (fs.map ev) (cs.map ev)) nx := (rfl)
theorem s_e_slice {lo hi mx : Option Operand} : baEff P G h (.slice t x lo hi mx) ⟨tm, bx, nx, lg⟩ K3 ⟨⟩ ⟨⟩ ⟨⟩ = baSlice P t (evOf G tm x) (lo.map (evOf G tm)) (hi.map (evOf G tm)) (mx.map (evOf G tm)) (fun c => K3 c ⟨tm, bx, nx, lg⟩) ⟨⟩ := (rfl)
theorem s_p_slice {lo hi mx : Option Operand} {ev : Operand → C} : baPure P G bx ev (.slice t x lo hi mx) nx K2 ⟨⟩ ⟨⟩ ⟨⟩ = baSlice P t (ev x) (lo.map ev) (hi.map ev) (mx.map ev) (fun c => K2 c nx) ⟨⟩ := (rfl)
theorem s_e_fieldAddr {f : Nat} : baEff P G h (.fieldAddr t x f) ⟨tm, bx, nx, lg⟩ K3 ⟨⟩ ⟨⟩ ⟨⟩ = baFieldAddr P t (evOf G tm x) f (fun c => K3 c ⟨tm, bx, nx, lg⟩) ⟨⟩ := (rfl)
theorem s_p_fieldAddr {f : Nat} {ev : Operand → C} : baPure P G bx ev (.fieldAddr t x f) nx K2 ⟨⟩ ⟨⟩ ⟨⟩ = baFieldAddr P t (ev x) f (fun c => K2 c nx) ⟨⟩ := (rfl)
theorem s_e_field {f : Nat} : baEff P G h (.field t x f) ⟨tm, bx, nx, lg⟩ K3 ⟨⟩ ⟨⟩ ⟨⟩ = baField P t (evOf G tm x) f (fun c => K3 c ⟨tm, bx, nx, lg⟩) ⟨⟩ := (rfl)
theorem s_p_field {f : Nat} {ev : Operand → C} : baPure P G bx ev (.field t x f) nx K2 ⟨⟩ ⟨⟩ ⟨⟩ = baField P t (ev x) f (fun c => K2 c nx) ⟨⟩ := (rfl)
theorem s_e_indexAddr : baEff P G h (.indexAddr t x y) ⟨tm, bx, nx, lg⟩ K3 ⟨⟩ ⟨⟩ ⟨⟩ = baIndexAddr P t (evOf G tm x) (evOf G tm y) (fun c => K3 c ⟨tm, bx, nx, lg⟩) ⟨⟩ := (rfl)
theorem s_p_indexAddr {ev : Operand → C} : baPure P G bx ev (.indexAddr t x y) nx K2 ⟨⟩ ⟨⟩ ⟨⟩ = baIndexAddr P t (ev x) (ev y) (fun c => K2 c nx) ⟨⟩ := (rfl)
theorem s_e_index : baEff P G h (.index t x y) ⟨tm, bx, nx, lg⟩ K3 ⟨⟩ ⟨⟩ ⟨⟩ = baIndex P t (evOf G tm x) (evOf G tm y) (fun c => K3 c ⟨tm, bx, nx, lg⟩) ⟨⟩ := (rfl)
theorem s_p_index {ev : Operand → C} : baPure P G bx ev (.index t x y) nx K2 ⟨⟩ ⟨⟩ ⟨⟩ = baIndex P t (ev x) (ev y) (fun c => K2 c nx) ⟨⟩ := (rfl)
theorem s_e_extract {i : Nat} : baEff P G h (.extract x i) ⟨tm, bx, nx, lg⟩ K3 ⟨⟩ ⟨⟩ ⟨⟩ = baExtract (evOf G tm x) i (fun c => K3 c ⟨tm, bx, nx, lg⟩) ⟨⟩ := (rfl)
theorem s_p_extract {i : Nat} {ev : Operand → C} : baPure P G bx ev (.extract x i) nx K2 ⟨⟩ ⟨⟩ ⟨⟩ = baExtract (ev x) i (fun c => K2 c nx) ⟨⟩ := (rfl)
theorem s_e_callv {us : List Operand} {ts : List TypeId} : baEff P G h (.call ⟨.value x, us.toArray, ts.toArray⟩) ⟨tm, bx, nx, lg⟩ K3 ⟨⟩ ⟨⟩ ⟨⟩ = baCallV P G h (evOf G tm x) (us.map (evOf G tm)) ⟨tm, bx, nx, lg⟩ K3 ⟨⟩ ⟨⟩ := (rfl)
theorem s_p_callv {us : List Operand} {ts : List TypeId} {ev : Operand → C} : baPure P G bx ev (.call ⟨.value x, us.toArray, ts.toArray⟩) nx K2 ⟨⟩ ⟨⟩ ⟨⟩ = baCallF P G (ev x) (us.map ev) nx K2 ⟨⟩ := (rfl)
theorem s_e_len : baEff P G h (.call ⟨.builtin .len, #[x], #[t]⟩) ⟨tm, bx, nx, lg⟩ K3 ⟨⟩ ⟨⟩ ⟨⟩ = baLen P t (evOf G tm x) (fun c => K3 c ⟨tm, bx, nx, lg⟩) ⟨⟩ := (rfl)
theorem s_p_len {ev : Operand → C} : baPure P G bx ev (.call ⟨.builtin .len, #[x], #[t]⟩) nx K2 ⟨⟩ ⟨⟩ ⟨⟩ = baLen P t (ev x) (fun c => K2 c nx) ⟨⟩ := (rfl)
theorem s_e_makeMap {r : Option Operand} : baEff P G h (.makeMap t r) ⟨tm, bx, nx, lg⟩ K3 ⟨⟩ ⟨⟩ ⟨⟩ = baMm1 (mapL P t) t (r.map (evOf G tm)) nx (fun c nx' => K3 c ⟨tm, bx, nx', lg⟩) ⟨⟩ := (rfl)
theorem s_p_makeMap {r : Option Operand} {ev : Operand → C} : baPure P G bx ev (.makeMap t r) nx K2 ⟨⟩ ⟨⟩ ⟨⟩ = baMm1 (mapL P t) t (r.map ev) nx K2 ⟨⟩ := (rfl)
theorem s_mm_n {kd : MKd} {z : C} : baMm1 (some (kd, z)) t none nx K2 ⟨⟩ = K2 (.mo nx t kd.nil []) (nx + 1) := (rfl)
theorem s_mm_s {kd : MKd} {z : C} {k : IntKind} {n : Int} : baMm1 (some (kd, z)) t (some (.sc (.int k n))) nx K2 ⟨⟩ = K2 (.mo nx t kd.nil []) (nx + 1) := (rfl)
theorem s_mkd_i {k : IntKind} : MKd.nil (.int k) = .int k [] := (rfl)
theorem s_mkd_s : MKd.nil .str = .str [] := (rfl)
theorem s_e_lookup {ok : Bool} : baEff P G h (.lookup t x y ok) ⟨tm, bx, nx, lg⟩ K3 ⟨⟩ ⟨⟩ ⟨⟩ = baLk1 (mapL P t) t (evOf G tm x) (evOf G tm y) ok (fun c => K3 c ⟨tm, bx, nx, lg⟩) ⟨⟩ := (rfl)
theorem s_p_lookup {ok : Bool} {ev : Operand → C} : baPure P G bx ev (.lookup t x y ok) nx K2 ⟨⟩ ⟨⟩ ⟨⟩ = baLk1 (mapL P t) t (ev x) (ev y) ok (fun c => K2 c nx) ⟨⟩ := (rfl)
theorem s_lk_i {k k2 q : IntKind} {z : C} {id : Nat} {t2 : TypeId} {l : List Int} {vs : List C} {n : Int} {ok : Bool} : baLk1 (some (.int k, z)) t (.mo id t2 (.int k2 l) vs) (.sc (.int q n)) ok K ⟨⟩ = (t2 = t ∧ k2 = k ∧ q = k ∧ baLook2 (mget n l vs) z ok K ⟨⟩) := (rfl)
theorem s_lk_s {z : C} {id : Nat} {t2 : TypeId} {l : List (List UInt8)} {vs : List C} {s : List UInt8} {ok : Bool} : baLk1 (some (.str, z)) t (.mo id t2 (.str l) vs) (.str s) ok K ⟨⟩ = (t2 = t ∧ baLook2 (mget s l vs) z ok K ⟨⟩) := (rfl)
theorem s_lk2_st {z : C} : baLook2 (some c) z true K ⟨⟩ = K (.tup [c, .sc (.bool true)]) := (rfl)
theorem s_lk2_sf {z : C} : baLook2 (some c) z false K ⟨⟩ = K c := (rfl)
theorem s_lk2_nt {z : C} : baLook2 none z true K ⟨⟩ = K (.tup [z, .sc (.bool false)]) := (rfl)
theorem s_lk2_nf {z : C} : baLook2 none z false K ⟨⟩ = K z := (rfl)
theorem s_e_mapUpdate {w : Operand} : baEff P G h (.mapUpdate t x y w) ⟨tm, bx, nx, lg⟩ K3 ⟨⟩ ⟨⟩ ⟨⟩ = baMu1 (mapL P t) t (evOf G tm x) (evOf G tm y) (evOf G tm w) ⟨tm, bx, nx, lg⟩ K3 ⟨⟩ := (rfl)
theorem s_e_insert {w : Operand} : baEff P G h (.insert t x y w) ⟨tm, bx, nx, lg⟩ K3 ⟨⟩ ⟨⟩ ⟨⟩ = baMu1 (mapL P t) t (evOf G tm x) (evOf G tm y) (evOf G tm w) ⟨tm, bx, nx, lg⟩ K3 ⟨⟩ := (rfl)
theorem s_mu_i {k k2 q : IntKind} {z : C} {id : Nat} {t2 : TypeId} {l : List Int} {vs : List C} {n : Int} : baMu1 (some (.int k, z)) t (.mo id t2 (.int k2 l) vs) (.sc (.int q n)) d ⟨tm, bx, nx, lg⟩ K3 ⟨⟩ = (t2 = t ∧ k2 = k ∧ q = k ∧ K3 .any ⟨upTm id (.int k (mput n d.frz l vs).1) (mput n d.frz l vs).2 tm, upBx id (.int k (mput n d.frz l vs).1) (mput n d.frz l vs).2 bx, nx, lg⟩) := (rfl)
theorem s_mu_s {z : C} {id : Nat} {t2 : TypeId} {l : List (List UInt8)} {vs : List C} {s : List UInt8} : baMu1 (some (.str, z)) t (.mo id t2 (.str l) vs) (.str s) d ⟨tm, bx, nx, lg⟩ K3 ⟨⟩ = (t2 = t ∧ K3 .any ⟨upTm id (.str (mput s d.frz l vs).1) (mput s d.frz l vs).2 tm, upBx id (.str (mput s d.frz l vs).1) (mput s d.frz l vs).2 bx, nx, lg⟩) := (rfl)
theorem s_len_mo {id : Nat} {t2 : TypeId} {ks : MK} {vs : List C} : baLen P t (.mo id t2 ks vs) K ⟨⟩ = baLm1 (mapL P t) vs.length K ⟨⟩ := (show aLen P t (.mo id t2 ks vs) K = aLm1 (mapL P t) vs.length K from by show aLenM P t t2 vs K = _; unfold aLenM aLm1; cases mapL P t <;> rfl)
theorem s_lm1 {M : MKd × C} {n : Nat} : baLm1 (some M) n K ⟨⟩ = K (.sc (.int .i64 (n : Int))) := (rfl)
theorem s_e_append : baEff P G h (.call ⟨.builtin .append, #[x, y], #[t, t]⟩) ⟨tm, bx, nx, lg⟩ K3 ⟨⟩ ⟨⟩ ⟨⟩ = if h.bx t then if h.bx2 t then baAppB2 P t (evOf G tm x) (evOf G tm y) ⟨tm, bx, nx, lg⟩ K3 ⟨⟩ else baAppBox P h.p t (evOf G tm x) (evOf G tm y) ⟨tm, bx, nx, lg⟩ K3 ⟨⟩ else baAppend P t (evOf G tm x) (evOf G tm y) ⟨tm, bx, nx, lg⟩ K3 ⟨⟩ := (show aEff P G h (.call ⟨.builtin .append, #[x, y], #[t, t]⟩) ⟨tm, bx, nx, lg⟩ K3 = if h.bx t then if h.bx2 t then aAppB2 P t (evOf G tm x) (evOf G tm y) ⟨tm, bx, nx, lg⟩ K3 else aAppBox P h.p t (evOf G tm x) (evOf G tm y) ⟨tm, bx, nx, lg⟩ K3 else aAppend P t (evOf G tm x) (evOf G tm y) ⟨tm, bx, nx, lg⟩ K3 from by simp [aEff, aEffB])
theorem s_e_appz (h0 : (t' == t) = false) : baEff P G h (.call ⟨.builtin .append, #[x, y], #[t, t']⟩) ⟨tm, bx, nx, lg⟩ K3 ⟨⟩ ⟨⟩ ⟨⟩ = baAppZ P t t' (evOf G tm x) (evOf G tm y) ⟨tm, bx, nx, lg⟩ K3 ⟨⟩ := (show aEff P G h (.call ⟨.builtin .append, #[x, y], #[t, t']⟩) ⟨tm, bx, nx, lg⟩ K3 = aAppZ P t t' (evOf G tm x) (evOf G tm y) ⟨tm, bx, nx, lg⟩ K3 from by simp only [beq_eq_false_iff_ne] at h0; simp [aEff, aEffB, h0])
theorem s_e_copy : baEff P G h (.call ⟨.builtin .copy, #[x, y], #[t, t']⟩) ⟨tm, bx, nx, lg⟩ K3 ⟨⟩ ⟨⟩ ⟨⟩ = baCopy P t (evOf G tm x) (evOf G tm y) ⟨tm, bx, nx, lg⟩ K3 ⟨⟩ := (show aEff P G h (.call ⟨.builtin .copy, #[x, y], #[t, t']⟩) ⟨tm, bx, nx, lg⟩ K3 = aCopy P t (evOf G tm x) (evOf G tm y) ⟨tm, bx, nx, lg⟩ K3 from by simp [aEff, aEffB])
theorem s_e_clear : baEff P G h (.call ⟨.builtin .clear, #[x], #[t]⟩) ⟨tm, bx, nx, lg⟩ K3 ⟨⟩ ⟨⟩ ⟨⟩ = baClear P t (evOf G tm x) ⟨tm, bx, nx, lg⟩ K3 ⟨⟩ := (show aEff P G h (.call ⟨.builtin .clear, #[x], #[t]⟩) ⟨tm, bx, nx, lg⟩ K3 = aClear P t (evOf G tm x) ⟨tm, bx, nx, lg⟩ K3 from by simp [aEff, aEffB])
theorem s_e_max : baEff P G h (.call ⟨.builtin .max, #[x, y], #[t, t']⟩) ⟨tm, bx, nx, lg⟩ K3 ⟨⟩ ⟨⟩ ⟨⟩ = baMax (evOf G tm x) (evOf G tm y) (fun c => K3 c ⟨tm, bx, nx, lg⟩) ⟨⟩ := (rfl)
theorem s_p_max {ev : Operand → C} : baPure P G bx ev (.call ⟨.builtin .max, #[x, y], #[t, t']⟩) nx K2 ⟨⟩ ⟨⟩ ⟨⟩ = baMax (ev x) (ev y) (fun c => K2 c nx) ⟨⟩ := (rfl)
theorem s_max {k k' : IntKind} {n m : Int} : baMax (.sc (.int k n)) (.sc (.int k' m)) K ⟨⟩ = K (.sc (.int k (if m > n then m else n))) := (rfl)
theorem s_e_cap : baEff P G h (.call ⟨.builtin .cap, #[x], #[t]⟩) ⟨tm, bx, nx, lg⟩ K3 ⟨⟩ ⟨⟩ ⟨⟩ = baCap P t (evOf G tm x) (fun c => K3 c ⟨tm, bx, nx, lg⟩) ⟨⟩ := (show aEff P G h (.call ⟨.builtin .cap, #[x], #[t]⟩) ⟨tm, bx, nx, lg⟩ K3 = aCap P t (evOf G tm x) fun c => K3 c ⟨tm, bx, nx, lg⟩ from by simp [aEff, aEffB])
theorem s_cap : baCap P t c K ⟨⟩ = baCap1 (lay P t) c K ⟨⟩ := (rfl)
theorem s_cap_bs {i off k n cap : Nat} {e s1 b1 : Nat} {z1 : Option (List Value)} : baCap1 (some ⟨.slice e, s1, b1, z1⟩) (.bs i off k n cap) K ⟨⟩ = K (.sc (.int .i64 (cap : Int))) := (rfl)
theorem s_cap_nil {e s1 b1 : Nat} {z1 : Option (List Value)} : baCap1 (some ⟨.slice e, s1, b1, z1⟩) (.sc (.slice none 0 0)) K ⟨⟩ = K (.sc (.int .i64 0)) := (rfl)
theorem s_p_append {ev : Operand → C} : baPure P G bx ev (.call ⟨.builtin .append, #[x, y], #[t, t]⟩) nx K2 ⟨⟩ ⟨⟩ ⟨⟩ = baAppNew P t (ev x) (ev y) nx K2 ⟨⟩ := (show aPure P G bx ev (.call ⟨.builtin .append, #[x, y], #[t, t]⟩) nx K2 = aAppNew P t (ev x) (ev y) nx K2 from by simp [aPure, aCall, aCallB])
theorem s_e_alloc : baEff P G h (.alloc t) ⟨tm, bx, nx, lg⟩ K3 ⟨⟩ ⟨⟩ ⟨⟩ = baAl1 (lay P t) ⟨tm, bx, nx, lg⟩ K3 ⟨⟩ := (rfl)
theorem s_e_box : baEff P G h (.box t x) ⟨tm, bx, nx, lg⟩ K3 ⟨⟩ ⟨⟩ ⟨⟩ = baBox (evOf G tm x) ⟨tm, bx, nx, lg⟩ K3 ⟨⟩ := (rfl)
theorem s_e_store : baEff P G h (.store t x y) ⟨tm, bx, nx, lg⟩ K3 ⟨⟩ ⟨⟩ ⟨⟩ = baSt1 (lay P t) (evOf G tm x) (evOf G tm y) ⟨tm, bx, nx, lg⟩ K3 ⟨⟩ := (rfl)
theorem s_ev_tmp {u : Tmp} : evOf G tm (.tmp u) = getC tm u := (rfl)
theorem s_ev_const {v : Value} : evOf G tm (.const v) = ofConst v := (rfl)
theorem s_ev_func {f : FuncId} : evOf G tm (.func f) = .clo (.func f) [] [] := (rfl)
theorem s_ev_global {g : Nat} : evOf G tm (.global g) = evGl (G g) := (rfl)
theorem s_evGl_some {cs : List C} : evGl (some cs) = .row cs := (rfl)
theorem s_getC {u v : Nat} {r : List (Nat × C)} : getC ((u, c) :: r) v = if v = u then c else getC r v := (rfl)
theorem s_const_int {k : IntKind} {n : Int} : ofConst (.int k n) = .sc (.int k n) := (rfl)
theorem s_const_bool {b : Bool} : ofConst (.bool b) = .sc (.bool b) := (rfl)
theorem s_const_str {l : List UInt8} : ofConst (.string ⟨l.toArray⟩) = .str l := (rfl)
theorem s_const_slice {a : Option Addr} {n m : Nat} : ofConst (.slice a n m) = .sc (.slice a n m) := (rfl)
theorem s_const_agg {l : List Value} : ofConst (.agg l.toArray) = .agg (l.map .sc) := (rfl)
theorem s_const_ptr {a : Option Addr} : ofConst (.pointer a) = .sc (.pointer a) := (rfl)
theorem s_const_map {a : Option Nat} : ofConst (.map a) = .sc (.map a) := (rfl)
theorem s_const_nilf : ofConst .nilFunc = .sc .nilFunc := (rfl)
theorem s_const_nili : ofConst .nilIface = .sc .nilIface := (rfl)
theorem s_bin_int {op : BinOp} {k : IntKind} {a b : Int} : baBin P t op (.sc (.int k a)) (.sc (.int k b)) K ⟨⟩ = baInt op k a b K ⟨⟩ := (show aBin P t op (.sc (.int k a)) (.sc (.int k b)) K = aInt op k a b K from by simp [aBin])
theorem s_bin_str {op : BinOp} {a b : List UInt8} : baBin P t op (.str a) (.str b) K ⟨⟩ = baStr op a b K ⟨⟩ := (rfl)
theorem s_bin_bool {op : BinOp} {a b : Bool} : baBin P t op (.sc (.bool a)) (.sc (.bool b)) K ⟨⟩ = baBool1 (lay P t) op a b K ⟨⟩ := (rfl)
theorem s_bin_agg {op : BinOp} {cs ds : List C} : baBin P t op (.agg cs) (.agg ds) K ⟨⟩ = baEq0 op (keyL P t) cs ds K ⟨⟩ := (rfl)
theorem s_bin_nil_sl {op : BinOp} {k : Nat} {rows : List (List C)} : baBin P t op (.sl k rows) (.sc (.slice none 0 0)) K ⟨⟩ = baNilL (lay P t) op (.sl k rows) K ⟨⟩ := (rfl)
theorem s_nilL_sl {op : BinOp} {e0 : TypeId} {k0 b0 : Nat} {z0 : Option (List Value)} {k : Nat} {rows : List (List C)} : baNilL (some ⟨.slice e0, k0, b0, z0⟩) op (.sl k rows) K ⟨⟩ = (rows ≠ [] ∧ baNil1 op false K ⟨⟩) := (rfl)
theorem s_bin_nil_tight {op : BinOp} {k : Nat} {rows : List (List C)} : baBin P t op (.tight k rows) (.sc (.slice none 0 0)) K ⟨⟩ = baNilL (lay P t) op (.tight k rows) K ⟨⟩ := (rfl)
theorem s_nilL_tight {op : BinOp} {e0 : TypeId} {k0 b0 : Nat} {z0 : Option (List Value)} {k : Nat} {rows : List (List C)} : baNilL (some ⟨.slice e0, k0, b0, z0⟩) op (.tight k rows) K ⟨⟩ = (rows ≠ [] ∧ baNil1 op false K ⟨⟩) := (rfl)
theorem s_bin_nil_own {op : BinOp} {i k : Nat} {e : TypeId} {rows : List (List C)} : baBin P t op (.own i e k rows) (.sc (.slice none 0 0)) K ⟨⟩ = baNilL (lay P t) op (.own i e k rows) K ⟨⟩ := (rfl)
theorem s_nilL_own {op : BinOp} {e0 : TypeId} {k0 b0 : Nat} {z0 : Option (List Value)} {i k : Nat} {e : TypeId} {rows : List (List C)} : baNilL (some ⟨.slice e0, k0, b0, z0⟩) op (.own i e k rows) K ⟨⟩ = (rows ≠ [] ∧ baNil1 op false K ⟨⟩) := (rfl)
theorem s_bin_nil_bs {op : BinOp} {i q k n cap : Nat} : baBin P t op (.bs i q k n cap) (.sc (.slice none 0 0)) K ⟨⟩ = baNilL (lay P t) op (.bs i q k n cap) K ⟨⟩ := (rfl)
theorem s_nilL_bs {op : BinOp} {e0 : TypeId} {k0 b0 : Nat} {z0 : Option (List Value)} {i q k n cap : Nat} : baNilL (some ⟨.slice e0, k0, b0, z0⟩) op (.bs i q k n cap) K ⟨⟩ = baNil1 op false K ⟨⟩ := (rfl)
theorem s_bin_nil_sc {op : BinOp} {a : Option Addr} {n cap : Nat} : baBin P t op (.sc (.slice a n cap)) (.sc (.slice none 0 0)) K ⟨⟩ = baNilL (lay P t) op (.sc (.slice a n cap)) K ⟨⟩ := (rfl)
theorem s_nilL_sc {op : BinOp} {e0 : TypeId} {k0 b0 : Nat} {z0 : Option (List Value)} {a : Option Addr} {n cap : Nat} : baNilL (some ⟨.slice e0, k0, b0, z0⟩) op (.sc (.slice a n cap)) K ⟨⟩ = baNil1 op a.isNone K ⟨⟩ := (rfl)
theorem s_nil1_eql {b : Bool} : baNil1 .eql b K ⟨⟩ = K (.sc (.bool b)) := (rfl)
theorem s_nil1_neq {b : Bool} : baNil1 .neq b K ⟨⟩ = K (.sc (.bool (!b))) := (rfl)
theorem s_eq0_eql {lk : List LK} {cs ds : List C} : baEq0 .eql (some lk) cs ds K ⟨⟩ = baEq false lk cs ds true K ⟨⟩ := (rfl)
theorem s_eq0_neq {lk : List LK} {cs ds : List C} : baEq0 .neq (some lk) cs ds K ⟨⟩ = baEq true lk cs ds true K ⟨⟩ := (rfl)
theorem s_eq_nil {e : Bool} : baEq false [] [] [] e K ⟨⟩ = K (.sc (.bool e)) := (rfl)
theorem s_eq_nil_n {e : Bool} : baEq true [] [] [] e K ⟨⟩ = K (.sc (.bool (!e))) := (rfl)
theorem s_eq_int {n e : Bool} {lk : List LK} {k k1 k2 : IntKind} {a b : Int} {cs ds : List C} : baEq n (.int k :: lk) (.sc (.int k1 a) :: cs) (.sc (.int k2 b) :: ds) e K ⟨⟩ = (k1 = k ∧ k2 = k ∧ baEq n lk cs ds (e && decide (a = b)) K ⟨⟩) := (rfl)
theorem s_eq_bool {n e : Bool} {lk : List LK} {a b : Bool} {cs ds : List C} : baEq n (.bool :: lk) (.sc (.bool a) :: cs) (.sc (.bool b) :: ds) e K ⟨⟩ = baEq n lk cs ds (e && (a == b)) K ⟨⟩ := (rfl)
theorem s_eq_str {n e : Bool} {lk : List LK} {a b : List UInt8} {cs ds : List C} : baEq n (.str :: lk) (.str a :: cs) (.str b :: ds) e K ⟨⟩ = baEq n lk cs ds (e && decide (a = b)) K ⟨⟩ := (rfl)
theorem s_bool1 {op : BinOp} {a b : Bool} {s b1 : Nat} {z1 : Option (List Value)} : baBool1 (some ⟨.bool, s, b1, z1⟩) op a b K ⟨⟩ = baBool op a b K ⟨⟩ := (rfl)
theorem s_int_add {k : IntKind} {a b : Int} : baInt .add k a b K ⟨⟩ = (inR k (a + b) ∧ K (.sc (.int k (a + b)))) := (rfl)
theorem s_int_sub {k : IntKind} {a b : Int} : baInt .sub k a b K ⟨⟩ = (inR k (a - b) ∧ K (.sc (.int k (a - b)))) := (rfl)
theorem s_int_mul {k : IntKind} {a b : Int} : baInt .mul k a b K ⟨⟩ = (inR k (a * b) ∧ K (.sc (.int k (a * b)))) := (rfl)
theorem s_int_quo {k : IntKind} {a b : Int} : baInt .quo k a b K ⟨⟩ = (0 ≤ a ∧ 0 < b ∧ inR k a ∧ K (.sc (.int k (a / b)))) := (rfl)
theorem s_int_rem {k : IntKind} {a b : Int} : baInt .rem k a b K ⟨⟩ = (0 ≤ a ∧ 0 < b ∧ K (.sc (.int k (a % b)))) := (rfl)
theorem s_int_shr {k : IntKind} {a b : Int} : baInt .shr k a b K ⟨⟩ = (b = 1 ∧ K (.sc (.int k (a / 2)))) := (rfl)
theorem s_int_eql {k : IntKind} {a b : Int} : baInt .eql k a b K ⟨⟩ = (K (.sc (.bool (decide (a = b))))) := (rfl)
theorem s_int_neq {k : IntKind} {a b : Int} : baInt .neq k a b K ⟨⟩ = (K (.sc (.bool (!decide (a = b))))) := (rfl)
theorem s_int_lss {k : IntKind} {a b : Int} : baInt .lss k a b K ⟨⟩ = (K (.sc (.bool (decide (a < b))))) := (rfl)
theorem s_int_leq {k : IntKind} {a b : Int} : baInt .leq k a b K ⟨⟩ = (K (.sc (.bool (decide (a ≤ b))))) := (rfl)
theorem s_int_gtr {k : IntKind} {a b : Int} : baInt .gtr k a b K ⟨⟩ = (K (.sc (.bool (decide (b < a))))) := (rfl)
theorem s_int_geq {k : IntKind} {a b : Int} : baInt .geq k a b K ⟨⟩ = (K (.sc (.bool (decide (b ≤ a))))) := (rfl)
theorem s_str_add {a b : List UInt8} : baStr .add a b K ⟨⟩ = (((a.length + b.length : Nat) : Int) ≤ 9223372036854775807 ∧ K (.str (a ++ b))) := (rfl)
theorem s_str_eql {a b : List UInt8} : baStr .eql a b K ⟨⟩ = (K (.sc (.bool (decide (a = b))))) := (rfl)
theorem s_str_neq {a b : List UInt8} : baStr .neq a b K ⟨⟩ = (K (.sc (.bool (!decide (a = b))))) := (rfl)
theorem s_str_lss {a b : List UInt8} : baStr .lss a b K ⟨⟩ = (K (.sc (.bool (Op.bytesLess a b)))) := (rfl)
theorem s_str_geq {a b : List UInt8} : baStr .geq a b K ⟨⟩ = (K (.sc (.bool (!Op.bytesLess a b)))) := (rfl)
theorem s_str_leq {a b : List UInt8} : baStr .leq a b K ⟨⟩ = (K (.sc (.bool (Op.bytesLess a b || decide (a = b))))) := (rfl)
theorem s_str_gtr {a b : List UInt8} : baStr .gtr a b K ⟨⟩ = (K (.sc (.bool (!(Op.bytesLess a b || decide (a = b)))))) := (rfl)
theorem s_bool_eql {a b : Bool} : baBool .eql a b K ⟨⟩ = K (.sc (.bool (a == b))) := (rfl)
theorem s_bool_neq {a b : Bool} : baBool .neq a b K ⟨⟩ = K (.sc (.bool (!(a == b)))) := (rfl)
theorem s_un_not {b : Bool} : baUn .not (.sc (.bool b)) K ⟨⟩ = K (.sc (.bool (!b))) := (rfl)
theorem s_un_neg {k : IntKind} {n : Int} : baUn .neg (.sc (.int k n)) K ⟨⟩ = (inR k (0 - n) ∧ K (.sc (.int k (0 - n)))) := (rfl)
theorem s_extract {cs : List C} {i : Nat} : baExtract (.tup cs) i K ⟨⟩ = baOpt (cs[i]?) K ⟨⟩ := (rfl)
theorem s_opt : baOpt (some c) K ⟨⟩ = K c := (rfl)
theorem s_nil_ptr {i off : Nat} : baNil (.ptr i off) K ⟨⟩ = K (.ptr i off) := (rfl)
theorem s_nil_row {cs : List C} : baNil (.row cs) K ⟨⟩ = K (.row cs) := (rfl)
theorem s_nil_clo {f : FuncId} {fs cs : List C} : baNil (.clo (.func f) fs cs) K ⟨⟩ = K (.clo (.func f) fs cs) := (rfl)
theorem s_load : baLoad P t c bx K ⟨⟩ = baLoad1 (lay P t) c bx K ⟨⟩ := (rfl)
theorem s_p_store {ev : Operand → C} : baPure P G bx ev (.store t x y) nx K2 ⟨⟩ ⟨⟩ ⟨⟩ = baSm1 (lay P t) (ev x) (ev y) bx (fun c => K2 c nx) ⟨⟩ := (rfl)
theorem s_sm1 {L : Lay} {i off : Nat} : baSm1 (some L) (.ptr i off) c bx K ⟨⟩ = baSm2 (bx[i]?) off L.size c K ⟨⟩ := (rfl)
theorem s_sm2 {cs : List C} {off size : Nat} : baSm2 (some cs) off size c K ⟨⟩ = (c.partB = true ∧ (c.cells.all C.cellB) = true ∧ c.cells.length = size ∧ off + size ≤ cs.length ∧ sameC ((cs.drop off).take size) c.cells ∧ K .any) := (rfl)
theorem s_same_nil : sameC [] [] = True := (rfl)
theorem s_same_sc {u v : Value} {r s : List C} : sameC (.sc u :: r) (.sc v :: s) = (u = v ∧ sameC r s) := (rfl)
theorem s_same_str {u v : List UInt8} {r s : List C} : sameC (.str u :: r) (.str v :: s) = (u = v ∧ sameC r s) := (rfl)
theorem s_load_ptr {L : Lay} {i off : Nat} : baLoad1 (some L) (.ptr i off) bx K ⟨⟩ = baLoad2 (bx[i]?) off L K ⟨⟩ := (rfl)
theorem s_load_row {L : Lay} {cs : List C} : baLoad1 (some L) (.row cs) bx K ⟨⟩ = baTake L cs K ⟨⟩ := (rfl)
theorem s_load2 {L : Lay} {off : Nat} {cs : List C} : baLoad2 (some cs) off L K ⟨⟩ = baTake L (cs.drop off) K ⟨⟩ := (rfl)
theorem s_take_struct {fs : List (Nat × Nat × Bool)} {s b : Nat} {z1 : Option (List Value)} {cs : List C} : baTake ⟨.struct fs, s, b, z1⟩ cs K ⟨⟩ = (s ≤ cs.length ∧ K (.agg (cs.take s))) := (show aTake ⟨.struct fs, s, b, z1⟩ cs K = (s ≤ cs.length ∧ K (.agg (cs.take s))) from by simp [aTake, LK.agg])
theorem s_take_array {n e s b : Nat} {z1 : Option (List Value)} {cs : List C} : baTake ⟨.array n e, s, b, z1⟩ cs K ⟨⟩ = (s ≤ cs.length ∧ K (.agg (cs.take s))) := (show aTake ⟨.array n e, s, b, z1⟩ cs K = (s ≤ cs.length ∧ K (.agg (cs.take s))) from by simp [aTake, LK.agg])
theorem s_take_int {ik : IntKind} {s b : Nat} {z1 : Option (List Value)} {r : List C} : baTake ⟨.int ik, s, b, z1⟩ (c :: r) K ⟨⟩ = K c := (show aTake ⟨.int ik, s, b, z1⟩ (c :: r) K = K c from by simp [aTake, LK.agg])
theorem s_take_bool {s b : Nat} {z1 : Option (List Value)} {r : List C} : baTake ⟨.bool, s, b, z1⟩ (c :: r) K ⟨⟩ = K c := (show aTake ⟨.bool, s, b, z1⟩ (c :: r) K = K c from by simp [aTake, LK.agg])
theorem s_take_str {s b : Nat} {z1 : Option (List Value)} {r : List C} : baTake ⟨.str, s, b, z1⟩ (c :: r) K ⟨⟩ = K c := (show aTake ⟨.str, s, b, z1⟩ (c :: r) K = K c from by simp [aTake, LK.agg])
theorem s_take_slice {e : TypeId} {s b : Nat} {z1 : Option (List Value)} {r : List C} : baTake ⟨.slice e, s, b, z1⟩ (c :: r) K ⟨⟩ = K c := (show aTake ⟨.slice e, s, b, z1⟩ (c :: r) K = K c from by simp [aTake, LK.agg])
theorem s_take_other {s b : Nat} {z1 : Option (List Value)} {r : List C} : baTake ⟨.other, s, b, z1⟩ (c :: r) K ⟨⟩ = K c := (show aTake ⟨.other, s, b, z1⟩ (c :: r) K = K c from by simp [aTake, LK.agg])
theorem s_field {f : Nat} : baField P t c f K ⟨⟩ = baField1 (lay P t) c f K ⟨⟩ := (rfl)
theorem s_field1 {fs : List (Nat × Nat × Bool)} {s b : Nat} {z1 : Option (List Value)} {cs : List C} {f : Nat} : baField1 (some ⟨.struct fs, s, b, z1⟩) (.agg cs) f K ⟨⟩ = baField2 (fs[f]?) cs K ⟨⟩ := (show aField1 (some ⟨.struct fs, s, b, z1⟩) (.agg cs) f K = aField2 (fs[f]?) cs K from by unfold aField1 aField2; simp only []; cases fs[f]? <;> simp)
theorem s_field2t {off size : Nat} {cs : List C} : baField2 (some (off, size, true)) cs K ⟨⟩ = (off + size ≤ cs.length ∧ K (.agg ((cs.drop off).take size))) := (show aField2 (some (off, size, true)) cs K = (off + size ≤ cs.length ∧ K (.agg ((cs.drop off).take size))) from by simp [aField2])
theorem s_field2f {off size : Nat} {cs : List C} : baField2 (some (off, size, false)) cs K ⟨⟩ = baOpt (cs[off]?) K ⟨⟩ := (show aField2 (some (off, size, false)) cs K = aOpt (cs[off]?) K from by unfold aField2 aOpt; simp)
theorem s_fa {f : Nat} : baFieldAddr P t c f K ⟨⟩ = baFA1 (lay P t) c f K ⟨⟩ := (rfl)
theorem s_fa1 {fs : List (Nat × Nat × Bool)} {s b : Nat} {z1 : Option (List Value)} {f : Nat} : baFA1 (some ⟨.struct fs, s, b, z1⟩) c f K ⟨⟩ = baFA2 (fs[f]?) c K ⟨⟩ := (rfl)
theorem s_fa_ptr {off size i q : Nat} {g : Bool} : baFA2 (some (off, size + 1, g)) (.ptr i q) K ⟨⟩ = K (.ptr i (q + off)) := (show aFA2 (some (off, size + 1, g)) (.ptr i q) K = K (.ptr i (q + off)) from by simp [aFA2])
theorem s_fa_row {off size : Nat} {g : Bool} {cs : List C} : baFA2 (some (off, size + 1, g)) (.row cs) K ⟨⟩ = K (.row (cs.drop off)) := (show aFA2 (some (off, size + 1, g)) (.row cs) K = K (.row (cs.drop off)) from by simp [aFA2])
theorem s_ia : baIndexAddr P t c d K ⟨⟩ = baIA1 P (lay P t) c d K ⟨⟩ := (rfl)
theorem s_ia_slice {e s b : Nat} {z1 : Option (List Value)} {k : IntKind} {n : Int} : baIA1 P (some ⟨.slice e, s, b, z1⟩) c (.sc (.int k n)) K ⟨⟩ = baIAs (lay P e) c n K ⟨⟩ := (rfl)
theorem s_ia_array {m e s b : Nat} {z1 : Option (List Value)} {k : IntKind} {n : Int} : baIA1 P (some ⟨.array (m + 1) e, s, b, z1⟩) c (.sc (.int k n)) K ⟨⟩ = baIAa (lay P e) c m n K ⟨⟩ := (rfl)
theorem s_ia_s_sl {k : Nat} {rows : List (List C)} {L : Lay} {n : Int} : baIAs (some L) (.sl k rows) n K ⟨⟩ = baIAr (C.rows? L.size (.sl k rows)) n K ⟨⟩ := (rfl)
theorem s_sl_s_sl {k : Nat} {rows : List (List C)} {L : Lay} {lo hi mx : Option Int} : baSlS (some L) (.sl k rows) lo hi mx K ⟨⟩ = baSlR (C.rows? L.size (.sl k rows)) L.size lo hi mx K ⟨⟩ := (rfl)
theorem s_convx_sl {k : Nat} {rows : List (List C)}  : baConvX P bx t t' (.sl k rows) K ⟨⟩ = baConv P t t' (.sl k rows) K ⟨⟩ := (rfl)
theorem s_ia_s_tight {k : Nat} {rows : List (List C)} {L : Lay} {n : Int} : baIAs (some L) (.tight k rows) n K ⟨⟩ = baIAr (C.rows? L.size (.tight k rows)) n K ⟨⟩ := (rfl)
theorem s_sl_s_tight {k : Nat} {rows : List (List C)} {L : Lay} {lo hi mx : Option Int} : baSlS (some L) (.tight k rows) lo hi mx K ⟨⟩ = baSlR (C.rows? L.size (.tight k rows)) L.size lo hi mx K ⟨⟩ := (rfl)
theorem s_convx_tight {k : Nat} {rows : List (List C)}  : baConvX P bx t t' (.tight k rows) K ⟨⟩ = baConv P t t' (.tight k rows) K ⟨⟩ := (rfl)
theorem s_ia_s_own {id e k : Nat} {rows : List (List C)} {L : Lay} {n : Int} : baIAs (some L) (.own id e k rows) n K ⟨⟩ = baIAr (C.rows? L.size (.own id e k rows)) n K ⟨⟩ := (rfl)
theorem s_sl_s_own {id e k : Nat} {rows : List (List C)} {L : Lay} {lo hi mx : Option Int} : baSlS (some L) (.own id e k rows) lo hi mx K ⟨⟩ = baSlR (C.rows? L.size (.own id e k rows)) L.size lo hi mx K ⟨⟩ := (rfl)
theorem s_convx_own {id e k : Nat} {rows : List (List C)}  : baConvX P bx t t' (.own id e k rows) K ⟨⟩ = baConv P t t' (.own id e k rows) K ⟨⟩ := (rfl)
theorem s_ia_s_sc {v : Value} {L : Lay} {n : Int} : baIAs (some L) (.sc v) n K ⟨⟩ = baIAr (C.rows? L.size (.sc v)) n K ⟨⟩ := (rfl)
theorem s_sl_s_sc {v : Value} {L : Lay} {lo hi mx : Option Int} : baSlS (some L) (.sc v) lo hi mx K ⟨⟩ = baSlR (C.rows? L.size (.sc v)) L.size lo hi mx K ⟨⟩ := (rfl)
theorem s_convx_sc {v : Value}  : baConvX P bx t t' (.sc v) K ⟨⟩ = baConv P t t' (.sc v) K ⟨⟩ := (rfl)
theorem s_convx_str {l : List UInt8} : baConvX P bx t t' (.str l) K ⟨⟩ = baConv P t t' (.str l) K ⟨⟩ := (rfl)
theorem s_ia_s_bs {L : Lay} {n : Int} {j off k m1 cap : Nat} : baIAs (some L) (.bs j off k m1 cap) n K ⟨⟩ = (k = L.size ∧ 0 ≤ n ∧ n < (m1 : Int) ∧ K (.ptr j (off + n.toNat * L.size))) := (rfl)
theorem s_sl_s_bs {L : Lay} {lo hi mx : Option Int} {i off k n cap : Nat} : baSlS (some L) (.bs i off k n cap) lo hi mx K ⟨⟩ = baSlB L.size i off k n cap lo hi mx K ⟨⟩ := (rfl)
theorem s_slB000 {sz i off k n cap : Nat} : baSlB sz i off k n cap none none none K ⟨⟩ = (n ≤ cap ∧ K (.bs i off k n cap)) := (rfl)
theorem s_slB010 {b : Int} {sz i off k n cap : Nat} : baSlB sz i off k n cap none (some b) none K ⟨⟩ = (n ≤ cap ∧ (0 ≤ b ∧ b ≤ (cap : Int)) ∧ K (.bs i off k b.toNat cap)) := (rfl)
theorem s_slB100 {a : Int} {sz i off k n cap : Nat} : baSlB sz i off k n cap (some a) none none K ⟨⟩ = (sz = k ∧ n ≤ cap ∧ (0 ≤ a ∧ a ≤ (n : Int)) ∧ K (.bs i (off + a.toNat * k) k (n - a.toNat) (cap - a.toNat))) := (rfl)
theorem s_slB110 {a b : Int} {sz i off k n cap : Nat} : baSlB sz i off k n cap (some a) (some b) none K ⟨⟩ = (sz = k ∧ (0 ≤ a ∧ a ≤ b ∧ b ≤ (cap : Int)) ∧ K (.bs i (off + a.toNat * k) k (b.toNat - a.toNat) (cap - a.toNat))) := (rfl)
theorem s_slB011 {b m1 : Int} {sz i off k n cap : Nat} : baSlB sz i off k n cap none (some b) (some m1) K ⟨⟩ = ((0 ≤ b ∧ b ≤ m1 ∧ m1 ≤ (cap : Int)) ∧ K (.bs i off k b.toNat m1.toNat)) := (rfl)
theorem s_slB111 {a b m1 : Int} {sz i off k n cap : Nat} : baSlB sz i off k n cap (some a) (some b) (some m1) K ⟨⟩ = (sz = k ∧ (0 ≤ a ∧ a ≤ b ∧ b ≤ m1 ∧ m1 ≤ (cap : Int)) ∧ K (.bs i (off + a.toNat * k) k (b.toNat - a.toNat) (m1.toNat - a.toNat))) := (rfl)
theorem s_convx_bs {i off k n cap : Nat} : baConvX P bx t t' (.bs i off k n cap) K ⟨⟩ = baCvb1 P (lay P t') (lay P t) bx i off n K ⟨⟩ := (rfl)
theorem s_cvb1 {e s b s2 b2 : Nat} {z1 z2 : Option (List Value)} {i off n : Nat} : baCvb1 P (some ⟨.str, s, b, z1⟩) (some ⟨.slice e, s2, b2, z2⟩) bx i off n K ⟨⟩ = baCvb2 (lay P e) (bx[i]?) off n K ⟨⟩ := (rfl)
theorem s_cvb2 {s b : Nat} {z1 : Option (List Value)} {cs : Option (List C)} {off n : Nat} : baCvb2 (some ⟨.int .u8, s, b, z1⟩) cs off n K ⟨⟩ = baBytesB cs off n K ⟨⟩ := (rfl)
theorem s_len_bs {i off k n cap : Nat} : baLen P t (.bs i off k n cap) K ⟨⟩ = baLenL (lay P t) (n : Int) K ⟨⟩ := (rfl)
theorem s_bb {n : Nat} {ps : List (Nat × C)} : baBuildBox P t n ps ⟨tm, bx, nx, lg⟩ K3 ⟨⟩ = baBB1 P (lay P t) n ps ⟨tm, bx, nx, lg⟩ K3 ⟨⟩ := (rfl)
theorem s_bb1 {e s b n : Nat} {z1 : Option (List Value)} {ps : List (Nat × C)} : baBB1 P (some ⟨.slice e, s, b, z1⟩) n ps σ K3 ⟨⟩ = baBB2 (lay P e) n ps σ K3 ⟨⟩ := (rfl)
theorem s_bb2 {kd : LK} {k b n : Nat} {z1 : List Value} {ps : List (Nat × C)} : baBB2 (some ⟨kd, k, b, some z1⟩) n ps σ K3 ⟨⟩ = (z1.length = k ∧ 0 < k ∧ n * k ≤ 16777216 ∧ (ps.all fun p => p.2.frz.partB) = true ∧ baBB3 (aFill (plA k) (List.replicate n (z1.map ofConst)).flatten (ps.map fun p => (p.1, p.2.frz))) k n σ K3 ⟨⟩) := (rfl)
theorem s_bb3 {cs : List C} {k n : Nat} : baBB3 (some cs) k n ⟨tm, bx, nx, lg⟩ K3 ⟨⟩ = ((cs.all C.cellB) = true ∧ cs.length = n * k ∧ K3 (.bs bx.length 0 k n n) ⟨tm, bx ++ [cs], nx, lg⟩) := (rfl)
theorem s_pb : baAppBox P p t c d ⟨tm, bx, nx, lg⟩ K3 ⟨⟩ = baPB1 P (lay P t) p c d ⟨tm, bx, nx, lg⟩ K3 ⟨⟩ := (rfl)
theorem s_pb1 {e s b : Nat} {z1 : Option (List Value)} : baPB1 P (some ⟨.slice e, s, b, z1⟩) p c d σ K3 ⟨⟩ = baPB2 (lay P e) p c d σ K3 ⟨⟩ := (rfl)
theorem s_pb2 {kd : LK} {k b : Nat} {z1 : List Value} : baPB2 (some ⟨kd, k, b, some z1⟩) p c d ⟨tm, bx, nx, lg⟩ K3 ⟨⟩ = baPB3 (d.xs? k bx) p k b z1 c ⟨tm, bx, nx, lg⟩ K3 ⟨⟩ := (rfl)
theorem s_xs_sl {k : Nat} {rows : List (List C)}  : C.xs? k bx (.sl k rows) = some (rows.length, rows.flatten) := (show C.xs? k bx (.sl k rows) = some (rows.length, rows.flatten) from by simp [C.xs?, C.rows?])
theorem s_xs_tight {k : Nat} {rows : List (List C)}  : C.xs? k bx (.tight k rows) = some (rows.length, rows.flatten) := (show C.xs? k bx (.tight k rows) = some (rows.length, rows.flatten) from by simp [C.xs?, C.rows?])
theorem s_xs_own {id e k : Nat} {rows : List (List C)}  : C.xs? k bx (.own id e k rows) = some (rows.length, rows.flatten) := (show C.xs? k bx (.own id e k rows) = some (rows.length, rows.flatten) from by simp [C.xs?, C.rows?])
theorem s_xs_bs {i off k k2 n cap : Nat} : C.xs? k bx (.bs i off k2 n cap) = xsB k2 k off n (bx[i]?) := (rfl)
theorem s_xsB1 {k off n : Nat} {cs : List C} : xsB k k off n (some cs) = if off + n * k ≤ cs.length then some (n, (cs.drop off).take (n * k)) else none := (show xsB k k off n (some cs) = if off + n * k ≤ cs.length then some (n, (cs.drop off).take (n * k)) else none from by simp [xsB])
theorem s_butBx {i : Nat} {cs : List C} : butBx i cs bx = (reBx (fpBut i) some bx).set i cs := (rfl)
theorem s_fpBut {i j : Nat} : fpBut i j = if j = i then none else some j := (rfl)
theorem s_frz_bs {i off k n cap : Nat} : C.frz (.bs i off k n cap) = .any := (show C.frz (.bs i off k n cap) = .any from by rw [C.frz])
theorem s_dg_bs {i off k n cap : Nat} {id : Nat} : C.dg id (.bs i off k n cap) = .bs i off k n cap := (show C.dg id (.bs i off k n cap) = .bs i off k n cap from by rw [C.dg])
theorem s_sh_bs {i off k n cap : Nat} {m : Nat} : C.sh m (.bs i off k n cap) = .bs i off k n cap := (show C.sh m (.bs i off k n cap) = .bs i off k n cap from by rw [C.sh])
theorem s_fz_bs {i off k n cap : Nat} : C.fz bx (.bs i off k n cap) = .any := (show C.fz bx (.bs i off k n cap) = .any from by rw [C.fz])
theorem s_re_bs {i off k n cap : Nat} {fp fo : Nat → Option Nat} : C.re fp fo (.bs i off k n cap) = bsO (fp i) off k n cap := (show C.re fp fo (.bs i off k n cap) = bsO (fp i) off k n cap from by rw [C.re]; rfl)
theorem s_sel_bs {i off k n cap : Nat} {fp : Nat → Option Nat} : C.sel fp (.bs i off k n cap) = bsO (fp i) off k n cap := (show C.sel fp (.bs i off k n cap) = bsO (fp i) off k n cap from by rw [C.sel]; rfl)
theorem s_bsO1 {j off k n cap : Nat} : bsO (some j) off k n cap = .bs j off k n cap := (rfl)
theorem s_bsO0 {off k n cap : Nat} : bsO none off k n cap = .any := (rfl)
theorem s_cellB_bs {i off k n cap : Nat} : C.cellB (.bs i off k n cap) = true := (rfl)
theorem s_partB_bs {i off k n cap : Nat} : C.partB (.bs i off k n cap) = true := (rfl)
theorem s_cells_bs {i off k n cap : Nat} : C.cells (.bs i off k n cap) = [.bs i off k n cap] := (rfl)
theorem s_ia_r {rows : List (List C)} {n : Int} : baIAr (some rows) n K ⟨⟩ = baAt (rows[n.toNat]?) n K ⟨⟩ := (rfl)
theorem s_at {r : List C} {n : Int} : baAt (some r) n K ⟨⟩ = (0 ≤ n ∧ K (.row r)) := (rfl)
theorem s_ia_ap {L : Lay} {m j off : Nat} {n : Int} : baIAa (some L) (.ptr j off) m n K ⟨⟩ = (0 ≤ n ∧ n < ((m + 1 : Nat) : Int) ∧ K (.ptr j (off + n.toNat * L.size))) := (rfl)
theorem s_ia_ar {L : Lay} {m : Nat} {n : Int} {cs : List C} : baIAa (some L) (.row cs) m n K ⟨⟩ = (0 ≤ n ∧ n < ((m + 1 : Nat) : Int) ∧ K (.row (cs.drop (n.toNat * L.size)))) := (rfl)
theorem s_ix : baIndex P t c d K ⟨⟩ = baIx1 (lay P t) c d K ⟨⟩ := (rfl)
theorem s_ix1 {s b : Nat} {z1 : Option (List Value)} {l : List UInt8} {k : IntKind} {n : Int} : baIx1 (some ⟨.str, s, b, z1⟩) (.str l) (.sc (.int k n)) K ⟨⟩ = baByte (l[n.toNat]?) n K ⟨⟩ := (show aIx1 (some ⟨.str, s, b, z1⟩) (.str l) (.sc (.int k n)) K = aByte (l[n.toNat]?) n K from by unfold aIx1 aByte; simp)
theorem s_byte {b : UInt8} {n : Int} : baByte (some b) n K ⟨⟩ = (0 ≤ n ∧ K (.sc (.int .u8 (b.toNat : Int)))) := (rfl)
theorem s_sl {lo hi mx : Option C} : baSlice P t c lo hi mx K ⟨⟩ = baSl0 P t c (optI lo) (optI hi) (optI mx) K ⟨⟩ := (rfl)
theorem s_sl0 {lo hi mx : Option Int} : baSl0 P t c (some lo) (some hi) (some mx) K ⟨⟩ = baSl1 P (lay P t) c lo hi mx K ⟨⟩ := (rfl)
theorem s_opt_none : optI none = some none := (rfl)
theorem s_opt_int {k : IntKind} {n : Int} : optI (some (.sc (.int k n))) = some (some n) := (rfl)
theorem s_sl_str {s b : Nat} {z1 : Option (List Value)} {l : List UInt8} {lo hi : Option Int} : baSl1 P (some ⟨.str, s, b, z1⟩) (.str l) lo hi none K ⟨⟩ = (cutOk l.length lo hi ∧ K (.str (cut l lo hi))) := (rfl)
theorem s_sl_slice {e s b : Nat} {z1 : Option (List Value)} {lo hi mx : Option Int} : baSl1 P (some ⟨.slice e, s, b, z1⟩) c lo hi mx K ⟨⟩ = baSlS (lay P e) c lo hi mx K ⟨⟩ := (rfl)
theorem s_sl_r {rows : List (List C)} {k : Nat} {lo hi : Option Int} : baSlR (some rows) k lo hi none K ⟨⟩ = (cutOk rows.length lo hi ∧ K (.sl k (cut rows lo hi))) := (rfl)
theorem s_sl_t {rows : List (List C)} {k : Nat} {lo : Option Int} {h m : Int} : baSlR (some rows) k lo (some h) (some m) K ⟨⟩ = (m = h ∧ cutOk rows.length lo (some h) ∧ K (.tight k (cut rows lo (some h)))) := (rfl)
theorem s_cut_nn {α : Type} {l : List α} : cut l none none = l := (rfl)
theorem s_cut_sn {α : Type} {l : List α} {a : Int} : cut l (some a) none = l.drop a.toNat := (rfl)
theorem s_cut_ns {α : Type} {l : List α} {b : Int} : cut l none (some b) = l.take b.toNat := (rfl)
theorem s_cut_ss {α : Type} {l : List α} {a b : Int} : cut l (some a) (some b) = (l.take b.toNat).drop a.toNat := (rfl)
theorem s_cutOk_nn {n : Nat} : cutOk n none none = True := (rfl)
theorem s_cutOk_sn {n : Nat} {a : Int} : cutOk n (some a) none = (0 ≤ a ∧ a ≤ (n : Int)) := (rfl)
theorem s_cutOk_ns {n : Nat} {b : Int} : cutOk n none (some b) = (0 ≤ b ∧ b ≤ (n : Int)) := (rfl)
theorem s_cutOk_ss {n : Nat} {a b : Int} : cutOk n (some a) (some b) = (0 ≤ a ∧ a ≤ b ∧ b ≤ (n : Int)) := (rfl)
theorem s_rows_sl {k : Nat} {rows : List (List C)} : C.rows? k (.sl k rows) = some rows := (show C.rows? k (.sl k rows) = some rows from by simp [C.rows?])
theorem s_rows_tight {k : Nat} {rows : List (List C)} : C.rows? k (.tight k rows) = some rows := (show C.rows? k (.tight k rows) = some rows from by simp [C.rows?])
theorem s_rows_own {id e : Nat} {k : Nat} {rows : List (List C)} : C.rows? k (.own id e k rows) = some rows := (show C.rows? k (.own id e k rows) = some rows from by simp [C.rows?])
theorem s_rows_nil {k : Nat} : C.rows? k (.sc (.slice none 0 0)) = some [] := (rfl)
theorem s_conv : baConv P t t' c K ⟨⟩ = baCv1 P (lay P t') (lay P t) c K ⟨⟩ := (rfl)
theorem s_conv_int {k k0 : IntKind} {n : Int} {s b : Nat} {z1 : Option (List Value)} {L : Lay} : baCv1 P (some ⟨.int k, s, b, z1⟩) (some L) (.sc (.int k0 n)) K ⟨⟩ = (inR k n ∧ K (.sc (.int k n))) := (rfl)
theorem s_conv_str {s b s2 b2 : Nat} {z1 z2 : Option (List Value)} {l : List UInt8} : baCv1 P (some ⟨.str, s, b, z1⟩) (some ⟨.str, s2, b2, z2⟩) (.str l) K ⟨⟩ = K (.str l) := (rfl)
theorem s_conv_i {s b s2 b2 : Nat} {z1 z2 : Option (List Value)} {k k0 : IntKind} {n : Int} : baCv1 P (some ⟨.str, s, b, z1⟩) (some ⟨.int k, s2, b2, z2⟩) (.sc (.int k0 n)) K ⟨⟩ = K (.str (Utf8.encode n).data.toList) := (rfl)
theorem s_conv_b {e s b s2 b2 : Nat} {z1 z2 : Option (List Value)} : baCv1 P (some ⟨.str, s, b, z1⟩) (some ⟨.slice e, s2, b2, z2⟩) c K ⟨⟩ = baCvB (lay P e) c K ⟨⟩ := (rfl)
theorem s_conv_b1 {s b : Nat} {z1 : Option (List Value)} : baCvB (some ⟨.int .u8, s, b, z1⟩) c K ⟨⟩ = baBytes (c.rows? 1) K ⟨⟩ := (rfl)
theorem s_conv_s {e s b s2 b2 : Nat} {z1 z2 : Option (List Value)} {l : List UInt8} : baCv1 P (some ⟨.slice e, s, b, z1⟩) (some ⟨.str, s2, b2, z2⟩) (.str l) K ⟨⟩ = baCvS (lay P e) l K ⟨⟩ := (show aCv1 P (some ⟨.slice e, s, b, z1⟩) (some ⟨.str, s2, b2, z2⟩) (.str l) K = aCvS (lay P e) l K from by unfold aCv1 aCvS; simp; split <;> simp_all)
theorem s_conv_s1 {s b : Nat} {z1 : Option (List Value)} {l : List UInt8} : baCvS (some ⟨.int .u8, s, b, z1⟩) l K ⟨⟩ = (((l.length : Nat) : Int) ≤ 9223372036854775807 ∧ K (.sl 1 (bytesC l))) := (rfl)
theorem s_len_str {l : List UInt8} : baLen P t (.str l) K ⟨⟩ = baLenT (lay P t) (l.length : Int) K ⟨⟩ := (rfl)
theorem s_len_sl {k : Nat} {rows : List (List C)} : baLen P t (.sl k rows) K ⟨⟩ = baLenL (lay P t) (rows.length : Int) K ⟨⟩ := (rfl)
theorem s_len_tight {k : Nat} {rows : List (List C)} : baLen P t (.tight k rows) K ⟨⟩ = baLenL (lay P t) (rows.length : Int) K ⟨⟩ := (rfl)
theorem s_len_own {id e : Nat} {k : Nat} {rows : List (List C)} : baLen P t (.own id e k rows) K ⟨⟩ = baLenL (lay P t) (rows.length : Int) K ⟨⟩ := (rfl)
theorem s_len_nil : baLen P t (.sc (.slice none 0 0)) K ⟨⟩ = baLenL (lay P t) 0 K ⟨⟩ := (rfl)
theorem s_lenL {e s b : Nat} {z1 : Option (List Value)} {n : Int} : baLenL (some ⟨.slice e, s, b, z1⟩) n K ⟨⟩ = K (.sc (.int .i64 n)) := (rfl)
theorem s_lenT {s b : Nat} {z1 : Option (List Value)} {n : Int} : baLenT (some ⟨.str, s, b, z1⟩) n K ⟨⟩ = K (.sc (.int .i64 n)) := (rfl)
theorem s_build {ps : List (Nat × C)} : baBuild P t ps K ⟨⟩ = baBd1 (lay P t) ps K ⟨⟩ := (rfl)
theorem s_build1 {fs : List (Nat × Nat × Bool)} {s b : Nat} {z1 : List Value} {ps : List (Nat × C)} : baBd1 (some ⟨.struct fs, s, b, some z1⟩) ps K ⟨⟩ = ((ps.all fun p => p.2.partB) = true ∧ baFl (aFill (plS fs) (z1.map ofConst) ps) K ⟨⟩) := (show aBd1 (some ⟨.struct fs, s, b, some z1⟩) ps K = ((ps.all fun p => p.2.partB) = true ∧ aFl (aFill (plS fs) (z1.map ofConst) ps) K) from by unfold aBd1 aFl; simp only []; rfl)
theorem s_fl {cs : List C} : baFl (some cs) K ⟨⟩ = K (.agg cs) := (rfl)
theorem s_fill0 {place : Nat → Option (Nat × Nat)} {cs : List C} : aFill place cs [] = some cs := (rfl)
theorem s_fill {place : Nat → Option (Nat × Nat)} {cs : List C} {i : Nat} {rest : List (Nat × C)} : aFill place cs ((i, c) :: rest) = aFillP (place i) place cs c.cells rest := (rfl)
theorem s_fillP {place : Nat → Option (Nat × Nat)} {cs l : List C} {off size : Nat} {rest : List (Nat × C)} : aFillP (some (off, size)) place cs l rest = (if l.length = size ∧ off + size ≤ cs.length then aFill place (cs.take off ++ l ++ cs.drop (off + size)) rest else none) := (rfl)
theorem s_plS {fs : List (Nat × Nat × Bool)} {i : Nat} : plS fs i = (fs[i]?).map fun f => (f.1, f.2.1) := (rfl)
theorem s_plA {k i : Nat} : plA k i = some (i * k, k) := (rfl)
theorem s_bs {n : Nat} {ps : List (Nat × C)} : baBuildSlice P t n ps nx K2 ⟨⟩ = baBS1 P (lay P t) n ps nx K2 ⟨⟩ := (rfl)
theorem s_bs1 {e s b n : Nat} {z1 : Option (List Value)} {ps : List (Nat × C)} : baBS1 P (some ⟨.slice e, s, b, z1⟩) n ps nx K2 ⟨⟩ = baBS2 (lay P e) e n ps nx K2 ⟨⟩ := (rfl)
theorem s_bs2 {kd : LK} {k b e n : Nat} {z1 : List Value} {ps : List (Nat × C)} : baBS2 (some ⟨kd, k, b, some z1⟩) e n ps nx K2 ⟨⟩ = (z1.length = k ∧ 0 < k ∧ n * k ≤ 16777216 ∧ (ps.all fun p => p.2.frz.partB) = true ∧ baBS3 (aFill (plA k) (List.replicate n (z1.map ofConst)).flatten (ps.map fun p => (p.1, p.2.frz))) e k n nx K2 ⟨⟩) := (rfl)
theorem s_bs3 {cs : List C} {e k n : Nat} : baBS3 (some cs) e k n nx K2 ⟨⟩ = ((cs.all C.cellB) = true ∧ cs.length = n * k ∧ K2 (.own nx e k (aRows k n cs)) (nx + 1)) := (rfl)
theorem s_mkb : baMakeBox P t c d ⟨tm, bx, nx, lg⟩ K3 ⟨⟩ = baMkB1 P (lay P t) c d ⟨tm, bx, nx, lg⟩ K3 ⟨⟩ := (rfl)
theorem s_mkb1 {e s b : Nat} {z1 : Option (List Value)} {k k2 : IntKind} {l m : Int} : baMkB1 P (some ⟨.slice e, s, b, z1⟩) (.sc (.int k l)) (.sc (.int k2 m)) ⟨tm, bx, nx, lg⟩ K3 ⟨⟩ = baMkB2 (lay P e) l m ⟨tm, bx, nx, lg⟩ K3 ⟨⟩ := (rfl)
theorem s_mkb2 {kd : LK} {k b : Nat} {z1 : List Value} {l m : Int} : baMkB2 (some ⟨kd, k, b, some z1⟩) l m ⟨tm, bx, nx, lg⟩ K3 ⟨⟩ = (z1.length = k ∧ 0 < k ∧ (z1.all Value.oneCell') = true ∧ 0 ≤ l ∧ l ≤ m ∧ (b : Int) * m ≤ 281474976710656 ∧ m ≤ 9223372036854775807 ∧ K3 (.bs bx.length 0 k l.toNat m.toNat) ⟨tm, bx ++ [(List.replicate m.toNat (z1.map ofConst)).flatten], nx, lg⟩) := (rfl)
theorem s_mk : baMake P t c d nx K2 ⟨⟩ = baMk1 P (lay P t) c d nx K2 ⟨⟩ := (rfl)
theorem s_mk1 {e s b : Nat} {z1 : Option (List Value)} {k k2 : IntKind} {l m : Int} : baMk1 P (some ⟨.slice e, s, b, z1⟩) (.sc (.int k l)) (.sc (.int k2 m)) nx K2 ⟨⟩ = baMk2 (lay P e) e l m nx K2 ⟨⟩ := (rfl)
theorem s_mk2 {kd : LK} {k b e : Nat} {z1 : List Value} {l m : Int} : baMk2 (some ⟨kd, k, b, some z1⟩) e l m nx K2 ⟨⟩ = (z1.length = k ∧ 0 < k ∧ (z1.all Value.oneCell') = true ∧ 0 ≤ l ∧ l ≤ m ∧ (b : Int) * m ≤ 281474976710656 ∧ m ≤ 9223372036854775807 ∧ K2 (.own nx e k (List.replicate l.toNat (z1.map ofConst))) (nx + 1)) := (rfl)
theorem s_app_own {id e k : Nat} {rows : List (List C)} : baAppend P t (.own id e k rows) d ⟨tm, bx, nx, lg⟩ K3 ⟨⟩ = baAo1 P (lay P t) id e k rows d ⟨tm, bx, nx, lg⟩ K3 ⟨⟩ := (rfl)
theorem s_app_nil : baAppend P t (.sc (.slice none 0 0)) d ⟨tm, bx, nx, lg⟩ K3 ⟨⟩ = baAppNew P t (.sc (.slice none 0 0)) d nx (fun c nx' => K3 c ⟨tm, bx, nx', lg⟩) ⟨⟩ := (rfl)
theorem s_app_tight {k : Nat} {rows : List (List C)} : baAppend P t (.tight k rows) d ⟨tm, bx, nx, lg⟩ K3 ⟨⟩ = baAppNew P t (.tight k rows) d nx (fun c nx' => K3 c ⟨tm, bx, nx', lg⟩) ⟨⟩ := (rfl)
theorem s_appN : baAppNew P t c d nx K2 ⟨⟩ = baAp1 P (lay P t) c d nx K2 ⟨⟩ := (rfl)
theorem s_ap1 {e s b : Nat} {z1 : Option (List Value)} : baAp1 P (some ⟨.slice e, s, b, z1⟩) c d nx K2 ⟨⟩ = baAp2 (lay P e) e c d nx K2 ⟨⟩ := (rfl)
theorem s_ap2 {kd : LK} {k b e : Nat} {z1 : List Value} : baAp2 (some ⟨kd, k, b, some z1⟩) e c d nx K2 ⟨⟩ = baAp3 (d.rows? k) c e k b z1 nx K2 ⟨⟩ := (rfl)
theorem s_ap3n {k b e : Nat} {z1 : List Value} {xs : List (List C)} : baAp3 (some xs) (.sc (.slice none 0 0)) e k b z1 nx K2 ⟨⟩ = (z1.length = k ∧ 0 < k ∧ xs.length ≤ 9223372036854775807 ∧ xs.length * b ≤ 140737488355328 ∧ K2 (.own nx e k xs) (nx + 1)) := (rfl)
theorem s_ap3t {k k0 b e : Nat} {z1 : List Value} {xs rows : List (List C)} : baAp3 (some xs) (.tight k0 rows) e k b z1 nx K2 ⟨⟩ = (k0 = k ∧ z1.length = k ∧ 0 < k ∧ xs ≠ [] ∧ rows.length + xs.length ≤ 9223372036854775807 ∧ (rows.length + xs.length) * b ≤ 140737488355328 ∧ K2 (.own nx e k (rows ++ xs)) (nx + 1)) := (rfl)
theorem s_ao1 {e0 s b id e k : Nat} {z1 : Option (List Value)} {rows : List (List C)} : baAo1 P (some ⟨.slice e0, s, b, z1⟩) id e k rows c σ K3 ⟨⟩ = baAo2 (lay P e) e0 id e k rows c σ K3 ⟨⟩ := (rfl)
theorem s_ao2 {kd : LK} {k0 b e0 id e k : Nat} {z1 : List Value} {rows : List (List C)} : baAo2 (some ⟨kd, k0, b, some z1⟩) e0 id e k rows c σ K3 ⟨⟩ = (e0 = e ∧ k0 = k ∧ z1.length = k ∧ 0 < k ∧ baAo3 (c.rows? k) b id e k rows σ K3 ⟨⟩) := (show aAo2 (some ⟨kd, k0, b, some z1⟩) e0 id e k rows c σ K3 = (e0 = e ∧ k0 = k ∧ z1.length = k ∧ 0 < k ∧ aAo3 (c.rows? k) b id e k rows σ K3) from by unfold aAo2 aAo3; simp only []; cases c.rows? k <;> simp)
theorem s_ao3 {xs rows : List (List C)} {b id e k : Nat} : baAo3 (some xs) b id e k rows ⟨tm, bx, nx, lg⟩ K3 ⟨⟩ = (rows.length + xs.length ≤ 9223372036854775807 ∧ (rows.length + xs.length) * b ≤ 140737488355328 ∧ K3 (.own id e k (rows ++ xs)) ⟨dgTm id tm, dgBx id bx, nx, lg⟩) := (rfl)
theorem s_callV {f : FuncId} {fs cs args : List C} : baCallV P G h (.clo (.func f) fs cs) args ⟨tm, bx, nx, lg⟩ K3 ⟨⟩ ⟨⟩ = baCallC P G f (fs ++ args ++ cs) (C.frzL (fs ++ args ++ cs)) ⟨tm, bx, nx, lg⟩ K3 ⟨⟩ := (rfl)
theorem s_yield {l : Nat} {items : List (List C)} {sf : Nat → Bool} {args : List C} : baCallV P G ⟨p, some ⟨l, items, sf⟩, bf⟩ (.sc (.func (.yield l) #[] #[])) args ⟨tm, bx, nx, lg⟩ K3 ⟨⟩ ⟨⟩ = baYield1 ⟨l, items, sf⟩ (items[lg]?) args ⟨tm, bx, nx, lg⟩ K3 ⟨⟩ ⟨⟩ := (show aCallV P G ⟨p, some ⟨l, items, sf⟩, bf⟩ (.sc (.func (.yield l) #[] #[])) args ⟨tm, bx, nx, lg⟩ K3 = aYield1 ⟨l, items, sf⟩ (items[lg]?) args ⟨tm, bx, nx, lg⟩ K3 from by simp [aCallV, aYield])
theorem s_yield1 {l : Nat} {items : List (List C)} {sf : Nat → Bool} {args it : List C} : baYield1 ⟨l, items, sf⟩ (some it) args ⟨tm, bx, nx, lg⟩ K3 ⟨⟩ ⟨⟩ = (CLeL [] 0 args it ∧ (∀ j, j < lg → sf j = false) ∧ K3 (.sc (.bool (!sf lg))) ⟨tm, bx, nx, lg + 1⟩) := (rfl)
theorem s_nil_yield {l : Nat} : baNil (.sc (.func (.yield l) #[] #[])) K ⟨⟩ = K (.sc (.func (.yield l) #[] #[])) := (rfl)
theorem s_const_func {f : Fn} {a b : Array Value} : ofConst (.func f a b) = .sc (.func f a b) := (rfl)
theorem s_upBs {ι : List Nat} {j : Nat} : upB ι m j = match ι[j]? with | some i => some i | none => some (m + (j - ι.length)) := (rfl)
theorem s_upO {j : Nat} : upO nx j = some (nx + j) := (rfl)
theorem s_ix0 {i : Nat} : ixOf [] i = none := (rfl)
theorem s_ixc {x1 i : Nat} {r : List Nat} : ixOf (x1 :: r) i = if i = x1 then some 0 else (ixOf r i).map (· + 1) := (rfl)
theorem s_reTm0 {fp fo : Nat → Option Nat} : reTm fp fo [] = [] := (rfl)
theorem s_reTm {fp fo : Nat → Option Nat} {u : Nat} {r : List (Nat × C)} : reTm fp fo ((u, c) :: r) = (u, c.re fp fo) :: reTm fp fo r := (rfl)
theorem s_reBx0 {fp fo : Nat → Option Nat} : reBx fp fo [] = [] := (rfl)
theorem s_reBx {fp fo : Nat → Option Nat} {cs : List C} {r : List (List C)} : reBx fp fo (cs :: r) = C.reL fp fo cs :: reBx fp fo r := (rfl)
theorem s_putBx0 {l : List (List C)} : putBx [] l bx = bx := (rfl)
theorem s_putBx1 {i : Nat} {ι : List Nat} {cs : List C} {r : List (List C)} : putBx (i :: ι) (cs :: r) bx = putBx ι r (bx.set i cs) := (rfl)
theorem s_afterB {ι κ : List Nat} {n : Nat} : afterB ι κ bx' n ⟨tm, bx, nx, lg⟩ = ⟨reTm some (keepO κ) tm, putBx ι (reBx (upB ι bx.length) (upO nx) bx') (reBx some (keepO κ) bx) ++ reBx (upB ι bx.length) (upO nx) (bx'.drop ι.length), nx + n, lg⟩ := (rfl)
theorem s_keepO {κ : List Nat} {i : Nat} : keepO κ i = if i ∈ κ then none else some i := (rfl)
theorem s_fpKeep {i : Nat} : fpKeep m i = if i < m then some i else none := (rfl)
theorem s_fpDrop {i : Nat} : fpDrop m i = if i < m then none else some (i - m) := (rfl)
theorem s_callF {f : FuncId} {fs cs args : List C} : baCallF P G (.clo (.func f) fs cs) args nx K2 ⟨⟩ = baCallN P G f (C.frzL (fs ++ args ++ cs)) nx K2 ⟨⟩ := (rfl)
theorem s_al1 {kd : LK} {s b : Nat} {z1 : List Value} : baAl1 (some ⟨kd, s, b, some z1⟩) ⟨tm, bx, nx, lg⟩ K3 ⟨⟩ = ((z1.all Value.oneCell') = true ∧ K3 (.ptr bx.length 0) ⟨tm, bx ++ [z1.map ofConst], nx, lg⟩) := (rfl)
theorem s_box : baBox c ⟨tm, bx, nx, lg⟩ K3 ⟨⟩ = (c.partB = true ∧ (c.cells.all C.cellB) = true ∧ K3 (.ptr bx.length 0) ⟨tm, bx ++ [c.cells], nx, lg⟩) := (rfl)
theorem s_st1 {L : Lay} {i off : Nat} : baSt1 (some L) (.ptr i off) c ⟨tm, bx, nx, lg⟩ K3 ⟨⟩ = baSt2 (bx[i]?) i off L.size c ⟨tm, bx, nx, lg⟩ K3 ⟨⟩ := (rfl)
theorem s_st2 {cs : List C} {i off size : Nat} : baSt2 (some cs) i off size c ⟨tm, bx, nx, lg⟩ K3 ⟨⟩ = (c.partB = true ∧ (c.cells.all C.cellB) = true ∧ c.cells.length = size ∧ off + size ≤ cs.length ∧ K3 .any ⟨tm, bx.set i (cs.take off ++ c.cells ++ cs.drop (off + size)), nx, lg⟩) := (rfl)
theorem s_frz_sc {v : Value} : C.frz (.sc v) = .sc v := (show C.frz (.sc v) = .sc v from by rw [C.frz])
theorem s_dg_sc {v : Value} {id : Nat} : C.dg id (.sc v) = .sc v := (show C.dg id (.sc v) = .sc v from by rw [C.dg])
theorem s_sh_sc {v : Value} {n : Nat} : C.sh n (.sc v) = .sc v := (show C.sh n (.sc v) = .sc v from by rw [C.sh])
theorem s_frz_str {l : List UInt8} : C.frz (.str l) = .str l := (show C.frz (.str l) = .str l from by rw [C.frz])
theorem s_dg_str {l : List UInt8} {id : Nat} : C.dg id (.str l) = .str l := (show C.dg id (.str l) = .str l from by rw [C.dg])
theorem s_sh_str {l : List UInt8} {n : Nat} : C.sh n (.str l) = .str l := (show C.sh n (.str l) = .str l from by rw [C.sh])
theorem s_frz_sl {k : Nat} {rows : List (List C)} : C.frz (.sl k rows) = .sl k rows := (show C.frz (.sl k rows) = .sl k rows from by rw [C.frz])
theorem s_dg_sl {k : Nat} {rows : List (List C)} {id : Nat} : C.dg id (.sl k rows) = .sl k rows := (show C.dg id (.sl k rows) = .sl k rows from by rw [C.dg])
theorem s_sh_sl {k : Nat} {rows : List (List C)} {n : Nat} : C.sh n (.sl k rows) = .sl k rows := (show C.sh n (.sl k rows) = .sl k rows from by rw [C.sh])
theorem s_frz_tight {k : Nat} {rows : List (List C)} : C.frz (.tight k rows) = .tight k rows := (show C.frz (.tight k rows) = .tight k rows from by rw [C.frz])
theorem s_dg_tight {k : Nat} {rows : List (List C)} {id : Nat} : C.dg id (.tight k rows) = .tight k rows := (show C.dg id (.tight k rows) = .tight k rows from by rw [C.dg])
theorem s_sh_tight {k : Nat} {rows : List (List C)} {n : Nat} : C.sh n (.tight k rows) = .tight k rows := (show C.sh n (.tight k rows) = .tight k rows from by rw [C.sh])
theorem s_frz_row {cs : List C} : C.frz (.row cs) = .row cs := (show C.frz (.row cs) = .row cs from by rw [C.frz])
theorem s_dg_row {cs : List C} {id : Nat} : C.dg id (.row cs) = .row cs := (show C.dg id (.row cs) = .row cs from by rw [C.dg])
theorem s_sh_row {cs : List C} {n : Nat} : C.sh n (.row cs) = .row cs := (show C.sh n (.row cs) = .row cs from by rw [C.sh])
theorem s_frz_any : C.frz (.any) = .any := (show C.frz (.any) = .any from by rw [C.frz])
theorem s_dg_any {id : Nat} : C.dg id (.any) = .any := (show C.dg id (.any) = .any from by rw [C.dg])
theorem s_sh_any {n : Nat} : C.sh n (.any) = .any := (show C.sh n (.any) = .any from by rw [C.sh])
theorem s_frz_mo {i : Nat} {t2 : TypeId} {ks : MK} {vs : List C} : C.frz (.mo i t2 ks vs) = .any := (show C.frz (.mo i t2 ks vs) = .any from by rw [C.frz])
theorem s_dg_mo {i : Nat} {t2 : TypeId} {ks : MK} {vs : List C} {id : Nat} : C.dg id (.mo i t2 ks vs) = if i = id then .any else .mo i t2 ks vs := (show C.dg id (.mo i t2 ks vs) = if i = id then .any else .mo i t2 ks vs from by rw [C.dg])
theorem s_sh_mo {i : Nat} {t2 : TypeId} {ks : MK} {vs : List C} {n : Nat} : C.sh n (.mo i t2 ks vs) = .mo (n + i) t2 ks vs := (show C.sh n (.mo i t2 ks vs) = .mo (n + i) t2 ks vs from by rw [C.sh])
theorem s_re_mo {i : Nat} {t2 : TypeId} {ks : MK} {vs : List C} {fp fo : Nat → Option Nat} : C.re fp fo (.mo i t2 ks vs) = moO (fo i) t2 ks vs := (show C.re fp fo (.mo i t2 ks vs) = moO (fo i) t2 ks vs from by rw [C.re]; rfl)
theorem s_moO1 {j : Nat} {t2 : TypeId} {ks : MK} {vs : List C} : moO (some j) t2 ks vs = .mo j t2 ks vs := (rfl)
theorem s_moO0 {t2 : TypeId} {ks : MK} {vs : List C} : moO none t2 ks vs = .any := (rfl)
theorem s_sel_mo {i : Nat} {t2 : TypeId} {ks : MK} {vs : List C} {fp : Nat → Option Nat} : C.sel fp (.mo i t2 ks vs) = .any := (show C.sel fp (.mo i t2 ks vs) = .any from by rw [C.sel])
theorem s_fz_mo {i : Nat} {t2 : TypeId} {ks : MK} {vs : List C} : C.fz bx (.mo i t2 ks vs) = .mo i t2 ks vs := (show C.fz bx (.mo i t2 ks vs) = .mo i t2 ks vs from by rw [C.fz])
theorem s_fy_mo {i : Nat} {t2 : TypeId} {ks : MK} {vs : List C} {fr : Fr} : C.fy nx fr bx (.mo i t2 ks vs) = .mo i t2 ks vs := (show C.fy nx fr bx (.mo i t2 ks vs) = .mo i t2 ks vs from by rw [C.fy])
theorem s_cellB_mo {i : Nat} {t2 : TypeId} {ks : MK} {vs : List C} : C.cellB (.mo i t2 ks vs) = true := (rfl)
theorem s_partB_mo {i : Nat} {t2 : TypeId} {ks : MK} {vs : List C} : C.partB (.mo i t2 ks vs) = true := (rfl)
theorem s_cells_mo {i : Nat} {t2 : TypeId} {ks : MK} {vs : List C} : C.cells (.mo i t2 ks vs) = [.mo i t2 ks vs] := (rfl)
theorem s_up_sc {v : Value} {id : Nat} {ks1 : MK} {vs1 : List C} : C.up id ks1 vs1 (.sc v) = .sc v := (show C.up id ks1 vs1 (.sc v) = .sc v from by rw [C.up])
theorem s_up_str {l : List UInt8} {id : Nat} {ks1 : MK} {vs1 : List C} : C.up id ks1 vs1 (.str l) = .str l := (show C.up id ks1 vs1 (.str l) = .str l from by rw [C.up])
theorem s_up_sl {k : Nat} {rows : List (List C)} {id : Nat} {ks1 : MK} {vs1 : List C} : C.up id ks1 vs1 (.sl k rows) = .sl k rows := (show C.up id ks1 vs1 (.sl k rows) = .sl k rows from by rw [C.up])
theorem s_up_tight {k : Nat} {rows : List (List C)} {id : Nat} {ks1 : MK} {vs1 : List C} : C.up id ks1 vs1 (.tight k rows) = .tight k rows := (show C.up id ks1 vs1 (.tight k rows) = .tight k rows from by rw [C.up])
theorem s_up_row {cs : List C} {id : Nat} {ks1 : MK} {vs1 : List C} : C.up id ks1 vs1 (.row cs) = .row cs := (show C.up id ks1 vs1 (.row cs) = .row cs from by rw [C.up])
theorem s_up_any {id : Nat} {ks1 : MK} {vs1 : List C} : C.up id ks1 vs1 (.any) = .any := (show C.up id ks1 vs1 (.any) = .any from by rw [C.up])
theorem s_up_ptr {i off : Nat} {id : Nat} {ks1 : MK} {vs1 : List C} : C.up id ks1 vs1 (.ptr i off) = .ptr i off := (show C.up id ks1 vs1 (.ptr i off) = .ptr i off from by rw [C.up])
theorem s_up_bs {i off k n cap : Nat} {id : Nat} {ks1 : MK} {vs1 : List C} : C.up id ks1 vs1 (.bs i off k n cap) = .bs i off k n cap := (show C.up id ks1 vs1 (.bs i off k n cap) = .bs i off k n cap from by rw [C.up])
theorem s_up_own {i e k : Nat} {rows : List (List C)} {id : Nat} {ks1 : MK} {vs1 : List C} : C.up id ks1 vs1 (.own i e k rows) = if i = id then .any else .own i e k rows := (show C.up id ks1 vs1 (.own i e k rows) = if i = id then .any else .own i e k rows from by rw [C.up])
theorem s_up_mo {i : Nat} {t2 : TypeId} {ks : MK} {vs : List C} {id : Nat} {ks1 : MK} {vs1 : List C} : C.up id ks1 vs1 (.mo i t2 ks vs) = if i = id then .mo i t2 ks1 vs1 else .mo i t2 ks vs := (show C.up id ks1 vs1 (.mo i t2 ks vs) = if i = id then .mo i t2 ks1 vs1 else .mo i t2 ks vs from by rw [C.up])
theorem s_up_agg {cs : List C} {id : Nat} {ks1 : MK} {vs1 : List C} : C.up id ks1 vs1 (.agg cs) = .agg (C.upL id ks1 vs1 cs) := (show C.up id ks1 vs1 (.agg cs) = .agg (C.upL id ks1 vs1 cs) from by rw [C.up])
theorem s_up_tup {cs : List C} {id : Nat} {ks1 : MK} {vs1 : List C} : C.up id ks1 vs1 (.tup cs) = .tup (C.upL id ks1 vs1 cs) := (show C.up id ks1 vs1 (.tup cs) = .tup (C.upL id ks1 vs1 cs) from by rw [C.up])
theorem s_up_clo {fn : Fn} {fs cs : List C} {id : Nat} {ks1 : MK} {vs1 : List C} : C.up id ks1 vs1 (.clo fn fs cs) = .clo fn (C.upL id ks1 vs1 fs) (C.upL id ks1 vs1 cs) := (show C.up id ks1 vs1 (.clo fn fs cs) = .clo fn (C.upL id ks1 vs1 fs) (C.upL id ks1 vs1 cs) from by rw [C.up])
theorem s_upL_nil {id : Nat} {ks1 : MK} {vs1 : List C} : C.upL id ks1 vs1 [] = [] := (show C.upL id ks1 vs1 [] = [] from by rw [C.upL])
theorem s_upL_cons {r : List C} {id : Nat} {ks1 : MK} {vs1 : List C} : C.upL id ks1 vs1 (c :: r) = c.up id ks1 vs1 :: C.upL id ks1 vs1 r := (show C.upL id ks1 vs1 (c :: r) = c.up id ks1 vs1 :: C.upL id ks1 vs1 r from by rw [C.upL])
theorem s_upTm_nil {id : Nat} {ks1 : MK} {vs1 : List C} : upTm id ks1 vs1 [] = [] := (rfl)
theorem s_upTm {u : Nat} {r : List (Nat × C)} {id : Nat} {ks1 : MK} {vs1 : List C} : upTm id ks1 vs1 ((u, c) :: r) = (u, c.up id ks1 vs1) :: upTm id ks1 vs1 r := (rfl)
theorem s_upBx_nil {id : Nat} {ks1 : MK} {vs1 : List C} : upBx id ks1 vs1 [] = [] := (rfl)
theorem s_upBx {cs : List C} {r : List (List C)} {id : Nat} {ks1 : MK} {vs1 : List C} : upBx id ks1 vs1 (cs :: r) = C.upL id ks1 vs1 cs :: upBx id ks1 vs1 r := (rfl)
theorem s_frz_own {id e k : Nat} {rows : List (List C)} : C.frz (.own id e k rows) = .sl k rows := (show C.frz (.own id e k rows) = .sl k rows from by rw [C.frz])
theorem s_frz_ptr {i off : Nat} : C.frz (.ptr i off) = .any := (show C.frz (.ptr i off) = .any from by rw [C.frz])
theorem s_dg_ptr {id i off : Nat} : C.dg id (.ptr i off) = .ptr i off := (show C.dg id (.ptr i off) = .ptr i off from by rw [C.dg])
theorem s_sh_ptr {n i off : Nat} : C.sh n (.ptr i off) = .ptr i off := (show C.sh n (.ptr i off) = .ptr i off from by rw [C.sh])
theorem s_dg_own {id i e k : Nat} {rows : List (List C)} : C.dg id (.own i e k rows) = if i = id then .sl k rows else .own i e k rows := (show C.dg id (.own i e k rows) = if i = id then .sl k rows else .own i e k rows from by rw [C.dg])
theorem s_sh_own {n i e k : Nat} {rows : List (List C)} : C.sh n (.own i e k rows) = .own (n + i) e k rows := (show C.sh n (.own i e k rows) = .own (n + i) e k rows from by rw [C.sh])
theorem s_re_sc {v : Value} {fp fo : Nat → Option Nat} : C.re fp fo (.sc v) = .sc v := (show C.re fp fo (.sc v) = .sc v from by rw [C.re])
theorem s_sel_sc {v : Value} {fp : Nat → Option Nat} : C.sel fp (.sc v) = .sc v := (show C.sel fp (.sc v) = .sc v from by rw [C.sel])
theorem s_re_str {l : List UInt8} {fp fo : Nat → Option Nat} : C.re fp fo (.str l) = .str l := (show C.re fp fo (.str l) = .str l from by rw [C.re])
theorem s_sel_str {l : List UInt8} {fp : Nat → Option Nat} : C.sel fp (.str l) = .str l := (show C.sel fp (.str l) = .str l from by rw [C.sel])
theorem s_re_sl {k : Nat} {rows : List (List C)} {fp fo : Nat → Option Nat} : C.re fp fo (.sl k rows) = .sl k rows := (show C.re fp fo (.sl k rows) = .sl k rows from by rw [C.re])
theorem s_sel_sl {k : Nat} {rows : List (List C)} {fp : Nat → Option Nat} : C.sel fp (.sl k rows) = .sl k rows := (show C.sel fp (.sl k rows) = .sl k rows from by rw [C.sel])
theorem s_re_tight {k : Nat} {rows : List (List C)} {fp fo : Nat → Option Nat} : C.re fp fo (.tight k rows) = .tight k rows := (show C.re fp fo (.tight k rows) = .tight k rows from by rw [C.re])
theorem s_sel_tight {k : Nat} {rows : List (List C)} {fp : Nat → Option Nat} : C.sel fp (.tight k rows) = .tight k rows := (show C.sel fp (.tight k rows) = .tight k rows from by rw [C.sel])
theorem s_re_row {cs : List C} {fp fo : Nat → Option Nat} : C.re fp fo (.row cs) = .row cs := (show C.re fp fo (.row cs) = .row cs from by rw [C.re])
theorem s_sel_row {cs : List C} {fp : Nat → Option Nat} : C.sel fp (.row cs) = .row cs := (show C.sel fp (.row cs) = .row cs from by rw [C.sel])
theorem s_re_any {fp fo : Nat → Option Nat} : C.re fp fo (.any) = .any := (show C.re fp fo (.any) = .any from by rw [C.re])
theorem s_sel_any {fp : Nat → Option Nat} : C.sel fp (.any) = .any := (show C.sel fp (.any) = .any from by rw [C.sel])
theorem s_fz_sc {v : Value} : C.fz bx (.sc v) = .sc v := (show C.fz bx (.sc v) = .sc v from by rw [C.fz])
theorem s_fz_str {l : List UInt8} : C.fz bx (.str l) = .str l := (show C.fz bx (.str l) = .str l from by rw [C.fz])
theorem s_fz_sl {k : Nat} {rows : List (List C)} : C.fz bx (.sl k rows) = .sl k rows := (show C.fz bx (.sl k rows) = .sl k rows from by rw [C.fz])
theorem s_fz_tight {k : Nat} {rows : List (List C)} : C.fz bx (.tight k rows) = .tight k rows := (show C.fz bx (.tight k rows) = .tight k rows from by rw [C.fz])
theorem s_fz_own {id e k : Nat} {rows : List (List C)} : C.fz bx (.own id e k rows) = .own id e k rows := (show C.fz bx (.own id e k rows) = .own id e k rows from by rw [C.fz])
theorem s_fz_row {cs : List C} : C.fz bx (.row cs) = .row cs := (show C.fz bx (.row cs) = .row cs from by rw [C.fz])
theorem s_fz_any : C.fz bx (.any) = .any := (show C.fz bx (.any) = .any from by rw [C.fz])
theorem s_fz_ptr {i off : Nat} : C.fz bx (.ptr i off) = rowO (bx[i]?) off := (show C.fz bx (.ptr i off) = rowO (bx[i]?) off from by rw [C.fz]; rfl)
theorem s_rowO1 {off : Nat} {cs : List C} : rowO (some cs) off = .row ((C.frzL cs).drop off) := (rfl)
theorem s_rowO0 {off : Nat} : rowO none off = .any := (rfl)
theorem s_one_func {f : Fn} {a b : Array Value} : Value.oneCell' (.func f a b) = true := (rfl)
theorem s_re_own {id e k : Nat} {rows : List (List C)} {fp fo : Nat → Option Nat} : C.re fp fo (.own id e k rows) = ownO (fo id) e k rows := (show C.re fp fo (.own id e k rows) = ownO (fo id) e k rows from by rw [C.re]; rfl)
theorem s_re_ptr {i off : Nat} {fp fo : Nat → Option Nat} : C.re fp fo (.ptr i off) = ptrO (fp i) off := (show C.re fp fo (.ptr i off) = ptrO (fp i) off from by rw [C.re]; rfl)
theorem s_sel_own {id e k : Nat} {rows : List (List C)} {fp : Nat → Option Nat} : C.sel fp (.own id e k rows) = .sl k rows := (show C.sel fp (.own id e k rows) = .sl k rows from by rw [C.sel])
theorem s_sel_ptr {i off : Nat} {fp : Nat → Option Nat} : C.sel fp (.ptr i off) = ptrO (fp i) off := (show C.sel fp (.ptr i off) = ptrO (fp i) off from by rw [C.sel]; rfl)
theorem s_ownO1 {j e k : Nat} {rows : List (List C)} : ownO (some j) e k rows = .own j e k rows := (rfl)
theorem s_ownO0 {e k : Nat} {rows : List (List C)} : ownO none e k rows = .sl k rows := (rfl)
theorem s_ptrO1 {j off : Nat} : ptrO (some j) off = .ptr j off := (rfl)
theorem s_ptrO0 {off : Nat} : ptrO none off = .any := (rfl)
theorem s_fy_sc {v : Value} {fr : Fr} : C.fy nx fr bx (.sc v) = .sc v := (show C.fy nx fr bx (.sc v) = .sc v from by rw [C.fy])
theorem s_fy_str {l : List UInt8} {fr : Fr} : C.fy nx fr bx (.str l) = .str l := (show C.fy nx fr bx (.str l) = .str l from by rw [C.fy])
theorem s_fy_sl {k : Nat} {rows : List (List C)} {fr : Fr} : C.fy nx fr bx (.sl k rows) = .sl k rows := (show C.fy nx fr bx (.sl k rows) = .sl k rows from by rw [C.fy])
theorem s_fy_tight {k : Nat} {rows : List (List C)} {fr : Fr} : C.fy nx fr bx (.tight k rows) = .tight k rows := (show C.fy nx fr bx (.tight k rows) = .tight k rows from by rw [C.fy])
theorem s_fy_own {id e k : Nat} {rows : List (List C)} {fr : Fr} : C.fy nx fr bx (.own id e k rows) = .own id e k rows := (show C.fy nx fr bx (.own id e k rows) = .own id e k rows from by rw [C.fy])
theorem s_fy_row {cs : List C} {fr : Fr} : C.fy nx fr bx (.row cs) = .row cs := (show C.fy nx fr bx (.row cs) = .row cs from by rw [C.fy])
theorem s_fy_any {fr : Fr} : C.fy nx fr bx (.any) = .any := (show C.fy nx fr bx (.any) = .any from by rw [C.fy])
theorem s_fy_ptr {i off : Nat} {fr : Fr} : C.fy nx fr bx (.ptr i off) = if i ∈ fr.map (·.1) then .any else C.fz bx (.ptr i off) := (show C.fy nx fr bx (.ptr i off) = if i ∈ fr.map (·.1) then .any else C.fz bx (.ptr i off) from by rw [C.fy])
theorem s_fy_bs {i off k n cap : Nat} {fr : Fr} : C.fy nx fr bx (.bs i off k n cap) = frGet nx fr i off k n cap := (show C.fy nx fr bx (.bs i off k n cap) = frGet nx fr i off k n cap from by rw [C.fy])
theorem s_frGet0 {i off k n cap : Nat} : frGet nx [] i off k n cap = .any := (rfl)
theorem s_frGet1 {i off k n cap i2 e k2 cap2 : Nat} {rows : List (List C)} {r : Fr} : frGet nx ((i2, e, k2, rows, cap2) :: r) i off k n cap = if i = i2 ∧ off = 0 ∧ k = k2 ∧ n = rows.length ∧ cap = cap2 then .own nx e k2 rows else frGet (nx + 1) r i off k n cap := (show frGet nx ((i2, e, k2, rows, cap2) :: r) i off k n cap = if i = i2 ∧ off = 0 ∧ k = k2 ∧ n = rows.length ∧ cap = cap2 then .own nx e k2 rows else frGet (nx + 1) r i off k n cap from by rw [frGet])
theorem s_re_agg {cs : List C} {fp fo : Nat → Option Nat} : C.re fp fo (.agg cs) = .agg (C.reL fp fo cs) := (show C.re fp fo (.agg cs) = .agg (C.reL fp fo cs) from by rw [C.re])
theorem s_re_tup {cs : List C} {fp fo : Nat → Option Nat} : C.re fp fo (.tup cs) = .tup (C.reL fp fo cs) := (show C.re fp fo (.tup cs) = .tup (C.reL fp fo cs) from by rw [C.re])
theorem s_re_clo {fn : Fn} {fs cs : List C} {fp fo : Nat → Option Nat} : C.re fp fo (.clo fn fs cs) = .clo fn (C.reL fp fo fs) (C.reL fp fo cs) := (show C.re fp fo (.clo fn fs cs) = .clo fn (C.reL fp fo fs) (C.reL fp fo cs) from by rw [C.re])
theorem s_reL_nil {fp fo : Nat → Option Nat} : C.reL fp fo [] = [] := (show C.reL fp fo [] = [] from by rw [C.reL])
theorem s_reL_cons {r : List C} {fp fo : Nat → Option Nat} : C.reL fp fo (c :: r) = C.re fp fo c :: C.reL fp fo r := (show C.reL fp fo (c :: r) = C.re fp fo c :: C.reL fp fo r from by rw [C.reL])
theorem s_sel_agg {cs : List C} {fp : Nat → Option Nat} : C.sel fp (.agg cs) = .agg (C.selL fp cs) := (show C.sel fp (.agg cs) = .agg (C.selL fp cs) from by rw [C.sel])
theorem s_sel_tup {cs : List C} {fp : Nat → Option Nat} : C.sel fp (.tup cs) = .tup (C.selL fp cs) := (show C.sel fp (.tup cs) = .tup (C.selL fp cs) from by rw [C.sel])
theorem s_sel_clo {fn : Fn} {fs cs : List C} {fp : Nat → Option Nat} : C.sel fp (.clo fn fs cs) = .clo fn (C.selL fp fs) (C.selL fp cs) := (show C.sel fp (.clo fn fs cs) = .clo fn (C.selL fp fs) (C.selL fp cs) from by rw [C.sel])
theorem s_selL_nil {fp : Nat → Option Nat} : C.selL fp [] = [] := (show C.selL fp [] = [] from by rw [C.selL])
theorem s_selL_cons {r : List C} {fp : Nat → Option Nat} : C.selL fp (c :: r) = C.sel fp c :: C.selL fp r := (show C.selL fp (c :: r) = C.sel fp c :: C.selL fp r from by rw [C.selL])
theorem s_fz_agg {cs : List C}  : C.fz bx (.agg cs) = .agg (C.fzL bx cs) := (show C.fz bx (.agg cs) = .agg (C.fzL bx cs) from by rw [C.fz])
theorem s_fz_tup {cs : List C}  : C.fz bx (.tup cs) = .tup (C.fzL bx cs) := (show C.fz bx (.tup cs) = .tup (C.fzL bx cs) from by rw [C.fz])
theorem s_fz_clo {fn : Fn} {fs cs : List C}  : C.fz bx (.clo fn fs cs) = .clo fn (C.fzL bx fs) (C.fzL bx cs) := (show C.fz bx (.clo fn fs cs) = .clo fn (C.fzL bx fs) (C.fzL bx cs) from by rw [C.fz])
theorem s_fzL_nil : C.fzL bx [] = [] := (show C.fzL bx [] = [] from by rw [C.fzL])
theorem s_fzL_cons {r : List C}  : C.fzL bx (c :: r) = C.fz bx c :: C.fzL bx r := (show C.fzL bx (c :: r) = C.fz bx c :: C.fzL bx r from by rw [C.fzL])
theorem s_fy_agg {cs : List C} {fr : Fr} : C.fy nx fr bx (.agg cs) = .agg (C.fyL nx fr bx cs) := (show C.fy nx fr bx (.agg cs) = .agg (C.fyL nx fr bx cs) from by rw [C.fy])
theorem s_fy_tup {cs : List C} {fr : Fr} : C.fy nx fr bx (.tup cs) = .tup (C.fyL nx fr bx cs) := (show C.fy nx fr bx (.tup cs) = .tup (C.fyL nx fr bx cs) from by rw [C.fy])
theorem s_fy_clo {fn : Fn} {fs cs : List C} {fr : Fr} : C.fy nx fr bx (.clo fn fs cs) = .clo fn (C.fyL nx fr bx fs) (C.fyL nx fr bx cs) := (show C.fy nx fr bx (.clo fn fs cs) = .clo fn (C.fyL nx fr bx fs) (C.fyL nx fr bx cs) from by rw [C.fy])
theorem s_fyL_nil {fr : Fr} : C.fyL nx fr bx [] = [] := (show C.fyL nx fr bx [] = [] from by rw [C.fyL])
theorem s_fyL_cons {r : List C} {fr : Fr} : C.fyL nx fr bx (c :: r) = C.fy nx fr bx c :: C.fyL nx fr bx r := (show C.fyL nx fr bx (c :: r) = C.fy nx fr bx c :: C.fyL nx fr bx r from by rw [C.fyL])
theorem s_frz_agg {cs : List C} : C.frz (.agg cs) = .agg (C.frzL cs) := (show C.frz (.agg cs) = .agg (C.frzL cs) from by rw [C.frz])
theorem s_frz_tup {cs : List C} : C.frz (.tup cs) = .tup (C.frzL cs) := (show C.frz (.tup cs) = .tup (C.frzL cs) from by rw [C.frz])
theorem s_frz_clo {fn : Fn} {fs cs : List C} : C.frz (.clo fn fs cs) = .clo fn (C.frzL fs) (C.frzL cs) := (show C.frz (.clo fn fs cs) = .clo fn (C.frzL fs) (C.frzL cs) from by rw [C.frz])
theorem s_frzL_nil : C.frzL [] = [] := (show C.frzL [] = [] from by rw [C.frzL])
theorem s_frzL_cons {r : List C} : C.frzL (c :: r) = C.frz c :: C.frzL r := (show C.frzL (c :: r) = C.frz c :: C.frzL r from by rw [C.frzL])
theorem s_dg_agg {cs : List C} {id : Nat} : C.dg id (.agg cs) = .agg (C.dgL id cs) := (show C.dg id (.agg cs) = .agg (C.dgL id cs) from by rw [C.dg])
theorem s_dg_tup {cs : List C} {id : Nat} : C.dg id (.tup cs) = .tup (C.dgL id cs) := (show C.dg id (.tup cs) = .tup (C.dgL id cs) from by rw [C.dg])
theorem s_dg_clo {fn : Fn} {fs cs : List C} {id : Nat} : C.dg id (.clo fn fs cs) = .clo fn (C.dgL id fs) (C.dgL id cs) := (show C.dg id (.clo fn fs cs) = .clo fn (C.dgL id fs) (C.dgL id cs) from by rw [C.dg])
theorem s_dgL_nil {id : Nat} : C.dgL id [] = [] := (show C.dgL id [] = [] from by rw [C.dgL])
theorem s_dgL_cons {r : List C} {id : Nat} : C.dgL id (c :: r) = C.dg id c :: C.dgL id r := (show C.dgL id (c :: r) = C.dg id c :: C.dgL id r from by rw [C.dgL])
theorem s_sh_agg {cs : List C} {n : Nat} : C.sh n (.agg cs) = .agg (C.shL n cs) := (show C.sh n (.agg cs) = .agg (C.shL n cs) from by rw [C.sh])
theorem s_sh_tup {cs : List C} {n : Nat} : C.sh n (.tup cs) = .tup (C.shL n cs) := (show C.sh n (.tup cs) = .tup (C.shL n cs) from by rw [C.sh])
theorem s_sh_clo {fn : Fn} {fs cs : List C} {n : Nat} : C.sh n (.clo fn fs cs) = .clo fn (C.shL n fs) (C.shL n cs) := (show C.sh n (.clo fn fs cs) = .clo fn (C.shL n fs) (C.shL n cs) from by rw [C.sh])
theorem s_shL_nil {n : Nat} : C.shL n [] = [] := (show C.shL n [] = [] from by rw [C.shL])
theorem s_shL_cons {r : List C} {n : Nat} : C.shL n (c :: r) = C.sh n c :: C.shL n r := (show C.shL n (c :: r) = C.sh n c :: C.shL n r from by rw [C.shL])
theorem s_dgTm_nil {id : Nat} : dgTm id [] = [] := (rfl)
theorem s_dgTm {id u : Nat} {r : List (Nat × C)} : dgTm id ((u, c) :: r) = (u, c.dg id) :: dgTm id r := (rfl)
theorem s_dgBx_nil {id : Nat} : dgBx id [] = [] := (rfl)
theorem s_dgBx {id : Nat} {cs : List C} {r : List (List C)} : dgBx id (cs :: r) = C.dgL id cs :: dgBx id r := (rfl)
theorem s_cellB_str {l : List UInt8} : C.cellB (.str l) = true := (rfl)
theorem s_partB_str {l : List UInt8} : C.partB (.str l) = true := (rfl)
theorem s_cells_str {l : List UInt8} : C.cells (.str l) = [.str l] := (rfl)
theorem s_cellB_sl {k : Nat} {rows : List (List C)} : C.cellB (.sl k rows) = true := (rfl)
theorem s_partB_sl {k : Nat} {rows : List (List C)} : C.partB (.sl k rows) = true := (rfl)
theorem s_cells_sl {k : Nat} {rows : List (List C)} : C.cells (.sl k rows) = [.sl k rows] := (rfl)
theorem s_cellB_tight {k : Nat} {rows : List (List C)} : C.cellB (.tight k rows) = true := (rfl)
theorem s_partB_tight {k : Nat} {rows : List (List C)} : C.partB (.tight k rows) = true := (rfl)
theorem s_cells_tight {k : Nat} {rows : List (List C)} : C.cells (.tight k rows) = [.tight k rows] := (rfl)
theorem s_cellB_own {id e k : Nat} {rows : List (List C)} : C.cellB (.own id e k rows) = true := (rfl)
theorem s_partB_own {id e k : Nat} {rows : List (List C)} : C.partB (.own id e k rows) = true := (rfl)
theorem s_cells_own {id e k : Nat} {rows : List (List C)} : C.cells (.own id e k rows) = [.own id e k rows] := (rfl)
theorem s_cellB_ptr {i off : Nat} : C.cellB (.ptr i off) = true := (rfl)
theorem s_partB_ptr {i off : Nat} : C.partB (.ptr i off) = true := (rfl)
theorem s_cells_ptr {i off : Nat} : C.cells (.ptr i off) = [.ptr i off] := (rfl)
theorem s_cellB_row {cs : List C} : C.cellB (.row cs) = true := (rfl)
theorem s_partB_row {cs : List C} : C.partB (.row cs) = true := (rfl)
theorem s_cells_row {cs : List C} : C.cells (.row cs) = [.row cs] := (rfl)
theorem s_cellB_clo {fn : Fn} {fs cs : List C} : C.cellB (.clo fn fs cs) = true := (rfl)
theorem s_partB_clo {fn : Fn} {fs cs : List C} : C.partB (.clo fn fs cs) = true := (rfl)
theorem s_cells_clo {fn : Fn} {fs cs : List C} : C.cells (.clo fn fs cs) = [.clo fn fs cs] := (rfl)
theorem s_cellB_sc {v : Value} : C.cellB (.sc v) = v.oneCell' := (rfl)
theorem s_partB_sc {v : Value} : C.partB (.sc v) = v.oneCell' := (rfl)
theorem s_cells_sc {v : Value} : C.cells (.sc v) = [.sc v] := (rfl)
theorem s_partB_agg {cs : List C} : C.partB (.agg cs) = true := (rfl)
theorem s_cells_agg {cs : List C} : C.cells (.agg cs) = cs := (rfl)
theorem s_one_int {k : IntKind} {n : Int} : Value.oneCell' (.int k n) = true := (rfl)
theorem s_one_bool {b : Bool} : Value.oneCell' (.bool b) = true := (rfl)
theorem s_one_slice {a : Option Addr} {n m : Nat} : Value.oneCell' (.slice a n m) = true := (rfl)
theorem s_one_ptr {a : Option Addr} : Value.oneCell' (.pointer a) = true := (rfl)
theorem s_one_string {s : ByteArray} : Value.oneCell' (.string s) = true := (rfl)
theorem s_one_nilf : Value.oneCell' (.nilFunc) = true := (rfl)
theorem s_one_nili : Value.oneCell' (.nilIface) = true := (rfl)
theorem s_one_map {a : Option Nat} : Value.oneCell' (.map a) = true := (rfl)
theorem s_rows0 {k : Nat} {cs : List C} : aRows k 0 cs = [] := (rfl)
theorem s_rows1 {k n : Nat} {cs : List C} : aRows k (n + 1) cs = cs.take k :: aRows k n (cs.drop k) := (rfl)
theorem s_tmOf0 {i : Nat} : tmOf i [] = [] := (rfl)
theorem s_tmOf {i : Nat} {r : List C} : tmOf i (c :: r) = (i, c) :: tmOf (i + 1) r := (rfl)
theorem s_br_true : bABr (.sc (.bool true)) X Y ⟨⟩ ⟨⟩ = X := ABr_true
theorem s_br_false : bABr (.sc (.bool false)) X Y ⟨⟩ ⟨⟩ = Y := ABr_false
theorem br {b : Bool} (hx : b = true → X) (hy : b = false → Y) : bABr (.sc (.bool b)) X Y ⟨⟩ ⟨⟩ := ABr.mk hx hy
theorem FunX.of {f : FuncId} {fn : Func} {code : Code} {args : List C} {bx : List (List C)} {q : Nat} {post : C → List (List C) → Nat → Prop} (b : Nat → List Bool) (hm : P.follows .mixedOrders = true) (hf : P.funcs[f]? = some fn) (hb : fn.body = some code) (hnm : (fn.name == "runtime.NumGoroutine") = false) (hN : args.length ≤ fn.ntmps) (hok : codeOk fn.ntmps b code = true)
  (h : bawp P G ⟨bx.length, none, b⟩ code (bretK P fn.results.toList (fun c σ => ∃ r bx' n, (post r bx' n ∧ bx.length ≤ bx'.length) ∧ ∃ src : Src, srcOk src = true ∧ src.length = n ∧ WeakBx src bx'.length σ.bx bx' ∧ CLe src bx'.length c r) ⟨⟩) ⟨tmOf 0 args, bx, q, 0⟩ ⟨⟩ ⟨⟩) : FunX P G f args bx q post := FunX.of_awp b hm hf hb hnm hN hok h
theorem call {f : FuncId} {args fargs : List C} {r : C} {n : Nat} (hf : Fun P G f fargs r n) (hK : K3 (r.sh nx) ⟨tm, bx, nx + n, lg⟩) : baCallC P G f args fargs ⟨tm, bx, nx, lg⟩ K3 ⟨⟩ := .inl ⟨r, n, hf, hK⟩
theorem callP {f : FuncId} {args : List C} {r : C} {n : Nat} (hf : Fun P G f args r n) (hK : K2 (r.sh nx) (nx + n)) : baCallN P G f args nx K2 ⟨⟩ := aCallN.mk hf hK
theorem Fun.less {f : FuncId} {args args' : List C} {r : C} {n : Nat} (hf : Fun P G f args' r n) (hl : CLeL [] 0 args args') : Fun P G f args r n := ⟨hf.1, fun R vs hg ha => hf.2 R vs hg (by
 have := RepL.less _ _ _ hl ha
 refine RepL.ext (Ext.refl R) ⟨fun i b hb => ?_, fun id x hx => ?_⟩ _ _ this
 ·simp at hb
 ·have hx : srcT [] noLoc.T id = some x := hx
  simp [srcT] at hx)⟩
theorem callB {f : FuncId} {args fargs a1 : List C} {fbx fbx' : List (List C)} {r : C} {n q : Nat} (ι κ : List Nat) (hf : FunB P G f a1 fbx q r fbx' n) (hq : κ.length = q) (hι : ι.Nodup) (hκ : κ.Nodup) (hb : ∀ i ∈ ι, i < bx.length)
  (ha : C.reL (ixOf ι) (ixOf κ) args = a1) (hx : (ι.map fun i => C.reL (ixOf ι) (ixOf κ) (bx.getD i [])) = fbx) (hK : K3 (r.re (upB ι bx.length) (upO nx)) (afterB ι κ fbx' n ⟨tm, bx, nx, lg⟩)) : baCallC P G f args fargs ⟨tm, bx, nx, lg⟩ K3 ⟨⟩ :=
 .inr <| .inl ⟨ι, κ, r, fbx', n, hι, hκ, hb, by rw [ha, hq]; exact hx ▸ hf, hK⟩
theorem range {A B : Nat → (Exit → St → Prop) → St → Prop} {ps : List Tmp} {f : FuncId} {first cap first' cap' : List C} {bx' : List (List C)} (items : List (List C)) (sf : Nat → Bool) (m : Nat) (I : Nat → St) (hit : Iter P G f first' cap' bx' items) (e1 : C.selL (fpDrop m) first = first') (e2 : C.selL (fpDrop m) cap = cap') (e3 : (bx.drop m).map (C.selL (fpDrop m)) = bx')
  (hp : p ≤ m) (hm : m ≤ bx.length) (hlen : ∀ it ∈ items, it.length = ps.length) (hI : ∀ k, k ≤ items.length → (I k).bx.length = m) (hw : Weak m ⟨[], bx, nx, lg⟩ ((I 0).wt []))
  (hbody : ∀ k it, items[k]? = some it → (∀ j, j < k → sf j = false) → A m (bonlyK (B m (broundK m (tlTm m tm) (sf k) (I (k + 1)) Q ⟨⟩ ⟨⟩)) ⟨⟩) ((I k).wt (putPs ps it (tlTm m tm))))
  (hdone : (∀ j, j < items.length → sf j = false) → Q .normal ((I items.length).wt (tlTm m tm))) : bARange P G p A B Q ps (.clo (.func f) first cap) ⟨tm, bx, nx, lg⟩ ⟨⟩ ⟨⟩ ⟨⟩ :=
 ⟨items, sf, m, I, hp, hm, by rw [e1, e2]; exact e3 ▸ hit, hlen, hI, hw, hbody, hdone⟩
theorem loop {B : (Exit → St → Prop) → St → Prop} {ι : Type} (I : ι → St) (ok : ι → Prop) (μ : ι → Nat) (i0 : ι) (h0 : ok i0) (hw : Weak p σ (I i0))
  (hr : ∀ i, ok i → B (bloopK (fun σ' => ∃ j, ok j ∧ μ j < μ i ∧ Weak p σ' (I j)) Q ⟨⟩ ⟨⟩) (I i)) : bALoop p B Q σ ⟨⟩ ⟨⟩ := ⟨ι, I, ok, μ, i0, h0, hw, hr⟩
theorem Fun.of {f : FuncId} {fn : Func} {code : Code} {args : List C} {r : C} {n : Nat} (b : Nat → List Bool) (hm : P.follows .mixedOrders = true) (hf : P.funcs[f]? = some fn) (hb : fn.body = some code) (hnm : (fn.name == "runtime.NumGoroutine") = false) (hN : args.length ≤ fn.ntmps) (hok : codeOk fn.ntmps b code = true)
  (h : bawp P G ⟨0, none, b⟩ code (bretK P fn.results.toList (fun c σ => ∃ src : Src, srcOk src = true ∧ src.length = n ∧ CLe src 0 (c.fz σ.bx) r) ⟨⟩) ⟨tmOf 0 args, [], 0, 0⟩ ⟨⟩ ⟨⟩) : Fun P G f args r n := Fun.of_awp b hm hf hb hnm hN hok h
theorem FunB.of {f : FuncId} {fn : Func} {code : Code} {args : List C} {bx bx' : List (List C)} {r : C} {q n : Nat} (b : Nat → List Bool) (hm : P.follows .mixedOrders = true) (hf : P.funcs[f]? = some fn) (hb : fn.body = some code) (hnm : (fn.name == "runtime.NumGoroutine") = false) (hN : args.length ≤ fn.ntmps) (hok : codeOk fn.ntmps b code = true) (hlen : bx.length ≤ bx'.length)
  (h : bawp P G ⟨bx.length, none, b⟩ code (bretK P fn.results.toList (fun c σ => ∃ src : Src, srcOk src = true ∧ src.length = n ∧ WeakBx src bx'.length σ.bx bx' ∧ CLe src bx'.length c r) ⟨⟩) ⟨tmOf 0 args, bx, q, 0⟩ ⟨⟩ ⟨⟩) : FunB P G f args bx q r bx' n := FunB.of_awp b hm hf hb hnm hN hok hlen h
theorem Iter.of {f : FuncId} {fn : Func} {code : Code} {first cap : List C} {bx items : List (List C)} (b : Nat → List Bool) (hm : P.follows .mixedOrders = true) (hf : P.funcs[f]? = some fn) (hb : fn.body = some code) (hnm : (fn.name == "runtime.NumGoroutine") = false) (hN : first.length + 1 + cap.length ≤ fn.ntmps) (hok : codeOk fn.ntmps b code = true)
  (h : ∀ (l : Nat) (sf : Nat → Bool), bawp P G ⟨0, some ⟨l, items, sf⟩, b⟩ code (bretK P fn.results.toList (fun c σ => EndAt items sf σ.lg) ⟨⟩) ⟨tmOf 0 (first ++ [.sc (.func (.yield l) #[] #[])] ++ cap), bx, 0, 0⟩ ⟨⟩ ⟨⟩) : Iter P G f first cap bx items := Iter.of_awp b hm hf hb hnm hN hok h
theorem toNat_succ (k : Nat) : ((k : Int) + 1).toNat = k + 1 := by omega
theorem ALoop.mk {B : (Exit → St → Prop) → St → Prop} {ι : Type} (I : ι → St) (ok : ι → Prop) (μ : ι → Nat) (i0 : ι) (h0 : ok i0) (hw : Weak p σ (I i0))
  (hr : ∀ i, ok i → B (loopK (fun σ' => ∃ j, ok j ∧ μ j < μ i ∧ Weak p σ' (I j)) Q) (I i)) : ALoop p B Q σ := ⟨ι, I, ok, μ, i0, h0, hw, hr⟩
end
attribute [push_cast] s_adrawQ s_flS s_fl0 s_20 s_2S s_adrawW s_atk0 s_atkS s_twin s_e_max s_p_max s_max s_skip s_label s_exit s_goto s_ret s_seq s_cond s_block s_loop s_rangeF s_scope s_region s_regiond s_adraw0 s_adrawF s_adrawT1 s_adrawT2 s_adrawT3 s_adrawT4 s_adrawL s_ladops0 s_ladopsA s_ladopsS s_ladops s_lend s_laid s_late s_only s_round_n s_round_ret s_round_exit s_round_goto s_wt s_putPs0 s_putPs s_tlTm0 s_tlTm s_then s_then_exit s_then_ret s_then_goto s_block_n s_block_same s_block_exit s_block_ret s_block_goto s_noGoto_n s_noGoto_exit s_noGoto_ret s_loop_n s_loop_exit s_loop_ret s_loop_goto s_ret_n s_ret_r s_res0 s_res1 s_res2 s_res3 s_res4 s_resT s_resC s_aops0 s_aops s_adops0 s_adopsN s_adopsF s_adopsT s_guard0 s_guard s_gd_t s_gd_f s_bru_b s_bru_u s_put_some s_put_none s_putT_some s_putT_none s_e_buildSlice s_p_buildSlice s_e_makeSlice s_p_makeSlice s_hdbx s_hdbx2 s_e_move s_p_move s_e_assign s_p_assign s_e_pick s_p_pick s_e_build s_p_build s_e_load s_p_load s_e_nilCheck s_p_nilCheck s_e_binOp s_p_binOp s_e_unOp s_p_unOp s_e_convert s_p_convert s_e_makeFunc s_p_makeFunc s_e_slice s_p_slice s_e_fieldAddr s_p_fieldAddr s_e_field s_p_field s_e_indexAddr s_p_indexAddr s_e_index s_p_index s_e_extract s_p_extract s_e_callv s_p_callv s_e_len s_p_len s_e_makeMap s_p_makeMap s_mm_n s_mm_s s_mkd_i s_mkd_s s_e_lookup s_p_lookup s_lk_i s_lk_s s_lk2_st s_lk2_sf s_lk2_nt s_lk2_nf s_e_mapUpdate s_e_insert s_mu_i s_mu_s s_len_mo s_lm1 s_e_append s_e_appz s_e_copy s_e_clear s_e_cap s_cap s_cap_bs s_cap_nil s_p_append s_e_alloc s_e_box s_e_store s_ev_tmp s_ev_const s_ev_func s_ev_global s_evGl_some s_getC s_const_int s_const_bool s_const_str s_const_slice s_const_agg s_const_ptr s_const_map s_const_nilf s_const_nili s_bin_int s_bin_str s_bin_bool s_bin_agg s_bin_nil_sl s_nilL_sl s_bin_nil_tight s_nilL_tight s_bin_nil_own s_nilL_own s_bin_nil_bs s_nilL_bs s_bin_nil_sc s_nilL_sc s_nil1_eql s_nil1_neq s_eq0_eql s_eq0_neq s_eq_nil s_eq_nil_n s_eq_int s_eq_bool s_eq_str s_bool1 s_int_add s_int_sub s_int_mul s_int_quo s_int_rem s_int_shr s_int_eql s_int_neq s_int_lss s_int_leq s_int_gtr s_int_geq s_str_add s_str_eql s_str_neq s_str_lss s_str_geq s_str_leq s_str_gtr s_bool_eql s_bool_neq s_un_not s_un_neg s_extract s_opt s_nil_ptr s_nil_row s_nil_clo s_load s_p_store s_sm1 s_sm2 s_same_nil s_same_sc s_same_str s_load_ptr s_load_row s_load2 s_take_struct s_take_array s_take_int s_take_bool s_take_str s_take_slice s_take_other s_field s_field1 s_field2t s_field2f s_fa s_fa1 s_fa_ptr s_fa_row s_ia s_ia_slice s_ia_array s_ia_s_sl s_sl_s_sl s_convx_sl s_ia_s_tight s_sl_s_tight s_convx_tight s_ia_s_own s_sl_s_own s_convx_own s_ia_s_sc s_sl_s_sc s_convx_sc s_convx_str s_ia_s_bs s_sl_s_bs s_slB000 s_slB010 s_slB100 s_slB110 s_slB011 s_slB111 s_convx_bs s_cvb1 s_cvb2 s_len_bs s_bb s_bb1 s_bb2 s_bb3 s_pb s_pb1 s_pb2 s_xs_sl s_xs_tight s_xs_own s_xs_bs s_xsB1 s_butBx s_fpBut s_frz_bs s_dg_bs s_sh_bs s_fz_bs s_re_bs s_sel_bs s_bsO1 s_bsO0 s_cellB_bs s_partB_bs s_cells_bs s_ia_r s_at s_ia_ap s_ia_ar s_ix s_ix1 s_byte s_sl s_sl0 s_opt_none s_opt_int s_sl_str s_sl_slice s_sl_r s_sl_t s_cut_nn s_cut_sn s_cut_ns s_cut_ss s_cutOk_nn s_cutOk_sn s_cutOk_ns s_cutOk_ss s_rows_sl s_rows_tight s_rows_own s_rows_nil s_conv s_conv_int s_conv_str s_conv_i s_conv_b s_conv_b1 s_conv_s s_conv_s1 s_len_str s_len_sl s_len_tight s_len_own s_len_nil s_lenL s_lenT s_build s_build1 s_fl s_fill0 s_fill s_fillP s_plS s_plA s_bs s_bs1 s_bs2 s_bs3 s_mkb s_mkb1 s_mkb2 s_mk s_mk1 s_mk2 s_app_own s_app_nil s_app_tight s_appN s_ap1 s_ap2 s_ap3n s_ap3t s_ao1 s_ao2 s_ao3 s_callV s_yield s_yield1 s_nil_yield s_const_func s_upBs s_upO s_ix0 s_ixc s_reTm0 s_reTm s_reBx0 s_reBx s_putBx0 s_putBx1 s_afterB s_keepO s_fpKeep s_fpDrop s_callF s_al1 s_box s_st1 s_st2 s_frz_sc s_dg_sc s_sh_sc s_frz_str s_dg_str s_sh_str s_frz_sl s_dg_sl s_sh_sl s_frz_tight s_dg_tight s_sh_tight s_frz_row s_dg_row s_sh_row s_frz_any s_dg_any s_sh_any s_frz_mo s_dg_mo s_sh_mo s_re_mo s_moO1 s_moO0 s_sel_mo s_fz_mo s_fy_mo s_cellB_mo s_partB_mo s_cells_mo s_up_sc s_up_str s_up_sl s_up_tight s_up_row s_up_any s_up_ptr s_up_bs s_up_own s_up_mo s_up_agg s_up_tup s_up_clo s_upL_nil s_upL_cons s_upTm_nil s_upTm s_upBx_nil s_upBx s_frz_own s_frz_ptr s_dg_ptr s_sh_ptr s_dg_own s_sh_own s_re_sc s_sel_sc s_re_str s_sel_str s_re_sl s_sel_sl s_re_tight s_sel_tight s_re_row s_sel_row s_re_any s_sel_any s_fz_sc s_fz_str s_fz_sl s_fz_tight s_fz_own s_fz_row s_fz_any s_fz_ptr s_rowO1 s_rowO0 s_one_func s_re_own s_re_ptr s_sel_own s_sel_ptr s_ownO1 s_ownO0 s_ptrO1 s_ptrO0 s_fy_sc s_fy_str s_fy_sl s_fy_tight s_fy_own s_fy_row s_fy_any s_fy_ptr s_fy_bs s_frGet0 s_frGet1 s_re_agg s_re_tup s_re_clo s_reL_nil s_reL_cons s_sel_agg s_sel_tup s_sel_clo s_selL_nil s_selL_cons s_fz_agg s_fz_tup s_fz_clo s_fzL_nil s_fzL_cons s_fy_agg s_fy_tup s_fy_clo s_fyL_nil s_fyL_cons s_frz_agg s_frz_tup s_frz_clo s_frzL_nil s_frzL_cons s_dg_agg s_dg_tup s_dg_clo s_dgL_nil s_dgL_cons s_sh_agg s_sh_tup s_sh_clo s_shL_nil s_shL_cons s_dgTm_nil s_dgTm s_dgBx_nil s_dgBx s_cellB_str s_partB_str s_cells_str s_cellB_sl s_partB_sl s_cells_sl s_cellB_tight s_partB_tight s_cells_tight s_cellB_own s_partB_own s_cells_own s_cellB_ptr s_partB_ptr s_cells_ptr s_cellB_row s_partB_row s_cells_row s_cellB_clo s_partB_clo s_cells_clo s_cellB_sc s_partB_sc s_cells_sc s_partB_agg s_cells_agg s_one_int s_one_bool s_one_slice s_one_ptr s_one_string s_one_nilf s_one_nili s_one_map s_rows0 s_rows1 s_tmOf0 s_tmOf s_br_true s_br_false
attribute [push_cast] Int.ofNat_eq_natCast Bool.not_false Bool.not_true Bool.true_beq Bool.false_beq beq_self_eq_true Bool.true_and inR_i64 inR_u64 inR_u8 inR_u16 inR_i32 List.map_cons List.map_nil List.getElem?_cons_zero List.getElem?_cons_succ List.getElem?_toArray List.getElem?_nil List.drop_zero List.drop_succ_cons List.drop_nil List.take_succ_cons List.take_zero List.take_nil List.length_cons List.length_nil List.getD_cons_zero List.getD_cons_succ List.set_cons_zero List.set_cons_succ List.cons_append List.nil_append List.append_nil List.all_cons List.all_nil List.tail_cons List.tail_nil List.headD_cons List.headD_nil List.flatten_cons List.flatten_nil List.replicate_succ List.replicate_zero Bool.and_self Bool.and_true Bool.true_and Bool.not_true Bool.not_false Option.bind_some Option.map_some Option.map_none if_true if_false true_and and_true and_self decide_true decide_false Int.ofNat_le Int.ofNat_lt Int.natCast_inj toNat_succ Int.toNat_natCast Nat.zero_add Nat.add_zero List.toList_toArray Int.add_zero Int.zero_add Bool.not_not Int.sub_zero Int.natCast_pos Nat.sub_zero Int.cast_ofNat_Int Nat.one_mul Nat.mul_one
end Go.Proofs.YtbphobmohdclaaaGreatDoor.Vcg
end
section
set_option linter.unusedVariables false
set_option linter.unusedSimpArgs false
namespace Go.Proofs.YtbphobmohdclaaaGreatDoor.Vcg
open Go.RowKit
abbrev G0 : Globs := fun _ => none
abbrev strC (l : List UInt8) : List C := [.str l]
def nstep (s : List (List UInt8) × List UInt8) (b : UInt8) : List (List UInt8) × List UInt8 :=
 if b = 47 then (if s.2 = [] then s.1 else s.1 ++ [s.2], []) else (s.1, s.2 ++ [b])
def nfin (s : List (List UInt8) × List UInt8) : List (List UInt8) := if s.2 = [] then s.1 else s.1 ++ [s.2]
def nst (l : List UInt8) (k : Nat) : List (List UInt8) × List UInt8 := if k ≤ l.length then (l.take k).foldl nstep ([], []) else (nfin (l.foldl nstep ([], [])), [])
def names (l : List UInt8) : List (List UInt8) := nfin (l.foldl nstep ([], []))
theorem nst_zero (l : List UInt8) : nst l 0 = ([], []) := by simp [nst]
theorem nst_succ (l : List UInt8) (k : Nat) (b : UInt8) (h : l[k]? = some b) : nst l (k + 1) = nstep (nst l k) b := by
 have hk : k < l.length := (List.getElem?_eq_some_iff.1 h).1
 unfold nst
 rw [if_pos (by omega), if_pos (by omega), List.take_add_one, h]
 simp
theorem nst_end (l : List UInt8) : nst l (l.length + 1) = (names l, []) := by
 unfold nst names
 rw [if_neg (by omega)]
theorem nst_len (l : List UInt8) : nfin (nst l l.length) = names l := by
 unfold nst names
 rw [if_pos (Nat.le_refl _), List.take_length]
theorem nst_size (l : List UInt8) : ∀ k, k ≤ l.length → (nst l k).1.length + (nst l k).2.length ≤ k
 | 0, _ => by simp [nst_zero]
 | k + 1, h => by
  have hk : k < l.length := by omega
  have ih := nst_size l k (by omega)
  rw [nst_succ l k l[k] (List.getElem?_eq_getElem hk)]
  unfold nstep
  by_cases h47 : l[k] = 47
  ·rw [if_pos h47]
   by_cases h2 : (nst l k).2 = []
   ·simp [h2]; omega
   ·have : 0 < (nst l k).2.length := List.length_pos_iff.2 h2
    simp [h2]; omega
  ·rw [if_neg h47]; simp; omega
theorem names_size (l : List UInt8) : (names l).length ≤ l.length := by
 rw [← nst_len]
 have := nst_size l l.length (Nat.le_refl _)
 unfold nfin
 split
 ·omega
 ·rename_i h
  have : 0 < (nst l l.length).2.length := List.length_pos_iff.2 h
  simp; omega
theorem u8_ne {b c : UInt8} (h : b ≠ c) : ¬ ((b.toNat : Int) = (c.toNat : Int)) := fun e => h (UInt8.toNat_inj.1 (by omega))
theorem slice_one {α : Type} (l : List α) (k : Nat) (b : α) (h : l[k]? = some b) : (l.take (k + 1)).drop k = [b] := by
 have hk : k < l.length := (List.getElem?_eq_some_iff.1 h).1
 rw [List.take_add_one, h, List.drop_append]
 simp [Nat.min_eq_left (by omega : k ≤ l.length)]
set_option maxHeartbeats 1000000 in
theorem names_fun (l : List UInt8) (h : l.length ≤ 100000) : Fun Tryz.prog G0 55 [.str l] (.own 0 9 1 ((names l).map strC)) 1 := by
 refine Fun.of (fun _ => []) (by kernel_rfl) Tryz.func55 rfl rfl (Nat.le_of_ble_eq_true rfl) (by kernel_rfl) ?_; dsimp only [Tryz.f55, List.append_eq, List.cons_append, List.nil_append]
 simp -dsimp only [push_cast, seval]
 refine loop (fun k : Nat => ⟨[(0, .str l), (3, .own 0 9 1 ((nst l k).1.map strC)), (4, .str (nst l k).2), (5, .sc (.int .i64 k))], [], 1, 0⟩) (fun k => k ≤ l.length + 1) (fun k => l.length + 1 - k) 0 (Nat.zero_le _) ?_ ?_
 ·refine Weak.mk [.inr (9, 1)] rfl rfl (Nat.le_refl _) rfl ?_ trivial
  simp -dsimp only [WeakTm, WeakBx, CLe, CLeL, push_cast, seval]
  simp [nst_zero]
 ·intro k hk
  simp -dsimp only [push_cast, seval]
  by_cases h1 : k ≤ l.length
  ·have hs := nst_size l k h1
   by_cases h2 : k < l.length
   ·obtain ⟨b, hb⟩ : ∃ b, l[k]? = some b := ⟨l[k], List.getElem?_eq_getElem h2⟩
    have hn := nst_succ l k b hb
    by_cases h3 : b = 47
    ·have h3' : (b.toNat : Int) = 47 := by subst h3; rfl
     by_cases h4 : (nst l k).2 = []
     ·simp -dsimp only [push_cast, seval, h1, h2, h3', hb, h4]
      and_intros <;> try omega
      refine ⟨k + 1, by omega, by omega, Weak.mk [.inl 0] rfl rfl (Nat.le_refl _) rfl ?_ trivial⟩
      simp -dsimp only [WeakTm, WeakBx, CLe, CLeL, push_cast, seval]
      simp [hn, nstep, h3, h4]
     ·simp -dsimp only [push_cast, seval, h1, h2, h3', hb, h4]
      simp only [List.length_map, List.length_cons, List.length_nil]
      and_intros <;> try omega
      refine ⟨k + 1, by omega, by omega, Weak.mk [.inl 0] rfl rfl (Nat.le_refl _) rfl ?_ trivial⟩
      simp -dsimp only [WeakTm, WeakBx, CLe, CLeL, push_cast, seval]
      simp [hn, nstep, h3, h4, strC]
    ·have h3' : ¬ ((b.toNat : Int) = 47) := u8_ne h3
     simp -dsimp only [push_cast, seval, h1, h2, h3', hb]
     rw [slice_one l k b hb]
     and_intros <;> try omega
     ·simp; omega
     refine ⟨k + 1, by omega, by omega, Weak.mk [.inl 0] rfl rfl (Nat.le_refl _) rfl ?_ trivial⟩
     simp -dsimp only [WeakTm, WeakBx, CLe, CLeL, push_cast, seval]
     simp [hn, nstep, h3]
   ·obtain rfl : k = l.length := by omega
    have hl := nst_len l
    have he := nst_end l
    have hz := names_size l
    by_cases h4 : (nst l l.length).2 = []
    ·simp -dsimp only [push_cast, seval, h1, h2, h4]
     and_intros <;> try omega
     refine ⟨l.length + 1, by omega, by omega, Weak.mk [.inl 0] rfl rfl (Nat.le_refl _) rfl ?_ trivial⟩
     simp -dsimp only [WeakTm, WeakBx, CLe, CLeL, push_cast, seval]
     simp [he, ← hl, nfin, h4]
    ·simp -dsimp only [push_cast, seval, h1, h2, h4]
     simp only [List.length_map, List.length_cons, List.length_nil]
     and_intros <;> try omega
     refine ⟨l.length + 1, by omega, by omega, Weak.mk [.inl 0] rfl rfl (Nat.le_refl _) rfl ?_ trivial⟩
     simp -dsimp only [WeakTm, WeakBx, CLe, CLeL, push_cast, seval]
     simp [he, ← hl, nfin, h4, strC]
  ·obtain rfl : k = l.length + 1 := by omega
   have he := nst_end l
   simp -dsimp only [push_cast, seval, h1]
   exact ⟨[.inl 0], rfl, rfl, by simp -dsimp only [WeakTm, WeakBx, CLe, CLeL, push_cast, seval, he]⟩
end Go.Proofs.YtbphobmohdclaaaGreatDoor.Vcg
end
section
set_option linter.unusedVariables false
set_option linter.unusedSimpArgs false
namespace Go.Proofs.YtbphobmohdclaaaGreatDoor.Vcg
open Go.RowKit
abbrev strs (xs : List (List UInt8)) : List (List C) := xs.map strC
theorem strs_length (xs : List (List UInt8)) : (strs xs).length = xs.length := List.length_map _
theorem strs_snoc (xs : List (List UInt8)) (x : List UInt8) : strs xs ++ [[.str x]] = strs (xs ++ [x]) := by simp
theorem strs_get? (xs : List (List UInt8)) (k : Nat) : (strs xs)[k]? = (xs[k]?).map strC := List.getElem?_map
theorem strs_drop (xs : List (List UInt8)) (k : Nat) : (strs xs).drop k = strs (xs.drop k) := List.map_drop.symm
theorem strs_take (xs : List (List UInt8)) (k : Nat) : (strs xs).take k = strs (xs.take k) := List.map_take.symm
theorem strs_append (xs ys : List (List UInt8)) : strs xs ++ strs ys = strs (xs ++ ys) := List.map_append.symm
theorem strs_at (xs : List (List UInt8)) (k : Nat) (h : k < xs.length) : (strs xs)[k]? = some [.str (xs[k]'h)] := by rw [strs_get?, List.getElem?_eq_getElem h]; rfl
attribute [push_cast] strs_length strs_snoc strs_drop strs_take strs_append
abbrev boolC (b : Bool) : C := .sc (.bool b)
end Go.Proofs.YtbphobmohdclaaaGreatDoor.Vcg
end
section
namespace Go.Proofs
open Go.Shelf
def Tryz.lays169_ren : Go.Shelf.Ren := ⟨fun | 169 => 42 | n => n, fun | 70 => 62 | 9 => 9 | 0 => 0 | 72 => 65 | 37 => 63 | 127 => 91 | 3 => 3 | 5 => 5 | n => n, fun | n => n⟩
theorem Tryz.lays169 : Go.Proofs.Lays.n169 Tryz.prog Tryz.lays169_ren := {
 mixed := by kernel_rfl
 f169 := Tryz.func42.trans (congrArg some (by kernel_rfl))
 t0 := Tryz.underlying0
 a0 := Tryz.isAgg0
 z0 := Tryz.sizeOf0
 v0 := Tryz.zeroValue0
 t3 := Tryz.underlying3
 a3 := Tryz.isAgg3
 z3 := Tryz.sizeOf3
 v3 := Tryz.zeroValue3
 t9 := Tryz.underlying9
 a9 := Tryz.isAgg9
 z9 := Tryz.sizeOf9
 v9 := Tryz.zeroValue9
 t37 := Tryz.underlying63
 a37 := Tryz.isAgg63
 z37 := Tryz.sizeOf63
 v37 := Tryz.zeroValue63
 t70 := Tryz.underlying62
 a70 := Tryz.isAgg62
 z70 := Tryz.sizeOf62
 v70 := Tryz.zeroValue62
 t72 := Tryz.underlying65
 a72 := Tryz.isAgg65
 z72 := Tryz.sizeOf65
 v72 := Tryz.zeroValue65
 t127 := Tryz.underlying91
 a127 := Tryz.isAgg91
 z127 := Tryz.sizeOf91
 v127 := Tryz.zeroValue91 }
theorem Tryz.Builder_Extra_169 : Builder.Extra Tryz.prog Tryz.lays169_ren := {
 sizeBuilder := by kernel_rfl
 liesBuilder := by kernel_rfl
 t5 := Tryz.underlying5
 a5 := Tryz.isAgg5
 z5 := Tryz.sizeOf5
 v5 := Tryz.zeroValue5
 infoByte := by kernel_rfl
 cellsByte := by kernel_rfl
 sizeByte := by kernel_rfl
 neB5 := by decide }
open Go.RowKit in
theorem Tryz.Builder_String_any (B b : Nat) (l : List UInt8) (w : World) (h : Lib.IsBuilder 65 5 B b (Lib.byteCells l) w) (hBw : B ≤ w.heap.size) :
  Calls Tryz.prog 42 #[.pointer (some ⟨b, 0, none⟩)] w fun e w' => e = .returned (.string ⟨l.toArray⟩) ∧ Below B w w' := Any.Builder_String_any Tryz.lays169 Tryz.Builder_Extra_169 B b l w h hBw
def Tryz.lays156_ren : Go.Shelf.Ren := ⟨fun | 156 => 59 | 165 => 76 | 166 => 41 | 169 => 42 | 240 => 65 | 241 => 97 | 276 => 79 | 277 => 112 | n => n, fun | 31 => 44 | 9 => 9 | 3 => 3 | 4 => 4 | 0 => 0 | 20 => 20 | 72 => 65 | 76 => 68 | 70 => 62 | 37 => 63 | 75 => 67 | 127 => 91 | 164 => 101 | 5 => 5 | 80 => 70 | n => n, fun | n => n⟩
theorem Tryz.lays156 : Go.Proofs.Lays.n156 Tryz.prog Tryz.lays156_ren := {
 mixed := by kernel_rfl
 f156 := Tryz.func59.trans (congrArg some (by kernel_rfl))
 f165 := Tryz.func76.trans (congrArg some (by kernel_rfl))
 f166 := Tryz.func41.trans (congrArg some (by kernel_rfl))
 f169 := Tryz.func42.trans (congrArg some (by kernel_rfl))
 f240 := Tryz.func65.trans (congrArg some (by kernel_rfl))
 f241 := Tryz.func97.trans (congrArg some (by kernel_rfl))
 f276 := Tryz.func79.trans (congrArg some (by kernel_rfl))
 f277 := Tryz.func112.trans (congrArg some (by kernel_rfl))
 t0 := Tryz.underlying0
 a0 := Tryz.isAgg0
 z0 := Tryz.sizeOf0
 v0 := Tryz.zeroValue0
 t3 := Tryz.underlying3
 a3 := Tryz.isAgg3
 z3 := Tryz.sizeOf3
 v3 := Tryz.zeroValue3
 t4 := Tryz.underlying4
 a4 := Tryz.isAgg4
 z4 := Tryz.sizeOf4
 v4 := Tryz.zeroValue4
 t9 := Tryz.underlying9
 a9 := Tryz.isAgg9
 z9 := Tryz.sizeOf9
 v9 := Tryz.zeroValue9
 t20 := Tryz.underlying20
 a20 := Tryz.isAgg20
 z20 := Tryz.sizeOf20
 v20 := Tryz.zeroValue20
 t31 := Tryz.underlying44
 a31 := Tryz.isAgg44
 z31 := Tryz.sizeOf44
 v31 := Tryz.zeroValue44
 t37 := Tryz.underlying63
 a37 := Tryz.isAgg63
 z37 := Tryz.sizeOf63
 v37 := Tryz.zeroValue63
 t70 := Tryz.underlying62
 a70 := Tryz.isAgg62
 z70 := Tryz.sizeOf62
 v70 := Tryz.zeroValue62
 t72 := Tryz.underlying65
 a72 := Tryz.isAgg65
 z72 := Tryz.sizeOf65
 v72 := Tryz.zeroValue65
 t75 := Tryz.underlying67
 a75 := Tryz.isAgg67
 z75 := Tryz.sizeOf67
 v75 := Tryz.zeroValue67
 t76 := Tryz.underlying68
 a76 := Tryz.isAgg68
 z76 := Tryz.sizeOf68
 v76 := Tryz.zeroValue68
 t127 := Tryz.underlying91
 a127 := Tryz.isAgg91
 z127 := Tryz.sizeOf91
 v127 := Tryz.zeroValue91
 t164 := Tryz.underlying101
 a164 := Tryz.isAgg101
 z164 := Tryz.sizeOf101
 v164 := Tryz.zeroValue101 }
theorem Tryz.Builder_Extra_156 : Builder.Extra Tryz.prog Tryz.lays156_ren := {
 sizeBuilder := by kernel_rfl
 liesBuilder := by kernel_rfl
 t5 := Tryz.underlying5
 a5 := Tryz.isAgg5
 z5 := Tryz.sizeOf5
 v5 := Tryz.zeroValue5
 infoByte := by kernel_rfl
 cellsByte := by kernel_rfl
 sizeByte := by kernel_rfl
 neB5 := by decide }
open Go.RowKit in
theorem Tryz.strings_Join_none (a : Option Addr) (c : Nat) (sep : ByteArray) (w : World) :
  Calls Tryz.prog 59 #[.slice a 0 c, .string sep] w fun e w' => e = .returned (.string ⟨#[]⟩) ∧ w' = w := Any.strings_Join_none Tryz.lays156 Tryz.Builder_Extra_156 a c sep w
open Go.RowKit in
theorem Tryz.strings_Join (bk o c : Nat) (xs : List ByteArray) (sep : ByteArray) (w : World) (hcells : ∀ (j : Nat) x, xs[j]? = some x → w.cell? ⟨bk, o + j, none⟩ = some (.string x)) (hbk : bk < w.heap.size) (hN : xs.length ≤ 140737488355328) (hcap : xs.length ≤ c) (hlen : (Lib.join (xs.map (·.data.toList)) sep.data.toList).length ≤ 140737488355328) :
  Calls Tryz.prog 59 #[.slice (some ⟨bk, o, none⟩) xs.length c, .string sep] w fun e w' => e = .returned (.string ⟨(Lib.join (xs.map (·.data.toList)) sep.data.toList).toArray⟩) ∧ Below w.heap.size w w' := Any.strings_Join Tryz.lays156 Tryz.Builder_Extra_156 bk o c xs sep w hcells hbk hN hcap hlen
def Tryz.lays119_ren : Go.Shelf.Ren := ⟨fun | 119 => 125 | n => n, fun | 21 => 21 | 4 => 4 | n => n, fun | n => n⟩
theorem Tryz.lays119 : Go.Proofs.Lays.n119 Tryz.prog Tryz.lays119_ren := {
 mixed := by kernel_rfl
 f119 := Tryz.func125.trans (congrArg some (by kernel_rfl))
 t4 := Tryz.underlying4
 a4 := Tryz.isAgg4
 z4 := Tryz.sizeOf4
 v4 := Tryz.zeroValue4
 t21 := Tryz.underlying21
 a21 := Tryz.isAgg21
 z21 := Tryz.sizeOf21
 v21 := Tryz.zeroValue21 }
theorem Tryz.utf8_ValidRune (r : Int) (w : World) :
  Calls Tryz.prog 125 #[.int .i32 r] w fun e w' => e = .returned (.bool (Lib.validRune r)) ∧ w' = w := Any.utf8_ValidRune Tryz.lays119 r w
def Tryz.lays137_ren : Go.Shelf.Ren := ⟨fun | 137 => 85 | 217 => 101 | 266 => 116 | n => n, fun | 9 => 9 | 5 => 5 | 3 => 3 | n => n, fun | n => n⟩
theorem Tryz.lays137 : Go.Proofs.Lays.n137 Tryz.prog Tryz.lays137_ren := {
 mixed := by kernel_rfl
 f137 := Tryz.func85.trans (congrArg some (by kernel_rfl))
 f217 := Tryz.func101.trans (congrArg some (by kernel_rfl))
 f266 := Tryz.func116.trans (congrArg some (by kernel_rfl))
 t3 := Tryz.underlying3
 a3 := Tryz.isAgg3
 z3 := Tryz.sizeOf3
 v3 := Tryz.zeroValue3
 t5 := Tryz.underlying5
 a5 := Tryz.isAgg5
 z5 := Tryz.sizeOf5
 v5 := Tryz.zeroValue5
 t9 := Tryz.underlying9
 a9 := Tryz.isAgg9
 z9 := Tryz.sizeOf9
 v9 := Tryz.zeroValue9 }
open Go.RowKit in
theorem Tryz.strings_IndexByte (s : ByteArray) (c : Int) (w : World) :
  Calls Tryz.prog 85 #[.string s, .int .u8 c] w fun e w' => e = .returned (.int .i64 (Lib.indexByte s.data.toList c.toNat.toUInt8)) ∧ w' = w := Any.strings_IndexByte Tryz.lays137 s c w
def Tryz.lays104_ren : Go.Shelf.Ren := ⟨fun | 104 => 44 | 211 => 67 | 207 => 83 | n => n, fun | 9 => 9 | 4 => 4 | 24 => 51 | 3 => 3 | n => n, fun | n => n⟩
theorem Tryz.lays104 : Go.Proofs.Lays.n104 Tryz.prog Tryz.lays104_ren := {
 mixed := by kernel_rfl
 f104 := Tryz.func44.trans (congrArg some (by kernel_rfl))
 f207 := Tryz.func83.trans (congrArg some (by kernel_rfl))
 f211 := Tryz.func67.trans (congrArg some (by kernel_rfl))
 t3 := Tryz.underlying3
 a3 := Tryz.isAgg3
 z3 := Tryz.sizeOf3
 v3 := Tryz.zeroValue3
 t4 := Tryz.underlying4
 a4 := Tryz.isAgg4
 z4 := Tryz.sizeOf4
 v4 := Tryz.zeroValue4
 t9 := Tryz.underlying9
 a9 := Tryz.isAgg9
 z9 := Tryz.sizeOf9
 v9 := Tryz.zeroValue9
 t24 := Tryz.underlying51
 a24 := Tryz.isAgg51
 z24 := Tryz.sizeOf51
 v24 := Tryz.zeroValue51 }
open Go.RowKit in
theorem Tryz.strings_CutSuffix (s p : ByteArray) (w : World) (hs : s.size ≤ 9223372036854775807) :
  Calls Tryz.prog 44 #[.string s, .string p] w fun e w' => e = .returned (.tuple #[.string ⟨(Lib.trimSuffix s.data.toList p.data.toList).toArray⟩, .bool (Lib.hasSuffix s.data.toList p.data.toList)]) ∧ w' = w := Any.strings_CutSuffix Tryz.lays104 s p w hs
def Tryz.laysM171_ren : Go.Shelf.Ren := ⟨fun | 171 => 34 | 243 => 56 | 246 => 75 | 283 => 93 | 284 => 94 | 285 => 95 | 286 => 96 | 129 => 108 | 317 => 107 | 318 => 109 | 319 => 110 | 320 => 111 | 337 => 118 | 338 => 119 | n => n, fun | 3 => 3 | 9 => 9 | 2 => 2 | 4 => 4 | 171 => 111 | 0 => 0 | 53 => 112 | 37 => 63 | 5 => 5 | 173 => 115 | 212 => 121 | 51 => 122 | 20 => 20 | 213 => 123 | 46 => 86 | 232 => 138 | 233 => 139 | n => n, fun | 17 => 2 | 18 => 6 | 19 => 7 | n => n⟩
theorem Tryz.laysM171 : Go.Proofs.LaysM.n171 Tryz.prog Tryz.laysM171_ren := {
 mixed := by kernel_rfl
 f129 := Tryz.func108.trans (congrArg some (by kernel_rfl))
 f171 := Tryz.func34.trans (congrArg some (by kernel_rfl))
 f243 := Tryz.func56.trans (congrArg some (by kernel_rfl))
 f246 := Tryz.func75.trans (congrArg some (by kernel_rfl))
 f283 := Tryz.func93.trans (congrArg some (by kernel_rfl))
 f284 := Tryz.func94.trans (congrArg some (by kernel_rfl))
 f285 := Tryz.func95.trans (congrArg some (by kernel_rfl))
 f286 := Tryz.func96.trans (congrArg some (by kernel_rfl))
 f317 := Tryz.func107.trans (congrArg some (by kernel_rfl))
 f318 := Tryz.func109.trans (congrArg some (by kernel_rfl))
 f319 := Tryz.func110.trans (congrArg some (by kernel_rfl))
 f320 := Tryz.func111.trans (congrArg some (by kernel_rfl))
 f337 := Tryz.func118.trans (congrArg some (by kernel_rfl))
 f338 := Tryz.func119.trans (congrArg some (by kernel_rfl))
 t0 := Tryz.underlying0
 a0 := Tryz.isAgg0
 z0 := Tryz.sizeOf0
 v0 := Tryz.zeroValue0
 t2 := Tryz.underlying2
 a2 := Tryz.isAgg2
 z2 := Tryz.sizeOf2
 v2 := Tryz.zeroValue2
 t3 := Tryz.underlying3
 a3 := Tryz.isAgg3
 z3 := Tryz.sizeOf3
 v3 := Tryz.zeroValue3
 t4 := Tryz.underlying4
 a4 := Tryz.isAgg4
 z4 := Tryz.sizeOf4
 v4 := Tryz.zeroValue4
 t5 := Tryz.underlying5
 a5 := Tryz.isAgg5
 z5 := Tryz.sizeOf5
 v5 := Tryz.zeroValue5
 t9 := Tryz.underlying9
 a9 := Tryz.isAgg9
 z9 := Tryz.sizeOf9
 v9 := Tryz.zeroValue9
 t20 := Tryz.underlying20
 a20 := Tryz.isAgg20
 z20 := Tryz.sizeOf20
 v20 := Tryz.zeroValue20
 t37 := Tryz.underlying63
 a37 := Tryz.isAgg63
 z37 := Tryz.sizeOf63
 v37 := Tryz.zeroValue63
 t46 := Tryz.underlying86
 a46 := Tryz.isAgg86
 z46 := Tryz.sizeOf86
 v46 := Tryz.zeroValue86
 t51 := Tryz.underlying122
 a51 := Tryz.isAgg122
 z51 := Tryz.sizeOf122
 v51 := Tryz.zeroValue122
 t53 := Tryz.underlying112
 a53 := Tryz.isAgg112
 z53 := Tryz.sizeOf112
 v53 := Tryz.zeroValue112
 t171 := Tryz.underlying111
 a171 := Tryz.isAgg111
 z171 := Tryz.sizeOf111
 v171 := Tryz.zeroValue111
 t173 := Tryz.underlying115
 a173 := Tryz.isAgg115
 z173 := Tryz.sizeOf115
 v173 := Tryz.zeroValue115
 t212 := Tryz.underlying121
 a212 := Tryz.isAgg121
 z212 := Tryz.sizeOf121
 v212 := Tryz.zeroValue121
 t213 := Tryz.underlying123
 a213 := Tryz.isAgg123
 z213 := Tryz.sizeOf123
 t232 := Tryz.underlying138
 a232 := Tryz.isAgg138
 z232 := Tryz.sizeOf138
 v232 := Tryz.zeroValue138
 t233 := Tryz.underlying139
 a233 := Tryz.isAgg139
 z233 := Tryz.sizeOf139
 v233 := Tryz.zeroValue139
 g17 := by kernel_rfl
 g18 := by kernel_rfl
 g19 := by kernel_rfl
 i0 := by kernel_rfl
 i2 := by kernel_rfl
 i3 := by kernel_rfl
 i4 := by kernel_rfl
 i5 := by kernel_rfl
 i9 := by kernel_rfl
 i20 := by kernel_rfl
 i37 := by kernel_rfl
 i46 := by kernel_rfl
 i51 := by kernel_rfl
 i53 := by kernel_rfl
 i171 := by kernel_rfl
 i173 := by kernel_rfl
 i212 := by kernel_rfl
 i232 := by kernel_rfl
 i233 := by kernel_rfl
 m17 := by kernel_rfl
 m18 := by kernel_rfl
 m19 := by kernel_rfl }
open Go.RowKit Go.Sort Go.Lib in
theorem Tryz.strconv_Itoa (n : Int) (h0 : -9223372036854775808 ≤ n) (h1 : n ≤ 9223372036854775807) (w : World) (htab : Lib.TabIs Tryz.prog w "internal/strconv.uint64pow10" .u64 Lib.pow10Tab) :
  Calls Tryz.prog 34 #[.int .i64 n] w fun e w' => e = .returned (.string ⟨(Lib.itoa n).toArray⟩) ∧ ∃ k os, w' = grow (w.drewN k) os := Any.strconv_Itoa Tryz.laysM171 n h0 h1 w htab
def Tryz.lays219_ren : Go.Shelf.Ren := ⟨fun | 219 => 100 | 217 => 101 | 225 => 113 | 224 => 114 | 267 => 115 | 266 => 116 | 314 => 120 | n => n, fun | 9 => 9 | 3 => 3 | 4 => 4 | 5 => 5 | 46 => 86 | 146 => 131 | 51 => 122 | n => n, fun | 1 => 5 | n => n⟩
theorem Tryz.lays219 : Go.Proofs.Lays.n219 Tryz.prog Tryz.lays219_ren := {
 mixed := by kernel_rfl
 f217 := Tryz.func101.trans (congrArg some (by kernel_rfl))
 f219 := Tryz.func100.trans (congrArg some (by kernel_rfl))
 f224 := Tryz.func114.trans (congrArg some (by kernel_rfl))
 f225 := Tryz.func113.trans (congrArg some (by kernel_rfl))
 f266 := Tryz.func116.trans (congrArg some (by kernel_rfl))
 f267 := Tryz.func115.trans (congrArg some (by kernel_rfl))
 f314 := Tryz.func120.trans (congrArg some (by kernel_rfl))
 t3 := Tryz.underlying3
 a3 := Tryz.isAgg3
 z3 := Tryz.sizeOf3
 v3 := Tryz.zeroValue3
 t4 := Tryz.underlying4
 a4 := Tryz.isAgg4
 z4 := Tryz.sizeOf4
 v4 := Tryz.zeroValue4
 t5 := Tryz.underlying5
 a5 := Tryz.isAgg5
 z5 := Tryz.sizeOf5
 v5 := Tryz.zeroValue5
 t9 := Tryz.underlying9
 a9 := Tryz.isAgg9
 z9 := Tryz.sizeOf9
 v9 := Tryz.zeroValue9
 t46 := Tryz.underlying86
 a46 := Tryz.isAgg86
 z46 := Tryz.sizeOf86
 v46 := Tryz.zeroValue86
 t51 := Tryz.underlying122
 a51 := Tryz.isAgg122
 z51 := Tryz.sizeOf122
 v51 := Tryz.zeroValue122
 t146 := Tryz.underlying131
 a146 := Tryz.isAgg131
 z146 := Tryz.sizeOf131
 v146 := Tryz.zeroValue131
 g1 := by kernel_rfl }
open Go.RowKit Go.Lib in
theorem Tryz.stringslite_Index_one (s : ByteArray) (c : UInt8) (w : World) :
  Calls Tryz.prog 100 #[.string s, .string ⟨#[c]⟩] w fun e w' => e = .returned (.int .i64 (Lib.indexByte s.data.toList c)) ∧ w' = w := Any.stringslite_Index_one Tryz.lays219 s c w
def Tryz.lays143_ren : Go.Shelf.Ren := ⟨fun | 143 => 82 | 219 => 100 | 217 => 101 | 225 => 113 | 224 => 114 | 267 => 115 | 266 => 116 | 314 => 120 | n => n, fun | 9 => 9 | 3 => 3 | 4 => 4 | 5 => 5 | 46 => 86 | 146 => 131 | 51 => 122 | n => n, fun | 1 => 5 | n => n⟩
theorem Tryz.lays143 : Go.Proofs.Lays.n143 Tryz.prog Tryz.lays143_ren := {
 mixed := by kernel_rfl
 f143 := Tryz.func82.trans (congrArg some (by kernel_rfl))
 f217 := Tryz.func101.trans (congrArg some (by kernel_rfl))
 f219 := Tryz.func100.trans (congrArg some (by kernel_rfl))
 f224 := Tryz.func114.trans (congrArg some (by kernel_rfl))
 f225 := Tryz.func113.trans (congrArg some (by kernel_rfl))
 f266 := Tryz.func116.trans (congrArg some (by kernel_rfl))
 f267 := Tryz.func115.trans (congrArg some (by kernel_rfl))
 f314 := Tryz.func120.trans (congrArg some (by kernel_rfl))
 t3 := Tryz.underlying3
 a3 := Tryz.isAgg3
 z3 := Tryz.sizeOf3
 v3 := Tryz.zeroValue3
 t4 := Tryz.underlying4
 a4 := Tryz.isAgg4
 z4 := Tryz.sizeOf4
 v4 := Tryz.zeroValue4
 t5 := Tryz.underlying5
 a5 := Tryz.isAgg5
 z5 := Tryz.sizeOf5
 v5 := Tryz.zeroValue5
 t9 := Tryz.underlying9
 a9 := Tryz.isAgg9
 z9 := Tryz.sizeOf9
 v9 := Tryz.zeroValue9
 t46 := Tryz.underlying86
 a46 := Tryz.isAgg86
 z46 := Tryz.sizeOf86
 v46 := Tryz.zeroValue86
 t51 := Tryz.underlying122
 a51 := Tryz.isAgg122
 z51 := Tryz.sizeOf122
 v51 := Tryz.zeroValue122
 t146 := Tryz.underlying131
 a146 := Tryz.isAgg131
 z146 := Tryz.sizeOf131
 v146 := Tryz.zeroValue131
 g1 := by kernel_rfl }
open Go.RowKit Go.Lib in
theorem Tryz.strings_Index_one (s : ByteArray) (c : UInt8) (w : World) :
  Calls Tryz.prog 82 #[.string s, .string ⟨#[c]⟩] w fun e w' => e = .returned (.int .i64 (Lib.indexByte s.data.toList c)) ∧ w' = w := Any.strings_Index_one Tryz.lays143 s c w
def Tryz.lays99_ren : Go.Shelf.Ren := ⟨fun | 99 => 72 | 206 => 92 | n => n, fun | 9 => 9 | 4 => 4 | 3 => 3 | n => n, fun | n => n⟩
theorem Tryz.lays99 : Go.Proofs.Lays.n99 Tryz.prog Tryz.lays99_ren := {
 mixed := by kernel_rfl
 f99 := Tryz.func72.trans (congrArg some (by kernel_rfl))
 f206 := Tryz.func92.trans (congrArg some (by kernel_rfl))
 t3 := Tryz.underlying3
 a3 := Tryz.isAgg3
 z3 := Tryz.sizeOf3
 v3 := Tryz.zeroValue3
 t4 := Tryz.underlying4
 a4 := Tryz.isAgg4
 z4 := Tryz.sizeOf4
 v4 := Tryz.zeroValue4
 t9 := Tryz.underlying9
 a9 := Tryz.isAgg9
 z9 := Tryz.sizeOf9
 v9 := Tryz.zeroValue9 }
open Go.RowKit Go.Lib in
theorem Tryz.strings_HasPrefix (s p : ByteArray) (w : World) :
  Calls Tryz.prog 72 #[.string s, .string p] w fun e w' => e = .returned (.bool (Lib.hasPrefix s.data.toList p.data.toList)) ∧ w' = w := Any.strings_HasPrefix Tryz.lays99 s p w
def Tryz.lays152_ren : Go.Shelf.Ren := ⟨fun | 152 => 121 | 137 => 85 | 119 => 125 | 224 => 114 | 225 => 113 | 217 => 101 | 266 => 116 | n => n, fun | 9 => 9 | 21 => 21 | 3 => 3 | 4 => 4 | 5 => 5 | 0 => 0 | 46 => 86 | n => n, fun | n => n⟩
theorem Tryz.lays152 : Go.Proofs.Lays.n152 Tryz.prog Tryz.lays152_ren := {
 mixed := by kernel_rfl
 f119 := Tryz.func125.trans (congrArg some (by kernel_rfl))
 f137 := Tryz.func85.trans (congrArg some (by kernel_rfl))
 f152 := Tryz.func121.trans (congrArg some (by kernel_rfl))
 f217 := Tryz.func101.trans (congrArg some (by kernel_rfl))
 f224 := Tryz.func114.trans (congrArg some (by kernel_rfl))
 f225 := Tryz.func113.trans (congrArg some (by kernel_rfl))
 f266 := Tryz.func116.trans (congrArg some (by kernel_rfl))
 t0 := Tryz.underlying0
 a0 := Tryz.isAgg0
 z0 := Tryz.sizeOf0
 v0 := Tryz.zeroValue0
 t3 := Tryz.underlying3
 a3 := Tryz.isAgg3
 z3 := Tryz.sizeOf3
 v3 := Tryz.zeroValue3
 t4 := Tryz.underlying4
 a4 := Tryz.isAgg4
 z4 := Tryz.sizeOf4
 v4 := Tryz.zeroValue4
 t5 := Tryz.underlying5
 a5 := Tryz.isAgg5
 z5 := Tryz.sizeOf5
 v5 := Tryz.zeroValue5
 t9 := Tryz.underlying9
 a9 := Tryz.isAgg9
 z9 := Tryz.sizeOf9
 v9 := Tryz.zeroValue9
 t21 := Tryz.underlying21
 a21 := Tryz.isAgg21
 z21 := Tryz.sizeOf21
 v21 := Tryz.zeroValue21
 t46 := Tryz.underlying86
 a46 := Tryz.isAgg86
 z46 := Tryz.sizeOf86
 v46 := Tryz.zeroValue86 }
open Go.RowKit Go.Lib in
theorem Tryz.strings_IndexRune_ascii (s : ByteArray) (r : Int) (w : World) (h0 : 0 ≤ r) (h1 : r < 128) :
  Calls Tryz.prog 121 #[.string s, .int .i32 r] w fun e w' => e = .returned (.int .i64 (Lib.indexByte s.data.toList r.toNat.toUInt8)) ∧ w' = w := Any.strings_IndexRune_ascii Tryz.lays152 s r w h0 h1
def Tryz.lays226_ren : Go.Shelf.Ren := ⟨fun | 226 => 122 | n => n, fun | 3 => 3 | 4 => 4 | n => n, fun | n => n⟩
theorem Tryz.lays226 : Go.Proofs.Lays.n226 Tryz.prog Tryz.lays226_ren := {
 mixed := by kernel_rfl
 f226 := Tryz.func122.trans (congrArg some (by kernel_rfl))
 t3 := Tryz.underlying3
 a3 := Tryz.isAgg3
 z3 := Tryz.sizeOf3
 v3 := Tryz.zeroValue3
 t4 := Tryz.underlying4
 a4 := Tryz.isAgg4
 z4 := Tryz.sizeOf4
 v4 := Tryz.zeroValue4 }
open Go.RowKit Go.Lib in
theorem Tryz.strings_shouldUseASCIISet (n : Int) (w : World) :
  Calls Tryz.prog 122 #[.int .i64 n] w fun e w' => e = .returned (.bool (decide (8 < n))) ∧ w' = w := Any.strings_shouldUseASCIISet Tryz.lays226 n w
def Tryz.lays153_ren : Go.Shelf.Ren := ⟨fun | 153 => 117 | 152 => 121 | 226 => 122 | 227 => 123 | 228 => 124 | 137 => 85 | 119 => 125 | 224 => 114 | 225 => 113 | 217 => 101 | 266 => 116 | n => n, fun | 9 => 9 | 3 => 3 | 4 => 4 | 5 => 5 | 21 => 21 | 117 => 136 | 116 => 135 | 0 => 0 | 46 => 86 | 124 => 141 | n => n, fun | n => n⟩
theorem Tryz.lays153 : Go.Proofs.Lays.n153 Tryz.prog Tryz.lays153_ren := {
 mixed := by kernel_rfl
 f119 := Tryz.func125.trans (congrArg some (by kernel_rfl))
 f137 := Tryz.func85.trans (congrArg some (by kernel_rfl))
 f152 := Tryz.func121.trans (congrArg some (by kernel_rfl))
 f153 := Tryz.func117.trans (congrArg some (by kernel_rfl))
 f217 := Tryz.func101.trans (congrArg some (by kernel_rfl))
 f224 := Tryz.func114.trans (congrArg some (by kernel_rfl))
 f225 := Tryz.func113.trans (congrArg some (by kernel_rfl))
 f226 := Tryz.func122.trans (congrArg some (by kernel_rfl))
 f227 := Tryz.func123.trans (congrArg some (by kernel_rfl))
 f228 := Tryz.func124.trans (congrArg some (by kernel_rfl))
 f266 := Tryz.func116.trans (congrArg some (by kernel_rfl))
 t0 := Tryz.underlying0
 a0 := Tryz.isAgg0
 z0 := Tryz.sizeOf0
 v0 := Tryz.zeroValue0
 t3 := Tryz.underlying3
 a3 := Tryz.isAgg3
 z3 := Tryz.sizeOf3
 v3 := Tryz.zeroValue3
 t4 := Tryz.underlying4
 a4 := Tryz.isAgg4
 z4 := Tryz.sizeOf4
 v4 := Tryz.zeroValue4
 t5 := Tryz.underlying5
 a5 := Tryz.isAgg5
 z5 := Tryz.sizeOf5
 v5 := Tryz.zeroValue5
 t9 := Tryz.underlying9
 a9 := Tryz.isAgg9
 z9 := Tryz.sizeOf9
 v9 := Tryz.zeroValue9
 t21 := Tryz.underlying21
 a21 := Tryz.isAgg21
 z21 := Tryz.sizeOf21
 v21 := Tryz.zeroValue21
 t46 := Tryz.underlying86
 a46 := Tryz.isAgg86
 z46 := Tryz.sizeOf86
 v46 := Tryz.zeroValue86
 t116 := Tryz.underlying135
 a116 := Tryz.isAgg135
 z116 := Tryz.sizeOf135
 t117 := Tryz.underlying136
 a117 := Tryz.isAgg136
 z117 := Tryz.sizeOf136
 v117 := Tryz.zeroValue136
 t124 := Tryz.underlying141
 a124 := Tryz.isAgg141
 z124 := Tryz.sizeOf141
 v124 := Tryz.zeroValue141 }
open Go.RowKit Go.Lib in
theorem Tryz.strings_IndexAny_long (hv116 : ∀ w, (zeroValue 135).run Tryz.prog w = .ok (.agg (Array.replicate 256 (.bool false))) w) (s chars : ByteArray) (w : World) (h2 : 2 ≤ chars.size) (h8 : 8 < s.size) (hs : s.size < 4294967281) (hcs : chars.size < 4294967281) (hascii : ∀ (j : Nat) b, chars.data.toList[j]? = some b → b.toNat < 128) :
  Calls Tryz.prog 117 #[.string s, .string chars] w fun e w' => e = .returned (.int .i64 (Lib.indexAny s.data.toList chars.data.toList)) ∧ w' = ((w.alloc (.cells (Lib.setCells chars.data.toList) 135)).alloc (.cells (Lib.setCells chars.data.toList) 135)) := Any.strings_IndexAny_long Tryz.lays153 hv116 (by kernel_rfl) s chars w h2 h8 hs hcs hascii
end Go.Proofs
end
section
set_option linter.unusedVariables false
set_option linter.unusedSimpArgs false
namespace Go.Proofs.YtbphobmohdclaaaGreatDoor.Vcg
open Go.RowKit
theorem Fun.wrap {P : Program} {G : Globs} {f : FuncId} {args : List C} {r : C} (he : entersB P f = true)
  (h : ∀ (R : Env) (vs : List Value), RepL R noLoc args vs → Calls P f vs.toArray R.w fun e w' => ∃ v, e = .returned v ∧ Below R.w.heap.size R.w w' ∧ ∀ R', Ext R R' → Rep R' noLoc r v) : Fun P G f args r 0 := by
 refine ⟨he, fun R vs hg ha => (h R vs ha).mono ?_⟩
 rintro e w' ⟨v, rfl, hb, hr⟩
 have st : PStep 0 0 R noLoc ⟨w', fun b o => b < R.w.heap.size ∧ R.M b o, R.F⟩ noLoc := PStep.mem (nx := 0) hb
 exact ⟨v, _, noLoc, rfl, rfl, st, hr _ st.ext⟩
def splS : List UInt8 → List (List UInt8)
 | [] => [[]]
 | b :: l => if b = 47 then [] :: splS l else match splS l with
  | [] => [[b]]
  | x :: r => (b :: x) :: r
theorem spl_ne (l : List UInt8) : splS l ≠ [] := by
 cases l with
 | nil => simp [splS]
 | cons b l =>
  unfold splS
  split
  ·simp
  ·split <;> simp
theorem spl_none : ∀ l : List UInt8, Lib.indexByte l 47 < 0 → splS l = [l]
 | [], _ => rfl
 | b :: l, h => by
  unfold Lib.indexByte at h
  by_cases hb : b = 47
  ·subst hb; simp at h
  ·have hb' : (b == 47) = false := by simpa using hb
   rw [hb'] at h
   simp only [Bool.false_eq_true, if_false] at h
   have hl : Lib.indexByte l 47 < 0 := by
    split at h
    ·rename_i g; have := beq_iff_eq.1 g; omega
    ·omega
   unfold splS
   rw [if_neg hb, spl_none l hl]
theorem index_ge : ∀ l : List UInt8, -1 ≤ Lib.indexByte l 47
 | [] => Int.le_refl _
 | b :: l => by
  have := index_ge l
  unfold Lib.indexByte
  split
  ·decide
  ·split
   ·decide
   ·omega
theorem spl_some : ∀ (l : List UInt8) (i : Nat), Lib.indexByte l 47 = (i : Int) → i < l.length ∧ splS l = l.take i :: splS (l.drop (i + 1))
 | [], i, h => by
  have h : (-1 : Int) = (i : Int) := h
  omega
 | b :: l, i, h => by
  unfold Lib.indexByte at h
  by_cases hb : b = 47
  ·subst hb
   simp at h
   obtain rfl : i = 0 := by omega
   refine ⟨by simp, ?_⟩
   conv => lhs; unfold splS
   simp
  ·have hb' : (b == 47) = false := by simpa using hb
   rw [hb'] at h
   simp only [Bool.false_eq_true, if_false] at h
   split at h
   ·omega
   ·rename_i g
    have g' : Lib.indexByte l 47 ≠ -1 := by simpa using g
    have hg := index_ge l
    obtain ⟨j, rfl⟩ : ∃ j, i = j + 1 := ⟨i - 1, by omega⟩
    have hj : Lib.indexByte l 47 = (j : Int) := by omega
    obtain ⟨h1, h2⟩ := spl_some l j hj
    refine ⟨by simp; omega, ?_⟩
    conv => lhs; unfold splS
    rw [if_neg hb, h2]
    simp
theorem nfold_app : ∀ (l : List UInt8) (a : List (List UInt8)) (cur : List UInt8), nfin (l.foldl nstep (a, cur)) = a ++ (match splS l with | [] => [] | x :: r => (cur ++ x) :: r).filter (fun x => !decide (x = []))
 | [], a, cur => by
  simp only [List.foldl_nil, nfin, splS]
  by_cases h : cur = [] <;> simp [h]
 | b :: l, a, cur => by
  simp only [List.foldl_cons]
  by_cases hb : b = 47
  ·subst hb
   have hn : nstep (a, cur) 47 = (if cur = [] then a else a ++ [cur], []) := by simp [nstep]
   rw [hn, nfold_app l]
   conv => rhs; unfold splS
   simp only [if_true]
   have hne := spl_ne l
   cases hs : splS l with
   | nil => exact absurd hs hne
   | cons x r => by_cases h : cur = [] <;> simp [h]
  ·have hn : nstep (a, cur) b = (a, cur ++ [b]) := by simp [nstep, hb]
   rw [hn, nfold_app l]
   conv => rhs; unfold splS
   rw [if_neg hb]
   have hne := spl_ne l
   cases hs : splS l with
   | nil => exact absurd hs hne
   | cons x r => simp
theorem names_spl (l : List UInt8) : names l = (splS l).filter (fun x => !decide (x = [])) := by
 unfold names
 rw [nfold_app]
 cases hs : splS l with
 | nil => rfl
 | cons x r => simp
theorem index_fun (l : List UInt8) : Fun Tryz.prog G0 82 [.str l, .str [47]] (.sc (.int .i64 (Lib.indexByte l 47))) 0 := by
 refine Fun.wrap (by kernel_rfl) fun R vs h => ?_
 obtain ⟨v1, us1, rfl, h1, h⟩ := repL_cons.1 h
 obtain ⟨v2, us2, rfl, h2, h⟩ := repL_cons.1 h
 rw [repL_nil] at h
 subst h
 rw [rep_str] at h1 h2
 subst h1 h2
 refine (Tryz.strings_Index_one ⟨l.toArray⟩ 47 R.w).mono ?_
 rintro e w' ⟨rfl, rfl⟩
 exact ⟨_, rfl, Below.refl _ _, fun R' _ => rep_sc.2 (by simp)⟩
set_option maxRecDepth 100000 in
set_option maxHeartbeats 1000000 in
theorem splitSeq1_iter (s : List UInt8) (hs : s.length ≤ 1000000) : Iter Tryz.prog G0 80 [] [.ptr 1 0, .ptr 0 0, .ptr 2 0] [[.str s], [.str [47]], [.sc (.int .i64 0)]] (strs (splS s)) := by
 refine Iter.of (fun _ => []) (by kernel_rfl) Tryz.func80 rfl rfl (Nat.le_of_ble_eq_true rfl) (by kernel_rfl) ?_; dsimp only [Tryz.f80, List.append_eq, List.cons_append, List.nil_append]
 intro l sf
 simp -dsimp only [push_cast, seval]
 refine loop (fun x : List UInt8 × Nat => ⟨[(0, .sc (.func (.yield l) #[] #[])), (1, .ptr 1 0), (2, .ptr 0 0), (3, .ptr 2 0)], [[.str x.1], [.str [47]], [.sc (.int .i64 0)]], 0, x.2⟩)
  (fun x => x.1.length ≤ 1000000 ∧ (∃ done, splS s = done ++ splS x.1 ∧ done.length = x.2) ∧ ∀ j, j < x.2 → sf j = false) (fun x => x.1.length) (s, 0) ⟨hs, ⟨[], rfl, rfl⟩, fun j hj => by omega⟩ ?_ ?_
 ·refine Weak.mk [] rfl rfl (Nat.zero_le _) rfl ?_ ?_ <;> simp -dsimp only [WeakTm, WeakBx, CLe, CLeL, push_cast, seval] <;> omega
 ·rintro ⟨r, k⟩ hx
  simp only at hx ⊢
  have hr := hx.1
  have hsf := hx.2.2
  obtain ⟨done, hd, hdl⟩ := hx.2.1
  clear hx
  simp -dsimp only [push_cast, seval]
  refine call (index_fun r) ?_
  simp -dsimp only [push_cast, seval]
  by_cases hi : Lib.indexByte r 47 < 0
  ·simp -dsimp only [push_cast, seval, hi]
   have hk : (strs (splS s))[k]? = some [.str r] := by
    rw [hd, spl_none r hi]; simp [← hdl]
   rw [hk]
   simp -dsimp only [push_cast, seval]
   refine ⟨by simp -dsimp only [WeakTm, WeakBx, CLe, CLeL, push_cast, seval], hsf, ?_⟩
   cases hk2 : sf k with
   | true => exact .inr ⟨Nat.succ_pos k, hk2⟩
   | false =>
    refine .inl ⟨?_, fun j (hj : j < k + 1) => ?_⟩
    ·rw [hd, spl_none r hi]; simp [hdl]
    ·rcases Nat.lt_or_ge j k with g | g
     ·exact hsf j g
     ·rw [show j = k by omega]; exact hk2
  ·have hg := index_ge r
   obtain ⟨i, hii⟩ : ∃ i : Nat, Lib.indexByte r 47 = (i : Int) := ⟨(Lib.indexByte r 47).toNat, by omega⟩
   obtain ⟨hir, hsp⟩ := spl_some r i hii
   have hk : (strs (splS s))[k]? = some [.str (r.take i)] := by
    rw [hd, hsp]; simp [← hdl]
   rw [hii] at hi ⊢
   simp -dsimp only [push_cast, seval, hi]
   rw [hk]
   simp -dsimp only [push_cast, seval]
   refine ⟨by omega, by omega, by simp -dsimp only [WeakTm, WeakBx, CLe, CLeL, push_cast, seval], hsf, br (fun hk2 => ?_) (fun hk2 => ?_)⟩
   ·simp -dsimp only [push_cast, seval]
    exact .inr ⟨Nat.succ_pos k, hk2⟩
   ·simp -dsimp only [push_cast, seval]
    refine ⟨by omega, by omega, (r.drop (i + 1), k + 1), ⟨by simp; omega, ⟨done ++ [r.take i], by rw [hd, hsp]; simp, by simp [hdl]⟩, fun j (hj : j < k + 1) => ?_⟩, by simp; omega, Weak.mk [] rfl rfl (Nat.zero_le _) rfl ?_ ?_⟩
    ·rcases Nat.lt_or_ge j k with g | g
     ·exact hsf j g
     ·rw [show j = k by omega]; exact hk2
    ·simp -dsimp only [WeakTm, WeakBx, CLe, CLeL, push_cast, seval]
    ·simp -dsimp only [WeakTm, WeakBx, CLe, CLeL, push_cast, seval]
theorem splitSeq_fun (s : List UInt8) : FunB Tryz.prog G0 66 [.str s, .str [47], .sc (.int .i64 0)] [] 0 (.clo (.func 80) [] [.ptr 1 0, .ptr 0 0, .ptr 2 0]) [[.str s], [.str [47]], [.sc (.int .i64 0)]] 0 := by
 refine FunB.of (fun _ => []) (by kernel_rfl) Tryz.func66 rfl rfl (Nat.le_of_ble_eq_true rfl) (by kernel_rfl) (Nat.le_of_ble_eq_true rfl) ?_; dsimp only [Tryz.f66, List.append_eq, List.cons_append, List.nil_append]
 simp -dsimp only [push_cast, seval]
 exact ⟨[], rfl, rfl, by simp -dsimp only [WeakTm, WeakBx, CLe, CLeL, push_cast, seval], by simp -dsimp only [WeakTm, WeakBx, CLe, CLeL, push_cast, seval]⟩
theorem SplitSeq_fun (s : List UInt8) : FunB Tryz.prog G0 104 [.str s, .str [47]] [] 0 (.clo (.func 80) [] [.ptr 1 0, .ptr 0 0, .ptr 2 0]) [[.str s], [.str [47]], [.sc (.int .i64 0)]] 0 := by
 refine FunB.of (fun _ => []) (by kernel_rfl) Tryz.func104 rfl rfl (Nat.le_of_ble_eq_true rfl) (by kernel_rfl) (Nat.le_of_ble_eq_true rfl) ?_; dsimp only [Tryz.f104, List.append_eq, List.cons_append, List.nil_append]
 simp -dsimp only [push_cast, seval]
 refine callB [] [] (splitSeq_fun s) rfl (by simp) (by simp) (fun i hi => by cases hi) (by simp -dsimp only [push_cast, seval]) rfl ?_
 simp -dsimp only [push_cast, seval]
 exact ⟨[], rfl, rfl, by simp -dsimp only [WeakTm, WeakBx, CLe, CLeL, push_cast, seval], by simp -dsimp only [WeakTm, WeakBx, CLe, CLeL, push_cast, seval]⟩
end Go.Proofs.YtbphobmohdclaaaGreatDoor.Vcg
end
section
set_option linter.unusedVariables false
set_option linter.unusedSimpArgs false
namespace Go.Proofs.YtbphobmohdclaaaGreatDoor.Vcg
open Go.RowKit
abbrev full (x : List UInt8) : Bool := !decide (x = [])
def cnt (xs : List (List UInt8)) (k : Nat) : Nat := ((xs.take k).filter full).length
theorem cnt_succ (xs : List (List UInt8)) (k : Nat) (x : List UInt8) (h : xs[k]? = some x) : cnt xs (k + 1) = if x = [] then cnt xs k else cnt xs k + 1 := by
 unfold cnt
 rw [List.take_add_one, h]
 by_cases hx : x = [] <;> simp [hx]
theorem cnt_get (xs : List (List UInt8)) (k : Nat) (x : List UInt8) (h : xs[k]? = some x) (hx : x ≠ []) : (xs.filter full)[cnt xs k]? = some x := by
 have hk : k < xs.length := (List.getElem?_eq_some_iff.1 h).1
 have e : xs = xs.take k ++ x :: xs.drop (k + 1) := by
  have := List.take_append_drop k xs
  rw [List.drop_eq_getElem_cons hk] at this
  rw [List.getElem?_eq_getElem hk] at h
  cases h; exact this.symm
 have e2 : xs.filter full = (xs.take k).filter full ++ x :: (xs.drop (k + 1)).filter full := by
  conv => lhs; rw [e]
  rw [List.filter_append, List.filter_cons]
  simp [hx]
 rw [e2]
 unfold cnt
 simp
theorem cnt_all (xs : List (List UInt8)) : cnt xs xs.length = (xs.filter full).length := by unfold cnt; rw [List.take_length]
theorem cnt_before {xs : List (List UInt8)} {sf : Nat → Bool} : ∀ k, k ≤ xs.length → (∀ j, j < k → (full (xs.getD j []) && sf (cnt xs j)) = false) → ∀ j, j < cnt xs k → sf j = false
 | 0, _, _, j, hj => by simp [cnt] at hj
 | k + 1, hk, h, j, hj => by
  have ih := cnt_before k (by omega) fun i hi => h i (by omega)
  have hx : xs[k]? = some (xs.getD k []) := by rw [List.getD_eq_getElem?_getD, List.getElem?_eq_getElem (by omega)]; rfl
  rw [cnt_succ xs k _ hx] at hj
  by_cases he : xs.getD k [] = []
  ·rw [if_pos he] at hj; exact ih j hj
  ·rw [if_neg he] at hj
   rcases Nat.lt_or_ge j (cnt xs k) with g | g
   ·exact ih j g
   ·have h2 := h k (by omega)
    have h3 : full (xs.getD k []) = true := by simp only [full, Bool.not_eq_true', decide_eq_false_iff_not]; exact he
    rw [h3, Bool.true_and] at h2
    rw [show j = cnt xs k by omega]; exact h2
theorem strs_get {xs : List (List UInt8)} {k : Nat} {it : List C} (h : (strs xs)[k]? = some it) : ∃ x, xs[k]? = some x ∧ it = [.str x] := by
 rw [List.getElem?_map] at h
 cases hq : xs[k]? with
 | none => rw [hq] at h; cases h
 | some x => rw [hq] at h; cases h; exact ⟨x, rfl, rfl⟩
set_option maxRecDepth 100000 in
set_option maxHeartbeats 1000000 in
theorem names1_iter (p : List UInt8) (hs : p.length ≤ 1000000) : Iter Tryz.prog G0 103 [] [.row [.str p]] [] (strs (names p)) := by
 rw [names_spl]
 refine Iter.of (fun _ => []) (by kernel_rfl) Tryz.func103 rfl rfl (Nat.le_of_ble_eq_true rfl) (by kernel_rfl) ?_; dsimp only [Tryz.f103, List.append_eq, List.cons_append, List.nil_append]
 intro l sf
 simp -dsimp only [push_cast, seval]
 refine callB [] [] (SplitSeq_fun p) rfl (by simp) (by simp) (fun i hi => by cases hi) (by simp -dsimp only [push_cast, seval]) rfl ?_
 simp -dsimp only [push_cast, seval]
 refine range (strs (splS p)) (fun k => full ((splS p).getD k []) && sf (cnt (splS p) k)) 1 (fun k => ⟨[], [[.sc (.func (.yield l) #[] #[])]], 0, cnt (splS p) k⟩) (splitSeq1_iter p hs) (by simp -dsimp only [push_cast, seval]) (by simp -dsimp only [push_cast, seval]) (by simp -dsimp only [push_cast, seval]) (Nat.zero_le _) (by simp -dsimp only [push_cast, seval]) (fun it hit => ?_) (fun k _ => rfl) ?_ (fun k it hk hsf => ?_) (fun hsf => ?_)
 ·obtain ⟨x, _, rfl⟩ := List.mem_map.1 hit; rfl
 ·exact Weak.mk [] rfl rfl (Nat.le_refl _) rfl (by simp -dsimp only [WeakTm, WeakBx, CLe, CLeL, push_cast, seval]) (by simp -dsimp only [WeakTm, WeakBx, CLe, CLeL, push_cast, seval])
 ·obtain ⟨x, hx, rfl⟩ := strs_get hk
  have hxd : (splS p).getD k [] = x := by rw [List.getD_eq_getElem?_getD, hx]; rfl
  have hkl : k < (splS p).length := (List.getElem?_eq_some_iff.1 hx).1
  have hcs := cnt_succ (splS p) k x hx
  have hbef := cnt_before (xs := splS p) (sf := sf) k (by omega) hsf
  by_cases he : x = []
  ·simp -dsimp only [push_cast, seval, he]
   refine ⟨?_, Weak.mk [] rfl rfl (Nat.le_refl _) ?_ (by simp -dsimp only [WeakTm, WeakBx, CLe, CLeL, push_cast, seval]) (by simp -dsimp only [WeakTm, WeakBx, CLe, CLeL, push_cast, seval])⟩
   ·rw [hxd, he]; rfl
   ·simp [hcs, he, St.wt]
  ·have hget := cnt_get (splS p) k x hx he
   have hg2 : (strs ((splS p).filter full))[cnt (splS p) k]? = some [.str x] := by rw [List.getElem?_map, hget]; rfl
   simp -dsimp only [push_cast, seval, he]
   rw [hg2]
   simp -dsimp only [push_cast, seval]
   refine ⟨by simp -dsimp only [WeakTm, WeakBx, CLe, CLeL, push_cast, seval], hbef, br (fun h2 => ?_) (fun h2 => ?_)⟩
   ·simp -dsimp only [push_cast, seval]
    refine ⟨by rw [hxd, h2]; simp [full, he], ⟨[], [[.sc (.func (.yield l) #[] #[])]], 0, cnt (splS p) k + 1⟩, rfl, Weak.mk [] rfl rfl (Nat.le_refl _) rfl (by simp -dsimp only [WeakTm, WeakBx, CLe, CLeL, push_cast, seval]) (by simp -dsimp only [WeakTm, WeakBx, CLe, CLeL, push_cast, seval]), ?_⟩
    simp -dsimp only [push_cast, seval]
    exact .inr ⟨Nat.succ_pos _, h2⟩
   ·simp -dsimp only [push_cast, seval]
    refine ⟨by rw [h2, Bool.and_false], Weak.mk [] rfl rfl (Nat.le_refl _) ?_ (by simp -dsimp only [WeakTm, WeakBx, CLe, CLeL, push_cast, seval]) (by simp -dsimp only [WeakTm, WeakBx, CLe, CLeL, push_cast, seval])⟩
    simp [hcs, he, St.wt]
 ·have hall := cnt_all (splS p)
  have hbef := cnt_before (xs := splS p) (sf := sf) (splS p).length (Nat.le_refl _) fun j hj => hsf j (by simpa using hj)
  simp -dsimp only [push_cast, seval]
  refine .inl ⟨?_, ?_⟩
  ·simp [hall]
  ·simpa using hbef
end Go.Proofs.YtbphobmohdclaaaGreatDoor.Vcg
end
section
set_option linter.unusedVariables false
set_option linter.unusedSimpArgs false
namespace Go.Proofs.YtbphobmohdclaaaGreatDoor.Vcg
open Go.RowKit
theorem names_call (p : List UInt8) : Fun Tryz.prog G0 87 [.str p] (.clo (.func 103) [] [.row [.str p]]) 0 := by
 refine Fun.of (fun _ => []) (by kernel_rfl) Tryz.func87 rfl rfl (Nat.le_of_ble_eq_true rfl) (by kernel_rfl) ?_; dsimp only [Tryz.f87, List.append_eq, List.cons_append, List.nil_append]
 simp -dsimp only [push_cast, seval]
 exact ⟨[], rfl, rfl, by simp -dsimp only [WeakTm, WeakBx, CLe, CLeL, push_cast, seval]⟩
set_option maxRecDepth 100000 in
set_option maxHeartbeats 1000000 in
theorem appendSeq_fun (xs : List (List UInt8)) (f : FuncId) (cap : List C) (hsel : C.selL (fpDrop 1) cap = cap) (hit : Iter Tryz.prog G0 f [] cap [] (strs xs)) (hx : xs.length ≤ 1000001) : Fun Tryz.prog G0 102 [.sc (.slice none 0 0), .clo (.func f) [] cap] (.own 0 9 1 (strs xs)) 1 := by
 refine Fun.of (fun _ => []) (by kernel_rfl) Tryz.func102 rfl rfl (Nat.le_of_ble_eq_true rfl) (by kernel_rfl) ?_; dsimp only [Tryz.f102, List.append_eq, List.cons_append, List.nil_append]
 simp -dsimp only [push_cast, seval]
 refine range (strs xs) (fun _ => false) 1 (fun k => ⟨[], [[.own 0 9 1 (strs (xs.take k))]], 1, 0⟩) hit (by simp -dsimp only [push_cast, seval]) hsel (by simp -dsimp only [push_cast, seval]) (Nat.zero_le _) (by simp -dsimp only [push_cast, seval]) (fun it h => ?_) (fun k _ => rfl) ?_ (fun k it hk hsf => ?_) (fun hsf => ?_)
 ·obtain ⟨x, _, rfl⟩ := List.mem_map.1 h; rfl
 ·exact Weak.mk [.inr (9, 1)] rfl rfl (Nat.le_refl _) rfl (by simp -dsimp only [WeakTm, WeakBx, CLe, CLeL, push_cast, seval]) (by simp -dsimp only [WeakTm, WeakBx, CLe, CLeL, push_cast, seval])
 ·obtain ⟨x, hx2, rfl⟩ := strs_get hk
  have hkl : k < xs.length := (List.getElem?_eq_some_iff.1 hx2).1
  simp -dsimp only [push_cast, seval]
  simp only [List.length_take]
  refine ⟨by omega, by omega, Weak.mk [.inl 0] rfl rfl (Nat.le_refl _) rfl (by simp -dsimp only [WeakTm, WeakBx, CLe, CLeL, push_cast, seval]) ?_⟩
  simp -dsimp only [WeakTm, WeakBx, CLe, CLeL, push_cast, seval]
  rw [List.take_add_one, hx2]
  rfl
 ·simp -dsimp only [push_cast, seval]
  refine ⟨[.inl 0], rfl, rfl, ?_⟩
  simp -dsimp only [WeakTm, WeakBx, CLe, CLeL, push_cast, seval]
  simp
theorem collect_fun (xs : List (List UInt8)) (f : FuncId) (cap : List C) (hsel : C.selL (fpDrop 1) cap = cap) (hfrz : C.frzL cap = cap) (hit : Iter Tryz.prog G0 f [] cap [] (strs xs)) (hx : xs.length ≤ 1000001) : Fun Tryz.prog G0 86 [.clo (.func f) [] cap] (.own 0 9 1 (strs xs)) 1 := by
 refine Fun.of (fun _ => []) (by kernel_rfl) Tryz.func86 rfl rfl (Nat.le_of_ble_eq_true rfl) (by kernel_rfl) ?_; dsimp only [Tryz.f86, List.append_eq, List.cons_append, List.nil_append]
 simp -dsimp only [push_cast, seval, hfrz]
 refine call (appendSeq_fun xs f cap hsel hit hx) ?_
 simp -dsimp only [push_cast, seval]
 exact ⟨[.inl 0], rfl, rfl, by simp -dsimp only [WeakTm, WeakBx, CLe, CLeL, push_cast, seval]⟩
theorem collectNames (p : List UInt8) (hp : p.length ≤ 1000000) : Fun Tryz.prog G0 86 [.clo (.func 103) [] [.row [.str p]]] (.own 0 9 1 (strs (names p))) 1 :=
 collect_fun (names p) _ _ (by simp -dsimp only [push_cast, seval]) (by simp -dsimp only [push_cast, seval]) (names1_iter p hp) (by have := names_size p; omega)
theorem hasPrefix_fun (s p : List UInt8) : Fun Tryz.prog G0 72 [.str s, .str p] (.sc (.bool (Lib.hasPrefix s p))) 0 := by
 refine Fun.wrap (by kernel_rfl) fun R vs h => ?_
 obtain ⟨v1, us1, rfl, h1, h⟩ := repL_cons.1 h
 obtain ⟨v2, us2, rfl, h2, h⟩ := repL_cons.1 h
 rw [repL_nil] at h
 subst h
 rw [rep_str] at h1 h2
 subst h1 h2
 refine (Tryz.strings_HasPrefix ⟨s.toArray⟩ ⟨p.toArray⟩ R.w).mono ?_
 rintro e w' ⟨rfl, rfl⟩
 exact ⟨_, rfl, Below.refl _ _, fun R' _ => rep_sc.2 (by simp)⟩
theorem join_fun (xs : List (List UInt8)) (sep : List UInt8) (hx : xs.length ≤ 1000001) (hl : (Lib.join xs sep).length ≤ 100000000) : Fun Tryz.prog G0 59 [.sl 1 (strs xs), .str sep] (.str (Lib.join xs sep)) 0 := by
 refine Fun.wrap (by kernel_rfl) fun R vs h => ?_
 obtain ⟨v1, us1, rfl, h1, h⟩ := repL_cons.1 h
 obtain ⟨v2, us2, rfl, h2, h⟩ := repL_cons.1 h
 rw [repL_nil] at h
 subst h
 rw [rep_str] at h2
 subst h2
 obtain ⟨a, cap, rfl, hc1, hc2, hr⟩ := rep_sl.1 h1
 have hlen : (strs xs).length = xs.length := by simp
 have hmap : (xs.map fun x => ByteArray.mk x.toArray).map (·.data.toList) = xs := by
  rw [List.map_map]
  conv => rhs; rw [← List.map_id xs]
  exact List.map_congr_left fun x _ => by simp
 rcases hr with hr | ⟨b, o, rfl, hr⟩
 ·have : xs = [] := by simpa using hr
  subst this
  refine (Tryz.strings_Join_none a cap ⟨sep.toArray⟩ R.w).mono ?_
  rintro e w' ⟨rfl, rfl⟩
  exact ⟨_, rfl, Below.refl _ _, fun R' _ => rep_str.2 (by simp [Lib.join])⟩
 ·by_cases hx0 : xs = []
  ·subst hx0
   refine (Tryz.strings_Join_none _ cap ⟨sep.toArray⟩ R.w).mono ?_
   rintro e w' ⟨rfl, rfl⟩
   exact ⟨_, rfl, Below.refl _ _, fun R' _ => rep_str.2 (by simp [Lib.join])⟩
  ·have hcells : ∀ (j : Nat) x, (xs.map fun x => ByteArray.mk x.toArray)[j]? = some x → R.w.cell? ⟨b, o + j, none⟩ = some (.string x) := fun j x hj => by
    rw [List.getElem?_map] at hj
    cases hq : xs[j]? with
    | none => rw [hq] at hj; cases hj
    | some y =>
     rw [hq] at hj; cases hj
     obtain ⟨_, g⟩ := repRows_get hr j [.str y] (by rw [List.getElem?_map, hq]; rfl)
     obtain ⟨⟨v, g1, _, g2, _⟩, _⟩ := repCells_cons.1 g
     rw [rep_str] at g2
     subst g2
     simpa using g1
   have hb : b < R.w.heap.size := by
    cases xs with
    | nil => exact absurd rfl hx0
    | cons x r =>
     exact cell_lt (hcells 0 ⟨x.toArray⟩ rfl)
   have hj := Tryz.strings_Join b o cap (xs.map fun x => ByteArray.mk x.toArray) ⟨sep.toArray⟩ R.w hcells hb (by simp; omega) (by simpa using hc1) (by rw [hmap]; simp; omega)
   rw [hmap] at hj
   simp only [List.length_map] at hj
   rw [hlen]
   refine hj.mono ?_
   rintro e w' ⟨rfl, hbl⟩
   exact ⟨_, rfl, hbl, fun R' _ => rep_str.2 (by simp)⟩
end Go.Proofs.YtbphobmohdclaaaGreatDoor.Vcg
end
section
set_option linter.unusedVariables false
set_option linter.unusedSimpArgs false
namespace Go.Proofs.YtbphobmohdclaaaGreatDoor.Vcg
open Go.RowKit
def put (a : Bool) (xs : List (List UInt8)) (s : Bool) : List UInt8 := (if a then [47] else []) ++ Lib.join xs [47] ++ (if s && !decide (xs = []) then [47] else [])
def joinP (xs : List (List UInt8)) : List UInt8 := if xs = [] then [47] else 47 :: Lib.join xs [47]
set_option maxRecDepth 100000 in
set_option maxHeartbeats 1000000 in
theorem joinP_fun (xs : List (List UInt8)) (hx : xs.length ≤ 1000001) (hl : (Lib.join xs [47]).length ≤ 100000000) : Fun Tryz.prog G0 88 [.sl 1 (strs xs)] (.str (joinP xs)) 0 := by
 refine Fun.of (fun _ => []) (by kernel_rfl) Tryz.func88 rfl rfl (Nat.le_of_ble_eq_true rfl) (by kernel_rfl) ?_; dsimp only [Tryz.f88, List.append_eq, List.cons_append, List.nil_append]
 simp -dsimp only [push_cast, seval]
 by_cases h : xs = []
 ·simp -dsimp only [push_cast, seval, h]
  exact ⟨[], rfl, rfl, by simp only [joinP, h]; simp -dsimp only [WeakTm, WeakBx, CLe, CLeL, push_cast, seval]⟩
 ·have h' : ¬ ((xs.length : Int) = 0) := by have := List.length_pos_iff.2 h; omega
  simp -dsimp only [push_cast, seval, h']
  refine call ((join_fun xs [47] hx hl)) ?_
  simp -dsimp only [push_cast, seval]
  exact ⟨by omega, [], rfl, rfl, by simp only [joinP, if_neg h]; simp -dsimp only [WeakTm, WeakBx, CLe, CLeL, push_cast, seval]⟩
def underP (p q : List UInt8) : Bool := decide (p = q) || decide (q = [47]) || Lib.hasPrefix p (q ++ [47])
set_option maxHeartbeats 1000000 in
theorem underP_fun (p q : List UInt8) (hq : q.length ≤ 1000000) : Fun Tryz.prog G0 52 [.str p, .str q] (boolC (underP p q)) 0 := by
 refine Fun.of (fun _ => []) (by kernel_rfl) Tryz.func52 rfl rfl (Nat.le_of_ble_eq_true rfl) (by kernel_rfl) ?_; dsimp only [Tryz.f52, List.append_eq, List.cons_append, List.nil_append]
 simp -dsimp only [push_cast, seval]
 by_cases h1 : p = q
 ·simp -dsimp only [push_cast, seval, h1]
  exact ⟨[], rfl, rfl, by simp -dsimp only [WeakTm, WeakBx, CLe, CLeL, push_cast, seval]; simp [underP]⟩
 ·by_cases h2 : q = [47]
  ·subst h2
   simp -dsimp only [push_cast, seval, h1]
   exact ⟨[], rfl, rfl, by simp -dsimp only [WeakTm, WeakBx, CLe, CLeL, push_cast, seval]; simp [underP]⟩
  ·simp -dsimp only [push_cast, seval, h1, h2]
   refine ⟨by omega, ?_⟩
   refine call (hasPrefix_fun p (q ++ [47])) ?_
   simp -dsimp only [push_cast, seval]
   exact ⟨[], rfl, rfl, by simp -dsimp only [WeakTm, WeakBx, CLe, CLeL, push_cast, seval]; simp [underP, h1, h2]⟩
end Go.Proofs.YtbphobmohdclaaaGreatDoor.Vcg
end
section
set_option linter.unusedVariables false
set_option linter.unusedSimpArgs false
namespace Go.Proofs.YtbphobmohdclaaaGreatDoor.Vcg
open Go.RowKit
theorem indexByte_fun (l : List UInt8) (c : UInt8) : Fun Tryz.prog G0 85 [.str l, .sc (.int .u8 (c.toNat : Int))] (.sc (.int .i64 (Lib.indexByte l c))) 0 := by
 refine Fun.wrap (by kernel_rfl) fun R vs h => ?_
 obtain ⟨v1, us1, rfl, h1, h⟩ := repL_cons.1 h
 obtain ⟨v2, us2, rfl, h2, h⟩ := repL_cons.1 h
 rw [repL_nil] at h
 subst h
 rw [rep_str] at h1
 rw [rep_sc] at h2
 subst h1 h2
 refine (Tryz.strings_IndexByte ⟨l.toArray⟩ (c.toNat : Int) R.w).mono ?_
 rintro e w' ⟨rfl, rfl⟩
 exact ⟨_, rfl, Below.refl _ _, fun R' _ => rep_sc.2 (by simp)⟩
theorem validRune_fun (r : Int) : Fun Tryz.prog G0 125 [.sc (.int .i32 r)] (.sc (.bool (Lib.validRune r))) 0 := by
 refine Fun.wrap (by kernel_rfl) fun R vs h => ?_
 obtain ⟨v1, us1, rfl, h1, h⟩ := repL_cons.1 h
 rw [repL_nil] at h
 subst h
 rw [rep_sc] at h1
 subst h1
 refine (Tryz.utf8_ValidRune r R.w).mono ?_
 rintro e w' ⟨rfl, rfl⟩
 exact ⟨_, rfl, Below.refl _ _, fun R' _ => rep_sc.2 rfl⟩
theorem enc_list (r : Int) (hv : Utf8.valid r = true) (h128 : 128 ≤ r) : ∃ l c, (Utf8.encode r).data.toList = l ++ [c] ∧ 1 ≤ l.length ∧ l.length ≤ 3 ∧ 128 ≤ c.toNat := by
 obtain ⟨h1, h2, h3⟩ := encode_facts r hv h128
 generalize Utf8.encode r = bs at h1 h2 h3 ⊢
 have hs : bs.data.toList.length = bs.size := Array.length_toList
 have h4 := h3 (by omega)
 have h5 : bs.data.toList[bs.size - 1]? = some (bs[bs.size - 1]'(by omega)) := Lib.data_getElem? bs _ (by omega)
 generalize bs[bs.size - 1]'(by omega) = c at h4 h5
 generalize bs.data.toList = l at hs h5
 refine ⟨l.take (bs.size - 1), c, ?_, by simp; omega, by simp; omega, h4⟩
 have := List.take_append_drop (bs.size - 1) l
 have hd : l.drop (bs.size - 1) = [c] := by
  have hlt : bs.size - 1 < l.length := by omega
  rw [List.drop_eq_getElem_cons hlt]
  rw [List.getElem?_eq_getElem hlt] at h5
  cases h5
  rw [List.drop_eq_nil_of_le (by omega)]
 rw [hd] at this
 exact this.symm
set_option maxRecDepth 100000 in
set_option maxHeartbeats 2000000 in
theorem indexRune_hi (r : Int) (h1 : 128 ≤ r) (hv : Utf8.valid r = true) (h2 : r ≠ 65533) : Fun Tryz.prog G0 121 [.str [47, 0], .sc (.int .i32 r)] (.sc (.int .i64 (-1))) 0 := by
 have hlv : Lib.validRune r = true := by
  have := validRune_eq r
  rw [hv] at this
  exact this.symm
 obtain ⟨l, c, he, hl1, hl3, hc⟩ := enc_list r hv h1
 have ha : 0 ≤ r := by omega
 have hb : ¬ r < 128 := by omega
 have hc0 : ¬ ((0:Int) = (c.toNat:Int)) := by omega
 have hix := indexByte_fun [] c
 match l, hl1, hl3 with
 | [x], _, _ =>
  refine Fun.of (fun _ => []) (by kernel_rfl) Tryz.func121 rfl rfl (Nat.le_of_ble_eq_true rfl) (by kernel_rfl) ?_; dsimp only [Tryz.f121, List.append_eq, List.cons_append, List.nil_append]
  simp -dsimp only [push_cast, seval, ha, hb, h2]
  refine call (validRune_fun r) ?_
  simp -dsimp only [push_cast, seval, hlv, he]
  refine loop (fun k : Nat => ⟨[(0, .str [47, 0]), (1, .sc (.int .i32 r)), (7, .str [x, c]), (8, .sc (.int .i64 1)), (9, .sc (.int .i64 1)), (10, .sc (.int .i64 0))], [], 0, 0⟩) (fun k => True) (fun k => 0) 0 trivial ?_ ?_
  ·exact Weak.mk [] rfl rfl (Nat.le_refl _) rfl (by simp -dsimp only [WeakTm, WeakBx, CLe, CLeL, push_cast, seval]) (by simp -dsimp only [WeakTm, WeakBx, CLe, CLeL, push_cast, seval])
  ·intro k _
   simp -dsimp only [push_cast, seval, hc0]
   refine callP hix ?_
   have hi0 : Lib.indexByte [] c = -1 := rfl
   simp -dsimp only [push_cast, seval, hi0]
   exact ⟨[], rfl, rfl, by simp -dsimp only [WeakTm, WeakBx, CLe, CLeL, push_cast, seval]⟩
 | [x, y], _, _ =>
  refine Fun.of (fun _ => []) (by kernel_rfl) Tryz.func121 rfl rfl (Nat.le_of_ble_eq_true rfl) (by kernel_rfl) ?_; dsimp only [Tryz.f121, List.append_eq, List.cons_append, List.nil_append]
  simp -dsimp only [push_cast, seval, ha, hb, h2]
  refine call (validRune_fun r) ?_
  simp -dsimp only [push_cast, seval, hlv, he]
  refine loop (fun k : Nat => ⟨[(0, .str [47, 0]), (9, .sc (.int .i64 2))], [], 0, 0⟩) (fun k => True) (fun k => 0) 0 trivial ?_ ?_
  ·exact Weak.mk [] rfl rfl (Nat.le_refl _) rfl (by simp -dsimp only [WeakTm, WeakBx, CLe, CLeL, push_cast, seval]) (by simp -dsimp only [WeakTm, WeakBx, CLe, CLeL, push_cast, seval])
  ·intro k _
   simp -dsimp only [push_cast, seval]
   exact ⟨[], rfl, rfl, by simp -dsimp only [WeakTm, WeakBx, CLe, CLeL, push_cast, seval]⟩
 | [x, y, z], _, _ =>
  refine Fun.of (fun _ => []) (by kernel_rfl) Tryz.func121 rfl rfl (Nat.le_of_ble_eq_true rfl) (by kernel_rfl) ?_; dsimp only [Tryz.f121, List.append_eq, List.cons_append, List.nil_append]
  simp -dsimp only [push_cast, seval, ha, hb, h2]
  refine call (validRune_fun r) ?_
  simp -dsimp only [push_cast, seval, hlv, he]
  refine loop (fun k : Nat => ⟨[(0, .str [47, 0]), (9, .sc (.int .i64 3))], [], 0, 0⟩) (fun k => True) (fun k => 0) 0 trivial ?_ ?_
  ·exact Weak.mk [] rfl rfl (Nat.le_refl _) rfl (by simp -dsimp only [WeakTm, WeakBx, CLe, CLeL, push_cast, seval]) (by simp -dsimp only [WeakTm, WeakBx, CLe, CLeL, push_cast, seval])
  ·intro k _
   simp -dsimp only [push_cast, seval]
   exact ⟨[], rfl, rfl, by simp -dsimp only [WeakTm, WeakBx, CLe, CLeL, push_cast, seval]⟩
set_option maxHeartbeats 4000000 in
set_option maxRecDepth 1000000 in
theorem indexRune_err (w : World) : Calls Tryz.prog 121 #[.string ⟨#[47, 0]⟩, .int .i32 65533] w fun e w' => e = .returned (.int .i64 (-1)) ∧ Below w.heap.size w w' := by
 go_enter Tryz.func121, Tryz.ntmps121
 go_wp2
 go_loopg [5, 6] 2 (fun g _ _ wx => ∃ i : Nat, i + g = 2 ∧ wx = w.iter ⟨#[47, 0]⟩ i)
 case atStart => exact ⟨0, by omega, rfl⟩
 case round =>
  obtain ⟨i, hig, rfl⟩ := hrel
  cases gk with
  | zero =>
   obtain rfl : i = 2 := by omega
   have hnx := fun ty => run_next_end (P := Tryz.prog) w ⟨#[47, 0]⟩ 2 ty (by decide)
   go_wp2
   go_ret
   exact ⟨rfl, (Below.refl _ _).alloc (Nat.le_refl _) _⟩
  | succ g =>
   have hi : i < (ByteArray.mk #[47, 0]).size := by show i < 2; omega
   have hx128 : ((ByteArray.mk #[47, 0])[i]'hi).toNat < 128 := by
    have : i = 0 ∨ i = 1 := by omega
    rcases this with rfl | rfl
    ·exact (by decide : (47 : UInt8).toNat < 128)
    ·exact (by decide : (0 : UInt8).toNat < 128)
   have hnx := fun ty => run_next_ascii (P := Tryz.prog) w ⟨#[47, 0]⟩ i ty hi hx128
   have hne : ((((ByteArray.mk #[47, 0])[i]'hi).toNat : Int) == 65533) = false := by
    rw [beq_eq_false_iff_ne]; omega
   go_wp2
   go_roundg g
   case measure => omega
   case rel => exact ⟨i + 1, by omega, rfl⟩
end Go.Proofs.YtbphobmohdclaaaGreatDoor.Vcg
end
section
set_option linter.unusedVariables false
set_option linter.unusedSimpArgs false
namespace Go.Proofs.YtbphobmohdclaaaGreatDoor.Vcg
open Go.RowKit Go.Shelf
def bad (b : UInt8) : Bool := decide (b = 47) || decide (b = 0)
theorem contains_bad (b : UInt8) : [47, 0].contains b = bad b := by simp [bad, List.contains_iff_mem, Bool.eq_iff_iff]
theorem run_next_at {P : Program} {W : World} {b : Nat} {s : ByteArray} {pos : Nat} (hb : W.heap[b]? = some (.stringIter s pos)) (h : pos < s.size) (ty : TypeId) :
  (Instr.next (.pointer (some ⟨b, 0, none⟩)) true ty).run P W = .ok (.tuple #[.bool true, .int .i64 pos, .int .i32 (Utf8.decode s pos).1]) (W.putObj b (.stringIter s (pos + (Utf8.decode s pos).2))) := by
 simp only [Instr.next, getObj, setObj, Sem.run_bind, Sem.run, hb, Result.andThen, h, if_true]
 simp [goInt, Sem.run, hb, World.putObj]
theorem run_next_at_end {P : Program} {W : World} {b : Nat} {s : ByteArray} {pos : Nat} (hb : W.heap[b]? = some (.stringIter s pos)) (h : ¬ pos < s.size) (ty : TypeId) :
  (Instr.next (.pointer (some ⟨b, 0, none⟩)) true ty).run P W = .ok (.tuple #[.bool false]) W := by
 simp [Instr.next, getObj, Sem.run, hb, h]
theorem get!_eq (s : ByteArray) (k : Nat) (hk : k < s.size) : s.get! k = s[k]'hk := by
 simp [ByteArray.get!, getElem!_pos, hk]; rfl
theorem valid_of {c : Nat} (h : c < 55296 ∨ (57344 ≤ c ∧ c ≤ 1114111)) : Utf8.valid (c : Int) = true := by
 unfold Utf8.valid
 rcases h with h | h
 ·have h1 : ((c : Int) < 55296) := by omega
  simp; omega
 ·simp; omega
theorem decode_step (s : ByteArray) (i : Nat) (h : i < s.size) : (((s[i]'h).toNat < 128 ∧ Utf8.decode s i = ((s[i]'h).toNat, 1)) ∨ (128 ≤ (Utf8.decode s i).1 ∧ Utf8.valid ((Utf8.decode s i).1 : Int) = true ∧ 1 ≤ (Utf8.decode s i).2 ∧ i + (Utf8.decode s i).2 ≤ s.size ∧ ∀ j (hj : j < s.size), i ≤ j → j < i + (Utf8.decode s i).2 → 128 ≤ (s[j]'hj).toNat)) := by
 by_cases ha : (s[i]'h).toNat < 128
 ·exact .inl ⟨ha, decode_ascii s i h ha⟩
 ·refine .inr ?_
  have hb0 : ¬ (s.get! (i + 0)).toNat < 128 := by rw [Nat.add_zero, get!_eq s i h]; exact ha
  have hby : ∀ n, (∀ k, k < n → 128 ≤ (s.get! (i + k)).toNat) → ∀ j (hj : j < s.size), i ≤ j → j < i + n → 128 ≤ (s[j]'hj).toNat := fun n hn j hj h1 h2 => by
   have := hn (j - i) (by omega)
   rw [show i + (j - i) = j by omega, get!_eq s j hj] at this
   exact this
  have hone : 128 ≤ 65533 ∧ Utf8.valid ((65533 : Nat) : Int) = true ∧ 1 ≤ 1 ∧ i + 1 ≤ s.size ∧ ∀ j (hj : j < s.size), i ≤ j → j < i + 1 → 128 ≤ (s[j]'hj).toNat :=
   ⟨by omega, by decide, by omega, by omega, hby 1 fun k hk => by rw [show k = 0 by omega]; omega⟩
  unfold Utf8.decode
  simp only [if_neg hb0, Utf8.runeError]
  obtain ⟨b0, hg0⟩ : ∃ b, (s.get! (i + 0)).toNat = b := ⟨_, rfl⟩
  obtain ⟨b1, hg1⟩ : ∃ b, (s.get! (i + 1)).toNat = b := ⟨_, rfl⟩
  obtain ⟨b2, hg2⟩ : ∃ b, (s.get! (i + 2)).toNat = b := ⟨_, rfl⟩
  obtain ⟨b3, hg3⟩ : ∃ b, (s.get! (i + 3)).toNat = b := ⟨_, rfl⟩
  rw [hg0] at hb0
  simp only [hg0, hg1, hg2, hg3]
  have hlt : b0 < 256 := by rw [← hg0]; exact (s.get! (i + 0)).toNat_lt
  split
  ·rename_i hc
   simp only [Bool.and_eq_true, beq_iff_eq, decide_eq_true_eq] at hc
   split
   ·rename_i hv
    refine ⟨by show 128 ≤ _; omega, valid_of (.inl (by omega)), by show 1 ≤ 2; omega, by show i + 2 ≤ _; omega, hby 2 fun k hk => ?_⟩
    rcases (show k = 0 ∨ k = 1 by omega) with rfl | rfl
    ·rw [hg0]; omega
    ·rw [hg1]; omega
   ·exact hone
  ·split
   ·rename_i hc
    simp only [Bool.and_eq_true, beq_iff_eq, decide_eq_true_eq] at hc
    split
    ·rename_i hv
     simp only [Bool.and_eq_true, decide_eq_true_eq] at hv
     refine ⟨by show 128 ≤ _; omega, hv.2, by show 1 ≤ 3; omega, by show i + 3 ≤ _; omega, hby 3 fun k hk => ?_⟩
     rcases (show k = 0 ∨ k = 1 ∨ k = 2 by omega) with rfl | rfl | rfl
     ·rw [hg0]; omega
     ·rw [hg1]; omega
     ·rw [hg2]; omega
    ·exact hone
   ·split
    ·rename_i hc
     simp only [Bool.and_eq_true, beq_iff_eq, decide_eq_true_eq] at hc
     split
     ·rename_i hv
      simp only [Bool.and_eq_true, decide_eq_true_eq] at hv
      refine ⟨by show 128 ≤ _; omega, hv.2, by show 1 ≤ 4; omega, by show i + 4 ≤ _; omega, hby 4 fun k hk => ?_⟩
      rcases (show k = 0 ∨ k = 1 ∨ k = 2 ∨ k = 3 by omega) with rfl | rfl | rfl | rfl
      ·rw [hg0]; omega
      ·rw [hg1]; omega
      ·rw [hg2]; omega
      ·rw [hg3]; omega
     ·exact hone
    ·exact hone
theorem indexRune_non (r : Int) (h1 : 128 ≤ r) (hv : Utf8.valid r = true) (w : World) : Calls Tryz.prog 121 #[.string ⟨#[47, 0]⟩, .int .i32 r] w fun e w' => e = .returned (.int .i64 (-1)) ∧ Below w.heap.size w w' := by
 by_cases h2 : r = 65533
 ·subst h2; exact indexRune_err w
 ·refine ((indexRune_hi r h1 hv h2).2 ⟨w, fun _ _ => False, fun _ => False⟩ [.string ⟨#[47, 0]⟩, .int .i32 r] (fun g cs h => by cases h) ?_).mono ?_
  ·exact repL_cons.2 ⟨_, _, rfl, rep_str.2 rfl, repL_cons.2 ⟨_, _, rfl, rep_sc.2 rfl, repL_nil.2 rfl⟩⟩
  ·rintro e w' ⟨v, R', L', rfl, rfl, hst, hr⟩
   rw [rep_sc] at hr
   exact ⟨by rw [hr], hst.below⟩
theorem heap_iter (w : World) (s : ByteArray) : (w.iter s 0).heap[w.heap.size]? = some (.stringIter s 0) := World.iter_heap w s 0
theorem putObj_iter {w W : World} {s : ByteArray} {p : Nat} (hb : Below w.heap.size w W) (hs : W.heap[w.heap.size]? = some (.stringIter s p)) (p' : Nat) : Below w.heap.size w (W.putObj w.heap.size (.stringIter s p')) ∧ (W.putObj w.heap.size (.stringIter s p')).heap[w.heap.size]? = some (.stringIter s p') :=
 ⟨⟨hb.os, hb.tape, hb.output, by simpa using hb.size, fun k hk => (World.putObj_heap_other (by omega)).trans (hb.block k hk)⟩, World.putObj_heap_same (heap_lt hs)⟩
theorem below_iter {w W W' : World} {s : ByteArray} {p : Nat} (hb : Below w.heap.size w W) (hs : W.heap[w.heap.size]? = some (.stringIter s p)) (h : Below W.heap.size W W') : Below w.heap.size w W' ∧ W'.heap[w.heap.size]? = some (.stringIter s p) :=
 ⟨hb.trans (h.mono hb.size), (h.block _ (heap_lt hs)).trans hs⟩
set_option maxHeartbeats 8000000 in
set_option maxRecDepth 1000000 in
theorem indexAny_short (s : ByteArray) (w : World) (h8 : s.size ≤ 8) : Calls Tryz.prog 117 #[.string s, .string ⟨#[47, 0]⟩] w fun e w' => e = .returned (.int .i64 (Lib.indexAny s.data.toList [47, 0])) ∧ Below w.heap.size w w' := by
 have h8z : decide ((8 : Int) < (s.size : Int)) = false := decide_eq_false (by omega)
 have hsi := heap_iter w s
 have hbi : Below w.heap.size w (w.iter s 0) := (Below.refl _ _).alloc (Nat.le_refl _) _
 have HI : Aside ((w.iter s 0).heap[w.heap.size]? = some (.stringIter s 0) ∧ Below w.heap.size w (w.iter s 0)) := ⟨hsi, hbi⟩
 clear hsi hbi
 go_enter Tryz.func117, Tryz.ntmps117
 go_wp2_with (go_at_call 122; refine (Tryz.strings_shouldUseASCIISet _ _).mono ?_; rintro e w' ⟨rfl, hw⟩; rw [hw, h8z])
 go_loopg [9, 10] s.size (fun g _ _ wx => ∃ i : Nat, i + g = s.size ∧ wx.heap[w.heap.size]? = some (.stringIter s i) ∧ Below w.heap.size w wx ∧ Lib.NoAny s.data.toList [47, 0] i)
 case atStart => exact ⟨0, by omega, HI.out.1, HI.out.2, Lib.NoAny.zero _ _⟩
 case round =>
  obtain ⟨i, hig, hs, hbl, hno⟩ := hrel
  have HN : Aside (Lib.NoAny s.data.toList [47, 0] i ∧ wr.heap[w.heap.size]? = some (.stringIter s i) ∧ Below w.heap.size w wr) := ⟨hno, hs, hbl⟩
  cases gk with
  | zero =>
   obtain rfl : i = s.size := by omega
   have hnx := fun ty => run_next_at_end (P := Tryz.prog) hs (by omega) ty
   clear hno hs hbl
   go_wp2
   go_ret
   exact ⟨by rw [Lib.indexAny_none (by rw [← Lib.size_eq]; exact HN.out.1)]; rfl, HN.out.2.2⟩
  | succ g =>
   have hi : i < s.size := by omega
   have hnx := fun ty => run_next_at (P := Tryz.prog) hs hi ty
   have hpi := putObj_iter hbl hs (i + (Utf8.decode s i).2)
   have HP : Aside (Below w.heap.size w (wr.putObj w.heap.size (.stringIter s (i + (Utf8.decode s i).2))) ∧ (wr.putObj w.heap.size (.stringIter s (i + (Utf8.decode s i).2))).heap[w.heap.size]? = some (.stringIter s (i + (Utf8.decode s i).2))) := hpi
   clear hno hs hbl hpi
   obtain ⟨x, hx⟩ : ∃ x : UInt8, s[i]'hi = x := ⟨_, rfl⟩
   have hxl : s.data.toList[i]? = some x := by rw [← hx]; exact Lib.data_getElem? s i hi
   rcases decode_step s i hi with ⟨hd1, hd2⟩ | ⟨hd1, hd2, hd3, hd4, hd5⟩
   ·rw [hx] at hd1 hd2
    rw [hd2] at hnx HP
    have Hx : Aside (s.data.toList[i]? = some x) := hxl
    clear hxl hx hd2
    have hcon := Lib.contains_iff_indexByte [47, 0] x
    have hback : ((x.toNat : Int)).toNat.toUInt8 = x := by simp
    cases hin : ([47, 0] : List UInt8).contains x
    ·rw [hin] at hcon
     have hlt : ¬ ((0 : Int) ≤ Lib.indexByte [47, 0] x) := of_decide_eq_false hcon.symm
     clear hcon
     go_wp2_with (go_at_call 121; refine (Tryz.strings_IndexRune_ascii _ _ _ (by omega) (by omega)).mono ?_; rintro e w' ⟨rfl, hw⟩; rw [hw, hback])
     go_roundg g
     case measure => omega
     case rel => exact ⟨i + 1, by omega, HP.out.2, HP.out.1, HN.out.1.succ Hx.out hin⟩
    ·rw [hin] at hcon
     have hge : (0 : Int) ≤ Lib.indexByte [47, 0] x := of_decide_eq_true hcon.symm
     clear hcon
     go_wp2_with (go_at_call 121; refine (Tryz.strings_IndexRune_ascii _ _ _ (by omega) (by omega)).mono ?_; rintro e w' ⟨rfl, hw⟩; rw [hw, hback])
     go_ret
     exact ⟨by rw [Lib.indexAny_hit HN.out.1 Hx.out hin]; rfl, HP.out.1⟩
   ·obtain ⟨c, hc⟩ : ∃ c, (Utf8.decode s i).1 = c := ⟨_, rfl⟩
    obtain ⟨n, hn⟩ : ∃ n, (Utf8.decode s i).2 = n := ⟨_, rfl⟩
    rw [hc, hn] at hnx
    rw [hn] at HP hd3 hd4 hd5
    rw [hc] at hd1 hd2
    have H5 : Aside (∀ j (hj : j < s.size), i ≤ j → j < i + n → 128 ≤ (s[j]'hj).toNat) := hd5
    have H2 : Aside (Utf8.valid (c : Int) = true) := hd2
    clear hd5 hd2 hxl hx hc hn
    go_wp2_with (go_at_call 121; refine (indexRune_non _ (by omega) H2.out _).mono ?_; rintro e w' ⟨rfl, hw⟩; have HW := below_iter HP.out.1 HP.out.2 hw)
    go_roundg (s.size - (i + n))
    case measure => omega
    case rel =>
     refine ⟨i + n, by omega, HW.2, HW.1, fun j b hj hb => ?_⟩
     rcases Nat.lt_or_ge j i with g | g
     ·exact HN.out.1 j b g hb
     ·have hjs : j < s.size := by omega
      have := H5.out j hjs g hj
      have hb2 := Lib.data_getElem? s j hjs
      rw [hb] at hb2
      have hb3 : b = s[j]'hjs := Option.some.inj hb2
      rw [contains_bad, hb3]
      have h47 : s[j]'hjs ≠ 47 := fun e => by rw [e] at this; revert this; decide
      have h00 : s[j]'hjs ≠ 0 := fun e => by rw [e] at this; revert this; decide
      simp [bad, h47, h00]
end Go.Proofs.YtbphobmohdclaaaGreatDoor.Vcg
end
section
set_option linter.unusedVariables false
set_option linter.unusedSimpArgs false
namespace Go.Proofs.YtbphobmohdclaaaGreatDoor.Vcg
open Go.RowKit Go.Shelf
theorem zero_ascii (w : World) : (zeroValue 135).run Tryz.prog w = .ok (.agg (Array.replicate 256 (.bool false))) w := by kernel_rfl
theorem indexAny_bad : ∀ l : List UInt8, decide (0 ≤ Lib.indexAny l [47, 0]) = l.any bad
 | [] => rfl
 | b :: l => by
  have ih := indexAny_bad l
  have hg := Lib.indexAny_ge [47, 0] l
  unfold Lib.indexAny
  rw [contains_bad, List.any_cons]
  cases hb : bad b with
  | true => simp
  | false =>
   simp only [Bool.false_eq_true, if_false, Bool.false_or, ← ih]
   split
   ·rename_i h
    have := beq_iff_eq.1 h
    first | rw [this]; done | (rw [this]; rfl)
   ·rename_i h
    have h' : Lib.indexAny l [47, 0] ≠ -1 := by simpa using h
    rw [decide_eq_decide]; omega
theorem indexAny_fun (l : List UInt8) (hl : l.length ≤ 1000000) : Fun Tryz.prog G0 117 [.str l, .str [47, 0]] (.sc (.int .i64 (Lib.indexAny l [47, 0]))) 0 := by
 refine Fun.wrap (by kernel_rfl) fun R vs h => ?_
 obtain ⟨v1, us1, rfl, h1, h⟩ := repL_cons.1 h
 obtain ⟨v2, us2, rfl, h2, h⟩ := repL_cons.1 h
 rw [repL_nil] at h
 subst h
 rw [rep_str] at h1 h2
 subst h1 h2
 have hsz : (ByteArray.mk l.toArray).size = l.length := by simp [ByteArray.size]
 by_cases h8 : l.length ≤ 8
 ·refine (indexAny_short ⟨l.toArray⟩ R.w (by omega)).mono ?_
  rintro e w' ⟨rfl, hb⟩
  exact ⟨_, rfl, hb, fun R' _ => rep_sc.2 (by simp)⟩
 ·refine (Tryz.strings_IndexAny_long zero_ascii ⟨l.toArray⟩ ⟨#[47, 0]⟩ R.w (by decide) (by omega) (by omega) (by decide) ?_).mono ?_
  ·intro j b hb
   have : b = 47 ∨ b = 0 := by
    have := List.mem_of_getElem? hb
    simpa using this
   rcases this with rfl | rfl <;> decide
  ·rintro e w' ⟨rfl, rfl⟩
   exact ⟨_, rfl, ((Below.refl _ _).alloc (Nat.le_refl _) _).alloc (by simp) _, fun R' _ => rep_sc.2 (by simp)⟩
theorem containsAny_fun (l : List UInt8) (hl : l.length ≤ 1000000) : Fun Tryz.prog G0 106 [.str l, .str [47, 0]] (boolC (l.any bad)) 0 := by
 have h := indexAny_bad l
 refine Fun.of (fun _ => []) (by kernel_rfl) Tryz.func106 rfl rfl (Nat.le_of_ble_eq_true rfl) (by kernel_rfl) ?_; dsimp only [Tryz.f106, List.append_eq, List.cons_append, List.nil_append]
 simp -dsimp only [push_cast, seval]
 refine call (indexAny_fun l hl) ?_
 simp -dsimp only [push_cast, seval]
 exact ⟨[], rfl, rfl, by simp -dsimp only [WeakTm, WeakBx, CLe, CLeL, push_cast, seval, h]⟩
def may (l : List UInt8) : Bool := !decide (l = []) && decide (l.length ≤ 255) && !l.any bad && !decide (l = [46]) && !decide (l = [46, 46])
set_option maxHeartbeats 1000000 in
theorem may_fun (l : List UInt8) (hl : l.length ≤ 1000000) : Fun Tryz.prog G0 91 [.str l] (boolC (may l)) 0 := by
 by_cases h1 : l = []
 ·refine Fun.of (fun _ => []) (by kernel_rfl) Tryz.func91 rfl rfl (Nat.le_of_ble_eq_true rfl) (by kernel_rfl) ?_; dsimp only [Tryz.f91, List.append_eq, List.cons_append, List.nil_append]
  simp -dsimp only [push_cast, seval, h1]
  exact ⟨[], rfl, rfl, by simp -dsimp only [WeakTm, WeakBx, CLe, CLeL, push_cast, seval]; simp [may]⟩
 ·by_cases h2 : l.length ≤ 255
  ·have h2' : (l.length : Int) ≤ 255 := by omega
   cases h3 : l.any bad with
   | true =>
    refine Fun.of (fun _ => []) (by kernel_rfl) Tryz.func91 rfl rfl (Nat.le_of_ble_eq_true rfl) (by kernel_rfl) ?_; dsimp only [Tryz.f91, List.append_eq, List.cons_append, List.nil_append]
    simp -dsimp only [push_cast, seval, h1, h2']
    refine call (containsAny_fun l hl) ?_
    simp -dsimp only [push_cast, seval, h3]
    exact ⟨[], rfl, rfl, by simp -dsimp only [WeakTm, WeakBx, CLe, CLeL, push_cast, seval]; simp [may, h3]⟩
   | false =>
    by_cases h4 : l = [46]
    ·subst h4
     refine Fun.of (fun _ => []) (by kernel_rfl) Tryz.func91 rfl rfl (Nat.le_of_ble_eq_true rfl) (by kernel_rfl) ?_; dsimp only [Tryz.f91, List.append_eq, List.cons_append, List.nil_append]
     simp -dsimp only [push_cast, seval, h2']
     refine call (containsAny_fun _ hl) ?_
     simp -dsimp only [push_cast, seval, h3]
     exact ⟨[], rfl, rfl, by simp -dsimp only [WeakTm, WeakBx, CLe, CLeL, push_cast, seval]; simp [may]⟩
    ·refine Fun.of (fun _ => []) (by kernel_rfl) Tryz.func91 rfl rfl (Nat.le_of_ble_eq_true rfl) (by kernel_rfl) ?_; dsimp only [Tryz.f91, List.append_eq, List.cons_append, List.nil_append]
     simp -dsimp only [push_cast, seval, h1, h2']
     refine call (containsAny_fun l hl) ?_
     simp -dsimp only [push_cast, seval, h3, h4]
     exact ⟨[], rfl, rfl, by simp -dsimp only [WeakTm, WeakBx, CLe, CLeL, push_cast, seval]; simp [may, h1, h2, h3, h4]⟩
  ·have h2' : ¬ (l.length : Int) ≤ 255 := by omega
   refine Fun.of (fun _ => []) (by kernel_rfl) Tryz.func91 rfl rfl (Nat.le_of_ble_eq_true rfl) (by kernel_rfl) ?_; dsimp only [Tryz.f91, List.append_eq, List.cons_append, List.nil_append]
   simp -dsimp only [push_cast, seval, h1, h2']
   exact ⟨[], rfl, rfl, by simp -dsimp only [WeakTm, WeakBx, CLe, CLeL, push_cast, seval]; simp [may, h2]⟩
theorem notMay_fun (l : List UInt8) (hl : l.length ≤ 1000000) : Fun Tryz.prog G0 90 [.str l] (boolC (!may l)) 0 := by
 refine Fun.of (fun _ => []) (by kernel_rfl) Tryz.func90 rfl rfl (Nat.le_of_ble_eq_true rfl) (by kernel_rfl) ?_; dsimp only [Tryz.f90, List.append_eq, List.cons_append, List.nil_append]
 simp -dsimp only [push_cast, seval]
 refine call (may_fun l hl) ?_
 simp -dsimp only [push_cast, seval]
 exact ⟨[], rfl, rfl, by simp -dsimp only [WeakTm, WeakBx, CLe, CLeL, push_cast, seval]⟩
end Go.Proofs.YtbphobmohdclaaaGreatDoor.Vcg
end
section
set_option linter.unusedVariables false
set_option linter.unusedSimpArgs false
namespace Go.Proofs.YtbphobmohdclaaaGreatDoor.Vcg
open Go.RowKit
def ixNot (xs : List (List UInt8)) : Int := match xs.findIdx? (fun x => !may x) with | some i => (i : Int) | none => -1
theorem ixNot_ge (xs : List (List UInt8)) : decide (0 ≤ ixNot xs) = !xs.all may := by
 unfold ixNot
 cases h : xs.findIdx? (fun x => !may x) with
 | none =>
  have := List.findIdx?_eq_none_iff.1 h
  have h2 : xs.all may = true := List.all_eq_true.2 fun x hx => by simpa using this x hx
  rw [h2]; rfl
 | some i =>
  have h1 := List.findIdx?_eq_some_iff_getElem.1 h
  obtain ⟨hi, hp, _⟩ := h1
  have h2 : xs.all may = false := List.all_eq_false.2 ⟨xs[i], List.getElem_mem hi, by simpa using hp⟩
  rw [h2]; simp
set_option maxRecDepth 100000 in
set_option maxHeartbeats 1000000 in
theorem indexFunc_fun (xs : List (List UInt8)) (hx : xs.length ≤ 1000001) (hl : ∀ x ∈ xs, x.length ≤ 1000000) : Fun Tryz.prog G0 105 [.sl 1 (strs xs), .clo (.func 90) [] []] (.sc (.int .i64 (ixNot xs))) 0 := by
 refine Fun.of (fun _ => []) (by kernel_rfl) Tryz.func105 rfl rfl (Nat.le_of_ble_eq_true rfl) (by kernel_rfl) ?_; dsimp only [Tryz.f105, List.append_eq, List.cons_append, List.nil_append]
 simp -dsimp only [push_cast, seval]
 refine loop (fun k : Nat => ⟨[(0, .sl 1 (strs xs)), (1, .clo (.func 90) [] []), (7, .sc (.int .i64 (xs.length : Int))), (8, .sc (.int .i64 k))], [], 0, 0⟩) (fun k => k ≤ xs.length ∧ ∀ j (hj : j < xs.length), j < k → may (xs[j]'hj) = true) (fun k => xs.length - k) 0 ⟨Nat.zero_le _, fun j _ hj => by omega⟩ ?_ ?_
 ·exact Weak.mk [] rfl rfl (Nat.le_refl _) rfl (by simp -dsimp only [WeakTm, WeakBx, CLe, CLeL, push_cast, seval]) (by simp -dsimp only [WeakTm, WeakBx, CLe, CLeL, push_cast, seval])
 ·intro k hk
  have hk1 := hk.1
  have hk2 := hk.2
  by_cases h : k < xs.length
  ·have hg : (strs xs)[k]? = some [.str (xs[k]'h)] := by rw [strs_get?, List.getElem?_eq_getElem h]; rfl
   simp -dsimp only [push_cast, seval, h, hg]
   refine ⟨by omega, ?_⟩
   refine call (notMay_fun (xs[k]'h) (hl _ (List.getElem_mem h))) ?_
   simp -dsimp only [push_cast, seval]
   cases hm : may (xs[k]'h) with
   | true =>
    simp -dsimp only [push_cast, seval]
    refine ⟨by omega, k + 1, ⟨by omega, fun j hj hjk => ?_⟩, by omega, Weak.mk [] rfl rfl (Nat.le_refl _) rfl (by simp -dsimp only [WeakTm, WeakBx, CLe, CLeL, push_cast, seval]) (by simp -dsimp only [WeakTm, WeakBx, CLe, CLeL, push_cast, seval])⟩
    rcases Nat.lt_or_ge j k with g | g
    ·exact hk2 j hj g
    ·have : j = k := by omega
     subst this; exact hm
   | false =>
    simp -dsimp only [push_cast, seval]
    refine ⟨[], rfl, rfl, ?_⟩
    simp -dsimp only [WeakTm, WeakBx, CLe, CLeL, push_cast, seval]
    have : xs.findIdx? (fun x => !may x) = some k := List.findIdx?_eq_some_iff_getElem.2 ⟨h, by simp [hm], fun j hj => by simp [hk2 j (by omega) hj]⟩
    simp [ixNot, this]
  ·simp -dsimp only [push_cast, seval, h]
   refine ⟨[], rfl, rfl, ?_⟩
   simp -dsimp only [WeakTm, WeakBx, CLe, CLeL, push_cast, seval]
   have : xs.findIdx? (fun x => !may x) = none := List.findIdx?_eq_none_iff.2 fun x hx => by
    obtain ⟨j, hj, rfl⟩ := List.getElem_of_mem hx
    simp [hk2 j hj (by omega)]
   simp [ixNot, this]
theorem containsFunc_fun (xs : List (List UInt8)) (hx : xs.length ≤ 1000001) (hl : ∀ x ∈ xs, x.length ≤ 1000000) : Fun Tryz.prog G0 89 [.sl 1 (strs xs), .clo (.func 90) [] []] (boolC (!xs.all may)) 0 := by
 have h := ixNot_ge xs
 refine Fun.of (fun _ => []) (by kernel_rfl) Tryz.func89 rfl rfl (Nat.le_of_ble_eq_true rfl) (by kernel_rfl) ?_; dsimp only [Tryz.f89, List.append_eq, List.cons_append, List.nil_append]
 simp -dsimp only [push_cast, seval]
 refine call (indexFunc_fun xs hx hl) ?_
 simp -dsimp only [push_cast, seval]
 exact ⟨[], rfl, rfl, by simp -dsimp only [WeakTm, WeakBx, CLe, CLeL, push_cast, seval, h]⟩
def plain (p : List UInt8) : Bool := decide (joinP (names p) = p) && (names p).all may
def plainC (p : List UInt8) : C := .tup [.own 0 9 1 (strs (if plain p then names p else [])), boolC (plain p)]
theorem join_cons2 (x y : List UInt8) (r : List (List UInt8)) (sep : List UInt8) : Lib.join (x :: y :: r) sep = x ++ sep ++ Lib.join (y :: r) sep := by
 simp [Lib.join, List.intercalate, List.intersperse]
theorem join_len : ∀ xs : List (List UInt8), xs ≠ [] → (Lib.join xs [47]).length + 1 = (xs.map fun x => x.length + 1).sum
 | [], h => absurd rfl h
 | [x], _ => by simp [Lib.join]
 | x :: y :: r, _ => by
  have ih := join_len (y :: r) (by simp)
  rw [join_cons2]
  simp only [List.length_append, List.length_cons, List.length_nil, List.map_cons, List.sum_cons] at ih ⊢
  omega
theorem spl_sum : ∀ l : List UInt8, ((splS l).map fun x => x.length + 1).sum = l.length + 1
 | [] => rfl
 | b :: l => by
  have ih := spl_sum l
  unfold splS
  split
  ·simp only [List.map_cons, List.sum_cons, List.length_nil, List.length_cons, ih]; omega
  ·cases h : splS l with
   | nil => exact absurd h (spl_ne l)
   | cons x r =>
    rw [h] at ih
    simp only [List.map_cons, List.sum_cons, List.length_cons] at ih ⊢
    omega
theorem filter_sum (f : List UInt8 → Bool) : ∀ xs : List (List UInt8), ((xs.filter f).map fun x => x.length + 1).sum ≤ (xs.map fun x => x.length + 1).sum
 | [] => by simp
 | x :: r => by
  have ih := filter_sum f r
  rw [List.filter_cons]
  split
  ·simp only [List.map_cons, List.sum_cons]; omega
  ·simp only [List.map_cons, List.sum_cons]; omega
theorem mem_sum : ∀ (xs : List (List UInt8)) (x : List UInt8), x ∈ xs → x.length + 1 ≤ (xs.map fun x => x.length + 1).sum
 | y :: r, x, h => by
  simp only [List.map_cons, List.sum_cons]
  rcases List.mem_cons.1 h with rfl | h
  ·omega
  ·have := mem_sum r x h; omega
theorem joinNames (l : List UInt8) : (Lib.join (names l) [47]).length ≤ l.length ∧ ∀ x ∈ names l, x.length ≤ l.length := by
 have h1 := spl_sum l
 have h2 := filter_sum (fun x => !decide (x = [])) (splS l)
 rw [← names_spl] at h2
 refine ⟨?_, fun x hx => ?_⟩
 ·by_cases h : names l = []
  ·rw [h]; simp [Lib.join]
  ·have := join_len (names l) h; omega
 ·have := mem_sum (names l) x hx; omega
set_option maxRecDepth 100000 in
set_option maxHeartbeats 1000000 in
theorem plain_fun (p : List UInt8) (hp : p.length ≤ 1000000) : Fun Tryz.prog G0 70 [.str p] (plainC p) 1 := by
 have hz := names_size p
 have hj := joinNames p
 by_cases h1 : joinP (names p) = p
 ·have h1' : (p = joinP (names p)) := h1.symm
  refine Fun.of (fun _ => []) (by kernel_rfl) Tryz.func70 rfl rfl (Nat.le_of_ble_eq_true rfl) (by kernel_rfl) ?_; dsimp only [Tryz.f70, List.append_eq, List.cons_append, List.nil_append]
  simp -dsimp only [push_cast, seval]
  refine call (names_call p) ?_
  simp -dsimp only [push_cast, seval]
  refine call (collectNames p hp) ?_
  simp -dsimp only [push_cast, seval]
  refine call (joinP_fun (names p) (by omega) (by omega)) ?_
  simp -dsimp only [push_cast, seval, h1]
  refine call (containsFunc_fun (names p) (by omega) fun x hx => by have := hj.2 x hx; omega) ?_
  simp -dsimp only [push_cast, seval]
  cases hm : (names p).all may with
  | true =>
   simp -dsimp only [push_cast, seval]
   exact ⟨[.inl 0], rfl, rfl, by simp only [plainC, plain, h1, hm]; simp -dsimp only [WeakTm, WeakBx, CLe, CLeL, push_cast, seval] <;> simp⟩
  | false =>
   simp -dsimp only [push_cast, seval]
   exact ⟨[.inr (9, 1)], rfl, rfl, by simp only [plainC, plain, h1, hm]; simp -dsimp only [WeakTm, WeakBx, CLe, CLeL, push_cast, seval] <;> simp⟩
 ·refine Fun.of (fun _ => []) (by kernel_rfl) Tryz.func70 rfl rfl (Nat.le_of_ble_eq_true rfl) (by kernel_rfl) ?_; dsimp only [Tryz.f70, List.append_eq, List.cons_append, List.nil_append]
  simp -dsimp only [push_cast, seval]
  refine call (names_call p) ?_
  simp -dsimp only [push_cast, seval]
  refine call (collectNames p hp) ?_
  simp -dsimp only [push_cast, seval]
  refine call (joinP_fun (names p) (by omega) (by omega)) ?_
  simp -dsimp only [push_cast, seval, h1]
  exact ⟨[.inr (9, 1)], rfl, rfl, by simp only [plainC, plain, h1]; simp -dsimp only [WeakTm, WeakBx, CLe, CLeL, push_cast, seval] <;> simp⟩
end Go.Proofs.YtbphobmohdclaaaGreatDoor.Vcg
end
section
set_option linter.unusedVariables false
set_option linter.unusedSimpArgs false
namespace Go.Proofs.YtbphobmohdclaaaGreatDoor.Vcg
open Go.RowKit
theorem join_take (xs : List (List UInt8)) (k : Nat) (x : List UInt8) (h : xs[k]? = some x) : Lib.join (xs.take (k + 1)) [47] = (if k = 0 then x else Lib.join (xs.take k) [47] ++ [47] ++ x) := by
 cases xs with
 | nil => simp at h
 | cons y r =>
  cases k with
  | zero => simp at h; subst h; simp [Lib.join_one]
  | succ k =>
   simp only [List.take_succ_cons, Nat.succ_ne_zero, if_false]
   rw [Lib.join_cons, Lib.join_cons, Lib.joinTail_take_succ _ _ _ x (by simpa using h)]
   simp [List.append_assoc]
theorem join_le (xs : List (List UInt8)) (k : Nat) : (Lib.join (xs.take k) [47]).length ≤ (Lib.join xs [47]).length := by
 by_cases h : xs.take k = []
 ·rw [h]; simp [Lib.join]
 ·have h1 := join_len (xs.take k) h
  have hx : xs ≠ [] := fun e => h (by rw [e]; simp)
  have h2 := join_len xs hx
  have h3 : ((xs.take k).map fun x => x.length + 1).sum ≤ (xs.map fun x => x.length + 1).sum := by
   conv => rhs; rw [← List.take_append_drop k xs, List.map_append, List.sum_append]
   omega
  omega
theorem joinP_take (xs : List (List UInt8)) (k : Nat) (x : List UInt8) (h : xs[k]? = some x) : (if xs.take (k + 1) = [] then [] else joinP (xs.take (k + 1))) = (if xs.take k = [] then [] else joinP (xs.take k)) ++ [47] ++ x := by
 have hk : k < xs.length := (List.getElem?_eq_some_iff.1 h).1
 have h1 : xs.take (k + 1) ≠ [] := fun e => by have := congrArg List.length e; rw [List.length_take] at this; simp only [List.length_nil] at this; omega
 rw [if_neg h1]
 unfold joinP
 rw [if_neg h1, join_take xs k x h]
 by_cases hk0 : k = 0
 ·subst hk0; simp
 ·have h2 : xs.take k ≠ [] := fun e => by have := congrArg List.length e; rw [List.length_take] at this; simp only [List.length_nil] at this; omega
  simp [h2, hk0]
def jst (xs : List (List UInt8)) (k : Nat) : List UInt8 := if xs.take k = [] then [] else joinP (xs.take k)
theorem jst_len (xs : List (List UInt8)) (k : Nat) : (jst xs k).length ≤ (Lib.join xs [47]).length + 1 := by
 unfold jst
 split
 ·simp
 ·rename_i h
  have := join_le xs k
  unfold joinP
  rw [if_neg h]
  simp; omega
set_option maxRecDepth 100000 in
set_option maxHeartbeats 1000000 in
theorem refJoin_fun (xs : List (List UInt8)) (hx : xs.length ≤ 1000001) (hl : (Lib.join xs [47]).length ≤ 100000000) : Fun Tryz.prog G0 74 [.sl 1 (strs xs)] (.str (joinP xs)) 0 := by
 by_cases h0 : xs = []
 ·subst h0
  refine Fun.of (fun _ => []) (by kernel_rfl) Tryz.func74 rfl rfl (Nat.le_of_ble_eq_true rfl) (by kernel_rfl) ?_; dsimp only [Tryz.f74, List.append_eq, List.cons_append, List.nil_append]
  simp -dsimp only [push_cast, seval]
  exact ⟨[], rfl, rfl, by simp -dsimp only [WeakTm, WeakBx, CLe, CLeL, push_cast, seval] <;> simp [joinP]⟩
 ·have h0' : ¬ ((xs.length : Int) = 0) := by have := List.length_pos_iff.2 h0; omega
  refine Fun.of (fun _ => []) (by kernel_rfl) Tryz.func74 rfl rfl (Nat.le_of_ble_eq_true rfl) (by kernel_rfl) ?_; dsimp only [Tryz.f74, List.append_eq, List.cons_append, List.nil_append]
  simp -dsimp only [push_cast, seval, h0']
  refine loop (fun k : Nat => ⟨[(0, .sl 1 (strs xs)), (3, .str (jst xs k)), (4, .sc (.int .i64 k))], [], 0, 0⟩) (fun k => k ≤ xs.length) (fun k => xs.length - k) 0 (Nat.zero_le _) ?_ ?_
  ·exact Weak.mk [] rfl rfl (Nat.zero_le _) rfl (by simp -dsimp only [WeakTm, WeakBx, CLe, CLeL, push_cast, seval] <;> simp [jst]) (by simp -dsimp only [WeakTm, WeakBx, CLe, CLeL, push_cast, seval])
  ·intro k hk
   by_cases h : k < xs.length
   ·have hg := strs_at xs k h
    have hst : jst xs (k + 1) = jst xs k ++ [47] ++ xs[k]'h := joinP_take xs k (xs[k]'h) (List.getElem?_eq_getElem h)
    have hjk := jst_len xs k
    have hjl := jst_len xs (k + 1)
    rw [hst] at hjl
    simp only [List.length_append, List.length_cons, List.length_nil] at hjl
    simp -dsimp only [push_cast, seval, h, hg]
    (try simp only [List.length_append, List.length_cons, List.length_nil, List.length_map, List.length_take, List.length_drop]); repeat (refine And.intro (by omega) ?_)
    refine ⟨k + 1, by omega, by omega, Weak.mk [] rfl rfl (Nat.zero_le _) rfl ?_ (by simp -dsimp only [WeakTm, WeakBx, CLe, CLeL, push_cast, seval])⟩
    simp -dsimp only [WeakTm, WeakBx, CLe, CLeL, push_cast, seval]
    simp [hst]
   ·have hkl : k = xs.length := by omega
    simp -dsimp only [push_cast, seval, h]
    exact ⟨[], rfl, rfl, by simp -dsimp only [WeakTm, WeakBx, CLe, CLeL, push_cast, seval] <;> simp [jst, hkl, h0]⟩
set_option maxRecDepth 100000 in
set_option maxHeartbeats 1000000 in
theorem refMay_fun (l : List UInt8) (hl : l.length ≤ 1000000) : Fun Tryz.prog G0 73 [.str l] (boolC (may l)) 0 := by
 refine Fun.of (fun _ => []) (by kernel_rfl) Tryz.func73 rfl rfl (Nat.le_of_ble_eq_true rfl) (by kernel_rfl) ?_; dsimp only [Tryz.f73, List.append_eq, List.cons_append, List.nil_append]
 simp -dsimp only [push_cast, seval]
 refine loop (fun k : Nat => ⟨[(0, .str l), (3, .sc (.int .i64 k))], [], 0, 0⟩) (fun k => k ≤ l.length ∧ ∀ j (hj : j < l.length), j < k → bad (l[j]'hj) = false) (fun k => l.length - k) 0 ⟨Nat.zero_le _, fun j _ hj => by omega⟩ ?_ ?_
 ·exact Weak.mk [] rfl rfl (Nat.zero_le _) rfl (by simp -dsimp only [WeakTm, WeakBx, CLe, CLeL, push_cast, seval]) (by simp -dsimp only [WeakTm, WeakBx, CLe, CLeL, push_cast, seval])
 ·intro k hk
  have hk1 := hk.1
  have hk2 := hk.2
  by_cases h : k < l.length
  ·have hb : l[k]? = some (l[k]'h) := List.getElem?_eq_getElem h
   have hbad : bad (l[k]'h) = true → may l = false := fun hb => by
    have : l.any bad = true := List.any_eq_true.2 ⟨l[k]'h, List.getElem_mem h, hb⟩
    simp [may, this]
   by_cases h47 : l[k]'h = 47
   ·have h1 : (((l[k]'h).toNat : Int) = 47) := by rw [h47]; rfl
    simp -dsimp only [push_cast, seval, h, hb, h1]
    refine ⟨by omega, [], rfl, rfl, ?_⟩
    simp -dsimp only [WeakTm, WeakBx, CLe, CLeL, push_cast, seval]
    rw [hbad (by simp [bad, h47])]
   ·have h1 : ¬ (((l[k]'h).toNat : Int) = 47) := u8_ne h47
    by_cases h00 : l[k]'h = 0
    ·have h2 : (((l[k]'h).toNat : Int) = 0) := by rw [h00]; rfl
     simp -dsimp only [push_cast, seval, h, hb, h1, h2]
     refine ⟨by omega, by omega, [], rfl, rfl, ?_⟩
     simp -dsimp only [WeakTm, WeakBx, CLe, CLeL, push_cast, seval]
     rw [hbad (by simp [bad, h00])]
    ·have h2 : ¬ (((l[k]'h).toNat : Int) = 0) := u8_ne h00
     simp -dsimp only [push_cast, seval, h, hb, h1, h2]
     (try simp only [List.length_append, List.length_cons, List.length_nil, List.length_map, List.length_take, List.length_drop]); repeat (refine And.intro (by omega) ?_)
     refine ⟨k + 1, ⟨by omega, fun j hj hjk => ?_⟩, by omega, Weak.mk [] rfl rfl (Nat.zero_le _) rfl (by simp -dsimp only [WeakTm, WeakBx, CLe, CLeL, push_cast, seval]) (by simp -dsimp only [WeakTm, WeakBx, CLe, CLeL, push_cast, seval])⟩
     rcases Nat.lt_or_ge j k with g | g
     ·exact hk2 j hj g
     ·have : j = k := by omega
      subst this
      simp [bad, h47, h00]
  ·have hany : l.any bad = false := List.any_eq_false.2 fun x hx => by
    obtain ⟨j, hj, rfl⟩ := List.getElem_of_mem hx
    simp [hk2 j hj (by omega)]
   obtain rfl : k = l.length := by omega
   by_cases h0 : l = []
   ·subst h0
    simp -dsimp only [push_cast, seval]
    exact ⟨[], rfl, rfl, by simp -dsimp only [WeakTm, WeakBx, CLe, CLeL, push_cast, seval] <;> simp [may]⟩
   ·have h1 : (1 : Int) ≤ (l.length : Int) := by have := List.length_pos_iff.2 h0; omega
    by_cases h2 : (l.length : Int) ≤ 255
    ·have h2' : l.length ≤ 255 := by omega
     by_cases h4 : l = [46]
     ·subst h4
      simp -dsimp only [push_cast, seval]
      exact ⟨[], rfl, rfl, by simp -dsimp only [WeakTm, WeakBx, CLe, CLeL, push_cast, seval] <;> simp [may]⟩
     ·by_cases h5 : l = [46, 46]
      ·subst h5
       simp -dsimp only [push_cast, seval, h4]
       exact ⟨[], rfl, rfl, by simp -dsimp only [WeakTm, WeakBx, CLe, CLeL, push_cast, seval] <;> simp [may]⟩
      ·simp -dsimp only [push_cast, seval, h, h1, h2, h4, h5]
       exact ⟨[], rfl, rfl, by simp -dsimp only [WeakTm, WeakBx, CLe, CLeL, push_cast, seval] <;> simp [may, h0, h2', hany, h4, h5]⟩
    ·have h2' : ¬ l.length ≤ 255 := by omega
     simp -dsimp only [push_cast, seval, h, h1, h2]
     exact ⟨[], rfl, rfl, by simp -dsimp only [WeakTm, WeakBx, CLe, CLeL, push_cast, seval] <;> simp [may, h2']⟩
def refUnder (p q : List UInt8) : Bool := decide ((names p).take (names q).length = names q)
set_option maxRecDepth 100000 in
set_option maxHeartbeats 1000000 in
theorem refUnder_fun (p q : List UInt8) (hp : p.length ≤ 100000) (hq : q.length ≤ 100000) : Fun Tryz.prog G0 32 [.str p, .str q] (boolC (refUnder p q)) 0 := by
 have hn := names_fun p hp
 have hm := names_fun q hq
 have hs := names_size p
 have ht := names_size q
 by_cases h : (names p).length < (names q).length
 ·refine Fun.of (fun _ => []) (by kernel_rfl) Tryz.func32 rfl rfl (Nat.le_of_ble_eq_true rfl) (by kernel_rfl) ?_; dsimp only [Tryz.f32, List.append_eq, List.cons_append, List.nil_append]
  simp -dsimp only [push_cast, seval]
  refine call hn ?_
  simp -dsimp only [push_cast, seval]
  refine call hm ?_
  simp -dsimp only [push_cast, seval, h]
  refine ⟨[], rfl, rfl, ?_⟩
  simp -dsimp only [WeakTm, WeakBx, CLe, CLeL, push_cast, seval]
  have : ¬ (names p).take (names q).length = names q := fun e => by have := congrArg List.length e; rw [List.length_take] at this; omega
  simp [refUnder, this]
 ·refine Fun.of (fun _ => []) (by kernel_rfl) Tryz.func32 rfl rfl (Nat.le_of_ble_eq_true rfl) (by kernel_rfl) ?_; dsimp only [Tryz.f32, List.append_eq, List.cons_append, List.nil_append]
  simp -dsimp only [push_cast, seval]
  refine call hn ?_
  simp -dsimp only [push_cast, seval]
  refine call hm ?_
  simp -dsimp only [push_cast, seval, h]
  refine loop (fun k : Nat => ⟨[(5, .own 0 9 1 (strs (names p))), (6, .own 1 9 1 (strs (names q))), (7, .sc (.int .i64 k))], [], 2, 0⟩) (fun k => k ≤ (names q).length ∧ (names p).take k = (names q).take k) (fun k => (names q).length - k) 0 ⟨Nat.zero_le _, rfl⟩ ?_ ?_
  ·exact Weak.mk [.inl 0, .inl 1] rfl rfl (Nat.zero_le _) rfl (by simp -dsimp only [WeakTm, WeakBx, CLe, CLeL, push_cast, seval]) (by simp -dsimp only [WeakTm, WeakBx, CLe, CLeL, push_cast, seval])
  ·intro k hk
   have hk1 := hk.1
   have hk2 := hk.2
   by_cases h3 : k < (names q).length
   ·have hg1 := strs_at (names p) k (by omega)
    have hg2 := strs_at (names q) k h3
    by_cases he : (names p)[k]'(by omega) = (names q)[k]'h3
    ·simp -dsimp only [push_cast, seval, h3, hg1, hg2, he]
     (try simp only [List.length_append, List.length_cons, List.length_nil, List.length_map, List.length_take, List.length_drop]); repeat (refine And.intro (by omega) ?_)
     refine ⟨k + 1, ⟨by omega, ?_⟩, by omega, Weak.mk [.inl 0, .inl 1] rfl rfl (Nat.zero_le _) rfl (by simp -dsimp only [WeakTm, WeakBx, CLe, CLeL, push_cast, seval]) (by simp -dsimp only [WeakTm, WeakBx, CLe, CLeL, push_cast, seval])⟩
     rw [List.take_add_one, List.take_add_one, hk2, List.getElem?_eq_getElem h3, List.getElem?_eq_getElem (by omega : k < (names p).length), he]
    ·simp -dsimp only [push_cast, seval, h3, hg1, hg2, he]
     (try simp only [List.length_append, List.length_cons, List.length_nil, List.length_map, List.length_take, List.length_drop]); repeat (refine And.intro (by omega) ?_)
     refine ⟨[], rfl, rfl, ?_⟩
     simp -dsimp only [WeakTm, WeakBx, CLe, CLeL, push_cast, seval]
     have : ¬ (names p).take (names q).length = names q := fun e => he (by
      have := congrArg (·[k]?) e
      simp only [List.getElem?_take, if_pos h3] at this
      rw [List.getElem?_eq_getElem (by omega), List.getElem?_eq_getElem h3] at this
      exact Option.some.inj this)
     simp [refUnder, this]
   ·have hkl : k = (names q).length := by omega
    simp -dsimp only [push_cast, seval, h3]
    refine ⟨[], rfl, rfl, ?_⟩
    simp -dsimp only [WeakTm, WeakBx, CLe, CLeL, push_cast, seval]
    rw [hkl, List.take_length] at hk2
    simp [refUnder, hk2]
set_option maxRecDepth 100000 in
set_option maxHeartbeats 1000000 in
theorem refPlain_fun (p : List UInt8) (hp : p.length ≤ 100000) : Fun Tryz.prog G0 54 [.str p] (plainC p) 1 := by
 have hn := names_fun p hp
 have hs := names_size p
 have hj := joinNames p
 refine Fun.of (fun _ => []) (by kernel_rfl) Tryz.func54 rfl rfl (Nat.le_of_ble_eq_true rfl) (by kernel_rfl) ?_; dsimp only [Tryz.f54, List.append_eq, List.cons_append, List.nil_append]
 simp -dsimp only [push_cast, seval]
 refine call hn ?_
 simp -dsimp only [push_cast, seval]
 refine loop (fun k : Nat => ⟨[(0, .str p), (4, .own 0 9 1 (strs (names p))), (5, .sc (.int .i64 k))], [], 1, 0⟩) (fun k => k ≤ (names p).length ∧ ∀ j (hj : j < (names p).length), j < k → may ((names p)[j]'hj) = true) (fun k => (names p).length - k) 0 ⟨Nat.zero_le _, fun j _ hj => by omega⟩ ?_ ?_
 ·exact Weak.mk [.inl 0] rfl rfl (Nat.zero_le _) rfl (by simp -dsimp only [WeakTm, WeakBx, CLe, CLeL, push_cast, seval]) (by simp -dsimp only [WeakTm, WeakBx, CLe, CLeL, push_cast, seval])
 ·intro k hk
  have hk1 := hk.1
  have hk2 := hk.2
  by_cases h : k < (names p).length
  ·have hg := strs_at (names p) k h
   have hlen := hj.2 ((names p)[k]'h) (List.getElem_mem h)
   simp -dsimp only [push_cast, seval, h, hg]
   refine ⟨by omega, ?_⟩
   refine call (refMay_fun ((names p)[k]'h) (by omega)) ?_
   simp -dsimp only [push_cast, seval]
   cases hm : may ((names p)[k]'h) with
   | true =>
    simp -dsimp only [push_cast, seval]
    (try simp only [List.length_append, List.length_cons, List.length_nil, List.length_map, List.length_take, List.length_drop]); repeat (refine And.intro (by omega) ?_)
    refine ⟨k + 1, ⟨by omega, fun j hj hjk => ?_⟩, by omega, Weak.mk [.inl 0] rfl rfl (Nat.zero_le _) rfl (by simp -dsimp only [WeakTm, WeakBx, CLe, CLeL, push_cast, seval]) (by simp -dsimp only [WeakTm, WeakBx, CLe, CLeL, push_cast, seval])⟩
    rcases Nat.lt_or_ge j k with g | g
    ·exact hk2 j hj g
    ·have : j = k := by omega
     subst this; exact hm
   | false =>
    have hall : (names p).all may = false := List.all_eq_false.2 ⟨(names p)[k]'h, List.getElem_mem h, by simp [hm]⟩
    simp -dsimp only [push_cast, seval]
    exact ⟨[.inr (9, 1)], rfl, rfl, by simp only [plainC, plain, hall]; simp -dsimp only [WeakTm, WeakBx, CLe, CLeL, push_cast, seval] <;> simp⟩
  ·have hall : (names p).all may = true := List.all_eq_true.2 fun x hx => by
    obtain ⟨j, hj, rfl⟩ := List.getElem_of_mem hx
    exact hk2 j hj (by omega)
   simp -dsimp only [push_cast, seval, h]
   refine call (refJoin_fun (names p) (by omega) (by omega)) ?_
   simp -dsimp only [push_cast, seval]
   by_cases h1 : joinP (names p) = p
   ·simp -dsimp only [push_cast, seval, h1]
    exact ⟨[.inl 0], rfl, rfl, by simp only [plainC, plain, h1, hall]; simp -dsimp only [WeakTm, WeakBx, CLe, CLeL, push_cast, seval] <;> simp⟩
   ·simp -dsimp only [push_cast, seval, h1]
    exact ⟨[.inr (9, 1)], rfl, rfl, by simp only [plainC, plain, h1]; simp -dsimp only [WeakTm, WeakBx, CLe, CLeL, push_cast, seval] <;> simp⟩
end Go.Proofs.YtbphobmohdclaaaGreatDoor.Vcg
end
section
set_option linter.unusedVariables false
set_option linter.unusedSimpArgs false
namespace Go.Proofs.YtbphobmohdclaaaGreatDoor.Vcg
open Go.RowKit
def isName (x : List UInt8) : Prop := x ≠ [] ∧ (47 : UInt8) ∉ x
theorem spl_app : ∀ a t : List UInt8, splS (a ++ 47 :: t) = splS a ++ splS t
 | [], t => by
  have : splS (47 :: t) = [] :: splS t := rfl
  exact this
 | b :: a, t => by
  have ih := spl_app a t
  have e1 : splS (b :: (a ++ 47 :: t)) = if b = 47 then [] :: splS (a ++ 47 :: t) else match splS (a ++ 47 :: t) with
   | [] => [[b]]
   | x :: r => (b :: x) :: r := rfl
  have e2 : splS (b :: a) = if b = 47 then [] :: splS a else match splS a with
   | [] => [[b]]
   | x :: r => (b :: x) :: r := rfl
  rw [List.cons_append, e1, e2, ih]
  by_cases hb : b = 47
  ·simp [hb]
  ·rw [if_neg hb, if_neg hb]
   have hne := spl_ne a
   cases hs : splS a with
   | nil => exact absurd hs hne
   | cons x r => simp
theorem spl_one : ∀ x : List UInt8, (47 : UInt8) ∉ x → splS x = [x]
 | [], _ => rfl
 | b :: x, h => by
  have hb : ¬ (b = 47) := fun e => h (by rw [e]; exact List.mem_cons_self)
  have ih := spl_one x (fun hx => h (List.mem_cons_of_mem _ hx))
  unfold splS
  rw [if_neg hb, ih]
theorem spl_mem : ∀ (l x : List UInt8), x ∈ splS l → (47 : UInt8) ∉ x
 | [], x, h => by simp [splS] at h; subst h; simp
 | b :: l, x, h => by
  have ih := spl_mem l
  unfold splS at h
  by_cases hb : b = 47
  ·rw [if_pos hb] at h
   rcases List.mem_cons.1 h with rfl | h
   ·simp
   ·exact ih x h
  ·rw [if_neg hb] at h
   have hne := spl_ne l
   cases hs : splS l with
   | nil => exact absurd hs hne
   | cons y r =>
    rw [hs] at h ih
    simp only at h
    rcases List.mem_cons.1 h with rfl | h
    ·intro hm
     rcases List.mem_cons.1 hm with e | hm
     ·exact hb e.symm
     ·exact ih y List.mem_cons_self hm
    ·exact ih x (List.mem_cons_of_mem _ h)
theorem names_mem {l x : List UInt8} (h : x ∈ names l) : isName x := by
 rw [names_spl, List.mem_filter] at h
 exact ⟨by simpa using h.2, spl_mem l x h.1⟩
theorem names_app (a t : List UInt8) : names (a ++ 47 :: t) = names a ++ names t := by
 rw [names_spl, names_spl, names_spl, spl_app, List.filter_append]
theorem names_one {x : List UInt8} (h : isName x) : names x = [x] := by
 rw [names_spl, spl_one x h.2]
 simp [h.1]
theorem names_slash (l : List UInt8) : names (47 :: l) = names l := names_app [] l
theorem names_join : ∀ xs : List (List UInt8), (∀ x ∈ xs, isName x) → names (Lib.join xs [47]) = xs
 | [], _ => rfl
 | [x], h => by rw [Lib.join_one]; exact names_one (h x List.mem_cons_self)
 | x :: y :: r, h => by
  have ih := names_join (y :: r) fun z hz => h z (List.mem_cons_of_mem _ hz)
  rw [join_cons2, List.append_assoc]
  show names (x ++ 47 :: Lib.join (y :: r) [47]) = _
  rw [names_app, ih, names_one (h x List.mem_cons_self)]
  rfl
theorem names_joinP (xs : List (List UInt8)) (h : ∀ x ∈ xs, isName x) : names (joinP xs) = xs := by
 unfold joinP
 by_cases hx : xs = []
 ·rw [if_pos hx, hx]; rfl
 ·rw [if_neg hx, names_slash, names_join xs h]
theorem joinP_app (xs zs : List (List UInt8)) (hx : xs ≠ []) (hz : zs ≠ []) : joinP (xs ++ zs) = joinP xs ++ 47 :: Lib.join zs [47] := by
 unfold joinP
 rw [if_neg hx, if_neg (by simp [hx])]
 simp only [List.cons_append, List.cons.injEq, true_and]
 induction xs with
 | nil => exact absurd rfl hx
 | cons x r ih =>
  cases r with
  | nil =>
   cases zs with
   | nil => exact absurd rfl hz
   | cons z zs => simp only [List.cons_append, List.nil_append]; rw [join_cons2, Lib.join_one]; simp
  | cons y r =>
   have := ih (by simp)
   simp only [List.cons_append] at this ⊢
   rw [join_cons2, join_cons2, this]
   simp
theorem under_joinP (xs ys : List (List UInt8)) (hx : ∀ x ∈ xs, isName x) (hy : ∀ y ∈ ys, isName y) : underP (joinP xs) (joinP ys) = decide (xs.take ys.length = ys) := by
 have nx := names_joinP xs hx
 have ny := names_joinP ys hy
 rw [Bool.eq_iff_iff]
 simp only [decide_eq_true_eq, underP, Bool.or_eq_true]
 constructor
 ·rintro ((h | h) | h)
  ·have : xs = ys := by rw [← nx, ← ny, h]
   rw [this, List.take_length]
  ·have : ys = [] := by rw [← ny, h]; rfl
   rw [this]; rfl
  ·unfold Lib.hasPrefix at h
   obtain ⟨t, ht⟩ := List.isPrefixOf_iff_prefix.1 h
   have : xs = ys ++ names t := by
    rw [← nx, ← ht, List.append_assoc]
    show names (joinP ys ++ 47 :: t) = _
    rw [names_app, ny]
   rw [this, List.take_left]
 ·intro h
  have e : xs = ys ++ xs.drop ys.length := by
   conv => lhs; rw [← List.take_append_drop ys.length xs, h]
  by_cases hys : ys = []
  ·exact .inl (.inr (by rw [hys]; rfl))
  ·by_cases hd : xs.drop ys.length = []
   ·refine .inl (.inl ?_)
    rw [hd, List.append_nil] at e
    rw [e]
   ·refine .inr ?_
    rw [e, joinP_app _ _ hys hd]
    unfold Lib.hasPrefix
    refine List.isPrefixOf_iff_prefix.2 ⟨Lib.join (xs.drop ys.length) [47], ?_⟩
    simp
theorem plain_joinP {p : List UInt8} (h : plain p = true) : joinP (names p) = p := by
 unfold plain at h
 simp only [Bool.and_eq_true, decide_eq_true_eq] at h
 exact h.1
theorem under_plain (p q : List UInt8) (hp : plain p = true) (hq : plain q = true) : underP p q = refUnder p q := by
 have h := under_joinP (names p) (names q) (fun x hx => names_mem hx) (fun x hx => names_mem hx)
 rw [plain_joinP hp, plain_joinP hq] at h
 exact h
end Go.Proofs.YtbphobmohdclaaaGreatDoor.Vcg
end
section
set_option linter.unusedVariables false
namespace Go.Proofs.YtbphobmohdclaaaGreatDoor.Vcg
open Go.RowKit Go.ChangeMaps Go.ChangeShapes Go.WideShapes Go.Deep Go.Joins
def env0 (W : World) : Env := ⟨W, fun _ _ => False, fun _ => False⟩
theorem Fun.answers {P : Program} {G : Globs} {f : FuncId} {args : List C} {u : Value} {n : Nat} (h : Fun P G f args (.sc u) n) {W : World} {vs : List Value} (hg : GlobOk G (env0 W)) (ha : RepL (env0 W) noLoc args vs) :
  Calls P f vs.toArray W fun e w' => e = .returned u ∧ Below W.heap.size W w' := by
 refine (h.2 (env0 W) vs hg ha).mono ?_
 rintro e w' ⟨v, R', L', rfl, rfl, st, hr⟩
 rw [rep_sc] at hr
 subst hr
 exact ⟨rfl, st.below⟩
section
variable {H : Type} {enc : TypeId × Value → H} {P : Program} {W : World}
def Opn (enc : TypeId × Value → H) (P : Program) (W : World) (t : TypeId) (Q : C → Prop) : Prop :=
 ∀ (fuel : Nat) (cs : List Value) (x : DataW H × List MemPlace), DataW.trod enc P W 0 (fun _ => true) true fuel t cs = some x → ∃ v c, cs = [v] ∧ Q c ∧ Rep (env0 W) noLoc c v ∧ v.oneCell' = true
def OpnRow (enc : TypeId × Value → H) (P : Program) (W : World) (t : TypeId) (k : Nat) (Q : List C → Prop) : Prop :=
 ∀ (fuel : Nat) (cs : List Value) (x : DataW H × List MemPlace), DataW.trod enc P W 0 (fun _ => true) true fuel t cs = some x →
  ∃ row, Q row ∧ row.length = k ∧ cs.length = k ∧ ∀ (j : Nat) c v, row[j]? = some c → cs[j]? = some v → Rep (env0 W) noLoc c v ∧ v.oneCell' = true
theorem Opn.int {t : TypeId} {k : IntKind} (ht : P.underlying t = some (.int k)) : Opn enc P W t fun c => ∃ n, c = .sc (.int k n) ∧ (Lit.int k n).wf = true := fun fuel cs x h => by
 obtain ⟨n, rfl, _, hw⟩ := DataW.trod_int ht h
 exact ⟨_, _, rfl, ⟨n, rfl, hw⟩, rep_sc.2 rfl, rfl⟩
theorem Opn.bool {t : TypeId} (ht : P.underlying t = some .bool) : Opn enc P W t fun c => ∃ b, c = .sc (.bool b) := fun fuel cs x h => by
 obtain ⟨n, rfl, _⟩ := DataW.trod_bool ht h
 exact ⟨_, _, rfl, ⟨n, rfl⟩, rep_sc.2 rfl, rfl⟩
theorem Opn.str {t : TypeId} (ht : P.underlying t = some .string) : Opn enc P W t fun c => ∃ l : List UInt8, c = .str l ∧ l.length ≤ maxLen := fun fuel cs x h => by
 obtain ⟨s, rfl, _, hs⟩ := DataW.trod_string ht h
 exact ⟨_, _, rfl, ⟨s.data.toList, rfl, by rw [Array.length_toList]; exact hs⟩, rep_str.2 (by cases s; simp), rfl⟩
theorem OpnRow.one {t : TypeId} {Q : C → Prop} (h : Opn enc P W t Q) : OpnRow enc P W t 1 fun row => ∃ c, row = [c] ∧ Q c := fun fuel cs x hx => by
 obtain ⟨v, c, rfl, hq, hr, ho⟩ := h fuel cs x hx
 refine ⟨[c], ⟨c, rfl, hq⟩, rfl, rfl, fun j c' v' h1 h2 => ?_⟩
 cases j with
 | zero => cases h1; cases h2; exact ⟨hr, ho⟩
 | succ j => cases h1
theorem list_of_opn {α : Type} {Q : Nat → α → Prop} : ∀ n : Nat, (∀ i, i < n → ∃ x, Q i x) → ∃ l : List α, l.length = n ∧ ∀ i (h : i < l.length), Q i l[i]
 | 0, _ => ⟨[], rfl, fun i h => absurd h (Nat.not_lt_zero _)⟩
 | n + 1, h => by
  obtain ⟨l, hl, hq⟩ := list_of_opn n fun i hi => h i (by omega)
  obtain ⟨x, hx⟩ := h n (by omega)
  refine ⟨l ++ [x], by simp [hl], fun i hi => ?_⟩
  rcases Nat.lt_or_ge i n with h1 | h1
  ·rw [List.getElem_append_left (by omega)]; exact hq i (by omega)
  ·have : i = n := by simp [hl] at hi; omega
   subst this
   rw [List.getElem_append_right (by omega)]
   simpa [hl] using hx
theorem OpnRow.struct {t : TypeId} {fs : Array Field} {Qs : Nat → C → Prop} (hs : P.underlying t = some (.struct fs)) (hone : oneCellFields P fs = true) (hC : P.cellsOf t = fs.size)
  (h : ∀ (j : Nat) f, fs[j]? = some f → Opn enc P W f.type (Qs j)) : OpnRow enc P W t fs.size fun row => row.length = fs.size ∧ ∀ (j : Nat) c, row[j]? = some c → Qs j c := fun fuel cs x hx => by
 obtain ⟨ys, n', hn', hy, hlen, hyl, hf⟩ := DataW.trod_struct hs hx
 rw [hC] at hlen
 obtain ⟨row, hl, hq⟩ := list_of_opn (Q := fun j (c : C) => Qs j c ∧ ∃ v, cs[j]? = some v ∧ Rep (env0 W) noLoc c v ∧ v.oneCell' = true) fs.size (fun j hj => by
  have hfj : fs[j]? = some fs[j] := Array.getElem?_eq_getElem hj
  obtain ⟨ho, hk⟩ := hone_of hone j _ hfj
  have h1 := hf j _ hfj
  rw [ho, hk] at h1
  have hone' : (cs.drop j).take 1 = [cs[j]'(by omega)] := by
   rw [List.drop_eq_getElem_cons (by omega)]
   rfl
  rw [hone', List.getElem?_eq_getElem (by omega)] at h1
  obtain ⟨v, c, e, hq, hr, hoc⟩ := h j _ hfj _ _ _ h1
  cases e
  exact ⟨c, hq, _, List.getElem?_eq_getElem (by omega), hr, hoc⟩)
 refine ⟨row, ⟨hl, fun j c hj => ?_⟩, hl, hlen, fun j c v h1 h2 => ?_⟩
 ·obtain ⟨hj', rfl⟩ := List.getElem?_eq_some_iff.1 hj
  exact (hq j hj').1
 ·obtain ⟨hj', rfl⟩ := List.getElem?_eq_some_iff.1 h1
  obtain ⟨_, v', e, hr, ho⟩ := hq j hj'
  rw [h2] at e; cases e
  exact ⟨hr, ho⟩
theorem Opn.slice {t e : TypeId} {k : Nat} {Q : List C → Prop} (ht : P.underlying t = some (.slice e)) (hC : P.cellsOf e = k) (hk : 0 < k) (h : OpnRow enc P W e k Q) : Opn enc P W t fun c => ∃ rows, c = .sl k rows ∧ rows.length ≤ maxLen ∧ ∀ r ∈ rows, Q r := fun fuel cs x hx => by
 rcases open_slice ht hx with h0 | ⟨a, len, cap, m, n, D, Pl, hcs, hb, hl, hm, hmm, hx, hi⟩
 ·exact ⟨_, .sl k [], h0.1, ⟨[], rfl, Nat.zero_le _, fun r hr => by cases hr⟩, rep_sl.2 ⟨none, 0, rfl, Nat.le_refl _, Nat.zero_le _, .inl rfl⟩, rfl⟩
 ·simp only [if_true] at hmm
  subst hmm
  obtain ⟨rows, hrl, hq⟩ := list_of_opn (Q := fun i (row : List C) => Q row ∧ row.length = k ∧ ∀ (j : Nat) c, row[j]? = some c → ∃ v, W.cell? (a.add (i * k + j)) = some v ∧ Rep (env0 W) noLoc c v ∧ v.oneCell' = true) len (fun i hlt => by
   obtain ⟨cs', hc, ht'⟩ := hi i (by omega)
   rw [hC] at hc
   obtain ⟨row, hq, hl1, hl2, hr⟩ := h _ _ _ ht'
   obtain ⟨_, hcl, hat⟩ := World.cells?_some hc
   refine ⟨row, hq, hl1, fun j c hj => ?_⟩
   have hjl : j < k := by have := (List.getElem?_eq_some_iff.1 hj).1; omega
   have hv : cs'[j]? = some (cs'[j]'(by omega)) := List.getElem?_eq_getElem (by omega)
   obtain ⟨hr1, hr2⟩ := hr j c _ hj hv
   refine ⟨_, ?_, hr1, hr2⟩
   rw [← Go.Deep.add_add, hat j hjl, hv])
  refine ⟨_, .sl k rows, hcs, ⟨rows, rfl, by omega, fun r hr => ?_⟩, ?_, rfl⟩
  ·obtain ⟨i, hi', rfl⟩ := List.getElem_of_mem hr
   exact (hq i hi').1
  ·refine rep_sl.2 ⟨some a, m, by rw [hrl], by omega, by omega, ?_⟩
   by_cases h0 : rows = []
   ·exact .inl h0
   ·have hpos : 0 < rows.length := List.length_pos_iff.2 h0
    obtain ⟨b, off, spot⟩ := a
    obtain ⟨_, hl0, h00⟩ := hq 0 hpos
    obtain ⟨v0, hc0, _⟩ := h00 0 ((rows[0]'hpos)[0]'(by omega)) (List.getElem?_eq_getElem _)
    have hspot : spot = none := by simpa [Addr.add] using World.cell?_spot hc0
    subst hspot
    refine .inr ⟨b, off, rfl, repRows_of_get fun i row hrow => ?_⟩
    obtain ⟨hi', rfl⟩ := List.getElem?_eq_some_iff.1 hrow
    obtain ⟨_, hlr, hcr⟩ := hq i hi'
    refine ⟨hlr, repCells_of_get fun j c hj => ?_⟩
    obtain ⟨v, h1, h2, h3⟩ := hcr j c hj
    rw [Addr.add_lit] at h1
    exact ⟨v, by rw [Nat.add_assoc]; exact h1, fun hf => hf, h2, h3⟩
theorem Opn.arg {r : Reach} {b0 : Nat} {t : TypeId} {Q : C → Prop} {v : Value} {d : DataW H} {p : List MemPlace} (h : Opn enc P W t Q) (hv : v.cells = #[v]) (hd : DataW.Trod enc P W 0 (fun _ => true) true t v d p) : ∃ c, Q c ∧ Rep (env0 W) noLoc c v := by
 obtain ⟨fuel, hf⟩ := hd
 rw [hv] at hf
 obtain ⟨v', c, e, hq, hr, _⟩ := h _ _ _ hf
 cases e
 exact ⟨c, hq, hr⟩
theorem OpnRow.arg {r : Reach} {b0 : Nat} {t : TypeId} {fs : Array Field} {k : Nat} {Q : List C → Prop} {v : Value} {d : DataW H} {p : List MemPlace} (h : OpnRow enc P W t k Q) (hs : P.underlying t = some (.struct fs)) (hval : Value.okWide P W r b0 t v)
  (hd : DataW.Trod enc P W 0 (fun _ => true) true t v d p) : ∃ row, Q row ∧ Rep (env0 W) noLoc (.agg row) v := by
 obtain ⟨cs, rfl, hsz⟩ := okWide_struct hs hval
 obtain ⟨fuel, hf⟩ := hd
 obtain ⟨row, hq, h1, h2, hr⟩ := h _ _ _ hf
 refine ⟨row, hq, rep_agg.2 ⟨cs, rfl, repL_of_get ?_ fun i c v hc hv => (hr i c v hc hv).1⟩⟩
 have : cs.toList.length = k := h2
 omega
end
end Go.Proofs.YtbphobmohdclaaaGreatDoor.Vcg
end
section
set_option linter.unusedVariables false
namespace Go.Proofs.YtbphobmohdclaaaGreatDoor.Vcg
open Go.RowKit Go.ChangeMaps Go.ChangeShapes Go.WideShapes Go.Deep Go.Joins
section
variable {H : Type} {enc : TypeId × Value → H} {W : World}
end
end Go.Proofs.YtbphobmohdclaaaGreatDoor.Vcg
end
