/- What the proof of RmsTrue leans on, part 3: Vcg18 Slc0 Slc1 TabV Tab1 OpenG OpenT Srt0 SlcE Shelf Tab2 TabR Snd1 PathN Ref1 Path1 Path2 Path3 Path4 May1 May2 May3. No condition beyond what each theorem states. -/
import Derived.Test.YtlkjpfiancahiaaGreatDoorRmsTrueKb
import Derived.Lib.Overlaps
import Derived.Laws.Externs
import Derived.WalkKit
import Derived.ProofKit
import Derived.Deep.Slices
import Derived.Deep.Fields
import Derived.ChangeSame
import Derived.ChangeOld
import Derived.Lib.SmallJoins
import Derived.Test.YtlkjpfiancahiaaGreatDoorRows
import Derived.Lib.Bytealg
import Derived.Shelf.Strings.Builder1
import Derived.Shelf.Strings.Builder2
import Derived.Shelf.Strings.OnBuilder
import Derived.Shelf.Strings.Trim
import Derived.Shelf.Small.Utf8
import Derived.Shelf.Small.Strs
import Derived.Shelf.Small.Wraps
import Derived.Shelf.Strings.BuilderF
import Derived.Shelf.Strings.BuilderK
import Derived.Shelf.Strings.Search1
import Derived.Shelf.Strings.Search2
import Derived.Shelf.Strings.Search3
import Derived.Shelf.LaysM
import Derived.Shelf.Strings.Shaped
import Derived.Shelf.Strings.Prefix
import Derived.Shelf.Unicode.Decode
import Derived.Shelf.Strings.Runes
import Derived.Shelf.Strings.IndexAny
import Derived.Shelf.Strings.AsciiSet
import Derived.Shelf.Strings.IndexAnyAll
import Derived.Shelf.Unicode.DecodeSlow
import Derived.Shelf.Unicode.DecodeAny
import Derived.Shelf.Unicode.DecodeLast
import Derived.Ground.Names2Prog
import Derived.Shelf.Slices.SearchI
import Derived.Test.YtlkjpfiancahiaaGreatDoorProg
import Derived.Laws.Runes
import Derived.Laws.RangeString
import Derived.Deep.LoopGhost
import Derived.Lib.QuoteLoop
import Derived.Lib.IndexAny
set_option linter.unusedVariables false
set_option linter.unusedSimpArgs false
set_option linter.unusedSectionVars false
set_option maxRecDepth 100000
set_option maxHeartbeats 4000000
namespace Go.Proofs.YtlkjpfiancahiaaGreatDoor.Vcg
section
open Go.RowKit
section
variable {P:Program} {G:zo} {σ σ':St} {N p lg m:Nat} {h:Hd} {yd:Option Yd} {brs:List Bool} {bf:Nat->List Bool} {bx bx':List (List C)} {ops:Array Oper} {c c' d d':C} {t t':TypeId} {K:C->Prop} {K2:C->Nat->Prop} {K3:C->St->Prop} {nx:Nat} {tm:List (Nat×C)} {x y z:Operand} {Q:Exit->St->Prop} {X Y:Prop}
def uC (P:Program) (G:zo) (f:FuncId) (args:List C) (nx:Nat) (K:C->Nat->Prop):Prop:=∃ r n,Fun P G f args r n/\K (r.sh nx) (nx+n)
theorem uC.mk {f:FuncId} {args:List C} {r:C} {n:Nat} (h:Fun P G f args r n) (hK:K2 (r.sh nx) (nx+n)):uC P G f args nx K2:=⟨r,n,h,hK⟩
def zpn (P:Program) (G:zo) (f:FuncId) (args fargs:List C) (σ:St) (K:C->St->Prop):Prop:=
 (∃ r n,Fun P G f fargs r n/\K (r.sh σ.nx) ⟨σ.tm,σ.bx,σ.nx+n,σ.lg⟩)∨yz P G f args σ K∨zj9 P G f args σ K∨UA P G f args σ K∨zgA P f args σ K
def aGd (d:Option Tmp) (tm:List (Nat×C)) (want:Bool) (X Y:Prop):Prop:=match d with
 | some d=>match want with
  | true=>zkA (jy tm d) Y X Y
  | false=>zkA (jy tm d) Y Y X
 | none=>False
def zpU (L:Option Lay) (c:C) (bx:List (List C)) (K:C->Prop):Prop:=
 match L with
 | none=>False
 | some L=>match c with
  | .ptr i off=>match bx[i]? with
   | some cs=>JS L (cs.drop off) K
   | none=>False
  | .row cs=>JS L cs K
  | _=>False
def zo3 (cs:Option (List C)) (off:Nat) (L:Lay) (K:C->Prop):Prop:=match cs with | some cs=>JS L (cs.drop off) K | none=>False
def zpL (L:Option Lay) (op:BinOp) (a b:Bool) (K:C->Prop):Prop:=match L with | some ⟨.bool,_,_,_⟩=>ziB op a b K | _=>False
def zq1 (x:Option C) (K:C->Prop):Prop:=match x with | some c=>K c | none=>False
def yT (L:Option Lay) (c:C) (f:Nat) (K:C->Prop):Prop:=
 match L with
 | some ⟨.struct fs,_,_,_⟩=>match fs[f]?,c with
  | some (off,size,agg),.agg cs =>
   if agg then off+size<=cs.length/\K (.agg ((cs.drop off).take size)) else match cs[off]? with
    | some c=>K c
    | none=>False
  | _,_=>False
 | _=>False
def Ud (f:Option (Nat×Nat×Bool)) (cs:List C) (K:C->Prop):Prop:=
 match f with
 | some (off,size,agg)=>if agg then off+size<=cs.length/\K (.agg ((cs.drop off).take size)) else match cs[off]? with
    | some c=>K c
    | none=>False
 | none=>False
def zsO (L:Option Lay) (c:C) (f:Nat) (K:C->Prop):Prop:=
 match L with
 | some ⟨.struct fs,_,_,_⟩=>match fs[f]?,c with
  | some (off,size,_),.ptr i o=>if size=0 then False else K (.ptr i (o+off))
  | some (off,size,_),.row cs=>if size=0 then False else K (.row (cs.drop off))
  | _,_=>False
 | _=>False
def zpt (f:Option (Nat×Nat×Bool)) (c:C) (K:C->Prop):Prop:=
 match f,c with
  | some (off,size,_),.ptr i o=>if size=0 then False else K (.ptr i (o+off))
  | some (off,size,_),.row cs=>if size=0 then False else K (.row (cs.drop off))
  | _,_=>False
def zsP (P:Program) (L:Option Lay) (c:C) (i:C) (K:C->Prop):Prop:=
 match L,i with
 | some ⟨.slice e,_,_,_⟩,.sc (.int _ n)=>match lay P e with
  | some L=>match c with
   | .bs j off k m _=>k=L.size/\0<=n/\n<(m:Int)/\K (.ptr j (off+n.toNat*L.size))
   | c=>match c.rows? L.size with
    | some rows=>match rows[n.toNat]? with
     | some r=>0<=n/\K (.row r)
     | none=>False
    | none=>False
  | none=>False
 | some ⟨.array (m+1) e,_,_,_⟩,.sc (.int _ n)=>match lay P e with
  | some L=>match c with
   | .ptr j off=>0<=n/\n<((m+1:Nat):Int)/\K (.ptr j (off+n.toNat*L.size))
   | .row cs=>0<=n/\n<((m+1:Nat):Int)/\K (.row (cs.drop (n.toNat*L.size)))
   | _=>False
  | none=>False
 | _,_=>False
def zsB (L:Option Lay) (c:C) (n:Int) (K:C->Prop):Prop:=
 match L with
  | some L=>match c with
   | .bs j off k m _=>k=L.size/\0<=n/\n<(m:Int)/\K (.ptr j (off+n.toNat*L.size))
   | c=>match c.rows? L.size with
    | some rows=>match rows[n.toNat]? with
     | some r=>0<=n/\K (.row r)
     | none=>False
    | none=>False
  | none=>False
def zsA (rows:Option (List (List C))) (n:Int) (K:C->Prop):Prop:=
 match rows with
   | some rows=>match rows[n.toNat]? with
    | some r=>0<=n/\K (.row r)
    | none=>False
   | none=>False
def aAt (r:Option (List C)) (n:Int) (K:C->Prop):Prop:=match r with | some r=>0<=n/\K (.row r) | none=>False
def zsF (L:Option Lay) (c:C) (m:Nat) (n:Int) (K:C->Prop):Prop:=
 match L with
  | some L=>match c with
   | .ptr j off=>0<=n/\n<((m+1:Nat):Int)/\K (.ptr j (off+n.toNat*L.size))
   | .row cs=>0<=n/\n<((m+1:Nat):Int)/\K (.row (cs.drop (n.toNat*L.size)))
   | _=>False
  | none=>False
def zqD (L:Option Lay) (c i:C) (K:C->Prop):Prop:=
 match L,c,i with
 | some ⟨.str,_,_,_⟩,.str l,.sc (.int _ n)=>match l[n.toNat]? with
  | some b=>0<=n/\K (.sc (.int .u8 (b.toNat:Int)))
  | none=>False
 | _,_,_=>False
def zlu (b:Option UInt8) (n:Int) (K:C->Prop):Prop:=match b with | some b=>0<=n/\K (.sc (.int .u8 (b.toNat:Int))) | none=>False
def zsg (P:Program) (L:Option Lay) (c:C) (lo hi mx:Option Int) (K:C->Prop):Prop:=
   match L with
    | some ⟨.str,_,_,_⟩=>match c,mx with
      | .str l,none=>jD l.length lo hi/\K (.str (cut l lo hi))
      | _,_=>False
    | some ⟨.slice e,_,_,_⟩=>match lay P e with
      | some L=>match c with
        | .bs i off k n cap=>znk L.size i off k n cap lo hi mx K
        | .sc (.slice none 0 0)=>zpm L.size lo hi mx K
        | c=>match c.rows? L.size with
          | some rows=>match mx,hi with
            | none,_=>jD rows.length lo hi/\K (.sl L.size (cut rows lo hi))
            | some m,some h=>m=h/\jD rows.length lo hi/\K (.tight L.size (cut rows lo hi))
            | some _,none=>False
          | none=>False
      | none=>False
    | _=>False
def zst (P:Program) (t:TypeId) (c:C) (lo hi mx:Option (Option Int)) (K:C->Prop):Prop:=
 match lo,hi,mx with
 | some lo,some hi,some mx=>zsg P (lay P t) c lo hi mx K
 | _,_,_=>False
def zsJ (L:Option Lay) (c:C) (lo hi mx:Option Int) (K:C->Prop):Prop:=
 match L with
   | some L=>match c with
    | .bs i off k n cap=>znk L.size i off k n cap lo hi mx K
    | .sc (.slice none 0 0)=>zpm L.size lo hi mx K
    | c=>match c.rows? L.size with
     | some rows=>match mx,hi with
      | none,_=>jD rows.length lo hi/\K (.sl L.size (cut rows lo hi))
      | some m,some h=>m=h/\jD rows.length lo hi/\K (.tight L.size (cut rows lo hi))
      | some _,none=>False
     | none=>False
   | none=>False
def zsL (rows:Option (List (List C))) (k:Nat) (lo hi mx:Option Int) (K:C->Prop):Prop:=
 match rows with
    | some rows=>match mx,hi with
     | none,_=>jD rows.length lo hi/\K (.sl k (cut rows lo hi))
     | some m,some h=>m=h/\jD rows.length lo hi/\K (.tight k (cut rows lo hi))
     | some _,none=>False
    | none=>False
def zeO (rows:Option (List (List C))) (K:C->Prop):Prop:=match rows with | some rows=>∃ l,rows=Jm l/\K (.str l) | none=>False
theorem zeO.mk {rows:List (List C)} (l:List UInt8) (h:rows=Jm l) (hK:K (.str l)):zeO (some rows) K:=⟨l,h,hK⟩
def zsY (P:Program) (D S:Option Lay) (c:C) (K:C->Prop):Prop:=
 match D with
 | some ⟨.int k,_,_,_⟩=>match c with
  | .sc (.int _ n)=>match S with | some _=>inR k n/\K (.sc (.int k n)) | none=>False
  | _=>False
 | some ⟨.str,_,_,_⟩=>match S with
  | some ⟨.str,_,_,_⟩=>match c with
   | .str l=>K (.str l)
   | _=>False
  | some ⟨.slice e,_,_,_⟩=>match lay P e with
   | some ⟨.int .u8,_,_,_⟩=>match c.rows? 1 with
    | some rows=>∃ l,rows=Jm l/\K (.str l)
    | none=>False
   | _=>False
  | some ⟨.int _,_,_,_⟩=>match c with
   | .sc (.int _ n)=>K (.str (Utf8.encode n).data.toList)
   | _=>False
  | _=>False
 | some ⟨.slice e,_,_,_⟩=>match S,lay P e with
  | some ⟨.str,_,_,_⟩,some ⟨.int .u8,_,_,_⟩=>match c with
   | .str l=>((l.length:Nat):Int)<=9223372036854775807/\K (.sl 1 (Jm l))
   | _=>False
  | _,_=>False
 | _=>False
def zsz (L:Option Lay) (c:C) (K:C->Prop):Prop:=
 match L with
   | some ⟨.int .u8,_,_,_⟩=>match c.rows? 1 with
    | some rows=>∃ l,rows=Jm l/\K (.str l)
    | none=>False
   | _=>False
def zqL (L:Option Lay) (c:C) (K:C->Prop):Prop:=
 match L,c with
 | some ⟨.slice _,_,_,_⟩,.bs _ _ _ _ c=>K (.sc (.int .i64 (c:Int)))
 | some ⟨.slice _,_,_,_⟩,.sc (.slice none 0 0)=>K (.sc (.int .i64 0))
 | _,_=>False
def zrL (L:Option Lay) (n:Int) (K:C->Prop):Prop:=match L with | some ⟨.slice _,_,_,_⟩=>K (.sc (.int .i64 n)) | _=>False
def zrs (L:Option Lay) (n:Int) (K:C->Prop):Prop:=match L with | some ⟨.str,_,_,_⟩=>K (.sc (.int .i64 n)) | _=>False
def zrO (L:Option Lay) (parts:List (Nat×C)) (K:C->Prop):Prop:=
 match L with
 | some ⟨.struct fs,_,_,some z⟩=>(parts.all fun p=>p.2.partB)=true/\match YG (fun i=>(fs[i]?).map fun f=>(f.1,f.2.1)) (z.map zy) parts with
  | some cs=>K (.agg cs)
  | none=>False
 | _=>False
def aFl (cs:Option (List C)) (K:C->Prop):Prop:=match cs with | some cs=>K (.agg cs) | none=>False
def plS (fs:List (Nat×Nat×Bool)) (i:Nat):Option (Nat×Nat):=(fs[i]?).map fun f=>(f.1,f.2.1)
def plA (k:Nat) (i:Nat):Option (Nat×Nat):=some (i*k,k)
def zj4 (pl:Option (Nat×Nat)) (place:Nat->Option (Nat×Nat)) (cs:List C) (c:List C) (rest:List (Nat×C)):Option (List C):=
 match pl with
  | none=>none
  | some (off,size)=>if c.length=size/\off+size<=cs.length then YG place (cs.take off++c++cs.drop (off+size)) rest else none
def zsC (P:Program) (L:Option Lay) (n:Nat) (parts:List (Nat×C)) (nx:Nat) (K:C->Nat->Prop):Prop:=
 match L with
 | some ⟨.slice e,_,_,_⟩=>match lay P e with
  | some ⟨_,k,_,some z⟩=>z.length=k/\0<k/\n*k<=16777216/\(parts.all fun p=>p.2.frz.partB)=true/\match YG (fun i=>some (i*k,k)) (List.replicate n (z.map zy)).flatten (parts.map fun p=>(p.1,p.2.frz)) with
   | some cs=>(cs.all C.cellB)=true/\cs.length=n*k/\K (.own nx e k (Qc k n cs)) (nx+1)
   | none=>False
  | _=>False
 | _=>False
def zsN (L:Option Lay) (e:TypeId) (n:Nat) (parts:List (Nat×C)) (nx:Nat) (K:C->Nat->Prop):Prop:=
   match L with
    | some ⟨_,k,_,some z⟩=>z.length=k/\0<k/\n*k<=16777216/\(parts.all fun p=>p.2.frz.partB)=true/\match YG (fun i=>some (i*k,k)) (List.replicate n (z.map zy)).flatten (parts.map fun p=>(p.1,p.2.frz)) with
      | some cs=>(cs.all C.cellB)=true/\cs.length=n*k/\K (.own nx e k (Qc k n cs)) (nx+1)
      | none=>False
    | _=>False
def zs0 (cs:Option (List C)) (e k n nx:Nat) (K:C->Nat->Prop):Prop:=
 match cs with
   | some cs=>(cs.all C.cellB)=true/\cs.length=n*k/\K (.own nx e k (Qc k n cs)) (nx+1)
   | none=>False
def zta (P:Program) (L:Option Lay) (l c:C) (nx:Nat) (K:C->Nat->Prop):Prop:=
 match L,l,c with
 | some ⟨.slice e,_,_,_⟩,.sc (.int _ l),.sc (.int _ c)=>match lay P e with
  | some ⟨_,k,by',some z⟩=>z.length=k/\0<k/\(z.all Value.oneCell')=true/\0<=l/\l<=c/\(by':Int)*c<=281474976710656/\c<=9223372036854775807/\K (.own nx e k (List.replicate l.toNat (z.map zy))) (nx+1)
  | _=>False
 | _,_,_=>False
def zsR (L:Option Lay) (e:TypeId) (l c:Int) (nx:Nat) (K:C->Nat->Prop):Prop:=
 match L with
  | some ⟨_,k,by',some z⟩=>z.length=k/\0<k/\(z.all Value.oneCell')=true/\0<=l/\l<=c/\(by':Int)*c<=281474976710656/\c<=9223372036854775807/\K (.own nx e k (List.replicate l.toNat (z.map zy))) (nx+1)
  | _=>False
def zrm (P:Program) (L:Option Lay) (l c:C) (σ:St) (K:C->St->Prop):Prop:=
 match L,l,c with
 | some ⟨.slice e,_,_,_⟩,.sc (.int _ l),.sc (.int _ c)=>match lay P e with
  | some ⟨_,k,by',some z⟩=>z.length=k/\0<k/\(z.all Value.oneCell')=true/\0<=l/\l<=c/\(by':Int)*c<=281474976710656/\c<=9223372036854775807/\K (.bs σ.bx.length 0 k l.toNat c.toNat) ⟨σ.tm,σ.bx++[(List.replicate c.toNat (z.map zy)).flatten],σ.nx,σ.lg⟩
  | _=>False
 | _,_,_=>False
def zq9 (L:Option Lay) (l c:Int) (σ:St) (K:C->St->Prop):Prop:=
 match L with
  | some ⟨_,k,by',some z⟩=>z.length=k/\0<k/\(z.all Value.oneCell')=true/\0<=l/\l<=c/\(by':Int)*c<=281474976710656/\c<=9223372036854775807/\K (.bs σ.bx.length 0 k l.toNat c.toNat) ⟨σ.tm,σ.bx++[(List.replicate c.toNat (z.map zy)).flatten],σ.nx,σ.lg⟩
  | _=>False
def zsG (P:Program) (L:Option Lay) (s x:C) (nx:Nat) (K:C->Nat->Prop):Prop:=
 match L with
 | some ⟨.slice e,_,_,_⟩=>match lay P e with
  | some ⟨_,k,by',some z⟩=>match x.rows? k with
   | some xs=>match s with
    | .sc (.slice none 0 0)=>z.length=k/\0<k/\xs.length<=9223372036854775807/\xs.length*by'<=140737488355328/\K (.own nx e k xs) (nx+1)
    | .tight k' rows=>k'=k/\z.length=k/\0<k/\rows.length+xs.length<=9223372036854775807/\(rows.length+xs.length)*by'<=140737488355328/\(xs = []->K (.tight k' rows) nx)/\(xs≠[]->K (.own nx e k (rows++xs)) (nx+1))
    | _=>False
   | none=>False
  | _=>False
 | _=>False
def zsk (L:Option Lay) (e:TypeId) (s x:C) (nx:Nat) (K:C->Nat->Prop):Prop:=
  match L with
  | some ⟨_,k,by',some z⟩=>match x.rows? k with
   | some xs=>match s with
    | .sc (.slice none 0 0)=>z.length=k/\0<k/\xs.length<=9223372036854775807/\xs.length*by'<=140737488355328/\K (.own nx e k xs) (nx+1)
    | .tight k' rows=>k'=k/\z.length=k/\0<k/\rows.length+xs.length<=9223372036854775807/\(rows.length+xs.length)*by'<=140737488355328/\(xs = []->K (.tight k' rows) nx)/\(xs≠[]->K (.own nx e k (rows++xs)) (nx+1))
    | _=>False
   | none=>False
  | _=>False
def zs6 (xs:Option (List (List C))) (s:C) (e k by':Nat) (z:List Value) (nx:Nat) (K:C->Nat->Prop):Prop:=
 match xs with
   | some xs=>match s with
    | .sc (.slice none 0 0)=>z.length=k/\0<k/\xs.length<=9223372036854775807/\xs.length*by'<=140737488355328/\K (.own nx e k xs) (nx+1)
    | .tight k' rows=>k'=k/\z.length=k/\0<k/\rows.length+xs.length<=9223372036854775807/\(rows.length+xs.length)*by'<=140737488355328/\(xs = []->K (.tight k' rows) nx)/\(xs≠[]->K (.own nx e k (rows++xs)) (nx+1))
    | _=>False
   | none=>False
def zsn (P:Program) (L:Option Lay) (id e k:Nat) (rows:List (List C)) (x:C) (σ:St) (K:C->St->Prop):Prop:=
   match L with
    | some ⟨.slice e',_,_,_⟩=>match lay P e with
      | some ⟨_,k',by',some z⟩=>match x.rows? k with
        | some xs=>e'=e/\k'=k/\z.length=k/\0<k/\rows.length+xs.length<=9223372036854775807/\(rows.length+xs.length)*by'<=140737488355328/\K (.own id e k (rows++xs)) ⟨zaU id σ.tm,xy id σ.bx,σ.nx,σ.lg⟩
        | none=>False
      | _=>False
    | _=>False
def zry (L:Option Lay) (e' id e k:Nat) (rows:List (List C)) (x:C) (σ:St) (K:C->St->Prop):Prop:=
  match L with
   | some ⟨_,k',by',some z⟩=>match x.rows? k with
    | some xs=>e'=e/\k'=k/\z.length=k/\0<k/\rows.length+xs.length<=9223372036854775807/\(rows.length+xs.length)*by'<=140737488355328/\K (.own id e k (rows++xs)) ⟨zaU id σ.tm,xy id σ.bx,σ.nx,σ.lg⟩
    | none=>False
   | _=>False
def zrD (xs:Option (List (List C))) (by' id e k:Nat) (rows:List (List C)) (σ:St) (K:C->St->Prop):Prop:=
   match xs with
        | some xs=>rows.length+xs.length<=9223372036854775807/\(rows.length+xs.length)*by'<=140737488355328/\K (.own id e k (rows++xs)) ⟨zaU id σ.tm,xy id σ.bx,σ.nx,σ.lg⟩
        | none=>False
def zsu (L:Option Lay) (σ:St) (K:C->St->Prop):Prop:=
 match L with
 | some ⟨_,_,_,some z⟩=>(z.all Value.oneCell')=true/\K (.ptr σ.bx.length 0) ⟨σ.tm,σ.bx++[z.map zy],σ.nx,σ.lg⟩
 | _=>False
def zsD (L:Option Lay) (p c:C) (bx:List (List C)) (K:C->Prop):Prop:=
 match L,p with
 | some L,.ptr i off=>match bx[i]? with
  | some cs=>c.partB=true/\(c.cells.all C.cellB)=true/\c.cells.length=L.size/\off+L.size<=cs.length/\VH ((cs.drop off).take L.size) c.cells/\K .any
  | none=>False
 | _,_=>False
def zsv (cs:Option (List C)) (off size:Nat) (c:C) (K:C->Prop):Prop:=
 match cs with
  | some cs=>c.partB=true/\(c.cells.all C.cellB)=true/\c.cells.length=size/\off+size<=cs.length/\VH ((cs.drop off).take size) c.cells/\K .any
  | none=>False
def zsX (L:Option Lay) (p c:C) (σ:St) (K:C->St->Prop):Prop:=
 match L,p with
 | some L,.ptr i off=>match σ.bx[i]? with
  | some cs=>c.partB=true/\(c.cells.all C.cellB)=true/\c.cells.length=L.size/\off+L.size<=cs.length/\K .any ⟨σ.tm,σ.bx.set i (cs.take off++c.cells++cs.drop (off+L.size)),σ.nx,σ.lg⟩
  | none=>False
 | _,_=>False
def zsl (cs:Option (List C)) (i off size:Nat) (c:C) (σ:St) (K:C->St->Prop):Prop:=
 match cs with
  | some cs=>c.partB=true/\(c.cells.all C.cellB)=true/\c.cells.length=size/\off+size<=cs.length/\K .any ⟨σ.tm,σ.bx.set i (cs.take off++c.cells++cs.drop (off+size)),σ.nx,σ.lg⟩
  | none=>False
def zdc (cs:Option (List C)) (off n:Nat) (K:C->Prop):Prop:=match cs with
   | some cs=>∃ l:List UInt8,l.length=n/\(cs.drop off).take n=l.map (fun b=>C.sc (.int .u8 (b.toNat:Int)))/\K (.str l)
   | none=>False
theorem zdc.mk {cs:List C} {off n:Nat} {K:C->Prop} (l:List UInt8) (hl:l.length=n) (h:(cs.drop off).take n=l.map (fun b=>C.sc (.int .u8 (b.toNat:Int)))) (hK:K (.str l)):zdc (some cs) off n K:=⟨l,hl,h,hK⟩
def zsU (P:Program) (L:Option Lay) (n:Nat) (parts:List (Nat×C)) (σ:St) (K:C->St->Prop):Prop:=
 match L with
 | some ⟨.slice e,_,_,_⟩=>match lay P e with
  | some ⟨_,k,_,some z⟩=>z.length=k/\0<k/\n*k<=16777216/\(parts.all fun p=>p.2.frz.partB)=true/\match YG (fun i=>some (i*k,k)) (List.replicate n (z.map zy)).flatten (parts.map fun p=>(p.1,p.2.frz)) with
   | some cs=>(cs.all C.cellB)=true/\cs.length=n*k/\K (.bs σ.bx.length 0 k n n) ⟨σ.tm,σ.bx++[cs],σ.nx,σ.lg⟩
   | none=>False
  | _=>False
 | _=>False
def zsj (L:Option Lay) (n:Nat) (parts:List (Nat×C)) (σ:St) (K:C->St->Prop):Prop:=
   match L with
    | some ⟨_,k,_,some z⟩=>z.length=k/\0<k/\n*k<=16777216/\(parts.all fun p=>p.2.frz.partB)=true/\match YG (fun i=>some (i*k,k)) (List.replicate n (z.map zy)).flatten (parts.map fun p=>(p.1,p.2.frz)) with
      | some cs=>(cs.all C.cellB)=true/\cs.length=n*k/\K (.bs σ.bx.length 0 k n n) ⟨σ.tm,σ.bx++[cs],σ.nx,σ.lg⟩
      | none=>False
    | _=>False
def zsT (cs:Option (List C)) (k n:Nat) (σ:St) (K:C->St->Prop):Prop:=
 match cs with
   | some cs=>(cs.all C.cellB)=true/\cs.length=n*k/\K (.bs σ.bx.length 0 k n n) ⟨σ.tm,σ.bx++[cs],σ.nx,σ.lg⟩
   | none=>False
def zs4 (P:Program) (L:Option Lay) (p:Nat) (s x:C) (σ:St) (K:C->St->Prop):Prop:=
 match L with
 | some ⟨.slice e,_,_,_⟩=>match lay P e with
  | some ⟨_,k,by',some z⟩=>match x.xs? k σ.bx with
   | some (m,xs)=>z.length=k/\0<k/\(z.all Value.oneCell')=true/\0<m/\match s with
    | .sc (.slice none 0 0)=>m<=9223372036854775807/\m*by'<=140737488355328/\∀ c,m<=c->c<=maxLen->K (.bs σ.bx.length 0 k m c) ⟨σ.tm,σ.bx++[xs++List.replicate ((c-m)*k) .any],σ.nx,σ.lg⟩
    | .bs i 0 k' n c=>match σ.bx[i]? with
     | some cs=>k'=k/\p<=i/\cs.length=c*k/\n<=c/\c<=9223372036854775807/\n+m<=9223372036854775807/\(n+m)*by'<=140737488355328 /\
       ∀ c',n+m<=c'->c'<=maxLen->K (.bs i 0 k (n+m) c') ⟨k9 (JE i) some σ.tm,Q3 i (C.reL (JE i) some (cs.take (n*k)++xs)++List.replicate ((c'-(n+m))*k) .any) σ.bx,σ.nx,σ.lg⟩
     | none=>False
    | _=>False
   | none=>False
  | _=>False
 | _=>False
def zs2 (L:Option Lay) (p:Nat) (s x:C) (σ:St) (K:C->St->Prop):Prop:=
  match L with
  | some ⟨_,k,by',some z⟩=>match x.xs? k σ.bx with
   | some (m,xs)=>z.length=k/\0<k/\(z.all Value.oneCell')=true/\0<m/\match s with
    | .sc (.slice none 0 0)=>m<=9223372036854775807/\m*by'<=140737488355328/\∀ c,m<=c->c<=maxLen->K (.bs σ.bx.length 0 k m c) ⟨σ.tm,σ.bx++[xs++List.replicate ((c-m)*k) .any],σ.nx,σ.lg⟩
    | .bs i 0 k' n c=>match σ.bx[i]? with
     | some cs=>k'=k/\p<=i/\cs.length=c*k/\n<=c/\c<=9223372036854775807/\n+m<=9223372036854775807/\(n+m)*by'<=140737488355328 /\
       ∀ c',n+m<=c'->c'<=maxLen->K (.bs i 0 k (n+m) c') ⟨k9 (JE i) some σ.tm,Q3 i (C.reL (JE i) some (cs.take (n*k)++xs)++List.replicate ((c'-(n+m))*k) .any) σ.bx,σ.nx,σ.lg⟩
     | none=>False
    | _=>False
   | none=>False
  | _=>False
def zss (X:Option (Nat×List C)) (p k by':Nat) (z:List Value) (s:C) (σ:St) (K:C->St->Prop):Prop:=
  match X with
   | some (m,xs)=>z.length=k/\0<k/\(z.all Value.oneCell')=true/\0<m/\match s with
    | .sc (.slice none 0 0)=>m<=9223372036854775807/\m*by'<=140737488355328/\∀ c,m<=c->c<=maxLen->K (.bs σ.bx.length 0 k m c) ⟨σ.tm,σ.bx++[xs++List.replicate ((c-m)*k) .any],σ.nx,σ.lg⟩
    | .bs i 0 k' n c=>match σ.bx[i]? with
     | some cs=>k'=k/\p<=i/\cs.length=c*k/\n<=c/\c<=9223372036854775807/\n+m<=9223372036854775807/\(n+m)*by'<=140737488355328 /\
       ∀ c',n+m<=c'->c'<=maxLen->K (.bs i 0 k (n+m) c') ⟨k9 (JE i) some σ.tm,Q3 i (C.reL (JE i) some (cs.take (n*k)++xs)++List.replicate ((c'-(n+m))*k) .any) σ.bx,σ.nx,σ.lg⟩
     | none=>False
    | _=>False
   | none=>False
def bsO (j:Option Nat) (off k n c:Nat):C:=match j with | some j=>.bs j off k n c | none=>.any
def xsB (k' k off n:Nat) (cs:Option (List C)):Option (Nat×List C):=if k'=k then cs.bind fun cs=>if off+n*k<=cs.length then some (n,(cs.drop off).take (n*k)) else none else none
def zqw (j:Option Nat) (e k:Nat) (rows:List (List C)):C:=match j with | some j=>.own j e k rows | none=>.sl k rows
def zru (cs:Option (List C)) (off:Nat):C:=match cs with | some cs=>.row ((C.frzL cs).drop off) | none=>.any
def znx (j:Option Nat) (off:Nat):C:=match j with | some j=>.ptr j off | none=>.any
def zlw (cs:Option (List C)) (p:Option Tmp) (σ:St) (K:St->Prop):Prop:=match cs,p with
  | some cs,some p=>K ⟨(p,.ptr σ.bx.length 0) :: σ.tm,σ.bx++[cs],σ.nx,σ.lg⟩
  | _,_=>False
def zsm (M:Option (MKd×C)) (t:TypeId) (r:Option C) (nx:Nat) (K:C->Nat->Prop):Prop:=
 match M with
 | some (kd,_)=>match r with
  | none=>K (.mo nx t kd.nil []) (nx+1)
  | some (.sc (.int _ _))=>K (.mo nx t kd.nil []) (nx+1)
  | _=>False
 | none=>False
def zsH (M:Option (MKd×C)) (t:TypeId) (m key:C) (ok:Bool) (K:C->Prop):Prop:=
 match M with
 | some (.int k,z)=>match m,key with
  | .mo _ t' (.int k' l) vs,.sc (.int q n)=>t'=t/\k'=k/\q=k/\k7 (zkr n l vs) z ok K
  | _,_=>False
 | some (.str,z)=>match m,key with
  | .mo _ t' (.str l) vs,.str s=>t'=t/\k7 (zkr s l vs) z ok K
  | _,_=>False
 | none=>False
def zsr (M:Option (MKd×C)) (t:TypeId) (m key x:C) (σ:St) (K:C->St->Prop):Prop:=
 match M with
 | some (.int k,_)=>match m,key with
  | .mo id t' (.int k' l) vs,.sc (.int q n)=>t'=t/\k'=k/\q=k/\H9 id (.int k (kz n x.frz l vs).1) (kz n x.frz l vs).2 σ K
  | _,_=>False
 | some (.str,_)=>match m,key with
  | .mo id t' (.str l) vs,.str s=>t'=t/\H9 id (.str (kz s x.frz l vs).1) (kz s x.frz l vs).2 σ K
  | _,_=>False
 | none=>False
def zsb (x:Option (List C)):C:=match x with | some cs=>.row cs | none=>.any
structure Tag.{u} {α:Sort u} (a:α):Type where
def zoL (M:Option (MKd×C)) (t:TypeId) (r:Option C) (nx:Nat) (K:C->Nat->Prop) (_:Tag K):Prop:=zsm M t r nx K
def zpQ (M:Option (MKd×C)) (t:TypeId) (m key:C) (ok:Bool) (K:C->Prop) (_:Tag K):Prop:=zsH M t m key ok K
def zdW (r:Option C) (z:C) (ok:Bool) (K:C->Prop) (_:Tag K):Prop:=k7 r z ok K
def zpg (M:Option (MKd×C)) (t:TypeId) (m key x:C) (σ:St) (K:C->St->Prop) (_:Tag K):Prop:=zsr M t m key x σ K
def zeJ (sz i off k n cap:Nat) (lo hi mx:Option Int) (K:C->Prop) (_:Tag K):Prop:=znk sz i off k n cap lo hi mx K
def Ux (P:Program) (t:TypeId) (s x:C) (σ:St) (K:C->St->Prop) (_:Tag K):Prop:=Jq P t s x σ K
def uP (P:Program) (t tn:TypeId) (s x:C) (σ:St) (K:C->St->Prop) (_:Tag K):Prop:=Gs P t tn s x σ K
def xf (P:Program) (t:TypeId) (d x:C) (σ:St) (K:C->St->Prop) (_:Tag K):Prop:=Qo P t d x σ K
def yb (P:Program) (t:TypeId) (x:C) (σ:St) (K:C->St->Prop) (_:Tag K):Prop:=Uh P t x σ K
def zpa (x y:C) (K:C->Prop) (_:Tag K):Prop:=zqn x y K
def zoI (P:Program) (t:TypeId) (c:C) (K:C->Prop) (_:Tag K):Prop:=zpP P t c K
def zfi (L:Option Lay) (c:C) (K:C->Prop) (_:Tag K):Prop:=zqL L c K
def xN (P:Program) (bx:List (List C)) (s d:TypeId) (c:C) (K:C->Prop) (_:Tag K):Prop:=v8 P bx s d c K
def Ht (P:Program) (t:TypeId) (n:Nat) (parts:List (Nat×C)) (σ:St) (K:C->St->Prop) (_:Tag K):Prop:=Q6 P t n parts σ K
def zpV (P:Program) (L:Option Lay) (n:Nat) (parts:List (Nat×C)) (σ:St) (K:C->St->Prop) (_:Tag K):Prop:=zsU P L n parts σ K
def zpY (L:Option Lay) (n:Nat) (parts:List (Nat×C)) (σ:St) (K:C->St->Prop) (_:Tag K):Prop:=zsj L n parts σ K
def zo9 (cs:Option (List C)) (k n:Nat) (σ:St) (K:C->St->Prop) (_:Tag K):Prop:=zsT cs k n σ K
def uB (P:Program) (p:Nat) (t:TypeId) (s x:C) (σ:St) (K:C->St->Prop) (_:Tag K):Prop:=U8 P p t s x σ K
def znH (P:Program) (L:Option Lay) (p:Nat) (s x:C) (σ:St) (K:C->St->Prop) (_:Tag K):Prop:=zs4 P L p s x σ K
def zoT (L:Option Lay) (p:Nat) (s x:C) (σ:St) (K:C->St->Prop) (_:Tag K):Prop:=zs2 L p s x σ K
def zn6 (X:Option (Nat×List C)) (p k by':Nat) (z:List Value) (s:C) (σ:St) (K:C->St->Prop) (_:Tag K):Prop:=zss X p k by' z s σ K
def zlg (c:C) (X Y:Prop) (_:Tag X) (_:Tag Y):Prop:=ABr c X Y
def zjr (c:C) (U X Y:Prop) (_:Tag U) (_:Tag X) (_:Tag Y):Prop:=zkA c U X Y
def Xb (ops:Array Oper) (tm:List (Nat×C)) (g:Option (Nat×Bool)) (X Y:Prop) (_:Tag ops) (_:Tag X) (_:Tag Y):Prop:=je ops tm g X Y
def zrv (d:Option Tmp) (tm:List (Nat×C)) (want:Bool) (X Y:Prop) (_:Tag X) (_:Tag Y):Prop:=aGd d tm want X Y
def ZX (P:Program) (G:zo) (h:Hd) (c:Code) (Q:Exit->St->Prop) (σ:St) (_:Tag c) (_:Tag Q):Prop:=awp P G h c Q σ
def zeb (P:Program) (G:zo) (h:Hd) (ops:Array Oper) (l:List Oper) (σ:St) (K:St->Prop) (_:Tag h) (_:Tag ops) (_:Tag l) (_:Tag K):Prop:=zqd P G h ops l σ K
def Xk (P:Program) (G:zo) (h:Hd) (ops:Array Oper) (l:List Oper) (br:List Bool) (σ:St) (K:St->Prop) (_:Tag h) (_:Tag ops) (_:Tag l) (_:Tag K):Prop:=QZ P G h ops l br σ K
def NZ (P:Program) (G:zo) (h:Hd) (ops:Array Oper) (br:List Bool) (σ:St) (K:St->Prop) (_:Tag h) (_:Tag ops) (_:Tag K):Prop:=M8 P G h ops br σ K
def znu (P:Program) (G:zo) (Y:Hd) (ops:Array Oper) (rest:List (Nat×MFl)) (q:Nat) (H:List Uf) (fl:MFl) (oo:Option Oper) (σ:St) (K:St->Prop):Prop:=match oo with
 | none=>False
 | some o=>match fl with
  | .pure=>je ops σ.tm o.guard (j4 P G σ.bx (zx G σ.tm) o.op σ.nx fun c nx'=>mix P G Y ops rest (q+1) ((q,fun b=>j4 P G b (zx G σ.tm) o.op σ.nx fun c' n'=>c'=c/\n'=nx') :: H) ⟨j3 σ.tm o.dst c,σ.bx,nx',σ.lg⟩ K)
    (mix P G Y ops rest (q+1) H ⟨j3 σ.tm o.dst (.sc undef),σ.bx,σ.nx,σ.lg⟩ K)
  | .bar=>je ops σ.tm o.guard (Ne P G Y o.op σ fun c σ'=>mix P G Y ops rest (q+1) [] (σ'.put o.dst c) K) (mix P G Y ops rest (q+1) [] (σ.put o.dst (.sc undef)) K)
  | .flt fr=>o.guard=none/\zoA P G o.op σ fun c bx' nx'=>Yi fr bx' H/\mix P G Y ops rest (q+1) H ⟨j3 σ.tm o.dst c,bx',nx',σ.lg⟩ K
def UV (P:Program) (G:zo) (h:Hd) (ops:Array Oper) (all:List Oper) (L:List (Nat×MFl)) (q:Nat) (H:List Uf) (σ:St) (K:St->Prop) (_:Tag h) (_:Tag ops) (_:Tag all) (_:Tag H) (_:Tag K):Prop:=mix P G h ops L q H σ K
def GY (P:Program) (G:zo) (h:Hd) (ops:Array Oper) (all:List Oper) (L:List (Nat×MFl)) (q:Nat) (H:List Uf) (fl:MFl) (i:Nat) (l:List Oper) (σ:St) (K:St->Prop) (_:Tag h) (_:Tag ops) (_:Tag all) (_:Tag H) (_:Tag l) (_:Tag K):Prop:=znu P G h ops L q H fl (l[i]?) σ K
def zm0 (fr:List Nat) (b:List (List C)) (H:List Uf) (_:Tag H):Prop:=Yi fr b H
def zeT (P:Program) (G:zo) (f:C) (args:List C) (σ:St) (K:C->List (List C)->Nat->Prop) (_:Tag K):Prop:=ui P G f args σ K
def zr4 (P:Program) (G:zo) (f:FuncId) (args:List C) (σ:St) (K:C->List (List C)->Nat->Prop) (_:Tag K):Prop:=zke P G f args σ K
def Y5 (P:Program) (G:zo) (ops:Array Oper) (a s:Nat) (l:List Oper) (i:Nat) (cs:Option (List C)) (σ:St) (K:St->Prop) (_:Tag ops) (_:Tag l) (_:Tag K):Prop:=jj P G ops a s l i cs σ K
def zkk (cs:Option (List C)) (p:Option Tmp) (σ:St) (K:St->Prop) (_:Tag K):Prop:=zlw cs p σ K
def zj8 (L:Option Lay) (K:Prop) (_:Tag K):Prop:=zhH L K
def zkw (L:Option Lay) (c:C) (K:C->Prop) (_:Tag K):Prop:=zi5 L c K
def jm (P:Program) (G:zo) (h:Hd) (op:Op) (σ:St) (K:C->St->Prop) (_:Tag h) (_:Tag op) (_:Tag K):Prop:=Ne P G h op σ K
def Qr (P:Program) (G:zo) (f:FuncId) (args fargs:List C) (σ:St) (K:C->St->Prop) (_:Tag K):Prop:=zpn P G f args fargs σ K
def vi (P:Program) (G:zo) (h:Hd) (c:C) (args:List C) (σ:St) (K:C->St->Prop) (_:Tag h) (_:Tag K):Prop:=xp P G h c args σ K
def uk (y:Yd) (it:Option (List C)) (args:List C) (σ:St) (K:C->St->Prop) (_:Tag y) (_:Tag K):Prop:=GF y it args σ K
def zeG (P:Program) (G:zo) (p:Nat) (A B:Nat->(Exit->St->Prop)->St->Prop) (Q:Exit->St->Prop) (ps:List Tmp) (c:C) (σ:St) (_:Tag A) (_:Tag B) (_:Tag Q):Prop:=uW P G p A B Q ps c σ
def jg (P:Program) (G:zo) (bx:List (List C)) (ev:Operand->C) (op:Op) (nx:Nat) (K:C->Nat->Prop) (_:Tag ev) (_:Tag op) (_:Tag K):Prop:=j4 P G bx ev op nx K
def zbl (P:Program) (σ:St) (rs:List ResultVar) (K:C->Prop) (_:Tag K):Prop:=znv P σ rs K
def Yb (P:Program) (σ:St) (rv:ResultVar) (K:C->Prop) (_:Tag K):Prop:=Jx P σ rv K
def NI (P:Program) (t:TypeId) (op:BinOp) (x y:C) (K:C->Prop) (_:Tag K):Prop:=znw P t op x y K
def kr (op:BinOp) (k:IntKind) (a b:Int) (K:C->Prop) (_:Tag K):Prop:=zqz op k a b K
def zaa (l:Option Lay) (op:BinOp) (x:C) (K:C->Prop) (_:Tag K):Prop:=zlS l op x K
def zdk (op:BinOp) (b:Bool) (K:C->Prop) (_:Tag K):Prop:=Ga op b K
def zdu (op:BinOp) (a b:List UInt8) (K:C->Prop) (_:Tag K):Prop:=zqZ op a b K
def zkl (op:BinOp) (a b:Bool) (K:C->Prop) (_:Tag K):Prop:=ziB op a b K
def zgo (L:Option Lay) (op:BinOp) (a b:Bool) (K:C->Prop) (_:Tag K):Prop:=zpL L op a b K
def znS (op:BinOp) (ks:Option (List LK)) (xs ys:List C) (K:C->Prop) (_:Tag K):Prop:=zqP op ks xs ys K
def znr (n:Bool) (ks:List LK) (xs ys:List C) (e:Bool) (K:C->Prop) (_:Tag K):Prop:=aEq n ks xs ys e K
def zrr (op:UnOp) (x:C) (K:C->Prop) (_:Tag K):Prop:=aUn op x K
def vS (P:Program) (t:TypeId) (c:C) (bx:List (List C)) (K:C->Prop) (_:Tag K):Prop:=xE P t c bx K
def vo (L:Option Lay) (c:C) (bx:List (List C)) (K:C->Prop) (_:Tag K):Prop:=zpU L c bx K
def zcM (cs:Option (List C)) (off:Nat) (L:Lay) (K:C->Prop) (_:Tag K):Prop:=zo3 cs off L K
def Vd (L:Lay) (cs:List C) (K:C->Prop) (_:Tag K):Prop:=JS L cs K
def zmA (x:Option C) (K:C->Prop) (_:Tag K):Prop:=zq1 x K
def UL (c:C) (i:Nat) (K:C->Prop) (_:Tag K):Prop:=V8 c i K
def zl8 (c:C) (K:C->Prop) (_:Tag K):Prop:=zqx c K
def xT (P:Program) (t:TypeId) (c:C) (f:Nat) (K:C->Prop) (_:Tag K):Prop:=vN P t c f K
def uT (L:Option Lay) (c:C) (f:Nat) (K:C->Prop) (_:Tag K):Prop:=yT L c f K
def ue (f:Option (Nat×Nat×Bool)) (cs:List C) (K:C->Prop) (_:Tag K):Prop:=Ud f cs K
def QA (P:Program) (t:TypeId) (c:C) (f:Nat) (K:C->Prop) (_:Tag K):Prop:=X1 P t c f K
def zou (L:Option Lay) (c:C) (f:Nat) (K:C->Prop) (_:Tag K):Prop:=zsO L c f K
def zlq (f:Option (Nat×Nat×Bool)) (c:C) (K:C->Prop) (_:Tag K):Prop:=zpt f c K
def Qq (P:Program) (t:TypeId) (c:C) (i:C) (K:C->Prop) (_:Tag K):Prop:=X8 P t c i K
def zk2 (P:Program) (L:Option Lay) (c:C) (i:C) (K:C->Prop) (_:Tag K):Prop:=zsP P L c i K
def zje (L:Option Lay) (c:C) (n:Int) (K:C->Prop) (_:Tag K):Prop:=zsB L c n K
def zkN (rows:Option (List (List C))) (n:Int) (K:C->Prop) (_:Tag K):Prop:=zsA rows n K
def zsi (r:Option (List C)) (n:Int) (K:C->Prop) (_:Tag K):Prop:=aAt r n K
def zqs (L:Option Lay) (c:C) (m:Nat) (n:Int) (K:C->Prop) (_:Tag K):Prop:=zsF L c m n K
def yD (P:Program) (t:TypeId) (c i:C) (K:C->Prop) (_:Tag K):Prop:=zae P t c i K
def zoa (L:Option Lay) (c i:C) (K:C->Prop) (_:Tag K):Prop:=zqD L c i K
def zkn (b:Option UInt8) (n:Int) (K:C->Prop) (_:Tag K):Prop:=zlu b n K
def ye (P:Program) (t:TypeId) (c:C) (lo hi mx:Option C) (K:C->Prop) (_:Tag K):Prop:=vY P t c lo hi mx K
def zpc (P:Program) (t:TypeId) (c:C) (lo hi mx:Option (Option Int)) (K:C->Prop) (_:Tag K):Prop:=zst P t c lo hi mx K
def zmU (P:Program) (L:Option Lay) (c:C) (lo hi mx:Option Int) (K:C->Prop) (_:Tag K):Prop:=zsg P L c lo hi mx K
def zdo (L:Option Lay) (c:C) (lo hi mx:Option Int) (K:C->Prop) (_:Tag K):Prop:=zsJ L c lo hi mx K
def zn2 (k:Nat) (lo hi mx:Option Int) (K:C->Prop) (_:Tag K):Prop:=zpm k lo hi mx K
def zh1 (rows:Option (List (List C))) (k:Nat) (lo hi mx:Option Int) (K:C->Prop) (_:Tag K):Prop:=zsL rows k lo hi mx K
def zmq (rows:Option (List (List C))) (K:C->Prop) (_:Tag K):Prop:=zeO rows K
def zfU (P:Program) (s d:TypeId) (c:C) (K:C->Prop) (_:Tag K):Prop:=zhD P s d c K
def ziq (P:Program) (D S:Option Lay) (c:C) (K:C->Prop) (_:Tag K):Prop:=zsY P D S c K
def zpi (L:Option Lay) (c:C) (K:C->Prop) (_:Tag K):Prop:=zsz L c K
def yI (P:Program) (t:TypeId) (c:C) (K:C->Prop) (_:Tag K):Prop:=zn4 P t c K
def xd (L:Option Lay) (n:Int) (K:C->Prop) (_:Tag K):Prop:=zrL L n K
def zj6 (L:Option Lay) (n:Int) (K:C->Prop) (_:Tag K):Prop:=zrs L n K
def vh (P:Program) (t:TypeId) (parts:List (Nat×C)) (K:C->Prop) (_:Tag K):Prop:=uG P t parts K
def zpv (L:Option Lay) (parts:List (Nat×C)) (K:C->Prop) (_:Tag K):Prop:=zrO L parts K
def zr9 (cs:Option (List C)) (K:C->Prop) (_:Tag K):Prop:=aFl cs K
def XJ (P:Program) (t:TypeId) (n:Nat) (parts:List (Nat×C)) (nx:Nat) (K:C->Nat->Prop) (_:Tag K):Prop:=JR P t n parts nx K
def GN (P:Program) (t:TypeId) (n:Nat) (parts:List (Nat×C)) (nx:Nat) (K:C->Nat->Prop) (_:Tag K):Prop:=GP P t n parts nx K
def zoi (P:Program) (L:Option Lay) (nx:Nat) (K:C->Nat->Prop) (_:Tag K):Prop:=match L with
 | some ⟨.slice e,_,_,_⟩=>match lay P e with
  | some ⟨_,k,_,some z⟩=>z.length=k/\0<k/\K (.tight k []) nx
  | _=>False
 | _=>False
def znQ (L:Option Lay) (nx:Nat) (K:C->Nat->Prop) (_:Tag K):Prop:=match L with
  | some ⟨_,k,_,some z⟩=>z.length=k/\0<k/\K (.tight k []) nx
  | _=>False
def zpG (P:Program) (L:Option Lay) (n:Nat) (parts:List (Nat×C)) (nx:Nat) (K:C->Nat->Prop) (_:Tag K):Prop:=zsC P L n parts nx K
def zpM (L:Option Lay) (e:TypeId) (n:Nat) (parts:List (Nat×C)) (nx:Nat) (K:C->Nat->Prop) (_:Tag K):Prop:=zsN L e n parts nx K
def zpD (cs:Option (List C)) (e k n nx:Nat) (K:C->Nat->Prop) (_:Tag K):Prop:=zs0 cs e k n nx K
def zkz (P:Program) (t:TypeId) (l c:C) (nx:Nat) (K:C->Nat->Prop) (_:Tag K):Prop:=zeQ P t l c nx K
def xb (P:Program) (t:TypeId) (l c:C) (σ:St) (K:C->St->Prop) (_:Tag K):Prop:=VZ P t l c σ K
def zkd (P:Program) (L:Option Lay) (l c:C) (σ:St) (K:C->St->Prop) (_:Tag K):Prop:=zrm P L l c σ K
def zkc (L:Option Lay) (l c:Int) (σ:St) (K:C->St->Prop) (_:Tag K):Prop:=zq9 L l c σ K
def zoW (P:Program) (L:Option Lay) (l c:C) (nx:Nat) (K:C->Nat->Prop) (_:Tag K):Prop:=zta P L l c nx K
def zpB (L:Option Lay) (e:TypeId) (l c:Int) (nx:Nat) (K:C->Nat->Prop) (_:Tag K):Prop:=zsR L e l c nx K
def HH (P:Program) (t:TypeId) (s x:C) (σ:St) (K:C->St->Prop) (_:Tag K):Prop:=G4 P t s x σ K
def HR (P:Program) (t:TypeId) (s x:C) (nx:Nat) (K:C->Nat->Prop) (_:Tag K):Prop:=Zy P t s x nx K
def zoM (P:Program) (L:Option Lay) (s x:C) (nx:Nat) (K:C->Nat->Prop) (_:Tag K):Prop:=zsG P L s x nx K
def znI (L:Option Lay) (e:TypeId) (s x:C) (nx:Nat) (K:C->Nat->Prop) (_:Tag K):Prop:=zsk L e s x nx K
def zmt (xs:Option (List (List C))) (s:C) (e k by':Nat) (z:List Value) (nx:Nat) (K:C->Nat->Prop) (_:Tag K):Prop:=zs6 xs s e k by' z nx K
def znM (P:Program) (L:Option Lay) (id e k:Nat) (rows:List (List C)) (x:C) (σ:St) (K:C->St->Prop) (_:Tag K):Prop:=zsn P L id e k rows x σ K
def zod (L:Option Lay) (e' id e k:Nat) (rows:List (List C)) (x:C) (σ:St) (K:C->St->Prop) (_:Tag K):Prop:=zry L e' id e k rows x σ K
def zp0 (xs:Option (List (List C))) (by' id e k:Nat) (rows:List (List C)) (σ:St) (K:C->St->Prop) (_:Tag K):Prop:=zrD xs by' id e k rows σ K
def zfS (P:Program) (G:zo) (callee:C) (args:List C) (nx:Nat) (K:C->Nat->Prop) (_:Tag K):Prop:=Nt P G callee args nx K
def vk (P:Program) (G:zo) (f:FuncId) (args:List C) (nx:Nat) (K:C->Nat->Prop) (_:Tag K):Prop:=uC P G f args nx K
def zp9 (c:C) (σ:St) (K:C->St->Prop) (_:Tag K):Prop:=zrX c σ K
def zpZ (L:Option Lay) (σ:St) (K:C->St->Prop) (_:Tag K):Prop:=zsu L σ K
def zpK (L:Option Lay) (p c:C) (σ:St) (K:C->St->Prop) (_:Tag K):Prop:=zsX L p c σ K
def zo8 (L:Option Lay) (p c:C) (bx:List (List C)) (K:C->Prop) (_:Tag K):Prop:=zsD L p c bx K
def zoS (cs:Option (List C)) (off size:Nat) (c:C) (K:C->Prop) (_:Tag K):Prop:=zsv cs off size c K
def znO (cs:Option (List C)) (i off size:Nat) (c:C) (σ:St) (K:C->St->Prop) (_:Tag K):Prop:=zsl cs i off size c σ K
def zkB (p:Nat) (B:(Exit->St->Prop)->St->Prop) (Q:Exit->St->Prop) (σ:St) (_:Tag B) (_:Tag Q):Prop:=zjj p B Q σ
def zag (next:St->Prop) (Q:Exit->St->Prop) (_:Tag next) (_:Tag Q):Exit->St->Prop:=zoe next Q
def UX (id:Nat) (Q:Exit->St->Prop) (_:Tag Q):Exit->St->Prop:=NO id Q
def HG (Q:Exit->St->Prop) (_:Tag Q):Exit->St->Prop:=zeZ Q
def uN (next:St->Prop) (Q:Exit->St->Prop) (_:Tag next) (_:Tag Q):Exit->St->Prop:=zmn next Q
def zka (K:St->Prop) (_:Tag K):Exit->St->Prop:=zmv K
def yU (m:Nat) (tm:List (Nat×C)) (st:Bool) (next:St) (Q:Exit->St->Prop) (_:Tag next) (_:Tag Q):Exit->St->Prop:=zc5 m tm st next Q
def MM (P:Program) (rs:List ResultVar) (K:C->St->Prop) (_:Tag K):Exit->St->Prop:=zkp P rs K
theorem znX:ZX P G h .skip Q σ ⟨⟩ ⟨⟩=Q .normal σ:=(rfl)
theorem zna {l:Nat}:ZX P G h (.label l) Q σ ⟨⟩ ⟨⟩=Q .normal σ:=(rfl)
theorem zpN {id:Nat}:ZX P G h (.exit id) Q σ ⟨⟩ ⟨⟩=Q (.exit id) σ:=(rfl)
theorem zre:ZX P G h .ret Q σ ⟨⟩ ⟨⟩=Q .ret σ:=(rfl)
theorem zrw {a b:Code}:ZX P G h (.seq a b) Q σ ⟨⟩ ⟨⟩=ZX P G h a (zag (fun σ=>ZX P G h b Q σ ⟨⟩ ⟨⟩) Q ⟨⟩ ⟨⟩) σ ⟨⟩ ⟨⟩:=(rfl)
theorem zqh {cc:Operand} {a b:Code}:ZX P G h (.cond cc a b) Q ⟨tm,bx,nx,lg⟩ ⟨⟩ ⟨⟩=zlg (zx G tm cc) (ZX P G h a Q ⟨tm,bx,nx,lg⟩ ⟨⟩ ⟨⟩) (ZX P G h b Q ⟨tm,bx,nx,lg⟩ ⟨⟩ ⟨⟩) ⟨⟩ ⟨⟩:=(rfl)
theorem zlT {id:Nat} {a:Code}:ZX P G h (.block id a) Q σ ⟨⟩ ⟨⟩=ZX P G h a (UX id Q ⟨⟩) σ ⟨⟩ ⟨⟩:=(rfl)
theorem zpb {a:Code}:ZX P G ⟨p,yd,bf⟩ (.loop a) Q σ ⟨⟩ ⟨⟩=zkB p (fun Q σ=>ZX P G ⟨p,yd,bf⟩ a Q σ ⟨⟩ ⟨⟩) Q σ ⟨⟩ ⟨⟩:=(rfl)
theorem zix {a b:Code} {x:Operand} {ps:List Tmp}:ZX P G ⟨p,yd,bf⟩ (.rangeFunc x ps.toArray a b) Q ⟨tm,bx,nx,lg⟩ ⟨⟩ ⟨⟩=zeG P G p (fun m=>fun Q σ=>ZX P G ⟨m,yd,bf⟩ a Q σ ⟨⟩ ⟨⟩) (fun m=>fun Q σ=>ZX P G ⟨m,yd,bf⟩ b Q σ ⟨⟩ ⟨⟩) Q ps (zx G tm x) ⟨tm,bx,nx,lg⟩ ⟨⟩ ⟨⟩ ⟨⟩:=(rfl)
theorem zml {a:Code}:ZX P G h (.scope a) Q σ ⟨⟩ ⟨⟩=ZX P G h a (HG Q ⟨⟩) σ ⟨⟩ ⟨⟩:=(rfl)
theorem zhJ {id:Nat} {l:List Oper}:ZX P G ⟨p,yd,bf⟩ (.region id l.toArray false) Q σ ⟨⟩ ⟨⟩=zeb P G ⟨p,yd,bf⟩ l.toArray l σ (Q .normal) ⟨⟩ ⟨⟩ ⟨⟩ ⟨⟩:=(rfl)
theorem zeF {id:Nat} {l:List Oper}:ZX P G ⟨p,yd,bf⟩ (.region id l.toArray true) Q σ ⟨⟩ ⟨⟩=NZ P G ⟨p,yd,bf⟩ l.toArray (bf id) σ (Q .normal) ⟨⟩ ⟨⟩ ⟨⟩:=(rfl)
theorem zjB {KS:St->Prop} {l:List Oper}:NZ P G h l.toArray [] σ KS ⟨⟩ ⟨⟩ ⟨⟩=Xk P G h l.toArray l [] σ KS ⟨⟩ ⟨⟩ ⟨⟩ ⟨⟩:=(rfl)
theorem zg3 {KS:St->Prop} {l:List Oper} {r:List Bool}:NZ P G h l.toArray (false :: r) σ KS ⟨⟩ ⟨⟩ ⟨⟩=Xk P G h l.toArray l (false :: r) σ KS ⟨⟩ ⟨⟩ ⟨⟩ ⟨⟩:=(rfl)
theorem zi3 {KS:St->Prop} {l:List Oper} {L:List (Nat×MFl)}:NZ P G h l.toArray (Xv L) σ KS ⟨⟩ ⟨⟩ ⟨⟩=UV P G h l.toArray l L 0 [] σ KS ⟨⟩ ⟨⟩ ⟨⟩ ⟨⟩ ⟨⟩:=(show M8 P G h l.toArray (Xv L) σ KS=mix P G h l.toArray L 0 [] σ KS from by
 unfold M8 Xv
 rw[show kV (zgB 199 (unR (zcx L)))=none from rfl,ku]
 simp only[zbo])
theorem znL {KS:St->Prop} {all:List Oper} {q:Nat} {H:List Uf}:UV P G h ops all [] q H σ KS ⟨⟩ ⟨⟩ ⟨⟩ ⟨⟩ ⟨⟩=KS σ:=(rfl)
theorem zoV {KS:St->Prop} {all:List Oper} {i q:Nat} {fl:MFl} {L:List (Nat×MFl)} {H:List Uf}:UV P G h all.toArray all ((i,fl) :: L) q H σ KS ⟨⟩ ⟨⟩ ⟨⟩ ⟨⟩ ⟨⟩=GY P G h all.toArray all L q H fl i all σ KS ⟨⟩ ⟨⟩ ⟨⟩ ⟨⟩ ⟨⟩ ⟨⟩:=(show mix P G h all.toArray ((i,fl) :: L) q H σ KS=znu P G h all.toArray L q H fl (all[i]?) σ KS from rfl)
theorem zo6 {KS:St->Prop} {o:Oper} {all l:List Oper} {i q:Nat} {fl:MFl} {L:List (Nat×MFl)} {H:List Uf}:GY P G h ops all L q H fl (i+1) (o :: l) σ KS ⟨⟩ ⟨⟩ ⟨⟩ ⟨⟩ ⟨⟩ ⟨⟩=GY P G h ops all L q H fl i l σ KS ⟨⟩ ⟨⟩ ⟨⟩ ⟨⟩ ⟨⟩ ⟨⟩:=(show znu P G h ops L q H fl ((o :: l)[i+1]?) σ KS=znu P G h ops L q H fl (l[i]?) σ KS from rfl)
theorem zpd {KS:St->Prop} {all rest:List Oper} {q:Nat} {L:List (Nat×MFl)} {H:List Uf} {dst:Option Tmp} {op:Op} {ty:TypeId} {pos:String} {af:Array Edge} {g:Option (Nat×Bool)}:GY P G h ops all L q H .pure 0 (⟨dst,op,ty,pos,af,g⟩ :: rest) ⟨tm,bx,nx,lg⟩ KS ⟨⟩ ⟨⟩ ⟨⟩ ⟨⟩ ⟨⟩ ⟨⟩ =
  Xb ops tm g (jg P G bx (zx G tm) op nx (fun c nx'=>UV P G h ops all L (q+1) ((q,fun b=>jg P G b (zx G tm) op nx (fun c' n'=>c'=c/\n'=nx') ⟨⟩ ⟨⟩ ⟨⟩) :: H) ⟨j3 tm dst c,bx,nx',lg⟩ KS ⟨⟩ ⟨⟩ ⟨⟩ ⟨⟩ ⟨⟩) ⟨⟩ ⟨⟩ ⟨⟩) (UV P G h ops all L (q+1) H ⟨j3 tm dst (.sc undef),bx,nx,lg⟩ KS ⟨⟩ ⟨⟩ ⟨⟩ ⟨⟩ ⟨⟩) ⟨⟩ ⟨⟩ ⟨⟩:=
 (show znu P G h ops L q H .pure (some ⟨dst,op,ty,pos,af,g⟩) ⟨tm,bx,nx,lg⟩ KS=_ from rfl)
theorem zp8 {KS:St->Prop} {all rest:List Oper} {q:Nat} {L:List (Nat×MFl)} {H:List Uf} {dst:Option Tmp} {op:Op} {ty:TypeId} {pos:String} {af:Array Edge} {g:Option (Nat×Bool)}:GY P G h ops all L q H .bar 0 (⟨dst,op,ty,pos,af,g⟩ :: rest) ⟨tm,bx,nx,lg⟩ KS ⟨⟩ ⟨⟩ ⟨⟩ ⟨⟩ ⟨⟩ ⟨⟩ =
  Xb ops tm g (jm P G h op ⟨tm,bx,nx,lg⟩ (fun c σ'=>UV P G h ops all L (q+1) [] (σ'.put dst c) KS ⟨⟩ ⟨⟩ ⟨⟩ ⟨⟩ ⟨⟩) ⟨⟩ ⟨⟩ ⟨⟩) (UV P G h ops all L (q+1) [] ((St.mk tm bx nx lg).put dst (.sc undef)) KS ⟨⟩ ⟨⟩ ⟨⟩ ⟨⟩ ⟨⟩) ⟨⟩ ⟨⟩ ⟨⟩:=
 (show znu P G h ops L q H .bar (some ⟨dst,op,ty,pos,af,g⟩) ⟨tm,bx,nx,lg⟩ KS=_ from rfl)
theorem zl0 {KS:St->Prop} {all rest:List Oper} {q:Nat} {L:List (Nat×MFl)} {H:List Uf} {fr:List Nat} {dst:Option Tmp} {ty:TypeId} {pos:String} {af:Array Edge}:GY P G h ops all L q H (.flt fr) 0 (⟨dst,.store t x y,ty,pos,af,none⟩ :: rest) ⟨tm,bx,nx,lg⟩ KS ⟨⟩ ⟨⟩ ⟨⟩ ⟨⟩ ⟨⟩ ⟨⟩ =
  jm P G h (.store t x y) ⟨tm,bx,nx,lg⟩ (fun c σ'=>zm0 fr σ'.bx H ⟨⟩/\UV P G h ops all L (q+1) H ⟨j3 tm dst c,σ'.bx,σ'.nx,lg⟩ KS ⟨⟩ ⟨⟩ ⟨⟩ ⟨⟩ ⟨⟩) ⟨⟩ ⟨⟩ ⟨⟩:=
 (show ((none:Option (Nat×Bool))=none/\QT P t (zx G tm x) (zx G tm y) ⟨tm,bx,nx,lg⟩ fun c σ'=>Yi fr σ'.bx H/\mix P G h ops L (q+1) H ⟨j3 tm dst c,σ'.bx,σ'.nx,lg⟩ KS)=_ from propext ⟨fun h=>h.2,fun h=>⟨rfl,h⟩⟩)
theorem zng {KS:St->Prop} {all rest:List Oper} {q:Nat} {L:List (Nat×MFl)} {H:List Uf} {fr:List Nat} {dst:Option Tmp} {ty:TypeId} {pos:String} {af:Array Edge}:GY P G h ops all L q H (.flt fr) 0 (⟨dst,.call ⟨.builtin .copy,#[x,y],#[t,t']⟩,ty,pos,af,none⟩ :: rest) ⟨tm,bx,nx,lg⟩ KS ⟨⟩ ⟨⟩ ⟨⟩ ⟨⟩ ⟨⟩ ⟨⟩ =
  xf P t (zx G tm x) (zx G tm y) ⟨tm,bx,nx,lg⟩ (fun c σ'=>zm0 fr σ'.bx H ⟨⟩/\UV P G h ops all L (q+1) H ⟨j3 tm dst c,σ'.bx,σ'.nx,lg⟩ KS ⟨⟩ ⟨⟩ ⟨⟩ ⟨⟩ ⟨⟩) ⟨⟩:=
 (show ((none:Option (Nat×Bool))=none/\Qo P t (zx G tm x) (zx G tm y) ⟨tm,bx,nx,lg⟩ fun c σ'=>Yi fr σ'.bx H/\mix P G h ops L (q+1) H ⟨j3 tm dst c,σ'.bx,σ'.nx,lg⟩ KS)=_ from propext ⟨fun h=>h.2,fun h=>⟨rfl,h⟩⟩)
theorem zlh {KS:St->Prop} {all rest:List Oper} {q:Nat} {L:List (Nat×MFl)} {H:List Uf} {fr:List Nat} {dst:Option Tmp} {ty:TypeId} {pos:String} {af:Array Edge}:GY P G h ops all L q H (.flt fr) 0 (⟨dst,.call ⟨.builtin .append,#[x,y],#[t,t]⟩,ty,pos,af,none⟩ :: rest) ⟨tm,bx,nx,lg⟩ KS ⟨⟩ ⟨⟩ ⟨⟩ ⟨⟩ ⟨⟩ ⟨⟩ =
  Ux P t (zx G tm x) (zx G tm y) ⟨tm,bx,nx,lg⟩ (fun c σ'=>zm0 fr σ'.bx H ⟨⟩/\UV P G h ops all L (q+1) H ⟨j3 tm dst c,σ'.bx,σ'.nx,lg⟩ KS ⟨⟩ ⟨⟩ ⟨⟩ ⟨⟩ ⟨⟩) ⟨⟩:=
 (show ((none:Option (Nat×Bool))=none/\t=t/\Jq P t (zx G tm x) (zx G tm y) ⟨tm,bx,nx,lg⟩ fun c σ'=>Yi fr σ'.bx H/\mix P G h ops L (q+1) H ⟨j3 tm dst c,σ'.bx,σ'.nx,lg⟩ KS)=_ from propext ⟨fun h=>h.2.2,fun h=>⟨rfl,rfl,h⟩⟩)
theorem zph {KS:St->Prop} {all rest:List Oper} {q:Nat} {L:List (Nat×MFl)} {H:List Uf} {fr:List Nat} {dst:Option Tmp} {ty:TypeId} {pos:String} {af:Array Edge} {us:List Operand} {tys:Array TypeId}:GY P G h ops all L q H (.flt fr) 0 (⟨dst,.call ⟨.value x,us.toArray,tys⟩,ty,pos,af,none⟩ :: rest) ⟨tm,bx,nx,lg⟩ KS ⟨⟩ ⟨⟩ ⟨⟩ ⟨⟩ ⟨⟩ ⟨⟩ =
  zeT P G (zx G tm x) (us.map (zx G tm)) ⟨tm,bx,nx,lg⟩ (fun c b' n'=>zm0 fr b' H ⟨⟩/\UV P G h ops all L (q+1) H ⟨j3 tm dst c,b',n',lg⟩ KS ⟨⟩ ⟨⟩ ⟨⟩ ⟨⟩ ⟨⟩) ⟨⟩:=
 (show ((none:Option (Nat×Bool))=none/\ui P G (zx G tm x) (us.map (zx G tm)) ⟨tm,bx,nx,lg⟩ fun c b' n'=>Yi fr b' H/\mix P G h ops L (q+1) H ⟨j3 tm dst c,b',n',lg⟩ KS)=_ from propext ⟨fun h=>h.2,fun h=>⟨rfl,h⟩⟩)
theorem zmC {K4:C->List (List C)->Nat->Prop} {f:FuncId} {fs cs args:List C}:zeT P G (.clo (.func f) fs cs) args ⟨tm,bx,nx,lg⟩ K4 ⟨⟩=zr4 P G f (fs++args++cs) ⟨tm,bx,nx,lg⟩ K4 ⟨⟩:=(rfl)
theorem zkQ {p:Prop} [Decidable p]:(if p then True else True)=True:=ite_self _
theorem zpe {fr:List Nat} {b:List (List C)}:zm0 fr b [] ⟨⟩=True:=(rfl)
theorem zqk {fr:List Nat} {b:List (List C)} {k:Nat} {f:List (List C)->Prop} {r:List Uf}:zm0 fr b ((k,f) :: r) ⟨⟩=((if k∈fr then f b else True)/\zm0 fr b r ⟨⟩):=(show ((match fr.contains k with | true=>f b | false=>True)/\Yi fr b r)=((if k∈fr then f b else True)/\Yi fr b r) from by
 cases hq:fr.contains k with
 | true=>rw[if_pos (by simpa using hq)]
 | false=>rw[if_neg fun h=>by simp[h]at hq])
theorem zjY {KS:St->Prop} {l:List Oper} {a s:Nat}:NZ P G h l.toArray (jh a s) σ KS ⟨⟩ ⟨⟩ ⟨⟩=Y5 P G l.toArray a s l 0 none σ KS ⟨⟩ ⟨⟩ ⟨⟩:=(show M8 P G h l.toArray (jh a s) σ KS=jj P G l.toArray a s l 0 none σ KS from by unfold M8;rw[xa])
theorem zc3 {KS:St->Prop} {a s i:Nat} {cs:Option (List C)} {l:List Oper}:Y5 P G l.toArray a s [] i cs σ KS ⟨⟩ ⟨⟩ ⟨⟩=zkk cs ((l[a]?).bind (·.dst)) σ KS ⟨⟩:=(show jj P G l.toArray a s [] i cs σ KS=zlw cs ((l[a]?).bind (·.dst)) σ KS from by simp only[jj,zlw,List.getElem?_toArray];rfl)
theorem zcS {KS:St->Prop} {a s:Nat} {cs:Option (List C)} {dst:Option Tmp} {ty:TypeId} {pos:String} {af:Array Edge} {g:Option (Nat×Bool)} {rest:List Oper}:Y5 P G ops a s (⟨dst,.alloc t,ty,pos,af,g⟩ :: rest) a cs ⟨tm,bx,nx,lg⟩ KS ⟨⟩ ⟨⟩ ⟨⟩=zj8 (lay P t) (Y5 P G ops a s rest (a+1) cs ⟨j3 tm dst .any,bx,nx,lg⟩ KS ⟨⟩ ⟨⟩ ⟨⟩) ⟨⟩:=(show jj P G ops a s (⟨dst,.alloc t,ty,pos,af,g⟩ :: rest) a cs ⟨tm,bx,nx,lg⟩ KS=zhH (lay P t) (jj P G ops a s rest (a+1) cs ⟨j3 tm dst .any,bx,nx,lg⟩ KS) from by simp only[jj,if_true])
theorem zei {KS:St->Prop} {a s:Nat} {cs:Option (List C)} {dst:Option Tmp} {ty:TypeId} {pos:String} {af:Array Edge} {g:Option (Nat×Bool)} {rest:List Oper} (hsa:(s==a)=false):Y5 P G ops a s (⟨dst,.store t y x,ty,pos,af,g⟩ :: rest) s cs ⟨tm,bx,nx,lg⟩ KS ⟨⟩ ⟨⟩ ⟨⟩=zkw (lay P t) (zx G tm x) (fun c=>Y5 P G ops a s rest (s+1) (some c.cells) ⟨j3 tm dst .any,bx,nx,lg⟩ KS ⟨⟩ ⟨⟩ ⟨⟩) ⟨⟩:=(show jj P G ops a s (⟨dst,.store t y x,ty,pos,af,g⟩ :: rest) s cs ⟨tm,bx,nx,lg⟩ KS=zi5 (lay P t) (zx G tm x) fun c=>jj P G ops a s rest (s+1) (some c.cells) ⟨j3 tm dst .any,bx,nx,lg⟩ KS from by simp only[beq_eq_false_iff_ne]at hsa;simp only[jj,if_neg hsa,if_true])
theorem zih {KS:St->Prop} {a s i:Nat} {cs:Option (List C)} {dst:Option Tmp} {ty:TypeId} {pos:String} {af:Array Edge} {g:Option (Nat×Bool)} {rest:List Oper} {op:Op} (hia:(i==a)=false) (his:(i==s)=false):Y5 P G ops a s (⟨dst,op,ty,pos,af,g⟩ :: rest) i cs ⟨tm,bx,nx,lg⟩ KS ⟨⟩ ⟨⟩ ⟨⟩=Xb ops tm g (jg P G bx (zx G tm) op nx (fun c nx'=>Y5 P G ops a s rest (i+1) cs ⟨j3 tm dst c,bx,nx',lg⟩ KS ⟨⟩ ⟨⟩ ⟨⟩) ⟨⟩ ⟨⟩ ⟨⟩) (Y5 P G ops a s rest (i+1) cs ⟨j3 tm dst (.sc undef),bx,nx,lg⟩ KS ⟨⟩ ⟨⟩ ⟨⟩) ⟨⟩ ⟨⟩ ⟨⟩:=(show jj P G ops a s (⟨dst,op,ty,pos,af,g⟩ :: rest) i cs ⟨tm,bx,nx,lg⟩ KS=je ops tm g (j4 P G bx (zx G tm) op nx fun c nx'=>jj P G ops a s rest (i+1) cs ⟨j3 tm dst c,bx,nx',lg⟩ KS) (jj P G ops a s rest (i+1) cs ⟨j3 tm dst (.sc undef),bx,nx,lg⟩ KS) from by simp only[beq_eq_false_iff_ne]at hia his;simp only[jj,if_neg hia,if_neg his])
theorem zoE {KS:St->Prop} {cs:List C} {u:Tmp}:zkk (some cs) (some u) ⟨tm,bx,nx,lg⟩ KS ⟨⟩=KS ⟨(u,.ptr bx.length 0) :: tm,bx++[cs],nx,lg⟩:=(rfl)
theorem zqo {kd:LK} {k b1:Nat} {z1:List Value}:zj8 (some ⟨kd,k,b1,some z1⟩) X ⟨⟩=(z1.length=k/\(z1.all Value.oneCell')=true/\X):=(rfl)
theorem zoQ {L:Lay}:zkw (some L) c K ⟨⟩=(c.partB=true/\(c.cells.all C.cellB)=true/\c.cells.length=L.size/\K c):=(rfl)
theorem zpw {KS:St->Prop}:zka KS ⟨⟩ .normal σ=KS σ:=(rfl)
theorem zcU {next:St} {b:Bool}:yU m tm b next Q ⟨⟩ ⟨⟩ .normal σ=(b=false/\j8 m ⟨[],σ.bx,σ.nx,σ.lg⟩ (next.wt [])):=(rfl)
theorem vw {next:St} {b:Bool}:yU m tm b next Q ⟨⟩ ⟨⟩ .ret σ=(b=true/\∃ σ':St,σ'.bx.length=m/\j8 m ⟨[],σ.bx,σ.nx,σ.lg⟩ (σ'.wt [])/\Q .ret (σ'.wt tm)):=(rfl)
theorem zs5 {tm2:List (Nat×C)}:St.wt ⟨tm,bx,nx,lg⟩ tm2=⟨tm2,bx,nx,lg⟩:=(rfl)
theorem zgU {cs:List C}:ZQ [] cs tm=tm:=(rfl)
theorem zl4 {u:Nat} {ps:List Tmp} {cs:List C}:ZQ (u :: ps) (c :: cs) tm=ZQ ps cs ((u,c) :: tm):=(rfl)
theorem zm2:ki m [] = []:=(rfl)
theorem zoJ {u:Nat} {r:List (Nat×C)}:ki m ((u,c) :: r)=(u,c.sel (Hs m)) :: ki m r:=(rfl)
theorem zoH {next:St->Prop}:zag next Q ⟨⟩ ⟨⟩ .normal σ=next σ:=(rfl)
theorem y7 {next:St->Prop} {id:Nat}:zag next Q ⟨⟩ ⟨⟩ (.exit id) σ=Q (.exit id) σ:=(rfl)
theorem zb9 {next:St->Prop}:zag next Q ⟨⟩ ⟨⟩ .ret σ=Q .ret σ:=(rfl)
theorem zdS {id:Nat}:UX id Q ⟨⟩ .normal σ=Q .normal σ:=(rfl)
theorem xi {id:Nat}:UX id Q ⟨⟩ (.exit id) σ=Q .normal σ:=(show NO id Q (.exit id) σ=Q .normal σ from if_pos rfl)
theorem M7 {id id2:Nat} (h:(id2==id)=false):UX id Q ⟨⟩ (.exit id2) σ=Q (.exit id2) σ:=(show NO id Q (.exit id2) σ=Q (.exit id2) σ from if_neg (by simpa using h))
theorem yH {id:Nat}:UX id Q ⟨⟩ .ret σ=Q .ret σ:=(rfl)
theorem zb7:HG Q ⟨⟩ .normal σ=Q .normal σ:=(rfl)
theorem xt:HG Q ⟨⟩ .ret σ=Q .ret σ:=(rfl)
theorem zjU {next:St->Prop}:uN next Q ⟨⟩ ⟨⟩ .normal σ=next σ:=(rfl)
theorem vH {next:St->Prop} {id:Nat}:uN next Q ⟨⟩ ⟨⟩ (.exit id) σ=Q (.exit id) σ:=(rfl)
theorem zcj {next:St->Prop}:uN next Q ⟨⟩ ⟨⟩ .ret σ=Q .ret σ:=(rfl)
theorem zmE {rs:List ResultVar}:MM P rs K3 ⟨⟩ .normal σ=zbl P σ rs (fun c=>K3 c σ) ⟨⟩:=(rfl)
theorem zk8 {rs:List ResultVar}:MM P rs K3 ⟨⟩ .ret σ=zbl P σ rs (fun c=>K3 c σ) ⟨⟩:=(rfl)
theorem zok:zbl P σ [] K ⟨⟩=K (.tup []):=(rfl)
theorem zol {a:ResultVar}:zbl P σ [a] K ⟨⟩=Yb P σ a K ⟨⟩:=(rfl)
theorem zoz {a b:ResultVar}:zbl P σ [a,b] K ⟨⟩=Yb P σ a (fun c=>Yb P σ b (fun d=>K (.tup [c,d])) ⟨⟩) ⟨⟩:=(rfl)
theorem zp2 {a b c1:ResultVar}:zbl P σ [a,b,c1] K ⟨⟩=Yb P σ a (fun c=>Yb P σ b (fun d=>Yb P σ c1 (fun e=>K (.tup [c,d,e])) ⟨⟩) ⟨⟩) ⟨⟩:=(rfl)
theorem znR {u:Nat}:Yb P ⟨tm,bx,nx,lg⟩ (.tmp u) K ⟨⟩=K (jy tm u):=(rfl)
theorem znJ {u:Nat}:Yb P ⟨tm,bx,nx,lg⟩ (.cell u t) K ⟨⟩=vS P t (jy tm u) bx K ⟨⟩:=(rfl)
theorem zkO {KS:St->Prop}:zeb P G h ops [] σ KS ⟨⟩ ⟨⟩ ⟨⟩ ⟨⟩=KS σ:=(rfl)
theorem zo2 {KS:St->Prop} {dst:Option Tmp} {op:Op} {ty:TypeId} {pos:String} {af:Array Edge} {g:Option (Nat×Bool)} {rest:List Oper}:zeb P G h ops (⟨dst,op,ty,pos,af,g⟩ :: rest) ⟨tm,bx,nx,lg⟩ KS ⟨⟩ ⟨⟩ ⟨⟩ ⟨⟩=Xb ops tm g (jm P G h op ⟨tm,bx,nx,lg⟩ (fun c σ'=>zeb P G h ops rest (σ'.put dst c) KS ⟨⟩ ⟨⟩ ⟨⟩ ⟨⟩) ⟨⟩ ⟨⟩ ⟨⟩) (zeb P G h ops rest (St.put ⟨tm,bx,nx,lg⟩ dst (.sc undef)) KS ⟨⟩ ⟨⟩ ⟨⟩ ⟨⟩) ⟨⟩ ⟨⟩ ⟨⟩:=(rfl)
theorem zjT {KS:St->Prop}:Xk P G h ops [] brs σ KS ⟨⟩ ⟨⟩ ⟨⟩ ⟨⟩=KS σ:=(rfl)
theorem ziv {KS:St->Prop} {dst:Option Tmp} {op:Op} {ty:TypeId} {pos:String} {af:Array Edge} {g:Option (Nat×Bool)} {rest:List Oper}:Xk P G h ops (⟨dst,op,ty,pos,af,g⟩ :: rest) [] ⟨tm,bx,nx,lg⟩ KS ⟨⟩ ⟨⟩ ⟨⟩ ⟨⟩=Xb ops tm g (jg P G bx (zx G tm) op nx (fun c nx'=>Xk P G h ops rest [] ⟨j3 tm dst c,bx,nx',lg⟩ KS ⟨⟩ ⟨⟩ ⟨⟩ ⟨⟩) ⟨⟩ ⟨⟩ ⟨⟩) (Xk P G h ops rest [] ⟨j3 tm dst (.sc undef),bx,nx,lg⟩ KS ⟨⟩ ⟨⟩ ⟨⟩ ⟨⟩) ⟨⟩ ⟨⟩ ⟨⟩:=(rfl)
theorem zi9 {KS:St->Prop} {dst:Option Tmp} {op:Op} {ty:TypeId} {pos:String} {af:Array Edge} {g:Option (Nat×Bool)} {rest:List Oper}:Xk P G h ops (⟨dst,op,ty,pos,af,g⟩ :: rest) (false :: brs) ⟨tm,bx,nx,lg⟩ KS ⟨⟩ ⟨⟩ ⟨⟩ ⟨⟩=Xb ops tm g (jg P G bx (zx G tm) op nx (fun c nx'=>Xk P G h ops rest brs ⟨j3 tm dst c,bx,nx',lg⟩ KS ⟨⟩ ⟨⟩ ⟨⟩ ⟨⟩) ⟨⟩ ⟨⟩ ⟨⟩) (Xk P G h ops rest brs ⟨j3 tm dst (.sc undef),bx,nx,lg⟩ KS ⟨⟩ ⟨⟩ ⟨⟩ ⟨⟩) ⟨⟩ ⟨⟩ ⟨⟩:=(rfl)
theorem zjb {KS:St->Prop} {dst:Option Tmp} {op:Op} {ty:TypeId} {pos:String} {af:Array Edge} {g:Option (Nat×Bool)} {rest:List Oper}:Xk P G h ops (⟨dst,op,ty,pos,af,g⟩ :: rest) (true :: brs) ⟨tm,bx,nx,lg⟩ KS ⟨⟩ ⟨⟩ ⟨⟩ ⟨⟩=Xb ops tm g (jm P G h op ⟨tm,bx,nx,lg⟩ (fun c σ'=>Xk P G h ops rest brs (σ'.put dst c) KS ⟨⟩ ⟨⟩ ⟨⟩ ⟨⟩) ⟨⟩ ⟨⟩ ⟨⟩) (Xk P G h ops rest brs ⟨j3 tm dst (.sc undef),bx,nx,lg⟩ KS ⟨⟩ ⟨⟩ ⟨⟩ ⟨⟩) ⟨⟩ ⟨⟩ ⟨⟩:=(rfl)
theorem zgX:Xb ops tm none X Y ⟨⟩ ⟨⟩ ⟨⟩=X:=(rfl)
theorem zmF {l:List Oper} {j:Nat} {want:Bool}:Xb l.toArray tm (some (j,want)) X Y ⟨⟩ ⟨⟩ ⟨⟩=zrv ((l[j]?).bind (·.dst)) tm want X Y ⟨⟩ ⟨⟩:=(show je l.toArray tm (some (j,want)) X Y=aGd ((l[j]?).bind (·.dst)) tm want X Y from by simp only[je,List.getElem?_toArray];rfl)
theorem zoN {u:Tmp}:zrv (some u) tm true X Y ⟨⟩ ⟨⟩=zjr (jy tm u) Y X Y ⟨⟩ ⟨⟩ ⟨⟩:=(rfl)
theorem zp4 {u:Tmp}:zrv (some u) tm false X Y ⟨⟩ ⟨⟩=zjr (jy tm u) Y Y X ⟨⟩ ⟨⟩ ⟨⟩:=(rfl)
theorem zk1 {U:Prop} {b:Bool}:zjr (.sc (.bool b)) U X Y ⟨⟩ ⟨⟩ ⟨⟩=zlg (.sc (.bool b)) X Y ⟨⟩ ⟨⟩:=(rfl)
theorem zmG {U:Prop}:zjr (.sc undef) U X Y ⟨⟩ ⟨⟩ ⟨⟩=U:=(rfl)
theorem zbp {u:Tmp}:St.put ⟨tm,bx,nx,lg⟩ (some u) c=⟨(u,c) :: tm,bx,nx,lg⟩:=(rfl)
theorem zaV:St.put ⟨tm,bx,nx,lg⟩ none c=⟨tm,bx,nx,lg⟩:=(rfl)
theorem yS {u:Tmp}:j3 tm (some u) c=(u,c) :: tm:=(rfl)
theorem xF:j3 tm none c=tm:=(rfl)
theorem kK {n:Nat} {ps:List (Nat×Operand)}:jm P G h (.buildSlice t n ps.toArray) ⟨tm,bx,nx,lg⟩ K3 ⟨⟩ ⟨⟩ ⟨⟩=if h.bx t then Ht P t n (ps.map fun p=>(p.1,zx G tm p.2)) ⟨tm,bx,nx,lg⟩ K3 ⟨⟩ else XJ P t n (ps.map fun p=>(p.1,zx G tm p.2)) nx (fun c nx'=>K3 c ⟨tm,bx,nx',lg⟩) ⟨⟩:=(rfl)
theorem ky {n:Nat} {ps:List (Nat×Operand)} {ev:Operand->C}:jg P G bx ev (.buildSlice t n ps.toArray) nx K2 ⟨⟩ ⟨⟩ ⟨⟩=GN P t n (ps.map fun p=>(p.1,ev p.2)) nx K2 ⟨⟩:=(rfl)
theorem zqN:GN P t 0 [] nx K2 ⟨⟩=zoi P (lay P t) nx K2 ⟨⟩:=(rfl)
theorem zrh {n:Nat} {ps:List (Nat×C)}:GN P t (n+1) ps nx K2 ⟨⟩=XJ P t (n+1) ps nx K2 ⟨⟩:=(rfl)
theorem zq4 {e s b:Nat} {z1:Option (List Value)}:zoi P (some ⟨.slice e,s,b,z1⟩) nx K2 ⟨⟩=znQ (lay P e) nx K2 ⟨⟩:=(rfl)
theorem zrB {kd:LK} {k b:Nat} {z1:List Value}:znQ (some ⟨kd,k,b,some z1⟩) nx K2 ⟨⟩=(z1.length=k/\0<k/\K2 (.tight k []) nx):=(rfl)
theorem Gd:jm P G h (.makeSlice t x y) ⟨tm,bx,nx,lg⟩ K3 ⟨⟩ ⟨⟩ ⟨⟩=if h.bx t then xb P t (zx G tm x) (zx G tm y) ⟨tm,bx,nx,lg⟩ K3 ⟨⟩ else zkz P t (zx G tm x) (zx G tm y) nx (fun c nx'=>K3 c ⟨tm,bx,nx',lg⟩) ⟨⟩:=(rfl)
theorem zoR:Hd.bx ⟨p,yd,bf⟩ t=(bf (1000000+t)).headD false:=(rfl)
theorem zlW:Hd.bx2 ⟨p,yd,bf⟩ t=((bf (1000000+t)).drop 1).headD false:=(rfl)
theorem zit:jm P G h (.move x) ⟨tm,bx,nx,lg⟩ K3 ⟨⟩ ⟨⟩ ⟨⟩=K3 (zx G tm x) ⟨tm,bx,nx,lg⟩:=(rfl)
theorem zjV {ev:Operand->C}:jg P G bx ev (.move x) nx K2 ⟨⟩ ⟨⟩ ⟨⟩=K2 (ev x) nx:=(rfl)
theorem zau:jm P G h (.assign x) ⟨tm,bx,nx,lg⟩ K3 ⟨⟩ ⟨⟩ ⟨⟩=K3 (zx G tm x) ⟨tm,bx,nx,lg⟩:=(rfl)
theorem zav {ev:Operand->C}:jg P G bx ev (.assign x) nx K2 ⟨⟩ ⟨⟩ ⟨⟩=K2 (ev x) nx:=(rfl)
theorem zho:jm P G h (.pick x y z) ⟨tm,bx,nx,lg⟩ K3 ⟨⟩ ⟨⟩ ⟨⟩=zlg (zx G tm x) (K3 (zx G tm y) ⟨tm,bx,nx,lg⟩) (K3 (zx G tm z) ⟨tm,bx,nx,lg⟩) ⟨⟩ ⟨⟩:=(rfl)
theorem zhA {ev:Operand->C}:jg P G bx ev (.pick x y z) nx K2 ⟨⟩ ⟨⟩ ⟨⟩=zlg (ev x) (K2 (ev y) nx) (K2 (ev z) nx) ⟨⟩ ⟨⟩:=(rfl)
theorem zdU {ps:List (Nat×Operand)}:jm P G h (.build t ps.toArray) ⟨tm,bx,nx,lg⟩ K3 ⟨⟩ ⟨⟩ ⟨⟩=vh P t (ps.map fun p=>(p.1,zx G tm p.2)) (fun c=>K3 c ⟨tm,bx,nx,lg⟩) ⟨⟩:=(rfl)
theorem zcA {ps:List (Nat×Operand)} {ev:Operand->C}:jg P G bx ev (.build t ps.toArray) nx K2 ⟨⟩ ⟨⟩ ⟨⟩=vh P t (ps.map fun p=>(p.1,ev p.2)) (fun c=>K2 c nx) ⟨⟩:=(rfl)
theorem ziX:jm P G h (.load t x) ⟨tm,bx,nx,lg⟩ K3 ⟨⟩ ⟨⟩ ⟨⟩=vS P t (zx G tm x) bx (fun c=>K3 c ⟨tm,bx,nx,lg⟩) ⟨⟩:=(rfl)
theorem zjh {ev:Operand->C}:jg P G bx ev (.load t x) nx K2 ⟨⟩ ⟨⟩ ⟨⟩=vS P t (ev x) bx (fun c=>K2 c nx) ⟨⟩:=(rfl)
theorem N5:jm P G h (.nilCheck x) ⟨tm,bx,nx,lg⟩ K3 ⟨⟩ ⟨⟩ ⟨⟩=zl8 (zx G tm x) (fun c=>K3 c ⟨tm,bx,nx,lg⟩) ⟨⟩:=(rfl)
theorem Nn {ev:Operand->C}:jg P G bx ev (.nilCheck x) nx K2 ⟨⟩ ⟨⟩ ⟨⟩=zl8 (ev x) (fun c=>K2 c nx) ⟨⟩:=(rfl)
theorem zeI {op:BinOp}:jm P G h (.binOp op t x y t') ⟨tm,bx,nx,lg⟩ K3 ⟨⟩ ⟨⟩ ⟨⟩=NI P t op (zx G tm x) (zx G tm y) (fun c=>K3 c ⟨tm,bx,nx,lg⟩) ⟨⟩:=(rfl)
theorem zdN {op:BinOp} {ev:Operand->C}:jg P G bx ev (.binOp op t x y t') nx K2 ⟨⟩ ⟨⟩ ⟨⟩=NI P t op (ev x) (ev y) (fun c=>K2 c nx) ⟨⟩:=(rfl)
theorem zg5 {op:UnOp}:jm P G h (.unOp op t x) ⟨tm,bx,nx,lg⟩ K3 ⟨⟩ ⟨⟩ ⟨⟩=zrr op (zx G tm x) (fun c=>K3 c ⟨tm,bx,nx,lg⟩) ⟨⟩:=(rfl)
theorem ziQ {op:UnOp} {ev:Operand->C}:jg P G bx ev (.unOp op t x) nx K2 ⟨⟩ ⟨⟩ ⟨⟩=zrr op (ev x) (fun c=>K2 c nx) ⟨⟩:=(rfl)
theorem yo:jm P G h (.convert t t' x) ⟨tm,bx,nx,lg⟩ K3 ⟨⟩ ⟨⟩ ⟨⟩=xN P bx t t' (zx G tm x) (fun c=>K3 c ⟨tm,bx,nx,lg⟩) ⟨⟩:=(rfl)
theorem Mn {fn:Fn} {fs cs:List Operand}:jm P G h (.makeFunc fn fs.toArray cs.toArray) ⟨tm,bx,nx,lg⟩ K3 ⟨⟩ ⟨⟩ ⟨⟩=K3 (.clo fn (fs.map (zx G tm)) (cs.map (zx G tm))) ⟨tm,bx,nx,lg⟩:=(rfl)
theorem zek {lo hi mx:Option Operand}:jm P G h (.slice t x lo hi mx) ⟨tm,bx,nx,lg⟩ K3 ⟨⟩ ⟨⟩ ⟨⟩=ye P t (zx G tm x) (lo.map (zx G tm)) (hi.map (zx G tm)) (mx.map (zx G tm)) (fun c=>K3 c ⟨tm,bx,nx,lg⟩) ⟨⟩:=(rfl)
theorem zd9 {lo hi mx:Option Operand} {ev:Operand->C}:jg P G bx ev (.slice t x lo hi mx) nx K2 ⟨⟩ ⟨⟩ ⟨⟩=ye P t (ev x) (lo.map ev) (hi.map ev) (mx.map ev) (fun c=>K2 c nx) ⟨⟩:=(rfl)
theorem H7 {f:Nat}:jm P G h (.fieldAddr t x f) ⟨tm,bx,nx,lg⟩ K3 ⟨⟩ ⟨⟩ ⟨⟩=QA P t (zx G tm x) f (fun c=>K3 c ⟨tm,bx,nx,lg⟩) ⟨⟩:=(rfl)
theorem Gv {f:Nat} {ev:Operand->C}:jg P G bx ev (.fieldAddr t x f) nx K2 ⟨⟩ ⟨⟩ ⟨⟩=QA P t (ev x) f (fun c=>K2 c nx) ⟨⟩:=(rfl)
theorem zd2 {f:Nat}:jm P G h (.field t x f) ⟨tm,bx,nx,lg⟩ K3 ⟨⟩ ⟨⟩ ⟨⟩=xT P t (zx G tm x) f (fun c=>K3 c ⟨tm,bx,nx,lg⟩) ⟨⟩:=(rfl)
theorem zeU {f:Nat} {ev:Operand->C}:jg P G bx ev (.field t x f) nx K2 ⟨⟩ ⟨⟩ ⟨⟩=xT P t (ev x) f (fun c=>K2 c nx) ⟨⟩:=(rfl)
theorem H3:jm P G h (.indexAddr t x y) ⟨tm,bx,nx,lg⟩ K3 ⟨⟩ ⟨⟩ ⟨⟩=Qq P t (zx G tm x) (zx G tm y) (fun c=>K3 c ⟨tm,bx,nx,lg⟩) ⟨⟩:=(rfl)
theorem HK {ev:Operand->C}:jg P G bx ev (.indexAddr t x y) nx K2 ⟨⟩ ⟨⟩ ⟨⟩=Qq P t (ev x) (ev y) (fun c=>K2 c nx) ⟨⟩:=(rfl)
theorem zgs:jm P G h (.index t x y) ⟨tm,bx,nx,lg⟩ K3 ⟨⟩ ⟨⟩ ⟨⟩=yD P t (zx G tm x) (zx G tm y) (fun c=>K3 c ⟨tm,bx,nx,lg⟩) ⟨⟩:=(rfl)
theorem zfy {ev:Operand->C}:jg P G bx ev (.index t x y) nx K2 ⟨⟩ ⟨⟩ ⟨⟩=yD P t (ev x) (ev y) (fun c=>K2 c nx) ⟨⟩:=(rfl)
theorem vx {i:Nat}:jm P G h (.extract x i) ⟨tm,bx,nx,lg⟩ K3 ⟨⟩ ⟨⟩ ⟨⟩=UL (zx G tm x) i (fun c=>K3 c ⟨tm,bx,nx,lg⟩) ⟨⟩:=(rfl)
theorem vv {i:Nat} {ev:Operand->C}:jg P G bx ev (.extract x i) nx K2 ⟨⟩ ⟨⟩ ⟨⟩=UL (ev x) i (fun c=>K2 c nx) ⟨⟩:=(rfl)
theorem zdj {us:List Operand} {ts:List TypeId}:jm P G h (.call ⟨.value x,us.toArray,ts.toArray⟩) ⟨tm,bx,nx,lg⟩ K3 ⟨⟩ ⟨⟩ ⟨⟩=vi P G h (zx G tm x) (us.map (zx G tm)) ⟨tm,bx,nx,lg⟩ K3 ⟨⟩ ⟨⟩:=(rfl)
theorem zcK {us:List Operand} {ts:List TypeId} {ev:Operand->C}:jg P G bx ev (.call ⟨.value x,us.toArray,ts.toArray⟩) nx K2 ⟨⟩ ⟨⟩ ⟨⟩=zfS P G (ev x) (us.map ev) nx K2 ⟨⟩:=(rfl)
theorem zk6:jm P G h (.call ⟨.builtin .len,#[x],#[t]⟩) ⟨tm,bx,nx,lg⟩ K3 ⟨⟩ ⟨⟩ ⟨⟩=yI P t (zx G tm x) (fun c=>K3 c ⟨tm,bx,nx,lg⟩) ⟨⟩:=(rfl)
theorem zmX {ev:Operand->C}:jg P G bx ev (.call ⟨.builtin .len,#[x],#[t]⟩) nx K2 ⟨⟩ ⟨⟩ ⟨⟩=yI P t (ev x) (fun c=>K2 c nx) ⟨⟩:=(rfl)
theorem vj {r:Option Operand}:jm P G h (.makeMap t r) ⟨tm,bx,nx,lg⟩ K3 ⟨⟩ ⟨⟩ ⟨⟩=zoL (zgM P t) t (r.map (zx G tm)) nx (fun c nx'=>K3 c ⟨tm,bx,nx',lg⟩) ⟨⟩:=(rfl)
theorem zoZ {kd:MKd} {z:C}:zoL (some (kd,z)) t none nx K2 ⟨⟩=K2 (.mo nx t kd.nil []) (nx+1):=(rfl)
theorem zmc {k:IntKind}:MKd.nil (.int k) = .int k []:=(rfl)
theorem zaS {ok:Bool} {ev:Operand->C}:jg P G bx ev (.lookup t x y ok) nx K2 ⟨⟩ ⟨⟩ ⟨⟩=zpQ (zgM P t) t (ev x) (ev y) ok (fun c=>K2 c nx) ⟨⟩:=(rfl)
theorem zon {k k2 q:IntKind} {z:C} {id:Nat} {t2:TypeId} {l:List Int} {vs:List C} {n:Int} {ok:Bool}:zpQ (some (.int k,z)) t (.mo id t2 (.int k2 l) vs) (.sc (.int q n)) ok K ⟨⟩=(t2=t/\k2=k/\q=k/\zdW (zkr n l vs) z ok K ⟨⟩):=(rfl)
theorem ziN {z:C}:zdW (some c) z false K ⟨⟩=K c:=(rfl)
theorem zbz {w:Operand}:jm P G h (.insert t x y w) ⟨tm,bx,nx,lg⟩ K3 ⟨⟩ ⟨⟩ ⟨⟩=zpg (zgM P t) t (zx G tm x) (zx G tm y) (zx G tm w) ⟨tm,bx,nx,lg⟩ K3 ⟨⟩:=(rfl)
theorem zoX {k k2 q:IntKind} {z:C} {id:Nat} {t2:TypeId} {l:List Int} {vs:List C} {n:Int}:zpg (some (.int k,z)) t (.mo id t2 (.int k2 l) vs) (.sc (.int q n)) d ⟨tm,bx,nx,lg⟩ K3 ⟨⟩=(t2=t/\k2=k/\q=k/\K3 .any ⟨zgI id (.int k (kz n d.frz l vs).1) (kz n d.frz l vs).2 tm,zgr id (.int k (kz n d.frz l vs).1) (kz n d.frz l vs).2 bx,nx,lg⟩):=(rfl)
theorem zcu:jm P G h (.call ⟨.builtin .append,#[x,y],#[t,t]⟩) ⟨tm,bx,nx,lg⟩ K3 ⟨⟩ ⟨⟩ ⟨⟩=if h.bx t then if h.bx2 t then Ux P t (zx G tm x) (zx G tm y) ⟨tm,bx,nx,lg⟩ K3 ⟨⟩ else uB P h.p t (zx G tm x) (zx G tm y) ⟨tm,bx,nx,lg⟩ K3 ⟨⟩ else HH P t (zx G tm x) (zx G tm y) ⟨tm,bx,nx,lg⟩ K3 ⟨⟩:=(show Ne P G h (.call ⟨.builtin .append,#[x,y],#[t,t]⟩) ⟨tm,bx,nx,lg⟩ K3=if h.bx t then if h.bx2 t then Jq P t (zx G tm x) (zx G tm y) ⟨tm,bx,nx,lg⟩ K3 else U8 P h.p t (zx G tm x) (zx G tm y) ⟨tm,bx,nx,lg⟩ K3 else G4 P t (zx G tm x) (zx G tm y) ⟨tm,bx,nx,lg⟩ K3 from by simp[Ne,yO])
theorem ziz (h0:(t'==t)=false):jm P G h (.call ⟨.builtin .append,#[x,y],#[t,t']⟩) ⟨tm,bx,nx,lg⟩ K3 ⟨⟩ ⟨⟩ ⟨⟩=uP P t t' (zx G tm x) (zx G tm y) ⟨tm,bx,nx,lg⟩ K3 ⟨⟩:=(show Ne P G h (.call ⟨.builtin .append,#[x,y],#[t,t']⟩) ⟨tm,bx,nx,lg⟩ K3=Gs P t t' (zx G tm x) (zx G tm y) ⟨tm,bx,nx,lg⟩ K3 from by simp only[beq_eq_false_iff_ne]at h0;simp[Ne,yO,h0])
theorem zjO:jm P G h (.call ⟨.builtin .copy,#[x,y],#[t,t']⟩) ⟨tm,bx,nx,lg⟩ K3 ⟨⟩ ⟨⟩ ⟨⟩=xf P t (zx G tm x) (zx G tm y) ⟨tm,bx,nx,lg⟩ K3 ⟨⟩:=(show Ne P G h (.call ⟨.builtin .copy,#[x,y],#[t,t']⟩) ⟨tm,bx,nx,lg⟩ K3=Qo P t (zx G tm x) (zx G tm y) ⟨tm,bx,nx,lg⟩ K3 from by simp[Ne,yO])
theorem zf6:jm P G h (.call ⟨.builtin .clear,#[x],#[t]⟩) ⟨tm,bx,nx,lg⟩ K3 ⟨⟩ ⟨⟩ ⟨⟩=yb P t (zx G tm x) ⟨tm,bx,nx,lg⟩ K3 ⟨⟩:=(show Ne P G h (.call ⟨.builtin .clear,#[x],#[t]⟩) ⟨tm,bx,nx,lg⟩ K3=Uh P t (zx G tm x) ⟨tm,bx,nx,lg⟩ K3 from by simp[Ne,yO])
theorem znq:jm P G h (.call ⟨.builtin .max,#[x,y],#[t,t']⟩) ⟨tm,bx,nx,lg⟩ K3 ⟨⟩ ⟨⟩ ⟨⟩=zpa (zx G tm x) (zx G tm y) (fun c=>K3 c ⟨tm,bx,nx,lg⟩) ⟨⟩:=(rfl)
theorem zqT {k k':IntKind} {n m:Int}:zpa (.sc (.int k n)) (.sc (.int k' m)) K ⟨⟩=K (.sc (.int k (if m>n then m else n))):=(rfl)
theorem zlF:jm P G h (.call ⟨.builtin .cap,#[x],#[t]⟩) ⟨tm,bx,nx,lg⟩ K3 ⟨⟩ ⟨⟩ ⟨⟩=zoI P t (zx G tm x) (fun c=>K3 c ⟨tm,bx,nx,lg⟩) ⟨⟩:=(show Ne P G h (.call ⟨.builtin .cap,#[x],#[t]⟩) ⟨tm,bx,nx,lg⟩ K3=zpP P t (zx G tm x) fun c=>K3 c ⟨tm,bx,nx,lg⟩ from by simp[Ne,yO])
theorem zrM:zoI P t c K ⟨⟩=zfi (lay P t) c K ⟨⟩:=(rfl)
theorem zhu {i off k n cap:Nat} {e s1 b1:Nat} {z1:Option (List Value)}:zfi (some ⟨.slice e,s1,b1,z1⟩) (.bs i off k n cap) K ⟨⟩=K (.sc (.int .i64 (cap:Int))):=(rfl)
theorem zds {e s1 b1:Nat} {z1:Option (List Value)}:zfi (some ⟨.slice e,s1,b1,z1⟩) (.sc (.slice none 0 0)) K ⟨⟩=K (.sc (.int .i64 0)):=(rfl)
theorem za3 {ev:Operand->C}:jg P G bx ev (.call ⟨.builtin .append,#[x,y],#[t,t]⟩) nx K2 ⟨⟩ ⟨⟩ ⟨⟩=HR P t (ev x) (ev y) nx K2 ⟨⟩:=(show j4 P G bx ev (.call ⟨.builtin .append,#[x,y],#[t,t]⟩) nx K2=Zy P t (ev x) (ev y) nx K2 from by simp[j4,MV,Uu])
theorem zdb:jm P G h (.alloc t) ⟨tm,bx,nx,lg⟩ K3 ⟨⟩ ⟨⟩ ⟨⟩=zpZ (lay P t) ⟨tm,bx,nx,lg⟩ K3 ⟨⟩:=(rfl)
theorem zmO:jm P G h (.box t x) ⟨tm,bx,nx,lg⟩ K3 ⟨⟩ ⟨⟩ ⟨⟩=zp9 (zx G tm x) ⟨tm,bx,nx,lg⟩ K3 ⟨⟩:=(rfl)
theorem zfP:jm P G h (.store t x y) ⟨tm,bx,nx,lg⟩ K3 ⟨⟩ ⟨⟩ ⟨⟩=zpK (lay P t) (zx G tm x) (zx G tm y) ⟨tm,bx,nx,lg⟩ K3 ⟨⟩:=(rfl)
theorem zjZ {u:Tmp}:zx G tm (.tmp u)=jy tm u:=(rfl)
theorem zbI {v:Value}:zx G tm (.const v)=zy v:=(rfl)
theorem zd1 {f:FuncId}:zx G tm (.func f) = .clo (.func f) [] []:=(rfl)
theorem vI {g:Nat}:zx G tm (.global g)=zsb (G g):=(rfl)
theorem vm {cs:List C}:zsb (some cs) = .row cs:=(rfl)
theorem znF {u v:Nat} {r:List (Nat×C)}:jy ((u,c) :: r) v=if v=u then c else jy r v:=(rfl)
theorem vF {k:IntKind} {n:Int}:zy (.int k n) = .sc (.int k n):=(rfl)
theorem No {b:Bool}:zy (.bool b) = .sc (.bool b):=(rfl)
theorem xZ {l:List UInt8}:zy (.string ⟨l.toArray⟩) = .str l:=(rfl)
theorem GZ {a:Option Addr} {n m:Nat}:zy (.slice a n m) = .sc (.slice a n m):=(rfl)
theorem vu {a:Option Addr}:zy (.pointer a) = .sc (.pointer a):=(rfl)
theorem yN {a:Option Nat}:zy (.map a) = .sc (.map a):=(rfl)
theorem xr:zy .nilFunc = .sc .nilFunc:=(rfl)
theorem zc8 {op:BinOp} {k:IntKind} {a b:Int}:NI P t op (.sc (.int k a)) (.sc (.int k b)) K ⟨⟩=kr op k a b K ⟨⟩:=(show znw P t op (.sc (.int k a)) (.sc (.int k b)) K=zqz op k a b K from by simp[znw])
theorem zcL {op:BinOp} {a b:List UInt8}:NI P t op (.str a) (.str b) K ⟨⟩=zdu op a b K ⟨⟩:=(rfl)
theorem zaZ {op:BinOp} {a b:Bool}:NI P t op (.sc (.bool a)) (.sc (.bool b)) K ⟨⟩=zgo (lay P t) op a b K ⟨⟩:=(rfl)
theorem zgy {op:BinOp} {cs ds:List C}:NI P t op (.agg cs) (.agg ds) K ⟨⟩=znS op (kQ P t) cs ds K ⟨⟩:=(rfl)
theorem ML {op:BinOp} {k:Nat} {rows:List (List C)}:NI P t op (.sl k rows) (.sc (.slice none 0 0)) K ⟨⟩=zaa (lay P t) op (.sl k rows) K ⟨⟩:=(rfl)
theorem zf4 {op:BinOp} {e0:TypeId} {k0 b0:Nat} {z0:Option (List Value)} {k:Nat} {rows:List (List C)}:zaa (some ⟨.slice e0,k0,b0,z0⟩) op (.sl k rows) K ⟨⟩=(rows≠[]/\zdk op false K ⟨⟩):=(rfl)
theorem Mv {op:BinOp} {a:Option Addr} {n cap:Nat}:NI P t op (.sc (.slice a n cap)) (.sc (.slice none 0 0)) K ⟨⟩=zaa (lay P t) op (.sc (.slice a n cap)) K ⟨⟩:=(rfl)
theorem zcZ {op:BinOp} {e0:TypeId} {k0 b0:Nat} {z0:Option (List Value)} {a:Option Addr} {n cap:Nat}:zaa (some ⟨.slice e0,k0,b0,z0⟩) op (.sc (.slice a n cap)) K ⟨⟩=zdk op a.isNone K ⟨⟩:=(rfl)
theorem zaL {b:Bool}:zdk .eql b K ⟨⟩=K (.sc (.bool b)):=(rfl)
theorem zgw {lk:List LK} {cs ds:List C}:znS .neq (some lk) cs ds K ⟨⟩=znr true lk cs ds true K ⟨⟩:=(rfl)
theorem zbu {e:Bool}:znr true [] [] [] e K ⟨⟩=K (.sc (.bool (!e))):=(rfl)
theorem zj2 {n e:Bool} {lk:List LK} {k k1 k2:IntKind} {a b:Int} {cs ds:List C}:znr n (.int k :: lk) (.sc (.int k1 a) :: cs) (.sc (.int k2 b) :: ds) e K ⟨⟩=(k1=k/\k2=k/\znr n lk cs ds (e&&decide (a=b)) K ⟨⟩):=(rfl)
theorem zi6 {n e:Bool} {lk:List LK} {a b:List UInt8} {cs ds:List C}:znr n (.str :: lk) (.str a :: cs) (.str b :: ds) e K ⟨⟩=znr n lk cs ds (e&&decide (a=b)) K ⟨⟩:=(rfl)
theorem zkS {op:BinOp} {a b:Bool} {s b1:Nat} {z1:Option (List Value)}:zgo (some ⟨.bool,s,b1,z1⟩) op a b K ⟨⟩=zkl op a b K ⟨⟩:=(rfl)
theorem zfk {k:IntKind} {a b:Int}:kr .add k a b K ⟨⟩=(inR k (a+b)/\K (.sc (.int k (a+b)))):=(rfl)
theorem zgz {k:IntKind} {a b:Int}:kr .sub k a b K ⟨⟩=(inR k (a-b)/\K (.sc (.int k (a-b)))):=(rfl)
theorem zfw {k:IntKind} {a b:Int}:kr .shr k a b K ⟨⟩=(b=1/\K (.sc (.int k (a / 2)))):=(rfl)
theorem zf3 {k:IntKind} {a b:Int}:kr .eql k a b K ⟨⟩=(K (.sc (.bool (decide (a=b))))):=(rfl)
theorem zeA {k:IntKind} {a b:Int}:kr .neq k a b K ⟨⟩=(K (.sc (.bool (!decide (a=b))))):=(rfl)
theorem zgp {k:IntKind} {a b:Int}:kr .lss k a b K ⟨⟩=(K (.sc (.bool (decide (a<b))))):=(rfl)
theorem zfz {k:IntKind} {a b:Int}:kr .leq k a b K ⟨⟩=(K (.sc (.bool (decide (a<=b))))):=(rfl)
theorem zdY {k:IntKind} {a b:Int}:kr .gtr k a b K ⟨⟩=(K (.sc (.bool (decide (b<a))))):=(rfl)
theorem zes {k:IntKind} {a b:Int}:kr .geq k a b K ⟨⟩=(K (.sc (.bool (decide (b<=a))))):=(rfl)
theorem zea {a b:List UInt8}:zdu .add a b K ⟨⟩=(((a.length+b.length:Nat):Int)<=9223372036854775807/\K (.str (a++b))):=(rfl)
theorem zcW {a b:List UInt8}:zdu .eql a b K ⟨⟩=(K (.sc (.bool (decide (a=b))))):=(rfl)
theorem zfQ {a b:List UInt8}:zdu .neq a b K ⟨⟩=(K (.sc (.bool (!decide (a=b))))):=(rfl)
theorem zew {a b:List UInt8}:zdu .geq a b K ⟨⟩=(K (.sc (.bool (!Op.bytesLess a b)))):=(rfl)
theorem zbw {a b:Bool}:zkl .eql a b K ⟨⟩=K (.sc (.bool (a==b))):=(rfl)
theorem zhx {b:Bool}:zrr .not (.sc (.bool b)) K ⟨⟩=K (.sc (.bool (!b))):=(rfl)
theorem zfZ {cs:List C} {i:Nat}:UL (.tup cs) i K ⟨⟩=zmA (cs[i]?) K ⟨⟩:=(rfl)
theorem zrZ:zmA (some c) K ⟨⟩=K c:=(rfl)
theorem zfR {i off:Nat}:zl8 (.ptr i off) K ⟨⟩=K (.ptr i off):=(rfl)
theorem znG:vS P t c bx K ⟨⟩=vo (lay P t) c bx K ⟨⟩:=(rfl)
theorem zfp {ev:Operand->C}:jg P G bx ev (.store t x y) nx K2 ⟨⟩ ⟨⟩ ⟨⟩=zo8 (lay P t) (ev x) (ev y) bx (fun c=>K2 c nx) ⟨⟩:=(rfl)
theorem zqS {L:Lay} {i off:Nat}:zo8 (some L) (.ptr i off) c bx K ⟨⟩=zoS (bx[i]?) off L.size c K ⟨⟩:=(rfl)
theorem zrp {cs:List C} {off size:Nat}:zoS (some cs) off size c K ⟨⟩=(c.partB=true/\(c.cells.all C.cellB)=true/\c.cells.length=size/\off+size<=cs.length/\VH ((cs.drop off).take size) c.cells/\K .any):=(rfl)
theorem zcp:VH [] []=True:=(rfl)
theorem zgn {u v:Value} {r s:List C}:VH (.sc u :: r) (.sc v :: s)=(u=v/\VH r s):=(rfl)
theorem zcd {u v:List UInt8} {r s:List C}:VH (.str u :: r) (.str v :: s)=(u=v/\VH r s):=(rfl)
theorem zcn {L:Lay} {i off:Nat}:vo (some L) (.ptr i off) bx K ⟨⟩=zcM (bx[i]?) off L K ⟨⟩:=(rfl)
theorem zaP {L:Lay} {cs:List C}:vo (some L) (.row cs) bx K ⟨⟩=Vd L cs K ⟨⟩:=(rfl)
theorem zkU {L:Lay} {off:Nat} {cs:List C}:zcM (some cs) off L K ⟨⟩=Vd L (cs.drop off) K ⟨⟩:=(rfl)
theorem Gu {fs:List (Nat×Nat×Bool)} {s b:Nat} {z1:Option (List Value)} {cs:List C}:Vd ⟨.struct fs,s,b,z1⟩ cs K ⟨⟩=(s<=cs.length/\K (.agg (cs.take s))):=(show JS ⟨.struct fs,s,b,z1⟩ cs K=(s<=cs.length/\K (.agg (cs.take s))) from by simp[JS,LK.agg])
theorem zbf {ik:IntKind} {s b:Nat} {z1:Option (List Value)} {r:List C}:Vd ⟨.int ik,s,b,z1⟩ (c :: r) K ⟨⟩=K c:=(show JS ⟨.int ik,s,b,z1⟩ (c :: r) K=K c from by simp[JS,LK.agg])
theorem yV {s b:Nat} {z1:Option (List Value)} {r:List C}:Vd ⟨.bool,s,b,z1⟩ (c :: r) K ⟨⟩=K c:=(show JS ⟨.bool,s,b,z1⟩ (c :: r) K=K c from by simp[JS,LK.agg])
theorem zbr {s b:Nat} {z1:Option (List Value)} {r:List C}:Vd ⟨.str,s,b,z1⟩ (c :: r) K ⟨⟩=K c:=(show JS ⟨.str,s,b,z1⟩ (c :: r) K=K c from by simp[JS,LK.agg])
theorem Ms {e:TypeId} {s b:Nat} {z1:Option (List Value)} {r:List C}:Vd ⟨.slice e,s,b,z1⟩ (c :: r) K ⟨⟩=K c:=(show JS ⟨.slice e,s,b,z1⟩ (c :: r) K=K c from by simp[JS,LK.agg])
theorem MN {s b:Nat} {z1:Option (List Value)} {r:List C}:Vd ⟨.other,s,b,z1⟩ (c :: r) K ⟨⟩=K c:=(show JS ⟨.other,s,b,z1⟩ (c :: r) K=K c from by simp[JS,LK.agg])
theorem znh {f:Nat}:xT P t c f K ⟨⟩=uT (lay P t) c f K ⟨⟩:=(rfl)
theorem ziF {fs:List (Nat×Nat×Bool)} {s b:Nat} {z1:Option (List Value)} {cs:List C} {f:Nat}:uT (some ⟨.struct fs,s,b,z1⟩) (.agg cs) f K ⟨⟩=ue (fs[f]?) cs K ⟨⟩:=(show yT (some ⟨.struct fs,s,b,z1⟩) (.agg cs) f K=Ud (fs[f]?) cs K from by unfold yT Ud;simp only[];cases fs[f]?<;>simp)
theorem zgH {off size:Nat} {cs:List C}:ue (some (off,size,false)) cs K ⟨⟩=zmA (cs[off]?) K ⟨⟩:=(show Ud (some (off,size,false)) cs K=zq1 (cs[off]?) K from by unfold Ud zq1;simp)
theorem zsI {f:Nat}:QA P t c f K ⟨⟩=zou (lay P t) c f K ⟨⟩:=(rfl)
theorem zqF {fs:List (Nat×Nat×Bool)} {s b:Nat} {z1:Option (List Value)} {f:Nat}:zou (some ⟨.struct fs,s,b,z1⟩) c f K ⟨⟩=zlq (fs[f]?) c K ⟨⟩:=(rfl)
theorem ziT {off size i q:Nat} {g:Bool}:zlq (some (off,size+1,g)) (.ptr i q) K ⟨⟩=K (.ptr i (q+off)):=(show zpt (some (off,size+1,g)) (.ptr i q) K=K (.ptr i (q+off)) from by simp[zpt])
theorem zj0 {off size:Nat} {g:Bool} {cs:List C}:zlq (some (off,size+1,g)) (.row cs) K ⟨⟩=K (.row (cs.drop off)):=(show zpt (some (off,size+1,g)) (.row cs) K=K (.row (cs.drop off)) from by simp[zpt])
theorem zso:Qq P t c d K ⟨⟩=zk2 P (lay P t) c d K ⟨⟩:=(rfl)
theorem zbQ {e s b:Nat} {z1:Option (List Value)} {k:IntKind} {n:Int}:zk2 P (some ⟨.slice e,s,b,z1⟩) c (.sc (.int k n)) K ⟨⟩=zje (lay P e) c n K ⟨⟩:=(rfl)
theorem zbi {m e s b:Nat} {z1:Option (List Value)} {k:IntKind} {n:Int}:zk2 P (some ⟨.array (m+1) e,s,b,z1⟩) c (.sc (.int k n)) K ⟨⟩=zqs (lay P e) c m n K ⟨⟩:=(rfl)
theorem zeV {k:Nat} {rows:List (List C)} {L:Lay} {n:Int}:zje (some L) (.sl k rows) n K ⟨⟩=zkN (C.rows? L.size (.sl k rows)) n K ⟨⟩:=(rfl)
theorem zff {k:Nat} {rows:List (List C)} {L:Lay} {lo hi mx:Option Int}:zdo (some L) (.sl k rows) lo hi mx K ⟨⟩=zh1 (C.rows? L.size (.sl k rows)) L.size lo hi mx K ⟨⟩:=(rfl)
theorem zb2 {id e k:Nat} {rows:List (List C)} {L:Lay} {n:Int}:zje (some L) (.own id e k rows) n K ⟨⟩=zkN (C.rows? L.size (.own id e k rows)) n K ⟨⟩:=(rfl)
theorem zb0 {id e k:Nat} {rows:List (List C)} {L:Lay} {lo hi mx:Option Int}:zdo (some L) (.own id e k rows) lo hi mx K ⟨⟩=zh1 (C.rows? L.size (.own id e k rows)) L.size lo hi mx K ⟨⟩:=(rfl)
theorem yu {id e k:Nat} {rows:List (List C)} :xN P bx t t' (.own id e k rows) K ⟨⟩=zfU P t t' (.own id e k rows) K ⟨⟩:=(rfl)
theorem zce {L:Lay} {lo hi mx:Option Int}:zdo (some L) (.sc (.slice none 0 0)) lo hi mx K ⟨⟩=zn2 L.size lo hi mx K ⟨⟩:=(rfl)
theorem zqV {k:Nat} {lo hi:Option Int}:zn2 k lo hi none K ⟨⟩=(jD 0 lo hi/\K (.sc (.slice none 0 0))):=(rfl)
theorem zcb {v:Value} :xN P bx t t' (.sc v) K ⟨⟩=zfU P t t' (.sc v) K ⟨⟩:=(rfl)
theorem zdZ {L:Lay} {n:Int} {j off k m1 cap:Nat}:zje (some L) (.bs j off k m1 cap) n K ⟨⟩=(k=L.size/\0<=n/\n<(m1:Int)/\K (.ptr j (off+n.toNat*L.size))):=(rfl)
theorem zfl {L:Lay} {lo hi mx:Option Int} {i off k n cap:Nat}:zdo (some L) (.bs i off k n cap) lo hi mx K ⟨⟩=zeJ L.size i off k n cap lo hi mx K ⟨⟩:=(rfl)
theorem zjI {b:Int} {sz i off k n cap:Nat}:zeJ sz i off k n cap none (some b) none K ⟨⟩=(n<=cap/\(0<=b/\b<=(cap:Int))/\K (.bs i off k b.toNat cap)):=(rfl)
theorem zg7 {a:Int} {sz i off k n cap:Nat}:zeJ sz i off k n cap (some a) none none K ⟨⟩=(sz=k/\n<=cap/\(0<=a/\a<=(n:Int))/\K (.bs i (off+a.toNat*k) k (n-a.toNat) (cap-a.toNat))):=(rfl)
theorem zhT {a b:Int} {sz i off k n cap:Nat}:zeJ sz i off k n cap (some a) (some b) none K ⟨⟩=(sz=k/\(0<=a/\a<=b/\b<=(cap:Int))/\K (.bs i (off+a.toNat*k) k (b.toNat-a.toNat) (cap-a.toNat))):=(rfl)
theorem zh3 {a b m1:Int} {sz i off k n cap:Nat}:zeJ sz i off k n cap (some a) (some b) (some m1) K ⟨⟩=(sz=k/\(0<=a/\a<=b/\b<=m1/\m1<=(cap:Int))/\K (.bs i (off+a.toNat*k) k (b.toNat-a.toNat) (m1.toNat-a.toNat))):=(rfl)
theorem zif {i off k n cap:Nat}:yI P t (.bs i off k n cap) K ⟨⟩=xd (lay P t) (n:Int) K ⟨⟩:=(rfl)
theorem zsq {n:Nat} {ps:List (Nat×C)}:Ht P t n ps ⟨tm,bx,nx,lg⟩ K3 ⟨⟩=zpV P (lay P t) n ps ⟨tm,bx,nx,lg⟩ K3 ⟨⟩:=(rfl)
theorem zqO {e s b n:Nat} {z1:Option (List Value)} {ps:List (Nat×C)}:zpV P (some ⟨.slice e,s,b,z1⟩) n ps σ K3 ⟨⟩=zpY (lay P e) n ps σ K3 ⟨⟩:=(rfl)
theorem zrT {kd:LK} {k b n:Nat} {z1:List Value} {ps:List (Nat×C)}:zpY (some ⟨kd,k,b,some z1⟩) n ps σ K3 ⟨⟩=(z1.length=k/\0<k/\n*k<=16777216/\(ps.all fun p=>p.2.frz.partB)=true/\zo9 (YG (plA k) (List.replicate n (z1.map zy)).flatten (ps.map fun p=>(p.1,p.2.frz))) k n σ K3 ⟨⟩):=(rfl)
theorem zrC {cs:List C} {k n:Nat}:zo9 (some cs) k n ⟨tm,bx,nx,lg⟩ K3 ⟨⟩=((cs.all C.cellB)=true/\cs.length=n*k/\K3 (.bs bx.length 0 k n n) ⟨tm,bx++[cs],nx,lg⟩):=(rfl)
theorem zs3:uB P p t c d ⟨tm,bx,nx,lg⟩ K3 ⟨⟩=znH P (lay P t) p c d ⟨tm,bx,nx,lg⟩ K3 ⟨⟩:=(rfl)
theorem zrb {e s b:Nat} {z1:Option (List Value)}:znH P (some ⟨.slice e,s,b,z1⟩) p c d σ K3 ⟨⟩=zoT (lay P e) p c d σ K3 ⟨⟩:=(rfl)
theorem zro {kd:LK} {k b:Nat} {z1:List Value}:zoT (some ⟨kd,k,b,some z1⟩) p c d ⟨tm,bx,nx,lg⟩ K3 ⟨⟩=zn6 (d.xs? k bx) p k b z1 c ⟨tm,bx,nx,lg⟩ K3 ⟨⟩:=(rfl)
theorem zlP {i off k k2 n cap:Nat}:C.xs? k bx (.bs i off k2 n cap)=xsB k2 k off n (bx[i]?):=(rfl)
theorem zpX {k off n:Nat} {cs:List C}:xsB k k off n (some cs)=if off+n*k<=cs.length then some (n,(cs.drop off).take (n*k)) else none:=(show xsB k k off n (some cs)=if off+n*k<=cs.length then some (n,(cs.drop off).take (n*k)) else none from by simp[xsB])
theorem zlp {i:Nat} {cs:List C}:Q3 i cs bx=(Nf (JE i) some bx).set i cs:=(rfl)
theorem zm7 {i j:Nat}:JE i j=if j=i then none else some j:=(rfl)
theorem zgV {i off k n cap:Nat}:C.frz (.bs i off k n cap) = .any:=(show C.frz (.bs i off k n cap) = .any from by rw[C.frz])
theorem zmV {i off k n cap:Nat} {fp fo:Nat->Option Nat}:C.re fp fo (.bs i off k n cap)=bsO (fp i) off k n cap:=(show C.re fp fo (.bs i off k n cap)=bsO (fp i) off k n cap from by rw[C.re];rfl)
theorem zoG {j off k n cap:Nat}:bsO (some j) off k n cap = .bs j off k n cap:=(rfl)
theorem zqc {off k n cap:Nat}:bsO none off k n cap = .any:=(rfl)
theorem zaI {i off k n cap:Nat}:C.cellB (.bs i off k n cap)=true:=(rfl)
theorem zcm {i off k n cap:Nat}:C.partB (.bs i off k n cap)=true:=(rfl)
theorem zaW {i off k n cap:Nat}:C.cells (.bs i off k n cap) = [.bs i off k n cap]:=(rfl)
theorem zoF {rows:List (List C)} {n:Int}:zkN (some rows) n K ⟨⟩=zsi (rows[n.toNat]?) n K ⟨⟩:=(rfl)
theorem zsw {r:List C} {n:Int}:zsi (some r) n K ⟨⟩=(0<=n/\K (.row r)):=(rfl)
theorem zll {L:Lay} {m:Nat} {n:Int} {cs:List C}:zqs (some L) (.row cs) m n K ⟨⟩=(0<=n/\n<((m+1:Nat):Int)/\K (.row (cs.drop (n.toNat*L.size)))):=(rfl)
theorem zsE:yD P t c d K ⟨⟩=zoa (lay P t) c d K ⟨⟩:=(rfl)
theorem zrI {s b:Nat} {z1:Option (List Value)} {l:List UInt8} {k:IntKind} {n:Int}:zoa (some ⟨.str,s,b,z1⟩) (.str l) (.sc (.int k n)) K ⟨⟩=zkn (l[n.toNat]?) n K ⟨⟩:=(show zqD (some ⟨.str,s,b,z1⟩) (.str l) (.sc (.int k n)) K=zlu (l[n.toNat]?) n K from by unfold zqD zlu;simp)
theorem zpr {b:UInt8} {n:Int}:zkn (some b) n K ⟨⟩=(0<=n/\K (.sc (.int .u8 (b.toNat:Int)))):=(rfl)
theorem zsK {lo hi mx:Option C}:ye P t c lo hi mx K ⟨⟩=zpc P t c (uH lo) (uH hi) (uH mx) K ⟨⟩:=(rfl)
theorem zqA {lo hi mx:Option Int}:zpc P t c (some lo) (some hi) (some mx) K ⟨⟩=zmU P (lay P t) c lo hi mx K ⟨⟩:=(rfl)
theorem zbL:uH none=some none:=(rfl)
theorem zdJ {k:IntKind} {n:Int}:uH (some (.sc (.int k n)))=some (some n):=(rfl)
theorem zgR {s b:Nat} {z1:Option (List Value)} {l:List UInt8} {lo hi:Option Int}:zmU P (some ⟨.str,s,b,z1⟩) (.str l) lo hi none K ⟨⟩=(jD l.length lo hi/\K (.str (cut l lo hi))):=(rfl)
theorem zcr {e s b:Nat} {z1:Option (List Value)} {lo hi mx:Option Int}:zmU P (some ⟨.slice e,s,b,z1⟩) c lo hi mx K ⟨⟩=zdo (lay P e) c lo hi mx K ⟨⟩:=(rfl)
theorem zpH {rows:List (List C)} {k:Nat} {lo hi:Option Int}:zh1 (some rows) k lo hi none K ⟨⟩=(jD rows.length lo hi/\K (.sl k (cut rows lo hi))):=(rfl)
theorem zqa {rows:List (List C)} {k:Nat} {lo:Option Int} {h m:Int}:zh1 (some rows) k lo (some h) (some m) K ⟨⟩=(m=h/\jD rows.length lo (some h)/\K (.tight k (cut rows lo (some h)))):=(rfl)
theorem zhB {α:Type} {l:List α} {a:Int}:cut l (some a) none=l.drop a.toNat:=(rfl)
theorem zi1 {α:Type} {l:List α} {b:Int}:cut l none (some b)=l.take b.toNat:=(rfl)
theorem ziH {α:Type} {l:List α} {a b:Int}:cut l (some a) (some b)=(l.take b.toNat).drop a.toNat:=(rfl)
theorem zbZ {n:Nat} {a:Int}:jD n (some a) none=(0<=a/\a<=(n:Int)):=(rfl)
theorem zaD {n:Nat} {b:Int}:jD n none (some b)=(0<=b/\b<=(n:Int)):=(rfl)
theorem zbW {n:Nat} {a b:Int}:jD n (some a) (some b)=(0<=a/\a<=b/\b<=(n:Int)):=(rfl)
theorem zdg {k:Nat} {rows:List (List C)}:C.rows? k (.sl k rows)=some rows:=(show C.rows? k (.sl k rows)=some rows from by simp[C.rows?])
theorem za9 {id e:Nat} {k:Nat} {rows:List (List C)}:C.rows? k (.own id e k rows)=some rows:=(show C.rows? k (.own id e k rows)=some rows from by simp[C.rows?])
theorem zqr:zfU P t t' c K ⟨⟩=ziq P (lay P t') (lay P t) c K ⟨⟩:=(rfl)
theorem zcs {k k0:IntKind} {n:Int} {s b:Nat} {z1:Option (List Value)} {L:Lay}:ziq P (some ⟨.int k,s,b,z1⟩) (some L) (.sc (.int k0 n)) K ⟨⟩=(inR k n/\K (.sc (.int k n))):=(rfl)
theorem zgP {s b s2 b2:Nat} {z1 z2:Option (List Value)} {k k0:IntKind} {n:Int}:ziq P (some ⟨.str,s,b,z1⟩) (some ⟨.int k,s2,b2,z2⟩) (.sc (.int k0 n)) K ⟨⟩=K (.str (Utf8.encode n).data.toList):=(rfl)
theorem zhR {e s b s2 b2:Nat} {z1 z2:Option (List Value)}:ziq P (some ⟨.str,s,b,z1⟩) (some ⟨.slice e,s2,b2,z2⟩) c K ⟨⟩=zpi (lay P e) c K ⟨⟩:=(rfl)
theorem zfv {s b:Nat} {z1:Option (List Value)}:zpi (some ⟨.int .u8,s,b,z1⟩) c K ⟨⟩=zmq (c.rows? 1) K ⟨⟩:=(rfl)
theorem zd0 {l:List UInt8}:yI P t (.str l) K ⟨⟩=zj6 (lay P t) (l.length:Int) K ⟨⟩:=(rfl)
theorem zht {k:Nat} {rows:List (List C)}:yI P t (.sl k rows) K ⟨⟩=xd (lay P t) (rows.length:Int) K ⟨⟩:=(rfl)
theorem zdn {id e:Nat} {k:Nat} {rows:List (List C)}:yI P t (.own id e k rows) K ⟨⟩=xd (lay P t) (rows.length:Int) K ⟨⟩:=(rfl)
theorem zgC:yI P t (.sc (.slice none 0 0)) K ⟨⟩=xd (lay P t) 0 K ⟨⟩:=(rfl)
theorem zql {e s b:Nat} {z1:Option (List Value)} {n:Int}:xd (some ⟨.slice e,s,b,z1⟩) n K ⟨⟩=K (.sc (.int .i64 n)):=(rfl)
theorem znY {s b:Nat} {z1:Option (List Value)} {n:Int}:zj6 (some ⟨.str,s,b,z1⟩) n K ⟨⟩=K (.sc (.int .i64 n)):=(rfl)
theorem zlr {ps:List (Nat×C)}:vh P t ps K ⟨⟩=zpv (lay P t) ps K ⟨⟩:=(rfl)
theorem zhz {fs:List (Nat×Nat×Bool)} {s b:Nat} {z1:List Value} {ps:List (Nat×C)}:zpv (some ⟨.struct fs,s,b,some z1⟩) ps K ⟨⟩=((ps.all fun p=>p.2.partB)=true/\zr9 (YG (plS fs) (z1.map zy) ps) K ⟨⟩):=(show zrO (some ⟨.struct fs,s,b,some z1⟩) ps K=((ps.all fun p=>p.2.partB)=true/\aFl (YG (plS fs) (z1.map zy) ps) K) from by unfold zrO aFl;simp only[];rfl)
theorem zsx {cs:List C}:zr9 (some cs) K ⟨⟩=K (.agg cs):=(rfl)
theorem zkP {place:Nat->Option (Nat×Nat)} {cs:List C}:YG place cs []=some cs:=(rfl)
theorem zoh {place:Nat->Option (Nat×Nat)} {cs:List C} {i:Nat} {rest:List (Nat×C)}:YG place cs ((i,c) :: rest)=zj4 (place i) place cs c.cells rest:=(rfl)
theorem zmJ {place:Nat->Option (Nat×Nat)} {cs l:List C} {off size:Nat} {rest:List (Nat×C)}:zj4 (some (off,size)) place cs l rest=(if l.length=size/\off+size<=cs.length then YG place (cs.take off++l++cs.drop (off+size)) rest else none):=(rfl)
theorem zrF {fs:List (Nat×Nat×Bool)} {i:Nat}:plS fs i=(fs[i]?).map fun f=>(f.1,f.2.1):=(rfl)
theorem zrc {k i:Nat}:plA k i=some (i*k,k):=(rfl)
theorem zsQ {n:Nat} {ps:List (Nat×C)}:XJ P t n ps nx K2 ⟨⟩=zpG P (lay P t) n ps nx K2 ⟨⟩:=(rfl)
theorem zqK {e s b n:Nat} {z1:Option (List Value)} {ps:List (Nat×C)}:zpG P (some ⟨.slice e,s,b,z1⟩) n ps nx K2 ⟨⟩=zpM (lay P e) e n ps nx K2 ⟨⟩:=(rfl)
theorem zqB {kd:LK} {k b e n:Nat} {z1:List Value} {ps:List (Nat×C)}:zpM (some ⟨kd,k,b,some z1⟩) e n ps nx K2 ⟨⟩=(z1.length=k/\0<k/\n*k<=16777216/\(ps.all fun p=>p.2.frz.partB)=true/\zpD (YG (plA k) (List.replicate n (z1.map zy)).flatten (ps.map fun p=>(p.1,p.2.frz))) e k n nx K2 ⟨⟩):=(rfl)
theorem zrn {cs:List C} {e k n:Nat}:zpD (some cs) e k n nx K2 ⟨⟩=((cs.all C.cellB)=true/\cs.length=n*k/\K2 (.own nx e k (Qc k n cs)) (nx+1)):=(rfl)
theorem zrq:xb P t c d ⟨tm,bx,nx,lg⟩ K3 ⟨⟩=zkd P (lay P t) c d ⟨tm,bx,nx,lg⟩ K3 ⟨⟩:=(rfl)
theorem zog {e s b:Nat} {z1:Option (List Value)} {k k2:IntKind} {l m:Int}:zkd P (some ⟨.slice e,s,b,z1⟩) (.sc (.int k l)) (.sc (.int k2 m)) ⟨tm,bx,nx,lg⟩ K3 ⟨⟩=zkc (lay P e) l m ⟨tm,bx,nx,lg⟩ K3 ⟨⟩:=(rfl)
theorem znU {kd:LK} {k b:Nat} {z1:List Value} {l m:Int}:zkc (some ⟨kd,k,b,some z1⟩) l m ⟨tm,bx,nx,lg⟩ K3 ⟨⟩=(z1.length=k/\0<k/\(z1.all Value.oneCell')=true/\0<=l/\l<=m/\(b:Int)*m<=281474976710656/\m<=9223372036854775807/\K3 (.bs bx.length 0 k l.toNat m.toNat) ⟨tm,bx++[(List.replicate m.toNat (z1.map zy)).flatten],nx,lg⟩):=(rfl)
theorem zs7:zkz P t c d nx K2 ⟨⟩=zoW P (lay P t) c d nx K2 ⟨⟩:=(rfl)
theorem zrS {e s b:Nat} {z1:Option (List Value)} {k k2:IntKind} {l m:Int}:zoW P (some ⟨.slice e,s,b,z1⟩) (.sc (.int k l)) (.sc (.int k2 m)) nx K2 ⟨⟩=zpB (lay P e) e l m nx K2 ⟨⟩:=(rfl)
theorem zrV {kd:LK} {k b e:Nat} {z1:List Value} {l m:Int}:zpB (some ⟨kd,k,b,some z1⟩) e l m nx K2 ⟨⟩=(z1.length=k/\0<k/\(z1.all Value.oneCell')=true/\0<=l/\l<=m/\(b:Int)*m<=281474976710656/\m<=9223372036854775807/\K2 (.own nx e k (List.replicate l.toNat (z1.map zy))) (nx+1)):=(rfl)
theorem zd3 {id e k:Nat} {rows:List (List C)}:HH P t (.own id e k rows) d ⟨tm,bx,nx,lg⟩ K3 ⟨⟩=znM P (lay P t) id e k rows d ⟨tm,bx,nx,lg⟩ K3 ⟨⟩:=(rfl)
theorem zd7:HH P t (.sc (.slice none 0 0)) d ⟨tm,bx,nx,lg⟩ K3 ⟨⟩=HR P t (.sc (.slice none 0 0)) d nx (fun c nx'=>K3 c ⟨tm,bx,nx',lg⟩) ⟨⟩:=(rfl)
theorem zoq:HR P t c d nx K2 ⟨⟩=zoM P (lay P t) c d nx K2 ⟨⟩:=(rfl)
theorem zr0 {e s b:Nat} {z1:Option (List Value)}:zoM P (some ⟨.slice e,s,b,z1⟩) c d nx K2 ⟨⟩=znI (lay P e) e c d nx K2 ⟨⟩:=(rfl)
theorem zrH {kd:LK} {k b e:Nat} {z1:List Value}:znI (some ⟨kd,k,b,some z1⟩) e c d nx K2 ⟨⟩=zmt (d.rows? k) c e k b z1 nx K2 ⟨⟩:=(rfl)
theorem znZ {k b e:Nat} {z1:List Value} {xs:List (List C)}:zmt (some xs) (.sc (.slice none 0 0)) e k b z1 nx K2 ⟨⟩=(z1.length=k/\0<k/\xs.length<=9223372036854775807/\xs.length*b<=140737488355328/\K2 (.own nx e k xs) (nx+1)):=(rfl)
theorem zpO {k k0 b e:Nat} {z1:List Value} {xs rows:List (List C)}:zmt (some xs) (.tight k0 rows) e k b z1 nx K2 ⟨⟩=(k0=k/\z1.length=k/\0<k/\rows.length+xs.length<=9223372036854775807/\(rows.length+xs.length)*b<=140737488355328/\(xs = []->K2 (.tight k0 rows) nx)/\(¬xs = []->K2 (.own nx e k (rows++xs)) (nx+1))):=(rfl)
theorem zhZ {a b:Nat} (h:Nat.ble a b=true):a<=b:=Nat.le_of_ble_eq_true h
theorem lS:(∀ {α:Type} (a b:List α),(a++b).length=a.length+b.length)/\(∀ {α:Type} (a:α) (b:List α),(a :: b).length=b.length+1)/\(∀ {α:Type},([]:List α).length=0)/\(∀ {α β:Type} (f:α->β) (l:List α),(l.map f).length=l.length)/\(∀ {α:Type} (n:Nat) (l:List α),(l.take n).length=min n l.length)/\∀ {α:Type} (n:Nat) (l:List α),(l.drop n).length=l.length-n:=⟨fun _ _=>List.length_append,fun _ _=>List.length_cons,List.length_nil,fun _ _=>List.length_map _,fun _ _=>List.length_take,fun _ _=>List.length_drop⟩
theorem zrg {α:Type} {x:α} {l:List α}:((x :: l) = [])=False:=by simp
theorem zsS {p:Prop}:(True->p)=p:=by simp
theorem zsp {p:Prop}:(False->p)=True:=by simp
theorem zs1:(¬False)=True:=by simp
theorem zrU {e0 s b id e k:Nat} {z1:Option (List Value)} {rows:List (List C)}:znM P (some ⟨.slice e0,s,b,z1⟩) id e k rows c σ K3 ⟨⟩=zod (lay P e) e0 id e k rows c σ K3 ⟨⟩:=(rfl)
theorem zrK {kd:LK} {k0 b e0 id e k:Nat} {z1:List Value} {rows:List (List C)}:zod (some ⟨kd,k0,b,some z1⟩) e0 id e k rows c σ K3 ⟨⟩=(e0=e/\k0=k/\z1.length=k/\0<k/\zp0 (c.rows? k) b id e k rows σ K3 ⟨⟩):=(show zry (some ⟨kd,k0,b,some z1⟩) e0 id e k rows c σ K3=(e0=e/\k0=k/\z1.length=k/\0<k/\zrD (c.rows? k) b id e k rows σ K3) from by unfold zry zrD;simp only[];cases c.rows? k<;>simp)
theorem zqJ {xs rows:List (List C)} {b id e k:Nat}:zp0 (some xs) b id e k rows ⟨tm,bx,nx,lg⟩ K3 ⟨⟩=(rows.length+xs.length<=9223372036854775807/\(rows.length+xs.length)*b<=140737488355328/\K3 (.own id e k (rows++xs)) ⟨zaU id tm,xy id bx,nx,lg⟩):=(rfl)
theorem zmL {f:FuncId} {fs cs args:List C}:vi P G h (.clo (.func f) fs cs) args ⟨tm,bx,nx,lg⟩ K3 ⟨⟩ ⟨⟩=Qr P G f (fs++args++cs) (C.frzL (fs++args++cs)) ⟨tm,bx,nx,lg⟩ K3 ⟨⟩:=(rfl)
theorem zmy {l:Nat} {items:List (List C)} {sf:Nat->Bool} {args:List C}:vi P G ⟨p,some ⟨l,items,sf⟩,bf⟩ (.sc (.func (.yield l) #[] #[])) args ⟨tm,bx,nx,lg⟩ K3 ⟨⟩ ⟨⟩=uk ⟨l,items,sf⟩ (items[lg]?) args ⟨tm,bx,nx,lg⟩ K3 ⟨⟩ ⟨⟩:=(show xp P G ⟨p,some ⟨l,items,sf⟩,bf⟩ (.sc (.func (.yield l) #[] #[])) args ⟨tm,bx,nx,lg⟩ K3=GF ⟨l,items,sf⟩ (items[lg]?) args ⟨tm,bx,nx,lg⟩ K3 from by simp[xp,zal])
theorem zic {l:Nat} {items:List (List C)} {sf:Nat->Bool} {args it:List C}:uk ⟨l,items,sf⟩ (some it) args ⟨tm,bx,nx,lg⟩ K3 ⟨⟩ ⟨⟩=(zd [] 0 args it/\(∀ j,j<lg->sf j=false)/\K3 (.sc (.bool (!sf lg))) ⟨tm,bx,nx,lg+1⟩):=(rfl)
theorem znT {ι:List Nat} {j:Nat}:upB ι m j=match ι[j]? with | some i=>some i | none=>some (m+(j-ι.length)):=(rfl)
theorem zrx {j:Nat}:upO nx j=some (nx+j):=(rfl)
theorem zrd {i:Nat}:Xn [] i=none:=(rfl)
theorem zq8 {x1 i:Nat} {r:List Nat}:Xn (x1 :: r) i=if i=x1 then some 0 else (Xn r i).map (·+1):=(rfl)
theorem zlv {fp fo:Nat->Option Nat}:k9 fp fo [] = []:=(rfl)
theorem zp3 {fp fo:Nat->Option Nat} {u:Nat} {r:List (Nat×C)}:k9 fp fo ((u,c) :: r)=(u,c.re fp fo) :: k9 fp fo r:=(rfl)
theorem zk4 {fp fo:Nat->Option Nat}:Nf fp fo [] = []:=(rfl)
theorem zn1 {fp fo:Nat->Option Nat} {cs:List C} {r:List (List C)}:Nf fp fo (cs :: r)=C.reL fp fo cs :: Nf fp fo r:=(rfl)
theorem zi2 {l:List (List C)}:Z1 [] l bx=bx:=(rfl)
theorem zhP {i:Nat} {ι:List Nat} {cs:List C} {r:List (List C)}:Z1 (i :: ι) (cs :: r) bx=Z1 ι r (bx.set i cs):=(rfl)
theorem zi8 {ι κ:List Nat} {n:Nat}:Zo ι κ bx' n ⟨tm,bx,nx,lg⟩=⟨k9 some (QQ κ) tm,Z1 ι (Nf (upB ι bx.length) (upO nx) bx') (Nf some (QQ κ) bx)++Nf (upB ι bx.length) (upO nx) (bx'.drop ι.length),nx+n,lg⟩:=(rfl)
theorem zlz {κ:List Nat} {i:Nat}:QQ κ i=if i∈κ then none else some i:=(rfl)
theorem zhl {i:Nat}:Hs m i=if i<m then some i else none:=(rfl)
theorem ziA {i:Nat}:YK m i=if i<m then none else some (i-m):=(rfl)
theorem zlY {f:FuncId} {fs cs args:List C}:zfS P G (.clo (.func f) fs cs) args nx K2 ⟨⟩=vk P G f (C.frzL (fs++args++cs)) nx K2 ⟨⟩:=(rfl)
theorem zrW {kd:LK} {s b:Nat} {z1:List Value}:zpZ (some ⟨kd,s,b,some z1⟩) ⟨tm,bx,nx,lg⟩ K3 ⟨⟩=((z1.all Value.oneCell')=true/\K3 (.ptr bx.length 0) ⟨tm,bx++[z1.map zy],nx,lg⟩):=(rfl)
theorem zrA:zp9 c ⟨tm,bx,nx,lg⟩ K3 ⟨⟩=(c.partB=true/\(c.cells.all C.cellB)=true/\K3 (.ptr bx.length 0) ⟨tm,bx++[c.cells],nx,lg⟩):=(rfl)
theorem zqU {L:Lay} {i off:Nat}:zpK (some L) (.ptr i off) c ⟨tm,bx,nx,lg⟩ K3 ⟨⟩=znO (bx[i]?) i off L.size c ⟨tm,bx,nx,lg⟩ K3 ⟨⟩:=(rfl)
theorem zrE {cs:List C} {i off size:Nat}:znO (some cs) i off size c ⟨tm,bx,nx,lg⟩ K3 ⟨⟩=(c.partB=true/\(c.cells.all C.cellB)=true/\c.cells.length=size/\off+size<=cs.length/\K3 .any ⟨tm,bx.set i (cs.take off++c.cells++cs.drop (off+size)),nx,lg⟩):=(rfl)
theorem zh8 {v:Value}:C.frz (.sc v) = .sc v:=(show C.frz (.sc v) = .sc v from by rw[C.frz])
theorem zl1 {v:Value} {id:Nat}:C.dg id (.sc v) = .sc v:=(show C.dg id (.sc v) = .sc v from by rw[C.dg])
theorem zkM {v:Value} {n:Nat}:C.sh n (.sc v) = .sc v:=(show C.sh n (.sc v) = .sc v from by rw[C.sh])
theorem zfs {l:List UInt8}:C.frz (.str l) = .str l:=(show C.frz (.str l) = .str l from by rw[C.frz])
theorem zia {l:List UInt8} {id:Nat}:C.dg id (.str l) = .str l:=(show C.dg id (.str l) = .str l from by rw[C.dg])
theorem zie {l:List UInt8} {n:Nat}:C.sh n (.str l) = .str l:=(show C.sh n (.str l) = .str l from by rw[C.sh])
theorem zhI {k:Nat} {rows:List (List C)}:C.frz (.sl k rows) = .sl k rows:=(show C.frz (.sl k rows) = .sl k rows from by rw[C.frz])
theorem zkV {k:Nat} {rows:List (List C)} {id:Nat}:C.dg id (.sl k rows) = .sl k rows:=(show C.dg id (.sl k rows) = .sl k rows from by rw[C.dg])
theorem zma {k:Nat} {rows:List (List C)} {n:Nat}:C.sh n (.sl k rows) = .sl k rows:=(show C.sh n (.sl k rows) = .sl k rows from by rw[C.sh])
theorem vb {k:Nat} {rows:List (List C)}:C.frz (.tight k rows) = .tight k rows:=(show C.frz (.tight k rows) = .tight k rows from by rw[C.frz])
theorem zfO {cs:List C}:C.frz (.row cs) = .row cs:=(show C.frz (.row cs) = .row cs from by rw[C.frz])
theorem zjD {cs:List C} {id:Nat}:C.dg id (.row cs) = .row cs:=(show C.dg id (.row cs) = .row cs from by rw[C.dg])
theorem ziw {cs:List C} {n:Nat}:C.sh n (.row cs) = .row cs:=(show C.sh n (.row cs) = .row cs from by rw[C.sh])
theorem zhQ {id:Nat}:C.dg id (.any) = .any:=(show C.dg id (.any) = .any from by rw[C.dg])
theorem zgW {n:Nat}:C.sh n (.any) = .any:=(show C.sh n (.any) = .any from by rw[C.sh])
theorem zmd {i:Nat} {t2:TypeId} {ks:MK} {vs:List C} {n:Nat}:C.sh n (.mo i t2 ks vs) = .mo (n+i) t2 ks vs:=(show C.sh n (.mo i t2 ks vs) = .mo (n+i) t2 ks vs from by rw[C.sh])
theorem zle {i:Nat} {t2:TypeId} {ks:MK} {vs:List C}:C.fz bx (.mo i t2 ks vs) = .mo i t2 ks vs:=(show C.fz bx (.mo i t2 ks vs) = .mo i t2 ks vs from by rw[C.fz])
theorem zmi {v:Value} {id:Nat} {ks1:MK} {vs1:List C}:C.up id ks1 vs1 (.sc v) = .sc v:=(show C.up id ks1 vs1 (.sc v) = .sc v from by rw[C.up])
theorem zlk {i:Nat} {t2:TypeId} {ks:MK} {vs:List C} {id:Nat} {ks1:MK} {vs1:List C}:C.up id ks1 vs1 (.mo i t2 ks vs)=if i=id then .mo i t2 ks1 vs1 else .mo i t2 ks vs:=(show C.up id ks1 vs1 (.mo i t2 ks vs)=if i=id then .mo i t2 ks1 vs1 else .mo i t2 ks vs from by rw[C.up])
theorem zay {id:Nat} {ks1:MK} {vs1:List C}:zgI id ks1 vs1 [] = []:=(rfl)
theorem zqi {u:Nat} {r:List (Nat×C)} {id:Nat} {ks1:MK} {vs1:List C}:zgI id ks1 vs1 ((u,c) :: r)=(u,c.up id ks1 vs1) :: zgI id ks1 vs1 r:=(rfl)
theorem zbT {id:Nat} {ks1:MK} {vs1:List C}:zgr id ks1 vs1 [] = []:=(rfl)
theorem zfT {id e k:Nat} {rows:List (List C)}:C.frz (.own id e k rows) = .sl k rows:=(show C.frz (.own id e k rows) = .sl k rows from by rw[C.frz])
theorem zfo {i off:Nat}:C.frz (.ptr i off) = .any:=(show C.frz (.ptr i off) = .any from by rw[C.frz])
theorem ziM {id i off:Nat}:C.dg id (.ptr i off) = .ptr i off:=(show C.dg id (.ptr i off) = .ptr i off from by rw[C.dg])
theorem zjk {id i e k:Nat} {rows:List (List C)}:C.dg id (.own i e k rows)=if i=id then .sl k rows else .own i e k rows:=(show C.dg id (.own i e k rows)=if i=id then .sl k rows else .own i e k rows from by rw[C.dg])
theorem zjL {n i e k:Nat} {rows:List (List C)}:C.sh n (.own i e k rows) = .own (n+i) e k rows:=(show C.sh n (.own i e k rows) = .own (n+i) e k rows from by rw[C.sh])
theorem zlo {v:Value} {fp fo:Nat->Option Nat}:C.re fp fo (.sc v) = .sc v:=(show C.re fp fo (.sc v) = .sc v from by rw[C.re])
theorem zi0 {v:Value} {fp:Nat->Option Nat}:C.sel fp (.sc v) = .sc v:=(show C.sel fp (.sc v) = .sc v from by rw[C.sel])
theorem zhq {l:List UInt8} {fp fo:Nat->Option Nat}:C.re fp fo (.str l) = .str l:=(show C.re fp fo (.str l) = .str l from by rw[C.re])
theorem zgf {l:List UInt8} {fp:Nat->Option Nat}:C.sel fp (.str l) = .str l:=(show C.sel fp (.str l) = .str l from by rw[C.sel])
theorem zlx {k:Nat} {rows:List (List C)} {fp fo:Nat->Option Nat}:C.re fp fo (.sl k rows) = .sl k rows:=(show C.re fp fo (.sl k rows) = .sl k rows from by rw[C.re])
theorem zjP {k:Nat} {rows:List (List C)} {fp:Nat->Option Nat}:C.sel fp (.sl k rows) = .sl k rows:=(show C.sel fp (.sl k rows) = .sl k rows from by rw[C.sel])
theorem zaY {k:Nat} {rows:List (List C)} {fp fo:Nat->Option Nat}:C.re fp fo (.tight k rows) = .tight k rows:=(show C.re fp fo (.tight k rows) = .tight k rows from by rw[C.re])
theorem zjm {cs:List C} {fp fo:Nat->Option Nat}:C.re fp fo (.row cs) = .row cs:=(show C.re fp fo (.row cs) = .row cs from by rw[C.re])
theorem zdQ {cs:List C} {fp:Nat->Option Nat}:C.sel fp (.row cs) = .row cs:=(show C.sel fp (.row cs) = .row cs from by rw[C.sel])
theorem zhK {fp fo:Nat->Option Nat}:C.re fp fo (.any) = .any:=(show C.re fp fo (.any) = .any from by rw[C.re])
theorem zlc {v:Value}:C.fz bx (.sc v) = .sc v:=(show C.fz bx (.sc v) = .sc v from by rw[C.fz])
theorem zjq {l:List UInt8}:C.fz bx (.str l) = .str l:=(show C.fz bx (.str l) = .str l from by rw[C.fz])
theorem zmx {k:Nat} {rows:List (List C)}:C.fz bx (.sl k rows) = .sl k rows:=(show C.fz bx (.sl k rows) = .sl k rows from by rw[C.fz])
theorem zjA {id e k:Nat} {rows:List (List C)}:C.fz bx (.own id e k rows) = .own id e k rows:=(show C.fz bx (.own id e k rows) = .own id e k rows from by rw[C.fz])
theorem ziZ {cs:List C}:C.fz bx (.row cs) = .row cs:=(show C.fz bx (.row cs) = .row cs from by rw[C.fz])
theorem zhF {i off:Nat}:C.fz bx (.ptr i off)=zru (bx[i]?) off:=(show C.fz bx (.ptr i off)=zru (bx[i]?) off from by rw[C.fz];rfl)
theorem zmo {off:Nat} {cs:List C}:zru (some cs) off = .row ((C.frzL cs).drop off):=(rfl)
theorem zco {f:Fn} {a b:Array Value}:Value.oneCell' (.func f a b)=true:=(rfl)
theorem zjR {id e k:Nat} {rows:List (List C)} {fp fo:Nat->Option Nat}:C.re fp fo (.own id e k rows)=zqw (fo id) e k rows:=(show C.re fp fo (.own id e k rows)=zqw (fo id) e k rows from by rw[C.re];rfl)
theorem zju {i off:Nat} {fp fo:Nat->Option Nat}:C.re fp fo (.ptr i off)=znx (fp i) off:=(show C.re fp fo (.ptr i off)=znx (fp i) off from by rw[C.re];rfl)
theorem ze7 {i off:Nat} {fp:Nat->Option Nat}:C.sel fp (.ptr i off)=znx (fp i) off:=(show C.sel fp (.ptr i off)=znx (fp i) off from by rw[C.sel];rfl)
theorem zmW {j e k:Nat} {rows:List (List C)}:zqw (some j) e k rows = .own j e k rows:=(rfl)
theorem zmh {e k:Nat} {rows:List (List C)}:zqw none e k rows = .sl k rows:=(rfl)
theorem zmP {j off:Nat}:znx (some j) off = .ptr j off:=(rfl)
theorem zk7 {off:Nat}:znx none off = .any:=(rfl)
theorem zlD {v:Value} {fr:Fr}:C.fy nx fr bx (.sc v) = .sc v:=(show C.fy nx fr bx (.sc v) = .sc v from by rw[C.fy])
theorem zlA {k:Nat} {rows:List (List C)} {fr:Fr}:C.fy nx fr bx (.sl k rows) = .sl k rows:=(show C.fy nx fr bx (.sl k rows) = .sl k rows from by rw[C.fy])
theorem zk9 {i off k n cap:Nat} {fr:Fr}:C.fy nx fr bx (.bs i off k n cap)=VJ nx fr i off k n cap:=(show C.fy nx fr bx (.bs i off k n cap)=VJ nx fr i off k n cap from by rw[C.fy])
theorem zhm {i off k n cap i2 e k2 cap2:Nat} {rows:List (List C)} {r:Fr}:VJ nx ((i2,e,k2,rows,cap2) :: r) i off k n cap=if i=i2/\off=0/\k=k2/\n=rows.length/\cap=cap2 then .own nx e k2 rows else VJ (nx+1) r i off k n cap:=(show VJ nx ((i2,e,k2,rows,cap2) :: r) i off k n cap=if i=i2/\off=0/\k=k2/\n=rows.length/\cap=cap2 then .own nx e k2 rows else VJ (nx+1) r i off k n cap from by rw[VJ])
theorem zhy {cs:List C} {fp fo:Nat->Option Nat}:C.re fp fo (.agg cs) = .agg (C.reL fp fo cs):=(show C.re fp fo (.agg cs) = .agg (C.reL fp fo cs) from by rw[C.re])
theorem zh5 {cs:List C} {fp fo:Nat->Option Nat}:C.re fp fo (.tup cs) = .tup (C.reL fp fo cs):=(show C.re fp fo (.tup cs) = .tup (C.reL fp fo cs) from by rw[C.re])
theorem ziO {fn:Fn} {fs cs:List C} {fp fo:Nat->Option Nat}:C.re fp fo (.clo fn fs cs) = .clo fn (C.reL fp fo fs) (C.reL fp fo cs):=(show C.re fp fo (.clo fn fs cs) = .clo fn (C.reL fp fo fs) (C.reL fp fo cs) from by rw[C.re])
theorem zec {fp fo:Nat->Option Nat}:C.reL fp fo [] = []:=(show C.reL fp fo [] = [] from by rw[C.reL])
theorem zaC {r:List C} {fp fo:Nat->Option Nat}:C.reL fp fo (c :: r)=C.re fp fo c :: C.reL fp fo r:=(show C.reL fp fo (c :: r)=C.re fp fo c :: C.reL fp fo r from by rw[C.reL])
theorem zgl {cs:List C} {fp:Nat->Option Nat}:C.sel fp (.agg cs) = .agg (C.selL fp cs):=(show C.sel fp (.agg cs) = .agg (C.selL fp cs) from by rw[C.sel])
theorem zd6 {fn:Fn} {fs cs:List C} {fp:Nat->Option Nat}:C.sel fp (.clo fn fs cs) = .clo fn (C.selL fp fs) (C.selL fp cs):=(show C.sel fp (.clo fn fs cs) = .clo fn (C.selL fp fs) (C.selL fp cs) from by rw[C.sel])
theorem za8 {fp:Nat->Option Nat}:C.selL fp [] = []:=(show C.selL fp [] = [] from by rw[C.selL])
theorem yn {r:List C} {fp:Nat->Option Nat}:C.selL fp (c :: r)=C.sel fp c :: C.selL fp r:=(show C.selL fp (c :: r)=C.sel fp c :: C.selL fp r from by rw[C.selL])
theorem zjW {cs:List C} :C.fz bx (.agg cs) = .agg (C.fzL bx cs):=(show C.fz bx (.agg cs) = .agg (C.fzL bx cs) from by rw[C.fz])
theorem zjN {cs:List C} :C.fz bx (.tup cs) = .tup (C.fzL bx cs):=(show C.fz bx (.tup cs) = .tup (C.fzL bx cs) from by rw[C.fz])
theorem zi7 {fn:Fn} {fs cs:List C} :C.fz bx (.clo fn fs cs) = .clo fn (C.fzL bx fs) (C.fzL bx cs):=(show C.fz bx (.clo fn fs cs) = .clo fn (C.fzL bx fs) (C.fzL bx cs) from by rw[C.fz])
theorem zfn:C.fzL bx [] = []:=(show C.fzL bx [] = [] from by rw[C.fzL])
theorem zaE {r:List C} :C.fzL bx (c :: r)=C.fz bx c :: C.fzL bx r:=(show C.fzL bx (c :: r)=C.fz bx c :: C.fzL bx r from by rw[C.fzL])
theorem zhw {cs:List C} {fr:Fr}:C.fy nx fr bx (.agg cs) = .agg (C.fyL nx fr bx cs):=(show C.fy nx fr bx (.agg cs) = .agg (C.fyL nx fr bx cs) from by rw[C.fy])
theorem zhU {cs:List C} {fr:Fr}:C.fy nx fr bx (.tup cs) = .tup (C.fyL nx fr bx cs):=(show C.fy nx fr bx (.tup cs) = .tup (C.fyL nx fr bx cs) from by rw[C.fy])
theorem zfd {fr:Fr}:C.fyL nx fr bx [] = []:=(show C.fyL nx fr bx [] = [] from by rw[C.fyL])
theorem zaJ {r:List C} {fr:Fr}:C.fyL nx fr bx (c :: r)=C.fy nx fr bx c :: C.fyL nx fr bx r:=(show C.fyL nx fr bx (c :: r)=C.fy nx fr bx c :: C.fyL nx fr bx r from by rw[C.fyL])
theorem ze5 {cs:List C}:C.frz (.agg cs) = .agg (C.frzL cs):=(show C.frz (.agg cs) = .agg (C.frzL cs) from by rw[C.frz])
theorem zeM {fn:Fn} {fs cs:List C}:C.frz (.clo fn fs cs) = .clo fn (C.frzL fs) (C.frzL cs):=(show C.frz (.clo fn fs cs) = .clo fn (C.frzL fs) (C.frzL cs) from by rw[C.frz])
theorem zbd:C.frzL [] = []:=(show C.frzL [] = [] from by rw[C.frzL])
theorem yB {r:List C}:C.frzL (c :: r)=C.frz c :: C.frzL r:=(show C.frzL (c :: r)=C.frz c :: C.frzL r from by rw[C.frzL])
theorem zhi {cs:List C} {id:Nat}:C.dg id (.agg cs) = .agg (C.dgL id cs):=(show C.dg id (.agg cs) = .agg (C.dgL id cs) from by rw[C.dg])
theorem zjx {cs:List C} {id:Nat}:C.dg id (.tup cs) = .tup (C.dgL id cs):=(show C.dg id (.tup cs) = .tup (C.dgL id cs) from by rw[C.dg])
theorem zjy {fn:Fn} {fs cs:List C} {id:Nat}:C.dg id (.clo fn fs cs) = .clo fn (C.dgL id fs) (C.dgL id cs):=(show C.dg id (.clo fn fs cs) = .clo fn (C.dgL id fs) (C.dgL id cs) from by rw[C.dg])
theorem zde {id:Nat}:C.dgL id [] = []:=(show C.dgL id [] = [] from by rw[C.dgL])
theorem zbn {r:List C} {id:Nat}:C.dgL id (c :: r)=C.dg id c :: C.dgL id r:=(show C.dgL id (c :: r)=C.dg id c :: C.dgL id r from by rw[C.dgL])
theorem zh0 {cs:List C} {n:Nat}:C.sh n (.agg cs) = .agg (C.shL n cs):=(show C.sh n (.agg cs) = .agg (C.shL n cs) from by rw[C.sh])
theorem ziI {cs:List C} {n:Nat}:C.sh n (.tup cs) = .tup (C.shL n cs):=(show C.sh n (.tup cs) = .tup (C.shL n cs) from by rw[C.sh])
theorem zgS {fn:Fn} {fs cs:List C} {n:Nat}:C.sh n (.clo fn fs cs) = .clo fn (C.shL n fs) (C.shL n cs):=(show C.sh n (.clo fn fs cs) = .clo fn (C.shL n fs) (C.shL n cs) from by rw[C.sh])
theorem zee {n:Nat}:C.shL n [] = []:=(show C.shL n [] = [] from by rw[C.shL])
theorem zcc {r:List C} {n:Nat}:C.shL n (c :: r)=C.sh n c :: C.shL n r:=(show C.shL n (c :: r)=C.sh n c :: C.shL n r from by rw[C.shL])
theorem zaw {id:Nat}:zaU id [] = []:=(rfl)
theorem zqm {id u:Nat} {r:List (Nat×C)}:zaU id ((u,c) :: r)=(u,c.dg id) :: zaU id r:=(rfl)
theorem za6 {id:Nat}:xy id [] = []:=(rfl)
theorem zoC {id:Nat} {cs:List C} {r:List (List C)}:xy id (cs :: r)=C.dgL id cs :: xy id r:=(rfl)
theorem yJ {l:List UInt8}:C.cellB (.str l)=true:=(rfl)
theorem vq {l:List UInt8}:C.partB (.str l)=true:=(rfl)
theorem vC {l:List UInt8}:C.cells (.str l) = [.str l]:=(rfl)
theorem zbm {k:Nat} {rows:List (List C)}:C.cellB (.sl k rows)=true:=(rfl)
theorem zbE {k:Nat} {rows:List (List C)}:C.partB (.sl k rows)=true:=(rfl)
theorem zbN {k:Nat} {rows:List (List C)}:C.cells (.sl k rows) = [.sl k rows]:=(rfl)
theorem yr {id e k:Nat} {rows:List (List C)}:C.cellB (.own id e k rows)=true:=(rfl)
theorem yq {id e k:Nat} {rows:List (List C)}:C.partB (.own id e k rows)=true:=(rfl)
theorem yA {id e k:Nat} {rows:List (List C)}:C.cells (.own id e k rows) = [.own id e k rows]:=(rfl)
theorem y6 {fn:Fn} {fs cs:List C}:C.cellB (.clo fn fs cs)=true:=(rfl)
theorem yc {fn:Fn} {fs cs:List C}:C.partB (.clo fn fs cs)=true:=(rfl)
theorem vJ {fn:Fn} {fs cs:List C}:C.cells (.clo fn fs cs) = [.clo fn fs cs]:=(rfl)
theorem zcg {v:Value}:C.cellB (.sc v)=v.oneCell':=(rfl)
theorem zbK {v:Value}:C.partB (.sc v)=v.oneCell':=(rfl)
theorem zbx {v:Value}:C.cells (.sc v) = [.sc v]:=(rfl)
theorem xP {cs:List C}:C.partB (.agg cs)=true:=(rfl)
theorem xQ {cs:List C}:C.cells (.agg cs)=cs:=(rfl)
theorem zdz {k:IntKind} {n:Int}:Value.oneCell' (.int k n)=true:=(rfl)
theorem zaM {b:Bool}:Value.oneCell' (.bool b)=true:=(rfl)
theorem vy {a:Option Addr} {n m:Nat}:Value.oneCell' (.slice a n m)=true:=(rfl)
theorem MX {s:ByteArray}:Value.oneCell' (.string s)=true:=(rfl)
theorem znp {k:Nat} {cs:List C}:Qc k 0 cs = []:=(rfl)
theorem zlC {k n:Nat} {cs:List C}:Qc k (n+1) cs=cs.take k :: Qc k n (cs.drop k):=(rfl)
theorem zkR {i:Nat}:VR i [] = []:=(rfl)
theorem zpy {i:Nat} {r:List C}:VR i (c :: r)=(i,c) :: VR (i+1) r:=(rfl)
theorem zc1:zlg (.sc (.bool true)) X Y ⟨⟩ ⟨⟩=X:=zir
theorem zaQ:zlg (.sc (.bool false)) X Y ⟨⟩ ⟨⟩=Y:=zcB
theorem br {b:Bool} (hx:b=true->X) (hy:b=false->Y):zlg (.sc (.bool b)) X Y ⟨⟩ ⟨⟩:=ABr.mk hx hy
theorem jY {f:FuncId} {args fargs a1:List C} {fbx:List (List C)} {q:Nat} {post:C->List (List C)->Nat->Prop} (ι κ:List Nat) (hf:Xh P G f a1 fbx q post) (hq:κ.length=q) (hι:ι.Nodup) (hκ:κ.Nodup) (hb:∀ i∈ι,i<bx.length)
  (ha:C.reL (Xn ι) (Xn κ) args=a1) (hx:(ι.map fun i=>C.reL (Xn ι) (Xn κ) (bx.getD i []))=fbx) (hK:∀ r fbx' n,post r fbx' n->K3 (r.re (upB ι bx.length) (upO nx)) (Zo ι κ fbx' n ⟨tm,bx,nx,lg⟩)):Qr P G f args fargs ⟨tm,bx,nx,lg⟩ K3 ⟨⟩:=
 .inr <| .inr <| .inr <| .inl ⟨ι,κ,post,hι,hκ,hb,by rw[ha,hq];exact hx▸hf,hK⟩
theorem zla {K4:C->List (List C)->Nat->Prop} {f:FuncId} {args a1:List C} {fbx:List (List C)} {post:C->List (List C)->Nat->Prop} (ι:List Nat) (hf:Xh P G f a1 fbx 0 post) (hι:ι.Nodup) (hb:∀ i∈ι,i<bx.length)
  (ha:C.reL (Xn ι) (Xn []) args=a1) (hx:(ι.map fun i=>C.reL (Xn ι) (Xn []) (bx.getD i []))=fbx) (hK:∀ r fbx' n,post r fbx' n->K4 (r.re (upB ι bx.length) (upO nx)) (Zo ι [] fbx' n ⟨tm,bx,nx,lg⟩).bx (nx+n)):zr4 P G f args ⟨tm,bx,nx,lg⟩ K4 ⟨⟩:=
 ⟨ι,post,hι,hb,by rw[ha];exact hx▸hf,hK⟩
theorem zn0 {f:FuncId} {args fargs:List C} {r:C} (hf:zrj P f args bx r) (hK:K3 r ⟨tm,bx,nx,lg⟩):Qr P G f args fargs ⟨tm,bx,nx,lg⟩ K3 ⟨⟩:=.inr <| .inr <| .inr <| .inr ⟨r,hf,hK⟩
theorem zlf {e s1 b1 k by' m i off n cap:Nat} {kd:LK} {z1 z:Option (List Value)} {xs cs:List C} (hl:lay P t=some ⟨.slice e,s1,b1,z1⟩) (hle:lay P e=some ⟨kd,k,by',z⟩) (hx:d.xs? k bx=some (m,xs)) (hb:bx[i]?=some cs) (hxl:xs.length=m*k) (hfit:off+n*k<=cs.length)
  (hK:K3 (.sc (.int .i64 ((min m n:Nat):Int))) ⟨tm,bx.set i (spl cs off (xs.take (min m n*k))),nx,lg⟩):xf P t (.bs i off k n cap) d ⟨tm,bx,nx,lg⟩ K3 ⟨⟩:=by
 show Qo P t _ _ _ _
 unfold Qo
 simp only[hl,hle,hx,hb]
 exact ⟨trivial,hxl,hfit,hK⟩
theorem zpW {e s1 b1 k by' m:Nat} {c:C} {kd:LK} {z1 z:Option (List Value)} {xs:List C} (hl:lay P t=some ⟨.slice e,s1,b1,z1⟩) (hle:lay P e=some ⟨kd,k,by',z⟩) (hx:d.xs? k bx=some (m,xs)) (hc:c.rows? k=some []) (hb:∀ i off k n c',c≠.bs i off k n c') (hxl:xs.length=m*k)
  (hK:K3 (.sc (.int .i64 0)) ⟨tm,bx,nx,lg⟩):xf P t c d ⟨tm,bx,nx,lg⟩ K3 ⟨⟩:=by
 show Qo P t _ _ _ _
 unfold Qo
 simp only[hl,hle,hx]
 cases c<;>first
  | exact absurd rfl (hb _ _ _ _ _)
  | (simp only[hc];exact ⟨hxl,hK⟩)
theorem zoy {e s1 b1 k by' i off n cap:Nat} {kd:LK} {z1:Option (List Value)} {z:List Value} {cs:List C} (hl:lay P t=some ⟨.slice e,s1,b1,z1⟩) (hle:lay P e=some ⟨kd,k,by',some z⟩) (hb:bx[i]?=some cs) (hz:z.length=k) (hk:0<k) (h1:(z.all Value.oneCell')=true) (hfit:off+n*k<=cs.length)
  (hK:K3 .any ⟨tm,bx.set i (spl cs off (List.replicate n (z.map zy)).flatten),nx,lg⟩):yb P t (.bs i off k n cap) ⟨tm,bx,nx,lg⟩ K3 ⟨⟩:=by
 show Uh P t _ _ _
 unfold Uh
 simp only[hl,hle,hb]
 exact ⟨trivial,hz,hk,h1,hfit,hK⟩
theorem zah {e s1 b1 k by' m:Nat} {kd:LK} {z1:Option (List Value)} {z:List Value} {xs:List C} (hl:lay P t=some ⟨.slice e,s1,b1,z1⟩) (hle:lay P e=some ⟨kd,k,by',some z⟩) (hx:d.xs? k bx=some (m,xs)) (hz:z.length=k) (hk:0<k) (h1:(z.all Value.oneCell')=true) (hxl:xs.length=m*k) (hm:0<m) (h63:m<=9223372036854775807) (hby:m*by'<=140737488355328)
  (hK:∀ cap,m<=cap->cap<=9223372036854775807->K3 (.bs bx.length 0 k m cap) ⟨tm,bx++[xs++List.replicate ((cap-m)*k) .any],nx,lg⟩):Ux P t (.sc (.slice none 0 0)) d ⟨tm,bx,nx,lg⟩ K3 ⟨⟩:=by
 show Jq P t _ _ _ _
 unfold Jq
 simp only[hl,hle,hx]
 exact ⟨hz,hk,h1,hxl,hm,h63,hby,fun c h1 h2=>hK c h1 (by unfold maxLen at h2;omega)⟩
theorem uX {e s1 b1 k by' m:Nat} {kd:LK} {z1:Option (List Value)} {z:List Value} {xs:List C} (hl:lay P t=some ⟨.slice e,s1,b1,z1⟩) (hle:lay P e=some ⟨kd,k,by',some z⟩) (hx:d.xs? k bx=some (m,xs)) (hz:z.length=k) (hk:0<k) (h1:(z.all Value.oneCell')=true) (hxl:xs.length=m*k) (h63:m<=9223372036854775807) (hby:m*by'<=140737488355328)
  (h0:m=0->K3 (.tight k []) ⟨tm,bx,nx,lg⟩) (hK:0<m->∀ cap,m<=cap->cap<=9223372036854775807->K3 (.bs bx.length 0 k m cap) ⟨tm,bx++[xs++List.replicate ((cap-m)*k) .any],nx,lg⟩):Ux P t (.tight k []) d ⟨tm,bx,nx,lg⟩ K3 ⟨⟩:=by
 show Jq P t _ _ _ _
 unfold Jq
 simp only[hl,hle,hx]
 exact ⟨hz,hk,h1,hxl,trivial,h63,hby,h0,fun hm c h1 h2=>hK hm c h1 (by unfold maxLen at h2;omega)⟩
theorem Z7 {e s1 b1 k by' m i off n cap:Nat} {kd:LK} {z1:Option (List Value)} {z:List Value} {xs cs:List C} (hl:lay P t=some ⟨.slice e,s1,b1,z1⟩) (hle:lay P e=some ⟨kd,k,by',some z⟩) (hx:d.xs? k bx=some (m,xs)) (hz:z.length=k) (hk:0<k) (h1:(z.all Value.oneCell')=true) (hxl:xs.length=m*k)
  (hb:bx[i]?=some cs) (hfit:off+cap*k<=cs.length) (hn:n<=cap) (h63:n+m<=9223372036854775807) (hby:(n+m)*by'<=140737488355328)
  (hK1:n+m<=cap->K3 (.bs i off k (n+m) cap) ⟨tm,bx.set i (spl cs (off+n*k) xs),nx,lg⟩)
  (hK2:cap<n+m->∀ c',n+m<=c'->c'<=9223372036854775807->K3 (.bs bx.length 0 k (n+m) c') ⟨tm,bx++[(cs.drop off).take (n*k)++xs++List.replicate ((c'-(n+m))*k) .any],nx,lg⟩):Ux P t (.bs i off k n cap) d ⟨tm,bx,nx,lg⟩ K3 ⟨⟩:=by
 show Jq P t _ _ _ _
 unfold Jq
 simp only[hl,hle,hx,hb]
 exact ⟨hz,hk,h1,hxl,trivial,hfit,hn,h63,hby,hK1,fun h c h1 h2=>hK2 h c h1 (by unfold maxLen at h2;omega)⟩
theorem zcJ {tn e s1 b1 s2 b2 k by':Nat} {kn kq:IntKind} {kd:LK} {z1 z2:Option (List Value)} {z:List Value} {q:Int} (hl:lay P t=some ⟨.slice e,s1,b1,z1⟩) (hln:lay P tn=some ⟨.int kn,s2,b2,z2⟩) (hle:lay P e=some ⟨kd,k,by',some z⟩) (hz:z.length=k) (hk:0<k) (h1:(z.all Value.oneCell')=true)
  (hq:0<q) (h63:q<=9223372036854775807) (hby:q*by'<=140737488355328) (hK:∀ c',q.toNat<=c'->c'<=maxLen->K3 (.bs bx.length 0 k q.toNat c') ⟨tm,bx++[(List.replicate q.toNat (z.map zy)).flatten++List.replicate ((c'-q.toNat)*k) .any],nx,lg⟩) :
  uP P t tn (.sc (.slice none 0 0)) (.sc (.int kq q)) ⟨tm,bx,nx,lg⟩ K3 ⟨⟩:=by
 show Gs P t tn _ _ _ _
 unfold Gs
 simp only[hl,hln,hle]
 exact ⟨hz,hk,h1,hq,h63,hby,hK⟩
theorem zs9 {tn e s1 b1 s2 b2 k by' i off n cap:Nat} {kn kq:IntKind} {kd:LK} {z1 z2:Option (List Value)} {z:List Value} {cs:List C} {q:Int} (hl:lay P t=some ⟨.slice e,s1,b1,z1⟩) (hln:lay P tn=some ⟨.int kn,s2,b2,z2⟩) (hle:lay P e=some ⟨kd,k,by',some z⟩) (hz:z.length=k) (hk:0<k) (h1:(z.all Value.oneCell')=true)
  (hb:bx[i]?=some cs) (hfit:off+cap*k<=cs.length) (hn:n<=cap) (hq:0<q) (h63:(n:Int)+q<=9223372036854775807) (hby:((n:Int)+q)*by'<=140737488355328) (hg:(cap:Int)<n+q)
  (hK:∀ c',n+q.toNat<=c'->c'<=9223372036854775807->K3 (.bs bx.length 0 k (n+q.toNat) c') ⟨tm,bx++[(cs.drop off).take (n*k)++(List.replicate q.toNat (z.map zy)).flatten++List.replicate ((c'-(n+q.toNat))*k) .any],nx,lg⟩):uP P t tn (.bs i off k n cap) (.sc (.int kq q)) ⟨tm,bx,nx,lg⟩ K3 ⟨⟩:=by
 show Gs P t tn _ _ _ _
 unfold Gs
 simp only[hl,hln,hle,hb]
 exact ⟨hz,hk,h1,trivial,hfit,hn,hq,h63,hby,hg,fun c h1 h2=>hK c h1 (by unfold maxLen at h2;omega)⟩
def opB (P:Program) (fn:Func) (code:Code) (b:Nat->List Bool):Bool:=P.follows .mixedOrders&&(!(fn.name == "runtime.NumGoroutine")&&jr fn.ntmps b code)
theorem zp5 {fn:Func} {code:Code} {b:Nat->List Bool} (h:opB P fn code b=true):P.follows .mixedOrders=true:=(Bool.and_eq_true_iff.1 h).1
theorem zn9 {fn:Func} {code:Code} {b:Nat->List Bool} (h:opB P fn code b=true):(fn.name == "runtime.NumGoroutine")=false:=by
 have:=(Bool.and_eq_true_iff.1 (Bool.and_eq_true_iff.1 h).2).1
 simpa using this
theorem zqj {fn:Func} {code:Code} {b:Nat->List Bool} (h:opB P fn code b=true):jr fn.ntmps b code=true:=(Bool.and_eq_true_iff.1 (Bool.and_eq_true_iff.1 h).2).2
theorem foF {f:FuncId} {fn:Func} {code:Code} {args:List C} {r:C} {n:Nat} (b:Nat->List Bool) (hf:P.funcs[f]?=some fn)
  (h:ZX P G ⟨0,none,b⟩ code (MM P fn.results.toList (fun c σ=>∃ (fr:Fr) (src:Src),zbG fr σ.bx/\Qb src=true/\src.length=n/\CLe src 0 (c.fy σ.nx fr σ.bx) r) ⟨⟩) ⟨VR 0 args,[],0,0⟩ ⟨⟩ ⟨⟩) (hb:fn.body=some code:=by rfl) (hN:args.length<=fn.ntmps:=by exact zhZ rfl) (ho:opB P fn code b=true:=by kernel_rfl):Fun P G f args r n:=Fun.of_awpF b (zp5 ho) hf hb (zn9 ho) hN (zqj ho) h
theorem foX {f:FuncId} {fn:Func} {code:Code} {args:List C} {bx:List (List C)} {q:Nat} {post:C->List (List C)->Nat->Prop} (b:Nat->List Bool) (hf:P.funcs[f]?=some fn)
  (h:ZX P G ⟨bx.length,none,b⟩ code (MM P fn.results.toList (fun c σ=>∃ r bx' n,(post r bx' n/\bx.length<=bx'.length)/\∃ src:Src,Qb src=true/\src.length=n/\za src bx'.length σ.bx bx'/\CLe src bx'.length c r) ⟨⟩) ⟨VR 0 args,bx,q,0⟩ ⟨⟩ ⟨⟩) (hb:fn.body=some code:=by rfl) (hN:args.length<=fn.ntmps:=by exact zhZ rfl) (ho:opB P fn code b=true:=by kernel_rfl):Xh P G f args bx q post:=Xh.of_awp b (zp5 ho) hf hb (zn9 ho) hN (zqj ho) h
theorem M4 {f:FuncId} {args fargs:List C} {r:C} {n:Nat} (gargs:List C) (hf:Fun P G f gargs r n) (hr:r.freshB=true) (hl:j7 bx args gargs) (hK:K3 (r.sh nx) ⟨tm,bx,nx+n,lg⟩):Qr P G f args fargs ⟨tm,bx,nx,lg⟩ K3 ⟨⟩:=.inr <| .inr <| .inl ⟨gargs,r,n,hl,hf,hr,hK⟩
theorem call {f:FuncId} {args fargs:List C} {r:C} {n:Nat} (hf:Fun P G f fargs r n) (hK:K3 (r.sh nx) ⟨tm,bx,nx+n,lg⟩):Qr P G f args fargs ⟨tm,bx,nx,lg⟩ K3 ⟨⟩:=.inl ⟨r,n,hf,hK⟩
theorem zar {f:FuncId} {args:List C} {r:C} {n:Nat} (hf:Fun P G f args r n) (hK:K2 (r.sh nx) (nx+n)):vk P G f args nx K2 ⟨⟩:=uC.mk hf hK
theorem Fun.less {f:FuncId} {args args':List C} {r:C} {n:Nat} (hf:Fun P G f args' r n) (hl:zd [] 0 args args'):Fun P G f args r n:=⟨hf.1,fun R vs hg ha=>hf.2 R vs hg (by
 have:=zu.less _ _ _ hl ha
 refine zu.ext (Ext.refl R) ⟨fun i b hb=>?_,fun id x hx=>?_⟩ _ _ this
 ·simp at hb
 ·have hx:Zw [] zE.T id=some x:=hx
  simp[Zw]at hx)⟩
theorem Qz {f:FuncId} {args fargs a1:List C} {fbx fbx':List (List C)} {r:C} {n q:Nat} (ι κ:List Nat) (hf:Mc P G f a1 fbx q r fbx' n) (hq:κ.length=q) (hι:ι.Nodup) (hκ:κ.Nodup) (hb:∀ i∈ι,i<bx.length)
  (ha:C.reL (Xn ι) (Xn κ) args=a1) (hx:(ι.map fun i=>C.reL (Xn ι) (Xn κ) (bx.getD i []))=fbx) (hK:K3 (r.re (upB ι bx.length) (upO nx)) (Zo ι κ fbx' n ⟨tm,bx,nx,lg⟩)):Qr P G f args fargs ⟨tm,bx,nx,lg⟩ K3 ⟨⟩:=
 .inr <| .inl ⟨ι,κ,r,fbx',n,hι,hκ,hb,by rw[ha,hq];exact hx▸hf,hK⟩
theorem range {A B:Nat->(Exit->St->Prop)->St->Prop} {ps:List Tmp} {f:FuncId} {first cap first' cap':List C} {bx':List (List C)} (items:List (List C)) (sf:Nat->Bool) (m:Nat) (I:Nat->St) (hit:xz P G f first' cap' bx' items) (e1:C.selL (YK m) first=first') (e2:C.selL (YK m) cap=cap') (e3:(bx.drop m).map (C.selL (YK m))=bx')
  (hp:p<=m) (hm:m<=bx.length) (hlen:∀ it∈items,it.length=ps.length) (hI:∀ k,k<=items.length->(I k).bx.length=m) (hw:j8 m ⟨[],bx,nx,lg⟩ ((I 0).wt []))
  (hbody:∀ k it,items[k]?=some it->(∀ j,j<k->sf j=false)->A m (zka (B m (yU m (ki m tm) (sf k) (I (k+1)) Q ⟨⟩ ⟨⟩)) ⟨⟩) ((I k).wt (ZQ ps it (ki m tm))))
  (hdone:(∀ j,j<items.length->sf j=false)->Q .normal ((I items.length).wt (ki m tm))):zeG P G p A B Q ps (.clo (.func f) first cap) ⟨tm,bx,nx,lg⟩ ⟨⟩ ⟨⟩ ⟨⟩:=
 ⟨items,sf,m,I,hp,hm,by rw[e1,e2];exact e3▸hit,hlen,hI,hw,hbody,hdone⟩
theorem loop {B:(Exit->St->Prop)->St->Prop} {ι:Type} (I:ι->St) (ok:ι->Prop) (μ:ι->Nat) (i0:ι) (h0:ok i0) (hw:j8 p σ (I i0))
  (hr:∀ i,ok i->B (uN (fun σ'=>∃ j,ok j/\μ j<μ i/\j8 p σ' (I j)) Q ⟨⟩ ⟨⟩) (I i)):zkB p B Q σ ⟨⟩ ⟨⟩:=⟨ι,I,ok,μ,i0,h0,hw,hr⟩
theorem fof {f:FuncId} {fn:Func} {code:Code} {args:List C} {r:C} {n:Nat} (b:Nat->List Bool) (hf:P.funcs[f]?=some fn)
  (h:ZX P G ⟨0,none,b⟩ code (MM P fn.results.toList (fun c σ=>∃ src:Src,Qb src=true/\src.length=n/\CLe src 0 (c.fz σ.bx) r) ⟨⟩) ⟨VR 0 args,[],0,0⟩ ⟨⟩ ⟨⟩) (hb:fn.body=some code:=by rfl) (hN:args.length<=fn.ntmps:=by exact zhZ rfl) (ho:opB P fn code b=true:=by kernel_rfl):Fun P G f args r n:=Fun.of_awp b (zp5 ho) hf hb (zn9 ho) hN (zqj ho) h
theorem fon {f:FuncId} {fn:Func} {code:Code} {args:List C} {r:C} {n:Nat} (hf:P.funcs[f]?=some fn)
  (h:ZX P G ⟨0,none,fun _=>[]⟩ code (MM P fn.results.toList (fun c σ=>∃ src:Src,Qb src=true/\src.length=n/\CLe src 0 (c.fz σ.bx) r) ⟨⟩) ⟨VR 0 args,[],0,0⟩ ⟨⟩ ⟨⟩) (hb:fn.body=some code:=by rfl) (hN:args.length<=fn.ntmps:=by exact zhZ rfl) (ho:opB P fn code (fun _=>[])=true:=by kernel_rfl):Fun P G f args r n:=fof _ hf h hb hN ho
theorem foB {f:FuncId} {fn:Func} {code:Code} {args:List C} {bx bx':List (List C)} {r:C} {q n:Nat} (b:Nat->List Bool) (hf:P.funcs[f]?=some fn)
  (h:ZX P G ⟨bx.length,none,b⟩ code (MM P fn.results.toList (fun c σ=>∃ src:Src,Qb src=true/\src.length=n/\za src bx'.length σ.bx bx'/\CLe src bx'.length c r) ⟨⟩) ⟨VR 0 args,bx,q,0⟩ ⟨⟩ ⟨⟩) (hb:fn.body=some code:=by rfl) (hN:args.length<=fn.ntmps:=by exact zhZ rfl) (ho:opB P fn code b=true:=by kernel_rfl) (hlen:bx.length<=bx'.length:=by exact zhZ rfl):Mc P G f args bx q r bx' n:=Mc.of_awp b (zp5 ho) hf hb (zn9 ho) hN (zqj ho) hlen h
theorem foI {f:FuncId} {fn:Func} {code:Code} {first cap:List C} {bx items:List (List C)} (b:Nat->List Bool) (hf:P.funcs[f]?=some fn)
  (h:∀ (l:Nat) (sf:Nat->Bool),ZX P G ⟨0,some ⟨l,items,sf⟩,b⟩ code (MM P fn.results.toList (fun c σ=>zkW items sf σ.lg) ⟨⟩) ⟨VR 0 (first++[.sc (.func (.yield l) #[] #[])]++cap),bx,0,0⟩ ⟨⟩ ⟨⟩) (hb:fn.body=some code:=by rfl) (hN:first.length+1+cap.length<=fn.ntmps:=by exact zhZ rfl) (ho:opB P fn code b=true:=by kernel_rfl):xz P G f first cap bx items:=xz.of_awp b (zp5 ho) hf hb (zn9 ho) hN (zqj ho) h
theorem zq3 {i m k n cap b:Nat} {cs xs:List C} {z1:List Value} (A:List C) (hbx:bx[i]?=some cs) (h1:z1.length=k) (h2:0<k) (h3:(z1.all Value.oneCell')=true) (h4:0<m) (hp:p<=i) (hl:cs.length=cap*k) (hn:n<=cap) (hc:cap<=9223372036854775807)
  (h5:n+m<=9223372036854775807) (h6:(n+m)*b<=140737488355328) (hA:C.reL (JE i) some (cs.take (n*k)++xs)=A)
  (hK:∀ c',n+m<=c'->c'<=9223372036854775807->K3 (.bs i 0 k (n+m) c') ⟨k9 (JE i) some tm,Q3 i (A++List.replicate ((c'-(n+m))*k) .any) bx,nx,lg⟩):zn6 (some (m,xs)) p k b z1 (.bs i 0 k n cap) ⟨tm,bx,nx,lg⟩ K3 ⟨⟩:=by
 refine ⟨h1,h2,h3,h4,?_⟩
 simp only[hbx]
 exact ⟨trivial,hp,hl,hn,hc,h5,h6,fun c' q1 q2=>by rw[hA];exact hK c' q1 (by unfold maxLen at q2;omega)⟩
theorem zbg (k:Nat):((k:Int)+1).toNat=k+1:=by omega
theorem zjj.mk {B:(Exit->St->Prop)->St->Prop} {ι:Type} (I:ι->St) (ok:ι->Prop) (μ:ι->Nat) (i0:ι) (h0:ok i0) (hw:j8 p σ (I i0))
  (hr:∀ i,ok i->B (zmn (fun σ'=>∃ j,ok j/\μ j<μ i/\j8 p σ' (I j)) Q) (I i)):zjj p B Q σ:=⟨ι,I,ok,μ,i0,h0,hw,hr⟩
end
attribute [push_cast] zlh eq_self iff_self List.append_eq zrg zsS zsp zs1 zqN zrh zq4 zrB zce zqV zkQ zi3 znL zoV zo6 zpd zp8 zl0 zng zph zmC zpe zqk znq zqT znX zna zpN zre zrw zqh zlT zpb zix zml zhJ zeF zjB zg3 zjY zc3 zcS zei zih zoE zqo zoQ zpw zcU vw zs5 zgU zl4 zm2 zoJ zoH y7 zb9 zdS xi M7 yH zb7 xt zjU vH zcj zmE zk8 zok zol zoz zp2 znR znJ zkO zo2 zjT ziv zi9 zjb zgX zmF zoN zp4 zk1 zmG zbp zaV yS xF kK ky Gd zoR zlW zit zjV zau zav zho zhA zdU zcA ziX zjh N5 Nn zeI zdN zg5 ziQ yo Mn zek zd9 H7 Gv zd2 zeU H3 HK zgs zfy vx vv zdj zcK zk6 zmX vj zoZ zmc zaS zon ziN zbz zoX zcu ziz zjO zf6 zlF zrM zhu zds za3 zdb zmO zfP zjZ zbI zd1 vI vm znF vF No xZ GZ vu yN xr zc8 zcL zaZ zgy ML zf4 Mv zcZ zaL zgw zbu zj2 zi6 zkS zfk zgz zfw zf3 zeA zgp zfz zdY zes zea zcW zfQ zew zbw zhx zfZ zrZ zfR znG zfp zqS zrp zcp zgn zcd zcn zaP zkU Gu zbf yV zbr Ms MN znh ziF zgH zsI zqF ziT zj0 zso zbQ zbi zeV zff zb2 zb0 yu zcb zdZ zfl zjI zg7 zhT zh3 zif zsq zqO zrT zrC zs3 zrb zro zlP zpX zlp zm7 zgV zmV zoG zqc zaI zcm zaW zoF zsw zll zsE zrI zpr zsK zqA zbL zdJ zgR zcr zpH zqa zhB zi1 ziH zbZ zaD zbW zdg za9 zqr zcs zgP zhR zfv zd0 zht zdn zgC zql znY zlr zhz zsx zkP zoh zmJ zrF zrc zsQ zqK zqB zrn zrq zog znU zs7 zrS zrV zd3 zd7 zoq zr0 zrH znZ zpO zrU zrK zqJ zmL zmy zic znT zrx zrd zq8 zlv zp3 zk4 zn1 zi2 zhP zi8 zlz zhl ziA zlY zrW zrA zqU zrE zh8 zl1 zkM zfs zia zie zhI zkV zma vb zfO zjD ziw zhQ zgW zmd zle zmi zlk zay zqi zbT zfT zfo ziM zjk zjL zlo zi0 zhq zgf zlx zjP zaY zjm zdQ zhK zlc zjq zmx zjA ziZ zhF zmo zco zjR zju ze7 zmW zmh zmP zk7 zlD zlA zk9 zhm zhy zh5 ziO zec zaC zgl zd6 za8 yn zjW zjN zi7 zfn zaE zhw zhU zfd zaJ ze5 zeM zbd yB zhi zjx zjy zde zbn zh0 ziI zgS zee zcc zaw zqm za6 zoC yJ vq vC zbm zbE zbN yr yq yA y6 yc vJ zcg zbK zbx xP xQ zdz zaM vy MX znp zlC zkR zpy zc1 zaQ
attribute [push_cast] Int.ofNat_eq_natCast Bool.not_false Bool.not_true Bool.true_beq Bool.false_beq beq_self_eq_true Bool.true_and zlI znm znE zls zlV List.map_cons List.map_nil List.getElem?_cons_zero List.getElem?_cons_succ List.getElem?_toArray List.getElem?_nil List.drop_zero List.drop_succ_cons List.drop_nil List.take_succ_cons List.take_zero List.take_nil List.length_cons List.length_nil List.getD_cons_zero List.getD_cons_succ List.set_cons_zero List.set_cons_succ List.cons_append List.nil_append List.append_nil List.all_cons List.all_nil List.tail_cons List.tail_nil List.headD_cons List.headD_nil List.flatten_cons List.flatten_nil List.replicate_succ List.replicate_zero Bool.and_self Bool.and_true Bool.true_and Bool.not_true Bool.not_false Option.bind_some Option.map_some Option.map_none if_true if_false true_and and_true and_self decide_true decide_false Int.ofNat_le Int.ofNat_lt Int.natCast_inj zbg Int.toNat_natCast Nat.zero_add Nat.add_zero List.toList_toArray Int.add_zero Int.zero_add Bool.not_not Int.sub_zero Int.natCast_pos Nat.sub_zero Int.cast_ofNat_Int Nat.one_mul Nat.mul_one
theorem dn {p q r:Src->Prop} (c:r []:=by push_cast -dsimp [zb,za,CLe,zd]) (a:p []:=by rfl) (b:q []:=by rfl):∃ s,p s/\q s/\r s:=⟨[],a,b,c⟩
theorem wks {p:Nat} {σ σ':St} (src:Src) (h4:zb src σ'.bx.length σ.tm σ'.tm:=by push_cast -dsimp [zb,za,CLe,zd]) (h5:za src σ'.bx.length σ.bx σ'.bx:=by push_cast -dsimp [zb,za,CLe,zd]) (h1:Qb src=true:=by rfl) (h2:src.length=σ'.nx:=by rfl)
  (h3:p<=σ'.bx.length:=by first | exact Nat.zero_le _ | exact Nat.le_refl _ | exact zhZ rfl) (h0:σ'.lg=σ.lg:=by rfl):j8 p σ σ':=⟨src,h1,h2,h3,h0,h4,h5⟩
theorem wk {p:Nat} {σ σ':St} (h4:zb [] σ'.bx.length σ.tm σ'.tm:=by push_cast -dsimp [zb,za,CLe,zd]) (h5:za [] σ'.bx.length σ.bx σ'.bx:=by push_cast -dsimp [zb,za,CLe,zd]) (h2:([]:Src).length=σ'.nx:=by rfl)
  (h3:p<=σ'.bx.length:=by first | exact Nat.zero_le _ | exact Nat.le_refl _ | exact zhZ rfl) (h0:σ'.lg=σ.lg:=by rfl):j8 p σ σ':=⟨[],rfl,h2,h3,h0,h4,h5⟩
theorem an {a b:Prop} (k:b) (h:a:=by first | omega | (simp only[lS];omega)):a/\b:=⟨h,k⟩
namespace CA
theorem cl {P:Program} {G:zo} {f:FuncId} {args fargs:List C} {r:C} {n nx lg:Nat} {tm:List (Nat×C)} {bx:List (List C)} {K3:C->St->Prop} (hf:Fun P G f fargs r n) (hK:K3 (r.sh nx) ⟨tm,bx,nx+n,lg⟩):Qr P G f args fargs ⟨tm,bx,nx,lg⟩ K3 ⟨⟩:=call hf hK
end CA
namespace CB
theorem cl {P:Program} {G:zo} {f:FuncId} {args:List C} {r:C} {n nx:Nat} {K2:C->Nat->Prop} (hf:Fun P G f args r n) (hK:K2 (r.sh nx) (nx+n)):vk P G f args nx K2 ⟨⟩:=zar hf hK
end CB
end
section
open Go.RowKit
def C.stayB:C->Bool
 | .sc _ | .str _ | .sl _ _ | .tight _ _ | .row _ | .any=>true
 | _=>false
theorem ziU {c:C} (h:c.stayB=true):c.frz=c:=by cases c<;>simp[C.stayB]at h<;>simp[C.frz]
theorem zl7 {c:C} {fp fo:Nat->Option Nat} (h:c.stayB=true):c.re fp fo=c:=by cases c<;>simp[C.stayB]at h<;>simp[C.re]
theorem zm3 {c:C} {src:Src} {n:Nat} (h:c.stayB=true):CLe src n c c:=by cases c<;>simp[C.stayB]at h<;>simp[CLe]
theorem UW:∀ {cs:List C},(cs.all C.stayB)=true->C.frzL cs=cs
 | [],_=>by simp[C.frzL]
 | c :: r,h=>by
  simp only[List.all_cons,Bool.and_eq_true]at h
  rw[C.frzL,ziU h.1,UW h.2]
theorem zC {fp fo:Nat->Option Nat}:∀ {cs:List C},(cs.all C.stayB)=true->C.reL fp fo cs=cs
 | [],_=>by simp[C.reL]
 | c :: r,h=>by
  simp only[List.all_cons,Bool.and_eq_true]at h
  rw[C.reL,zl7 h.1,zC h.2]
theorem zR {src:Src} {n:Nat}:∀ {cs:List C},(cs.all C.stayB)=true->zd src n cs cs
 | [],_=>by simp[zd]
 | c :: r,h=>by
  simp only[List.all_cons,Bool.and_eq_true]at h
  rw[zd]
  exact ⟨zm3 h.1,zR h.2⟩
theorem zkH {src:Src} {n:Nat} (c:C):CLe src n c .any:=by cases c<;>simp[CLe]
theorem Qx {src:Src} {n:Nat}:∀ {cs:List C} {m:Nat},cs.length=m->zd src n cs (List.replicate m .any)
 | [],_,h=>by subst h;simp[zd]
 | c :: r,_,h=>by
  subst h
  rw[List.length_cons,List.replicate_succ,zd]
  exact ⟨zkH c,Qx rfl⟩
theorem zfq {src:Src} {n:Nat}:∀ {a b c d:List C},zd src n a c->zd src n b d->zd src n (a++b) (c++d)
 | [],b,[],d,_,h=>h
 | [],b,x :: c,d,h,_=>by simp[zd]at h
 | x :: a,b,[],d,h,_=>by simp[zd]at h
 | x :: a,b,y :: c,d,h,h'=>by
  rw[List.cons_append,List.cons_append,zd]
  rw[zd]at h
  exact ⟨h.1,zfq h.2 h'⟩
def qH (k:Nat) (rows:List (List C)) (c:Nat):List C:=rows.flatten++List.replicate ((c-rows.length)*k) .any
theorem zN {k:Nat}:∀ {rows:List (List C)},(∀ r∈rows,r.length=k)->rows.flatten.length=rows.length*k
 | [],_=>by simp
 | r :: rs,h=>by
  rw[List.flatten_cons,List.length_append,h r List.mem_cons_self,zN fun x hx=>h x (List.mem_cons_of_mem _ hx),List.length_cons,Nat.succ_mul,Nat.add_comm]
theorem Yc {k c:Nat} {rows:List (List C)} (h:∀ r∈rows,r.length=k) (hc:rows.length<=c):(qH k rows c).length=c*k:=by
 unfold qH
 rw[List.length_append,zN h,List.length_replicate,←Nat.add_mul]
 congr 1;omega
abbrev ji (rows:List (List C)):Prop:=∀ r∈rows,(r.all C.stayB)=true
theorem YO {rows:List (List C)} (h:ji rows):(rows.flatten.all C.stayB)=true:=by
 rw[List.all_eq_true]
 intro c hc
 obtain ⟨r,hr,hc⟩:=List.mem_flatten.1 hc
 exact List.all_eq_true.1 (h r hr) c hc
theorem zK {k c:Nat} {rows:List (List C)} (h:ji rows):((qH k rows c).all C.stayB)=true:=by
 unfold qH
 rw[List.all_append,YO h,Bool.true_and,List.all_eq_true]
 intro c hc
 obtain ⟨_,rfl⟩:=List.mem_replicate.1 hc
 rfl
theorem ke {k n:Nat}:∀ {rows:List (List C)},(∀ r∈rows,r.length=k)->rows.flatten.take (n*k)=(rows.take n).flatten:=by
 induction n with
 | zero=>intro rows _;simp
 | succ n ih =>
  intro rows h
  cases rows with
  | nil=>simp
  | cons r rs =>
   have hr:=h r List.mem_cons_self
   rw[List.take_succ_cons,List.flatten_cons,List.flatten_cons,List.take_append,List.take_of_length_le (by rw[hr,Nat.succ_mul];omega),hr,show (n+1)*k-k=n*k by rw[Nat.succ_mul];omega,ih fun x hx=>h x (List.mem_cons_of_mem _ hx)]
theorem Um {k n:Nat}:∀ {rows:List (List C)},(∀ r∈rows,r.length=k)->rows.flatten.drop (n*k)=(rows.drop n).flatten:=by
 induction n with
 | zero=>intro rows _;simp
 | succ n ih =>
  intro rows h
  cases rows with
  | nil=>simp
  | cons r rs =>
   have hr:=h r List.mem_cons_self
   rw[List.drop_succ_cons,List.flatten_cons,List.drop_append,List.drop_of_length_le (by rw[hr,Nat.succ_mul];omega),hr,List.nil_append,show (n+1)*k-k=n*k by rw[Nat.succ_mul];omega,ih fun x hx=>h x (List.mem_cons_of_mem _ hx)]
theorem Y8 {src:Src} {m k c:Nat} {rows:List (List C)} {cs:List C} (hk:∀ r∈rows,r.length=k) (hs:ji rows) (hc:rows.length<=c) (hl:cs.length=c*k) (ht:cs.take (rows.length*k)=rows.flatten):zd src m cs (qH k rows c):=by
 have h1:cs=rows.flatten++cs.drop (rows.length*k):=by rw[←ht,List.take_append_drop]
 rw[h1]
 unfold qH
 refine zfq (zR (YO hs)) (Qx ?_)
 rw[List.length_drop,hl,←Nat.sub_mul]
theorem ZC {cs xs:List C} {p:Nat} (h:p+xs.length<=cs.length):(spl cs p xs).length=cs.length:=by
 simp[spl];omega
theorem MY {cs L X:List C} {p q:Nat} (hp:p<=L.length) (hq:q=p+X.length) (hL:cs.take L.length=L) (hc:L.length+X.length<=cs.length) :
  (spl (spl cs q (L.drop p)) p X).take (L.length+X.length)=L.take p++(X++L.drop p):=by
 subst hq
 apply List.ext_getElem?
 intro j
 have hcur:∀ j,j<L.length->cs[j]?=L[j]?:=fun j hj=>by
  have h:=congrArg (fun l=>l[j]?) hL
  simp only[List.getElem?_take,if_pos hj]at h
  exact h
 simp only[spl,List.getElem?_take,List.getElem?_append,List.getElem?_drop,List.length_take,List.length_append,List.length_drop]
 repeat' (first | split | omega)
 all_goals (first | rfl | omega | exact (List.getElem?_eq_none (by omega)).symm | (congr 1;omega) | (rw[hcur _ (by omega)];first | done | (congr 1;omega)) | (symm;rw[List.getElem?_eq_none];simp;omega) | (rw[List.getElem?_eq_none];simp;omega) | skip)
theorem zac {cs L X:List C} {p q:Nat} (hp:p<=L.length) (hq:q=p+X.length) (hL:cs.take p=L.take p) (hc:L.length+X.length<=cs.length) :
  (spl (spl cs p X) q (L.drop p)).take (L.length+X.length)=L.take p++(X++L.drop p):=by
 subst hq
 apply List.ext_getElem?
 intro j
 have hcur:∀ j,j<p->cs[j]?=L[j]?:=fun j hj=>by
  have h:=congrArg (fun l=>l[j]?) hL
  simp only[List.getElem?_take,if_pos hj]at h
  exact h
 simp only[spl,List.getElem?_take,List.getElem?_append,List.getElem?_drop,List.length_take,List.length_append,List.length_drop]
 repeat' (first | split | omega)
 all_goals (first | rfl | omega | exact (List.getElem?_eq_none (by omega)).symm | (congr 1;omega) | (rw[hcur _ (by omega)];first | done | (congr 1;omega)) | (symm;rw[List.getElem?_eq_none];simp;omega) | (rw[List.getElem?_eq_none];simp;omega) | skip)
theorem zm1 {cs L Z:List C} {p q n:Nat} (hq:q<=L.length) (hpq:p<=q) (hL:cs.take L.length=L) (hn:n=p+(L.length-q)) (hc:L.length<=cs.length) (hz:n+Z.length<=cs.length) :
  (spl (spl cs p (L.drop q)) n Z).take n=L.take p++L.drop q:=by
 subst hn
 apply List.ext_getElem?
 intro j
 have hcur:∀ j,j<L.length->cs[j]?=L[j]?:=fun j hj=>by
  have h:=congrArg (fun l=>l[j]?) hL
  simp only[List.getElem?_take,if_pos hj]at h
  exact h
 simp only[spl,List.getElem?_take,List.getElem?_append,List.getElem?_drop,List.length_take,List.length_append,List.length_drop]
 repeat' (first | split | omega)
 all_goals (first | rfl | omega | exact (List.getElem?_eq_none (by omega)).symm | (congr 1;omega) | (rw[hcur _ (by omega)];first | done | (congr 1;omega)) | (symm;rw[List.getElem?_eq_none];simp;omega) | (rw[List.getElem?_eq_none];simp;omega) | skip)
theorem zeK {P:Program} {f:FuncId} {fn:Func} {t e tR:TypeId} {s1 b1 k by':Nat} {kd:LK} {z1 z:Option (List Value)} (hf:P.funcs[f]?=some fn) (hname:(fn.name == "runtime.NumGoroutine")=false) (hb:fn.body.isNone=true) (hn:Extern.findNext fn=none)
  (he:Extern.find fn=some (Extern.SlicesOverlaps.overlaps #[t,t] #[tR])) (hl:lay P t=some ⟨.slice e,s1,b1,z1⟩) (hle:lay P e=some ⟨kd,k,by',z⟩) {id e' k' i off n c:Nat} {rows bx:List (List C)} {cs:List C} (hbx:bx[i]?=some cs) (hcs:cs≠[]) (hrows:rows≠[]) (hn0:0<n) :
  zrj P f [.own id e' k' rows,.bs i off k n c] bx (.sc (.bool false)):=by
 intro B R L vs hB hO hr
 obtain ⟨v1,us,rfl,h1,hr⟩:=zf.1 hr
 obtain ⟨v2,us,rfl,h2,hr⟩:=zf.1 hr
 rw[zj]at hr
 subst hr
 refine ⟨.bool false,?_,zm.2 rfl⟩
 rw[run_callFunc_extern hf hname hb hn he]
 have ht:=zX hl rfl
 have hz:∀ w,(Go.sizeOf e).run P w = .ok k w:=fun w=>qz hle w
 obtain ⟨hT,a,cap,hv1,_⟩:=Yq.1 h1
 obtain ⟨b,hbi,ad,rfl,had⟩:=qS.1 h2
 obtain ⟨us,ty,e1,e2,e3,e4⟩:=hB.box i b cs hbi hbx
 have hsz:us.size≠0:=by
  have:=zr e2
  simp only[Array.length_toList]at this
  rw[this]
  exact fun h=>hcs (List.eq_nil_of_length_eq_zero h)
 rcases hO.own id e' k' v1 hT with hnil | ⟨g,n',cap',cur,ty',q1,q2,q3,q4,q5,q6,q7,q8⟩ | ⟨_,_,_,_,hmap,_⟩
 rotate_right
 ·rw[hv1]at hmap;unfold Up at hmap;cases hmap
 ·rw[hnil]at hv1
  obtain ⟨_,h0,_⟩:=Value.slice.inj hv1
  exact absurd (List.eq_nil_of_length_eq_zero h0.symm) hrows
 ·rw[q1]
  obtain rfl:=had (by omega)
  have hne:g≠b:=fun h=>q7 (h▸List.mem_of_getElem? hbi)
  rw[Lib.run_overlaps_apart R.w t tR e ht k hz ⟨g,0,none⟩ ⟨b,off,none⟩ n' cap' n c hne ty' ty cur.size us.size (by simp[World.shape?,q3]) (by simp[World.shape?,e1]) hsz (frozen_of_row R.w g 0 _ _ q3) (frozen_of_row R.w g _ _ _ q3)]
  rfl
theorem VC {m k:Nat} {z:List C} (hz:z.length=k):(List.replicate m z).flatten.length=m*k:=by
 have h:=zN (k:=k) (rows:=List.replicate m z) fun r hr=>by rw[(List.mem_replicate.1 hr).2];exact hz
 rw[h,List.length_replicate]
section
variable {P:Program} {t tn e s1 b1 s2 b2 k by' m i off n cap nx lg:Nat} {kd:LK} {kn kq:IntKind} {z1 z2 z3:Option (List Value)} {z:List Value} {cs xs:List C} {bx:List (List C)} {tm:List (Nat×C)} {d:C} {q:Int} {K3:C->St->Prop}
theorem zqe (hl:lay P t=some ⟨.slice e,s1,b1,z1⟩) (hln:lay P tn=some ⟨.int kn,s2,b2,z2⟩) (hle:lay P e=some ⟨kd,k,by',some z⟩) (hz:z.length=k) (hk:0<k) (h1:(z.all Value.oneCell')=true)
  (hb:bx[i]?=some cs) (hfit:off+cap*k<=cs.length) (hn:n<=cap) (hq:0<q) (h63:(n:Int)+q<=9223372036854775807) (hby:((n:Int)+q)*by'<=140737488355328) (hg:(cap:Int)<n+q)
  (hK:∀ c' B,n+q.toNat<=c'->c'<=9223372036854775807->B.length=c'*k->B.take (n*k)=(cs.drop off).take (n*k)->K3 (.bs bx.length 0 k (n+q.toNat) c') ⟨tm,bx++[B],nx,lg⟩):uP P t tn (.bs i off k n cap) (.sc (.int kq q)) ⟨tm,bx,nx,lg⟩ K3 ⟨⟩:=by
 have hnk:n*k<=cap*k:=Nat.mul_le_mul_right _ hn
 refine zs9 hl hln hle hz hk h1 hb hfit hn hq h63 hby hg fun c' g1 g2=>hK c' _ g1 g2 ?_ ?_
 ·rw[List.length_append,List.length_append,VC (k:=k) (by simpa using hz),List.length_replicate,List.length_take,List.length_drop,Nat.min_eq_left (by omega),←Nat.add_mul,←Nat.add_mul]
  congr 1;omega
 ·rw[List.append_assoc,List.take_left' (by rw[List.length_take,List.length_drop];omega)]
theorem Vh (hl:lay P t=some ⟨.slice e,s1,b1,z1⟩) (hle:lay P e=some ⟨kd,k,by',z3⟩) (hx:d.xs? k bx=some (m,xs)) (hb:bx[i]?=some cs) (hxl:xs.length=m*k) (hfit:off+n*k<=cs.length)
  (hK:∀ B,B=spl cs off (xs.take (min m n*k))->B.length=cs.length->K3 (.sc (.int .i64 ((min m n:Nat):Int))) ⟨tm,bx.set i B,nx,lg⟩):xf P t (.bs i off k n cap) d ⟨tm,bx,nx,lg⟩ K3 ⟨⟩:=
 zlf hl hle hx hb hxl hfit (hK _ rfl (by
  have h1:min m n*k<=n*k:=Nat.mul_le_mul_right _ (Nat.min_le_right _ _)
  exact ZC (by rw[List.length_take];omega)))
theorem zmg (hl:lay P t=some ⟨.slice e,s1,b1,z1⟩) (hle:lay P e=some ⟨kd,k,by',some z⟩) (hb:bx[i]?=some cs) (hz:z.length=k) (hk:0<k) (h1:(z.all Value.oneCell')=true) (hfit:off+n*k<=cs.length)
  (hK:∀ B Z,B=spl cs off Z->Z.length=n*k->B.length=cs.length->K3 .any ⟨tm,bx.set i B,nx,lg⟩):yb P t (.bs i off k n cap) ⟨tm,bx,nx,lg⟩ K3 ⟨⟩:=by
 have hZ:(List.replicate n (z.map zy)).flatten.length=n*k:=VC (by simpa using hz)
 exact zoy hl hle hb hz hk h1 hfit (hK _ _ rfl hZ (ZC (by omega)))
end
theorem xh {k i off n c:Nat} {bx:List (List C)} {cs:List C} (hb:bx[i]?=some cs) (h:off+n*k<=cs.length):C.xs? k bx (.bs i off k n c)=some (n,(cs.drop off).take (n*k)):=by
 simp[C.xs?,hb,h]
theorem QK {k c i:Nat} {rows:List (List C)} (hk:∀ r∈rows,r.length=k) (hi:i<=rows.length):((qH k rows c).drop (i*k)).take ((rows.length-i)*k)=rows.flatten.drop (i*k):=by
 have hf:=zN hk
 have h1:i*k<=rows.length*k:=Nat.mul_le_mul_right _ hi
 unfold qH
 rw[List.drop_append_of_le_length (by omega),List.take_left' (by rw[List.length_drop,hf,Nat.sub_mul])]
theorem V0 {k i:Nat} {rows:List (List C)} {x:List C} (hk:∀ r∈rows,r.length=k):rows.flatten.take (i*k)++(x++rows.flatten.drop (i*k))=(rows.take i++x :: rows.drop i).flatten:=by
 rw[ke hk,Um hk];simp
theorem vX {bx:List (List C)} {i e k c:Nat} {rows:List (List C)} {cs:List C} (hb:bx[i]?=some cs) (hc:0<c) (h1:rows.length<=c) (h2:c<=9223372036854775807) (hl:cs.length=c*k) (hk:∀ r∈rows,r.length=k) (hs:(cs.all C.stayB)=true) (ht:cs.take (rows.length*k)=rows.flatten) :
  zbG [(i,e,k,rows,c)] bx:=by
 refine ⟨by simp,fun x hx=>?_⟩
 rw[List.mem_singleton]at hx
 subst hx
 exact ⟨cs,hb,hc,h1,by unfold maxLen;exact h2,hl,hk,by rw[UW hs];exact ht⟩
theorem zgu {k c:Nat} {rows:List (List C)} (hk:∀ r∈rows,r.length=k):(qH k rows c).take (rows.length*k)=rows.flatten:=by
 unfold qH;rw[List.take_left' (zN hk)]
theorem zB {bx:List (List C)} {i e k c:Nat} {rows:List (List C)} (hb:bx[i]?=some (qH k rows c)) (hc:0<c) (h1:rows.length<=c) (h2:c<=9223372036854775807) (hk:∀ r∈rows,r.length=k) (hs:ji rows):zbG [(i,e,k,rows,c)] bx:=
 vX hb hc h1 h2 (Yc hk h1) hk (zK hs) (zgu hk)
theorem ziE {k c i:Nat} {rows:List (List C)} {row:List C} (hk:∀ r∈rows,r.length=k) (hr:row.length=k) (hi:i<rows.length):(qH k rows c).take (i*k)++row++(qH k rows c).drop (i*k+k)=qH k (rows.set i row) c:=by
 have hf:=zN hk
 have h1:(i+1)*k<=rows.length*k:=Nat.mul_le_mul_right _ hi
 rw[Nat.succ_mul]at h1
 unfold qH
 rw[List.take_append_of_le_length (by omega),List.drop_append_of_le_length (by omega),←Nat.succ_mul,ke hk,Um hk,List.length_set,←List.append_assoc]
 congr 1
 rw[List.set_eq_take_append_cons_drop,if_pos hi]
 simp
def RLe:List (List C)->List (List C)->Prop
 | [],[]=>True
 | a :: r,b :: s=>zd [] 0 a b/\RLe r s
 | _,_=>False
theorem RLe.len:∀ {a b:List (List C)},RLe a b->a.length=b.length
 | [],[],_=>rfl
 | _ :: r,_ :: s,h=>by rw[List.length_cons,List.length_cons,RLe.len h.2]
theorem zd.len {src:Src} {n:Nat}:∀ {a b:List C},zd src n a b->a.length=b.length
 | [],[],_=>rfl
 | [],_ :: _,h=>by simp[zd]at h
 | _ :: _,[],h=>by simp[zd]at h
 | _ :: r,_ :: s,h=>by
  rw[zd]at h
  rw[List.length_cons,List.length_cons,zd.len h.2]
theorem zdy {R:Env} {c d:C} {v:Value} (h:CLe [] 0 c d) (hr:Rep R zE c v):Rep R zE d v:=by
 refine Rep.ext (Ext.refl R) (T:=j0 [] 0 zE) ⟨fun i b hb=>?_,fun id x hx=>?_⟩ _ _ (Rep.less _ _ _ h hr)
 ·simp at hb
 ·have hx:Zw [] zE.T id=some x:=hx
  simp[Zw]at hx
theorem UD {R:Env} {b:Nat}:∀ {cs ds:List C} {o:Nat},zd [] 0 cs ds->zM R cs b o->zM R ds b o
 | [],[],_,_,h=>h
 | [],_ :: _,_,h,_=>by simp[zd]at h
 | _ :: _,[],_,h,_=>by simp[zd]at h
 | c :: r,d :: s,o,h,hr=>by
  rw[zd]at h
  obtain ⟨⟨v,h1,h2,h3,h4⟩,h5⟩:=qj.1 hr
  exact qj.2 ⟨⟨v,h1,h2,zdy h.1 h3,h4⟩,UD h.2 h5⟩
theorem HB {R:Env} {k b:Nat}:∀ {a c:List (List C)} {o:Nat},RLe a c->zO R a k b o->zO R c k b o
 | [],[],_,_,h=>h
 | x :: r,y :: s,o,h,hr=>by
  unfold zO at hr ⊢
  exact ⟨(zd.len h.1).symm.trans hr.1,UD h.1 hr.2.1,HB h.2 hr.2.2⟩
theorem zaA {R:Env} {L:Loc} {id e k:Nat} {a c:List (List C)} {v:Value} (h:RLe a c) (hr:Rep R L (.own id e k a) v):Rep R L (.own id e k c) v:=by
 obtain ⟨h1,ad,cap,h2,h3,h4,h5⟩:=Yq.1 hr
 refine Yq.2 ⟨h1,ad,cap,by rw[h2,h.len],by rw[←h.len];exact h3,h4,?_⟩
 rcases h5 with h5 | ⟨b,o,h5,h6⟩
 ·subst h5
  have:=h.len
  exact .inl (List.eq_nil_of_length_eq_zero (by simpa using this.symm))
 ·exact .inr ⟨b,o,h5,HB h h6⟩
theorem Fun.resX {P:Program} {G:zo} {f:FuncId} {args:List C} {r r':C} {n:Nat} (hf:Fun P G f args r n) (h:∀ R L v,Rep R L r v->Rep R L r' v):Fun P G f args r' n:=
 ⟨hf.1,fun R vs hg ha=>(hf.2 R vs hg ha).mono fun e w' ⟨v,R',L',h1,h2,h3,h4⟩=>⟨v,R',L',h1,h2,h3,h _ _ _ h4⟩⟩
theorem zby {R:Env} {L:Loc} {cs ds:List C} {v:Value} (h:∀ vs,zu R L cs vs->zu R L ds vs) (hr:Rep R L (.agg cs) v):Rep R L (.agg ds) v:=by
 obtain ⟨vs,h1,h2⟩:=jS.1 hr
 exact jS.2 ⟨vs,h1,h _ h2⟩
theorem Yg {R:Env} {L:Loc} {c d:C} {cs ds:List C} {vs:List Value} (h:∀ v,Rep R L c v->Rep R L d v) (h':∀ vs,zu R L cs vs->zu R L ds vs) (hr:zu R L (c :: cs) vs):zu R L (d :: ds) vs:=by
 obtain ⟨v,us,rfl,h1,h2⟩:=zf.1 hr
 exact zf.2 ⟨v,us,rfl,h _ h1,h' _ h2⟩
end
section
open Go.RowKit
def zks (k:Nat) (rows:List (List C)) (r:C) (bx':List (List C)) (n:Nat):Prop:=
 n=0/\((rows≠[]/\∃ c,rows.length<=c/\c<=9223372036854775807/\r = .bs 1 0 k rows.length c/\bx' = [[],qH k rows c])∨(rows = []/\(r = .sc (.slice none 0 0)/\bx' = []∨r = .bs 0 0 k 0 0/\bx' = [[]])))
def zqW (k m:Nat) (ins:List (List C)) (r:C) (bx':List (List C)) (n:Nat):Prop:=
 n=0/\∃ c,ins.length<=c/\c<=9223372036854775807/\(r = .bs 0 0 k ins.length c/\bx' = [qH k ins c]∨r = .bs 1 0 k ins.length c/\bx' = [List.replicate m .any,qH k ins c])
section
variable {G:zo}
theorem ZF (rows:List (List C)) (hk:∀ r∈rows,r.length=6) (hs:ji rows) (hl:rows.length<=100000) :
  Xh Tryz.prog G 226 [.sl 6 rows] [] 0 (zks 6 rows):=by
 refine Xh.bySlice (fun h=>?_) (fun h a cap hr=>?_)
 ·refine foX (fun i=>if i=1000000+22 then [true,true] else []) Tryz.func226 ?_;dsimp only[Tryz.f226]
  push_cast -dsimp
  refine ⟨h,Z7 Zz ZH rfl rfl (by decide) rfl (zN hk) rfl (Nat.le_refl _) (Nat.le_refl _) (by omega) (by omega) (fun hc=>absurd hc ?_) (fun _ c hc hm=>?_)⟩
  ·have:=List.length_pos_iff.2 h;omega
  ·push_cast -dsimp
   rw[Nat.zero_add]at hc
   refine ⟨_,_,_,⟨⟨rfl,.inl ⟨h,c,hc,hm,rfl,rfl⟩⟩,Nat.zero_le _⟩,[],rfl,rfl,?_,by push_cast -dsimp [zb,za,CLe,zd]⟩
   push_cast -dsimp [zb,za,CLe,zd]
   exact zR (zK hs)
 ·cases a with
  | none =>
   refine foX (fun i=>if i=1000000+22 then [true,true] else []) Tryz.func226 ?_;dsimp only[Tryz.f226]
   push_cast -dsimp [hr,Option.isNone_none]
   exact ⟨_,_,_,⟨⟨rfl,.inr ⟨h,.inl ⟨rfl,rfl⟩⟩⟩,Nat.zero_le _⟩,[],rfl,rfl,by push_cast -dsimp [zb,za,CLe,zd],by push_cast -dsimp [zb,za,CLe,zd]⟩
  | some a =>
   refine foX (fun i=>if i=1000000+22 then [true,true] else []) Tryz.func226 ?_;dsimp only[Tryz.f226]
   push_cast -dsimp [hr,Option.isNone_some]
   have hx:C.xs? 6 [[]] (C.sc (.slice (some a) 0 cap))=some (0,[]):=by simp[C.xs?,hr]
   refine Z7 Zz ZH hx rfl (by decide) rfl rfl rfl (Nat.le_refl _) (Nat.le_refl _) (by omega) (by omega) (fun _=>?_) (fun hc=>absurd hc (by omega))
   push_cast -dsimp
   exact ⟨_,_,_,⟨⟨rfl,.inr ⟨h,.inr ⟨rfl,rfl⟩⟩⟩,Nat.zero_le _⟩,[],rfl,rfl,by (push_cast -dsimp [zb,za,CLe,zd];simp[spl,zd]),by push_cast -dsimp [zb,za,CLe,zd]⟩
theorem VW (rows:List (List C)) (x:List C) (i c e:Nat) (hk:∀ r∈rows,r.length=6) (hx:x.length=6) (hs:ji rows) (hsx:(x.all C.stayB)=true) (hl:rows.length<=100000) (hi:i<=rows.length) (hc:rows.length<=c) (hcm:c<=9223372036854775807) :
  Xh Tryz.prog G 225 [.bs 0 0 6 rows.length c,.sc (.int .i64 i),.own 0 e 6 [x]] [qH 6 rows c] 1 (zqW 6 (c*6) (rows.take i++x :: rows.drop i)):=by
 refine foX (fun j=>if j=1000000+22 then [true,true] else if j=11 then [false,false,false,false,false,false,false,false,true] else if j=15 then [false,false,false,false,false,false,false,false,true] else []) Tryz.func225 ?_;dsimp only[Tryz.f225]
 push_cast -dsimp
 have hlen:(rows.take i++x :: rows.drop i).length=rows.length+1:=by simp;omega
 have hki:∀ r∈rows.take i++x :: rows.drop i,r.length=6:=fun r hr=>by
  rcases List.mem_append.1 hr with hr | hr
  ·exact hk r (List.mem_of_mem_take hr)
  ·rcases List.mem_cons.1 hr with rfl | hr
   ·exact hx
   ·exact hk r (List.mem_of_mem_drop hr)
 have hsi:ji (rows.take i++x :: rows.drop i):=fun r hr=>by
  rcases List.mem_append.1 hr with hr | hr
  ·exact hs r (List.mem_of_mem_take hr)
  ·rcases List.mem_cons.1 hr with rfl | hr
   ·exact hsx
   ·exact hs r (List.mem_of_mem_drop hr)
 have hbl:=Yc hk hc
 have hfl:=zN hk
 have hxl:[x].flatten.length=1*6:=by simp[hx]
 have hpre:(qH 6 rows c).take rows.flatten.length=rows.flatten:=by unfold qH;rw[List.take_left]
 refine ⟨hc,⟨by omega,hi⟩,br (fun h=>?_) (fun h=>?_)⟩
 ·push_cast -dsimp
  refine Z7 Zz ZH rfl rfl (by decide) rfl hxl rfl (by rw[hbl];omega) hc (by simp;omega) (by simp;omega) (fun h1=>?_) (fun h1 c' h2 h3=>?_)
  ·push_cast -dsimp
   have hi':i=rows.length:=of_decide_eq_true h
   refine ⟨_,_,_,⟨⟨rfl,c,by rw[hlen];exact h1,hcm,.inl ⟨rfl,rfl⟩⟩,Nat.le_refl _⟩,[],rfl,rfl,?_,by push_cast -dsimp [zb,za,CLe,zd,hlen]⟩
   push_cast -dsimp [zb,za,CLe,zd]
   have h6:rows.length*6+6<=c*6:=by have:rows.length+1<=c:=h1;omega
   refine Y8 hki hsi (by rw[hlen];exact h1) (by rw[ZC (by rw[hbl,hx];exact h6),hbl]) ?_
   rw[hlen,hi',List.take_length,List.drop_length]
   unfold spl
   rw[←hfl,hpre,List.take_left' (by simp[hx,hfl];omega)]
   simp
  ·push_cast -dsimp
   have hi':i=rows.length:=of_decide_eq_true h
   have h2':rows.length+1<=c':=h2
   refine ⟨_,_,_,⟨⟨rfl,c',by rw[hlen];exact h2,h3,.inr ⟨rfl,rfl⟩⟩,Nat.le_of_ble_eq_true rfl⟩,[],rfl,rfl,?_,by push_cast -dsimp [zb,za,CLe,zd,hlen]⟩
   push_cast -dsimp [zb,za,CLe,zd]
   refine ⟨Qx hbl,Y8 hki hsi (by rw[hlen];exact h2) (by simp[hx,hbl];omega) ?_⟩
   rw[hlen,hi',List.take_length,List.drop_length,←hfl,hpre,List.take_left' (by simp[hx,hfl];omega)]
   simp
 ·have hne:i≠rows.length:=of_decide_eq_false h
  push_cast -dsimp
  refine ⟨⟨by omega,by omega⟩,br (fun h1=>?_) (fun h1=>?_)⟩
  ·have h1':(c:Int)<(rows.length:Int)+1:=of_decide_eq_true h1
   push_cast -dsimp
   repeat refine an ?_
   refine zqe Zz znC ZH rfl (by decide) rfl rfl (by rw[hbl];omega) (by omega) (by omega) (by omega) (by omega) (by omega) (fun c' B h2 h3 hBl hBt=>?_)
   have e1:((rows.length:Int)+1-(i:Int)).toNat=rows.length+1-i:=by omega
   rw[e1]at h2 ⊢
   have e2:i+(rows.length+1-i)=rows.length+1:=by omega
   rw[e2]at h2 ⊢
   push_cast -dsimp
   repeat refine an ?_
   refine Vh Zz ZH rfl rfl hxl (by rw[hBl];omega) (fun B1 hB1 hl1=>?_)
   rw[hBl]at hl1
   push_cast -dsimp
   repeat refine an ?_
   have hbp:=QK (c:=c) hk hi
   refine Vh Zz ZH (xh rfl (by rw[hbl];omega)) rfl (by rw[hbp,List.length_drop,hfl];omega) (by rw[hl1];omega) (fun B2 hB2 hl2=>?_)
   rw[hl1]at hl2
   have hX:[x].flatten.take (min [x].length (rows.length+1-i)*6)=x:=by
    rw[List.length_singleton,Nat.min_eq_left (by omega),List.take_of_length_le (by omega)];simp
   rw[hX]at hB1
   rw[hbp,show min (rows.length-i) (rows.length-i)*6=(rows.length-i)*6 by omega,List.take_of_length_le (by rw[List.length_drop,hfl];omega),hB1]at hB2
   push_cast -dsimp
   refine ⟨_,_,_,⟨⟨rfl,c',by rw[hlen];exact h2,h3,.inr ⟨rfl,rfl⟩⟩,Nat.le_of_ble_eq_true rfl⟩,[],rfl,rfl,?_,by push_cast -dsimp [zb,za,CLe,zd,hlen]⟩
   push_cast -dsimp [zb,za,CLe,zd]
   refine ⟨Qx hbl,Y8 hki hsi (by rw[hlen];exact h2) hl2 ?_⟩
   rw[hlen,←V0 hk,hB2]
   have hg:=zac (cs:=B) (L:=rows.flatten) (X:=x) (p:=i*6) (q:=(i+1)*6) (by omega) (by omega) (by
    rw[hBt,List.drop_zero];unfold qH;rw[List.take_append_of_le_length (by omega)]) (by omega)
   rw[hfl,hx]at hg
   rw[←hg]
   congr 1;omega
  ·have h1':¬(c:Int)<(rows.length:Int)+1:=of_decide_eq_false h1
   push_cast -dsimp
   repeat refine an ?_
   refine zn0 (zeK (P:=Tryz.prog) (tR:=4) Tryz.func250 (by kernel_rfl) (by kernel_rfl) (by kernel_rfl) (by kernel_rfl) Zz ZH rfl (List.ne_nil_of_length_pos (by rw[hbl];omega)) (by simp) (by omega)) ?_
   push_cast -dsimp
   repeat refine an ?_
   have hbp:=QK (c:=c) hk hi
   refine Vh Zz ZH (xh rfl (by rw[hbl];omega)) rfl (by simp[hbl];omega) (by rw[hbl];omega) (fun B1 hB1 hl1=>?_)
   rw[hbl]at hl1
   rw[List.take_take,Nat.min_eq_left (by omega),show min (rows.length+1-i) (rows.length-i)*6=(rows.length-i)*6 by omega,hbp]at hB1
   push_cast -dsimp
   repeat refine an ?_
   refine Vh Zz ZH rfl rfl hxl (by rw[hl1];omega) (fun B2 hB2 hl2=>?_)
   rw[hl1]at hl2
   have hX:[x].flatten.take (min [x].length (rows.length+1-i)*6)=x:=by
    rw[List.length_singleton,Nat.min_eq_left (by omega),List.take_of_length_le (by omega)];simp
   rw[hX,hB1]at hB2
   push_cast -dsimp
   have hcc:rows.length+1<=c:=by omega
   refine ⟨_,_,_,⟨⟨rfl,c,by rw[hlen];exact hcc,hcm,.inl ⟨rfl,rfl⟩⟩,Nat.le_of_ble_eq_true rfl⟩,[],rfl,rfl,?_,by push_cast -dsimp [zb,za,CLe,zd,hlen]⟩
   push_cast -dsimp [zb,za,CLe,zd]
   refine Y8 hki hsi (by rw[hlen];exact hcc) hl2 ?_
   rw[hlen,←V0 hk,hB2]
   have hg:=MY (cs:=qH 6 rows c) (L:=rows.flatten) (X:=x) (p:=i*6) (q:=(i+1)*6) (by omega) (by omega) hpre (by omega)
   rw[hfl,hx]at hg
   rw[←hg]
   congr 1;omega
theorem uu {e:Nat} (x:List C) (hx:x.length=6) (hsx:(x.all C.stayB)=true) :
  Xh Tryz.prog G 225 [.sc (.slice none 0 0),.sc (.int .i64 0),.own 0 e 6 [x]] [] 1 (fun r bx' n=>n=0/\∃ c,1<=c/\c<=9223372036854775807/\r = .bs 0 0 6 1 c/\bx' = [qH 6 [x] c]):=by
 refine foX (fun j=>if j=1000000+22 then [true,true] else if j=11 then [false,false,false,false,false,false,false,false,true] else if j=15 then [false,false,false,false,false,false,false,false,true] else []) Tryz.func225 ?_;dsimp only[Tryz.f225]
 push_cast -dsimp
 refine zah Zz ZH rfl rfl (by decide) rfl (by simp[hx]) (by simp) (by simp) (by simp) (fun c h1 h2=>?_)
 push_cast -dsimp
 refine ⟨_,_,_,⟨⟨rfl,c,h1,h2,rfl,rfl⟩,Nat.zero_le _⟩,[],rfl,rfl,?_,by push_cast -dsimp [zb,za,CLe,zd]⟩
 push_cast -dsimp [zb,za,CLe,zd]
 have:=zR (src:=[]) (n:=1) (zK (k:=6) (c:=c) (rows:=[x]) fun r hr=>by
  rw[List.mem_singleton.1 hr];exact hsx)
 unfold qH at this ⊢
 simpa using this
theorem ziL (rows:List (List C)) (i c:Nat) (hk:∀ r∈rows,r.length=6) (hs:ji rows) (hl:rows.length<=100000) (hi:i<rows.length) (hc:rows.length<=c) (hcm:c<=9223372036854775807) :
  Mc Tryz.prog G 269 [.bs 0 0 6 rows.length c,.sc (.int .i64 i),.sc (.int .i64 ((i:Int)+1))] [qH 6 rows c] 0 (.bs 0 0 6 (rows.length-1) c) [qH 6 (rows.take i++rows.drop (i+1)) c] 0:=by
 refine foB (fun j=>if j=1000000+22 then [true,true] else if j=5 then [false,false,false,false,false,false,true,false] else []) Tryz.func269 ?_;dsimp only[Tryz.f269]
 have h1:((i:Int)=(i:Int)+1)=False:=eq_false (by omega)
 have hbl:=Yc hk hc
 have hfl:=zN hk
 have hpre:(qH 6 rows c).take rows.flatten.length=rows.flatten:=by unfold qH;rw[List.take_left]
 have hlen:(rows.take i++rows.drop (i+1)).length=rows.length-1:=by simp;omega
 have hki:∀ r∈rows.take i++rows.drop (i+1),r.length=6:=fun r hr=>by
  rcases List.mem_append.1 hr with hr | hr
  ·exact hk r (List.mem_of_mem_take hr)
  ·exact hk r (List.mem_of_mem_drop hr)
 have hsi:ji (rows.take i++rows.drop (i+1)):=fun r hr=>by
  rcases List.mem_append.1 hr with hr | hr
  ·exact hs r (List.mem_of_mem_take hr)
  ·exact hs r (List.mem_of_mem_drop hr)
 have hbp:=QK (c:=c) (i:=i+1) hk hi
 push_cast -dsimp [h1]
 repeat refine an ?_
 have hxl:(List.drop ((i+1)*6) rows.flatten).length=(rows.length-(i+1))*6:=by rw[List.length_drop,hfl];omega
 refine Z7 Zz ZH (xh rfl (by rw[hbl];omega)) rfl (by decide) rfl (by rw[hbp,hxl]) rfl (by rw[hbl];omega) (by omega) (by omega) (by omega) (fun _=>?_) (fun h=>absurd h (by omega))
 rw[hbp]
 have e1:i+(rows.length-(i+1))=rows.length-1:=by omega
 rw[e1]
 generalize hB1:spl (qH 6 rows c) (0+i*6) (List.drop ((i+1)*6) rows.flatten)=B1
 have hl1:B1.length=c*6:=by rw[←hB1,ZC (by rw[hbl,hxl];omega),hbl]
 push_cast -dsimp
 repeat refine an ?_
 refine zmg Zz ZH rfl rfl (by decide) rfl (by rw[hl1];omega) (fun B2 Z hB2 hZ hl2=>?_)
 rw[hl1]at hl2
 push_cast -dsimp
 refine ⟨[],rfl,rfl,?_,by push_cast -dsimp [zb,za,CLe,zd]⟩
 push_cast -dsimp [zb,za,CLe,zd]
 refine Y8 hki hsi (by rw[hlen];omega) hl2 ?_
 have hg:=zm1 (cs:=qH 6 rows c) (L:=rows.flatten) (Z:=Z) (p:=i*6) (q:=(i+1)*6) (n:=(rows.length-1)*6) (by omega) (by omega) hpre (by omega) (by omega) (by rw[hZ];omega)
 rw[hlen,hB2,←hB1,List.flatten_append,←ke hk,←Um hk,←hg,Nat.zero_add]
end
end
section
structure z8 where
 name:List UInt8
 ino:Int
deriving DecidableEq,Inhabited
structure zn where
 ino:Int
 kind:Int
 links:Int
 data:List UInt8
 parent:Int
 es:List z8
deriving DecidableEq,Inhabited
def qh (xs:List zn):Prop:=xs.Pairwise fun a b=>a.ino<b.ino
def zt (n:Int) (xs:List zn):Bool:=xs.any fun x=>x.ino==n
def qZ (n:Int) (xs:List zn):Nat:=(xs.filter fun x=>decide (x.ino<n)).length
def zU (n:Int) (xs:List zn):List zn:=xs.filter fun x=>x.ino != n
def QF (n:Int) (xs:List zn):Option zn:=xs.find? fun x=>x.ino==n
def ZE (x:zn):List zn->List zn
 | []=>[x]
 | y :: r=>if x.ino<y.ino then x :: y :: r else y :: ZE x r
def jd (x:zn) (xs:List zn):List zn:=ZE x (zU x.ino xs)
theorem Gb (n:Int):∀ (xs:List zn) (i:Nat),i<=xs.length->(∀ t (h:t<xs.length),t<i->xs[t].ino<n)->(∀ t (h:t<xs.length),i<=t->n<=xs[t].ino)->qZ n xs=i
 | [],i,h,_,_=>by simp at h;simp[qZ,h]
 | x :: r,0,_,_,h2=>by
  have hx:n<=x.ino:=h2 0 (by simp) (Nat.le_refl _)
  have ih:=Gb n r 0 (Nat.zero_le _) (fun t h h'=>absurd h' (Nat.not_lt_zero _)) (fun t h _=>h2 (t+1) (by simp;omega) (Nat.zero_le _))
  unfold qZ at ih ⊢
  rw[List.filter_cons_of_neg (by simp;omega)]
  exact ih
 | x :: r,i+1,h,h1,h2=>by
  have hx:x.ino<n:=h1 0 (by simp) (Nat.succ_pos _)
  have ih:=Gb n r i (by simpa using h) (fun t h h'=>h1 (t+1) (by simp;omega) (by omega)) (fun t h h'=>h2 (t+1) (by simp;omega) (by omega))
  unfold qZ at ih ⊢
  rw[List.filter_cons_of_pos (by simp;omega),List.length_cons,ih]
theorem zkf (n:Int) (xs:List zn) (i:Nat) (hi:i<xs.length) (h1:∀ t (h:t<xs.length),t<i->xs[t].ino<n) (h2:n<=xs[i].ino) (hR:qh xs):zt n xs=decide (xs[i].ino=n):=by
 by_cases h:xs[i].ino=n
 ·rw[decide_eq_true h]
  exact List.any_eq_true.2 ⟨xs[i],List.getElem_mem hi,by simp[h]⟩
 ·rw[decide_eq_false h]
  apply Bool.eq_false_iff.2
  intro hh
  obtain ⟨y,hy,e⟩:=List.any_eq_true.1 hh
  obtain ⟨t,ht,rfl⟩:=List.getElem_of_mem hy
  have e:xs[t].ino=n:=by simpa using e
  rcases Nat.lt_trichotomy t i with h3 | h3 | h3
  ·have:=h1 t ht h3;omega
  ·subst h3;exact h e
  ·have:=(List.pairwise_iff_getElem.1 hR) i t hi ht h3;omega
theorem ze4 (n:Int) (xs:List zn) (h1:∀ t (h:t<xs.length),xs[t].ino<n):zt n xs=false:=by
 apply Bool.eq_false_iff.2
 intro hh
 obtain ⟨y,hy,e⟩:=List.any_eq_true.1 hh
 obtain ⟨t,ht,rfl⟩:=List.getElem_of_mem hy
 have e:xs[t].ino=n:=by simpa using e
 have:=h1 t ht
 omega
theorem GL {n:Int} {xs:List zn} (h:zt n xs=false):QF n xs=none:=by
 unfold QF zt at *
 rw[List.find?_eq_none]
 intro x hx hh
 rw[List.any_eq_false]at h
 exact h x hx hh
theorem za0 (n:Int) (xs:List zn) (hR:qh xs):∃ i,i<=xs.length/\(∀ t (h:t<xs.length),t<i->xs[t].ino<n)/\(∀ t (h:t<xs.length),i<=t->n<=xs[t].ino):=by
 induction xs with
 | nil=>exact ⟨0,Nat.le_refl _,fun t h=>absurd h (Nat.not_lt_zero _),fun t h=>absurd h (Nat.not_lt_zero _)⟩
 | cons x r ih =>
  by_cases hx:x.ino<n
  ·obtain ⟨i,h1,h2,h3⟩:=ih (List.pairwise_cons.1 hR).2
   refine ⟨i+1,by simp;omega,fun t h ht=>?_,fun t h ht=>?_⟩
   ·cases t with
    | zero=>exact hx
    | succ t=>exact h2 t (by simpa using h) (by omega)
   ·cases t with
    | zero=>omega
    | succ t=>exact h3 t (by simpa using h) (by omega)
  ·refine ⟨0,Nat.zero_le _,fun t h ht=>absurd ht (Nat.not_lt_zero _),fun t h _=>?_⟩
   cases t with
   | zero=>simp;omega
   | succ t =>
    have:=(List.pairwise_cons.1 hR).1 (r[t]'(by simpa using h)) (List.getElem_mem _)
    simp;omega
theorem zgG (n:Int) (xs:List zn):qZ n xs<=xs.length:=List.length_filter_le _ _
theorem zcI {n:Int} {xs:List zn} (hR:qh xs):(∀ t (h:t<xs.length),t<qZ n xs->xs[t].ino<n)/\(∀ t (h:t<xs.length),qZ n xs<=t->n<=xs[t].ino):=by
 obtain ⟨i,h1,h2,h3⟩:=za0 n xs hR
 rw[Gb n xs i h1 h2 h3]
 exact ⟨h2,h3⟩
theorem zhn {n:Int} {xs:List zn} (hR:qh xs) (h:zt n xs=true):∃ hlt:qZ n xs<xs.length,xs[qZ n xs].ino=n:=by
 obtain ⟨h2,h3⟩:=zcI (n:=n) hR
 by_cases hlt:qZ n xs<xs.length
 ·refine ⟨hlt,?_⟩
  have:=zkf n xs _ hlt h2 (h3 _ hlt (Nat.le_refl _)) hR
  rw[h]at this
  exact of_decide_eq_true this.symm
 ·have:=ze4 n xs (fun t h=>h2 t h (by omega))
  rw[h]at this;cases this
theorem HU {n:Int} {xs:List zn} (hR:qh xs) (h:zt n xs=true):∃ hlt:qZ n xs<xs.length,QF n xs=some xs[qZ n xs]:=by
 obtain ⟨hlt,he⟩:=zhn hR h
 refine ⟨hlt,?_⟩
 obtain ⟨h2,h3⟩:=zcI (n:=n) hR
 unfold QF
 rw[List.find?_eq_some_iff_getElem]
 exact ⟨by simp[he],_,hlt,rfl,fun j hj=>by have:=h2 j (by omega) hj;simp;omega⟩
theorem j9 {y:zn} {r:List zn}:qh (y :: r)↔(∀ z∈r,y.ino<z.ino)/\qh r:=List.pairwise_cons
theorem XD {n:Int} {y:zn} {r:List zn} (h:y.ino<n):qZ n (y :: r)=qZ n r+1:=by
 unfold qZ
 rw[List.filter_cons_of_pos (by simpa using h),List.length_cons]
theorem U3 {n:Int} {xs:List zn} (h:∀ z∈xs,n<=z.ino):qZ n xs=0:=by
 unfold qZ
 rw[List.length_eq_zero_iff,List.filter_eq_nil_iff]
 intro z hz
 have:=h z hz
 simp;omega
theorem QV {n:Int} {xs:List zn} (h:zt n xs=false):zU n xs=xs:=by
 unfold zU
 rw[List.filter_eq_self]
 intro z hz
 unfold zt at h
 rw[List.any_eq_false]at h
 have:=h z hz
 simpa using this
theorem Qw {n:Int} {y:zn} {r:List zn} (h:y.ino<n):zt n (y :: r)=zt n r:=by
 unfold zt
 rw[List.any_cons,show (y.ino==n)=false by rw[beq_eq_false_iff_ne];omega,Bool.false_or]
theorem UO {n:Int} {xs:List zn} (h:∀ z∈xs,n<z.ino):zt n xs=false:=by
 unfold zt
 rw[List.any_eq_false]
 intro z hz
 have:=h z hz
 simp;omega
theorem Ju {n:Int} {y:zn} {r:List zn} (h:y.ino≠n):zU n (y :: r)=y :: zU n r:=by
 unfold zU
 rw[List.filter_cons_of_pos (by simpa using h)]
theorem Jl {n:Int} {y:zn} {r:List zn} (h:y.ino=n):zU n (y :: r)=zU n r:=by
 unfold zU
 rw[List.filter_cons_of_neg (by simpa using h)]
theorem uF {n:Int}:∀ {xs:List zn},qh xs->zt n xs=true->xs.take (qZ n xs)++xs.drop (qZ n xs+1)=zU n xs
 | [],_,h=>by cases h
 | y :: r,hR,h=>by
  obtain ⟨h1,h2⟩:=j9.1 hR
  by_cases hy:y.ino<n
  ·rw[XD hy,List.take_succ_cons,List.drop_succ_cons,List.cons_append,uF h2 (by rwa [Qw hy]at h),Ju (by omega)]
  ·have hr0:qZ n (y :: r)=0:=U3 fun z hz=>by
    rcases List.mem_cons.1 hz with rfl | hz
    ·omega
    ·have:=h1 z hz;omega
   by_cases he:y.ino=n
   ·rw[hr0,Jl he,QV (UO fun z hz=>by have:=h1 z hz;omega)];rfl
   ·exfalso
    rw[UO fun z hz=>by
     rcases List.mem_cons.1 hz with rfl | hz
     ·omega
     ·have:=h1 z hz;omega]at h
    cases h
theorem zo7 {x y:zn} {r:List zn} (h:y.ino<x.ino):ZE x (y :: r)=y :: ZE x r:=by
 rw[ZE,if_neg (by omega)]
theorem zkm {x:zn} {xs:List zn} (h:∀ z∈xs,x.ino<z.ino):ZE x xs=x :: xs:=by
 cases xs with
 | nil=>rfl
 | cons y r=>rw[ZE,if_pos (h y List.mem_cons_self)]
theorem Uv {x y:zn} {r:List zn} (h:y.ino<x.ino):jd x (y :: r)=y :: jd x r:=by
 unfold jd
 rw[Ju (by omega),zo7 h]
theorem xW {x:zn}:∀ {xs:List zn},qh xs->zt x.ino xs=true->xs.set (qZ x.ino xs) x=jd x xs
 | [],_,h=>by cases h
 | y :: r,hR,h=>by
  obtain ⟨h1,h2⟩:=j9.1 hR
  by_cases hy:y.ino<x.ino
  ·rw[XD hy,List.set_cons_succ,xW h2 (by rwa [Qw hy]at h),Uv hy]
  ·have hr0:qZ x.ino (y :: r)=0:=U3 fun z hz=>by
    rcases List.mem_cons.1 hz with rfl | hz
    ·omega
    ·have:=h1 z hz;omega
   by_cases he:y.ino=x.ino
   ·unfold jd
    rw[hr0,Jl he,QV (UO fun z hz=>by have:=h1 z hz;omega),zkm fun z hz=>by have:=h1 z hz;omega];rfl
   ·exfalso
    rw[UO fun z hz=>by
     rcases List.mem_cons.1 hz with rfl | hz
     ·omega
     ·have:=h1 z hz;omega]at h
    cases h
theorem vE {x:zn}:∀ {xs:List zn},qh xs->zt x.ino xs=false->xs.take (qZ x.ino xs)++x :: xs.drop (qZ x.ino xs)=jd x xs
 | [],_,_=>rfl
 | y :: r,hR,h=>by
  obtain ⟨h1,h2⟩:=j9.1 hR
  by_cases hy:y.ino<x.ino
  ·rw[XD hy,List.take_succ_cons,List.drop_succ_cons,List.cons_append,vE h2 (by rwa [Qw hy]at h),Uv hy]
  ·have hne:y.ino≠x.ino:=by
    intro e
    unfold zt at h
    rw[List.any_cons,e]at h
    simp at h
   have hr0:qZ x.ino (y :: r)=0:=U3 fun z hz=>by
    rcases List.mem_cons.1 hz with rfl | hz
    ·omega
    ·have:=h1 z hz;omega
   unfold jd
   rw[hr0,QV h,zkm fun z hz=>by
    rcases List.mem_cons.1 hz with rfl | hz
    ·omega
    ·have:=h1 z hz;omega]
   rfl
theorem zhW {n:Int} {xs:List zn}:∀ x∈zU n xs,x∈xs:=fun x h=>(List.mem_filter.1 h).1
theorem HS {x:zn}:∀ {xs:List zn} {z:zn},z∈ZE x xs↔z=x∨z∈xs
 | [],z=>by simp[ZE]
 | y :: r,z=>by
  rw[ZE]
  split
  ·simp
  ·rw[List.mem_cons,HS,List.mem_cons]
   constructor
   ·rintro (h | h | h)<;>simp[h]
   ·rintro (h | h | h)<;>simp[h]
theorem zl5 {x:zn} {xs:List zn} {z:zn} (h:z∈jd x xs):z=x∨z∈xs:=by
 rcases HS.1 h with h | h
 ·exact .inl h
 ·exact .inr (zhW _ h)
theorem kT {n:Int} {xs:List zn} (h:qh xs):qh (zU n xs):=List.Pairwise.filter _ h
theorem NE {x:zn}:∀ {xs:List zn},qh xs->(∀ z∈xs,z.ino≠x.ino)->qh (ZE x xs)
 | [],_,_=>by simp[ZE,qh]
 | y :: r,h,hne=>by
  obtain ⟨h1,h2⟩:=j9.1 h
  have hy:=hne y List.mem_cons_self
  rw[ZE]
  split
  ·next hlt =>
   refine j9.2 ⟨fun z hz=>?_,h⟩
   rcases List.mem_cons.1 hz with rfl | hz
   ·exact hlt
   ·have:=h1 z hz;omega
  ·next hlt =>
   refine j9.2 ⟨fun z hz=>?_,NE h2 fun z hz=>hne z (List.mem_cons_of_mem _ hz)⟩
   rcases HS.1 hz with rfl | hz
   ·omega
   ·exact h1 z hz
theorem Jn {x:zn} {xs:List zn} (h:qh xs):qh (jd x xs):=NE (kT h) fun z hz=>by
 have:=(List.mem_filter.1 hz).2
 simpa using this
theorem VQ {n:Int} {xs:List zn}:(zU n xs).length<=xs.length:=List.length_filter_le _ _
end
section
open CA CB
open Go.RowKit
abbrev zj5 (e:z8):List C:=[.str e.name,.sc (.int .i64 e.ino)]
abbrev z6 (es:List z8):List (List C):=es.map zj5
abbrev JG (x:zn):List C:=[.sc (.int .i64 x.ino),.sc (.int .i64 x.kind),.sc (.int .i64 x.links),.str x.data,.sc (.int .i64 x.parent),.sl 2 (z6 x.es)]
abbrev zq (xs:List zn):List (List C):=xs.map JG
structure FsV where
 maxI:Int
 maxB:Int
 next:Int
 xs:List zn
deriving DecidableEq,Inhabited
abbrev fsC (f:FsV):List C:=[.sc (.int .i64 f.maxI),.sc (.int .i64 f.maxB),.sc (.int .i64 f.next),.sl 6 (zq f.xs)]
theorem qJ (xs:List zn) (i:Nat) (h:i<xs.length):(zq xs)[i]?=some (JG xs[i]):=by simp[List.getElem?_map,List.getElem?_eq_getElem h]
theorem Jd (xs:List z8) (i:Nat) (h:i<xs.length):(z6 xs)[i]?=some (zj5 xs[i]):=by simp[List.getElem?_map,List.getElem?_eq_getElem h]
def kH:zn:=⟨0,0,0,[],0,[]⟩
def ze (n:Int) (xs:List zn):zn:=(QF n xs).getD kH
def V1 (a b:Int):Int:=if a<b then -1 else if b<a then 1 else 0
section
variable {G:zo}
theorem zfj (a:Int):Fun Tryz.prog G 158 [.sc (.int .i64 a)] (.sc (.bool false)) 0:=by
 refine fon Tryz.func158 ?_;dsimp only[Tryz.f158]
 push_cast -dsimp
 exact dn
theorem vD (a b:Int):Fun Tryz.prog G 120 [.sc (.int .i64 a),.sc (.int .i64 b)] (.sc (.int .i64 (V1 a b))) 0:=by
 refine fon Tryz.func120 ?_;dsimp only[Tryz.f120]
 push_cast -dsimp
 refine cl (zfj a) ?_;push_cast -dsimp
 refine cl (zfj b) ?_;push_cast -dsimp
 refine br (fun h=>?_) (fun h=>?_)
 ·have h:=of_decide_eq_true h
  push_cast -dsimp
  exact ⟨[],rfl,rfl,by (push_cast -dsimp [zb,za,CLe,zd];simp[V1,h])⟩
 ·have h:=of_decide_eq_false h
  push_cast -dsimp
  refine br (fun h1=>?_) (fun h1=>?_)
  ·have h1:=of_decide_eq_true h1
   push_cast -dsimp
   exact ⟨[],rfl,rfl,by (push_cast -dsimp [zb,za,CLe,zd];simp[V1,h,h1])⟩
  ·have h1:=of_decide_eq_false h1
   push_cast -dsimp
   exact ⟨[],rfl,rfl,by (push_cast -dsimp [zb,za,CLe,zd];simp[V1,h,h1])⟩
theorem zgE (x:zn) (n:Int):Fun Tryz.prog G 119 [.agg (JG x),.sc (.int .i64 n)] (.sc (.int .i64 (V1 x.ino n))) 0:=by
 refine fon Tryz.func119 ?_;dsimp only[Tryz.f119]
 push_cast -dsimp
 refine cl (vD x.ino n) ?_;push_cast -dsimp
 exact dn
theorem yg (xs:List zn) (n:Int) (hl:xs.length<=100000) (hR:qh xs) :
  Fun Tryz.prog G 118 [.sl 6 (zq xs),.sc (.int .i64 n),.clo (.func 119) [] []] (.tup [.sc (.int .i64 (qZ n xs:Nat)),.sc (.bool (zt n xs))]) 0:=by
 refine fon Tryz.func118 ?_;dsimp only[Tryz.f118]
 push_cast -dsimp
 refine loop (fun p:Nat×Nat=>⟨[(0,.sl 6 (zq xs)),(1,.sc (.int .i64 n)),(2,.clo (.func 119) [] []),(8,.sc (.int .i64 (xs.length:Nat))),(9,.sc (.int .i64 p.1)),(10,.sc (.int .i64 p.2))],[],0,0⟩)
  (fun p=>p.1<=p.2/\p.2<=xs.length/\(∀ t (h:t<xs.length),t<p.1->xs[t].ino<n)/\∀ t (h:t<xs.length),p.2<=t->n<=xs[t].ino) (fun p=>p.2-p.1) (0,xs.length) ⟨Nat.zero_le _,Nat.le_refl _,fun t _ h=>by (simp at h),fun t h h'=>by (dsimp only at h';omega)⟩ ?_ ?_
 ·exact wk (by push_cast -dsimp [zb,za,CLe,zd,List.length_map])
 ·rintro ⟨i,j⟩ ⟨h1,h2,h3,h4⟩
  dsimp only at h1 h2 h3 h4 ⊢
  by_cases h:i<j
  ·obtain ⟨m,hm⟩:∃ m,m=(i+j) / 2:=⟨_,rfl⟩
   have hmi:((i:Int)+(j:Int)) / 2=(m:Int):=by omega
   have hml:m<xs.length:=by omega
   have hat:=qJ xs m hml
   push_cast -dsimp [h,hmi,hat]
   repeat refine an ?_
   refine cl (zgE xs[m] n) ?_;push_cast -dsimp
   by_cases hc:xs[m].ino<n
   ·have hcv:V1 xs[m].ino n = -1:=by simp[V1,hc]
    push_cast -dsimp [hcv]
    repeat refine an ?_
    refine ⟨(m+1,j),⟨by omega,h2,fun t ht hlt=>?_,h4⟩,by dsimp only;omega,wk⟩
    dsimp only at hlt
    rcases Nat.lt_or_ge t m with q | q
    ·have:=(List.pairwise_iff_getElem.1 hR) t m ht hml q;omega
    ·have:t=m:=by omega
     subst this;exact hc
   ·have hcv:(V1 xs[m].ino n<0)=False:=eq_false (by unfold V1;rw[if_neg hc];split<;>omega)
    push_cast -dsimp [hcv]
    repeat refine an ?_
    refine ⟨(i,m),⟨by omega,by omega,h3,fun t ht hge=>?_⟩,by dsimp only;omega,wk⟩
    dsimp only at hge
    rcases Nat.lt_or_ge m t with q | q
    ·have:=(List.pairwise_iff_getElem.1 hR) m t hml ht q;omega
    ·have:t=m:=by omega
     subst this;omega
  ·have hij:i=j:=by omega
   subst hij
   have hrk:=Gb n xs i h2 h3 h4
   push_cast -dsimp [h]
   refine br (fun hx=>?_) (fun hx=>?_)
   ·have hx:i<xs.length:=by simpa using hx
    have hat:=qJ xs i hx
    have hh:=zkf n xs i hx h3 (h4 i hx (Nat.le_refl _)) hR
    push_cast -dsimp [hx,hat]
    repeat refine an ?_
    refine cl (zgE xs[i] n) ?_;push_cast -dsimp
    have hcv:decide (V1 xs[i].ino n=0)=zt n xs:=by
     rw[hh]
     have:=h4 i hx (Nat.le_refl _)
     unfold V1
     rw[if_neg (by omega)]
     split
     ·rw[decide_eq_false (by omega),decide_eq_false (by omega)]
     ·rw[decide_eq_true (by rfl),decide_eq_true (by omega)]
    push_cast -dsimp [hcv]
    exact dn (by push_cast -dsimp [zb,za,CLe,zd,hrk])
   ·have hx:¬i<xs.length:=by simpa using hx
    have hh:=ze4 n xs fun t ht=>h3 t ht (by omega)
    push_cast -dsimp [hx]
    exact dn (by push_cast -dsimp [zb,za,CLe,zd,hrk,hh])
theorem zfL (f:FsV) (n:Int) (hl:f.xs.length<=100000) (hR:qh f.xs):Fun Tryz.prog G 65 [.agg (fsC f),.sc (.int .i64 n)] (.tup [.sc (.int .i64 (qZ n f.xs:Nat)),.sc (.bool (zt n f.xs))]) 0:=by
 refine fon Tryz.func65 ?_;dsimp only[Tryz.f65]
 push_cast -dsimp
 refine cl (yg f.xs n hl hR) ?_;push_cast -dsimp
 exact dn
end
end
section
open Go.RowKit Go.ChangeMaps Go.ChangeShapes Go.WideShapes Go.Deep Go.Joins
def NJ (W:World):Env:=⟨W,fun _ _=>False,fun _=>False⟩
theorem Fun.answers {P:Program} {G:zo} {f:FuncId} {args:List C} {u:Value} {n:Nat} (h:Fun P G f args (.sc u) n) {W:World} {vs:List Value} (hg:Xp G (NJ W)) (ha:zu (NJ W) zE args vs) :
  Calls P f vs.toArray W fun e w'=>e = .returned u/\Below W.heap.size W w':=by
 refine (h.2 (NJ W) vs hg ha).mono ?_
 rintro e w' ⟨v,R',L',rfl,rfl,st,hr⟩
 rw[zm]at hr
 subst hr
 exact ⟨rfl,st.below⟩
section
variable {H:Type} {enc:TypeId×Value->H} {P:Program} {W:World}
def Opn (enc:TypeId×Value->H) (P:Program) (W:World) (t:TypeId) (Q:C->Prop):Prop:=
 ∀ (fuel:Nat) (cs:List Value) (x:DataW H×List MemPlace),DataW.trod enc P W 0 (fun _=>true) true fuel t cs=some x->∃ v c,cs = [v]/\Q c/\Rep (NJ W) zE c v/\v.oneCell'=true
def jb (enc:TypeId×Value->H) (P:Program) (W:World) (t:TypeId) (k:Nat) (Q:List C->Prop):Prop:=
 ∀ (fuel:Nat) (cs:List Value) (x:DataW H×List MemPlace),DataW.trod enc P W 0 (fun _=>true) true fuel t cs=some x ->
  ∃ row,Q row/\row.length=k/\cs.length=k/\∀ (j:Nat) c v,row[j]?=some c->cs[j]?=some v->Rep (NJ W) zE c v/\v.oneCell'=true
theorem Opn.int {t:TypeId} {k:IntKind} (ht:P.underlying t=some (.int k)):Opn enc P W t fun c=>∃ n,c = .sc (.int k n)/\(Lit.int k n).wf=true:=fun fuel cs x h=>by
 obtain ⟨n,rfl,_,hw⟩:=DataW.trod_int ht h
 exact ⟨_,_,rfl,⟨n,rfl,hw⟩,zm.2 rfl,rfl⟩
theorem Opn.bool {t:TypeId} (ht:P.underlying t=some .bool):Opn enc P W t fun c=>∃ b,c = .sc (.bool b):=fun fuel cs x h=>by
 obtain ⟨n,rfl,_⟩:=DataW.trod_bool ht h
 exact ⟨_,_,rfl,⟨n,rfl⟩,zm.2 rfl,rfl⟩
theorem Opn.str {t:TypeId} (ht:P.underlying t=some .string):Opn enc P W t fun c=>∃ l:List UInt8,c = .str l/\l.length<=maxLen:=fun fuel cs x h=>by
 obtain ⟨s,rfl,_,hs⟩:=DataW.trod_string ht h
 exact ⟨_,_,rfl,⟨s.data.toList,rfl,by rw[Array.length_toList];exact hs⟩,zQ.2 (by cases s;simp),rfl⟩
theorem jb.one {t:TypeId} {Q:C->Prop} (h:Opn enc P W t Q):jb enc P W t 1 fun row=>∃ c,row = [c]/\Q c:=fun fuel cs x hx=>by
 obtain ⟨v,c,rfl,hq,hr,ho⟩:=h fuel cs x hx
 refine ⟨[c],⟨c,rfl,hq⟩,rfl,rfl,fun j c' v' h1 h2=>?_⟩
 cases j with
 | zero=>cases h1;cases h2;exact ⟨hr,ho⟩
 | succ j=>cases h1
theorem Qm {α:Type} {Q:Nat->α->Prop}:∀ n:Nat,(∀ i,i<n->∃ x,Q i x)->∃ l:List α,l.length=n/\∀ i (h:i<l.length),Q i l[i]
 | 0,_=>⟨[],rfl,fun i h=>absurd h (Nat.not_lt_zero _)⟩
 | n+1,h=>by
  obtain ⟨l,hl,hq⟩:=Qm n fun i hi=>h i (by omega)
  obtain ⟨x,hx⟩:=h n (by omega)
  refine ⟨l++[x],by simp[hl],fun i hi=>?_⟩
  rcases Nat.lt_or_ge i n with h1 | h1
  ·rw[List.getElem_append_left (by omega)];exact hq i (by omega)
  ·have:i=n:=by simp[hl]at hi;omega
   subst this
   rw[List.getElem_append_right (by omega)]
   simpa [hl] using hx
theorem jb.struct {t:TypeId} {fs:Array Field} {Qs:Nat->C->Prop} (hs:P.underlying t=some (.struct fs)) (hone:oneCellFields P fs=true) (hC:P.cellsOf t=fs.size)
  (h:∀ (j:Nat) f,fs[j]?=some f->Opn enc P W f.type (Qs j)):jb enc P W t fs.size fun row=>row.length=fs.size/\∀ (j:Nat) c,row[j]?=some c->Qs j c:=fun fuel cs x hx=>by
 obtain ⟨ys,n',hn',hy,hlen,hyl,hf⟩:=DataW.trod_struct hs hx
 rw[hC]at hlen
 obtain ⟨row,hl,hq⟩:=Qm (Q:=fun j (c:C)=>Qs j c/\∃ v,cs[j]?=some v/\Rep (NJ W) zE c v/\v.oneCell'=true) fs.size (fun j hj=>by
  have hfj:fs[j]?=some fs[j]:=Array.getElem?_eq_getElem hj
  obtain ⟨ho,hk⟩:=hone_of hone j _ hfj
  have h1:=hf j _ hfj
  rw[ho,hk]at h1
  have hone':(cs.drop j).take 1 = [cs[j]'(by omega)]:=by
   rw[List.drop_eq_getElem_cons (by omega)]
   rfl
  rw[hone',List.getElem?_eq_getElem (by omega)]at h1
  obtain ⟨v,c,e,hq,hr,hoc⟩:=h j _ hfj _ _ _ h1
  cases e
  exact ⟨c,hq,_,List.getElem?_eq_getElem (by omega),hr,hoc⟩)
 refine ⟨row,⟨hl,fun j c hj=>?_⟩,hl,hlen,fun j c v h1 h2=>?_⟩
 ·obtain ⟨hj',rfl⟩:=List.getElem?_eq_some_iff.1 hj
  exact (hq j hj').1
 ·obtain ⟨hj',rfl⟩:=List.getElem?_eq_some_iff.1 h1
  obtain ⟨_,v',e,hr,ho⟩:=hq j hj'
  rw[h2]at e;cases e
  exact ⟨hr,ho⟩
theorem Opn.slice {t e:TypeId} {k:Nat} {Q:List C->Prop} (ht:P.underlying t=some (.slice e)) (hC:P.cellsOf e=k) (hk:0<k) (h:jb enc P W e k Q):Opn enc P W t fun c=>∃ rows,c = .sl k rows/\rows.length<=maxLen/\∀ r∈rows,Q r:=fun fuel cs x hx=>by
 rcases open_slice ht hx with h0 | ⟨a,len,cap,m,n,D,Pl,hcs,hb,hl,hm,hmm,hx,hi⟩
 ·exact ⟨_,.sl k [],h0.1,⟨[],rfl,Nat.zero_le _,fun r hr=>by cases hr⟩,Hl.2 ⟨none,0,rfl,Nat.le_refl _,Nat.zero_le _,.inl rfl⟩,rfl⟩
 ·simp only[if_true]at hmm
  subst hmm
  obtain ⟨rows,hrl,hq⟩:=Qm (Q:=fun i (row:List C)=>Q row/\row.length=k/\∀ (j:Nat) c,row[j]?=some c->∃ v,W.cell? (a.add (i*k+j))=some v/\Rep (NJ W) zE c v/\v.oneCell'=true) len (fun i hlt=>by
   obtain ⟨cs',hc,ht'⟩:=hi i (by omega)
   rw[hC]at hc
   obtain ⟨row,hq,hl1,hl2,hr⟩:=h _ _ _ ht'
   obtain ⟨_,hcl,hat⟩:=World.cells?_some hc
   refine ⟨row,hq,hl1,fun j c hj=>?_⟩
   have hjl:j<k:=by have:=(List.getElem?_eq_some_iff.1 hj).1;omega
   have hv:cs'[j]?=some (cs'[j]'(by omega)):=List.getElem?_eq_getElem (by omega)
   obtain ⟨hr1,hr2⟩:=hr j c _ hj hv
   refine ⟨_,?_,hr1,hr2⟩
   rw[←Go.Deep.add_add,hat j hjl,hv])
  refine ⟨_,.sl k rows,hcs,⟨rows,rfl,by omega,fun r hr=>?_⟩,?_,rfl⟩
  ·obtain ⟨i,hi',rfl⟩:=List.getElem_of_mem hr
   exact (hq i hi').1
  ·refine Hl.2 ⟨some a,m,by rw[hrl],by omega,by omega,?_⟩
   by_cases h0:rows = []
   ·exact .inl h0
   ·have hpos:0<rows.length:=List.length_pos_iff.2 h0
    obtain ⟨b,off,spot⟩:=a
    obtain ⟨_,hl0,h00⟩:=hq 0 hpos
    obtain ⟨v0,hc0,_⟩:=h00 0 ((rows[0]'hpos)[0]'(by omega)) (List.getElem?_eq_getElem _)
    have hspot:spot=none:=by simpa [Addr.add] using World.cell?_spot hc0
    subst hspot
    refine .inr ⟨b,off,rfl,qK fun i row hrow=>?_⟩
    obtain ⟨hi',rfl⟩:=List.getElem?_eq_some_iff.1 hrow
    obtain ⟨_,hlr,hcr⟩:=hq i hi'
    refine ⟨hlr,z7 fun j c hj=>?_⟩
    obtain ⟨v,h1,h2,h3⟩:=hcr j c hj
    rw[Addr.add_lit]at h1
    exact ⟨v,by rw[Nat.add_assoc];exact h1,fun hf=>hf,h2,h3⟩
theorem Opn.arg {r:Reach} {b0:Nat} {t:TypeId} {Q:C->Prop} {v:Value} {d:DataW H} {p:List MemPlace} (h:Opn enc P W t Q) (hv:v.cells = #[v]) (hd:DataW.Trod enc P W 0 (fun _=>true) true t v d p):∃ c,Q c/\Rep (NJ W) zE c v:=by
 obtain ⟨fuel,hf⟩:=hd
 rw[hv]at hf
 obtain ⟨v',c,e,hq,hr,_⟩:=h _ _ _ hf
 cases e
 exact ⟨c,hq,hr⟩
theorem jb.arg {r:Reach} {b0:Nat} {t:TypeId} {fs:Array Field} {k:Nat} {Q:List C->Prop} {v:Value} {d:DataW H} {p:List MemPlace} (h:jb enc P W t k Q) (hs:P.underlying t=some (.struct fs)) (hval:Value.okWide P W r b0 t v)
  (hd:DataW.Trod enc P W 0 (fun _=>true) true t v d p):∃ row,Q row/\Rep (NJ W) zE (.agg row) v:=by
 obtain ⟨cs,rfl,hsz⟩:=okWide_struct hs hval
 obtain ⟨fuel,hf⟩:=hd
 obtain ⟨row,hq,h1,h2,hr⟩:=h _ _ _ hf
 refine ⟨row,hq,jS.2 ⟨cs,rfl,JU ?_ fun i c v hc hv=>(hr i c v hc hv).1⟩⟩
 have:cs.toList.length=k:=h2
 omega
end
end
section
open Go.RowKit Go.ChangeMaps Go.ChangeShapes Go.WideShapes Go.Deep Go.Joins
theorem HY {α:Type} {f:α->List C} {q:α->Prop}:∀ {rows:List (List C)},(∀ r∈rows,∃ a,r=f a/\q a)->∃ xs:List α,rows=xs.map f/\∀ x∈xs,q x
 | [],_=>⟨[],rfl,fun x h=>by cases h⟩
 | r :: rows,h=>by
  obtain ⟨xs,rfl,hq⟩:=HY fun r' hr=>h r' (List.mem_cons_of_mem _ hr)
  obtain ⟨o,rfl,ho⟩:=h r List.mem_cons_self
  exact ⟨o :: xs,rfl,fun x hx=>by
   rcases List.mem_cons.1 hx with rfl | hx
   ·exact ho
   ·exact hq x hx⟩
section
variable {H:Type} {enc:TypeId×Value->H} {W:World}
theorem zm9:jb enc Tryz.prog W 100 2 fun row=>∃ o:z8,row=zj5 o/\o.name.length<=maxLen:=fun fuel cs x hx=>by
 obtain ⟨row,⟨hl,hq⟩,h1,h2,h3⟩:=jb.struct (W:=W) (enc:=enc) (Qs:=fun j c=>match j with | 0=>∃ l:List UInt8,c = .str l/\l.length<=maxLen | 1=>∃ n,c = .sc (.int .i64 n)/\(Lit.int .i64 n).wf=true | _=>True) Tryz.underlying100 (by kernel_rfl) (by kernel_rfl) (fun j f hj=>by
  match j,hj with
  | 0,hj=>cases hj;exact Opn.str Tryz.underlying9
  | 1,hj=>cases hj;exact Opn.int Tryz.underlying3
  | j+2,hj=>simp at hj) fuel cs x hx
 match row,h1,hq,h3 with
 | [c0,c1],_,hq,h3 =>
  obtain ⟨a,rfl,ha⟩:=hq 0 c0 rfl
  obtain ⟨k,rfl,_⟩:=hq 1 c1 rfl
  exact ⟨_,⟨⟨a,k⟩,rfl,ha⟩,rfl,h2,h3⟩
theorem zhk:Opn enc Tryz.prog W 51 fun c=>∃ xs:List z8,c = .sl 2 (z6 xs)/\xs.length<=maxLen/\∀ x∈xs,x.name.length<=maxLen:=fun fuel cs x hx=>by
 obtain ⟨v,c,rfl,⟨rows,rfl,hl,hr⟩,h1,h2⟩:=Opn.slice (W:=W) (enc:=enc) Tryz.underlying51 (show Tryz.prog.cellsOf 100=2 by kernel_rfl) (by decide) zm9 fuel cs x hx
 obtain ⟨xs,rfl,hq⟩:=HY hr
 exact ⟨v,_,rfl,⟨xs,rfl,by simpa using hl,hq⟩,h1,h2⟩
def zdt (x:zn):Prop:=x.data.length<=maxLen/\x.es.length<=maxLen/\∀ e∈x.es,e.name.length<=maxLen
theorem zcO:jb enc Tryz.prog W 53 6 fun row=>∃ o:zn,row=JG o/\zdt o:=fun fuel cs x hx=>by
 obtain ⟨row,⟨hl,hq⟩,h1,h2,h3⟩:=jb.struct (W:=W) (enc:=enc) (Qs:=fun j c=>match j with | 0=>∃ n,c = .sc (.int .i64 n)/\(Lit.int .i64 n).wf=true | 1=>∃ n,c = .sc (.int .i64 n)/\(Lit.int .i64 n).wf=true | 2=>∃ n,c = .sc (.int .i64 n)/\(Lit.int .i64 n).wf=true | 3=>∃ l:List UInt8,c = .str l/\l.length<=maxLen | 4=>∃ n,c = .sc (.int .i64 n)/\(Lit.int .i64 n).wf=true | 5=>∃ xs:List z8,c = .sl 2 (z6 xs)/\xs.length<=maxLen/\∀ x∈xs,x.name.length<=maxLen | _=>True) Tryz.underlying53 (by kernel_rfl) (by kernel_rfl) (fun j f hj=>by
  match j,hj with
  | 0,hj=>cases hj;exact Opn.int Tryz.underlying3
  | 1,hj=>cases hj;exact Opn.int Tryz.underlying3
  | 2,hj=>cases hj;exact Opn.int Tryz.underlying3
  | 3,hj=>cases hj;exact Opn.str Tryz.underlying9
  | 4,hj=>cases hj;exact Opn.int Tryz.underlying3
  | 5,hj=>cases hj;exact zhk
  | j+6,hj=>simp at hj) fuel cs x hx
 match row,h1,hq,h3 with
 | [c0,c1,c2,c3,c4,c5],_,hq,h3 =>
  obtain ⟨a,rfl,_⟩:=hq 0 c0 rfl
  obtain ⟨b,rfl,_⟩:=hq 1 c1 rfl
  obtain ⟨c,rfl,_⟩:=hq 2 c2 rfl
  obtain ⟨d,rfl,hd⟩:=hq 3 c3 rfl
  obtain ⟨e,rfl,_⟩:=hq 4 c4 rfl
  obtain ⟨f,rfl,hf⟩:=hq 5 c5 rfl
  exact ⟨_,⟨⟨a,b,c,d,e,f⟩,rfl,hd,hf⟩,rfl,h2,h3⟩
theorem ur:Opn enc Tryz.prog W 22 fun c=>∃ xs:List zn,c = .sl 6 (zq xs)/\xs.length<=maxLen/\∀ x∈xs,zdt x:=fun fuel cs x hx=>by
 obtain ⟨v,c,rfl,⟨rows,rfl,hl,hr⟩,h1,h2⟩:=Opn.slice (W:=W) (enc:=enc) Tryz.underlying22 (show Tryz.prog.cellsOf 53=6 by kernel_rfl) (by decide) zcO fuel cs x hx
 obtain ⟨xs,rfl,hq⟩:=HY hr
 exact ⟨v,_,rfl,⟨xs,rfl,by simpa using hl,hq⟩,h1,h2⟩
theorem zqq:jb enc Tryz.prog W 24 4 fun row=>∃ f:FsV,row=fsC f/\f.xs.length<=maxLen/\∀ x∈f.xs,zdt x:=fun fuel cs x hx=>by
 obtain ⟨row,⟨hl,hq⟩,h1,h2,h3⟩:=jb.struct (W:=W) (enc:=enc) (Qs:=fun j c=>match j with | 0=>∃ n,c = .sc (.int .i64 n)/\(Lit.int .i64 n).wf=true | 1=>∃ n,c = .sc (.int .i64 n)/\(Lit.int .i64 n).wf=true | 2=>∃ n,c = .sc (.int .i64 n)/\(Lit.int .i64 n).wf=true | 3=>∃ xs:List zn,c = .sl 6 (zq xs)/\xs.length<=maxLen/\∀ x∈xs,zdt x | _=>True) Tryz.underlying24 (by kernel_rfl) (by kernel_rfl) (fun j f hj=>by
  match j,hj with
  | 0,hj=>cases hj;exact Opn.int Tryz.underlying3
  | 1,hj=>cases hj;exact Opn.int Tryz.underlying3
  | 2,hj=>cases hj;exact Opn.int Tryz.underlying3
  | 3,hj=>cases hj;exact ur
  | j+4,hj=>simp at hj) fuel cs x hx
 match row,h1,hq,h3 with
 | [c0,c1,c2,c3],_,hq,h3 =>
  obtain ⟨a,rfl,_⟩:=hq 0 c0 rfl
  obtain ⟨b,rfl,_⟩:=hq 1 c1 rfl
  obtain ⟨c,rfl,_⟩:=hq 2 c2 rfl
  obtain ⟨d,rfl,hd⟩:=hq 3 c3 rfl
  exact ⟨_,⟨⟨a,b,c,d⟩,rfl,hd⟩,rfl,h2,h3⟩
end
end
section
open Go
structure zl9 (κ:Type) where
 lt:κ->κ->Bool
 irr:∀ a,lt a a=false
 tr:∀ {a b c},lt a b=true->lt b c=true->lt a c=true
 tot:∀ {a b},lt a b=false->lt b a=false->a=b
theorem XU:∀ a:List UInt8,Op.bytesLess a a=false
 | []=>rfl
 | c :: a=>by
  have h:¬c<c:=by simp
  simp[Op.bytesLess,XU a]
theorem GI:∀ {a b c:List UInt8},Op.bytesLess a b=true->Op.bytesLess b c=true->Op.bytesLess a c=true
 | _,[],_,h,_=>by unfold Op.bytesLess at h;cases h
 | [],y :: b,[],_,h2=>by unfold Op.bytesLess at h2;cases h2
 | [],y :: b,z :: c,_,_=>rfl
 | x :: a,y :: b,[],_,h2=>by unfold Op.bytesLess at h2;cases h2
 | x :: a,y :: b,z :: c,h1,h2=>by
  unfold Op.bytesLess at h1 h2 ⊢
  simp only[Bool.or_eq_true,Bool.and_eq_true,decide_eq_true_eq,beq_iff_eq]at h1 h2 ⊢
  rcases h1 with h1 | ⟨rfl,h1⟩
  ·rcases h2 with h2 | ⟨rfl,h2⟩
   ·exact .inl (UInt8.lt_trans h1 h2)
   ·exact .inl h1
  ·rcases h2 with h2 | ⟨rfl,h2⟩
   ·exact .inl h2
   ·exact .inr ⟨rfl,GI h1 h2⟩
theorem Nr:∀ {a b:List UInt8},Op.bytesLess a b=false->Op.bytesLess b a=false->a=b
 | [],[],_,_=>rfl
 | [],y :: b,h,_=>by unfold Op.bytesLess at h;cases h
 | x :: a,[],_,h=>by unfold Op.bytesLess at h;cases h
 | x :: a,y :: b,h1,h2=>by
  unfold Op.bytesLess at h1 h2
  simp only[Bool.or_eq_false_iff,decide_eq_false_iff_not,Bool.and_eq_false_iff,beq_eq_false_iff_ne]at h1 h2
  obtain ⟨g1,g2⟩:=h1
  obtain ⟨g3,g4⟩:=h2
  have hxy:x=y:=by
   apply UInt8.toNat_inj.1
   have e1:¬x.toNat<y.toNat:=fun h=>g1 (UInt8.lt_iff_toNat_lt.2 h)
   have e2:¬y.toNat<x.toNat:=fun h=>g3 (UInt8.lt_iff_toNat_lt.2 h)
   omega
  subst hxy
  have h3:Op.bytesLess a b=false:=by rcases g2 with g | g;exact absurd rfl g;exact g
  have h4:Op.bytesLess b a=false:=by rcases g4 with g | g;exact absurd rfl g;exact g
  rw[Nr h3 h4]
theorem zgh:∀ a b:List UInt8,(Lib.compareBytes a b<0)=(Op.bytesLess a b=true)
 | [],[]=>by simp[Lib.compareBytes,Op.bytesLess]
 | [],_ :: _=>by simp[Lib.compareBytes,Op.bytesLess]
 | _ :: _,[]=>by simp[Lib.compareBytes,Op.bytesLess]
 | a :: x,b :: y=>by
  unfold Lib.compareBytes Op.bytesLess
  by_cases h1:a<b
  ·simp[h1]
  ·rw[if_neg h1]
   by_cases h2:b<a
   ·have:a≠b:=fun e=>by subst e;exact h1 h2
    simp[h1,h2,this]
   ·have e:a=b:=by
     apply UInt8.toNat_inj.1
     have e1:¬a.toNat<b.toNat:=fun h=>h1 (UInt8.lt_iff_toNat_lt.2 h)
     have e2:¬b.toNat<a.toNat:=fun h=>h2 (UInt8.lt_iff_toNat_lt.2 h)
     omega
    rw[if_neg h2,zgh x y]
    subst e
    simp[h1]
theorem zgq:∀ a b:List UInt8,(Lib.compareBytes a b=0)=(a=b)
 | [],[]=>by simp[Lib.compareBytes]
 | [],_ :: _=>by simp[Lib.compareBytes]
 | _ :: _,[]=>by simp[Lib.compareBytes]
 | a :: x,b :: y=>by
  unfold Lib.compareBytes
  by_cases h1:a<b
  ·have:a≠b:=fun e=>by subst e;simp at h1
   simp[h1,this]
  ·rw[if_neg h1]
   by_cases h2:b<a
   ·have:a≠b:=fun e=>by subst e;exact h1 h2
    simp[h2,this]
   ·have e:a=b:=by
     apply UInt8.toNat_inj.1
     have e1:¬a.toNat<b.toNat:=fun h=>h1 (UInt8.lt_iff_toNat_lt.2 h)
     have e2:¬b.toNat<a.toNat:=fun h=>h2 (UInt8.lt_iff_toNat_lt.2 h)
     omega
    rw[if_neg h2,zgq x y]
    subst e
    simp
def Xr:zl9 (List UInt8):=⟨Op.bytesLess,XU,GI,Nr⟩
def jN:zl9 Int:=⟨fun a b=>decide (a<b),fun a=>by simp,fun h1 h2=>by simp at h1 h2 ⊢;omega,fun h1 h2=>by simp at h1 h2;omega⟩
section
variable {α κ:Type} [DecidableEq κ] (o:zl9 κ) (key:α->κ)
def qF (xs:List α):Prop:=xs.Pairwise fun a b=>o.lt (key a) (key b)=true
def qq (n:κ) (xs:List α):Nat:=(xs.filter fun x=>o.lt (key x) n).length
def J3 (n:κ) (xs:List α):Bool:=xs.any fun x=>decide (key x=n)
def jk (n:κ) (xs:List α):Option α:=xs.find? fun x=>decide (key x=n)
def JX (n:κ) (xs:List α):List α:=xs.filter fun x=>!decide (key x=n)
def Hj (x:α):List α->List α
 | []=>[x]
 | y :: r=>if o.lt (key x) (key y) then x :: y :: r else y :: Hj x r
variable {o:zl9 κ} {key:α->κ}
theorem zl9.asym {a b:κ} (h:o.lt a b=true):o.lt b a=false:=by
 cases h':o.lt b a with
 | false=>rfl
 | true=>have:=o.tr h h';rw[o.irr]at this;cases this
theorem Q9 (n:κ):∀ (xs:List α) (i:Nat),i<=xs.length->(∀ t (h:t<xs.length),t<i->o.lt (key xs[t]) n=true)->(∀ t (h:t<xs.length),i<=t->o.lt (key xs[t]) n=false)->qq o key n xs=i
 | [],i,h,_,_=>by simp at h;simp[qq,h]
 | x :: r,0,_,_,h2=>by
  have hx:o.lt (key x) n=false:=h2 0 (by simp) (Nat.le_refl _)
  have ih:=Q9 n r 0 (Nat.zero_le _) (fun t h h'=>absurd h' (Nat.not_lt_zero _)) (fun t h _=>h2 (t+1) (by simp;omega) (Nat.zero_le _))
  unfold qq at ih ⊢
  rw[List.filter_cons_of_neg (by simp[hx])]
  exact ih
 | x :: r,i+1,h,h1,h2=>by
  have hx:o.lt (key x) n=true:=h1 0 (by simp) (Nat.succ_pos _)
  have ih:=Q9 n r i (by simpa using h) (fun t h h'=>h1 (t+1) (by simp;omega) (by omega)) (fun t h h'=>h2 (t+1) (by simp;omega) (by omega))
  unfold qq at ih ⊢
  rw[List.filter_cons_of_pos (by simp[hx]),List.length_cons,ih]
theorem VN (n:κ) (xs:List α):qq o key n xs<=xs.length:=List.length_filter_le _ _
theorem Jc {y:α} {r:List α}:qF o key (y :: r)↔(∀ z∈r,o.lt (key y) (key z)=true)/\qF o key r:=List.pairwise_cons
theorem zb8 {n:κ} {y:α} {r:List α} (h:o.lt (key y) n=true):qq o key n (y :: r)=qq o key n r+1:=by
 unfold qq
 rw[List.filter_cons_of_pos (by simpa using h),List.length_cons]
theorem zbe {n:κ} {y:α} {r:List α} (hR:qF o key (y :: r)) (h:o.lt (key y) n=false):qq o key n (y :: r)=0:=by
 obtain ⟨h1,_⟩:=Jc.1 hR
 unfold qq
 rw[List.length_eq_zero_iff,List.filter_eq_nil_iff]
 intro z hz
 rcases List.mem_cons.1 hz with rfl | hz
 ·simp[h]
 ·have h3:=h1 z hz
  cases h4:o.lt (key z) n with
  | false=>simp
  | true=>have:=o.tr h3 h4;rw[h]at this;cases this
theorem ze8 {n:κ} {y:α} {r:List α} (hR:qF o key (y :: r)) (h:o.lt (key y) n=false):J3 key n (y :: r)=decide (key y=n):=by
 obtain ⟨h1,_⟩:=Jc.1 hR
 unfold J3
 rw[List.any_cons]
 have:(r.any fun x=>decide (key x=n))=false:=List.any_eq_false.2 fun z hz=>by
  have h3:=h1 z hz
  simp only[decide_eq_true_eq]
  rintro rfl
  rw[h3]at h;cases h
 rw[this,Bool.or_false]
theorem ko (n:κ):∀ {xs:List α},qF o key xs->(∀ t (h:t<xs.length),t<qq o key n xs->o.lt (key xs[t]) n=true)/\(∀ t (h:t<xs.length),qq o key n xs<=t->o.lt (key xs[t]) n=false) /\
  (J3 key n xs=true->∃ h:qq o key n xs<xs.length,key xs[qq o key n xs]=n/\jk key n xs=some xs[qq o key n xs]/\JX key n xs=xs.take (qq o key n xs)++xs.drop (qq o key n xs+1)/\∀ x,key x=n->Hj o key x (JX key n xs)=xs.set (qq o key n xs) x) /\
  (J3 key n xs=false->jk key n xs=none/\JX key n xs=xs/\∀ x,key x=n->Hj o key x xs=xs.take (qq o key n xs)++x :: xs.drop (qq o key n xs))
 | [],_=>⟨fun t h=>absurd h (Nat.not_lt_zero _),fun t h=>absurd h (Nat.not_lt_zero _),fun h=>(by cases h),fun _=>⟨rfl,rfl,fun x _=>rfl⟩⟩
 | y :: r,hR=>by
  obtain ⟨h1,h2⟩:=Jc.1 hR
  obtain ⟨i1,i2,i3,i4⟩:=ko n h2
  cases hy:o.lt (key y) n with
  | true =>
   have hne:key y≠n:=by rintro rfl;rw[o.irr]at hy;cases hy
   have hrk:=zb8 (r:=r) hy
   have hhas:J3 key n (y :: r)=J3 key n r:=by unfold J3;rw[List.any_cons,decide_eq_false hne,Bool.false_or]
   have hfind:jk key n (y :: r)=jk key n r:=by unfold jk;rw[List.find?_cons_of_neg (by simpa using hne)]
   have hless:JX key n (y :: r)=y :: JX key n r:=by unfold JX;rw[List.filter_cons_of_pos (by simpa using hne)]
   have hput:∀ x q,key x=n->Hj o key x (y :: q)=y :: Hj o key x q:=fun x q hx=>by
    rw[Hj,hx,zl9.asym hy];rfl
   rw[hhas,hfind,hless,hrk]
   refine ⟨fun t h ht=>?_,fun t h ht=>?_,fun h=>?_,fun h=>?_⟩
   ·cases t with
    | zero=>exact hy
    | succ t=>exact i1 t (by simpa using h) (by omega)
   ·cases t with
    | zero=>omega
    | succ t=>exact i2 t (by simpa using h) (by omega)
   ·obtain ⟨g,g1,g2,g3,g4⟩:=i3 h
    refine ⟨by simp;omega,by simpa using g1,by simpa using g2,by rw[g3];simp,fun x hx=>?_⟩
    rw[hput x _ hx,g4 x hx];simp
   ·obtain ⟨g1,g2,g3⟩:=i4 h
    refine ⟨g1,by rw[g2],fun x hx=>?_⟩
    rw[hput x _ hx,g3 x hx];simp
  | false =>
   have hrk:=zbe hR hy
   have hhas:=ze8 hR hy
   rw[hrk,hhas]
   have hno:∀ z∈r,key z≠n:=fun z hz=>by
    have h3:=h1 z hz
    rintro rfl
    rw[h3]at hy;cases hy
   have hlr:JX key n r=r:=by
    unfold JX
    rw[List.filter_eq_self]
    intro z hz
    simpa using hno z hz
   refine ⟨fun t h ht=>absurd ht (Nat.not_lt_zero _),fun t h _=>?_,fun h=>?_,fun h=>?_⟩
   ·cases t with
    | zero=>exact hy
    | succ t =>
     have h3:=h1 (r[t]'(by simpa using h)) (List.getElem_mem _)
     show o.lt (key (r[t]'(by simpa using h))) n=false
     cases h4:o.lt (key (r[t]'(by simpa using h))) n with
     | false=>rfl
     | true=>have:=o.tr h3 h4;rw[hy]at this;cases this
   ·have hk:key y=n:=of_decide_eq_true h
    have hl:JX key n (y :: r)=r:=by
     show (y :: r).filter (fun x=>!decide (key x=n))=r
     rw[List.filter_cons_of_neg (by simpa using hk)];exact hlr
    refine ⟨by simp,hk,by unfold jk;rw[List.find?_cons_of_pos (by simpa using hk)];rfl,by rw[hl];simp,fun x hx=>?_⟩
    rw[hl]
    cases r with
    | nil=>rfl
    | cons z q =>
     have h3:=h1 z List.mem_cons_self
     rw[hk]at h3
     rw[Hj,hx,h3];rfl
   ·have hk:key y≠n:=of_decide_eq_false h
    have hny:o.lt n (key y)=true:=by
     cases h5:o.lt n (key y) with
     | true=>rfl
     | false=>exact absurd (o.tot hy h5) hk
    refine ⟨?_,?_,fun x hx=>?_⟩
    ·unfold jk
     rw[List.find?_eq_none]
     intro z hz
     rcases List.mem_cons.1 hz with rfl | hz
     ·simpa using hk
     ·simpa using hno z hz
    ·show (y :: r).filter (fun x=>!decide (key x=n))=y :: r
     rw[List.filter_cons_of_pos (by simpa using hk)]
     exact congrArg _ hlr
    ·rw[Hj,hx,hny];rfl
theorem vt (n:κ) {xs:List α} (hR:qF o key xs) {i:Nat} (hi:qq o key n xs=i) (h:i<xs.length):J3 key n xs=decide (key xs[i]=n):=by
 subst hi
 obtain ⟨_,_,h3,_⟩:=ko n hR
 cases hh:J3 key n xs with
 | true=>obtain ⟨_,g,_⟩:=h3 hh;rw[decide_eq_true g]
 | false =>
  symm
  rw[decide_eq_false_iff_not]
  intro e
  unfold J3 at hh
  rw[List.any_eq_false]at hh
  exact hh _ (List.getElem_mem h) (decide_eq_true e)
theorem GA (n:κ) {xs:List α} (hR:qF o key xs) (hi:qq o key n xs=xs.length):J3 key n xs=false:=by
 obtain ⟨_,_,h3,_⟩:=ko n hR
 cases hh:J3 key n xs with
 | false=>rfl
 | true=>obtain ⟨g,_⟩:=h3 hh;omega
theorem vL (n:κ) {xs:List α} (h:qF o key xs):qF o key (JX key n xs):=h.filter _
theorem Gk {x y:α}:∀ {xs:List α},y∈Hj o key x xs↔y=x∨y∈xs
 | []=>by simp[Hj]
 | z :: r=>by
  unfold Hj
  split
  ·simp
  ·rw[List.mem_cons,Gk,List.mem_cons]
   constructor
   ·rintro (h | h | h)
    ·exact .inr (.inl h)
    ·exact .inl h
    ·exact .inr (.inr h)
   ·rintro (h | h | h)
    ·exact .inr (.inl h)
    ·exact .inl h
    ·exact .inr (.inr h)
theorem zer {n:κ} {y:α} {xs:List α}:y∈JX key n xs↔y∈xs/\key y≠n:=by unfold JX;simp
theorem Hw {x:α}:∀ {xs:List α},qF o key xs->(∀ y∈xs,key y≠key x)->qF o key (Hj o key x xs)
 | [],_,_=>by unfold Hj qF;simp
 | y :: r,hR,hne=>by
  obtain ⟨h1,h2⟩:=Jc.1 hR
  unfold Hj
  cases hxy:o.lt (key x) (key y) with
  | true =>
   rw[if_pos rfl,Jc]
   refine ⟨fun z hz=>?_,hR⟩
   rcases List.mem_cons.1 hz with rfl | hz
   ·exact hxy
   ·exact o.tr hxy (h1 z hz)
  | false =>
   rw[if_neg (by simp),Jc]
   have hyx:o.lt (key y) (key x)=true:=by
    cases h:o.lt (key y) (key x) with
    | true=>rfl
    | false=>exact absurd (o.tot h hxy) (hne y List.mem_cons_self)
   refine ⟨fun z hz=>?_,Hw h2 fun z hz=>hne z (List.mem_cons_of_mem _ hz)⟩
   rcases Gk.1 hz with rfl | hz
   ·exact hyx
   ·exact h1 z hz
theorem N8 (n:κ) (xs:List α):(JX key n xs).length<=xs.length:=List.length_filter_le _ _
theorem HX (x:α):∀ xs:List α,(Hj o key x xs).length=xs.length+1
 | []=>rfl
 | y :: r=>by
  unfold Hj
  split
  ·rfl
  ·rw[List.length_cons,HX x r];rfl
end
end
section
open Go.RowKit
section
variable {G:zo}
end
end
end Go.Proofs.YtlkjpfiancahiaaGreatDoor.Vcg
section
namespace Go.Proofs
open Go.Shelf
def Tryz.lays169_ren:Go.Shelf.Ren:=⟨fun | 169=>152 | n=>n,fun | 70=>197 | 9=>9 | 0=>0 | 72=>199 | 37=>153 | 127=>231 | 3=>3 | 5=>5 | n=>n,fun | n=>n⟩
theorem Tryz.lays169:Go.Proofs.Lays.n169 Tryz.prog Tryz.lays169_ren:={
 mixed:=by kernel_rfl
 f169:=Tryz.func152.trans (congrArg some (by kernel_rfl))
 t0:=Tryz.underlying0
 a0:=Tryz.isAgg0
 z0:=Tryz.sizeOf0
 v0:=Tryz.zeroValue0
 t3:=Tryz.underlying3
 a3:=Tryz.isAgg3
 z3:=Tryz.sizeOf3
 v3:=Tryz.zeroValue3
 t9:=Tryz.underlying9
 a9:=Tryz.isAgg9
 z9:=Tryz.sizeOf9
 v9:=Tryz.zeroValue9
 t37:=Tryz.underlying153
 a37:=Tryz.isAgg153
 z37:=Tryz.sizeOf153
 v37:=Tryz.zeroValue153
 t70:=Tryz.underlying197
 a70:=Tryz.isAgg197
 z70:=Tryz.sizeOf197
 v70:=Tryz.zeroValue197
 t72:=Tryz.underlying199
 a72:=Tryz.isAgg199
 z72:=Tryz.sizeOf199
 v72:=Tryz.zeroValue199
 t127:=Tryz.underlying231
 a127:=Tryz.isAgg231
 z127:=Tryz.sizeOf231
 v127:=Tryz.zeroValue231 }
theorem Tryz.Builder_Extra_169:Builder.Extra Tryz.prog Tryz.lays169_ren:={
 sizeBuilder:=by kernel_rfl
 liesBuilder:=by kernel_rfl
 t5:=Tryz.underlying5
 a5:=Tryz.isAgg5
 z5:=Tryz.sizeOf5
 v5:=Tryz.zeroValue5
 infoByte:=by kernel_rfl
 cellsByte:=by kernel_rfl
 sizeByte:=by kernel_rfl
 neB5:=by decide }
open Go.RowKit in
theorem Tryz.Builder_String_any (B b:Nat) (l:List UInt8) (w:World) (h:Lib.IsBuilder 199 5 B b (Lib.byteCells l) w) (hBw:B<=w.heap.size) :
  Calls Tryz.prog 152 #[.pointer (some ⟨b,0,none⟩)] w fun e w'=>e = .returned (.string ⟨l.toArray⟩)/\Below B w w':=Any.Builder_String_any Tryz.lays169 Tryz.Builder_Extra_169 B b l w h hBw
def Tryz.lays156_ren:Go.Shelf.Ren:=⟨fun | 156=>108 | 165=>150 | 166=>151 | 169=>152 | 240=>177 | 241=>178 | 276=>208 | 277=>209 | n=>n,fun | 31=>30 | 9=>9 | 3=>3 | 4=>4 | 0=>0 | 20=>20 | 72=>199 | 76=>203 | 70=>197 | 37=>153 | 75=>202 | 127=>231 | 164=>249 | 5=>5 | 80=>205 | n=>n,fun | n=>n⟩
theorem Tryz.lays156:Go.Proofs.Lays.n156 Tryz.prog Tryz.lays156_ren:={
 mixed:=by kernel_rfl
 f156:=Tryz.func108.trans (congrArg some (by kernel_rfl))
 f165:=Tryz.func150.trans (congrArg some (by kernel_rfl))
 f166:=Tryz.func151.trans (congrArg some (by kernel_rfl))
 f169:=Tryz.func152.trans (congrArg some (by kernel_rfl))
 f240:=Tryz.func177.trans (congrArg some (by kernel_rfl))
 f241:=Tryz.func178.trans (congrArg some (by kernel_rfl))
 f276:=Tryz.func208.trans (congrArg some (by kernel_rfl))
 f277:=Tryz.func209.trans (congrArg some (by kernel_rfl))
 t0:=Tryz.underlying0
 a0:=Tryz.isAgg0
 z0:=Tryz.sizeOf0
 v0:=Tryz.zeroValue0
 t3:=Tryz.underlying3
 a3:=Tryz.isAgg3
 z3:=Tryz.sizeOf3
 v3:=Tryz.zeroValue3
 t4:=Tryz.underlying4
 a4:=Tryz.isAgg4
 z4:=Tryz.sizeOf4
 v4:=Tryz.zeroValue4
 t9:=Tryz.underlying9
 a9:=Tryz.isAgg9
 z9:=Tryz.sizeOf9
 v9:=Tryz.zeroValue9
 t20:=Tryz.underlying20
 a20:=Tryz.isAgg20
 z20:=Tryz.sizeOf20
 v20:=Tryz.zeroValue20
 t31:=Tryz.underlying30
 a31:=Tryz.isAgg30
 z31:=Tryz.sizeOf30
 v31:=Tryz.zeroValue30
 t37:=Tryz.underlying153
 a37:=Tryz.isAgg153
 z37:=Tryz.sizeOf153
 v37:=Tryz.zeroValue153
 t70:=Tryz.underlying197
 a70:=Tryz.isAgg197
 z70:=Tryz.sizeOf197
 v70:=Tryz.zeroValue197
 t72:=Tryz.underlying199
 a72:=Tryz.isAgg199
 z72:=Tryz.sizeOf199
 v72:=Tryz.zeroValue199
 t75:=Tryz.underlying202
 a75:=Tryz.isAgg202
 z75:=Tryz.sizeOf202
 v75:=Tryz.zeroValue202
 t76:=Tryz.underlying203
 a76:=Tryz.isAgg203
 z76:=Tryz.sizeOf203
 v76:=Tryz.zeroValue203
 t127:=Tryz.underlying231
 a127:=Tryz.isAgg231
 z127:=Tryz.sizeOf231
 v127:=Tryz.zeroValue231
 t164:=Tryz.underlying249
 a164:=Tryz.isAgg249
 z164:=Tryz.sizeOf249
 v164:=Tryz.zeroValue249 }
theorem Tryz.Builder_Extra_156:Builder.Extra Tryz.prog Tryz.lays156_ren:={
 sizeBuilder:=by kernel_rfl
 liesBuilder:=by kernel_rfl
 t5:=Tryz.underlying5
 a5:=Tryz.isAgg5
 z5:=Tryz.sizeOf5
 v5:=Tryz.zeroValue5
 infoByte:=by kernel_rfl
 cellsByte:=by kernel_rfl
 sizeByte:=by kernel_rfl
 neB5:=by decide }
open Go.RowKit in
theorem Tryz.strings_Join_none (a:Option Addr) (c:Nat) (sep:ByteArray) (w:World) :
  Calls Tryz.prog 108 #[.slice a 0 c,.string sep] w fun e w'=>e = .returned (.string ⟨#[]⟩)/\w'=w:=Any.strings_Join_none Tryz.lays156 Tryz.Builder_Extra_156 a c sep w
open Go.RowKit in
theorem Tryz.strings_Join (bk o c:Nat) (xs:List ByteArray) (sep:ByteArray) (w:World) (hcells:∀ (j:Nat) x,xs[j]?=some x->w.cell? ⟨bk,o+j,none⟩=some (.string x)) (hbk:bk<w.heap.size) (hN:xs.length<=140737488355328) (hcap:xs.length<=c) (hlen:(Lib.join (xs.map (·.data.toList)) sep.data.toList).length<=140737488355328) :
  Calls Tryz.prog 108 #[.slice (some ⟨bk,o,none⟩) xs.length c,.string sep] w fun e w'=>e = .returned (.string ⟨(Lib.join (xs.map (·.data.toList)) sep.data.toList).toArray⟩)/\Below w.heap.size w w':=Any.strings_Join Tryz.lays156 Tryz.Builder_Extra_156 bk o c xs sep w hcells hbk hN hcap hlen
def Tryz.lays162_ren:Go.Shelf.Ren:=⟨fun | 162=>147 | 232=>171 | 227=>172 | 234=>173 | 236=>174 | 228=>205 | 271=>206 | 151=>207 | 120=>235 | 197=>169 | 152=>236 | 260=>203 | 137=>64 | 119=>260 | 224=>233 | 225=>232 | 217=>117 | 266=>157 | n=>n,fun | 9=>9 | 4=>4 | 3=>3 | 5=>5 | 117=>224 | 116=>223 | 0=>0 | 124=>227 | 21=>21 | 105=>218 | 46=>209 | 119=>265 | 139=>268 | 138=>267 | n=>n,fun | 3=>5 | 4=>6 | n=>n⟩
theorem Tryz.lays162:Go.Proofs.Lays.n162 Tryz.prog Tryz.lays162_ren:={
 mixed:=by kernel_rfl
 f119:=Tryz.func260.trans (congrArg some (by kernel_rfl))
 f120:=Tryz.func235.trans (congrArg some (by kernel_rfl))
 f137:=Tryz.func64.trans (congrArg some (by kernel_rfl))
 f151:=Tryz.func207.trans (congrArg some (by kernel_rfl))
 f152:=Tryz.func236.trans (congrArg some (by kernel_rfl))
 f162:=Tryz.func147.trans (congrArg some (by kernel_rfl))
 f197:=Tryz.func169.trans (congrArg some (by kernel_rfl))
 f217:=Tryz.func117.trans (congrArg some (by kernel_rfl))
 f224:=Tryz.func233.trans (congrArg some (by kernel_rfl))
 f225:=Tryz.func232.trans (congrArg some (by kernel_rfl))
 f227:=Tryz.func172.trans (congrArg some (by kernel_rfl))
 f228:=Tryz.func205.trans (congrArg some (by kernel_rfl))
 f232:=Tryz.func171.trans (congrArg some (by kernel_rfl))
 f234:=Tryz.func173.trans (congrArg some (by kernel_rfl))
 f236:=Tryz.func174.trans (congrArg some (by kernel_rfl))
 f260:=Tryz.func203.trans (congrArg some (by kernel_rfl))
 f266:=Tryz.func157.trans (congrArg some (by kernel_rfl))
 f271:=Tryz.func206.trans (congrArg some (by kernel_rfl))
 t0:=Tryz.underlying0
 a0:=Tryz.isAgg0
 z0:=Tryz.sizeOf0
 v0:=Tryz.zeroValue0
 t3:=Tryz.underlying3
 a3:=Tryz.isAgg3
 z3:=Tryz.sizeOf3
 v3:=Tryz.zeroValue3
 t4:=Tryz.underlying4
 a4:=Tryz.isAgg4
 z4:=Tryz.sizeOf4
 v4:=Tryz.zeroValue4
 t5:=Tryz.underlying5
 a5:=Tryz.isAgg5
 z5:=Tryz.sizeOf5
 v5:=Tryz.zeroValue5
 t9:=Tryz.underlying9
 a9:=Tryz.isAgg9
 z9:=Tryz.sizeOf9
 v9:=Tryz.zeroValue9
 t21:=Tryz.underlying21
 a21:=Tryz.isAgg21
 z21:=Tryz.sizeOf21
 v21:=Tryz.zeroValue21
 t46:=Tryz.underlying209
 a46:=Tryz.isAgg209
 z46:=Tryz.sizeOf209
 v46:=Tryz.zeroValue209
 t105:=Tryz.underlying218
 a105:=Tryz.isAgg218
 z105:=Tryz.sizeOf218
 v105:=Tryz.zeroValue218
 t116:=Tryz.underlying223
 a116:=Tryz.isAgg223
 z116:=Tryz.sizeOf223
 t117:=Tryz.underlying224
 a117:=Tryz.isAgg224
 z117:=Tryz.sizeOf224
 v117:=Tryz.zeroValue224
 t119:=Tryz.underlying265
 a119:=Tryz.isAgg265
 z119:=Tryz.sizeOf265
 t124:=Tryz.underlying227
 a124:=Tryz.isAgg227
 z124:=Tryz.sizeOf227
 v124:=Tryz.zeroValue227
 t138:=Tryz.underlying267
 a138:=Tryz.isAgg267
 z138:=Tryz.sizeOf267
 v138:=Tryz.zeroValue267
 t139:=Tryz.underlying268
 a139:=Tryz.isAgg268
 z139:=Tryz.sizeOf268
 v139:=Tryz.zeroValue268
 g3:=by kernel_rfl
 g4:=by kernel_rfl }
def Tryz.lays119_ren:Go.Shelf.Ren:=⟨fun | 119=>260 | n=>n,fun | 21=>21 | 4=>4 | n=>n,fun | n=>n⟩
theorem Tryz.lays119:Go.Proofs.Lays.n119 Tryz.prog Tryz.lays119_ren:={
 mixed:=by kernel_rfl
 f119:=Tryz.func260.trans (congrArg some (by kernel_rfl))
 t4:=Tryz.underlying4
 a4:=Tryz.isAgg4
 z4:=Tryz.sizeOf4
 v4:=Tryz.zeroValue4
 t21:=Tryz.underlying21
 a21:=Tryz.isAgg21
 z21:=Tryz.sizeOf21
 v21:=Tryz.zeroValue21 }
theorem Tryz.utf8_ValidRune (r:Int) (w:World) :
  Calls Tryz.prog 260 #[.int .i32 r] w fun e w'=>e = .returned (.bool (Lib.validRune r))/\w'=w:=Any.utf8_ValidRune Tryz.lays119 r w
def Tryz.lays106_ren:Go.Shelf.Ren:=⟨fun | 106=>182 | 213=>211 | 265=>240 | n=>n,fun | 9=>9 | 3=>3 | n=>n,fun | n=>n⟩
theorem Tryz.lays106:Go.Proofs.Lays.n106 Tryz.prog Tryz.lays106_ren:={
 mixed:=by kernel_rfl
 f106:=Tryz.func182.trans (congrArg some (by kernel_rfl))
 f213:=Tryz.func211.trans (congrArg some (by kernel_rfl))
 f265:=Tryz.func240.trans (congrArg some (by kernel_rfl))
 t3:=Tryz.underlying3
 a3:=Tryz.isAgg3
 z3:=Tryz.sizeOf3
 v3:=Tryz.zeroValue3
 t9:=Tryz.underlying9
 a9:=Tryz.isAgg9
 z9:=Tryz.sizeOf9
 v9:=Tryz.zeroValue9 }
open Go.RowKit in
theorem Tryz.strings_Compare (a b:ByteArray) (w:World) :
  Calls Tryz.prog 182 #[.string a,.string b] w fun e w'=>e = .returned (.int .i64 (Lib.compareBytes a.data.toList b.data.toList))/\w'=w:=Any.strings_Compare Tryz.lays106 a b w
def Tryz.lays137_ren:Go.Shelf.Ren:=⟨fun | 137=>64 | 217=>117 | 266=>157 | n=>n,fun | 9=>9 | 5=>5 | 3=>3 | n=>n,fun | n=>n⟩
theorem Tryz.lays137:Go.Proofs.Lays.n137 Tryz.prog Tryz.lays137_ren:={
 mixed:=by kernel_rfl
 f137:=Tryz.func64.trans (congrArg some (by kernel_rfl))
 f217:=Tryz.func117.trans (congrArg some (by kernel_rfl))
 f266:=Tryz.func157.trans (congrArg some (by kernel_rfl))
 t3:=Tryz.underlying3
 a3:=Tryz.isAgg3
 z3:=Tryz.sizeOf3
 v3:=Tryz.zeroValue3
 t5:=Tryz.underlying5
 a5:=Tryz.isAgg5
 z5:=Tryz.sizeOf5
 v5:=Tryz.zeroValue5
 t9:=Tryz.underlying9
 a9:=Tryz.isAgg9
 z9:=Tryz.sizeOf9
 v9:=Tryz.zeroValue9 }
open Go.RowKit in
theorem Tryz.strings_IndexByte (s:ByteArray) (c:Int) (w:World) :
  Calls Tryz.prog 64 #[.string s,.int .u8 c] w fun e w'=>e = .returned (.int .i64 (Lib.indexByte s.data.toList c.toNat.toUInt8))/\w'=w:=Any.strings_IndexByte Tryz.lays137 s c w
def Tryz.lays143_ren:Go.Shelf.Ren:=⟨fun | 143=>170 | 219=>204 | 217=>117 | 225=>232 | 224=>233 | 267=>234 | 266=>157 | 314=>259 | n=>n,fun | 9=>9 | 3=>3 | 4=>4 | 5=>5 | 46=>209 | 146=>283 | 51=>282 | n=>n,fun | 1=>3 | n=>n⟩
theorem Tryz.lays143:Go.Proofs.Lays.n143 Tryz.prog Tryz.lays143_ren:={
 mixed:=by kernel_rfl
 f143:=Tryz.func170.trans (congrArg some (by kernel_rfl))
 f217:=Tryz.func117.trans (congrArg some (by kernel_rfl))
 f219:=Tryz.func204.trans (congrArg some (by kernel_rfl))
 f224:=Tryz.func233.trans (congrArg some (by kernel_rfl))
 f225:=Tryz.func232.trans (congrArg some (by kernel_rfl))
 f266:=Tryz.func157.trans (congrArg some (by kernel_rfl))
 f267:=Tryz.func234.trans (congrArg some (by kernel_rfl))
 f314:=Tryz.func259.trans (congrArg some (by kernel_rfl))
 t3:=Tryz.underlying3
 a3:=Tryz.isAgg3
 z3:=Tryz.sizeOf3
 v3:=Tryz.zeroValue3
 t4:=Tryz.underlying4
 a4:=Tryz.isAgg4
 z4:=Tryz.sizeOf4
 v4:=Tryz.zeroValue4
 t5:=Tryz.underlying5
 a5:=Tryz.isAgg5
 z5:=Tryz.sizeOf5
 v5:=Tryz.zeroValue5
 t9:=Tryz.underlying9
 a9:=Tryz.isAgg9
 z9:=Tryz.sizeOf9
 v9:=Tryz.zeroValue9
 t46:=Tryz.underlying209
 a46:=Tryz.isAgg209
 z46:=Tryz.sizeOf209
 v46:=Tryz.zeroValue209
 t51:=Tryz.underlying282
 a51:=Tryz.isAgg282
 z51:=Tryz.sizeOf282
 v51:=Tryz.zeroValue282
 t146:=Tryz.underlying283
 a146:=Tryz.isAgg283
 z146:=Tryz.sizeOf283
 v146:=Tryz.zeroValue283
 g1:=by kernel_rfl }
open Go.RowKit Go.Lib in
theorem Tryz.strings_Index_one (s:ByteArray) (c:UInt8) (w:World) :
  Calls Tryz.prog 170 #[.string s,.string ⟨#[c]⟩] w fun e w'=>e = .returned (.int .i64 (Lib.indexByte s.data.toList c))/\w'=w:=Any.strings_Index_one Tryz.lays143 s c w
def Tryz.lays99_ren:Go.Shelf.Ren:=⟨fun | 99=>56 | 206=>100 | n=>n,fun | 9=>9 | 4=>4 | 3=>3 | n=>n,fun | n=>n⟩
theorem Tryz.lays99:Go.Proofs.Lays.n99 Tryz.prog Tryz.lays99_ren:={
 mixed:=by kernel_rfl
 f99:=Tryz.func56.trans (congrArg some (by kernel_rfl))
 f206:=Tryz.func100.trans (congrArg some (by kernel_rfl))
 t3:=Tryz.underlying3
 a3:=Tryz.isAgg3
 z3:=Tryz.sizeOf3
 v3:=Tryz.zeroValue3
 t4:=Tryz.underlying4
 a4:=Tryz.isAgg4
 z4:=Tryz.sizeOf4
 v4:=Tryz.zeroValue4
 t9:=Tryz.underlying9
 a9:=Tryz.isAgg9
 z9:=Tryz.sizeOf9
 v9:=Tryz.zeroValue9 }
open Go.RowKit Go.Lib in
theorem Tryz.strings_HasPrefix (s p:ByteArray) (w:World) :
  Calls Tryz.prog 56 #[.string s,.string p] w fun e w'=>e = .returned (.bool (Lib.hasPrefix s.data.toList p.data.toList))/\w'=w:=Any.strings_HasPrefix Tryz.lays99 s p w
def Tryz.lays100_ren:Go.Shelf.Ren:=⟨fun | 100=>116 | 207=>156 | n=>n,fun | 9=>9 | 4=>4 | 3=>3 | n=>n,fun | n=>n⟩
theorem Tryz.lays100:Go.Proofs.Lays.n100 Tryz.prog Tryz.lays100_ren:={
 mixed:=by kernel_rfl
 f100:=Tryz.func116.trans (congrArg some (by kernel_rfl))
 f207:=Tryz.func156.trans (congrArg some (by kernel_rfl))
 t3:=Tryz.underlying3
 a3:=Tryz.isAgg3
 z3:=Tryz.sizeOf3
 v3:=Tryz.zeroValue3
 t4:=Tryz.underlying4
 a4:=Tryz.isAgg4
 z4:=Tryz.sizeOf4
 v4:=Tryz.zeroValue4
 t9:=Tryz.underlying9
 a9:=Tryz.isAgg9
 z9:=Tryz.sizeOf9
 v9:=Tryz.zeroValue9 }
open Go.RowKit Go.Lib in
theorem Tryz.strings_HasSuffix (s p:ByteArray) (w:World) (hs:s.size<=9223372036854775807) :
  Calls Tryz.prog 116 #[.string s,.string p] w fun e w'=>e = .returned (.bool (Lib.hasSuffix s.data.toList p.data.toList))/\w'=w:=Any.strings_HasSuffix Tryz.lays100 s p w hs
def Tryz.lays152_ren:Go.Shelf.Ren:=⟨fun | 152=>236 | 137=>64 | 119=>260 | 224=>233 | 225=>232 | 217=>117 | 266=>157 | n=>n,fun | 9=>9 | 21=>21 | 3=>3 | 4=>4 | 5=>5 | 0=>0 | 46=>209 | n=>n,fun | n=>n⟩
theorem Tryz.lays152:Go.Proofs.Lays.n152 Tryz.prog Tryz.lays152_ren:={
 mixed:=by kernel_rfl
 f119:=Tryz.func260.trans (congrArg some (by kernel_rfl))
 f137:=Tryz.func64.trans (congrArg some (by kernel_rfl))
 f152:=Tryz.func236.trans (congrArg some (by kernel_rfl))
 f217:=Tryz.func117.trans (congrArg some (by kernel_rfl))
 f224:=Tryz.func233.trans (congrArg some (by kernel_rfl))
 f225:=Tryz.func232.trans (congrArg some (by kernel_rfl))
 f266:=Tryz.func157.trans (congrArg some (by kernel_rfl))
 t0:=Tryz.underlying0
 a0:=Tryz.isAgg0
 z0:=Tryz.sizeOf0
 v0:=Tryz.zeroValue0
 t3:=Tryz.underlying3
 a3:=Tryz.isAgg3
 z3:=Tryz.sizeOf3
 v3:=Tryz.zeroValue3
 t4:=Tryz.underlying4
 a4:=Tryz.isAgg4
 z4:=Tryz.sizeOf4
 v4:=Tryz.zeroValue4
 t5:=Tryz.underlying5
 a5:=Tryz.isAgg5
 z5:=Tryz.sizeOf5
 v5:=Tryz.zeroValue5
 t9:=Tryz.underlying9
 a9:=Tryz.isAgg9
 z9:=Tryz.sizeOf9
 v9:=Tryz.zeroValue9
 t21:=Tryz.underlying21
 a21:=Tryz.isAgg21
 z21:=Tryz.sizeOf21
 v21:=Tryz.zeroValue21
 t46:=Tryz.underlying209
 a46:=Tryz.isAgg209
 z46:=Tryz.sizeOf209
 v46:=Tryz.zeroValue209 }
open Go.RowKit Go.Lib in
theorem Tryz.strings_IndexRune_ascii (s:ByteArray) (r:Int) (w:World) (h0:0<=r) (h1:r<128) :
  Calls Tryz.prog 236 #[.string s,.int .i32 r] w fun e w'=>e = .returned (.int .i64 (Lib.indexByte s.data.toList r.toNat.toUInt8))/\w'=w:=Any.strings_IndexRune_ascii Tryz.lays152 s r w h0 h1
def Tryz.lays226_ren:Go.Shelf.Ren:=⟨fun | 226=>281 | n=>n,fun | 3=>3 | 4=>4 | n=>n,fun | n=>n⟩
theorem Tryz.lays226:Go.Proofs.Lays.n226 Tryz.prog Tryz.lays226_ren:={
 mixed:=by kernel_rfl
 f226:=Tryz.func281.trans (congrArg some (by kernel_rfl))
 t3:=Tryz.underlying3
 a3:=Tryz.isAgg3
 z3:=Tryz.sizeOf3
 v3:=Tryz.zeroValue3
 t4:=Tryz.underlying4
 a4:=Tryz.isAgg4
 z4:=Tryz.sizeOf4
 v4:=Tryz.zeroValue4 }
open Go.RowKit Go.Lib in
theorem Tryz.strings_shouldUseASCIISet (n:Int) (w:World) :
  Calls Tryz.prog 281 #[.int .i64 n] w fun e w'=>e = .returned (.bool (decide (8<n)))/\w'=w:=Any.strings_shouldUseASCIISet Tryz.lays226 n w
def Tryz.lays153_ren:Go.Shelf.Ren:=⟨fun | 153=>276 | 152=>236 | 226=>281 | 227=>172 | 228=>205 | 137=>64 | 119=>260 | 224=>233 | 225=>232 | 217=>117 | 266=>157 | n=>n,fun | 9=>9 | 3=>3 | 4=>4 | 5=>5 | 21=>21 | 117=>224 | 116=>223 | 0=>0 | 46=>209 | 124=>227 | n=>n,fun | n=>n⟩
theorem Tryz.lays153:Go.Proofs.Lays.n153 Tryz.prog Tryz.lays153_ren:={
 mixed:=by kernel_rfl
 f119:=Tryz.func260.trans (congrArg some (by kernel_rfl))
 f137:=Tryz.func64.trans (congrArg some (by kernel_rfl))
 f152:=Tryz.func236.trans (congrArg some (by kernel_rfl))
 f153:=Tryz.func276.trans (congrArg some (by kernel_rfl))
 f217:=Tryz.func117.trans (congrArg some (by kernel_rfl))
 f224:=Tryz.func233.trans (congrArg some (by kernel_rfl))
 f225:=Tryz.func232.trans (congrArg some (by kernel_rfl))
 f226:=Tryz.func281.trans (congrArg some (by kernel_rfl))
 f227:=Tryz.func172.trans (congrArg some (by kernel_rfl))
 f228:=Tryz.func205.trans (congrArg some (by kernel_rfl))
 f266:=Tryz.func157.trans (congrArg some (by kernel_rfl))
 t0:=Tryz.underlying0
 a0:=Tryz.isAgg0
 z0:=Tryz.sizeOf0
 v0:=Tryz.zeroValue0
 t3:=Tryz.underlying3
 a3:=Tryz.isAgg3
 z3:=Tryz.sizeOf3
 v3:=Tryz.zeroValue3
 t4:=Tryz.underlying4
 a4:=Tryz.isAgg4
 z4:=Tryz.sizeOf4
 v4:=Tryz.zeroValue4
 t5:=Tryz.underlying5
 a5:=Tryz.isAgg5
 z5:=Tryz.sizeOf5
 v5:=Tryz.zeroValue5
 t9:=Tryz.underlying9
 a9:=Tryz.isAgg9
 z9:=Tryz.sizeOf9
 v9:=Tryz.zeroValue9
 t21:=Tryz.underlying21
 a21:=Tryz.isAgg21
 z21:=Tryz.sizeOf21
 v21:=Tryz.zeroValue21
 t46:=Tryz.underlying209
 a46:=Tryz.isAgg209
 z46:=Tryz.sizeOf209
 v46:=Tryz.zeroValue209
 t116:=Tryz.underlying223
 a116:=Tryz.isAgg223
 z116:=Tryz.sizeOf223
 t117:=Tryz.underlying224
 a117:=Tryz.isAgg224
 z117:=Tryz.sizeOf224
 v117:=Tryz.zeroValue224
 t124:=Tryz.underlying227
 a124:=Tryz.isAgg227
 z124:=Tryz.sizeOf227
 v124:=Tryz.zeroValue227 }
open Go.RowKit Go.Lib in
theorem Tryz.strings_IndexAny_long (hv116:∀ w,(zeroValue 223).run Tryz.prog w = .ok (.agg (Array.replicate 256 (.bool false))) w) (s chars:ByteArray) (w:World) (h2:2<=chars.size) (h8:8<s.size) (hs:s.size<4294967281) (hcs:chars.size<4294967281) (hascii:∀ (j:Nat) b,chars.data.toList[j]?=some b->b.toNat<128) :
  Calls Tryz.prog 276 #[.string s,.string chars] w fun e w'=>e = .returned (.int .i64 (Lib.indexAny s.data.toList chars.data.toList))/\w'=((w.alloc (.cells (Lib.setCells chars.data.toList) 223)).alloc (.cells (Lib.setCells chars.data.toList) 223)):=Any.strings_IndexAny_long Tryz.lays153 hv116 (by kernel_rfl) s chars w h2 h8 hs hcs hascii
end Go.Proofs
end
namespace Go.Proofs.YtlkjpfiancahiaaGreatDoor.Vcg
section
open CA CB
open Go.RowKit
section
variable {G:zo}
theorem jG (f:FsV) (n:Int) (hl:f.xs.length<=100000) (hR:qh f.xs):Fun Tryz.prog G 33 [.agg (fsC f),.sc (.int .i64 n)] (.tup [.agg (JG (ze n f.xs)),.sc (.bool (zt n f.xs))]) 0:=by
 refine fon Tryz.func33 ?_;dsimp only[Tryz.f33]
 push_cast -dsimp
 refine cl (zfL f n hl hR) ?_;push_cast -dsimp
 cases hh:zt n f.xs with
 | false =>
  have hg:ze n f.xs=kH:=by unfold ze;rw[GL hh];rfl
  push_cast -dsimp [hh]
  exact dn (by push_cast -dsimp [zb,za,CLe,zd,hg,kH])
 | true =>
  obtain ⟨hlt,hg⟩:=HU hR hh
  have hg:ze n f.xs=f.xs[qZ n f.xs]:=by unfold ze;rw[hg];rfl
  have hat:=qJ f.xs _ hlt
  push_cast -dsimp [hh,hat]
  (try simp only[lS]);repeat refine an ?_
  exact dn (by push_cast -dsimp [zb,za,CLe,zd,hg])
theorem zS {xs:List zn}:∀ r∈zq xs,r.length=6:=fun r hr=>by
 obtain ⟨x,_,rfl⟩:=List.mem_map.1 hr;rfl
theorem zw {xs:List zn}:ji (zq xs):=fun r hr=>by
 obtain ⟨x,_,rfl⟩:=List.mem_map.1 hr;rfl
theorem zgx (f:FsV) (x:zn) (hl:f.xs.length<=90000) (hR:qh f.xs) :
  Fun Tryz.prog G 244 [.agg (fsC f),.agg (JG x)] (.agg [.sc (.int .i64 f.maxI),.sc (.int .i64 f.maxB),.sc (.int .i64 f.next),.own 0 53 6 (zq (jd x f.xs))]) 1:=by
 have hll:(zq f.xs).length=f.xs.length:=List.length_map ..
 refine foF (fun _=>[]) Tryz.func244 ?_;dsimp only[Tryz.f244]
 push_cast -dsimp
 refine cl (zfL f x.ino (by omega) hR) ?_;push_cast -dsimp
 refine jY [] [] (ZF (zq f.xs) zS zw (by omega)) rfl (by decide) (by decide) (by simp) (by push_cast -dsimp) (by push_cast -dsimp) (fun r bx' m hp=>?_)
 obtain ⟨rfl,⟨hne,c,h1,h2,rfl,rfl⟩ | ⟨he,⟨rfl,rfl⟩ | ⟨rfl,rfl⟩⟩⟩:=hp
 ·have hbl:=Yc zS h1
  have hre:∀ fp fo,C.reL fp fo (qH 6 (zq f.xs) c)=qH 6 (zq f.xs) c:=fun fp fo=>zC (zK zw)
  have hpos:=List.length_pos_iff.2 hne
  cases hh:zt x.ino f.xs with
  | true =>
   obtain ⟨hlt,_⟩:=HU hR hh
   have hst:=ziE (c:=c) (rows:=zq f.xs) (row:=JG x) (i:=qZ x.ino f.xs) zS rfl (by omega)
   have hset:zq (jd x f.xs)=(zq f.xs).set (qZ x.ino f.xs) (JG x):=by rw[←xW hR hh];simp[List.map_set]
   push_cast -dsimp [hh,hre,hst]
   refine ⟨by omega,by omega,by rw[hbl];omega,[(4,53,6,(zq f.xs).set (qZ x.ino f.xs) (JG x),c)],[.inl 0],?_,rfl,rfl,by push_cast -dsimp [zb,za,CLe,zd,hset,List.length_set]⟩
   rw[←hset]
   refine zB (by rw[hset];rfl) (by omega) (by rw[hset,List.length_set];exact h1) h2 zS zw
  | false =>
   have hset:zq (jd x f.xs)=(zq f.xs).take (qZ x.ino f.xs)++JG x :: (zq f.xs).drop (qZ x.ino f.xs):=by rw[←vE hR hh];simp
   have hrl:=zgG x.ino f.xs
   have hsl:(zq (jd x f.xs)).length=(zq f.xs).length+1:=by rw[hset];simp;omega
   push_cast -dsimp [hh,hre]
   refine jY [4] [0] (VW (e:=53) (zq f.xs) (JG x) (qZ x.ino f.xs) c zS rfl zw rfl (by omega) (by omega) h1 h2) rfl (by decide) (by decide) (by simp) (by push_cast -dsimp) (by push_cast -dsimp [hre]) (fun r bx' m hp=>?_)
   rw[←hset]at hp
   have hre2:∀ fp fo c,C.reL fp fo (qH 6 (zq (jd x f.xs)) c)=qH 6 (zq (jd x f.xs)) c:=fun fp fo c=>zC (zK zw)
   obtain ⟨rfl,c',g1,g2,⟨rfl,rfl⟩ | ⟨rfl,rfl⟩⟩:=hp
   ·push_cast -dsimp [hre2,hre]
    exact ⟨[(4,53,6,zq (jd x f.xs),c')],[.inl 1],zB rfl (by omega) g1 g2 zS zw,rfl,rfl,by push_cast -dsimp [zb,za,CLe,zd]⟩
   ·have hra:∀ fp fo,C.reL fp fo (List.replicate (c*6) .any)=List.replicate (c*6) .any:=fun fp fo=>zC (by simp[List.all_replicate,C.stayB])
    push_cast -dsimp [hre2,hre,hra]
    exact ⟨[(5,53,6,zq (jd x f.xs),c')],[.inl 1],zB rfl (by omega) g1 g2 zS zw,rfl,rfl,by push_cast -dsimp [zb,za,CLe,zd]⟩
 ·have he:f.xs = []:=by simpa using he
  have hh:zt x.ino f.xs=false:=by rw[he];rfl
  have hr0:qZ x.ino f.xs=0:=by rw[he];rfl
  have hset:jd x f.xs = [x]:=by rw[he];rfl
  push_cast -dsimp [hh,hr0]
  refine jY [] [0] (uu (e:=53) (JG x) rfl rfl) rfl (by decide) (by decide) (by simp) (by push_cast -dsimp) (by push_cast -dsimp) (fun r bx' m hp=>?_)
  obtain ⟨rfl,c,g1,g2,rfl,rfl⟩:=hp
  have hre:∀ fp fo,C.reL fp fo (qH 6 [JG x] c)=qH 6 [JG x] c:=fun fp fo=>zC (zK (zw (xs:=[x])))
  push_cast -dsimp [hre]
  exact ⟨[(3,53,6,zq [x],c)],[.inl 1],zB rfl (by omega) g1 g2 zS zw,rfl,rfl,by push_cast -dsimp [zb,za,CLe,zd,hset]⟩
 ·have he:f.xs = []:=by simpa using he
  have hh:zt x.ino f.xs=false:=by rw[he];rfl
  have hr0:qZ x.ino f.xs=0:=by rw[he];rfl
  have hset:jd x f.xs = [x]:=by rw[he];rfl
  push_cast -dsimp [hh,hr0]
  refine jY [3] [0] (VW (e:=53) [] (JG x) 0 0 (fun r hr=>by cases hr) rfl (fun r hr=>by cases hr) rfl (by simp) (by simp) (by simp) (by simp)) rfl (by decide) (by decide) (by simp) (by push_cast -dsimp) (by push_cast -dsimp [qH]) (fun r bx' m hp=>?_)
  obtain ⟨rfl,c,g1,g2,hp⟩:=hp
  have hre:∀ fp fo,C.reL fp fo (qH 6 [JG x] c)=qH 6 [JG x] c:=fun fp fo=>zC (zK (zw (xs:=[x])))
  rcases hp with ⟨rfl,rfl⟩ | ⟨rfl,rfl⟩
  ·push_cast -dsimp [hre]
   exact ⟨[(3,53,6,zq [x],c)],[.inl 1],zB rfl (Nat.lt_of_lt_of_le (Nat.zero_lt_succ _) g1) g1 g2 zS zw,rfl,rfl,by push_cast -dsimp [zb,za,CLe,zd,hset]⟩
  ·push_cast -dsimp [hre]
   exact ⟨[(4,53,6,zq [x],c)],[.inl 1],zB rfl (Nat.lt_of_lt_of_le (Nat.zero_lt_succ _) g1) g1 g2 zS zw,rfl,rfl,by push_cast -dsimp [zb,za,CLe,zd,hset]⟩
theorem zhr (f:FsV) (n:Int) (hl:f.xs.length<=90000) (hR:qh f.xs) (h0:f.xs≠[]) :
  Fun Tryz.prog G 248 [.agg (fsC f),.sc (.int .i64 n)] (.agg [.sc (.int .i64 f.maxI),.sc (.int .i64 f.maxB),.sc (.int .i64 f.next),.own 0 53 6 (zq (zU n f.xs))]) 1:=by
 have hll:(zq f.xs).length=f.xs.length:=List.length_map ..
 refine foF (fun _=>[]) Tryz.func248 ?_;dsimp only[Tryz.f248]
 push_cast -dsimp
 refine cl (zfL f n (by omega) hR) ?_;push_cast -dsimp
 refine jY [] [] (ZF (zq f.xs) zS zw (by omega)) rfl (by decide) (by decide) (by simp) (by push_cast -dsimp) (by push_cast -dsimp) (fun r bx' m hp=>?_)
 obtain ⟨rfl,⟨hne,c,h1,h2,rfl,rfl⟩ | ⟨he,_⟩⟩:=hp
 ·have hre:∀ fp fo,C.reL fp fo (qH 6 (zq f.xs) c)=qH 6 (zq f.xs) c:=fun fp fo=>zC (zK zw)
  have hpos:=List.length_pos_iff.2 hne
  cases hh:zt n f.xs with
  | true =>
   obtain ⟨hlt,_⟩:=HU hR hh
   have hset:zq (zU n f.xs)=(zq f.xs).take (qZ n f.xs)++(zq f.xs).drop (qZ n f.xs+1):=by rw[←uF hR hh];simp
   have hsl:(zq (zU n f.xs)).length=(zq f.xs).length-1:=by rw[hset];simp;omega
   have hd:=ziL (G:=G) (zq f.xs) (qZ n f.xs) c zS zw (by omega) (by omega) h1 h2
   rw[←hset,←hsl]at hd
   have hre2:∀ fp fo,C.reL fp fo (qH 6 (zq (zU n f.xs)) c)=qH 6 (zq (zU n f.xs)) c:=fun fp fo=>zC (zK zw)
   push_cast -dsimp [hh,hre]
   (try simp only[lS]);repeat refine an ?_
   rw[hll]at hd
   refine Qz [3] [] hd rfl (by decide) (by decide) (by simp) (by push_cast -dsimp) (by push_cast -dsimp [hre]) ?_
   push_cast -dsimp [hre,hre2]
   exact ⟨[(3,53,6,zq (zU n f.xs),c)],[.inl 0],zB rfl (by omega) (by omega) h2 zS zw,rfl,rfl,by push_cast -dsimp [zb,za,CLe,zd]⟩
  | false =>
   push_cast -dsimp [hh,hre]
   exact ⟨[(3,53,6,zq f.xs,c)],[.inl 0],zB rfl (by omega) h1 h2 zS zw,rfl,rfl,by push_cast -dsimp [zb,za,CLe,zd,QV hh]⟩
 ·exact absurd (by simpa using he) h0
theorem zg8 {R:Env} {L:Loc} {id e:Nat} {v:Value} (h:Rep R L (.own id e 6 [[.sc (.int .i64 1),.sc (.int .i64 2),.sc (.int .i64 0),.str [],.sc (.int .i64 1),.sc (.slice none 0 0)]]) v):Rep R L (.own id e 6 (zq [⟨1,2,0,[],1,[]⟩])) v:=
 zaA (by simp[RLe,zd,CLe]) h
theorem Vs {α:Type} {a b:List α} {i:Nat} (ha:i<a.length) (hb:i<b.length) (h:a.take i=b.take i):(a.take (i+1)=b.take (i+1))↔a[i]=b[i]:=by
 rw[List.take_add_one,List.take_add_one,h,List.append_right_inj,List.getElem?_eq_getElem ha,List.getElem?_eq_getElem hb]
 simp
theorem zqp (a b:z8):(decide (a.name=b.name)&&decide (a.ino=b.ino))=decide (a=b):=by
 cases a;cases b;simp
theorem zo4 (a b:zn):a=b↔a.ino=b.ino/\a.kind=b.kind/\a.links=b.links/\a.data=b.data/\a.parent=b.parent/\a.es=b.es:=by
 cases a;cases b;simp
theorem zrY (a b:FsV):a=b↔a.maxI=b.maxI/\a.maxB=b.maxB/\a.next=b.next/\a.xs=b.xs:=by
 cases a;cases b;simp
end
end
section
open CA CB
open Go.RowKit
section
variable {G:zo}
theorem Mb (a b:List z8) (ha:a.length<=9223372036854775807):Fun Tryz.prog G 131 [.sl 2 (z6 a),.sl 2 (z6 b)] (.sc (.bool (decide (a=b)))) 0:=by
 refine fon Tryz.func131 ?_;dsimp only[Tryz.f131]
 have hla:(z6 a).length=a.length:=List.length_map ..
 have hlb:(z6 b).length=b.length:=List.length_map ..
 by_cases hab:a.length=b.length
 ·push_cast -dsimp [hla,hlb,hab]
  refine loop (fun i:Nat=>⟨[(0,.sl 2 (z6 a)),(1,.sl 2 (z6 b)),(5,.sc (.int .i64 i))],[],0,0⟩) (fun i=>i<=b.length/\a.take i=b.take i) (fun i=>b.length-i) 0 ⟨Nat.zero_le _,rfl⟩ ?_ ?_
  ·exact wk
  ·rintro i ⟨h1,h2⟩
   by_cases h:i<b.length
   ·have g1:=Jd a i (by omega)
    have g2:=Jd b i h
    push_cast -dsimp [hla,hab,h,g1,g2]
    repeat refine an ?_
    have hd:=zqp a[i] b[i]
    by_cases he:a[i]=b[i]
    ·have hd:(decide (a[i].name=b[i].name)&&decide (a[i].ino=b[i].ino))=true:=by rw[hd,decide_eq_true he]
     push_cast -dsimp [hd]
     repeat refine an ?_
     exact ⟨i+1,⟨h,(Vs (by omega) h h2).2 he⟩,by omega,wk⟩
    ·have hd:(decide (a[i].name=b[i].name)&&decide (a[i].ino=b[i].ino))=false:=by rw[hd,decide_eq_false he]
     push_cast -dsimp [hd]
     have:a≠b:=fun h=>he (by subst h;rfl)
     exact dn (by push_cast -dsimp [zb,za,CLe,zd,this])
   ·push_cast -dsimp [hla,hab,h]
    have:a=b:=by rw[←List.take_of_length_le (l:=a) (i:=i) (by omega),h2,List.take_of_length_le (by omega)]
    exact dn (by push_cast -dsimp [zb,za,CLe,zd,this])
 ·push_cast -dsimp [hla,hlb,hab]
  have:a≠b:=fun h=>hab (by rw[h])
  exact dn (by push_cast -dsimp [zb,za,CLe,zd,this])
theorem zlE (x y:zn) (hx:x.es.length<=9223372036854775807):Fun Tryz.prog G 77 [.agg (JG x),.agg (JG y)] (.sc (.bool (decide (x=y)))) 0:=by
 refine fon Tryz.func77 ?_;dsimp only[Tryz.f77]
 by_cases e0:x.ino=y.ino
 case neg =>
  have hn:¬x=y:=fun h=>e0 (by rw[h])
  push_cast -dsimp [e0]
  exact dn (by push_cast -dsimp [zb,za,CLe,zd,hn])
 by_cases e1:x.kind=y.kind
 case neg =>
  have hn:¬x=y:=fun h=>e1 (by rw[h])
  push_cast -dsimp [e0,e1]
  exact dn (by push_cast -dsimp [zb,za,CLe,zd,hn])
 by_cases e2:x.links=y.links
 case neg =>
  have hn:¬x=y:=fun h=>e2 (by rw[h])
  push_cast -dsimp [e0,e1,e2]
  exact dn (by push_cast -dsimp [zb,za,CLe,zd,hn])
 by_cases e3:x.data=y.data
 case neg =>
  have hn:¬x=y:=fun h=>e3 (by rw[h])
  push_cast -dsimp [e0,e1,e2,e3]
  exact dn (by push_cast -dsimp [zb,za,CLe,zd,hn])
 by_cases e4:x.parent=y.parent
 case neg =>
  have hn:¬x=y:=fun h=>e4 (by rw[h])
  push_cast -dsimp [e0,e1,e2,e3,e4]
  exact dn (by push_cast -dsimp [zb,za,CLe,zd,hn])
 by_cases e5:x.es=y.es
 case neg =>
  have hn:¬x=y:=fun h=>e5 (by rw[h])
  push_cast -dsimp [e0,e1,e2,e3,e4]
  refine cl (Mb x.es y.es hx) ?_;push_cast -dsimp [e5,hn]
  exact dn (by push_cast -dsimp [zb,za,CLe,zd,hn])
 have hn:x=y:=(zo4 x y).2 ⟨e0,e1,e2,e3,e4,e5⟩
 push_cast -dsimp [e0,e1,e2,e3,e4]
 refine cl (Mb x.es y.es hx) ?_;push_cast -dsimp [e5]
 exact dn (by push_cast -dsimp [zb,za,CLe,zd,hn])
theorem u6 (a b:List zn) (ha:a.length<=100000) (he:∀ x∈a,x.es.length<=9223372036854775807):Fun Tryz.prog G 39 [.sl 6 (zq a),.sl 6 (zq b)] (.sc (.bool (decide (a=b)))) 0:=by
 refine fon Tryz.func39 ?_;dsimp only[Tryz.f39]
 have hla:(zq a).length=a.length:=List.length_map ..
 have hlb:(zq b).length=b.length:=List.length_map ..
 by_cases hab:a.length=b.length
 ·push_cast -dsimp [hla,hlb,hab]
  refine loop (fun i:Nat=>⟨[(0,.sl 6 (zq a)),(1,.sl 6 (zq b)),(5,.sc (.int .i64 i))],[],0,0⟩) (fun i=>i<=b.length/\a.take i=b.take i) (fun i=>b.length-i) 0 ⟨Nat.zero_le _,rfl⟩ ?_ ?_
  ·exact wk
  ·rintro i ⟨h1,h2⟩
   by_cases h:i<b.length
   ·have g1:=qJ a i (by omega)
    have g2:=qJ b i h
    push_cast -dsimp [hla,hab,h,g1,g2]
    repeat refine an ?_
    refine cl (zlE a[i] b[i] (he _ (List.getElem_mem _))) ?_;push_cast -dsimp
    by_cases he:a[i]=b[i]
    ·push_cast -dsimp [decide_eq_true he]
     repeat refine an ?_
     exact ⟨i+1,⟨h,(Vs (by omega) h h2).2 he⟩,by omega,wk⟩
    ·push_cast -dsimp [decide_eq_false he]
     have:a≠b:=fun h=>he (by subst h;rfl)
     exact dn (by push_cast -dsimp [zb,za,CLe,zd,this])
   ·push_cast -dsimp [hla,hab,h]
    have:a=b:=by rw[←List.take_of_length_le (l:=a) (i:=i) (by omega),h2,List.take_of_length_le (by omega)]
    exact dn (by push_cast -dsimp [zb,za,CLe,zd,this])
 ·push_cast -dsimp [hla,hlb,hab]
  have:a≠b:=fun h=>hab (by rw[h])
  exact dn (by push_cast -dsimp [zb,za,CLe,zd,this])
theorem zdi (x y:FsV) (ha:x.xs.length<=100000) (he:∀ z∈x.xs,z.es.length<=9223372036854775807):Fun Tryz.prog G 12 [.agg (fsC x),.agg (fsC y)] (.sc (.bool (decide (x=y)))) 0:=by
 refine fon Tryz.func12 ?_;dsimp only[Tryz.f12]
 by_cases e0:x.maxI=y.maxI
 case neg =>
  have hn:¬x=y:=fun h=>e0 (by rw[h])
  push_cast -dsimp [e0]
  exact dn (by push_cast -dsimp [zb,za,CLe,zd,hn])
 by_cases e1:x.maxB=y.maxB
 case neg =>
  have hn:¬x=y:=fun h=>e1 (by rw[h])
  push_cast -dsimp [e0,e1]
  exact dn (by push_cast -dsimp [zb,za,CLe,zd,hn])
 by_cases e2:x.next=y.next
 case neg =>
  have hn:¬x=y:=fun h=>e2 (by rw[h])
  push_cast -dsimp [e0,e1,e2]
  exact dn (by push_cast -dsimp [zb,za,CLe,zd,hn])
 by_cases e3:x.xs=y.xs
 case neg =>
  have hn:¬x=y:=fun h=>e3 (by rw[h])
  push_cast -dsimp [e0,e1,e2]
  refine cl (u6 x.xs y.xs ha he) ?_;push_cast -dsimp [e3,hn]
  exact dn (by push_cast -dsimp [zb,za,CLe,zd,hn])
 have hn:x=y:=(zrY x y).2 ⟨e0,e1,e2,e3⟩
 push_cast -dsimp [e0,e1,e2]
 refine cl (u6 x.xs y.xs ha he) ?_;push_cast -dsimp [e3]
 exact dn (by push_cast -dsimp [zb,za,CLe,zd,hn])
theorem zbs {xs:List zn} {i:Nat} (hi:i<xs.length) (h0:0<i):qh (xs.take (i+1))↔qh (xs.take i)/\xs[i-1].ino<xs[i].ino:=by
 rw[List.take_add_one,List.getElem?_eq_getElem hi]
 unfold qh
 rw[List.pairwise_append]
 simp only[Option.toList_some,List.pairwise_singleton,true_and,List.mem_singleton,forall_eq]
 constructor
 ·rintro ⟨h1,h2⟩
  exact ⟨h1,h2 _ (List.mem_take_iff_getElem.2 ⟨i-1,by omega,rfl⟩)⟩
 ·rintro ⟨h1,h2⟩
  refine ⟨h1,fun a ha=>?_⟩
  obtain ⟨j,hj,rfl⟩:=List.mem_take_iff_getElem.1 ha
  rcases Nat.lt_or_ge j (i-1) with q | q
  ·have:=(List.pairwise_iff_getElem.1 h1) j (i-1) (by simp;omega) (by simp;omega) q
   simp at this
   omega
  ·have:j=i-1:=by omega
   subst this;exact h2
instance (xs:List zn):Decidable (qh xs):=by unfold qh;infer_instance
theorem VY (f:FsV) (hl:f.xs.length<=100000):Fun Tryz.prog G 96 [.agg (fsC f)] (.sc (.bool (decide (qh f.xs)))) 0:=by
 have hll:(zq f.xs).length=f.xs.length:=List.length_map ..
 refine fon Tryz.func96 ?_;dsimp only[Tryz.f96]
 push_cast -dsimp
 refine loop (fun i:Nat=>⟨[(1,.ptr 0 0),(3,.sc (.int .i64 i))],[fsC f],0,0⟩) (fun i=>1<=i/\qh (f.xs.take i)) (fun i=>f.xs.length-i) 1 ⟨Nat.le_refl _,by
  cases f.xs with
  | nil=>exact List.Pairwise.nil
  | cons x r=>exact List.pairwise_singleton _ _⟩ ?_ ?_
 ·exact wk
 ·rintro i ⟨h1,h2⟩
  by_cases h:i<f.xs.length
  ·have g1:=qJ f.xs i h
   have g2:=qJ f.xs (i-1) (by omega)
   have e1:(i:Int)-1=((i-1:Nat):Int):=by omega
   push_cast -dsimp [hll,h,e1,g1,g2]
   by_cases hc:f.xs[i].ino<=f.xs[i-1].ino
   ·push_cast -dsimp [hc]
    repeat refine an ?_
    have hn:¬qh f.xs:=fun hR=>by
     have:=(List.pairwise_iff_getElem.1 hR) (i-1) i (by omega) h (by omega)
     omega
    exact dn (by push_cast -dsimp [zb,za,CLe,zd,hn])
   ·push_cast -dsimp [hc]
    repeat refine an ?_
    exact ⟨i+1,⟨by omega,(zbs h (by omega)).2 ⟨h2,by omega⟩⟩,by omega,wk⟩
  ·push_cast -dsimp [hll,h]
   rw[List.take_of_length_le (by omega)]at h2
   exact dn (by push_cast -dsimp [zb,za,CLe,zd,h2])
def Ml (x:zn):Prop:=x.data.length<=5000/\x.es.length<=40/\∀ e∈x.es,e.name.length<=300
instance (x:zn):Decidable (Ml x):=by unfold Ml;infer_instance
def Vz (xs:List zn):Prop:=xs.length<=40/\∀ x∈xs,Ml x
instance (xs:List zn):Decidable (Vz xs):=by unfold Vz;infer_instance
structure FsS (f:FsV):Prop where
 len:f.xs.length<=10000
 node:∀ x∈f.xs,x.es.length<=10000/\x.data.length<=10000/\∀ e∈x.es,e.name.length<=10000
theorem Vz.fs {f:FsV} (h:Vz f.xs):FsS f:=⟨by have:=h.1;omega,fun x hx=>by
 obtain ⟨h1,h2,h3⟩:=h.2 x hx
 exact ⟨by omega,by omega,fun e he=>by have:=h3 e he;omega⟩⟩
theorem uo (f:FsV):Fun Tryz.prog G 93 [.agg (fsC f)] (.sc (.bool (decide (Vz f.xs)))) 0:=by
 have hll:(zq f.xs).length=f.xs.length:=List.length_map ..
 refine fon Tryz.func93 ?_;dsimp only[Tryz.f93]
 push_cast -dsimp
 refine loop (fun i:Nat=>⟨[(1,.ptr 0 0),(3,.sc (.int .i64 i))],[fsC f],0,0⟩) (fun i=>i<=100/\∀ t (h:t<f.xs.length),t<i->Ml f.xs[t]) (fun i=>100-i) 0 ⟨Nat.zero_le _,fun t h h'=>absurd h' (Nat.not_lt_zero _)⟩ ?_ ?_
 ·exact wk
 ·rintro i ⟨h1,h2⟩
  have hend:¬(i<f.xs.length/\i<100)->decide ((f.xs.length:Int)<=40)=decide (Vz f.xs):=fun h=>by
   rw[decide_eq_decide]
   constructor
   ·intro hle
    refine ⟨by omega,fun x hx=>?_⟩
    obtain ⟨t,ht,rfl⟩:=List.getElem_of_mem hx
    exact h2 t ht (by omega)
   ·intro h;have:=h.1;omega
  by_cases h:i<f.xs.length
  ·by_cases h100:i<100
   ·have g1:=qJ f.xs i h
    have h100':(i:Int)<100:=by omega
    have hbad:¬Ml f.xs[i]->¬Vz f.xs:=fun hs hf=>hs (hf.2 _ (List.getElem_mem h))
    by_cases hd:5000<(f.xs[i].data.length:Int)
    ·have hn:=hbad fun hs=>by have:=hs.1;omega
     push_cast -dsimp [hll,h,h100',g1,hd]
     repeat refine an ?_
     exact dn (by push_cast -dsimp [zb,za,CLe,zd,hn])
    ·by_cases he:40<(f.xs[i].es.length:Int)
     ·have hn:=hbad fun hs=>by have:=hs.2.1;omega
      push_cast -dsimp [hll,h,h100',g1,hd,List.length_map,he]
      repeat refine an ?_
      exact dn (by push_cast -dsimp [zb,za,CLe,zd,hn])
     ·push_cast -dsimp [hll,h,h100',g1,hd,List.length_map,he]
      repeat refine an ?_
      refine loop (fun j:Nat=>⟨[(1,.ptr 0 0),(3,.sc (.int .i64 i)),(4,.ptr 1 0),(5,.sc (.int .i64 j))],[fsC f,JG f.xs[i]],0,0⟩) (fun j=>j<=f.xs[i].es.length/\∀ t (h':t<f.xs[i].es.length),t<j->f.xs[i].es[t].name.length<=300) (fun j=>f.xs[i].es.length-j) 0 ⟨Nat.zero_le _,fun t h h'=>absurd h' (Nat.not_lt_zero _)⟩ ?_ ?_
      ·exact wk
      ·rintro j ⟨h3,h4⟩
       by_cases hj:j<f.xs[i].es.length
       ·have g2:=Jd f.xs[i].es j hj
        by_cases hs:300<(f.xs[i].es[j].name.length:Int)
        ·have hn:=hbad fun hs'=>by have:=hs'.2.2 _ (List.getElem_mem hj);omega
         push_cast -dsimp [List.length_map,hj,g2,hs]
         repeat refine an ?_
         exact dn (by push_cast -dsimp [zb,za,CLe,zd,hn])
        ·push_cast -dsimp [List.length_map,hj,g2,hs]
         repeat refine an ?_
         refine ⟨j+1,⟨hj,fun t ht hlt=>?_⟩,by omega,wk⟩
         rcases Nat.lt_or_ge t j with q | q
         ·exact h4 t ht q
         ·have:t=j:=by omega
          subst this;omega
       ·push_cast -dsimp [List.length_map,hj]
        repeat refine an ?_
        refine ⟨i+1,⟨by omega,fun t ht hlt=>?_⟩,by omega,wk⟩
        rcases Nat.lt_or_ge t i with q | q
        ·exact h2 t ht q
        ·have:t=i:=by omega
         subst this
         refine ⟨by omega,by omega,fun e hee=>?_⟩
         obtain ⟨u,hu,rfl⟩:=List.getElem_of_mem hee
         exact h4 u hu (by omega)
   ·have h100':((i:Int)<100)=False:=eq_false (by omega)
    have:=hend (by omega)
    push_cast -dsimp [hll,h,h100']
    exact dn (by push_cast -dsimp [zb,za,CLe,zd,this])
  ·have:=hend (by omega)
   push_cast -dsimp [hll,h]
   exact dn (by push_cast -dsimp [zb,za,CLe,zd,this])
theorem NK (f:FsV) (n:Int) (hl:f.xs.length<=90000) :
  Fun Tryz.prog G 92 [.agg (fsC f),.sc (.int .i64 n)] (.agg [.sc (.int .i64 f.maxI),.sc (.int .i64 f.maxB),.sc (.int .i64 f.next),.own 0 53 6 (zq (zU n f.xs))]) 1:=by
 have hll:(zq f.xs).length=f.xs.length:=List.length_map ..
 refine fon Tryz.func92 ?_;dsimp only[Tryz.f92]
 push_cast -dsimp
 refine loop (fun i:Nat=>⟨[(1,.sc (.int .i64 n)),(2,.ptr 0 0),(4,.ptr 1 0),(5,.own 0 53 6 (zq (zU n (f.xs.take i)))),(6,.sc (.int .i64 i))],[fsC f,[.sc (.int .i64 0),.sc (.int .i64 0),.sc (.int .i64 0),.sc (.slice none 0 0)]],1,0⟩) (fun i=>i<=f.xs.length) (fun i=>f.xs.length-i) 0 (Nat.zero_le _) ?_ ?_
 ·exact wks [.inr (53,6)] (by push_cast -dsimp [zb,za,CLe,zd,zU,List.filter_nil])
 ·intro i h1
  by_cases h:i<f.xs.length
  ·have g1:=qJ f.xs i h
   have ht:zU n (f.xs.take (i+1))=zU n (f.xs.take i)++zU n [f.xs[i]]:=by
    unfold zU;rw[List.take_add_one,List.getElem?_eq_getElem h,List.filter_append];rfl
   have hle:(zU n (f.xs.take i)).length<=i:=Nat.le_trans VQ (by simp;omega)
   by_cases hc:f.xs[i].ino=n
   ·have ht:zU n (f.xs.take (i+1))=zU n (f.xs.take i):=by rw[ht,Jl hc];simp[zU]
    push_cast -dsimp [hll,h,g1,hc]
    repeat refine an ?_
    exact ⟨i+1,h,by omega,wks [.inl 0] (by push_cast -dsimp [zb,za,CLe,zd,ht])⟩
   ·have ht:zU n (f.xs.take (i+1))=zU n (f.xs.take i)++[f.xs[i]]:=by rw[ht,Ju hc];simp[zU]
    push_cast -dsimp [hll,h,g1,hc]
    repeat refine an ?_
    exact ⟨i+1,h,by omega,wks [.inl 0] (by push_cast -dsimp [zb,za,CLe,zd,ht,List.map_append])⟩
  ·rw[List.take_of_length_le (by omega)]
   push_cast -dsimp [hll,h]
   exact ⟨[.inl 0],rfl,rfl,by push_cast -dsimp [zb,za,CLe,zd]⟩
theorem Q0 (f:FsV) (x:zn) (hl:f.xs.length<=90000) :
  Fun Tryz.prog G 46 [.agg (fsC f),.agg (JG x)] (.agg [.sc (.int .i64 f.maxI),.sc (.int .i64 f.maxB),.sc (.int .i64 f.next),.own 0 53 6 (zq (jd x f.xs))]) 1:=by
 have hdl:(zU x.ino f.xs).length<=90000:=Nat.le_trans VQ hl
 have hl2:(zq (zU x.ino f.xs)).length=(zU x.ino f.xs).length:=List.length_map ..
 refine fon Tryz.func46 ?_;dsimp only[Tryz.f46]
 push_cast -dsimp
 refine cl (NK f x.ino hl) ?_;push_cast -dsimp
 unfold jd
 generalize zU x.ino f.xs=rest at hdl hl2
 refine loop (fun p:Nat×List zn×Bool=>⟨[(2,.ptr 0 0),(3,.ptr 1 0),(4,.ptr 2 0),(5,.sl 6 (zq rest)),(6,.own 0 53 6 (zq p.2.1)),(7,.sc (.bool p.2.2)),(8,.sc (.int .i64 p.1))],[fsC f,JG x,[.sc (.int .i64 0),.sc (.int .i64 0),.sc (.int .i64 0),.sc (.slice none 0 0)]],1,0⟩)
  (fun p=>p.1<=rest.length/\p.2.1.length<=p.1+p.2.2.toNat/\ZE x rest=p.2.1++(if p.2.2 then rest.drop p.1 else ZE x (rest.drop p.1))) (fun p=>rest.length-p.1) (0,[],false) ⟨Nat.zero_le _,Nat.zero_le _,by simp⟩ ?_ ?_
 ·exact wks [.inr (53,6)]
 ·rintro ⟨i,out,d⟩ ⟨h1,h2,h3⟩
  dsimp only at h1 h2 h3 ⊢
  have hlo:(zq out).length=out.length:=List.length_map ..
  by_cases h:i<rest.length
  ·have g1:=qJ rest i h
   rw[List.drop_eq_getElem_cons h]at h3
   cases d with
   | true =>
    simp only[Bool.toNat_true]at h2
    push_cast -dsimp [hl2,h,g1]
    repeat refine an ?_
    exact ⟨(i+1,out++[rest[i]],true),⟨h,by simp;omega,by rw[h3];simp⟩,by dsimp only;omega,wks [.inl 0] (by push_cast -dsimp [zb,za,CLe,zd,List.map_append])⟩
   | false =>
    simp only[Bool.false_eq_true,if_false,ZE]at h3
    simp only[Bool.toNat_false]at h2
    by_cases hc:x.ino<rest[i].ino
    ·rw[if_pos hc]at h3
     push_cast -dsimp [hl2,h,g1,hc]
     repeat refine an ?_
     exact ⟨(i+1,out++[x]++[rest[i]],true),⟨h,by simp;omega,by rw[h3];simp⟩,by dsimp only;omega,wks [.inl 0] (by push_cast -dsimp [zb,za,CLe,zd,List.map_append])⟩
    ·rw[if_neg hc]at h3
     push_cast -dsimp [hl2,h,g1,hc]
     repeat refine an ?_
     exact ⟨(i+1,out++[rest[i]],false),⟨h,by simp;omega,by rw[h3];simp⟩,by dsimp only;omega,wks [.inl 0] (by push_cast -dsimp [zb,za,CLe,zd,List.map_append])⟩
  ·rw[List.drop_of_length_le (by omega)]at h3
   cases d with
   | true =>
    simp only[Bool.toNat_true]at h2
    have h3:ZE x rest=out:=by rw[h3];simp
    push_cast -dsimp [hl2,h]
    exact ⟨[.inl 0],rfl,rfl,by push_cast -dsimp [zb,za,CLe,zd,h3]⟩
   | false =>
    simp only[Bool.toNat_false]at h2
    have h3:ZE x rest=out++[x]:=by rw[h3];simp[ZE]
    push_cast -dsimp [hl2,h]
    repeat refine an ?_
    exact ⟨[.inl 0],rfl,rfl,by push_cast -dsimp [zb,za,CLe,zd,h3,List.map_append]⟩
theorem zjF (i b:Int):Fun Tryz.prog G 45 [.sc (.int .i64 i),.sc (.int .i64 b)] (.agg [.sc (.int .i64 i),.sc (.int .i64 b),.sc (.int .i64 2),.own 0 53 6 (zq [⟨1,2,0,[],1,[]⟩])]) 1:=by
 refine Fun.resX (r:=.agg [.sc (.int .i64 i),.sc (.int .i64 b),.sc (.int .i64 2),.own 0 53 6 [[.sc (.int .i64 1),.sc (.int .i64 2),.sc (.int .i64 0),.str [],.sc (.int .i64 1),.sc (.slice none 0 0)]]]) ?_ fun R L v h =>
  zby (fun vs=>Yg (fun v h=>h) (fun vs=>Yg (fun v h=>h) fun vs=>Yg (fun v h=>h) fun vs=>Yg (fun v=>zg8) fun vs h=>h)) h
 refine fon Tryz.func45 ?_;dsimp only[Tryz.f45]
 push_cast -dsimp
 exact ⟨[.inl 0],rfl,rfl,by push_cast -dsimp [zb,za,CLe,zd]⟩
end
end
section
open Go.RowKit
section
variable {G:zo}
theorem ziV {n:Int} {xs:List zn} {i:Nat} (h:i<xs.length):zt n (xs.take (i+1))=(zt n (xs.take i)||(xs[i].ino==n)):=by
 unfold zt
 rw[List.take_add_one,List.getElem?_eq_getElem h,List.any_append]
 simp
theorem zgT {n:Int} {xs:List zn} {i:Nat} (h:i<xs.length) (h0:zt n (xs.take i)=false) (he:xs[i].ino=n):zt n xs=true/\ze n xs=xs[i]:=by
 refine ⟨List.any_eq_true.2 ⟨xs[i],List.getElem_mem h,by simp[he]⟩,?_⟩
 unfold ze QF
 rw[List.find?_eq_some_iff_getElem (b:=xs[i]) |>.2 ⟨by simp[he],i,h,rfl,fun j hj=>?_⟩]
 ·rfl
 ·unfold zt at h0
  rw[List.any_eq_false]at h0
  have:=h0 xs[j] (List.mem_take_iff_getElem.2 ⟨j,by omega,rfl⟩)
  simpa using this
theorem qN (f:FsV) (n:Int) (hl:f.xs.length<=100000):Fun Tryz.prog G 73 [.agg (fsC f),.sc (.int .i64 n)] (.tup [.agg (JG (ze n f.xs)),.sc (.bool (zt n f.xs))]) 0:=by
 have hll:(zq f.xs).length=f.xs.length:=List.length_map ..
 refine fon Tryz.func73 ?_;dsimp only[Tryz.f73]
 push_cast -dsimp
 refine loop (fun i:Nat=>⟨[(1,.sc (.int .i64 n)),(2,.ptr 0 0),(4,.ptr 1 0),(6,.sc (.int .i64 i))],[fsC f,[.sc (.int .i64 0),.sc (.int .i64 0),.sc (.int .i64 0),.str [],.sc (.int .i64 0),.sc (.slice none 0 0)]],0,0⟩) (fun i=>i<=f.xs.length/\zt n (f.xs.take i)=false) (fun i=>f.xs.length-i) 0 ⟨Nat.zero_le _,rfl⟩ ?_ ?_
 ·exact wk
 ·rintro i ⟨h1,h2⟩
  by_cases h:i<f.xs.length
  ·have g1:=qJ f.xs i h
   by_cases he:f.xs[i].ino=n
   ·obtain ⟨q1,q2⟩:=zgT h h2 he
    push_cast -dsimp [hll,h,g1,he]
    repeat refine an ?_
    exact dn (by push_cast -dsimp [zb,za,CLe,zd,q1,q2,he])
   ·have q:=ziV (n:=n) h
    rw[h2,show (f.xs[i].ino==n)=false from beq_eq_false_iff_ne.2 he]at q
    push_cast -dsimp [hll,h,g1,he]
    repeat refine an ?_
    exact ⟨i+1,⟨h,q⟩,by omega,wk⟩
  ·rw[List.take_of_length_le (by omega)]at h2
   have hg:ze n f.xs=kH:=by unfold ze;rw[GL h2];rfl
   push_cast -dsimp [hll,h]
   exact dn (by push_cast -dsimp [zb,za,CLe,zd,hg,h2,kH])
def qr (xs:List zn):Nat:=((xs.filter fun x=>decide (x.kind=1)).map fun x=>x.data.length).sum
theorem Nm:∀ {xs:List zn} {n:Nat},(∀ x∈xs,x.data.length<=n)->qr xs<=xs.length*n
 | [],n,_=>by simp[qr]
 | x :: r,n,h=>by
  have ih:=Nm (xs:=r) (n:=n) fun y hy=>h y (List.mem_cons_of_mem _ hy)
  have hx:=h x List.mem_cons_self
  unfold qr at ih ⊢
  rw[List.filter_cons]
  split
  ·simp only[List.map_cons,List.sum_cons,List.length_cons]
   rw[Nat.succ_mul];omega
  ·rw[List.length_cons,Nat.succ_mul];omega
theorem FsS.bytes {f:FsV} (h:FsS f):qr f.xs<=100000000:=by
 have h1:=Nm (xs:=f.xs) (n:=10000) fun x hx=>(h.node x hx).2.1
 have h2:=h.len
 have:f.xs.length*10000<=10000*10000:=Nat.mul_le_mul_right _ h2
 omega
theorem zaR {xs:List zn} {i:Nat} (h:i<xs.length):qr (xs.take (i+1))=qr (xs.take i)+if xs[i].kind=1 then xs[i].data.length else 0:=by
 unfold qr
 rw[List.take_add_one,List.getElem?_eq_getElem h,List.filter_append,List.map_append,List.sum_append]
 by_cases hk:xs[i].kind=1<;>simp[hk]
theorem zet (f:FsV) (hf:FsS f):Fun Tryz.prog G 165 [.agg (fsC f)] (.sc (.int .i64 (qr f.xs:Nat))) 0:=by
 have hll:(zq f.xs).length=f.xs.length:=List.length_map ..
 have h40:=hf.len
 have hb0:qr []=0:=rfl
 refine fon Tryz.func165 ?_;dsimp only[Tryz.f165]
 push_cast -dsimp
 refine loop (fun i:Nat=>⟨[(1,.ptr 0 0),(3,.sc (.int .i64 (qr (f.xs.take i):Nat))),(4,.sc (.int .i64 i))],[fsC f],0,0⟩) (fun i=>i<=f.xs.length/\qr (f.xs.take i)<=i*10000) (fun i=>f.xs.length-i) 0 ⟨Nat.zero_le _,Nat.zero_le _⟩ ?_ ?_
 ·exact wk (by push_cast -dsimp [zb,za,CLe,zd,hb0,List.take_zero])
 ·rintro i ⟨h1,h2⟩
  by_cases h:i<f.xs.length
  ·have g1:=qJ f.xs i h
   have hd:=(hf.node _ (List.getElem_mem h)).2.1
   have q:=zaR h
   by_cases hk:f.xs[i].kind=1
   ·rw[if_pos hk]at q
    have q':((qr (f.xs.take (i+1)):Nat):Int)=(qr (f.xs.take i):Int)+(f.xs[i].data.length:Int):=by omega
    push_cast -dsimp [hll,h,g1,hk]
    repeat refine an ?_
    exact ⟨i+1,⟨h,by omega⟩,by omega,wk (by push_cast -dsimp [zb,za,CLe,zd,q'])⟩
   ·rw[if_neg hk]at q
    have q':qr (f.xs.take (i+1))=qr (f.xs.take i):=by omega
    push_cast -dsimp [hll,h,g1,hk]
    repeat refine an ?_
    exact ⟨i+1,⟨h,by omega⟩,by omega,wk (by push_cast -dsimp [zb,za,CLe,zd,q'])⟩
  ·rw[List.take_of_length_le (by omega)]
   push_cast -dsimp [hll,h]
   exact dn
end
end
section
open Go.RowKit
abbrev G0:zo:=fun _=>none
abbrev zns (l:List UInt8):List C:=[.str l]
def ZP (s:List (List UInt8)×List UInt8) (b:UInt8):List (List UInt8)×List UInt8:=
 if b=47 then (if s.2 = [] then s.1 else s.1++[s.2],[]) else (s.1,s.2++[b])
def zko (s:List (List UInt8)×List UInt8):List (List UInt8):=if s.2 = [] then s.1 else s.1++[s.2]
def nst (l:List UInt8) (k:Nat):List (List UInt8)×List UInt8:=if k<=l.length then (l.take k).foldl ZP ([],[]) else (zko (l.foldl ZP ([],[])),[])
def zi (l:List UInt8):List (List UInt8):=zko (l.foldl ZP ([],[]))
theorem u9 (l:List UInt8):nst l 0=([],[]):=by simp[nst]
theorem uL (l:List UInt8) (k:Nat) (b:UInt8) (h:l[k]?=some b):nst l (k+1)=ZP (nst l k) b:=by
 have hk:k<l.length:=(List.getElem?_eq_some_iff.1 h).1
 unfold nst
 rw[if_pos (by omega),if_pos (by omega),List.take_add_one,h]
 simp
theorem zdM (l:List UInt8):nst l (l.length+1)=(zi l,[]):=by
 unfold nst zi
 rw[if_neg (by omega)]
theorem zc7 (l:List UInt8):zko (nst l l.length)=zi l:=by
 unfold nst zi
 rw[if_pos (Nat.le_refl _),List.take_length]
theorem GH (l:List UInt8):∀ k,k<=l.length->(nst l k).1.length+(nst l k).2.length<=k
 | 0,_=>by simp[u9]
 | k+1,h=>by
  have hk:k<l.length:=by omega
  have ih:=GH l k (by omega)
  rw[uL l k l[k] (List.getElem?_eq_getElem hk)]
  unfold ZP
  by_cases h47:l[k]=47
  ·rw[if_pos h47]
   by_cases h2:(nst l k).2 = []
   ·simp[h2];omega
   ·have:0<(nst l k).2.length:=List.length_pos_iff.2 h2
    simp[h2];omega
  ·rw[if_neg h47];simp;omega
theorem qf (l:List UInt8):(zi l).length<=l.length:=by
 rw[←zc7]
 have:=GH l l.length (Nat.le_refl _)
 unfold zko
 split
 ·omega
 ·rename_i h
  have:0<(nst l l.length).2.length:=List.length_pos_iff.2 h
  simp;omega
theorem yR {b c:UInt8} (h:b≠c):¬((b.toNat:Int)=(c.toNat:Int)):=fun e=>h (UInt8.toNat_inj.1 (by omega))
theorem zfC {α:Type} (l:List α) (k:Nat) (b:α) (h:l[k]?=some b):(l.take (k+1)).drop k = [b]:=by
 have hk:k<l.length:=(List.getElem?_eq_some_iff.1 h).1
 rw[List.take_add_one,h,List.drop_append]
 simp[Nat.min_eq_left (by omega:k<=l.length)]
theorem QN (l:List UInt8) (h:l.length<=2000000):Fun Tryz.prog G0 47 [.str l] (.own 0 9 1 ((zi l).map zns)) 1:=by
 refine fon Tryz.func47 ?_;dsimp only[Tryz.f47]
 push_cast -dsimp
 refine loop (fun k:Nat=>⟨[(0,.str l),(3,.own 0 9 1 ((nst l k).1.map zns)),(4,.str (nst l k).2),(5,.sc (.int .i64 k))],[],1,0⟩) (fun k=>k<=l.length+1) (fun k=>l.length+1-k) 0 (Nat.zero_le _) ?_ ?_
 ·refine j8.mk [.inr (9,1)] rfl rfl (Nat.le_refl _) rfl ?_ trivial
  push_cast -dsimp [zb,za,CLe,zd]
  simp[u9]
 ·intro k hk
  push_cast -dsimp
  by_cases h1:k<=l.length
  ·have hs:=GH l k h1
   by_cases h2:k<l.length
   ·obtain ⟨b,hb⟩:∃ b,l[k]?=some b:=⟨l[k],List.getElem?_eq_getElem h2⟩
    have hn:=uL l k b hb
    by_cases h3:b=47
    ·have h3':(b.toNat:Int)=47:=by subst h3;rfl
     by_cases h4:(nst l k).2 = []
     ·push_cast -dsimp [h1,h2,h3',hb,h4]
      and_intros<;>try omega
      refine ⟨k+1,by omega,by omega,j8.mk [.inl 0] rfl rfl (Nat.le_refl _) rfl ?_ trivial⟩
      push_cast -dsimp [zb,za,CLe,zd]
      simp[hn,ZP,h3,h4]
     ·push_cast -dsimp [h1,h2,h3',hb,h4]
      simp only[List.length_map,List.length_cons,List.length_nil]
      and_intros<;>try omega
      refine ⟨k+1,by omega,by omega,j8.mk [.inl 0] rfl rfl (Nat.le_refl _) rfl ?_ trivial⟩
      push_cast -dsimp [zb,za,CLe,zd]
      simp[hn,ZP,h3,h4,zns]
    ·have h3':¬((b.toNat:Int)=47):=yR h3
     push_cast -dsimp [h1,h2,h3',hb]
     rw[zfC l k b hb]
     and_intros<;>try omega
     ·simp;omega
     refine ⟨k+1,by omega,by omega,j8.mk [.inl 0] rfl rfl (Nat.le_refl _) rfl ?_ trivial⟩
     push_cast -dsimp [zb,za,CLe,zd]
     simp[hn,ZP,h3]
   ·obtain rfl:k=l.length:=by omega
    have hl:=zc7 l
    have he:=zdM l
    have hz:=qf l
    by_cases h4:(nst l l.length).2 = []
    ·push_cast -dsimp [h1,h2,h4]
     and_intros<;>try omega
     refine ⟨l.length+1,by omega,by omega,j8.mk [.inl 0] rfl rfl (Nat.le_refl _) rfl ?_ trivial⟩
     push_cast -dsimp [zb,za,CLe,zd]
     simp[he,←hl,zko,h4]
    ·push_cast -dsimp [h1,h2,h4]
     simp only[List.length_map,List.length_cons,List.length_nil]
     and_intros<;>try omega
     refine ⟨l.length+1,by omega,by omega,j8.mk [.inl 0] rfl rfl (Nat.le_refl _) rfl ?_ trivial⟩
     push_cast -dsimp [zb,za,CLe,zd]
     simp[he,←hl,zko,h4,zns]
  ·obtain rfl:k=l.length+1:=by omega
   have he:=zdM l
   push_cast -dsimp [h1]
   exact ⟨[.inl 0],rfl,rfl,by push_cast -dsimp [zb,za,CLe,zd,he]⟩
end
section
open Go.RowKit
abbrev zJ (xs:List (List UInt8)):List (List C):=xs.map zns
theorem xI (xs:List (List UInt8)):(zJ xs).length=xs.length:=List.length_map _
theorem zfu (xs:List (List UInt8)) (x:List UInt8):zJ xs++[[.str x]]=zJ (xs++[x]):=by simp
theorem strs_get? (xs:List (List UInt8)) (k:Nat):(zJ xs)[k]?=(xs[k]?).map zns:=List.getElem?_map
theorem zdq (xs:List (List UInt8)) (k:Nat):(zJ xs).drop k=zJ (xs.drop k):=List.map_drop.symm
theorem zeo (xs:List (List UInt8)) (k:Nat):(zJ xs).take k=zJ (xs.take k):=List.map_take.symm
theorem yf (xs ys:List (List UInt8)):zJ xs++zJ ys=zJ (xs++ys):=List.map_append.symm
theorem XV (xs:List (List UInt8)) (k:Nat) (h:k<xs.length):(zJ xs)[k]?=some [.str (xs[k]'h)]:=by rw[strs_get?,List.getElem?_eq_getElem h];rfl
attribute [push_cast] xI zfu zdq zeo yf
abbrev qu (b:Bool):C:=.sc (.bool b)
theorem uD (a b:List (List UInt8)) (ha:a.length<=9223372036854775807):Fun Tryz.prog G0 13 [.sl 1 (zJ a),.sl 1 (zJ b)] (qu (decide (a=b))) 0:=by
 by_cases hl:a.length=b.length
 ·refine fon Tryz.func13 ?_;dsimp only[Tryz.f13]
  push_cast -dsimp [hl]
  refine loop (fun k:Nat=>⟨[(0,.sl 1 (zJ a)),(1,.sl 1 (zJ b)),(5,.sc (.int .i64 k))],[],0,0⟩) (fun k=>k<=a.length/\a.take k=b.take k) (fun k=>a.length-k) 0 ⟨Nat.zero_le _,rfl⟩ ?_ ?_
  ·exact wk
  ·intro k hk
   have hk1:=hk.1
   have hk2:=hk.2
   by_cases h:k<a.length
   ·have hga:=XV a k h
    have hgb:=XV b k (by omega)
    by_cases he:a[k]'h=b[k]'(by omega)
    ·push_cast -dsimp [h,hga,hgb,he]
     refine ⟨by omega,by omega,by omega,k+1,⟨by omega,?_⟩,by omega,wk⟩
     rw[List.take_add_one,List.take_add_one,hk2,List.getElem?_eq_getElem h,List.getElem?_eq_getElem (by omega:k<b.length),he]
    ·push_cast -dsimp [h,hga,hgb,he]
     refine ⟨by omega,by omega,[],rfl,rfl,?_⟩
     push_cast -dsimp [zb,za,CLe,zd]
     have:a≠b:=fun e=>he (by subst e;rfl)
     simp[this]
   ·have hkl:k=a.length:=by omega
    push_cast -dsimp [h]
    refine ⟨[],rfl,rfl,?_⟩
    push_cast -dsimp [zb,za,CLe,zd]
    rw[hkl,List.take_length,hl,List.take_length]at hk2
    simp[hk2]
 ·have hl':¬((a.length:Int)=(b.length:Int)):=by omega
  refine fon Tryz.func13 ?_;dsimp only[Tryz.f13]
  push_cast -dsimp [hl]
  refine ⟨[],rfl,rfl,?_⟩
  push_cast -dsimp [zb,za,CLe,zd]
  have:a≠b:=fun e=>hl (by rw[e])
  simp[this]
def few (l:List (List UInt8)):Bool:=(l.take 100).all (fun x=>decide (x.length<=300))&&decide (l.length<=40)
end
section
open Go.RowKit
theorem Fun.wrap {P:Program} {G:zo} {f:FuncId} {args:List C} {r:C} (he:Yv P f=true)
  (h:∀ (R:Env) (vs:List Value),zu R zE args vs->Calls P f vs.toArray R.w fun e w'=>∃ v,e = .returned v/\Below R.w.heap.size R.w w'/\∀ R',Ext R R'->Rep R' zE r v):Fun P G f args r 0:=by
 refine ⟨he,fun R vs hg ha=>(h R vs ha).mono ?_⟩
 rintro e w' ⟨v,rfl,hb,hr⟩
 have st:qo 0 0 R zE ⟨w',fun b o=>b<R.w.heap.size/\R.M b o,R.F⟩ zE:=qo.mem (nx:=0) hb
 exact ⟨v,_,zE,rfl,rfl,st,hr _ st.ext⟩
def jE:List UInt8->List (List UInt8)
 | []=>[[]]
 | b :: l=>if b=47 then [] :: jE l else match jE l with
  | []=>[[b]]
  | x :: r=>(b :: x) :: r
theorem kN (l:List UInt8):jE l≠[]:=by
 cases l with
 | nil=>simp[jE]
 | cons b l =>
  unfold jE
  split
  ·simp
  ·split<;>simp
theorem H6:∀ l:List UInt8,Lib.indexByte l 47<0->jE l = [l]
 | [],_=>rfl
 | b :: l,h=>by
  unfold Lib.indexByte at h
  by_cases hb:b=47
  ·subst hb;simp at h
  ·have hb':(b==47)=false:=by simpa using hb
   rw[hb']at h
   simp only[Bool.false_eq_true,if_false]at h
   have hl:Lib.indexByte l 47<0:=by
    split at h
    ·rename_i g;have:=beq_iff_eq.1 g;omega
    ·omega
   unfold jE
   rw[if_neg hb,H6 l hl]
theorem H1:∀ l:List UInt8,-1<=Lib.indexByte l 47
 | []=>Int.le_refl _
 | b :: l=>by
  have:=H1 l
  unfold Lib.indexByte
  split
  ·decide
  ·split
   ·decide
   ·omega
theorem v6:∀ (l:List UInt8) (i:Nat),Lib.indexByte l 47=(i:Int)->i<l.length/\jE l=l.take i :: jE (l.drop (i+1))
 | [],i,h=>by
  have h:(-1:Int)=(i:Int):=h
  omega
 | b :: l,i,h=>by
  unfold Lib.indexByte at h
  by_cases hb:b=47
  ·subst hb
   simp at h
   obtain rfl:i=0:=by omega
   refine ⟨by simp,?_⟩
   conv=>lhs;unfold jE
   simp
  ·have hb':(b==47)=false:=by simpa using hb
   rw[hb']at h
   simp only[Bool.false_eq_true,if_false]at h
   split at h
   ·omega
   ·rename_i g
    have g':Lib.indexByte l 47≠-1:=by simpa using g
    have hg:=H1 l
    obtain ⟨j,rfl⟩:∃ j,i=j+1:=⟨i-1,by omega⟩
    have hj:Lib.indexByte l 47=(j:Int):=by omega
    obtain ⟨h1,h2⟩:=v6 l j hj
    refine ⟨by simp;omega,?_⟩
    conv=>lhs;unfold jE
    rw[if_neg hb,h2]
    simp
theorem UJ:∀ (l:List UInt8) (a:List (List UInt8)) (cur:List UInt8),zko (l.foldl ZP (a,cur))=a++(match jE l with | []=>[] | x :: r=>(cur++x) :: r).filter (fun x=>!decide (x = []))
 | [],a,cur=>by
  simp only[List.foldl_nil,zko,jE]
  by_cases h:cur = []<;>simp[h]
 | b :: l,a,cur=>by
  simp only[List.foldl_cons]
  by_cases hb:b=47
  ·subst hb
   have hn:ZP (a,cur) 47=(if cur = [] then a else a++[cur],[]):=by simp[ZP]
   rw[hn,UJ l]
   conv=>rhs;unfold jE
   simp only[if_true]
   have hne:=kN l
   cases hs:jE l with
   | nil=>exact absurd hs hne
   | cons x r=>by_cases h:cur = []<;>simp[h]
  ·have hn:ZP (a,cur) b=(a,cur++[b]):=by simp[ZP,hb]
   rw[hn,UJ l]
   conv=>rhs;unfold jE
   rw[if_neg hb]
   have hne:=kN l
   cases hs:jE l with
   | nil=>exact absurd hs hne
   | cons x r=>simp
theorem jV (l:List UInt8):zi l=(jE l).filter (fun x=>!decide (x = [])):=by
 unfold zi
 rw[UJ]
 cases hs:jE l with
 | nil=>rfl
 | cons x r=>simp
theorem zda (l:List UInt8):Fun Tryz.prog G0 170 [.str l,.str [47]] (.sc (.int .i64 (Lib.indexByte l 47))) 0:=by
 refine Fun.wrap (by kernel_rfl) fun R vs h=>?_
 obtain ⟨v1,us1,rfl,h1,h⟩:=zf.1 h
 obtain ⟨v2,us2,rfl,h2,h⟩:=zf.1 h
 rw[zj]at h
 subst h
 rw[zQ]at h1 h2
 subst h1 h2
 refine (Tryz.strings_Index_one ⟨l.toArray⟩ 47 R.w).mono ?_
 rintro e w' ⟨rfl,rfl⟩
 exact ⟨_,rfl,Below.refl _ _,fun R' _=>zm.2 (by simp)⟩
theorem kp (s:List UInt8) (hs:s.length<=1000000):xz Tryz.prog G0 168 [] [.ptr 1 0,.ptr 0 0,.ptr 2 0] [[.str s],[.str [47]],[.sc (.int .i64 0)]] (zJ (jE s)):=by
 refine foI (fun _=>[]) Tryz.func168 ?_;dsimp only[Tryz.f168]
 intro l sf
 push_cast -dsimp
 refine loop (fun x:List UInt8×Nat=>⟨[(0,.sc (.func (.yield l) #[] #[])),(1,.ptr 1 0),(2,.ptr 0 0),(3,.ptr 2 0)],[[.str x.1],[.str [47]],[.sc (.int .i64 0)]],0,x.2⟩)
  (fun x=>x.1.length<=1000000/\(∃ done,jE s=done++jE x.1/\done.length=x.2)/\∀ j,j<x.2->sf j=false) (fun x=>x.1.length) (s,0) ⟨hs,⟨[],rfl,rfl⟩,fun j hj=>by omega⟩ ?_ ?_
 ·refine j8.mk [] rfl rfl (Nat.zero_le _) rfl ?_ ?_<;>push_cast -dsimp [zb,za,CLe,zd]<;>omega
 ·rintro ⟨r,k⟩ hx
  simp only at hx ⊢
  have hr:=hx.1
  have hsf:=hx.2.2
  obtain ⟨done,hd,hdl⟩:=hx.2.1
  clear hx
  push_cast -dsimp
  refine call (zda r) ?_
  push_cast -dsimp
  by_cases hi:Lib.indexByte r 47<0
  ·push_cast -dsimp [hi]
   have hk:(zJ (jE s))[k]?=some [.str r]:=by
    rw[hd,H6 r hi];simp[←hdl]
   rw[hk]
   push_cast -dsimp
   refine ⟨by push_cast -dsimp [zb,za,CLe,zd],hsf,?_⟩
   cases hk2:sf k with
   | true=>exact .inr ⟨Nat.succ_pos k,hk2⟩
   | false =>
    refine .inl ⟨?_,fun j (hj:j<k+1)=>?_⟩
    ·rw[hd,H6 r hi];simp[hdl]
    ·rcases Nat.lt_or_ge j k with g | g
     ·exact hsf j g
     ·rw[show j=k by omega];exact hk2
  ·have hg:=H1 r
   obtain ⟨i,hii⟩:∃ i:Nat,Lib.indexByte r 47=(i:Int):=⟨(Lib.indexByte r 47).toNat,by omega⟩
   obtain ⟨hir,hsp⟩:=v6 r i hii
   have hk:(zJ (jE s))[k]?=some [.str (r.take i)]:=by
    rw[hd,hsp];simp[←hdl]
   rw[hii]at hi ⊢
   push_cast -dsimp [hi]
   rw[hk]
   push_cast -dsimp
   refine ⟨by omega,by omega,by push_cast -dsimp [zb,za,CLe,zd],hsf,br (fun hk2=>?_) (fun hk2=>?_)⟩
   ·push_cast -dsimp
    exact .inr ⟨Nat.succ_pos k,hk2⟩
   ·push_cast -dsimp
    refine ⟨by omega,by omega,(r.drop (i+1),k+1),⟨by simp;omega,⟨done++[r.take i],by rw[hd,hsp];simp,by simp[hdl]⟩,fun j (hj:j<k+1)=>?_⟩,by simp;omega,j8.mk [] rfl rfl (Nat.zero_le _) rfl ?_ ?_⟩
    ·rcases Nat.lt_or_ge j k with g | g
     ·exact hsf j g
     ·rw[show j=k by omega];exact hk2
    ·push_cast -dsimp [zb,za,CLe,zd]
    ·push_cast -dsimp [zb,za,CLe,zd]
theorem Nu (s:List UInt8):Mc Tryz.prog G0 146 [.str s,.str [47],.sc (.int .i64 0)] [] 0 (.clo (.func 168) [] [.ptr 1 0,.ptr 0 0,.ptr 2 0]) [[.str s],[.str [47]],[.sc (.int .i64 0)]] 0:=by
 refine foB (fun _=>[]) Tryz.func146 ?_;dsimp only[Tryz.f146]
 push_cast -dsimp
 exact ⟨[],rfl,rfl,by push_cast -dsimp [zb,za,CLe,zd],by push_cast -dsimp [zb,za,CLe,zd]⟩
theorem Mh (s:List UInt8):Mc Tryz.prog G0 102 [.str s,.str [47]] [] 0 (.clo (.func 168) [] [.ptr 1 0,.ptr 0 0,.ptr 2 0]) [[.str s],[.str [47]],[.sc (.int .i64 0)]] 0:=by
 refine foB (fun _=>[]) Tryz.func102 ?_;dsimp only[Tryz.f102]
 push_cast -dsimp
 refine Qz [] [] (Nu s) rfl (by simp) (by simp) (fun i hi=>by cases hi) (by push_cast -dsimp) rfl ?_
 push_cast -dsimp
 exact ⟨[],rfl,rfl,by push_cast -dsimp [zb,za,CLe,zd],by push_cast -dsimp [zb,za,CLe,zd]⟩
end
section
open Go.RowKit
abbrev Hf (x:List UInt8):Bool:=!decide (x = [])
def cnt (xs:List (List UInt8)) (k:Nat):Nat:=((xs.take k).filter Hf).length
theorem uq (xs:List (List UInt8)) (k:Nat) (x:List UInt8) (h:xs[k]?=some x):cnt xs (k+1)=if x = [] then cnt xs k else cnt xs k+1:=by
 unfold cnt
 rw[List.take_add_one,h]
 by_cases hx:x = []<;>simp[hx]
theorem znc (xs:List (List UInt8)) (k:Nat) (x:List UInt8) (h:xs[k]?=some x) (hx:x≠[]):(xs.filter Hf)[cnt xs k]?=some x:=by
 have hk:k<xs.length:=(List.getElem?_eq_some_iff.1 h).1
 have e:xs=xs.take k++x :: xs.drop (k+1):=by
  have:=List.take_append_drop k xs
  rw[List.drop_eq_getElem_cons hk]at this
  rw[List.getElem?_eq_getElem hk]at h
  cases h;exact this.symm
 have e2:xs.filter Hf=(xs.take k).filter Hf++x :: (xs.drop (k+1)).filter Hf:=by
  conv=>lhs;rw[e]
  rw[List.filter_append,List.filter_cons]
  simp[hx]
 rw[e2]
 unfold cnt
 simp
theorem zmZ (xs:List (List UInt8)):cnt xs xs.length=(xs.filter Hf).length:=by unfold cnt;rw[List.take_length]
theorem ZJ {xs:List (List UInt8)} {sf:Nat->Bool}:∀ k,k<=xs.length->(∀ j,j<k->(Hf (xs.getD j [])&&sf (cnt xs j))=false)->∀ j,j<cnt xs k->sf j=false
 | 0,_,_,j,hj=>by simp[cnt]at hj
 | k+1,hk,h,j,hj=>by
  have ih:=ZJ k (by omega) fun i hi=>h i (by omega)
  have hx:xs[k]?=some (xs.getD k []):=by rw[List.getD_eq_getElem?_getD,List.getElem?_eq_getElem (by omega)];rfl
  rw[uq xs k _ hx]at hj
  by_cases he:xs.getD k [] = []
  ·rw[if_pos he]at hj;exact ih j hj
  ·rw[if_neg he]at hj
   rcases Nat.lt_or_ge j (cnt xs k) with g | g
   ·exact ih j g
   ·have h2:=h k (by omega)
    have h3:Hf (xs.getD k [])=true:=by simp only[Hf,Bool.not_eq_true',decide_eq_false_iff_not];exact he
    rw[h3,Bool.true_and]at h2
    rw[show j=cnt xs k by omega];exact h2
theorem XY {xs:List (List UInt8)} {k:Nat} {it:List C} (h:(zJ xs)[k]?=some it):∃ x,xs[k]?=some x/\it = [.str x]:=by
 rw[List.getElem?_map]at h
 cases hq:xs[k]? with
 | none=>rw[hq]at h;cases h
 | some x=>rw[hq]at h;cases h;exact ⟨x,rfl,rfl⟩
theorem Xe (p:List UInt8) (hs:p.length<=1000000):xz Tryz.prog G0 101 [] [.row [.str p]] [] (zJ (zi p)):=by
 rw[jV]
 refine foI (fun _=>[]) Tryz.func101 ?_;dsimp only[Tryz.f101]
 intro l sf
 push_cast -dsimp
 refine Qz [] [] (Mh p) rfl (by simp) (by simp) (fun i hi=>by cases hi) (by push_cast -dsimp) rfl ?_
 push_cast -dsimp
 refine range (zJ (jE p)) (fun k=>Hf ((jE p).getD k [])&&sf (cnt (jE p) k)) 1 (fun k=>⟨[],[[.sc (.func (.yield l) #[] #[])]],0,cnt (jE p) k⟩) (kp p hs) (by push_cast -dsimp) (by push_cast -dsimp) (by push_cast -dsimp) (Nat.zero_le _) (by push_cast -dsimp) (fun it hit=>?_) (fun k _=>rfl) ?_ (fun k it hk hsf=>?_) (fun hsf=>?_)
 ·obtain ⟨x,_,rfl⟩:=List.mem_map.1 hit;rfl
 ·exact wk
 ·obtain ⟨x,hx,rfl⟩:=XY hk
  have hxd:(jE p).getD k []=x:=by rw[List.getD_eq_getElem?_getD,hx];rfl
  have hkl:k<(jE p).length:=(List.getElem?_eq_some_iff.1 hx).1
  have hcs:=uq (jE p) k x hx
  have hbef:=ZJ (xs:=jE p) (sf:=sf) k (by omega) hsf
  by_cases he:x = []
  ·push_cast -dsimp [he]
   refine ⟨?_,j8.mk [] rfl rfl (Nat.le_refl _) ?_ (by push_cast -dsimp [zb,za,CLe,zd]) (by push_cast -dsimp [zb,za,CLe,zd])⟩
   ·rw[hxd,he];rfl
   ·simp[hcs,he,St.wt]
  ·have hget:=znc (jE p) k x hx he
   have hg2:(zJ ((jE p).filter Hf))[cnt (jE p) k]?=some [.str x]:=by rw[List.getElem?_map,hget];rfl
   push_cast -dsimp [he]
   rw[hg2]
   push_cast -dsimp
   refine ⟨by push_cast -dsimp [zb,za,CLe,zd],hbef,br (fun h2=>?_) (fun h2=>?_)⟩
   ·push_cast -dsimp
    refine ⟨by rw[hxd,h2];simp[Hf,he],⟨[],[[.sc (.func (.yield l) #[] #[])]],0,cnt (jE p) k+1⟩,rfl,wk,?_⟩
    push_cast -dsimp
    exact .inr ⟨Nat.succ_pos _,h2⟩
   ·push_cast -dsimp
    refine ⟨by rw[h2,Bool.and_false],j8.mk [] rfl rfl (Nat.le_refl _) ?_ (by push_cast -dsimp [zb,za,CLe,zd]) (by push_cast -dsimp [zb,za,CLe,zd])⟩
    simp[hcs,he,St.wt]
 ·have hall:=zmZ (jE p)
  have hbef:=ZJ (xs:=jE p) (sf:=sf) (jE p).length (Nat.le_refl _) fun j hj=>hsf j (by simpa using hj)
  push_cast -dsimp
  refine .inl ⟨?_,?_⟩
  ·simp[hall]
  ·simpa using hbef
end
section
open Go.RowKit
theorem JI (p:List UInt8):Fun Tryz.prog G0 57 [.str p] (.clo (.func 101) [] [.row [.str p]]) 0:=by
 refine fon Tryz.func57 ?_;dsimp only[Tryz.f57]
 push_cast -dsimp
 exact dn
theorem H4 (xs:List (List UInt8)) (f:FuncId) (cap:List C) (hsel:C.selL (YK 1) cap=cap) (hit:xz Tryz.prog G0 f [] cap [] (zJ xs)) (hx:xs.length<=1000001):Fun Tryz.prog G0 155 [.sc (.slice none 0 0),.clo (.func f) [] cap] (.own 0 9 1 (zJ xs)) 1:=by
 refine fon Tryz.func155 ?_;dsimp only[Tryz.f155]
 push_cast -dsimp
 refine range (zJ xs) (fun _=>false) 1 (fun k=>⟨[],[[.own 0 9 1 (zJ (xs.take k))]],1,0⟩) hit (by push_cast -dsimp) hsel (by push_cast -dsimp) (Nat.zero_le _) (by push_cast -dsimp) (fun it h=>?_) (fun k _=>rfl) ?_ (fun k it hk hsf=>?_) (fun hsf=>?_)
 ·obtain ⟨x,_,rfl⟩:=List.mem_map.1 h;rfl
 ·exact wks [.inr (9,1)]
 ·obtain ⟨x,hx2,rfl⟩:=XY hk
  have hkl:k<xs.length:=(List.getElem?_eq_some_iff.1 hx2).1
  push_cast -dsimp
  simp only[List.length_take]
  refine ⟨by omega,by omega,j8.mk [.inl 0] rfl rfl (Nat.le_refl _) rfl (by push_cast -dsimp [zb,za,CLe,zd]) ?_⟩
  push_cast -dsimp [zb,za,CLe,zd]
  rw[List.take_add_one,hx2]
  rfl
 ·push_cast -dsimp
  refine ⟨[.inl 0],rfl,rfl,?_⟩
  push_cast -dsimp [zb,za,CLe,zd]
  simp
theorem x4 (xs:List (List UInt8)) (f:FuncId) (cap:List C) (hsel:C.selL (YK 1) cap=cap) (hfrz:C.frzL cap=cap) (hit:xz Tryz.prog G0 f [] cap [] (zJ xs)) (hx:xs.length<=1000001):Fun Tryz.prog G0 115 [.clo (.func f) [] cap] (.own 0 9 1 (zJ xs)) 1:=by
 refine fon Tryz.func115 ?_;dsimp only[Tryz.f115]
 push_cast -dsimp [hfrz]
 refine call (H4 xs f cap hsel hit hx) ?_
 push_cast -dsimp
 exact ⟨[.inl 0],rfl,rfl,by push_cast -dsimp [zb,za,CLe,zd]⟩
theorem Xx (p:List UInt8) (hp:p.length<=1000000):Fun Tryz.prog G0 115 [.clo (.func 101) [] [.row [.str p]]] (.own 0 9 1 (zJ (zi p))) 1:=
 x4 (zi p) _ _ (by push_cast -dsimp) (by push_cast -dsimp) (Xe p hp) (by have:=qf p;omega)
theorem Y0 (s p:List UInt8):Fun Tryz.prog G0 56 [.str s,.str p] (.sc (.bool (Lib.hasPrefix s p))) 0:=by
 refine Fun.wrap (by kernel_rfl) fun R vs h=>?_
 obtain ⟨v1,us1,rfl,h1,h⟩:=zf.1 h
 obtain ⟨v2,us2,rfl,h2,h⟩:=zf.1 h
 rw[zj]at h
 subst h
 rw[zQ]at h1 h2
 subst h1 h2
 refine (Tryz.strings_HasPrefix ⟨s.toArray⟩ ⟨p.toArray⟩ R.w).mono ?_
 rintro e w' ⟨rfl,rfl⟩
 exact ⟨_,rfl,Below.refl _ _,fun R' _=>zm.2 (by simp)⟩
theorem Q8 (s p:List UInt8) (hs:s.length<=1000000):Fun Tryz.prog G0 116 [.str s,.str p] (.sc (.bool (Lib.hasSuffix s p))) 0:=by
 refine Fun.wrap (by kernel_rfl) fun R vs h=>?_
 obtain ⟨v1,us1,rfl,h1,h⟩:=zf.1 h
 obtain ⟨v2,us2,rfl,h2,h⟩:=zf.1 h
 rw[zj]at h
 subst h
 rw[zQ]at h1 h2
 subst h1 h2
 refine (Tryz.strings_HasSuffix ⟨s.toArray⟩ ⟨p.toArray⟩ R.w (by simp[ByteArray.size];omega)).mono ?_
 rintro e w' ⟨rfl,rfl⟩
 exact ⟨_,rfl,Below.refl _ _,fun R' _=>zm.2 (by simp)⟩
theorem V2 (xs:List (List UInt8)) (sep:List UInt8) (hx:xs.length<=1000001) (hl:(Lib.join xs sep).length<=100000000):Fun Tryz.prog G0 108 [.sl 1 (zJ xs),.str sep] (.str (Lib.join xs sep)) 0:=by
 refine Fun.wrap (by kernel_rfl) fun R vs h=>?_
 obtain ⟨v1,us1,rfl,h1,h⟩:=zf.1 h
 obtain ⟨v2,us2,rfl,h2,h⟩:=zf.1 h
 rw[zj]at h
 subst h
 rw[zQ]at h2
 subst h2
 obtain ⟨a,cap,rfl,hc1,hc2,hr⟩:=Hl.1 h1
 have hlen:(zJ xs).length=xs.length:=by simp
 have hmap:(xs.map fun x=>ByteArray.mk x.toArray).map (·.data.toList)=xs:=by
  rw[List.map_map]
  conv=>rhs;rw[←List.map_id xs]
  exact List.map_congr_left fun x _=>by simp
 rcases hr with hr | ⟨b,o,rfl,hr⟩
 ·have:xs = []:=by simpa using hr
  subst this
  refine (Tryz.strings_Join_none a cap ⟨sep.toArray⟩ R.w).mono ?_
  rintro e w' ⟨rfl,rfl⟩
  exact ⟨_,rfl,Below.refl _ _,fun R' _=>zQ.2 (by simp[Lib.join])⟩
 ·by_cases hx0:xs = []
  ·subst hx0
   refine (Tryz.strings_Join_none _ cap ⟨sep.toArray⟩ R.w).mono ?_
   rintro e w' ⟨rfl,rfl⟩
   exact ⟨_,rfl,Below.refl _ _,fun R' _=>zQ.2 (by simp[Lib.join])⟩
  ·have hcells:∀ (j:Nat) x,(xs.map fun x=>ByteArray.mk x.toArray)[j]?=some x->R.w.cell? ⟨b,o+j,none⟩=some (.string x):=fun j x hj=>by
    rw[List.getElem?_map]at hj
    cases hq:xs[j]? with
    | none=>rw[hq]at hj;cases hj
    | some y =>
     rw[hq]at hj;cases hj
     obtain ⟨_,g⟩:=ja hr j [.str y] (by rw[List.getElem?_map,hq];rfl)
     obtain ⟨⟨v,g1,_,g2,_⟩,_⟩:=qj.1 g
     rw[zQ]at g2
     subst g2
     simpa using g1
   have hb:b<R.w.heap.size:=by
    cases xs with
    | nil=>exact absurd rfl hx0
    | cons x r =>
     exact xO (hcells 0 ⟨x.toArray⟩ rfl)
   have hj:=Tryz.strings_Join b o cap (xs.map fun x=>ByteArray.mk x.toArray) ⟨sep.toArray⟩ R.w hcells hb (by simp;omega) (by simpa using hc1) (by rw[hmap];simp;omega)
   rw[hmap]at hj
   simp only[List.length_map]at hj
   rw[hlen]
   refine hj.mono ?_
   rintro e w' ⟨rfl,hbl⟩
   exact ⟨_,rfl,hbl,fun R' _=>zQ.2 (by simp)⟩
end
section
open Go.RowKit
def VI (p:List UInt8):C:=.agg [qu (Lib.hasPrefix p [47]),.own 0 9 1 (zJ (zi p)),qu (!decide (zi p = [])&&Lib.hasSuffix p [47])]
theorem QL (p:List UInt8) (hp:p.length<=1000000):Fun Tryz.prog G0 63 [.str p] (VI p) 1:=by
 refine fon Tryz.func63 ?_;dsimp only[Tryz.f63]
 push_cast -dsimp
 refine call (JI p) ?_
 push_cast -dsimp
 refine call (Xx p hp) ?_
 push_cast -dsimp
 refine call (Y0 p [47]) ?_
 push_cast -dsimp
 by_cases h:zi p = []
 ·push_cast -dsimp [h]
  exact ⟨[.inl 0],rfl,rfl,by simp only[VI];push_cast -dsimp [zb,za,CLe,zd,h];simp⟩
 ·have h':0<(zi p).length:=List.length_pos_iff.2 h
  push_cast -dsimp [h']
  refine call (Q8 p [47] hp) ?_
  push_cast -dsimp
  exact ⟨[.inl 0],rfl,rfl,by simp only[VI];push_cast -dsimp [zb,za,CLe,zd,h]⟩
def zio (a:Bool) (xs:List (List UInt8)) (s:Bool):C:=.agg [qu a,.sl 1 (zJ xs),qu s]
def put (a:Bool) (xs:List (List UInt8)) (s:Bool):List UInt8:=(if a then [47] else [])++Lib.join xs [47]++(if s&&!decide (xs = []) then [47] else [])
theorem zkY (a:Bool) (xs:List (List UInt8)) (s:Bool) (hx:xs.length<=1000001) (hl:(Lib.join xs [47]).length<=100000000):Fun Tryz.prog G0 114 [zio a xs s] (.str (put a xs s)) 0:=by
 unfold zio
 refine fon Tryz.func114 ?_;dsimp only[Tryz.f114]
 push_cast -dsimp
 refine call (V2 xs [47] hx hl) ?_
 push_cast -dsimp
 by_cases h:xs = []
 ·subst h
  cases a<;>cases s<;>push_cast -dsimp
  ·exact ⟨[],rfl,rfl,by push_cast -dsimp [zb,za,CLe,zd];simp[put]⟩
  ·exact ⟨[],rfl,rfl,by push_cast -dsimp [zb,za,CLe,zd];simp[put]⟩
  ·exact ⟨by omega,[],rfl,rfl,by push_cast -dsimp [zb,za,CLe,zd];simp[put]⟩
  ·exact ⟨by omega,[],rfl,rfl,by push_cast -dsimp [zb,za,CLe,zd];simp[put]⟩
 ·have h':0<xs.length:=List.length_pos_iff.2 h
  cases a<;>cases s<;>push_cast -dsimp [h']
  ·exact ⟨[],rfl,rfl,by push_cast -dsimp [zb,za,CLe,zd];simp[put]⟩
  ·exact ⟨by omega,[],rfl,rfl,by push_cast -dsimp [zb,za,CLe,zd];simp[put,h]⟩
  ·exact ⟨by omega,[],rfl,rfl,by push_cast -dsimp [zb,za,CLe,zd];simp[put]⟩
  ·exact ⟨by omega,by omega,[],rfl,rfl,by push_cast -dsimp [zb,za,CLe,zd];simp[put,h]⟩
def zY (xs:List (List UInt8)):List UInt8:=if xs = [] then [47] else 47 :: Lib.join xs [47]
theorem XM (xs:List (List UInt8)) (hx:xs.length<=1000001) (hl:(Lib.join xs [47]).length<=100000000):Fun Tryz.prog G0 69 [.sl 1 (zJ xs)] (.str (zY xs)) 0:=by
 refine fon Tryz.func69 ?_;dsimp only[Tryz.f69]
 push_cast -dsimp
 by_cases h:xs = []
 ·push_cast -dsimp [h]
  exact ⟨[],rfl,rfl,by simp only[zY,h];push_cast -dsimp [zb,za,CLe,zd]⟩
 ·have h':¬((xs.length:Int)=0):=by have:=List.length_pos_iff.2 h;omega
  push_cast -dsimp [h']
  refine call ((V2 xs [47] hx hl)) ?_
  push_cast -dsimp
  exact ⟨by omega,[],rfl,rfl,by simp only[zY,if_neg h];push_cast -dsimp [zb,za,CLe,zd]⟩
def J7 (p:List UInt8):Bool:=(zi p).any (fun x=>decide (255<x.length))||decide (4095<p.length)
theorem uw (p:List UInt8) (hp:p.length<=1000000):Fun Tryz.prog G0 109 [.str p] (qu (J7 p)) 0:=by
 refine fon Tryz.func109 ?_;dsimp only[Tryz.f109]
 push_cast -dsimp
 refine call (JI p) ?_
 push_cast -dsimp
 refine range (zJ (zi p)) (fun k=>decide (255<((zi p).getD k []).length)) 1 (fun k=>⟨[],[[.sc (.bool false)]],0,0⟩) (Xe p hp) (by push_cast -dsimp) (by push_cast -dsimp) (by push_cast -dsimp) (Nat.zero_le _) (by push_cast -dsimp) (fun it h=>?_) (fun k _=>rfl) ?_ (fun k it hk hsf=>?_) (fun hsf=>?_)
 ·obtain ⟨x,_,rfl⟩:=List.mem_map.1 h;rfl
 ·exact wk
 ·obtain ⟨x,hx,rfl⟩:=XY hk
  have hxd:(zi p).getD k []=x:=by rw[List.getD_eq_getElem?_getD,hx];rfl
  push_cast -dsimp
  rw[hxd]
  refine br (fun h=>?_) (fun h=>?_)
  ·have h':255<x.length:=by have:=of_decide_eq_true h;omega
   push_cast -dsimp
   refine ⟨by simpa using h',⟨[],[[.sc (.bool true)]],0,0⟩,rfl,wk,?_⟩
   push_cast -dsimp
   refine ⟨[],rfl,rfl,?_⟩
   push_cast -dsimp [zb,za,CLe,zd]
   have:(zi p).any (fun x=>decide (255<x.length))=true:=List.any_eq_true.2 ⟨x,List.mem_of_getElem? hx,by simpa using h'⟩
   simp[J7,this]
  ·have h':¬255<x.length:=by have:=of_decide_eq_false h;omega
   push_cast -dsimp
   exact ⟨by simpa using h',wk⟩
 ·push_cast -dsimp
  refine ⟨[],rfl,rfl,?_⟩
  push_cast -dsimp [zb,za,CLe,zd]
  have:(zi p).any (fun x=>decide (255<x.length))=false:=List.any_eq_false.2 fun x hx=>by
   obtain ⟨k,hk,rfl⟩:=List.getElem_of_mem hx
   have:=hsf k (by simpa using hk)
   rw[List.getD_eq_getElem?_getD,List.getElem?_eq_getElem hk]at this
   simpa using this
  simp[J7,this]
  omega
def Jt (p:List UInt8):List UInt8:=(zi p).getLastD (if Lib.hasPrefix p [47] then [47] else [])
theorem zhj (p:List UInt8) (hp:p.length<=1000000):Fun Tryz.prog G0 27 [.str p] (.str (Jt p)) 0:=by
 refine fon Tryz.func27 ?_;dsimp only[Tryz.f27]
 push_cast -dsimp
 refine call (Y0 p [47]) ?_
 push_cast -dsimp
 have go:∀ b0:List UInt8,b0=(if Lib.hasPrefix p [47] then [47] else [])->Jt p=((zi p).take (zi p).length).getLastD b0:=fun b0 hb=>by rw[List.take_length,hb];rfl
 have main:∀ b0:List UInt8,b0=(if Lib.hasPrefix p [47] then [47] else [])->∀ k x,(zi p)[k]?=some x->((zi p).take (k+1)).getLastD b0=x:=fun b0 _ k x hx=>by
  rw[List.take_add_one,hx];simp
 cases hpf:Lib.hasPrefix p [47] with
 | true =>
  rw[hpf]at go main
  push_cast -dsimp
  refine call (JI p) ?_
  push_cast -dsimp
  refine range (zJ (zi p)) (fun k=>false) 1 (fun k=>⟨[],[[.str (((zi p).take k).getLastD [47])]],0,0⟩) (Xe p hp) (by push_cast -dsimp) (by push_cast -dsimp) (by push_cast -dsimp) (Nat.zero_le _) (by push_cast -dsimp) (fun it h=>?_) (fun k _=>rfl) ?_ (fun k it hk hsf=>?_) (fun hsf=>?_)
  ·obtain ⟨x,_,rfl⟩:=List.mem_map.1 h;rfl
  ·exact j8.mk [] rfl rfl (Nat.le_refl _) rfl (by push_cast -dsimp [zb,za,CLe,zd]) (by push_cast -dsimp [zb,za,CLe,zd];rfl)
  ·obtain ⟨x,hx,rfl⟩:=XY hk
   have:=main [47] rfl k x hx
   push_cast -dsimp
   exact wk (h5:=by push_cast -dsimp [zb,za,CLe,zd,this])
  ·have:=go [47] rfl
   push_cast -dsimp
   exact ⟨[],rfl,rfl,by push_cast -dsimp [zb,za,CLe,zd];exact this.symm⟩
 | false =>
  rw[hpf]at go main
  push_cast -dsimp
  refine call (JI p) ?_
  push_cast -dsimp
  refine range (zJ (zi p)) (fun k=>false) 1 (fun k=>⟨[],[[.str (((zi p).take k).getLastD [])]],0,0⟩) (Xe p hp) (by push_cast -dsimp) (by push_cast -dsimp) (by push_cast -dsimp) (Nat.zero_le _) (by push_cast -dsimp) (fun it h=>?_) (fun k _=>rfl) ?_ (fun k it hk hsf=>?_) (fun hsf=>?_)
  ·obtain ⟨x,_,rfl⟩:=List.mem_map.1 h;rfl
  ·exact j8.mk [] rfl rfl (Nat.le_refl _) rfl (by push_cast -dsimp [zb,za,CLe,zd]) (by push_cast -dsimp [zb,za,CLe,zd];rfl)
  ·obtain ⟨x,hx,rfl⟩:=XY hk
   have:=main [] rfl k x hx
   push_cast -dsimp
   exact wk (h5:=by push_cast -dsimp [zb,za,CLe,zd,this])
  ·have:=go [] rfl
   push_cast -dsimp
   exact ⟨[],rfl,rfl,by push_cast -dsimp [zb,za,CLe,zd];exact this.symm⟩
def Hk (p q:List UInt8):Bool:=decide (p=q)||decide (q = [47])||Lib.hasPrefix p (q++[47])
theorem Ho (p q:List UInt8) (hq:q.length<=1000000):Fun Tryz.prog G0 185 [.str p,.str q] (qu (Hk p q)) 0:=by
 refine fon Tryz.func185 ?_;dsimp only[Tryz.f185]
 push_cast -dsimp
 by_cases h1:p=q
 ·push_cast -dsimp [h1]
  exact ⟨[],rfl,rfl,by push_cast -dsimp [zb,za,CLe,zd];simp[Hk]⟩
 ·by_cases h2:q = [47]
  ·subst h2
   push_cast -dsimp [h1]
   exact ⟨[],rfl,rfl,by push_cast -dsimp [zb,za,CLe,zd];simp[Hk]⟩
  ·push_cast -dsimp [h1,h2]
   refine ⟨by omega,?_⟩
   refine call (Y0 p (q++[47])) ?_
   push_cast -dsimp
   exact ⟨[],rfl,rfl,by push_cast -dsimp [zb,za,CLe,zd];simp[Hk,h1,h2]⟩
end
section
open Go.RowKit
theorem QY (l:List UInt8) (c:UInt8):Fun Tryz.prog G0 64 [.str l,.sc (.int .u8 (c.toNat:Int))] (.sc (.int .i64 (Lib.indexByte l c))) 0:=by
 refine Fun.wrap (by kernel_rfl) fun R vs h=>?_
 obtain ⟨v1,us1,rfl,h1,h⟩:=zf.1 h
 obtain ⟨v2,us2,rfl,h2,h⟩:=zf.1 h
 rw[zj]at h
 subst h
 rw[zQ]at h1
 rw[zm]at h2
 subst h1 h2
 refine (Tryz.strings_IndexByte ⟨l.toArray⟩ (c.toNat:Int) R.w).mono ?_
 rintro e w' ⟨rfl,rfl⟩
 exact ⟨_,rfl,Below.refl _ _,fun R' _=>zm.2 (by simp)⟩
theorem Xc (r:Int):Fun Tryz.prog G0 260 [.sc (.int .i32 r)] (.sc (.bool (Lib.validRune r))) 0:=by
 refine Fun.wrap (by kernel_rfl) fun R vs h=>?_
 obtain ⟨v1,us1,rfl,h1,h⟩:=zf.1 h
 rw[zj]at h
 subst h
 rw[zm]at h1
 subst h1
 refine (Tryz.utf8_ValidRune r R.w).mono ?_
 rintro e w' ⟨rfl,rfl⟩
 exact ⟨_,rfl,Below.refl _ _,fun R' _=>zm.2 rfl⟩
theorem ziP (r:Int) (hv:Utf8.valid r=true) (h128:128<=r):∃ l c,(Utf8.encode r).data.toList=l++[c]/\1<=l.length/\l.length<=3/\128<=c.toNat:=by
 obtain ⟨h1,h2,h3⟩:=encode_facts r hv h128
 generalize Utf8.encode r=bs at h1 h2 h3 ⊢
 have hs:bs.data.toList.length=bs.size:=Array.length_toList
 have h4:=h3 (by omega)
 have h5:bs.data.toList[bs.size-1]?=some (bs[bs.size-1]'(by omega)):=Lib.data_getElem? bs _ (by omega)
 generalize bs[bs.size-1]'(by omega)=c at h4 h5
 generalize bs.data.toList=l at hs h5
 refine ⟨l.take (bs.size-1),c,?_,by simp;omega,by simp;omega,h4⟩
 have:=List.take_append_drop (bs.size-1) l
 have hd:l.drop (bs.size-1) = [c]:=by
  have hlt:bs.size-1<l.length:=by omega
  rw[List.drop_eq_getElem_cons hlt]
  rw[List.getElem?_eq_getElem hlt]at h5
  cases h5
  rw[List.drop_eq_nil_of_le (by omega)]
 rw[hd]at this
 exact this.symm
theorem MT (r:Int) (h1:128<=r) (hv:Utf8.valid r=true) (h2:r≠65533):Fun Tryz.prog G0 236 [.str [47,0],.sc (.int .i32 r)] (.sc (.int .i64 (-1))) 0:=by
 have hlv:Lib.validRune r=true:=by
  have:=validRune_eq r
  rw[hv]at this
  exact this.symm
 obtain ⟨l,c,he,hl1,hl3,hc⟩:=ziP r hv h1
 have ha:0<=r:=by omega
 have hb:¬r<128:=by omega
 have hc0:¬((0:Int)=(c.toNat:Int)):=by omega
 have hix:=QY [] c
 match l,hl1,hl3 with
 | [x],_,_ =>
  refine fon Tryz.func236 ?_;dsimp only[Tryz.f236]
  push_cast -dsimp [ha,hb,h2]
  refine call (Xc r) ?_
  push_cast -dsimp [hlv,he]
  refine loop (fun k:Nat=>⟨[(0,.str [47,0]),(1,.sc (.int .i32 r)),(7,.str [x,c]),(8,.sc (.int .i64 1)),(9,.sc (.int .i64 1)),(10,.sc (.int .i64 0))],[],0,0⟩) (fun k=>True) (fun k=>0) 0 trivial ?_ ?_
  ·exact wk
  ·intro k _
   push_cast -dsimp [hc0]
   refine zar hix ?_
   have hi0:Lib.indexByte [] c = -1:=rfl
   push_cast -dsimp [hi0]
   exact dn
 | [x,y],_,_ =>
  refine fon Tryz.func236 ?_;dsimp only[Tryz.f236]
  push_cast -dsimp [ha,hb,h2]
  refine call (Xc r) ?_
  push_cast -dsimp [hlv,he]
  refine loop (fun k:Nat=>⟨[(0,.str [47,0]),(9,.sc (.int .i64 2))],[],0,0⟩) (fun k=>True) (fun k=>0) 0 trivial ?_ ?_
  ·exact wk
  ·intro k _
   push_cast -dsimp
   exact dn
 | [x,y,z],_,_ =>
  refine fon Tryz.func236 ?_;dsimp only[Tryz.f236]
  push_cast -dsimp [ha,hb,h2]
  refine call (Xc r) ?_
  push_cast -dsimp [hlv,he]
  refine loop (fun k:Nat=>⟨[(0,.str [47,0]),(9,.sc (.int .i64 3))],[],0,0⟩) (fun k=>True) (fun k=>0) 0 trivial ?_ ?_
  ·exact wk
  ·intro k _
   push_cast -dsimp
   exact dn
theorem Ge (w:World):Calls Tryz.prog 236 #[.string ⟨#[47,0]⟩,.int .i32 65533] w fun e w'=>e = .returned (.int .i64 (-1))/\Below w.heap.size w w':=by
 go_enter Tryz.func236,Tryz.ntmps236
 go_wp2
 go_loopg [5,6] 2 (fun g _ _ wx=>∃ i:Nat,i+g=2/\wx=w.iter ⟨#[47,0]⟩ i)
 case atStart=>exact ⟨0,by omega,rfl⟩
 case round =>
  obtain ⟨i,hig,rfl⟩:=hrel
  cases gk with
  | zero =>
   obtain rfl:i=2:=by omega
   have hnx:=fun ty=>run_next_end (P:=Tryz.prog) w ⟨#[47,0]⟩ 2 ty (by decide)
   go_wp2
   go_ret
   exact ⟨rfl,(Below.refl _ _).alloc (Nat.le_refl _) _⟩
  | succ g =>
   have hi:i<(ByteArray.mk #[47,0]).size:=by show i<2;omega
   have hx128:((ByteArray.mk #[47,0])[i]'hi).toNat<128:=by
    have:i=0∨i=1:=by omega
    rcases this with rfl | rfl
    ·exact (by decide:(47:UInt8).toNat<128)
    ·exact (by decide:(0:UInt8).toNat<128)
   have hnx:=fun ty=>run_next_ascii (P:=Tryz.prog) w ⟨#[47,0]⟩ i ty hi hx128
   have hne:((((ByteArray.mk #[47,0])[i]'hi).toNat:Int)==65533)=false:=by
    rw[beq_eq_false_iff_ne];omega
   go_wp2
   go_roundg g
   case measure=>omega
   case rel=>exact ⟨i+1,by omega,rfl⟩
end
section
open Go.RowKit Go.Shelf
def bad (b:UInt8):Bool:=decide (b=47)||decide (b=0)
theorem VF (b:UInt8):[47,0].contains b=bad b:=by simp[bad,List.contains_iff_mem,Bool.eq_iff_iff]
theorem yp {P:Program} {W:World} {b:Nat} {s:ByteArray} {pos:Nat} (hb:W.heap[b]?=some (.stringIter s pos)) (h:pos<s.size) (ty:TypeId) :
  (Instr.next (.pointer (some ⟨b,0,none⟩)) true ty).run P W = .ok (.tuple #[.bool true,.int .i64 pos,.int .i32 (Utf8.decode s pos).1]) (W.putObj b (.stringIter s (pos+(Utf8.decode s pos).2))):=by
 simp only[Instr.next,getObj,setObj,Sem.run_bind,Sem.run,hb,Result.andThen,h,if_true]
 simp[goInt,Sem.run,hb,World.putObj]
theorem UK {P:Program} {W:World} {b:Nat} {s:ByteArray} {pos:Nat} (hb:W.heap[b]?=some (.stringIter s pos)) (h:¬pos<s.size) (ty:TypeId) :
  (Instr.next (.pointer (some ⟨b,0,none⟩)) true ty).run P W = .ok (.tuple #[.bool false]) W:=by
 simp[Instr.next,getObj,Sem.run,hb,h]
theorem get!_eq (s:ByteArray) (k:Nat) (hk:k<s.size):s.get! k=s[k]'hk:=by
 simp[ByteArray.get!,getElem!_pos,hk];rfl
theorem ziS {c:Nat} (h:c<55296∨(57344<=c/\c<=1114111)):Utf8.valid (c:Int)=true:=by
 unfold Utf8.valid
 rcases h with h | h
 ·have h1:((c:Int)<55296):=by omega
  simp;omega
 ·simp;omega
theorem yw (s:ByteArray) (i:Nat) (h:i<s.size):(((s[i]'h).toNat<128/\Utf8.decode s i=((s[i]'h).toNat,1))∨(128<=(Utf8.decode s i).1/\Utf8.valid ((Utf8.decode s i).1:Int)=true/\1<=(Utf8.decode s i).2/\i+(Utf8.decode s i).2<=s.size/\∀ j (hj:j<s.size),i<=j->j<i+(Utf8.decode s i).2->128<=(s[j]'hj).toNat)):=by
 by_cases ha:(s[i]'h).toNat<128
 ·exact .inl ⟨ha,decode_ascii s i h ha⟩
 ·refine .inr ?_
  have hb0:¬(s.get! (i+0)).toNat<128:=by rw[Nat.add_zero,get!_eq s i h];exact ha
  have hby:∀ n,(∀ k,k<n->128<=(s.get! (i+k)).toNat)->∀ j (hj:j<s.size),i<=j->j<i+n->128<=(s[j]'hj).toNat:=fun n hn j hj h1 h2=>by
   have:=hn (j-i) (by omega)
   rw[show i+(j-i)=j by omega,get!_eq s j hj]at this
   exact this
  have hone:128<=65533/\Utf8.valid ((65533:Nat):Int)=true/\1<=1/\i+1<=s.size/\∀ j (hj:j<s.size),i<=j->j<i+1->128<=(s[j]'hj).toNat:=
   ⟨by omega,by decide,by omega,by omega,hby 1 fun k hk=>by rw[show k=0 by omega];omega⟩
  unfold Utf8.decode
  simp only[if_neg hb0,Utf8.runeError]
  obtain ⟨b0,hg0⟩:∃ b,(s.get! (i+0)).toNat=b:=⟨_,rfl⟩
  obtain ⟨b1,hg1⟩:∃ b,(s.get! (i+1)).toNat=b:=⟨_,rfl⟩
  obtain ⟨b2,hg2⟩:∃ b,(s.get! (i+2)).toNat=b:=⟨_,rfl⟩
  obtain ⟨b3,hg3⟩:∃ b,(s.get! (i+3)).toNat=b:=⟨_,rfl⟩
  rw[hg0]at hb0
  simp only[hg0,hg1,hg2,hg3]
  have hlt:b0<256:=by rw[←hg0];exact (s.get! (i+0)).toNat_lt
  split
  ·rename_i hc
   simp only[Bool.and_eq_true,beq_iff_eq,decide_eq_true_eq]at hc
   split
   ·rename_i hv
    refine ⟨by show 128<=_;omega,ziS (.inl (by omega)),by show 1<=2;omega,by show i+2<=_;omega,hby 2 fun k hk=>?_⟩
    rcases (show k=0∨k=1 by omega) with rfl | rfl
    ·rw[hg0];omega
    ·rw[hg1];omega
   ·exact hone
  ·split
   ·rename_i hc
    simp only[Bool.and_eq_true,beq_iff_eq,decide_eq_true_eq]at hc
    split
    ·rename_i hv
     simp only[Bool.and_eq_true,decide_eq_true_eq]at hv
     refine ⟨by show 128<=_;omega,hv.2,by show 1<=3;omega,by show i+3<=_;omega,hby 3 fun k hk=>?_⟩
     rcases (show k=0∨k=1∨k=2 by omega) with rfl | rfl | rfl
     ·rw[hg0];omega
     ·rw[hg1];omega
     ·rw[hg2];omega
    ·exact hone
   ·split
    ·rename_i hc
     simp only[Bool.and_eq_true,beq_iff_eq,decide_eq_true_eq]at hc
     split
     ·rename_i hv
      simp only[Bool.and_eq_true,decide_eq_true_eq]at hv
      refine ⟨by show 128<=_;omega,hv.2,by show 1<=4;omega,by show i+4<=_;omega,hby 4 fun k hk=>?_⟩
      rcases (show k=0∨k=1∨k=2∨k=3 by omega) with rfl | rfl | rfl | rfl
      ·rw[hg0];omega
      ·rw[hg1];omega
      ·rw[hg2];omega
      ·rw[hg3];omega
     ·exact hone
    ·exact hone
theorem GJ (r:Int) (h1:128<=r) (hv:Utf8.valid r=true) (w:World):Calls Tryz.prog 236 #[.string ⟨#[47,0]⟩,.int .i32 r] w fun e w'=>e = .returned (.int .i64 (-1))/\Below w.heap.size w w':=by
 by_cases h2:r=65533
 ·subst h2;exact Ge w
 ·refine ((MT r h1 hv h2).2 ⟨w,fun _ _=>False,fun _=>False⟩ [.string ⟨#[47,0]⟩,.int .i32 r] (fun g cs h=>by cases h) ?_).mono ?_
  ·exact zf.2 ⟨_,_,rfl,zQ.2 rfl,zf.2 ⟨_,_,rfl,zm.2 rfl,zj.2 rfl⟩⟩
  ·rintro e w' ⟨v,R',L',rfl,rfl,hst,hr⟩
   rw[zm]at hr
   exact ⟨by rw[hr],hst.below⟩
theorem zdH (w:World) (s:ByteArray):(w.iter s 0).heap[w.heap.size]?=some (.stringIter s 0):=World.iter_heap w s 0
theorem xD {w W:World} {s:ByteArray} {p:Nat} (hb:Below w.heap.size w W) (hs:W.heap[w.heap.size]?=some (.stringIter s p)) (p':Nat):Below w.heap.size w (W.putObj w.heap.size (.stringIter s p'))/\(W.putObj w.heap.size (.stringIter s p')).heap[w.heap.size]?=some (.stringIter s p'):=
 ⟨⟨hb.os,hb.tape,hb.output,by simpa using hb.size,fun k hk=>(World.putObj_heap_other (by omega)).trans (hb.block k hk)⟩,World.putObj_heap_same (zZ hs)⟩
theorem zbO {w W W':World} {s:ByteArray} {p:Nat} (hb:Below w.heap.size w W) (hs:W.heap[w.heap.size]?=some (.stringIter s p)) (h:Below W.heap.size W W'):Below w.heap.size w W'/\W'.heap[w.heap.size]?=some (.stringIter s p):=
 ⟨hb.trans (h.mono hb.size),(h.block _ (zZ hs)).trans hs⟩
theorem kw (s:ByteArray) (w:World) (h8:s.size<=8):Calls Tryz.prog 276 #[.string s,.string ⟨#[47,0]⟩] w fun e w'=>e = .returned (.int .i64 (Lib.indexAny s.data.toList [47,0]))/\Below w.heap.size w w':=by
 have h8z:decide ((8:Int)<(s.size:Int))=false:=decide_eq_false (by omega)
 have hsi:=zdH w s
 have hbi:Below w.heap.size w (w.iter s 0):=(Below.refl _ _).alloc (Nat.le_refl _) _
 have HI:Aside ((w.iter s 0).heap[w.heap.size]?=some (.stringIter s 0)/\Below w.heap.size w (w.iter s 0)):=⟨hsi,hbi⟩
 clear hsi hbi
 go_enter Tryz.func276,Tryz.ntmps276
 go_wp2_with (go_at_call 281;refine (Tryz.strings_shouldUseASCIISet _ _).mono ?_;rintro e w' ⟨rfl,hw⟩;rw[hw,h8z])
 go_loopg [9,10] s.size (fun g _ _ wx=>∃ i:Nat,i+g=s.size/\wx.heap[w.heap.size]?=some (.stringIter s i)/\Below w.heap.size w wx/\Lib.NoAny s.data.toList [47,0] i)
 case atStart=>exact ⟨0,by omega,HI.out.1,HI.out.2,Lib.NoAny.zero _ _⟩
 case round =>
  obtain ⟨i,hig,hs,hbl,hno⟩:=hrel
  have HN:Aside (Lib.NoAny s.data.toList [47,0] i/\wr.heap[w.heap.size]?=some (.stringIter s i)/\Below w.heap.size w wr):=⟨hno,hs,hbl⟩
  cases gk with
  | zero =>
   obtain rfl:i=s.size:=by omega
   have hnx:=fun ty=>UK (P:=Tryz.prog) hs (by omega) ty
   clear hno hs hbl
   go_wp2
   go_ret
   exact ⟨by rw[Lib.indexAny_none (by rw[←Lib.size_eq];exact HN.out.1)];rfl,HN.out.2.2⟩
  | succ g =>
   have hi:i<s.size:=by omega
   have hnx:=fun ty=>yp (P:=Tryz.prog) hs hi ty
   have hpi:=xD hbl hs (i+(Utf8.decode s i).2)
   have HP:Aside (Below w.heap.size w (wr.putObj w.heap.size (.stringIter s (i+(Utf8.decode s i).2)))/\(wr.putObj w.heap.size (.stringIter s (i+(Utf8.decode s i).2))).heap[w.heap.size]?=some (.stringIter s (i+(Utf8.decode s i).2))):=hpi
   clear hno hs hbl hpi
   obtain ⟨x,hx⟩:∃ x:UInt8,s[i]'hi=x:=⟨_,rfl⟩
   have hxl:s.data.toList[i]?=some x:=by rw[←hx];exact Lib.data_getElem? s i hi
   rcases yw s i hi with ⟨hd1,hd2⟩ | ⟨hd1,hd2,hd3,hd4,hd5⟩
   ·rw[hx]at hd1 hd2
    rw[hd2]at hnx HP
    have Hx:Aside (s.data.toList[i]?=some x):=hxl
    clear hxl hx hd2
    have hcon:=Lib.contains_iff_indexByte [47,0] x
    have hback:((x.toNat:Int)).toNat.toUInt8=x:=by simp
    cases hin:([47,0]:List UInt8).contains x
    ·rw[hin]at hcon
     have hlt:¬((0:Int)<=Lib.indexByte [47,0] x):=of_decide_eq_false hcon.symm
     clear hcon
     go_wp2_with (go_at_call 236;refine (Tryz.strings_IndexRune_ascii _ _ _ (by omega) (by omega)).mono ?_;rintro e w' ⟨rfl,hw⟩;rw[hw,hback])
     go_roundg g
     case measure=>omega
     case rel=>exact ⟨i+1,by omega,HP.out.2,HP.out.1,HN.out.1.succ Hx.out hin⟩
    ·rw[hin]at hcon
     have hge:(0:Int)<=Lib.indexByte [47,0] x:=of_decide_eq_true hcon.symm
     clear hcon
     go_wp2_with (go_at_call 236;refine (Tryz.strings_IndexRune_ascii _ _ _ (by omega) (by omega)).mono ?_;rintro e w' ⟨rfl,hw⟩;rw[hw,hback])
     go_ret
     exact ⟨by rw[Lib.indexAny_hit HN.out.1 Hx.out hin];rfl,HP.out.1⟩
   ·obtain ⟨c,hc⟩:∃ c,(Utf8.decode s i).1=c:=⟨_,rfl⟩
    obtain ⟨n,hn⟩:∃ n,(Utf8.decode s i).2=n:=⟨_,rfl⟩
    rw[hc,hn]at hnx
    rw[hn]at HP hd3 hd4 hd5
    rw[hc]at hd1 hd2
    have H5:Aside (∀ j (hj:j<s.size),i<=j->j<i+n->128<=(s[j]'hj).toNat):=hd5
    have H2:Aside (Utf8.valid (c:Int)=true):=hd2
    clear hd5 hd2 hxl hx hc hn
    go_wp2_with (go_at_call 236;refine (GJ _ (by omega) H2.out _).mono ?_;rintro e w' ⟨rfl,hw⟩;have HW:=zbO HP.out.1 HP.out.2 hw)
    go_roundg (s.size-(i+n))
    case measure=>omega
    case rel =>
     refine ⟨i+n,by omega,HW.2,HW.1,fun j b hj hb=>?_⟩
     rcases Nat.lt_or_ge j i with g | g
     ·exact HN.out.1 j b g hb
     ·have hjs:j<s.size:=by omega
      have:=H5.out j hjs g hj
      have hb2:=Lib.data_getElem? s j hjs
      rw[hb]at hb2
      have hb3:b=s[j]'hjs:=Option.some.inj hb2
      rw[VF,hb3]
      have h47:s[j]'hjs≠47:=fun e=>by rw[e]at this;revert this;decide
      have h00:s[j]'hjs≠0:=fun e=>by rw[e]at this;revert this;decide
      simp[bad,h47,h00]
end
section
open Go.RowKit Go.Shelf
theorem Hh (w:World):(zeroValue 223).run Tryz.prog w = .ok (.agg (Array.replicate 256 (.bool false))) w:=by kernel_rfl
theorem Vj:∀ l:List UInt8,decide (0<=Lib.indexAny l [47,0])=l.any bad
 | []=>rfl
 | b :: l=>by
  have ih:=Vj l
  have hg:=Lib.indexAny_ge [47,0] l
  unfold Lib.indexAny
  rw[VF,List.any_cons]
  cases hb:bad b with
  | true=>simp
  | false =>
   simp only[Bool.false_eq_true,if_false,Bool.false_or,←ih]
   split
   ·rename_i h
    have:=beq_iff_eq.1 h
    first | rw[this];done | (rw[this];rfl)
   ·rename_i h
    have h':Lib.indexAny l [47,0]≠-1:=by simpa using h
    rw[decide_eq_decide];omega
theorem NV (l:List UInt8) (hl:l.length<=1000000):Fun Tryz.prog G0 276 [.str l,.str [47,0]] (.sc (.int .i64 (Lib.indexAny l [47,0]))) 0:=by
 refine Fun.wrap (by kernel_rfl) fun R vs h=>?_
 obtain ⟨v1,us1,rfl,h1,h⟩:=zf.1 h
 obtain ⟨v2,us2,rfl,h2,h⟩:=zf.1 h
 rw[zj]at h
 subst h
 rw[zQ]at h1 h2
 subst h1 h2
 have hsz:(ByteArray.mk l.toArray).size=l.length:=by simp[ByteArray.size]
 by_cases h8:l.length<=8
 ·refine (kw ⟨l.toArray⟩ R.w (by omega)).mono ?_
  rintro e w' ⟨rfl,hb⟩
  exact ⟨_,rfl,hb,fun R' _=>zm.2 (by simp)⟩
 ·refine (Tryz.strings_IndexAny_long Hh ⟨l.toArray⟩ ⟨#[47,0]⟩ R.w (by decide) (by omega) (by omega) (by decide) ?_).mono ?_
  ·intro j b hb
   have:b=47∨b=0:=by
    have:=List.mem_of_getElem? hb
    simpa using this
   rcases this with rfl | rfl<;>decide
  ·rintro e w' ⟨rfl,rfl⟩
   exact ⟨_,rfl,((Below.refl _ _).alloc (Nat.le_refl _) _).alloc (by simp) _,fun R' _=>zm.2 (by simp)⟩
theorem JW (l:List UInt8) (hl:l.length<=1000000):Fun Tryz.prog G0 262 [.str l,.str [47,0]] (qu (l.any bad)) 0:=by
 have h:=Vj l
 refine fon Tryz.func262 ?_;dsimp only[Tryz.f262]
 push_cast -dsimp
 refine call (NV l hl) ?_
 push_cast -dsimp
 exact dn (by push_cast -dsimp [zb,za,CLe,zd,h])
def may (l:List UInt8):Bool:=!decide (l = [])&&decide (l.length<=255)&&!l.any bad&&!decide (l = [46])&&!decide (l = [46,46])
theorem zld (l:List UInt8) (hl:l.length<=1000000):Fun Tryz.prog G0 239 [.str l] (qu (may l)) 0:=by
 by_cases h1:l = []
 ·refine fon Tryz.func239 ?_;dsimp only[Tryz.f239]
  push_cast -dsimp [h1]
  exact ⟨[],rfl,rfl,by push_cast -dsimp [zb,za,CLe,zd];simp[may]⟩
 ·by_cases h2:l.length<=255
  ·have h2':(l.length:Int)<=255:=by omega
   cases h3:l.any bad with
   | true =>
    refine fon Tryz.func239 ?_;dsimp only[Tryz.f239]
    push_cast -dsimp [h1,h2']
    refine call (JW l hl) ?_
    push_cast -dsimp [h3]
    exact ⟨[],rfl,rfl,by push_cast -dsimp [zb,za,CLe,zd];simp[may,h3]⟩
   | false =>
    by_cases h4:l = [46]
    ·subst h4
     refine fon Tryz.func239 ?_;dsimp only[Tryz.f239]
     push_cast -dsimp [h2']
     refine call (JW _ hl) ?_
     push_cast -dsimp [h3]
     exact ⟨[],rfl,rfl,by push_cast -dsimp [zb,za,CLe,zd];simp[may]⟩
    ·refine fon Tryz.func239 ?_;dsimp only[Tryz.f239]
     push_cast -dsimp [h1,h2']
     refine call (JW l hl) ?_
     push_cast -dsimp [h3,h4]
     exact ⟨[],rfl,rfl,by push_cast -dsimp [zb,za,CLe,zd];simp[may,h1,h2,h3,h4]⟩
  ·have h2':¬(l.length:Int)<=255:=by omega
   refine fon Tryz.func239 ?_;dsimp only[Tryz.f239]
   push_cast -dsimp [h1,h2']
   exact ⟨[],rfl,rfl,by push_cast -dsimp [zb,za,CLe,zd];simp[may,h2]⟩
theorem zbF (l:List UInt8) (hl:l.length<=1000000):Fun Tryz.prog G0 238 [.str l] (qu (!may l)) 0:=by
 refine fon Tryz.func238 ?_;dsimp only[Tryz.f238]
 push_cast -dsimp
 refine call (zld l hl) ?_
 push_cast -dsimp
 exact dn
end
end Go.Proofs.YtlkjpfiancahiaaGreatDoor.Vcg
