/- What the proof of MvsStays leans on, part 3: Vcg18 Slc0 Slc1 TabV Tab1 OpenG OpenT Srt0 SlcE Shelf Tab2 TabR Snd1 PathN Ref1 Path1 Path2 Path3 Path4 May1. No condition beyond what each theorem states. -/
import Derived.Test.YtnpdbhbmakdklaaGreatDoorMvsStaysKb
import Derived.Lib.Overlaps
import Derived.Laws.Externs
import Derived.WalkKit
import Derived.ProofKit
import Derived.Deep.Slices
import Derived.Deep.Fields
import Derived.ChangeSame
import Derived.ChangeOld
import Derived.Lib.SmallJoins
import Derived.Test.YtnpdbhbmakdklaaGreatDoorRows
import Derived.Lib.Bytealg
import Derived.Shelf.Strings.Builder1
import Derived.Shelf.Strings.Builder2
import Derived.Shelf.Strings.OnBuilder
import Derived.Shelf.Strings.Trim
import Derived.Shelf.Small.Utf8
import Derived.Shelf.Small.Strs
import Derived.Shelf.Small.Wraps
import Derived.Shelf.Strings.BuilderF
import Derived.Shelf.Strings.BuilderK
import Derived.Shelf.Strings.Search1
import Derived.Shelf.Strings.Search2
import Derived.Shelf.Strings.Search3
import Derived.Shelf.LaysM
import Derived.Shelf.Strings.Shaped
import Derived.Shelf.Strings.Prefix
import Derived.Shelf.Unicode.Decode
import Derived.Shelf.Strings.Runes
import Derived.Shelf.Strings.IndexAny
import Derived.Shelf.Strings.AsciiSet
import Derived.Shelf.Strings.IndexAnyAll
import Derived.Shelf.Unicode.DecodeSlow
import Derived.Shelf.Unicode.DecodeAny
import Derived.Shelf.Unicode.DecodeLast
import Derived.Ground.Names2Prog
import Derived.Shelf.Slices.SearchI
import Derived.Test.YtnpdbhbmakdklaaGreatDoorProg
import Derived.Laws.Runes
import Derived.Laws.RangeString
import Derived.Deep.LoopGhost
set_option linter.unusedVariables false
set_option linter.unusedSimpArgs false
set_option linter.unusedSectionVars false
set_option maxRecDepth 100000
set_option maxHeartbeats 4000000
namespace Go.Proofs.YtnpdbhbmakdklaaGreatDoor.Vcg
section
open Go.RowKit
section
variable {P:Program} {G:zp} {σ σ':St} {N p lg m:Nat} {h:Hd} {yd:Option Yd} {brs:List Bool} {bf:Nat->List Bool} {bx bx':List (List C)} {ops:Array Oper} {c c' d d':C} {t t':TypeId} {K:C->Prop} {K2:C->Nat->Prop} {K3:C->St->Prop} {nx:Nat} {tm:List (Nat×C)} {x y z:Operand} {Q:Exit->St->Prop} {X Y:Prop}
def uS (P:Program) (G:zp) (f:FuncId) (args:List C) (nx:Nat) (K:C->Nat->Prop):Prop:=∃ r n,Fun P G f args r n/\K (r.sh nx) (nx+n)
theorem uS.mk {f:FuncId} {args:List C} {r:C} {n:Nat} (h:Fun P G f args r n) (hK:K2 (r.sh nx) (nx+n)):uS P G f args nx K2:=⟨r,n,h,hK⟩
def zoW (P:Program) (G:zp) (f:FuncId) (args fargs:List C) (σ:St) (K:C->St->Prop):Prop:=
 (∃ r n,Fun P G f fargs r n/\K (r.sh σ.nx) ⟨σ.tm,σ.bx,σ.nx+n,σ.lg⟩)∨vJ P G f args σ K∨zkn P G f args σ K∨kg P G f args σ K∨zgx P f args σ K
def aGd (d:Option Tmp) (tm:List (Nat×C)) (want:Bool) (X Y:Prop):Prop:=match d with
 | some d=>match want with
  | true=>zj8 (jI tm d) Y X Y
  | false=>zj8 (jI tm d) Y Y X
 | none=>False
def zpI (L:Option Lay) (c:C) (bx:List (List C)) (K:C->Prop):Prop:=
 match L with
 | none=>False
 | some L=>match c with
  | .ptr i off=>match bx[i]? with
   | some cs=>JZ L (cs.drop off) K
   | none=>False
  | .row cs=>JZ L cs K
  | _=>False
def zp9 (cs:Option (List C)) (off:Nat) (L:Lay) (K:C->Prop):Prop:=match cs with | some cs=>JZ L (cs.drop off) K | none=>False
def zqM (x:Option C) (K:C->Prop):Prop:=match x with | some c=>K c | none=>False
def vd (L:Option Lay) (c:C) (f:Nat) (K:C->Prop):Prop:=
 match L with
 | some ⟨.struct fs,_,_,_⟩=>match fs[f]?,c with
  | some (off,size,agg),.agg cs =>
   if agg then off+size<=cs.length/\K (.agg ((cs.drop off).take size)) else match cs[off]? with
    | some c=>K c
    | none=>False
  | _,_=>False
 | _=>False
def kC (f:Option (Nat×Nat×Bool)) (cs:List C) (K:C->Prop):Prop:=
 match f with
 | some (off,size,agg)=>if agg then off+size<=cs.length/\K (.agg ((cs.drop off).take size)) else match cs[off]? with
    | some c=>K c
    | none=>False
 | none=>False
def zsw (L:Option Lay) (c:C) (f:Nat) (K:C->Prop):Prop:=
 match L with
 | some ⟨.struct fs,_,_,_⟩=>match fs[f]?,c with
  | some (off,size,_),.ptr i o=>if size=0 then False else K (.ptr i (o+off))
  | some (off,size,_),.row cs=>if size=0 then False else K (.row (cs.drop off))
  | _,_=>False
 | _=>False
def zo5 (f:Option (Nat×Nat×Bool)) (c:C) (K:C->Prop):Prop:=
 match f,c with
  | some (off,size,_),.ptr i o=>if size=0 then False else K (.ptr i (o+off))
  | some (off,size,_),.row cs=>if size=0 then False else K (.row (cs.drop off))
  | _,_=>False
def zsR (P:Program) (L:Option Lay) (c:C) (i:C) (K:C->Prop):Prop:=
 match L,i with
 | some ⟨.slice e,_,_,_⟩,.sc (.int _ n)=>match lay P e with
  | some L=>match c with
   | .bs j off k m _=>k=L.size/\0<=n/\n<(m:Int)/\K (.ptr j (off+n.toNat*L.size))
   | c=>match c.rows? L.size with
    | some rows=>match rows[n.toNat]? with
     | some r=>0<=n/\K (.row r)
     | none=>False
    | none=>False
  | none=>False
 | some ⟨.array (m+1) e,_,_,_⟩,.sc (.int _ n)=>match lay P e with
  | some L=>match c with
   | .ptr j off=>0<=n/\n<((m+1:Nat):Int)/\K (.ptr j (off+n.toNat*L.size))
   | .row cs=>0<=n/\n<((m+1:Nat):Int)/\K (.row (cs.drop (n.toNat*L.size)))
   | _=>False
  | none=>False
 | _,_=>False
def zsI (L:Option Lay) (c:C) (n:Int) (K:C->Prop):Prop:=
 match L with
  | some L=>match c with
   | .bs j off k m _=>k=L.size/\0<=n/\n<(m:Int)/\K (.ptr j (off+n.toNat*L.size))
   | c=>match c.rows? L.size with
    | some rows=>match rows[n.toNat]? with
     | some r=>0<=n/\K (.row r)
     | none=>False
    | none=>False
  | none=>False
def zsZ (rows:Option (List (List C))) (n:Int) (K:C->Prop):Prop:=
 match rows with
   | some rows=>match rows[n.toNat]? with
    | some r=>0<=n/\K (.row r)
    | none=>False
   | none=>False
def aAt (r:Option (List C)) (n:Int) (K:C->Prop):Prop:=match r with | some r=>0<=n/\K (.row r) | none=>False
def zs2 (L:Option Lay) (c:C) (m:Nat) (n:Int) (K:C->Prop):Prop:=
 match L with
  | some L=>match c with
   | .ptr j off=>0<=n/\n<((m+1:Nat):Int)/\K (.ptr j (off+n.toNat*L.size))
   | .row cs=>0<=n/\n<((m+1:Nat):Int)/\K (.row (cs.drop (n.toNat*L.size)))
   | _=>False
  | none=>False
def zqF (L:Option Lay) (c i:C) (K:C->Prop):Prop:=
 match L,c,i with
 | some ⟨.str,_,_,_⟩,.str l,.sc (.int _ n)=>match l[n.toNat]? with
  | some b=>0<=n/\K (.sc (.int .u8 (b.toNat:Int)))
  | none=>False
 | _,_,_=>False
def zmr (b:Option UInt8) (n:Int) (K:C->Prop):Prop:=match b with | some b=>0<=n/\K (.sc (.int .u8 (b.toNat:Int))) | none=>False
def zr6 (P:Program) (L:Option Lay) (c:C) (lo hi mx:Option Int) (K:C->Prop):Prop:=
   match L with
    | some ⟨.str,_,_,_⟩=>match c,mx with
      | .str l,none=>jR l.length lo hi/\K (.str (cut l lo hi))
      | _,_=>False
    | some ⟨.slice e,_,_,_⟩=>match lay P e with
      | some L=>match c with
        | .bs i off k n cap=>zm6 L.size i off k n cap lo hi mx K
        | .sc (.slice none 0 0)=>zp2 L.size lo hi mx K
        | c=>match c.rows? L.size with
          | some rows=>match mx,hi with
            | none,_=>jR rows.length lo hi/\K (.sl L.size (cut rows lo hi))
            | some m,some h=>m=h/\jR rows.length lo hi/\K (.tight L.size (cut rows lo hi))
            | some _,none=>False
          | none=>False
      | none=>False
    | _=>False
def zsC (P:Program) (t:TypeId) (c:C) (lo hi mx:Option (Option Int)) (K:C->Prop):Prop:=
 match lo,hi,mx with
 | some lo,some hi,some mx=>zr6 P (lay P t) c lo hi mx K
 | _,_,_=>False
def zsU (L:Option Lay) (c:C) (lo hi mx:Option Int) (K:C->Prop):Prop:=
 match L with
   | some L=>match c with
    | .bs i off k n cap=>zm6 L.size i off k n cap lo hi mx K
    | .sc (.slice none 0 0)=>zp2 L.size lo hi mx K
    | c=>match c.rows? L.size with
     | some rows=>match mx,hi with
      | none,_=>jR rows.length lo hi/\K (.sl L.size (cut rows lo hi))
      | some m,some h=>m=h/\jR rows.length lo hi/\K (.tight L.size (cut rows lo hi))
      | some _,none=>False
     | none=>False
   | none=>False
def zsE (rows:Option (List (List C))) (k:Nat) (lo hi mx:Option Int) (K:C->Prop):Prop:=
 match rows with
    | some rows=>match mx,hi with
     | none,_=>jR rows.length lo hi/\K (.sl k (cut rows lo hi))
     | some m,some h=>m=h/\jR rows.length lo hi/\K (.tight k (cut rows lo hi))
     | some _,none=>False
    | none=>False
def zgb (rows:Option (List (List C))) (K:C->Prop):Prop:=match rows with | some rows=>∃ l,rows=JE l/\K (.str l) | none=>False
theorem zgb.mk {rows:List (List C)} (l:List UInt8) (h:rows=JE l) (hK:K (.str l)):zgb (some rows) K:=⟨l,h,hK⟩
def zsB (P:Program) (D S:Option Lay) (c:C) (K:C->Prop):Prop:=
 match D with
 | some ⟨.int k,_,_,_⟩=>match c with
  | .sc (.int _ n)=>match S with | some _=>inR k n/\K (.sc (.int k n)) | none=>False
  | _=>False
 | some ⟨.str,_,_,_⟩=>match S with
  | some ⟨.str,_,_,_⟩=>match c with
   | .str l=>K (.str l)
   | _=>False
  | some ⟨.slice e,_,_,_⟩=>match lay P e with
   | some ⟨.int .u8,_,_,_⟩=>match c.rows? 1 with
    | some rows=>∃ l,rows=JE l/\K (.str l)
    | none=>False
   | _=>False
  | some ⟨.int _,_,_,_⟩=>match c with
   | .sc (.int _ n)=>K (.str (Utf8.encode n).data.toList)
   | _=>False
  | _=>False
 | some ⟨.slice e,_,_,_⟩=>match S,lay P e with
  | some ⟨.str,_,_,_⟩,some ⟨.int .u8,_,_,_⟩=>match c with
   | .str l=>((l.length:Nat):Int)<=9223372036854775807/\K (.sl 1 (JE l))
   | _=>False
  | _,_=>False
 | _=>False
def zse (L:Option Lay) (c:C) (K:C->Prop):Prop:=
 match L with
   | some ⟨.int .u8,_,_,_⟩=>match c.rows? 1 with
    | some rows=>∃ l,rows=JE l/\K (.str l)
    | none=>False
   | _=>False
def zqP (L:Option Lay) (c:C) (K:C->Prop):Prop:=
 match L,c with
 | some ⟨.slice _,_,_,_⟩,.bs _ _ _ _ c=>K (.sc (.int .i64 (c:Int)))
 | some ⟨.slice _,_,_,_⟩,.sc (.slice none 0 0)=>K (.sc (.int .i64 0))
 | _,_=>False
def zqU (L:Option Lay) (n:Int) (K:C->Prop):Prop:=match L with | some ⟨.slice _,_,_,_⟩=>K (.sc (.int .i64 n)) | _=>False
def zrq (L:Option Lay) (n:Int) (K:C->Prop):Prop:=match L with | some ⟨.str,_,_,_⟩=>K (.sc (.int .i64 n)) | _=>False
def zrJ (L:Option Lay) (parts:List (Nat×C)) (K:C->Prop):Prop:=
 match L with
 | some ⟨.struct fs,_,_,some z⟩=>(parts.all fun p=>p.2.partB)=true/\match YV (fun i=>(fs[i]?).map fun f=>(f.1,f.2.1)) (z.map zA) parts with
  | some cs=>K (.agg cs)
  | none=>False
 | _=>False
def aFl (cs:Option (List C)) (K:C->Prop):Prop:=match cs with | some cs=>K (.agg cs) | none=>False
def plS (fs:List (Nat×Nat×Bool)) (i:Nat):Option (Nat×Nat):=(fs[i]?).map fun f=>(f.1,f.2.1)
def plA (k:Nat) (i:Nat):Option (Nat×Nat):=some (i*k,k)
def zj4 (pl:Option (Nat×Nat)) (place:Nat->Option (Nat×Nat)) (cs:List C) (c:List C) (rest:List (Nat×C)):Option (List C):=
 match pl with
  | none=>none
  | some (off,size)=>if c.length=size/\off+size<=cs.length then YV place (cs.take off++c++cs.drop (off+size)) rest else none
def zsS (P:Program) (L:Option Lay) (n:Nat) (parts:List (Nat×C)) (nx:Nat) (K:C->Nat->Prop):Prop:=
 match L with
 | some ⟨.slice e,_,_,_⟩=>match lay P e with
  | some ⟨_,k,_,some z⟩=>z.length=k/\0<k/\n*k<=16777216/\(parts.all fun p=>p.2.frz.partB)=true/\match YV (fun i=>some (i*k,k)) (List.replicate n (z.map zA)).flatten (parts.map fun p=>(p.1,p.2.frz)) with
   | some cs=>(cs.all C.cellB)=true/\cs.length=n*k/\K (.own nx e k (Qt k n cs)) (nx+1)
   | none=>False
  | _=>False
 | _=>False
def zsx (L:Option Lay) (e:TypeId) (n:Nat) (parts:List (Nat×C)) (nx:Nat) (K:C->Nat->Prop):Prop:=
   match L with
    | some ⟨_,k,_,some z⟩=>z.length=k/\0<k/\n*k<=16777216/\(parts.all fun p=>p.2.frz.partB)=true/\match YV (fun i=>some (i*k,k)) (List.replicate n (z.map zA)).flatten (parts.map fun p=>(p.1,p.2.frz)) with
      | some cs=>(cs.all C.cellB)=true/\cs.length=n*k/\K (.own nx e k (Qt k n cs)) (nx+1)
      | none=>False
    | _=>False
def zsF (cs:Option (List C)) (e k n nx:Nat) (K:C->Nat->Prop):Prop:=
 match cs with
   | some cs=>(cs.all C.cellB)=true/\cs.length=n*k/\K (.own nx e k (Qt k n cs)) (nx+1)
   | none=>False
def zsP (P:Program) (L:Option Lay) (l c:C) (nx:Nat) (K:C->Nat->Prop):Prop:=
 match L,l,c with
 | some ⟨.slice e,_,_,_⟩,.sc (.int _ l),.sc (.int _ c)=>match lay P e with
  | some ⟨_,k,by',some z⟩=>z.length=k/\0<k/\(z.all Value.oneCell')=true/\0<=l/\l<=c/\(by':Int)*c<=281474976710656/\c<=9223372036854775807/\K (.own nx e k (List.replicate l.toNat (z.map zA))) (nx+1)
  | _=>False
 | _,_,_=>False
def zsD (L:Option Lay) (e:TypeId) (l c:Int) (nx:Nat) (K:C->Nat->Prop):Prop:=
 match L with
  | some ⟨_,k,by',some z⟩=>z.length=k/\0<k/\(z.all Value.oneCell')=true/\0<=l/\l<=c/\(by':Int)*c<=281474976710656/\c<=9223372036854775807/\K (.own nx e k (List.replicate l.toNat (z.map zA))) (nx+1)
  | _=>False
def zqT (P:Program) (L:Option Lay) (l c:C) (σ:St) (K:C->St->Prop):Prop:=
 match L,l,c with
 | some ⟨.slice e,_,_,_⟩,.sc (.int _ l),.sc (.int _ c)=>match lay P e with
  | some ⟨_,k,by',some z⟩=>z.length=k/\0<k/\(z.all Value.oneCell')=true/\0<=l/\l<=c/\(by':Int)*c<=281474976710656/\c<=9223372036854775807/\K (.bs σ.bx.length 0 k l.toNat c.toNat) ⟨σ.tm,σ.bx++[(List.replicate c.toNat (z.map zA)).flatten],σ.nx,σ.lg⟩
  | _=>False
 | _,_,_=>False
def zq6 (L:Option Lay) (l c:Int) (σ:St) (K:C->St->Prop):Prop:=
 match L with
  | some ⟨_,k,by',some z⟩=>z.length=k/\0<k/\(z.all Value.oneCell')=true/\0<=l/\l<=c/\(by':Int)*c<=281474976710656/\c<=9223372036854775807/\K (.bs σ.bx.length 0 k l.toNat c.toNat) ⟨σ.tm,σ.bx++[(List.replicate c.toNat (z.map zA)).flatten],σ.nx,σ.lg⟩
  | _=>False
def zss (P:Program) (L:Option Lay) (s x:C) (nx:Nat) (K:C->Nat->Prop):Prop:=
 match L with
 | some ⟨.slice e,_,_,_⟩=>match lay P e with
  | some ⟨_,k,by',some z⟩=>match x.rows? k with
   | some xs=>match s with
    | .sc (.slice none 0 0)=>z.length=k/\0<k/\xs.length<=9223372036854775807/\xs.length*by'<=140737488355328/\K (.own nx e k xs) (nx+1)
    | .tight k' rows=>k'=k/\z.length=k/\0<k/\rows.length+xs.length<=9223372036854775807/\(rows.length+xs.length)*by'<=140737488355328/\(xs = []->K (.tight k' rows) nx)/\(xs≠[]->K (.own nx e k (rows++xs)) (nx+1))
    | _=>False
   | none=>False
  | _=>False
 | _=>False
def zsm (L:Option Lay) (e:TypeId) (s x:C) (nx:Nat) (K:C->Nat->Prop):Prop:=
  match L with
  | some ⟨_,k,by',some z⟩=>match x.rows? k with
   | some xs=>match s with
    | .sc (.slice none 0 0)=>z.length=k/\0<k/\xs.length<=9223372036854775807/\xs.length*by'<=140737488355328/\K (.own nx e k xs) (nx+1)
    | .tight k' rows=>k'=k/\z.length=k/\0<k/\rows.length+xs.length<=9223372036854775807/\(rows.length+xs.length)*by'<=140737488355328/\(xs = []->K (.tight k' rows) nx)/\(xs≠[]->K (.own nx e k (rows++xs)) (nx+1))
    | _=>False
   | none=>False
  | _=>False
def zsn (xs:Option (List (List C))) (s:C) (e k by':Nat) (z:List Value) (nx:Nat) (K:C->Nat->Prop):Prop:=
 match xs with
   | some xs=>match s with
    | .sc (.slice none 0 0)=>z.length=k/\0<k/\xs.length<=9223372036854775807/\xs.length*by'<=140737488355328/\K (.own nx e k xs) (nx+1)
    | .tight k' rows=>k'=k/\z.length=k/\0<k/\rows.length+xs.length<=9223372036854775807/\(rows.length+xs.length)*by'<=140737488355328/\(xs = []->K (.tight k' rows) nx)/\(xs≠[]->K (.own nx e k (rows++xs)) (nx+1))
    | _=>False
   | none=>False
def zsi (P:Program) (L:Option Lay) (id e k:Nat) (rows:List (List C)) (x:C) (σ:St) (K:C->St->Prop):Prop:=
   match L with
    | some ⟨.slice e',_,_,_⟩=>match lay P e with
      | some ⟨_,k',by',some z⟩=>match x.rows? k with
        | some xs=>e'=e/\k'=k/\z.length=k/\0<k/\rows.length+xs.length<=9223372036854775807/\(rows.length+xs.length)*by'<=140737488355328/\K (.own id e k (rows++xs)) ⟨zbl id σ.tm,xA id σ.bx,σ.nx,σ.lg⟩
        | none=>False
      | _=>False
    | _=>False
def zrf (L:Option Lay) (e' id e k:Nat) (rows:List (List C)) (x:C) (σ:St) (K:C->St->Prop):Prop:=
  match L with
   | some ⟨_,k',by',some z⟩=>match x.rows? k with
    | some xs=>e'=e/\k'=k/\z.length=k/\0<k/\rows.length+xs.length<=9223372036854775807/\(rows.length+xs.length)*by'<=140737488355328/\K (.own id e k (rows++xs)) ⟨zbl id σ.tm,xA id σ.bx,σ.nx,σ.lg⟩
    | none=>False
   | _=>False
def zrS (xs:Option (List (List C))) (by' id e k:Nat) (rows:List (List C)) (σ:St) (K:C->St->Prop):Prop:=
   match xs with
        | some xs=>rows.length+xs.length<=9223372036854775807/\(rows.length+xs.length)*by'<=140737488355328/\K (.own id e k (rows++xs)) ⟨zbl id σ.tm,xA id σ.bx,σ.nx,σ.lg⟩
        | none=>False
def zsk (L:Option Lay) (σ:St) (K:C->St->Prop):Prop:=
 match L with
 | some ⟨_,_,_,some z⟩=>(z.all Value.oneCell')=true/\K (.ptr σ.bx.length 0) ⟨σ.tm,σ.bx++[z.map zA],σ.nx,σ.lg⟩
 | _=>False
def zsM (L:Option Lay) (p c:C) (bx:List (List C)) (K:C->Prop):Prop:=
 match L,p with
 | some L,.ptr i off=>match bx[i]? with
  | some cs=>c.partB=true/\(c.cells.all C.cellB)=true/\c.cells.length=L.size/\off+L.size<=cs.length/\VW ((cs.drop off).take L.size) c.cells/\K .any
  | none=>False
 | _,_=>False
def zsG (cs:Option (List C)) (off size:Nat) (c:C) (K:C->Prop):Prop:=
 match cs with
  | some cs=>c.partB=true/\(c.cells.all C.cellB)=true/\c.cells.length=size/\off+size<=cs.length/\VW ((cs.drop off).take size) c.cells/\K .any
  | none=>False
def zsJ (L:Option Lay) (p c:C) (σ:St) (K:C->St->Prop):Prop:=
 match L,p with
 | some L,.ptr i off=>match σ.bx[i]? with
  | some cs=>c.partB=true/\(c.cells.all C.cellB)=true/\c.cells.length=L.size/\off+L.size<=cs.length/\K .any ⟨σ.tm,σ.bx.set i (cs.take off++c.cells++cs.drop (off+L.size)),σ.nx,σ.lg⟩
  | none=>False
 | _,_=>False
def zsp (cs:Option (List C)) (i off size:Nat) (c:C) (σ:St) (K:C->St->Prop):Prop:=
 match cs with
  | some cs=>c.partB=true/\(c.cells.all C.cellB)=true/\c.cells.length=size/\off+size<=cs.length/\K .any ⟨σ.tm,σ.bx.set i (cs.take off++c.cells++cs.drop (off+size)),σ.nx,σ.lg⟩
  | none=>False
def zfI (cs:Option (List C)) (off n:Nat) (K:C->Prop):Prop:=match cs with
   | some cs=>∃ l:List UInt8,l.length=n/\(cs.drop off).take n=l.map (fun b=>C.sc (.int .u8 (b.toNat:Int)))/\K (.str l)
   | none=>False
theorem zfI.mk {cs:List C} {off n:Nat} {K:C->Prop} (l:List UInt8) (hl:l.length=n) (h:(cs.drop off).take n=l.map (fun b=>C.sc (.int .u8 (b.toNat:Int)))) (hK:K (.str l)):zfI (some cs) off n K:=⟨l,hl,h,hK⟩
def zsv (P:Program) (L:Option Lay) (n:Nat) (parts:List (Nat×C)) (σ:St) (K:C->St->Prop):Prop:=
 match L with
 | some ⟨.slice e,_,_,_⟩=>match lay P e with
  | some ⟨_,k,_,some z⟩=>z.length=k/\0<k/\n*k<=16777216/\(parts.all fun p=>p.2.frz.partB)=true/\match YV (fun i=>some (i*k,k)) (List.replicate n (z.map zA)).flatten (parts.map fun p=>(p.1,p.2.frz)) with
   | some cs=>(cs.all C.cellB)=true/\cs.length=n*k/\K (.bs σ.bx.length 0 k n n) ⟨σ.tm,σ.bx++[cs],σ.nx,σ.lg⟩
   | none=>False
  | _=>False
 | _=>False
def zsW (L:Option Lay) (n:Nat) (parts:List (Nat×C)) (σ:St) (K:C->St->Prop):Prop:=
   match L with
    | some ⟨_,k,_,some z⟩=>z.length=k/\0<k/\n*k<=16777216/\(parts.all fun p=>p.2.frz.partB)=true/\match YV (fun i=>some (i*k,k)) (List.replicate n (z.map zA)).flatten (parts.map fun p=>(p.1,p.2.frz)) with
      | some cs=>(cs.all C.cellB)=true/\cs.length=n*k/\K (.bs σ.bx.length 0 k n n) ⟨σ.tm,σ.bx++[cs],σ.nx,σ.lg⟩
      | none=>False
    | _=>False
def zsX (cs:Option (List C)) (k n:Nat) (σ:St) (K:C->St->Prop):Prop:=
 match cs with
   | some cs=>(cs.all C.cellB)=true/\cs.length=n*k/\K (.bs σ.bx.length 0 k n n) ⟨σ.tm,σ.bx++[cs],σ.nx,σ.lg⟩
   | none=>False
def zs3 (P:Program) (L:Option Lay) (p:Nat) (s x:C) (σ:St) (K:C->St->Prop):Prop:=
 match L with
 | some ⟨.slice e,_,_,_⟩=>match lay P e with
  | some ⟨_,k,by',some z⟩=>match x.xs? k σ.bx with
   | some (m,xs)=>z.length=k/\0<k/\(z.all Value.oneCell')=true/\0<m/\match s with
    | .sc (.slice none 0 0)=>m<=9223372036854775807/\m*by'<=140737488355328/\∀ c,m<=c->c<=maxLen->K (.bs σ.bx.length 0 k m c) ⟨σ.tm,σ.bx++[xs++List.replicate ((c-m)*k) .any],σ.nx,σ.lg⟩
    | .bs i 0 k' n c=>match σ.bx[i]? with
     | some cs=>k'=k/\p<=i/\cs.length=c*k/\n<=c/\c<=9223372036854775807/\n+m<=9223372036854775807/\(n+m)*by'<=140737488355328 /\
       ∀ c',n+m<=c'->c'<=maxLen->K (.bs i 0 k (n+m) c') ⟨k9 (JQ i) some σ.tm,Zv i (C.reL (JQ i) some (cs.take (n*k)++xs)++List.replicate ((c'-(n+m))*k) .any) σ.bx,σ.nx,σ.lg⟩
     | none=>False
    | _=>False
   | none=>False
  | _=>False
 | _=>False
def zsz (L:Option Lay) (p:Nat) (s x:C) (σ:St) (K:C->St->Prop):Prop:=
  match L with
  | some ⟨_,k,by',some z⟩=>match x.xs? k σ.bx with
   | some (m,xs)=>z.length=k/\0<k/\(z.all Value.oneCell')=true/\0<m/\match s with
    | .sc (.slice none 0 0)=>m<=9223372036854775807/\m*by'<=140737488355328/\∀ c,m<=c->c<=maxLen->K (.bs σ.bx.length 0 k m c) ⟨σ.tm,σ.bx++[xs++List.replicate ((c-m)*k) .any],σ.nx,σ.lg⟩
    | .bs i 0 k' n c=>match σ.bx[i]? with
     | some cs=>k'=k/\p<=i/\cs.length=c*k/\n<=c/\c<=9223372036854775807/\n+m<=9223372036854775807/\(n+m)*by'<=140737488355328 /\
       ∀ c',n+m<=c'->c'<=maxLen->K (.bs i 0 k (n+m) c') ⟨k9 (JQ i) some σ.tm,Zv i (C.reL (JQ i) some (cs.take (n*k)++xs)++List.replicate ((c'-(n+m))*k) .any) σ.bx,σ.nx,σ.lg⟩
     | none=>False
    | _=>False
   | none=>False
  | _=>False
def zsT (X:Option (Nat×List C)) (p k by':Nat) (z:List Value) (s:C) (σ:St) (K:C->St->Prop):Prop:=
  match X with
   | some (m,xs)=>z.length=k/\0<k/\(z.all Value.oneCell')=true/\0<m/\match s with
    | .sc (.slice none 0 0)=>m<=9223372036854775807/\m*by'<=140737488355328/\∀ c,m<=c->c<=maxLen->K (.bs σ.bx.length 0 k m c) ⟨σ.tm,σ.bx++[xs++List.replicate ((c-m)*k) .any],σ.nx,σ.lg⟩
    | .bs i 0 k' n c=>match σ.bx[i]? with
     | some cs=>k'=k/\p<=i/\cs.length=c*k/\n<=c/\c<=9223372036854775807/\n+m<=9223372036854775807/\(n+m)*by'<=140737488355328 /\
       ∀ c',n+m<=c'->c'<=maxLen->K (.bs i 0 k (n+m) c') ⟨k9 (JQ i) some σ.tm,Zv i (C.reL (JQ i) some (cs.take (n*k)++xs)++List.replicate ((c'-(n+m))*k) .any) σ.bx,σ.nx,σ.lg⟩
     | none=>False
    | _=>False
   | none=>False
def bsO (j:Option Nat) (off k n c:Nat):C:=match j with | some j=>.bs j off k n c | none=>.any
def xsB (k' k off n:Nat) (cs:Option (List C)):Option (Nat×List C):=if k'=k then cs.bind fun cs=>if off+n*k<=cs.length then some (n,(cs.drop off).take (n*k)) else none else none
def zqz (j:Option Nat) (e k:Nat) (rows:List (List C)):C:=match j with | some j=>.own j e k rows | none=>.sl k rows
def zq8 (cs:Option (List C)) (off:Nat):C:=match cs with | some cs=>.row ((C.frzL cs).drop off) | none=>.any
def znz (j:Option Nat) (off:Nat):C:=match j with | some j=>.ptr j off | none=>.any
def zlj (cs:Option (List C)) (p:Option Tmp) (σ:St) (K:St->Prop):Prop:=match cs,p with
  | some cs,some p=>K ⟨(p,.ptr σ.bx.length 0) :: σ.tm,σ.bx++[cs],σ.nx,σ.lg⟩
  | _,_=>False
def zsq (M:Option (MKd×C)) (t:TypeId) (r:Option C) (nx:Nat) (K:C->Nat->Prop):Prop:=
 match M with
 | some (kd,_)=>match r with
  | none=>K (.mo nx t kd.nil []) (nx+1)
  | some (.sc (.int _ _))=>K (.mo nx t kd.nil []) (nx+1)
  | _=>False
 | none=>False
def zsY (M:Option (MKd×C)) (t:TypeId) (m key:C) (ok:Bool) (K:C->Prop):Prop:=
 match M with
 | some (.int k,z)=>match m,key with
  | .mo _ t' (.int k' l) vs,.sc (.int q n)=>t'=t/\k'=k/\q=k/\Hl (zjF n l vs) z ok K
  | _,_=>False
 | some (.str,z)=>match m,key with
  | .mo _ t' (.str l) vs,.str s=>t'=t/\Hl (zjF s l vs) z ok K
  | _,_=>False
 | none=>False
def zs0 (M:Option (MKd×C)) (t:TypeId) (m key x:C) (σ:St) (K:C->St->Prop):Prop:=
 match M with
 | some (.int k,_)=>match m,key with
  | .mo id t' (.int k' l) vs,.sc (.int q n)=>t'=t/\k'=k/\q=k/\HY id (.int k (kP n x.frz l vs).1) (kP n x.frz l vs).2 σ K
  | _,_=>False
 | some (.str,_)=>match m,key with
  | .mo id t' (.str l) vs,.str s=>t'=t/\HY id (.str (kP s x.frz l vs).1) (kP s x.frz l vs).2 σ K
  | _,_=>False
 | none=>False
def zr9 (x:Option (List C)):C:=match x with | some cs=>.row cs | none=>.any
structure Tag.{u} {α:Sort u} (a:α):Type where
def znQ (M:Option (MKd×C)) (t:TypeId) (r:Option C) (nx:Nat) (K:C->Nat->Prop) (_:Tag K):Prop:=zsq M t r nx K
def zph (M:Option (MKd×C)) (t:TypeId) (m key:C) (ok:Bool) (K:C->Prop) (_:Tag K):Prop:=zsY M t m key ok K
def zcW (r:Option C) (z:C) (ok:Bool) (K:C->Prop) (_:Tag K):Prop:=Hl r z ok K
def zqr (M:Option (MKd×C)) (t:TypeId) (m key x:C) (σ:St) (K:C->St->Prop) (_:Tag K):Prop:=zs0 M t m key x σ K
def zcT (sz i off k n cap:Nat) (lo hi mx:Option Int) (K:C->Prop) (_:Tag K):Prop:=zm6 sz i off k n cap lo hi mx K
def vP (P:Program) (t:TypeId) (s x:C) (σ:St) (K:C->St->Prop) (_:Tag K):Prop:=Yn P t s x σ K
def uk (P:Program) (t tn:TypeId) (s x:C) (σ:St) (K:C->St->Prop) (_:Tag K):Prop:=Gu P t tn s x σ K
def MN (P:Program) (t:TypeId) (d x:C) (σ:St) (K:C->St->Prop) (_:Tag K):Prop:=QM P t d x σ K
def xU (P:Program) (t:TypeId) (x:C) (σ:St) (K:C->St->Prop) (_:Tag K):Prop:=Uy P t x σ K
def zn5 (x y:C) (K:C->Prop) (_:Tag K):Prop:=zpj x y K
def zor (P:Program) (t:TypeId) (c:C) (K:C->Prop) (_:Tag K):Prop:=zon P t c K
def zf3 (L:Option Lay) (c:C) (K:C->Prop) (_:Tag K):Prop:=zqP L c K
def yv (P:Program) (bx:List (List C)) (s d:TypeId) (c:C) (K:C->Prop) (_:Tag K):Prop:=uN P bx s d c K
def Hh (P:Program) (t:TypeId) (n:Nat) (parts:List (Nat×C)) (σ:St) (K:C->St->Prop) (_:Tag K):Prop:=ZE P t n parts σ K
def zpb (P:Program) (L:Option Lay) (n:Nat) (parts:List (Nat×C)) (σ:St) (K:C->St->Prop) (_:Tag K):Prop:=zsv P L n parts σ K
def zpf (L:Option Lay) (n:Nat) (parts:List (Nat×C)) (σ:St) (K:C->St->Prop) (_:Tag K):Prop:=zsW L n parts σ K
def zqn (cs:Option (List C)) (k n:Nat) (σ:St) (K:C->St->Prop) (_:Tag K):Prop:=zsX cs k n σ K
def uF (P:Program) (p:Nat) (t:TypeId) (s x:C) (σ:St) (K:C->St->Prop) (_:Tag K):Prop:=UT P p t s x σ K
def zo8 (P:Program) (L:Option Lay) (p:Nat) (s x:C) (σ:St) (K:C->St->Prop) (_:Tag K):Prop:=zs3 P L p s x σ K
def zo3 (L:Option Lay) (p:Nat) (s x:C) (σ:St) (K:C->St->Prop) (_:Tag K):Prop:=zsz L p s x σ K
def zoz (X:Option (Nat×List C)) (p k by':Nat) (z:List Value) (s:C) (σ:St) (K:C->St->Prop) (_:Tag K):Prop:=zsT X p k by' z s σ K
def zmE (c:C) (X Y:Prop) (_:Tag X) (_:Tag Y):Prop:=ABr c X Y
def zjU (c:C) (U X Y:Prop) (_:Tag U) (_:Tag X) (_:Tag Y):Prop:=zj8 c U X Y
def Y8 (ops:Array Oper) (tm:List (Nat×C)) (g:Option (Nat×Bool)) (X Y:Prop) (_:Tag ops) (_:Tag X) (_:Tag Y):Prop:=jp ops tm g X Y
def zrZ (d:Option Tmp) (tm:List (Nat×C)) (want:Bool) (X Y:Prop) (_:Tag X) (_:Tag Y):Prop:=aGd d tm want X Y
def ZZ (P:Program) (G:zp) (h:Hd) (c:Code) (Q:Exit->St->Prop) (σ:St) (_:Tag c) (_:Tag Q):Prop:=awp P G h c Q σ
def zgo (P:Program) (G:zp) (h:Hd) (ops:Array Oper) (l:List Oper) (σ:St) (K:St->Prop) (_:Tag h) (_:Tag ops) (_:Tag l) (_:Tag K):Prop:=znL P G h ops l σ K
def Xt (P:Program) (G:zp) (h:Hd) (ops:Array Oper) (l:List Oper) (br:List Bool) (σ:St) (K:St->Prop) (_:Tag h) (_:Tag ops) (_:Tag l) (_:Tag K):Prop:=ZF P G h ops l br σ K
def Mp (P:Program) (G:zp) (h:Hd) (ops:Array Oper) (br:List Bool) (σ:St) (K:St->Prop) (_:Tag h) (_:Tag ops) (_:Tag K):Prop:=Mw P G h ops br σ K
def znv (P:Program) (G:zp) (Y:Hd) (ops:Array Oper) (rest:List (Nat×MFl)) (q:Nat) (H:List kF) (fl:MFl) (oo:Option Oper) (σ:St) (K:St->Prop):Prop:=match oo with
 | none=>False
 | some o=>match fl with
  | .pure=>jp ops σ.tm o.guard (Jj P G σ.bx (zy G σ.tm) o.op σ.nx fun c nx'=>mix P G Y ops rest (q+1) ((q,fun b=>Jj P G b (zy G σ.tm) o.op σ.nx fun c' n'=>c'=c/\n'=nx') :: H) ⟨Jn σ.tm o.dst c,σ.bx,nx',σ.lg⟩ K)
    (mix P G Y ops rest (q+1) H ⟨Jn σ.tm o.dst (.sc undef),σ.bx,σ.nx,σ.lg⟩ K)
  | .bar=>jp ops σ.tm o.guard (Nm P G Y o.op σ fun c σ'=>mix P G Y ops rest (q+1) [] (σ'.put o.dst c) K) (mix P G Y ops rest (q+1) [] (σ.put o.dst (.sc undef)) K)
  | .flt fr=>o.guard=none/\zpS P G o.op σ fun c bx' nx'=>YO fr bx' H/\mix P G Y ops rest (q+1) H ⟨Jn σ.tm o.dst c,bx',nx',σ.lg⟩ K
def kN (P:Program) (G:zp) (h:Hd) (ops:Array Oper) (all:List Oper) (L:List (Nat×MFl)) (q:Nat) (H:List kF) (σ:St) (K:St->Prop) (_:Tag h) (_:Tag ops) (_:Tag all) (_:Tag H) (_:Tag K):Prop:=mix P G h ops L q H σ K
def xc (P:Program) (G:zp) (h:Hd) (ops:Array Oper) (all:List Oper) (L:List (Nat×MFl)) (q:Nat) (H:List kF) (fl:MFl) (i:Nat) (l:List Oper) (σ:St) (K:St->Prop) (_:Tag h) (_:Tag ops) (_:Tag all) (_:Tag H) (_:Tag l) (_:Tag K):Prop:=znv P G h ops L q H fl (l[i]?) σ K
def znx (fr:List Nat) (b:List (List C)) (H:List kF) (_:Tag H):Prop:=YO fr b H
def zfG (P:Program) (G:zp) (f:C) (args:List C) (σ:St) (K:C->List (List C)->Nat->Prop) (_:Tag K):Prop:=uq P G f args σ K
def zr3 (P:Program) (G:zp) (f:FuncId) (args:List C) (σ:St) (K:C->List (List C)->Nat->Prop) (_:Tag K):Prop:=zkb P G f args σ K
def Y9 (P:Program) (G:zp) (ops:Array Oper) (a s:Nat) (l:List Oper) (i:Nat) (cs:Option (List C)) (σ:St) (K:St->Prop) (_:Tag ops) (_:Tag l) (_:Tag K):Prop:=jt P G ops a s l i cs σ K
def zkC (cs:Option (List C)) (p:Option Tmp) (σ:St) (K:St->Prop) (_:Tag K):Prop:=zlj cs p σ K
def zkG (L:Option Lay) (K:Prop) (_:Tag K):Prop:=zjp L K
def zj5 (L:Option Lay) (c:C) (K:C->Prop) (_:Tag K):Prop:=zh5 L c K
def jD (P:Program) (G:zp) (h:Hd) (op:Op) (σ:St) (K:C->St->Prop) (_:Tag h) (_:Tag op) (_:Tag K):Prop:=Nm P G h op σ K
def QH (P:Program) (G:zp) (f:FuncId) (args fargs:List C) (σ:St) (K:C->St->Prop) (_:Tag K):Prop:=zoW P G f args fargs σ K
def xZ (P:Program) (G:zp) (h:Hd) (c:C) (args:List C) (σ:St) (K:C->St->Prop) (_:Tag h) (_:Tag K):Prop:=xo P G h c args σ K
def uO (y:Yd) (it:Option (List C)) (args:List C) (σ:St) (K:C->St->Prop) (_:Tag y) (_:Tag K):Prop:=H8 y it args σ K
def zcL (P:Program) (G:zp) (p:Nat) (A B:Nat->(Exit->St->Prop)->St->Prop) (Q:Exit->St->Prop) (ps:List Tmp) (c:C) (σ:St) (_:Tag A) (_:Tag B) (_:Tag Q):Prop:=zaj P G p A B Q ps c σ
def jn (P:Program) (G:zp) (bx:List (List C)) (ev:Operand->C) (op:Op) (nx:Nat) (K:C->Nat->Prop) (_:Tag ev) (_:Tag op) (_:Tag K):Prop:=Jj P G bx ev op nx K
def zca (P:Program) (σ:St) (rs:List ResultVar) (K:C->Prop) (_:Tag K):Prop:=znC P σ rs K
def Yu (P:Program) (σ:St) (rv:ResultVar) (K:C->Prop) (_:Tag K):Prop:=JJ P σ rv K
def vb (P:Program) (t:TypeId) (op:BinOp) (x y:C) (K:C->Prop) (_:Tag K):Prop:=znt P t op x y K
def kR (op:BinOp) (k:IntKind) (a b:Int) (K:C->Prop) (_:Tag K):Prop:=zqB op k a b K
def uB (l:Option Lay) (op:BinOp) (x:C) (K:C->Prop) (_:Tag K):Prop:=zlF l op x K
def zds (op:BinOp) (b:Bool) (K:C->Prop) (_:Tag K):Prop:=Gd op b K
def zer (op:BinOp) (a b:List UInt8) (K:C->Prop) (_:Tag K):Prop:=zrt op a b K
def zmY (op:BinOp) (ks:Option (List LK)) (xs ys:List C) (K:C->Prop) (_:Tag K):Prop:=zqJ op ks xs ys K
def zgQ (n:Bool) (ks:List LK) (xs ys:List C) (e:Bool) (K:C->Prop) (_:Tag K):Prop:=aEq n ks xs ys e K
def zqW (op:UnOp) (x:C) (K:C->Prop) (_:Tag K):Prop:=aUn op x K
def v8 (P:Program) (t:TypeId) (c:C) (bx:List (List C)) (K:C->Prop) (_:Tag K):Prop:=vg P t c bx K
def yh (L:Option Lay) (c:C) (bx:List (List C)) (K:C->Prop) (_:Tag K):Prop:=zpI L c bx K
def zfH (cs:Option (List C)) (off:Nat) (L:Lay) (K:C->Prop) (_:Tag K):Prop:=zp9 cs off L K
def Vy (L:Lay) (cs:List C) (K:C->Prop) (_:Tag K):Prop:=JZ L cs K
def zlE (x:Option C) (K:C->Prop) (_:Tag K):Prop:=zqM x K
def kh (c:C) (i:Nat) (K:C->Prop) (_:Tag K):Prop:=Uh c i K
def zk2 (c:C) (K:C->Prop) (_:Tag K):Prop:=zqx c K
def vv (P:Program) (t:TypeId) (c:C) (f:Nat) (K:C->Prop) (_:Tag K):Prop:=ub P t c f K
def uQ (L:Option Lay) (c:C) (f:Nat) (K:C->Prop) (_:Tag K):Prop:=vd L c f K
def uI (f:Option (Nat×Nat×Bool)) (cs:List C) (K:C->Prop) (_:Tag K):Prop:=kC f cs K
def QO (P:Program) (t:TypeId) (c:C) (f:Nat) (K:C->Prop) (_:Tag K):Prop:=Qm P t c f K
def zpF (L:Option Lay) (c:C) (f:Nat) (K:C->Prop) (_:Tag K):Prop:=zsw L c f K
def zme (f:Option (Nat×Nat×Bool)) (c:C) (K:C->Prop) (_:Tag K):Prop:=zo5 f c K
def QR (P:Program) (t:TypeId) (c:C) (i:C) (K:C->Prop) (_:Tag K):Prop:=Qa P t c i K
def zmB (P:Program) (L:Option Lay) (c:C) (i:C) (K:C->Prop) (_:Tag K):Prop:=zsR P L c i K
def zhn (L:Option Lay) (c:C) (n:Int) (K:C->Prop) (_:Tag K):Prop:=zsI L c n K
def zmg (rows:Option (List (List C))) (n:Int) (K:C->Prop) (_:Tag K):Prop:=zsZ rows n K
def zsb (r:Option (List C)) (n:Int) (K:C->Prop) (_:Tag K):Prop:=aAt r n K
def zpn (L:Option Lay) (c:C) (m:Nat) (n:Int) (K:C->Prop) (_:Tag K):Prop:=zs2 L c m n K
def yS (P:Program) (t:TypeId) (c i:C) (K:C->Prop) (_:Tag K):Prop:=u0 P t c i K
def znU (L:Option Lay) (c i:C) (K:C->Prop) (_:Tag K):Prop:=zqF L c i K
def zkA (b:Option UInt8) (n:Int) (K:C->Prop) (_:Tag K):Prop:=zmr b n K
def vc (P:Program) (t:TypeId) (c:C) (lo hi mx:Option C) (K:C->Prop) (_:Tag K):Prop:=uj P t c lo hi mx K
def zpJ (P:Program) (t:TypeId) (c:C) (lo hi mx:Option (Option Int)) (K:C->Prop) (_:Tag K):Prop:=zsC P t c lo hi mx K
def zm8 (P:Program) (L:Option Lay) (c:C) (lo hi mx:Option Int) (K:C->Prop) (_:Tag K):Prop:=zr6 P L c lo hi mx K
def zfU (L:Option Lay) (c:C) (lo hi mx:Option Int) (K:C->Prop) (_:Tag K):Prop:=zsU L c lo hi mx K
def znF (k:Nat) (lo hi mx:Option Int) (K:C->Prop) (_:Tag K):Prop:=zp2 k lo hi mx K
def zjL (rows:Option (List (List C))) (k:Nat) (lo hi mx:Option Int) (K:C->Prop) (_:Tag K):Prop:=zsE rows k lo hi mx K
def zlz (rows:Option (List (List C))) (K:C->Prop) (_:Tag K):Prop:=zgb rows K
def zeI (P:Program) (s d:TypeId) (c:C) (K:C->Prop) (_:Tag K):Prop:=zjY P s d c K
def zhO (P:Program) (D S:Option Lay) (c:C) (K:C->Prop) (_:Tag K):Prop:=zsB P D S c K
def zpc (L:Option Lay) (c:C) (K:C->Prop) (_:Tag K):Prop:=zse L c K
def yu (P:Program) (t:TypeId) (c:C) (K:C->Prop) (_:Tag K):Prop:=zp7 P t c K
def Ml (L:Option Lay) (n:Int) (K:C->Prop) (_:Tag K):Prop:=zqU L n K
def zkk (L:Option Lay) (n:Int) (K:C->Prop) (_:Tag K):Prop:=zrq L n K
def x7 (P:Program) (t:TypeId) (parts:List (Nat×C)) (K:C->Prop) (_:Tag K):Prop:=ug P t parts K
def zpC (L:Option Lay) (parts:List (Nat×C)) (K:C->Prop) (_:Tag K):Prop:=zrJ L parts K
def zr4 (cs:Option (List C)) (K:C->Prop) (_:Tag K):Prop:=aFl cs K
def XW (P:Program) (t:TypeId) (n:Nat) (parts:List (Nat×C)) (nx:Nat) (K:C->Nat->Prop) (_:Tag K):Prop:=Yb P t n parts nx K
def ue (P:Program) (t:TypeId) (n:Nat) (parts:List (Nat×C)) (nx:Nat) (K:C->Nat->Prop) (_:Tag K):Prop:=GI P t n parts nx K
def zod (P:Program) (L:Option Lay) (n:Nat) (parts:List (Nat×C)) (nx:Nat) (K:C->Nat->Prop) (_:Tag K):Prop:=zsS P L n parts nx K
def zpx (L:Option Lay) (e:TypeId) (n:Nat) (parts:List (Nat×C)) (nx:Nat) (K:C->Nat->Prop) (_:Tag K):Prop:=zsx L e n parts nx K
def zo9 (cs:Option (List C)) (e k n nx:Nat) (K:C->Nat->Prop) (_:Tag K):Prop:=zsF cs e k n nx K
def zkg (P:Program) (t:TypeId) (l c:C) (nx:Nat) (K:C->Nat->Prop) (_:Tag K):Prop:=zfA P t l c nx K
def ME (P:Program) (t:TypeId) (l c:C) (σ:St) (K:C->St->Prop) (_:Tag K):Prop:=Ub P t l c σ K
def zkw (P:Program) (L:Option Lay) (l c:C) (σ:St) (K:C->St->Prop) (_:Tag K):Prop:=zqT P L l c σ K
def zj6 (L:Option Lay) (l c:Int) (σ:St) (K:C->St->Prop) (_:Tag K):Prop:=zq6 L l c σ K
def zoe (P:Program) (L:Option Lay) (l c:C) (nx:Nat) (K:C->Nat->Prop) (_:Tag K):Prop:=zsP P L l c nx K
def zoJ (L:Option Lay) (e:TypeId) (l c:Int) (nx:Nat) (K:C->Nat->Prop) (_:Tag K):Prop:=zsD L e l c nx K
def G8 (P:Program) (t:TypeId) (s x:C) (σ:St) (K:C->St->Prop) (_:Tag K):Prop:=Gn P t s x σ K
def GY (P:Program) (t:TypeId) (s x:C) (nx:Nat) (K:C->Nat->Prop) (_:Tag K):Prop:=Z1 P t s x nx K
def zoU (P:Program) (L:Option Lay) (s x:C) (nx:Nat) (K:C->Nat->Prop) (_:Tag K):Prop:=zss P L s x nx K
def zqk (L:Option Lay) (e:TypeId) (s x:C) (nx:Nat) (K:C->Nat->Prop) (_:Tag K):Prop:=zsm L e s x nx K
def zm9 (xs:Option (List (List C))) (s:C) (e k by':Nat) (z:List Value) (nx:Nat) (K:C->Nat->Prop) (_:Tag K):Prop:=zsn xs s e k by' z nx K
def zpq (P:Program) (L:Option Lay) (id e k:Nat) (rows:List (List C)) (x:C) (σ:St) (K:C->St->Prop) (_:Tag K):Prop:=zsi P L id e k rows x σ K
def zoN (L:Option Lay) (e' id e k:Nat) (rows:List (List C)) (x:C) (σ:St) (K:C->St->Prop) (_:Tag K):Prop:=zrf L e' id e k rows x σ K
def zql (xs:Option (List (List C))) (by' id e k:Nat) (rows:List (List C)) (σ:St) (K:C->St->Prop) (_:Tag K):Prop:=zrS xs by' id e k rows σ K
def zcK (P:Program) (G:zp) (callee:C) (args:List C) (nx:Nat) (K:C->Nat->Prop) (_:Tag K):Prop:=N4 P G callee args nx K
def yZ (P:Program) (G:zp) (f:FuncId) (args:List C) (nx:Nat) (K:C->Nat->Prop) (_:Tag K):Prop:=uS P G f args nx K
def zob (c:C) (σ:St) (K:C->St->Prop) (_:Tag K):Prop:=zqL c σ K
def zo2 (L:Option Lay) (σ:St) (K:C->St->Prop) (_:Tag K):Prop:=zsk L σ K
def znY (L:Option Lay) (p c:C) (σ:St) (K:C->St->Prop) (_:Tag K):Prop:=zsJ L p c σ K
def zoF (L:Option Lay) (p c:C) (bx:List (List C)) (K:C->Prop) (_:Tag K):Prop:=zsM L p c bx K
def znT (cs:Option (List C)) (off size:Nat) (c:C) (K:C->Prop) (_:Tag K):Prop:=zsG cs off size c K
def zpD (cs:Option (List C)) (i off size:Nat) (c:C) (σ:St) (K:C->St->Prop) (_:Tag K):Prop:=zsp cs i off size c σ K
def zky (p:Nat) (B:(Exit->St->Prop)->St->Prop) (Q:Exit->St->Prop) (σ:St) (_:Tag B) (_:Tag Q):Prop:=zh0 p B Q σ
def zae (next:St->Prop) (Q:Exit->St->Prop) (_:Tag next) (_:Tag Q):Exit->St->Prop:=zpA next Q
def UL (id:Nat) (Q:Exit->St->Prop) (_:Tag Q):Exit->St->Prop:=N9 id Q
def GQ (Q:Exit->St->Prop) (_:Tag Q):Exit->St->Prop:=zed Q
def vT (next:St->Prop) (Q:Exit->St->Prop) (_:Tag next) (_:Tag Q):Exit->St->Prop:=zlY next Q
def zkj (K:St->Prop) (_:Tag K):Exit->St->Prop:=zlc K
def ve (m:Nat) (tm:List (Nat×C)) (st:Bool) (next:St) (Q:Exit->St->Prop) (_:Tag next) (_:Tag Q):Exit->St->Prop:=zdB m tm st next Q
def Mx (P:Program) (rs:List ResultVar) (K:C->St->Prop) (_:Tag K):Exit->St->Prop:=zki P rs K
theorem zof:ZZ P G h .skip Q σ ⟨⟩ ⟨⟩=Q .normal σ:=(rfl)
theorem zmb {l:Nat}:ZZ P G h (.label l) Q σ ⟨⟩ ⟨⟩=Q .normal σ:=(rfl)
theorem zpK {id:Nat}:ZZ P G h (.exit id) Q σ ⟨⟩ ⟨⟩=Q (.exit id) σ:=(rfl)
theorem zqD:ZZ P G h .ret Q σ ⟨⟩ ⟨⟩=Q .ret σ:=(rfl)
theorem zrj {a b:Code}:ZZ P G h (.seq a b) Q σ ⟨⟩ ⟨⟩=ZZ P G h a (zae (fun σ=>ZZ P G h b Q σ ⟨⟩ ⟨⟩) Q ⟨⟩ ⟨⟩) σ ⟨⟩ ⟨⟩:=(rfl)
theorem zqa {cc:Operand} {a b:Code}:ZZ P G h (.cond cc a b) Q ⟨tm,bx,nx,lg⟩ ⟨⟩ ⟨⟩=zmE (zy G tm cc) (ZZ P G h a Q ⟨tm,bx,nx,lg⟩ ⟨⟩ ⟨⟩) (ZZ P G h b Q ⟨tm,bx,nx,lg⟩ ⟨⟩ ⟨⟩) ⟨⟩ ⟨⟩:=(rfl)
theorem zk8 {id:Nat} {a:Code}:ZZ P G h (.block id a) Q σ ⟨⟩ ⟨⟩=ZZ P G h a (UL id Q ⟨⟩) σ ⟨⟩ ⟨⟩:=(rfl)
theorem zoD {a:Code}:ZZ P G ⟨p,yd,bf⟩ (.loop a) Q σ ⟨⟩ ⟨⟩=zky p (fun Q σ=>ZZ P G ⟨p,yd,bf⟩ a Q σ ⟨⟩ ⟨⟩) Q σ ⟨⟩ ⟨⟩:=(rfl)
theorem ziy {a b:Code} {x:Operand} {ps:List Tmp}:ZZ P G ⟨p,yd,bf⟩ (.rangeFunc x ps.toArray a b) Q ⟨tm,bx,nx,lg⟩ ⟨⟩ ⟨⟩=zcL P G p (fun m=>fun Q σ=>ZZ P G ⟨m,yd,bf⟩ a Q σ ⟨⟩ ⟨⟩) (fun m=>fun Q σ=>ZZ P G ⟨m,yd,bf⟩ b Q σ ⟨⟩ ⟨⟩) Q ps (zy G tm x) ⟨tm,bx,nx,lg⟩ ⟨⟩ ⟨⟩ ⟨⟩:=(rfl)
theorem zmv {a:Code}:ZZ P G h (.scope a) Q σ ⟨⟩ ⟨⟩=ZZ P G h a (GQ Q ⟨⟩) σ ⟨⟩ ⟨⟩:=(rfl)
theorem zjN {id:Nat} {l:List Oper}:ZZ P G ⟨p,yd,bf⟩ (.region id l.toArray false) Q σ ⟨⟩ ⟨⟩=zgo P G ⟨p,yd,bf⟩ l.toArray l σ (Q .normal) ⟨⟩ ⟨⟩ ⟨⟩ ⟨⟩:=(rfl)
theorem zeq {id:Nat} {l:List Oper}:ZZ P G ⟨p,yd,bf⟩ (.region id l.toArray true) Q σ ⟨⟩ ⟨⟩=Mp P G ⟨p,yd,bf⟩ l.toArray (bf id) σ (Q .normal) ⟨⟩ ⟨⟩ ⟨⟩:=(rfl)
theorem zhq {KS:St->Prop} {l:List Oper}:Mp P G h l.toArray [] σ KS ⟨⟩ ⟨⟩ ⟨⟩=Xt P G h l.toArray l [] σ KS ⟨⟩ ⟨⟩ ⟨⟩ ⟨⟩:=(rfl)
theorem ziG {KS:St->Prop} {l:List Oper} {r:List Bool}:Mp P G h l.toArray (false :: r) σ KS ⟨⟩ ⟨⟩ ⟨⟩=Xt P G h l.toArray l (false :: r) σ KS ⟨⟩ ⟨⟩ ⟨⟩ ⟨⟩:=(rfl)
theorem zie {KS:St->Prop} {l:List Oper} {L:List (Nat×MFl)}:Mp P G h l.toArray (QT L) σ KS ⟨⟩ ⟨⟩ ⟨⟩=kN P G h l.toArray l L 0 [] σ KS ⟨⟩ ⟨⟩ ⟨⟩ ⟨⟩ ⟨⟩:=(show Mw P G h l.toArray (QT L) σ KS=mix P G h l.toArray L 0 [] σ KS from by
 unfold Mw QT;rw[show Hr (zfY 199 (unR (zcE L)))=none from rfl,kK];simp only[zbQ])
theorem zp6 {KS:St->Prop} {all:List Oper} {q:Nat} {H:List kF}:kN P G h ops all [] q H σ KS ⟨⟩ ⟨⟩ ⟨⟩ ⟨⟩ ⟨⟩=KS σ:=(rfl)
theorem zoo {KS:St->Prop} {all:List Oper} {i q:Nat} {fl:MFl} {L:List (Nat×MFl)} {H:List kF}:kN P G h all.toArray all ((i,fl) :: L) q H σ KS ⟨⟩ ⟨⟩ ⟨⟩ ⟨⟩ ⟨⟩=xc P G h all.toArray all L q H fl i all σ KS ⟨⟩ ⟨⟩ ⟨⟩ ⟨⟩ ⟨⟩ ⟨⟩:=(show mix P G h all.toArray ((i,fl) :: L) q H σ KS=znv P G h all.toArray L q H fl (all[i]?) σ KS from rfl)
theorem zoM {KS:St->Prop} {o:Oper} {all l:List Oper} {i q:Nat} {fl:MFl} {L:List (Nat×MFl)} {H:List kF}:xc P G h ops all L q H fl (i+1) (o :: l) σ KS ⟨⟩ ⟨⟩ ⟨⟩ ⟨⟩ ⟨⟩ ⟨⟩=xc P G h ops all L q H fl i l σ KS ⟨⟩ ⟨⟩ ⟨⟩ ⟨⟩ ⟨⟩ ⟨⟩:=(show znv P G h ops L q H fl ((o :: l)[i+1]?) σ KS=znv P G h ops L q H fl (l[i]?) σ KS from rfl)
theorem znO {KS:St->Prop} {all rest:List Oper} {q:Nat} {L:List (Nat×MFl)} {H:List kF} {dst:Option Tmp} {op:Op} {ty:TypeId} {pos:String} {af:Array Edge} {g:Option (Nat×Bool)}:xc P G h ops all L q H .pure 0 (⟨dst,op,ty,pos,af,g⟩ :: rest) ⟨tm,bx,nx,lg⟩ KS ⟨⟩ ⟨⟩ ⟨⟩ ⟨⟩ ⟨⟩ ⟨⟩ =
  Y8 ops tm g (jn P G bx (zy G tm) op nx (fun c nx'=>kN P G h ops all L (q+1) ((q,fun b=>jn P G b (zy G tm) op nx (fun c' n'=>c'=c/\n'=nx') ⟨⟩ ⟨⟩ ⟨⟩) :: H) ⟨Jn tm dst c,bx,nx',lg⟩ KS ⟨⟩ ⟨⟩ ⟨⟩ ⟨⟩ ⟨⟩) ⟨⟩ ⟨⟩ ⟨⟩) (kN P G h ops all L (q+1) H ⟨Jn tm dst (.sc undef),bx,nx,lg⟩ KS ⟨⟩ ⟨⟩ ⟨⟩ ⟨⟩ ⟨⟩) ⟨⟩ ⟨⟩ ⟨⟩:=
 (show znv P G h ops L q H .pure (some ⟨dst,op,ty,pos,af,g⟩) ⟨tm,bx,nx,lg⟩ KS=_ from rfl)
theorem zpH {KS:St->Prop} {all rest:List Oper} {q:Nat} {L:List (Nat×MFl)} {H:List kF} {dst:Option Tmp} {op:Op} {ty:TypeId} {pos:String} {af:Array Edge} {g:Option (Nat×Bool)}:xc P G h ops all L q H .bar 0 (⟨dst,op,ty,pos,af,g⟩ :: rest) ⟨tm,bx,nx,lg⟩ KS ⟨⟩ ⟨⟩ ⟨⟩ ⟨⟩ ⟨⟩ ⟨⟩ =
  Y8 ops tm g (jD P G h op ⟨tm,bx,nx,lg⟩ (fun c σ'=>kN P G h ops all L (q+1) [] (σ'.put dst c) KS ⟨⟩ ⟨⟩ ⟨⟩ ⟨⟩ ⟨⟩) ⟨⟩ ⟨⟩ ⟨⟩) (kN P G h ops all L (q+1) [] ((St.mk tm bx nx lg).put dst (.sc undef)) KS ⟨⟩ ⟨⟩ ⟨⟩ ⟨⟩ ⟨⟩) ⟨⟩ ⟨⟩ ⟨⟩:=
 (show znv P G h ops L q H .bar (some ⟨dst,op,ty,pos,af,g⟩) ⟨tm,bx,nx,lg⟩ KS=_ from rfl)
theorem zlV {KS:St->Prop} {all rest:List Oper} {q:Nat} {L:List (Nat×MFl)} {H:List kF} {fr:List Nat} {dst:Option Tmp} {ty:TypeId} {pos:String} {af:Array Edge}:xc P G h ops all L q H (.flt fr) 0 (⟨dst,.store t x y,ty,pos,af,none⟩ :: rest) ⟨tm,bx,nx,lg⟩ KS ⟨⟩ ⟨⟩ ⟨⟩ ⟨⟩ ⟨⟩ ⟨⟩ =
  jD P G h (.store t x y) ⟨tm,bx,nx,lg⟩ (fun c σ'=>znx fr σ'.bx H ⟨⟩/\kN P G h ops all L (q+1) H ⟨Jn tm dst c,σ'.bx,σ'.nx,lg⟩ KS ⟨⟩ ⟨⟩ ⟨⟩ ⟨⟩ ⟨⟩) ⟨⟩ ⟨⟩ ⟨⟩:=
 (show ((none:Option (Nat×Bool))=none/\Zw P t (zy G tm x) (zy G tm y) ⟨tm,bx,nx,lg⟩ fun c σ'=>YO fr σ'.bx H/\mix P G h ops L (q+1) H ⟨Jn tm dst c,σ'.bx,σ'.nx,lg⟩ KS)=_ from propext ⟨fun h=>h.2,fun h=>⟨rfl,h⟩⟩)
theorem zlM {KS:St->Prop} {all rest:List Oper} {q:Nat} {L:List (Nat×MFl)} {H:List kF} {fr:List Nat} {dst:Option Tmp} {ty:TypeId} {pos:String} {af:Array Edge}:xc P G h ops all L q H (.flt fr) 0 (⟨dst,.call ⟨.builtin .copy,#[x,y],#[t,t']⟩,ty,pos,af,none⟩ :: rest) ⟨tm,bx,nx,lg⟩ KS ⟨⟩ ⟨⟩ ⟨⟩ ⟨⟩ ⟨⟩ ⟨⟩ =
  MN P t (zy G tm x) (zy G tm y) ⟨tm,bx,nx,lg⟩ (fun c σ'=>znx fr σ'.bx H ⟨⟩/\kN P G h ops all L (q+1) H ⟨Jn tm dst c,σ'.bx,σ'.nx,lg⟩ KS ⟨⟩ ⟨⟩ ⟨⟩ ⟨⟩ ⟨⟩) ⟨⟩:=
 (show ((none:Option (Nat×Bool))=none/\QM P t (zy G tm x) (zy G tm y) ⟨tm,bx,nx,lg⟩ fun c σ'=>YO fr σ'.bx H/\mix P G h ops L (q+1) H ⟨Jn tm dst c,σ'.bx,σ'.nx,lg⟩ KS)=_ from propext ⟨fun h=>h.2,fun h=>⟨rfl,h⟩⟩)
theorem zpg {KS:St->Prop} {all rest:List Oper} {q:Nat} {L:List (Nat×MFl)} {H:List kF} {fr:List Nat} {dst:Option Tmp} {ty:TypeId} {pos:String} {af:Array Edge} {us:List Operand} {tys:Array TypeId}:xc P G h ops all L q H (.flt fr) 0 (⟨dst,.call ⟨.value x,us.toArray,tys⟩,ty,pos,af,none⟩ :: rest) ⟨tm,bx,nx,lg⟩ KS ⟨⟩ ⟨⟩ ⟨⟩ ⟨⟩ ⟨⟩ ⟨⟩ =
  zfG P G (zy G tm x) (us.map (zy G tm)) ⟨tm,bx,nx,lg⟩ (fun c b' n'=>znx fr b' H ⟨⟩/\kN P G h ops all L (q+1) H ⟨Jn tm dst c,b',n',lg⟩ KS ⟨⟩ ⟨⟩ ⟨⟩ ⟨⟩ ⟨⟩) ⟨⟩:=
 (show ((none:Option (Nat×Bool))=none/\uq P G (zy G tm x) (us.map (zy G tm)) ⟨tm,bx,nx,lg⟩ fun c b' n'=>YO fr b' H/\mix P G h ops L (q+1) H ⟨Jn tm dst c,b',n',lg⟩ KS)=_ from propext ⟨fun h=>h.2,fun h=>⟨rfl,h⟩⟩)
theorem zkL {K4:C->List (List C)->Nat->Prop} {f:FuncId} {fs cs args:List C}:zfG P G (.clo (.func f) fs cs) args ⟨tm,bx,nx,lg⟩ K4 ⟨⟩=zr3 P G f (fs++args++cs) ⟨tm,bx,nx,lg⟩ K4 ⟨⟩:=(rfl)
theorem zmc {p:Prop} [Decidable p]:(if p then True else True)=True:=ite_self _
theorem zpt {fr:List Nat} {b:List (List C)}:znx fr b [] ⟨⟩=True:=(rfl)
theorem zp1 {fr:List Nat} {b:List (List C)} {k:Nat} {f:List (List C)->Prop} {r:List kF}:znx fr b ((k,f) :: r) ⟨⟩=((if k∈fr then f b else True)/\znx fr b r ⟨⟩):=(show ((match fr.contains k with | true=>f b | false=>True)/\YO fr b r)=((if k∈fr then f b else True)/\YO fr b r) from by
 cases hq:fr.contains k with
 | true=>rw[if_pos (by simpa using hq)]
 | false=>rw[if_neg fun h=>by simp[h]at hq])
theorem zjW {KS:St->Prop} {l:List Oper} {a s:Nat}:Mp P G h l.toArray (jS a s) σ KS ⟨⟩ ⟨⟩ ⟨⟩=Y9 P G l.toArray a s l 0 none σ KS ⟨⟩ ⟨⟩ ⟨⟩:=(show Mw P G h l.toArray (jS a s) σ KS=jt P G l.toArray a s l 0 none σ KS from by unfold Mw;rw[Nu])
theorem zeO {KS:St->Prop} {a s i:Nat} {cs:Option (List C)} {l:List Oper}:Y9 P G l.toArray a s [] i cs σ KS ⟨⟩ ⟨⟩ ⟨⟩=zkC cs ((l[a]?).bind (·.dst)) σ KS ⟨⟩:=(show jt P G l.toArray a s [] i cs σ KS=zlj cs ((l[a]?).bind (·.dst)) σ KS from by simp only[jt,zlj,List.getElem?_toArray];rfl)
theorem zgv {KS:St->Prop} {a s:Nat} {cs:Option (List C)} {dst:Option Tmp} {ty:TypeId} {pos:String} {af:Array Edge} {g:Option (Nat×Bool)} {rest:List Oper}:Y9 P G ops a s (⟨dst,.alloc t,ty,pos,af,g⟩ :: rest) a cs ⟨tm,bx,nx,lg⟩ KS ⟨⟩ ⟨⟩ ⟨⟩=zkG (lay P t) (Y9 P G ops a s rest (a+1) cs ⟨Jn tm dst .any,bx,nx,lg⟩ KS ⟨⟩ ⟨⟩ ⟨⟩) ⟨⟩:=(show jt P G ops a s (⟨dst,.alloc t,ty,pos,af,g⟩ :: rest) a cs ⟨tm,bx,nx,lg⟩ KS=zjp (lay P t) (jt P G ops a s rest (a+1) cs ⟨Jn tm dst .any,bx,nx,lg⟩ KS) from by simp only[jt,if_true])
theorem zeD {KS:St->Prop} {a s:Nat} {cs:Option (List C)} {dst:Option Tmp} {ty:TypeId} {pos:String} {af:Array Edge} {g:Option (Nat×Bool)} {rest:List Oper} (hsa:(s==a)=false):Y9 P G ops a s (⟨dst,.store t y x,ty,pos,af,g⟩ :: rest) s cs ⟨tm,bx,nx,lg⟩ KS ⟨⟩ ⟨⟩ ⟨⟩=zj5 (lay P t) (zy G tm x) (fun c=>Y9 P G ops a s rest (s+1) (some c.cells) ⟨Jn tm dst .any,bx,nx,lg⟩ KS ⟨⟩ ⟨⟩ ⟨⟩) ⟨⟩:=(show jt P G ops a s (⟨dst,.store t y x,ty,pos,af,g⟩ :: rest) s cs ⟨tm,bx,nx,lg⟩ KS=zh5 (lay P t) (zy G tm x) fun c=>jt P G ops a s rest (s+1) (some c.cells) ⟨Jn tm dst .any,bx,nx,lg⟩ KS from by simp only[beq_eq_false_iff_ne]at hsa;simp only[jt,if_neg hsa,if_true])
theorem zjX {KS:St->Prop} {a s i:Nat} {cs:Option (List C)} {dst:Option Tmp} {ty:TypeId} {pos:String} {af:Array Edge} {g:Option (Nat×Bool)} {rest:List Oper} {op:Op} (hia:(i==a)=false) (his:(i==s)=false):Y9 P G ops a s (⟨dst,op,ty,pos,af,g⟩ :: rest) i cs ⟨tm,bx,nx,lg⟩ KS ⟨⟩ ⟨⟩ ⟨⟩=Y8 ops tm g (jn P G bx (zy G tm) op nx (fun c nx'=>Y9 P G ops a s rest (i+1) cs ⟨Jn tm dst c,bx,nx',lg⟩ KS ⟨⟩ ⟨⟩ ⟨⟩) ⟨⟩ ⟨⟩ ⟨⟩) (Y9 P G ops a s rest (i+1) cs ⟨Jn tm dst (.sc undef),bx,nx,lg⟩ KS ⟨⟩ ⟨⟩ ⟨⟩) ⟨⟩ ⟨⟩ ⟨⟩:=(show jt P G ops a s (⟨dst,op,ty,pos,af,g⟩ :: rest) i cs ⟨tm,bx,nx,lg⟩ KS=jp ops tm g (Jj P G bx (zy G tm) op nx fun c nx'=>jt P G ops a s rest (i+1) cs ⟨Jn tm dst c,bx,nx',lg⟩ KS) (jt P G ops a s rest (i+1) cs ⟨Jn tm dst (.sc undef),bx,nx,lg⟩ KS) from by simp only[beq_eq_false_iff_ne]at hia his;simp only[jt,if_neg hia,if_neg his])
theorem zqh {KS:St->Prop} {cs:List C} {u:Tmp}:zkC (some cs) (some u) ⟨tm,bx,nx,lg⟩ KS ⟨⟩=KS ⟨(u,.ptr bx.length 0) :: tm,bx++[cs],nx,lg⟩:=(rfl)
theorem znK {kd:LK} {k b1:Nat} {z1:List Value}:zkG (some ⟨kd,k,b1,some z1⟩) X ⟨⟩=(z1.length=k/\(z1.all Value.oneCell')=true/\X):=(rfl)
theorem znS {L:Lay}:zj5 (some L) c K ⟨⟩=(c.partB=true/\(c.cells.all C.cellB)=true/\c.cells.length=L.size/\K c):=(rfl)
theorem zoV {KS:St->Prop}:zkj KS ⟨⟩ .normal σ=KS σ:=(rfl)
theorem zgr {next:St} {b:Bool}:ve m tm b next Q ⟨⟩ ⟨⟩ .normal σ=(b=false/\Jz m ⟨[],σ.bx,σ.nx,σ.lg⟩ (next.wt [])):=(rfl)
theorem yl {next:St} {b:Bool}:ve m tm b next Q ⟨⟩ ⟨⟩ .ret σ=(b=true/\∃ σ':St,σ'.bx.length=m/\Jz m ⟨[],σ.bx,σ.nx,σ.lg⟩ (σ'.wt [])/\Q .ret (σ'.wt tm)):=(rfl)
theorem zsu {tm2:List (Nat×C)}:St.wt ⟨tm,bx,nx,lg⟩ tm2=⟨tm2,bx,nx,lg⟩:=(rfl)
theorem zhx {cs:List C}:Z8 [] cs tm=tm:=(rfl)
theorem zlg {u:Nat} {ps:List Tmp} {cs:List C}:Z8 (u :: ps) (c :: cs) tm=Z8 ps cs ((u,c) :: tm):=(rfl)
theorem zne:kI m [] = []:=(rfl)
theorem zoG {u:Nat} {r:List (Nat×C)}:kI m ((u,c) :: r)=(u,c.sel (HM m)) :: kI m r:=(rfl)
theorem zpl {next:St->Prop}:zae next Q ⟨⟩ ⟨⟩ .normal σ=next σ:=(rfl)
theorem yI {next:St->Prop} {id:Nat}:zae next Q ⟨⟩ ⟨⟩ (.exit id) σ=Q (.exit id) σ:=(rfl)
theorem zbT {next:St->Prop}:zae next Q ⟨⟩ ⟨⟩ .ret σ=Q .ret σ:=(rfl)
theorem zdu {id:Nat}:UL id Q ⟨⟩ .normal σ=Q .normal σ:=(rfl)
theorem Mh {id:Nat}:UL id Q ⟨⟩ (.exit id) σ=Q .normal σ:=(show N9 id Q (.exit id) σ=Q .normal σ from if_pos rfl)
theorem NP {id id2:Nat} (h:(id2==id)=false):UL id Q ⟨⟩ (.exit id2) σ=Q (.exit id2) σ:=(show N9 id Q (.exit id2) σ=Q (.exit id2) σ from if_neg (by simpa using h))
theorem vS {id:Nat}:UL id Q ⟨⟩ .ret σ=Q .ret σ:=(rfl)
theorem zaY:GQ Q ⟨⟩ .normal σ=Q .normal σ:=(rfl)
theorem MD:GQ Q ⟨⟩ .ret σ=Q .ret σ:=(rfl)
theorem zif {next:St->Prop}:vT next Q ⟨⟩ ⟨⟩ .normal σ=next σ:=(rfl)
theorem yR {next:St->Prop} {id:Nat}:vT next Q ⟨⟩ ⟨⟩ (.exit id) σ=Q (.exit id) σ:=(rfl)
theorem zaM {next:St->Prop}:vT next Q ⟨⟩ ⟨⟩ .ret σ=Q .ret σ:=(rfl)
theorem zmo {rs:List ResultVar}:Mx P rs K3 ⟨⟩ .normal σ=zca P σ rs (fun c=>K3 c σ) ⟨⟩:=(rfl)
theorem zlL {rs:List ResultVar}:Mx P rs K3 ⟨⟩ .ret σ=zca P σ rs (fun c=>K3 c σ) ⟨⟩:=(rfl)
theorem zps:zca P σ [] K ⟨⟩=K (.tup []):=(rfl)
theorem zo4 {a:ResultVar}:zca P σ [a] K ⟨⟩=Yu P σ a K ⟨⟩:=(rfl)
theorem zoH {a b:ResultVar}:zca P σ [a,b] K ⟨⟩=Yu P σ a (fun c=>Yu P σ b (fun d=>K (.tup [c,d])) ⟨⟩) ⟨⟩:=(rfl)
theorem zqt {a b c1:ResultVar}:zca P σ [a,b,c1] K ⟨⟩=Yu P σ a (fun c=>Yu P σ b (fun d=>Yu P σ c1 (fun e=>K (.tup [c,d,e])) ⟨⟩) ⟨⟩) ⟨⟩:=(rfl)
theorem zoP {u:Nat}:Yu P ⟨tm,bx,nx,lg⟩ (.tmp u) K ⟨⟩=K (jI tm u):=(rfl)
theorem znR {u:Nat}:Yu P ⟨tm,bx,nx,lg⟩ (.cell u t) K ⟨⟩=v8 P t (jI tm u) bx K ⟨⟩:=(rfl)
theorem zlN {KS:St->Prop}:zgo P G h ops [] σ KS ⟨⟩ ⟨⟩ ⟨⟩ ⟨⟩=KS σ:=(rfl)
theorem zoS {KS:St->Prop} {dst:Option Tmp} {op:Op} {ty:TypeId} {pos:String} {af:Array Edge} {g:Option (Nat×Bool)} {rest:List Oper}:zgo P G h ops (⟨dst,op,ty,pos,af,g⟩ :: rest) ⟨tm,bx,nx,lg⟩ KS ⟨⟩ ⟨⟩ ⟨⟩ ⟨⟩=Y8 ops tm g (jD P G h op ⟨tm,bx,nx,lg⟩ (fun c σ'=>zgo P G h ops rest (σ'.put dst c) KS ⟨⟩ ⟨⟩ ⟨⟩ ⟨⟩) ⟨⟩ ⟨⟩ ⟨⟩) (zgo P G h ops rest (St.put ⟨tm,bx,nx,lg⟩ dst (.sc undef)) KS ⟨⟩ ⟨⟩ ⟨⟩ ⟨⟩) ⟨⟩ ⟨⟩ ⟨⟩:=(rfl)
theorem zhR {KS:St->Prop}:Xt P G h ops [] brs σ KS ⟨⟩ ⟨⟩ ⟨⟩ ⟨⟩=KS σ:=(rfl)
theorem zjt {KS:St->Prop} {dst:Option Tmp} {op:Op} {ty:TypeId} {pos:String} {af:Array Edge} {g:Option (Nat×Bool)} {rest:List Oper}:Xt P G h ops (⟨dst,op,ty,pos,af,g⟩ :: rest) [] ⟨tm,bx,nx,lg⟩ KS ⟨⟩ ⟨⟩ ⟨⟩ ⟨⟩=Y8 ops tm g (jn P G bx (zy G tm) op nx (fun c nx'=>Xt P G h ops rest [] ⟨Jn tm dst c,bx,nx',lg⟩ KS ⟨⟩ ⟨⟩ ⟨⟩ ⟨⟩) ⟨⟩ ⟨⟩ ⟨⟩) (Xt P G h ops rest [] ⟨Jn tm dst (.sc undef),bx,nx,lg⟩ KS ⟨⟩ ⟨⟩ ⟨⟩ ⟨⟩) ⟨⟩ ⟨⟩ ⟨⟩:=(rfl)
theorem ziY {KS:St->Prop} {dst:Option Tmp} {op:Op} {ty:TypeId} {pos:String} {af:Array Edge} {g:Option (Nat×Bool)} {rest:List Oper}:Xt P G h ops (⟨dst,op,ty,pos,af,g⟩ :: rest) (false :: brs) ⟨tm,bx,nx,lg⟩ KS ⟨⟩ ⟨⟩ ⟨⟩ ⟨⟩=Y8 ops tm g (jn P G bx (zy G tm) op nx (fun c nx'=>Xt P G h ops rest brs ⟨Jn tm dst c,bx,nx',lg⟩ KS ⟨⟩ ⟨⟩ ⟨⟩ ⟨⟩) ⟨⟩ ⟨⟩ ⟨⟩) (Xt P G h ops rest brs ⟨Jn tm dst (.sc undef),bx,nx,lg⟩ KS ⟨⟩ ⟨⟩ ⟨⟩ ⟨⟩) ⟨⟩ ⟨⟩ ⟨⟩:=(rfl)
theorem zhZ {KS:St->Prop} {dst:Option Tmp} {op:Op} {ty:TypeId} {pos:String} {af:Array Edge} {g:Option (Nat×Bool)} {rest:List Oper}:Xt P G h ops (⟨dst,op,ty,pos,af,g⟩ :: rest) (true :: brs) ⟨tm,bx,nx,lg⟩ KS ⟨⟩ ⟨⟩ ⟨⟩ ⟨⟩=Y8 ops tm g (jD P G h op ⟨tm,bx,nx,lg⟩ (fun c σ'=>Xt P G h ops rest brs (σ'.put dst c) KS ⟨⟩ ⟨⟩ ⟨⟩ ⟨⟩) ⟨⟩ ⟨⟩ ⟨⟩) (Xt P G h ops rest brs ⟨Jn tm dst (.sc undef),bx,nx,lg⟩ KS ⟨⟩ ⟨⟩ ⟨⟩ ⟨⟩) ⟨⟩ ⟨⟩ ⟨⟩:=(rfl)
theorem zja:Y8 ops tm none X Y ⟨⟩ ⟨⟩ ⟨⟩=X:=(rfl)
theorem zls {l:List Oper} {j:Nat} {want:Bool}:Y8 l.toArray tm (some (j,want)) X Y ⟨⟩ ⟨⟩ ⟨⟩=zrZ ((l[j]?).bind (·.dst)) tm want X Y ⟨⟩ ⟨⟩:=(show jp l.toArray tm (some (j,want)) X Y=aGd ((l[j]?).bind (·.dst)) tm want X Y from by simp only[jp,List.getElem?_toArray];rfl)
theorem zpw {u:Tmp}:zrZ (some u) tm true X Y ⟨⟩ ⟨⟩=zjU (jI tm u) Y X Y ⟨⟩ ⟨⟩ ⟨⟩:=(rfl)
theorem zpB {u:Tmp}:zrZ (some u) tm false X Y ⟨⟩ ⟨⟩=zjU (jI tm u) Y Y X ⟨⟩ ⟨⟩ ⟨⟩:=(rfl)
theorem zlm {U:Prop} {b:Bool}:zjU (.sc (.bool b)) U X Y ⟨⟩ ⟨⟩ ⟨⟩=zmE (.sc (.bool b)) X Y ⟨⟩ ⟨⟩:=(rfl)
theorem zlC {U:Prop}:zjU (.sc undef) U X Y ⟨⟩ ⟨⟩ ⟨⟩=U:=(rfl)
theorem zau {u:Tmp}:St.put ⟨tm,bx,nx,lg⟩ (some u) c=⟨(u,c) :: tm,bx,nx,lg⟩:=(rfl)
theorem zaI:St.put ⟨tm,bx,nx,lg⟩ none c=⟨tm,bx,nx,lg⟩:=(rfl)
theorem xV {u:Tmp}:Jn tm (some u) c=(u,c) :: tm:=(rfl)
theorem yK:Jn tm none c=tm:=(rfl)
theorem kQ {n:Nat} {ps:List (Nat×Operand)}:jD P G h (.buildSlice t n ps.toArray) ⟨tm,bx,nx,lg⟩ K3 ⟨⟩ ⟨⟩ ⟨⟩=if h.bx t then Hh P t n (ps.map fun p=>(p.1,zy G tm p.2)) ⟨tm,bx,nx,lg⟩ K3 ⟨⟩ else XW P t n (ps.map fun p=>(p.1,zy G tm p.2)) nx (fun c nx'=>K3 c ⟨tm,bx,nx',lg⟩) ⟨⟩:=(rfl)
theorem kX {n:Nat} {ps:List (Nat×Operand)} {ev:Operand->C}:jn P G bx ev (.buildSlice t n ps.toArray) nx K2 ⟨⟩ ⟨⟩ ⟨⟩=ue P t n (ps.map fun p=>(p.1,ev p.2)) nx K2 ⟨⟩:=(rfl)
theorem zri {n:Nat} {ps:List (Nat×C)}:ue P t (n+1) ps nx K2 ⟨⟩=XW P t (n+1) ps nx K2 ⟨⟩:=(rfl)
theorem Ga:jD P G h (.makeSlice t x y) ⟨tm,bx,nx,lg⟩ K3 ⟨⟩ ⟨⟩ ⟨⟩=if h.bx t then ME P t (zy G tm x) (zy G tm y) ⟨tm,bx,nx,lg⟩ K3 ⟨⟩ else zkg P t (zy G tm x) (zy G tm y) nx (fun c nx'=>K3 c ⟨tm,bx,nx',lg⟩) ⟨⟩:=(rfl)
theorem zoh:Hd.bx ⟨p,yd,bf⟩ t=(bf (1000000+t)).headD false:=(rfl)
theorem zmh:Hd.bx2 ⟨p,yd,bf⟩ t=((bf (1000000+t)).drop 1).headD false:=(rfl)
theorem ziS:jD P G h (.move x) ⟨tm,bx,nx,lg⟩ K3 ⟨⟩ ⟨⟩ ⟨⟩=K3 (zy G tm x) ⟨tm,bx,nx,lg⟩:=(rfl)
theorem ziq {ev:Operand->C}:jn P G bx ev (.move x) nx K2 ⟨⟩ ⟨⟩ ⟨⟩=K2 (ev x) nx:=(rfl)
theorem zbk:jD P G h (.assign x) ⟨tm,bx,nx,lg⟩ K3 ⟨⟩ ⟨⟩ ⟨⟩=K3 (zy G tm x) ⟨tm,bx,nx,lg⟩:=(rfl)
theorem zaw {ev:Operand->C}:jn P G bx ev (.assign x) nx K2 ⟨⟩ ⟨⟩ ⟨⟩=K2 (ev x) nx:=(rfl)
theorem ziE:jD P G h (.pick x y z) ⟨tm,bx,nx,lg⟩ K3 ⟨⟩ ⟨⟩ ⟨⟩=zmE (zy G tm x) (K3 (zy G tm y) ⟨tm,bx,nx,lg⟩) (K3 (zy G tm z) ⟨tm,bx,nx,lg⟩) ⟨⟩ ⟨⟩:=(rfl)
theorem zia {ev:Operand->C}:jn P G bx ev (.pick x y z) nx K2 ⟨⟩ ⟨⟩ ⟨⟩=zmE (ev x) (K2 (ev y) nx) (K2 (ev z) nx) ⟨⟩ ⟨⟩:=(rfl)
theorem zgF {ps:List (Nat×Operand)}:jD P G h (.build t ps.toArray) ⟨tm,bx,nx,lg⟩ K3 ⟨⟩ ⟨⟩ ⟨⟩=x7 P t (ps.map fun p=>(p.1,zy G tm p.2)) (fun c=>K3 c ⟨tm,bx,nx,lg⟩) ⟨⟩:=(rfl)
theorem zfE {ps:List (Nat×Operand)} {ev:Operand->C}:jn P G bx ev (.build t ps.toArray) nx K2 ⟨⟩ ⟨⟩ ⟨⟩=x7 P t (ps.map fun p=>(p.1,ev p.2)) (fun c=>K2 c nx) ⟨⟩:=(rfl)
theorem ziW:jD P G h (.load t x) ⟨tm,bx,nx,lg⟩ K3 ⟨⟩ ⟨⟩ ⟨⟩=v8 P t (zy G tm x) bx (fun c=>K3 c ⟨tm,bx,nx,lg⟩) ⟨⟩:=(rfl)
theorem zjE {ev:Operand->C}:jn P G bx ev (.load t x) nx K2 ⟨⟩ ⟨⟩ ⟨⟩=v8 P t (ev x) bx (fun c=>K2 c nx) ⟨⟩:=(rfl)
theorem Mr:jD P G h (.nilCheck x) ⟨tm,bx,nx,lg⟩ K3 ⟨⟩ ⟨⟩ ⟨⟩=zk2 (zy G tm x) (fun c=>K3 c ⟨tm,bx,nx,lg⟩) ⟨⟩:=(rfl)
theorem NU {ev:Operand->C}:jn P G bx ev (.nilCheck x) nx K2 ⟨⟩ ⟨⟩ ⟨⟩=zk2 (ev x) (fun c=>K2 c nx) ⟨⟩:=(rfl)
theorem zdL {op:BinOp}:jD P G h (.binOp op t x y t') ⟨tm,bx,nx,lg⟩ K3 ⟨⟩ ⟨⟩ ⟨⟩=vb P t op (zy G tm x) (zy G tm y) (fun c=>K3 c ⟨tm,bx,nx,lg⟩) ⟨⟩:=(rfl)
theorem zfd {op:BinOp} {ev:Operand->C}:jn P G bx ev (.binOp op t x y t') nx K2 ⟨⟩ ⟨⟩ ⟨⟩=vb P t op (ev x) (ev y) (fun c=>K2 c nx) ⟨⟩:=(rfl)
theorem zjx {op:UnOp}:jD P G h (.unOp op t x) ⟨tm,bx,nx,lg⟩ K3 ⟨⟩ ⟨⟩ ⟨⟩=zqW op (zy G tm x) (fun c=>K3 c ⟨tm,bx,nx,lg⟩) ⟨⟩:=(rfl)
theorem zi1 {op:UnOp} {ev:Operand->C}:jn P G bx ev (.unOp op t x) nx K2 ⟨⟩ ⟨⟩ ⟨⟩=zqW op (ev x) (fun c=>K2 c nx) ⟨⟩:=(rfl)
theorem vy:jD P G h (.convert t t' x) ⟨tm,bx,nx,lg⟩ K3 ⟨⟩ ⟨⟩ ⟨⟩=yv P bx t t' (zy G tm x) (fun c=>K3 c ⟨tm,bx,nx,lg⟩) ⟨⟩:=(rfl)
theorem MQ {fn:Fn} {fs cs:List Operand}:jD P G h (.makeFunc fn fs.toArray cs.toArray) ⟨tm,bx,nx,lg⟩ K3 ⟨⟩ ⟨⟩ ⟨⟩=K3 (.clo fn (fs.map (zy G tm)) (cs.map (zy G tm))) ⟨tm,bx,nx,lg⟩:=(rfl)
theorem zec {lo hi mx:Option Operand}:jD P G h (.slice t x lo hi mx) ⟨tm,bx,nx,lg⟩ K3 ⟨⟩ ⟨⟩ ⟨⟩=vc P t (zy G tm x) (lo.map (zy G tm)) (hi.map (zy G tm)) (mx.map (zy G tm)) (fun c=>K3 c ⟨tm,bx,nx,lg⟩) ⟨⟩:=(rfl)
theorem zfh {lo hi mx:Option Operand} {ev:Operand->C}:jn P G bx ev (.slice t x lo hi mx) nx K2 ⟨⟩ ⟨⟩ ⟨⟩=vc P t (ev x) (lo.map ev) (hi.map ev) (mx.map ev) (fun c=>K2 c nx) ⟨⟩:=(rfl)
theorem GJ {f:Nat}:jD P G h (.fieldAddr t x f) ⟨tm,bx,nx,lg⟩ K3 ⟨⟩ ⟨⟩ ⟨⟩=QO P t (zy G tm x) f (fun c=>K3 c ⟨tm,bx,nx,lg⟩) ⟨⟩:=(rfl)
theorem Ge {f:Nat} {ev:Operand->C}:jn P G bx ev (.fieldAddr t x f) nx K2 ⟨⟩ ⟨⟩ ⟨⟩=QO P t (ev x) f (fun c=>K2 c nx) ⟨⟩:=(rfl)
theorem zdc {f:Nat}:jD P G h (.field t x f) ⟨tm,bx,nx,lg⟩ K3 ⟨⟩ ⟨⟩ ⟨⟩=vv P t (zy G tm x) f (fun c=>K3 c ⟨tm,bx,nx,lg⟩) ⟨⟩:=(rfl)
theorem zdf {f:Nat} {ev:Operand->C}:jn P G bx ev (.field t x f) nx K2 ⟨⟩ ⟨⟩ ⟨⟩=vv P t (ev x) f (fun c=>K2 c nx) ⟨⟩:=(rfl)
theorem H7:jD P G h (.indexAddr t x y) ⟨tm,bx,nx,lg⟩ K3 ⟨⟩ ⟨⟩ ⟨⟩=QR P t (zy G tm x) (zy G tm y) (fun c=>K3 c ⟨tm,bx,nx,lg⟩) ⟨⟩:=(rfl)
theorem Gj {ev:Operand->C}:jn P G bx ev (.indexAddr t x y) nx K2 ⟨⟩ ⟨⟩ ⟨⟩=QR P t (ev x) (ev y) (fun c=>K2 c nx) ⟨⟩:=(rfl)
theorem zgl:jD P G h (.index t x y) ⟨tm,bx,nx,lg⟩ K3 ⟨⟩ ⟨⟩ ⟨⟩=yS P t (zy G tm x) (zy G tm y) (fun c=>K3 c ⟨tm,bx,nx,lg⟩) ⟨⟩:=(rfl)
theorem zgM {ev:Operand->C}:jn P G bx ev (.index t x y) nx K2 ⟨⟩ ⟨⟩ ⟨⟩=yS P t (ev x) (ev y) (fun c=>K2 c nx) ⟨⟩:=(rfl)
theorem ye {i:Nat}:jD P G h (.extract x i) ⟨tm,bx,nx,lg⟩ K3 ⟨⟩ ⟨⟩ ⟨⟩=kh (zy G tm x) i (fun c=>K3 c ⟨tm,bx,nx,lg⟩) ⟨⟩:=(rfl)
theorem yc {i:Nat} {ev:Operand->C}:jn P G bx ev (.extract x i) nx K2 ⟨⟩ ⟨⟩ ⟨⟩=kh (ev x) i (fun c=>K2 c nx) ⟨⟩:=(rfl)
theorem zeP {us:List Operand} {ts:List TypeId}:jD P G h (.call ⟨.value x,us.toArray,ts.toArray⟩) ⟨tm,bx,nx,lg⟩ K3 ⟨⟩ ⟨⟩ ⟨⟩=xZ P G h (zy G tm x) (us.map (zy G tm)) ⟨tm,bx,nx,lg⟩ K3 ⟨⟩ ⟨⟩:=(rfl)
theorem zd5 {us:List Operand} {ts:List TypeId} {ev:Operand->C}:jn P G bx ev (.call ⟨.value x,us.toArray,ts.toArray⟩) nx K2 ⟨⟩ ⟨⟩ ⟨⟩=zcK P G (ev x) (us.map ev) nx K2 ⟨⟩:=(rfl)
theorem zmK:jD P G h (.call ⟨.builtin .len,#[x],#[t]⟩) ⟨tm,bx,nx,lg⟩ K3 ⟨⟩ ⟨⟩ ⟨⟩=yu P t (zy G tm x) (fun c=>K3 c ⟨tm,bx,nx,lg⟩) ⟨⟩:=(rfl)
theorem zlO {ev:Operand->C}:jn P G bx ev (.call ⟨.builtin .len,#[x],#[t]⟩) nx K2 ⟨⟩ ⟨⟩ ⟨⟩=yu P t (ev x) (fun c=>K2 c nx) ⟨⟩:=(rfl)
theorem xO {r:Option Operand}:jD P G h (.makeMap t r) ⟨tm,bx,nx,lg⟩ K3 ⟨⟩ ⟨⟩ ⟨⟩=znQ (zcB P t) t (r.map (zy G tm)) nx (fun c nx'=>K3 c ⟨tm,bx,nx',lg⟩) ⟨⟩:=(rfl)
theorem zoB {kd:MKd} {z:C}:znQ (some (kd,z)) t none nx K2 ⟨⟩=K2 (.mo nx t kd.nil []) (nx+1):=(rfl)
theorem zl1 {k:IntKind}:MKd.nil (.int k) = .int k []:=(rfl)
theorem zcu {ok:Bool} {ev:Operand->C}:jn P G bx ev (.lookup t x y ok) nx K2 ⟨⟩ ⟨⟩ ⟨⟩=zph (zcB P t) t (ev x) (ev y) ok (fun c=>K2 c nx) ⟨⟩:=(rfl)
theorem zoL {k k2 q:IntKind} {z:C} {id:Nat} {t2:TypeId} {l:List Int} {vs:List C} {n:Int} {ok:Bool}:zph (some (.int k,z)) t (.mo id t2 (.int k2 l) vs) (.sc (.int q n)) ok K ⟨⟩=(t2=t/\k2=k/\q=k/\zcW (zjF n l vs) z ok K ⟨⟩):=(rfl)
theorem zhQ {z:C}:zcW (some c) z false K ⟨⟩=K c:=(rfl)
theorem zcg {w:Operand}:jD P G h (.insert t x y w) ⟨tm,bx,nx,lg⟩ K3 ⟨⟩ ⟨⟩ ⟨⟩=zqr (zcB P t) t (zy G tm x) (zy G tm y) (zy G tm w) ⟨tm,bx,nx,lg⟩ K3 ⟨⟩:=(rfl)
theorem zow {k k2 q:IntKind} {z:C} {id:Nat} {t2:TypeId} {l:List Int} {vs:List C} {n:Int}:zqr (some (.int k,z)) t (.mo id t2 (.int k2 l) vs) (.sc (.int q n)) d ⟨tm,bx,nx,lg⟩ K3 ⟨⟩=(t2=t/\k2=k/\q=k/\K3 .any ⟨zgR id (.int k (kP n d.frz l vs).1) (kP n d.frz l vs).2 tm,zdj id (.int k (kP n d.frz l vs).1) (kP n d.frz l vs).2 bx,nx,lg⟩):=(rfl)
theorem zbq:jD P G h (.call ⟨.builtin .append,#[x,y],#[t,t]⟩) ⟨tm,bx,nx,lg⟩ K3 ⟨⟩ ⟨⟩ ⟨⟩=if h.bx t then if h.bx2 t then vP P t (zy G tm x) (zy G tm y) ⟨tm,bx,nx,lg⟩ K3 ⟨⟩ else uF P h.p t (zy G tm x) (zy G tm y) ⟨tm,bx,nx,lg⟩ K3 ⟨⟩ else G8 P t (zy G tm x) (zy G tm y) ⟨tm,bx,nx,lg⟩ K3 ⟨⟩:=(show Nm P G h (.call ⟨.builtin .append,#[x,y],#[t,t]⟩) ⟨tm,bx,nx,lg⟩ K3=if h.bx t then if h.bx2 t then Yn P t (zy G tm x) (zy G tm y) ⟨tm,bx,nx,lg⟩ K3 else UT P h.p t (zy G tm x) (zy G tm y) ⟨tm,bx,nx,lg⟩ K3 else Gn P t (zy G tm x) (zy G tm y) ⟨tm,bx,nx,lg⟩ K3 from by simp[Nm,yo])
theorem zhV (h0:(t'==t)=false):jD P G h (.call ⟨.builtin .append,#[x,y],#[t,t']⟩) ⟨tm,bx,nx,lg⟩ K3 ⟨⟩ ⟨⟩ ⟨⟩=uk P t t' (zy G tm x) (zy G tm y) ⟨tm,bx,nx,lg⟩ K3 ⟨⟩:=(show Nm P G h (.call ⟨.builtin .append,#[x,y],#[t,t']⟩) ⟨tm,bx,nx,lg⟩ K3=Gu P t t' (zy G tm x) (zy G tm y) ⟨tm,bx,nx,lg⟩ K3 from by simp only[beq_eq_false_iff_ne]at h0;simp[Nm,yo,h0])
theorem zju:jD P G h (.call ⟨.builtin .copy,#[x,y],#[t,t']⟩) ⟨tm,bx,nx,lg⟩ K3 ⟨⟩ ⟨⟩ ⟨⟩=MN P t (zy G tm x) (zy G tm y) ⟨tm,bx,nx,lg⟩ K3 ⟨⟩:=(show Nm P G h (.call ⟨.builtin .copy,#[x,y],#[t,t']⟩) ⟨tm,bx,nx,lg⟩ K3=QM P t (zy G tm x) (zy G tm y) ⟨tm,bx,nx,lg⟩ K3 from by simp[Nm,yo])
theorem zf6:jD P G h (.call ⟨.builtin .clear,#[x],#[t]⟩) ⟨tm,bx,nx,lg⟩ K3 ⟨⟩ ⟨⟩ ⟨⟩=xU P t (zy G tm x) ⟨tm,bx,nx,lg⟩ K3 ⟨⟩:=(show Nm P G h (.call ⟨.builtin .clear,#[x],#[t]⟩) ⟨tm,bx,nx,lg⟩ K3=Uy P t (zy G tm x) ⟨tm,bx,nx,lg⟩ K3 from by simp[Nm,yo])
theorem zmD:jD P G h (.call ⟨.builtin .max,#[x,y],#[t,t']⟩) ⟨tm,bx,nx,lg⟩ K3 ⟨⟩ ⟨⟩ ⟨⟩=zn5 (zy G tm x) (zy G tm y) (fun c=>K3 c ⟨tm,bx,nx,lg⟩) ⟨⟩:=(rfl)
theorem zqZ {k k':IntKind} {n m:Int}:zn5 (.sc (.int k n)) (.sc (.int k' m)) K ⟨⟩=K (.sc (.int k (if m>n then m else n))):=(rfl)
theorem zmH:jD P G h (.call ⟨.builtin .cap,#[x],#[t]⟩) ⟨tm,bx,nx,lg⟩ K3 ⟨⟩ ⟨⟩ ⟨⟩=zor P t (zy G tm x) (fun c=>K3 c ⟨tm,bx,nx,lg⟩) ⟨⟩:=(show Nm P G h (.call ⟨.builtin .cap,#[x],#[t]⟩) ⟨tm,bx,nx,lg⟩ K3=zon P t (zy G tm x) fun c=>K3 c ⟨tm,bx,nx,lg⟩ from by simp[Nm,yo])
theorem zrC:zor P t c K ⟨⟩=zf3 (lay P t) c K ⟨⟩:=(rfl)
theorem ziF {i off k n cap:Nat} {e s1 b1:Nat} {z1:Option (List Value)}:zf3 (some ⟨.slice e,s1,b1,z1⟩) (.bs i off k n cap) K ⟨⟩=K (.sc (.int .i64 (cap:Int))):=(rfl)
theorem zgg {e s1 b1:Nat} {z1:Option (List Value)}:zf3 (some ⟨.slice e,s1,b1,z1⟩) (.sc (.slice none 0 0)) K ⟨⟩=K (.sc (.int .i64 0)):=(rfl)
theorem zbx {ev:Operand->C}:jn P G bx ev (.call ⟨.builtin .append,#[x,y],#[t,t]⟩) nx K2 ⟨⟩ ⟨⟩ ⟨⟩=GY P t (ev x) (ev y) nx K2 ⟨⟩:=(show Jj P G bx ev (.call ⟨.builtin .append,#[x,y],#[t,t]⟩) nx K2=Z1 P t (ev x) (ev y) nx K2 from by simp[Jj,NA,kj])
theorem zfk:jD P G h (.alloc t) ⟨tm,bx,nx,lg⟩ K3 ⟨⟩ ⟨⟩ ⟨⟩=zo2 (lay P t) ⟨tm,bx,nx,lg⟩ K3 ⟨⟩:=(rfl)
theorem zkQ:jD P G h (.box t x) ⟨tm,bx,nx,lg⟩ K3 ⟨⟩ ⟨⟩ ⟨⟩=zob (zy G tm x) ⟨tm,bx,nx,lg⟩ K3 ⟨⟩:=(rfl)
theorem zdm:jD P G h (.store t x y) ⟨tm,bx,nx,lg⟩ K3 ⟨⟩ ⟨⟩ ⟨⟩=znY (lay P t) (zy G tm x) (zy G tm y) ⟨tm,bx,nx,lg⟩ K3 ⟨⟩:=(rfl)
theorem zj0 {u:Tmp}:zy G tm (.tmp u)=jI tm u:=(rfl)
theorem zaF {v:Value}:zy G tm (.const v)=zA v:=(rfl)
theorem zgi {f:FuncId}:zy G tm (.func f) = .clo (.func f) [] []:=(rfl)
theorem vG {g:Nat}:zy G tm (.global g)=zr9 (G g):=(rfl)
theorem xG {cs:List C}:zr9 (some cs) = .row cs:=(rfl)
theorem zn6 {u v:Nat} {r:List (Nat×C)}:jI ((u,c) :: r) v=if v=u then c else jI r v:=(rfl)
theorem yG {k:IntKind} {n:Int}:zA (.int k n) = .sc (.int k n):=(rfl)
theorem xb {b:Bool}:zA (.bool b) = .sc (.bool b):=(rfl)
theorem yB {l:List UInt8}:zA (.string ⟨l.toArray⟩) = .str l:=(rfl)
theorem GM {a:Option Addr} {n m:Nat}:zA (.slice a n m) = .sc (.slice a n m):=(rfl)
theorem vq {a:Option Addr}:zA (.pointer a) = .sc (.pointer a):=(rfl)
theorem yw {a:Option Nat}:zA (.map a) = .sc (.map a):=(rfl)
theorem Mu:zA .nilFunc = .sc .nilFunc:=(rfl)
theorem zgj {op:BinOp} {k:IntKind} {a b:Int}:vb P t op (.sc (.int k a)) (.sc (.int k b)) K ⟨⟩=kR op k a b K ⟨⟩:=(show znt P t op (.sc (.int k a)) (.sc (.int k b)) K=zqB op k a b K from by simp[znt])
theorem zfv {op:BinOp} {a b:List UInt8}:vb P t op (.str a) (.str b) K ⟨⟩=zer op a b K ⟨⟩:=(rfl)
theorem zc9 {op:BinOp} {cs ds:List C}:vb P t op (.agg cs) (.agg ds) K ⟨⟩=zmY op (VP P t) cs ds K ⟨⟩:=(rfl)
theorem M8 {op:BinOp} {k:Nat} {rows:List (List C)}:vb P t op (.sl k rows) (.sc (.slice none 0 0)) K ⟨⟩=uB (lay P t) op (.sl k rows) K ⟨⟩:=(rfl)
theorem zdp {op:BinOp} {e0:TypeId} {k0 b0:Nat} {z0:Option (List Value)} {k:Nat} {rows:List (List C)}:uB (some ⟨.slice e0,k0,b0,z0⟩) op (.sl k rows) K ⟨⟩=(rows≠[]/\zds op false K ⟨⟩):=(rfl)
theorem xr {op:BinOp} {a:Option Addr} {n cap:Nat}:vb P t op (.sc (.slice a n cap)) (.sc (.slice none 0 0)) K ⟨⟩=uB (lay P t) op (.sc (.slice a n cap)) K ⟨⟩:=(rfl)
theorem zcU {op:BinOp} {e0:TypeId} {k0 b0:Nat} {z0:Option (List Value)} {a:Option Addr} {n cap:Nat}:uB (some ⟨.slice e0,k0,b0,z0⟩) op (.sc (.slice a n cap)) K ⟨⟩=zds op a.isNone K ⟨⟩:=(rfl)
theorem zb5 {b:Bool}:zds .eql b K ⟨⟩=K (.sc (.bool b)):=(rfl)
theorem zgu {lk:List LK} {cs ds:List C}:zmY .eql (some lk) cs ds K ⟨⟩=zgQ false lk cs ds true K ⟨⟩:=(rfl)
theorem zfQ {lk:List LK} {cs ds:List C}:zmY .neq (some lk) cs ds K ⟨⟩=zgQ true lk cs ds true K ⟨⟩:=(rfl)
theorem zjT {e:Bool}:zgQ false [] [] [] e K ⟨⟩=K (.sc (.bool e)):=(rfl)
theorem zbj {e:Bool}:zgQ true [] [] [] e K ⟨⟩=K (.sc (.bool (!e))):=(rfl)
theorem zhb {n e:Bool} {lk:List LK} {k k1 k2:IntKind} {a b:Int} {cs ds:List C}:zgQ n (.int k :: lk) (.sc (.int k1 a) :: cs) (.sc (.int k2 b) :: ds) e K ⟨⟩=(k1=k/\k2=k/\zgQ n lk cs ds (e&&decide (a=b)) K ⟨⟩):=(rfl)
theorem zdi {n e:Bool} {lk:List LK} {a b:Bool} {cs ds:List C}:zgQ n (.bool :: lk) (.sc (.bool a) :: cs) (.sc (.bool b) :: ds) e K ⟨⟩=zgQ n lk cs ds (e&&(a==b)) K ⟨⟩:=(rfl)
theorem zjA {n e:Bool} {lk:List LK} {a b:List UInt8} {cs ds:List C}:zgQ n (.str :: lk) (.str a :: cs) (.str b :: ds) e K ⟨⟩=zgQ n lk cs ds (e&&decide (a=b)) K ⟨⟩:=(rfl)
theorem zgp {k:IntKind} {a b:Int}:kR .add k a b K ⟨⟩=(inR k (a+b)/\K (.sc (.int k (a+b)))):=(rfl)
theorem zfu {k:IntKind} {a b:Int}:kR .sub k a b K ⟨⟩=(inR k (a-b)/\K (.sc (.int k (a-b)))):=(rfl)
theorem zef {k:IntKind} {a b:Int}:kR .shr k a b K ⟨⟩=(b=1/\K (.sc (.int k (a / 2)))):=(rfl)
theorem zgz {k:IntKind} {a b:Int}:kR .eql k a b K ⟨⟩=(K (.sc (.bool (decide (a=b))))):=(rfl)
theorem zey {k:IntKind} {a b:Int}:kR .neq k a b K ⟨⟩=(K (.sc (.bool (!decide (a=b))))):=(rfl)
theorem ze1 {k:IntKind} {a b:Int}:kR .lss k a b K ⟨⟩=(K (.sc (.bool (decide (a<b))))):=(rfl)
theorem zgd {k:IntKind} {a b:Int}:kR .leq k a b K ⟨⟩=(K (.sc (.bool (decide (a<=b))))):=(rfl)
theorem zgL {k:IntKind} {a b:Int}:kR .gtr k a b K ⟨⟩=(K (.sc (.bool (decide (b<a))))):=(rfl)
theorem zeQ {k:IntKind} {a b:Int}:kR .geq k a b K ⟨⟩=(K (.sc (.bool (decide (b<=a))))):=(rfl)
theorem zeL {a b:List UInt8}:zer .add a b K ⟨⟩=(((a.length+b.length:Nat):Int)<=9223372036854775807/\K (.str (a++b))):=(rfl)
theorem zdV {a b:List UInt8}:zer .eql a b K ⟨⟩=(K (.sc (.bool (decide (a=b))))):=(rfl)
theorem zgc {a b:List UInt8}:zer .neq a b K ⟨⟩=(K (.sc (.bool (!decide (a=b))))):=(rfl)
theorem zfg {a b:List UInt8}:zer .geq a b K ⟨⟩=(K (.sc (.bool (!Op.bytesLess a b)))):=(rfl)
theorem ziC {b:Bool}:zqW .not (.sc (.bool b)) K ⟨⟩=K (.sc (.bool (!b))):=(rfl)
theorem zdz {cs:List C} {i:Nat}:kh (.tup cs) i K ⟨⟩=zlE (cs[i]?) K ⟨⟩:=(rfl)
theorem zrb:zlE (some c) K ⟨⟩=K c:=(rfl)
theorem zdW {i off:Nat}:zk2 (.ptr i off) K ⟨⟩=K (.ptr i off):=(rfl)
theorem zpP:v8 P t c bx K ⟨⟩=yh (lay P t) c bx K ⟨⟩:=(rfl)
theorem zf7 {ev:Operand->C}:jn P G bx ev (.store t x y) nx K2 ⟨⟩ ⟨⟩ ⟨⟩=zoF (lay P t) (ev x) (ev y) bx (fun c=>K2 c nx) ⟨⟩:=(rfl)
theorem zrv {L:Lay} {i off:Nat}:zoF (some L) (.ptr i off) c bx K ⟨⟩=znT (bx[i]?) off L.size c K ⟨⟩:=(rfl)
theorem zr0 {cs:List C} {off size:Nat}:znT (some cs) off size c K ⟨⟩=(c.partB=true/\(c.cells.all C.cellB)=true/\c.cells.length=size/\off+size<=cs.length/\VW ((cs.drop off).take size) c.cells/\K .any):=(rfl)
theorem zb8:VW [] []=True:=(rfl)
theorem zeM {u v:Value} {r s:List C}:VW (.sc u :: r) (.sc v :: s)=(u=v/\VW r s):=(rfl)
theorem za6 {u v:List UInt8} {r s:List C}:VW (.str u :: r) (.str v :: s)=(u=v/\VW r s):=(rfl)
theorem zco {L:Lay} {i off:Nat}:yh (some L) (.ptr i off) bx K ⟨⟩=zfH (bx[i]?) off L K ⟨⟩:=(rfl)
theorem zci {L:Lay} {cs:List C}:yh (some L) (.row cs) bx K ⟨⟩=Vy L cs K ⟨⟩:=(rfl)
theorem zkJ {L:Lay} {off:Nat} {cs:List C}:zfH (some cs) off L K ⟨⟩=Vy L (cs.drop off) K ⟨⟩:=(rfl)
theorem GN {fs:List (Nat×Nat×Bool)} {s b:Nat} {z1:Option (List Value)} {cs:List C}:Vy ⟨.struct fs,s,b,z1⟩ cs K ⟨⟩=(s<=cs.length/\K (.agg (cs.take s))):=(show JZ ⟨.struct fs,s,b,z1⟩ cs K=(s<=cs.length/\K (.agg (cs.take s))) from by simp[JZ,LK.agg])
theorem zav {ik:IntKind} {s b:Nat} {z1:Option (List Value)} {r:List C}:Vy ⟨.int ik,s,b,z1⟩ (c :: r) K ⟨⟩=K c:=(show JZ ⟨.int ik,s,b,z1⟩ (c :: r) K=K c from by simp[JZ,LK.agg])
theorem xQ {s b:Nat} {z1:Option (List Value)} {r:List C}:Vy ⟨.bool,s,b,z1⟩ (c :: r) K ⟨⟩=K c:=(show JZ ⟨.bool,s,b,z1⟩ (c :: r) K=K c from by simp[JZ,LK.agg])
theorem zch {s b:Nat} {z1:Option (List Value)} {r:List C}:Vy ⟨.str,s,b,z1⟩ (c :: r) K ⟨⟩=K c:=(show JZ ⟨.str,s,b,z1⟩ (c :: r) K=K c from by simp[JZ,LK.agg])
theorem Mf {e:TypeId} {s b:Nat} {z1:Option (List Value)} {r:List C}:Vy ⟨.slice e,s,b,z1⟩ (c :: r) K ⟨⟩=K c:=(show JZ ⟨.slice e,s,b,z1⟩ (c :: r) K=K c from by simp[JZ,LK.agg])
theorem N6 {s b:Nat} {z1:Option (List Value)} {r:List C}:Vy ⟨.other,s,b,z1⟩ (c :: r) K ⟨⟩=K c:=(show JZ ⟨.other,s,b,z1⟩ (c :: r) K=K c from by simp[JZ,LK.agg])
theorem zlu {f:Nat}:vv P t c f K ⟨⟩=uQ (lay P t) c f K ⟨⟩:=(rfl)
theorem zhI {fs:List (Nat×Nat×Bool)} {s b:Nat} {z1:Option (List Value)} {cs:List C} {f:Nat}:uQ (some ⟨.struct fs,s,b,z1⟩) (.agg cs) f K ⟨⟩=uI (fs[f]?) cs K ⟨⟩:=(show vd (some ⟨.struct fs,s,b,z1⟩) (.agg cs) f K=kC (fs[f]?) cs K from by unfold vd kC;simp only[];cases fs[f]?<;>simp)
theorem zeY {off size:Nat} {cs:List C}:uI (some (off,size,false)) cs K ⟨⟩=zlE (cs[off]?) K ⟨⟩:=(show kC (some (off,size,false)) cs K=zqM (cs[off]?) K from by unfold kC zqM;simp)
theorem zsf {f:Nat}:QO P t c f K ⟨⟩=zpF (lay P t) c f K ⟨⟩:=(rfl)
theorem zqC {fs:List (Nat×Nat×Bool)} {s b:Nat} {z1:Option (List Value)} {f:Nat}:zpF (some ⟨.struct fs,s,b,z1⟩) c f K ⟨⟩=zme (fs[f]?) c K ⟨⟩:=(rfl)
theorem ziX {off size i q:Nat} {g:Bool}:zme (some (off,size+1,g)) (.ptr i q) K ⟨⟩=K (.ptr i (q+off)):=(show zo5 (some (off,size+1,g)) (.ptr i q) K=K (.ptr i (q+off)) from by simp[zo5])
theorem zjS {off size:Nat} {g:Bool} {cs:List C}:zme (some (off,size+1,g)) (.row cs) K ⟨⟩=K (.row (cs.drop off)):=(show zo5 (some (off,size+1,g)) (.row cs) K=K (.row (cs.drop off)) from by simp[zo5])
theorem zsV:QR P t c d K ⟨⟩=zmB P (lay P t) c d K ⟨⟩:=(rfl)
theorem zaP {e s b:Nat} {z1:Option (List Value)} {k:IntKind} {n:Int}:zmB P (some ⟨.slice e,s,b,z1⟩) c (.sc (.int k n)) K ⟨⟩=zhn (lay P e) c n K ⟨⟩:=(rfl)
theorem zaz {m e s b:Nat} {z1:Option (List Value)} {k:IntKind} {n:Int}:zmB P (some ⟨.array (m+1) e,s,b,z1⟩) c (.sc (.int k n)) K ⟨⟩=zpn (lay P e) c m n K ⟨⟩:=(rfl)
theorem zfs {k:Nat} {rows:List (List C)} {L:Lay} {n:Int}:zhn (some L) (.sl k rows) n K ⟨⟩=zmg (C.rows? L.size (.sl k rows)) n K ⟨⟩:=(rfl)
theorem zfF {k:Nat} {rows:List (List C)} {L:Lay} {lo hi mx:Option Int}:zfU (some L) (.sl k rows) lo hi mx K ⟨⟩=zjL (C.rows? L.size (.sl k rows)) L.size lo hi mx K ⟨⟩:=(rfl)
theorem za4 {id e k:Nat} {rows:List (List C)} {L:Lay} {n:Int}:zhn (some L) (.own id e k rows) n K ⟨⟩=zmg (C.rows? L.size (.own id e k rows)) n K ⟨⟩:=(rfl)
theorem zay {id e k:Nat} {rows:List (List C)} {L:Lay} {lo hi mx:Option Int}:zfU (some L) (.own id e k rows) lo hi mx K ⟨⟩=zjL (C.rows? L.size (.own id e k rows)) L.size lo hi mx K ⟨⟩:=(rfl)
theorem yH {id e k:Nat} {rows:List (List C)} :yv P bx t t' (.own id e k rows) K ⟨⟩=zeI P t t' (.own id e k rows) K ⟨⟩:=(rfl)
theorem zcj {L:Lay} {lo hi mx:Option Int}:zfU (some L) (.sc (.slice none 0 0)) lo hi mx K ⟨⟩=znF L.size lo hi mx K ⟨⟩:=(rfl)
theorem zrM {k:Nat} {lo hi:Option Int}:znF k lo hi none K ⟨⟩=(jR 0 lo hi/\K (.sc (.slice none 0 0))):=(rfl)
theorem zcv {v:Value} :yv P bx t t' (.sc v) K ⟨⟩=zeI P t t' (.sc v) K ⟨⟩:=(rfl)
theorem zgs {L:Lay} {n:Int} {j off k m1 cap:Nat}:zhn (some L) (.bs j off k m1 cap) n K ⟨⟩=(k=L.size/\0<=n/\n<(m1:Int)/\K (.ptr j (off+n.toNat*L.size))):=(rfl)
theorem zc7 {L:Lay} {lo hi mx:Option Int} {i off k n cap:Nat}:zfU (some L) (.bs i off k n cap) lo hi mx K ⟨⟩=zcT L.size i off k n cap lo hi mx K ⟨⟩:=(rfl)
theorem zi4 {b:Int} {sz i off k n cap:Nat}:zcT sz i off k n cap none (some b) none K ⟨⟩=(n<=cap/\(0<=b/\b<=(cap:Int))/\K (.bs i off k b.toNat cap)):=(rfl)
theorem zh2 {a:Int} {sz i off k n cap:Nat}:zcT sz i off k n cap (some a) none none K ⟨⟩=(sz=k/\n<=cap/\(0<=a/\a<=(n:Int))/\K (.bs i (off+a.toNat*k) k (n-a.toNat) (cap-a.toNat))):=(rfl)
theorem zjG {a b:Int} {sz i off k n cap:Nat}:zcT sz i off k n cap (some a) (some b) none K ⟨⟩=(sz=k/\(0<=a/\a<=b/\b<=(cap:Int))/\K (.bs i (off+a.toNat*k) k (b.toNat-a.toNat) (cap-a.toNat))):=(rfl)
theorem zhi {a b m1:Int} {sz i off k n cap:Nat}:zcT sz i off k n cap (some a) (some b) (some m1) K ⟨⟩=(sz=k/\(0<=a/\a<=b/\b<=m1/\m1<=(cap:Int))/\K (.bs i (off+a.toNat*k) k (b.toNat-a.toNat) (m1.toNat-a.toNat))):=(rfl)
theorem zi7 {i off k n cap:Nat}:yu P t (.bs i off k n cap) K ⟨⟩=Ml (lay P t) (n:Int) K ⟨⟩:=(rfl)
theorem zst {n:Nat} {ps:List (Nat×C)}:Hh P t n ps ⟨tm,bx,nx,lg⟩ K3 ⟨⟩=zpb P (lay P t) n ps ⟨tm,bx,nx,lg⟩ K3 ⟨⟩:=(rfl)
theorem zrD {e s b n:Nat} {z1:Option (List Value)} {ps:List (Nat×C)}:zpb P (some ⟨.slice e,s,b,z1⟩) n ps σ K3 ⟨⟩=zpf (lay P e) n ps σ K3 ⟨⟩:=(rfl)
theorem zqV {kd:LK} {k b n:Nat} {z1:List Value} {ps:List (Nat×C)}:zpf (some ⟨kd,k,b,some z1⟩) n ps σ K3 ⟨⟩=(z1.length=k/\0<k/\n*k<=16777216/\(ps.all fun p=>p.2.frz.partB)=true/\zqn (YV (plA k) (List.replicate n (z1.map zA)).flatten (ps.map fun p=>(p.1,p.2.frz))) k n σ K3 ⟨⟩):=(rfl)
theorem zq2 {cs:List C} {k n:Nat}:zqn (some cs) k n ⟨tm,bx,nx,lg⟩ K3 ⟨⟩=((cs.all C.cellB)=true/\cs.length=n*k/\K3 (.bs bx.length 0 k n n) ⟨tm,bx++[cs],nx,lg⟩):=(rfl)
theorem zs4:uF P p t c d ⟨tm,bx,nx,lg⟩ K3 ⟨⟩=zo8 P (lay P t) p c d ⟨tm,bx,nx,lg⟩ K3 ⟨⟩:=(rfl)
theorem zq7 {e s b:Nat} {z1:Option (List Value)}:zo8 P (some ⟨.slice e,s,b,z1⟩) p c d σ K3 ⟨⟩=zo3 (lay P e) p c d σ K3 ⟨⟩:=(rfl)
theorem zrs {kd:LK} {k b:Nat} {z1:List Value}:zo3 (some ⟨kd,k,b,some z1⟩) p c d ⟨tm,bx,nx,lg⟩ K3 ⟨⟩=zoz (d.xs? k bx) p k b z1 c ⟨tm,bx,nx,lg⟩ K3 ⟨⟩:=(rfl)
theorem zmF {i off k k2 n cap:Nat}:C.xs? k bx (.bs i off k2 n cap)=xsB k2 k off n (bx[i]?):=(rfl)
theorem zqb {k off n:Nat} {cs:List C}:xsB k k off n (some cs)=if off+n*k<=cs.length then some (n,(cs.drop off).take (n*k)) else none:=(show xsB k k off n (some cs)=if off+n*k<=cs.length then some (n,(cs.drop off).take (n*k)) else none from by simp[xsB])
theorem zk4 {i:Nat} {cs:List C}:Zv i cs bx=(Ni (JQ i) some bx).set i cs:=(rfl)
theorem zmO {i j:Nat}:JQ i j=if j=i then none else some j:=(rfl)
theorem zjM {i off k n cap:Nat}:C.frz (.bs i off k n cap) = .any:=(show C.frz (.bs i off k n cap) = .any from by rw[C.frz])
theorem zkU {i off k n cap:Nat} {fp fo:Nat->Option Nat}:C.re fp fo (.bs i off k n cap)=bsO (fp i) off k n cap:=(show C.re fp fo (.bs i off k n cap)=bsO (fp i) off k n cap from by rw[C.re];rfl)
theorem zoY {j off k n cap:Nat}:bsO (some j) off k n cap = .bs j off k n cap:=(rfl)
theorem zoj {off k n cap:Nat}:bsO none off k n cap = .any:=(rfl)
theorem zbi {i off k n cap:Nat}:C.cellB (.bs i off k n cap)=true:=(rfl)
theorem zaO {i off k n cap:Nat}:C.partB (.bs i off k n cap)=true:=(rfl)
theorem zbP {i off k n cap:Nat}:C.cells (.bs i off k n cap) = [.bs i off k n cap]:=(rfl)
theorem znP {rows:List (List C)} {n:Int}:zmg (some rows) n K ⟨⟩=zsb (rows[n.toNat]?) n K ⟨⟩:=(rfl)
theorem zsO {r:List C} {n:Int}:zsb (some r) n K ⟨⟩=(0<=n/\K (.row r)):=(rfl)
theorem zmx {L:Lay} {m:Nat} {n:Int} {cs:List C}:zpn (some L) (.row cs) m n K ⟨⟩=(0<=n/\n<((m+1:Nat):Int)/\K (.row (cs.drop (n.toNat*L.size)))):=(rfl)
theorem zsj:yS P t c d K ⟨⟩=znU (lay P t) c d K ⟨⟩:=(rfl)
theorem zqI {s b:Nat} {z1:Option (List Value)} {l:List UInt8} {k:IntKind} {n:Int}:znU (some ⟨.str,s,b,z1⟩) (.str l) (.sc (.int k n)) K ⟨⟩=zkA (l[n.toNat]?) n K ⟨⟩:=(show zqF (some ⟨.str,s,b,z1⟩) (.str l) (.sc (.int k n)) K=zmr (l[n.toNat]?) n K from by unfold zqF zmr;simp)
theorem znN {b:UInt8} {n:Int}:zkA (some b) n K ⟨⟩=(0<=n/\K (.sc (.int .u8 (b.toNat:Int)))):=(rfl)
theorem zsH {lo hi mx:Option C}:vc P t c lo hi mx K ⟨⟩=zpJ P t c (zab lo) (zab hi) (zab mx) K ⟨⟩:=(rfl)
theorem zrK {lo hi mx:Option Int}:zpJ P t c (some lo) (some hi) (some mx) K ⟨⟩=zm8 P (lay P t) c lo hi mx K ⟨⟩:=(rfl)
theorem zbC:zab none=some none:=(rfl)
theorem zfW {k:IntKind} {n:Int}:zab (some (.sc (.int k n)))=some (some n):=(rfl)
theorem zjv {s b:Nat} {z1:Option (List Value)} {l:List UInt8} {lo hi:Option Int}:zm8 P (some ⟨.str,s,b,z1⟩) (.str l) lo hi none K ⟨⟩=(jR l.length lo hi/\K (.str (cut l lo hi))):=(rfl)
theorem zbB {e s b:Nat} {z1:Option (List Value)} {lo hi mx:Option Int}:zm8 P (some ⟨.slice e,s,b,z1⟩) c lo hi mx K ⟨⟩=zfU (lay P e) c lo hi mx K ⟨⟩:=(rfl)
theorem zoq {rows:List (List C)} {k:Nat} {lo hi:Option Int}:zjL (some rows) k lo hi none K ⟨⟩=(jR rows.length lo hi/\K (.sl k (cut rows lo hi))):=(rfl)
theorem zos {rows:List (List C)} {k:Nat} {lo:Option Int} {h m:Int}:zjL (some rows) k lo (some h) (some m) K ⟨⟩=(m=h/\jR rows.length lo (some h)/\K (.tight k (cut rows lo (some h)))):=(rfl)
theorem zjQ {α:Type} {l:List α} {a:Int}:cut l (some a) none=l.drop a.toNat:=(rfl)
theorem ziB {α:Type} {l:List α} {b:Int}:cut l none (some b)=l.take b.toNat:=(rfl)
theorem zji {α:Type} {l:List α} {a b:Int}:cut l (some a) (some b)=(l.take b.toNat).drop a.toNat:=(rfl)
theorem zbH {n:Nat} {a:Int}:jR n (some a) none=(0<=a/\a<=(n:Int)):=(rfl)
theorem zaS {n:Nat} {b:Int}:jR n none (some b)=(0<=b/\b<=(n:Int)):=(rfl)
theorem zbg {n:Nat} {a b:Int}:jR n (some a) (some b)=(0<=a/\a<=b/\b<=(n:Int)):=(rfl)
theorem zgD {k:Nat} {rows:List (List C)}:C.rows? k (.sl k rows)=some rows:=(show C.rows? k (.sl k rows)=some rows from by simp[C.rows?])
theorem zcA {id e:Nat} {k:Nat} {rows:List (List C)}:C.rows? k (.own id e k rows)=some rows:=(show C.rows? k (.own id e k rows)=some rows from by simp[C.rows?])
theorem zpz:zeI P t t' c K ⟨⟩=zhO P (lay P t') (lay P t) c K ⟨⟩:=(rfl)
theorem zbA {k k0:IntKind} {n:Int} {s b:Nat} {z1:Option (List Value)} {L:Lay}:zhO P (some ⟨.int k,s,b,z1⟩) (some L) (.sc (.int k0 n)) K ⟨⟩=(inR k n/\K (.sc (.int k n))):=(rfl)
theorem zjd {s b s2 b2:Nat} {z1 z2:Option (List Value)} {k k0:IntKind} {n:Int}:zhO P (some ⟨.str,s,b,z1⟩) (some ⟨.int k,s2,b2,z2⟩) (.sc (.int k0 n)) K ⟨⟩=K (.str (Utf8.encode n).data.toList):=(rfl)
theorem zhr {e s b s2 b2:Nat} {z1 z2:Option (List Value)}:zhO P (some ⟨.str,s,b,z1⟩) (some ⟨.slice e,s2,b2,z2⟩) c K ⟨⟩=zpc (lay P e) c K ⟨⟩:=(rfl)
theorem zcZ {s b:Nat} {z1:Option (List Value)}:zpc (some ⟨.int .u8,s,b,z1⟩) c K ⟨⟩=zlz (c.rows? 1) K ⟨⟩:=(rfl)
theorem zeJ {l:List UInt8}:yu P t (.str l) K ⟨⟩=zkk (lay P t) (l.length:Int) K ⟨⟩:=(rfl)
theorem zg2 {k:Nat} {rows:List (List C)}:yu P t (.sl k rows) K ⟨⟩=Ml (lay P t) (rows.length:Int) K ⟨⟩:=(rfl)
theorem zdM {id e:Nat} {k:Nat} {rows:List (List C)}:yu P t (.own id e k rows) K ⟨⟩=Ml (lay P t) (rows.length:Int) K ⟨⟩:=(rfl)
theorem zd7:yu P t (.sc (.slice none 0 0)) K ⟨⟩=Ml (lay P t) 0 K ⟨⟩:=(rfl)
theorem zoZ {e s b:Nat} {z1:Option (List Value)} {n:Int}:Ml (some ⟨.slice e,s,b,z1⟩) n K ⟨⟩=K (.sc (.int .i64 n)):=(rfl)
theorem zok {s b:Nat} {z1:Option (List Value)} {n:Int}:zkk (some ⟨.str,s,b,z1⟩) n K ⟨⟩=K (.sc (.int .i64 n)):=(rfl)
theorem zm2 {ps:List (Nat×C)}:x7 P t ps K ⟨⟩=zpC (lay P t) ps K ⟨⟩:=(rfl)
theorem zhE {fs:List (Nat×Nat×Bool)} {s b:Nat} {z1:List Value} {ps:List (Nat×C)}:zpC (some ⟨.struct fs,s,b,some z1⟩) ps K ⟨⟩=((ps.all fun p=>p.2.partB)=true/\zr4 (YV (plS fs) (z1.map zA) ps) K ⟨⟩):=(show zrJ (some ⟨.struct fs,s,b,some z1⟩) ps K=((ps.all fun p=>p.2.partB)=true/\aFl (YV (plS fs) (z1.map zA) ps) K) from by unfold zrJ aFl;simp only[];rfl)
theorem zs5 {cs:List C}:zr4 (some cs) K ⟨⟩=K (.agg cs):=(rfl)
theorem zmJ {place:Nat->Option (Nat×Nat)} {cs:List C}:YV place cs []=some cs:=(rfl)
theorem zpT {place:Nat->Option (Nat×Nat)} {cs:List C} {i:Nat} {rest:List (Nat×C)}:YV place cs ((i,c) :: rest)=zj4 (place i) place cs c.cells rest:=(rfl)
theorem zkN {place:Nat->Option (Nat×Nat)} {cs l:List C} {off size:Nat} {rest:List (Nat×C)}:zj4 (some (off,size)) place cs l rest=(if l.length=size/\off+size<=cs.length then YV place (cs.take off++l++cs.drop (off+size)) rest else none):=(rfl)
theorem zrd {fs:List (Nat×Nat×Bool)} {i:Nat}:plS fs i=(fs[i]?).map fun f=>(f.1,f.2.1):=(rfl)
theorem zrA {k i:Nat}:plA k i=some (i*k,k):=(rfl)
theorem zsA {n:Nat} {ps:List (Nat×C)}:XW P t n ps nx K2 ⟨⟩=zod P (lay P t) n ps nx K2 ⟨⟩:=(rfl)
theorem zqO {e s b n:Nat} {z1:Option (List Value)} {ps:List (Nat×C)}:zod P (some ⟨.slice e,s,b,z1⟩) n ps nx K2 ⟨⟩=zpx (lay P e) e n ps nx K2 ⟨⟩:=(rfl)
theorem zrU {kd:LK} {k b e n:Nat} {z1:List Value} {ps:List (Nat×C)}:zpx (some ⟨kd,k,b,some z1⟩) e n ps nx K2 ⟨⟩=(z1.length=k/\0<k/\n*k<=16777216/\(ps.all fun p=>p.2.frz.partB)=true/\zo9 (YV (plA k) (List.replicate n (z1.map zA)).flatten (ps.map fun p=>(p.1,p.2.frz))) e k n nx K2 ⟨⟩):=(rfl)
theorem zqG {cs:List C} {e k n:Nat}:zo9 (some cs) e k n nx K2 ⟨⟩=((cs.all C.cellB)=true/\cs.length=n*k/\K2 (.own nx e k (Qt k n cs)) (nx+1)):=(rfl)
theorem zq9:ME P t c d ⟨tm,bx,nx,lg⟩ K3 ⟨⟩=zkw P (lay P t) c d ⟨tm,bx,nx,lg⟩ K3 ⟨⟩:=(rfl)
theorem zoA {e s b:Nat} {z1:Option (List Value)} {k k2:IntKind} {l m:Int}:zkw P (some ⟨.slice e,s,b,z1⟩) (.sc (.int k l)) (.sc (.int k2 m)) ⟨tm,bx,nx,lg⟩ K3 ⟨⟩=zj6 (lay P e) l m ⟨tm,bx,nx,lg⟩ K3 ⟨⟩:=(rfl)
theorem zpQ {kd:LK} {k b:Nat} {z1:List Value} {l m:Int}:zj6 (some ⟨kd,k,b,some z1⟩) l m ⟨tm,bx,nx,lg⟩ K3 ⟨⟩=(z1.length=k/\0<k/\(z1.all Value.oneCell')=true/\0<=l/\l<=m/\(b:Int)*m<=281474976710656/\m<=9223372036854775807/\K3 (.bs bx.length 0 k l.toNat m.toNat) ⟨tm,bx++[(List.replicate m.toNat (z1.map zA)).flatten],nx,lg⟩):=(rfl)
theorem zs1:zkg P t c d nx K2 ⟨⟩=zoe P (lay P t) c d nx K2 ⟨⟩:=(rfl)
theorem zrR {e s b:Nat} {z1:Option (List Value)} {k k2:IntKind} {l m:Int}:zoe P (some ⟨.slice e,s,b,z1⟩) (.sc (.int k l)) (.sc (.int k2 m)) nx K2 ⟨⟩=zoJ (lay P e) e l m nx K2 ⟨⟩:=(rfl)
theorem zr1 {kd:LK} {k b e:Nat} {z1:List Value} {l m:Int}:zoJ (some ⟨kd,k,b,some z1⟩) e l m nx K2 ⟨⟩=(z1.length=k/\0<k/\(z1.all Value.oneCell')=true/\0<=l/\l<=m/\(b:Int)*m<=281474976710656/\m<=9223372036854775807/\K2 (.own nx e k (List.replicate l.toNat (z1.map zA))) (nx+1)):=(rfl)
theorem zd4 {id e k:Nat} {rows:List (List C)}:G8 P t (.own id e k rows) d ⟨tm,bx,nx,lg⟩ K3 ⟨⟩=zpq P (lay P t) id e k rows d ⟨tm,bx,nx,lg⟩ K3 ⟨⟩:=(rfl)
theorem zgH:G8 P t (.sc (.slice none 0 0)) d ⟨tm,bx,nx,lg⟩ K3 ⟨⟩=GY P t (.sc (.slice none 0 0)) d nx (fun c nx'=>K3 c ⟨tm,bx,nx',lg⟩) ⟨⟩:=(rfl)
theorem zpo:GY P t c d nx K2 ⟨⟩=zoU P (lay P t) c d nx K2 ⟨⟩:=(rfl)
theorem zre {e s b:Nat} {z1:Option (List Value)}:zoU P (some ⟨.slice e,s,b,z1⟩) c d nx K2 ⟨⟩=zqk (lay P e) e c d nx K2 ⟨⟩:=(rfl)
theorem zqY {kd:LK} {k b e:Nat} {z1:List Value}:zqk (some ⟨kd,k,b,some z1⟩) e c d nx K2 ⟨⟩=zm9 (d.rows? k) c e k b z1 nx K2 ⟨⟩:=(rfl)
theorem zoI {k b e:Nat} {z1:List Value} {xs:List (List C)}:zm9 (some xs) (.sc (.slice none 0 0)) e k b z1 nx K2 ⟨⟩=(z1.length=k/\0<k/\xs.length<=9223372036854775807/\xs.length*b<=140737488355328/\K2 (.own nx e k xs) (nx+1)):=(rfl)
theorem zpN {k k0 b e:Nat} {z1:List Value} {xs rows:List (List C)}:zm9 (some xs) (.tight k0 rows) e k b z1 nx K2 ⟨⟩=(k0=k/\z1.length=k/\0<k/\rows.length+xs.length<=9223372036854775807/\(rows.length+xs.length)*b<=140737488355328/\(xs = []->K2 (.tight k0 rows) nx)/\(¬xs = []->K2 (.own nx e k (rows++xs)) (nx+1))):=(rfl)
theorem zjO {a b:Nat} (h:Nat.ble a b=true):a<=b:=Nat.le_of_ble_eq_true h
theorem lS:(∀ {α:Type} (a b:List α),(a++b).length=a.length+b.length)/\(∀ {α:Type} (a:α) (b:List α),(a :: b).length=b.length+1)/\(∀ {α:Type},([]:List α).length=0)/\(∀ {α β:Type} (f:α->β) (l:List α),(l.map f).length=l.length)/\(∀ {α:Type} (n:Nat) (l:List α),(l.take n).length=min n l.length)/\∀ {α:Type} (n:Nat) (l:List α),(l.drop n).length=l.length-n:=⟨fun _ _=>List.length_append,fun _ _=>List.length_cons,List.length_nil,fun _ _=>List.length_map _,fun _ _=>List.length_take,fun _ _=>List.length_drop⟩
theorem zrc {α:Type} {x:α} {l:List α}:((x :: l) = [])=False:=by simp
theorem zsN {p:Prop}:(True->p)=p:=by simp
theorem zso {p:Prop}:(False->p)=True:=by simp
theorem zsg:(¬False)=True:=by simp
theorem zq4 {e0 s b id e k:Nat} {z1:Option (List Value)} {rows:List (List C)}:zpq P (some ⟨.slice e0,s,b,z1⟩) id e k rows c σ K3 ⟨⟩=zoN (lay P e) e0 id e k rows c σ K3 ⟨⟩:=(rfl)
theorem zqN {kd:LK} {k0 b e0 id e k:Nat} {z1:List Value} {rows:List (List C)}:zoN (some ⟨kd,k0,b,some z1⟩) e0 id e k rows c σ K3 ⟨⟩=(e0=e/\k0=k/\z1.length=k/\0<k/\zql (c.rows? k) b id e k rows σ K3 ⟨⟩):=(show zrf (some ⟨kd,k0,b,some z1⟩) e0 id e k rows c σ K3=(e0=e/\k0=k/\z1.length=k/\0<k/\zrS (c.rows? k) b id e k rows σ K3) from by unfold zrf zrS;simp only[];cases c.rows? k<;>simp)
theorem zrX {xs rows:List (List C)} {b id e k:Nat}:zql (some xs) b id e k rows ⟨tm,bx,nx,lg⟩ K3 ⟨⟩=(rows.length+xs.length<=9223372036854775807/\(rows.length+xs.length)*b<=140737488355328/\K3 (.own id e k (rows++xs)) ⟨zbl id tm,xA id bx,nx,lg⟩):=(rfl)
theorem zk6 {f:FuncId} {fs cs args:List C}:xZ P G h (.clo (.func f) fs cs) args ⟨tm,bx,nx,lg⟩ K3 ⟨⟩ ⟨⟩=QH P G f (fs++args++cs) (C.frzL (fs++args++cs)) ⟨tm,bx,nx,lg⟩ K3 ⟨⟩:=(rfl)
theorem zln {l:Nat} {items:List (List C)} {sf:Nat->Bool} {args:List C}:xZ P G ⟨p,some ⟨l,items,sf⟩,bf⟩ (.sc (.func (.yield l) #[] #[])) args ⟨tm,bx,nx,lg⟩ K3 ⟨⟩ ⟨⟩=uO ⟨l,items,sf⟩ (items[lg]?) args ⟨tm,bx,nx,lg⟩ K3 ⟨⟩ ⟨⟩:=(show xo P G ⟨p,some ⟨l,items,sf⟩,bf⟩ (.sc (.func (.yield l) #[] #[])) args ⟨tm,bx,nx,lg⟩ K3=H8 ⟨l,items,sf⟩ (items[lg]?) args ⟨tm,bx,nx,lg⟩ K3 from by simp[xo,vW])
theorem zg4 {l:Nat} {items:List (List C)} {sf:Nat->Bool} {args it:List C}:uO ⟨l,items,sf⟩ (some it) args ⟨tm,bx,nx,lg⟩ K3 ⟨⟩ ⟨⟩=(zg [] 0 args it/\(∀ j,j<lg->sf j=false)/\K3 (.sc (.bool (!sf lg))) ⟨tm,bx,nx,lg+1⟩):=(rfl)
theorem zpi {ι:List Nat} {j:Nat}:upB ι m j=match ι[j]? with | some i=>some i | none=>some (m+(j-ι.length)):=(rfl)
theorem zrH {i:Nat}:Xr [] i=none:=(rfl)
theorem zrE {x1 i:Nat} {r:List Nat}:Xr (x1 :: r) i=if i=x1 then some 0 else (Xr r i).map (·+1):=(rfl)
theorem zm0 {fp fo:Nat->Option Nat}:k9 fp fo [] = []:=(rfl)
theorem zoO {fp fo:Nat->Option Nat} {u:Nat} {r:List (Nat×C)}:k9 fp fo ((u,c) :: r)=(u,c.re fp fo) :: k9 fp fo r:=(rfl)
theorem zk0 {fp fo:Nat->Option Nat}:Ni fp fo [] = []:=(rfl)
theorem zqf {fp fo:Nat->Option Nat} {cs:List C} {r:List (List C)}:Ni fp fo (cs :: r)=C.reL fp fo cs :: Ni fp fo r:=(rfl)
theorem ziZ {l:List (List C)}:ZO [] l bx=bx:=(rfl)
theorem zhm {i:Nat} {ι:List Nat} {cs:List C} {r:List (List C)}:ZO (i :: ι) (cs :: r) bx=ZO ι r (bx.set i cs):=(rfl)
theorem ziz {ι κ:List Nat} {n:Nat}:ZK ι κ bx' n ⟨tm,bx,nx,lg⟩=⟨k9 some (ZH κ) tm,ZO ι (Ni (upB ι bx.length) (upO nx) bx') (Ni some (ZH κ) bx)++Ni (upB ι bx.length) (upO nx) (bx'.drop ι.length),nx+n,lg⟩:=(rfl)
theorem znb {κ:List Nat} {i:Nat}:ZH κ i=if i∈κ then none else some i:=(rfl)
theorem zhg {i:Nat}:HM m i=if i<m then some i else none:=(rfl)
theorem zjc {i:Nat}:YX m i=if i<m then none else some (i-m):=(rfl)
theorem zl0 {f:FuncId} {fs cs args:List C}:zcK P G (.clo (.func f) fs cs) args nx K2 ⟨⟩=yZ P G f (C.frzL (fs++args++cs)) nx K2 ⟨⟩:=(rfl)
theorem zq3 {kd:LK} {s b:Nat} {z1:List Value}:zo2 (some ⟨kd,s,b,some z1⟩) ⟨tm,bx,nx,lg⟩ K3 ⟨⟩=((z1.all Value.oneCell')=true/\K3 (.ptr bx.length 0) ⟨tm,bx++[z1.map zA],nx,lg⟩):=(rfl)
theorem zrg:zob c ⟨tm,bx,nx,lg⟩ K3 ⟨⟩=(c.partB=true/\(c.cells.all C.cellB)=true/\K3 (.ptr bx.length 0) ⟨tm,bx++[c.cells],nx,lg⟩):=(rfl)
theorem zrT {L:Lay} {i off:Nat}:znY (some L) (.ptr i off) c ⟨tm,bx,nx,lg⟩ K3 ⟨⟩=zpD (bx[i]?) i off L.size c ⟨tm,bx,nx,lg⟩ K3 ⟨⟩:=(rfl)
theorem zrk {cs:List C} {i off size:Nat}:zpD (some cs) i off size c ⟨tm,bx,nx,lg⟩ K3 ⟨⟩=(c.partB=true/\(c.cells.all C.cellB)=true/\c.cells.length=size/\off+size<=cs.length/\K3 .any ⟨tm,bx.set i (cs.take off++c.cells++cs.drop (off+size)),nx,lg⟩):=(rfl)
theorem zg1 {v:Value}:C.frz (.sc v) = .sc v:=(show C.frz (.sc v) = .sc v from by rw[C.frz])
theorem zl2 {v:Value} {id:Nat}:C.dg id (.sc v) = .sc v:=(show C.dg id (.sc v) = .sc v from by rw[C.dg])
theorem zmC {v:Value} {n:Nat}:C.sh n (.sc v) = .sc v:=(show C.sh n (.sc v) = .sc v from by rw[C.sh])
theorem zgm {l:List UInt8}:C.frz (.str l) = .str l:=(show C.frz (.str l) = .str l from by rw[C.frz])
theorem ziL {l:List UInt8} {id:Nat}:C.dg id (.str l) = .str l:=(show C.dg id (.str l) = .str l from by rw[C.dg])
theorem ziM {l:List UInt8} {n:Nat}:C.sh n (.str l) = .str l:=(show C.sh n (.str l) = .str l from by rw[C.sh])
theorem zgV {k:Nat} {rows:List (List C)}:C.frz (.sl k rows) = .sl k rows:=(show C.frz (.sl k rows) = .sl k rows from by rw[C.frz])
theorem zmm {k:Nat} {rows:List (List C)} {id:Nat}:C.dg id (.sl k rows) = .sl k rows:=(show C.dg id (.sl k rows) = .sl k rows from by rw[C.dg])
theorem zlx {k:Nat} {rows:List (List C)} {n:Nat}:C.sh n (.sl k rows) = .sl k rows:=(show C.sh n (.sl k rows) = .sl k rows from by rw[C.sh])
theorem zeT {cs:List C}:C.frz (.row cs) = .row cs:=(show C.frz (.row cs) = .row cs from by rw[C.frz])
theorem ziN {cs:List C} {id:Nat}:C.dg id (.row cs) = .row cs:=(show C.dg id (.row cs) = .row cs from by rw[C.dg])
theorem ziV {cs:List C} {n:Nat}:C.sh n (.row cs) = .row cs:=(show C.sh n (.row cs) = .row cs from by rw[C.sh])
theorem zgY {id:Nat}:C.dg id (.any) = .any:=(show C.dg id (.any) = .any from by rw[C.dg])
theorem zjl {n:Nat}:C.sh n (.any) = .any:=(show C.sh n (.any) = .any from by rw[C.sh])
theorem zlB {i:Nat} {t2:TypeId} {ks:MK} {vs:List C} {n:Nat}:C.sh n (.mo i t2 ks vs) = .mo (n+i) t2 ks vs:=(show C.sh n (.mo i t2 ks vs) = .mo (n+i) t2 ks vs from by rw[C.sh])
theorem zkS {i:Nat} {t2:TypeId} {ks:MK} {vs:List C}:C.fz bx (.mo i t2 ks vs) = .mo i t2 ks vs:=(show C.fz bx (.mo i t2 ks vs) = .mo i t2 ks vs from by rw[C.fz])
theorem zlk {v:Value} {id:Nat} {ks1:MK} {vs1:List C}:C.up id ks1 vs1 (.sc v) = .sc v:=(show C.up id ks1 vs1 (.sc v) = .sc v from by rw[C.up])
theorem zmQ {i:Nat} {t2:TypeId} {ks:MK} {vs:List C} {id:Nat} {ks1:MK} {vs1:List C}:C.up id ks1 vs1 (.mo i t2 ks vs)=if i=id then .mo i t2 ks1 vs1 else .mo i t2 ks vs:=(show C.up id ks1 vs1 (.mo i t2 ks vs)=if i=id then .mo i t2 ks1 vs1 else .mo i t2 ks vs from by rw[C.up])
theorem zba {id:Nat} {ks1:MK} {vs1:List C}:zgR id ks1 vs1 [] = []:=(rfl)
theorem zop {u:Nat} {r:List (Nat×C)} {id:Nat} {ks1:MK} {vs1:List C}:zgR id ks1 vs1 ((u,c) :: r)=(u,c.up id ks1 vs1) :: zgR id ks1 vs1 r:=(rfl)
theorem zcp {id:Nat} {ks1:MK} {vs1:List C}:zdj id ks1 vs1 [] = []:=(rfl)
theorem zdb {id e k:Nat} {rows:List (List C)}:C.frz (.own id e k rows) = .sl k rows:=(show C.frz (.own id e k rows) = .sl k rows from by rw[C.frz])
theorem zeX {i off:Nat}:C.frz (.ptr i off) = .any:=(show C.frz (.ptr i off) = .any from by rw[C.frz])
theorem zhT {id i off:Nat}:C.dg id (.ptr i off) = .ptr i off:=(show C.dg id (.ptr i off) = .ptr i off from by rw[C.dg])
theorem zj1 {id i e k:Nat} {rows:List (List C)}:C.dg id (.own i e k rows)=if i=id then .sl k rows else .own i e k rows:=(show C.dg id (.own i e k rows)=if i=id then .sl k rows else .own i e k rows from by rw[C.dg])
theorem zhz {n i e k:Nat} {rows:List (List C)}:C.sh n (.own i e k rows) = .own (n+i) e k rows:=(show C.sh n (.own i e k rows) = .own (n+i) e k rows from by rw[C.sh])
theorem zlr {v:Value} {fp fo:Nat->Option Nat}:C.re fp fo (.sc v) = .sc v:=(show C.re fp fo (.sc v) = .sc v from by rw[C.re])
theorem ziQ {v:Value} {fp:Nat->Option Nat}:C.sel fp (.sc v) = .sc v:=(show C.sel fp (.sc v) = .sc v from by rw[C.sel])
theorem zhG {l:List UInt8} {fp fo:Nat->Option Nat}:C.re fp fo (.str l) = .str l:=(show C.re fp fo (.str l) = .str l from by rw[C.re])
theorem zem {l:List UInt8} {fp:Nat->Option Nat}:C.sel fp (.str l) = .str l:=(show C.sel fp (.str l) = .str l from by rw[C.sel])
theorem zmL {k:Nat} {rows:List (List C)} {fp fo:Nat->Option Nat}:C.re fp fo (.sl k rows) = .sl k rows:=(show C.re fp fo (.sl k rows) = .sl k rows from by rw[C.re])
theorem ziR {k:Nat} {rows:List (List C)} {fp:Nat->Option Nat}:C.sel fp (.sl k rows) = .sl k rows:=(show C.sel fp (.sl k rows) = .sl k rows from by rw[C.sel])
theorem zbd {k:Nat} {rows:List (List C)} {fp fo:Nat->Option Nat}:C.re fp fo (.tight k rows) = .tight k rows:=(show C.re fp fo (.tight k rows) = .tight k rows from by rw[C.re])
theorem zio {cs:List C} {fp fo:Nat->Option Nat}:C.re fp fo (.row cs) = .row cs:=(show C.re fp fo (.row cs) = .row cs from by rw[C.re])
theorem zdC {cs:List C} {fp:Nat->Option Nat}:C.sel fp (.row cs) = .row cs:=(show C.sel fp (.row cs) = .row cs from by rw[C.sel])
theorem zhk {fp fo:Nat->Option Nat}:C.re fp fo (.any) = .any:=(show C.re fp fo (.any) = .any from by rw[C.re])
theorem zlZ {v:Value}:C.fz bx (.sc v) = .sc v:=(show C.fz bx (.sc v) = .sc v from by rw[C.fz])
theorem zjZ {l:List UInt8}:C.fz bx (.str l) = .str l:=(show C.fz bx (.str l) = .str l from by rw[C.fz])
theorem zno {k:Nat} {rows:List (List C)}:C.fz bx (.sl k rows) = .sl k rows:=(show C.fz bx (.sl k rows) = .sl k rows from by rw[C.fz])
theorem zgU {id e k:Nat} {rows:List (List C)}:C.fz bx (.own id e k rows) = .own id e k rows:=(show C.fz bx (.own id e k rows) = .own id e k rows from by rw[C.fz])
theorem zhc {cs:List C}:C.fz bx (.row cs) = .row cs:=(show C.fz bx (.row cs) = .row cs from by rw[C.fz])
theorem zjf {i off:Nat}:C.fz bx (.ptr i off)=zq8 (bx[i]?) off:=(show C.fz bx (.ptr i off)=zq8 (bx[i]?) off from by rw[C.fz];rfl)
theorem zkO {off:Nat} {cs:List C}:zq8 (some cs) off = .row ((C.frzL cs).drop off):=(rfl)
theorem zcf {f:Fn} {a b:Array Value}:Value.oneCell' (.func f a b)=true:=(rfl)
theorem zjB {id e k:Nat} {rows:List (List C)} {fp fo:Nat->Option Nat}:C.re fp fo (.own id e k rows)=zqz (fo id) e k rows:=(show C.re fp fo (.own id e k rows)=zqz (fo id) e k rows from by rw[C.re];rfl)
theorem zi6 {i off:Nat} {fp fo:Nat->Option Nat}:C.re fp fo (.ptr i off)=znz (fp i) off:=(show C.re fp fo (.ptr i off)=znz (fp i) off from by rw[C.re];rfl)
theorem zeE {i off:Nat} {fp:Nat->Option Nat}:C.sel fp (.ptr i off)=znz (fp i) off:=(show C.sel fp (.ptr i off)=znz (fp i) off from by rw[C.sel];rfl)
theorem znh {j e k:Nat} {rows:List (List C)}:zqz (some j) e k rows = .own j e k rows:=(rfl)
theorem zlP {e k:Nat} {rows:List (List C)}:zqz none e k rows = .sl k rows:=(rfl)
theorem zlA {j off:Nat}:znz (some j) off = .ptr j off:=(rfl)
theorem znk {off:Nat}:znz none off = .any:=(rfl)
theorem zle {v:Value} {fr:Fr}:C.fy nx fr bx (.sc v) = .sc v:=(show C.fy nx fr bx (.sc v) = .sc v from by rw[C.fy])
theorem zl8 {k:Nat} {rows:List (List C)} {fr:Fr}:C.fy nx fr bx (.sl k rows) = .sl k rows:=(show C.fy nx fr bx (.sl k rows) = .sl k rows from by rw[C.fy])
theorem zlU {i off k n cap:Nat} {fr:Fr}:C.fy nx fr bx (.bs i off k n cap)=VU nx fr i off k n cap:=(show C.fy nx fr bx (.bs i off k n cap)=VU nx fr i off k n cap from by rw[C.fy])
theorem zg0 {i off k n cap i2 e k2 cap2:Nat} {rows:List (List C)} {r:Fr}:VU nx ((i2,e,k2,rows,cap2) :: r) i off k n cap=if i=i2/\off=0/\k=k2/\n=rows.length/\cap=cap2 then .own nx e k2 rows else VU (nx+1) r i off k n cap:=(show VU nx ((i2,e,k2,rows,cap2) :: r) i off k n cap=if i=i2/\off=0/\k=k2/\n=rows.length/\cap=cap2 then .own nx e k2 rows else VU (nx+1) r i off k n cap from by rw[VU])
theorem zhL {cs:List C} {fp fo:Nat->Option Nat}:C.re fp fo (.agg cs) = .agg (C.reL fp fo cs):=(show C.re fp fo (.agg cs) = .agg (C.reL fp fo cs) from by rw[C.re])
theorem zhj {cs:List C} {fp fo:Nat->Option Nat}:C.re fp fo (.tup cs) = .tup (C.reL fp fo cs):=(show C.re fp fo (.tup cs) = .tup (C.reL fp fo cs) from by rw[C.re])
theorem zhN {fn:Fn} {fs cs:List C} {fp fo:Nat->Option Nat}:C.re fp fo (.clo fn fs cs) = .clo fn (C.reL fp fo fs) (C.reL fp fo cs):=(show C.re fp fo (.clo fn fs cs) = .clo fn (C.reL fp fo fs) (C.reL fp fo cs) from by rw[C.re])
theorem zfS {fp fo:Nat->Option Nat}:C.reL fp fo [] = []:=(show C.reL fp fo [] = [] from by rw[C.reL])
theorem zce {r:List C} {fp fo:Nat->Option Nat}:C.reL fp fo (c :: r)=C.re fp fo c :: C.reL fp fo r:=(show C.reL fp fo (c :: r)=C.re fp fo c :: C.reL fp fo r from by rw[C.reL])
theorem zeA {cs:List C} {fp:Nat->Option Nat}:C.sel fp (.agg cs) = .agg (C.selL fp cs):=(show C.sel fp (.agg cs) = .agg (C.selL fp cs) from by rw[C.sel])
theorem ze0 {fn:Fn} {fs cs:List C} {fp:Nat->Option Nat}:C.sel fp (.clo fn fs cs) = .clo fn (C.selL fp fs) (C.selL fp cs):=(show C.sel fp (.clo fn fs cs) = .clo fn (C.selL fp fs) (C.selL fp cs) from by rw[C.sel])
theorem zaC {fp:Nat->Option Nat}:C.selL fp [] = []:=(show C.selL fp [] = [] from by rw[C.selL])
theorem xP {r:List C} {fp:Nat->Option Nat}:C.selL fp (c :: r)=C.sel fp c :: C.selL fp r:=(show C.selL fp (c :: r)=C.sel fp c :: C.selL fp r from by rw[C.selL])
theorem zha {cs:List C} :C.fz bx (.agg cs) = .agg (C.fzL bx cs):=(show C.fz bx (.agg cs) = .agg (C.fzL bx cs) from by rw[C.fz])
theorem zis {cs:List C} :C.fz bx (.tup cs) = .tup (C.fzL bx cs):=(show C.fz bx (.tup cs) = .tup (C.fzL bx cs) from by rw[C.fz])
theorem zhs {fn:Fn} {fs cs:List C} :C.fz bx (.clo fn fs cs) = .clo fn (C.fzL bx fs) (C.fzL bx cs):=(show C.fz bx (.clo fn fs cs) = .clo fn (C.fzL bx fs) (C.fzL bx cs) from by rw[C.fz])
theorem zfw:C.fzL bx [] = []:=(show C.fzL bx [] = [] from by rw[C.fzL])
theorem za0 {r:List C} :C.fzL bx (c :: r)=C.fz bx c :: C.fzL bx r:=(show C.fzL bx (c :: r)=C.fz bx c :: C.fzL bx r from by rw[C.fzL])
theorem zg5 {cs:List C} {fr:Fr}:C.fy nx fr bx (.agg cs) = .agg (C.fyL nx fr bx cs):=(show C.fy nx fr bx (.agg cs) = .agg (C.fyL nx fr bx cs) from by rw[C.fy])
theorem zhM {cs:List C} {fr:Fr}:C.fy nx fr bx (.tup cs) = .tup (C.fyL nx fr bx cs):=(show C.fy nx fr bx (.tup cs) = .tup (C.fyL nx fr bx cs) from by rw[C.fy])
theorem ze7 {fr:Fr}:C.fyL nx fr bx [] = []:=(show C.fyL nx fr bx [] = [] from by rw[C.fyL])
theorem zcb {r:List C} {fr:Fr}:C.fyL nx fr bx (c :: r)=C.fy nx fr bx c :: C.fyL nx fr bx r:=(show C.fyL nx fr bx (c :: r)=C.fy nx fr bx c :: C.fyL nx fr bx r from by rw[C.fyL])
theorem zfK {cs:List C}:C.frz (.agg cs) = .agg (C.frzL cs):=(show C.frz (.agg cs) = .agg (C.frzL cs) from by rw[C.frz])
theorem zgf {fn:Fn} {fs cs:List C}:C.frz (.clo fn fs cs) = .clo fn (C.frzL fs) (C.frzL cs):=(show C.frz (.clo fn fs cs) = .clo fn (C.frzL fs) (C.frzL cs) from by rw[C.frz])
theorem zb1:C.frzL [] = []:=(show C.frzL [] = [] from by rw[C.frzL])
theorem vD {r:List C}:C.frzL (c :: r)=C.frz c :: C.frzL r:=(show C.frzL (c :: r)=C.frz c :: C.frzL r from by rw[C.frzL])
theorem zhl {cs:List C} {id:Nat}:C.dg id (.agg cs) = .agg (C.dgL id cs):=(show C.dg id (.agg cs) = .agg (C.dgL id cs) from by rw[C.dg])
theorem ziA {cs:List C} {id:Nat}:C.dg id (.tup cs) = .tup (C.dgL id cs):=(show C.dg id (.tup cs) = .tup (C.dgL id cs) from by rw[C.dg])
theorem zgX {fn:Fn} {fs cs:List C} {id:Nat}:C.dg id (.clo fn fs cs) = .clo fn (C.dgL id fs) (C.dgL id cs):=(show C.dg id (.clo fn fs cs) = .clo fn (C.dgL id fs) (C.dgL id cs) from by rw[C.dg])
theorem zdD {id:Nat}:C.dgL id [] = []:=(show C.dgL id [] = [] from by rw[C.dgL])
theorem za9 {r:List C} {id:Nat}:C.dgL id (c :: r)=C.dg id c :: C.dgL id r:=(show C.dgL id (c :: r)=C.dg id c :: C.dgL id r from by rw[C.dgL])
theorem zh1 {cs:List C} {n:Nat}:C.sh n (.agg cs) = .agg (C.shL n cs):=(show C.sh n (.agg cs) = .agg (C.shL n cs) from by rw[C.sh])
theorem zjD {cs:List C} {n:Nat}:C.sh n (.tup cs) = .tup (C.shL n cs):=(show C.sh n (.tup cs) = .tup (C.shL n cs) from by rw[C.sh])
theorem ziT {fn:Fn} {fs cs:List C} {n:Nat}:C.sh n (.clo fn fs cs) = .clo fn (C.shL n fs) (C.shL n cs):=(show C.sh n (.clo fn fs cs) = .clo fn (C.shL n fs) (C.shL n cs) from by rw[C.sh])
theorem zdw {n:Nat}:C.shL n [] = []:=(show C.shL n [] = [] from by rw[C.shL])
theorem zaV {r:List C} {n:Nat}:C.shL n (c :: r)=C.sh n c :: C.shL n r:=(show C.shL n (c :: r)=C.sh n c :: C.shL n r from by rw[C.shL])
theorem zcw {id:Nat}:zbl id [] = []:=(rfl)
theorem zpy {id u:Nat} {r:List (Nat×C)}:zbl id ((u,c) :: r)=(u,c.dg id) :: zbl id r:=(rfl)
theorem zbp {id:Nat}:xA id [] = []:=(rfl)
theorem zqp {id:Nat} {cs:List C} {r:List (List C)}:xA id (cs :: r)=C.dgL id cs :: xA id r:=(rfl)
theorem xW {l:List UInt8}:C.cellB (.str l)=true:=(rfl)
theorem yt {l:List UInt8}:C.partB (.str l)=true:=(rfl)
theorem ym {l:List UInt8}:C.cells (.str l) = [.str l]:=(rfl)
theorem zbb {k:Nat} {rows:List (List C)}:C.cellB (.sl k rows)=true:=(rfl)
theorem za2 {k:Nat} {rows:List (List C)}:C.partB (.sl k rows)=true:=(rfl)
theorem zbL {k:Nat} {rows:List (List C)}:C.cells (.sl k rows) = [.sl k rows]:=(rfl)
theorem y8 {id e k:Nat} {rows:List (List C)}:C.cellB (.own id e k rows)=true:=(rfl)
theorem vp {id e k:Nat} {rows:List (List C)}:C.partB (.own id e k rows)=true:=(rfl)
theorem yN {id e k:Nat} {rows:List (List C)}:C.cells (.own id e k rows) = [.own id e k rows]:=(rfl)
theorem yz {fn:Fn} {fs cs:List C}:C.cellB (.clo fn fs cs)=true:=(rfl)
theorem xS {fn:Fn} {fs cs:List C}:C.partB (.clo fn fs cs)=true:=(rfl)
theorem y6 {fn:Fn} {fs cs:List C}:C.cells (.clo fn fs cs) = [.clo fn fs cs]:=(rfl)
theorem zbc {v:Value}:C.cellB (.sc v)=v.oneCell':=(rfl)
theorem zcc {v:Value}:C.partB (.sc v)=v.oneCell':=(rfl)
theorem zcn {v:Value}:C.cells (.sc v) = [.sc v]:=(rfl)
theorem vj {cs:List C}:C.partB (.agg cs)=true:=(rfl)
theorem xM {cs:List C}:C.cells (.agg cs)=cs:=(rfl)
theorem zej {k:IntKind} {n:Int}:Value.oneCell' (.int k n)=true:=(rfl)
theorem zbw {b:Bool}:Value.oneCell' (.bool b)=true:=(rfl)
theorem y5 {a:Option Addr} {n m:Nat}:Value.oneCell' (.slice a n m)=true:=(rfl)
theorem xw {s:ByteArray}:Value.oneCell' (.string s)=true:=(rfl)
theorem znp {k:Nat} {cs:List C}:Qt k 0 cs = []:=(rfl)
theorem zmM {k n:Nat} {cs:List C}:Qt k (n+1) cs=cs.take k :: Qt k n (cs.drop k):=(rfl)
theorem zmq {i:Nat}:V5 i [] = []:=(rfl)
theorem zn1 {i:Nat} {r:List C}:V5 i (c :: r)=(i,c) :: V5 (i+1) r:=(rfl)
theorem zgn:zmE (.sc (.bool true)) X Y ⟨⟩ ⟨⟩=X:=zi0
theorem zaQ:zmE (.sc (.bool false)) X Y ⟨⟩ ⟨⟩=Y:=zew
theorem br {b:Bool} (hx:b=true->X) (hy:b=false->Y):zmE (.sc (.bool b)) X Y ⟨⟩ ⟨⟩:=ABr.mk hx hy
theorem jo {f:FuncId} {args fargs a1:List C} {fbx:List (List C)} {q:Nat} {post:C->List (List C)->Nat->Prop} (ι κ:List Nat) (hf:Yr P G f a1 fbx q post) (hq:κ.length=q) (hι:ι.Nodup) (hκ:κ.Nodup) (hb:∀ i∈ι,i<bx.length)
  (ha:C.reL (Xr ι) (Xr κ) args=a1) (hx:(ι.map fun i=>C.reL (Xr ι) (Xr κ) (bx.getD i []))=fbx) (hK:∀ r fbx' n,post r fbx' n->K3 (r.re (upB ι bx.length) (upO nx)) (ZK ι κ fbx' n ⟨tm,bx,nx,lg⟩)):QH P G f args fargs ⟨tm,bx,nx,lg⟩ K3 ⟨⟩:=
 .inr <| .inr <| .inr <| .inl ⟨ι,κ,post,hι,hκ,hb,by rw[ha,hq];exact hx▸hf,hK⟩
theorem zlK {K4:C->List (List C)->Nat->Prop} {f:FuncId} {args a1:List C} {fbx:List (List C)} {post:C->List (List C)->Nat->Prop} (ι:List Nat) (hf:Yr P G f a1 fbx 0 post) (hι:ι.Nodup) (hb:∀ i∈ι,i<bx.length)
  (ha:C.reL (Xr ι) (Xr []) args=a1) (hx:(ι.map fun i=>C.reL (Xr ι) (Xr []) (bx.getD i []))=fbx) (hK:∀ r fbx' n,post r fbx' n->K4 (r.re (upB ι bx.length) (upO nx)) (ZK ι [] fbx' n ⟨tm,bx,nx,lg⟩).bx (nx+n)):zr3 P G f args ⟨tm,bx,nx,lg⟩ K4 ⟨⟩:=
 ⟨ι,post,hι,hb,by rw[ha];exact hx▸hf,hK⟩
theorem zla {f:FuncId} {args fargs:List C} {r:C} (hf:zrO P f args bx r) (hK:K3 r ⟨tm,bx,nx,lg⟩):QH P G f args fargs ⟨tm,bx,nx,lg⟩ K3 ⟨⟩:=.inr <| .inr <| .inr <| .inr ⟨r,hf,hK⟩
theorem zlf {e s1 b1 k by' m i off n cap:Nat} {kd:LK} {z1 z:Option (List Value)} {xs cs:List C} (hl:lay P t=some ⟨.slice e,s1,b1,z1⟩) (hle:lay P e=some ⟨kd,k,by',z⟩) (hx:d.xs? k bx=some (m,xs)) (hb:bx[i]?=some cs) (hxl:xs.length=m*k) (hfit:off+n*k<=cs.length)
  (hK:K3 (.sc (.int .i64 ((min m n:Nat):Int))) ⟨tm,bx.set i (spl cs off (xs.take (min m n*k))),nx,lg⟩):MN P t (.bs i off k n cap) d ⟨tm,bx,nx,lg⟩ K3 ⟨⟩:=by
 show QM P t _ _ _ _;unfold QM;simp only[hl,hle,hx,hb];exact ⟨trivial,hxl,hfit,hK⟩
theorem znG {e s1 b1 k by' m:Nat} {c:C} {kd:LK} {z1 z:Option (List Value)} {xs:List C} (hl:lay P t=some ⟨.slice e,s1,b1,z1⟩) (hle:lay P e=some ⟨kd,k,by',z⟩) (hx:d.xs? k bx=some (m,xs)) (hc:c.rows? k=some []) (hb:∀ i off k n c',c≠.bs i off k n c') (hxl:xs.length=m*k)
  (hK:K3 (.sc (.int .i64 0)) ⟨tm,bx,nx,lg⟩):MN P t c d ⟨tm,bx,nx,lg⟩ K3 ⟨⟩:=by
 show QM P t _ _ _ _;unfold QM;simp only[hl,hle,hx];cases c<;>first
  | exact absurd rfl (hb _ _ _ _ _)
  | (simp only[hc];exact ⟨hxl,hK⟩)
theorem zpG {e s1 b1 k by' i off n cap:Nat} {kd:LK} {z1:Option (List Value)} {z:List Value} {cs:List C} (hl:lay P t=some ⟨.slice e,s1,b1,z1⟩) (hle:lay P e=some ⟨kd,k,by',some z⟩) (hb:bx[i]?=some cs) (hz:z.length=k) (hk:0<k) (h1:(z.all Value.oneCell')=true) (hfit:off+n*k<=cs.length)
  (hK:K3 .any ⟨tm,bx.set i (spl cs off (List.replicate n (z.map zA)).flatten),nx,lg⟩):xU P t (.bs i off k n cap) ⟨tm,bx,nx,lg⟩ K3 ⟨⟩:=by
 show Uy P t _ _ _;unfold Uy;simp only[hl,hle,hb];exact ⟨trivial,hz,hk,h1,hfit,hK⟩
theorem GS {e s1 b1 k by' m:Nat} {kd:LK} {z1:Option (List Value)} {z:List Value} {xs:List C} (hl:lay P t=some ⟨.slice e,s1,b1,z1⟩) (hle:lay P e=some ⟨kd,k,by',some z⟩) (hx:d.xs? k bx=some (m,xs)) (hz:z.length=k) (hk:0<k) (h1:(z.all Value.oneCell')=true) (hxl:xs.length=m*k) (hm:0<m) (h63:m<=9223372036854775807) (hby:m*by'<=140737488355328)
  (hK:∀ cap,m<=cap->cap<=9223372036854775807->K3 (.bs bx.length 0 k m cap) ⟨tm,bx++[xs++List.replicate ((cap-m)*k) .any],nx,lg⟩):vP P t (.sc (.slice none 0 0)) d ⟨tm,bx,nx,lg⟩ K3 ⟨⟩:=by
 show Yn P t _ _ _ _;unfold Yn;simp only[hl,hle,hx];exact ⟨hz,hk,h1,hxl,hm,h63,hby,fun c h1 h2=>hK c h1 (by unfold maxLen at h2;omega)⟩
theorem Zz {e s1 b1 k by' m i off n cap:Nat} {kd:LK} {z1:Option (List Value)} {z:List Value} {xs cs:List C} (hl:lay P t=some ⟨.slice e,s1,b1,z1⟩) (hle:lay P e=some ⟨kd,k,by',some z⟩) (hx:d.xs? k bx=some (m,xs)) (hz:z.length=k) (hk:0<k) (h1:(z.all Value.oneCell')=true) (hxl:xs.length=m*k)
  (hb:bx[i]?=some cs) (hfit:off+cap*k<=cs.length) (hn:n<=cap) (h63:n+m<=9223372036854775807) (hby:(n+m)*by'<=140737488355328)
  (hK1:n+m<=cap->K3 (.bs i off k (n+m) cap) ⟨tm,bx.set i (spl cs (off+n*k) xs),nx,lg⟩)
  (hK2:cap<n+m->∀ c',n+m<=c'->c'<=9223372036854775807->K3 (.bs bx.length 0 k (n+m) c') ⟨tm,bx++[(cs.drop off).take (n*k)++xs++List.replicate ((c'-(n+m))*k) .any],nx,lg⟩):vP P t (.bs i off k n cap) d ⟨tm,bx,nx,lg⟩ K3 ⟨⟩:=by
 show Yn P t _ _ _ _;unfold Yn;simp only[hl,hle,hx,hb];exact ⟨hz,hk,h1,hxl,trivial,hfit,hn,h63,hby,hK1,fun h c h1 h2=>hK2 h c h1 (by unfold maxLen at h2;omega)⟩
theorem zfb {tn e s1 b1 s2 b2 k by':Nat} {kn kq:IntKind} {kd:LK} {z1 z2:Option (List Value)} {z:List Value} {q:Int} (hl:lay P t=some ⟨.slice e,s1,b1,z1⟩) (hln:lay P tn=some ⟨.int kn,s2,b2,z2⟩) (hle:lay P e=some ⟨kd,k,by',some z⟩) (hz:z.length=k) (hk:0<k) (h1:(z.all Value.oneCell')=true)
  (hq:0<q) (h63:q<=9223372036854775807) (hby:q*by'<=140737488355328) (hK:∀ c',q.toNat<=c'->c'<=maxLen->K3 (.bs bx.length 0 k q.toNat c') ⟨tm,bx++[(List.replicate q.toNat (z.map zA)).flatten++List.replicate ((c'-q.toNat)*k) .any],nx,lg⟩) :
  uk P t tn (.sc (.slice none 0 0)) (.sc (.int kq q)) ⟨tm,bx,nx,lg⟩ K3 ⟨⟩:=by
 show Gu P t tn _ _ _ _;unfold Gu;simp only[hl,hln,hle];exact ⟨hz,hk,h1,hq,h63,hby,hK⟩
theorem zsl {tn e s1 b1 s2 b2 k by' i off n cap:Nat} {kn kq:IntKind} {kd:LK} {z1 z2:Option (List Value)} {z:List Value} {cs:List C} {q:Int} (hl:lay P t=some ⟨.slice e,s1,b1,z1⟩) (hln:lay P tn=some ⟨.int kn,s2,b2,z2⟩) (hle:lay P e=some ⟨kd,k,by',some z⟩) (hz:z.length=k) (hk:0<k) (h1:(z.all Value.oneCell')=true)
  (hb:bx[i]?=some cs) (hfit:off+cap*k<=cs.length) (hn:n<=cap) (hq:0<q) (h63:(n:Int)+q<=9223372036854775807) (hby:((n:Int)+q)*by'<=140737488355328) (hg:(cap:Int)<n+q)
  (hK:∀ c',n+q.toNat<=c'->c'<=9223372036854775807->K3 (.bs bx.length 0 k (n+q.toNat) c') ⟨tm,bx++[(cs.drop off).take (n*k)++(List.replicate q.toNat (z.map zA)).flatten++List.replicate ((c'-(n+q.toNat))*k) .any],nx,lg⟩):uk P t tn (.bs i off k n cap) (.sc (.int kq q)) ⟨tm,bx,nx,lg⟩ K3 ⟨⟩:=by
 show Gu P t tn _ _ _ _;unfold Gu;simp only[hl,hln,hle,hb];exact ⟨hz,hk,h1,trivial,hfit,hn,hq,h63,hby,hg,fun c h1 h2=>hK c h1 (by unfold maxLen at h2;omega)⟩
def opB (P:Program) (fn:Func) (code:Code) (b:Nat->List Bool):Bool:=P.follows .mixedOrders&&(!(fn.name == "runtime.NumGoroutine")&&jx fn.ntmps b code)
theorem znH {fn:Func} {code:Code} {b:Nat->List Bool} (h:opB P fn code b=true):P.follows .mixedOrders=true:=(Bool.and_eq_true_iff.1 h).1
theorem zox {fn:Func} {code:Code} {b:Nat->List Bool} (h:opB P fn code b=true):(fn.name == "runtime.NumGoroutine")=false:=by
 have:=(Bool.and_eq_true_iff.1 (Bool.and_eq_true_iff.1 h).2).1;simpa using this
theorem zoC {fn:Func} {code:Code} {b:Nat->List Bool} (h:opB P fn code b=true):jx fn.ntmps b code=true:=(Bool.and_eq_true_iff.1 (Bool.and_eq_true_iff.1 h).2).2
theorem foF {f:FuncId} {fn:Func} {code:Code} {args:List C} {r:C} {n:Nat} (b:Nat->List Bool) (hf:P.funcs[f]?=some fn)
  (h:ZZ P G ⟨0,none,b⟩ code (Mx P fn.results.toList (fun c σ=>∃ (fr:Fr) (src:Src),zb4 fr σ.bx/\Qq src=true/\src.length=n/\CLe src 0 (c.fy σ.nx fr σ.bx) r) ⟨⟩) ⟨V5 0 args,[],0,0⟩ ⟨⟩ ⟨⟩) (hb:fn.body=some code:=by rfl) (hN:args.length<=fn.ntmps:=by exact zjO rfl) (ho:opB P fn code b=true:=by kernel_rfl):Fun P G f args r n:=Fun.of_awpF b (znH ho) hf hb (zox ho) hN (zoC ho) h
theorem foX {f:FuncId} {fn:Func} {code:Code} {args:List C} {bx:List (List C)} {q:Nat} {post:C->List (List C)->Nat->Prop} (b:Nat->List Bool) (hf:P.funcs[f]?=some fn)
  (h:ZZ P G ⟨bx.length,none,b⟩ code (Mx P fn.results.toList (fun c σ=>∃ r bx' n,(post r bx' n/\bx.length<=bx'.length)/\∃ src:Src,Qq src=true/\src.length=n/\zd src bx'.length σ.bx bx'/\CLe src bx'.length c r) ⟨⟩) ⟨V5 0 args,bx,q,0⟩ ⟨⟩ ⟨⟩) (hb:fn.body=some code:=by rfl) (hN:args.length<=fn.ntmps:=by exact zjO rfl) (ho:opB P fn code b=true:=by kernel_rfl):Yr P G f args bx q post:=Yr.of_awp b (znH ho) hf hb (zox ho) hN (zoC ho) h
theorem znI {f:FuncId} {args fargs:List C} {r:C} {n:Nat} (gargs:List C) (hf:Fun P G f gargs r n) (hr:r.freshB=true) (hl:Xv bx args gargs) (hK:K3 (r.sh nx) ⟨tm,bx,nx+n,lg⟩):QH P G f args fargs ⟨tm,bx,nx,lg⟩ K3 ⟨⟩:=.inr <| .inr <| .inl ⟨gargs,r,n,hl,hf,hr,hK⟩
theorem call {f:FuncId} {args fargs:List C} {r:C} {n:Nat} (hf:Fun P G f fargs r n) (hK:K3 (r.sh nx) ⟨tm,bx,nx+n,lg⟩):QH P G f args fargs ⟨tm,bx,nx,lg⟩ K3 ⟨⟩:=.inl ⟨r,n,hf,hK⟩
theorem zbF {f:FuncId} {args:List C} {r:C} {n:Nat} (hf:Fun P G f args r n) (hK:K2 (r.sh nx) (nx+n)):yZ P G f args nx K2 ⟨⟩:=uS.mk hf hK
theorem Fun.less {f:FuncId} {args args':List C} {r:C} {n:Nat} (hf:Fun P G f args' r n) (hl:zg [] 0 args args'):Fun P G f args r n:=⟨hf.1,fun R vs hg ha=>hf.2 R vs hg (by
 have:=zu.less _ _ _ hl ha;refine zu.ext (Ext.refl R) ⟨fun i b hb=>?_,fun id x hx=>?_⟩ _ _ this
 ·simp at hb
 ·have hx:ZN [] zH.T id=some x:=hx;simp[ZN]at hx)⟩
theorem Vn {f:FuncId} {args fargs a1:List C} {fbx fbx':List (List C)} {r:C} {n q:Nat} (ι κ:List Nat) (hf:Nj P G f a1 fbx q r fbx' n) (hq:κ.length=q) (hι:ι.Nodup) (hκ:κ.Nodup) (hb:∀ i∈ι,i<bx.length)
  (ha:C.reL (Xr ι) (Xr κ) args=a1) (hx:(ι.map fun i=>C.reL (Xr ι) (Xr κ) (bx.getD i []))=fbx) (hK:K3 (r.re (upB ι bx.length) (upO nx)) (ZK ι κ fbx' n ⟨tm,bx,nx,lg⟩)):QH P G f args fargs ⟨tm,bx,nx,lg⟩ K3 ⟨⟩:=
 .inr <| .inl ⟨ι,κ,r,fbx',n,hι,hκ,hb,by rw[ha,hq];exact hx▸hf,hK⟩
theorem range {A B:Nat->(Exit->St->Prop)->St->Prop} {ps:List Tmp} {f:FuncId} {first cap first' cap':List C} {bx':List (List C)} (items:List (List C)) (sf:Nat->Bool) (m:Nat) (I:Nat->St) (hit:xB P G f first' cap' bx' items) (e1:C.selL (YX m) first=first') (e2:C.selL (YX m) cap=cap') (e3:(bx.drop m).map (C.selL (YX m))=bx')
  (hp:p<=m) (hm:m<=bx.length) (hlen:∀ it∈items,it.length=ps.length) (hI:∀ k,k<=items.length->(I k).bx.length=m) (hw:Jz m ⟨[],bx,nx,lg⟩ ((I 0).wt []))
  (hbody:∀ k it,items[k]?=some it->(∀ j,j<k->sf j=false)->A m (zkj (B m (ve m (kI m tm) (sf k) (I (k+1)) Q ⟨⟩ ⟨⟩)) ⟨⟩) ((I k).wt (Z8 ps it (kI m tm))))
  (hdone:(∀ j,j<items.length->sf j=false)->Q .normal ((I items.length).wt (kI m tm))):zcL P G p A B Q ps (.clo (.func f) first cap) ⟨tm,bx,nx,lg⟩ ⟨⟩ ⟨⟩ ⟨⟩:=
 ⟨items,sf,m,I,hp,hm,by rw[e1,e2];exact e3▸hit,hlen,hI,hw,hbody,hdone⟩
theorem loop {B:(Exit->St->Prop)->St->Prop} {ι:Type} (I:ι->St) (ok:ι->Prop) (μ:ι->Nat) (i0:ι) (h0:ok i0) (hw:Jz p σ (I i0))
  (hr:∀ i,ok i->B (vT (fun σ'=>∃ j,ok j/\μ j<μ i/\Jz p σ' (I j)) Q ⟨⟩ ⟨⟩) (I i)):zky p B Q σ ⟨⟩ ⟨⟩:=⟨ι,I,ok,μ,i0,h0,hw,hr⟩
theorem fof {f:FuncId} {fn:Func} {code:Code} {args:List C} {r:C} {n:Nat} (b:Nat->List Bool) (hf:P.funcs[f]?=some fn)
  (h:ZZ P G ⟨0,none,b⟩ code (Mx P fn.results.toList (fun c σ=>∃ src:Src,Qq src=true/\src.length=n/\CLe src 0 (c.fz σ.bx) r) ⟨⟩) ⟨V5 0 args,[],0,0⟩ ⟨⟩ ⟨⟩) (hb:fn.body=some code:=by rfl) (hN:args.length<=fn.ntmps:=by exact zjO rfl) (ho:opB P fn code b=true:=by kernel_rfl):Fun P G f args r n:=Fun.of_awp b (znH ho) hf hb (zox ho) hN (zoC ho) h
theorem fon {f:FuncId} {fn:Func} {code:Code} {args:List C} {r:C} {n:Nat} (hf:P.funcs[f]?=some fn)
  (h:ZZ P G ⟨0,none,fun _=>[]⟩ code (Mx P fn.results.toList (fun c σ=>∃ src:Src,Qq src=true/\src.length=n/\CLe src 0 (c.fz σ.bx) r) ⟨⟩) ⟨V5 0 args,[],0,0⟩ ⟨⟩ ⟨⟩) (hb:fn.body=some code:=by rfl) (hN:args.length<=fn.ntmps:=by exact zjO rfl) (ho:opB P fn code (fun _=>[])=true:=by kernel_rfl):Fun P G f args r n:=fof _ hf h hb hN ho
theorem foB {f:FuncId} {fn:Func} {code:Code} {args:List C} {bx bx':List (List C)} {r:C} {q n:Nat} (b:Nat->List Bool) (hf:P.funcs[f]?=some fn)
  (h:ZZ P G ⟨bx.length,none,b⟩ code (Mx P fn.results.toList (fun c σ=>∃ src:Src,Qq src=true/\src.length=n/\zd src bx'.length σ.bx bx'/\CLe src bx'.length c r) ⟨⟩) ⟨V5 0 args,bx,q,0⟩ ⟨⟩ ⟨⟩) (hb:fn.body=some code:=by rfl) (hN:args.length<=fn.ntmps:=by exact zjO rfl) (ho:opB P fn code b=true:=by kernel_rfl) (hlen:bx.length<=bx'.length:=by exact zjO rfl):Nj P G f args bx q r bx' n:=Nj.of_awp b (znH ho) hf hb (zox ho) hN (zoC ho) hlen h
theorem foI {f:FuncId} {fn:Func} {code:Code} {first cap:List C} {bx items:List (List C)} (b:Nat->List Bool) (hf:P.funcs[f]?=some fn)
  (h:∀ (l:Nat) (sf:Nat->Bool),ZZ P G ⟨0,some ⟨l,items,sf⟩,b⟩ code (Mx P fn.results.toList (fun c σ=>zlh items sf σ.lg) ⟨⟩) ⟨V5 0 (first++[.sc (.func (.yield l) #[] #[])]++cap),bx,0,0⟩ ⟨⟩ ⟨⟩) (hb:fn.body=some code:=by rfl) (hN:first.length+1+cap.length<=fn.ntmps:=by exact zjO rfl) (ho:opB P fn code b=true:=by kernel_rfl):xB P G f first cap bx items:=xB.of_awp b (znH ho) hf hb (zox ho) hN (zoC ho) h
theorem zqK {i m k n cap b:Nat} {cs xs:List C} {z1:List Value} (A:List C) (hbx:bx[i]?=some cs) (h1:z1.length=k) (h2:0<k) (h3:(z1.all Value.oneCell')=true) (h4:0<m) (hp:p<=i) (hl:cs.length=cap*k) (hn:n<=cap) (hc:cap<=9223372036854775807)
  (h5:n+m<=9223372036854775807) (h6:(n+m)*b<=140737488355328) (hA:C.reL (JQ i) some (cs.take (n*k)++xs)=A)
  (hK:∀ c',n+m<=c'->c'<=9223372036854775807->K3 (.bs i 0 k (n+m) c') ⟨k9 (JQ i) some tm,Zv i (A++List.replicate ((c'-(n+m))*k) .any) bx,nx,lg⟩):zoz (some (m,xs)) p k b z1 (.bs i 0 k n cap) ⟨tm,bx,nx,lg⟩ K3 ⟨⟩:=by
 refine ⟨h1,h2,h3,h4,?_⟩;simp only[hbx];exact ⟨trivial,hp,hl,hn,hc,h5,h6,fun c' q1 q2=>by rw[hA];exact hK c' q1 (by unfold maxLen at q2;omega)⟩
theorem zaB (k:Nat):((k:Int)+1).toNat=k+1:=by omega
theorem zh0.mk {B:(Exit->St->Prop)->St->Prop} {ι:Type} (I:ι->St) (ok:ι->Prop) (μ:ι->Nat) (i0:ι) (h0:ok i0) (hw:Jz p σ (I i0))
  (hr:∀ i,ok i->B (zlY (fun σ'=>∃ j,ok j/\μ j<μ i/\Jz p σ' (I j)) Q) (I i)):zh0 p B Q σ:=⟨ι,I,ok,μ,i0,h0,hw,hr⟩
end
attribute [push_cast] eq_self iff_self List.append_eq zrc zsN zso zsg zri zcj zrM zmc zie zp6 zoo zoM znO zpH zlV zlM zpg zkL zpt zp1 zmD zqZ zof zmb zpK zqD zrj zqa zk8 zoD ziy zmv zjN zeq zhq ziG zjW zeO zgv zeD zjX zqh znK znS zoV zgr yl zsu zhx zlg zne zoG zpl yI zbT zdu Mh NP vS zaY MD zif yR zaM zmo zlL zps zo4 zoH zqt zoP znR zlN zoS zhR zjt ziY zhZ zja zls zpw zpB zlm zlC zau zaI xV yK kQ kX Ga zoh zmh ziS ziq zbk zaw ziE zia zgF zfE ziW zjE Mr NU zdL zfd zjx zi1 vy MQ zec zfh GJ Ge zdc zdf H7 Gj zgl zgM ye yc zeP zd5 zmK zlO xO zoB zl1 zcu zoL zhQ zcg zow zbq zhV zju zf6 zmH zrC ziF zgg zbx zfk zkQ zdm zj0 zaF zgi vG xG zn6 yG xb yB GM vq yw Mu zgj zfv zc9 M8 zdp xr zcU zb5 zgu zfQ zjT zbj zhb zdi zjA zgp zfu zef zgz zey ze1 zgd zgL zeQ zeL zdV zgc zfg ziC zdz zrb zdW zpP zf7 zrv zr0 zb8 zeM za6 zco zci zkJ GN zav xQ zch Mf N6 zlu zhI zeY zsf zqC ziX zjS zsV zaP zaz zfs zfF za4 zay yH zcv zgs zc7 zi4 zh2 zjG zhi zi7 zst zrD zqV zq2 zs4 zq7 zrs zmF zqb zk4 zmO zjM zkU zoY zoj zbi zaO zbP znP zsO zmx zsj zqI znN zsH zrK zbC zfW zjv zbB zoq zos zjQ ziB zji zbH zaS zbg zgD zcA zpz zbA zjd zhr zcZ zeJ zg2 zdM zd7 zoZ zok zm2 zhE zs5 zmJ zpT zkN zrd zrA zsA zqO zrU zqG zq9 zoA zpQ zs1 zrR zr1 zd4 zgH zpo zre zqY zoI zpN zq4 zqN zrX zk6 zln zg4 zpi zrH zrE zm0 zoO zk0 zqf ziZ zhm ziz znb zhg zjc zl0 zq3 zrg zrT zrk zg1 zl2 zmC zgm ziL ziM zgV zmm zlx zeT ziN ziV zgY zjl zlB zkS zlk zmQ zba zop zcp zdb zeX zhT zj1 zhz zlr ziQ zhG zem zmL ziR zbd zio zdC zhk zlZ zjZ zno zgU zhc zjf zkO zcf zjB zi6 zeE znh zlP zlA znk zle zl8 zlU zg0 zhL zhj zhN zfS zce zeA ze0 zaC xP zha zis zhs zfw za0 zg5 zhM ze7 zcb zfK zgf zb1 vD zhl ziA zgX zdD za9 zh1 zjD ziT zdw zaV zcw zpy zbp zqp xW yt ym zbb za2 zbL y8 vp yN yz xS y6 zbc zcc zcn vj xM zej zbw y5 xw znp zmM zmq zn1 zgn zaQ
attribute [push_cast] Int.ofNat_eq_natCast Bool.not_false Bool.not_true Bool.true_beq Bool.false_beq beq_self_eq_true Bool.true_and zlT zmt zn7 zkR zl5 List.map_cons List.map_nil List.getElem?_cons_zero List.getElem?_cons_succ List.getElem?_toArray List.getElem?_nil List.drop_zero List.drop_succ_cons List.drop_nil List.take_succ_cons List.take_zero List.take_nil List.length_cons List.length_nil List.getD_cons_zero List.getD_cons_succ List.set_cons_zero List.set_cons_succ List.cons_append List.nil_append List.append_nil List.all_cons List.all_nil List.tail_cons List.tail_nil List.headD_cons List.headD_nil List.flatten_cons List.flatten_nil List.replicate_succ List.replicate_zero Bool.and_self Bool.and_true Bool.true_and Bool.not_true Bool.not_false Option.bind_some Option.map_some Option.map_none if_true if_false true_and and_true and_self decide_true decide_false Int.ofNat_le Int.ofNat_lt Int.natCast_inj zaB Int.toNat_natCast Nat.zero_add Nat.add_zero List.toList_toArray Int.add_zero Int.zero_add Bool.not_not Int.sub_zero Int.natCast_pos Nat.sub_zero Int.cast_ofNat_Int Nat.one_mul Nat.mul_one
theorem dn {p q r:Src->Prop} (c:r []:=by push_cast -dsimp [ze,zd,CLe,zg]) (a:p []:=by rfl) (b:q []:=by rfl):∃ s,p s/\q s/\r s:=⟨[],a,b,c⟩
theorem wks {p:Nat} {σ σ':St} (src:Src) (h4:ze src σ'.bx.length σ.tm σ'.tm:=by push_cast -dsimp [ze,zd,CLe,zg]) (h5:zd src σ'.bx.length σ.bx σ'.bx:=by push_cast -dsimp [ze,zd,CLe,zg]) (h1:Qq src=true:=by rfl) (h2:src.length=σ'.nx:=by rfl)
  (h3:p<=σ'.bx.length:=by first | exact Nat.zero_le _ | exact Nat.le_refl _ | exact zjO rfl) (h0:σ'.lg=σ.lg:=by rfl):Jz p σ σ':=⟨src,h1,h2,h3,h0,h4,h5⟩
theorem wk {p:Nat} {σ σ':St} (h4:ze [] σ'.bx.length σ.tm σ'.tm:=by push_cast -dsimp [ze,zd,CLe,zg]) (h5:zd [] σ'.bx.length σ.bx σ'.bx:=by push_cast -dsimp [ze,zd,CLe,zg]) (h2:([]:Src).length=σ'.nx:=by rfl)
  (h3:p<=σ'.bx.length:=by first | exact Nat.zero_le _ | exact Nat.le_refl _ | exact zjO rfl) (h0:σ'.lg=σ.lg:=by rfl):Jz p σ σ':=⟨[],rfl,h2,h3,h0,h4,h5⟩
theorem an {a b:Prop} (k:b) (h:a:=by first | omega | (simp only[lS];omega)):a/\b:=⟨h,k⟩
namespace CA
theorem cl {P:Program} {G:zp} {f:FuncId} {args fargs:List C} {r:C} {n nx lg:Nat} {tm:List (Nat×C)} {bx:List (List C)} {K3:C->St->Prop} (hf:Fun P G f fargs r n) (hK:K3 (r.sh nx) ⟨tm,bx,nx+n,lg⟩):QH P G f args fargs ⟨tm,bx,nx,lg⟩ K3 ⟨⟩:=call hf hK
end CA
namespace CB
theorem cl {P:Program} {G:zp} {f:FuncId} {args:List C} {r:C} {n nx:Nat} {K2:C->Nat->Prop} (hf:Fun P G f args r n) (hK:K2 (r.sh nx) (nx+n)):yZ P G f args nx K2 ⟨⟩:=zbF hf hK
end CB
end
section
open Go.RowKit
def C.stayB:C->Bool
 | .sc _ | .str _ | .sl _ _ | .tight _ _ | .row _ | .any=>true
 | _=>false
theorem ziu {c:C} (h:c.stayB=true):c.frz=c:=by cases c<;>simp[C.stayB]at h<;>simp[C.frz]
theorem zma {c:C} {fp fo:Nat->Option Nat} (h:c.stayB=true):c.re fp fo=c:=by cases c<;>simp[C.stayB]at h<;>simp[C.re]
theorem zl6 {c:C} {src:Src} {n:Nat} (h:c.stayB=true):CLe src n c c:=by cases c<;>simp[C.stayB]at h<;>simp[CLe]
theorem NR:∀ {cs:List C},(cs.all C.stayB)=true->C.frzL cs=cs
 | [],_=>by simp[C.frzL]
 | c :: r,h=>by
  simp only[List.all_cons,Bool.and_eq_true]at h;rw[C.frzL,ziu h.1,NR h.2]
theorem zB {fp fo:Nat->Option Nat}:∀ {cs:List C},(cs.all C.stayB)=true->C.reL fp fo cs=cs
 | [],_=>by simp[C.reL]
 | c :: r,h=>by
  simp only[List.all_cons,Bool.and_eq_true]at h;rw[C.reL,zma h.1,zB h.2]
theorem zO {src:Src} {n:Nat}:∀ {cs:List C},(cs.all C.stayB)=true->zg src n cs cs
 | [],_=>by simp[zg]
 | c :: r,h=>by
  simp only[List.all_cons,Bool.and_eq_true]at h;rw[zg];exact ⟨zl6 h.1,zO h.2⟩
theorem zk1 {src:Src} {n:Nat} (c:C):CLe src n c .any:=by cases c<;>simp[CLe]
theorem Xm {src:Src} {n:Nat}:∀ {cs:List C} {m:Nat},cs.length=m->zg src n cs (List.replicate m .any)
 | [],_,h=>by subst h;simp[zg]
 | c :: r,_,h=>by
  subst h;rw[List.length_cons,List.replicate_succ,zg];exact ⟨zk1 c,Xm rfl⟩
theorem zc3 {src:Src} {n:Nat}:∀ {a b c d:List C},zg src n a c->zg src n b d->zg src n (a++b) (c++d)
 | [],b,[],d,_,h=>h
 | [],b,x :: c,d,h,_=>by simp[zg]at h
 | x :: a,b,[],d,h,_=>by simp[zg]at h
 | x :: a,b,y :: c,d,h,h'=>by
  rw[List.cons_append,List.cons_append,zg];rw[zg]at h;exact ⟨h.1,zc3 h.2 h'⟩
def qr (k:Nat) (rows:List (List C)) (c:Nat):List C:=rows.flatten++List.replicate ((c-rows.length)*k) .any
theorem qm {k:Nat}:∀ {rows:List (List C)},(∀ r∈rows,r.length=k)->rows.flatten.length=rows.length*k
 | [],_=>by simp
 | r :: rs,h=>by
  rw[List.flatten_cons,List.length_append,h r List.mem_cons_self,qm fun x hx=>h x (List.mem_cons_of_mem _ hx),List.length_cons,Nat.succ_mul,Nat.add_comm]
theorem Jt {k c:Nat} {rows:List (List C)} (h:∀ r∈rows,r.length=k) (hc:rows.length<=c):(qr k rows c).length=c*k:=by
 unfold qr;rw[List.length_append,qm h,List.length_replicate,←Nat.add_mul];congr 1;omega
abbrev jd (rows:List (List C)):Prop:=∀ r∈rows,(r.all C.stayB)=true
theorem Qo {rows:List (List C)} (h:jd rows):(rows.flatten.all C.stayB)=true:=by
 rw[List.all_eq_true];intro c hc;obtain ⟨r,hr,hc⟩:=List.mem_flatten.1 hc;exact List.all_eq_true.1 (h r hr) c hc
theorem zD {k c:Nat} {rows:List (List C)} (h:jd rows):((qr k rows c).all C.stayB)=true:=by
 unfold qr;rw[List.all_append,Qo h,Bool.true_and,List.all_eq_true];intro c hc;obtain ⟨_,rfl⟩:=List.mem_replicate.1 hc
 rfl
theorem Q0 {k n:Nat}:∀ {rows:List (List C)},(∀ r∈rows,r.length=k)->rows.flatten.take (n*k)=(rows.take n).flatten:=by
 induction n with
 | zero=>intro rows _;simp
 | succ n ih =>
  intro rows h;cases rows with
  | nil=>simp
  | cons r rs =>
   have hr:=h r List.mem_cons_self;rw[List.take_succ_cons,List.flatten_cons,List.flatten_cons,List.take_append,List.take_of_length_le (by rw[hr,Nat.succ_mul];omega),hr,show (n+1)*k-k=n*k by rw[Nat.succ_mul];omega,ih fun x hx=>h x (List.mem_cons_of_mem _ hx)]
theorem UX {k n:Nat}:∀ {rows:List (List C)},(∀ r∈rows,r.length=k)->rows.flatten.drop (n*k)=(rows.drop n).flatten:=by
 induction n with
 | zero=>intro rows _;simp
 | succ n ih =>
  intro rows h;cases rows with
  | nil=>simp
  | cons r rs =>
   have hr:=h r List.mem_cons_self;rw[List.drop_succ_cons,List.flatten_cons,List.drop_append,List.drop_of_length_le (by rw[hr,Nat.succ_mul];omega),hr,List.nil_append,show (n+1)*k-k=n*k by rw[Nat.succ_mul];omega,ih fun x hx=>h x (List.mem_cons_of_mem _ hx)]
theorem Jp {src:Src} {m k c:Nat} {rows:List (List C)} {cs:List C} (hk:∀ r∈rows,r.length=k) (hs:jd rows) (hc:rows.length<=c) (hl:cs.length=c*k) (ht:cs.take (rows.length*k)=rows.flatten):zg src m cs (qr k rows c):=by
 have h1:cs=rows.flatten++cs.drop (rows.length*k):=by rw[←ht,List.take_append_drop]
 rw[h1];unfold qr;refine zc3 (zO (Qo hs)) (Xm ?_);rw[List.length_drop,hl,←Nat.sub_mul]
theorem QP {cs xs:List C} {p:Nat} (h:p+xs.length<=cs.length):(spl cs p xs).length=cs.length:=by
 simp[spl];omega
theorem UI {cs L X:List C} {p q:Nat} (hp:p<=L.length) (hq:q=p+X.length) (hL:cs.take L.length=L) (hc:L.length+X.length<=cs.length) :
  (spl (spl cs q (L.drop p)) p X).take (L.length+X.length)=L.take p++(X++L.drop p):=by
 subst hq;apply List.ext_getElem?
 intro j;have hcur:∀ j,j<L.length->cs[j]?=L[j]?:=fun j hj=>by
  have h:=congrArg (fun l=>l[j]?) hL;simp only[List.getElem?_take,if_pos hj]at h;exact h
 simp only[spl,List.getElem?_take,List.getElem?_append,List.getElem?_drop,List.length_take,List.length_append,List.length_drop]
 repeat' (first | split | omega)
 all_goals (first | rfl | omega | exact (List.getElem?_eq_none (by omega)).symm | (congr 1;omega) | (rw[hcur _ (by omega)];first | done | (congr 1;omega)) | (symm;rw[List.getElem?_eq_none];simp;omega) | (rw[List.getElem?_eq_none];simp;omega) | skip)
theorem GW {cs L X:List C} {p q:Nat} (hp:p<=L.length) (hq:q=p+X.length) (hL:cs.take p=L.take p) (hc:L.length+X.length<=cs.length) :
  (spl (spl cs p X) q (L.drop p)).take (L.length+X.length)=L.take p++(X++L.drop p):=by
 subst hq;apply List.ext_getElem?
 intro j;have hcur:∀ j,j<p->cs[j]?=L[j]?:=fun j hj=>by
  have h:=congrArg (fun l=>l[j]?) hL;simp only[List.getElem?_take,if_pos hj]at h;exact h
 simp only[spl,List.getElem?_take,List.getElem?_append,List.getElem?_drop,List.length_take,List.length_append,List.length_drop]
 repeat' (first | split | omega)
 all_goals (first | rfl | omega | exact (List.getElem?_eq_none (by omega)).symm | (congr 1;omega) | (rw[hcur _ (by omega)];first | done | (congr 1;omega)) | (symm;rw[List.getElem?_eq_none];simp;omega) | (rw[List.getElem?_eq_none];simp;omega) | skip)
theorem zkK {cs L Z:List C} {p q n:Nat} (hq:q<=L.length) (hpq:p<=q) (hL:cs.take L.length=L) (hn:n=p+(L.length-q)) (hc:L.length<=cs.length) (hz:n+Z.length<=cs.length) :
  (spl (spl cs p (L.drop q)) n Z).take n=L.take p++L.drop q:=by
 subst hn;apply List.ext_getElem?
 intro j;have hcur:∀ j,j<L.length->cs[j]?=L[j]?:=fun j hj=>by
  have h:=congrArg (fun l=>l[j]?) hL;simp only[List.getElem?_take,if_pos hj]at h;exact h
 simp only[spl,List.getElem?_take,List.getElem?_append,List.getElem?_drop,List.length_take,List.length_append,List.length_drop]
 repeat' (first | split | omega)
 all_goals (first | rfl | omega | exact (List.getElem?_eq_none (by omega)).symm | (congr 1;omega) | (rw[hcur _ (by omega)];first | done | (congr 1;omega)) | (symm;rw[List.getElem?_eq_none];simp;omega) | (rw[List.getElem?_eq_none];simp;omega) | skip)
theorem yq {P:Program} {f:FuncId} {fn:Func} {t e tR:TypeId} {s1 b1 k by':Nat} {kd:LK} {z1 z:Option (List Value)} (hf:P.funcs[f]?=some fn) (hname:(fn.name == "runtime.NumGoroutine")=false) (hb:fn.body.isNone=true) (hn:Extern.findNext fn=none)
  (he:Extern.find fn=some (Extern.SlicesOverlaps.overlaps #[t,t] #[tR])) (hl:lay P t=some ⟨.slice e,s1,b1,z1⟩) (hle:lay P e=some ⟨kd,k,by',z⟩) {id e' k' i off n c:Nat} {rows bx:List (List C)} {cs:List C} (hbx:bx[i]?=some cs) (hcs:cs≠[]) (hrows:rows≠[]) (hn0:0<n) :
  zrO P f [.own id e' k' rows,.bs i off k n c] bx (.sc (.bool false)):=by
 intro B R L vs hB hO hr;obtain ⟨v1,us,rfl,h1,hr⟩:=zh.1 hr;obtain ⟨v2,us,rfl,h2,hr⟩:=zh.1 hr;rw[zl]at hr;subst hr;refine ⟨.bool false,?_,zo.2 rfl⟩;rw[run_callFunc_extern hf hname hb hn he];have ht:=zZ hl rfl;have hz:∀ w,(Go.sizeOf e).run P w = .ok k w:=fun w=>qE hle w;obtain ⟨hT,a,cap,hv1,_⟩:=YF.1 h1;obtain ⟨b,hbi,ad,rfl,had⟩:=jf.1 h2;obtain ⟨us,ty,e1,e2,e3,e4⟩:=hB.box i b cs hbi hbx;have hsz:us.size≠0:=by
  have:=zt e2;simp only[Array.length_toList]at this;rw[this];exact fun h=>hcs (List.eq_nil_of_length_eq_zero h)
 rcases hO.own id e' k' v1 hT with hnil | ⟨g,n',cap',cur,ty',q1,q2,q3,q4,q5,q6,q7,q8⟩ | ⟨_,_,_,_,hmap,_⟩
 rotate_right
 ·rw[hv1]at hmap;unfold kf at hmap;cases hmap
 ·rw[hnil]at hv1;obtain ⟨_,h0,_⟩:=Value.slice.inj hv1;exact absurd (List.eq_nil_of_length_eq_zero h0.symm) hrows
 ·rw[q1];obtain rfl:=had (by omega);have hne:g≠b:=fun h=>q7 (h▸List.mem_of_getElem? hbi);rw[Lib.run_overlaps_apart R.w t tR e ht k hz ⟨g,0,none⟩ ⟨b,off,none⟩ n' cap' n c hne ty' ty cur.size us.size (by simp[World.shape?,q3]) (by simp[World.shape?,e1]) hsz (frozen_of_row R.w g 0 _ _ q3) (frozen_of_row R.w g _ _ _ q3)]
  rfl
theorem VC {m k:Nat} {z:List C} (hz:z.length=k):(List.replicate m z).flatten.length=m*k:=by
 have h:=qm (k:=k) (rows:=List.replicate m z) fun r hr=>by rw[(List.mem_replicate.1 hr).2];exact hz
 rw[h,List.length_replicate]
section
variable {P:Program} {t tn e s1 b1 s2 b2 k by' m i off n cap nx lg:Nat} {kd:LK} {kn kq:IntKind} {z1 z2 z3:Option (List Value)} {z:List Value} {cs xs:List C} {bx:List (List C)} {tm:List (Nat×C)} {d:C} {q:Int} {K3:C->St->Prop}
theorem zly (hl:lay P t=some ⟨.slice e,s1,b1,z1⟩) (hln:lay P tn=some ⟨.int kn,s2,b2,z2⟩) (hle:lay P e=some ⟨kd,k,by',some z⟩) (hz:z.length=k) (hk:0<k) (h1:(z.all Value.oneCell')=true)
  (hb:bx[i]?=some cs) (hfit:off+cap*k<=cs.length) (hn:n<=cap) (hq:0<q) (h63:(n:Int)+q<=9223372036854775807) (hby:((n:Int)+q)*by'<=140737488355328) (hg:(cap:Int)<n+q)
  (hK:∀ c' B,n+q.toNat<=c'->c'<=9223372036854775807->B.length=c'*k->B.take (n*k)=(cs.drop off).take (n*k)->K3 (.bs bx.length 0 k (n+q.toNat) c') ⟨tm,bx++[B],nx,lg⟩):uk P t tn (.bs i off k n cap) (.sc (.int kq q)) ⟨tm,bx,nx,lg⟩ K3 ⟨⟩:=by
 have hnk:n*k<=cap*k:=Nat.mul_le_mul_right _ hn;refine zsl hl hln hle hz hk h1 hb hfit hn hq h63 hby hg fun c' g1 g2=>hK c' _ g1 g2 ?_ ?_
 ·rw[List.length_append,List.length_append,VC (k:=k) (by simpa using hz),List.length_replicate,List.length_take,List.length_drop,Nat.min_eq_left (by omega),←Nat.add_mul,←Nat.add_mul];congr 1;omega
 ·rw[List.append_assoc,List.take_left' (by rw[List.length_take,List.length_drop];omega)]
theorem Xp (hl:lay P t=some ⟨.slice e,s1,b1,z1⟩) (hle:lay P e=some ⟨kd,k,by',z3⟩) (hx:d.xs? k bx=some (m,xs)) (hb:bx[i]?=some cs) (hxl:xs.length=m*k) (hfit:off+n*k<=cs.length)
  (hK:∀ B,B=spl cs off (xs.take (min m n*k))->B.length=cs.length->K3 (.sc (.int .i64 ((min m n:Nat):Int))) ⟨tm,bx.set i B,nx,lg⟩):MN P t (.bs i off k n cap) d ⟨tm,bx,nx,lg⟩ K3 ⟨⟩:=
 zlf hl hle hx hb hxl hfit (hK _ rfl (by
  have h1:min m n*k<=n*k:=Nat.mul_le_mul_right _ (Nat.min_le_right _ _);exact QP (by rw[List.length_take];omega)))
theorem zms (hl:lay P t=some ⟨.slice e,s1,b1,z1⟩) (hle:lay P e=some ⟨kd,k,by',some z⟩) (hb:bx[i]?=some cs) (hz:z.length=k) (hk:0<k) (h1:(z.all Value.oneCell')=true) (hfit:off+n*k<=cs.length)
  (hK:∀ B Z,B=spl cs off Z->Z.length=n*k->B.length=cs.length->K3 .any ⟨tm,bx.set i B,nx,lg⟩):xU P t (.bs i off k n cap) ⟨tm,bx,nx,lg⟩ K3 ⟨⟩:=by
 have hZ:(List.replicate n (z.map zA)).flatten.length=n*k:=VC (by simpa using hz);exact zpG hl hle hb hz hk h1 hfit (hK _ _ rfl hZ (QP (by omega)))
end
theorem kw {k i off n c:Nat} {bx:List (List C)} {cs:List C} (hb:bx[i]?=some cs) (h:off+n*k<=cs.length):C.xs? k bx (.bs i off k n c)=some (n,(cs.drop off).take (n*k)):=by
 simp[C.xs?,hb,h]
theorem Xk {k c i:Nat} {rows:List (List C)} (hk:∀ r∈rows,r.length=k) (hi:i<=rows.length):((qr k rows c).drop (i*k)).take ((rows.length-i)*k)=rows.flatten.drop (i*k):=by
 have hf:=qm hk;have h1:i*k<=rows.length*k:=Nat.mul_le_mul_right _ hi;unfold qr;rw[List.drop_append_of_le_length (by omega),List.take_left' (by rw[List.length_drop,hf,Nat.sub_mul])]
theorem X6 {k i:Nat} {rows:List (List C)} {x:List C} (hk:∀ r∈rows,r.length=k):rows.flatten.take (i*k)++(x++rows.flatten.drop (i*k))=(rows.take i++x :: rows.drop i).flatten:=by
 rw[Q0 hk,UX hk];simp
theorem un {bx:List (List C)} {i e k c:Nat} {rows:List (List C)} {cs:List C} (hb:bx[i]?=some cs) (hc:0<c) (h1:rows.length<=c) (h2:c<=9223372036854775807) (hl:cs.length=c*k) (hk:∀ r∈rows,r.length=k) (hs:(cs.all C.stayB)=true) (ht:cs.take (rows.length*k)=rows.flatten) :
  zb4 [(i,e,k,rows,c)] bx:=by
 refine ⟨by simp,fun x hx=>?_⟩;rw[List.mem_singleton]at hx;subst hx;exact ⟨cs,hb,hc,h1,by unfold maxLen;exact h2,hl,hk,by rw[NR hs];exact ht⟩
theorem zc2 {k c:Nat} {rows:List (List C)} (hk:∀ r∈rows,r.length=k):(qr k rows c).take (rows.length*k)=rows.flatten:=by
 unfold qr;rw[List.take_left' (qm hk)]
theorem zx {bx:List (List C)} {i e k c:Nat} {rows:List (List C)} (hb:bx[i]?=some (qr k rows c)) (hc:0<c) (h1:rows.length<=c) (h2:c<=9223372036854775807) (hk:∀ r∈rows,r.length=k) (hs:jd rows):zb4 [(i,e,k,rows,c)] bx:=
 un hb hc h1 h2 (Jt hk h1) hk (zD hs) (zc2 hk)
theorem vV {k c i:Nat} {rows:List (List C)} {row:List C} (hk:∀ r∈rows,r.length=k) (hr:row.length=k) (hi:i<rows.length):(qr k rows c).take (i*k)++row++(qr k rows c).drop (i*k+k)=qr k (rows.set i row) c:=by
 have hf:=qm hk;have h1:(i+1)*k<=rows.length*k:=Nat.mul_le_mul_right _ hi;rw[Nat.succ_mul]at h1;unfold qr;rw[List.take_append_of_le_length (by omega),List.drop_append_of_le_length (by omega),←Nat.succ_mul,Q0 hk,UX hk,List.length_set,←List.append_assoc];congr 1;rw[List.set_eq_take_append_cons_drop,if_pos hi];simp
def RLe:List (List C)->List (List C)->Prop
 | [],[]=>True
 | a :: r,b :: s=>zg [] 0 a b/\RLe r s
 | _,_=>False
theorem RLe.len:∀ {a b:List (List C)},RLe a b->a.length=b.length
 | [],[],_=>rfl
 | _ :: r,_ :: s,h=>by rw[List.length_cons,List.length_cons,RLe.len h.2]
theorem zg.len {src:Src} {n:Nat}:∀ {a b:List C},zg src n a b->a.length=b.length
 | [],[],_=>rfl
 | [],_ :: _,h=>by simp[zg]at h
 | _ :: _,[],h=>by simp[zg]at h
 | _ :: r,_ :: s,h=>by
  rw[zg]at h;rw[List.length_cons,List.length_cons,zg.len h.2]
theorem zdQ {R:Env} {c d:C} {v:Value} (h:CLe [] 0 c d) (hr:Rep R zH c v):Rep R zH d v:=by
 refine Rep.ext (Ext.refl R) (T:=Jh [] 0 zH) ⟨fun i b hb=>?_,fun id x hx=>?_⟩ _ _ (Rep.less _ _ _ h hr)
 ·simp at hb
 ·have hx:ZN [] zH.T id=some x:=hx;simp[ZN]at hx
theorem UG {R:Env} {b:Nat}:∀ {cs ds:List C} {o:Nat},zg [] 0 cs ds->zK R cs b o->zK R ds b o
 | [],[],_,_,h=>h
 | [],_ :: _,_,h,_=>by simp[zg]at h
 | _ :: _,[],_,h,_=>by simp[zg]at h
 | c :: r,d :: s,o,h,hr=>by
  rw[zg]at h;obtain ⟨⟨v,h1,h2,h3,h4⟩,h5⟩:=qj.1 hr;exact qj.2 ⟨⟨v,h1,h2,zdQ h.1 h3,h4⟩,UG h.2 h5⟩
theorem Hm {R:Env} {k b:Nat}:∀ {a c:List (List C)} {o:Nat},RLe a c->zN R a k b o->zN R c k b o
 | [],[],_,_,h=>h
 | x :: r,y :: s,o,h,hr=>by
  unfold zN at hr ⊢;exact ⟨(zg.len h.1).symm.trans hr.1,UG h.1 hr.2.1,Hm h.2 hr.2.2⟩
theorem zaG {R:Env} {L:Loc} {id e k:Nat} {a c:List (List C)} {v:Value} (h:RLe a c) (hr:Rep R L (.own id e k a) v):Rep R L (.own id e k c) v:=by
 obtain ⟨h1,ad,cap,h2,h3,h4,h5⟩:=YF.1 hr;refine YF.2 ⟨h1,ad,cap,by rw[h2,h.len],by rw[←h.len];exact h3,h4,?_⟩;rcases h5 with h5 | ⟨b,o,h5,h6⟩
 ·subst h5;have:=h.len;exact .inl (List.eq_nil_of_length_eq_zero (by simpa using this.symm))
 ·exact .inr ⟨b,o,h5,Hm h h6⟩
theorem Fun.resX {P:Program} {G:zp} {f:FuncId} {args:List C} {r r':C} {n:Nat} (hf:Fun P G f args r n) (h:∀ R L v,Rep R L r v->Rep R L r' v):Fun P G f args r' n:=
 ⟨hf.1,fun R vs hg ha=>(hf.2 R vs hg ha).mono fun e w' ⟨v,R',L',h1,h2,h3,h4⟩=>⟨v,R',L',h1,h2,h3,h _ _ _ h4⟩⟩
theorem zcq {R:Env} {L:Loc} {cs ds:List C} {v:Value} (h:∀ vs,zu R L cs vs->zu R L ds vs) (hr:Rep R L (.agg cs) v):Rep R L (.agg ds) v:=by
 obtain ⟨vs,h1,h2⟩:=j8.1 hr;exact j8.2 ⟨vs,h1,h _ h2⟩
theorem Ym {R:Env} {L:Loc} {c d:C} {cs ds:List C} {vs:List Value} (h:∀ v,Rep R L c v->Rep R L d v) (h':∀ vs,zu R L cs vs->zu R L ds vs) (hr:zu R L (c :: cs) vs):zu R L (d :: ds) vs:=by
 obtain ⟨v,us,rfl,h1,h2⟩:=zh.1 hr;exact zh.2 ⟨v,us,rfl,h _ h1,h' _ h2⟩
end
section
open Go.RowKit
def zdy (k:Nat) (rows:List (List C)) (r:C) (bx':List (List C)) (n:Nat):Prop:=
 n=0/\((rows≠[]/\∃ c,rows.length<=c/\c<=9223372036854775807/\r = .bs 1 0 k rows.length c/\bx' = [[],qr k rows c])∨(rows = []/\(r = .sc (.slice none 0 0)/\bx' = []∨r = .bs 0 0 k 0 0/\bx' = [[]])))
def zqu (k m:Nat) (ins:List (List C)) (r:C) (bx':List (List C)) (n:Nat):Prop:=
 n=0/\∃ c,ins.length<=c/\c<=9223372036854775807/\(r = .bs 0 0 k ins.length c/\bx' = [qr k ins c]∨r = .bs 1 0 k ins.length c/\bx' = [List.replicate m .any,qr k ins c])
section
variable {G:zp}
theorem Vj (rows:List (List C)) (hk:∀ r∈rows,r.length=6) (hs:jd rows) (hl:rows.length<=100000) :
  Yr Tryz.prog G 251 [.sl 6 rows] [] 0 (zdy 6 rows):=by
 refine Yr.bySlice (fun h=>?_) (fun h a cap hr=>?_)
 ·refine foX (fun i=>if i=1000000+22 then [true,true] else []) Tryz.func251 ?_;dsimp only[Tryz.f251];push_cast -dsimp;refine ⟨h,Zz Z4 Z5 rfl rfl (by decide) rfl (qm hk) rfl (Nat.le_refl _) (Nat.le_refl _) (by omega) (by omega) (fun hc=>absurd hc ?_) (fun _ c hc hm=>?_)⟩
  ·have:=List.length_pos_iff.2 h;omega
  ·push_cast -dsimp;rw[Nat.zero_add]at hc;refine ⟨_,_,_,⟨⟨rfl,.inl ⟨h,c,hc,hm,rfl,rfl⟩⟩,Nat.zero_le _⟩,[],rfl,rfl,?_,by push_cast -dsimp [ze,zd,CLe,zg]⟩;push_cast -dsimp [ze,zd,CLe,zg];exact zO (zD hs)
 ·cases a with
  | none =>
   refine foX (fun i=>if i=1000000+22 then [true,true] else []) Tryz.func251 ?_;dsimp only[Tryz.f251];push_cast -dsimp [hr,Option.isNone_none];exact ⟨_,_,_,⟨⟨rfl,.inr ⟨h,.inl ⟨rfl,rfl⟩⟩⟩,Nat.zero_le _⟩,[],rfl,rfl,by push_cast -dsimp [ze,zd,CLe,zg],by push_cast -dsimp [ze,zd,CLe,zg]⟩
  | some a =>
   refine foX (fun i=>if i=1000000+22 then [true,true] else []) Tryz.func251 ?_;dsimp only[Tryz.f251];push_cast -dsimp [hr,Option.isNone_some];have hx:C.xs? 6 [[]] (C.sc (.slice (some a) 0 cap))=some (0,[]):=by simp[C.xs?,hr]
   refine Zz Z4 Z5 hx rfl (by decide) rfl rfl rfl (Nat.le_refl _) (Nat.le_refl _) (by omega) (by omega) (fun _=>?_) (fun hc=>absurd hc (by omega));push_cast -dsimp;exact ⟨_,_,_,⟨⟨rfl,.inr ⟨h,.inr ⟨rfl,rfl⟩⟩⟩,Nat.zero_le _⟩,[],rfl,rfl,by (push_cast -dsimp [ze,zd,CLe,zg];simp[spl,zg]),by push_cast -dsimp [ze,zd,CLe,zg]⟩
theorem V4 (rows:List (List C)) (x:List C) (i c e:Nat) (hk:∀ r∈rows,r.length=6) (hx:x.length=6) (hs:jd rows) (hsx:(x.all C.stayB)=true) (hl:rows.length<=100000) (hi:i<=rows.length) (hc:rows.length<=c) (hcm:c<=9223372036854775807) :
  Yr Tryz.prog G 250 [.bs 0 0 6 rows.length c,.sc (.int .i64 i),.own 0 e 6 [x]] [qr 6 rows c] 1 (zqu 6 (c*6) (rows.take i++x :: rows.drop i)):=by
 refine foX (fun j=>if j=1000000+22 then [true,true] else if j=11 then [false,false,false,false,false,false,false,false,true] else if j=15 then [false,false,false,false,false,false,false,false,true] else []) Tryz.func250 ?_;dsimp only[Tryz.f250];push_cast -dsimp;have hlen:(rows.take i++x :: rows.drop i).length=rows.length+1:=by simp;omega
 have hki:∀ r∈rows.take i++x :: rows.drop i,r.length=6:=fun r hr=>by
  rcases List.mem_append.1 hr with hr | hr
  ·exact hk r (List.mem_of_mem_take hr)
  ·rcases List.mem_cons.1 hr with rfl | hr
   ·exact hx
   ·exact hk r (List.mem_of_mem_drop hr)
 have hsi:jd (rows.take i++x :: rows.drop i):=fun r hr=>by
  rcases List.mem_append.1 hr with hr | hr
  ·exact hs r (List.mem_of_mem_take hr)
  ·rcases List.mem_cons.1 hr with rfl | hr
   ·exact hsx
   ·exact hs r (List.mem_of_mem_drop hr)
 have hbl:=Jt hk hc;have hfl:=qm hk;have hxl:[x].flatten.length=1*6:=by simp[hx]
 have hpre:(qr 6 rows c).take rows.flatten.length=rows.flatten:=by unfold qr;rw[List.take_left]
 refine ⟨hc,⟨by omega,hi⟩,br (fun h=>?_) (fun h=>?_)⟩
 ·push_cast -dsimp;refine Zz Z4 Z5 rfl rfl (by decide) rfl hxl rfl (by rw[hbl];omega) hc (by simp;omega) (by simp;omega) (fun h1=>?_) (fun h1 c' h2 h3=>?_)
  ·push_cast -dsimp;have hi':i=rows.length:=of_decide_eq_true h;refine ⟨_,_,_,⟨⟨rfl,c,by rw[hlen];exact h1,hcm,.inl ⟨rfl,rfl⟩⟩,Nat.le_refl _⟩,[],rfl,rfl,?_,by push_cast -dsimp [ze,zd,CLe,zg,hlen]⟩;push_cast -dsimp [ze,zd,CLe,zg];have h6:rows.length*6+6<=c*6:=by have:rows.length+1<=c:=h1;omega
   refine Jp hki hsi (by rw[hlen];exact h1) (by rw[QP (by rw[hbl,hx];exact h6),hbl]) ?_;rw[hlen,hi',List.take_length,List.drop_length];unfold spl;rw[←hfl,hpre,List.take_left' (by simp[hx,hfl];omega)];simp
  ·push_cast -dsimp;have hi':i=rows.length:=of_decide_eq_true h;have h2':rows.length+1<=c':=h2;refine ⟨_,_,_,⟨⟨rfl,c',by rw[hlen];exact h2,h3,.inr ⟨rfl,rfl⟩⟩,Nat.le_of_ble_eq_true rfl⟩,[],rfl,rfl,?_,by push_cast -dsimp [ze,zd,CLe,zg,hlen]⟩;push_cast -dsimp [ze,zd,CLe,zg];refine ⟨Xm hbl,Jp hki hsi (by rw[hlen];exact h2) (by simp[hx,hbl];omega) ?_⟩;rw[hlen,hi',List.take_length,List.drop_length,←hfl,hpre,List.take_left' (by simp[hx,hfl];omega)];simp
 ·have hne:i≠rows.length:=of_decide_eq_false h;push_cast -dsimp;refine ⟨⟨by omega,by omega⟩,br (fun h1=>?_) (fun h1=>?_)⟩
  ·have h1':(c:Int)<(rows.length:Int)+1:=of_decide_eq_true h1;push_cast -dsimp
   repeat refine an ?_
   refine zly Z4 znu Z5 rfl (by decide) rfl rfl (by rw[hbl];omega) (by omega) (by omega) (by omega) (by omega) (by omega) (fun c' B h2 h3 hBl hBt=>?_);have e1:((rows.length:Int)+1-(i:Int)).toNat=rows.length+1-i:=by omega
   rw[e1]at h2 ⊢;have e2:i+(rows.length+1-i)=rows.length+1:=by omega
   rw[e2]at h2 ⊢;push_cast -dsimp
   repeat refine an ?_
   refine Xp Z4 Z5 rfl rfl hxl (by rw[hBl];omega) (fun B1 hB1 hl1=>?_);rw[hBl]at hl1;push_cast -dsimp
   repeat refine an ?_
   have hbp:=Xk (c:=c) hk hi;refine Xp Z4 Z5 (kw rfl (by rw[hbl];omega)) rfl (by rw[hbp,List.length_drop,hfl];omega) (by rw[hl1];omega) (fun B2 hB2 hl2=>?_);rw[hl1]at hl2;have hX:[x].flatten.take (min [x].length (rows.length+1-i)*6)=x:=by
    rw[List.length_singleton,Nat.min_eq_left (by omega),List.take_of_length_le (by omega)];simp
   rw[hX]at hB1;rw[hbp,show min (rows.length-i) (rows.length-i)*6=(rows.length-i)*6 by omega,List.take_of_length_le (by rw[List.length_drop,hfl];omega),hB1]at hB2;push_cast -dsimp;refine ⟨_,_,_,⟨⟨rfl,c',by rw[hlen];exact h2,h3,.inr ⟨rfl,rfl⟩⟩,Nat.le_of_ble_eq_true rfl⟩,[],rfl,rfl,?_,by push_cast -dsimp [ze,zd,CLe,zg,hlen]⟩;push_cast -dsimp [ze,zd,CLe,zg];refine ⟨Xm hbl,Jp hki hsi (by rw[hlen];exact h2) hl2 ?_⟩;rw[hlen,←X6 hk,hB2];have hg:=GW (cs:=B) (L:=rows.flatten) (X:=x) (p:=i*6) (q:=(i+1)*6) (by omega) (by omega) (by
    rw[hBt,List.drop_zero];unfold qr;rw[List.take_append_of_le_length (by omega)]) (by omega)
   rw[hfl,hx]at hg;rw[←hg];congr 1;omega
  ·have h1':¬(c:Int)<(rows.length:Int)+1:=of_decide_eq_false h1;push_cast -dsimp
   repeat refine an ?_
   refine zla (yq (P:=Tryz.prog) (tR:=4) Tryz.func277 (by kernel_rfl) (by kernel_rfl) (by kernel_rfl) (by kernel_rfl) Z4 Z5 rfl (List.ne_nil_of_length_pos (by rw[hbl];omega)) (by simp) (by omega)) ?_;push_cast -dsimp
   repeat refine an ?_
   have hbp:=Xk (c:=c) hk hi;refine Xp Z4 Z5 (kw rfl (by rw[hbl];omega)) rfl (by simp[hbl];omega) (by rw[hbl];omega) (fun B1 hB1 hl1=>?_);rw[hbl]at hl1;rw[List.take_take,Nat.min_eq_left (by omega),show min (rows.length+1-i) (rows.length-i)*6=(rows.length-i)*6 by omega,hbp]at hB1;push_cast -dsimp
   repeat refine an ?_
   refine Xp Z4 Z5 rfl rfl hxl (by rw[hl1];omega) (fun B2 hB2 hl2=>?_);rw[hl1]at hl2;have hX:[x].flatten.take (min [x].length (rows.length+1-i)*6)=x:=by
    rw[List.length_singleton,Nat.min_eq_left (by omega),List.take_of_length_le (by omega)];simp
   rw[hX,hB1]at hB2;push_cast -dsimp;have hcc:rows.length+1<=c:=by omega
   refine ⟨_,_,_,⟨⟨rfl,c,by rw[hlen];exact hcc,hcm,.inl ⟨rfl,rfl⟩⟩,Nat.le_of_ble_eq_true rfl⟩,[],rfl,rfl,?_,by push_cast -dsimp [ze,zd,CLe,zg,hlen]⟩;push_cast -dsimp [ze,zd,CLe,zg];refine Jp hki hsi (by rw[hlen];exact hcc) hl2 ?_;rw[hlen,←X6 hk,hB2];have hg:=UI (cs:=qr 6 rows c) (L:=rows.flatten) (X:=x) (p:=i*6) (q:=(i+1)*6) (by omega) (by omega) hpre (by omega);rw[hfl,hx]at hg;rw[←hg];congr 1;omega
theorem uT {e:Nat} (x:List C) (hx:x.length=6) (hsx:(x.all C.stayB)=true) :
  Yr Tryz.prog G 250 [.sc (.slice none 0 0),.sc (.int .i64 0),.own 0 e 6 [x]] [] 1 (fun r bx' n=>n=0/\∃ c,1<=c/\c<=9223372036854775807/\r = .bs 0 0 6 1 c/\bx' = [qr 6 [x] c]):=by
 refine foX (fun j=>if j=1000000+22 then [true,true] else if j=11 then [false,false,false,false,false,false,false,false,true] else if j=15 then [false,false,false,false,false,false,false,false,true] else []) Tryz.func250 ?_;dsimp only[Tryz.f250];push_cast -dsimp;refine GS Z4 Z5 rfl rfl (by decide) rfl (by simp[hx]) (by simp) (by simp) (by simp) (fun c h1 h2=>?_);push_cast -dsimp;refine ⟨_,_,_,⟨⟨rfl,c,h1,h2,rfl,rfl⟩,Nat.zero_le _⟩,[],rfl,rfl,?_,by push_cast -dsimp [ze,zd,CLe,zg]⟩;push_cast -dsimp [ze,zd,CLe,zg];have:=zO (src:=[]) (n:=1) (zD (k:=6) (c:=c) (rows:=[x]) fun r hr=>by
  rw[List.mem_singleton.1 hr];exact hsx)
 unfold qr at this ⊢;simpa using this
theorem zjr (rows:List (List C)) (i c:Nat) (hk:∀ r∈rows,r.length=6) (hs:jd rows) (hl:rows.length<=100000) (hi:i<rows.length) (hc:rows.length<=c) (hcm:c<=9223372036854775807) :
  Nj Tryz.prog G 295 [.bs 0 0 6 rows.length c,.sc (.int .i64 i),.sc (.int .i64 ((i:Int)+1))] [qr 6 rows c] 0 (.bs 0 0 6 (rows.length-1) c) [qr 6 (rows.take i++rows.drop (i+1)) c] 0:=by
 refine foB (fun j=>if j=1000000+22 then [true,true] else if j=5 then [false,false,false,false,false,false,true,false] else []) Tryz.func295 ?_;dsimp only[Tryz.f295];have h1:((i:Int)=(i:Int)+1)=False:=eq_false (by omega);have hbl:=Jt hk hc;have hfl:=qm hk;have hpre:(qr 6 rows c).take rows.flatten.length=rows.flatten:=by unfold qr;rw[List.take_left]
 have hlen:(rows.take i++rows.drop (i+1)).length=rows.length-1:=by simp;omega
 have hki:∀ r∈rows.take i++rows.drop (i+1),r.length=6:=fun r hr=>by
  rcases List.mem_append.1 hr with hr | hr
  ·exact hk r (List.mem_of_mem_take hr)
  ·exact hk r (List.mem_of_mem_drop hr)
 have hsi:jd (rows.take i++rows.drop (i+1)):=fun r hr=>by
  rcases List.mem_append.1 hr with hr | hr
  ·exact hs r (List.mem_of_mem_take hr)
  ·exact hs r (List.mem_of_mem_drop hr)
 have hbp:=Xk (c:=c) (i:=i+1) hk hi;push_cast -dsimp [h1]
 repeat refine an ?_
 have hxl:(List.drop ((i+1)*6) rows.flatten).length=(rows.length-(i+1))*6:=by rw[List.length_drop,hfl];omega
 refine Zz Z4 Z5 (kw rfl (by rw[hbl];omega)) rfl (by decide) rfl (by rw[hbp,hxl]) rfl (by rw[hbl];omega) (by omega) (by omega) (by omega) (fun _=>?_) (fun h=>absurd h (by omega));rw[hbp];have e1:i+(rows.length-(i+1))=rows.length-1:=by omega
 rw[e1];generalize hB1:spl (qr 6 rows c) (0+i*6) (List.drop ((i+1)*6) rows.flatten)=B1;have hl1:B1.length=c*6:=by rw[←hB1,QP (by rw[hbl,hxl];omega),hbl]
 push_cast -dsimp
 repeat refine an ?_
 refine zms Z4 Z5 rfl rfl (by decide) rfl (by rw[hl1];omega) (fun B2 Z hB2 hZ hl2=>?_);rw[hl1]at hl2;push_cast -dsimp;refine ⟨[],rfl,rfl,?_,by push_cast -dsimp [ze,zd,CLe,zg]⟩;push_cast -dsimp [ze,zd,CLe,zg];refine Jp hki hsi (by rw[hlen];omega) hl2 ?_;have hg:=zkK (cs:=qr 6 rows c) (L:=rows.flatten) (Z:=Z) (p:=i*6) (q:=(i+1)*6) (n:=(rows.length-1)*6) (by omega) (by omega) hpre (by omega) (by omega) (by rw[hZ];omega);rw[hlen,hB2,←hB1,List.flatten_append,←Q0 hk,←UX hk,←hg,Nat.zero_add]
end
end
section
structure zW where
 name:List UInt8
 ino:Int
deriving DecidableEq,Inhabited
structure zm where
 ino:Int
 kind:Int
 links:Int
 data:List UInt8
 parent:Int
 es:List zW
deriving DecidableEq,Inhabited
def zX (xs:List zm):Prop:=xs.Pairwise fun a b=>a.ino<b.ino
def zk (n:Int) (xs:List zm):Bool:=xs.any fun x=>x.ino==n
def jj (n:Int) (xs:List zm):Nat:=(xs.filter fun x=>decide (x.ino<n)).length
def z8 (n:Int) (xs:List zm):List zm:=xs.filter fun x=>x.ino != n
def YZ (n:Int) (xs:List zm):Option zm:=xs.find? fun x=>x.ino==n
def Zg (x:zm):List zm->List zm
 | []=>[x]
 | y :: r=>if x.ino<y.ino then x :: y :: r else y :: Zg x r
def ql (x:zm) (xs:List zm):List zm:=Zg x (z8 x.ino xs)
theorem Ng (n:Int):∀ (xs:List zm) (i:Nat),i<=xs.length->(∀ t (h:t<xs.length),t<i->xs[t].ino<n)->(∀ t (h:t<xs.length),i<=t->n<=xs[t].ino)->jj n xs=i
 | [],i,h,_,_=>by simp at h;simp[jj,h]
 | x :: r,0,_,_,h2=>by
  have hx:n<=x.ino:=h2 0 (by simp) (Nat.le_refl _);have ih:=Ng n r 0 (Nat.zero_le _) (fun t h h'=>absurd h' (Nat.not_lt_zero _)) (fun t h _=>h2 (t+1) (by simp;omega) (Nat.zero_le _));unfold jj at ih ⊢;rw[List.filter_cons_of_neg (by simp;omega)];exact ih
 | x :: r,i+1,h,h1,h2=>by
  have hx:x.ino<n:=h1 0 (by simp) (Nat.succ_pos _);have ih:=Ng n r i (by simpa using h) (fun t h h'=>h1 (t+1) (by simp;omega) (by omega)) (fun t h h'=>h2 (t+1) (by simp;omega) (by omega));unfold jj at ih ⊢;rw[List.filter_cons_of_pos (by simp;omega),List.length_cons,ih]
theorem zkf (n:Int) (xs:List zm) (i:Nat) (hi:i<xs.length) (h1:∀ t (h:t<xs.length),t<i->xs[t].ino<n) (h2:n<=xs[i].ino) (hR:zX xs):zk n xs=decide (xs[i].ino=n):=by
 by_cases h:xs[i].ino=n
 ·rw[decide_eq_true h];exact List.any_eq_true.2 ⟨xs[i],List.getElem_mem hi,by simp[h]⟩
 ·rw[decide_eq_false h];apply Bool.eq_false_iff.2;intro hh;obtain ⟨y,hy,e⟩:=List.any_eq_true.1 hh;obtain ⟨t,ht,rfl⟩:=List.getElem_of_mem hy;have e:xs[t].ino=n:=by simpa using e
  rcases Nat.lt_trichotomy t i with h3 | h3 | h3
  ·have:=h1 t ht h3;omega
  ·subst h3;exact h e
  ·have:=(List.pairwise_iff_getElem.1 hR) i t hi ht h3;omega
theorem zfe (n:Int) (xs:List zm) (h1:∀ t (h:t<xs.length),xs[t].ino<n):zk n xs=false:=by
 apply Bool.eq_false_iff.2;intro hh;obtain ⟨y,hy,e⟩:=List.any_eq_true.1 hh;obtain ⟨t,ht,rfl⟩:=List.getElem_of_mem hy;have e:xs[t].ino=n:=by simpa using e
 have:=h1 t ht;omega
theorem HU {n:Int} {xs:List zm} (h:zk n xs=false):YZ n xs=none:=by
 unfold YZ zk at *;rw[List.find?_eq_none];intro x hx hh;rw[List.any_eq_false]at h;exact h x hx hh
theorem zct (n:Int) (xs:List zm) (hR:zX xs):∃ i,i<=xs.length/\(∀ t (h:t<xs.length),t<i->xs[t].ino<n)/\(∀ t (h:t<xs.length),i<=t->n<=xs[t].ino):=by
 induction xs with
 | nil=>exact ⟨0,Nat.le_refl _,fun t h=>absurd h (Nat.not_lt_zero _),fun t h=>absurd h (Nat.not_lt_zero _)⟩
 | cons x r ih =>
  by_cases hx:x.ino<n
  ·obtain ⟨i,h1,h2,h3⟩:=ih (List.pairwise_cons.1 hR).2;refine ⟨i+1,by simp;omega,fun t h ht=>?_,fun t h ht=>?_⟩
   ·cases t with
    | zero=>exact hx
    | succ t=>exact h2 t (by simpa using h) (by omega)
   ·cases t with
    | zero=>omega
    | succ t=>exact h3 t (by simpa using h) (by omega)
  ·refine ⟨0,Nat.zero_le _,fun t h ht=>absurd ht (Nat.not_lt_zero _),fun t h _=>?_⟩;cases t with
   | zero=>simp;omega
   | succ t =>
    have:=(List.pairwise_cons.1 hR).1 (r[t]'(by simpa using h)) (List.getElem_mem _);simp;omega
theorem zgA (n:Int) (xs:List zm):jj n xs<=xs.length:=List.length_filter_le _ _
theorem zeS {n:Int} {xs:List zm} (hR:zX xs):(∀ t (h:t<xs.length),t<jj n xs->xs[t].ino<n)/\(∀ t (h:t<xs.length),jj n xs<=t->n<=xs[t].ino):=by
 obtain ⟨i,h1,h2,h3⟩:=zct n xs hR;rw[Ng n xs i h1 h2 h3];exact ⟨h2,h3⟩
theorem zjH {n:Int} {xs:List zm} (hR:zX xs) (h:zk n xs=true):∃ hlt:jj n xs<xs.length,xs[jj n xs].ino=n:=by
 obtain ⟨h2,h3⟩:=zeS (n:=n) hR;by_cases hlt:jj n xs<xs.length
 ·refine ⟨hlt,?_⟩;have:=zkf n xs _ hlt h2 (h3 _ hlt (Nat.le_refl _)) hR;rw[h]at this;exact of_decide_eq_true this.symm
 ·have:=zfe n xs (fun t h=>h2 t h (by omega));rw[h]at this;cases this
theorem Gx {n:Int} {xs:List zm} (hR:zX xs) (h:zk n xs=true):∃ hlt:jj n xs<xs.length,YZ n xs=some xs[jj n xs]:=by
 obtain ⟨hlt,he⟩:=zjH hR h;refine ⟨hlt,?_⟩;obtain ⟨h2,h3⟩:=zeS (n:=n) hR;unfold YZ;rw[List.find?_eq_some_iff_getElem];exact ⟨by simp[he],_,hlt,rfl,fun j hj=>by have:=h2 j (by omega) hj;simp;omega⟩
theorem jK {y:zm} {r:List zm}:zX (y :: r)↔(∀ z∈r,y.ino<z.ino)/\zX r:=List.pairwise_cons
theorem X4 {n:Int} {y:zm} {r:List zm} (h:y.ino<n):jj n (y :: r)=jj n r+1:=by
 unfold jj;rw[List.filter_cons_of_pos (by simpa using h),List.length_cons]
theorem ko {n:Int} {xs:List zm} (h:∀ z∈xs,n<=z.ino):jj n xs=0:=by
 unfold jj;rw[List.length_eq_zero_iff,List.filter_eq_nil_iff];intro z hz;have:=h z hz;simp;omega
theorem X8 {n:Int} {xs:List zm} (h:zk n xs=false):z8 n xs=xs:=by
 unfold z8;rw[List.filter_eq_self];intro z hz;unfold zk at h;rw[List.any_eq_false]at h;have:=h z hz;simpa using this
theorem QD {n:Int} {y:zm} {r:List zm} (h:y.ino<n):zk n (y :: r)=zk n r:=by
 unfold zk;rw[List.any_cons,show (y.ino==n)=false by rw[beq_eq_false_iff_ne];omega,Bool.false_or]
theorem Vk {n:Int} {xs:List zm} (h:∀ z∈xs,n<z.ino):zk n xs=false:=by
 unfold zk;rw[List.any_eq_false];intro z hz;have:=h z hz;simp;omega
theorem JB {n:Int} {y:zm} {r:List zm} (h:y.ino≠n):z8 n (y :: r)=y :: z8 n r:=by
 unfold z8;rw[List.filter_cons_of_pos (by simpa using h)]
theorem j3 {n:Int} {y:zm} {r:List zm} (h:y.ino=n):z8 n (y :: r)=z8 n r:=by
 unfold z8;rw[List.filter_cons_of_neg (by simpa using h)]
theorem zad {n:Int}:∀ {xs:List zm},zX xs->zk n xs=true->xs.take (jj n xs)++xs.drop (jj n xs+1)=z8 n xs
 | [],_,h=>by cases h
 | y :: r,hR,h=>by
  obtain ⟨h1,h2⟩:=jK.1 hR;by_cases hy:y.ino<n
  ·rw[X4 hy,List.take_succ_cons,List.drop_succ_cons,List.cons_append,zad h2 (by rwa [QD hy]at h),JB (by omega)]
  ·have hr0:jj n (y :: r)=0:=ko fun z hz=>by
    rcases List.mem_cons.1 hz with rfl | hz
    ·omega
    ·have:=h1 z hz;omega
   by_cases he:y.ino=n
   ·rw[hr0,j3 he,X8 (Vk fun z hz=>by have:=h1 z hz;omega)];rfl
   ·exfalso
    rw[Vk fun z hz=>by
     rcases List.mem_cons.1 hz with rfl | hz
     ·omega
     ·have:=h1 z hz;omega]at h
    cases h
theorem zpp {x y:zm} {r:List zm} (h:y.ino<x.ino):Zg x (y :: r)=y :: Zg x r:=by
 rw[Zg,if_neg (by omega)]
theorem zdn {x:zm} {xs:List zm} (h:∀ z∈xs,x.ino<z.ino):Zg x xs=x :: xs:=by
 cases xs with
 | nil=>rfl
 | cons y r=>rw[Zg,if_pos (h y List.mem_cons_self)]
theorem QF {x y:zm} {r:List zm} (h:y.ino<x.ino):ql x (y :: r)=y :: ql x r:=by
 unfold ql;rw[JB (by omega),zpp h]
theorem yi {x:zm}:∀ {xs:List zm},zX xs->zk x.ino xs=true->xs.set (jj x.ino xs) x=ql x xs
 | [],_,h=>by cases h
 | y :: r,hR,h=>by
  obtain ⟨h1,h2⟩:=jK.1 hR;by_cases hy:y.ino<x.ino
  ·rw[X4 hy,List.set_cons_succ,yi h2 (by rwa [QD hy]at h),QF hy]
  ·have hr0:jj x.ino (y :: r)=0:=ko fun z hz=>by
    rcases List.mem_cons.1 hz with rfl | hz
    ·omega
    ·have:=h1 z hz;omega
   by_cases he:y.ino=x.ino
   ·unfold ql;rw[hr0,j3 he,X8 (Vk fun z hz=>by have:=h1 z hz;omega),zdn fun z hz=>by have:=h1 z hz;omega];rfl
   ·exfalso
    rw[Vk fun z hz=>by
     rcases List.mem_cons.1 hz with rfl | hz
     ·omega
     ·have:=h1 z hz;omega]at h
    cases h
theorem xI {x:zm}:∀ {xs:List zm},zX xs->zk x.ino xs=false->xs.take (jj x.ino xs)++x :: xs.drop (jj x.ino xs)=ql x xs
 | [],_,_=>rfl
 | y :: r,hR,h=>by
  obtain ⟨h1,h2⟩:=jK.1 hR;by_cases hy:y.ino<x.ino
  ·rw[X4 hy,List.take_succ_cons,List.drop_succ_cons,List.cons_append,xI h2 (by rwa [QD hy]at h),QF hy]
  ·have hne:y.ino≠x.ino:=by
    intro e;unfold zk at h;rw[List.any_cons,e]at h;simp at h
   have hr0:jj x.ino (y :: r)=0:=ko fun z hz=>by
    rcases List.mem_cons.1 hz with rfl | hz
    ·omega
    ·have:=h1 z hz;omega
   unfold ql;rw[hr0,X8 h,zdn fun z hz=>by
    rcases List.mem_cons.1 hz with rfl | hz
    ·omega
    ·have:=h1 z hz;omega]
   rfl
theorem zix {n:Int} {xs:List zm}:∀ x∈z8 n xs,x∈xs:=fun x h=>(List.mem_filter.1 h).1
theorem Nf {x:zm}:∀ {xs:List zm} {z:zm},z∈Zg x xs↔z=x∨z∈xs
 | [],z=>by simp[Zg]
 | y :: r,z=>by
  rw[Zg];split
  ·simp
  ·rw[List.mem_cons,Nf,List.mem_cons];constructor
   ·rintro (h | h | h)<;>simp[h]
   ·rintro (h | h | h)<;>simp[h]
theorem zmI {x:zm} {xs:List zm} {z:zm} (h:z∈ql x xs):z=x∨z∈xs:=by
 rcases Nf.1 h with h | h
 ·exact .inl h
 ·exact .inr (zix _ h)
theorem Hp {n:Int} {xs:List zm} (h:zX xs):zX (z8 n xs):=List.Pairwise.filter _ h
theorem xl {x:zm}:∀ {xs:List zm},zX xs->(∀ z∈xs,z.ino≠x.ino)->zX (Zg x xs)
 | [],_,_=>by simp[Zg,zX]
 | y :: r,h,hne=>by
  obtain ⟨h1,h2⟩:=jK.1 h;have hy:=hne y List.mem_cons_self;rw[Zg];split
  ·next hlt =>
   refine jK.2 ⟨fun z hz=>?_,h⟩;rcases List.mem_cons.1 hz with rfl | hz
   ·exact hlt
   ·have:=h1 z hz;omega
  ·next hlt =>
   refine jK.2 ⟨fun z hz=>?_,xl h2 fun z hz=>hne z (List.mem_cons_of_mem _ hz)⟩;rcases Nf.1 hz with rfl | hz
   ·omega
   ·exact h1 z hz
theorem z6 {x:zm} {xs:List zm} (h:zX xs):zX (ql x xs):=xl (Hp h) fun z hz=>by
 have:=(List.mem_filter.1 hz).2;simpa using this
theorem zda {x:zm}:∀ {xs:List zm},(Zg x xs).length=xs.length+1
 | []=>rfl
 | y :: r=>by
  rw[Zg];split
  ·rfl
  ·rw[List.length_cons,zda,List.length_cons]
theorem Q5 {n:Int} {xs:List zm}:(z8 n xs).length<=xs.length:=List.length_filter_le _ _
theorem zft {x:zm} {xs:List zm}:(ql x xs).length<=xs.length+1:=by
 unfold ql;rw[zda];have:=Q5 (n:=x.ino) (xs:=xs);omega
end
section
open CA CB
open Go.RowKit
abbrev GE (e:zW):List C:=[.str e.name,.sc (.int .i64 e.ino)]
abbrev zL (es:List zW):List (List C):=es.map GE
abbrev JU (x:zm):List C:=[.sc (.int .i64 x.ino),.sc (.int .i64 x.kind),.sc (.int .i64 x.links),.str x.data,.sc (.int .i64 x.parent),.sl 2 (zL x.es)]
abbrev zq (xs:List zm):List (List C):=xs.map JU
structure FsV where
 maxI:Int
 maxB:Int
 next:Int
 xs:List zm
deriving DecidableEq,Inhabited
abbrev fsC (f:FsV):List C:=[.sc (.int .i64 f.maxI),.sc (.int .i64 f.maxB),.sc (.int .i64 f.next),.sl 6 (zq f.xs)]
theorem qU (xs:List zm) (i:Nat) (h:i<xs.length):(zq xs)[i]?=some (JU xs[i]):=by simp[List.getElem?_map,List.getElem?_eq_getElem h]
theorem JH (xs:List zW) (i:Nat) (h:i<xs.length):(zL xs)[i]?=some (GE xs[i]):=by simp[List.getElem?_map,List.getElem?_eq_getElem h]
def uX:zm:=⟨0,0,0,[],0,[]⟩
def zf (n:Int) (xs:List zm):zm:=(YZ n xs).getD uX
def Ug (a b:Int):Int:=if a<b then -1 else if b<a then 1 else 0
section
variable {G:zp}
theorem zfj (a:Int):Fun Tryz.prog G 225 [.sc (.int .i64 a)] (.sc (.bool false)) 0:=by
 refine fon Tryz.func225 ?_;dsimp only[Tryz.f225];push_cast -dsimp;exact dn
theorem yY (a b:Int):Fun Tryz.prog G 182 [.sc (.int .i64 a),.sc (.int .i64 b)] (.sc (.int .i64 (Ug a b))) 0:=by
 refine fon Tryz.func182 ?_;dsimp only[Tryz.f182];push_cast -dsimp;refine cl (zfj a) ?_;push_cast -dsimp;refine cl (zfj b) ?_;push_cast -dsimp;refine br (fun h=>?_) (fun h=>?_)
 ·have h:=of_decide_eq_true h;push_cast -dsimp;exact ⟨[],rfl,rfl,by (push_cast -dsimp [ze,zd,CLe,zg];simp[Ug,h])⟩
 ·have h:=of_decide_eq_false h;push_cast -dsimp;refine br (fun h1=>?_) (fun h1=>?_)
  ·have h1:=of_decide_eq_true h1;push_cast -dsimp;exact ⟨[],rfl,rfl,by (push_cast -dsimp [ze,zd,CLe,zg];simp[Ug,h,h1])⟩
  ·have h1:=of_decide_eq_false h1;push_cast -dsimp;exact ⟨[],rfl,rfl,by (push_cast -dsimp [ze,zd,CLe,zg];simp[Ug,h,h1])⟩
theorem zfZ (x:zm) (n:Int):Fun Tryz.prog G 181 [.agg (JU x),.sc (.int .i64 n)] (.sc (.int .i64 (Ug x.ino n))) 0:=by
 refine fon Tryz.func181 ?_;dsimp only[Tryz.f181];push_cast -dsimp;refine cl (yY x.ino n) ?_;push_cast -dsimp;exact dn
theorem xX (xs:List zm) (n:Int) (hl:xs.length<=100000) (hR:zX xs) :
  Fun Tryz.prog G 180 [.sl 6 (zq xs),.sc (.int .i64 n),.clo (.func 181) [] []] (.tup [.sc (.int .i64 (jj n xs:Nat)),.sc (.bool (zk n xs))]) 0:=by
 refine fon Tryz.func180 ?_;dsimp only[Tryz.f180];push_cast -dsimp;refine loop (fun p:Nat×Nat=>⟨[(0,.sl 6 (zq xs)),(1,.sc (.int .i64 n)),(2,.clo (.func 181) [] []),(8,.sc (.int .i64 (xs.length:Nat))),(9,.sc (.int .i64 p.1)),(10,.sc (.int .i64 p.2))],[],0,0⟩)
  (fun p=>p.1<=p.2/\p.2<=xs.length/\(∀ t (h:t<xs.length),t<p.1->xs[t].ino<n)/\∀ t (h:t<xs.length),p.2<=t->n<=xs[t].ino) (fun p=>p.2-p.1) (0,xs.length) ⟨Nat.zero_le _,Nat.le_refl _,fun t _ h=>by (simp at h),fun t h h'=>by (dsimp only at h';omega)⟩ ?_ ?_
 ·exact wk (by push_cast -dsimp [ze,zd,CLe,zg,List.length_map])
 ·rintro ⟨i,j⟩ ⟨h1,h2,h3,h4⟩;dsimp only at h1 h2 h3 h4 ⊢;by_cases h:i<j
  ·obtain ⟨m,hm⟩:∃ m,m=(i+j) / 2:=⟨_,rfl⟩;have hmi:((i:Int)+(j:Int)) / 2=(m:Int):=by omega
   have hml:m<xs.length:=by omega
   have hat:=qU xs m hml;push_cast -dsimp [h,hmi,hat]
   repeat refine an ?_
   refine cl (zfZ xs[m] n) ?_;push_cast -dsimp;by_cases hc:xs[m].ino<n
   ·have hcv:Ug xs[m].ino n = -1:=by simp[Ug,hc]
    push_cast -dsimp [hcv]
    repeat refine an ?_
    refine ⟨(m+1,j),⟨by omega,h2,fun t ht hlt=>?_,h4⟩,by dsimp only;omega,wk⟩;dsimp only at hlt;rcases Nat.lt_or_ge t m with q | q
    ·have:=(List.pairwise_iff_getElem.1 hR) t m ht hml q;omega
    ·have:t=m:=by omega
     subst this;exact hc
   ·have hcv:(Ug xs[m].ino n<0)=False:=eq_false (by unfold Ug;rw[if_neg hc];split<;>omega);push_cast -dsimp [hcv]
    repeat refine an ?_
    refine ⟨(i,m),⟨by omega,by omega,h3,fun t ht hge=>?_⟩,by dsimp only;omega,wk⟩;dsimp only at hge;rcases Nat.lt_or_ge m t with q | q
    ·have:=(List.pairwise_iff_getElem.1 hR) m t hml ht q;omega
    ·have:t=m:=by omega
     subst this;omega
  ·have hij:i=j:=by omega
   subst hij;have hrk:=Ng n xs i h2 h3 h4;push_cast -dsimp [h];refine br (fun hx=>?_) (fun hx=>?_)
   ·have hx:i<xs.length:=by simpa using hx
    have hat:=qU xs i hx;have hh:=zkf n xs i hx h3 (h4 i hx (Nat.le_refl _)) hR;push_cast -dsimp [hx,hat]
    repeat refine an ?_
    refine cl (zfZ xs[i] n) ?_;push_cast -dsimp;have hcv:decide (Ug xs[i].ino n=0)=zk n xs:=by
     rw[hh];have:=h4 i hx (Nat.le_refl _);unfold Ug;rw[if_neg (by omega)];split
     ·rw[decide_eq_false (by omega),decide_eq_false (by omega)]
     ·rw[decide_eq_true (by rfl),decide_eq_true (by omega)]
    push_cast -dsimp [hcv];exact dn (by push_cast -dsimp [ze,zd,CLe,zg,hrk])
   ·have hx:¬i<xs.length:=by simpa using hx
    have hh:=zfe n xs fun t ht=>h3 t ht (by omega);push_cast -dsimp [hx];exact dn (by push_cast -dsimp [ze,zd,CLe,zg,hrk,hh])
theorem zcI (f:FsV) (n:Int) (hl:f.xs.length<=100000) (hR:zX f.xs):Fun Tryz.prog G 148 [.agg (fsC f),.sc (.int .i64 n)] (.tup [.sc (.int .i64 (jj n f.xs:Nat)),.sc (.bool (zk n f.xs))]) 0:=by
 refine fon Tryz.func148 ?_;dsimp only[Tryz.f148];push_cast -dsimp;refine cl (xX f.xs n hl hR) ?_;push_cast -dsimp;exact dn
end
end
section
open Go.RowKit Go.ChangeMaps Go.ChangeShapes Go.WideShapes Go.Deep Go.Joins
def Mb (W:World):Env:=⟨W,fun _ _=>False,fun _=>False⟩
theorem Fun.answers {P:Program} {G:zp} {f:FuncId} {args:List C} {u:Value} {n:Nat} (h:Fun P G f args (.sc u) n) {W:World} {vs:List Value} (hg:Xx G (Mb W)) (ha:zu (Mb W) zH args vs) :
  Calls P f vs.toArray W fun e w'=>e = .returned u/\Below W.heap.size W w':=by
 refine (h.2 (Mb W) vs hg ha).mono ?_;rintro e w' ⟨v,R',L',rfl,rfl,st,hr⟩;rw[zo]at hr;subst hr;exact ⟨rfl,st.below⟩
section
variable {H:Type} {enc:TypeId×Value->H} {P:Program} {W:World}
def Opn (enc:TypeId×Value->H) (P:Program) (W:World) (t:TypeId) (Q:C->Prop):Prop:=
 ∀ (fuel:Nat) (cs:List Value) (x:DataW H×List MemPlace),DataW.trod enc P W 0 (fun _=>true) true fuel t cs=some x->∃ v c,cs = [v]/\Q c/\Rep (Mb W) zH c v/\v.oneCell'=true
def jr (enc:TypeId×Value->H) (P:Program) (W:World) (t:TypeId) (k:Nat) (Q:List C->Prop):Prop:=
 ∀ (fuel:Nat) (cs:List Value) (x:DataW H×List MemPlace),DataW.trod enc P W 0 (fun _=>true) true fuel t cs=some x ->
  ∃ row,Q row/\row.length=k/\cs.length=k/\∀ (j:Nat) c v,row[j]?=some c->cs[j]?=some v->Rep (Mb W) zH c v/\v.oneCell'=true
theorem Opn.int {t:TypeId} {k:IntKind} (ht:P.underlying t=some (.int k)):Opn enc P W t fun c=>∃ n,c = .sc (.int k n)/\(Lit.int k n).wf=true:=fun fuel cs x h=>by
 obtain ⟨n,rfl,_,hw⟩:=DataW.trod_int ht h;exact ⟨_,_,rfl,⟨n,rfl,hw⟩,zo.2 rfl,rfl⟩
theorem Opn.bool {t:TypeId} (ht:P.underlying t=some .bool):Opn enc P W t fun c=>∃ b,c = .sc (.bool b):=fun fuel cs x h=>by
 obtain ⟨n,rfl,_⟩:=DataW.trod_bool ht h;exact ⟨_,_,rfl,⟨n,rfl⟩,zo.2 rfl,rfl⟩
theorem Opn.str {t:TypeId} (ht:P.underlying t=some .string):Opn enc P W t fun c=>∃ l:List UInt8,c = .str l/\l.length<=maxLen:=fun fuel cs x h=>by
 obtain ⟨s,rfl,_,hs⟩:=DataW.trod_string ht h;exact ⟨_,_,rfl,⟨s.data.toList,rfl,by rw[Array.length_toList];exact hs⟩,zT.2 (by cases s;simp),rfl⟩
theorem jr.one {t:TypeId} {Q:C->Prop} (h:Opn enc P W t Q):jr enc P W t 1 fun row=>∃ c,row = [c]/\Q c:=fun fuel cs x hx=>by
 obtain ⟨v,c,rfl,hq,hr,ho⟩:=h fuel cs x hx;refine ⟨[c],⟨c,rfl,hq⟩,rfl,rfl,fun j c' v' h1 h2=>?_⟩;cases j with
 | zero=>cases h1;cases h2;exact ⟨hr,ho⟩
 | succ j=>cases h1
theorem QN {α:Type} {Q:Nat->α->Prop}:∀ n:Nat,(∀ i,i<n->∃ x,Q i x)->∃ l:List α,l.length=n/\∀ i (h:i<l.length),Q i l[i]
 | 0,_=>⟨[],rfl,fun i h=>absurd h (Nat.not_lt_zero _)⟩
 | n+1,h=>by
  obtain ⟨l,hl,hq⟩:=QN n fun i hi=>h i (by omega);obtain ⟨x,hx⟩:=h n (by omega);refine ⟨l++[x],by simp[hl],fun i hi=>?_⟩;rcases Nat.lt_or_ge i n with h1 | h1
  ·rw[List.getElem_append_left (by omega)];exact hq i (by omega)
  ·have:i=n:=by simp[hl]at hi;omega
   subst this;rw[List.getElem_append_right (by omega)];simpa [hl] using hx
theorem jr.struct {t:TypeId} {fs:Array Field} {Qs:Nat->C->Prop} (hs:P.underlying t=some (.struct fs)) (hone:oneCellFields P fs=true) (hC:P.cellsOf t=fs.size)
  (h:∀ (j:Nat) f,fs[j]?=some f->Opn enc P W f.type (Qs j)):jr enc P W t fs.size fun row=>row.length=fs.size/\∀ (j:Nat) c,row[j]?=some c->Qs j c:=fun fuel cs x hx=>by
 obtain ⟨ys,n',hn',hy,hlen,hyl,hf⟩:=DataW.trod_struct hs hx;rw[hC]at hlen;obtain ⟨row,hl,hq⟩:=QN (Q:=fun j (c:C)=>Qs j c/\∃ v,cs[j]?=some v/\Rep (Mb W) zH c v/\v.oneCell'=true) fs.size (fun j hj=>by
  have hfj:fs[j]?=some fs[j]:=Array.getElem?_eq_getElem hj;obtain ⟨ho,hk⟩:=hone_of hone j _ hfj;have h1:=hf j _ hfj;rw[ho,hk]at h1;have hone':(cs.drop j).take 1 = [cs[j]'(by omega)]:=by
   rw[List.drop_eq_getElem_cons (by omega)]
   rfl
  rw[hone',List.getElem?_eq_getElem (by omega)]at h1;obtain ⟨v,c,e,hq,hr,hoc⟩:=h j _ hfj _ _ _ h1;cases e;exact ⟨c,hq,_,List.getElem?_eq_getElem (by omega),hr,hoc⟩)
 refine ⟨row,⟨hl,fun j c hj=>?_⟩,hl,hlen,fun j c v h1 h2=>?_⟩
 ·obtain ⟨hj',rfl⟩:=List.getElem?_eq_some_iff.1 hj;exact (hq j hj').1
 ·obtain ⟨hj',rfl⟩:=List.getElem?_eq_some_iff.1 h1;obtain ⟨_,v',e,hr,ho⟩:=hq j hj';rw[h2]at e;cases e;exact ⟨hr,ho⟩
theorem Opn.slice {t e:TypeId} {k:Nat} {Q:List C->Prop} (ht:P.underlying t=some (.slice e)) (hC:P.cellsOf e=k) (hk:0<k) (h:jr enc P W e k Q):Opn enc P W t fun c=>∃ rows,c = .sl k rows/\rows.length<=maxLen/\∀ r∈rows,Q r:=fun fuel cs x hx=>by
 rcases open_slice ht hx with h0 | ⟨a,len,cap,m,n,D,Pl,hcs,hb,hl,hm,hmm,hx,hi⟩
 ·exact ⟨_,.sl k [],h0.1,⟨[],rfl,Nat.zero_le _,fun r hr=>by cases hr⟩,Hn.2 ⟨none,0,rfl,Nat.le_refl _,Nat.zero_le _,.inl rfl⟩,rfl⟩
 ·simp only[if_true]at hmm;subst hmm;obtain ⟨rows,hrl,hq⟩:=QN (Q:=fun i (row:List C)=>Q row/\row.length=k/\∀ (j:Nat) c,row[j]?=some c->∃ v,W.cell? (a.add (i*k+j))=some v/\Rep (Mb W) zH c v/\v.oneCell'=true) len (fun i hlt=>by
   obtain ⟨cs',hc,ht'⟩:=hi i (by omega);rw[hC]at hc;obtain ⟨row,hq,hl1,hl2,hr⟩:=h _ _ _ ht';obtain ⟨_,hcl,hat⟩:=World.cells?_some hc;refine ⟨row,hq,hl1,fun j c hj=>?_⟩;have hjl:j<k:=by have:=(List.getElem?_eq_some_iff.1 hj).1;omega
   have hv:cs'[j]?=some (cs'[j]'(by omega)):=List.getElem?_eq_getElem (by omega);obtain ⟨hr1,hr2⟩:=hr j c _ hj hv;refine ⟨_,?_,hr1,hr2⟩;rw[←Go.Deep.add_add,hat j hjl,hv])
  refine ⟨_,.sl k rows,hcs,⟨rows,rfl,by omega,fun r hr=>?_⟩,?_,rfl⟩
  ·obtain ⟨i,hi',rfl⟩:=List.getElem_of_mem hr;exact (hq i hi').1
  ·refine Hn.2 ⟨some a,m,by rw[hrl],by omega,by omega,?_⟩;by_cases h0:rows = []
   ·exact .inl h0
   ·have hpos:0<rows.length:=List.length_pos_iff.2 h0;obtain ⟨b,off,spot⟩:=a;obtain ⟨_,hl0,h00⟩:=hq 0 hpos;obtain ⟨v0,hc0,_⟩:=h00 0 ((rows[0]'hpos)[0]'(by omega)) (List.getElem?_eq_getElem _);have hspot:spot=none:=by simpa [Addr.add] using World.cell?_spot hc0
    subst hspot;refine .inr ⟨b,off,rfl,qQ fun i row hrow=>?_⟩;obtain ⟨hi',rfl⟩:=List.getElem?_eq_some_iff.1 hrow;obtain ⟨_,hlr,hcr⟩:=hq i hi';refine ⟨hlr,qc fun j c hj=>?_⟩;obtain ⟨v,h1,h2,h3⟩:=hcr j c hj;rw[Addr.add_lit]at h1;exact ⟨v,by rw[Nat.add_assoc];exact h1,fun hf=>hf,h2,h3⟩
theorem Opn.arg {r:Reach} {b0:Nat} {t:TypeId} {Q:C->Prop} {v:Value} {d:DataW H} {p:List MemPlace} (h:Opn enc P W t Q) (hv:v.cells = #[v]) (hd:DataW.Trod enc P W 0 (fun _=>true) true t v d p):∃ c,Q c/\Rep (Mb W) zH c v:=by
 obtain ⟨fuel,hf⟩:=hd;rw[hv]at hf;obtain ⟨v',c,e,hq,hr,_⟩:=h _ _ _ hf;cases e;exact ⟨c,hq,hr⟩
theorem jr.arg {r:Reach} {b0:Nat} {t:TypeId} {fs:Array Field} {k:Nat} {Q:List C->Prop} {v:Value} {d:DataW H} {p:List MemPlace} (h:jr enc P W t k Q) (hs:P.underlying t=some (.struct fs)) (hval:Value.okWide P W r b0 t v)
  (hd:DataW.Trod enc P W 0 (fun _=>true) true t v d p):∃ row,Q row/\Rep (Mb W) zH (.agg row) v:=by
 obtain ⟨cs,rfl,hsz⟩:=okWide_struct hs hval;obtain ⟨fuel,hf⟩:=hd;obtain ⟨row,hq,h1,h2,hr⟩:=h _ _ _ hf;refine ⟨row,hq,j8.2 ⟨cs,rfl,J3 ?_ fun i c v hc hv=>(hr i c v hc hv).1⟩⟩;have:cs.toList.length=k:=h2;omega
end
end
section
open Go.RowKit Go.ChangeMaps Go.ChangeShapes Go.WideShapes Go.Deep Go.Joins
theorem H3 {α:Type} {f:α->List C} {q:α->Prop}:∀ {rows:List (List C)},(∀ r∈rows,∃ a,r=f a/\q a)->∃ xs:List α,rows=xs.map f/\∀ x∈xs,q x
 | [],_=>⟨[],rfl,fun x h=>by cases h⟩
 | r :: rows,h=>by
  obtain ⟨xs,rfl,hq⟩:=H3 fun r' hr=>h r' (List.mem_cons_of_mem _ hr);obtain ⟨o,rfl,ho⟩:=h r List.mem_cons_self;exact ⟨o :: xs,rfl,fun x hx=>by
   rcases List.mem_cons.1 hx with rfl | hx
   ·exact ho
   ·exact hq x hx⟩
section
variable {H:Type} {enc:TypeId×Value->H} {W:World}
theorem zmV:jr enc Tryz.prog W 112 2 fun row=>∃ o:zW,row=GE o/\o.name.length<=maxLen:=fun fuel cs x hx=>by
 obtain ⟨row,⟨hl,hq⟩,h1,h2,h3⟩:=jr.struct (W:=W) (enc:=enc) (Qs:=fun j c=>match j with | 0=>∃ l:List UInt8,c = .str l/\l.length<=maxLen | 1=>∃ n,c = .sc (.int .i64 n)/\(Lit.int .i64 n).wf=true | _=>True) Tryz.underlying112 (by kernel_rfl) (by kernel_rfl) (fun j f hj=>by
  match j,hj with
  | 0,hj=>cases hj;exact Opn.str Tryz.underlying9
  | 1,hj=>cases hj;exact Opn.int Tryz.underlying3
  | j+2,hj=>simp at hj) fuel cs x hx
 match row,h1,hq,h3 with
 | [c0,c1],_,hq,h3 =>
  obtain ⟨a,rfl,ha⟩:=hq 0 c0 rfl;obtain ⟨k,rfl,_⟩:=hq 1 c1 rfl;exact ⟨_,⟨⟨a,k⟩,rfl,ha⟩,rfl,h2,h3⟩
theorem ziK:Opn enc Tryz.prog W 62 fun c=>∃ xs:List zW,c = .sl 2 (zL xs)/\xs.length<=maxLen/\∀ x∈xs,x.name.length<=maxLen:=fun fuel cs x hx=>by
 obtain ⟨v,c,rfl,⟨rows,rfl,hl,hr⟩,h1,h2⟩:=Opn.slice (W:=W) (enc:=enc) Tryz.underlying62 (show Tryz.prog.cellsOf 112=2 by kernel_rfl) (by decide) zmV fuel cs x hx;obtain ⟨xs,rfl,hq⟩:=H3 hr;exact ⟨v,_,rfl,⟨xs,rfl,by simpa using hl,hq⟩,h1,h2⟩
def zga (x:zm):Prop:=x.data.length<=maxLen/\x.es.length<=maxLen/\∀ e∈x.es,e.name.length<=maxLen
theorem zex:jr enc Tryz.prog W 64 6 fun row=>∃ o:zm,row=JU o/\zga o:=fun fuel cs x hx=>by
 obtain ⟨row,⟨hl,hq⟩,h1,h2,h3⟩:=jr.struct (W:=W) (enc:=enc) (Qs:=fun j c=>match j with | 0=>∃ n,c = .sc (.int .i64 n)/\(Lit.int .i64 n).wf=true | 1=>∃ n,c = .sc (.int .i64 n)/\(Lit.int .i64 n).wf=true | 2=>∃ n,c = .sc (.int .i64 n)/\(Lit.int .i64 n).wf=true | 3=>∃ l:List UInt8,c = .str l/\l.length<=maxLen | 4=>∃ n,c = .sc (.int .i64 n)/\(Lit.int .i64 n).wf=true | 5=>∃ xs:List zW,c = .sl 2 (zL xs)/\xs.length<=maxLen/\∀ x∈xs,x.name.length<=maxLen | _=>True) Tryz.underlying64 (by kernel_rfl) (by kernel_rfl) (fun j f hj=>by
  match j,hj with
  | 0,hj=>cases hj;exact Opn.int Tryz.underlying3
  | 1,hj=>cases hj;exact Opn.int Tryz.underlying3
  | 2,hj=>cases hj;exact Opn.int Tryz.underlying3
  | 3,hj=>cases hj;exact Opn.str Tryz.underlying9
  | 4,hj=>cases hj;exact Opn.int Tryz.underlying3
  | 5,hj=>cases hj;exact ziK
  | j+6,hj=>simp at hj) fuel cs x hx
 match row,h1,hq,h3 with
 | [c0,c1,c2,c3,c4,c5],_,hq,h3 =>
  obtain ⟨a,rfl,_⟩:=hq 0 c0 rfl;obtain ⟨b,rfl,_⟩:=hq 1 c1 rfl;obtain ⟨c,rfl,_⟩:=hq 2 c2 rfl;obtain ⟨d,rfl,hd⟩:=hq 3 c3 rfl;obtain ⟨e,rfl,_⟩:=hq 4 c4 rfl;obtain ⟨f,rfl,hf⟩:=hq 5 c5 rfl;exact ⟨_,⟨⟨a,b,c,d,e,f⟩,rfl,hd,hf⟩,rfl,h2,h3⟩
theorem vZ:Opn enc Tryz.prog W 22 fun c=>∃ xs:List zm,c = .sl 6 (zq xs)/\xs.length<=maxLen/\∀ x∈xs,zga x:=fun fuel cs x hx=>by
 obtain ⟨v,c,rfl,⟨rows,rfl,hl,hr⟩,h1,h2⟩:=Opn.slice (W:=W) (enc:=enc) Tryz.underlying22 (show Tryz.prog.cellsOf 64=6 by kernel_rfl) (by decide) zex fuel cs x hx;obtain ⟨xs,rfl,hq⟩:=H3 hr;exact ⟨v,_,rfl,⟨xs,rfl,by simpa using hl,hq⟩,h1,h2⟩
theorem zoX:jr enc Tryz.prog W 24 4 fun row=>∃ f:FsV,row=fsC f/\f.xs.length<=maxLen/\∀ x∈f.xs,zga x:=fun fuel cs x hx=>by
 obtain ⟨row,⟨hl,hq⟩,h1,h2,h3⟩:=jr.struct (W:=W) (enc:=enc) (Qs:=fun j c=>match j with | 0=>∃ n,c = .sc (.int .i64 n)/\(Lit.int .i64 n).wf=true | 1=>∃ n,c = .sc (.int .i64 n)/\(Lit.int .i64 n).wf=true | 2=>∃ n,c = .sc (.int .i64 n)/\(Lit.int .i64 n).wf=true | 3=>∃ xs:List zm,c = .sl 6 (zq xs)/\xs.length<=maxLen/\∀ x∈xs,zga x | _=>True) Tryz.underlying24 (by kernel_rfl) (by kernel_rfl) (fun j f hj=>by
  match j,hj with
  | 0,hj=>cases hj;exact Opn.int Tryz.underlying3
  | 1,hj=>cases hj;exact Opn.int Tryz.underlying3
  | 2,hj=>cases hj;exact Opn.int Tryz.underlying3
  | 3,hj=>cases hj;exact vZ
  | j+4,hj=>simp at hj) fuel cs x hx
 match row,h1,hq,h3 with
 | [c0,c1,c2,c3],_,hq,h3 =>
  obtain ⟨a,rfl,_⟩:=hq 0 c0 rfl;obtain ⟨b,rfl,_⟩:=hq 1 c1 rfl;obtain ⟨c,rfl,_⟩:=hq 2 c2 rfl;obtain ⟨d,rfl,hd⟩:=hq 3 c3 rfl;exact ⟨_,⟨⟨a,b,c,d⟩,rfl,hd⟩,rfl,h2,h3⟩
end
end
section
open Go
structure zkt (κ:Type) where
 lt:κ->κ->Bool
 irr:∀ a,lt a a=false
 tr:∀ {a b c},lt a b=true->lt b c=true->lt a c=true
 tot:∀ {a b},lt a b=false->lt b a=false->a=b
theorem Mq:∀ a:List UInt8,Op.bytesLess a a=false
 | []=>rfl
 | c :: a=>by
  have h:¬c<c:=by simp
  simp[Op.bytesLess,Mq a]
theorem GG:∀ {a b c:List UInt8},Op.bytesLess a b=true->Op.bytesLess b c=true->Op.bytesLess a c=true
 | _,[],_,h,_=>by unfold Op.bytesLess at h;cases h
 | [],y :: b,[],_,h2=>by unfold Op.bytesLess at h2;cases h2
 | [],y :: b,z :: c,_,_=>rfl
 | x :: a,y :: b,[],_,h2=>by unfold Op.bytesLess at h2;cases h2
 | x :: a,y :: b,z :: c,h1,h2=>by
  unfold Op.bytesLess at h1 h2 ⊢;simp only[Bool.or_eq_true,Bool.and_eq_true,decide_eq_true_eq,beq_iff_eq]at h1 h2 ⊢;rcases h1 with h1 | ⟨rfl,h1⟩
  ·rcases h2 with h2 | ⟨rfl,h2⟩
   ·exact .inl (UInt8.lt_trans h1 h2)
   ·exact .inl h1
  ·rcases h2 with h2 | ⟨rfl,h2⟩
   ·exact .inl h2
   ·exact .inr ⟨rfl,GG h1 h2⟩
theorem MM:∀ {a b:List UInt8},Op.bytesLess a b=false->Op.bytesLess b a=false->a=b
 | [],[],_,_=>rfl
 | [],y :: b,h,_=>by unfold Op.bytesLess at h;cases h
 | x :: a,[],_,h=>by unfold Op.bytesLess at h;cases h
 | x :: a,y :: b,h1,h2=>by
  unfold Op.bytesLess at h1 h2;simp only[Bool.or_eq_false_iff,decide_eq_false_iff_not,Bool.and_eq_false_iff,beq_eq_false_iff_ne]at h1 h2;obtain ⟨g1,g2⟩:=h1;obtain ⟨g3,g4⟩:=h2;have hxy:x=y:=by
   apply UInt8.toNat_inj.1;have e1:¬x.toNat<y.toNat:=fun h=>g1 (UInt8.lt_iff_toNat_lt.2 h);have e2:¬y.toNat<x.toNat:=fun h=>g3 (UInt8.lt_iff_toNat_lt.2 h);omega
  subst hxy;have h3:Op.bytesLess a b=false:=by rcases g2 with g | g;exact absurd rfl g;exact g
  have h4:Op.bytesLess b a=false:=by rcases g4 with g | g;exact absurd rfl g;exact g
  rw[MM h3 h4]
theorem zdT:∀ a b:List UInt8,(Lib.compareBytes a b<0)=(Op.bytesLess a b=true)
 | [],[]=>by simp[Lib.compareBytes,Op.bytesLess]
 | [],_ :: _=>by simp[Lib.compareBytes,Op.bytesLess]
 | _ :: _,[]=>by simp[Lib.compareBytes,Op.bytesLess]
 | a :: x,b :: y=>by
  unfold Lib.compareBytes Op.bytesLess;by_cases h1:a<b
  ·simp[h1]
  ·rw[if_neg h1];by_cases h2:b<a
   ·have:a≠b:=fun e=>by subst e;exact h1 h2
    simp[h1,h2,this]
   ·have e:a=b:=by
     apply UInt8.toNat_inj.1;have e1:¬a.toNat<b.toNat:=fun h=>h1 (UInt8.lt_iff_toNat_lt.2 h);have e2:¬b.toNat<a.toNat:=fun h=>h2 (UInt8.lt_iff_toNat_lt.2 h);omega
    rw[if_neg h2,zdT x y];subst e;simp[h1]
theorem zdl:∀ a b:List UInt8,(Lib.compareBytes a b=0)=(a=b)
 | [],[]=>by simp[Lib.compareBytes]
 | [],_ :: _=>by simp[Lib.compareBytes]
 | _ :: _,[]=>by simp[Lib.compareBytes]
 | a :: x,b :: y=>by
  unfold Lib.compareBytes;by_cases h1:a<b
  ·have:a≠b:=fun e=>by subst e;simp at h1
   simp[h1,this]
  ·rw[if_neg h1];by_cases h2:b<a
   ·have:a≠b:=fun e=>by subst e;exact h1 h2
    simp[h2,this]
   ·have e:a=b:=by
     apply UInt8.toNat_inj.1;have e1:¬a.toNat<b.toNat:=fun h=>h1 (UInt8.lt_iff_toNat_lt.2 h);have e2:¬b.toNat<a.toNat:=fun h=>h2 (UInt8.lt_iff_toNat_lt.2 h);omega
    rw[if_neg h2,zdl x y];subst e;simp
def Ji:zkt (List UInt8):=⟨Op.bytesLess,Mq,GG,MM⟩
def j6:zkt Int:=⟨fun a b=>decide (a<b),fun a=>by simp,fun h1 h2=>by simp at h1 h2 ⊢;omega,fun h1 h2=>by simp at h1 h2;omega⟩
section
variable {α κ:Type} [DecidableEq κ] (o:zkt κ) (key:α->κ)
def qF (xs:List α):Prop:=xs.Pairwise fun a b=>o.lt (key a) (key b)=true
def qk (n:κ) (xs:List α):Nat:=(xs.filter fun x=>o.lt (key x) n).length
def YG (n:κ) (xs:List α):Bool:=xs.any fun x=>decide (key x=n)
def Jk (n:κ) (xs:List α):Option α:=xs.find? fun x=>decide (key x=n)
def Y1 (n:κ) (xs:List α):List α:=xs.filter fun x=>!decide (key x=n)
def VY (x:α):List α->List α
 | []=>[x]
 | y :: r=>if o.lt (key x) (key y) then x :: y :: r else y :: VY x r
variable {o:zkt κ} {key:α->κ}
theorem zkt.asym {a b:κ} (h:o.lt a b=true):o.lt b a=false:=by
 cases h':o.lt b a with
 | false=>rfl
 | true=>have:=o.tr h h';rw[o.irr]at this;cases this
theorem ZC (n:κ):∀ (xs:List α) (i:Nat),i<=xs.length->(∀ t (h:t<xs.length),t<i->o.lt (key xs[t]) n=true)->(∀ t (h:t<xs.length),i<=t->o.lt (key xs[t]) n=false)->qk o key n xs=i
 | [],i,h,_,_=>by simp at h;simp[qk,h]
 | x :: r,0,_,_,h2=>by
  have hx:o.lt (key x) n=false:=h2 0 (by simp) (Nat.le_refl _);have ih:=ZC n r 0 (Nat.zero_le _) (fun t h h'=>absurd h' (Nat.not_lt_zero _)) (fun t h _=>h2 (t+1) (by simp;omega) (Nat.zero_le _));unfold qk at ih ⊢;rw[List.filter_cons_of_neg (by simp[hx])];exact ih
 | x :: r,i+1,h,h1,h2=>by
  have hx:o.lt (key x) n=true:=h1 0 (by simp) (Nat.succ_pos _);have ih:=ZC n r i (by simpa using h) (fun t h h'=>h1 (t+1) (by simp;omega) (by omega)) (fun t h h'=>h2 (t+1) (by simp;omega) (by omega));unfold qk at ih ⊢;rw[List.filter_cons_of_pos (by simp[hx]),List.length_cons,ih]
theorem Q3 (n:κ) (xs:List α):qk o key n xs<=xs.length:=List.length_filter_le _ _
theorem Jr {y:α} {r:List α}:qF o key (y :: r)↔(∀ z∈r,o.lt (key y) (key z)=true)/\qF o key r:=List.pairwise_cons
theorem zbY {n:κ} {y:α} {r:List α} (h:o.lt (key y) n=true):qk o key n (y :: r)=qk o key n r+1:=by
 unfold qk;rw[List.filter_cons_of_pos (by simpa using h),List.length_cons]
theorem zbf {n:κ} {y:α} {r:List α} (hR:qF o key (y :: r)) (h:o.lt (key y) n=false):qk o key n (y :: r)=0:=by
 obtain ⟨h1,_⟩:=Jr.1 hR;unfold qk;rw[List.length_eq_zero_iff,List.filter_eq_nil_iff];intro z hz;rcases List.mem_cons.1 hz with rfl | hz
 ·simp[h]
 ·have h3:=h1 z hz;cases h4:o.lt (key z) n with
  | false=>simp
  | true=>have:=o.tr h3 h4;rw[h]at this;cases this
theorem zc1 {n:κ} {y:α} {r:List α} (hR:qF o key (y :: r)) (h:o.lt (key y) n=false):YG key n (y :: r)=decide (key y=n):=by
 obtain ⟨h1,_⟩:=Jr.1 hR;unfold YG;rw[List.any_cons];have:(r.any fun x=>decide (key x=n))=false:=List.any_eq_false.2 fun z hz=>by
  have h3:=h1 z hz;simp only[decide_eq_true_eq];rintro rfl;rw[h3]at h;cases h
 rw[this,Bool.or_false]
theorem V2 (n:κ):∀ {xs:List α},qF o key xs->(∀ t (h:t<xs.length),t<qk o key n xs->o.lt (key xs[t]) n=true)/\(∀ t (h:t<xs.length),qk o key n xs<=t->o.lt (key xs[t]) n=false) /\
  (YG key n xs=true->∃ h:qk o key n xs<xs.length,key xs[qk o key n xs]=n/\Jk key n xs=some xs[qk o key n xs]/\Y1 key n xs=xs.take (qk o key n xs)++xs.drop (qk o key n xs+1)/\∀ x,key x=n->VY o key x (Y1 key n xs)=xs.set (qk o key n xs) x) /\
  (YG key n xs=false->Jk key n xs=none/\Y1 key n xs=xs/\∀ x,key x=n->VY o key x xs=xs.take (qk o key n xs)++x :: xs.drop (qk o key n xs))
 | [],_=>⟨fun t h=>absurd h (Nat.not_lt_zero _),fun t h=>absurd h (Nat.not_lt_zero _),fun h=>(by cases h),fun _=>⟨rfl,rfl,fun x _=>rfl⟩⟩
 | y :: r,hR=>by
  obtain ⟨h1,h2⟩:=Jr.1 hR;obtain ⟨i1,i2,i3,i4⟩:=V2 n h2;cases hy:o.lt (key y) n with
  | true =>
   have hne:key y≠n:=by rintro rfl;rw[o.irr]at hy;cases hy
   have hrk:=zbY (r:=r) hy;have hhas:YG key n (y :: r)=YG key n r:=by unfold YG;rw[List.any_cons,decide_eq_false hne,Bool.false_or]
   have hfind:Jk key n (y :: r)=Jk key n r:=by unfold Jk;rw[List.find?_cons_of_neg (by simpa using hne)]
   have hless:Y1 key n (y :: r)=y :: Y1 key n r:=by unfold Y1;rw[List.filter_cons_of_pos (by simpa using hne)]
   have hput:∀ x q,key x=n->VY o key x (y :: q)=y :: VY o key x q:=fun x q hx=>by
    rw[VY,hx,zkt.asym hy];rfl
   rw[hhas,hfind,hless,hrk];refine ⟨fun t h ht=>?_,fun t h ht=>?_,fun h=>?_,fun h=>?_⟩
   ·cases t with
    | zero=>exact hy
    | succ t=>exact i1 t (by simpa using h) (by omega)
   ·cases t with
    | zero=>omega
    | succ t=>exact i2 t (by simpa using h) (by omega)
   ·obtain ⟨g,g1,g2,g3,g4⟩:=i3 h;refine ⟨by simp;omega,by simpa using g1,by simpa using g2,by rw[g3];simp,fun x hx=>?_⟩;rw[hput x _ hx,g4 x hx];simp
   ·obtain ⟨g1,g2,g3⟩:=i4 h;refine ⟨g1,by rw[g2],fun x hx=>?_⟩;rw[hput x _ hx,g3 x hx];simp
  | false =>
   have hrk:=zbf hR hy;have hhas:=zc1 hR hy;rw[hrk,hhas];have hno:∀ z∈r,key z≠n:=fun z hz=>by
    have h3:=h1 z hz;rintro rfl;rw[h3]at hy;cases hy
   have hlr:Y1 key n r=r:=by
    unfold Y1;rw[List.filter_eq_self];intro z hz;simpa using hno z hz
   refine ⟨fun t h ht=>absurd ht (Nat.not_lt_zero _),fun t h _=>?_,fun h=>?_,fun h=>?_⟩
   ·cases t with
    | zero=>exact hy
    | succ t =>
     have h3:=h1 (r[t]'(by simpa using h)) (List.getElem_mem _);show o.lt (key (r[t]'(by simpa using h))) n=false;cases h4:o.lt (key (r[t]'(by simpa using h))) n with
     | false=>rfl
     | true=>have:=o.tr h3 h4;rw[hy]at this;cases this
   ·have hk:key y=n:=of_decide_eq_true h;have hl:Y1 key n (y :: r)=r:=by
     show (y :: r).filter (fun x=>!decide (key x=n))=r;rw[List.filter_cons_of_neg (by simpa using hk)];exact hlr
    refine ⟨by simp,hk,by unfold Jk;rw[List.find?_cons_of_pos (by simpa using hk)];rfl,by rw[hl];simp,fun x hx=>?_⟩;rw[hl];cases r with
    | nil=>rfl
    | cons z q =>
     have h3:=h1 z List.mem_cons_self;rw[hk]at h3;rw[VY,hx,h3];rfl
   ·have hk:key y≠n:=of_decide_eq_false h;have hny:o.lt n (key y)=true:=by
     cases h5:o.lt n (key y) with
     | true=>rfl
     | false=>exact absurd (o.tot hy h5) hk
    refine ⟨?_,?_,fun x hx=>?_⟩
    ·unfold Jk;rw[List.find?_eq_none];intro z hz;rcases List.mem_cons.1 hz with rfl | hz
     ·simpa using hk
     ·simpa using hno z hz
    ·show (y :: r).filter (fun x=>!decide (key x=n))=y :: r;rw[List.filter_cons_of_pos (by simpa using hk)];exact congrArg _ hlr
    ·rw[VY,hx,hny];rfl
theorem yb (n:κ) {xs:List α} (hR:qF o key xs) {i:Nat} (hi:qk o key n xs=i) (h:i<xs.length):YG key n xs=decide (key xs[i]=n):=by
 subst hi;obtain ⟨_,_,h3,_⟩:=V2 n hR;cases hh:YG key n xs with
 | true=>obtain ⟨_,g,_⟩:=h3 hh;rw[decide_eq_true g]
 | false =>
  symm
  rw[decide_eq_false_iff_not];intro e;unfold YG at hh;rw[List.any_eq_false]at hh;exact hh _ (List.getElem_mem h) (decide_eq_true e)
theorem H6 (n:κ) {xs:List α} (hR:qF o key xs) (hi:qk o key n xs=xs.length):YG key n xs=false:=by
 obtain ⟨_,_,h3,_⟩:=V2 n hR;cases hh:YG key n xs with
 | false=>rfl
 | true=>obtain ⟨g,_⟩:=h3 hh;omega
theorem UY (n:κ) {xs:List α} (h:qF o key xs):qF o key (Y1 key n xs):=h.filter _
theorem Qj {x y:α}:∀ {xs:List α},y∈VY o key x xs↔y=x∨y∈xs
 | []=>by simp[VY]
 | z :: r=>by
  unfold VY;split
  ·simp
  ·rw[List.mem_cons,Qj,List.mem_cons];constructor
   ·rintro (h | h | h)
    ·exact .inr (.inl h)
    ·exact .inl h
    ·exact .inr (.inr h)
   ·rintro (h | h | h)
    ·exact .inr (.inl h)
    ·exact .inl h
    ·exact .inr (.inr h)
theorem Ze {n:κ} {y:α} {xs:List α}:y∈Y1 key n xs↔y∈xs/\key y≠n:=by unfold Y1;simp
theorem Z0 {x:α}:∀ {xs:List α},qF o key xs->(∀ y∈xs,key y≠key x)->qF o key (VY o key x xs)
 | [],_,_=>by unfold VY qF;simp
 | y :: r,hR,hne=>by
  obtain ⟨h1,h2⟩:=Jr.1 hR;unfold VY;cases hxy:o.lt (key x) (key y) with
  | true =>
   rw[if_pos rfl,Jr];refine ⟨fun z hz=>?_,hR⟩;rcases List.mem_cons.1 hz with rfl | hz
   ·exact hxy
   ·exact o.tr hxy (h1 z hz)
  | false =>
   rw[if_neg (by simp),Jr];have hyx:o.lt (key y) (key x)=true:=by
    cases h:o.lt (key y) (key x) with
    | true=>rfl
    | false=>exact absurd (o.tot h hxy) (hne y List.mem_cons_self)
   refine ⟨fun z hz=>?_,Z0 h2 fun z hz=>hne z (List.mem_cons_of_mem _ hz)⟩;rcases Qj.1 hz with rfl | hz
   ·exact hyx
   ·exact h1 z hz
theorem kl {x:α} {xs:List α} (h:qF o key xs):qF o key (VY o key x (Y1 key (key x) xs)):=
 Z0 (UY _ h) fun y hy=>(Ze.1 hy).2
theorem Up (n:κ) (xs:List α):(Y1 key n xs).length<=xs.length:=List.length_filter_le _ _
theorem V3 (x:α):∀ xs:List α,(VY o key x xs).length=xs.length+1
 | []=>rfl
 | y :: r=>by
  unfold VY;split
  ·rfl
  ·rw[List.length_cons,V3 x r];rfl
end
end
section
open Go.RowKit
section
variable {G:zp}
theorem zaN (rows:List (List C)) (hk:∀ r∈rows,r.length=2) (hs:jd rows) (hl:rows.length<=100000) :
  Yr Tryz.prog G 291 [.sl 2 rows] [] 0 (zdy 2 rows):=by
 refine Yr.bySlice (fun h=>?_) (fun h a cap hr=>?_)
 ·refine foX (fun i=>if i=1000000+62 then [true,true] else []) Tryz.func291 ?_;dsimp only[Tryz.f291];push_cast -dsimp;refine ⟨h,Zz QL J4 rfl rfl (by decide) rfl (qm hk) rfl (Nat.le_refl _) (Nat.le_refl _) (by omega) (by omega) (fun hc=>absurd hc ?_) (fun _ c hc hm=>?_)⟩
  ·have:=List.length_pos_iff.2 h;omega
  ·push_cast -dsimp;rw[Nat.zero_add]at hc;refine ⟨_,_,_,⟨⟨rfl,.inl ⟨h,c,hc,hm,rfl,rfl⟩⟩,Nat.zero_le _⟩,[],rfl,rfl,?_,by push_cast -dsimp [ze,zd,CLe,zg]⟩;push_cast -dsimp [ze,zd,CLe,zg];exact zO (zD hs)
 ·cases a with
  | none =>
   refine foX (fun i=>if i=1000000+62 then [true,true] else []) Tryz.func291 ?_;dsimp only[Tryz.f291];push_cast -dsimp [hr,Option.isNone_none];exact ⟨_,_,_,⟨⟨rfl,.inr ⟨h,.inl ⟨rfl,rfl⟩⟩⟩,Nat.zero_le _⟩,[],rfl,rfl,by push_cast -dsimp [ze,zd,CLe,zg],by push_cast -dsimp [ze,zd,CLe,zg]⟩
  | some a =>
   refine foX (fun i=>if i=1000000+62 then [true,true] else []) Tryz.func291 ?_;dsimp only[Tryz.f291];push_cast -dsimp [hr,Option.isNone_some];have hx:C.xs? 2 [[]] (C.sc (.slice (some a) 0 cap))=some (0,[]):=by simp[C.xs?,hr]
   refine Zz QL J4 hx rfl (by decide) rfl rfl rfl (Nat.le_refl _) (Nat.le_refl _) (by omega) (by omega) (fun _=>?_) (fun hc=>absurd hc (by omega));push_cast -dsimp;exact ⟨_,_,_,⟨⟨rfl,.inr ⟨h,.inr ⟨rfl,rfl⟩⟩⟩,Nat.zero_le _⟩,[],rfl,rfl,by (push_cast -dsimp [ze,zd,CLe,zg];simp[spl,zg]),by push_cast -dsimp [ze,zd,CLe,zg]⟩
theorem uC (rows:List (List C)) (x:List C) (i c e:Nat) (hk:∀ r∈rows,r.length=2) (hx:x.length=2) (hs:jd rows) (hsx:(x.all C.stayB)=true) (hl:rows.length<=100000) (hi:i<=rows.length) (hc:rows.length<=c) (hcm:c<=9223372036854775807) :
  Yr Tryz.prog G 292 [.bs 0 0 2 rows.length c,.sc (.int .i64 i),.own 0 e 2 [x]] [qr 2 rows c] 1 (zqu 2 (c*2) (rows.take i++x :: rows.drop i)):=by
 refine foX (fun j=>if j=1000000+62 then [true,true] else if j=11 then [false,false,false,false,false,false,false,false,true] else if j=15 then [false,false,false,false,false,false,false,false,true] else []) Tryz.func292 ?_;dsimp only[Tryz.f292];push_cast -dsimp;have hlen:(rows.take i++x :: rows.drop i).length=rows.length+1:=by simp;omega
 have hki:∀ r∈rows.take i++x :: rows.drop i,r.length=2:=fun r hr=>by
  rcases List.mem_append.1 hr with hr | hr
  ·exact hk r (List.mem_of_mem_take hr)
  ·rcases List.mem_cons.1 hr with rfl | hr
   ·exact hx
   ·exact hk r (List.mem_of_mem_drop hr)
 have hsi:jd (rows.take i++x :: rows.drop i):=fun r hr=>by
  rcases List.mem_append.1 hr with hr | hr
  ·exact hs r (List.mem_of_mem_take hr)
  ·rcases List.mem_cons.1 hr with rfl | hr
   ·exact hsx
   ·exact hs r (List.mem_of_mem_drop hr)
 have hbl:=Jt hk hc;have hfl:=qm hk;have hxl:[x].flatten.length=1*2:=by simp[hx]
 have hpre:(qr 2 rows c).take rows.flatten.length=rows.flatten:=by unfold qr;rw[List.take_left]
 refine ⟨hc,⟨by omega,hi⟩,br (fun h=>?_) (fun h=>?_)⟩
 ·push_cast -dsimp;refine Zz QL J4 rfl rfl (by decide) rfl hxl rfl (by rw[hbl];omega) hc (by simp;omega) (by simp;omega) (fun h1=>?_) (fun h1 c' h2 h3=>?_)
  ·push_cast -dsimp;have hi':i=rows.length:=of_decide_eq_true h;refine ⟨_,_,_,⟨⟨rfl,c,by rw[hlen];exact h1,hcm,.inl ⟨rfl,rfl⟩⟩,Nat.le_refl _⟩,[],rfl,rfl,?_,by push_cast -dsimp [ze,zd,CLe,zg,hlen]⟩;push_cast -dsimp [ze,zd,CLe,zg];have h6:rows.length*2+2<=c*2:=by have:rows.length+1<=c:=h1;omega
   refine Jp hki hsi (by rw[hlen];exact h1) (by rw[QP (by rw[hbl,hx];exact h6),hbl]) ?_;rw[hlen,hi',List.take_length,List.drop_length];unfold spl;rw[←hfl,hpre,List.take_left' (by simp[hx,hfl];omega)];simp
  ·push_cast -dsimp;have hi':i=rows.length:=of_decide_eq_true h;have h2':rows.length+1<=c':=h2;refine ⟨_,_,_,⟨⟨rfl,c',by rw[hlen];exact h2,h3,.inr ⟨rfl,rfl⟩⟩,Nat.le_of_ble_eq_true rfl⟩,[],rfl,rfl,?_,by push_cast -dsimp [ze,zd,CLe,zg,hlen]⟩;push_cast -dsimp [ze,zd,CLe,zg];refine ⟨Xm hbl,Jp hki hsi (by rw[hlen];exact h2) (by simp[hx,hbl];omega) ?_⟩;rw[hlen,hi',List.take_length,List.drop_length,←hfl,hpre,List.take_left' (by simp[hx,hfl];omega)];simp
 ·have hne:i≠rows.length:=of_decide_eq_false h;push_cast -dsimp;refine ⟨⟨by omega,by omega⟩,br (fun h1=>?_) (fun h1=>?_)⟩
  ·have h1':(c:Int)<(rows.length:Int)+1:=of_decide_eq_true h1;push_cast -dsimp
   repeat refine an ?_
   refine zly QL znu J4 rfl (by decide) rfl rfl (by rw[hbl];omega) (by omega) (by omega) (by omega) (by omega) (by omega) (fun c' B h2 h3 hBl hBt=>?_);have e1:((rows.length:Int)+1-(i:Int)).toNat=rows.length+1-i:=by omega
   rw[e1]at h2 ⊢;have e2:i+(rows.length+1-i)=rows.length+1:=by omega
   rw[e2]at h2 ⊢;push_cast -dsimp
   repeat refine an ?_
   refine Xp QL J4 rfl rfl hxl (by rw[hBl];omega) (fun B1 hB1 hl1=>?_);rw[hBl]at hl1;push_cast -dsimp
   repeat refine an ?_
   have hbp:=Xk (c:=c) hk hi;refine Xp QL J4 (kw rfl (by rw[hbl];omega)) rfl (by rw[hbp,List.length_drop,hfl];omega) (by rw[hl1];omega) (fun B2 hB2 hl2=>?_);rw[hl1]at hl2;have hX:[x].flatten.take (min [x].length (rows.length+1-i)*2)=x:=by
    rw[List.length_singleton,Nat.min_eq_left (by omega),List.take_of_length_le (by omega)];simp
   rw[hX]at hB1;rw[hbp,show min (rows.length-i) (rows.length-i)*2=(rows.length-i)*2 by omega,List.take_of_length_le (by rw[List.length_drop,hfl];omega),hB1]at hB2;push_cast -dsimp;refine ⟨_,_,_,⟨⟨rfl,c',by rw[hlen];exact h2,h3,.inr ⟨rfl,rfl⟩⟩,Nat.le_of_ble_eq_true rfl⟩,[],rfl,rfl,?_,by push_cast -dsimp [ze,zd,CLe,zg,hlen]⟩;push_cast -dsimp [ze,zd,CLe,zg];refine ⟨Xm hbl,Jp hki hsi (by rw[hlen];exact h2) hl2 ?_⟩;rw[hlen,←X6 hk,hB2];have hg:=GW (cs:=B) (L:=rows.flatten) (X:=x) (p:=i*2) (q:=(i+1)*2) (by omega) (by omega) (by
    rw[hBt,List.drop_zero];unfold qr;rw[List.take_append_of_le_length (by omega)]) (by omega)
   rw[hfl,hx]at hg;rw[←hg];congr 1;omega
  ·have h1':¬(c:Int)<(rows.length:Int)+1:=of_decide_eq_false h1;push_cast -dsimp
   repeat refine an ?_
   refine zla (yq (P:=Tryz.prog) (tR:=4) Tryz.func303 (by kernel_rfl) (by kernel_rfl) (by kernel_rfl) (by kernel_rfl) QL J4 rfl (List.ne_nil_of_length_pos (by rw[hbl];omega)) (by simp) (by omega)) ?_;push_cast -dsimp
   repeat refine an ?_
   have hbp:=Xk (c:=c) hk hi;refine Xp QL J4 (kw rfl (by rw[hbl];omega)) rfl (by simp[hbl];omega) (by rw[hbl];omega) (fun B1 hB1 hl1=>?_);rw[hbl]at hl1;rw[List.take_take,Nat.min_eq_left (by omega),show min (rows.length+1-i) (rows.length-i)*2=(rows.length-i)*2 by omega,hbp]at hB1;push_cast -dsimp
   repeat refine an ?_
   refine Xp QL J4 rfl rfl hxl (by rw[hl1];omega) (fun B2 hB2 hl2=>?_);rw[hl1]at hl2;have hX:[x].flatten.take (min [x].length (rows.length+1-i)*2)=x:=by
    rw[List.length_singleton,Nat.min_eq_left (by omega),List.take_of_length_le (by omega)];simp
   rw[hX,hB1]at hB2;push_cast -dsimp;have hcc:rows.length+1<=c:=by omega
   refine ⟨_,_,_,⟨⟨rfl,c,by rw[hlen];exact hcc,hcm,.inl ⟨rfl,rfl⟩⟩,Nat.le_of_ble_eq_true rfl⟩,[],rfl,rfl,?_,by push_cast -dsimp [ze,zd,CLe,zg,hlen]⟩;push_cast -dsimp [ze,zd,CLe,zg];refine Jp hki hsi (by rw[hlen];exact hcc) hl2 ?_;rw[hlen,←X6 hk,hB2];have hg:=UI (cs:=qr 2 rows c) (L:=rows.flatten) (X:=x) (p:=i*2) (q:=(i+1)*2) (by omega) (by omega) hpre (by omega);rw[hfl,hx]at hg;rw[←hg];congr 1;omega
theorem zhS {e:Nat} (x:List C) (hx:x.length=2) (hsx:(x.all C.stayB)=true) :
  Yr Tryz.prog G 292 [.sc (.slice none 0 0),.sc (.int .i64 0),.own 0 e 2 [x]] [] 1 (fun r bx' n=>n=0/\∃ c,1<=c/\c<=9223372036854775807/\r = .bs 0 0 2 1 c/\bx' = [qr 2 [x] c]):=by
 refine foX (fun j=>if j=1000000+62 then [true,true] else if j=11 then [false,false,false,false,false,false,false,false,true] else if j=15 then [false,false,false,false,false,false,false,false,true] else []) Tryz.func292 ?_;dsimp only[Tryz.f292];push_cast -dsimp;refine GS QL J4 rfl rfl (by decide) rfl (by simp[hx]) (by simp) (by simp) (by simp) (fun c h1 h2=>?_);push_cast -dsimp;refine ⟨_,_,_,⟨⟨rfl,c,h1,h2,rfl,rfl⟩,Nat.zero_le _⟩,[],rfl,rfl,?_,by push_cast -dsimp [ze,zd,CLe,zg]⟩;push_cast -dsimp [ze,zd,CLe,zg];have:=zO (src:=[]) (n:=1) (zD (k:=2) (c:=c) (rows:=[x]) fun r hr=>by
  rw[List.mem_singleton.1 hr];exact hsx)
 unfold qr at this ⊢;simpa using this
end
end
end Go.Proofs.YtnpdbhbmakdklaaGreatDoor.Vcg
section
namespace Go.Proofs
open Go.Shelf
def Tryz.lays169_ren:Go.Shelf.Ren:=⟨fun | 169=>167 | n=>n,fun | 70=>218 | 9=>9 | 0=>0 | 72=>220 | 37=>174 | 127=>263 | 3=>3 | 5=>5 | n=>n,fun | n=>n⟩
theorem Tryz.lays169:Go.Proofs.Lays.n169 Tryz.prog Tryz.lays169_ren:={
 mixed:=by kernel_rfl
 f169:=Tryz.func167.trans (congrArg some (by kernel_rfl))
 t0:=Tryz.underlying0
 a0:=Tryz.isAgg0
 z0:=Tryz.sizeOf0
 v0:=Tryz.zeroValue0
 t3:=Tryz.underlying3
 a3:=Tryz.isAgg3
 z3:=Tryz.sizeOf3
 v3:=Tryz.zeroValue3
 t9:=Tryz.underlying9
 a9:=Tryz.isAgg9
 z9:=Tryz.sizeOf9
 v9:=Tryz.zeroValue9
 t37:=Tryz.underlying174
 a37:=Tryz.isAgg174
 z37:=Tryz.sizeOf174
 v37:=Tryz.zeroValue174
 t70:=Tryz.underlying218
 a70:=Tryz.isAgg218
 z70:=Tryz.sizeOf218
 v70:=Tryz.zeroValue218
 t72:=Tryz.underlying220
 a72:=Tryz.isAgg220
 z72:=Tryz.sizeOf220
 v72:=Tryz.zeroValue220
 t127:=Tryz.underlying263
 a127:=Tryz.isAgg263
 z127:=Tryz.sizeOf263
 v127:=Tryz.zeroValue263 }
theorem Tryz.Builder_Extra_169:Builder.Extra Tryz.prog Tryz.lays169_ren:={
 sizeBuilder:=by kernel_rfl
 liesBuilder:=by kernel_rfl
 t5:=Tryz.underlying5
 a5:=Tryz.isAgg5
 z5:=Tryz.sizeOf5
 v5:=Tryz.zeroValue5
 infoByte:=by kernel_rfl
 cellsByte:=by kernel_rfl
 sizeByte:=by kernel_rfl
 neB5:=by decide }
open Go.RowKit in
theorem Tryz.Builder_String_any (B b:Nat) (l:List UInt8) (w:World) (h:Lib.IsBuilder 220 5 B b (Lib.byteCells l) w) (hBw:B<=w.heap.size) :
  Calls Tryz.prog 167 #[.pointer (some ⟨b,0,none⟩)] w fun e w'=>e = .returned (.string ⟨l.toArray⟩)/\Below B w w':=Any.Builder_String_any Tryz.lays169 Tryz.Builder_Extra_169 B b l w h hBw
def Tryz.lays156_ren:Go.Shelf.Ren:=⟨fun | 156=>122 | 165=>165 | 166=>166 | 169=>167 | 240=>199 | 241=>200 | 276=>232 | 277=>233 | n=>n,fun | 31=>30 | 9=>9 | 3=>3 | 4=>4 | 0=>0 | 20=>20 | 72=>220 | 76=>224 | 70=>218 | 37=>174 | 75=>223 | 127=>263 | 164=>281 | 5=>5 | 80=>226 | n=>n,fun | n=>n⟩
theorem Tryz.lays156:Go.Proofs.Lays.n156 Tryz.prog Tryz.lays156_ren:={
 mixed:=by kernel_rfl
 f156:=Tryz.func122.trans (congrArg some (by kernel_rfl))
 f165:=Tryz.func165.trans (congrArg some (by kernel_rfl))
 f166:=Tryz.func166.trans (congrArg some (by kernel_rfl))
 f169:=Tryz.func167.trans (congrArg some (by kernel_rfl))
 f240:=Tryz.func199.trans (congrArg some (by kernel_rfl))
 f241:=Tryz.func200.trans (congrArg some (by kernel_rfl))
 f276:=Tryz.func232.trans (congrArg some (by kernel_rfl))
 f277:=Tryz.func233.trans (congrArg some (by kernel_rfl))
 t0:=Tryz.underlying0
 a0:=Tryz.isAgg0
 z0:=Tryz.sizeOf0
 v0:=Tryz.zeroValue0
 t3:=Tryz.underlying3
 a3:=Tryz.isAgg3
 z3:=Tryz.sizeOf3
 v3:=Tryz.zeroValue3
 t4:=Tryz.underlying4
 a4:=Tryz.isAgg4
 z4:=Tryz.sizeOf4
 v4:=Tryz.zeroValue4
 t9:=Tryz.underlying9
 a9:=Tryz.isAgg9
 z9:=Tryz.sizeOf9
 v9:=Tryz.zeroValue9
 t20:=Tryz.underlying20
 a20:=Tryz.isAgg20
 z20:=Tryz.sizeOf20
 v20:=Tryz.zeroValue20
 t31:=Tryz.underlying30
 a31:=Tryz.isAgg30
 z31:=Tryz.sizeOf30
 v31:=Tryz.zeroValue30
 t37:=Tryz.underlying174
 a37:=Tryz.isAgg174
 z37:=Tryz.sizeOf174
 v37:=Tryz.zeroValue174
 t70:=Tryz.underlying218
 a70:=Tryz.isAgg218
 z70:=Tryz.sizeOf218
 v70:=Tryz.zeroValue218
 t72:=Tryz.underlying220
 a72:=Tryz.isAgg220
 z72:=Tryz.sizeOf220
 v72:=Tryz.zeroValue220
 t75:=Tryz.underlying223
 a75:=Tryz.isAgg223
 z75:=Tryz.sizeOf223
 v75:=Tryz.zeroValue223
 t76:=Tryz.underlying224
 a76:=Tryz.isAgg224
 z76:=Tryz.sizeOf224
 v76:=Tryz.zeroValue224
 t127:=Tryz.underlying263
 a127:=Tryz.isAgg263
 z127:=Tryz.sizeOf263
 v127:=Tryz.zeroValue263
 t164:=Tryz.underlying281
 a164:=Tryz.isAgg281
 z164:=Tryz.sizeOf281
 v164:=Tryz.zeroValue281 }
theorem Tryz.Builder_Extra_156:Builder.Extra Tryz.prog Tryz.lays156_ren:={
 sizeBuilder:=by kernel_rfl
 liesBuilder:=by kernel_rfl
 t5:=Tryz.underlying5
 a5:=Tryz.isAgg5
 z5:=Tryz.sizeOf5
 v5:=Tryz.zeroValue5
 infoByte:=by kernel_rfl
 cellsByte:=by kernel_rfl
 sizeByte:=by kernel_rfl
 neB5:=by decide }
open Go.RowKit in
theorem Tryz.strings_Join_none (a:Option Addr) (c:Nat) (sep:ByteArray) (w:World) :
  Calls Tryz.prog 122 #[.slice a 0 c,.string sep] w fun e w'=>e = .returned (.string ⟨#[]⟩)/\w'=w:=Any.strings_Join_none Tryz.lays156 Tryz.Builder_Extra_156 a c sep w
open Go.RowKit in
theorem Tryz.strings_Join (bk o c:Nat) (xs:List ByteArray) (sep:ByteArray) (w:World) (hcells:∀ (j:Nat) x,xs[j]?=some x->w.cell? ⟨bk,o+j,none⟩=some (.string x)) (hbk:bk<w.heap.size) (hN:xs.length<=140737488355328) (hcap:xs.length<=c) (hlen:(Lib.join (xs.map (·.data.toList)) sep.data.toList).length<=140737488355328) :
  Calls Tryz.prog 122 #[.slice (some ⟨bk,o,none⟩) xs.length c,.string sep] w fun e w'=>e = .returned (.string ⟨(Lib.join (xs.map (·.data.toList)) sep.data.toList).toArray⟩)/\Below w.heap.size w w':=Any.strings_Join Tryz.lays156 Tryz.Builder_Extra_156 bk o c xs sep w hcells hbk hN hcap hlen
def Tryz.lays162_ren:Go.Shelf.Ren:=⟨fun | 162=>162 | 232=>193 | 227=>194 | 234=>195 | 236=>196 | 228=>229 | 271=>230 | 151=>231 | 120=>264 | 197=>191 | 152=>234 | 260=>227 | 137=>145 | 119=>265 | 224=>262 | 225=>261 | 217=>174 | 266=>222 | n=>n,fun | 9=>9 | 4=>4 | 3=>3 | 5=>5 | 117=>255 | 116=>254 | 0=>0 | 124=>258 | 21=>21 | 105=>249 | 46=>261 | 119=>301 | 139=>304 | 138=>303 | n=>n,fun | 3=>5 | 4=>6 | n=>n⟩
theorem Tryz.lays162:Go.Proofs.Lays.n162 Tryz.prog Tryz.lays162_ren:={
 mixed:=by kernel_rfl
 f119:=Tryz.func265.trans (congrArg some (by kernel_rfl))
 f120:=Tryz.func264.trans (congrArg some (by kernel_rfl))
 f137:=Tryz.func145.trans (congrArg some (by kernel_rfl))
 f151:=Tryz.func231.trans (congrArg some (by kernel_rfl))
 f152:=Tryz.func234.trans (congrArg some (by kernel_rfl))
 f162:=Tryz.func162.trans (congrArg some (by kernel_rfl))
 f197:=Tryz.func191.trans (congrArg some (by kernel_rfl))
 f217:=Tryz.func174.trans (congrArg some (by kernel_rfl))
 f224:=Tryz.func262.trans (congrArg some (by kernel_rfl))
 f225:=Tryz.func261.trans (congrArg some (by kernel_rfl))
 f227:=Tryz.func194.trans (congrArg some (by kernel_rfl))
 f228:=Tryz.func229.trans (congrArg some (by kernel_rfl))
 f232:=Tryz.func193.trans (congrArg some (by kernel_rfl))
 f234:=Tryz.func195.trans (congrArg some (by kernel_rfl))
 f236:=Tryz.func196.trans (congrArg some (by kernel_rfl))
 f260:=Tryz.func227.trans (congrArg some (by kernel_rfl))
 f266:=Tryz.func222.trans (congrArg some (by kernel_rfl))
 f271:=Tryz.func230.trans (congrArg some (by kernel_rfl))
 t0:=Tryz.underlying0
 a0:=Tryz.isAgg0
 z0:=Tryz.sizeOf0
 v0:=Tryz.zeroValue0
 t3:=Tryz.underlying3
 a3:=Tryz.isAgg3
 z3:=Tryz.sizeOf3
 v3:=Tryz.zeroValue3
 t4:=Tryz.underlying4
 a4:=Tryz.isAgg4
 z4:=Tryz.sizeOf4
 v4:=Tryz.zeroValue4
 t5:=Tryz.underlying5
 a5:=Tryz.isAgg5
 z5:=Tryz.sizeOf5
 v5:=Tryz.zeroValue5
 t9:=Tryz.underlying9
 a9:=Tryz.isAgg9
 z9:=Tryz.sizeOf9
 v9:=Tryz.zeroValue9
 t21:=Tryz.underlying21
 a21:=Tryz.isAgg21
 z21:=Tryz.sizeOf21
 v21:=Tryz.zeroValue21
 t46:=Tryz.underlying261
 a46:=Tryz.isAgg261
 z46:=Tryz.sizeOf261
 v46:=Tryz.zeroValue261
 t105:=Tryz.underlying249
 a105:=Tryz.isAgg249
 z105:=Tryz.sizeOf249
 v105:=Tryz.zeroValue249
 t116:=Tryz.underlying254
 a116:=Tryz.isAgg254
 z116:=Tryz.sizeOf254
 t117:=Tryz.underlying255
 a117:=Tryz.isAgg255
 z117:=Tryz.sizeOf255
 v117:=Tryz.zeroValue255
 t119:=Tryz.underlying301
 a119:=Tryz.isAgg301
 z119:=Tryz.sizeOf301
 t124:=Tryz.underlying258
 a124:=Tryz.isAgg258
 z124:=Tryz.sizeOf258
 v124:=Tryz.zeroValue258
 t138:=Tryz.underlying303
 a138:=Tryz.isAgg303
 z138:=Tryz.sizeOf303
 v138:=Tryz.zeroValue303
 t139:=Tryz.underlying304
 a139:=Tryz.isAgg304
 z139:=Tryz.sizeOf304
 v139:=Tryz.zeroValue304
 g3:=by kernel_rfl
 g4:=by kernel_rfl }
def Tryz.lays119_ren:Go.Shelf.Ren:=⟨fun | 119=>265 | n=>n,fun | 21=>21 | 4=>4 | n=>n,fun | n=>n⟩
theorem Tryz.lays119:Go.Proofs.Lays.n119 Tryz.prog Tryz.lays119_ren:={
 mixed:=by kernel_rfl
 f119:=Tryz.func265.trans (congrArg some (by kernel_rfl))
 t4:=Tryz.underlying4
 a4:=Tryz.isAgg4
 z4:=Tryz.sizeOf4
 v4:=Tryz.zeroValue4
 t21:=Tryz.underlying21
 a21:=Tryz.isAgg21
 z21:=Tryz.sizeOf21
 v21:=Tryz.zeroValue21 }
theorem Tryz.utf8_ValidRune (r:Int) (w:World) :
  Calls Tryz.prog 265 #[.int .i32 r] w fun e w'=>e = .returned (.bool (Lib.validRune r))/\w'=w:=Any.utf8_ValidRune Tryz.lays119 r w
def Tryz.lays106_ren:Go.Shelf.Ren:=⟨fun | 106=>260 | 213=>286 | 265=>302 | n=>n,fun | 9=>9 | 3=>3 | n=>n,fun | n=>n⟩
theorem Tryz.lays106:Go.Proofs.Lays.n106 Tryz.prog Tryz.lays106_ren:={
 mixed:=by kernel_rfl
 f106:=Tryz.func260.trans (congrArg some (by kernel_rfl))
 f213:=Tryz.func286.trans (congrArg some (by kernel_rfl))
 f265:=Tryz.func302.trans (congrArg some (by kernel_rfl))
 t3:=Tryz.underlying3
 a3:=Tryz.isAgg3
 z3:=Tryz.sizeOf3
 v3:=Tryz.zeroValue3
 t9:=Tryz.underlying9
 a9:=Tryz.isAgg9
 z9:=Tryz.sizeOf9
 v9:=Tryz.zeroValue9 }
open Go.RowKit in
theorem Tryz.strings_Compare (a b:ByteArray) (w:World) :
  Calls Tryz.prog 260 #[.string a,.string b] w fun e w'=>e = .returned (.int .i64 (Lib.compareBytes a.data.toList b.data.toList))/\w'=w:=Any.strings_Compare Tryz.lays106 a b w
def Tryz.lays137_ren:Go.Shelf.Ren:=⟨fun | 137=>145 | 217=>174 | 266=>222 | n=>n,fun | 9=>9 | 5=>5 | 3=>3 | n=>n,fun | n=>n⟩
theorem Tryz.lays137:Go.Proofs.Lays.n137 Tryz.prog Tryz.lays137_ren:={
 mixed:=by kernel_rfl
 f137:=Tryz.func145.trans (congrArg some (by kernel_rfl))
 f217:=Tryz.func174.trans (congrArg some (by kernel_rfl))
 f266:=Tryz.func222.trans (congrArg some (by kernel_rfl))
 t3:=Tryz.underlying3
 a3:=Tryz.isAgg3
 z3:=Tryz.sizeOf3
 v3:=Tryz.zeroValue3
 t5:=Tryz.underlying5
 a5:=Tryz.isAgg5
 z5:=Tryz.sizeOf5
 v5:=Tryz.zeroValue5
 t9:=Tryz.underlying9
 a9:=Tryz.isAgg9
 z9:=Tryz.sizeOf9
 v9:=Tryz.zeroValue9 }
open Go.RowKit in
theorem Tryz.strings_IndexByte (s:ByteArray) (c:Int) (w:World) :
  Calls Tryz.prog 145 #[.string s,.int .u8 c] w fun e w'=>e = .returned (.int .i64 (Lib.indexByte s.data.toList c.toNat.toUInt8))/\w'=w:=Any.strings_IndexByte Tryz.lays137 s c w
def Tryz.lays143_ren:Go.Shelf.Ren:=⟨fun | 143=>192 | 219=>228 | 217=>174 | 225=>261 | 224=>262 | 267=>263 | 266=>222 | 314=>287 | n=>n,fun | 9=>9 | 3=>3 | 4=>4 | 5=>5 | 46=>261 | 146=>319 | 51=>318 | n=>n,fun | 1=>4 | n=>n⟩
theorem Tryz.lays143:Go.Proofs.Lays.n143 Tryz.prog Tryz.lays143_ren:={
 mixed:=by kernel_rfl
 f143:=Tryz.func192.trans (congrArg some (by kernel_rfl))
 f217:=Tryz.func174.trans (congrArg some (by kernel_rfl))
 f219:=Tryz.func228.trans (congrArg some (by kernel_rfl))
 f224:=Tryz.func262.trans (congrArg some (by kernel_rfl))
 f225:=Tryz.func261.trans (congrArg some (by kernel_rfl))
 f266:=Tryz.func222.trans (congrArg some (by kernel_rfl))
 f267:=Tryz.func263.trans (congrArg some (by kernel_rfl))
 f314:=Tryz.func287.trans (congrArg some (by kernel_rfl))
 t3:=Tryz.underlying3
 a3:=Tryz.isAgg3
 z3:=Tryz.sizeOf3
 v3:=Tryz.zeroValue3
 t4:=Tryz.underlying4
 a4:=Tryz.isAgg4
 z4:=Tryz.sizeOf4
 v4:=Tryz.zeroValue4
 t5:=Tryz.underlying5
 a5:=Tryz.isAgg5
 z5:=Tryz.sizeOf5
 v5:=Tryz.zeroValue5
 t9:=Tryz.underlying9
 a9:=Tryz.isAgg9
 z9:=Tryz.sizeOf9
 v9:=Tryz.zeroValue9
 t46:=Tryz.underlying261
 a46:=Tryz.isAgg261
 z46:=Tryz.sizeOf261
 v46:=Tryz.zeroValue261
 t51:=Tryz.underlying318
 a51:=Tryz.isAgg318
 z51:=Tryz.sizeOf318
 v51:=Tryz.zeroValue318
 t146:=Tryz.underlying319
 a146:=Tryz.isAgg319
 z146:=Tryz.sizeOf319
 v146:=Tryz.zeroValue319
 g1:=by kernel_rfl }
open Go.RowKit Go.Lib in
theorem Tryz.strings_Index_one (s:ByteArray) (c:UInt8) (w:World) :
  Calls Tryz.prog 192 #[.string s,.string ⟨#[c]⟩] w fun e w'=>e = .returned (.int .i64 (Lib.indexByte s.data.toList c))/\w'=w:=Any.strings_Index_one Tryz.lays143 s c w
def Tryz.lays99_ren:Go.Shelf.Ren:=⟨fun | 99=>112 | 206=>158 | n=>n,fun | 9=>9 | 4=>4 | 3=>3 | n=>n,fun | n=>n⟩
theorem Tryz.lays99:Go.Proofs.Lays.n99 Tryz.prog Tryz.lays99_ren:={
 mixed:=by kernel_rfl
 f99:=Tryz.func112.trans (congrArg some (by kernel_rfl))
 f206:=Tryz.func158.trans (congrArg some (by kernel_rfl))
 t3:=Tryz.underlying3
 a3:=Tryz.isAgg3
 z3:=Tryz.sizeOf3
 v3:=Tryz.zeroValue3
 t4:=Tryz.underlying4
 a4:=Tryz.isAgg4
 z4:=Tryz.sizeOf4
 v4:=Tryz.zeroValue4
 t9:=Tryz.underlying9
 a9:=Tryz.isAgg9
 z9:=Tryz.sizeOf9
 v9:=Tryz.zeroValue9 }
open Go.RowKit Go.Lib in
theorem Tryz.strings_HasPrefix (s p:ByteArray) (w:World) :
  Calls Tryz.prog 112 #[.string s,.string p] w fun e w'=>e = .returned (.bool (Lib.hasPrefix s.data.toList p.data.toList))/\w'=w:=Any.strings_HasPrefix Tryz.lays99 s p w
def Tryz.lays100_ren:Go.Shelf.Ren:=⟨fun | 100=>115 | 207=>160 | n=>n,fun | 9=>9 | 4=>4 | 3=>3 | n=>n,fun | n=>n⟩
theorem Tryz.lays100:Go.Proofs.Lays.n100 Tryz.prog Tryz.lays100_ren:={
 mixed:=by kernel_rfl
 f100:=Tryz.func115.trans (congrArg some (by kernel_rfl))
 f207:=Tryz.func160.trans (congrArg some (by kernel_rfl))
 t3:=Tryz.underlying3
 a3:=Tryz.isAgg3
 z3:=Tryz.sizeOf3
 v3:=Tryz.zeroValue3
 t4:=Tryz.underlying4
 a4:=Tryz.isAgg4
 z4:=Tryz.sizeOf4
 v4:=Tryz.zeroValue4
 t9:=Tryz.underlying9
 a9:=Tryz.isAgg9
 z9:=Tryz.sizeOf9
 v9:=Tryz.zeroValue9 }
open Go.RowKit Go.Lib in
theorem Tryz.strings_HasSuffix (s p:ByteArray) (w:World) (hs:s.size<=9223372036854775807) :
  Calls Tryz.prog 115 #[.string s,.string p] w fun e w'=>e = .returned (.bool (Lib.hasSuffix s.data.toList p.data.toList))/\w'=w:=Any.strings_HasSuffix Tryz.lays100 s p w hs
def Tryz.lays152_ren:Go.Shelf.Ren:=⟨fun | 152=>234 | 137=>145 | 119=>265 | 224=>262 | 225=>261 | 217=>174 | 266=>222 | n=>n,fun | 9=>9 | 21=>21 | 3=>3 | 4=>4 | 5=>5 | 0=>0 | 46=>261 | n=>n,fun | n=>n⟩
theorem Tryz.lays152:Go.Proofs.Lays.n152 Tryz.prog Tryz.lays152_ren:={
 mixed:=by kernel_rfl
 f119:=Tryz.func265.trans (congrArg some (by kernel_rfl))
 f137:=Tryz.func145.trans (congrArg some (by kernel_rfl))
 f152:=Tryz.func234.trans (congrArg some (by kernel_rfl))
 f217:=Tryz.func174.trans (congrArg some (by kernel_rfl))
 f224:=Tryz.func262.trans (congrArg some (by kernel_rfl))
 f225:=Tryz.func261.trans (congrArg some (by kernel_rfl))
 f266:=Tryz.func222.trans (congrArg some (by kernel_rfl))
 t0:=Tryz.underlying0
 a0:=Tryz.isAgg0
 z0:=Tryz.sizeOf0
 v0:=Tryz.zeroValue0
 t3:=Tryz.underlying3
 a3:=Tryz.isAgg3
 z3:=Tryz.sizeOf3
 v3:=Tryz.zeroValue3
 t4:=Tryz.underlying4
 a4:=Tryz.isAgg4
 z4:=Tryz.sizeOf4
 v4:=Tryz.zeroValue4
 t5:=Tryz.underlying5
 a5:=Tryz.isAgg5
 z5:=Tryz.sizeOf5
 v5:=Tryz.zeroValue5
 t9:=Tryz.underlying9
 a9:=Tryz.isAgg9
 z9:=Tryz.sizeOf9
 v9:=Tryz.zeroValue9
 t21:=Tryz.underlying21
 a21:=Tryz.isAgg21
 z21:=Tryz.sizeOf21
 v21:=Tryz.zeroValue21
 t46:=Tryz.underlying261
 a46:=Tryz.isAgg261
 z46:=Tryz.sizeOf261
 v46:=Tryz.zeroValue261 }
open Go.RowKit Go.Lib in
theorem Tryz.strings_IndexRune_ascii (s:ByteArray) (r:Int) (w:World) (h0:0<=r) (h1:r<128) :
  Calls Tryz.prog 234 #[.string s,.int .i32 r] w fun e w'=>e = .returned (.int .i64 (Lib.indexByte s.data.toList r.toNat.toUInt8))/\w'=w:=Any.strings_IndexRune_ascii Tryz.lays152 s r w h0 h1
def Tryz.lays226_ren:Go.Shelf.Ren:=⟨fun | 226=>235 | n=>n,fun | 3=>3 | 4=>4 | n=>n,fun | n=>n⟩
theorem Tryz.lays226:Go.Proofs.Lays.n226 Tryz.prog Tryz.lays226_ren:={
 mixed:=by kernel_rfl
 f226:=Tryz.func235.trans (congrArg some (by kernel_rfl))
 t3:=Tryz.underlying3
 a3:=Tryz.isAgg3
 z3:=Tryz.sizeOf3
 v3:=Tryz.zeroValue3
 t4:=Tryz.underlying4
 a4:=Tryz.isAgg4
 z4:=Tryz.sizeOf4
 v4:=Tryz.zeroValue4 }
open Go.RowKit Go.Lib in
theorem Tryz.strings_shouldUseASCIISet (n:Int) (w:World) :
  Calls Tryz.prog 235 #[.int .i64 n] w fun e w'=>e = .returned (.bool (decide (8<n)))/\w'=w:=Any.strings_shouldUseASCIISet Tryz.lays226 n w
def Tryz.lays153_ren:Go.Shelf.Ren:=⟨fun | 153=>202 | 152=>234 | 226=>235 | 227=>194 | 228=>229 | 137=>145 | 119=>265 | 224=>262 | 225=>261 | 217=>174 | 266=>222 | n=>n,fun | 9=>9 | 3=>3 | 4=>4 | 5=>5 | 21=>21 | 117=>255 | 116=>254 | 0=>0 | 46=>261 | 124=>258 | n=>n,fun | n=>n⟩
theorem Tryz.lays153:Go.Proofs.Lays.n153 Tryz.prog Tryz.lays153_ren:={
 mixed:=by kernel_rfl
 f119:=Tryz.func265.trans (congrArg some (by kernel_rfl))
 f137:=Tryz.func145.trans (congrArg some (by kernel_rfl))
 f152:=Tryz.func234.trans (congrArg some (by kernel_rfl))
 f153:=Tryz.func202.trans (congrArg some (by kernel_rfl))
 f217:=Tryz.func174.trans (congrArg some (by kernel_rfl))
 f224:=Tryz.func262.trans (congrArg some (by kernel_rfl))
 f225:=Tryz.func261.trans (congrArg some (by kernel_rfl))
 f226:=Tryz.func235.trans (congrArg some (by kernel_rfl))
 f227:=Tryz.func194.trans (congrArg some (by kernel_rfl))
 f228:=Tryz.func229.trans (congrArg some (by kernel_rfl))
 f266:=Tryz.func222.trans (congrArg some (by kernel_rfl))
 t0:=Tryz.underlying0
 a0:=Tryz.isAgg0
 z0:=Tryz.sizeOf0
 v0:=Tryz.zeroValue0
 t3:=Tryz.underlying3
 a3:=Tryz.isAgg3
 z3:=Tryz.sizeOf3
 v3:=Tryz.zeroValue3
 t4:=Tryz.underlying4
 a4:=Tryz.isAgg4
 z4:=Tryz.sizeOf4
 v4:=Tryz.zeroValue4
 t5:=Tryz.underlying5
 a5:=Tryz.isAgg5
 z5:=Tryz.sizeOf5
 v5:=Tryz.zeroValue5
 t9:=Tryz.underlying9
 a9:=Tryz.isAgg9
 z9:=Tryz.sizeOf9
 v9:=Tryz.zeroValue9
 t21:=Tryz.underlying21
 a21:=Tryz.isAgg21
 z21:=Tryz.sizeOf21
 v21:=Tryz.zeroValue21
 t46:=Tryz.underlying261
 a46:=Tryz.isAgg261
 z46:=Tryz.sizeOf261
 v46:=Tryz.zeroValue261
 t116:=Tryz.underlying254
 a116:=Tryz.isAgg254
 z116:=Tryz.sizeOf254
 t117:=Tryz.underlying255
 a117:=Tryz.isAgg255
 z117:=Tryz.sizeOf255
 v117:=Tryz.zeroValue255
 t124:=Tryz.underlying258
 a124:=Tryz.isAgg258
 z124:=Tryz.sizeOf258
 v124:=Tryz.zeroValue258 }
open Go.RowKit Go.Lib in
theorem Tryz.strings_IndexAny_long (hv116:∀ w,(zeroValue 254).run Tryz.prog w = .ok (.agg (Array.replicate 256 (.bool false))) w) (s chars:ByteArray) (w:World) (h2:2<=chars.size) (h8:8<s.size) (hs:s.size<4294967281) (hcs:chars.size<4294967281) (hascii:∀ (j:Nat) b,chars.data.toList[j]?=some b->b.toNat<128) :
  Calls Tryz.prog 202 #[.string s,.string chars] w fun e w'=>e = .returned (.int .i64 (Lib.indexAny s.data.toList chars.data.toList))/\w'=((w.alloc (.cells (Lib.setCells chars.data.toList) 254)).alloc (.cells (Lib.setCells chars.data.toList) 254)):=Any.strings_IndexAny_long Tryz.lays153 hv116 (by kernel_rfl) s chars w h2 h8 hs hcs hascii
end Go.Proofs
end
namespace Go.Proofs.YtnpdbhbmakdklaaGreatDoor.Vcg
section
open CA CB
open Go.RowKit
section
variable {G:zp}
theorem qY (f:FsV) (n:Int) (hl:f.xs.length<=100000) (hR:zX f.xs):Fun Tryz.prog G 100 [.agg (fsC f),.sc (.int .i64 n)] (.tup [.agg (JU (zf n f.xs)),.sc (.bool (zk n f.xs))]) 0:=by
 refine fon Tryz.func100 ?_;dsimp only[Tryz.f100];push_cast -dsimp;refine cl (zcI f n hl hR) ?_;push_cast -dsimp;cases hh:zk n f.xs with
 | false =>
  have hg:zf n f.xs=uX:=by unfold zf;rw[HU hh];rfl
  push_cast -dsimp [hh];exact dn (by push_cast -dsimp [ze,zd,CLe,zg,hg,uX])
 | true =>
  obtain ⟨hlt,hg⟩:=Gx hR hh;have hg:zf n f.xs=f.xs[jj n f.xs]:=by unfold zf;rw[hg];rfl
  have hat:=qU f.xs _ hlt;push_cast -dsimp [hh,hat]
  (try simp only[lS]);repeat refine an ?_
  exact dn (by push_cast -dsimp [ze,zd,CLe,zg,hg])
theorem zU {xs:List zm}:∀ r∈zq xs,r.length=6:=fun r hr=>by
 obtain ⟨x,_,rfl⟩:=List.mem_map.1 hr;rfl
theorem zw {xs:List zm}:jd (zq xs):=fun r hr=>by
 obtain ⟨x,_,rfl⟩:=List.mem_map.1 hr;rfl
theorem UV (f:FsV) (x:zm) (hl:f.xs.length<=90000) (hR:zX f.xs) :
  Fun Tryz.prog G 271 [.agg (fsC f),.agg (JU x)] (.agg [.sc (.int .i64 f.maxI),.sc (.int .i64 f.maxB),.sc (.int .i64 f.next),.own 0 64 6 (zq (ql x f.xs))]) 1:=by
 have hll:(zq f.xs).length=f.xs.length:=List.length_map ..;refine foF (fun _=>[]) Tryz.func271 ?_;dsimp only[Tryz.f271];push_cast -dsimp;refine cl (zcI f x.ino (by omega) hR) ?_;push_cast -dsimp;refine jo [] [] (Vj (zq f.xs) zU zw (by omega)) rfl (by decide) (by decide) (by simp) (by push_cast -dsimp) (by push_cast -dsimp) (fun r bx' m hp=>?_);obtain ⟨rfl,⟨hne,c,h1,h2,rfl,rfl⟩ | ⟨he,⟨rfl,rfl⟩ | ⟨rfl,rfl⟩⟩⟩:=hp
 ·have hbl:=Jt zU h1;have hre:∀ fp fo,C.reL fp fo (qr 6 (zq f.xs) c)=qr 6 (zq f.xs) c:=fun fp fo=>zB (zD zw);have hpos:=List.length_pos_iff.2 hne;cases hh:zk x.ino f.xs with
  | true =>
   obtain ⟨hlt,_⟩:=Gx hR hh;have hst:=vV (c:=c) (rows:=zq f.xs) (row:=JU x) (i:=jj x.ino f.xs) zU rfl (by omega);have hset:zq (ql x f.xs)=(zq f.xs).set (jj x.ino f.xs) (JU x):=by rw[←yi hR hh];simp[List.map_set]
   push_cast -dsimp [hh,hre,hst];refine ⟨by omega,by omega,by rw[hbl];omega,[(4,64,6,(zq f.xs).set (jj x.ino f.xs) (JU x),c)],[.inl 0],?_,rfl,rfl,by push_cast -dsimp [ze,zd,CLe,zg,hset,List.length_set]⟩;rw[←hset];refine zx (by rw[hset];rfl) (by omega) (by rw[hset,List.length_set];exact h1) h2 zU zw
  | false =>
   have hset:zq (ql x f.xs)=(zq f.xs).take (jj x.ino f.xs)++JU x :: (zq f.xs).drop (jj x.ino f.xs):=by rw[←xI hR hh];simp
   have hrl:=zgA x.ino f.xs;have hsl:(zq (ql x f.xs)).length=(zq f.xs).length+1:=by rw[hset];simp;omega
   push_cast -dsimp [hh,hre];refine jo [4] [0] (V4 (e:=64) (zq f.xs) (JU x) (jj x.ino f.xs) c zU rfl zw rfl (by omega) (by omega) h1 h2) rfl (by decide) (by decide) (by simp) (by push_cast -dsimp) (by push_cast -dsimp [hre]) (fun r bx' m hp=>?_);rw[←hset]at hp;have hre2:∀ fp fo c,C.reL fp fo (qr 6 (zq (ql x f.xs)) c)=qr 6 (zq (ql x f.xs)) c:=fun fp fo c=>zB (zD zw);obtain ⟨rfl,c',g1,g2,⟨rfl,rfl⟩ | ⟨rfl,rfl⟩⟩:=hp
   ·push_cast -dsimp [hre2,hre];exact ⟨[(4,64,6,zq (ql x f.xs),c')],[.inl 1],zx rfl (by omega) g1 g2 zU zw,rfl,rfl,by push_cast -dsimp [ze,zd,CLe,zg]⟩
   ·have hra:∀ fp fo,C.reL fp fo (List.replicate (c*6) .any)=List.replicate (c*6) .any:=fun fp fo=>zB (by simp[List.all_replicate,C.stayB]);push_cast -dsimp [hre2,hre,hra];exact ⟨[(5,64,6,zq (ql x f.xs),c')],[.inl 1],zx rfl (by omega) g1 g2 zU zw,rfl,rfl,by push_cast -dsimp [ze,zd,CLe,zg]⟩
 ·have he:f.xs = []:=by simpa using he
  have hh:zk x.ino f.xs=false:=by rw[he];rfl
  have hr0:jj x.ino f.xs=0:=by rw[he];rfl
  have hset:ql x f.xs = [x]:=by rw[he];rfl
  push_cast -dsimp [hh,hr0];refine jo [] [0] (uT (e:=64) (JU x) rfl rfl) rfl (by decide) (by decide) (by simp) (by push_cast -dsimp) (by push_cast -dsimp) (fun r bx' m hp=>?_);obtain ⟨rfl,c,g1,g2,rfl,rfl⟩:=hp;have hre:∀ fp fo,C.reL fp fo (qr 6 [JU x] c)=qr 6 [JU x] c:=fun fp fo=>zB (zD (zw (xs:=[x])));push_cast -dsimp [hre];exact ⟨[(3,64,6,zq [x],c)],[.inl 1],zx rfl (by omega) g1 g2 zU zw,rfl,rfl,by push_cast -dsimp [ze,zd,CLe,zg,hset]⟩
 ·have he:f.xs = []:=by simpa using he
  have hh:zk x.ino f.xs=false:=by rw[he];rfl
  have hr0:jj x.ino f.xs=0:=by rw[he];rfl
  have hset:ql x f.xs = [x]:=by rw[he];rfl
  push_cast -dsimp [hh,hr0];refine jo [3] [0] (V4 (e:=64) [] (JU x) 0 0 (fun r hr=>by cases hr) rfl (fun r hr=>by cases hr) rfl (by simp) (by simp) (by simp) (by simp)) rfl (by decide) (by decide) (by simp) (by push_cast -dsimp) (by push_cast -dsimp [qr]) (fun r bx' m hp=>?_);obtain ⟨rfl,c,g1,g2,hp⟩:=hp;have hre:∀ fp fo,C.reL fp fo (qr 6 [JU x] c)=qr 6 [JU x] c:=fun fp fo=>zB (zD (zw (xs:=[x])));rcases hp with ⟨rfl,rfl⟩ | ⟨rfl,rfl⟩
  ·push_cast -dsimp [hre];exact ⟨[(3,64,6,zq [x],c)],[.inl 1],zx rfl (Nat.lt_of_lt_of_le (Nat.zero_lt_succ _) g1) g1 g2 zU zw,rfl,rfl,by push_cast -dsimp [ze,zd,CLe,zg,hset]⟩
  ·push_cast -dsimp [hre];exact ⟨[(4,64,6,zq [x],c)],[.inl 1],zx rfl (Nat.lt_of_lt_of_le (Nat.zero_lt_succ _) g1) g1 g2 zU zw,rfl,rfl,by push_cast -dsimp [ze,zd,CLe,zg,hset]⟩
theorem zj2 (f:FsV) (n:Int) (hl:f.xs.length<=90000) (hR:zX f.xs) (h0:f.xs≠[]) :
  Fun Tryz.prog G 275 [.agg (fsC f),.sc (.int .i64 n)] (.agg [.sc (.int .i64 f.maxI),.sc (.int .i64 f.maxB),.sc (.int .i64 f.next),.own 0 64 6 (zq (z8 n f.xs))]) 1:=by
 have hll:(zq f.xs).length=f.xs.length:=List.length_map ..;refine foF (fun _=>[]) Tryz.func275 ?_;dsimp only[Tryz.f275];push_cast -dsimp;refine cl (zcI f n (by omega) hR) ?_;push_cast -dsimp;refine jo [] [] (Vj (zq f.xs) zU zw (by omega)) rfl (by decide) (by decide) (by simp) (by push_cast -dsimp) (by push_cast -dsimp) (fun r bx' m hp=>?_);obtain ⟨rfl,⟨hne,c,h1,h2,rfl,rfl⟩ | ⟨he,_⟩⟩:=hp
 ·have hre:∀ fp fo,C.reL fp fo (qr 6 (zq f.xs) c)=qr 6 (zq f.xs) c:=fun fp fo=>zB (zD zw);have hpos:=List.length_pos_iff.2 hne;cases hh:zk n f.xs with
  | true =>
   obtain ⟨hlt,_⟩:=Gx hR hh;have hset:zq (z8 n f.xs)=(zq f.xs).take (jj n f.xs)++(zq f.xs).drop (jj n f.xs+1):=by rw[←zad hR hh];simp
   have hsl:(zq (z8 n f.xs)).length=(zq f.xs).length-1:=by rw[hset];simp;omega
   have hd:=zjr (G:=G) (zq f.xs) (jj n f.xs) c zU zw (by omega) (by omega) h1 h2;rw[←hset,←hsl]at hd;have hre2:∀ fp fo,C.reL fp fo (qr 6 (zq (z8 n f.xs)) c)=qr 6 (zq (z8 n f.xs)) c:=fun fp fo=>zB (zD zw);push_cast -dsimp [hh,hre]
   (try simp only[lS]);repeat refine an ?_
   rw[hll]at hd;refine Vn [3] [] hd rfl (by decide) (by decide) (by simp) (by push_cast -dsimp) (by push_cast -dsimp [hre]) ?_;push_cast -dsimp [hre,hre2];exact ⟨[(3,64,6,zq (z8 n f.xs),c)],[.inl 0],zx rfl (by omega) (by omega) h2 zU zw,rfl,rfl,by push_cast -dsimp [ze,zd,CLe,zg]⟩
  | false =>
   push_cast -dsimp [hh,hre];exact ⟨[(3,64,6,zq f.xs,c)],[.inl 0],zx rfl (by omega) h1 h2 zU zw,rfl,rfl,by push_cast -dsimp [ze,zd,CLe,zg,X8 hh]⟩
 ·exact absurd (by simpa using he) h0
theorem zjq {R:Env} {L:Loc} {id e:Nat} {v:Value} (h:Rep R L (.own id e 6 [[.sc (.int .i64 1),.sc (.int .i64 2),.sc (.int .i64 0),.str [],.sc (.int .i64 1),.sc (.slice none 0 0)]]) v):Rep R L (.own id e 6 (zq [⟨1,2,0,[],1,[]⟩])) v:=
 zaG (by simp[RLe,zg,CLe]) h
theorem XD {α:Type} {a b:List α} {i:Nat} (ha:i<a.length) (hb:i<b.length) (h:a.take i=b.take i):(a.take (i+1)=b.take (i+1))↔a[i]=b[i]:=by
 rw[List.take_add_one,List.take_add_one,h,List.append_right_inj,List.getElem?_eq_getElem ha,List.getElem?_eq_getElem hb];simp
theorem zpR (a b:zW):(decide (a.name=b.name)&&decide (a.ino=b.ino))=decide (a=b):=by
 cases a;cases b;simp
theorem zoi (a b:zm):a=b↔a.ino=b.ino/\a.kind=b.kind/\a.links=b.links/\a.data=b.data/\a.parent=b.parent/\a.es=b.es:=by
 cases a;cases b;simp
theorem zrG (a b:FsV):a=b↔a.maxI=b.maxI/\a.maxB=b.maxB/\a.next=b.next/\a.xs=b.xs:=by
 cases a;cases b;simp
end
end
section
open CA CB
open Go.RowKit
section
variable {G:zp}
theorem Md (a b:List zW) (ha:a.length<=9223372036854775807):Fun Tryz.prog G 138 [.sl 2 (zL a),.sl 2 (zL b)] (.sc (.bool (decide (a=b)))) 0:=by
 refine fon Tryz.func138 ?_;dsimp only[Tryz.f138];have hla:(zL a).length=a.length:=List.length_map ..;have hlb:(zL b).length=b.length:=List.length_map ..;by_cases hab:a.length=b.length
 ·push_cast -dsimp [hla,hlb,hab];refine loop (fun i:Nat=>⟨[(0,.sl 2 (zL a)),(1,.sl 2 (zL b)),(5,.sc (.int .i64 i))],[],0,0⟩) (fun i=>i<=b.length/\a.take i=b.take i) (fun i=>b.length-i) 0 ⟨Nat.zero_le _,rfl⟩ ?_ ?_
  ·exact wk
  ·rintro i ⟨h1,h2⟩;by_cases h:i<b.length
   ·have g1:=JH a i (by omega);have g2:=JH b i h;push_cast -dsimp [hla,hab,h,g1,g2]
    repeat refine an ?_
    have hd:=zpR a[i] b[i];by_cases he:a[i]=b[i]
    ·have hd:(decide (a[i].name=b[i].name)&&decide (a[i].ino=b[i].ino))=true:=by rw[hd,decide_eq_true he]
     push_cast -dsimp [hd]
     repeat refine an ?_
     exact ⟨i+1,⟨h,(XD (by omega) h h2).2 he⟩,by omega,wk⟩
    ·have hd:(decide (a[i].name=b[i].name)&&decide (a[i].ino=b[i].ino))=false:=by rw[hd,decide_eq_false he]
     push_cast -dsimp [hd];have:a≠b:=fun h=>he (by subst h;rfl);exact dn (by push_cast -dsimp [ze,zd,CLe,zg,this])
   ·push_cast -dsimp [hla,hab,h];have:a=b:=by rw[←List.take_of_length_le (l:=a) (i:=i) (by omega),h2,List.take_of_length_le (by omega)]
    exact dn (by push_cast -dsimp [ze,zd,CLe,zg,this])
 ·push_cast -dsimp [hla,hlb,hab];have:a≠b:=fun h=>hab (by rw[h]);exact dn (by push_cast -dsimp [ze,zd,CLe,zg,this])
theorem zl9 (x y:zm) (hx:x.es.length<=9223372036854775807):Fun Tryz.prog G 84 [.agg (JU x),.agg (JU y)] (.sc (.bool (decide (x=y)))) 0:=by
 refine fon Tryz.func84 ?_;dsimp only[Tryz.f84];by_cases e0:x.ino=y.ino
 case neg =>
  have hn:¬x=y:=fun h=>e0 (by rw[h]);push_cast -dsimp [e0];exact dn (by push_cast -dsimp [ze,zd,CLe,zg,hn])
 by_cases e1:x.kind=y.kind
 case neg =>
  have hn:¬x=y:=fun h=>e1 (by rw[h]);push_cast -dsimp [e0,e1];exact dn (by push_cast -dsimp [ze,zd,CLe,zg,hn])
 by_cases e2:x.links=y.links
 case neg =>
  have hn:¬x=y:=fun h=>e2 (by rw[h]);push_cast -dsimp [e0,e1,e2];exact dn (by push_cast -dsimp [ze,zd,CLe,zg,hn])
 by_cases e3:x.data=y.data
 case neg =>
  have hn:¬x=y:=fun h=>e3 (by rw[h]);push_cast -dsimp [e0,e1,e2,e3];exact dn (by push_cast -dsimp [ze,zd,CLe,zg,hn])
 by_cases e4:x.parent=y.parent
 case neg =>
  have hn:¬x=y:=fun h=>e4 (by rw[h]);push_cast -dsimp [e0,e1,e2,e3,e4];exact dn (by push_cast -dsimp [ze,zd,CLe,zg,hn])
 by_cases e5:x.es=y.es
 case neg =>
  have hn:¬x=y:=fun h=>e5 (by rw[h]);push_cast -dsimp [e0,e1,e2,e3,e4];refine cl (Md x.es y.es hx) ?_;push_cast -dsimp [e5,hn];exact dn (by push_cast -dsimp [ze,zd,CLe,zg,hn])
 have hn:x=y:=(zoi x y).2 ⟨e0,e1,e2,e3,e4,e5⟩;push_cast -dsimp [e0,e1,e2,e3,e4];refine cl (Md x.es y.es hx) ?_;push_cast -dsimp [e5];exact dn (by push_cast -dsimp [ze,zd,CLe,zg,hn])
theorem Gr (a b:List zm) (ha:a.length<=100000) (he:∀ x∈a,x.es.length<=9223372036854775807):Fun Tryz.prog G 45 [.sl 6 (zq a),.sl 6 (zq b)] (.sc (.bool (decide (a=b)))) 0:=by
 refine fon Tryz.func45 ?_;dsimp only[Tryz.f45];have hla:(zq a).length=a.length:=List.length_map ..;have hlb:(zq b).length=b.length:=List.length_map ..;by_cases hab:a.length=b.length
 ·push_cast -dsimp [hla,hlb,hab];refine loop (fun i:Nat=>⟨[(0,.sl 6 (zq a)),(1,.sl 6 (zq b)),(5,.sc (.int .i64 i))],[],0,0⟩) (fun i=>i<=b.length/\a.take i=b.take i) (fun i=>b.length-i) 0 ⟨Nat.zero_le _,rfl⟩ ?_ ?_
  ·exact wk
  ·rintro i ⟨h1,h2⟩;by_cases h:i<b.length
   ·have g1:=qU a i (by omega);have g2:=qU b i h;push_cast -dsimp [hla,hab,h,g1,g2]
    repeat refine an ?_
    refine cl (zl9 a[i] b[i] (he _ (List.getElem_mem _))) ?_;push_cast -dsimp;by_cases he:a[i]=b[i]
    ·push_cast -dsimp [decide_eq_true he]
     repeat refine an ?_
     exact ⟨i+1,⟨h,(XD (by omega) h h2).2 he⟩,by omega,wk⟩
    ·push_cast -dsimp [decide_eq_false he];have:a≠b:=fun h=>he (by subst h;rfl);exact dn (by push_cast -dsimp [ze,zd,CLe,zg,this])
   ·push_cast -dsimp [hla,hab,h];have:a=b:=by rw[←List.take_of_length_le (l:=a) (i:=i) (by omega),h2,List.take_of_length_le (by omega)]
    exact dn (by push_cast -dsimp [ze,zd,CLe,zg,this])
 ·push_cast -dsimp [hla,hlb,hab];have:a≠b:=fun h=>hab (by rw[h]);exact dn (by push_cast -dsimp [ze,zd,CLe,zg,this])
theorem ze6 (x y:FsV) (ha:x.xs.length<=100000) (he:∀ z∈x.xs,z.es.length<=9223372036854775807):Fun Tryz.prog G 15 [.agg (fsC x),.agg (fsC y)] (.sc (.bool (decide (x=y)))) 0:=by
 refine fon Tryz.func15 ?_;dsimp only[Tryz.f15];by_cases e0:x.maxI=y.maxI
 case neg =>
  have hn:¬x=y:=fun h=>e0 (by rw[h]);push_cast -dsimp [e0];exact dn (by push_cast -dsimp [ze,zd,CLe,zg,hn])
 by_cases e1:x.maxB=y.maxB
 case neg =>
  have hn:¬x=y:=fun h=>e1 (by rw[h]);push_cast -dsimp [e0,e1];exact dn (by push_cast -dsimp [ze,zd,CLe,zg,hn])
 by_cases e2:x.next=y.next
 case neg =>
  have hn:¬x=y:=fun h=>e2 (by rw[h]);push_cast -dsimp [e0,e1,e2];exact dn (by push_cast -dsimp [ze,zd,CLe,zg,hn])
 by_cases e3:x.xs=y.xs
 case neg =>
  have hn:¬x=y:=fun h=>e3 (by rw[h]);push_cast -dsimp [e0,e1,e2];refine cl (Gr x.xs y.xs ha he) ?_;push_cast -dsimp [e3,hn];exact dn (by push_cast -dsimp [ze,zd,CLe,zg,hn])
 have hn:x=y:=(zrG x y).2 ⟨e0,e1,e2,e3⟩;push_cast -dsimp [e0,e1,e2];refine cl (Gr x.xs y.xs ha he) ?_;push_cast -dsimp [e3];exact dn (by push_cast -dsimp [ze,zd,CLe,zg,hn])
theorem zbz {xs:List zm} {i:Nat} (hi:i<xs.length) (h0:0<i):zX (xs.take (i+1))↔zX (xs.take i)/\xs[i-1].ino<xs[i].ino:=by
 rw[List.take_add_one,List.getElem?_eq_getElem hi];unfold zX;rw[List.pairwise_append];simp only[Option.toList_some,List.pairwise_singleton,true_and,List.mem_singleton,forall_eq];constructor
 ·rintro ⟨h1,h2⟩;exact ⟨h1,h2 _ (List.mem_take_iff_getElem.2 ⟨i-1,by omega,rfl⟩)⟩
 ·rintro ⟨h1,h2⟩;refine ⟨h1,fun a ha=>?_⟩;obtain ⟨j,hj,rfl⟩:=List.mem_take_iff_getElem.1 ha;rcases Nat.lt_or_ge j (i-1) with q | q
  ·have:=(List.pairwise_iff_getElem.1 h1) j (i-1) (by simp;omega) (by simp;omega) q;simp at this;omega
  ·have:j=i-1:=by omega
   subst this;exact h2
instance (xs:List zm):Decidable (zX xs):=by unfold zX;infer_instance
theorem Ue (f:FsV) (hl:f.xs.length<=100000):Fun Tryz.prog G 108 [.agg (fsC f)] (.sc (.bool (decide (zX f.xs)))) 0:=by
 have hll:(zq f.xs).length=f.xs.length:=List.length_map ..;refine fon Tryz.func108 ?_;dsimp only[Tryz.f108];push_cast -dsimp;refine loop (fun i:Nat=>⟨[(1,.ptr 0 0),(3,.sc (.int .i64 i))],[fsC f],0,0⟩) (fun i=>1<=i/\zX (f.xs.take i)) (fun i=>f.xs.length-i) 1 ⟨Nat.le_refl _,by
  cases f.xs with
  | nil=>exact List.Pairwise.nil
  | cons x r=>exact List.pairwise_singleton _ _⟩ ?_ ?_
 ·exact wk
 ·rintro i ⟨h1,h2⟩;by_cases h:i<f.xs.length
  ·have g1:=qU f.xs i h;have g2:=qU f.xs (i-1) (by omega);have e1:(i:Int)-1=((i-1:Nat):Int):=by omega
   push_cast -dsimp [hll,h,e1,g1,g2];by_cases hc:f.xs[i].ino<=f.xs[i-1].ino
   ·push_cast -dsimp [hc]
    repeat refine an ?_
    have hn:¬zX f.xs:=fun hR=>by
     have:=(List.pairwise_iff_getElem.1 hR) (i-1) i (by omega) h (by omega);omega
    exact dn (by push_cast -dsimp [ze,zd,CLe,zg,hn])
   ·push_cast -dsimp [hc]
    repeat refine an ?_
    exact ⟨i+1,⟨by omega,(zbz h (by omega)).2 ⟨h2,by omega⟩⟩,by omega,wk⟩
  ·push_cast -dsimp [hll,h];rw[List.take_of_length_le (by omega)]at h2;exact dn (by push_cast -dsimp [ze,zd,CLe,zg,h2])
def xe (x:zm):Prop:=x.data.length<=5000/\x.es.length<=40/\∀ e∈x.es,e.name.length<=300
instance (x:zm):Decidable (xe x):=by unfold xe;infer_instance
def kW (xs:List zm):Prop:=xs.length<=40/\∀ x∈xs,xe x
instance (xs:List zm):Decidable (kW xs):=by unfold kW;infer_instance
structure FsS (f:FsV):Prop where
 len:f.xs.length<=10000
 node:∀ x∈f.xs,x.es.length<=10000/\x.data.length<=10000/\∀ e∈x.es,e.name.length<=10000
theorem kW.fs {f:FsV} (h:kW f.xs):FsS f:=⟨by have:=h.1;omega,fun x hx=>by
 obtain ⟨h1,h2,h3⟩:=h.2 x hx;exact ⟨by omega,by omega,fun e he=>by have:=h3 e he;omega⟩⟩
theorem uU (f:FsV):Fun Tryz.prog G 105 [.agg (fsC f)] (.sc (.bool (decide (kW f.xs)))) 0:=by
 have hll:(zq f.xs).length=f.xs.length:=List.length_map ..;refine fon Tryz.func105 ?_;dsimp only[Tryz.f105];push_cast -dsimp;refine loop (fun i:Nat=>⟨[(1,.ptr 0 0),(3,.sc (.int .i64 i))],[fsC f],0,0⟩) (fun i=>i<=100/\∀ t (h:t<f.xs.length),t<i->xe f.xs[t]) (fun i=>100-i) 0 ⟨Nat.zero_le _,fun t h h'=>absurd h' (Nat.not_lt_zero _)⟩ ?_ ?_
 ·exact wk
 ·rintro i ⟨h1,h2⟩;have hend:¬(i<f.xs.length/\i<100)->decide ((f.xs.length:Int)<=40)=decide (kW f.xs):=fun h=>by
   rw[decide_eq_decide];constructor
   ·intro hle;refine ⟨by omega,fun x hx=>?_⟩;obtain ⟨t,ht,rfl⟩:=List.getElem_of_mem hx;exact h2 t ht (by omega)
   ·intro h;have:=h.1;omega
  by_cases h:i<f.xs.length
  ·by_cases h100:i<100
   ·have g1:=qU f.xs i h;have h100':(i:Int)<100:=by omega
    have hbad:¬xe f.xs[i]->¬kW f.xs:=fun hs hf=>hs (hf.2 _ (List.getElem_mem h));by_cases hd:5000<(f.xs[i].data.length:Int)
    ·have hn:=hbad fun hs=>by have:=hs.1;omega
     push_cast -dsimp [hll,h,h100',g1,hd]
     repeat refine an ?_
     exact dn (by push_cast -dsimp [ze,zd,CLe,zg,hn])
    ·by_cases he:40<(f.xs[i].es.length:Int)
     ·have hn:=hbad fun hs=>by have:=hs.2.1;omega
      push_cast -dsimp [hll,h,h100',g1,hd,List.length_map,he]
      repeat refine an ?_
      exact dn (by push_cast -dsimp [ze,zd,CLe,zg,hn])
     ·push_cast -dsimp [hll,h,h100',g1,hd,List.length_map,he]
      repeat refine an ?_
      refine loop (fun j:Nat=>⟨[(1,.ptr 0 0),(3,.sc (.int .i64 i)),(4,.ptr 1 0),(5,.sc (.int .i64 j))],[fsC f,JU f.xs[i]],0,0⟩) (fun j=>j<=f.xs[i].es.length/\∀ t (h':t<f.xs[i].es.length),t<j->f.xs[i].es[t].name.length<=300) (fun j=>f.xs[i].es.length-j) 0 ⟨Nat.zero_le _,fun t h h'=>absurd h' (Nat.not_lt_zero _)⟩ ?_ ?_
      ·exact wk
      ·rintro j ⟨h3,h4⟩;by_cases hj:j<f.xs[i].es.length
       ·have g2:=JH f.xs[i].es j hj;by_cases hs:300<(f.xs[i].es[j].name.length:Int)
        ·have hn:=hbad fun hs'=>by have:=hs'.2.2 _ (List.getElem_mem hj);omega
         push_cast -dsimp [List.length_map,hj,g2,hs]
         repeat refine an ?_
         exact dn (by push_cast -dsimp [ze,zd,CLe,zg,hn])
        ·push_cast -dsimp [List.length_map,hj,g2,hs]
         repeat refine an ?_
         refine ⟨j+1,⟨hj,fun t ht hlt=>?_⟩,by omega,wk⟩;rcases Nat.lt_or_ge t j with q | q
         ·exact h4 t ht q
         ·have:t=j:=by omega
          subst this;omega
       ·push_cast -dsimp [List.length_map,hj]
        repeat refine an ?_
        refine ⟨i+1,⟨by omega,fun t ht hlt=>?_⟩,by omega,wk⟩;rcases Nat.lt_or_ge t i with q | q
        ·exact h2 t ht q
        ·have:t=i:=by omega
         subst this;refine ⟨by omega,by omega,fun e hee=>?_⟩;obtain ⟨u,hu,rfl⟩:=List.getElem_of_mem hee;exact h4 u hu (by omega)
   ·have h100':((i:Int)<100)=False:=eq_false (by omega);have:=hend (by omega);push_cast -dsimp [hll,h,h100'];exact dn (by push_cast -dsimp [ze,zd,CLe,zg,this])
  ·have:=hend (by omega);push_cast -dsimp [hll,h];exact dn (by push_cast -dsimp [ze,zd,CLe,zg,this])
theorem zge (f:FsV) (n:Int) (hl:f.xs.length<=90000) :
  Fun Tryz.prog G 104 [.agg (fsC f),.sc (.int .i64 n)] (.agg [.sc (.int .i64 f.maxI),.sc (.int .i64 f.maxB),.sc (.int .i64 f.next),.own 0 64 6 (zq (z8 n f.xs))]) 1:=by
 have hll:(zq f.xs).length=f.xs.length:=List.length_map ..;refine fon Tryz.func104 ?_;dsimp only[Tryz.f104];push_cast -dsimp;refine loop (fun i:Nat=>⟨[(1,.sc (.int .i64 n)),(2,.ptr 0 0),(4,.ptr 1 0),(5,.own 0 64 6 (zq (z8 n (f.xs.take i)))),(6,.sc (.int .i64 i))],[fsC f,[.sc (.int .i64 0),.sc (.int .i64 0),.sc (.int .i64 0),.sc (.slice none 0 0)]],1,0⟩) (fun i=>i<=f.xs.length) (fun i=>f.xs.length-i) 0 (Nat.zero_le _) ?_ ?_
 ·exact wks [.inr (64,6)] (by push_cast -dsimp [ze,zd,CLe,zg,z8,List.filter_nil])
 ·intro i h1;by_cases h:i<f.xs.length
  ·have g1:=qU f.xs i h;have ht:z8 n (f.xs.take (i+1))=z8 n (f.xs.take i)++z8 n [f.xs[i]]:=by
    unfold z8;rw[List.take_add_one,List.getElem?_eq_getElem h,List.filter_append];rfl
   have hle:(z8 n (f.xs.take i)).length<=i:=Nat.le_trans Q5 (by simp;omega);by_cases hc:f.xs[i].ino=n
   ·have ht:z8 n (f.xs.take (i+1))=z8 n (f.xs.take i):=by rw[ht,j3 hc];simp[z8]
    push_cast -dsimp [hll,h,g1,hc]
    repeat refine an ?_
    exact ⟨i+1,h,by omega,wks [.inl 0] (by push_cast -dsimp [ze,zd,CLe,zg,ht])⟩
   ·have ht:z8 n (f.xs.take (i+1))=z8 n (f.xs.take i)++[f.xs[i]]:=by rw[ht,JB hc];simp[z8]
    push_cast -dsimp [hll,h,g1,hc]
    repeat refine an ?_
    exact ⟨i+1,h,by omega,wks [.inl 0] (by push_cast -dsimp [ze,zd,CLe,zg,ht,List.map_append])⟩
  ·rw[List.take_of_length_le (by omega)];push_cast -dsimp [hll,h];exact ⟨[.inl 0],rfl,rfl,by push_cast -dsimp [ze,zd,CLe,zg]⟩
theorem uA (f:FsV) (x:zm) (hl:f.xs.length<=90000) :
  Fun Tryz.prog G 58 [.agg (fsC f),.agg (JU x)] (.agg [.sc (.int .i64 f.maxI),.sc (.int .i64 f.maxB),.sc (.int .i64 f.next),.own 0 64 6 (zq (ql x f.xs))]) 1:=by
 have hdl:(z8 x.ino f.xs).length<=90000:=Nat.le_trans Q5 hl;have hl2:(zq (z8 x.ino f.xs)).length=(z8 x.ino f.xs).length:=List.length_map ..;refine fon Tryz.func58 ?_;dsimp only[Tryz.f58];push_cast -dsimp;refine cl (zge f x.ino hl) ?_;push_cast -dsimp;unfold ql;generalize z8 x.ino f.xs=rest at hdl hl2;refine loop (fun p:Nat×List zm×Bool=>⟨[(2,.ptr 0 0),(3,.ptr 1 0),(4,.ptr 2 0),(5,.sl 6 (zq rest)),(6,.own 0 64 6 (zq p.2.1)),(7,.sc (.bool p.2.2)),(8,.sc (.int .i64 p.1))],[fsC f,JU x,[.sc (.int .i64 0),.sc (.int .i64 0),.sc (.int .i64 0),.sc (.slice none 0 0)]],1,0⟩)
  (fun p=>p.1<=rest.length/\p.2.1.length<=p.1+p.2.2.toNat/\Zg x rest=p.2.1++(if p.2.2 then rest.drop p.1 else Zg x (rest.drop p.1))) (fun p=>rest.length-p.1) (0,[],false) ⟨Nat.zero_le _,Nat.zero_le _,by simp⟩ ?_ ?_
 ·exact wks [.inr (64,6)]
 ·rintro ⟨i,out,d⟩ ⟨h1,h2,h3⟩;dsimp only at h1 h2 h3 ⊢;have hlo:(zq out).length=out.length:=List.length_map ..;by_cases h:i<rest.length
  ·have g1:=qU rest i h;rw[List.drop_eq_getElem_cons h]at h3;cases d with
   | true =>
    simp only[Bool.toNat_true]at h2;push_cast -dsimp [hl2,h,g1]
    repeat refine an ?_
    exact ⟨(i+1,out++[rest[i]],true),⟨h,by simp;omega,by rw[h3];simp⟩,by dsimp only;omega,wks [.inl 0] (by push_cast -dsimp [ze,zd,CLe,zg,List.map_append])⟩
   | false =>
    simp only[Bool.false_eq_true,if_false,Zg]at h3;simp only[Bool.toNat_false]at h2;by_cases hc:x.ino<rest[i].ino
    ·rw[if_pos hc]at h3;push_cast -dsimp [hl2,h,g1,hc]
     repeat refine an ?_
     exact ⟨(i+1,out++[x]++[rest[i]],true),⟨h,by simp;omega,by rw[h3];simp⟩,by dsimp only;omega,wks [.inl 0] (by push_cast -dsimp [ze,zd,CLe,zg,List.map_append])⟩
    ·rw[if_neg hc]at h3;push_cast -dsimp [hl2,h,g1,hc]
     repeat refine an ?_
     exact ⟨(i+1,out++[rest[i]],false),⟨h,by simp;omega,by rw[h3];simp⟩,by dsimp only;omega,wks [.inl 0] (by push_cast -dsimp [ze,zd,CLe,zg,List.map_append])⟩
  ·rw[List.drop_of_length_le (by omega)]at h3;cases d with
   | true =>
    simp only[Bool.toNat_true]at h2;have h3:Zg x rest=out:=by rw[h3];simp
    push_cast -dsimp [hl2,h];exact ⟨[.inl 0],rfl,rfl,by push_cast -dsimp [ze,zd,CLe,zg,h3]⟩
   | false =>
    simp only[Bool.toNat_false]at h2;have h3:Zg x rest=out++[x]:=by rw[h3];simp[Zg]
    push_cast -dsimp [hl2,h]
    repeat refine an ?_
    exact ⟨[.inl 0],rfl,rfl,by push_cast -dsimp [ze,zd,CLe,zg,h3,List.map_append]⟩
theorem zi9 (i b:Int):Fun Tryz.prog G 57 [.sc (.int .i64 i),.sc (.int .i64 b)] (.agg [.sc (.int .i64 i),.sc (.int .i64 b),.sc (.int .i64 2),.own 0 64 6 (zq [⟨1,2,0,[],1,[]⟩])]) 1:=by
 refine Fun.resX (r:=.agg [.sc (.int .i64 i),.sc (.int .i64 b),.sc (.int .i64 2),.own 0 64 6 [[.sc (.int .i64 1),.sc (.int .i64 2),.sc (.int .i64 0),.str [],.sc (.int .i64 1),.sc (.slice none 0 0)]]]) ?_ fun R L v h =>
  zcq (fun vs=>Ym (fun v h=>h) (fun vs=>Ym (fun v h=>h) fun vs=>Ym (fun v h=>h) fun vs=>Ym (fun v=>zjq) fun vs h=>h)) h
 refine fon Tryz.func57 ?_;dsimp only[Tryz.f57];push_cast -dsimp;exact ⟨[.inl 0],rfl,rfl,by push_cast -dsimp [ze,zd,CLe,zg]⟩
end
end
section
open Go.RowKit
section
variable {G:zp}
theorem zil {n:Int} {xs:List zm} {i:Nat} (h:i<xs.length):zk n (xs.take (i+1))=(zk n (xs.take i)||(xs[i].ino==n)):=by
 unfold zk;rw[List.take_add_one,List.getElem?_eq_getElem h,List.any_append];simp
theorem zhP {n:Int} {xs:List zm} {i:Nat} (h:i<xs.length) (h0:zk n (xs.take i)=false) (he:xs[i].ino=n):zk n xs=true/\zf n xs=xs[i]:=by
 refine ⟨List.any_eq_true.2 ⟨xs[i],List.getElem_mem h,by simp[he]⟩,?_⟩;unfold zf YZ;rw[List.find?_eq_some_iff_getElem (b:=xs[i]) |>.2 ⟨by simp[he],i,h,rfl,fun j hj=>?_⟩]
 ·rfl
 ·unfold zk at h0;rw[List.any_eq_false]at h0;have:=h0 xs[j] (List.mem_take_iff_getElem.2 ⟨j,by omega,rfl⟩);simpa using this
theorem Qn (f:FsV) (n:Int) (hl:f.xs.length<=100000):Fun Tryz.prog G 30 [.agg (fsC f),.sc (.int .i64 n)] (.tup [.agg (JU (zf n f.xs)),.sc (.bool (zk n f.xs))]) 0:=by
 have hll:(zq f.xs).length=f.xs.length:=List.length_map ..;refine fon Tryz.func30 ?_;dsimp only[Tryz.f30];push_cast -dsimp;refine loop (fun i:Nat=>⟨[(1,.sc (.int .i64 n)),(2,.ptr 0 0),(4,.ptr 1 0),(6,.sc (.int .i64 i))],[fsC f,[.sc (.int .i64 0),.sc (.int .i64 0),.sc (.int .i64 0),.str [],.sc (.int .i64 0),.sc (.slice none 0 0)]],0,0⟩) (fun i=>i<=f.xs.length/\zk n (f.xs.take i)=false) (fun i=>f.xs.length-i) 0 ⟨Nat.zero_le _,rfl⟩ ?_ ?_
 ·exact wk
 ·rintro i ⟨h1,h2⟩;by_cases h:i<f.xs.length
  ·have g1:=qU f.xs i h;by_cases he:f.xs[i].ino=n
   ·obtain ⟨q1,q2⟩:=zhP h h2 he;push_cast -dsimp [hll,h,g1,he]
    repeat refine an ?_
    exact dn (by push_cast -dsimp [ze,zd,CLe,zg,q1,q2,he])
   ·have q:=zil (n:=n) h;rw[h2,show (f.xs[i].ino==n)=false from beq_eq_false_iff_ne.2 he]at q;push_cast -dsimp [hll,h,g1,he]
    repeat refine an ?_
    exact ⟨i+1,⟨h,q⟩,by omega,wk⟩
  ·rw[List.take_of_length_le (by omega)]at h2;have hg:zf n f.xs=uX:=by unfold zf;rw[HU h2];rfl
   push_cast -dsimp [hll,h];exact dn (by push_cast -dsimp [ze,zd,CLe,zg,hg,h2,uX])
def qe (xs:List zm):Nat:=((xs.filter fun x=>decide (x.kind=1)).map fun x=>x.data.length).sum
theorem N7:∀ {xs:List zm} {n:Nat},(∀ x∈xs,x.data.length<=n)->qe xs<=xs.length*n
 | [],n,_=>by simp[qe]
 | x :: r,n,h=>by
  have ih:=N7 (xs:=r) (n:=n) fun y hy=>h y (List.mem_cons_of_mem _ hy);have hx:=h x List.mem_cons_self;unfold qe at ih ⊢;rw[List.filter_cons];split
  ·simp only[List.map_cons,List.sum_cons,List.length_cons];rw[Nat.succ_mul];omega
  ·rw[List.length_cons,Nat.succ_mul];omega
theorem FsS.bytes {f:FsV} (h:FsS f):qe f.xs<=100000000:=by
 have h1:=N7 (xs:=f.xs) (n:=10000) fun x hx=>(h.node x hx).2.1;have h2:=h.len;have:f.xs.length*10000<=10000*10000:=Nat.mul_le_mul_right _ h2;omega
theorem zb0 {xs:List zm} {i:Nat} (h:i<xs.length):qe (xs.take (i+1))=qe (xs.take i)+if xs[i].kind=1 then xs[i].data.length else 0:=by
 unfold qe;rw[List.take_add_one,List.getElem?_eq_getElem h,List.filter_append,List.map_append,List.sum_append];by_cases hk:xs[i].kind=1<;>simp[hk]
theorem zdo (f:FsV) (hf:FsS f):Fun Tryz.prog G 173 [.agg (fsC f)] (.sc (.int .i64 (qe f.xs:Nat))) 0:=by
 have hll:(zq f.xs).length=f.xs.length:=List.length_map ..;have h40:=hf.len;have hb0:qe []=0:=rfl;refine fon Tryz.func173 ?_;dsimp only[Tryz.f173];push_cast -dsimp;refine loop (fun i:Nat=>⟨[(1,.ptr 0 0),(3,.sc (.int .i64 (qe (f.xs.take i):Nat))),(4,.sc (.int .i64 i))],[fsC f],0,0⟩) (fun i=>i<=f.xs.length/\qe (f.xs.take i)<=i*10000) (fun i=>f.xs.length-i) 0 ⟨Nat.zero_le _,Nat.zero_le _⟩ ?_ ?_
 ·exact wk (by push_cast -dsimp [ze,zd,CLe,zg,hb0,List.take_zero])
 ·rintro i ⟨h1,h2⟩;by_cases h:i<f.xs.length
  ·have g1:=qU f.xs i h;have hd:=(hf.node _ (List.getElem_mem h)).2.1;have q:=zb0 h;by_cases hk:f.xs[i].kind=1
   ·rw[if_pos hk]at q;have q':((qe (f.xs.take (i+1)):Nat):Int)=(qe (f.xs.take i):Int)+(f.xs[i].data.length:Int):=by omega
    push_cast -dsimp [hll,h,g1,hk]
    repeat refine an ?_
    exact ⟨i+1,⟨h,by omega⟩,by omega,wk (by push_cast -dsimp [ze,zd,CLe,zg,q'])⟩
   ·rw[if_neg hk]at q;have q':qe (f.xs.take (i+1))=qe (f.xs.take i):=by omega
    push_cast -dsimp [hll,h,g1,hk]
    repeat refine an ?_
    exact ⟨i+1,⟨h,by omega⟩,by omega,wk (by push_cast -dsimp [ze,zd,CLe,zg,q'])⟩
  ·rw[List.take_of_length_le (by omega)];push_cast -dsimp [hll,h];exact dn
end
end
section
open Go.RowKit
abbrev G0:zp:=fun _=>none
abbrev zns (l:List UInt8):List C:=[.str l]
def Vm (s:List (List UInt8)×List UInt8) (b:UInt8):List (List UInt8)×List UInt8:=
 if b=47 then (if s.2 = [] then s.1 else s.1++[s.2],[]) else (s.1,s.2++[b])
def zko (s:List (List UInt8)×List UInt8):List (List UInt8):=if s.2 = [] then s.1 else s.1++[s.2]
def nst (l:List UInt8) (k:Nat):List (List UInt8)×List UInt8:=if k<=l.length then (l.take k).foldl Vm ([],[]) else (zko (l.foldl Vm ([],[])),[])
def zE (l:List UInt8):List (List UInt8):=zko (l.foldl Vm ([],[]))
theorem uM (l:List UInt8):nst l 0=([],[]):=by simp[nst]
theorem uV (l:List UInt8) (k:Nat) (b:UInt8) (h:l[k]?=some b):nst l (k+1)=Vm (nst l k) b:=by
 have hk:k<l.length:=(List.getElem?_eq_some_iff.1 h).1;unfold nst;rw[if_pos (by omega),if_pos (by omega),List.take_add_one,h];simp
theorem zgB (l:List UInt8):nst l (l.length+1)=(zE l,[]):=by
 unfold nst zE;rw[if_neg (by omega)]
theorem zet (l:List UInt8):zko (nst l l.length)=zE l:=by
 unfold nst zE;rw[if_pos (Nat.le_refl _),List.take_length]
theorem GA (l:List UInt8):∀ k,k<=l.length->(nst l k).1.length+(nst l k).2.length<=k
 | 0,_=>by simp[uM]
 | k+1,h=>by
  have hk:k<l.length:=by omega
  have ih:=GA l k (by omega);rw[uV l k l[k] (List.getElem?_eq_getElem hk)];unfold Vm;by_cases h47:l[k]=47
  ·rw[if_pos h47];by_cases h2:(nst l k).2 = []
   ·simp[h2];omega
   ·have:0<(nst l k).2.length:=List.length_pos_iff.2 h2;simp[h2];omega
  ·rw[if_neg h47];simp;omega
theorem js (l:List UInt8):(zE l).length<=l.length:=by
 rw[←zet];have:=GA l l.length (Nat.le_refl _);unfold zko;split
 ·omega
 ·rename_i h;have:0<(nst l l.length).2.length:=List.length_pos_iff.2 h;simp;omega
theorem zni {b c:UInt8} (h:b≠c):¬((b.toNat:Int)=(c.toNat:Int)):=fun e=>h (UInt8.toNat_inj.1 (by omega))
theorem zcH {α:Type} (l:List α) (k:Nat) (b:α) (h:l[k]?=some b):(l.take (k+1)).drop k = [b]:=by
 have hk:k<l.length:=(List.getElem?_eq_some_iff.1 h).1;rw[List.take_add_one,h,List.drop_append];simp[Nat.min_eq_left (by omega:k<=l.length)]
theorem zcR (l:List UInt8) (h:l.length<=2000000):Fun Tryz.prog G0 52 [.str l] (.own 0 9 1 ((zE l).map zns)) 1:=by
 refine fon Tryz.func52 ?_;dsimp only[Tryz.f52];push_cast -dsimp;refine loop (fun k:Nat=>⟨[(0,.str l),(3,.own 0 9 1 ((nst l k).1.map zns)),(4,.str (nst l k).2),(5,.sc (.int .i64 k))],[],1,0⟩) (fun k=>k<=l.length+1) (fun k=>l.length+1-k) 0 (Nat.zero_le _) ?_ ?_
 ·refine Jz.mk [.inr (9,1)] rfl rfl (Nat.le_refl _) rfl ?_ trivial;push_cast -dsimp [ze,zd,CLe,zg];simp[uM]
 ·intro k hk;push_cast -dsimp;by_cases h1:k<=l.length
  ·have hs:=GA l k h1;by_cases h2:k<l.length
   ·obtain ⟨b,hb⟩:∃ b,l[k]?=some b:=⟨l[k],List.getElem?_eq_getElem h2⟩;have hn:=uV l k b hb;by_cases h3:b=47
    ·have h3':(b.toNat:Int)=47:=by subst h3;rfl
     by_cases h4:(nst l k).2 = []
     ·push_cast -dsimp [h1,h2,h3',hb,h4]
      and_intros<;>try omega
      refine ⟨k+1,by omega,by omega,Jz.mk [.inl 0] rfl rfl (Nat.le_refl _) rfl ?_ trivial⟩;push_cast -dsimp [ze,zd,CLe,zg];simp[hn,Vm,h3,h4]
     ·push_cast -dsimp [h1,h2,h3',hb,h4];simp only[List.length_map,List.length_cons,List.length_nil]
      and_intros<;>try omega
      refine ⟨k+1,by omega,by omega,Jz.mk [.inl 0] rfl rfl (Nat.le_refl _) rfl ?_ trivial⟩;push_cast -dsimp [ze,zd,CLe,zg];simp[hn,Vm,h3,h4,zns]
    ·have h3':¬((b.toNat:Int)=47):=zni h3;push_cast -dsimp [h1,h2,h3',hb];rw[zcH l k b hb]
     and_intros<;>try omega
     ·simp;omega
     refine ⟨k+1,by omega,by omega,Jz.mk [.inl 0] rfl rfl (Nat.le_refl _) rfl ?_ trivial⟩;push_cast -dsimp [ze,zd,CLe,zg];simp[hn,Vm,h3]
   ·obtain rfl:k=l.length:=by omega
    have hl:=zet l;have he:=zgB l;have hz:=js l;by_cases h4:(nst l l.length).2 = []
    ·push_cast -dsimp [h1,h2,h4]
     and_intros<;>try omega
     refine ⟨l.length+1,by omega,by omega,Jz.mk [.inl 0] rfl rfl (Nat.le_refl _) rfl ?_ trivial⟩;push_cast -dsimp [ze,zd,CLe,zg];simp[he,←hl,zko,h4]
    ·push_cast -dsimp [h1,h2,h4];simp only[List.length_map,List.length_cons,List.length_nil]
     and_intros<;>try omega
     refine ⟨l.length+1,by omega,by omega,Jz.mk [.inl 0] rfl rfl (Nat.le_refl _) rfl ?_ trivial⟩;push_cast -dsimp [ze,zd,CLe,zg];simp[he,←hl,zko,h4,zns]
  ·obtain rfl:k=l.length+1:=by omega
   have he:=zgB l;push_cast -dsimp [h1];exact ⟨[.inl 0],rfl,rfl,by push_cast -dsimp [ze,zd,CLe,zg,he]⟩
end
section
open Go.RowKit
abbrev zM (xs:List (List UInt8)):List (List C):=xs.map zns
theorem xR (xs:List (List UInt8)):(zM xs).length=xs.length:=List.length_map _
theorem zcP (xs:List (List UInt8)) (x:List UInt8):zM xs++[[.str x]]=zM (xs++[x]):=by simp
theorem strs_get? (xs:List (List UInt8)) (k:Nat):(zM xs)[k]?=(xs[k]?).map zns:=List.getElem?_map
theorem zgI (xs:List (List UInt8)) (k:Nat):(zM xs).drop k=zM (xs.drop k):=List.map_drop.symm
theorem zfy (xs:List (List UInt8)) (k:Nat):(zM xs).take k=zM (xs.take k):=List.map_take.symm
theorem yJ (xs ys:List (List UInt8)):zM xs++zM ys=zM (xs++ys):=List.map_append.symm
theorem Um (xs:List (List UInt8)) (k:Nat) (h:k<xs.length):(zM xs)[k]?=some [.str (xs[k]'h)]:=by rw[strs_get?,List.getElem?_eq_getElem h];rfl
attribute [push_cast] xR zcP zgI zfy yJ
abbrev qP (b:Bool):C:=.sc (.bool b)
theorem V7 (a b:List (List UInt8)) (ha:a.length<=9223372036854775807):Fun Tryz.prog G0 16 [.sl 1 (zM a),.sl 1 (zM b)] (qP (decide (a=b))) 0:=by
 by_cases hl:a.length=b.length
 ·refine fon Tryz.func16 ?_;dsimp only[Tryz.f16];push_cast -dsimp [hl];refine loop (fun k:Nat=>⟨[(0,.sl 1 (zM a)),(1,.sl 1 (zM b)),(5,.sc (.int .i64 k))],[],0,0⟩) (fun k=>k<=a.length/\a.take k=b.take k) (fun k=>a.length-k) 0 ⟨Nat.zero_le _,rfl⟩ ?_ ?_
  ·exact wk
  ·intro k hk;have hk1:=hk.1;have hk2:=hk.2;by_cases h:k<a.length
   ·have hga:=Um a k h;have hgb:=Um b k (by omega);by_cases he:a[k]'h=b[k]'(by omega)
    ·push_cast -dsimp [h,hga,hgb,he];refine ⟨by omega,by omega,by omega,k+1,⟨by omega,?_⟩,by omega,wk⟩;rw[List.take_add_one,List.take_add_one,hk2,List.getElem?_eq_getElem h,List.getElem?_eq_getElem (by omega:k<b.length),he]
    ·push_cast -dsimp [h,hga,hgb,he];refine ⟨by omega,by omega,[],rfl,rfl,?_⟩;push_cast -dsimp [ze,zd,CLe,zg];have:a≠b:=fun e=>he (by subst e;rfl);simp[this]
   ·have hkl:k=a.length:=by omega
    push_cast -dsimp [h];refine ⟨[],rfl,rfl,?_⟩;push_cast -dsimp [ze,zd,CLe,zg];rw[hkl,List.take_length,hl,List.take_length]at hk2;simp[hk2]
 ·have hl':¬((a.length:Int)=(b.length:Int)):=by omega
  refine fon Tryz.func16 ?_;dsimp only[Tryz.f16];push_cast -dsimp [hl];refine ⟨[],rfl,rfl,?_⟩;push_cast -dsimp [ze,zd,CLe,zg];have:a≠b:=fun e=>hl (by rw[e]);simp[this]
def few (l:List (List UInt8)):Bool:=(l.take 100).all (fun x=>decide (x.length<=300))&&decide (l.length<=40)
end
section
open Go.RowKit
theorem Fun.wrap {P:Program} {G:zp} {f:FuncId} {args:List C} {r:C} (he:Yv P f=true)
  (h:∀ (R:Env) (vs:List Value),zu R zH args vs->Calls P f vs.toArray R.w fun e w'=>∃ v,e = .returned v/\Below R.w.heap.size R.w w'/\∀ R',Ext R R'->Rep R' zH r v):Fun P G f args r 0:=by
 refine ⟨he,fun R vs hg ha=>(h R vs ha).mono ?_⟩;rintro e w' ⟨v,rfl,hb,hr⟩;have st:qv 0 0 R zH ⟨w',fun b o=>b<R.w.heap.size/\R.M b o,R.F⟩ zH:=qv.mem (nx:=0) hb;exact ⟨v,_,zH,rfl,rfl,st,hr _ st.ext⟩
def j5:List UInt8->List (List UInt8)
 | []=>[[]]
 | b :: l=>if b=47 then [] :: j5 l else match j5 l with
  | []=>[[b]]
  | x :: r=>(b :: x) :: r
theorem MH (l:List UInt8):j5 l≠[]:=by
 cases l with
 | nil=>simp[j5]
 | cons b l =>
  unfold j5;split
  ·simp
  ·split<;>simp
theorem Na:∀ l:List UInt8,Lib.indexByte l 47<0->j5 l = [l]
 | [],_=>rfl
 | b :: l,h=>by
  unfold Lib.indexByte at h;by_cases hb:b=47
  ·subst hb;simp at h
  ·have hb':(b==47)=false:=by simpa using hb
   rw[hb']at h;simp only[Bool.false_eq_true,if_false]at h;have hl:Lib.indexByte l 47<0:=by
    split at h
    ·rename_i g;have:=beq_iff_eq.1 g;omega
    ·omega
   unfold j5;rw[if_neg hb,Na l hl]
theorem Gk:∀ l:List UInt8,-1<=Lib.indexByte l 47
 | []=>Int.le_refl _
 | b :: l=>by
  have:=Gk l;unfold Lib.indexByte;split
  ·decide
  ·split
   ·decide
   ·omega
theorem uf:∀ (l:List UInt8) (i:Nat),Lib.indexByte l 47=(i:Int)->i<l.length/\j5 l=l.take i :: j5 (l.drop (i+1))
 | [],i,h=>by
  have h:(-1:Int)=(i:Int):=h;omega
 | b :: l,i,h=>by
  unfold Lib.indexByte at h;by_cases hb:b=47
  ·subst hb;simp at h;obtain rfl:i=0:=by omega
   refine ⟨by simp,?_⟩
   conv=>lhs;unfold j5
   simp
  ·have hb':(b==47)=false:=by simpa using hb
   rw[hb']at h;simp only[Bool.false_eq_true,if_false]at h;split at h
   ·omega
   ·rename_i g;have g':Lib.indexByte l 47≠-1:=by simpa using g
    have hg:=Gk l;obtain ⟨j,rfl⟩:∃ j,i=j+1:=⟨i-1,by omega⟩;have hj:Lib.indexByte l 47=(j:Int):=by omega
    obtain ⟨h1,h2⟩:=uf l j hj;refine ⟨by simp;omega,?_⟩
    conv=>lhs;unfold j5
    rw[if_neg hb,h2];simp
theorem U0:∀ (l:List UInt8) (a:List (List UInt8)) (cur:List UInt8),zko (l.foldl Vm (a,cur))=a++(match j5 l with | []=>[] | x :: r=>(cur++x) :: r).filter (fun x=>!decide (x = []))
 | [],a,cur=>by
  simp only[List.foldl_nil,zko,j5];by_cases h:cur = []<;>simp[h]
 | b :: l,a,cur=>by
  simp only[List.foldl_cons];by_cases hb:b=47
  ·subst hb;have hn:Vm (a,cur) 47=(if cur = [] then a else a++[cur],[]):=by simp[Vm]
   rw[hn,U0 l]
   conv=>rhs;unfold j5
   simp only[if_true];have hne:=MH l;cases hs:j5 l with
   | nil=>exact absurd hs hne
   | cons x r=>by_cases h:cur = []<;>simp[h]
  ·have hn:Vm (a,cur) b=(a,cur++[b]):=by simp[Vm,hb]
   rw[hn,U0 l]
   conv=>rhs;unfold j5
   rw[if_neg hb];have hne:=MH l;cases hs:j5 l with
   | nil=>exact absurd hs hne
   | cons x r=>simp
theorem Ya (l:List UInt8):zE l=(j5 l).filter (fun x=>!decide (x = [])):=by
 unfold zE;rw[U0];cases hs:j5 l with
 | nil=>rfl
 | cons x r=>simp
theorem zeK (l:List UInt8):Fun Tryz.prog G0 192 [.str l,.str [47]] (.sc (.int .i64 (Lib.indexByte l 47))) 0:=by
 refine Fun.wrap (by kernel_rfl) fun R vs h=>?_;obtain ⟨v1,us1,rfl,h1,h⟩:=zh.1 h;obtain ⟨v2,us2,rfl,h2,h⟩:=zh.1 h;rw[zl]at h;subst h;rw[zT]at h1 h2;subst h1 h2;refine (Tryz.strings_Index_one ⟨l.toArray⟩ 47 R.w).mono ?_;rintro e w' ⟨rfl,rfl⟩;exact ⟨_,rfl,Below.refl _ _,fun R' _=>zo.2 (by simp)⟩
theorem kT (s:List UInt8) (hs:s.length<=1000000):xB Tryz.prog G0 190 [] [.ptr 1 0,.ptr 0 0,.ptr 2 0] [[.str s],[.str [47]],[.sc (.int .i64 0)]] (zM (j5 s)):=by
 refine foI (fun _=>[]) Tryz.func190 ?_;dsimp only[Tryz.f190];intro l sf;push_cast -dsimp;refine loop (fun x:List UInt8×Nat=>⟨[(0,.sc (.func (.yield l) #[] #[])),(1,.ptr 1 0),(2,.ptr 0 0),(3,.ptr 2 0)],[[.str x.1],[.str [47]],[.sc (.int .i64 0)]],0,x.2⟩)
  (fun x=>x.1.length<=1000000/\(∃ done,j5 s=done++j5 x.1/\done.length=x.2)/\∀ j,j<x.2->sf j=false) (fun x=>x.1.length) (s,0) ⟨hs,⟨[],rfl,rfl⟩,fun j hj=>by omega⟩ ?_ ?_
 ·refine Jz.mk [] rfl rfl (Nat.zero_le _) rfl ?_ ?_<;>push_cast -dsimp [ze,zd,CLe,zg]<;>omega
 ·rintro ⟨r,k⟩ hx;simp only at hx ⊢;have hr:=hx.1;have hsf:=hx.2.2;obtain ⟨done,hd,hdl⟩:=hx.2.1;clear hx;push_cast -dsimp;refine call (zeK r) ?_;push_cast -dsimp;by_cases hi:Lib.indexByte r 47<0
  ·push_cast -dsimp [hi];have hk:(zM (j5 s))[k]?=some [.str r]:=by
    rw[hd,Na r hi];simp[←hdl]
   rw[hk];push_cast -dsimp;refine ⟨by push_cast -dsimp [ze,zd,CLe,zg],hsf,?_⟩;cases hk2:sf k with
   | true=>exact .inr ⟨Nat.succ_pos k,hk2⟩
   | false =>
    refine .inl ⟨?_,fun j (hj:j<k+1)=>?_⟩
    ·rw[hd,Na r hi];simp[hdl]
    ·rcases Nat.lt_or_ge j k with g | g
     ·exact hsf j g
     ·rw[show j=k by omega];exact hk2
  ·have hg:=Gk r;obtain ⟨i,hii⟩:∃ i:Nat,Lib.indexByte r 47=(i:Int):=⟨(Lib.indexByte r 47).toNat,by omega⟩;obtain ⟨hir,hsp⟩:=uf r i hii;have hk:(zM (j5 s))[k]?=some [.str (r.take i)]:=by
    rw[hd,hsp];simp[←hdl]
   rw[hii]at hi ⊢;push_cast -dsimp [hi];rw[hk];push_cast -dsimp;refine ⟨by omega,by omega,by push_cast -dsimp [ze,zd,CLe,zg],hsf,br (fun hk2=>?_) (fun hk2=>?_)⟩
   ·push_cast -dsimp;exact .inr ⟨Nat.succ_pos k,hk2⟩
   ·push_cast -dsimp;refine ⟨by omega,by omega,(r.drop (i+1),k+1),⟨by simp;omega,⟨done++[r.take i],by rw[hd,hsp];simp,by simp[hdl]⟩,fun j (hj:j<k+1)=>?_⟩,by simp;omega,Jz.mk [] rfl rfl (Nat.zero_le _) rfl ?_ ?_⟩
    ·rcases Nat.lt_or_ge j k with g | g
     ·exact hsf j g
     ·rw[show j=k by omega];exact hk2
    ·push_cast -dsimp [ze,zd,CLe,zg]
    ·push_cast -dsimp [ze,zd,CLe,zg]
theorem M7 (s:List UInt8):Nj Tryz.prog G0 161 [.str s,.str [47],.sc (.int .i64 0)] [] 0 (.clo (.func 190) [] [.ptr 1 0,.ptr 0 0,.ptr 2 0]) [[.str s],[.str [47]],[.sc (.int .i64 0)]] 0:=by
 refine foB (fun _=>[]) Tryz.func161 ?_;dsimp only[Tryz.f161];push_cast -dsimp;exact ⟨[],rfl,rfl,by push_cast -dsimp [ze,zd,CLe,zg],by push_cast -dsimp [ze,zd,CLe,zg]⟩
theorem Nv (s:List UInt8):Nj Tryz.prog G0 119 [.str s,.str [47]] [] 0 (.clo (.func 190) [] [.ptr 1 0,.ptr 0 0,.ptr 2 0]) [[.str s],[.str [47]],[.sc (.int .i64 0)]] 0:=by
 refine foB (fun _=>[]) Tryz.func119 ?_;dsimp only[Tryz.f119];push_cast -dsimp;refine Vn [] [] (M7 s) rfl (by simp) (by simp) (fun i hi=>by cases hi) (by push_cast -dsimp) rfl ?_;push_cast -dsimp;exact ⟨[],rfl,rfl,by push_cast -dsimp [ze,zd,CLe,zg],by push_cast -dsimp [ze,zd,CLe,zg]⟩
end
section
open Go.RowKit
abbrev Hi (x:List UInt8):Bool:=!decide (x = [])
def cnt (xs:List (List UInt8)) (k:Nat):Nat:=((xs.take k).filter Hi).length
theorem uo (xs:List (List UInt8)) (k:Nat) (x:List UInt8) (h:xs[k]?=some x):cnt xs (k+1)=if x = [] then cnt xs k else cnt xs k+1:=by
 unfold cnt;rw[List.take_add_one,h];by_cases hx:x = []<;>simp[hx]
theorem znd (xs:List (List UInt8)) (k:Nat) (x:List UInt8) (h:xs[k]?=some x) (hx:x≠[]):(xs.filter Hi)[cnt xs k]?=some x:=by
 have hk:k<xs.length:=(List.getElem?_eq_some_iff.1 h).1;have e:xs=xs.take k++x :: xs.drop (k+1):=by
  have:=List.take_append_drop k xs;rw[List.drop_eq_getElem_cons hk]at this;rw[List.getElem?_eq_getElem hk]at h;cases h;exact this.symm
 have e2:xs.filter Hi=(xs.take k).filter Hi++x :: (xs.drop (k+1)).filter Hi:=by
  conv=>lhs;rw[e]
  rw[List.filter_append,List.filter_cons];simp[hx]
 rw[e2];unfold cnt;simp
theorem zm7 (xs:List (List UInt8)):cnt xs xs.length=(xs.filter Hi).length:=by unfold cnt;rw[List.take_length]
theorem Ve {xs:List (List UInt8)} {sf:Nat->Bool}:∀ k,k<=xs.length->(∀ j,j<k->(Hi (xs.getD j [])&&sf (cnt xs j))=false)->∀ j,j<cnt xs k->sf j=false
 | 0,_,_,j,hj=>by simp[cnt]at hj
 | k+1,hk,h,j,hj=>by
  have ih:=Ve k (by omega) fun i hi=>h i (by omega);have hx:xs[k]?=some (xs.getD k []):=by rw[List.getD_eq_getElem?_getD,List.getElem?_eq_getElem (by omega)];rfl
  rw[uo xs k _ hx]at hj;by_cases he:xs.getD k [] = []
  ·rw[if_pos he]at hj;exact ih j hj
  ·rw[if_neg he]at hj;rcases Nat.lt_or_ge j (cnt xs k) with g | g
   ·exact ih j g
   ·have h2:=h k (by omega);have h3:Hi (xs.getD k [])=true:=by simp only[Hi,Bool.not_eq_true',decide_eq_false_iff_not];exact he
    rw[h3,Bool.true_and]at h2;rw[show j=cnt xs k by omega];exact h2
theorem X9 {xs:List (List UInt8)} {k:Nat} {it:List C} (h:(zM xs)[k]?=some it):∃ x,xs[k]?=some x/\it = [.str x]:=by
 rw[List.getElem?_map]at h;cases hq:xs[k]? with
 | none=>rw[hq]at h;cases h
 | some x=>rw[hq]at h;cases h;exact ⟨x,rfl,rfl⟩
theorem Y5 (p:List UInt8) (hs:p.length<=1000000):xB Tryz.prog G0 159 [] [.row [.str p]] [] (zM (zE p)):=by
 rw[Ya];refine foI (fun _=>[]) Tryz.func159 ?_;dsimp only[Tryz.f159];intro l sf;push_cast -dsimp;refine Vn [] [] (Nv p) rfl (by simp) (by simp) (fun i hi=>by cases hi) (by push_cast -dsimp) rfl ?_;push_cast -dsimp;refine range (zM (j5 p)) (fun k=>Hi ((j5 p).getD k [])&&sf (cnt (j5 p) k)) 1 (fun k=>⟨[],[[.sc (.func (.yield l) #[] #[])]],0,cnt (j5 p) k⟩) (kT p hs) (by push_cast -dsimp) (by push_cast -dsimp) (by push_cast -dsimp) (Nat.zero_le _) (by push_cast -dsimp) (fun it hit=>?_) (fun k _=>rfl) ?_ (fun k it hk hsf=>?_) (fun hsf=>?_)
 ·obtain ⟨x,_,rfl⟩:=List.mem_map.1 hit;rfl
 ·exact wk
 ·obtain ⟨x,hx,rfl⟩:=X9 hk;have hxd:(j5 p).getD k []=x:=by rw[List.getD_eq_getElem?_getD,hx];rfl
  have hkl:k<(j5 p).length:=(List.getElem?_eq_some_iff.1 hx).1;have hcs:=uo (j5 p) k x hx;have hbef:=Ve (xs:=j5 p) (sf:=sf) k (by omega) hsf;by_cases he:x = []
  ·push_cast -dsimp [he];refine ⟨?_,Jz.mk [] rfl rfl (Nat.le_refl _) ?_ (by push_cast -dsimp [ze,zd,CLe,zg]) (by push_cast -dsimp [ze,zd,CLe,zg])⟩
   ·rw[hxd,he];rfl
   ·simp[hcs,he,St.wt]
  ·have hget:=znd (j5 p) k x hx he;have hg2:(zM ((j5 p).filter Hi))[cnt (j5 p) k]?=some [.str x]:=by rw[List.getElem?_map,hget];rfl
   push_cast -dsimp [he];rw[hg2];push_cast -dsimp;refine ⟨by push_cast -dsimp [ze,zd,CLe,zg],hbef,br (fun h2=>?_) (fun h2=>?_)⟩
   ·push_cast -dsimp;refine ⟨by rw[hxd,h2];simp[Hi,he],⟨[],[[.sc (.func (.yield l) #[] #[])]],0,cnt (j5 p) k+1⟩,rfl,wk,?_⟩;push_cast -dsimp;exact .inr ⟨Nat.succ_pos _,h2⟩
   ·push_cast -dsimp;refine ⟨by rw[h2,Bool.and_false],Jz.mk [] rfl rfl (Nat.le_refl _) ?_ (by push_cast -dsimp [ze,zd,CLe,zg]) (by push_cast -dsimp [ze,zd,CLe,zg])⟩;simp[hcs,he,St.wt]
 ·have hall:=zm7 (j5 p);have hbef:=Ve (xs:=j5 p) (sf:=sf) (j5 p).length (Nat.le_refl _) fun j hj=>hsf j (by simpa using hj);push_cast -dsimp;refine .inl ⟨?_,?_⟩
  ·simp[hall]
  ·simpa using hbef
end
section
open Go.RowKit
theorem JT (p:List UInt8):Fun Tryz.prog G0 113 [.str p] (.clo (.func 159) [] [.row [.str p]]) 0:=by
 refine fon Tryz.func113 ?_;dsimp only[Tryz.f113];push_cast -dsimp;exact dn
theorem GU (xs:List (List UInt8)) (f:FuncId) (cap:List C) (hsel:C.selL (YX 1) cap=cap) (hit:xB Tryz.prog G0 f [] cap [] (zM xs)) (hx:xs.length<=1000001):Fun Tryz.prog G0 201 [.sc (.slice none 0 0),.clo (.func f) [] cap] (.own 0 9 1 (zM xs)) 1:=by
 refine fon Tryz.func201 ?_;dsimp only[Tryz.f201];push_cast -dsimp;refine range (zM xs) (fun _=>false) 1 (fun k=>⟨[],[[.own 0 9 1 (zM (xs.take k))]],1,0⟩) hit (by push_cast -dsimp) hsel (by push_cast -dsimp) (Nat.zero_le _) (by push_cast -dsimp) (fun it h=>?_) (fun k _=>rfl) ?_ (fun k it hk hsf=>?_) (fun hsf=>?_)
 ·obtain ⟨x,_,rfl⟩:=List.mem_map.1 h;rfl
 ·exact wks [.inr (9,1)]
 ·obtain ⟨x,hx2,rfl⟩:=X9 hk;have hkl:k<xs.length:=(List.getElem?_eq_some_iff.1 hx2).1;push_cast -dsimp;simp only[List.length_take];refine ⟨by omega,by omega,Jz.mk [.inl 0] rfl rfl (Nat.le_refl _) rfl (by push_cast -dsimp [ze,zd,CLe,zg]) ?_⟩;push_cast -dsimp [ze,zd,CLe,zg];rw[List.take_add_one,hx2]
  rfl
 ·push_cast -dsimp;refine ⟨[.inl 0],rfl,rfl,?_⟩;push_cast -dsimp [ze,zd,CLe,zg];simp
theorem vE (xs:List (List UInt8)) (f:FuncId) (cap:List C) (hsel:C.selL (YX 1) cap=cap) (hfrz:C.frzL cap=cap) (hit:xB Tryz.prog G0 f [] cap [] (zM xs)) (hx:xs.length<=1000001):Fun Tryz.prog G0 168 [.clo (.func f) [] cap] (.own 0 9 1 (zM xs)) 1:=by
 refine fon Tryz.func168 ?_;dsimp only[Tryz.f168];push_cast -dsimp [hfrz];refine call (GU xs f cap hsel hit hx) ?_;push_cast -dsimp;exact ⟨[.inl 0],rfl,rfl,by push_cast -dsimp [ze,zd,CLe,zg]⟩
theorem XG (p:List UInt8) (hp:p.length<=1000000):Fun Tryz.prog G0 168 [.clo (.func 159) [] [.row [.str p]]] (.own 0 9 1 (zM (zE p))) 1:=
 vE (zE p) _ _ (by push_cast -dsimp) (by push_cast -dsimp) (Y5 p hp) (by have:=js p;omega)
theorem Xc (s p:List UInt8):Fun Tryz.prog G0 112 [.str s,.str p] (.sc (.bool (Lib.hasPrefix s p))) 0:=by
 refine Fun.wrap (by kernel_rfl) fun R vs h=>?_;obtain ⟨v1,us1,rfl,h1,h⟩:=zh.1 h;obtain ⟨v2,us2,rfl,h2,h⟩:=zh.1 h;rw[zl]at h;subst h;rw[zT]at h1 h2;subst h1 h2;refine (Tryz.strings_HasPrefix ⟨s.toArray⟩ ⟨p.toArray⟩ R.w).mono ?_;rintro e w' ⟨rfl,rfl⟩;exact ⟨_,rfl,Below.refl _ _,fun R' _=>zo.2 (by simp)⟩
theorem Zf (s p:List UInt8) (hs:s.length<=1000000):Fun Tryz.prog G0 115 [.str s,.str p] (.sc (.bool (Lib.hasSuffix s p))) 0:=by
 refine Fun.wrap (by kernel_rfl) fun R vs h=>?_;obtain ⟨v1,us1,rfl,h1,h⟩:=zh.1 h;obtain ⟨v2,us2,rfl,h2,h⟩:=zh.1 h;rw[zl]at h;subst h;rw[zT]at h1 h2;subst h1 h2;refine (Tryz.strings_HasSuffix ⟨s.toArray⟩ ⟨p.toArray⟩ R.w (by simp[ByteArray.size];omega)).mono ?_;rintro e w' ⟨rfl,rfl⟩;exact ⟨_,rfl,Below.refl _ _,fun R' _=>zo.2 (by simp)⟩
theorem H4 (xs:List (List UInt8)) (sep:List UInt8) (hx:xs.length<=1000001) (hl:(Lib.join xs sep).length<=100000000):Fun Tryz.prog G0 122 [.sl 1 (zM xs),.str sep] (.str (Lib.join xs sep)) 0:=by
 refine Fun.wrap (by kernel_rfl) fun R vs h=>?_;obtain ⟨v1,us1,rfl,h1,h⟩:=zh.1 h;obtain ⟨v2,us2,rfl,h2,h⟩:=zh.1 h;rw[zl]at h;subst h;rw[zT]at h2;subst h2;obtain ⟨a,cap,rfl,hc1,hc2,hr⟩:=Hn.1 h1;have hlen:(zM xs).length=xs.length:=by simp
 have hmap:(xs.map fun x=>ByteArray.mk x.toArray).map (·.data.toList)=xs:=by
  rw[List.map_map]
  conv=>rhs;rw[←List.map_id xs]
  exact List.map_congr_left fun x _=>by simp
 rcases hr with hr | ⟨b,o,rfl,hr⟩
 ·have:xs = []:=by simpa using hr
  subst this;refine (Tryz.strings_Join_none a cap ⟨sep.toArray⟩ R.w).mono ?_;rintro e w' ⟨rfl,rfl⟩;exact ⟨_,rfl,Below.refl _ _,fun R' _=>zT.2 (by simp[Lib.join])⟩
 ·by_cases hx0:xs = []
  ·subst hx0;refine (Tryz.strings_Join_none _ cap ⟨sep.toArray⟩ R.w).mono ?_;rintro e w' ⟨rfl,rfl⟩;exact ⟨_,rfl,Below.refl _ _,fun R' _=>zT.2 (by simp[Lib.join])⟩
  ·have hcells:∀ (j:Nat) x,(xs.map fun x=>ByteArray.mk x.toArray)[j]?=some x->R.w.cell? ⟨b,o+j,none⟩=some (.string x):=fun j x hj=>by
    rw[List.getElem?_map]at hj;cases hq:xs[j]? with
    | none=>rw[hq]at hj;cases hj
    | some y =>
     rw[hq]at hj;cases hj;obtain ⟨_,g⟩:=jk hr j [.str y] (by rw[List.getElem?_map,hq];rfl);obtain ⟨⟨v,g1,_,g2,_⟩,_⟩:=qj.1 g;rw[zT]at g2;subst g2;simpa using g1
   have hb:b<R.w.heap.size:=by
    cases xs with
    | nil=>exact absurd rfl hx0
    | cons x r =>
     exact vM (hcells 0 ⟨x.toArray⟩ rfl)
   have hj:=Tryz.strings_Join b o cap (xs.map fun x=>ByteArray.mk x.toArray) ⟨sep.toArray⟩ R.w hcells hb (by simp;omega) (by simpa using hc1) (by rw[hmap];simp;omega);rw[hmap]at hj;simp only[List.length_map]at hj;rw[hlen];refine hj.mono ?_;rintro e w' ⟨rfl,hbl⟩;exact ⟨_,rfl,hbl,fun R' _=>zT.2 (by simp)⟩
end
section
open Go.RowKit
def zig (p:List UInt8):C:=.agg [qP (Lib.hasPrefix p [47]),.own 0 9 1 (zM (zE p)),qP (!decide (zE p = [])&&Lib.hasSuffix p [47])]
theorem Ud (p:List UInt8) (hp:p.length<=1000000):Fun Tryz.prog G0 125 [.str p] (zig p) 1:=by
 refine fon Tryz.func125 ?_;dsimp only[Tryz.f125];push_cast -dsimp;refine call (JT p) ?_;push_cast -dsimp;refine call (XG p hp) ?_;push_cast -dsimp;refine call (Xc p [47]) ?_;push_cast -dsimp;by_cases h:zE p = []
 ·push_cast -dsimp [h];exact ⟨[.inl 0],rfl,rfl,by simp only[zig];push_cast -dsimp [ze,zd,CLe,zg,h];simp⟩
 ·have h':0<(zE p).length:=List.length_pos_iff.2 h;push_cast -dsimp [h'];refine call (Zf p [47] hp) ?_;push_cast -dsimp;exact ⟨[.inl 0],rfl,rfl,by simp only[zig];push_cast -dsimp [ze,zd,CLe,zg,h]⟩
def put (a:Bool) (xs:List (List UInt8)) (s:Bool):List UInt8:=(if a then [47] else [])++Lib.join xs [47]++(if s&&!decide (xs = []) then [47] else [])
def qO (xs:List (List UInt8)):List UInt8:=if xs = [] then [47] else 47 :: Lib.join xs [47]
theorem XT (xs:List (List UInt8)) (hx:xs.length<=1000001) (hl:(Lib.join xs [47]).length<=100000000):Fun Tryz.prog G0 127 [.sl 1 (zM xs)] (.str (qO xs)) 0:=by
 refine fon Tryz.func127 ?_;dsimp only[Tryz.f127];push_cast -dsimp;by_cases h:xs = []
 ·push_cast -dsimp [h];exact ⟨[],rfl,rfl,by simp only[qO,h];push_cast -dsimp [ze,zd,CLe,zg]⟩
 ·have h':¬((xs.length:Int)=0):=by have:=List.length_pos_iff.2 h;omega
  push_cast -dsimp [h'];refine call ((H4 xs [47] hx hl)) ?_;push_cast -dsimp;exact ⟨by omega,[],rfl,rfl,by simp only[qO,if_neg h];push_cast -dsimp [ze,zd,CLe,zg]⟩
def V0 (p:List UInt8):Bool:=(zE p).any (fun x=>decide (255<x.length))||decide (4095<p.length)
theorem uu (p:List UInt8) (hp:p.length<=1000000):Fun Tryz.prog G0 175 [.str p] (qP (V0 p)) 0:=by
 refine fon Tryz.func175 ?_;dsimp only[Tryz.f175];push_cast -dsimp;refine call (JT p) ?_;push_cast -dsimp;refine range (zM (zE p)) (fun k=>decide (255<((zE p).getD k []).length)) 1 (fun k=>⟨[],[[.sc (.bool false)]],0,0⟩) (Y5 p hp) (by push_cast -dsimp) (by push_cast -dsimp) (by push_cast -dsimp) (Nat.zero_le _) (by push_cast -dsimp) (fun it h=>?_) (fun k _=>rfl) ?_ (fun k it hk hsf=>?_) (fun hsf=>?_)
 ·obtain ⟨x,_,rfl⟩:=List.mem_map.1 h;rfl
 ·exact wk
 ·obtain ⟨x,hx,rfl⟩:=X9 hk;have hxd:(zE p).getD k []=x:=by rw[List.getD_eq_getElem?_getD,hx];rfl
  push_cast -dsimp;rw[hxd];refine br (fun h=>?_) (fun h=>?_)
  ·have h':255<x.length:=by have:=of_decide_eq_true h;omega
   push_cast -dsimp;refine ⟨by simpa using h',⟨[],[[.sc (.bool true)]],0,0⟩,rfl,wk,?_⟩;push_cast -dsimp;refine ⟨[],rfl,rfl,?_⟩;push_cast -dsimp [ze,zd,CLe,zg];have:(zE p).any (fun x=>decide (255<x.length))=true:=List.any_eq_true.2 ⟨x,List.mem_of_getElem? hx,by simpa using h'⟩;simp[V0,this]
  ·have h':¬255<x.length:=by have:=of_decide_eq_false h;omega
   push_cast -dsimp;exact ⟨by simpa using h',wk⟩
 ·push_cast -dsimp;refine ⟨[],rfl,rfl,?_⟩;push_cast -dsimp [ze,zd,CLe,zg];have:(zE p).any (fun x=>decide (255<x.length))=false:=List.any_eq_false.2 fun x hx=>by
   obtain ⟨k,hk,rfl⟩:=List.getElem_of_mem hx;have:=hsf k (by simpa using hk);rw[List.getD_eq_getElem?_getD,List.getElem?_eq_getElem hk]at this;simpa using this
  simp[V0,this];omega
def Q9 (p:List UInt8):List UInt8:=(zE p).getLastD (if Lib.hasPrefix p [47] then [47] else [])
theorem zap (p:List UInt8) (hp:p.length<=1000000):Fun Tryz.prog G0 67 [.str p] (.str (Q9 p)) 0:=by
 refine fon Tryz.func67 ?_;dsimp only[Tryz.f67];push_cast -dsimp;refine call (Xc p [47]) ?_;push_cast -dsimp;have go:∀ b0:List UInt8,b0=(if Lib.hasPrefix p [47] then [47] else [])->Q9 p=((zE p).take (zE p).length).getLastD b0:=fun b0 hb=>by rw[List.take_length,hb];rfl
 have main:∀ b0:List UInt8,b0=(if Lib.hasPrefix p [47] then [47] else [])->∀ k x,(zE p)[k]?=some x->((zE p).take (k+1)).getLastD b0=x:=fun b0 _ k x hx=>by
  rw[List.take_add_one,hx];simp
 cases hpf:Lib.hasPrefix p [47] with
 | true =>
  rw[hpf]at go main;push_cast -dsimp;refine call (JT p) ?_;push_cast -dsimp;refine range (zM (zE p)) (fun k=>false) 1 (fun k=>⟨[],[[.str (((zE p).take k).getLastD [47])]],0,0⟩) (Y5 p hp) (by push_cast -dsimp) (by push_cast -dsimp) (by push_cast -dsimp) (Nat.zero_le _) (by push_cast -dsimp) (fun it h=>?_) (fun k _=>rfl) ?_ (fun k it hk hsf=>?_) (fun hsf=>?_)
  ·obtain ⟨x,_,rfl⟩:=List.mem_map.1 h;rfl
  ·exact Jz.mk [] rfl rfl (Nat.le_refl _) rfl (by push_cast -dsimp [ze,zd,CLe,zg]) (by push_cast -dsimp [ze,zd,CLe,zg];rfl)
  ·obtain ⟨x,hx,rfl⟩:=X9 hk;have:=main [47] rfl k x hx;push_cast -dsimp;exact wk (h5:=by push_cast -dsimp [ze,zd,CLe,zg,this])
  ·have:=go [47] rfl;push_cast -dsimp;exact ⟨[],rfl,rfl,by push_cast -dsimp [ze,zd,CLe,zg];exact this.symm⟩
 | false =>
  rw[hpf]at go main;push_cast -dsimp;refine call (JT p) ?_;push_cast -dsimp;refine range (zM (zE p)) (fun k=>false) 1 (fun k=>⟨[],[[.str (((zE p).take k).getLastD [])]],0,0⟩) (Y5 p hp) (by push_cast -dsimp) (by push_cast -dsimp) (by push_cast -dsimp) (Nat.zero_le _) (by push_cast -dsimp) (fun it h=>?_) (fun k _=>rfl) ?_ (fun k it hk hsf=>?_) (fun hsf=>?_)
  ·obtain ⟨x,_,rfl⟩:=List.mem_map.1 h;rfl
  ·exact Jz.mk [] rfl rfl (Nat.le_refl _) rfl (by push_cast -dsimp [ze,zd,CLe,zg]) (by push_cast -dsimp [ze,zd,CLe,zg];rfl)
  ·obtain ⟨x,hx,rfl⟩:=X9 hk;have:=main [] rfl k x hx;push_cast -dsimp;exact wk (h5:=by push_cast -dsimp [ze,zd,CLe,zg,this])
  ·have:=go [] rfl;push_cast -dsimp;exact ⟨[],rfl,rfl,by push_cast -dsimp [ze,zd,CLe,zg];exact this.symm⟩
def Qz (p q:List UInt8):Bool:=decide (p=q)||decide (q = [47])||Lib.hasPrefix p (q++[47])
theorem HD (p q:List UInt8) (hq:q.length<=1000000):Fun Tryz.prog G0 205 [.str p,.str q] (qP (Qz p q)) 0:=by
 refine fon Tryz.func205 ?_;dsimp only[Tryz.f205];push_cast -dsimp;by_cases h1:p=q
 ·push_cast -dsimp [h1];exact ⟨[],rfl,rfl,by push_cast -dsimp [ze,zd,CLe,zg];simp[Qz]⟩
 ·by_cases h2:q = [47]
  ·subst h2;push_cast -dsimp [h1];exact ⟨[],rfl,rfl,by push_cast -dsimp [ze,zd,CLe,zg];simp[Qz]⟩
  ·push_cast -dsimp [h1,h2];refine ⟨by omega,?_⟩;refine call (Xc p (q++[47])) ?_;push_cast -dsimp;exact ⟨[],rfl,rfl,by push_cast -dsimp [ze,zd,CLe,zg];simp[Qz,h1,h2]⟩
end
section
open Go.RowKit
theorem QX (l:List UInt8) (c:UInt8):Fun Tryz.prog G0 145 [.str l,.sc (.int .u8 (c.toNat:Int))] (.sc (.int .i64 (Lib.indexByte l c))) 0:=by
 refine Fun.wrap (by kernel_rfl) fun R vs h=>?_;obtain ⟨v1,us1,rfl,h1,h⟩:=zh.1 h;obtain ⟨v2,us2,rfl,h2,h⟩:=zh.1 h;rw[zl]at h;subst h;rw[zT]at h1;rw[zo]at h2;subst h1 h2;refine (Tryz.strings_IndexByte ⟨l.toArray⟩ (c.toNat:Int) R.w).mono ?_;rintro e w' ⟨rfl,rfl⟩;exact ⟨_,rfl,Below.refl _ _,fun R' _=>zo.2 (by simp)⟩
theorem Y2 (r:Int):Fun Tryz.prog G0 265 [.sc (.int .i32 r)] (.sc (.bool (Lib.validRune r))) 0:=by
 refine Fun.wrap (by kernel_rfl) fun R vs h=>?_;obtain ⟨v1,us1,rfl,h1,h⟩:=zh.1 h;rw[zl]at h;subst h;rw[zo]at h1;subst h1;refine (Tryz.utf8_ValidRune r R.w).mono ?_;rintro e w' ⟨rfl,rfl⟩;exact ⟨_,rfl,Below.refl _ _,fun R' _=>zo.2 rfl⟩
theorem zi5 (r:Int) (hv:Utf8.valid r=true) (h128:128<=r):∃ l c,(Utf8.encode r).data.toList=l++[c]/\1<=l.length/\l.length<=3/\128<=c.toNat:=by
 obtain ⟨h1,h2,h3⟩:=encode_facts r hv h128;generalize Utf8.encode r=bs at h1 h2 h3 ⊢;have hs:bs.data.toList.length=bs.size:=Array.length_toList;have h4:=h3 (by omega);have h5:bs.data.toList[bs.size-1]?=some (bs[bs.size-1]'(by omega)):=Lib.data_getElem? bs _ (by omega);generalize bs[bs.size-1]'(by omega)=c at h4 h5;generalize bs.data.toList=l at hs h5;refine ⟨l.take (bs.size-1),c,?_,by simp;omega,by simp;omega,h4⟩;have:=List.take_append_drop (bs.size-1) l;have hd:l.drop (bs.size-1) = [c]:=by
  have hlt:bs.size-1<l.length:=by omega
  rw[List.drop_eq_getElem_cons hlt];rw[List.getElem?_eq_getElem hlt]at h5;cases h5;rw[List.drop_eq_nil_of_le (by omega)]
 rw[hd]at this;exact this.symm
theorem MC (r:Int) (h1:128<=r) (hv:Utf8.valid r=true) (h2:r≠65533):Fun Tryz.prog G0 234 [.str [47,0],.sc (.int .i32 r)] (.sc (.int .i64 (-1))) 0:=by
 have hlv:Lib.validRune r=true:=by
  have:=validRune_eq r;rw[hv]at this;exact this.symm
 obtain ⟨l,c,he,hl1,hl3,hc⟩:=zi5 r hv h1;have ha:0<=r:=by omega
 have hb:¬r<128:=by omega
 have hc0:¬((0:Int)=(c.toNat:Int)):=by omega
 have hix:=QX [] c
 match l,hl1,hl3 with
 | [x],_,_ =>
  refine fon Tryz.func234 ?_;dsimp only[Tryz.f234];push_cast -dsimp [ha,hb,h2];refine call (Y2 r) ?_;push_cast -dsimp [hlv,he];refine loop (fun k:Nat=>⟨[(0,.str [47,0]),(1,.sc (.int .i32 r)),(7,.str [x,c]),(8,.sc (.int .i64 1)),(9,.sc (.int .i64 1)),(10,.sc (.int .i64 0))],[],0,0⟩) (fun k=>True) (fun k=>0) 0 trivial ?_ ?_
  ·exact wk
  ·intro k _;push_cast -dsimp [hc0];refine zbF hix ?_;have hi0:Lib.indexByte [] c = -1:=rfl;push_cast -dsimp [hi0];exact dn
 | [x,y],_,_ =>
  refine fon Tryz.func234 ?_;dsimp only[Tryz.f234];push_cast -dsimp [ha,hb,h2];refine call (Y2 r) ?_;push_cast -dsimp [hlv,he];refine loop (fun k:Nat=>⟨[(0,.str [47,0]),(9,.sc (.int .i64 2))],[],0,0⟩) (fun k=>True) (fun k=>0) 0 trivial ?_ ?_
  ·exact wk
  ·intro k _;push_cast -dsimp;exact dn
 | [x,y,z],_,_ =>
  refine fon Tryz.func234 ?_;dsimp only[Tryz.f234];push_cast -dsimp [ha,hb,h2];refine call (Y2 r) ?_;push_cast -dsimp [hlv,he];refine loop (fun k:Nat=>⟨[(0,.str [47,0]),(9,.sc (.int .i64 3))],[],0,0⟩) (fun k=>True) (fun k=>0) 0 trivial ?_ ?_
  ·exact wk
  ·intro k _;push_cast -dsimp;exact dn
theorem Nd (w:World):Calls Tryz.prog 234 #[.string ⟨#[47,0]⟩,.int .i32 65533] w fun e w'=>e = .returned (.int .i64 (-1))/\Below w.heap.size w w':=by
 go_enter Tryz.func234,Tryz.ntmps234
 go_wp2
 go_loopg [5,6] 2 (fun g _ _ wx=>∃ i:Nat,i+g=2/\wx=w.iter ⟨#[47,0]⟩ i)
 case atStart=>exact ⟨0,by omega,rfl⟩
 case round =>
  obtain ⟨i,hig,rfl⟩:=hrel;cases gk with
  | zero =>
   obtain rfl:i=2:=by omega
   have hnx:=fun ty=>run_next_end (P:=Tryz.prog) w ⟨#[47,0]⟩ 2 ty (by decide)
   go_wp2
   go_ret
   exact ⟨rfl,(Below.refl _ _).alloc (Nat.le_refl _) _⟩
  | succ g =>
   have hi:i<(ByteArray.mk #[47,0]).size:=by show i<2;omega
   have hx128:((ByteArray.mk #[47,0])[i]'hi).toNat<128:=by
    have:i=0∨i=1:=by omega
    rcases this with rfl | rfl
    ·exact (by decide:(47:UInt8).toNat<128)
    ·exact (by decide:(0:UInt8).toNat<128)
   have hnx:=fun ty=>run_next_ascii (P:=Tryz.prog) w ⟨#[47,0]⟩ i ty hi hx128;have hne:((((ByteArray.mk #[47,0])[i]'hi).toNat:Int)==65533)=false:=by
    rw[beq_eq_false_iff_ne];omega
   go_wp2
   go_roundg g
   case measure=>omega
   case rel=>exact ⟨i+1,by omega,rfl⟩
end
end Go.Proofs.YtnpdbhbmakdklaaGreatDoor.Vcg
