/- What the proof of RmsLeads leans on, part 3: Vcg18 Slc0 Slc1 TabV Tab1 OpenG OpenT Srt0 SlcE Shelf Tab2 TabR Snd1 PathN Ref1 Path1 Path2 Path3 Path4 May1 May2 May3. No condition beyond what each theorem states. -/
import Derived.Test.YtlkjpfiancahiaaGreatDoorRmsLeadsKb
import Derived.Lib.Overlaps
import Derived.Laws.Externs
import Derived.WalkKit
import Derived.ProofKit
import Derived.Deep.Slices
import Derived.Deep.Fields
import Derived.ChangeSame
import Derived.ChangeOld
import Derived.Lib.SmallJoins
import Derived.Test.YtlkjpfiancahiaaGreatDoorRows
import Derived.Lib.Bytealg
import Derived.Shelf.Strings.Builder1
import Derived.Shelf.Strings.Builder2
import Derived.Shelf.Strings.OnBuilder
import Derived.Shelf.Strings.Trim
import Derived.Shelf.Small.Utf8
import Derived.Shelf.Small.Strs
import Derived.Shelf.Small.Wraps
import Derived.Shelf.Strings.BuilderF
import Derived.Shelf.Strings.BuilderK
import Derived.Shelf.Strings.Search1
import Derived.Shelf.Strings.Search2
import Derived.Shelf.Strings.Search3
import Derived.Shelf.LaysM
import Derived.Shelf.Strings.Shaped
import Derived.Shelf.Strings.Prefix
import Derived.Shelf.Unicode.Decode
import Derived.Shelf.Strings.Runes
import Derived.Shelf.Strings.IndexAny
import Derived.Shelf.Strings.AsciiSet
import Derived.Shelf.Strings.IndexAnyAll
import Derived.Shelf.Unicode.DecodeSlow
import Derived.Shelf.Unicode.DecodeAny
import Derived.Test.YtlkjpfiancahiaaGreatDoorProg
import Derived.Laws.Runes
import Derived.Laws.RangeString
import Derived.Deep.LoopGhost
import Derived.Lib.QuoteLoop
import Derived.Lib.IndexAny
set_option linter.unusedVariables false
set_option linter.unusedSimpArgs false
set_option linter.unusedSectionVars false
set_option maxRecDepth 100000
set_option maxHeartbeats 4000000
namespace Go.Proofs.YtlkjpfiancahiaaGreatDoor.Vcg
section
open Go.RowKit
section
variable {P:Program} {G:zo} {σ σ':St} {N p lg m:Nat} {h:Hd} {yd:Option Yd} {brs:List Bool} {bf:Nat->List Bool} {bx bx':List (List C)} {ops:Array Oper} {c c' d d':C} {t t':TypeId} {K:C->Prop} {K2:C->Nat->Prop} {K3:C->St->Prop} {nx:Nat} {tm:List (Nat×C)} {x y z:Operand} {Q:Exit->St->Prop} {X Y:Prop}
def zah (P:Program) (G:zo) (f:FuncId) (args:List C) (nx:Nat) (K:C->Nat->Prop):Prop:=∃ r n,Fun P G f args r n/\K (r.sh nx) (nx+n)
theorem zah.mk {f:FuncId} {args:List C} {r:C} {n:Nat} (h:Fun P G f args r n) (hK:K2 (r.sh nx) (nx+n)):zah P G f args nx K2:=⟨r,n,h,hK⟩
def zqq (P:Program) (G:zo) (f:FuncId) (args fargs:List C) (σ:St) (K:C->St->Prop):Prop:=
 (∃ r n,Fun P G f fargs r n/\K (r.sh σ.nx) ⟨σ.tm,σ.bx,σ.nx+n,σ.lg⟩)∨yO P G f args σ K∨zkm P G f args σ K∨Un P G f args σ K∨zdJ P f args σ K
def aGd (d:Option Tmp) (tm:List (Nat×C)) (want:Bool) (X Y:Prop):Prop:=match d with
 | some d=>match want with
  | true=>zki (jz tm d) Y X Y
  | false=>zki (jz tm d) Y Y X
 | none=>False
def zqb (L:Option Lay) (c:C) (bx:List (List C)) (K:C->Prop):Prop:=
 match L with
 | none=>False
 | some L=>match c with
  | .ptr i off=>match bx[i]? with
   | some cs=>JS L (cs.drop off) K
   | none=>False
  | .row cs=>JS L cs K
  | _=>False
def zpJ (cs:Option (List C)) (off:Nat) (L:Lay) (K:C->Prop):Prop:=match cs with | some cs=>JS L (cs.drop off) K | none=>False
def zq0 (x:Option C) (K:C->Prop):Prop:=match x with | some c=>K c | none=>False
def yu (L:Option Lay) (c:C) (f:Nat) (K:C->Prop):Prop:=
 match L with
 | some ⟨.struct fs,_,_,_⟩=>match fs[f]?,c with
  | some (off,size,agg),.agg cs =>
   if agg then off+size<=cs.length/\K (.agg ((cs.drop off).take size)) else match cs[off]? with
    | some c=>K c
    | none=>False
  | _,_=>False
 | _=>False
def Up (f:Option (Nat×Nat×Bool)) (cs:List C) (K:C->Prop):Prop:=
 match f with
 | some (off,size,agg)=>if agg then off+size<=cs.length/\K (.agg ((cs.drop off).take size)) else match cs[off]? with
    | some c=>K c
    | none=>False
 | none=>False
def zsY (L:Option Lay) (c:C) (f:Nat) (K:C->Prop):Prop:=
 match L with
 | some ⟨.struct fs,_,_,_⟩=>match fs[f]?,c with
  | some (off,size,_),.ptr i o=>if size=0 then False else K (.ptr i (o+off))
  | some (off,size,_),.row cs=>if size=0 then False else K (.row (cs.drop off))
  | _,_=>False
 | _=>False
def zp0 (f:Option (Nat×Nat×Bool)) (c:C) (K:C->Prop):Prop:=
 match f,c with
  | some (off,size,_),.ptr i o=>if size=0 then False else K (.ptr i (o+off))
  | some (off,size,_),.row cs=>if size=0 then False else K (.row (cs.drop off))
  | _,_=>False
def zsS (P:Program) (L:Option Lay) (c:C) (i:C) (K:C->Prop):Prop:=
 match L,i with
 | some ⟨.slice e,_,_,_⟩,.sc (.int _ n)=>match lay P e with
  | some L=>match c with
   | .bs j off k m _=>k=L.size/\0<=n/\n<(m:Int)/\K (.ptr j (off+n.toNat*L.size))
   | c=>match c.rows? L.size with
    | some rows=>match rows[n.toNat]? with
     | some r=>0<=n/\K (.row r)
     | none=>False
    | none=>False
  | none=>False
 | some ⟨.array (m+1) e,_,_,_⟩,.sc (.int _ n)=>match lay P e with
  | some L=>match c with
   | .ptr j off=>0<=n/\n<((m+1:Nat):Int)/\K (.ptr j (off+n.toNat*L.size))
   | .row cs=>0<=n/\n<((m+1:Nat):Int)/\K (.row (cs.drop (n.toNat*L.size)))
   | _=>False
  | none=>False
 | _,_=>False
def zsH (L:Option Lay) (c:C) (n:Int) (K:C->Prop):Prop:=
 match L with
  | some L=>match c with
   | .bs j off k m _=>k=L.size/\0<=n/\n<(m:Int)/\K (.ptr j (off+n.toNat*L.size))
   | c=>match c.rows? L.size with
    | some rows=>match rows[n.toNat]? with
     | some r=>0<=n/\K (.row r)
     | none=>False
    | none=>False
  | none=>False
def zsq (rows:Option (List (List C))) (n:Int) (K:C->Prop):Prop:=
 match rows with
   | some rows=>match rows[n.toNat]? with
    | some r=>0<=n/\K (.row r)
    | none=>False
   | none=>False
def aAt (r:Option (List C)) (n:Int) (K:C->Prop):Prop:=match r with | some r=>0<=n/\K (.row r) | none=>False
def zs8 (L:Option Lay) (c:C) (m:Nat) (n:Int) (K:C->Prop):Prop:=
 match L with
  | some L=>match c with
   | .ptr j off=>0<=n/\n<((m+1:Nat):Int)/\K (.ptr j (off+n.toNat*L.size))
   | .row cs=>0<=n/\n<((m+1:Nat):Int)/\K (.row (cs.drop (n.toNat*L.size)))
   | _=>False
  | none=>False
def zrg (L:Option Lay) (c i:C) (K:C->Prop):Prop:=
 match L,c,i with
 | some ⟨.str,_,_,_⟩,.str l,.sc (.int _ n)=>match l[n.toNat]? with
  | some b=>0<=n/\K (.sc (.int .u8 (b.toNat:Int)))
  | none=>False
 | _,_,_=>False
def zmj (b:Option UInt8) (n:Int) (K:C->Prop):Prop:=match b with | some b=>0<=n/\K (.sc (.int .u8 (b.toNat:Int))) | none=>False
def zsf (P:Program) (L:Option Lay) (c:C) (lo hi mx:Option Int) (K:C->Prop):Prop:=
   match L with
    | some ⟨.str,_,_,_⟩=>match c,mx with
      | .str l,none=>jE l.length lo hi/\K (.str (cut l lo hi))
      | _,_=>False
    | some ⟨.slice e,_,_,_⟩=>match lay P e with
      | some L=>match c with
        | .bs i off k n cap=>zmm L.size i off k n cap lo hi mx K
        | .sc (.slice none 0 0)=>zp2 L.size lo hi mx K
        | c=>match c.rows? L.size with
          | some rows=>match mx,hi with
            | none,_=>jE rows.length lo hi/\K (.sl L.size (cut rows lo hi))
            | some m,some h=>m=h/\jE rows.length lo hi/\K (.tight L.size (cut rows lo hi))
            | some _,none=>False
          | none=>False
      | none=>False
    | _=>False
def zsA (P:Program) (t:TypeId) (c:C) (lo hi mx:Option (Option Int)) (K:C->Prop):Prop:=
 match lo,hi,mx with
 | some lo,some hi,some mx=>zsf P (lay P t) c lo hi mx K
 | _,_,_=>False
def zsv (L:Option Lay) (c:C) (lo hi mx:Option Int) (K:C->Prop):Prop:=
 match L with
   | some L=>match c with
    | .bs i off k n cap=>zmm L.size i off k n cap lo hi mx K
    | .sc (.slice none 0 0)=>zp2 L.size lo hi mx K
    | c=>match c.rows? L.size with
     | some rows=>match mx,hi with
      | none,_=>jE rows.length lo hi/\K (.sl L.size (cut rows lo hi))
      | some m,some h=>m=h/\jE rows.length lo hi/\K (.tight L.size (cut rows lo hi))
      | some _,none=>False
     | none=>False
   | none=>False
def zs0 (rows:Option (List (List C))) (k:Nat) (lo hi mx:Option Int) (K:C->Prop):Prop:=
 match rows with
    | some rows=>match mx,hi with
     | none,_=>jE rows.length lo hi/\K (.sl k (cut rows lo hi))
     | some m,some h=>m=h/\jE rows.length lo hi/\K (.tight k (cut rows lo hi))
     | some _,none=>False
    | none=>False
def zcE (rows:Option (List (List C))) (K:C->Prop):Prop:=match rows with | some rows=>∃ l,rows=Jm l/\K (.str l) | none=>False
theorem zcE.mk {rows:List (List C)} (l:List UInt8) (h:rows=Jm l) (hK:K (.str l)):zcE (some rows) K:=⟨l,h,hK⟩
def zsp (P:Program) (D S:Option Lay) (c:C) (K:C->Prop):Prop:=
 match D with
 | some ⟨.int k,_,_,_⟩=>match c with
  | .sc (.int _ n)=>match S with | some _=>inR k n/\K (.sc (.int k n)) | none=>False
  | _=>False
 | some ⟨.str,_,_,_⟩=>match S with
  | some ⟨.str,_,_,_⟩=>match c with
   | .str l=>K (.str l)
   | _=>False
  | some ⟨.slice e,_,_,_⟩=>match lay P e with
   | some ⟨.int .u8,_,_,_⟩=>match c.rows? 1 with
    | some rows=>∃ l,rows=Jm l/\K (.str l)
    | none=>False
   | _=>False
  | some ⟨.int _,_,_,_⟩=>match c with
   | .sc (.int _ n)=>K (.str (Utf8.encode n).data.toList)
   | _=>False
  | _=>False
 | some ⟨.slice e,_,_,_⟩=>match S,lay P e with
  | some ⟨.str,_,_,_⟩,some ⟨.int .u8,_,_,_⟩=>match c with
   | .str l=>((l.length:Nat):Int)<=9223372036854775807/\K (.sl 1 (Jm l))
   | _=>False
  | _,_=>False
 | _=>False
def zsn (L:Option Lay) (c:C) (K:C->Prop):Prop:=
 match L with
   | some ⟨.int .u8,_,_,_⟩=>match c.rows? 1 with
    | some rows=>∃ l,rows=Jm l/\K (.str l)
    | none=>False
   | _=>False
def zqU (L:Option Lay) (c:C) (K:C->Prop):Prop:=
 match L,c with
 | some ⟨.slice _,_,_,_⟩,.bs _ _ _ _ c=>K (.sc (.int .i64 (c:Int)))
 | some ⟨.slice _,_,_,_⟩,.sc (.slice none 0 0)=>K (.sc (.int .i64 0))
 | _,_=>False
def zrU (L:Option Lay) (n:Int) (K:C->Prop):Prop:=match L with | some ⟨.slice _,_,_,_⟩=>K (.sc (.int .i64 n)) | _=>False
def zqP (L:Option Lay) (n:Int) (K:C->Prop):Prop:=match L with | some ⟨.str,_,_,_⟩=>K (.sc (.int .i64 n)) | _=>False
def zrG (L:Option Lay) (parts:List (Nat×C)) (K:C->Prop):Prop:=
 match L with
 | some ⟨.struct fs,_,_,some z⟩=>(parts.all fun p=>p.2.partB)=true/\match Yr (fun i=>(fs[i]?).map fun f=>(f.1,f.2.1)) (z.map zy) parts with
  | some cs=>K (.agg cs)
  | none=>False
 | _=>False
def aFl (cs:Option (List C)) (K:C->Prop):Prop:=match cs with | some cs=>K (.agg cs) | none=>False
def plS (fs:List (Nat×Nat×Bool)) (i:Nat):Option (Nat×Nat):=(fs[i]?).map fun f=>(f.1,f.2.1)
def plA (k:Nat) (i:Nat):Option (Nat×Nat):=some (i*k,k)
def zkg (pl:Option (Nat×Nat)) (place:Nat->Option (Nat×Nat)) (cs:List C) (c:List C) (rest:List (Nat×C)):Option (List C):=
 match pl with
  | none=>none
  | some (off,size)=>if c.length=size/\off+size<=cs.length then Yr place (cs.take off++c++cs.drop (off+size)) rest else none
def zsu (P:Program) (L:Option Lay) (n:Nat) (parts:List (Nat×C)) (nx:Nat) (K:C->Nat->Prop):Prop:=
 match L with
 | some ⟨.slice e,_,_,_⟩=>match lay P e with
  | some ⟨_,k,_,some z⟩=>z.length=k/\0<k/\n*k<=16777216/\(parts.all fun p=>p.2.frz.partB)=true/\match Yr (fun i=>some (i*k,k)) (List.replicate n (z.map zy)).flatten (parts.map fun p=>(p.1,p.2.frz)) with
   | some cs=>(cs.all C.cellB)=true/\cs.length=n*k/\K (.own nx e k (Qh k n cs)) (nx+1)
   | none=>False
  | _=>False
 | _=>False
def zs6 (L:Option Lay) (e:TypeId) (n:Nat) (parts:List (Nat×C)) (nx:Nat) (K:C->Nat->Prop):Prop:=
   match L with
    | some ⟨_,k,_,some z⟩=>z.length=k/\0<k/\n*k<=16777216/\(parts.all fun p=>p.2.frz.partB)=true/\match Yr (fun i=>some (i*k,k)) (List.replicate n (z.map zy)).flatten (parts.map fun p=>(p.1,p.2.frz)) with
      | some cs=>(cs.all C.cellB)=true/\cs.length=n*k/\K (.own nx e k (Qh k n cs)) (nx+1)
      | none=>False
    | _=>False
def zsU (cs:Option (List C)) (e k n nx:Nat) (K:C->Nat->Prop):Prop:=
 match cs with
   | some cs=>(cs.all C.cellB)=true/\cs.length=n*k/\K (.own nx e k (Qh k n cs)) (nx+1)
   | none=>False
def zsN (P:Program) (L:Option Lay) (l c:C) (nx:Nat) (K:C->Nat->Prop):Prop:=
 match L,l,c with
 | some ⟨.slice e,_,_,_⟩,.sc (.int _ l),.sc (.int _ c)=>match lay P e with
  | some ⟨_,k,by',some z⟩=>z.length=k/\0<k/\(z.all Value.oneCell')=true/\0<=l/\l<=c/\(by':Int)*c<=281474976710656/\c<=9223372036854775807/\K (.own nx e k (List.replicate l.toNat (z.map zy))) (nx+1)
  | _=>False
 | _,_,_=>False
def zsB (L:Option Lay) (e:TypeId) (l c:Int) (nx:Nat) (K:C->Nat->Prop):Prop:=
 match L with
  | some ⟨_,k,by',some z⟩=>z.length=k/\0<k/\(z.all Value.oneCell')=true/\0<=l/\l<=c/\(by':Int)*c<=281474976710656/\c<=9223372036854775807/\K (.own nx e k (List.replicate l.toNat (z.map zy))) (nx+1)
  | _=>False
def zqK (P:Program) (L:Option Lay) (l c:C) (σ:St) (K:C->St->Prop):Prop:=
 match L,l,c with
 | some ⟨.slice e,_,_,_⟩,.sc (.int _ l),.sc (.int _ c)=>match lay P e with
  | some ⟨_,k,by',some z⟩=>z.length=k/\0<k/\(z.all Value.oneCell')=true/\0<=l/\l<=c/\(by':Int)*c<=281474976710656/\c<=9223372036854775807/\K (.bs σ.bx.length 0 k l.toNat c.toNat) ⟨σ.tm,σ.bx++[(List.replicate c.toNat (z.map zy)).flatten],σ.nx,σ.lg⟩
  | _=>False
 | _,_,_=>False
def zrO (L:Option Lay) (l c:Int) (σ:St) (K:C->St->Prop):Prop:=
 match L with
  | some ⟨_,k,by',some z⟩=>z.length=k/\0<k/\(z.all Value.oneCell')=true/\0<=l/\l<=c/\(by':Int)*c<=281474976710656/\c<=9223372036854775807/\K (.bs σ.bx.length 0 k l.toNat c.toNat) ⟨σ.tm,σ.bx++[(List.replicate c.toNat (z.map zy)).flatten],σ.nx,σ.lg⟩
  | _=>False
def zsC (P:Program) (L:Option Lay) (s x:C) (nx:Nat) (K:C->Nat->Prop):Prop:=
 match L with
 | some ⟨.slice e,_,_,_⟩=>match lay P e with
  | some ⟨_,k,by',some z⟩=>match x.rows? k with
   | some xs=>match s with
    | .sc (.slice none 0 0)=>z.length=k/\0<k/\xs.length<=9223372036854775807/\xs.length*by'<=140737488355328/\K (.own nx e k xs) (nx+1)
    | .tight k' rows=>k'=k/\z.length=k/\0<k/\rows.length+xs.length<=9223372036854775807/\(rows.length+xs.length)*by'<=140737488355328/\(xs = []->K (.tight k' rows) nx)/\(xs≠[]->K (.own nx e k (rows++xs)) (nx+1))
    | _=>False
   | none=>False
  | _=>False
 | _=>False
def zsL (L:Option Lay) (e:TypeId) (s x:C) (nx:Nat) (K:C->Nat->Prop):Prop:=
  match L with
  | some ⟨_,k,by',some z⟩=>match x.rows? k with
   | some xs=>match s with
    | .sc (.slice none 0 0)=>z.length=k/\0<k/\xs.length<=9223372036854775807/\xs.length*by'<=140737488355328/\K (.own nx e k xs) (nx+1)
    | .tight k' rows=>k'=k/\z.length=k/\0<k/\rows.length+xs.length<=9223372036854775807/\(rows.length+xs.length)*by'<=140737488355328/\(xs = []->K (.tight k' rows) nx)/\(xs≠[]->K (.own nx e k (rows++xs)) (nx+1))
    | _=>False
   | none=>False
  | _=>False
def zs7 (xs:Option (List (List C))) (s:C) (e k by':Nat) (z:List Value) (nx:Nat) (K:C->Nat->Prop):Prop:=
 match xs with
   | some xs=>match s with
    | .sc (.slice none 0 0)=>z.length=k/\0<k/\xs.length<=9223372036854775807/\xs.length*by'<=140737488355328/\K (.own nx e k xs) (nx+1)
    | .tight k' rows=>k'=k/\z.length=k/\0<k/\rows.length+xs.length<=9223372036854775807/\(rows.length+xs.length)*by'<=140737488355328/\(xs = []->K (.tight k' rows) nx)/\(xs≠[]->K (.own nx e k (rows++xs)) (nx+1))
    | _=>False
   | none=>False
def zso (P:Program) (L:Option Lay) (id e k:Nat) (rows:List (List C)) (x:C) (σ:St) (K:C->St->Prop):Prop:=
   match L with
    | some ⟨.slice e',_,_,_⟩=>match lay P e with
      | some ⟨_,k',by',some z⟩=>match x.rows? k with
        | some xs=>e'=e/\k'=k/\z.length=k/\0<k/\rows.length+xs.length<=9223372036854775807/\(rows.length+xs.length)*by'<=140737488355328/\K (.own id e k (rows++xs)) ⟨zbY id σ.tm,xt id σ.bx,σ.nx,σ.lg⟩
        | none=>False
      | _=>False
    | _=>False
def zrc (L:Option Lay) (e' id e k:Nat) (rows:List (List C)) (x:C) (σ:St) (K:C->St->Prop):Prop:=
  match L with
   | some ⟨_,k',by',some z⟩=>match x.rows? k with
    | some xs=>e'=e/\k'=k/\z.length=k/\0<k/\rows.length+xs.length<=9223372036854775807/\(rows.length+xs.length)*by'<=140737488355328/\K (.own id e k (rows++xs)) ⟨zbY id σ.tm,xt id σ.bx,σ.nx,σ.lg⟩
    | none=>False
   | _=>False
def zqQ (xs:Option (List (List C))) (by' id e k:Nat) (rows:List (List C)) (σ:St) (K:C->St->Prop):Prop:=
   match xs with
        | some xs=>rows.length+xs.length<=9223372036854775807/\(rows.length+xs.length)*by'<=140737488355328/\K (.own id e k (rows++xs)) ⟨zbY id σ.tm,xt id σ.bx,σ.nx,σ.lg⟩
        | none=>False
def zsk (L:Option Lay) (σ:St) (K:C->St->Prop):Prop:=
 match L with
 | some ⟨_,_,_,some z⟩=>(z.all Value.oneCell')=true/\K (.ptr σ.bx.length 0) ⟨σ.tm,σ.bx++[z.map zy],σ.nx,σ.lg⟩
 | _=>False
def zsm (L:Option Lay) (p c:C) (bx:List (List C)) (K:C->Prop):Prop:=
 match L,p with
 | some L,.ptr i off=>match bx[i]? with
  | some cs=>c.partB=true/\(c.cells.all C.cellB)=true/\c.cells.length=L.size/\off+L.size<=cs.length/\VE ((cs.drop off).take L.size) c.cells/\K .any
  | none=>False
 | _,_=>False
def zsj (cs:Option (List C)) (off size:Nat) (c:C) (K:C->Prop):Prop:=
 match cs with
  | some cs=>c.partB=true/\(c.cells.all C.cellB)=true/\c.cells.length=size/\off+size<=cs.length/\VE ((cs.drop off).take size) c.cells/\K .any
  | none=>False
def zst (L:Option Lay) (p c:C) (σ:St) (K:C->St->Prop):Prop:=
 match L,p with
 | some L,.ptr i off=>match σ.bx[i]? with
  | some cs=>c.partB=true/\(c.cells.all C.cellB)=true/\c.cells.length=L.size/\off+L.size<=cs.length/\K .any ⟨σ.tm,σ.bx.set i (cs.take off++c.cells++cs.drop (off+L.size)),σ.nx,σ.lg⟩
  | none=>False
 | _,_=>False
def zsR (cs:Option (List C)) (i off size:Nat) (c:C) (σ:St) (K:C->St->Prop):Prop:=
 match cs with
  | some cs=>c.partB=true/\(c.cells.all C.cellB)=true/\c.cells.length=size/\off+size<=cs.length/\K .any ⟨σ.tm,σ.bx.set i (cs.take off++c.cells++cs.drop (off+size)),σ.nx,σ.lg⟩
  | none=>False
def zc0 (cs:Option (List C)) (off n:Nat) (K:C->Prop):Prop:=match cs with
   | some cs=>∃ l:List UInt8,l.length=n/\(cs.drop off).take n=l.map (fun b=>C.sc (.int .u8 (b.toNat:Int)))/\K (.str l)
   | none=>False
theorem zc0.mk {cs:List C} {off n:Nat} {K:C->Prop} (l:List UInt8) (hl:l.length=n) (h:(cs.drop off).take n=l.map (fun b=>C.sc (.int .u8 (b.toNat:Int)))) (hK:K (.str l)):zc0 (some cs) off n K:=⟨l,hl,h,hK⟩
def zsI (P:Program) (L:Option Lay) (n:Nat) (parts:List (Nat×C)) (σ:St) (K:C->St->Prop):Prop:=
 match L with
 | some ⟨.slice e,_,_,_⟩=>match lay P e with
  | some ⟨_,k,_,some z⟩=>z.length=k/\0<k/\n*k<=16777216/\(parts.all fun p=>p.2.frz.partB)=true/\match Yr (fun i=>some (i*k,k)) (List.replicate n (z.map zy)).flatten (parts.map fun p=>(p.1,p.2.frz)) with
   | some cs=>(cs.all C.cellB)=true/\cs.length=n*k/\K (.bs σ.bx.length 0 k n n) ⟨σ.tm,σ.bx++[cs],σ.nx,σ.lg⟩
   | none=>False
  | _=>False
 | _=>False
def zsO (L:Option Lay) (n:Nat) (parts:List (Nat×C)) (σ:St) (K:C->St->Prop):Prop:=
   match L with
    | some ⟨_,k,_,some z⟩=>z.length=k/\0<k/\n*k<=16777216/\(parts.all fun p=>p.2.frz.partB)=true/\match Yr (fun i=>some (i*k,k)) (List.replicate n (z.map zy)).flatten (parts.map fun p=>(p.1,p.2.frz)) with
      | some cs=>(cs.all C.cellB)=true/\cs.length=n*k/\K (.bs σ.bx.length 0 k n n) ⟨σ.tm,σ.bx++[cs],σ.nx,σ.lg⟩
      | none=>False
    | _=>False
def zsG (cs:Option (List C)) (k n:Nat) (σ:St) (K:C->St->Prop):Prop:=
 match cs with
   | some cs=>(cs.all C.cellB)=true/\cs.length=n*k/\K (.bs σ.bx.length 0 k n n) ⟨σ.tm,σ.bx++[cs],σ.nx,σ.lg⟩
   | none=>False
def zs4 (P:Program) (L:Option Lay) (p:Nat) (s x:C) (σ:St) (K:C->St->Prop):Prop:=
 match L with
 | some ⟨.slice e,_,_,_⟩=>match lay P e with
  | some ⟨_,k,by',some z⟩=>match x.xs? k σ.bx with
   | some (m,xs)=>z.length=k/\0<k/\(z.all Value.oneCell')=true/\0<m/\match s with
    | .sc (.slice none 0 0)=>m<=9223372036854775807/\m*by'<=140737488355328/\∀ c,m<=c->c<=maxLen->K (.bs σ.bx.length 0 k m c) ⟨σ.tm,σ.bx++[xs++List.replicate ((c-m)*k) .any],σ.nx,σ.lg⟩
    | .bs i 0 k' n c=>match σ.bx[i]? with
     | some cs=>k'=k/\p<=i/\cs.length=c*k/\n<=c/\c<=9223372036854775807/\n+m<=9223372036854775807/\(n+m)*by'<=140737488355328 /\
       ∀ c',n+m<=c'->c'<=maxLen->K (.bs i 0 k (n+m) c') ⟨kR (Jz i) some σ.tm,Q8 i (C.reL (Jz i) some (cs.take (n*k)++xs)++List.replicate ((c'-(n+m))*k) .any) σ.bx,σ.nx,σ.lg⟩
     | none=>False
    | _=>False
   | none=>False
  | _=>False
 | _=>False
def zs1 (L:Option Lay) (p:Nat) (s x:C) (σ:St) (K:C->St->Prop):Prop:=
  match L with
  | some ⟨_,k,by',some z⟩=>match x.xs? k σ.bx with
   | some (m,xs)=>z.length=k/\0<k/\(z.all Value.oneCell')=true/\0<m/\match s with
    | .sc (.slice none 0 0)=>m<=9223372036854775807/\m*by'<=140737488355328/\∀ c,m<=c->c<=maxLen->K (.bs σ.bx.length 0 k m c) ⟨σ.tm,σ.bx++[xs++List.replicate ((c-m)*k) .any],σ.nx,σ.lg⟩
    | .bs i 0 k' n c=>match σ.bx[i]? with
     | some cs=>k'=k/\p<=i/\cs.length=c*k/\n<=c/\c<=9223372036854775807/\n+m<=9223372036854775807/\(n+m)*by'<=140737488355328 /\
       ∀ c',n+m<=c'->c'<=maxLen->K (.bs i 0 k (n+m) c') ⟨kR (Jz i) some σ.tm,Q8 i (C.reL (Jz i) some (cs.take (n*k)++xs)++List.replicate ((c'-(n+m))*k) .any) σ.bx,σ.nx,σ.lg⟩
     | none=>False
    | _=>False
   | none=>False
  | _=>False
def zsr (X:Option (Nat×List C)) (p k by':Nat) (z:List Value) (s:C) (σ:St) (K:C->St->Prop):Prop:=
  match X with
   | some (m,xs)=>z.length=k/\0<k/\(z.all Value.oneCell')=true/\0<m/\match s with
    | .sc (.slice none 0 0)=>m<=9223372036854775807/\m*by'<=140737488355328/\∀ c,m<=c->c<=maxLen->K (.bs σ.bx.length 0 k m c) ⟨σ.tm,σ.bx++[xs++List.replicate ((c-m)*k) .any],σ.nx,σ.lg⟩
    | .bs i 0 k' n c=>match σ.bx[i]? with
     | some cs=>k'=k/\p<=i/\cs.length=c*k/\n<=c/\c<=9223372036854775807/\n+m<=9223372036854775807/\(n+m)*by'<=140737488355328 /\
       ∀ c',n+m<=c'->c'<=maxLen->K (.bs i 0 k (n+m) c') ⟨kR (Jz i) some σ.tm,Q8 i (C.reL (Jz i) some (cs.take (n*k)++xs)++List.replicate ((c'-(n+m))*k) .any) σ.bx,σ.nx,σ.lg⟩
     | none=>False
    | _=>False
   | none=>False
def bsO (j:Option Nat) (off k n c:Nat):C:=match j with | some j=>.bs j off k n c | none=>.any
def xsB (k' k off n:Nat) (cs:Option (List C)):Option (Nat×List C):=if k'=k then cs.bind fun cs=>if off+n*k<=cs.length then some (n,(cs.drop off).take (n*k)) else none else none
def zqB (j:Option Nat) (e k:Nat) (rows:List (List C)):C:=match j with | some j=>.own j e k rows | none=>.sl k rows
def zrH (cs:Option (List C)) (off:Nat):C:=match cs with | some cs=>.row ((C.frzL cs).drop off) | none=>.any
def znz (j:Option Nat) (off:Nat):C:=match j with | some j=>.ptr j off | none=>.any
def zno (cs:Option (List C)) (p:Option Tmp) (σ:St) (K:St->Prop):Prop:=match cs,p with
  | some cs,some p=>K ⟨(p,.ptr σ.bx.length 0) :: σ.tm,σ.bx++[cs],σ.nx,σ.lg⟩
  | _,_=>False
def zsl (M:Option (MKd×C)) (t:TypeId) (r:Option C) (nx:Nat) (K:C->Nat->Prop):Prop:=
 match M with
 | some (kd,_)=>match r with
  | none=>K (.mo nx t kd.nil []) (nx+1)
  | some (.sc (.int _ _))=>K (.mo nx t kd.nil []) (nx+1)
  | _=>False
 | none=>False
def zsX (M:Option (MKd×C)) (t:TypeId) (m key:C) (ok:Bool) (K:C->Prop):Prop:=
 match M with
 | some (.int k,z)=>match m,key with
  | .mo _ t' (.int k' l) vs,.sc (.int q n)=>t'=t/\k'=k/\q=k/\Hg (zj8 n l vs) z ok K
  | _,_=>False
 | some (.str,z)=>match m,key with
  | .mo _ t' (.str l) vs,.str s=>t'=t/\Hg (zj8 s l vs) z ok K
  | _,_=>False
 | none=>False
def zsT (M:Option (MKd×C)) (t:TypeId) (m key x:C) (σ:St) (K:C->St->Prop):Prop:=
 match M with
 | some (.int k,_)=>match m,key with
  | .mo id t' (.int k' l) vs,.sc (.int q n)=>t'=t/\k'=k/\q=k/\Gh id (.int k (kD n x.frz l vs).1) (kD n x.frz l vs).2 σ K
  | _,_=>False
 | some (.str,_)=>match m,key with
  | .mo id t' (.str l) vs,.str s=>t'=t/\Gh id (.str (kD s x.frz l vs).1) (kD s x.frz l vs).2 σ K
  | _,_=>False
 | none=>False
def zr6 (x:Option (List C)):C:=match x with | some cs=>.row cs | none=>.any
structure Tag.{u} {α:Sort u} (a:α):Type where
def zqr (M:Option (MKd×C)) (t:TypeId) (r:Option C) (nx:Nat) (K:C->Nat->Prop) (_:Tag K):Prop:=zsl M t r nx K
def zoZ (M:Option (MKd×C)) (t:TypeId) (m key:C) (ok:Bool) (K:C->Prop) (_:Tag K):Prop:=zsX M t m key ok K
def zdn (r:Option C) (z:C) (ok:Bool) (K:C->Prop) (_:Tag K):Prop:=Hg r z ok K
def zoB (M:Option (MKd×C)) (t:TypeId) (m key x:C) (σ:St) (K:C->St->Prop) (_:Tag K):Prop:=zsT M t m key x σ K
def zfZ (sz i off k n cap:Nat) (lo hi mx:Option Int) (K:C->Prop) (_:Tag K):Prop:=zmm sz i off k n cap lo hi mx K
def yQ (P:Program) (t:TypeId) (s x:C) (σ:St) (K:C->St->Prop) (_:Tag K):Prop:=Yb P t s x σ K
def zai (P:Program) (t tn:TypeId) (s x:C) (σ:St) (K:C->St->Prop) (_:Tag K):Prop:=HH P t tn s x σ K
def Nx (P:Program) (t:TypeId) (d x:C) (σ:St) (K:C->St->Prop) (_:Tag K):Prop:=QC P t d x σ K
def xC (P:Program) (t:TypeId) (x:C) (σ:St) (K:C->St->Prop) (_:Tag K):Prop:=UP P t x σ K
def zpo (x y:C) (K:C->Prop) (_:Tag K):Prop:=zpX x y K
def zoQ (P:Program) (t:TypeId) (c:C) (K:C->Prop) (_:Tag K):Prop:=zoa P t c K
def zfF (L:Option Lay) (c:C) (K:C->Prop) (_:Tag K):Prop:=zqU L c K
def yt (P:Program) (bx:List (List C)) (s d:TypeId) (c:C) (K:C->Prop) (_:Tag K):Prop:=uv P bx s d c K
def k8 (P:Program) (t:TypeId) (n:Nat) (parts:List (Nat×C)) (σ:St) (K:C->St->Prop) (_:Tag K):Prop:=Q5 P t n parts σ K
def zpZ (P:Program) (L:Option Lay) (n:Nat) (parts:List (Nat×C)) (σ:St) (K:C->St->Prop) (_:Tag K):Prop:=zsI P L n parts σ K
def zoE (L:Option Lay) (n:Nat) (parts:List (Nat×C)) (σ:St) (K:C->St->Prop) (_:Tag K):Prop:=zsO L n parts σ K
def znZ (cs:Option (List C)) (k n:Nat) (σ:St) (K:C->St->Prop) (_:Tag K):Prop:=zsG cs k n σ K
def vP (P:Program) (p:Nat) (t:TypeId) (s x:C) (σ:St) (K:C->St->Prop) (_:Tag K):Prop:=U2 P p t s x σ K
def zoV (P:Program) (L:Option Lay) (p:Nat) (s x:C) (σ:St) (K:C->St->Prop) (_:Tag K):Prop:=zs4 P L p s x σ K
def zoF (L:Option Lay) (p:Nat) (s x:C) (σ:St) (K:C->St->Prop) (_:Tag K):Prop:=zs1 L p s x σ K
def zqi (X:Option (Nat×List C)) (p k by':Nat) (z:List Value) (s:C) (σ:St) (K:C->St->Prop) (_:Tag K):Prop:=zsr X p k by' z s σ K
def zmA (c:C) (X Y:Prop) (_:Tag X) (_:Tag Y):Prop:=ABr c X Y
def zhP (c:C) (U X Y:Prop) (_:Tag U) (_:Tag X) (_:Tag Y):Prop:=zki c U X Y
def Y7 (ops:Array Oper) (tm:List (Nat×C)) (g:Option (Nat×Bool)) (X Y:Prop) (_:Tag ops) (_:Tag X) (_:Tag Y):Prop:=jd ops tm g X Y
def zrB (d:Option Tmp) (tm:List (Nat×C)) (want:Bool) (X Y:Prop) (_:Tag X) (_:Tag Y):Prop:=aGd d tm want X Y
def Z0 (P:Program) (G:zo) (h:Hd) (c:Code) (Q:Exit->St->Prop) (σ:St) (_:Tag c) (_:Tag Q):Prop:=awp P G h c Q σ
def zf1 (P:Program) (G:zo) (h:Hd) (ops:Array Oper) (l:List Oper) (σ:St) (K:St->Prop) (_:Tag h) (_:Tag ops) (_:Tag l) (_:Tag K):Prop:=zom P G h ops l σ K
def Xj (P:Program) (G:zo) (h:Hd) (ops:Array Oper) (l:List Oper) (br:List Bool) (σ:St) (K:St->Prop) (_:Tag h) (_:Tag ops) (_:Tag l) (_:Tag K):Prop:=Zc P G h ops l br σ K
def Nc (P:Program) (G:zo) (h:Hd) (ops:Array Oper) (br:List Bool) (σ:St) (K:St->Prop) (_:Tag h) (_:Tag ops) (_:Tag K):Prop:=xd P G h ops br σ K
def znG (P:Program) (G:zo) (Y:Hd) (ops:Array Oper) (rest:List (Nat×MFl)) (q:Nat) (H:List ku) (fl:MFl) (oo:Option Oper) (σ:St) (K:St->Prop):Prop:=match oo with
 | none=>False
 | some o=>match fl with
  | .pure=>jd ops σ.tm o.guard (j8 P G σ.bx (zx G σ.tm) o.op σ.nx fun c nx'=>mix P G Y ops rest (q+1) ((q,fun b=>j8 P G b (zx G σ.tm) o.op σ.nx fun c' n'=>c'=c/\n'=nx') :: H) ⟨Ja σ.tm o.dst c,σ.bx,nx',σ.lg⟩ K)
    (mix P G Y ops rest (q+1) H ⟨Ja σ.tm o.dst (.sc undef),σ.bx,σ.nx,σ.lg⟩ K)
  | .bar=>jd ops σ.tm o.guard (G7 P G Y o.op σ fun c σ'=>mix P G Y ops rest (q+1) [] (σ'.put o.dst c) K) (mix P G Y ops rest (q+1) [] (σ.put o.dst (.sc undef)) K)
  | .flt fr=>o.guard=none/\zpg P G o.op σ fun c bx' nx'=>Ys fr bx' H/\mix P G Y ops rest (q+1) H ⟨Ja σ.tm o.dst c,bx',nx',σ.lg⟩ K
def kH (P:Program) (G:zo) (h:Hd) (ops:Array Oper) (all:List Oper) (L:List (Nat×MFl)) (q:Nat) (H:List ku) (σ:St) (K:St->Prop) (_:Tag h) (_:Tag ops) (_:Tag all) (_:Tag H) (_:Tag K):Prop:=mix P G h ops L q H σ K
def MI (P:Program) (G:zo) (h:Hd) (ops:Array Oper) (all:List Oper) (L:List (Nat×MFl)) (q:Nat) (H:List ku) (fl:MFl) (i:Nat) (l:List Oper) (σ:St) (K:St->Prop) (_:Tag h) (_:Tag ops) (_:Tag all) (_:Tag H) (_:Tag l) (_:Tag K):Prop:=znG P G h ops L q H fl (l[i]?) σ K
def znv (fr:List Nat) (b:List (List C)) (H:List ku) (_:Tag H):Prop:=Ys fr b H
def zcY (P:Program) (G:zo) (f:C) (args:List C) (σ:St) (K:C->List (List C)->Nat->Prop) (_:Tag K):Prop:=ud P G f args σ K
def zsb (P:Program) (G:zo) (f:FuncId) (args:List C) (σ:St) (K:C->List (List C)->Nat->Prop) (_:Tag K):Prop:=zkI P G f args σ K
def Y9 (P:Program) (G:zo) (ops:Array Oper) (a s:Nat) (l:List Oper) (i:Nat) (cs:Option (List C)) (σ:St) (K:St->Prop) (_:Tag ops) (_:Tag l) (_:Tag K):Prop:=jh P G ops a s l i cs σ K
def zkB (cs:Option (List C)) (p:Option Tmp) (σ:St) (K:St->Prop) (_:Tag K):Prop:=zno cs p σ K
def zkG (L:Option Lay) (K:Prop) (_:Tag K):Prop:=ziR L K
def zkE (L:Option Lay) (c:C) (K:C->Prop) (_:Tag K):Prop:=ziJ L c K
def jm (P:Program) (G:zo) (h:Hd) (op:Op) (σ:St) (K:C->St->Prop) (_:Tag h) (_:Tag op) (_:Tag K):Prop:=G7 P G h op σ K
def Qr (P:Program) (G:zo) (f:FuncId) (args fargs:List C) (σ:St) (K:C->St->Prop) (_:Tag K):Prop:=zqq P G f args fargs σ K
def x7 (P:Program) (G:zo) (h:Hd) (c:C) (args:List C) (σ:St) (K:C->St->Prop) (_:Tag h) (_:Tag K):Prop:=N2 P G h c args σ K
def uU (y:Yd) (it:Option (List C)) (args:List C) (σ:St) (K:C->St->Prop) (_:Tag y) (_:Tag K):Prop:=Gp y it args σ K
def zfX (P:Program) (G:zo) (p:Nat) (A B:Nat->(Exit->St->Prop)->St->Prop) (Q:Exit->St->Prop) (ps:List Tmp) (c:C) (σ:St) (_:Tag A) (_:Tag B) (_:Tag Q):Prop:=vO P G p A B Q ps c σ
def jb (P:Program) (G:zo) (bx:List (List C)) (ev:Operand->C) (op:Op) (nx:Nat) (K:C->Nat->Prop) (_:Tag ev) (_:Tag op) (_:Tag K):Prop:=j8 P G bx ev op nx K
def zbV (P:Program) (σ:St) (rs:List ResultVar) (K:C->Prop) (_:Tag K):Prop:=znB P σ rs K
def J4 (P:Program) (σ:St) (rv:ResultVar) (K:C->Prop) (_:Tag K):Prop:=Jt P σ rv K
def vj (P:Program) (t:TypeId) (op:BinOp) (x y:C) (K:C->Prop) (_:Tag K):Prop:=znu P t op x y K
def kA (op:BinOp) (k:IntKind) (a b:Int) (K:C->Prop) (_:Tag K):Prop:=zqx op k a b K
def v7 (l:Option Lay) (op:BinOp) (x:C) (K:C->Prop) (_:Tag K):Prop:=zlj l op x K
def zeX (op:BinOp) (b:Bool) (K:C->Prop) (_:Tag K):Prop:=H1 op b K
def zf6 (op:BinOp) (a b:List UInt8) (K:C->Prop) (_:Tag K):Prop:=zru op a b K
def zpk (op:BinOp) (ks:Option (List LK)) (xs ys:List C) (K:C->Prop) (_:Tag K):Prop:=zrS op ks xs ys K
def zkr (n:Bool) (ks:List LK) (xs ys:List C) (e:Bool) (K:C->Prop) (_:Tag K):Prop:=aEq n ks xs ys e K
def zqS (op:UnOp) (x:C) (K:C->Prop) (_:Tag K):Prop:=aUn op x K
def uf (P:Program) (t:TypeId) (c:C) (bx:List (List C)) (K:C->Prop) (_:Tag K):Prop:=y6 P t c bx K
def vw (L:Option Lay) (c:C) (bx:List (List C)) (K:C->Prop) (_:Tag K):Prop:=zqb L c bx K
def zeZ (cs:Option (List C)) (off:Nat) (L:Lay) (K:C->Prop) (_:Tag K):Prop:=zpJ cs off L K
def Vp (L:Lay) (cs:List C) (K:C->Prop) (_:Tag K):Prop:=JS L cs K
def zlh (x:Option C) (K:C->Prop) (_:Tag K):Prop:=zq0 x K
def Ua (c:C) (i:Nat) (K:C->Prop) (_:Tag K):Prop:=V2 c i K
def zkW (c:C) (K:C->Prop) (_:Tag K):Prop:=zqy c K
def vE (P:Program) (t:TypeId) (c:C) (f:Nat) (K:C->Prop) (_:Tag K):Prop:=vY P t c f K
def vU (L:Option Lay) (c:C) (f:Nat) (K:C->Prop) (_:Tag K):Prop:=yu L c f K
def uI (f:Option (Nat×Nat×Bool)) (cs:List C) (K:C->Prop) (_:Tag K):Prop:=Up f cs K
def QE (P:Program) (t:TypeId) (c:C) (f:Nat) (K:C->Prop) (_:Tag K):Prop:=Qa P t c f K
def zpC (L:Option Lay) (c:C) (f:Nat) (K:C->Prop) (_:Tag K):Prop:=zsY L c f K
def zmt (f:Option (Nat×Nat×Bool)) (c:C) (K:C->Prop) (_:Tag K):Prop:=zp0 f c K
def Qw (P:Program) (t:TypeId) (c:C) (i:C) (K:C->Prop) (_:Tag K):Prop:=XY P t c i K
def znc (P:Program) (L:Option Lay) (c:C) (i:C) (K:C->Prop) (_:Tag K):Prop:=zsS P L c i K
def zjh (L:Option Lay) (c:C) (n:Int) (K:C->Prop) (_:Tag K):Prop:=zsH L c n K
def znq (rows:Option (List (List C))) (n:Int) (K:C->Prop) (_:Tag K):Prop:=zsq rows n K
def zr5 (r:Option (List C)) (n:Int) (K:C->Prop) (_:Tag K):Prop:=aAt r n K
def zpS (L:Option Lay) (c:C) (m:Nat) (n:Int) (K:C->Prop) (_:Tag K):Prop:=zs8 L c m n K
def vG (P:Program) (t:TypeId) (c i:C) (K:C->Prop) (_:Tag K):Prop:=vL P t c i K
def zql (L:Option Lay) (c i:C) (K:C->Prop) (_:Tag K):Prop:=zrg L c i K
def zkd (b:Option UInt8) (n:Int) (K:C->Prop) (_:Tag K):Prop:=zmj b n K
def yi (P:Program) (t:TypeId) (c:C) (lo hi mx:Option C) (K:C->Prop) (_:Tag K):Prop:=vM P t c lo hi mx K
def zoi (P:Program) (t:TypeId) (c:C) (lo hi mx:Option (Option Int)) (K:C->Prop) (_:Tag K):Prop:=zsA P t c lo hi mx K
def zmK (P:Program) (L:Option Lay) (c:C) (lo hi mx:Option Int) (K:C->Prop) (_:Tag K):Prop:=zsf P L c lo hi mx K
def zgz (L:Option Lay) (c:C) (lo hi mx:Option Int) (K:C->Prop) (_:Tag K):Prop:=zsv L c lo hi mx K
def zpl (k:Nat) (lo hi mx:Option Int) (K:C->Prop) (_:Tag K):Prop:=zp2 k lo hi mx K
def zjk (rows:Option (List (List C))) (k:Nat) (lo hi mx:Option Int) (K:C->Prop) (_:Tag K):Prop:=zs0 rows k lo hi mx K
def zlw (rows:Option (List (List C))) (K:C->Prop) (_:Tag K):Prop:=zcE rows K
def zgp (P:Program) (s d:TypeId) (c:C) (K:C->Prop) (_:Tag K):Prop:=zjQ P s d c K
def zg2 (P:Program) (D S:Option Lay) (c:C) (K:C->Prop) (_:Tag K):Prop:=zsp P D S c K
def zoR (L:Option Lay) (c:C) (K:C->Prop) (_:Tag K):Prop:=zsn L c K
def xw (P:Program) (t:TypeId) (c:C) (K:C->Prop) (_:Tag K):Prop:=zpa P t c K
def Nt (L:Option Lay) (n:Int) (K:C->Prop) (_:Tag K):Prop:=zrU L n K
def zkk (L:Option Lay) (n:Int) (K:C->Prop) (_:Tag K):Prop:=zqP L n K
def yp (P:Program) (t:TypeId) (parts:List (Nat×C)) (K:C->Prop) (_:Tag K):Prop:=u9 P t parts K
def zn9 (L:Option Lay) (parts:List (Nat×C)) (K:C->Prop) (_:Tag K):Prop:=zrG L parts K
def zsd (cs:Option (List C)) (K:C->Prop) (_:Tag K):Prop:=aFl cs K
def XF (P:Program) (t:TypeId) (n:Nat) (parts:List (Nat×C)) (nx:Nat) (K:C->Nat->Prop) (_:Tag K):Prop:=JP P t n parts nx K
def vQ (P:Program) (t:TypeId) (n:Nat) (parts:List (Nat×C)) (nx:Nat) (K:C->Nat->Prop) (_:Tag K):Prop:=GK P t n parts nx K
def znX (P:Program) (L:Option Lay) (n:Nat) (parts:List (Nat×C)) (nx:Nat) (K:C->Nat->Prop) (_:Tag K):Prop:=zsu P L n parts nx K
def zo0 (L:Option Lay) (e:TypeId) (n:Nat) (parts:List (Nat×C)) (nx:Nat) (K:C->Nat->Prop) (_:Tag K):Prop:=zs6 L e n parts nx K
def zpM (cs:Option (List C)) (e k n nx:Nat) (K:C->Nat->Prop) (_:Tag K):Prop:=zsU cs e k n nx K
def zkl (P:Program) (t:TypeId) (l c:C) (nx:Nat) (K:C->Nat->Prop) (_:Tag K):Prop:=zeb P t l c nx K
def Mw (P:Program) (t:TypeId) (l c:C) (σ:St) (K:C->St->Prop) (_:Tag K):Prop:=VL P t l c σ K
def zkh (P:Program) (L:Option Lay) (l c:C) (σ:St) (K:C->St->Prop) (_:Tag K):Prop:=zqK P L l c σ K
def zks (L:Option Lay) (l c:Int) (σ:St) (K:C->St->Prop) (_:Tag K):Prop:=zrO L l c σ K
def zqt (P:Program) (L:Option Lay) (l c:C) (nx:Nat) (K:C->Nat->Prop) (_:Tag K):Prop:=zsN P L l c nx K
def zph (L:Option Lay) (e:TypeId) (l c:Int) (nx:Nat) (K:C->Nat->Prop) (_:Tag K):Prop:=zsB L e l c nx K
def GV (P:Program) (t:TypeId) (s x:C) (σ:St) (K:C->St->Prop) (_:Tag K):Prop:=GH P t s x σ K
def GU (P:Program) (t:TypeId) (s x:C) (nx:Nat) (K:C->Nat->Prop) (_:Tag K):Prop:=ZM P t s x nx K
def zpG (P:Program) (L:Option Lay) (s x:C) (nx:Nat) (K:C->Nat->Prop) (_:Tag K):Prop:=zsC P L s x nx K
def znO (L:Option Lay) (e:TypeId) (s x:C) (nx:Nat) (K:C->Nat->Prop) (_:Tag K):Prop:=zsL L e s x nx K
def zlM (xs:Option (List (List C))) (s:C) (e k by':Nat) (z:List Value) (nx:Nat) (K:C->Nat->Prop) (_:Tag K):Prop:=zs7 xs s e k by' z nx K
def zn7 (P:Program) (L:Option Lay) (id e k:Nat) (rows:List (List C)) (x:C) (σ:St) (K:C->St->Prop) (_:Tag K):Prop:=zso P L id e k rows x σ K
def zqf (L:Option Lay) (e' id e k:Nat) (rows:List (List C)) (x:C) (σ:St) (K:C->St->Prop) (_:Tag K):Prop:=zrc L e' id e k rows x σ K
def zpj (xs:Option (List (List C))) (by' id e k:Nat) (rows:List (List C)) (σ:St) (K:C->St->Prop) (_:Tag K):Prop:=zqQ xs by' id e k rows σ K
def zdP (P:Program) (G:zo) (callee:C) (args:List C) (nx:Nat) (K:C->Nat->Prop) (_:Tag K):Prop:=NE P G callee args nx K
def x6 (P:Program) (G:zo) (f:FuncId) (args:List C) (nx:Nat) (K:C->Nat->Prop) (_:Tag K):Prop:=zah P G f args nx K
def zpe (c:C) (σ:St) (K:C->St->Prop) (_:Tag K):Prop:=zrW c σ K
def zok (L:Option Lay) (σ:St) (K:C->St->Prop) (_:Tag K):Prop:=zsk L σ K
def znQ (L:Option Lay) (p c:C) (σ:St) (K:C->St->Prop) (_:Tag K):Prop:=zst L p c σ K
def zo1 (L:Option Lay) (p c:C) (bx:List (List C)) (K:C->Prop) (_:Tag K):Prop:=zsm L p c bx K
def zpw (cs:Option (List C)) (off size:Nat) (c:C) (K:C->Prop) (_:Tag K):Prop:=zsj cs off size c K
def zor (cs:Option (List C)) (i off size:Nat) (c:C) (σ:St) (K:C->St->Prop) (_:Tag K):Prop:=zsR cs i off size c σ K
def zkH (p:Nat) (B:(Exit->St->Prop)->St->Prop) (Q:Exit->St->Prop) (σ:St) (_:Tag B) (_:Tag Q):Prop:=zhI p B Q σ
def uO (next:St->Prop) (Q:Exit->St->Prop) (_:Tag next) (_:Tag Q):Exit->St->Prop:=zn3 next Q
def UB (id:Nat) (Q:Exit->St->Prop) (_:Tag Q):Exit->St->Prop:=NI id Q
def GN (Q:Exit->St->Prop) (_:Tag Q):Exit->St->Prop:=zdb Q
def uF (next:St->Prop) (Q:Exit->St->Prop) (_:Tag next) (_:Tag Q):Exit->St->Prop:=zlS next Q
def zkq (K:St->Prop) (_:Tag K):Exit->St->Prop:=zlN K
def xy (m:Nat) (tm:List (Nat×C)) (st:Bool) (next:St) (Q:Exit->St->Prop) (_:Tag next) (_:Tag Q):Exit->St->Prop:=zfP m tm st next Q
def MQ (P:Program) (rs:List ResultVar) (K:C->St->Prop) (_:Tag K):Exit->St->Prop:=zkx P rs K
theorem zoL:Z0 P G h .skip Q σ ⟨⟩ ⟨⟩=Q .normal σ:=(rfl)
theorem zmd {l:Nat}:Z0 P G h (.label l) Q σ ⟨⟩ ⟨⟩=Q .normal σ:=(rfl)
theorem zoU {id:Nat}:Z0 P G h (.exit id) Q σ ⟨⟩ ⟨⟩=Q (.exit id) σ:=(rfl)
theorem zrY:Z0 P G h .ret Q σ ⟨⟩ ⟨⟩=Q .ret σ:=(rfl)
theorem zqN {a b:Code}:Z0 P G h (.seq a b) Q σ ⟨⟩ ⟨⟩=Z0 P G h a (uO (fun σ=>Z0 P G h b Q σ ⟨⟩ ⟨⟩) Q ⟨⟩ ⟨⟩) σ ⟨⟩ ⟨⟩:=(rfl)
theorem zoX {cc:Operand} {a b:Code}:Z0 P G h (.cond cc a b) Q ⟨tm,bx,nx,lg⟩ ⟨⟩ ⟨⟩=zmA (zx G tm cc) (Z0 P G h a Q ⟨tm,bx,nx,lg⟩ ⟨⟩ ⟨⟩) (Z0 P G h b Q ⟨tm,bx,nx,lg⟩ ⟨⟩ ⟨⟩) ⟨⟩ ⟨⟩:=(rfl)
theorem zly {id:Nat} {a:Code}:Z0 P G h (.block id a) Q σ ⟨⟩ ⟨⟩=Z0 P G h a (UB id Q ⟨⟩) σ ⟨⟩ ⟨⟩:=(rfl)
theorem zps {a:Code}:Z0 P G ⟨p,yd,bf⟩ (.loop a) Q σ ⟨⟩ ⟨⟩=zkH p (fun Q σ=>Z0 P G ⟨p,yd,bf⟩ a Q σ ⟨⟩ ⟨⟩) Q σ ⟨⟩ ⟨⟩:=(rfl)
theorem zhy {a b:Code} {x:Operand} {ps:List Tmp}:Z0 P G ⟨p,yd,bf⟩ (.rangeFunc x ps.toArray a b) Q ⟨tm,bx,nx,lg⟩ ⟨⟩ ⟨⟩=zfX P G p (fun m=>fun Q σ=>Z0 P G ⟨m,yd,bf⟩ a Q σ ⟨⟩ ⟨⟩) (fun m=>fun Q σ=>Z0 P G ⟨m,yd,bf⟩ b Q σ ⟨⟩ ⟨⟩) Q ps (zx G tm x) ⟨tm,bx,nx,lg⟩ ⟨⟩ ⟨⟩ ⟨⟩:=(rfl)
theorem zmJ {a:Code}:Z0 P G h (.scope a) Q σ ⟨⟩ ⟨⟩=Z0 P G h a (GN Q ⟨⟩) σ ⟨⟩ ⟨⟩:=(rfl)
theorem ziT {id:Nat} {l:List Oper}:Z0 P G ⟨p,yd,bf⟩ (.region id l.toArray false) Q σ ⟨⟩ ⟨⟩=zf1 P G ⟨p,yd,bf⟩ l.toArray l σ (Q .normal) ⟨⟩ ⟨⟩ ⟨⟩ ⟨⟩:=(rfl)
theorem zcA {id:Nat} {l:List Oper}:Z0 P G ⟨p,yd,bf⟩ (.region id l.toArray true) Q σ ⟨⟩ ⟨⟩=Nc P G ⟨p,yd,bf⟩ l.toArray (bf id) σ (Q .normal) ⟨⟩ ⟨⟩ ⟨⟩:=(rfl)
theorem zhB {KS:St->Prop} {l:List Oper}:Nc P G h l.toArray [] σ KS ⟨⟩ ⟨⟩ ⟨⟩=Xj P G h l.toArray l [] σ KS ⟨⟩ ⟨⟩ ⟨⟩ ⟨⟩:=(rfl)
theorem zhF {KS:St->Prop} {l:List Oper} {r:List Bool}:Nc P G h l.toArray (false :: r) σ KS ⟨⟩ ⟨⟩ ⟨⟩=Xj P G h l.toArray l (false :: r) σ KS ⟨⟩ ⟨⟩ ⟨⟩ ⟨⟩:=(rfl)
theorem zjo {KS:St->Prop} {l:List Oper} {L:List (Nat×MFl)}:Nc P G h l.toArray (V1 L) σ KS ⟨⟩ ⟨⟩ ⟨⟩=kH P G h l.toArray l L 0 [] σ KS ⟨⟩ ⟨⟩ ⟨⟩ ⟨⟩ ⟨⟩:=(show xd P G h l.toArray (V1 L) σ KS=mix P G h l.toArray L 0 [] σ KS from by
 unfold xd V1
 rw[show HB (zfS 199 (unR (zcu L)))=none from rfl,kK]
 simp only[zaE])
theorem zpb {KS:St->Prop} {all:List Oper} {q:Nat} {H:List ku}:kH P G h ops all [] q H σ KS ⟨⟩ ⟨⟩ ⟨⟩ ⟨⟩ ⟨⟩=KS σ:=(rfl)
theorem zpq {KS:St->Prop} {all:List Oper} {i q:Nat} {fl:MFl} {L:List (Nat×MFl)} {H:List ku}:kH P G h all.toArray all ((i,fl) :: L) q H σ KS ⟨⟩ ⟨⟩ ⟨⟩ ⟨⟩ ⟨⟩=MI P G h all.toArray all L q H fl i all σ KS ⟨⟩ ⟨⟩ ⟨⟩ ⟨⟩ ⟨⟩ ⟨⟩:=(show mix P G h all.toArray ((i,fl) :: L) q H σ KS=znG P G h all.toArray L q H fl (all[i]?) σ KS from rfl)
theorem zp1 {KS:St->Prop} {o:Oper} {all l:List Oper} {i q:Nat} {fl:MFl} {L:List (Nat×MFl)} {H:List ku}:MI P G h ops all L q H fl (i+1) (o :: l) σ KS ⟨⟩ ⟨⟩ ⟨⟩ ⟨⟩ ⟨⟩ ⟨⟩=MI P G h ops all L q H fl i l σ KS ⟨⟩ ⟨⟩ ⟨⟩ ⟨⟩ ⟨⟩ ⟨⟩:=(show znG P G h ops L q H fl ((o :: l)[i+1]?) σ KS=znG P G h ops L q H fl (l[i]?) σ KS from rfl)
theorem znU {KS:St->Prop} {all rest:List Oper} {q:Nat} {L:List (Nat×MFl)} {H:List ku} {dst:Option Tmp} {op:Op} {ty:TypeId} {pos:String} {af:Array Edge} {g:Option (Nat×Bool)}:MI P G h ops all L q H .pure 0 (⟨dst,op,ty,pos,af,g⟩ :: rest) ⟨tm,bx,nx,lg⟩ KS ⟨⟩ ⟨⟩ ⟨⟩ ⟨⟩ ⟨⟩ ⟨⟩ =
  Y7 ops tm g (jb P G bx (zx G tm) op nx (fun c nx'=>kH P G h ops all L (q+1) ((q,fun b=>jb P G b (zx G tm) op nx (fun c' n'=>c'=c/\n'=nx') ⟨⟩ ⟨⟩ ⟨⟩) :: H) ⟨Ja tm dst c,bx,nx',lg⟩ KS ⟨⟩ ⟨⟩ ⟨⟩ ⟨⟩ ⟨⟩) ⟨⟩ ⟨⟩ ⟨⟩) (kH P G h ops all L (q+1) H ⟨Ja tm dst (.sc undef),bx,nx,lg⟩ KS ⟨⟩ ⟨⟩ ⟨⟩ ⟨⟩ ⟨⟩) ⟨⟩ ⟨⟩ ⟨⟩:=
 (show znG P G h ops L q H .pure (some ⟨dst,op,ty,pos,af,g⟩) ⟨tm,bx,nx,lg⟩ KS=_ from rfl)
theorem zoy {KS:St->Prop} {all rest:List Oper} {q:Nat} {L:List (Nat×MFl)} {H:List ku} {dst:Option Tmp} {op:Op} {ty:TypeId} {pos:String} {af:Array Edge} {g:Option (Nat×Bool)}:MI P G h ops all L q H .bar 0 (⟨dst,op,ty,pos,af,g⟩ :: rest) ⟨tm,bx,nx,lg⟩ KS ⟨⟩ ⟨⟩ ⟨⟩ ⟨⟩ ⟨⟩ ⟨⟩ =
  Y7 ops tm g (jm P G h op ⟨tm,bx,nx,lg⟩ (fun c σ'=>kH P G h ops all L (q+1) [] (σ'.put dst c) KS ⟨⟩ ⟨⟩ ⟨⟩ ⟨⟩ ⟨⟩) ⟨⟩ ⟨⟩ ⟨⟩) (kH P G h ops all L (q+1) [] ((St.mk tm bx nx lg).put dst (.sc undef)) KS ⟨⟩ ⟨⟩ ⟨⟩ ⟨⟩ ⟨⟩) ⟨⟩ ⟨⟩ ⟨⟩:=
 (show znG P G h ops L q H .bar (some ⟨dst,op,ty,pos,af,g⟩) ⟨tm,bx,nx,lg⟩ KS=_ from rfl)
theorem zmr {KS:St->Prop} {all rest:List Oper} {q:Nat} {L:List (Nat×MFl)} {H:List ku} {fr:List Nat} {dst:Option Tmp} {ty:TypeId} {pos:String} {af:Array Edge}:MI P G h ops all L q H (.flt fr) 0 (⟨dst,.store t x y,ty,pos,af,none⟩ :: rest) ⟨tm,bx,nx,lg⟩ KS ⟨⟩ ⟨⟩ ⟨⟩ ⟨⟩ ⟨⟩ ⟨⟩ =
  jm P G h (.store t x y) ⟨tm,bx,nx,lg⟩ (fun c σ'=>znv fr σ'.bx H ⟨⟩/\kH P G h ops all L (q+1) H ⟨Ja tm dst c,σ'.bx,σ'.nx,lg⟩ KS ⟨⟩ ⟨⟩ ⟨⟩ ⟨⟩ ⟨⟩) ⟨⟩ ⟨⟩ ⟨⟩:=
 (show ((none:Option (Nat×Bool))=none/\QY P t (zx G tm x) (zx G tm y) ⟨tm,bx,nx,lg⟩ fun c σ'=>Ys fr σ'.bx H/\mix P G h ops L (q+1) H ⟨Ja tm dst c,σ'.bx,σ'.nx,lg⟩ KS)=_ from propext ⟨fun h=>h.2,fun h=>⟨rfl,h⟩⟩)
theorem zmY {KS:St->Prop} {all rest:List Oper} {q:Nat} {L:List (Nat×MFl)} {H:List ku} {fr:List Nat} {dst:Option Tmp} {ty:TypeId} {pos:String} {af:Array Edge}:MI P G h ops all L q H (.flt fr) 0 (⟨dst,.call ⟨.builtin .copy,#[x,y],#[t,t']⟩,ty,pos,af,none⟩ :: rest) ⟨tm,bx,nx,lg⟩ KS ⟨⟩ ⟨⟩ ⟨⟩ ⟨⟩ ⟨⟩ ⟨⟩ =
  Nx P t (zx G tm x) (zx G tm y) ⟨tm,bx,nx,lg⟩ (fun c σ'=>znv fr σ'.bx H ⟨⟩/\kH P G h ops all L (q+1) H ⟨Ja tm dst c,σ'.bx,σ'.nx,lg⟩ KS ⟨⟩ ⟨⟩ ⟨⟩ ⟨⟩ ⟨⟩) ⟨⟩:=
 (show ((none:Option (Nat×Bool))=none/\QC P t (zx G tm x) (zx G tm y) ⟨tm,bx,nx,lg⟩ fun c σ'=>Ys fr σ'.bx H/\mix P G h ops L (q+1) H ⟨Ja tm dst c,σ'.bx,σ'.nx,lg⟩ KS)=_ from propext ⟨fun h=>h.2,fun h=>⟨rfl,h⟩⟩)
theorem zoc {KS:St->Prop} {all rest:List Oper} {q:Nat} {L:List (Nat×MFl)} {H:List ku} {fr:List Nat} {dst:Option Tmp} {ty:TypeId} {pos:String} {af:Array Edge} {us:List Operand} {tys:Array TypeId}:MI P G h ops all L q H (.flt fr) 0 (⟨dst,.call ⟨.value x,us.toArray,tys⟩,ty,pos,af,none⟩ :: rest) ⟨tm,bx,nx,lg⟩ KS ⟨⟩ ⟨⟩ ⟨⟩ ⟨⟩ ⟨⟩ ⟨⟩ =
  zcY P G (zx G tm x) (us.map (zx G tm)) ⟨tm,bx,nx,lg⟩ (fun c b' n'=>znv fr b' H ⟨⟩/\kH P G h ops all L (q+1) H ⟨Ja tm dst c,b',n',lg⟩ KS ⟨⟩ ⟨⟩ ⟨⟩ ⟨⟩ ⟨⟩) ⟨⟩:=
 (show ((none:Option (Nat×Bool))=none/\ud P G (zx G tm x) (us.map (zx G tm)) ⟨tm,bx,nx,lg⟩ fun c b' n'=>Ys fr b' H/\mix P G h ops L (q+1) H ⟨Ja tm dst c,b',n',lg⟩ KS)=_ from propext ⟨fun h=>h.2,fun h=>⟨rfl,h⟩⟩)
theorem zmT {K4:C->List (List C)->Nat->Prop} {f:FuncId} {fs cs args:List C}:zcY P G (.clo (.func f) fs cs) args ⟨tm,bx,nx,lg⟩ K4 ⟨⟩=zsb P G f (fs++args++cs) ⟨tm,bx,nx,lg⟩ K4 ⟨⟩:=(rfl)
theorem znf {p:Prop} [Decidable p]:(if p then True else True)=True:=ite_self _
theorem zoC {fr:List Nat} {b:List (List C)}:znv fr b [] ⟨⟩=True:=(rfl)
theorem zoS {fr:List Nat} {b:List (List C)} {k:Nat} {f:List (List C)->Prop} {r:List ku}:znv fr b ((k,f) :: r) ⟨⟩=((if k∈fr then f b else True)/\znv fr b r ⟨⟩):=(show ((match fr.contains k with | true=>f b | false=>True)/\Ys fr b r)=((if k∈fr then f b else True)/\Ys fr b r) from by
 cases hq:fr.contains k with
 | true=>rw[if_pos (by simpa using hq)]
 | false=>rw[if_neg fun h=>by simp[h]at hq])
theorem zjd {KS:St->Prop} {l:List Oper} {a s:Nat}:Nc P G h l.toArray (jB a s) σ KS ⟨⟩ ⟨⟩ ⟨⟩=Y9 P G l.toArray a s l 0 none σ KS ⟨⟩ ⟨⟩ ⟨⟩:=(show xd P G h l.toArray (jB a s) σ KS=jh P G l.toArray a s l 0 none σ KS from by unfold xd;rw[NC])
theorem zf3 {KS:St->Prop} {a s i:Nat} {cs:Option (List C)} {l:List Oper}:Y9 P G l.toArray a s [] i cs σ KS ⟨⟩ ⟨⟩ ⟨⟩=zkB cs ((l[a]?).bind (·.dst)) σ KS ⟨⟩:=(show jh P G l.toArray a s [] i cs σ KS=zno cs ((l[a]?).bind (·.dst)) σ KS from by simp only[jh,zno,List.getElem?_toArray];rfl)
theorem zgH {KS:St->Prop} {a s:Nat} {cs:Option (List C)} {dst:Option Tmp} {ty:TypeId} {pos:String} {af:Array Edge} {g:Option (Nat×Bool)} {rest:List Oper}:Y9 P G ops a s (⟨dst,.alloc t,ty,pos,af,g⟩ :: rest) a cs ⟨tm,bx,nx,lg⟩ KS ⟨⟩ ⟨⟩ ⟨⟩=zkG (lay P t) (Y9 P G ops a s rest (a+1) cs ⟨Ja tm dst .any,bx,nx,lg⟩ KS ⟨⟩ ⟨⟩ ⟨⟩) ⟨⟩:=(show jh P G ops a s (⟨dst,.alloc t,ty,pos,af,g⟩ :: rest) a cs ⟨tm,bx,nx,lg⟩ KS=ziR (lay P t) (jh P G ops a s rest (a+1) cs ⟨Ja tm dst .any,bx,nx,lg⟩ KS) from by simp only[jh,if_true])
theorem zfQ {KS:St->Prop} {a s:Nat} {cs:Option (List C)} {dst:Option Tmp} {ty:TypeId} {pos:String} {af:Array Edge} {g:Option (Nat×Bool)} {rest:List Oper} (hsa:(s==a)=false):Y9 P G ops a s (⟨dst,.store t y x,ty,pos,af,g⟩ :: rest) s cs ⟨tm,bx,nx,lg⟩ KS ⟨⟩ ⟨⟩ ⟨⟩=zkE (lay P t) (zx G tm x) (fun c=>Y9 P G ops a s rest (s+1) (some c.cells) ⟨Ja tm dst .any,bx,nx,lg⟩ KS ⟨⟩ ⟨⟩ ⟨⟩) ⟨⟩:=(show jh P G ops a s (⟨dst,.store t y x,ty,pos,af,g⟩ :: rest) s cs ⟨tm,bx,nx,lg⟩ KS=ziJ (lay P t) (zx G tm x) fun c=>jh P G ops a s rest (s+1) (some c.cells) ⟨Ja tm dst .any,bx,nx,lg⟩ KS from by simp only[beq_eq_false_iff_ne]at hsa;simp only[jh,if_neg hsa,if_true])
theorem ziK {KS:St->Prop} {a s i:Nat} {cs:Option (List C)} {dst:Option Tmp} {ty:TypeId} {pos:String} {af:Array Edge} {g:Option (Nat×Bool)} {rest:List Oper} {op:Op} (hia:(i==a)=false) (his:(i==s)=false):Y9 P G ops a s (⟨dst,op,ty,pos,af,g⟩ :: rest) i cs ⟨tm,bx,nx,lg⟩ KS ⟨⟩ ⟨⟩ ⟨⟩=Y7 ops tm g (jb P G bx (zx G tm) op nx (fun c nx'=>Y9 P G ops a s rest (i+1) cs ⟨Ja tm dst c,bx,nx',lg⟩ KS ⟨⟩ ⟨⟩ ⟨⟩) ⟨⟩ ⟨⟩ ⟨⟩) (Y9 P G ops a s rest (i+1) cs ⟨Ja tm dst (.sc undef),bx,nx,lg⟩ KS ⟨⟩ ⟨⟩ ⟨⟩) ⟨⟩ ⟨⟩ ⟨⟩:=(show jh P G ops a s (⟨dst,op,ty,pos,af,g⟩ :: rest) i cs ⟨tm,bx,nx,lg⟩ KS=jd ops tm g (j8 P G bx (zx G tm) op nx fun c nx'=>jh P G ops a s rest (i+1) cs ⟨Ja tm dst c,bx,nx',lg⟩ KS) (jh P G ops a s rest (i+1) cs ⟨Ja tm dst (.sc undef),bx,nx,lg⟩ KS) from by simp only[beq_eq_false_iff_ne]at hia his;simp only[jh,if_neg hia,if_neg his])
theorem zpc {KS:St->Prop} {cs:List C} {u:Tmp}:zkB (some cs) (some u) ⟨tm,bx,nx,lg⟩ KS ⟨⟩=KS ⟨(u,.ptr bx.length 0) :: tm,bx++[cs],nx,lg⟩:=(rfl)
theorem znI {kd:LK} {k b1:Nat} {z1:List Value}:zkG (some ⟨kd,k,b1,some z1⟩) X ⟨⟩=(z1.length=k/\(z1.all Value.oneCell')=true/\X):=(rfl)
theorem znN {L:Lay}:zkE (some L) c K ⟨⟩=(c.partB=true/\(c.cells.all C.cellB)=true/\c.cells.length=L.size/\K c):=(rfl)
theorem zpU {KS:St->Prop}:zkq KS ⟨⟩ .normal σ=KS σ:=(rfl)
theorem zdA {next:St} {b:Bool}:xy m tm b next Q ⟨⟩ ⟨⟩ .normal σ=(b=false/\Ji m ⟨[],σ.bx,σ.nx,σ.lg⟩ (next.wt [])):=(rfl)
theorem ya {next:St} {b:Bool}:xy m tm b next Q ⟨⟩ ⟨⟩ .ret σ=(b=true/\∃ σ':St,σ'.bx.length=m/\Ji m ⟨[],σ.bx,σ.nx,σ.lg⟩ (σ'.wt [])/\Q .ret (σ'.wt tm)):=(rfl)
theorem zs3 {tm2:List (Nat×C)}:St.wt ⟨tm,bx,nx,lg⟩ tm2=⟨tm2,bx,nx,lg⟩:=(rfl)
theorem zia {cs:List C}:Z6 [] cs tm=tm:=(rfl)
theorem zlE {u:Nat} {ps:List Tmp} {cs:List C}:Z6 (u :: ps) (c :: cs) tm=Z6 ps cs ((u,c) :: tm):=(rfl)
theorem zmP:ko m [] = []:=(rfl)
theorem zou {u:Nat} {r:List (Nat×C)}:ko m ((u,c) :: r)=(u,c.sel (Hi m)) :: ko m r:=(rfl)
theorem zpA {next:St->Prop}:uO next Q ⟨⟩ ⟨⟩ .normal σ=next σ:=(rfl)
theorem yx {next:St->Prop} {id:Nat}:uO next Q ⟨⟩ ⟨⟩ (.exit id) σ=Q (.exit id) σ:=(rfl)
theorem zaF {next:St->Prop}:uO next Q ⟨⟩ ⟨⟩ .ret σ=Q .ret σ:=(rfl)
theorem zeR {id:Nat}:UB id Q ⟨⟩ .normal σ=Q .normal σ:=(rfl)
theorem Nn {id:Nat}:UB id Q ⟨⟩ (.exit id) σ=Q .normal σ:=(show NI id Q (.exit id) σ=Q .normal σ from if_pos rfl)
theorem N5 {id id2:Nat} (h:(id2==id)=false):UB id Q ⟨⟩ (.exit id2) σ=Q (.exit id2) σ:=(show NI id Q (.exit id2) σ=Q (.exit id2) σ from if_neg (by simpa using h))
theorem vd {id:Nat}:UB id Q ⟨⟩ .ret σ=Q .ret σ:=(rfl)
theorem zar:GN Q ⟨⟩ .normal σ=Q .normal σ:=(rfl)
theorem Mb:GN Q ⟨⟩ .ret σ=Q .ret σ:=(rfl)
theorem zg4 {next:St->Prop}:uF next Q ⟨⟩ ⟨⟩ .normal σ=next σ:=(rfl)
theorem xL {next:St->Prop} {id:Nat}:uF next Q ⟨⟩ ⟨⟩ (.exit id) σ=Q (.exit id) σ:=(rfl)
theorem zaK {next:St->Prop}:uF next Q ⟨⟩ ⟨⟩ .ret σ=Q .ret σ:=(rfl)
theorem zlk {rs:List ResultVar}:MQ P rs K3 ⟨⟩ .normal σ=zbV P σ rs (fun c=>K3 c σ) ⟨⟩:=(rfl)
theorem zkR {rs:List ResultVar}:MQ P rs K3 ⟨⟩ .ret σ=zbV P σ rs (fun c=>K3 c σ) ⟨⟩:=(rfl)
theorem zp4:zbV P σ [] K ⟨⟩=K (.tup []):=(rfl)
theorem zov {a:ResultVar}:zbV P σ [a] K ⟨⟩=J4 P σ a K ⟨⟩:=(rfl)
theorem zn1 {a b:ResultVar}:zbV P σ [a,b] K ⟨⟩=J4 P σ a (fun c=>J4 P σ b (fun d=>K (.tup [c,d])) ⟨⟩) ⟨⟩:=(rfl)
theorem zpN {a b c1:ResultVar}:zbV P σ [a,b,c1] K ⟨⟩=J4 P σ a (fun c=>J4 P σ b (fun d=>J4 P σ c1 (fun e=>K (.tup [c,d,e])) ⟨⟩) ⟨⟩) ⟨⟩:=(rfl)
theorem zo5 {u:Nat}:J4 P ⟨tm,bx,nx,lg⟩ (.tmp u) K ⟨⟩=K (jz tm u):=(rfl)
theorem zo4 {u:Nat}:J4 P ⟨tm,bx,nx,lg⟩ (.cell u t) K ⟨⟩=uf P t (jz tm u) bx K ⟨⟩:=(rfl)
theorem zmX {KS:St->Prop}:zf1 P G h ops [] σ KS ⟨⟩ ⟨⟩ ⟨⟩ ⟨⟩=KS σ:=(rfl)
theorem zpp {KS:St->Prop} {dst:Option Tmp} {op:Op} {ty:TypeId} {pos:String} {af:Array Edge} {g:Option (Nat×Bool)} {rest:List Oper}:zf1 P G h ops (⟨dst,op,ty,pos,af,g⟩ :: rest) ⟨tm,bx,nx,lg⟩ KS ⟨⟩ ⟨⟩ ⟨⟩ ⟨⟩=Y7 ops tm g (jm P G h op ⟨tm,bx,nx,lg⟩ (fun c σ'=>zf1 P G h ops rest (σ'.put dst c) KS ⟨⟩ ⟨⟩ ⟨⟩ ⟨⟩) ⟨⟩ ⟨⟩ ⟨⟩) (zf1 P G h ops rest (St.put ⟨tm,bx,nx,lg⟩ dst (.sc undef)) KS ⟨⟩ ⟨⟩ ⟨⟩ ⟨⟩) ⟨⟩ ⟨⟩ ⟨⟩:=(rfl)
theorem ziX {KS:St->Prop}:Xj P G h ops [] brs σ KS ⟨⟩ ⟨⟩ ⟨⟩ ⟨⟩=KS σ:=(rfl)
theorem zje {KS:St->Prop} {dst:Option Tmp} {op:Op} {ty:TypeId} {pos:String} {af:Array Edge} {g:Option (Nat×Bool)} {rest:List Oper}:Xj P G h ops (⟨dst,op,ty,pos,af,g⟩ :: rest) [] ⟨tm,bx,nx,lg⟩ KS ⟨⟩ ⟨⟩ ⟨⟩ ⟨⟩=Y7 ops tm g (jb P G bx (zx G tm) op nx (fun c nx'=>Xj P G h ops rest [] ⟨Ja tm dst c,bx,nx',lg⟩ KS ⟨⟩ ⟨⟩ ⟨⟩ ⟨⟩) ⟨⟩ ⟨⟩ ⟨⟩) (Xj P G h ops rest [] ⟨Ja tm dst (.sc undef),bx,nx,lg⟩ KS ⟨⟩ ⟨⟩ ⟨⟩ ⟨⟩) ⟨⟩ ⟨⟩ ⟨⟩:=(rfl)
theorem zjg {KS:St->Prop} {dst:Option Tmp} {op:Op} {ty:TypeId} {pos:String} {af:Array Edge} {g:Option (Nat×Bool)} {rest:List Oper}:Xj P G h ops (⟨dst,op,ty,pos,af,g⟩ :: rest) (false :: brs) ⟨tm,bx,nx,lg⟩ KS ⟨⟩ ⟨⟩ ⟨⟩ ⟨⟩=Y7 ops tm g (jb P G bx (zx G tm) op nx (fun c nx'=>Xj P G h ops rest brs ⟨Ja tm dst c,bx,nx',lg⟩ KS ⟨⟩ ⟨⟩ ⟨⟩ ⟨⟩) ⟨⟩ ⟨⟩ ⟨⟩) (Xj P G h ops rest brs ⟨Ja tm dst (.sc undef),bx,nx,lg⟩ KS ⟨⟩ ⟨⟩ ⟨⟩ ⟨⟩) ⟨⟩ ⟨⟩ ⟨⟩:=(rfl)
theorem ziB {KS:St->Prop} {dst:Option Tmp} {op:Op} {ty:TypeId} {pos:String} {af:Array Edge} {g:Option (Nat×Bool)} {rest:List Oper}:Xj P G h ops (⟨dst,op,ty,pos,af,g⟩ :: rest) (true :: brs) ⟨tm,bx,nx,lg⟩ KS ⟨⟩ ⟨⟩ ⟨⟩ ⟨⟩=Y7 ops tm g (jm P G h op ⟨tm,bx,nx,lg⟩ (fun c σ'=>Xj P G h ops rest brs (σ'.put dst c) KS ⟨⟩ ⟨⟩ ⟨⟩ ⟨⟩) ⟨⟩ ⟨⟩ ⟨⟩) (Xj P G h ops rest brs ⟨Ja tm dst (.sc undef),bx,nx,lg⟩ KS ⟨⟩ ⟨⟩ ⟨⟩ ⟨⟩) ⟨⟩ ⟨⟩ ⟨⟩:=(rfl)
theorem zhg:Y7 ops tm none X Y ⟨⟩ ⟨⟩ ⟨⟩=X:=(rfl)
theorem zkK {l:List Oper} {j:Nat} {want:Bool}:Y7 l.toArray tm (some (j,want)) X Y ⟨⟩ ⟨⟩ ⟨⟩=zrB ((l[j]?).bind (·.dst)) tm want X Y ⟨⟩ ⟨⟩:=(show jd l.toArray tm (some (j,want)) X Y=aGd ((l[j]?).bind (·.dst)) tm want X Y from by simp only[jd,List.getElem?_toArray];rfl)
theorem zpO {u:Tmp}:zrB (some u) tm true X Y ⟨⟩ ⟨⟩=zhP (jz tm u) Y X Y ⟨⟩ ⟨⟩ ⟨⟩:=(rfl)
theorem zo3 {u:Tmp}:zrB (some u) tm false X Y ⟨⟩ ⟨⟩=zhP (jz tm u) Y Y X ⟨⟩ ⟨⟩ ⟨⟩:=(rfl)
theorem zm2 {U:Prop} {b:Bool}:zhP (.sc (.bool b)) U X Y ⟨⟩ ⟨⟩ ⟨⟩=zmA (.sc (.bool b)) X Y ⟨⟩ ⟨⟩:=(rfl)
theorem zk0 {U:Prop}:zhP (.sc undef) U X Y ⟨⟩ ⟨⟩ ⟨⟩=U:=(rfl)
theorem zb1 {u:Tmp}:St.put ⟨tm,bx,nx,lg⟩ (some u) c=⟨(u,c) :: tm,bx,nx,lg⟩:=(rfl)
theorem zaD:St.put ⟨tm,bx,nx,lg⟩ none c=⟨tm,bx,nx,lg⟩:=(rfl)
theorem xI {u:Tmp}:Ja tm (some u) c=(u,c) :: tm:=(rfl)
theorem yo:Ja tm none c=tm:=(rfl)
theorem kL {n:Nat} {ps:List (Nat×Operand)}:jm P G h (.buildSlice t n ps.toArray) ⟨tm,bx,nx,lg⟩ K3 ⟨⟩ ⟨⟩ ⟨⟩=if h.bx t then k8 P t n (ps.map fun p=>(p.1,zx G tm p.2)) ⟨tm,bx,nx,lg⟩ K3 ⟨⟩ else XF P t n (ps.map fun p=>(p.1,zx G tm p.2)) nx (fun c nx'=>K3 c ⟨tm,bx,nx',lg⟩) ⟨⟩:=(rfl)
theorem kG {n:Nat} {ps:List (Nat×Operand)} {ev:Operand->C}:jb P G bx ev (.buildSlice t n ps.toArray) nx K2 ⟨⟩ ⟨⟩ ⟨⟩=vQ P t n (ps.map fun p=>(p.1,ev p.2)) nx K2 ⟨⟩:=(rfl)
theorem zqH {n:Nat} {ps:List (Nat×C)}:vQ P t (n+1) ps nx K2 ⟨⟩=XF P t (n+1) ps nx K2 ⟨⟩:=(rfl)
theorem HX:jm P G h (.makeSlice t x y) ⟨tm,bx,nx,lg⟩ K3 ⟨⟩ ⟨⟩ ⟨⟩=if h.bx t then Mw P t (zx G tm x) (zx G tm y) ⟨tm,bx,nx,lg⟩ K3 ⟨⟩ else zkl P t (zx G tm x) (zx G tm y) nx (fun c nx'=>K3 c ⟨tm,bx,nx',lg⟩) ⟨⟩:=(rfl)
theorem zoh:Hd.bx ⟨p,yd,bf⟩ t=(bf (1000000+t)).headD false:=(rfl)
theorem zk9:Hd.bx2 ⟨p,yd,bf⟩ t=((bf (1000000+t)).drop 1).headD false:=(rfl)
theorem ziw:jm P G h (.move x) ⟨tm,bx,nx,lg⟩ K3 ⟨⟩ ⟨⟩ ⟨⟩=K3 (zx G tm x) ⟨tm,bx,nx,lg⟩:=(rfl)
theorem zjX {ev:Operand->C}:jb P G bx ev (.move x) nx K2 ⟨⟩ ⟨⟩ ⟨⟩=K2 (ev x) nx:=(rfl)
theorem za8:jm P G h (.assign x) ⟨tm,bx,nx,lg⟩ K3 ⟨⟩ ⟨⟩ ⟨⟩=K3 (zx G tm x) ⟨tm,bx,nx,lg⟩:=(rfl)
theorem zbF {ev:Operand->C}:jb P G bx ev (.assign x) nx K2 ⟨⟩ ⟨⟩ ⟨⟩=K2 (ev x) nx:=(rfl)
theorem zhV:jm P G h (.pick x y z) ⟨tm,bx,nx,lg⟩ K3 ⟨⟩ ⟨⟩ ⟨⟩=zmA (zx G tm x) (K3 (zx G tm y) ⟨tm,bx,nx,lg⟩) (K3 (zx G tm z) ⟨tm,bx,nx,lg⟩) ⟨⟩ ⟨⟩:=(rfl)
theorem zg0 {ev:Operand->C}:jb P G bx ev (.pick x y z) nx K2 ⟨⟩ ⟨⟩ ⟨⟩=zmA (ev x) (K2 (ev y) nx) (K2 (ev z) nx) ⟨⟩ ⟨⟩:=(rfl)
theorem zeC {ps:List (Nat×Operand)}:jm P G h (.build t ps.toArray) ⟨tm,bx,nx,lg⟩ K3 ⟨⟩ ⟨⟩ ⟨⟩=yp P t (ps.map fun p=>(p.1,zx G tm p.2)) (fun c=>K3 c ⟨tm,bx,nx,lg⟩) ⟨⟩:=(rfl)
theorem zei {ps:List (Nat×Operand)} {ev:Operand->C}:jb P G bx ev (.build t ps.toArray) nx K2 ⟨⟩ ⟨⟩ ⟨⟩=yp P t (ps.map fun p=>(p.1,ev p.2)) (fun c=>K2 c nx) ⟨⟩:=(rfl)
theorem zjt:jm P G h (.load t x) ⟨tm,bx,nx,lg⟩ K3 ⟨⟩ ⟨⟩ ⟨⟩=uf P t (zx G tm x) bx (fun c=>K3 c ⟨tm,bx,nx,lg⟩) ⟨⟩:=(rfl)
theorem zhb {ev:Operand->C}:jb P G bx ev (.load t x) nx K2 ⟨⟩ ⟨⟩ ⟨⟩=uf P t (ev x) bx (fun c=>K2 c nx) ⟨⟩:=(rfl)
theorem NZ:jm P G h (.nilCheck x) ⟨tm,bx,nx,lg⟩ K3 ⟨⟩ ⟨⟩ ⟨⟩=zkW (zx G tm x) (fun c=>K3 c ⟨tm,bx,nx,lg⟩) ⟨⟩:=(rfl)
theorem N4 {ev:Operand->C}:jb P G bx ev (.nilCheck x) nx K2 ⟨⟩ ⟨⟩ ⟨⟩=zkW (ev x) (fun c=>K2 c nx) ⟨⟩:=(rfl)
theorem zdE {op:BinOp}:jm P G h (.binOp op t x y t') ⟨tm,bx,nx,lg⟩ K3 ⟨⟩ ⟨⟩ ⟨⟩=vj P t op (zx G tm x) (zx G tm y) (fun c=>K3 c ⟨tm,bx,nx,lg⟩) ⟨⟩:=(rfl)
theorem zev {op:BinOp} {ev:Operand->C}:jb P G bx ev (.binOp op t x y t') nx K2 ⟨⟩ ⟨⟩ ⟨⟩=vj P t op (ev x) (ev y) (fun c=>K2 c nx) ⟨⟩:=(rfl)
theorem zij {op:UnOp}:jm P G h (.unOp op t x) ⟨tm,bx,nx,lg⟩ K3 ⟨⟩ ⟨⟩ ⟨⟩=zqS op (zx G tm x) (fun c=>K3 c ⟨tm,bx,nx,lg⟩) ⟨⟩:=(rfl)
theorem zhA {op:UnOp} {ev:Operand->C}:jb P G bx ev (.unOp op t x) nx K2 ⟨⟩ ⟨⟩ ⟨⟩=zqS op (ev x) (fun c=>K2 c nx) ⟨⟩:=(rfl)
theorem yj:jm P G h (.convert t t' x) ⟨tm,bx,nx,lg⟩ K3 ⟨⟩ ⟨⟩ ⟨⟩=yt P bx t t' (zx G tm x) (fun c=>K3 c ⟨tm,bx,nx,lg⟩) ⟨⟩:=(rfl)
theorem N6 {fn:Fn} {fs cs:List Operand}:jm P G h (.makeFunc fn fs.toArray cs.toArray) ⟨tm,bx,nx,lg⟩ K3 ⟨⟩ ⟨⟩ ⟨⟩=K3 (.clo fn (fs.map (zx G tm)) (cs.map (zx G tm))) ⟨tm,bx,nx,lg⟩:=(rfl)
theorem zdZ {lo hi mx:Option Operand}:jm P G h (.slice t x lo hi mx) ⟨tm,bx,nx,lg⟩ K3 ⟨⟩ ⟨⟩ ⟨⟩=yi P t (zx G tm x) (lo.map (zx G tm)) (hi.map (zx G tm)) (mx.map (zx G tm)) (fun c=>K3 c ⟨tm,bx,nx,lg⟩) ⟨⟩:=(rfl)
theorem zfl {lo hi mx:Option Operand} {ev:Operand->C}:jb P G bx ev (.slice t x lo hi mx) nx K2 ⟨⟩ ⟨⟩ ⟨⟩=yi P t (ev x) (lo.map ev) (hi.map ev) (mx.map ev) (fun c=>K2 c nx) ⟨⟩:=(rfl)
theorem H0 {f:Nat}:jm P G h (.fieldAddr t x f) ⟨tm,bx,nx,lg⟩ K3 ⟨⟩ ⟨⟩ ⟨⟩=QE P t (zx G tm x) f (fun c=>K3 c ⟨tm,bx,nx,lg⟩) ⟨⟩:=(rfl)
theorem GY {f:Nat} {ev:Operand->C}:jb P G bx ev (.fieldAddr t x f) nx K2 ⟨⟩ ⟨⟩ ⟨⟩=QE P t (ev x) f (fun c=>K2 c nx) ⟨⟩:=(rfl)
theorem zfs {f:Nat}:jm P G h (.field t x f) ⟨tm,bx,nx,lg⟩ K3 ⟨⟩ ⟨⟩ ⟨⟩=vE P t (zx G tm x) f (fun c=>K3 c ⟨tm,bx,nx,lg⟩) ⟨⟩:=(rfl)
theorem zfA {f:Nat} {ev:Operand->C}:jb P G bx ev (.field t x f) nx K2 ⟨⟩ ⟨⟩ ⟨⟩=vE P t (ev x) f (fun c=>K2 c nx) ⟨⟩:=(rfl)
theorem GI:jm P G h (.indexAddr t x y) ⟨tm,bx,nx,lg⟩ K3 ⟨⟩ ⟨⟩ ⟨⟩=Qw P t (zx G tm x) (zx G tm y) (fun c=>K3 c ⟨tm,bx,nx,lg⟩) ⟨⟩:=(rfl)
theorem G4 {ev:Operand->C}:jb P G bx ev (.indexAddr t x y) nx K2 ⟨⟩ ⟨⟩ ⟨⟩=Qw P t (ev x) (ev y) (fun c=>K2 c nx) ⟨⟩:=(rfl)
theorem zfe:jm P G h (.index t x y) ⟨tm,bx,nx,lg⟩ K3 ⟨⟩ ⟨⟩ ⟨⟩=vG P t (zx G tm x) (zx G tm y) (fun c=>K3 c ⟨tm,bx,nx,lg⟩) ⟨⟩:=(rfl)
theorem zdo {ev:Operand->C}:jb P G bx ev (.index t x y) nx K2 ⟨⟩ ⟨⟩ ⟨⟩=vG P t (ev x) (ev y) (fun c=>K2 c nx) ⟨⟩:=(rfl)
theorem yb {i:Nat}:jm P G h (.extract x i) ⟨tm,bx,nx,lg⟩ K3 ⟨⟩ ⟨⟩ ⟨⟩=Ua (zx G tm x) i (fun c=>K3 c ⟨tm,bx,nx,lg⟩) ⟨⟩:=(rfl)
theorem vm {i:Nat} {ev:Operand->C}:jb P G bx ev (.extract x i) nx K2 ⟨⟩ ⟨⟩ ⟨⟩=Ua (ev x) i (fun c=>K2 c nx) ⟨⟩:=(rfl)
theorem zcZ {us:List Operand} {ts:List TypeId}:jm P G h (.call ⟨.value x,us.toArray,ts.toArray⟩) ⟨tm,bx,nx,lg⟩ K3 ⟨⟩ ⟨⟩ ⟨⟩=x7 P G h (zx G tm x) (us.map (zx G tm)) ⟨tm,bx,nx,lg⟩ K3 ⟨⟩ ⟨⟩:=(rfl)
theorem zey {us:List Operand} {ts:List TypeId} {ev:Operand->C}:jb P G bx ev (.call ⟨.value x,us.toArray,ts.toArray⟩) nx K2 ⟨⟩ ⟨⟩ ⟨⟩=zdP P G (ev x) (us.map ev) nx K2 ⟨⟩:=(rfl)
theorem zl9:jm P G h (.call ⟨.builtin .len,#[x],#[t]⟩) ⟨tm,bx,nx,lg⟩ K3 ⟨⟩ ⟨⟩ ⟨⟩=xw P t (zx G tm x) (fun c=>K3 c ⟨tm,bx,nx,lg⟩) ⟨⟩:=(rfl)
theorem zms {ev:Operand->C}:jb P G bx ev (.call ⟨.builtin .len,#[x],#[t]⟩) nx K2 ⟨⟩ ⟨⟩ ⟨⟩=xw P t (ev x) (fun c=>K2 c nx) ⟨⟩:=(rfl)
theorem vy {r:Option Operand}:jm P G h (.makeMap t r) ⟨tm,bx,nx,lg⟩ K3 ⟨⟩ ⟨⟩ ⟨⟩=zqr (zgR P t) t (r.map (zx G tm)) nx (fun c nx'=>K3 c ⟨tm,bx,nx',lg⟩) ⟨⟩:=(rfl)
theorem zpm {kd:MKd} {z:C}:zqr (some (kd,z)) t none nx K2 ⟨⟩=K2 (.mo nx t kd.nil []) (nx+1):=(rfl)
theorem zmV {k:IntKind}:MKd.nil (.int k) = .int k []:=(rfl)
theorem zaP {ok:Bool} {ev:Operand->C}:jb P G bx ev (.lookup t x y ok) nx K2 ⟨⟩ ⟨⟩ ⟨⟩=zoZ (zgR P t) t (ev x) (ev y) ok (fun c=>K2 c nx) ⟨⟩:=(rfl)
theorem zoe {k k2 q:IntKind} {z:C} {id:Nat} {t2:TypeId} {l:List Int} {vs:List C} {n:Int} {ok:Bool}:zoZ (some (.int k,z)) t (.mo id t2 (.int k2 l) vs) (.sc (.int q n)) ok K ⟨⟩=(t2=t/\k2=k/\q=k/\zdn (zj8 n l vs) z ok K ⟨⟩):=(rfl)
theorem zim {z:C}:zdn (some c) z false K ⟨⟩=K c:=(rfl)
theorem zb3 {w:Operand}:jm P G h (.insert t x y w) ⟨tm,bx,nx,lg⟩ K3 ⟨⟩ ⟨⟩ ⟨⟩=zoB (zgR P t) t (zx G tm x) (zx G tm y) (zx G tm w) ⟨tm,bx,nx,lg⟩ K3 ⟨⟩:=(rfl)
theorem zoj {k k2 q:IntKind} {z:C} {id:Nat} {t2:TypeId} {l:List Int} {vs:List C} {n:Int}:zoB (some (.int k,z)) t (.mo id t2 (.int k2 l) vs) (.sc (.int q n)) d ⟨tm,bx,nx,lg⟩ K3 ⟨⟩=(t2=t/\k2=k/\q=k/\K3 .any ⟨zgT id (.int k (kD n d.frz l vs).1) (kD n d.frz l vs).2 tm,zdf id (.int k (kD n d.frz l vs).1) (kD n d.frz l vs).2 bx,nx,lg⟩):=(rfl)
theorem za1:jm P G h (.call ⟨.builtin .append,#[x,y],#[t,t]⟩) ⟨tm,bx,nx,lg⟩ K3 ⟨⟩ ⟨⟩ ⟨⟩=if h.bx t then if h.bx2 t then yQ P t (zx G tm x) (zx G tm y) ⟨tm,bx,nx,lg⟩ K3 ⟨⟩ else vP P h.p t (zx G tm x) (zx G tm y) ⟨tm,bx,nx,lg⟩ K3 ⟨⟩ else GV P t (zx G tm x) (zx G tm y) ⟨tm,bx,nx,lg⟩ K3 ⟨⟩:=(show G7 P G h (.call ⟨.builtin .append,#[x,y],#[t,t]⟩) ⟨tm,bx,nx,lg⟩ K3=if h.bx t then if h.bx2 t then Yb P t (zx G tm x) (zx G tm y) ⟨tm,bx,nx,lg⟩ K3 else U2 P h.p t (zx G tm x) (zx G tm y) ⟨tm,bx,nx,lg⟩ K3 else GH P t (zx G tm x) (zx G tm y) ⟨tm,bx,nx,lg⟩ K3 from by simp[G7,y8])
theorem zhN (h0:(t'==t)=false):jm P G h (.call ⟨.builtin .append,#[x,y],#[t,t']⟩) ⟨tm,bx,nx,lg⟩ K3 ⟨⟩ ⟨⟩ ⟨⟩=zai P t t' (zx G tm x) (zx G tm y) ⟨tm,bx,nx,lg⟩ K3 ⟨⟩:=(show G7 P G h (.call ⟨.builtin .append,#[x,y],#[t,t']⟩) ⟨tm,bx,nx,lg⟩ K3=HH P t t' (zx G tm x) (zx G tm y) ⟨tm,bx,nx,lg⟩ K3 from by simp only[beq_eq_false_iff_ne]at h0;simp[G7,y8,h0])
theorem zhD:jm P G h (.call ⟨.builtin .copy,#[x,y],#[t,t']⟩) ⟨tm,bx,nx,lg⟩ K3 ⟨⟩ ⟨⟩ ⟨⟩=Nx P t (zx G tm x) (zx G tm y) ⟨tm,bx,nx,lg⟩ K3 ⟨⟩:=(show G7 P G h (.call ⟨.builtin .copy,#[x,y],#[t,t']⟩) ⟨tm,bx,nx,lg⟩ K3=QC P t (zx G tm x) (zx G tm y) ⟨tm,bx,nx,lg⟩ K3 from by simp[G7,y8])
theorem ze7:jm P G h (.call ⟨.builtin .clear,#[x],#[t]⟩) ⟨tm,bx,nx,lg⟩ K3 ⟨⟩ ⟨⟩ ⟨⟩=xC P t (zx G tm x) ⟨tm,bx,nx,lg⟩ K3 ⟨⟩:=(show G7 P G h (.call ⟨.builtin .clear,#[x],#[t]⟩) ⟨tm,bx,nx,lg⟩ K3=UP P t (zx G tm x) ⟨tm,bx,nx,lg⟩ K3 from by simp[G7,y8])
theorem zm1:jm P G h (.call ⟨.builtin .max,#[x,y],#[t,t']⟩) ⟨tm,bx,nx,lg⟩ K3 ⟨⟩ ⟨⟩ ⟨⟩=zpo (zx G tm x) (zx G tm y) (fun c=>K3 c ⟨tm,bx,nx,lg⟩) ⟨⟩:=(rfl)
theorem zrh {k k':IntKind} {n m:Int}:zpo (.sc (.int k n)) (.sc (.int k' m)) K ⟨⟩=K (.sc (.int k (if m>n then m else n))):=(rfl)
theorem zl5:jm P G h (.call ⟨.builtin .cap,#[x],#[t]⟩) ⟨tm,bx,nx,lg⟩ K3 ⟨⟩ ⟨⟩ ⟨⟩=zoQ P t (zx G tm x) (fun c=>K3 c ⟨tm,bx,nx,lg⟩) ⟨⟩:=(show G7 P G h (.call ⟨.builtin .cap,#[x],#[t]⟩) ⟨tm,bx,nx,lg⟩ K3=zoa P t (zx G tm x) fun c=>K3 c ⟨tm,bx,nx,lg⟩ from by simp[G7,y8])
theorem zrF:zoQ P t c K ⟨⟩=zfF (lay P t) c K ⟨⟩:=(rfl)
theorem zhq {i off k n cap:Nat} {e s1 b1:Nat} {z1:Option (List Value)}:zfF (some ⟨.slice e,s1,b1,z1⟩) (.bs i off k n cap) K ⟨⟩=K (.sc (.int .i64 (cap:Int))):=(rfl)
theorem zgs {e s1 b1:Nat} {z1:Option (List Value)}:zfF (some ⟨.slice e,s1,b1,z1⟩) (.sc (.slice none 0 0)) K ⟨⟩=K (.sc (.int .i64 0)):=(rfl)
theorem zaI {ev:Operand->C}:jb P G bx ev (.call ⟨.builtin .append,#[x,y],#[t,t]⟩) nx K2 ⟨⟩ ⟨⟩ ⟨⟩=GU P t (ev x) (ev y) nx K2 ⟨⟩:=(show j8 P G bx ev (.call ⟨.builtin .append,#[x,y],#[t,t]⟩) nx K2=ZM P t (ev x) (ev y) nx K2 from by simp[j8,N9,Uj])
theorem ze9:jm P G h (.alloc t) ⟨tm,bx,nx,lg⟩ K3 ⟨⟩ ⟨⟩ ⟨⟩=zok (lay P t) ⟨tm,bx,nx,lg⟩ K3 ⟨⟩:=(rfl)
theorem zmc:jm P G h (.box t x) ⟨tm,bx,nx,lg⟩ K3 ⟨⟩ ⟨⟩ ⟨⟩=zpe (zx G tm x) ⟨tm,bx,nx,lg⟩ K3 ⟨⟩:=(rfl)
theorem zgn:jm P G h (.store t x y) ⟨tm,bx,nx,lg⟩ K3 ⟨⟩ ⟨⟩ ⟨⟩=znQ (lay P t) (zx G tm x) (zx G tm y) ⟨tm,bx,nx,lg⟩ K3 ⟨⟩:=(rfl)
theorem zjE {u:Tmp}:zx G tm (.tmp u)=jz tm u:=(rfl)
theorem zaU {v:Value}:zx G tm (.const v)=zy v:=(rfl)
theorem zcI {f:FuncId}:zx G tm (.func f) = .clo (.func f) [] []:=(rfl)
theorem ym {g:Nat}:zx G tm (.global g)=zr6 (G g):=(rfl)
theorem xG {cs:List C}:zr6 (some cs) = .row cs:=(rfl)
theorem zp5 {u v:Nat} {r:List (Nat×C)}:jz ((u,c) :: r) v=if v=u then c else jz r v:=(rfl)
theorem yg {k:IntKind} {n:Int}:zy (.int k n) = .sc (.int k n):=(rfl)
theorem NM {b:Bool}:zy (.bool b) = .sc (.bool b):=(rfl)
theorem xZ {l:List UInt8}:zy (.string ⟨l.toArray⟩) = .str l:=(rfl)
theorem Gu {a:Option Addr} {n m:Nat}:zy (.slice a n m) = .sc (.slice a n m):=(rfl)
theorem y5 {a:Option Addr}:zy (.pointer a) = .sc (.pointer a):=(rfl)
theorem yJ {a:Option Nat}:zy (.map a) = .sc (.map a):=(rfl)
theorem NH:zy .nilFunc = .sc .nilFunc:=(rfl)
theorem zgx {op:BinOp} {k:IntKind} {a b:Int}:vj P t op (.sc (.int k a)) (.sc (.int k b)) K ⟨⟩=kA op k a b K ⟨⟩:=(show znu P t op (.sc (.int k a)) (.sc (.int k b)) K=zqx op k a b K from by simp[znu])
theorem zet {op:BinOp} {a b:List UInt8}:vj P t op (.str a) (.str b) K ⟨⟩=zf6 op a b K ⟨⟩:=(rfl)
theorem zgl {op:BinOp} {cs ds:List C}:vj P t op (.agg cs) (.agg ds) K ⟨⟩=zpk op (Hz P t) cs ds K ⟨⟩:=(rfl)
theorem NL {op:BinOp} {k:Nat} {rows:List (List C)}:vj P t op (.sl k rows) (.sc (.slice none 0 0)) K ⟨⟩=v7 (lay P t) op (.sl k rows) K ⟨⟩:=(rfl)
theorem zc8 {op:BinOp} {e0:TypeId} {k0 b0:Nat} {z0:Option (List Value)} {k:Nat} {rows:List (List C)}:v7 (some ⟨.slice e0,k0,b0,z0⟩) op (.sl k rows) K ⟨⟩=(rows≠[]/\zeX op false K ⟨⟩):=(rfl)
theorem Mc {op:BinOp} {a:Option Addr} {n cap:Nat}:vj P t op (.sc (.slice a n cap)) (.sc (.slice none 0 0)) K ⟨⟩=v7 (lay P t) op (.sc (.slice a n cap)) K ⟨⟩:=(rfl)
theorem zdr {op:BinOp} {e0:TypeId} {k0 b0:Nat} {z0:Option (List Value)} {a:Option Addr} {n cap:Nat}:v7 (some ⟨.slice e0,k0,b0,z0⟩) op (.sc (.slice a n cap)) K ⟨⟩=zeX op a.isNone K ⟨⟩:=(rfl)
theorem zb8 {b:Bool}:zeX .eql b K ⟨⟩=K (.sc (.bool b)):=(rfl)
theorem zcT {lk:List LK} {cs ds:List C}:zpk .neq (some lk) cs ds K ⟨⟩=zkr true lk cs ds true K ⟨⟩:=(rfl)
theorem zbz {e:Bool}:zkr true [] [] [] e K ⟨⟩=K (.sc (.bool (!e))):=(rfl)
theorem zic {n e:Bool} {lk:List LK} {k k1 k2:IntKind} {a b:Int} {cs ds:List C}:zkr n (.int k :: lk) (.sc (.int k1 a) :: cs) (.sc (.int k2 b) :: ds) e K ⟨⟩=(k1=k/\k2=k/\zkr n lk cs ds (e&&decide (a=b)) K ⟨⟩):=(rfl)
theorem zf8 {n e:Bool} {lk:List LK} {a b:Bool} {cs ds:List C}:zkr n (.bool :: lk) (.sc (.bool a) :: cs) (.sc (.bool b) :: ds) e K ⟨⟩=zkr n lk cs ds (e&&(a==b)) K ⟨⟩:=(rfl)
theorem zhx {n e:Bool} {lk:List LK} {a b:List UInt8} {cs ds:List C}:zkr n (.str :: lk) (.str a :: cs) (.str b :: ds) e K ⟨⟩=zkr n lk cs ds (e&&decide (a=b)) K ⟨⟩:=(rfl)
theorem zdp {k:IntKind} {a b:Int}:kA .add k a b K ⟨⟩=(inR k (a+b)/\K (.sc (.int k (a+b)))):=(rfl)
theorem zgJ {k:IntKind} {a b:Int}:kA .sub k a b K ⟨⟩=(inR k (a-b)/\K (.sc (.int k (a-b)))):=(rfl)
theorem zfa {k:IntKind} {a b:Int}:kA .shr k a b K ⟨⟩=(b=1/\K (.sc (.int k (a / 2)))):=(rfl)
theorem zgK {k:IntKind} {a b:Int}:kA .eql k a b K ⟨⟩=(K (.sc (.bool (decide (a=b))))):=(rfl)
theorem zdm {k:IntKind} {a b:Int}:kA .neq k a b K ⟨⟩=(K (.sc (.bool (!decide (a=b))))):=(rfl)
theorem zgF {k:IntKind} {a b:Int}:kA .lss k a b K ⟨⟩=(K (.sc (.bool (decide (a<b))))):=(rfl)
theorem zeG {k:IntKind} {a b:Int}:kA .leq k a b K ⟨⟩=(K (.sc (.bool (decide (a<=b))))):=(rfl)
theorem zcF {k:IntKind} {a b:Int}:kA .gtr k a b K ⟨⟩=(K (.sc (.bool (decide (b<a))))):=(rfl)
theorem zdq {k:IntKind} {a b:Int}:kA .geq k a b K ⟨⟩=(K (.sc (.bool (decide (b<=a))))):=(rfl)
theorem zda {a b:List UInt8}:zf6 .add a b K ⟨⟩=(((a.length+b.length:Nat):Int)<=9223372036854775807/\K (.str (a++b))):=(rfl)
theorem zgy {a b:List UInt8}:zf6 .eql a b K ⟨⟩=(K (.sc (.bool (decide (a=b))))):=(rfl)
theorem zfx {a b:List UInt8}:zf6 .neq a b K ⟨⟩=(K (.sc (.bool (!decide (a=b))))):=(rfl)
theorem zef {a b:List UInt8}:zf6 .geq a b K ⟨⟩=(K (.sc (.bool (!Op.bytesLess a b)))):=(rfl)
theorem ziS {b:Bool}:zqS .not (.sc (.bool b)) K ⟨⟩=K (.sc (.bool (!b))):=(rfl)
theorem zf0 {cs:List C} {i:Nat}:Ua (.tup cs) i K ⟨⟩=zlh (cs[i]?) K ⟨⟩:=(rfl)
theorem zq5:zlh (some c) K ⟨⟩=K c:=(rfl)
theorem zfW {i off:Nat}:zkW (.ptr i off) K ⟨⟩=K (.ptr i off):=(rfl)
theorem zqs:uf P t c bx K ⟨⟩=vw (lay P t) c bx K ⟨⟩:=(rfl)
theorem zeN {ev:Operand->C}:jb P G bx ev (.store t x y) nx K2 ⟨⟩ ⟨⟩ ⟨⟩=zo1 (lay P t) (ev x) (ev y) bx (fun c=>K2 c nx) ⟨⟩:=(rfl)
theorem zqY {L:Lay} {i off:Nat}:zo1 (some L) (.ptr i off) c bx K ⟨⟩=zpw (bx[i]?) off L.size c K ⟨⟩:=(rfl)
theorem zry {cs:List C} {off size:Nat}:zpw (some cs) off size c K ⟨⟩=(c.partB=true/\(c.cells.all C.cellB)=true/\c.cells.length=size/\off+size<=cs.length/\VE ((cs.drop off).take size) c.cells/\K .any):=(rfl)
theorem za5:VE [] []=True:=(rfl)
theorem zek {u v:Value} {r s:List C}:VE (.sc u :: r) (.sc v :: s)=(u=v/\VE r s):=(rfl)
theorem zas {u v:List UInt8} {r s:List C}:VE (.str u :: r) (.str v :: s)=(u=v/\VE r s):=(rfl)
theorem zau {L:Lay} {i off:Nat}:vw (some L) (.ptr i off) bx K ⟨⟩=zeZ (bx[i]?) off L K ⟨⟩:=(rfl)
theorem zbg {L:Lay} {cs:List C}:vw (some L) (.row cs) bx K ⟨⟩=Vp L cs K ⟨⟩:=(rfl)
theorem zm8 {L:Lay} {off:Nat} {cs:List C}:zeZ (some cs) off L K ⟨⟩=Vp L (cs.drop off) K ⟨⟩:=(rfl)
theorem Gi {fs:List (Nat×Nat×Bool)} {s b:Nat} {z1:Option (List Value)} {cs:List C}:Vp ⟨.struct fs,s,b,z1⟩ cs K ⟨⟩=(s<=cs.length/\K (.agg (cs.take s))):=(show JS ⟨.struct fs,s,b,z1⟩ cs K=(s<=cs.length/\K (.agg (cs.take s))) from by simp[JS,LK.agg])
theorem zbs {ik:IntKind} {s b:Nat} {z1:Option (List Value)} {r:List C}:Vp ⟨.int ik,s,b,z1⟩ (c :: r) K ⟨⟩=K c:=(show JS ⟨.int ik,s,b,z1⟩ (c :: r) K=K c from by simp[JS,LK.agg])
theorem xS {s b:Nat} {z1:Option (List Value)} {r:List C}:Vp ⟨.bool,s,b,z1⟩ (c :: r) K ⟨⟩=K c:=(show JS ⟨.bool,s,b,z1⟩ (c :: r) K=K c from by simp[JS,LK.agg])
theorem zaJ {s b:Nat} {z1:Option (List Value)} {r:List C}:Vp ⟨.str,s,b,z1⟩ (c :: r) K ⟨⟩=K c:=(show JS ⟨.str,s,b,z1⟩ (c :: r) K=K c from by simp[JS,LK.agg])
theorem NX {e:TypeId} {s b:Nat} {z1:Option (List Value)} {r:List C}:Vp ⟨.slice e,s,b,z1⟩ (c :: r) K ⟨⟩=K c:=(show JS ⟨.slice e,s,b,z1⟩ (c :: r) K=K c from by simp[JS,LK.agg])
theorem Mi {s b:Nat} {z1:Option (List Value)} {r:List C}:Vp ⟨.other,s,b,z1⟩ (c :: r) K ⟨⟩=K c:=(show JS ⟨.other,s,b,z1⟩ (c :: r) K=K c from by simp[JS,LK.agg])
theorem zmB {f:Nat}:vE P t c f K ⟨⟩=vU (lay P t) c f K ⟨⟩:=(rfl)
theorem zjP {fs:List (Nat×Nat×Bool)} {s b:Nat} {z1:Option (List Value)} {cs:List C} {f:Nat}:vU (some ⟨.struct fs,s,b,z1⟩) (.agg cs) f K ⟨⟩=uI (fs[f]?) cs K ⟨⟩:=(show yu (some ⟨.struct fs,s,b,z1⟩) (.agg cs) f K=Up (fs[f]?) cs K from by unfold yu Up;simp only[];cases fs[f]?<;>simp)
theorem zfH {off size:Nat} {cs:List C}:uI (some (off,size,false)) cs K ⟨⟩=zlh (cs[off]?) K ⟨⟩:=(show Up (some (off,size,false)) cs K=zq0 (cs[off]?) K from by unfold Up zq0;simp)
theorem zsP {f:Nat}:QE P t c f K ⟨⟩=zpC (lay P t) c f K ⟨⟩:=(rfl)
theorem zrq {fs:List (Nat×Nat×Bool)} {s b:Nat} {z1:Option (List Value)} {f:Nat}:zpC (some ⟨.struct fs,s,b,z1⟩) c f K ⟨⟩=zmt (fs[f]?) c K ⟨⟩:=(rfl)
theorem zhp {off size i q:Nat} {g:Bool}:zmt (some (off,size+1,g)) (.ptr i q) K ⟨⟩=K (.ptr i (q+off)):=(show zp0 (some (off,size+1,g)) (.ptr i q) K=K (.ptr i (q+off)) from by simp[zp0])
theorem zjR {off size:Nat} {g:Bool} {cs:List C}:zmt (some (off,size+1,g)) (.row cs) K ⟨⟩=K (.row (cs.drop off)):=(show zp0 (some (off,size+1,g)) (.row cs) K=K (.row (cs.drop off)) from by simp[zp0])
theorem zsw:Qw P t c d K ⟨⟩=znc P (lay P t) c d K ⟨⟩:=(rfl)
theorem zaS {e s b:Nat} {z1:Option (List Value)} {k:IntKind} {n:Int}:znc P (some ⟨.slice e,s,b,z1⟩) c (.sc (.int k n)) K ⟨⟩=zjh (lay P e) c n K ⟨⟩:=(rfl)
theorem za9 {m e s b:Nat} {z1:Option (List Value)} {k:IntKind} {n:Int}:znc P (some ⟨.array (m+1) e,s,b,z1⟩) c (.sc (.int k n)) K ⟨⟩=zpS (lay P e) c m n K ⟨⟩:=(rfl)
theorem zes {k:Nat} {rows:List (List C)} {L:Lay} {n:Int}:zjh (some L) (.sl k rows) n K ⟨⟩=znq (C.rows? L.size (.sl k rows)) n K ⟨⟩:=(rfl)
theorem zeI {k:Nat} {rows:List (List C)} {L:Lay} {lo hi mx:Option Int}:zgz (some L) (.sl k rows) lo hi mx K ⟨⟩=zjk (C.rows? L.size (.sl k rows)) L.size lo hi mx K ⟨⟩:=(rfl)
theorem za7 {id e k:Nat} {rows:List (List C)} {L:Lay} {n:Int}:zjh (some L) (.own id e k rows) n K ⟨⟩=znq (C.rows? L.size (.own id e k rows)) n K ⟨⟩:=(rfl)
theorem zbp {id e k:Nat} {rows:List (List C)} {L:Lay} {lo hi mx:Option Int}:zgz (some L) (.own id e k rows) lo hi mx K ⟨⟩=zjk (C.rows? L.size (.own id e k rows)) L.size lo hi mx K ⟨⟩:=(rfl)
theorem yL {id e k:Nat} {rows:List (List C)} :yt P bx t t' (.own id e k rows) K ⟨⟩=zgp P t t' (.own id e k rows) K ⟨⟩:=(rfl)
theorem zax {L:Lay} {lo hi mx:Option Int}:zgz (some L) (.sc (.slice none 0 0)) lo hi mx K ⟨⟩=zpl L.size lo hi mx K ⟨⟩:=(rfl)
theorem zrj {k:Nat} {lo hi:Option Int}:zpl k lo hi none K ⟨⟩=(jE 0 lo hi/\K (.sc (.slice none 0 0))):=(rfl)
theorem zb2 {v:Value} :yt P bx t t' (.sc v) K ⟨⟩=zgp P t t' (.sc v) K ⟨⟩:=(rfl)
theorem zdK {L:Lay} {n:Int} {j off k m1 cap:Nat}:zjh (some L) (.bs j off k m1 cap) n K ⟨⟩=(k=L.size/\0<=n/\n<(m1:Int)/\K (.ptr j (off+n.toNat*L.size))):=(rfl)
theorem zfD {L:Lay} {lo hi mx:Option Int} {i off k n cap:Nat}:zgz (some L) (.bs i off k n cap) lo hi mx K ⟨⟩=zfZ L.size i off k n cap lo hi mx K ⟨⟩:=(rfl)
theorem ziv {b:Int} {sz i off k n cap:Nat}:zfZ sz i off k n cap none (some b) none K ⟨⟩=(n<=cap/\(0<=b/\b<=(cap:Int))/\K (.bs i off k b.toNat cap)):=(rfl)
theorem zhe {a:Int} {sz i off k n cap:Nat}:zfZ sz i off k n cap (some a) none none K ⟨⟩=(sz=k/\n<=cap/\(0<=a/\a<=(n:Int))/\K (.bs i (off+a.toNat*k) k (n-a.toNat) (cap-a.toNat))):=(rfl)
theorem zgZ {a b:Int} {sz i off k n cap:Nat}:zfZ sz i off k n cap (some a) (some b) none K ⟨⟩=(sz=k/\(0<=a/\a<=b/\b<=(cap:Int))/\K (.bs i (off+a.toNat*k) k (b.toNat-a.toNat) (cap-a.toNat))):=(rfl)
theorem zi8 {a b m1:Int} {sz i off k n cap:Nat}:zfZ sz i off k n cap (some a) (some b) (some m1) K ⟨⟩=(sz=k/\(0<=a/\a<=b/\b<=m1/\m1<=(cap:Int))/\K (.bs i (off+a.toNat*k) k (b.toNat-a.toNat) (m1.toNat-a.toNat))):=(rfl)
theorem zhz {i off k n cap:Nat}:xw P t (.bs i off k n cap) K ⟨⟩=Nt (lay P t) (n:Int) K ⟨⟩:=(rfl)
theorem zsD {n:Nat} {ps:List (Nat×C)}:k8 P t n ps ⟨tm,bx,nx,lg⟩ K3 ⟨⟩=zpZ P (lay P t) n ps ⟨tm,bx,nx,lg⟩ K3 ⟨⟩:=(rfl)
theorem zrp {e s b n:Nat} {z1:Option (List Value)} {ps:List (Nat×C)}:zpZ P (some ⟨.slice e,s,b,z1⟩) n ps σ K3 ⟨⟩=zoE (lay P e) n ps σ K3 ⟨⟩:=(rfl)
theorem zri {kd:LK} {k b n:Nat} {z1:List Value} {ps:List (Nat×C)}:zoE (some ⟨kd,k,b,some z1⟩) n ps σ K3 ⟨⟩=(z1.length=k/\0<k/\n*k<=16777216/\(ps.all fun p=>p.2.frz.partB)=true/\znZ (Yr (plA k) (List.replicate n (z1.map zy)).flatten (ps.map fun p=>(p.1,p.2.frz))) k n σ K3 ⟨⟩):=(rfl)
theorem zrN {cs:List C} {k n:Nat}:znZ (some cs) k n ⟨tm,bx,nx,lg⟩ K3 ⟨⟩=((cs.all C.cellB)=true/\cs.length=n*k/\K3 (.bs bx.length 0 k n n) ⟨tm,bx++[cs],nx,lg⟩):=(rfl)
theorem zsy:vP P p t c d ⟨tm,bx,nx,lg⟩ K3 ⟨⟩=zoV P (lay P t) p c d ⟨tm,bx,nx,lg⟩ K3 ⟨⟩:=(rfl)
theorem zrf {e s b:Nat} {z1:Option (List Value)}:zoV P (some ⟨.slice e,s,b,z1⟩) p c d σ K3 ⟨⟩=zoF (lay P e) p c d σ K3 ⟨⟩:=(rfl)
theorem zrn {kd:LK} {k b:Nat} {z1:List Value}:zoF (some ⟨kd,k,b,some z1⟩) p c d ⟨tm,bx,nx,lg⟩ K3 ⟨⟩=zqi (d.xs? k bx) p k b z1 c ⟨tm,bx,nx,lg⟩ K3 ⟨⟩:=(rfl)
theorem zm5 {i off k k2 n cap:Nat}:C.xs? k bx (.bs i off k2 n cap)=xsB k2 k off n (bx[i]?):=(rfl)
theorem zpy {k off n:Nat} {cs:List C}:xsB k k off n (some cs)=if off+n*k<=cs.length then some (n,(cs.drop off).take (n*k)) else none:=(show xsB k k off n (some cs)=if off+n*k<=cs.length then some (n,(cs.drop off).take (n*k)) else none from by simp[xsB])
theorem zk8 {i:Nat} {cs:List C}:Q8 i cs bx=(Nb (Jz i) some bx).set i cs:=(rfl)
theorem zme {i j:Nat}:Jz i j=if j=i then none else some j:=(rfl)
theorem ziL {i off k n cap:Nat}:C.frz (.bs i off k n cap) = .any:=(show C.frz (.bs i off k n cap) = .any from by rw[C.frz])
theorem zlP {i off k n cap:Nat} {fp fo:Nat->Option Nat}:C.re fp fo (.bs i off k n cap)=bsO (fp i) off k n cap:=(show C.re fp fo (.bs i off k n cap)=bsO (fp i) off k n cap from by rw[C.re];rfl)
theorem zow {j off k n cap:Nat}:bsO (some j) off k n cap = .bs j off k n cap:=(rfl)
theorem zpf {off k n cap:Nat}:bsO none off k n cap = .any:=(rfl)
theorem zbc {i off k n cap:Nat}:C.cellB (.bs i off k n cap)=true:=(rfl)
theorem zb5 {i off k n cap:Nat}:C.partB (.bs i off k n cap)=true:=(rfl)
theorem zbA {i off k n cap:Nat}:C.cells (.bs i off k n cap) = [.bs i off k n cap]:=(rfl)
theorem zof {rows:List (List C)} {n:Int}:znq (some rows) n K ⟨⟩=zr5 (rows[n.toNat]?) n K ⟨⟩:=(rfl)
theorem zsW {r:List C} {n:Int}:zr5 (some r) n K ⟨⟩=(0<=n/\K (.row r)):=(rfl)
theorem zmo {L:Lay} {m:Nat} {n:Int} {cs:List C}:zpS (some L) (.row cs) m n K ⟨⟩=(0<=n/\n<((m+1:Nat):Int)/\K (.row (cs.drop (n.toNat*L.size)))):=(rfl)
theorem zs9:vG P t c d K ⟨⟩=zql (lay P t) c d K ⟨⟩:=(rfl)
theorem zrJ {s b:Nat} {z1:Option (List Value)} {l:List UInt8} {k:IntKind} {n:Int}:zql (some ⟨.str,s,b,z1⟩) (.str l) (.sc (.int k n)) K ⟨⟩=zkd (l[n.toNat]?) n K ⟨⟩:=(show zrg (some ⟨.str,s,b,z1⟩) (.str l) (.sc (.int k n)) K=zmj (l[n.toNat]?) n K from by unfold zrg zmj;simp)
theorem znR {b:UInt8} {n:Int}:zkd (some b) n K ⟨⟩=(0<=n/\K (.sc (.int .u8 (b.toNat:Int)))):=(rfl)
theorem zsx {lo hi mx:Option C}:yi P t c lo hi mx K ⟨⟩=zoi P t c (uN lo) (uN hi) (uN mx) K ⟨⟩:=(rfl)
theorem zrX {lo hi mx:Option Int}:zoi P t c (some lo) (some hi) (some mx) K ⟨⟩=zmK P (lay P t) c lo hi mx K ⟨⟩:=(rfl)
theorem zbo:uN none=some none:=(rfl)
theorem zcD {k:IntKind} {n:Int}:uN (some (.sc (.int k n)))=some (some n):=(rfl)
theorem zji {s b:Nat} {z1:Option (List Value)} {l:List UInt8} {lo hi:Option Int}:zmK P (some ⟨.str,s,b,z1⟩) (.str l) lo hi none K ⟨⟩=(jE l.length lo hi/\K (.str (cut l lo hi))):=(rfl)
theorem zb0 {e s b:Nat} {z1:Option (List Value)} {lo hi mx:Option Int}:zmK P (some ⟨.slice e,s,b,z1⟩) c lo hi mx K ⟨⟩=zgz (lay P e) c lo hi mx K ⟨⟩:=(rfl)
theorem zop {rows:List (List C)} {k:Nat} {lo hi:Option Int}:zjk (some rows) k lo hi none K ⟨⟩=(jE rows.length lo hi/\K (.sl k (cut rows lo hi))):=(rfl)
theorem zpz {rows:List (List C)} {k:Nat} {lo:Option Int} {h m:Int}:zjk (some rows) k lo (some h) (some m) K ⟨⟩=(m=h/\jE rows.length lo (some h)/\K (.tight k (cut rows lo (some h)))):=(rfl)
theorem zg7 {α:Type} {l:List α} {a:Int}:cut l (some a) none=l.drop a.toNat:=(rfl)
theorem zg6 {α:Type} {l:List α} {b:Int}:cut l none (some b)=l.take b.toNat:=(rfl)
theorem zhT {α:Type} {l:List α} {a b:Int}:cut l (some a) (some b)=(l.take b.toNat).drop a.toNat:=(rfl)
theorem zaR {n:Nat} {a:Int}:jE n (some a) none=(0<=a/\a<=(n:Int)):=(rfl)
theorem zaq {n:Nat} {b:Int}:jE n none (some b)=(0<=b/\b<=(n:Int)):=(rfl)
theorem zbl {n:Nat} {a b:Int}:jE n (some a) (some b)=(0<=a/\a<=b/\b<=(n:Int)):=(rfl)
theorem zfn {k:Nat} {rows:List (List C)}:C.rows? k (.sl k rows)=some rows:=(show C.rows? k (.sl k rows)=some rows from by simp[C.rows?])
theorem zbH {id e:Nat} {k:Nat} {rows:List (List C)}:C.rows? k (.own id e k rows)=some rows:=(show C.rows? k (.own id e k rows)=some rows from by simp[C.rows?])
theorem zpL:zgp P t t' c K ⟨⟩=zg2 P (lay P t') (lay P t) c K ⟨⟩:=(rfl)
theorem zbk {k k0:IntKind} {n:Int} {s b:Nat} {z1:Option (List Value)} {L:Lay}:zg2 P (some ⟨.int k,s,b,z1⟩) (some L) (.sc (.int k0 n)) K ⟨⟩=(inR k n/\K (.sc (.int k n))):=(rfl)
theorem zjc {s b s2 b2:Nat} {z1 z2:Option (List Value)} {k k0:IntKind} {n:Int}:zg2 P (some ⟨.str,s,b,z1⟩) (some ⟨.int k,s2,b2,z2⟩) (.sc (.int k0 n)) K ⟨⟩=K (.str (Utf8.encode n).data.toList):=(rfl)
theorem zi9 {e s b s2 b2:Nat} {z1 z2:Option (List Value)}:zg2 P (some ⟨.str,s,b,z1⟩) (some ⟨.slice e,s2,b2,z2⟩) c K ⟨⟩=zoR (lay P e) c K ⟨⟩:=(rfl)
theorem zdy {s b:Nat} {z1:Option (List Value)}:zoR (some ⟨.int .u8,s,b,z1⟩) c K ⟨⟩=zlw (c.rows? 1) K ⟨⟩:=(rfl)
theorem zfm {l:List UInt8}:xw P t (.str l) K ⟨⟩=zkk (lay P t) (l.length:Int) K ⟨⟩:=(rfl)
theorem ziY {k:Nat} {rows:List (List C)}:xw P t (.sl k rows) K ⟨⟩=Nt (lay P t) (rows.length:Int) K ⟨⟩:=(rfl)
theorem zgu {id e:Nat} {k:Nat} {rows:List (List C)}:xw P t (.own id e k rows) K ⟨⟩=Nt (lay P t) (rows.length:Int) K ⟨⟩:=(rfl)
theorem zd2:xw P t (.sc (.slice none 0 0)) K ⟨⟩=Nt (lay P t) 0 K ⟨⟩:=(rfl)
theorem zoJ {e s b:Nat} {z1:Option (List Value)} {n:Int}:Nt (some ⟨.slice e,s,b,z1⟩) n K ⟨⟩=K (.sc (.int .i64 n)):=(rfl)
theorem zpQ {s b:Nat} {z1:Option (List Value)} {n:Int}:zkk (some ⟨.str,s,b,z1⟩) n K ⟨⟩=K (.sc (.int .i64 n)):=(rfl)
theorem zmS {ps:List (Nat×C)}:yp P t ps K ⟨⟩=zn9 (lay P t) ps K ⟨⟩:=(rfl)
theorem zjZ {fs:List (Nat×Nat×Bool)} {s b:Nat} {z1:List Value} {ps:List (Nat×C)}:zn9 (some ⟨.struct fs,s,b,some z1⟩) ps K ⟨⟩=((ps.all fun p=>p.2.partB)=true/\zsd (Yr (plS fs) (z1.map zy) ps) K ⟨⟩):=(show zrG (some ⟨.struct fs,s,b,some z1⟩) ps K=((ps.all fun p=>p.2.partB)=true/\aFl (Yr (plS fs) (z1.map zy) ps) K) from by unfold zrG aFl;simp only[];rfl)
theorem zsJ {cs:List C}:zsd (some cs) K ⟨⟩=K (.agg cs):=(rfl)
theorem zmg {place:Nat->Option (Nat×Nat)} {cs:List C}:Yr place cs []=some cs:=(rfl)
theorem zqk {place:Nat->Option (Nat×Nat)} {cs:List C} {i:Nat} {rest:List (Nat×C)}:Yr place cs ((i,c) :: rest)=zkg (place i) place cs c.cells rest:=(rfl)
theorem zm7 {place:Nat->Option (Nat×Nat)} {cs l:List C} {off size:Nat} {rest:List (Nat×C)}:zkg (some (off,size)) place cs l rest=(if l.length=size/\off+size<=cs.length then Yr place (cs.take off++l++cs.drop (off+size)) rest else none):=(rfl)
theorem zq7 {fs:List (Nat×Nat×Bool)} {i:Nat}:plS fs i=(fs[i]?).map fun f=>(f.1,f.2.1):=(rfl)
theorem zrk {k i:Nat}:plA k i=some (i*k,k):=(rfl)
theorem zsM {n:Nat} {ps:List (Nat×C)}:XF P t n ps nx K2 ⟨⟩=znX P (lay P t) n ps nx K2 ⟨⟩:=(rfl)
theorem zq9 {e s b n:Nat} {z1:Option (List Value)} {ps:List (Nat×C)}:znX P (some ⟨.slice e,s,b,z1⟩) n ps nx K2 ⟨⟩=zo0 (lay P e) e n ps nx K2 ⟨⟩:=(rfl)
theorem zr0 {kd:LK} {k b e n:Nat} {z1:List Value} {ps:List (Nat×C)}:zo0 (some ⟨kd,k,b,some z1⟩) e n ps nx K2 ⟨⟩=(z1.length=k/\0<k/\n*k<=16777216/\(ps.all fun p=>p.2.frz.partB)=true/\zpM (Yr (plA k) (List.replicate n (z1.map zy)).flatten (ps.map fun p=>(p.1,p.2.frz))) e k n nx K2 ⟨⟩):=(rfl)
theorem zrP {cs:List C} {e k n:Nat}:zpM (some cs) e k n nx K2 ⟨⟩=((cs.all C.cellB)=true/\cs.length=n*k/\K2 (.own nx e k (Qh k n cs)) (nx+1)):=(rfl)
theorem zr1:Mw P t c d ⟨tm,bx,nx,lg⟩ K3 ⟨⟩=zkh P (lay P t) c d ⟨tm,bx,nx,lg⟩ K3 ⟨⟩:=(rfl)
theorem zoT {e s b:Nat} {z1:Option (List Value)} {k k2:IntKind} {l m:Int}:zkh P (some ⟨.slice e,s,b,z1⟩) (.sc (.int k l)) (.sc (.int k2 m)) ⟨tm,bx,nx,lg⟩ K3 ⟨⟩=zks (lay P e) l m ⟨tm,bx,nx,lg⟩ K3 ⟨⟩:=(rfl)
theorem znS {kd:LK} {k b:Nat} {z1:List Value} {l m:Int}:zks (some ⟨kd,k,b,some z1⟩) l m ⟨tm,bx,nx,lg⟩ K3 ⟨⟩=(z1.length=k/\0<k/\(z1.all Value.oneCell')=true/\0<=l/\l<=m/\(b:Int)*m<=281474976710656/\m<=9223372036854775807/\K3 (.bs bx.length 0 k l.toNat m.toNat) ⟨tm,bx++[(List.replicate m.toNat (z1.map zy)).flatten],nx,lg⟩):=(rfl)
theorem zs2:zkl P t c d nx K2 ⟨⟩=zqt P (lay P t) c d nx K2 ⟨⟩:=(rfl)
theorem zqW {e s b:Nat} {z1:Option (List Value)} {k k2:IntKind} {l m:Int}:zqt P (some ⟨.slice e,s,b,z1⟩) (.sc (.int k l)) (.sc (.int k2 m)) nx K2 ⟨⟩=zph (lay P e) e l m nx K2 ⟨⟩:=(rfl)
theorem zrV {kd:LK} {k b e:Nat} {z1:List Value} {l m:Int}:zph (some ⟨kd,k,b,some z1⟩) e l m nx K2 ⟨⟩=(z1.length=k/\0<k/\(z1.all Value.oneCell')=true/\0<=l/\l<=m/\(b:Int)*m<=281474976710656/\m<=9223372036854775807/\K2 (.own nx e k (List.replicate l.toNat (z1.map zy))) (nx+1)):=(rfl)
theorem zdt {id e k:Nat} {rows:List (List C)}:GV P t (.own id e k rows) d ⟨tm,bx,nx,lg⟩ K3 ⟨⟩=zn7 P (lay P t) id e k rows d ⟨tm,bx,nx,lg⟩ K3 ⟨⟩:=(rfl)
theorem zfi:GV P t (.sc (.slice none 0 0)) d ⟨tm,bx,nx,lg⟩ K3 ⟨⟩=GU P t (.sc (.slice none 0 0)) d nx (fun c nx'=>K3 c ⟨tm,bx,nx',lg⟩) ⟨⟩:=(rfl)
theorem zon:GU P t c d nx K2 ⟨⟩=zpG P (lay P t) c d nx K2 ⟨⟩:=(rfl)
theorem zrw {e s b:Nat} {z1:Option (List Value)}:zpG P (some ⟨.slice e,s,b,z1⟩) c d nx K2 ⟨⟩=znO (lay P e) e c d nx K2 ⟨⟩:=(rfl)
theorem zrm {kd:LK} {k b e:Nat} {z1:List Value}:znO (some ⟨kd,k,b,some z1⟩) e c d nx K2 ⟨⟩=zlM (d.rows? k) c e k b z1 nx K2 ⟨⟩:=(rfl)
theorem zoq {k b e:Nat} {z1:List Value} {xs:List (List C)}:zlM (some xs) (.sc (.slice none 0 0)) e k b z1 nx K2 ⟨⟩=(z1.length=k/\0<k/\xs.length<=9223372036854775807/\xs.length*b<=140737488355328/\K2 (.own nx e k xs) (nx+1)):=(rfl)
theorem zpK {k k0 b e:Nat} {z1:List Value} {xs rows:List (List C)}:zlM (some xs) (.tight k0 rows) e k b z1 nx K2 ⟨⟩=(k0=k/\z1.length=k/\0<k/\rows.length+xs.length<=9223372036854775807/\(rows.length+xs.length)*b<=140737488355328/\(xs = []->K2 (.tight k0 rows) nx)/\(¬xs = []->K2 (.own nx e k (rows++xs)) (nx+1))):=(rfl)
theorem zhJ {a b:Nat} (h:Nat.ble a b=true):a<=b:=Nat.le_of_ble_eq_true h
theorem lS:(∀ {α:Type} (a b:List α),(a++b).length=a.length+b.length)/\(∀ {α:Type} (a:α) (b:List α),(a :: b).length=b.length+1)/\(∀ {α:Type},([]:List α).length=0)/\(∀ {α β:Type} (f:α->β) (l:List α),(l.map f).length=l.length)/\(∀ {α:Type} (n:Nat) (l:List α),(l.take n).length=min n l.length)/\∀ {α:Type} (n:Nat) (l:List α),(l.drop n).length=l.length-n:=⟨fun _ _=>List.length_append,fun _ _=>List.length_cons,List.length_nil,fun _ _=>List.length_map _,fun _ _=>List.length_take,fun _ _=>List.length_drop⟩
theorem zq4 {α:Type} {x:α} {l:List α}:((x :: l) = [])=False:=by simp
theorem zsz {p:Prop}:(True->p)=p:=by simp
theorem zsV {p:Prop}:(False->p)=True:=by simp
theorem zsF:(¬False)=True:=by simp
theorem zrs {e0 s b id e k:Nat} {z1:Option (List Value)} {rows:List (List C)}:zn7 P (some ⟨.slice e0,s,b,z1⟩) id e k rows c σ K3 ⟨⟩=zqf (lay P e) e0 id e k rows c σ K3 ⟨⟩:=(rfl)
theorem zqO {kd:LK} {k0 b e0 id e k:Nat} {z1:List Value} {rows:List (List C)}:zqf (some ⟨kd,k0,b,some z1⟩) e0 id e k rows c σ K3 ⟨⟩=(e0=e/\k0=k/\z1.length=k/\0<k/\zpj (c.rows? k) b id e k rows σ K3 ⟨⟩):=(show zrc (some ⟨kd,k0,b,some z1⟩) e0 id e k rows c σ K3=(e0=e/\k0=k/\z1.length=k/\0<k/\zqQ (c.rows? k) b id e k rows σ K3) from by unfold zrc zqQ;simp only[];cases c.rows? k<;>simp)
theorem zqJ {xs rows:List (List C)} {b id e k:Nat}:zpj (some xs) b id e k rows ⟨tm,bx,nx,lg⟩ K3 ⟨⟩=(rows.length+xs.length<=9223372036854775807/\(rows.length+xs.length)*b<=140737488355328/\K3 (.own id e k (rows++xs)) ⟨zbY id tm,xt id bx,nx,lg⟩):=(rfl)
theorem zmD {f:FuncId} {fs cs args:List C}:x7 P G h (.clo (.func f) fs cs) args ⟨tm,bx,nx,lg⟩ K3 ⟨⟩ ⟨⟩=Qr P G f (fs++args++cs) (C.frzL (fs++args++cs)) ⟨tm,bx,nx,lg⟩ K3 ⟨⟩:=(rfl)
theorem zkZ {l:Nat} {items:List (List C)} {sf:Nat->Bool} {args:List C}:x7 P G ⟨p,some ⟨l,items,sf⟩,bf⟩ (.sc (.func (.yield l) #[] #[])) args ⟨tm,bx,nx,lg⟩ K3 ⟨⟩ ⟨⟩=uU ⟨l,items,sf⟩ (items[lg]?) args ⟨tm,bx,nx,lg⟩ K3 ⟨⟩ ⟨⟩:=(show N2 P G ⟨p,some ⟨l,items,sf⟩,bf⟩ (.sc (.func (.yield l) #[] #[])) args ⟨tm,bx,nx,lg⟩ K3=Gp ⟨l,items,sf⟩ (items[lg]?) args ⟨tm,bx,nx,lg⟩ K3 from by simp[N2,uz])
theorem zjC {l:Nat} {items:List (List C)} {sf:Nat->Bool} {args it:List C}:uU ⟨l,items,sf⟩ (some it) args ⟨tm,bx,nx,lg⟩ K3 ⟨⟩ ⟨⟩=(zd [] 0 args it/\(∀ j,j<lg->sf j=false)/\K3 (.sc (.bool (!sf lg))) ⟨tm,bx,nx,lg+1⟩):=(rfl)
theorem zog {ι:List Nat} {j:Nat}:upB ι m j=match ι[j]? with | some i=>some i | none=>some (m+(j-ι.length)):=(rfl)
theorem zqF {i:Nat}:Xh [] i=none:=(rfl)
theorem zrr {x1 i:Nat} {r:List Nat}:Xh (x1 :: r) i=if i=x1 then some 0 else (Xh r i).map (·+1):=(rfl)
theorem zl8 {fp fo:Nat->Option Nat}:kR fp fo [] = []:=(rfl)
theorem zp6 {fp fo:Nat->Option Nat} {u:Nat} {r:List (Nat×C)}:kR fp fo ((u,c) :: r)=(u,c.re fp fo) :: kR fp fo r:=(rfl)
theorem zlU {fp fo:Nat->Option Nat}:Nb fp fo [] = []:=(rfl)
theorem zqd {fp fo:Nat->Option Nat} {cs:List C} {r:List (List C)}:Nb fp fo (cs :: r)=C.reL fp fo cs :: Nb fp fo r:=(rfl)
theorem zjz {l:List (List C)}:Z5 [] l bx=bx:=(rfl)
theorem zjm {i:Nat} {ι:List Nat} {cs:List C} {r:List (List C)}:Z5 (i :: ι) (cs :: r) bx=Z5 ι r (bx.set i cs):=(rfl)
theorem zit {ι κ:List Nat} {n:Nat}:QP ι κ bx' n ⟨tm,bx,nx,lg⟩=⟨kR some (Zb κ) tm,Z5 ι (Nb (upB ι bx.length) (upO nx) bx') (Nb some (Zb κ) bx)++Nb (upB ι bx.length) (upO nx) (bx'.drop ι.length),nx+n,lg⟩:=(rfl)
theorem zmF {κ:List Nat} {i:Nat}:Zb κ i=if i∈κ then none else some i:=(rfl)
theorem zho {i:Nat}:Hi m i=if i<m then some i else none:=(rfl)
theorem zie {i:Nat}:Yv m i=if i<m then none else some (i-m):=(rfl)
theorem zmq {f:FuncId} {fs cs args:List C}:zdP P G (.clo (.func f) fs cs) args nx K2 ⟨⟩=x6 P G f (C.frzL (fs++args++cs)) nx K2 ⟨⟩:=(rfl)
theorem zrM {kd:LK} {s b:Nat} {z1:List Value}:zok (some ⟨kd,s,b,some z1⟩) ⟨tm,bx,nx,lg⟩ K3 ⟨⟩=((z1.all Value.oneCell')=true/\K3 (.ptr bx.length 0) ⟨tm,bx++[z1.map zy],nx,lg⟩):=(rfl)
theorem zrt:zpe c ⟨tm,bx,nx,lg⟩ K3 ⟨⟩=(c.partB=true/\(c.cells.all C.cellB)=true/\K3 (.ptr bx.length 0) ⟨tm,bx++[c.cells],nx,lg⟩):=(rfl)
theorem zre {L:Lay} {i off:Nat}:znQ (some L) (.ptr i off) c ⟨tm,bx,nx,lg⟩ K3 ⟨⟩=zor (bx[i]?) i off L.size c ⟨tm,bx,nx,lg⟩ K3 ⟨⟩:=(rfl)
theorem zq1 {cs:List C} {i off size:Nat}:zor (some cs) i off size c ⟨tm,bx,nx,lg⟩ K3 ⟨⟩=(c.partB=true/\(c.cells.all C.cellB)=true/\c.cells.length=size/\off+size<=cs.length/\K3 .any ⟨tm,bx.set i (cs.take off++c.cells++cs.drop (off+size)),nx,lg⟩):=(rfl)
theorem zh9 {v:Value}:C.frz (.sc v) = .sc v:=(show C.frz (.sc v) = .sc v from by rw[C.frz])
theorem zlT {v:Value} {id:Nat}:C.dg id (.sc v) = .sc v:=(show C.dg id (.sc v) = .sc v from by rw[C.dg])
theorem zlR {v:Value} {n:Nat}:C.sh n (.sc v) = .sc v:=(show C.sh n (.sc v) = .sc v from by rw[C.sh])
theorem zd0 {l:List UInt8}:C.frz (.str l) = .str l:=(show C.frz (.str l) = .str l from by rw[C.frz])
theorem zi2 {l:List UInt8} {id:Nat}:C.dg id (.str l) = .str l:=(show C.dg id (.str l) = .str l from by rw[C.dg])
theorem zhu {l:List UInt8} {n:Nat}:C.sh n (.str l) = .str l:=(show C.sh n (.str l) = .str l from by rw[C.sh])
theorem zik {k:Nat} {rows:List (List C)}:C.frz (.sl k rows) = .sl k rows:=(show C.frz (.sl k rows) = .sl k rows from by rw[C.frz])
theorem zle {k:Nat} {rows:List (List C)} {id:Nat}:C.dg id (.sl k rows) = .sl k rows:=(show C.dg id (.sl k rows) = .sl k rows from by rw[C.dg])
theorem zna {k:Nat} {rows:List (List C)} {n:Nat}:C.sh n (.sl k rows) = .sl k rows:=(show C.sh n (.sl k rows) = .sl k rows from by rw[C.sh])
theorem zgh {cs:List C}:C.frz (.row cs) = .row cs:=(show C.frz (.row cs) = .row cs from by rw[C.frz])
theorem zhY {cs:List C} {id:Nat}:C.dg id (.row cs) = .row cs:=(show C.dg id (.row cs) = .row cs from by rw[C.dg])
theorem zig {cs:List C} {n:Nat}:C.sh n (.row cs) = .row cs:=(show C.sh n (.row cs) = .row cs from by rw[C.sh])
theorem zh3 {id:Nat}:C.dg id (.any) = .any:=(show C.dg id (.any) = .any from by rw[C.dg])
theorem zhC {n:Nat}:C.sh n (.any) = .any:=(show C.sh n (.any) = .any from by rw[C.sh])
theorem zkU {i:Nat} {t2:TypeId} {ks:MK} {vs:List C} {n:Nat}:C.sh n (.mo i t2 ks vs) = .mo (n+i) t2 ks vs:=(show C.sh n (.mo i t2 ks vs) = .mo (n+i) t2 ks vs from by rw[C.sh])
theorem zlr {i:Nat} {t2:TypeId} {ks:MK} {vs:List C}:C.fz bx (.mo i t2 ks vs) = .mo i t2 ks vs:=(show C.fz bx (.mo i t2 ks vs) = .mo i t2 ks vs from by rw[C.fz])
theorem zm6 {v:Value} {id:Nat} {ks1:MK} {vs1:List C}:C.up id ks1 vs1 (.sc v) = .sc v:=(show C.up id ks1 vs1 (.sc v) = .sc v from by rw[C.up])
theorem zk5 {i:Nat} {t2:TypeId} {ks:MK} {vs:List C} {id:Nat} {ks1:MK} {vs1:List C}:C.up id ks1 vs1 (.mo i t2 ks vs)=if i=id then .mo i t2 ks1 vs1 else .mo i t2 ks vs:=(show C.up id ks1 vs1 (.mo i t2 ks vs)=if i=id then .mo i t2 ks1 vs1 else .mo i t2 ks vs from by rw[C.up])
theorem za6 {id:Nat} {ks1:MK} {vs1:List C}:zgT id ks1 vs1 [] = []:=(rfl)
theorem zpt {u:Nat} {r:List (Nat×C)} {id:Nat} {ks1:MK} {vs1:List C}:zgT id ks1 vs1 ((u,c) :: r)=(u,c.up id ks1 vs1) :: zgT id ks1 vs1 r:=(rfl)
theorem zck {id:Nat} {ks1:MK} {vs1:List C}:zdf id ks1 vs1 [] = []:=(rfl)
theorem zdN {id e k:Nat} {rows:List (List C)}:C.frz (.own id e k rows) = .sl k rows:=(show C.frz (.own id e k rows) = .sl k rows from by rw[C.frz])
theorem ze0 {i off:Nat}:C.frz (.ptr i off) = .any:=(show C.frz (.ptr i off) = .any from by rw[C.frz])
theorem zhk {id i off:Nat}:C.dg id (.ptr i off) = .ptr i off:=(show C.dg id (.ptr i off) = .ptr i off from by rw[C.dg])
theorem zjv {id i e k:Nat} {rows:List (List C)}:C.dg id (.own i e k rows)=if i=id then .sl k rows else .own i e k rows:=(show C.dg id (.own i e k rows)=if i=id then .sl k rows else .own i e k rows from by rw[C.dg])
theorem zht {n i e k:Nat} {rows:List (List C)}:C.sh n (.own i e k rows) = .own (n+i) e k rows:=(show C.sh n (.own i e k rows) = .own (n+i) e k rows from by rw[C.sh])
theorem zk4 {v:Value} {fp fo:Nat->Option Nat}:C.re fp fo (.sc v) = .sc v:=(show C.re fp fo (.sc v) = .sc v from by rw[C.re])
theorem zjT {v:Value} {fp:Nat->Option Nat}:C.sel fp (.sc v) = .sc v:=(show C.sel fp (.sc v) = .sc v from by rw[C.sel])
theorem zhL {l:List UInt8} {fp fo:Nat->Option Nat}:C.re fp fo (.str l) = .str l:=(show C.re fp fo (.str l) = .str l from by rw[C.re])
theorem zdc {l:List UInt8} {fp:Nat->Option Nat}:C.sel fp (.str l) = .str l:=(show C.sel fp (.str l) = .str l from by rw[C.sel])
theorem zmf {k:Nat} {rows:List (List C)} {fp fo:Nat->Option Nat}:C.re fp fo (.sl k rows) = .sl k rows:=(show C.re fp fo (.sl k rows) = .sl k rows from by rw[C.re])
theorem zgV {k:Nat} {rows:List (List C)} {fp:Nat->Option Nat}:C.sel fp (.sl k rows) = .sl k rows:=(show C.sel fp (.sl k rows) = .sl k rows from by rw[C.sel])
theorem zan {k:Nat} {rows:List (List C)} {fp fo:Nat->Option Nat}:C.re fp fo (.tight k rows) = .tight k rows:=(show C.re fp fo (.tight k rows) = .tight k rows from by rw[C.re])
theorem zj2 {cs:List C} {fp fo:Nat->Option Nat}:C.re fp fo (.row cs) = .row cs:=(show C.re fp fo (.row cs) = .row cs from by rw[C.re])
theorem zfv {cs:List C} {fp:Nat->Option Nat}:C.sel fp (.row cs) = .row cs:=(show C.sel fp (.row cs) = .row cs from by rw[C.sel])
theorem zhS {fp fo:Nat->Option Nat}:C.re fp fo (.any) = .any:=(show C.re fp fo (.any) = .any from by rw[C.re])
theorem zmw {v:Value}:C.fz bx (.sc v) = .sc v:=(show C.fz bx (.sc v) = .sc v from by rw[C.fz])
theorem ziq {l:List UInt8}:C.fz bx (.str l) = .str l:=(show C.fz bx (.str l) = .str l from by rw[C.fz])
theorem zk3 {k:Nat} {rows:List (List C)}:C.fz bx (.sl k rows) = .sl k rows:=(show C.fz bx (.sl k rows) = .sl k rows from by rw[C.fz])
theorem zjn {id e k:Nat} {rows:List (List C)}:C.fz bx (.own id e k rows) = .own id e k rows:=(show C.fz bx (.own id e k rows) = .own id e k rows from by rw[C.fz])
theorem zjF {cs:List C}:C.fz bx (.row cs) = .row cs:=(show C.fz bx (.row cs) = .row cs from by rw[C.fz])
theorem zjG {i off:Nat}:C.fz bx (.ptr i off)=zrH (bx[i]?) off:=(show C.fz bx (.ptr i off)=zrH (bx[i]?) off from by rw[C.fz];rfl)
theorem zk1 {off:Nat} {cs:List C}:zrH (some cs) off = .row ((C.frzL cs).drop off):=(rfl)
theorem zbm {f:Fn} {a b:Array Value}:Value.oneCell' (.func f a b)=true:=(rfl)
theorem zh0 {id e k:Nat} {rows:List (List C)} {fp fo:Nat->Option Nat}:C.re fp fo (.own id e k rows)=zqB (fo id) e k rows:=(show C.re fp fo (.own id e k rows)=zqB (fo id) e k rows from by rw[C.re];rfl)
theorem zgW {i off:Nat} {fp fo:Nat->Option Nat}:C.re fp fo (.ptr i off)=znz (fp i) off:=(show C.re fp fo (.ptr i off)=znz (fp i) off from by rw[C.re];rfl)
theorem zd9 {i off:Nat} {fp:Nat->Option Nat}:C.sel fp (.ptr i off)=znz (fp i) off:=(show C.sel fp (.ptr i off)=znz (fp i) off from by rw[C.sel];rfl)
theorem zlG {j e k:Nat} {rows:List (List C)}:zqB (some j) e k rows = .own j e k rows:=(rfl)
theorem zns {e k:Nat} {rows:List (List C)}:zqB none e k rows = .sl k rows:=(rfl)
theorem zkL {j off:Nat}:znz (some j) off = .ptr j off:=(rfl)
theorem zmp {off:Nat}:znz none off = .any:=(rfl)
theorem zlV {v:Value} {fr:Fr}:C.fy nx fr bx (.sc v) = .sc v:=(show C.fy nx fr bx (.sc v) = .sc v from by rw[C.fy])
theorem zlz {k:Nat} {rows:List (List C)} {fr:Fr}:C.fy nx fr bx (.sl k rows) = .sl k rows:=(show C.fy nx fr bx (.sl k rows) = .sl k rows from by rw[C.fy])
theorem znt {i off k n cap:Nat} {fr:Fr}:C.fy nx fr bx (.bs i off k n cap)=VJ nx fr i off k n cap:=(show C.fy nx fr bx (.bs i off k n cap)=VJ nx fr i off k n cap from by rw[C.fy])
theorem zjH {i off k n cap i2 e k2 cap2:Nat} {rows:List (List C)} {r:Fr}:VJ nx ((i2,e,k2,rows,cap2) :: r) i off k n cap=if i=i2/\off=0/\k=k2/\n=rows.length/\cap=cap2 then .own nx e k2 rows else VJ (nx+1) r i off k n cap:=(show VJ nx ((i2,e,k2,rows,cap2) :: r) i off k n cap=if i=i2/\off=0/\k=k2/\n=rows.length/\cap=cap2 then .own nx e k2 rows else VJ (nx+1) r i off k n cap from by rw[VJ])
theorem zhK {cs:List C} {fp fo:Nat->Option Nat}:C.re fp fo (.agg cs) = .agg (C.reL fp fo cs):=(show C.re fp fo (.agg cs) = .agg (C.reL fp fo cs) from by rw[C.re])
theorem ziy {cs:List C} {fp fo:Nat->Option Nat}:C.re fp fo (.tup cs) = .tup (C.reL fp fo cs):=(show C.re fp fo (.tup cs) = .tup (C.reL fp fo cs) from by rw[C.re])
theorem zif {fn:Fn} {fs cs:List C} {fp fo:Nat->Option Nat}:C.re fp fo (.clo fn fs cs) = .clo fn (C.reL fp fo fs) (C.reL fp fo cs):=(show C.re fp fo (.clo fn fs cs) = .clo fn (C.reL fp fo fs) (C.reL fp fo cs) from by rw[C.re])
theorem zc7 {fp fo:Nat->Option Nat}:C.reL fp fo [] = []:=(show C.reL fp fo [] = [] from by rw[C.reL])
theorem zaw {r:List C} {fp fo:Nat->Option Nat}:C.reL fp fo (c :: r)=C.re fp fo c :: C.reL fp fo r:=(show C.reL fp fo (c :: r)=C.re fp fo c :: C.reL fp fo r from by rw[C.reL])
theorem zeE {cs:List C} {fp:Nat->Option Nat}:C.sel fp (.agg cs) = .agg (C.selL fp cs):=(show C.sel fp (.agg cs) = .agg (C.selL fp cs) from by rw[C.sel])
theorem zgc {fn:Fn} {fs cs:List C} {fp:Nat->Option Nat}:C.sel fp (.clo fn fs cs) = .clo fn (C.selL fp fs) (C.selL fp cs):=(show C.sel fp (.clo fn fs cs) = .clo fn (C.selL fp fs) (C.selL fp cs) from by rw[C.sel])
theorem zbZ {fp:Nat->Option Nat}:C.selL fp [] = []:=(show C.selL fp [] = [] from by rw[C.selL])
theorem yX {r:List C} {fp:Nat->Option Nat}:C.selL fp (c :: r)=C.sel fp c :: C.selL fp r:=(show C.selL fp (c :: r)=C.sel fp c :: C.selL fp r from by rw[C.selL])
theorem ziU {cs:List C} :C.fz bx (.agg cs) = .agg (C.fzL bx cs):=(show C.fz bx (.agg cs) = .agg (C.fzL bx cs) from by rw[C.fz])
theorem zj1 {cs:List C} :C.fz bx (.tup cs) = .tup (C.fzL bx cs):=(show C.fz bx (.tup cs) = .tup (C.fzL bx cs) from by rw[C.fz])
theorem zgU {fn:Fn} {fs cs:List C} :C.fz bx (.clo fn fs cs) = .clo fn (C.fzL bx fs) (C.fzL bx cs):=(show C.fz bx (.clo fn fs cs) = .clo fn (C.fzL bx fs) (C.fzL bx cs) from by rw[C.fz])
theorem zeF:C.fzL bx [] = []:=(show C.fzL bx [] = [] from by rw[C.fzL])
theorem zb6 {r:List C} :C.fzL bx (c :: r)=C.fz bx c :: C.fzL bx r:=(show C.fzL bx (c :: r)=C.fz bx c :: C.fzL bx r from by rw[C.fzL])
theorem ziM {cs:List C} {fr:Fr}:C.fy nx fr bx (.agg cs) = .agg (C.fyL nx fr bx cs):=(show C.fy nx fr bx (.agg cs) = .agg (C.fyL nx fr bx cs) from by rw[C.fy])
theorem zjK {cs:List C} {fr:Fr}:C.fy nx fr bx (.tup cs) = .tup (C.fyL nx fr bx cs):=(show C.fy nx fr bx (.tup cs) = .tup (C.fyL nx fr bx cs) from by rw[C.fy])
theorem ze6 {fr:Fr}:C.fyL nx fr bx [] = []:=(show C.fyL nx fr bx [] = [] from by rw[C.fyL])
theorem zav {r:List C} {fr:Fr}:C.fyL nx fr bx (c :: r)=C.fy nx fr bx c :: C.fyL nx fr bx r:=(show C.fyL nx fr bx (c :: r)=C.fy nx fr bx c :: C.fyL nx fr bx r from by rw[C.fyL])
theorem zds {cs:List C}:C.frz (.agg cs) = .agg (C.frzL cs):=(show C.frz (.agg cs) = .agg (C.frzL cs) from by rw[C.frz])
theorem zeO {fn:Fn} {fs cs:List C}:C.frz (.clo fn fs cs) = .clo fn (C.frzL fs) (C.frzL cs):=(show C.frz (.clo fn fs cs) = .clo fn (C.frzL fs) (C.frzL cs) from by rw[C.frz])
theorem zby:C.frzL [] = []:=(show C.frzL [] = [] from by rw[C.frzL])
theorem vp {r:List C}:C.frzL (c :: r)=C.frz c :: C.frzL r:=(show C.frzL (c :: r)=C.frz c :: C.frzL r from by rw[C.frzL])
theorem zjx {cs:List C} {id:Nat}:C.dg id (.agg cs) = .agg (C.dgL id cs):=(show C.dg id (.agg cs) = .agg (C.dgL id cs) from by rw[C.dg])
theorem zi6 {cs:List C} {id:Nat}:C.dg id (.tup cs) = .tup (C.dgL id cs):=(show C.dg id (.tup cs) = .tup (C.dgL id cs) from by rw[C.dg])
theorem zh2 {fn:Fn} {fs cs:List C} {id:Nat}:C.dg id (.clo fn fs cs) = .clo fn (C.dgL id fs) (C.dgL id cs):=(show C.dg id (.clo fn fs cs) = .clo fn (C.dgL id fs) (C.dgL id cs) from by rw[C.dg])
theorem zcH {id:Nat}:C.dgL id [] = []:=(show C.dgL id [] = [] from by rw[C.dgL])
theorem zaG {r:List C} {id:Nat}:C.dgL id (c :: r)=C.dg id c :: C.dgL id r:=(show C.dgL id (c :: r)=C.dg id c :: C.dgL id r from by rw[C.dgL])
theorem zj3 {cs:List C} {n:Nat}:C.sh n (.agg cs) = .agg (C.shL n cs):=(show C.sh n (.agg cs) = .agg (C.shL n cs) from by rw[C.sh])
theorem zjf {cs:List C} {n:Nat}:C.sh n (.tup cs) = .tup (C.shL n cs):=(show C.sh n (.tup cs) = .tup (C.shL n cs) from by rw[C.sh])
theorem zh4 {fn:Fn} {fs cs:List C} {n:Nat}:C.sh n (.clo fn fs cs) = .clo fn (C.shL n fs) (C.shL n cs):=(show C.sh n (.clo fn fs cs) = .clo fn (C.shL n fs) (C.shL n cs) from by rw[C.sh])
theorem zcS {n:Nat}:C.shL n [] = []:=(show C.shL n [] = [] from by rw[C.shL])
theorem zcc {r:List C} {n:Nat}:C.shL n (c :: r)=C.sh n c :: C.shL n r:=(show C.shL n (c :: r)=C.sh n c :: C.shL n r from by rw[C.shL])
theorem zbB {id:Nat}:zbY id [] = []:=(rfl)
theorem zp7 {id u:Nat} {r:List (Nat×C)}:zbY id ((u,c) :: r)=(u,c.dg id) :: zbY id r:=(rfl)
theorem zap {id:Nat}:xt id [] = []:=(rfl)
theorem zpd {id:Nat} {cs:List C} {r:List (List C)}:xt id (cs :: r)=C.dgL id cs :: xt id r:=(rfl)
theorem xR {l:List UInt8}:C.cellB (.str l)=true:=(rfl)
theorem yG {l:List UInt8}:C.partB (.str l)=true:=(rfl)
theorem yH {l:List UInt8}:C.cells (.str l) = [.str l]:=(rfl)
theorem zbn {k:Nat} {rows:List (List C)}:C.cellB (.sl k rows)=true:=(rfl)
theorem zbG {k:Nat} {rows:List (List C)}:C.partB (.sl k rows)=true:=(rfl)
theorem zbN {k:Nat} {rows:List (List C)}:C.cells (.sl k rows) = [.sl k rows]:=(rfl)
theorem yS {id e k:Nat} {rows:List (List C)}:C.cellB (.own id e k rows)=true:=(rfl)
theorem yq {id e k:Nat} {rows:List (List C)}:C.partB (.own id e k rows)=true:=(rfl)
theorem xY {id e k:Nat} {rows:List (List C)}:C.cells (.own id e k rows) = [.own id e k rows]:=(rfl)
theorem yZ {fn:Fn} {fs cs:List C}:C.cellB (.clo fn fs cs)=true:=(rfl)
theorem xA {fn:Fn} {fs cs:List C}:C.partB (.clo fn fs cs)=true:=(rfl)
theorem xJ {fn:Fn} {fs cs:List C}:C.cells (.clo fn fs cs) = [.clo fn fs cs]:=(rfl)
theorem zbJ {v:Value}:C.cellB (.sc v)=v.oneCell':=(rfl)
theorem zbX {v:Value}:C.partB (.sc v)=v.oneCell':=(rfl)
theorem zaY {v:Value}:C.cells (.sc v) = [.sc v]:=(rfl)
theorem vI {cs:List C}:C.partB (.agg cs)=true:=(rfl)
theorem xE {cs:List C}:C.cells (.agg cs)=cs:=(rfl)
theorem zdd {k:IntKind} {n:Int}:Value.oneCell' (.int k n)=true:=(rfl)
theorem zba {b:Bool}:Value.oneCell' (.bool b)=true:=(rfl)
theorem vB {a:Option Addr} {n m:Nat}:Value.oneCell' (.slice a n m)=true:=(rfl)
theorem Ml {s:ByteArray}:Value.oneCell' (.string s)=true:=(rfl)
theorem zmu {k:Nat} {cs:List C}:Qh k 0 cs = []:=(rfl)
theorem zkQ {k n:Nat} {cs:List C}:Qh k (n+1) cs=cs.take k :: Qh k n (cs.drop k):=(rfl)
theorem zm9 {i:Nat}:VV i [] = []:=(rfl)
theorem zoM {i:Nat} {r:List C}:VV i (c :: r)=(i,c) :: VV (i+1) r:=(rfl)
theorem zgE:zmA (.sc (.bool true)) X Y ⟨⟩ ⟨⟩=X:=zjl
theorem zbL:zmA (.sc (.bool false)) X Y ⟨⟩ ⟨⟩=Y:=zd3
theorem br {b:Bool} (hx:b=true->X) (hy:b=false->Y):zmA (.sc (.bool b)) X Y ⟨⟩ ⟨⟩:=ABr.mk hx hy
theorem j7 {f:FuncId} {args fargs a1:List C} {fbx:List (List C)} {q:Nat} {post:C->List (List C)->Nat->Prop} (ι κ:List Nat) (hf:Xc P G f a1 fbx q post) (hq:κ.length=q) (hι:ι.Nodup) (hκ:κ.Nodup) (hb:∀ i∈ι,i<bx.length)
  (ha:C.reL (Xh ι) (Xh κ) args=a1) (hx:(ι.map fun i=>C.reL (Xh ι) (Xh κ) (bx.getD i []))=fbx) (hK:∀ r fbx' n,post r fbx' n->K3 (r.re (upB ι bx.length) (upO nx)) (QP ι κ fbx' n ⟨tm,bx,nx,lg⟩)):Qr P G f args fargs ⟨tm,bx,nx,lg⟩ K3 ⟨⟩:=
 .inr <| .inr <| .inr <| .inl ⟨ι,κ,post,hι,hκ,hb,by rw[ha,hq];exact hx▸hf,hK⟩
theorem zmh {K4:C->List (List C)->Nat->Prop} {f:FuncId} {args a1:List C} {fbx:List (List C)} {post:C->List (List C)->Nat->Prop} (ι:List Nat) (hf:Xc P G f a1 fbx 0 post) (hι:ι.Nodup) (hb:∀ i∈ι,i<bx.length)
  (ha:C.reL (Xh ι) (Xh []) args=a1) (hx:(ι.map fun i=>C.reL (Xh ι) (Xh []) (bx.getD i []))=fbx) (hK:∀ r fbx' n,post r fbx' n->K4 (r.re (upB ι bx.length) (upO nx)) (QP ι [] fbx' n ⟨tm,bx,nx,lg⟩).bx (nx+n)):zsb P G f args ⟨tm,bx,nx,lg⟩ K4 ⟨⟩:=
 ⟨ι,post,hι,hb,by rw[ha];exact hx▸hf,hK⟩
theorem zpY {f:FuncId} {args fargs:List C} {r:C} (hf:zrx P f args bx r) (hK:K3 r ⟨tm,bx,nx,lg⟩):Qr P G f args fargs ⟨tm,bx,nx,lg⟩ K3 ⟨⟩:=.inr <| .inr <| .inr <| .inr ⟨r,hf,hK⟩
theorem zlQ {e s1 b1 k by' m i off n cap:Nat} {kd:LK} {z1 z:Option (List Value)} {xs cs:List C} (hl:lay P t=some ⟨.slice e,s1,b1,z1⟩) (hle:lay P e=some ⟨kd,k,by',z⟩) (hx:d.xs? k bx=some (m,xs)) (hb:bx[i]?=some cs) (hxl:xs.length=m*k) (hfit:off+n*k<=cs.length)
  (hK:K3 (.sc (.int .i64 ((min m n:Nat):Int))) ⟨tm,bx.set i (spl cs off (xs.take (min m n*k))),nx,lg⟩):Nx P t (.bs i off k n cap) d ⟨tm,bx,nx,lg⟩ K3 ⟨⟩:=by
 show QC P t _ _ _ _
 unfold QC
 simp only[hl,hle,hx,hb]
 exact ⟨trivial,hxl,hfit,hK⟩
theorem zoW {e s1 b1 k by' m:Nat} {c:C} {kd:LK} {z1 z:Option (List Value)} {xs:List C} (hl:lay P t=some ⟨.slice e,s1,b1,z1⟩) (hle:lay P e=some ⟨kd,k,by',z⟩) (hx:d.xs? k bx=some (m,xs)) (hc:c.rows? k=some []) (hb:∀ i off k n c',c≠.bs i off k n c') (hxl:xs.length=m*k)
  (hK:K3 (.sc (.int .i64 0)) ⟨tm,bx,nx,lg⟩):Nx P t c d ⟨tm,bx,nx,lg⟩ K3 ⟨⟩:=by
 show QC P t _ _ _ _
 unfold QC
 simp only[hl,hle,hx]
 cases c<;>first
  | exact absurd rfl (hb _ _ _ _ _)
  | (simp only[hc];exact ⟨hxl,hK⟩)
theorem zqo {e s1 b1 k by' i off n cap:Nat} {kd:LK} {z1:Option (List Value)} {z:List Value} {cs:List C} (hl:lay P t=some ⟨.slice e,s1,b1,z1⟩) (hle:lay P e=some ⟨kd,k,by',some z⟩) (hb:bx[i]?=some cs) (hz:z.length=k) (hk:0<k) (h1:(z.all Value.oneCell')=true) (hfit:off+n*k<=cs.length)
  (hK:K3 .any ⟨tm,bx.set i (spl cs off (List.replicate n (z.map zy)).flatten),nx,lg⟩):xC P t (.bs i off k n cap) ⟨tm,bx,nx,lg⟩ K3 ⟨⟩:=by
 show UP P t _ _ _
 unfold UP
 simp only[hl,hle,hb]
 exact ⟨trivial,hz,hk,h1,hfit,hK⟩
theorem uo {e s1 b1 k by' m:Nat} {kd:LK} {z1:Option (List Value)} {z:List Value} {xs:List C} (hl:lay P t=some ⟨.slice e,s1,b1,z1⟩) (hle:lay P e=some ⟨kd,k,by',some z⟩) (hx:d.xs? k bx=some (m,xs)) (hz:z.length=k) (hk:0<k) (h1:(z.all Value.oneCell')=true) (hxl:xs.length=m*k) (hm:0<m) (h63:m<=9223372036854775807) (hby:m*by'<=140737488355328)
  (hK:∀ cap,m<=cap->cap<=9223372036854775807->K3 (.bs bx.length 0 k m cap) ⟨tm,bx++[xs++List.replicate ((cap-m)*k) .any],nx,lg⟩):yQ P t (.sc (.slice none 0 0)) d ⟨tm,bx,nx,lg⟩ K3 ⟨⟩:=by
 show Yb P t _ _ _ _
 unfold Yb
 simp only[hl,hle,hx]
 exact ⟨hz,hk,h1,hxl,hm,h63,hby,fun c h1 h2=>hK c h1 (by unfold maxLen at h2;omega)⟩
theorem Uq {e s1 b1 k by' m i off n cap:Nat} {kd:LK} {z1:Option (List Value)} {z:List Value} {xs cs:List C} (hl:lay P t=some ⟨.slice e,s1,b1,z1⟩) (hle:lay P e=some ⟨kd,k,by',some z⟩) (hx:d.xs? k bx=some (m,xs)) (hz:z.length=k) (hk:0<k) (h1:(z.all Value.oneCell')=true) (hxl:xs.length=m*k)
  (hb:bx[i]?=some cs) (hfit:off+cap*k<=cs.length) (hn:n<=cap) (h63:n+m<=9223372036854775807) (hby:(n+m)*by'<=140737488355328)
  (hK1:n+m<=cap->K3 (.bs i off k (n+m) cap) ⟨tm,bx.set i (spl cs (off+n*k) xs),nx,lg⟩)
  (hK2:cap<n+m->∀ c',n+m<=c'->c'<=9223372036854775807->K3 (.bs bx.length 0 k (n+m) c') ⟨tm,bx++[(cs.drop off).take (n*k)++xs++List.replicate ((c'-(n+m))*k) .any],nx,lg⟩):yQ P t (.bs i off k n cap) d ⟨tm,bx,nx,lg⟩ K3 ⟨⟩:=by
 show Yb P t _ _ _ _
 unfold Yb
 simp only[hl,hle,hx,hb]
 exact ⟨hz,hk,h1,hxl,trivial,hfit,hn,h63,hby,hK1,fun h c h1 h2=>hK2 h c h1 (by unfold maxLen at h2;omega)⟩
theorem zej {tn e s1 b1 s2 b2 k by':Nat} {kn kq:IntKind} {kd:LK} {z1 z2:Option (List Value)} {z:List Value} {q:Int} (hl:lay P t=some ⟨.slice e,s1,b1,z1⟩) (hln:lay P tn=some ⟨.int kn,s2,b2,z2⟩) (hle:lay P e=some ⟨kd,k,by',some z⟩) (hz:z.length=k) (hk:0<k) (h1:(z.all Value.oneCell')=true)
  (hq:0<q) (h63:q<=9223372036854775807) (hby:q*by'<=140737488355328) (hK:∀ c',q.toNat<=c'->c'<=maxLen->K3 (.bs bx.length 0 k q.toNat c') ⟨tm,bx++[(List.replicate q.toNat (z.map zy)).flatten++List.replicate ((c'-q.toNat)*k) .any],nx,lg⟩) :
  zai P t tn (.sc (.slice none 0 0)) (.sc (.int kq q)) ⟨tm,bx,nx,lg⟩ K3 ⟨⟩:=by
 show HH P t tn _ _ _ _
 unfold HH
 simp only[hl,hln,hle]
 exact ⟨hz,hk,h1,hq,h63,hby,hK⟩
theorem zsE {tn e s1 b1 s2 b2 k by' i off n cap:Nat} {kn kq:IntKind} {kd:LK} {z1 z2:Option (List Value)} {z:List Value} {cs:List C} {q:Int} (hl:lay P t=some ⟨.slice e,s1,b1,z1⟩) (hln:lay P tn=some ⟨.int kn,s2,b2,z2⟩) (hle:lay P e=some ⟨kd,k,by',some z⟩) (hz:z.length=k) (hk:0<k) (h1:(z.all Value.oneCell')=true)
  (hb:bx[i]?=some cs) (hfit:off+cap*k<=cs.length) (hn:n<=cap) (hq:0<q) (h63:(n:Int)+q<=9223372036854775807) (hby:((n:Int)+q)*by'<=140737488355328) (hg:(cap:Int)<n+q)
  (hK:∀ c',n+q.toNat<=c'->c'<=9223372036854775807->K3 (.bs bx.length 0 k (n+q.toNat) c') ⟨tm,bx++[(cs.drop off).take (n*k)++(List.replicate q.toNat (z.map zy)).flatten++List.replicate ((c'-(n+q.toNat))*k) .any],nx,lg⟩):zai P t tn (.bs i off k n cap) (.sc (.int kq q)) ⟨tm,bx,nx,lg⟩ K3 ⟨⟩:=by
 show HH P t tn _ _ _ _
 unfold HH
 simp only[hl,hln,hle,hb]
 exact ⟨hz,hk,h1,trivial,hfit,hn,hq,h63,hby,hg,fun c h1 h2=>hK c h1 (by unfold maxLen at h2;omega)⟩
def opB (P:Program) (fn:Func) (code:Code) (b:Nat->List Bool):Bool:=P.follows .mixedOrders&&(!(fn.name == "runtime.NumGoroutine")&&jt fn.ntmps b code)
theorem zoH {fn:Func} {code:Code} {b:Nat->List Bool} (h:opB P fn code b=true):P.follows .mixedOrders=true:=(Bool.and_eq_true_iff.1 h).1
theorem zpB {fn:Func} {code:Code} {b:Nat->List Bool} (h:opB P fn code b=true):(fn.name == "runtime.NumGoroutine")=false:=by
 have:=(Bool.and_eq_true_iff.1 (Bool.and_eq_true_iff.1 h).2).1
 simpa using this
theorem zol {fn:Func} {code:Code} {b:Nat->List Bool} (h:opB P fn code b=true):jt fn.ntmps b code=true:=(Bool.and_eq_true_iff.1 (Bool.and_eq_true_iff.1 h).2).2
theorem foF {f:FuncId} {fn:Func} {code:Code} {args:List C} {r:C} {n:Nat} (b:Nat->List Bool) (hf:P.funcs[f]?=some fn)
  (h:Z0 P G ⟨0,none,b⟩ code (MQ P fn.results.toList (fun c σ=>∃ (fr:Fr) (src:Src),zbO fr σ.bx/\Qg src=true/\src.length=n/\CLe src 0 (c.fy σ.nx fr σ.bx) r) ⟨⟩) ⟨VV 0 args,[],0,0⟩ ⟨⟩ ⟨⟩) (hb:fn.body=some code:=by rfl) (hN:args.length<=fn.ntmps:=by exact zhJ rfl) (ho:opB P fn code b=true:=by kernel_rfl):Fun P G f args r n:=Fun.of_awpF b (zoH ho) hf hb (zpB ho) hN (zol ho) h
theorem foX {f:FuncId} {fn:Func} {code:Code} {args:List C} {bx:List (List C)} {q:Nat} {post:C->List (List C)->Nat->Prop} (b:Nat->List Bool) (hf:P.funcs[f]?=some fn)
  (h:Z0 P G ⟨bx.length,none,b⟩ code (MQ P fn.results.toList (fun c σ=>∃ r bx' n,(post r bx' n/\bx.length<=bx'.length)/\∃ src:Src,Qg src=true/\src.length=n/\za src bx'.length σ.bx bx'/\CLe src bx'.length c r) ⟨⟩) ⟨VV 0 args,bx,q,0⟩ ⟨⟩ ⟨⟩) (hb:fn.body=some code:=by rfl) (hN:args.length<=fn.ntmps:=by exact zhJ rfl) (ho:opB P fn code b=true:=by kernel_rfl):Xc P G f args bx q post:=Xc.of_awp b (zoH ho) hf hb (zpB ho) hN (zol ho) h
theorem znW {f:FuncId} {args fargs:List C} {r:C} {n:Nat} (gargs:List C) (hf:Fun P G f gargs r n) (hr:r.freshB=true) (hl:Xl bx args gargs) (hK:K3 (r.sh nx) ⟨tm,bx,nx+n,lg⟩):Qr P G f args fargs ⟨tm,bx,nx,lg⟩ K3 ⟨⟩:=.inr <| .inr <| .inl ⟨gargs,r,n,hl,hf,hr,hK⟩
theorem call {f:FuncId} {args fargs:List C} {r:C} {n:Nat} (hf:Fun P G f fargs r n) (hK:K3 (r.sh nx) ⟨tm,bx,nx+n,lg⟩):Qr P G f args fargs ⟨tm,bx,nx,lg⟩ K3 ⟨⟩:=.inl ⟨r,n,hf,hK⟩
theorem kM {f:FuncId} {args:List C} {r:C} {n:Nat} (hf:Fun P G f args r n) (hK:K2 (r.sh nx) (nx+n)):x6 P G f args nx K2 ⟨⟩:=zah.mk hf hK
theorem Fun.less {f:FuncId} {args args':List C} {r:C} {n:Nat} (hf:Fun P G f args' r n) (hl:zd [] 0 args args'):Fun P G f args r n:=⟨hf.1,fun R vs hg ha=>hf.2 R vs hg (by
 have:=zu.less _ _ _ hl ha
 refine zu.ext (Ext.refl R) ⟨fun i b hb=>?_,fun id x hx=>?_⟩ _ _ this
 ·simp at hb
 ·have hx:ZA [] zF.T id=some x:=hx
  simp[ZA]at hx)⟩
theorem Qz {f:FuncId} {args fargs a1:List C} {fbx fbx':List (List C)} {r:C} {n q:Nat} (ι κ:List Nat) (hf:MV P G f a1 fbx q r fbx' n) (hq:κ.length=q) (hι:ι.Nodup) (hκ:κ.Nodup) (hb:∀ i∈ι,i<bx.length)
  (ha:C.reL (Xh ι) (Xh κ) args=a1) (hx:(ι.map fun i=>C.reL (Xh ι) (Xh κ) (bx.getD i []))=fbx) (hK:K3 (r.re (upB ι bx.length) (upO nx)) (QP ι κ fbx' n ⟨tm,bx,nx,lg⟩)):Qr P G f args fargs ⟨tm,bx,nx,lg⟩ K3 ⟨⟩:=
 .inr <| .inl ⟨ι,κ,r,fbx',n,hι,hκ,hb,by rw[ha,hq];exact hx▸hf,hK⟩
theorem range {A B:Nat->(Exit->St->Prop)->St->Prop} {ps:List Tmp} {f:FuncId} {first cap first' cap':List C} {bx':List (List C)} (items:List (List C)) (sf:Nat->Bool) (m:Nat) (I:Nat->St) (hit:xr P G f first' cap' bx' items) (e1:C.selL (Yv m) first=first') (e2:C.selL (Yv m) cap=cap') (e3:(bx.drop m).map (C.selL (Yv m))=bx')
  (hp:p<=m) (hm:m<=bx.length) (hlen:∀ it∈items,it.length=ps.length) (hI:∀ k,k<=items.length->(I k).bx.length=m) (hw:Ji m ⟨[],bx,nx,lg⟩ ((I 0).wt []))
  (hbody:∀ k it,items[k]?=some it->(∀ j,j<k->sf j=false)->A m (zkq (B m (xy m (ko m tm) (sf k) (I (k+1)) Q ⟨⟩ ⟨⟩)) ⟨⟩) ((I k).wt (Z6 ps it (ko m tm))))
  (hdone:(∀ j,j<items.length->sf j=false)->Q .normal ((I items.length).wt (ko m tm))):zfX P G p A B Q ps (.clo (.func f) first cap) ⟨tm,bx,nx,lg⟩ ⟨⟩ ⟨⟩ ⟨⟩:=
 ⟨items,sf,m,I,hp,hm,by rw[e1,e2];exact e3▸hit,hlen,hI,hw,hbody,hdone⟩
theorem loop {B:(Exit->St->Prop)->St->Prop} {ι:Type} (I:ι->St) (ok:ι->Prop) (μ:ι->Nat) (i0:ι) (h0:ok i0) (hw:Ji p σ (I i0))
  (hr:∀ i,ok i->B (uF (fun σ'=>∃ j,ok j/\μ j<μ i/\Ji p σ' (I j)) Q ⟨⟩ ⟨⟩) (I i)):zkH p B Q σ ⟨⟩ ⟨⟩:=⟨ι,I,ok,μ,i0,h0,hw,hr⟩
theorem fof {f:FuncId} {fn:Func} {code:Code} {args:List C} {r:C} {n:Nat} (b:Nat->List Bool) (hf:P.funcs[f]?=some fn)
  (h:Z0 P G ⟨0,none,b⟩ code (MQ P fn.results.toList (fun c σ=>∃ src:Src,Qg src=true/\src.length=n/\CLe src 0 (c.fz σ.bx) r) ⟨⟩) ⟨VV 0 args,[],0,0⟩ ⟨⟩ ⟨⟩) (hb:fn.body=some code:=by rfl) (hN:args.length<=fn.ntmps:=by exact zhJ rfl) (ho:opB P fn code b=true:=by kernel_rfl):Fun P G f args r n:=Fun.of_awp b (zoH ho) hf hb (zpB ho) hN (zol ho) h
theorem fon {f:FuncId} {fn:Func} {code:Code} {args:List C} {r:C} {n:Nat} (hf:P.funcs[f]?=some fn)
  (h:Z0 P G ⟨0,none,fun _=>[]⟩ code (MQ P fn.results.toList (fun c σ=>∃ src:Src,Qg src=true/\src.length=n/\CLe src 0 (c.fz σ.bx) r) ⟨⟩) ⟨VV 0 args,[],0,0⟩ ⟨⟩ ⟨⟩) (hb:fn.body=some code:=by rfl) (hN:args.length<=fn.ntmps:=by exact zhJ rfl) (ho:opB P fn code (fun _=>[])=true:=by kernel_rfl):Fun P G f args r n:=fof _ hf h hb hN ho
theorem foB {f:FuncId} {fn:Func} {code:Code} {args:List C} {bx bx':List (List C)} {r:C} {q n:Nat} (b:Nat->List Bool) (hf:P.funcs[f]?=some fn)
  (h:Z0 P G ⟨bx.length,none,b⟩ code (MQ P fn.results.toList (fun c σ=>∃ src:Src,Qg src=true/\src.length=n/\za src bx'.length σ.bx bx'/\CLe src bx'.length c r) ⟨⟩) ⟨VV 0 args,bx,q,0⟩ ⟨⟩ ⟨⟩) (hb:fn.body=some code:=by rfl) (hN:args.length<=fn.ntmps:=by exact zhJ rfl) (ho:opB P fn code b=true:=by kernel_rfl) (hlen:bx.length<=bx'.length:=by exact zhJ rfl):MV P G f args bx q r bx' n:=MV.of_awp b (zoH ho) hf hb (zpB ho) hN (zol ho) hlen h
theorem foI {f:FuncId} {fn:Func} {code:Code} {first cap:List C} {bx items:List (List C)} (b:Nat->List Bool) (hf:P.funcs[f]?=some fn)
  (h:∀ (l:Nat) (sf:Nat->Bool),Z0 P G ⟨0,some ⟨l,items,sf⟩,b⟩ code (MQ P fn.results.toList (fun c σ=>zmQ items sf σ.lg) ⟨⟩) ⟨VV 0 (first++[.sc (.func (.yield l) #[] #[])]++cap),bx,0,0⟩ ⟨⟩ ⟨⟩) (hb:fn.body=some code:=by rfl) (hN:first.length+1+cap.length<=fn.ntmps:=by exact zhJ rfl) (ho:opB P fn code b=true:=by kernel_rfl):xr P G f first cap bx items:=xr.of_awp b (zoH ho) hf hb (zpB ho) hN (zol ho) h
theorem zqL {i m k n cap b:Nat} {cs xs:List C} {z1:List Value} (A:List C) (hbx:bx[i]?=some cs) (h1:z1.length=k) (h2:0<k) (h3:(z1.all Value.oneCell')=true) (h4:0<m) (hp:p<=i) (hl:cs.length=cap*k) (hn:n<=cap) (hc:cap<=9223372036854775807)
  (h5:n+m<=9223372036854775807) (h6:(n+m)*b<=140737488355328) (hA:C.reL (Jz i) some (cs.take (n*k)++xs)=A)
  (hK:∀ c',n+m<=c'->c'<=9223372036854775807->K3 (.bs i 0 k (n+m) c') ⟨kR (Jz i) some tm,Q8 i (A++List.replicate ((c'-(n+m))*k) .any) bx,nx,lg⟩):zqi (some (m,xs)) p k b z1 (.bs i 0 k n cap) ⟨tm,bx,nx,lg⟩ K3 ⟨⟩:=by
 refine ⟨h1,h2,h3,h4,?_⟩
 simp only[hbx]
 exact ⟨trivial,hp,hl,hn,hc,h5,h6,fun c' q1 q2=>by rw[hA];exact hK c' q1 (by unfold maxLen at q2;omega)⟩
theorem zbD (k:Nat):((k:Int)+1).toNat=k+1:=by omega
theorem zhI.mk {B:(Exit->St->Prop)->St->Prop} {ι:Type} (I:ι->St) (ok:ι->Prop) (μ:ι->Nat) (i0:ι) (h0:ok i0) (hw:Ji p σ (I i0))
  (hr:∀ i,ok i->B (zlS (fun σ'=>∃ j,ok j/\μ j<μ i/\Ji p σ' (I j)) Q) (I i)):zhI p B Q σ:=⟨ι,I,ok,μ,i0,h0,hw,hr⟩
end
attribute [push_cast] eq_self iff_self List.append_eq zq4 zsz zsV zsF zqH zax zrj znf zjo zpb zpq zp1 znU zoy zmr zmY zoc zmT zoC zoS zm1 zrh zoL zmd zoU zrY zqN zoX zly zps zhy zmJ ziT zcA zhB zhF zjd zf3 zgH zfQ ziK zpc znI znN zpU zdA ya zs3 zia zlE zmP zou zpA yx zaF zeR Nn N5 vd zar Mb zg4 xL zaK zlk zkR zp4 zov zn1 zpN zo5 zo4 zmX zpp ziX zje zjg ziB zhg zkK zpO zo3 zm2 zk0 zb1 zaD xI yo kL kG HX zoh zk9 ziw zjX za8 zbF zhV zg0 zeC zei zjt zhb NZ N4 zdE zev zij zhA yj N6 zdZ zfl H0 GY zfs zfA GI G4 zfe zdo yb vm zcZ zey zl9 zms vy zpm zmV zaP zoe zim zb3 zoj za1 zhN zhD ze7 zl5 zrF zhq zgs zaI ze9 zmc zgn zjE zaU zcI ym xG zp5 yg NM xZ Gu y5 yJ NH zgx zet zgl NL zc8 Mc zdr zb8 zcT zbz zic zf8 zhx zdp zgJ zfa zgK zdm zgF zeG zcF zdq zda zgy zfx zef ziS zf0 zq5 zfW zqs zeN zqY zry za5 zek zas zau zbg zm8 Gi zbs xS zaJ NX Mi zmB zjP zfH zsP zrq zhp zjR zsw zaS za9 zes zeI za7 zbp yL zb2 zdK zfD ziv zhe zgZ zi8 zhz zsD zrp zri zrN zsy zrf zrn zm5 zpy zk8 zme ziL zlP zow zpf zbc zb5 zbA zof zsW zmo zs9 zrJ znR zsx zrX zbo zcD zji zb0 zop zpz zg7 zg6 zhT zaR zaq zbl zfn zbH zpL zbk zjc zi9 zdy zfm ziY zgu zd2 zoJ zpQ zmS zjZ zsJ zmg zqk zm7 zq7 zrk zsM zq9 zr0 zrP zr1 zoT znS zs2 zqW zrV zdt zfi zon zrw zrm zoq zpK zrs zqO zqJ zmD zkZ zjC zog zqF zrr zl8 zp6 zlU zqd zjz zjm zit zmF zho zie zmq zrM zrt zre zq1 zh9 zlT zlR zd0 zi2 zhu zik zle zna zgh zhY zig zh3 zhC zkU zlr zm6 zk5 za6 zpt zck zdN ze0 zhk zjv zht zk4 zjT zhL zdc zmf zgV zan zj2 zfv zhS zmw ziq zk3 zjn zjF zjG zk1 zbm zh0 zgW zd9 zlG zns zkL zmp zlV zlz znt zjH zhK ziy zif zc7 zaw zeE zgc zbZ yX ziU zj1 zgU zeF zb6 ziM zjK ze6 zav zds zeO zby vp zjx zi6 zh2 zcH zaG zj3 zjf zh4 zcS zcc zbB zp7 zap zpd xR yG yH zbn zbG zbN yS yq xY yZ xA xJ zbJ zbX zaY vI xE zdd zba vB Ml zmu zkQ zm9 zoM zgE zbL
attribute [push_cast] Int.ofNat_eq_natCast Bool.not_false Bool.not_true Bool.true_beq Bool.false_beq beq_self_eq_true Bool.true_and zlm zlL zpu zlx zk7 List.map_cons List.map_nil List.getElem?_cons_zero List.getElem?_cons_succ List.getElem?_toArray List.getElem?_nil List.drop_zero List.drop_succ_cons List.drop_nil List.take_succ_cons List.take_zero List.take_nil List.length_cons List.length_nil List.getD_cons_zero List.getD_cons_succ List.set_cons_zero List.set_cons_succ List.cons_append List.nil_append List.append_nil List.all_cons List.all_nil List.tail_cons List.tail_nil List.headD_cons List.headD_nil List.flatten_cons List.flatten_nil List.replicate_succ List.replicate_zero Bool.and_self Bool.and_true Bool.true_and Bool.not_true Bool.not_false Option.bind_some Option.map_some Option.map_none if_true if_false true_and and_true and_self decide_true decide_false Int.ofNat_le Int.ofNat_lt Int.natCast_inj zbD Int.toNat_natCast Nat.zero_add Nat.add_zero List.toList_toArray Int.add_zero Int.zero_add Bool.not_not Int.sub_zero Int.natCast_pos Nat.sub_zero Int.cast_ofNat_Int Nat.one_mul Nat.mul_one
theorem dn {p q r:Src->Prop} (c:r []:=by push_cast -dsimp [zb,za,CLe,zd]) (a:p []:=by rfl) (b:q []:=by rfl):∃ s,p s/\q s/\r s:=⟨[],a,b,c⟩
theorem wks {p:Nat} {σ σ':St} (src:Src) (h4:zb src σ'.bx.length σ.tm σ'.tm:=by push_cast -dsimp [zb,za,CLe,zd]) (h5:za src σ'.bx.length σ.bx σ'.bx:=by push_cast -dsimp [zb,za,CLe,zd]) (h1:Qg src=true:=by rfl) (h2:src.length=σ'.nx:=by rfl)
  (h3:p<=σ'.bx.length:=by first | exact Nat.zero_le _ | exact Nat.le_refl _ | exact zhJ rfl) (h0:σ'.lg=σ.lg:=by rfl):Ji p σ σ':=⟨src,h1,h2,h3,h0,h4,h5⟩
theorem wk {p:Nat} {σ σ':St} (h4:zb [] σ'.bx.length σ.tm σ'.tm:=by push_cast -dsimp [zb,za,CLe,zd]) (h5:za [] σ'.bx.length σ.bx σ'.bx:=by push_cast -dsimp [zb,za,CLe,zd]) (h2:([]:Src).length=σ'.nx:=by rfl)
  (h3:p<=σ'.bx.length:=by first | exact Nat.zero_le _ | exact Nat.le_refl _ | exact zhJ rfl) (h0:σ'.lg=σ.lg:=by rfl):Ji p σ σ':=⟨[],rfl,h2,h3,h0,h4,h5⟩
theorem an {a b:Prop} (k:b) (h:a:=by first | omega | (simp only[lS];omega)):a/\b:=⟨h,k⟩
namespace CA
theorem cl {P:Program} {G:zo} {f:FuncId} {args fargs:List C} {r:C} {n nx lg:Nat} {tm:List (Nat×C)} {bx:List (List C)} {K3:C->St->Prop} (hf:Fun P G f fargs r n) (hK:K3 (r.sh nx) ⟨tm,bx,nx+n,lg⟩):Qr P G f args fargs ⟨tm,bx,nx,lg⟩ K3 ⟨⟩:=call hf hK
end CA
namespace CB
theorem cl {P:Program} {G:zo} {f:FuncId} {args:List C} {r:C} {n nx:Nat} {K2:C->Nat->Prop} (hf:Fun P G f args r n) (hK:K2 (r.sh nx) (nx+n)):x6 P G f args nx K2 ⟨⟩:=kM hf hK
end CB
end
section
open Go.RowKit
def C.stayB:C->Bool
 | .sc _ | .str _ | .sl _ _ | .tight _ _ | .row _ | .any=>true
 | _=>false
theorem zjV {c:C} (h:c.stayB=true):c.frz=c:=by cases c<;>simp[C.stayB]at h<;>simp[C.frz]
theorem zlK {c:C} {fp fo:Nat->Option Nat} (h:c.stayB=true):c.re fp fo=c:=by cases c<;>simp[C.stayB]at h<;>simp[C.re]
theorem znh {c:C} {src:Src} {n:Nat} (h:c.stayB=true):CLe src n c c:=by cases c<;>simp[C.stayB]at h<;>simp[CLe]
theorem MX:∀ {cs:List C},(cs.all C.stayB)=true->C.frzL cs=cs
 | [],_=>by simp[C.frzL]
 | c :: r,h=>by
  simp only[List.all_cons,Bool.and_eq_true]at h
  rw[C.frzL,zjV h.1,MX h.2]
theorem zE {fp fo:Nat->Option Nat}:∀ {cs:List C},(cs.all C.stayB)=true->C.reL fp fo cs=cs
 | [],_=>by simp[C.reL]
 | c :: r,h=>by
  simp only[List.all_cons,Bool.and_eq_true]at h
  rw[C.reL,zlK h.1,zE h.2]
theorem zO {src:Src} {n:Nat}:∀ {cs:List C},(cs.all C.stayB)=true->zd src n cs cs
 | [],_=>by simp[zd]
 | c :: r,h=>by
  simp only[List.all_cons,Bool.and_eq_true]at h
  rw[zd]
  exact ⟨znh h.1,zO h.2⟩
theorem zlo {src:Src} {n:Nat} (c:C):CLe src n c .any:=by cases c<;>simp[CLe]
theorem Qy {src:Src} {n:Nat}:∀ {cs:List C} {m:Nat},cs.length=m->zd src n cs (List.replicate m .any)
 | [],_,h=>by subst h;simp[zd]
 | c :: r,_,h=>by
  subst h
  rw[List.length_cons,List.replicate_succ,zd]
  exact ⟨zlo c,Qy rfl⟩
theorem zeK {src:Src} {n:Nat}:∀ {a b c d:List C},zd src n a c->zd src n b d->zd src n (a++b) (c++d)
 | [],b,[],d,_,h=>h
 | [],b,x :: c,d,h,_=>by simp[zd]at h
 | x :: a,b,[],d,h,_=>by simp[zd]at h
 | x :: a,b,y :: c,d,h,h'=>by
  rw[List.cons_append,List.cons_append,zd]
  rw[zd]at h
  exact ⟨h.1,zeK h.2 h'⟩
def qF (k:Nat) (rows:List (List C)) (c:Nat):List C:=rows.flatten++List.replicate ((c-rows.length)*k) .any
theorem qu {k:Nat}:∀ {rows:List (List C)},(∀ r∈rows,r.length=k)->rows.flatten.length=rows.length*k
 | [],_=>by simp
 | r :: rs,h=>by
  rw[List.flatten_cons,List.length_append,h r List.mem_cons_self,qu fun x hx=>h x (List.mem_cons_of_mem _ hx),List.length_cons,Nat.succ_mul,Nat.add_comm]
theorem J6 {k c:Nat} {rows:List (List C)} (h:∀ r∈rows,r.length=k) (hc:rows.length<=c):(qF k rows c).length=c*k:=by
 unfold qF
 rw[List.length_append,qu h,List.length_replicate,←Nat.add_mul]
 congr 1;omega
abbrev jA (rows:List (List C)):Prop:=∀ r∈rows,(r.all C.stayB)=true
theorem Qe {rows:List (List C)} (h:jA rows):(rows.flatten.all C.stayB)=true:=by
 rw[List.all_eq_true]
 intro c hc
 obtain ⟨r,hr,hc⟩:=List.mem_flatten.1 hc
 exact List.all_eq_true.1 (h r hr) c hc
theorem zG {k c:Nat} {rows:List (List C)} (h:jA rows):((qF k rows c).all C.stayB)=true:=by
 unfold qF
 rw[List.all_append,Qe h,Bool.true_and,List.all_eq_true]
 intro c hc
 obtain ⟨_,rfl⟩:=List.mem_replicate.1 hc
 rfl
theorem Ut {k n:Nat}:∀ {rows:List (List C)},(∀ r∈rows,r.length=k)->rows.flatten.take (n*k)=(rows.take n).flatten:=by
 induction n with
 | zero=>intro rows _;simp
 | succ n ih =>
  intro rows h
  cases rows with
  | nil=>simp
  | cons r rs =>
   have hr:=h r List.mem_cons_self
   rw[List.take_succ_cons,List.flatten_cons,List.flatten_cons,List.take_append,List.take_of_length_le (by rw[hr,Nat.succ_mul];omega),hr,show (n+1)*k-k=n*k by rw[Nat.succ_mul];omega,ih fun x hx=>h x (List.mem_cons_of_mem _ hx)]
theorem UV {k n:Nat}:∀ {rows:List (List C)},(∀ r∈rows,r.length=k)->rows.flatten.drop (n*k)=(rows.drop n).flatten:=by
 induction n with
 | zero=>intro rows _;simp
 | succ n ih =>
  intro rows h
  cases rows with
  | nil=>simp
  | cons r rs =>
   have hr:=h r List.mem_cons_self
   rw[List.drop_succ_cons,List.flatten_cons,List.drop_append,List.drop_of_length_le (by rw[hr,Nat.succ_mul];omega),hr,List.nil_append,show (n+1)*k-k=n*k by rw[Nat.succ_mul];omega,ih fun x hx=>h x (List.mem_cons_of_mem _ hx)]
theorem YX {src:Src} {m k c:Nat} {rows:List (List C)} {cs:List C} (hk:∀ r∈rows,r.length=k) (hs:jA rows) (hc:rows.length<=c) (hl:cs.length=c*k) (ht:cs.take (rows.length*k)=rows.flatten):zd src m cs (qF k rows c):=by
 have h1:cs=rows.flatten++cs.drop (rows.length*k):=by rw[←ht,List.take_append_drop]
 rw[h1]
 unfold qF
 refine zeK (zO (Qe hs)) (Qy ?_)
 rw[List.length_drop,hl,←Nat.sub_mul]
theorem ZB {cs xs:List C} {p:Nat} (h:p+xs.length<=cs.length):(spl cs p xs).length=cs.length:=by
 simp[spl];omega
theorem N3 {cs L X:List C} {p q:Nat} (hp:p<=L.length) (hq:q=p+X.length) (hL:cs.take L.length=L) (hc:L.length+X.length<=cs.length) :
  (spl (spl cs q (L.drop p)) p X).take (L.length+X.length)=L.take p++(X++L.drop p):=by
 subst hq
 apply List.ext_getElem?
 intro j
 have hcur:∀ j,j<L.length->cs[j]?=L[j]?:=fun j hj=>by
  have h:=congrArg (fun l=>l[j]?) hL
  simp only[List.getElem?_take,if_pos hj]at h
  exact h
 simp only[spl,List.getElem?_take,List.getElem?_append,List.getElem?_drop,List.length_take,List.length_append,List.length_drop]
 repeat' (first | split | omega)
 all_goals (first | rfl | omega | exact (List.getElem?_eq_none (by omega)).symm | (congr 1;omega) | (rw[hcur _ (by omega)];first | done | (congr 1;omega)) | (symm;rw[List.getElem?_eq_none];simp;omega) | (rw[List.getElem?_eq_none];simp;omega) | skip)
theorem uk {cs L X:List C} {p q:Nat} (hp:p<=L.length) (hq:q=p+X.length) (hL:cs.take p=L.take p) (hc:L.length+X.length<=cs.length) :
  (spl (spl cs p X) q (L.drop p)).take (L.length+X.length)=L.take p++(X++L.drop p):=by
 subst hq
 apply List.ext_getElem?
 intro j
 have hcur:∀ j,j<p->cs[j]?=L[j]?:=fun j hj=>by
  have h:=congrArg (fun l=>l[j]?) hL
  simp only[List.getElem?_take,if_pos hj]at h
  exact h
 simp only[spl,List.getElem?_take,List.getElem?_append,List.getElem?_drop,List.length_take,List.length_append,List.length_drop]
 repeat' (first | split | omega)
 all_goals (first | rfl | omega | exact (List.getElem?_eq_none (by omega)).symm | (congr 1;omega) | (rw[hcur _ (by omega)];first | done | (congr 1;omega)) | (symm;rw[List.getElem?_eq_none];simp;omega) | (rw[List.getElem?_eq_none];simp;omega) | skip)
theorem zl3 {cs L Z:List C} {p q n:Nat} (hq:q<=L.length) (hpq:p<=q) (hL:cs.take L.length=L) (hn:n=p+(L.length-q)) (hc:L.length<=cs.length) (hz:n+Z.length<=cs.length) :
  (spl (spl cs p (L.drop q)) n Z).take n=L.take p++L.drop q:=by
 subst hn
 apply List.ext_getElem?
 intro j
 have hcur:∀ j,j<L.length->cs[j]?=L[j]?:=fun j hj=>by
  have h:=congrArg (fun l=>l[j]?) hL
  simp only[List.getElem?_take,if_pos hj]at h
  exact h
 simp only[spl,List.getElem?_take,List.getElem?_append,List.getElem?_drop,List.length_take,List.length_append,List.length_drop]
 repeat' (first | split | omega)
 all_goals (first | rfl | omega | exact (List.getElem?_eq_none (by omega)).symm | (congr 1;omega) | (rw[hcur _ (by omega)];first | done | (congr 1;omega)) | (symm;rw[List.getElem?_eq_none];simp;omega) | (rw[List.getElem?_eq_none];simp;omega) | skip)
theorem zgb {P:Program} {f:FuncId} {fn:Func} {t e tR:TypeId} {s1 b1 k by':Nat} {kd:LK} {z1 z:Option (List Value)} (hf:P.funcs[f]?=some fn) (hname:(fn.name == "runtime.NumGoroutine")=false) (hb:fn.body.isNone=true) (hn:Extern.findNext fn=none)
  (he:Extern.find fn=some (Extern.SlicesOverlaps.overlaps #[t,t] #[tR])) (hl:lay P t=some ⟨.slice e,s1,b1,z1⟩) (hle:lay P e=some ⟨kd,k,by',z⟩) {id e' k' i off n c:Nat} {rows bx:List (List C)} {cs:List C} (hbx:bx[i]?=some cs) (hcs:cs≠[]) (hrows:rows≠[]) (hn0:0<n) :
  zrx P f [.own id e' k' rows,.bs i off k n c] bx (.sc (.bool false)):=by
 intro B R L vs hB hO hr
 obtain ⟨v1,us,rfl,h1,hr⟩:=ze.1 hr
 obtain ⟨v2,us,rfl,h2,hr⟩:=ze.1 hr
 rw[zj]at hr
 subst hr
 refine ⟨.bool false,?_,zm.2 rfl⟩
 rw[run_callFunc_extern hf hname hb hn he]
 have ht:=zU hl rfl
 have hz:∀ w,(Go.sizeOf e).run P w = .ok k w:=fun w=>qw hle w
 obtain ⟨hT,a,cap,hv1,_⟩:=Yl.1 h1
 obtain ⟨b,hbi,ad,rfl,had⟩:=qT.1 h2
 obtain ⟨us,ty,e1,e2,e3,e4⟩:=hB.box i b cs hbi hbx
 have hsz:us.size≠0:=by
  have:=zr e2
  simp only[Array.length_toList]at this
  rw[this]
  exact fun h=>hcs (List.eq_nil_of_length_eq_zero h)
 rcases hO.own id e' k' v1 hT with hnil | ⟨g,n',cap',cur,ty',q1,q2,q3,q4,q5,q6,q7,q8⟩ | ⟨_,_,_,_,hmap,_⟩
 rotate_right
 ·rw[hv1]at hmap;unfold UY at hmap;cases hmap
 ·rw[hnil]at hv1
  obtain ⟨_,h0,_⟩:=Value.slice.inj hv1
  exact absurd (List.eq_nil_of_length_eq_zero h0.symm) hrows
 ·rw[q1]
  obtain rfl:=had (by omega)
  have hne:g≠b:=fun h=>q7 (h▸List.mem_of_getElem? hbi)
  rw[Lib.run_overlaps_apart R.w t tR e ht k hz ⟨g,0,none⟩ ⟨b,off,none⟩ n' cap' n c hne ty' ty cur.size us.size (by simp[World.shape?,q3]) (by simp[World.shape?,e1]) hsz (frozen_of_row R.w g 0 _ _ q3) (frozen_of_row R.w g _ _ _ q3)]
  rfl
theorem Vq {m k:Nat} {z:List C} (hz:z.length=k):(List.replicate m z).flatten.length=m*k:=by
 have h:=qu (k:=k) (rows:=List.replicate m z) fun r hr=>by rw[(List.mem_replicate.1 hr).2];exact hz
 rw[h,List.length_replicate]
section
variable {P:Program} {t tn e s1 b1 s2 b2 k by' m i off n cap nx lg:Nat} {kd:LK} {kn kq:IntKind} {z1 z2 z3:Option (List Value)} {z:List Value} {cs xs:List C} {bx:List (List C)} {tm:List (Nat×C)} {d:C} {q:Int} {K3:C->St->Prop}
theorem znY (hl:lay P t=some ⟨.slice e,s1,b1,z1⟩) (hln:lay P tn=some ⟨.int kn,s2,b2,z2⟩) (hle:lay P e=some ⟨kd,k,by',some z⟩) (hz:z.length=k) (hk:0<k) (h1:(z.all Value.oneCell')=true)
  (hb:bx[i]?=some cs) (hfit:off+cap*k<=cs.length) (hn:n<=cap) (hq:0<q) (h63:(n:Int)+q<=9223372036854775807) (hby:((n:Int)+q)*by'<=140737488355328) (hg:(cap:Int)<n+q)
  (hK:∀ c' B,n+q.toNat<=c'->c'<=9223372036854775807->B.length=c'*k->B.take (n*k)=(cs.drop off).take (n*k)->K3 (.bs bx.length 0 k (n+q.toNat) c') ⟨tm,bx++[B],nx,lg⟩):zai P t tn (.bs i off k n cap) (.sc (.int kq q)) ⟨tm,bx,nx,lg⟩ K3 ⟨⟩:=by
 have hnk:n*k<=cap*k:=Nat.mul_le_mul_right _ hn
 refine zsE hl hln hle hz hk h1 hb hfit hn hq h63 hby hg fun c' g1 g2=>hK c' _ g1 g2 ?_ ?_
 ·rw[List.length_append,List.length_append,Vq (k:=k) (by simpa using hz),List.length_replicate,List.length_take,List.length_drop,Nat.min_eq_left (by omega),←Nat.add_mul,←Nat.add_mul]
  congr 1;omega
 ·rw[List.append_assoc,List.take_left' (by rw[List.length_take,List.length_drop];omega)]
theorem Vu (hl:lay P t=some ⟨.slice e,s1,b1,z1⟩) (hle:lay P e=some ⟨kd,k,by',z3⟩) (hx:d.xs? k bx=some (m,xs)) (hb:bx[i]?=some cs) (hxl:xs.length=m*k) (hfit:off+n*k<=cs.length)
  (hK:∀ B,B=spl cs off (xs.take (min m n*k))->B.length=cs.length->K3 (.sc (.int .i64 ((min m n:Nat):Int))) ⟨tm,bx.set i B,nx,lg⟩):Nx P t (.bs i off k n cap) d ⟨tm,bx,nx,lg⟩ K3 ⟨⟩:=
 zlQ hl hle hx hb hxl hfit (hK _ rfl (by
  have h1:min m n*k<=n*k:=Nat.mul_le_mul_right _ (Nat.min_le_right _ _)
  exact ZB (by rw[List.length_take];omega)))
theorem zlO (hl:lay P t=some ⟨.slice e,s1,b1,z1⟩) (hle:lay P e=some ⟨kd,k,by',some z⟩) (hb:bx[i]?=some cs) (hz:z.length=k) (hk:0<k) (h1:(z.all Value.oneCell')=true) (hfit:off+n*k<=cs.length)
  (hK:∀ B Z,B=spl cs off Z->Z.length=n*k->B.length=cs.length->K3 .any ⟨tm,bx.set i B,nx,lg⟩):xC P t (.bs i off k n cap) ⟨tm,bx,nx,lg⟩ K3 ⟨⟩:=by
 have hZ:(List.replicate n (z.map zy)).flatten.length=n*k:=Vq (by simpa using hz)
 exact zqo hl hle hb hz hk h1 hfit (hK _ _ rfl hZ (ZB (by omega)))
end
theorem Ne {k i off n c:Nat} {bx:List (List C)} {cs:List C} (hb:bx[i]?=some cs) (h:off+n*k<=cs.length):C.xs? k bx (.bs i off k n c)=some (n,(cs.drop off).take (n*k)):=by
 simp[C.xs?,hb,h]
theorem QX {k c i:Nat} {rows:List (List C)} (hk:∀ r∈rows,r.length=k) (hi:i<=rows.length):((qF k rows c).drop (i*k)).take ((rows.length-i)*k)=rows.flatten.drop (i*k):=by
 have hf:=qu hk
 have h1:i*k<=rows.length*k:=Nat.mul_le_mul_right _ hi
 unfold qF
 rw[List.drop_append_of_le_length (by omega),List.take_left' (by rw[List.length_drop,hf,Nat.sub_mul])]
theorem VO {k i:Nat} {rows:List (List C)} {x:List C} (hk:∀ r∈rows,r.length=k):rows.flatten.take (i*k)++(x++rows.flatten.drop (i*k))=(rows.take i++x :: rows.drop i).flatten:=by
 rw[Ut hk,UV hk];simp
theorem ua {bx:List (List C)} {i e k c:Nat} {rows:List (List C)} {cs:List C} (hb:bx[i]?=some cs) (hc:0<c) (h1:rows.length<=c) (h2:c<=9223372036854775807) (hl:cs.length=c*k) (hk:∀ r∈rows,r.length=k) (hs:(cs.all C.stayB)=true) (ht:cs.take (rows.length*k)=rows.flatten) :
  zbO [(i,e,k,rows,c)] bx:=by
 refine ⟨by simp,fun x hx=>?_⟩
 rw[List.mem_singleton]at hx
 subst hx
 exact ⟨cs,hb,hc,h1,by unfold maxLen;exact h2,hl,hk,by rw[MX hs];exact ht⟩
theorem ze2 {k c:Nat} {rows:List (List C)} (hk:∀ r∈rows,r.length=k):(qF k rows c).take (rows.length*k)=rows.flatten:=by
 unfold qF;rw[List.take_left' (qu hk)]
theorem zB {bx:List (List C)} {i e k c:Nat} {rows:List (List C)} (hb:bx[i]?=some (qF k rows c)) (hc:0<c) (h1:rows.length<=c) (h2:c<=9223372036854775807) (hk:∀ r∈rows,r.length=k) (hs:jA rows):zbO [(i,e,k,rows,c)] bx:=
 ua hb hc h1 h2 (J6 hk h1) hk (zG hs) (ze2 hk)
theorem ziC {k c i:Nat} {rows:List (List C)} {row:List C} (hk:∀ r∈rows,r.length=k) (hr:row.length=k) (hi:i<rows.length):(qF k rows c).take (i*k)++row++(qF k rows c).drop (i*k+k)=qF k (rows.set i row) c:=by
 have hf:=qu hk
 have h1:(i+1)*k<=rows.length*k:=Nat.mul_le_mul_right _ hi
 rw[Nat.succ_mul]at h1
 unfold qF
 rw[List.take_append_of_le_length (by omega),List.drop_append_of_le_length (by omega),←Nat.succ_mul,Ut hk,UV hk,List.length_set,←List.append_assoc]
 congr 1
 rw[List.set_eq_take_append_cons_drop,if_pos hi]
 simp
def RLe:List (List C)->List (List C)->Prop
 | [],[]=>True
 | a :: r,b :: s=>zd [] 0 a b/\RLe r s
 | _,_=>False
theorem RLe.len:∀ {a b:List (List C)},RLe a b->a.length=b.length
 | [],[],_=>rfl
 | _ :: r,_ :: s,h=>by rw[List.length_cons,List.length_cons,RLe.len h.2]
theorem zd.len {src:Src} {n:Nat}:∀ {a b:List C},zd src n a b->a.length=b.length
 | [],[],_=>rfl
 | [],_ :: _,h=>by simp[zd]at h
 | _ :: _,[],h=>by simp[zd]at h
 | _ :: r,_ :: s,h=>by
  rw[zd]at h
  rw[List.length_cons,List.length_cons,zd.len h.2]
theorem zdG {R:Env} {c d:C} {v:Value} (h:CLe [] 0 c d) (hr:Rep R zF c v):Rep R zF d v:=by
 refine Rep.ext (Ext.refl R) (T:=j0 [] 0 zF) ⟨fun i b hb=>?_,fun id x hx=>?_⟩ _ _ (Rep.less _ _ _ h hr)
 ·simp at hb
 ·have hx:ZA [] zF.T id=some x:=hx
  simp[ZA]at hx
theorem UW {R:Env} {b:Nat}:∀ {cs ds:List C} {o:Nat},zd [] 0 cs ds->zJ R cs b o->zJ R ds b o
 | [],[],_,_,h=>h
 | [],_ :: _,_,h,_=>by simp[zd]at h
 | _ :: _,[],_,h,_=>by simp[zd]at h
 | c :: r,d :: s,o,h,hr=>by
  rw[zd]at h
  obtain ⟨⟨v,h1,h2,h3,h4⟩,h5⟩:=qd.1 hr
  exact qd.2 ⟨⟨v,h1,h2,zdG h.1 h3,h4⟩,UW h.2 h5⟩
theorem kO {R:Env} {k b:Nat}:∀ {a c:List (List C)} {o:Nat},RLe a c->zL R a k b o->zL R c k b o
 | [],[],_,_,h=>h
 | x :: r,y :: s,o,h,hr=>by
  unfold zL at hr ⊢
  exact ⟨(zd.len h.1).symm.trans hr.1,UW h.1 hr.2.1,kO h.2 hr.2.2⟩
theorem zcf {R:Env} {L:Loc} {id e k:Nat} {a c:List (List C)} {v:Value} (h:RLe a c) (hr:Rep R L (.own id e k a) v):Rep R L (.own id e k c) v:=by
 obtain ⟨h1,ad,cap,h2,h3,h4,h5⟩:=Yl.1 hr
 refine Yl.2 ⟨h1,ad,cap,by rw[h2,h.len],by rw[←h.len];exact h3,h4,?_⟩
 rcases h5 with h5 | ⟨b,o,h5,h6⟩
 ·subst h5
  have:=h.len
  exact .inl (List.eq_nil_of_length_eq_zero (by simpa using this.symm))
 ·exact .inr ⟨b,o,h5,kO h h6⟩
theorem Fun.resX {P:Program} {G:zo} {f:FuncId} {args:List C} {r r':C} {n:Nat} (hf:Fun P G f args r n) (h:∀ R L v,Rep R L r v->Rep R L r' v):Fun P G f args r' n:=
 ⟨hf.1,fun R vs hg ha=>(hf.2 R vs hg ha).mono fun e w' ⟨v,R',L',h1,h2,h3,h4⟩=>⟨v,R',L',h1,h2,h3,h _ _ _ h4⟩⟩
theorem zbQ {R:Env} {L:Loc} {cs ds:List C} {v:Value} (h:∀ vs,zu R L cs vs->zu R L ds vs) (hr:Rep R L (.agg cs) v):Rep R L (.agg ds) v:=by
 obtain ⟨vs,h1,h2⟩:=jT.1 hr
 exact jT.2 ⟨vs,h1,h _ h2⟩
theorem J2 {R:Env} {L:Loc} {c d:C} {cs ds:List C} {vs:List Value} (h:∀ v,Rep R L c v->Rep R L d v) (h':∀ vs,zu R L cs vs->zu R L ds vs) (hr:zu R L (c :: cs) vs):zu R L (d :: ds) vs:=by
 obtain ⟨v,us,rfl,h1,h2⟩:=ze.1 hr
 exact ze.2 ⟨v,us,rfl,h _ h1,h' _ h2⟩
end
section
open Go.RowKit
def zky (k:Nat) (rows:List (List C)) (r:C) (bx':List (List C)) (n:Nat):Prop:=
 n=0/\((rows≠[]/\∃ c,rows.length<=c/\c<=9223372036854775807/\r = .bs 1 0 k rows.length c/\bx' = [[],qF k rows c])∨(rows = []/\(r = .sc (.slice none 0 0)/\bx' = []∨r = .bs 0 0 k 0 0/\bx' = [[]])))
def zq8 (k m:Nat) (ins:List (List C)) (r:C) (bx':List (List C)) (n:Nat):Prop:=
 n=0/\∃ c,ins.length<=c/\c<=9223372036854775807/\(r = .bs 0 0 k ins.length c/\bx' = [qF k ins c]∨r = .bs 1 0 k ins.length c/\bx' = [List.replicate m .any,qF k ins c])
section
variable {G:zo}
theorem Va (rows:List (List C)) (hk:∀ r∈rows,r.length=6) (hs:jA rows) (hl:rows.length<=100000) :
  Xc Tryz.prog G 226 [.sl 6 rows] [] 0 (zky 6 rows):=by
 refine Xc.bySlice (fun h=>?_) (fun h a cap hr=>?_)
 ·refine foX (fun i=>if i=1000000+22 then [true,true] else []) Tryz.func226 ?_;dsimp only[Tryz.f226]
  push_cast -dsimp
  refine ⟨h,Uq ZR ZU rfl rfl (by decide) rfl (qu hk) rfl (Nat.le_refl _) (Nat.le_refl _) (by omega) (by omega) (fun hc=>absurd hc ?_) (fun _ c hc hm=>?_)⟩
  ·have:=List.length_pos_iff.2 h;omega
  ·push_cast -dsimp
   rw[Nat.zero_add]at hc
   refine ⟨_,_,_,⟨⟨rfl,.inl ⟨h,c,hc,hm,rfl,rfl⟩⟩,Nat.zero_le _⟩,[],rfl,rfl,?_,by push_cast -dsimp [zb,za,CLe,zd]⟩
   push_cast -dsimp [zb,za,CLe,zd]
   exact zO (zG hs)
 ·cases a with
  | none =>
   refine foX (fun i=>if i=1000000+22 then [true,true] else []) Tryz.func226 ?_;dsimp only[Tryz.f226]
   push_cast -dsimp [hr,Option.isNone_none]
   exact ⟨_,_,_,⟨⟨rfl,.inr ⟨h,.inl ⟨rfl,rfl⟩⟩⟩,Nat.zero_le _⟩,[],rfl,rfl,by push_cast -dsimp [zb,za,CLe,zd],by push_cast -dsimp [zb,za,CLe,zd]⟩
  | some a =>
   refine foX (fun i=>if i=1000000+22 then [true,true] else []) Tryz.func226 ?_;dsimp only[Tryz.f226]
   push_cast -dsimp [hr,Option.isNone_some]
   have hx:C.xs? 6 [[]] (C.sc (.slice (some a) 0 cap))=some (0,[]):=by simp[C.xs?,hr]
   refine Uq ZR ZU hx rfl (by decide) rfl rfl rfl (Nat.le_refl _) (Nat.le_refl _) (by omega) (by omega) (fun _=>?_) (fun hc=>absurd hc (by omega))
   push_cast -dsimp
   exact ⟨_,_,_,⟨⟨rfl,.inr ⟨h,.inr ⟨rfl,rfl⟩⟩⟩,Nat.zero_le _⟩,[],rfl,rfl,by (push_cast -dsimp [zb,za,CLe,zd];simp[spl,zd]),by push_cast -dsimp [zb,za,CLe,zd]⟩
theorem VP (rows:List (List C)) (x:List C) (i c e:Nat) (hk:∀ r∈rows,r.length=6) (hx:x.length=6) (hs:jA rows) (hsx:(x.all C.stayB)=true) (hl:rows.length<=100000) (hi:i<=rows.length) (hc:rows.length<=c) (hcm:c<=9223372036854775807) :
  Xc Tryz.prog G 225 [.bs 0 0 6 rows.length c,.sc (.int .i64 i),.own 0 e 6 [x]] [qF 6 rows c] 1 (zq8 6 (c*6) (rows.take i++x :: rows.drop i)):=by
 refine foX (fun j=>if j=1000000+22 then [true,true] else if j=11 then [false,false,false,false,false,false,false,false,true] else if j=15 then [false,false,false,false,false,false,false,false,true] else []) Tryz.func225 ?_;dsimp only[Tryz.f225]
 push_cast -dsimp
 have hlen:(rows.take i++x :: rows.drop i).length=rows.length+1:=by simp;omega
 have hki:∀ r∈rows.take i++x :: rows.drop i,r.length=6:=fun r hr=>by
  rcases List.mem_append.1 hr with hr | hr
  ·exact hk r (List.mem_of_mem_take hr)
  ·rcases List.mem_cons.1 hr with rfl | hr
   ·exact hx
   ·exact hk r (List.mem_of_mem_drop hr)
 have hsi:jA (rows.take i++x :: rows.drop i):=fun r hr=>by
  rcases List.mem_append.1 hr with hr | hr
  ·exact hs r (List.mem_of_mem_take hr)
  ·rcases List.mem_cons.1 hr with rfl | hr
   ·exact hsx
   ·exact hs r (List.mem_of_mem_drop hr)
 have hbl:=J6 hk hc
 have hfl:=qu hk
 have hxl:[x].flatten.length=1*6:=by simp[hx]
 have hpre:(qF 6 rows c).take rows.flatten.length=rows.flatten:=by unfold qF;rw[List.take_left]
 refine ⟨hc,⟨by omega,hi⟩,br (fun h=>?_) (fun h=>?_)⟩
 ·push_cast -dsimp
  refine Uq ZR ZU rfl rfl (by decide) rfl hxl rfl (by rw[hbl];omega) hc (by simp;omega) (by simp;omega) (fun h1=>?_) (fun h1 c' h2 h3=>?_)
  ·push_cast -dsimp
   have hi':i=rows.length:=of_decide_eq_true h
   refine ⟨_,_,_,⟨⟨rfl,c,by rw[hlen];exact h1,hcm,.inl ⟨rfl,rfl⟩⟩,Nat.le_refl _⟩,[],rfl,rfl,?_,by push_cast -dsimp [zb,za,CLe,zd,hlen]⟩
   push_cast -dsimp [zb,za,CLe,zd]
   have h6:rows.length*6+6<=c*6:=by have:rows.length+1<=c:=h1;omega
   refine YX hki hsi (by rw[hlen];exact h1) (by rw[ZB (by rw[hbl,hx];exact h6),hbl]) ?_
   rw[hlen,hi',List.take_length,List.drop_length]
   unfold spl
   rw[←hfl,hpre,List.take_left' (by simp[hx,hfl];omega)]
   simp
  ·push_cast -dsimp
   have hi':i=rows.length:=of_decide_eq_true h
   have h2':rows.length+1<=c':=h2
   refine ⟨_,_,_,⟨⟨rfl,c',by rw[hlen];exact h2,h3,.inr ⟨rfl,rfl⟩⟩,Nat.le_of_ble_eq_true rfl⟩,[],rfl,rfl,?_,by push_cast -dsimp [zb,za,CLe,zd,hlen]⟩
   push_cast -dsimp [zb,za,CLe,zd]
   refine ⟨Qy hbl,YX hki hsi (by rw[hlen];exact h2) (by simp[hx,hbl];omega) ?_⟩
   rw[hlen,hi',List.take_length,List.drop_length,←hfl,hpre,List.take_left' (by simp[hx,hfl];omega)]
   simp
 ·have hne:i≠rows.length:=of_decide_eq_false h
  push_cast -dsimp
  refine ⟨⟨by omega,by omega⟩,br (fun h1=>?_) (fun h1=>?_)⟩
  ·have h1':(c:Int)<(rows.length:Int)+1:=of_decide_eq_true h1
   push_cast -dsimp
   repeat refine an ?_
   refine znY ZR zox ZU rfl (by decide) rfl rfl (by rw[hbl];omega) (by omega) (by omega) (by omega) (by omega) (by omega) (fun c' B h2 h3 hBl hBt=>?_)
   have e1:((rows.length:Int)+1-(i:Int)).toNat=rows.length+1-i:=by omega
   rw[e1]at h2 ⊢
   have e2:i+(rows.length+1-i)=rows.length+1:=by omega
   rw[e2]at h2 ⊢
   push_cast -dsimp
   repeat refine an ?_
   refine Vu ZR ZU rfl rfl hxl (by rw[hBl];omega) (fun B1 hB1 hl1=>?_)
   rw[hBl]at hl1
   push_cast -dsimp
   repeat refine an ?_
   have hbp:=QX (c:=c) hk hi
   refine Vu ZR ZU (Ne rfl (by rw[hbl];omega)) rfl (by rw[hbp,List.length_drop,hfl];omega) (by rw[hl1];omega) (fun B2 hB2 hl2=>?_)
   rw[hl1]at hl2
   have hX:[x].flatten.take (min [x].length (rows.length+1-i)*6)=x:=by
    rw[List.length_singleton,Nat.min_eq_left (by omega),List.take_of_length_le (by omega)];simp
   rw[hX]at hB1
   rw[hbp,show min (rows.length-i) (rows.length-i)*6=(rows.length-i)*6 by omega,List.take_of_length_le (by rw[List.length_drop,hfl];omega),hB1]at hB2
   push_cast -dsimp
   refine ⟨_,_,_,⟨⟨rfl,c',by rw[hlen];exact h2,h3,.inr ⟨rfl,rfl⟩⟩,Nat.le_of_ble_eq_true rfl⟩,[],rfl,rfl,?_,by push_cast -dsimp [zb,za,CLe,zd,hlen]⟩
   push_cast -dsimp [zb,za,CLe,zd]
   refine ⟨Qy hbl,YX hki hsi (by rw[hlen];exact h2) hl2 ?_⟩
   rw[hlen,←VO hk,hB2]
   have hg:=uk (cs:=B) (L:=rows.flatten) (X:=x) (p:=i*6) (q:=(i+1)*6) (by omega) (by omega) (by
    rw[hBt,List.drop_zero];unfold qF;rw[List.take_append_of_le_length (by omega)]) (by omega)
   rw[hfl,hx]at hg
   rw[←hg]
   congr 1;omega
  ·have h1':¬(c:Int)<(rows.length:Int)+1:=of_decide_eq_false h1
   push_cast -dsimp
   repeat refine an ?_
   refine zpY (zgb (P:=Tryz.prog) (tR:=4) Tryz.func250 (by kernel_rfl) (by kernel_rfl) (by kernel_rfl) (by kernel_rfl) ZR ZU rfl (List.ne_nil_of_length_pos (by rw[hbl];omega)) (by simp) (by omega)) ?_
   push_cast -dsimp
   repeat refine an ?_
   have hbp:=QX (c:=c) hk hi
   refine Vu ZR ZU (Ne rfl (by rw[hbl];omega)) rfl (by simp[hbl];omega) (by rw[hbl];omega) (fun B1 hB1 hl1=>?_)
   rw[hbl]at hl1
   rw[List.take_take,Nat.min_eq_left (by omega),show min (rows.length+1-i) (rows.length-i)*6=(rows.length-i)*6 by omega,hbp]at hB1
   push_cast -dsimp
   repeat refine an ?_
   refine Vu ZR ZU rfl rfl hxl (by rw[hl1];omega) (fun B2 hB2 hl2=>?_)
   rw[hl1]at hl2
   have hX:[x].flatten.take (min [x].length (rows.length+1-i)*6)=x:=by
    rw[List.length_singleton,Nat.min_eq_left (by omega),List.take_of_length_le (by omega)];simp
   rw[hX,hB1]at hB2
   push_cast -dsimp
   have hcc:rows.length+1<=c:=by omega
   refine ⟨_,_,_,⟨⟨rfl,c,by rw[hlen];exact hcc,hcm,.inl ⟨rfl,rfl⟩⟩,Nat.le_of_ble_eq_true rfl⟩,[],rfl,rfl,?_,by push_cast -dsimp [zb,za,CLe,zd,hlen]⟩
   push_cast -dsimp [zb,za,CLe,zd]
   refine YX hki hsi (by rw[hlen];exact hcc) hl2 ?_
   rw[hlen,←VO hk,hB2]
   have hg:=N3 (cs:=qF 6 rows c) (L:=rows.flatten) (X:=x) (p:=i*6) (q:=(i+1)*6) (by omega) (by omega) hpre (by omega)
   rw[hfl,hx]at hg
   rw[←hg]
   congr 1;omega
theorem zam {e:Nat} (x:List C) (hx:x.length=6) (hsx:(x.all C.stayB)=true) :
  Xc Tryz.prog G 225 [.sc (.slice none 0 0),.sc (.int .i64 0),.own 0 e 6 [x]] [] 1 (fun r bx' n=>n=0/\∃ c,1<=c/\c<=9223372036854775807/\r = .bs 0 0 6 1 c/\bx' = [qF 6 [x] c]):=by
 refine foX (fun j=>if j=1000000+22 then [true,true] else if j=11 then [false,false,false,false,false,false,false,false,true] else if j=15 then [false,false,false,false,false,false,false,false,true] else []) Tryz.func225 ?_;dsimp only[Tryz.f225]
 push_cast -dsimp
 refine uo ZR ZU rfl rfl (by decide) rfl (by simp[hx]) (by simp) (by simp) (by simp) (fun c h1 h2=>?_)
 push_cast -dsimp
 refine ⟨_,_,_,⟨⟨rfl,c,h1,h2,rfl,rfl⟩,Nat.zero_le _⟩,[],rfl,rfl,?_,by push_cast -dsimp [zb,za,CLe,zd]⟩
 push_cast -dsimp [zb,za,CLe,zd]
 have:=zO (src:=[]) (n:=1) (zG (k:=6) (c:=c) (rows:=[x]) fun r hr=>by
  rw[List.mem_singleton.1 hr];exact hsx)
 unfold qF at this ⊢
 simpa using this
theorem zhM (rows:List (List C)) (i c:Nat) (hk:∀ r∈rows,r.length=6) (hs:jA rows) (hl:rows.length<=100000) (hi:i<rows.length) (hc:rows.length<=c) (hcm:c<=9223372036854775807) :
  MV Tryz.prog G 269 [.bs 0 0 6 rows.length c,.sc (.int .i64 i),.sc (.int .i64 ((i:Int)+1))] [qF 6 rows c] 0 (.bs 0 0 6 (rows.length-1) c) [qF 6 (rows.take i++rows.drop (i+1)) c] 0:=by
 refine foB (fun j=>if j=1000000+22 then [true,true] else if j=5 then [false,false,false,false,false,false,true,false] else []) Tryz.func269 ?_;dsimp only[Tryz.f269]
 have h1:((i:Int)=(i:Int)+1)=False:=eq_false (by omega)
 have hbl:=J6 hk hc
 have hfl:=qu hk
 have hpre:(qF 6 rows c).take rows.flatten.length=rows.flatten:=by unfold qF;rw[List.take_left]
 have hlen:(rows.take i++rows.drop (i+1)).length=rows.length-1:=by simp;omega
 have hki:∀ r∈rows.take i++rows.drop (i+1),r.length=6:=fun r hr=>by
  rcases List.mem_append.1 hr with hr | hr
  ·exact hk r (List.mem_of_mem_take hr)
  ·exact hk r (List.mem_of_mem_drop hr)
 have hsi:jA (rows.take i++rows.drop (i+1)):=fun r hr=>by
  rcases List.mem_append.1 hr with hr | hr
  ·exact hs r (List.mem_of_mem_take hr)
  ·exact hs r (List.mem_of_mem_drop hr)
 have hbp:=QX (c:=c) (i:=i+1) hk hi
 push_cast -dsimp [h1]
 repeat refine an ?_
 have hxl:(List.drop ((i+1)*6) rows.flatten).length=(rows.length-(i+1))*6:=by rw[List.length_drop,hfl];omega
 refine Uq ZR ZU (Ne rfl (by rw[hbl];omega)) rfl (by decide) rfl (by rw[hbp,hxl]) rfl (by rw[hbl];omega) (by omega) (by omega) (by omega) (fun _=>?_) (fun h=>absurd h (by omega))
 rw[hbp]
 have e1:i+(rows.length-(i+1))=rows.length-1:=by omega
 rw[e1]
 generalize hB1:spl (qF 6 rows c) (0+i*6) (List.drop ((i+1)*6) rows.flatten)=B1
 have hl1:B1.length=c*6:=by rw[←hB1,ZB (by rw[hbl,hxl];omega),hbl]
 push_cast -dsimp
 repeat refine an ?_
 refine zlO ZR ZU rfl rfl (by decide) rfl (by rw[hl1];omega) (fun B2 Z hB2 hZ hl2=>?_)
 rw[hl1]at hl2
 push_cast -dsimp
 refine ⟨[],rfl,rfl,?_,by push_cast -dsimp [zb,za,CLe,zd]⟩
 push_cast -dsimp [zb,za,CLe,zd]
 refine YX hki hsi (by rw[hlen];omega) hl2 ?_
 have hg:=zl3 (cs:=qF 6 rows c) (L:=rows.flatten) (Z:=Z) (p:=i*6) (q:=(i+1)*6) (n:=(rows.length-1)*6) (by omega) (by omega) hpre (by omega) (by omega) (by rw[hZ];omega)
 rw[hlen,hB2,←hB1,List.flatten_append,←Ut hk,←UV hk,←hg,Nat.zero_add]
end
end
section
structure zX where
 name:List UInt8
 ino:Int
deriving DecidableEq,Inhabited
structure zn where
 ino:Int
 kind:Int
 links:Int
 data:List UInt8
 parent:Int
 es:List zX
deriving DecidableEq,Inhabited
def z8 (xs:List zn):Prop:=xs.Pairwise fun a b=>a.ino<b.ino
def zt (n:Int) (xs:List zn):Bool:=xs.any fun x=>x.ino==n
def qV (n:Int) (xs:List zn):Nat:=(xs.filter fun x=>decide (x.ino<n)).length
def zT (n:Int) (xs:List zn):List zn:=xs.filter fun x=>x.ino != n
def QG (n:Int) (xs:List zn):Option zn:=xs.find? fun x=>x.ino==n
def ZO (x:zn):List zn->List zn
 | []=>[x]
 | y :: r=>if x.ino<y.ino then x :: y :: r else y :: ZO x r
def qP (x:zn) (xs:List zn):List zn:=ZO x (zT x.ino xs)
theorem Gn (n:Int):∀ (xs:List zn) (i:Nat),i<=xs.length->(∀ t (h:t<xs.length),t<i->xs[t].ino<n)->(∀ t (h:t<xs.length),i<=t->n<=xs[t].ino)->qV n xs=i
 | [],i,h,_,_=>by simp at h;simp[qV,h]
 | x :: r,0,_,_,h2=>by
  have hx:n<=x.ino:=h2 0 (by simp) (Nat.le_refl _)
  have ih:=Gn n r 0 (Nat.zero_le _) (fun t h h'=>absurd h' (Nat.not_lt_zero _)) (fun t h _=>h2 (t+1) (by simp;omega) (Nat.zero_le _))
  unfold qV at ih ⊢
  rw[List.filter_cons_of_neg (by simp;omega)]
  exact ih
 | x :: r,i+1,h,h1,h2=>by
  have hx:x.ino<n:=h1 0 (by simp) (Nat.succ_pos _)
  have ih:=Gn n r i (by simpa using h) (fun t h h'=>h1 (t+1) (by simp;omega) (by omega)) (fun t h h'=>h2 (t+1) (by simp;omega) (by omega))
  unfold qV at ih ⊢
  rw[List.filter_cons_of_pos (by simp;omega),List.length_cons,ih]
theorem zke (n:Int) (xs:List zn) (i:Nat) (hi:i<xs.length) (h1:∀ t (h:t<xs.length),t<i->xs[t].ino<n) (h2:n<=xs[i].ino) (hR:z8 xs):zt n xs=decide (xs[i].ino=n):=by
 by_cases h:xs[i].ino=n
 ·rw[decide_eq_true h]
  exact List.any_eq_true.2 ⟨xs[i],List.getElem_mem hi,by simp[h]⟩
 ·rw[decide_eq_false h]
  apply Bool.eq_false_iff.2
  intro hh
  obtain ⟨y,hy,e⟩:=List.any_eq_true.1 hh
  obtain ⟨t,ht,rfl⟩:=List.getElem_of_mem hy
  have e:xs[t].ino=n:=by simpa using e
  rcases Nat.lt_trichotomy t i with h3 | h3 | h3
  ·have:=h1 t ht h3;omega
  ·subst h3;exact h e
  ·have:=(List.pairwise_iff_getElem.1 hR) i t hi ht h3;omega
theorem zfT (n:Int) (xs:List zn) (h1:∀ t (h:t<xs.length),xs[t].ino<n):zt n xs=false:=by
 apply Bool.eq_false_iff.2
 intro hh
 obtain ⟨y,hy,e⟩:=List.any_eq_true.1 hh
 obtain ⟨t,ht,rfl⟩:=List.getElem_of_mem hy
 have e:xs[t].ino=n:=by simpa using e
 have:=h1 t ht
 omega
theorem HZ {n:Int} {xs:List zn} (h:zt n xs=false):QG n xs=none:=by
 unfold QG zt at *
 rw[List.find?_eq_none]
 intro x hx hh
 rw[List.any_eq_false]at h
 exact h x hx hh
theorem zch (n:Int) (xs:List zn) (hR:z8 xs):∃ i,i<=xs.length/\(∀ t (h:t<xs.length),t<i->xs[t].ino<n)/\(∀ t (h:t<xs.length),i<=t->n<=xs[t].ino):=by
 induction xs with
 | nil=>exact ⟨0,Nat.le_refl _,fun t h=>absurd h (Nat.not_lt_zero _),fun t h=>absurd h (Nat.not_lt_zero _)⟩
 | cons x r ih =>
  by_cases hx:x.ino<n
  ·obtain ⟨i,h1,h2,h3⟩:=ih (List.pairwise_cons.1 hR).2
   refine ⟨i+1,by simp;omega,fun t h ht=>?_,fun t h ht=>?_⟩
   ·cases t with
    | zero=>exact hx
    | succ t=>exact h2 t (by simpa using h) (by omega)
   ·cases t with
    | zero=>omega
    | succ t=>exact h3 t (by simpa using h) (by omega)
  ·refine ⟨0,Nat.zero_le _,fun t h ht=>absurd ht (Nat.not_lt_zero _),fun t h _=>?_⟩
   cases t with
   | zero=>simp;omega
   | succ t =>
    have:=(List.pairwise_cons.1 hR).1 (r[t]'(by simpa using h)) (List.getElem_mem _)
    simp;omega
theorem zf9 (n:Int) (xs:List zn):qV n xs<=xs.length:=List.length_filter_le _ _
theorem zf2 {n:Int} {xs:List zn} (hR:z8 xs):(∀ t (h:t<xs.length),t<qV n xs->xs[t].ino<n)/\(∀ t (h:t<xs.length),qV n xs<=t->n<=xs[t].ino):=by
 obtain ⟨i,h1,h2,h3⟩:=zch n xs hR
 rw[Gn n xs i h1 h2 h3]
 exact ⟨h2,h3⟩
theorem zi7 {n:Int} {xs:List zn} (hR:z8 xs) (h:zt n xs=true):∃ hlt:qV n xs<xs.length,xs[qV n xs].ino=n:=by
 obtain ⟨h2,h3⟩:=zf2 (n:=n) hR
 by_cases hlt:qV n xs<xs.length
 ·refine ⟨hlt,?_⟩
  have:=zke n xs _ hlt h2 (h3 _ hlt (Nat.le_refl _)) hR
  rw[h]at this
  exact of_decide_eq_true this.symm
 ·have:=zfT n xs (fun t h=>h2 t h (by omega))
  rw[h]at this;cases this
theorem H7 {n:Int} {xs:List zn} (hR:z8 xs) (h:zt n xs=true):∃ hlt:qV n xs<xs.length,QG n xs=some xs[qV n xs]:=by
 obtain ⟨hlt,he⟩:=zi7 hR h
 refine ⟨hlt,?_⟩
 obtain ⟨h2,h3⟩:=zf2 (n:=n) hR
 unfold QG
 rw[List.find?_eq_some_iff_getElem]
 exact ⟨by simp[he],_,hlt,rfl,fun j hj=>by have:=h2 j (by omega) hj;simp;omega⟩
theorem Je {y:zn} {r:List zn}:z8 (y :: r)↔(∀ z∈r,y.ino<z.ino)/\z8 r:=List.pairwise_cons
theorem XP {n:Int} {y:zn} {r:List zn} (h:y.ino<n):qV n (y :: r)=qV n r+1:=by
 unfold qV
 rw[List.filter_cons_of_pos (by simpa using h),List.length_cons]
theorem U9 {n:Int} {xs:List zn} (h:∀ z∈xs,n<=z.ino):qV n xs=0:=by
 unfold qV
 rw[List.length_eq_zero_iff,List.filter_eq_nil_iff]
 intro z hz
 have:=h z hz
 simp;omega
theorem Zd {n:Int} {xs:List zn} (h:zt n xs=false):zT n xs=xs:=by
 unfold zT
 rw[List.filter_eq_self]
 intro z hz
 unfold zt at h
 rw[List.any_eq_false]at h
 have:=h z hz
 simpa using this
theorem QB {n:Int} {y:zn} {r:List zn} (h:y.ino<n):zt n (y :: r)=zt n r:=by
 unfold zt
 rw[List.any_cons,show (y.ino==n)=false by rw[beq_eq_false_iff_ne];omega,Bool.false_or]
theorem Ug {n:Int} {xs:List zn} (h:∀ z∈xs,n<z.ino):zt n xs=false:=by
 unfold zt
 rw[List.any_eq_false]
 intro z hz
 have:=h z hz
 simp;omega
theorem Jl {n:Int} {y:zn} {r:List zn} (h:y.ino≠n):zT n (y :: r)=y :: zT n r:=by
 unfold zT
 rw[List.filter_cons_of_pos (by simpa using h)]
theorem Jo {n:Int} {y:zn} {r:List zn} (h:y.ino=n):zT n (y :: r)=zT n r:=by
 unfold zT
 rw[List.filter_cons_of_neg (by simpa using h)]
theorem uG {n:Int}:∀ {xs:List zn},z8 xs->zt n xs=true->xs.take (qV n xs)++xs.drop (qV n xs+1)=zT n xs
 | [],_,h=>by cases h
 | y :: r,hR,h=>by
  obtain ⟨h1,h2⟩:=Je.1 hR
  by_cases hy:y.ino<n
  ·rw[XP hy,List.take_succ_cons,List.drop_succ_cons,List.cons_append,uG h2 (by rwa [QB hy]at h),Jl (by omega)]
  ·have hr0:qV n (y :: r)=0:=U9 fun z hz=>by
    rcases List.mem_cons.1 hz with rfl | hz
    ·omega
    ·have:=h1 z hz;omega
   by_cases he:y.ino=n
   ·rw[hr0,Jo he,Zd (Ug fun z hz=>by have:=h1 z hz;omega)];rfl
   ·exfalso
    rw[Ug fun z hz=>by
     rcases List.mem_cons.1 hz with rfl | hz
     ·omega
     ·have:=h1 z hz;omega]at h
    cases h
theorem zo8 {x y:zn} {r:List zn} (h:y.ino<x.ino):ZO x (y :: r)=y :: ZO x r:=by
 rw[ZO,if_neg (by omega)]
theorem zka {x:zn} {xs:List zn} (h:∀ z∈xs,x.ino<z.ino):ZO x xs=x :: xs:=by
 cases xs with
 | nil=>rfl
 | cons y r=>rw[ZO,if_pos (h y List.mem_cons_self)]
theorem UI {x y:zn} {r:List zn} (h:y.ino<x.ino):qP x (y :: r)=y :: qP x r:=by
 unfold qP
 rw[Jl (by omega),zo8 h]
theorem x8 {x:zn}:∀ {xs:List zn},z8 xs->zt x.ino xs=true->xs.set (qV x.ino xs) x=qP x xs
 | [],_,h=>by cases h
 | y :: r,hR,h=>by
  obtain ⟨h1,h2⟩:=Je.1 hR
  by_cases hy:y.ino<x.ino
  ·rw[XP hy,List.set_cons_succ,x8 h2 (by rwa [QB hy]at h),UI hy]
  ·have hr0:qV x.ino (y :: r)=0:=U9 fun z hz=>by
    rcases List.mem_cons.1 hz with rfl | hz
    ·omega
    ·have:=h1 z hz;omega
   by_cases he:y.ino=x.ino
   ·unfold qP
    rw[hr0,Jo he,Zd (Ug fun z hz=>by have:=h1 z hz;omega),zka fun z hz=>by have:=h1 z hz;omega];rfl
   ·exfalso
    rw[Ug fun z hz=>by
     rcases List.mem_cons.1 hz with rfl | hz
     ·omega
     ·have:=h1 z hz;omega]at h
    cases h
theorem vu {x:zn}:∀ {xs:List zn},z8 xs->zt x.ino xs=false->xs.take (qV x.ino xs)++x :: xs.drop (qV x.ino xs)=qP x xs
 | [],_,_=>rfl
 | y :: r,hR,h=>by
  obtain ⟨h1,h2⟩:=Je.1 hR
  by_cases hy:y.ino<x.ino
  ·rw[XP hy,List.take_succ_cons,List.drop_succ_cons,List.cons_append,vu h2 (by rwa [QB hy]at h),UI hy]
  ·have hne:y.ino≠x.ino:=by
    intro e
    unfold zt at h
    rw[List.any_cons,e]at h
    simp at h
   have hr0:qV x.ino (y :: r)=0:=U9 fun z hz=>by
    rcases List.mem_cons.1 hz with rfl | hz
    ·omega
    ·have:=h1 z hz;omega
   unfold qP
   rw[hr0,Zd h,zka fun z hz=>by
    rcases List.mem_cons.1 hz with rfl | hz
    ·omega
    ·have:=h1 z hz;omega]
   rfl
theorem zhf {n:Int} {xs:List zn}:∀ x∈zT n xs,x∈xs:=fun x h=>(List.mem_filter.1 h).1
theorem G5 {x:zn}:∀ {xs:List zn} {z:zn},z∈ZO x xs↔z=x∨z∈xs
 | [],z=>by simp[ZO]
 | y :: r,z=>by
  rw[ZO]
  split
  ·simp
  ·rw[List.mem_cons,G5,List.mem_cons]
   constructor
   ·rintro (h | h | h)<;>simp[h]
   ·rintro (h | h | h)<;>simp[h]
theorem zcB {x:zn} {xs:List zn} {z:zn} (h:z∈qP x xs):z=x∨z∈xs:=by
 rcases G5.1 h with h | h
 ·exact .inl h
 ·exact .inr (zhf _ h)
theorem Hk {n:Int} {xs:List zn} (h:z8 xs):z8 (zT n xs):=List.Pairwise.filter _ h
theorem My {x:zn}:∀ {xs:List zn},z8 xs->(∀ z∈xs,z.ino≠x.ino)->z8 (ZO x xs)
 | [],_,_=>by simp[ZO,z8]
 | y :: r,h,hne=>by
  obtain ⟨h1,h2⟩:=Je.1 h
  have hy:=hne y List.mem_cons_self
  rw[ZO]
  split
  ·next hlt =>
   refine Je.2 ⟨fun z hz=>?_,h⟩
   rcases List.mem_cons.1 hz with rfl | hz
   ·exact hlt
   ·have:=h1 z hz;omega
  ·next hlt =>
   refine Je.2 ⟨fun z hz=>?_,My h2 fun z hz=>hne z (List.mem_cons_of_mem _ hz)⟩
   rcases G5.1 hz with rfl | hz
   ·omega
   ·exact h1 z hz
theorem Jp {x:zn} {xs:List zn} (h:z8 xs):z8 (qP x xs):=My (Hk h) fun z hz=>by
 have:=(List.mem_filter.1 hz).2
 simpa using this
theorem VQ {n:Int} {xs:List zn}:(zT n xs).length<=xs.length:=List.length_filter_le _ _
end
section
open CA CB
open Go.RowKit
abbrev zj7 (e:zX):List C:=[.str e.name,.sc (.int .i64 e.ino)]
abbrev zW (es:List zX):List (List C):=es.map zj7
abbrev Js (x:zn):List C:=[.sc (.int .i64 x.ino),.sc (.int .i64 x.kind),.sc (.int .i64 x.links),.str x.data,.sc (.int .i64 x.parent),.sl 2 (zW x.es)]
abbrev zp (xs:List zn):List (List C):=xs.map Js
structure FsV where
 maxI:Int
 maxB:Int
 next:Int
 xs:List zn
deriving DecidableEq,Inhabited
abbrev fsC (f:FsV):List C:=[.sc (.int .i64 f.maxI),.sc (.int .i64 f.maxB),.sc (.int .i64 f.next),.sl 6 (zp f.xs)]
theorem qI (xs:List zn) (i:Nat) (h:i<xs.length):(zp xs)[i]?=some (Js xs[i]):=by simp[List.getElem?_map,List.getElem?_eq_getElem h]
theorem Jd (xs:List zX) (i:Nat) (h:i<xs.length):(zW xs)[i]?=some (zj7 xs[i]):=by simp[List.getElem?_map,List.getElem?_eq_getElem h]
def vh:zn:=⟨0,0,0,[],0,[]⟩
def zf (n:Int) (xs:List zn):zn:=(QG n xs).getD vh
def VX (a b:Int):Int:=if a<b then -1 else if b<a then 1 else 0
section
variable {G:zo}
theorem zdM (a:Int):Fun Tryz.prog G 158 [.sc (.int .i64 a)] (.sc (.bool false)) 0:=by
 refine fon Tryz.func158 ?_;dsimp only[Tryz.f158]
 push_cast -dsimp
 exact dn
theorem vv (a b:Int):Fun Tryz.prog G 120 [.sc (.int .i64 a),.sc (.int .i64 b)] (.sc (.int .i64 (VX a b))) 0:=by
 refine fon Tryz.func120 ?_;dsimp only[Tryz.f120]
 push_cast -dsimp
 refine cl (zdM a) ?_;push_cast -dsimp
 refine cl (zdM b) ?_;push_cast -dsimp
 refine br (fun h=>?_) (fun h=>?_)
 ·have h:=of_decide_eq_true h
  push_cast -dsimp
  exact ⟨[],rfl,rfl,by (push_cast -dsimp [zb,za,CLe,zd];simp[VX,h])⟩
 ·have h:=of_decide_eq_false h
  push_cast -dsimp
  refine br (fun h1=>?_) (fun h1=>?_)
  ·have h1:=of_decide_eq_true h1
   push_cast -dsimp
   exact ⟨[],rfl,rfl,by (push_cast -dsimp [zb,za,CLe,zd];simp[VX,h,h1])⟩
  ·have h1:=of_decide_eq_false h1
   push_cast -dsimp
   exact ⟨[],rfl,rfl,by (push_cast -dsimp [zb,za,CLe,zd];simp[VX,h,h1])⟩
theorem ze1 (x:zn) (n:Int):Fun Tryz.prog G 119 [.agg (Js x),.sc (.int .i64 n)] (.sc (.int .i64 (VX x.ino n))) 0:=by
 refine fon Tryz.func119 ?_;dsimp only[Tryz.f119]
 push_cast -dsimp
 refine cl (vv x.ino n) ?_;push_cast -dsimp
 exact dn
theorem yA (xs:List zn) (n:Int) (hl:xs.length<=100000) (hR:z8 xs) :
  Fun Tryz.prog G 118 [.sl 6 (zp xs),.sc (.int .i64 n),.clo (.func 119) [] []] (.tup [.sc (.int .i64 (qV n xs:Nat)),.sc (.bool (zt n xs))]) 0:=by
 refine fon Tryz.func118 ?_;dsimp only[Tryz.f118]
 push_cast -dsimp
 refine loop (fun p:Nat×Nat=>⟨[(0,.sl 6 (zp xs)),(1,.sc (.int .i64 n)),(2,.clo (.func 119) [] []),(8,.sc (.int .i64 (xs.length:Nat))),(9,.sc (.int .i64 p.1)),(10,.sc (.int .i64 p.2))],[],0,0⟩)
  (fun p=>p.1<=p.2/\p.2<=xs.length/\(∀ t (h:t<xs.length),t<p.1->xs[t].ino<n)/\∀ t (h:t<xs.length),p.2<=t->n<=xs[t].ino) (fun p=>p.2-p.1) (0,xs.length) ⟨Nat.zero_le _,Nat.le_refl _,fun t _ h=>by (simp at h),fun t h h'=>by (dsimp only at h';omega)⟩ ?_ ?_
 ·exact wk (by push_cast -dsimp [zb,za,CLe,zd,List.length_map])
 ·rintro ⟨i,j⟩ ⟨h1,h2,h3,h4⟩
  dsimp only at h1 h2 h3 h4 ⊢
  by_cases h:i<j
  ·obtain ⟨m,hm⟩:∃ m,m=(i+j) / 2:=⟨_,rfl⟩
   have hmi:((i:Int)+(j:Int)) / 2=(m:Int):=by omega
   have hml:m<xs.length:=by omega
   have hat:=qI xs m hml
   push_cast -dsimp [h,hmi,hat]
   repeat refine an ?_
   refine cl (ze1 xs[m] n) ?_;push_cast -dsimp
   by_cases hc:xs[m].ino<n
   ·have hcv:VX xs[m].ino n = -1:=by simp[VX,hc]
    push_cast -dsimp [hcv]
    repeat refine an ?_
    refine ⟨(m+1,j),⟨by omega,h2,fun t ht hlt=>?_,h4⟩,by dsimp only;omega,wk⟩
    dsimp only at hlt
    rcases Nat.lt_or_ge t m with q | q
    ·have:=(List.pairwise_iff_getElem.1 hR) t m ht hml q;omega
    ·have:t=m:=by omega
     subst this;exact hc
   ·have hcv:(VX xs[m].ino n<0)=False:=eq_false (by unfold VX;rw[if_neg hc];split<;>omega)
    push_cast -dsimp [hcv]
    repeat refine an ?_
    refine ⟨(i,m),⟨by omega,by omega,h3,fun t ht hge=>?_⟩,by dsimp only;omega,wk⟩
    dsimp only at hge
    rcases Nat.lt_or_ge m t with q | q
    ·have:=(List.pairwise_iff_getElem.1 hR) m t hml ht q;omega
    ·have:t=m:=by omega
     subst this;omega
  ·have hij:i=j:=by omega
   subst hij
   have hrk:=Gn n xs i h2 h3 h4
   push_cast -dsimp [h]
   refine br (fun hx=>?_) (fun hx=>?_)
   ·have hx:i<xs.length:=by simpa using hx
    have hat:=qI xs i hx
    have hh:=zke n xs i hx h3 (h4 i hx (Nat.le_refl _)) hR
    push_cast -dsimp [hx,hat]
    repeat refine an ?_
    refine cl (ze1 xs[i] n) ?_;push_cast -dsimp
    have hcv:decide (VX xs[i].ino n=0)=zt n xs:=by
     rw[hh]
     have:=h4 i hx (Nat.le_refl _)
     unfold VX
     rw[if_neg (by omega)]
     split
     ·rw[decide_eq_false (by omega),decide_eq_false (by omega)]
     ·rw[decide_eq_true (by rfl),decide_eq_true (by omega)]
    push_cast -dsimp [hcv]
    exact dn (by push_cast -dsimp [zb,za,CLe,zd,hrk])
   ·have hx:¬i<xs.length:=by simpa using hx
    have hh:=zfT n xs fun t ht=>h3 t ht (by omega)
    push_cast -dsimp [hx]
    exact dn (by push_cast -dsimp [zb,za,CLe,zd,hrk,hh])
theorem zeq (f:FsV) (n:Int) (hl:f.xs.length<=100000) (hR:z8 f.xs):Fun Tryz.prog G 65 [.agg (fsC f),.sc (.int .i64 n)] (.tup [.sc (.int .i64 (qV n f.xs:Nat)),.sc (.bool (zt n f.xs))]) 0:=by
 refine fon Tryz.func65 ?_;dsimp only[Tryz.f65]
 push_cast -dsimp
 refine cl (yA f.xs n hl hR) ?_;push_cast -dsimp
 exact dn
end
end
section
open Go.RowKit Go.ChangeMaps Go.ChangeShapes Go.WideShapes Go.Deep Go.Joins
def M5 (W:World):Env:=⟨W,fun _ _=>False,fun _=>False⟩
theorem Fun.answers {P:Program} {G:zo} {f:FuncId} {args:List C} {u:Value} {n:Nat} (h:Fun P G f args (.sc u) n) {W:World} {vs:List Value} (hg:Xd G (M5 W)) (ha:zu (M5 W) zF args vs) :
  Calls P f vs.toArray W fun e w'=>e = .returned u/\Below W.heap.size W w':=by
 refine (h.2 (M5 W) vs hg ha).mono ?_
 rintro e w' ⟨v,R',L',rfl,rfl,st,hr⟩
 rw[zm]at hr
 subst hr
 exact ⟨rfl,st.below⟩
section
variable {H:Type} {enc:TypeId×Value->H} {P:Program} {W:World}
def Opn (enc:TypeId×Value->H) (P:Program) (W:World) (t:TypeId) (Q:C->Prop):Prop:=
 ∀ (fuel:Nat) (cs:List Value) (x:DataW H×List MemPlace),DataW.trod enc P W 0 (fun _=>true) true fuel t cs=some x->∃ v c,cs = [v]/\Q c/\Rep (M5 W) zF c v/\v.oneCell'=true
def ja (enc:TypeId×Value->H) (P:Program) (W:World) (t:TypeId) (k:Nat) (Q:List C->Prop):Prop:=
 ∀ (fuel:Nat) (cs:List Value) (x:DataW H×List MemPlace),DataW.trod enc P W 0 (fun _=>true) true fuel t cs=some x ->
  ∃ row,Q row/\row.length=k/\cs.length=k/\∀ (j:Nat) c v,row[j]?=some c->cs[j]?=some v->Rep (M5 W) zF c v/\v.oneCell'=true
theorem Opn.int {t:TypeId} {k:IntKind} (ht:P.underlying t=some (.int k)):Opn enc P W t fun c=>∃ n,c = .sc (.int k n)/\(Lit.int k n).wf=true:=fun fuel cs x h=>by
 obtain ⟨n,rfl,_,hw⟩:=DataW.trod_int ht h
 exact ⟨_,_,rfl,⟨n,rfl,hw⟩,zm.2 rfl,rfl⟩
theorem Opn.bool {t:TypeId} (ht:P.underlying t=some .bool):Opn enc P W t fun c=>∃ b,c = .sc (.bool b):=fun fuel cs x h=>by
 obtain ⟨n,rfl,_⟩:=DataW.trod_bool ht h
 exact ⟨_,_,rfl,⟨n,rfl⟩,zm.2 rfl,rfl⟩
theorem Opn.str {t:TypeId} (ht:P.underlying t=some .string):Opn enc P W t fun c=>∃ l:List UInt8,c = .str l/\l.length<=maxLen:=fun fuel cs x h=>by
 obtain ⟨s,rfl,_,hs⟩:=DataW.trod_string ht h
 exact ⟨_,_,rfl,⟨s.data.toList,rfl,by rw[Array.length_toList];exact hs⟩,zN.2 (by cases s;simp),rfl⟩
theorem ja.one {t:TypeId} {Q:C->Prop} (h:Opn enc P W t Q):ja enc P W t 1 fun row=>∃ c,row = [c]/\Q c:=fun fuel cs x hx=>by
 obtain ⟨v,c,rfl,hq,hr,ho⟩:=h fuel cs x hx
 refine ⟨[c],⟨c,rfl,hq⟩,rfl,rfl,fun j c' v' h1 h2=>?_⟩
 cases j with
 | zero=>cases h1;cases h2;exact ⟨hr,ho⟩
 | succ j=>cases h1
theorem Qq {α:Type} {Q:Nat->α->Prop}:∀ n:Nat,(∀ i,i<n->∃ x,Q i x)->∃ l:List α,l.length=n/\∀ i (h:i<l.length),Q i l[i]
 | 0,_=>⟨[],rfl,fun i h=>absurd h (Nat.not_lt_zero _)⟩
 | n+1,h=>by
  obtain ⟨l,hl,hq⟩:=Qq n fun i hi=>h i (by omega)
  obtain ⟨x,hx⟩:=h n (by omega)
  refine ⟨l++[x],by simp[hl],fun i hi=>?_⟩
  rcases Nat.lt_or_ge i n with h1 | h1
  ·rw[List.getElem_append_left (by omega)];exact hq i (by omega)
  ·have:i=n:=by simp[hl]at hi;omega
   subst this
   rw[List.getElem_append_right (by omega)]
   simpa [hl] using hx
theorem ja.struct {t:TypeId} {fs:Array Field} {Qs:Nat->C->Prop} (hs:P.underlying t=some (.struct fs)) (hone:oneCellFields P fs=true) (hC:P.cellsOf t=fs.size)
  (h:∀ (j:Nat) f,fs[j]?=some f->Opn enc P W f.type (Qs j)):ja enc P W t fs.size fun row=>row.length=fs.size/\∀ (j:Nat) c,row[j]?=some c->Qs j c:=fun fuel cs x hx=>by
 obtain ⟨ys,n',hn',hy,hlen,hyl,hf⟩:=DataW.trod_struct hs hx
 rw[hC]at hlen
 obtain ⟨row,hl,hq⟩:=Qq (Q:=fun j (c:C)=>Qs j c/\∃ v,cs[j]?=some v/\Rep (M5 W) zF c v/\v.oneCell'=true) fs.size (fun j hj=>by
  have hfj:fs[j]?=some fs[j]:=Array.getElem?_eq_getElem hj
  obtain ⟨ho,hk⟩:=hone_of hone j _ hfj
  have h1:=hf j _ hfj
  rw[ho,hk]at h1
  have hone':(cs.drop j).take 1 = [cs[j]'(by omega)]:=by
   rw[List.drop_eq_getElem_cons (by omega)]
   rfl
  rw[hone',List.getElem?_eq_getElem (by omega)]at h1
  obtain ⟨v,c,e,hq,hr,hoc⟩:=h j _ hfj _ _ _ h1
  cases e
  exact ⟨c,hq,_,List.getElem?_eq_getElem (by omega),hr,hoc⟩)
 refine ⟨row,⟨hl,fun j c hj=>?_⟩,hl,hlen,fun j c v h1 h2=>?_⟩
 ·obtain ⟨hj',rfl⟩:=List.getElem?_eq_some_iff.1 hj
  exact (hq j hj').1
 ·obtain ⟨hj',rfl⟩:=List.getElem?_eq_some_iff.1 h1
  obtain ⟨_,v',e,hr,ho⟩:=hq j hj'
  rw[h2]at e;cases e
  exact ⟨hr,ho⟩
theorem Opn.slice {t e:TypeId} {k:Nat} {Q:List C->Prop} (ht:P.underlying t=some (.slice e)) (hC:P.cellsOf e=k) (hk:0<k) (h:ja enc P W e k Q):Opn enc P W t fun c=>∃ rows,c = .sl k rows/\rows.length<=maxLen/\∀ r∈rows,Q r:=fun fuel cs x hx=>by
 rcases open_slice ht hx with h0 | ⟨a,len,cap,m,n,D,Pl,hcs,hb,hl,hm,hmm,hx,hi⟩
 ·exact ⟨_,.sl k [],h0.1,⟨[],rfl,Nat.zero_le _,fun r hr=>by cases hr⟩,Hy.2 ⟨none,0,rfl,Nat.le_refl _,Nat.zero_le _,.inl rfl⟩,rfl⟩
 ·simp only[if_true]at hmm
  subst hmm
  obtain ⟨rows,hrl,hq⟩:=Qq (Q:=fun i (row:List C)=>Q row/\row.length=k/\∀ (j:Nat) c,row[j]?=some c->∃ v,W.cell? (a.add (i*k+j))=some v/\Rep (M5 W) zF c v/\v.oneCell'=true) len (fun i hlt=>by
   obtain ⟨cs',hc,ht'⟩:=hi i (by omega)
   rw[hC]at hc
   obtain ⟨row,hq,hl1,hl2,hr⟩:=h _ _ _ ht'
   obtain ⟨_,hcl,hat⟩:=World.cells?_some hc
   refine ⟨row,hq,hl1,fun j c hj=>?_⟩
   have hjl:j<k:=by have:=(List.getElem?_eq_some_iff.1 hj).1;omega
   have hv:cs'[j]?=some (cs'[j]'(by omega)):=List.getElem?_eq_getElem (by omega)
   obtain ⟨hr1,hr2⟩:=hr j c _ hj hv
   refine ⟨_,?_,hr1,hr2⟩
   rw[←Go.Deep.add_add,hat j hjl,hv])
  refine ⟨_,.sl k rows,hcs,⟨rows,rfl,by omega,fun r hr=>?_⟩,?_,rfl⟩
  ·obtain ⟨i,hi',rfl⟩:=List.getElem_of_mem hr
   exact (hq i hi').1
  ·refine Hy.2 ⟨some a,m,by rw[hrl],by omega,by omega,?_⟩
   by_cases h0:rows = []
   ·exact .inl h0
   ·have hpos:0<rows.length:=List.length_pos_iff.2 h0
    obtain ⟨b,off,spot⟩:=a
    obtain ⟨_,hl0,h00⟩:=hq 0 hpos
    obtain ⟨v0,hc0,_⟩:=h00 0 ((rows[0]'hpos)[0]'(by omega)) (List.getElem?_eq_getElem _)
    have hspot:spot=none:=by simpa [Addr.add] using World.cell?_spot hc0
    subst hspot
    refine .inr ⟨b,off,rfl,qK fun i row hrow=>?_⟩
    obtain ⟨hi',rfl⟩:=List.getElem?_eq_some_iff.1 hrow
    obtain ⟨_,hlr,hcr⟩:=hq i hi'
    refine ⟨hlr,zY fun j c hj=>?_⟩
    obtain ⟨v,h1,h2,h3⟩:=hcr j c hj
    rw[Addr.add_lit]at h1
    exact ⟨v,by rw[Nat.add_assoc];exact h1,fun hf=>hf,h2,h3⟩
theorem Opn.arg {r:Reach} {b0:Nat} {t:TypeId} {Q:C->Prop} {v:Value} {d:DataW H} {p:List MemPlace} (h:Opn enc P W t Q) (hv:v.cells = #[v]) (hd:DataW.Trod enc P W 0 (fun _=>true) true t v d p):∃ c,Q c/\Rep (M5 W) zF c v:=by
 obtain ⟨fuel,hf⟩:=hd
 rw[hv]at hf
 obtain ⟨v',c,e,hq,hr,_⟩:=h _ _ _ hf
 cases e
 exact ⟨c,hq,hr⟩
theorem ja.arg {r:Reach} {b0:Nat} {t:TypeId} {fs:Array Field} {k:Nat} {Q:List C->Prop} {v:Value} {d:DataW H} {p:List MemPlace} (h:ja enc P W t k Q) (hs:P.underlying t=some (.struct fs)) (hval:Value.okWide P W r b0 t v)
  (hd:DataW.Trod enc P W 0 (fun _=>true) true t v d p):∃ row,Q row/\Rep (M5 W) zF (.agg row) v:=by
 obtain ⟨cs,rfl,hsz⟩:=okWide_struct hs hval
 obtain ⟨fuel,hf⟩:=hd
 obtain ⟨row,hq,h1,h2,hr⟩:=h _ _ _ hf
 refine ⟨row,hq,jT.2 ⟨cs,rfl,JR ?_ fun i c v hc hv=>(hr i c v hc hv).1⟩⟩
 have:cs.toList.length=k:=h2
 omega
end
end
section
open Go.RowKit Go.ChangeMaps Go.ChangeShapes Go.WideShapes Go.Deep Go.Joins
theorem GA {α:Type} {f:α->List C} {q:α->Prop}:∀ {rows:List (List C)},(∀ r∈rows,∃ a,r=f a/\q a)->∃ xs:List α,rows=xs.map f/\∀ x∈xs,q x
 | [],_=>⟨[],rfl,fun x h=>by cases h⟩
 | r :: rows,h=>by
  obtain ⟨xs,rfl,hq⟩:=GA fun r' hr=>h r' (List.mem_cons_of_mem _ hr)
  obtain ⟨o,rfl,ho⟩:=h r List.mem_cons_self
  exact ⟨o :: xs,rfl,fun x hx=>by
   rcases List.mem_cons.1 hx with rfl | hx
   ·exact ho
   ·exact hq x hx⟩
section
variable {H:Type} {enc:TypeId×Value->H} {W:World}
theorem zlD:ja enc Tryz.prog W 100 2 fun row=>∃ o:zX,row=zj7 o/\o.name.length<=maxLen:=fun fuel cs x hx=>by
 obtain ⟨row,⟨hl,hq⟩,h1,h2,h3⟩:=ja.struct (W:=W) (enc:=enc) (Qs:=fun j c=>match j with | 0=>∃ l:List UInt8,c = .str l/\l.length<=maxLen | 1=>∃ n,c = .sc (.int .i64 n)/\(Lit.int .i64 n).wf=true | _=>True) Tryz.underlying100 (by kernel_rfl) (by kernel_rfl) (fun j f hj=>by
  match j,hj with
  | 0,hj=>cases hj;exact Opn.str Tryz.underlying9
  | 1,hj=>cases hj;exact Opn.int Tryz.underlying3
  | j+2,hj=>simp at hj) fuel cs x hx
 match row,h1,hq,h3 with
 | [c0,c1],_,hq,h3 =>
  obtain ⟨a,rfl,ha⟩:=hq 0 c0 rfl
  obtain ⟨k,rfl,_⟩:=hq 1 c1 rfl
  exact ⟨_,⟨⟨a,k⟩,rfl,ha⟩,rfl,h2,h3⟩
theorem zi3:Opn enc Tryz.prog W 51 fun c=>∃ xs:List zX,c = .sl 2 (zW xs)/\xs.length<=maxLen/\∀ x∈xs,x.name.length<=maxLen:=fun fuel cs x hx=>by
 obtain ⟨v,c,rfl,⟨rows,rfl,hl,hr⟩,h1,h2⟩:=Opn.slice (W:=W) (enc:=enc) Tryz.underlying51 (show Tryz.prog.cellsOf 100=2 by kernel_rfl) (by decide) zlD fuel cs x hx
 obtain ⟨xs,rfl,hq⟩:=GA hr
 exact ⟨v,_,rfl,⟨xs,rfl,by simpa using hl,hq⟩,h1,h2⟩
def zdO (x:zn):Prop:=x.data.length<=maxLen/\x.es.length<=maxLen/\∀ e∈x.es,e.name.length<=maxLen
theorem zdX:ja enc Tryz.prog W 53 6 fun row=>∃ o:zn,row=Js o/\zdO o:=fun fuel cs x hx=>by
 obtain ⟨row,⟨hl,hq⟩,h1,h2,h3⟩:=ja.struct (W:=W) (enc:=enc) (Qs:=fun j c=>match j with | 0=>∃ n,c = .sc (.int .i64 n)/\(Lit.int .i64 n).wf=true | 1=>∃ n,c = .sc (.int .i64 n)/\(Lit.int .i64 n).wf=true | 2=>∃ n,c = .sc (.int .i64 n)/\(Lit.int .i64 n).wf=true | 3=>∃ l:List UInt8,c = .str l/\l.length<=maxLen | 4=>∃ n,c = .sc (.int .i64 n)/\(Lit.int .i64 n).wf=true | 5=>∃ xs:List zX,c = .sl 2 (zW xs)/\xs.length<=maxLen/\∀ x∈xs,x.name.length<=maxLen | _=>True) Tryz.underlying53 (by kernel_rfl) (by kernel_rfl) (fun j f hj=>by
  match j,hj with
  | 0,hj=>cases hj;exact Opn.int Tryz.underlying3
  | 1,hj=>cases hj;exact Opn.int Tryz.underlying3
  | 2,hj=>cases hj;exact Opn.int Tryz.underlying3
  | 3,hj=>cases hj;exact Opn.str Tryz.underlying9
  | 4,hj=>cases hj;exact Opn.int Tryz.underlying3
  | 5,hj=>cases hj;exact zi3
  | j+6,hj=>simp at hj) fuel cs x hx
 match row,h1,hq,h3 with
 | [c0,c1,c2,c3,c4,c5],_,hq,h3 =>
  obtain ⟨a,rfl,_⟩:=hq 0 c0 rfl
  obtain ⟨b,rfl,_⟩:=hq 1 c1 rfl
  obtain ⟨c,rfl,_⟩:=hq 2 c2 rfl
  obtain ⟨d,rfl,hd⟩:=hq 3 c3 rfl
  obtain ⟨e,rfl,_⟩:=hq 4 c4 rfl
  obtain ⟨f,rfl,hf⟩:=hq 5 c5 rfl
  exact ⟨_,⟨⟨a,b,c,d,e,f⟩,rfl,hd,hf⟩,rfl,h2,h3⟩
theorem zaa:Opn enc Tryz.prog W 22 fun c=>∃ xs:List zn,c = .sl 6 (zp xs)/\xs.length<=maxLen/\∀ x∈xs,zdO x:=fun fuel cs x hx=>by
 obtain ⟨v,c,rfl,⟨rows,rfl,hl,hr⟩,h1,h2⟩:=Opn.slice (W:=W) (enc:=enc) Tryz.underlying22 (show Tryz.prog.cellsOf 53=6 by kernel_rfl) (by decide) zdX fuel cs x hx
 obtain ⟨xs,rfl,hq⟩:=GA hr
 exact ⟨v,_,rfl,⟨xs,rfl,by simpa using hl,hq⟩,h1,h2⟩
theorem zo2:ja enc Tryz.prog W 24 4 fun row=>∃ f:FsV,row=fsC f/\f.xs.length<=maxLen/\∀ x∈f.xs,zdO x:=fun fuel cs x hx=>by
 obtain ⟨row,⟨hl,hq⟩,h1,h2,h3⟩:=ja.struct (W:=W) (enc:=enc) (Qs:=fun j c=>match j with | 0=>∃ n,c = .sc (.int .i64 n)/\(Lit.int .i64 n).wf=true | 1=>∃ n,c = .sc (.int .i64 n)/\(Lit.int .i64 n).wf=true | 2=>∃ n,c = .sc (.int .i64 n)/\(Lit.int .i64 n).wf=true | 3=>∃ xs:List zn,c = .sl 6 (zp xs)/\xs.length<=maxLen/\∀ x∈xs,zdO x | _=>True) Tryz.underlying24 (by kernel_rfl) (by kernel_rfl) (fun j f hj=>by
  match j,hj with
  | 0,hj=>cases hj;exact Opn.int Tryz.underlying3
  | 1,hj=>cases hj;exact Opn.int Tryz.underlying3
  | 2,hj=>cases hj;exact Opn.int Tryz.underlying3
  | 3,hj=>cases hj;exact zaa
  | j+4,hj=>simp at hj) fuel cs x hx
 match row,h1,hq,h3 with
 | [c0,c1,c2,c3],_,hq,h3 =>
  obtain ⟨a,rfl,_⟩:=hq 0 c0 rfl
  obtain ⟨b,rfl,_⟩:=hq 1 c1 rfl
  obtain ⟨c,rfl,_⟩:=hq 2 c2 rfl
  obtain ⟨d,rfl,hd⟩:=hq 3 c3 rfl
  exact ⟨_,⟨⟨a,b,c,d⟩,rfl,hd⟩,rfl,h2,h3⟩
end
end
section
open Go
structure zlA (κ:Type) where
 lt:κ->κ->Bool
 irr:∀ a,lt a a=false
 tr:∀ {a b c},lt a b=true->lt b c=true->lt a c=true
 tot:∀ {a b},lt a b=false->lt b a=false->a=b
theorem Xy:∀ a:List UInt8,Op.bytesLess a a=false
 | []=>rfl
 | c :: a=>by
  have h:¬c<c:=by simp
  simp[Op.bytesLess,Xy a]
theorem GW:∀ {a b c:List UInt8},Op.bytesLess a b=true->Op.bytesLess b c=true->Op.bytesLess a c=true
 | _,[],_,h,_=>by unfold Op.bytesLess at h;cases h
 | [],y :: b,[],_,h2=>by unfold Op.bytesLess at h2;cases h2
 | [],y :: b,z :: c,_,_=>rfl
 | x :: a,y :: b,[],_,h2=>by unfold Op.bytesLess at h2;cases h2
 | x :: a,y :: b,z :: c,h1,h2=>by
  unfold Op.bytesLess at h1 h2 ⊢
  simp only[Bool.or_eq_true,Bool.and_eq_true,decide_eq_true_eq,beq_iff_eq]at h1 h2 ⊢
  rcases h1 with h1 | ⟨rfl,h1⟩
  ·rcases h2 with h2 | ⟨rfl,h2⟩
   ·exact .inl (UInt8.lt_trans h1 h2)
   ·exact .inl h1
  ·rcases h2 with h2 | ⟨rfl,h2⟩
   ·exact .inl h2
   ·exact .inr ⟨rfl,GW h1 h2⟩
theorem xc:∀ {a b:List UInt8},Op.bytesLess a b=false->Op.bytesLess b a=false->a=b
 | [],[],_,_=>rfl
 | [],y :: b,h,_=>by unfold Op.bytesLess at h;cases h
 | x :: a,[],_,h=>by unfold Op.bytesLess at h;cases h
 | x :: a,y :: b,h1,h2=>by
  unfold Op.bytesLess at h1 h2
  simp only[Bool.or_eq_false_iff,decide_eq_false_iff_not,Bool.and_eq_false_iff,beq_eq_false_iff_ne]at h1 h2
  obtain ⟨g1,g2⟩:=h1
  obtain ⟨g3,g4⟩:=h2
  have hxy:x=y:=by
   apply UInt8.toNat_inj.1
   have e1:¬x.toNat<y.toNat:=fun h=>g1 (UInt8.lt_iff_toNat_lt.2 h)
   have e2:¬y.toNat<x.toNat:=fun h=>g3 (UInt8.lt_iff_toNat_lt.2 h)
   omega
  subst hxy
  have h3:Op.bytesLess a b=false:=by rcases g2 with g | g;exact absurd rfl g;exact g
  have h4:Op.bytesLess b a=false:=by rcases g4 with g | g;exact absurd rfl g;exact g
  rw[xc h3 h4]
theorem zfz:∀ a b:List UInt8,(Lib.compareBytes a b<0)=(Op.bytesLess a b=true)
 | [],[]=>by simp[Lib.compareBytes,Op.bytesLess]
 | [],_ :: _=>by simp[Lib.compareBytes,Op.bytesLess]
 | _ :: _,[]=>by simp[Lib.compareBytes,Op.bytesLess]
 | a :: x,b :: y=>by
  unfold Lib.compareBytes Op.bytesLess
  by_cases h1:a<b
  ·simp[h1]
  ·rw[if_neg h1]
   by_cases h2:b<a
   ·have:a≠b:=fun e=>by subst e;exact h1 h2
    simp[h1,h2,this]
   ·have e:a=b:=by
     apply UInt8.toNat_inj.1
     have e1:¬a.toNat<b.toNat:=fun h=>h1 (UInt8.lt_iff_toNat_lt.2 h)
     have e2:¬b.toNat<a.toNat:=fun h=>h2 (UInt8.lt_iff_toNat_lt.2 h)
     omega
    rw[if_neg h2,zfz x y]
    subst e
    simp[h1]
theorem zeH:∀ a b:List UInt8,(Lib.compareBytes a b=0)=(a=b)
 | [],[]=>by simp[Lib.compareBytes]
 | [],_ :: _=>by simp[Lib.compareBytes]
 | _ :: _,[]=>by simp[Lib.compareBytes]
 | a :: x,b :: y=>by
  unfold Lib.compareBytes
  by_cases h1:a<b
  ·have:a≠b:=fun e=>by subst e;simp at h1
   simp[h1,this]
  ·rw[if_neg h1]
   by_cases h2:b<a
   ·have:a≠b:=fun e=>by subst e;exact h1 h2
    simp[h2,this]
   ·have e:a=b:=by
     apply UInt8.toNat_inj.1
     have e1:¬a.toNat<b.toNat:=fun h=>h1 (UInt8.lt_iff_toNat_lt.2 h)
     have e2:¬b.toNat<a.toNat:=fun h=>h2 (UInt8.lt_iff_toNat_lt.2 h)
     omega
    rw[if_neg h2,zeH x y]
    subst e
    simp
def Xm:zlA (List UInt8):=⟨Op.bytesLess,Xy,GW,xc⟩
def ju:zlA Int:=⟨fun a b=>decide (a<b),fun a=>by simp,fun h1 h2=>by simp at h1 h2 ⊢;omega,fun h1 h2=>by simp at h1 h2;omega⟩
section
variable {α κ:Type} [DecidableEq κ] (o:zlA κ) (key:α->κ)
def qC (xs:List α):Prop:=xs.Pairwise fun a b=>o.lt (key a) (key b)=true
def qn (n:κ) (xs:List α):Nat:=(xs.filter fun x=>o.lt (key x) n).length
def JV (n:κ) (xs:List α):Bool:=xs.any fun x=>decide (key x=n)
def jl (n:κ) (xs:List α):Option α:=xs.find? fun x=>decide (key x=n)
def JJ (n:κ) (xs:List α):List α:=xs.filter fun x=>!decide (key x=n)
def ZS (x:α):List α->List α
 | []=>[x]
 | y :: r=>if o.lt (key x) (key y) then x :: y :: r else y :: ZS x r
variable {o:zlA κ} {key:α->κ}
theorem zlA.asym {a b:κ} (h:o.lt a b=true):o.lt b a=false:=by
 cases h':o.lt b a with
 | false=>rfl
 | true=>have:=o.tr h h';rw[o.irr]at this;cases this
theorem Zg (n:κ):∀ (xs:List α) (i:Nat),i<=xs.length->(∀ t (h:t<xs.length),t<i->o.lt (key xs[t]) n=true)->(∀ t (h:t<xs.length),i<=t->o.lt (key xs[t]) n=false)->qn o key n xs=i
 | [],i,h,_,_=>by simp at h;simp[qn,h]
 | x :: r,0,_,_,h2=>by
  have hx:o.lt (key x) n=false:=h2 0 (by simp) (Nat.le_refl _)
  have ih:=Zg n r 0 (Nat.zero_le _) (fun t h h'=>absurd h' (Nat.not_lt_zero _)) (fun t h _=>h2 (t+1) (by simp;omega) (Nat.zero_le _))
  unfold qn at ih ⊢
  rw[List.filter_cons_of_neg (by simp[hx])]
  exact ih
 | x :: r,i+1,h,h1,h2=>by
  have hx:o.lt (key x) n=true:=h1 0 (by simp) (Nat.succ_pos _)
  have ih:=Zg n r i (by simpa using h) (fun t h h'=>h1 (t+1) (by simp;omega) (by omega)) (fun t h h'=>h2 (t+1) (by simp;omega) (by omega))
  unfold qn at ih ⊢
  rw[List.filter_cons_of_pos (by simp[hx]),List.length_cons,ih]
theorem VW (n:κ) (xs:List α):qn o key n xs<=xs.length:=List.length_filter_le _ _
theorem Jf {y:α} {r:List α}:qC o key (y :: r)↔(∀ z∈r,o.lt (key y) (key z)=true)/\qC o key r:=List.pairwise_cons
theorem zcr {n:κ} {y:α} {r:List α} (h:o.lt (key y) n=true):qn o key n (y :: r)=qn o key n r+1:=by
 unfold qn
 rw[List.filter_cons_of_pos (by simpa using h),List.length_cons]
theorem zbb {n:κ} {y:α} {r:List α} (hR:qC o key (y :: r)) (h:o.lt (key y) n=false):qn o key n (y :: r)=0:=by
 obtain ⟨h1,_⟩:=Jf.1 hR
 unfold qn
 rw[List.length_eq_zero_iff,List.filter_eq_nil_iff]
 intro z hz
 rcases List.mem_cons.1 hz with rfl | hz
 ·simp[h]
 ·have h3:=h1 z hz
  cases h4:o.lt (key z) n with
  | false=>simp
  | true=>have:=o.tr h3 h4;rw[h]at this;cases this
theorem zcy {n:κ} {y:α} {r:List α} (hR:qC o key (y :: r)) (h:o.lt (key y) n=false):JV key n (y :: r)=decide (key y=n):=by
 obtain ⟨h1,_⟩:=Jf.1 hR
 unfold JV
 rw[List.any_cons]
 have:(r.any fun x=>decide (key x=n))=false:=List.any_eq_false.2 fun z hz=>by
  have h3:=h1 z hz
  simp only[decide_eq_true_eq]
  rintro rfl
  rw[h3]at h;cases h
 rw[this,Bool.or_false]
theorem kC (n:κ):∀ {xs:List α},qC o key xs->(∀ t (h:t<xs.length),t<qn o key n xs->o.lt (key xs[t]) n=true)/\(∀ t (h:t<xs.length),qn o key n xs<=t->o.lt (key xs[t]) n=false) /\
  (JV key n xs=true->∃ h:qn o key n xs<xs.length,key xs[qn o key n xs]=n/\jl key n xs=some xs[qn o key n xs]/\JJ key n xs=xs.take (qn o key n xs)++xs.drop (qn o key n xs+1)/\∀ x,key x=n->ZS o key x (JJ key n xs)=xs.set (qn o key n xs) x) /\
  (JV key n xs=false->jl key n xs=none/\JJ key n xs=xs/\∀ x,key x=n->ZS o key x xs=xs.take (qn o key n xs)++x :: xs.drop (qn o key n xs))
 | [],_=>⟨fun t h=>absurd h (Nat.not_lt_zero _),fun t h=>absurd h (Nat.not_lt_zero _),fun h=>(by cases h),fun _=>⟨rfl,rfl,fun x _=>rfl⟩⟩
 | y :: r,hR=>by
  obtain ⟨h1,h2⟩:=Jf.1 hR
  obtain ⟨i1,i2,i3,i4⟩:=kC n h2
  cases hy:o.lt (key y) n with
  | true =>
   have hne:key y≠n:=by rintro rfl;rw[o.irr]at hy;cases hy
   have hrk:=zcr (r:=r) hy
   have hhas:JV key n (y :: r)=JV key n r:=by unfold JV;rw[List.any_cons,decide_eq_false hne,Bool.false_or]
   have hfind:jl key n (y :: r)=jl key n r:=by unfold jl;rw[List.find?_cons_of_neg (by simpa using hne)]
   have hless:JJ key n (y :: r)=y :: JJ key n r:=by unfold JJ;rw[List.filter_cons_of_pos (by simpa using hne)]
   have hput:∀ x q,key x=n->ZS o key x (y :: q)=y :: ZS o key x q:=fun x q hx=>by
    rw[ZS,hx,zlA.asym hy];rfl
   rw[hhas,hfind,hless,hrk]
   refine ⟨fun t h ht=>?_,fun t h ht=>?_,fun h=>?_,fun h=>?_⟩
   ·cases t with
    | zero=>exact hy
    | succ t=>exact i1 t (by simpa using h) (by omega)
   ·cases t with
    | zero=>omega
    | succ t=>exact i2 t (by simpa using h) (by omega)
   ·obtain ⟨g,g1,g2,g3,g4⟩:=i3 h
    refine ⟨by simp;omega,by simpa using g1,by simpa using g2,by rw[g3];simp,fun x hx=>?_⟩
    rw[hput x _ hx,g4 x hx];simp
   ·obtain ⟨g1,g2,g3⟩:=i4 h
    refine ⟨g1,by rw[g2],fun x hx=>?_⟩
    rw[hput x _ hx,g3 x hx];simp
  | false =>
   have hrk:=zbb hR hy
   have hhas:=zcy hR hy
   rw[hrk,hhas]
   have hno:∀ z∈r,key z≠n:=fun z hz=>by
    have h3:=h1 z hz
    rintro rfl
    rw[h3]at hy;cases hy
   have hlr:JJ key n r=r:=by
    unfold JJ
    rw[List.filter_eq_self]
    intro z hz
    simpa using hno z hz
   refine ⟨fun t h ht=>absurd ht (Nat.not_lt_zero _),fun t h _=>?_,fun h=>?_,fun h=>?_⟩
   ·cases t with
    | zero=>exact hy
    | succ t =>
     have h3:=h1 (r[t]'(by simpa using h)) (List.getElem_mem _)
     show o.lt (key (r[t]'(by simpa using h))) n=false
     cases h4:o.lt (key (r[t]'(by simpa using h))) n with
     | false=>rfl
     | true=>have:=o.tr h3 h4;rw[hy]at this;cases this
   ·have hk:key y=n:=of_decide_eq_true h
    have hl:JJ key n (y :: r)=r:=by
     show (y :: r).filter (fun x=>!decide (key x=n))=r
     rw[List.filter_cons_of_neg (by simpa using hk)];exact hlr
    refine ⟨by simp,hk,by unfold jl;rw[List.find?_cons_of_pos (by simpa using hk)];rfl,by rw[hl];simp,fun x hx=>?_⟩
    rw[hl]
    cases r with
    | nil=>rfl
    | cons z q =>
     have h3:=h1 z List.mem_cons_self
     rw[hk]at h3
     rw[ZS,hx,h3];rfl
   ·have hk:key y≠n:=of_decide_eq_false h
    have hny:o.lt n (key y)=true:=by
     cases h5:o.lt n (key y) with
     | true=>rfl
     | false=>exact absurd (o.tot hy h5) hk
    refine ⟨?_,?_,fun x hx=>?_⟩
    ·unfold jl
     rw[List.find?_eq_none]
     intro z hz
     rcases List.mem_cons.1 hz with rfl | hz
     ·simpa using hk
     ·simpa using hno z hz
    ·show (y :: r).filter (fun x=>!decide (key x=n))=y :: r
     rw[List.filter_cons_of_pos (by simpa using hk)]
     exact congrArg _ hlr
    ·rw[ZS,hx,hny];rfl
theorem yB (n:κ) {xs:List α} (hR:qC o key xs) {i:Nat} (hi:qn o key n xs=i) (h:i<xs.length):JV key n xs=decide (key xs[i]=n):=by
 subst hi
 obtain ⟨_,_,h3,_⟩:=kC n hR
 cases hh:JV key n xs with
 | true=>obtain ⟨_,g,_⟩:=h3 hh;rw[decide_eq_true g]
 | false =>
  symm
  rw[decide_eq_false_iff_not]
  intro e
  unfold JV at hh
  rw[List.any_eq_false]at hh
  exact hh _ (List.getElem_mem h) (decide_eq_true e)
theorem GQ (n:κ) {xs:List α} (hR:qC o key xs) (hi:qn o key n xs=xs.length):JV key n xs=false:=by
 obtain ⟨_,_,h3,_⟩:=kC n hR
 cases hh:JV key n xs with
 | false=>rfl
 | true=>obtain ⟨g,_⟩:=h3 hh;omega
theorem xP (n:κ) {xs:List α} (h:qC o key xs):qC o key (JJ key n xs):=h.filter _
theorem GS {x y:α}:∀ {xs:List α},y∈ZS o key x xs↔y=x∨y∈xs
 | []=>by simp[ZS]
 | z :: r=>by
  unfold ZS
  split
  ·simp
  ·rw[List.mem_cons,GS,List.mem_cons]
   constructor
   ·rintro (h | h | h)
    ·exact .inr (.inl h)
    ·exact .inl h
    ·exact .inr (.inr h)
   ·rintro (h | h | h)
    ·exact .inr (.inl h)
    ·exact .inl h
    ·exact .inr (.inr h)
theorem zgv {n:κ} {y:α} {xs:List α}:y∈JJ key n xs↔y∈xs/\key y≠n:=by unfold JJ;simp
theorem Hm {x:α}:∀ {xs:List α},qC o key xs->(∀ y∈xs,key y≠key x)->qC o key (ZS o key x xs)
 | [],_,_=>by unfold ZS qC;simp
 | y :: r,hR,hne=>by
  obtain ⟨h1,h2⟩:=Jf.1 hR
  unfold ZS
  cases hxy:o.lt (key x) (key y) with
  | true =>
   rw[if_pos rfl,Jf]
   refine ⟨fun z hz=>?_,hR⟩
   rcases List.mem_cons.1 hz with rfl | hz
   ·exact hxy
   ·exact o.tr hxy (h1 z hz)
  | false =>
   rw[if_neg (by simp),Jf]
   have hyx:o.lt (key y) (key x)=true:=by
    cases h:o.lt (key y) (key x) with
    | true=>rfl
    | false=>exact absurd (o.tot h hxy) (hne y List.mem_cons_self)
   refine ⟨fun z hz=>?_,Hm h2 fun z hz=>hne z (List.mem_cons_of_mem _ hz)⟩
   rcases GS.1 hz with rfl | hz
   ·exact hyx
   ·exact h1 z hz
theorem NT (n:κ) (xs:List α):(JJ key n xs).length<=xs.length:=List.length_filter_le _ _
theorem HJ (x:α):∀ xs:List α,(ZS o key x xs).length=xs.length+1
 | []=>rfl
 | y :: r=>by
  unfold ZS
  split
  ·rfl
  ·rw[List.length_cons,HJ x r];rfl
end
end
section
open Go.RowKit
section
variable {G:zo}
end
end
end Go.Proofs.YtlkjpfiancahiaaGreatDoor.Vcg
section
namespace Go.Proofs
open Go.Shelf
def Tryz.lays169_ren:Go.Shelf.Ren:=⟨fun | 169=>152 | n=>n,fun | 70=>197 | 9=>9 | 0=>0 | 72=>199 | 37=>153 | 127=>231 | 3=>3 | 5=>5 | n=>n,fun | n=>n⟩
theorem Tryz.lays169:Go.Proofs.Lays.n169 Tryz.prog Tryz.lays169_ren:={
 mixed:=by kernel_rfl
 f169:=Tryz.func152.trans (congrArg some (by kernel_rfl))
 t0:=Tryz.underlying0
 a0:=Tryz.isAgg0
 z0:=Tryz.sizeOf0
 v0:=Tryz.zeroValue0
 t3:=Tryz.underlying3
 a3:=Tryz.isAgg3
 z3:=Tryz.sizeOf3
 v3:=Tryz.zeroValue3
 t9:=Tryz.underlying9
 a9:=Tryz.isAgg9
 z9:=Tryz.sizeOf9
 v9:=Tryz.zeroValue9
 t37:=Tryz.underlying153
 a37:=Tryz.isAgg153
 z37:=Tryz.sizeOf153
 v37:=Tryz.zeroValue153
 t70:=Tryz.underlying197
 a70:=Tryz.isAgg197
 z70:=Tryz.sizeOf197
 v70:=Tryz.zeroValue197
 t72:=Tryz.underlying199
 a72:=Tryz.isAgg199
 z72:=Tryz.sizeOf199
 v72:=Tryz.zeroValue199
 t127:=Tryz.underlying231
 a127:=Tryz.isAgg231
 z127:=Tryz.sizeOf231
 v127:=Tryz.zeroValue231 }
theorem Tryz.Builder_Extra_169:Builder.Extra Tryz.prog Tryz.lays169_ren:={
 sizeBuilder:=by kernel_rfl
 liesBuilder:=by kernel_rfl
 t5:=Tryz.underlying5
 a5:=Tryz.isAgg5
 z5:=Tryz.sizeOf5
 v5:=Tryz.zeroValue5
 infoByte:=by kernel_rfl
 cellsByte:=by kernel_rfl
 sizeByte:=by kernel_rfl
 neB5:=by decide }
open Go.RowKit in
theorem Tryz.Builder_String_any (B b:Nat) (l:List UInt8) (w:World) (h:Lib.IsBuilder 199 5 B b (Lib.byteCells l) w) (hBw:B<=w.heap.size) :
  Calls Tryz.prog 152 #[.pointer (some ⟨b,0,none⟩)] w fun e w'=>e = .returned (.string ⟨l.toArray⟩)/\Below B w w':=Any.Builder_String_any Tryz.lays169 Tryz.Builder_Extra_169 B b l w h hBw
def Tryz.lays156_ren:Go.Shelf.Ren:=⟨fun | 156=>108 | 165=>150 | 166=>151 | 169=>152 | 240=>177 | 241=>178 | 276=>208 | 277=>209 | n=>n,fun | 31=>30 | 9=>9 | 3=>3 | 4=>4 | 0=>0 | 20=>20 | 72=>199 | 76=>203 | 70=>197 | 37=>153 | 75=>202 | 127=>231 | 164=>249 | 5=>5 | 80=>205 | n=>n,fun | n=>n⟩
theorem Tryz.lays156:Go.Proofs.Lays.n156 Tryz.prog Tryz.lays156_ren:={
 mixed:=by kernel_rfl
 f156:=Tryz.func108.trans (congrArg some (by kernel_rfl))
 f165:=Tryz.func150.trans (congrArg some (by kernel_rfl))
 f166:=Tryz.func151.trans (congrArg some (by kernel_rfl))
 f169:=Tryz.func152.trans (congrArg some (by kernel_rfl))
 f240:=Tryz.func177.trans (congrArg some (by kernel_rfl))
 f241:=Tryz.func178.trans (congrArg some (by kernel_rfl))
 f276:=Tryz.func208.trans (congrArg some (by kernel_rfl))
 f277:=Tryz.func209.trans (congrArg some (by kernel_rfl))
 t0:=Tryz.underlying0
 a0:=Tryz.isAgg0
 z0:=Tryz.sizeOf0
 v0:=Tryz.zeroValue0
 t3:=Tryz.underlying3
 a3:=Tryz.isAgg3
 z3:=Tryz.sizeOf3
 v3:=Tryz.zeroValue3
 t4:=Tryz.underlying4
 a4:=Tryz.isAgg4
 z4:=Tryz.sizeOf4
 v4:=Tryz.zeroValue4
 t9:=Tryz.underlying9
 a9:=Tryz.isAgg9
 z9:=Tryz.sizeOf9
 v9:=Tryz.zeroValue9
 t20:=Tryz.underlying20
 a20:=Tryz.isAgg20
 z20:=Tryz.sizeOf20
 v20:=Tryz.zeroValue20
 t31:=Tryz.underlying30
 a31:=Tryz.isAgg30
 z31:=Tryz.sizeOf30
 v31:=Tryz.zeroValue30
 t37:=Tryz.underlying153
 a37:=Tryz.isAgg153
 z37:=Tryz.sizeOf153
 v37:=Tryz.zeroValue153
 t70:=Tryz.underlying197
 a70:=Tryz.isAgg197
 z70:=Tryz.sizeOf197
 v70:=Tryz.zeroValue197
 t72:=Tryz.underlying199
 a72:=Tryz.isAgg199
 z72:=Tryz.sizeOf199
 v72:=Tryz.zeroValue199
 t75:=Tryz.underlying202
 a75:=Tryz.isAgg202
 z75:=Tryz.sizeOf202
 v75:=Tryz.zeroValue202
 t76:=Tryz.underlying203
 a76:=Tryz.isAgg203
 z76:=Tryz.sizeOf203
 v76:=Tryz.zeroValue203
 t127:=Tryz.underlying231
 a127:=Tryz.isAgg231
 z127:=Tryz.sizeOf231
 v127:=Tryz.zeroValue231
 t164:=Tryz.underlying249
 a164:=Tryz.isAgg249
 z164:=Tryz.sizeOf249
 v164:=Tryz.zeroValue249 }
theorem Tryz.Builder_Extra_156:Builder.Extra Tryz.prog Tryz.lays156_ren:={
 sizeBuilder:=by kernel_rfl
 liesBuilder:=by kernel_rfl
 t5:=Tryz.underlying5
 a5:=Tryz.isAgg5
 z5:=Tryz.sizeOf5
 v5:=Tryz.zeroValue5
 infoByte:=by kernel_rfl
 cellsByte:=by kernel_rfl
 sizeByte:=by kernel_rfl
 neB5:=by decide }
open Go.RowKit in
theorem Tryz.strings_Join_none (a:Option Addr) (c:Nat) (sep:ByteArray) (w:World) :
  Calls Tryz.prog 108 #[.slice a 0 c,.string sep] w fun e w'=>e = .returned (.string ⟨#[]⟩)/\w'=w:=Any.strings_Join_none Tryz.lays156 Tryz.Builder_Extra_156 a c sep w
open Go.RowKit in
theorem Tryz.strings_Join (bk o c:Nat) (xs:List ByteArray) (sep:ByteArray) (w:World) (hcells:∀ (j:Nat) x,xs[j]?=some x->w.cell? ⟨bk,o+j,none⟩=some (.string x)) (hbk:bk<w.heap.size) (hN:xs.length<=140737488355328) (hcap:xs.length<=c) (hlen:(Lib.join (xs.map (·.data.toList)) sep.data.toList).length<=140737488355328) :
  Calls Tryz.prog 108 #[.slice (some ⟨bk,o,none⟩) xs.length c,.string sep] w fun e w'=>e = .returned (.string ⟨(Lib.join (xs.map (·.data.toList)) sep.data.toList).toArray⟩)/\Below w.heap.size w w':=Any.strings_Join Tryz.lays156 Tryz.Builder_Extra_156 bk o c xs sep w hcells hbk hN hcap hlen
def Tryz.lays162_ren:Go.Shelf.Ren:=⟨fun | 162=>147 | 232=>171 | 227=>172 | 234=>173 | 236=>174 | 228=>205 | 271=>206 | 151=>207 | 120=>235 | 197=>169 | 152=>236 | 260=>203 | 137=>64 | 119=>260 | 224=>233 | 225=>232 | 217=>117 | 266=>157 | n=>n,fun | 9=>9 | 4=>4 | 3=>3 | 5=>5 | 117=>224 | 116=>223 | 0=>0 | 124=>227 | 21=>21 | 105=>218 | 46=>209 | 119=>265 | 139=>268 | 138=>267 | n=>n,fun | 3=>5 | 4=>6 | n=>n⟩
theorem Tryz.lays162:Go.Proofs.Lays.n162 Tryz.prog Tryz.lays162_ren:={
 mixed:=by kernel_rfl
 f119:=Tryz.func260.trans (congrArg some (by kernel_rfl))
 f120:=Tryz.func235.trans (congrArg some (by kernel_rfl))
 f137:=Tryz.func64.trans (congrArg some (by kernel_rfl))
 f151:=Tryz.func207.trans (congrArg some (by kernel_rfl))
 f152:=Tryz.func236.trans (congrArg some (by kernel_rfl))
 f162:=Tryz.func147.trans (congrArg some (by kernel_rfl))
 f197:=Tryz.func169.trans (congrArg some (by kernel_rfl))
 f217:=Tryz.func117.trans (congrArg some (by kernel_rfl))
 f224:=Tryz.func233.trans (congrArg some (by kernel_rfl))
 f225:=Tryz.func232.trans (congrArg some (by kernel_rfl))
 f227:=Tryz.func172.trans (congrArg some (by kernel_rfl))
 f228:=Tryz.func205.trans (congrArg some (by kernel_rfl))
 f232:=Tryz.func171.trans (congrArg some (by kernel_rfl))
 f234:=Tryz.func173.trans (congrArg some (by kernel_rfl))
 f236:=Tryz.func174.trans (congrArg some (by kernel_rfl))
 f260:=Tryz.func203.trans (congrArg some (by kernel_rfl))
 f266:=Tryz.func157.trans (congrArg some (by kernel_rfl))
 f271:=Tryz.func206.trans (congrArg some (by kernel_rfl))
 t0:=Tryz.underlying0
 a0:=Tryz.isAgg0
 z0:=Tryz.sizeOf0
 v0:=Tryz.zeroValue0
 t3:=Tryz.underlying3
 a3:=Tryz.isAgg3
 z3:=Tryz.sizeOf3
 v3:=Tryz.zeroValue3
 t4:=Tryz.underlying4
 a4:=Tryz.isAgg4
 z4:=Tryz.sizeOf4
 v4:=Tryz.zeroValue4
 t5:=Tryz.underlying5
 a5:=Tryz.isAgg5
 z5:=Tryz.sizeOf5
 v5:=Tryz.zeroValue5
 t9:=Tryz.underlying9
 a9:=Tryz.isAgg9
 z9:=Tryz.sizeOf9
 v9:=Tryz.zeroValue9
 t21:=Tryz.underlying21
 a21:=Tryz.isAgg21
 z21:=Tryz.sizeOf21
 v21:=Tryz.zeroValue21
 t46:=Tryz.underlying209
 a46:=Tryz.isAgg209
 z46:=Tryz.sizeOf209
 v46:=Tryz.zeroValue209
 t105:=Tryz.underlying218
 a105:=Tryz.isAgg218
 z105:=Tryz.sizeOf218
 v105:=Tryz.zeroValue218
 t116:=Tryz.underlying223
 a116:=Tryz.isAgg223
 z116:=Tryz.sizeOf223
 t117:=Tryz.underlying224
 a117:=Tryz.isAgg224
 z117:=Tryz.sizeOf224
 v117:=Tryz.zeroValue224
 t119:=Tryz.underlying265
 a119:=Tryz.isAgg265
 z119:=Tryz.sizeOf265
 t124:=Tryz.underlying227
 a124:=Tryz.isAgg227
 z124:=Tryz.sizeOf227
 v124:=Tryz.zeroValue227
 t138:=Tryz.underlying267
 a138:=Tryz.isAgg267
 z138:=Tryz.sizeOf267
 v138:=Tryz.zeroValue267
 t139:=Tryz.underlying268
 a139:=Tryz.isAgg268
 z139:=Tryz.sizeOf268
 v139:=Tryz.zeroValue268
 g3:=by kernel_rfl
 g4:=by kernel_rfl }
def Tryz.lays119_ren:Go.Shelf.Ren:=⟨fun | 119=>260 | n=>n,fun | 21=>21 | 4=>4 | n=>n,fun | n=>n⟩
theorem Tryz.lays119:Go.Proofs.Lays.n119 Tryz.prog Tryz.lays119_ren:={
 mixed:=by kernel_rfl
 f119:=Tryz.func260.trans (congrArg some (by kernel_rfl))
 t4:=Tryz.underlying4
 a4:=Tryz.isAgg4
 z4:=Tryz.sizeOf4
 v4:=Tryz.zeroValue4
 t21:=Tryz.underlying21
 a21:=Tryz.isAgg21
 z21:=Tryz.sizeOf21
 v21:=Tryz.zeroValue21 }
theorem Tryz.utf8_ValidRune (r:Int) (w:World) :
  Calls Tryz.prog 260 #[.int .i32 r] w fun e w'=>e = .returned (.bool (Lib.validRune r))/\w'=w:=Any.utf8_ValidRune Tryz.lays119 r w
def Tryz.lays106_ren:Go.Shelf.Ren:=⟨fun | 106=>182 | 213=>211 | 265=>240 | n=>n,fun | 9=>9 | 3=>3 | n=>n,fun | n=>n⟩
theorem Tryz.lays106:Go.Proofs.Lays.n106 Tryz.prog Tryz.lays106_ren:={
 mixed:=by kernel_rfl
 f106:=Tryz.func182.trans (congrArg some (by kernel_rfl))
 f213:=Tryz.func211.trans (congrArg some (by kernel_rfl))
 f265:=Tryz.func240.trans (congrArg some (by kernel_rfl))
 t3:=Tryz.underlying3
 a3:=Tryz.isAgg3
 z3:=Tryz.sizeOf3
 v3:=Tryz.zeroValue3
 t9:=Tryz.underlying9
 a9:=Tryz.isAgg9
 z9:=Tryz.sizeOf9
 v9:=Tryz.zeroValue9 }
open Go.RowKit in
theorem Tryz.strings_Compare (a b:ByteArray) (w:World) :
  Calls Tryz.prog 182 #[.string a,.string b] w fun e w'=>e = .returned (.int .i64 (Lib.compareBytes a.data.toList b.data.toList))/\w'=w:=Any.strings_Compare Tryz.lays106 a b w
def Tryz.lays137_ren:Go.Shelf.Ren:=⟨fun | 137=>64 | 217=>117 | 266=>157 | n=>n,fun | 9=>9 | 5=>5 | 3=>3 | n=>n,fun | n=>n⟩
theorem Tryz.lays137:Go.Proofs.Lays.n137 Tryz.prog Tryz.lays137_ren:={
 mixed:=by kernel_rfl
 f137:=Tryz.func64.trans (congrArg some (by kernel_rfl))
 f217:=Tryz.func117.trans (congrArg some (by kernel_rfl))
 f266:=Tryz.func157.trans (congrArg some (by kernel_rfl))
 t3:=Tryz.underlying3
 a3:=Tryz.isAgg3
 z3:=Tryz.sizeOf3
 v3:=Tryz.zeroValue3
 t5:=Tryz.underlying5
 a5:=Tryz.isAgg5
 z5:=Tryz.sizeOf5
 v5:=Tryz.zeroValue5
 t9:=Tryz.underlying9
 a9:=Tryz.isAgg9
 z9:=Tryz.sizeOf9
 v9:=Tryz.zeroValue9 }
open Go.RowKit in
theorem Tryz.strings_IndexByte (s:ByteArray) (c:Int) (w:World) :
  Calls Tryz.prog 64 #[.string s,.int .u8 c] w fun e w'=>e = .returned (.int .i64 (Lib.indexByte s.data.toList c.toNat.toUInt8))/\w'=w:=Any.strings_IndexByte Tryz.lays137 s c w
def Tryz.lays143_ren:Go.Shelf.Ren:=⟨fun | 143=>170 | 219=>204 | 217=>117 | 225=>232 | 224=>233 | 267=>234 | 266=>157 | 314=>259 | n=>n,fun | 9=>9 | 3=>3 | 4=>4 | 5=>5 | 46=>209 | 146=>283 | 51=>282 | n=>n,fun | 1=>3 | n=>n⟩
theorem Tryz.lays143:Go.Proofs.Lays.n143 Tryz.prog Tryz.lays143_ren:={
 mixed:=by kernel_rfl
 f143:=Tryz.func170.trans (congrArg some (by kernel_rfl))
 f217:=Tryz.func117.trans (congrArg some (by kernel_rfl))
 f219:=Tryz.func204.trans (congrArg some (by kernel_rfl))
 f224:=Tryz.func233.trans (congrArg some (by kernel_rfl))
 f225:=Tryz.func232.trans (congrArg some (by kernel_rfl))
 f266:=Tryz.func157.trans (congrArg some (by kernel_rfl))
 f267:=Tryz.func234.trans (congrArg some (by kernel_rfl))
 f314:=Tryz.func259.trans (congrArg some (by kernel_rfl))
 t3:=Tryz.underlying3
 a3:=Tryz.isAgg3
 z3:=Tryz.sizeOf3
 v3:=Tryz.zeroValue3
 t4:=Tryz.underlying4
 a4:=Tryz.isAgg4
 z4:=Tryz.sizeOf4
 v4:=Tryz.zeroValue4
 t5:=Tryz.underlying5
 a5:=Tryz.isAgg5
 z5:=Tryz.sizeOf5
 v5:=Tryz.zeroValue5
 t9:=Tryz.underlying9
 a9:=Tryz.isAgg9
 z9:=Tryz.sizeOf9
 v9:=Tryz.zeroValue9
 t46:=Tryz.underlying209
 a46:=Tryz.isAgg209
 z46:=Tryz.sizeOf209
 v46:=Tryz.zeroValue209
 t51:=Tryz.underlying282
 a51:=Tryz.isAgg282
 z51:=Tryz.sizeOf282
 v51:=Tryz.zeroValue282
 t146:=Tryz.underlying283
 a146:=Tryz.isAgg283
 z146:=Tryz.sizeOf283
 v146:=Tryz.zeroValue283
 g1:=by kernel_rfl }
open Go.RowKit Go.Lib in
theorem Tryz.strings_Index_one (s:ByteArray) (c:UInt8) (w:World) :
  Calls Tryz.prog 170 #[.string s,.string ⟨#[c]⟩] w fun e w'=>e = .returned (.int .i64 (Lib.indexByte s.data.toList c))/\w'=w:=Any.strings_Index_one Tryz.lays143 s c w
def Tryz.lays99_ren:Go.Shelf.Ren:=⟨fun | 99=>56 | 206=>100 | n=>n,fun | 9=>9 | 4=>4 | 3=>3 | n=>n,fun | n=>n⟩
theorem Tryz.lays99:Go.Proofs.Lays.n99 Tryz.prog Tryz.lays99_ren:={
 mixed:=by kernel_rfl
 f99:=Tryz.func56.trans (congrArg some (by kernel_rfl))
 f206:=Tryz.func100.trans (congrArg some (by kernel_rfl))
 t3:=Tryz.underlying3
 a3:=Tryz.isAgg3
 z3:=Tryz.sizeOf3
 v3:=Tryz.zeroValue3
 t4:=Tryz.underlying4
 a4:=Tryz.isAgg4
 z4:=Tryz.sizeOf4
 v4:=Tryz.zeroValue4
 t9:=Tryz.underlying9
 a9:=Tryz.isAgg9
 z9:=Tryz.sizeOf9
 v9:=Tryz.zeroValue9 }
open Go.RowKit Go.Lib in
theorem Tryz.strings_HasPrefix (s p:ByteArray) (w:World) :
  Calls Tryz.prog 56 #[.string s,.string p] w fun e w'=>e = .returned (.bool (Lib.hasPrefix s.data.toList p.data.toList))/\w'=w:=Any.strings_HasPrefix Tryz.lays99 s p w
def Tryz.lays100_ren:Go.Shelf.Ren:=⟨fun | 100=>116 | 207=>156 | n=>n,fun | 9=>9 | 4=>4 | 3=>3 | n=>n,fun | n=>n⟩
theorem Tryz.lays100:Go.Proofs.Lays.n100 Tryz.prog Tryz.lays100_ren:={
 mixed:=by kernel_rfl
 f100:=Tryz.func116.trans (congrArg some (by kernel_rfl))
 f207:=Tryz.func156.trans (congrArg some (by kernel_rfl))
 t3:=Tryz.underlying3
 a3:=Tryz.isAgg3
 z3:=Tryz.sizeOf3
 v3:=Tryz.zeroValue3
 t4:=Tryz.underlying4
 a4:=Tryz.isAgg4
 z4:=Tryz.sizeOf4
 v4:=Tryz.zeroValue4
 t9:=Tryz.underlying9
 a9:=Tryz.isAgg9
 z9:=Tryz.sizeOf9
 v9:=Tryz.zeroValue9 }
open Go.RowKit Go.Lib in
theorem Tryz.strings_HasSuffix (s p:ByteArray) (w:World) (hs:s.size<=9223372036854775807) :
  Calls Tryz.prog 116 #[.string s,.string p] w fun e w'=>e = .returned (.bool (Lib.hasSuffix s.data.toList p.data.toList))/\w'=w:=Any.strings_HasSuffix Tryz.lays100 s p w hs
def Tryz.lays152_ren:Go.Shelf.Ren:=⟨fun | 152=>236 | 137=>64 | 119=>260 | 224=>233 | 225=>232 | 217=>117 | 266=>157 | n=>n,fun | 9=>9 | 21=>21 | 3=>3 | 4=>4 | 5=>5 | 0=>0 | 46=>209 | n=>n,fun | n=>n⟩
theorem Tryz.lays152:Go.Proofs.Lays.n152 Tryz.prog Tryz.lays152_ren:={
 mixed:=by kernel_rfl
 f119:=Tryz.func260.trans (congrArg some (by kernel_rfl))
 f137:=Tryz.func64.trans (congrArg some (by kernel_rfl))
 f152:=Tryz.func236.trans (congrArg some (by kernel_rfl))
 f217:=Tryz.func117.trans (congrArg some (by kernel_rfl))
 f224:=Tryz.func233.trans (congrArg some (by kernel_rfl))
 f225:=Tryz.func232.trans (congrArg some (by kernel_rfl))
 f266:=Tryz.func157.trans (congrArg some (by kernel_rfl))
 t0:=Tryz.underlying0
 a0:=Tryz.isAgg0
 z0:=Tryz.sizeOf0
 v0:=Tryz.zeroValue0
 t3:=Tryz.underlying3
 a3:=Tryz.isAgg3
 z3:=Tryz.sizeOf3
 v3:=Tryz.zeroValue3
 t4:=Tryz.underlying4
 a4:=Tryz.isAgg4
 z4:=Tryz.sizeOf4
 v4:=Tryz.zeroValue4
 t5:=Tryz.underlying5
 a5:=Tryz.isAgg5
 z5:=Tryz.sizeOf5
 v5:=Tryz.zeroValue5
 t9:=Tryz.underlying9
 a9:=Tryz.isAgg9
 z9:=Tryz.sizeOf9
 v9:=Tryz.zeroValue9
 t21:=Tryz.underlying21
 a21:=Tryz.isAgg21
 z21:=Tryz.sizeOf21
 v21:=Tryz.zeroValue21
 t46:=Tryz.underlying209
 a46:=Tryz.isAgg209
 z46:=Tryz.sizeOf209
 v46:=Tryz.zeroValue209 }
open Go.RowKit Go.Lib in
theorem Tryz.strings_IndexRune_ascii (s:ByteArray) (r:Int) (w:World) (h0:0<=r) (h1:r<128) :
  Calls Tryz.prog 236 #[.string s,.int .i32 r] w fun e w'=>e = .returned (.int .i64 (Lib.indexByte s.data.toList r.toNat.toUInt8))/\w'=w:=Any.strings_IndexRune_ascii Tryz.lays152 s r w h0 h1
def Tryz.lays226_ren:Go.Shelf.Ren:=⟨fun | 226=>281 | n=>n,fun | 3=>3 | 4=>4 | n=>n,fun | n=>n⟩
theorem Tryz.lays226:Go.Proofs.Lays.n226 Tryz.prog Tryz.lays226_ren:={
 mixed:=by kernel_rfl
 f226:=Tryz.func281.trans (congrArg some (by kernel_rfl))
 t3:=Tryz.underlying3
 a3:=Tryz.isAgg3
 z3:=Tryz.sizeOf3
 v3:=Tryz.zeroValue3
 t4:=Tryz.underlying4
 a4:=Tryz.isAgg4
 z4:=Tryz.sizeOf4
 v4:=Tryz.zeroValue4 }
open Go.RowKit Go.Lib in
theorem Tryz.strings_shouldUseASCIISet (n:Int) (w:World) :
  Calls Tryz.prog 281 #[.int .i64 n] w fun e w'=>e = .returned (.bool (decide (8<n)))/\w'=w:=Any.strings_shouldUseASCIISet Tryz.lays226 n w
def Tryz.lays153_ren:Go.Shelf.Ren:=⟨fun | 153=>276 | 152=>236 | 226=>281 | 227=>172 | 228=>205 | 137=>64 | 119=>260 | 224=>233 | 225=>232 | 217=>117 | 266=>157 | n=>n,fun | 9=>9 | 3=>3 | 4=>4 | 5=>5 | 21=>21 | 117=>224 | 116=>223 | 0=>0 | 46=>209 | 124=>227 | n=>n,fun | n=>n⟩
theorem Tryz.lays153:Go.Proofs.Lays.n153 Tryz.prog Tryz.lays153_ren:={
 mixed:=by kernel_rfl
 f119:=Tryz.func260.trans (congrArg some (by kernel_rfl))
 f137:=Tryz.func64.trans (congrArg some (by kernel_rfl))
 f152:=Tryz.func236.trans (congrArg some (by kernel_rfl))
 f153:=Tryz.func276.trans (congrArg some (by kernel_rfl))
 f217:=Tryz.func117.trans (congrArg some (by kernel_rfl))
 f224:=Tryz.func233.trans (congrArg some (by kernel_rfl))
 f225:=Tryz.func232.trans (congrArg some (by kernel_rfl))
 f226:=Tryz.func281.trans (congrArg some (by kernel_rfl))
 f227:=Tryz.func172.trans (congrArg some (by kernel_rfl))
 f228:=Tryz.func205.trans (congrArg some (by kernel_rfl))
 f266:=Tryz.func157.trans (congrArg some (by kernel_rfl))
 t0:=Tryz.underlying0
 a0:=Tryz.isAgg0
 z0:=Tryz.sizeOf0
 v0:=Tryz.zeroValue0
 t3:=Tryz.underlying3
 a3:=Tryz.isAgg3
 z3:=Tryz.sizeOf3
 v3:=Tryz.zeroValue3
 t4:=Tryz.underlying4
 a4:=Tryz.isAgg4
 z4:=Tryz.sizeOf4
 v4:=Tryz.zeroValue4
 t5:=Tryz.underlying5
 a5:=Tryz.isAgg5
 z5:=Tryz.sizeOf5
 v5:=Tryz.zeroValue5
 t9:=Tryz.underlying9
 a9:=Tryz.isAgg9
 z9:=Tryz.sizeOf9
 v9:=Tryz.zeroValue9
 t21:=Tryz.underlying21
 a21:=Tryz.isAgg21
 z21:=Tryz.sizeOf21
 v21:=Tryz.zeroValue21
 t46:=Tryz.underlying209
 a46:=Tryz.isAgg209
 z46:=Tryz.sizeOf209
 v46:=Tryz.zeroValue209
 t116:=Tryz.underlying223
 a116:=Tryz.isAgg223
 z116:=Tryz.sizeOf223
 t117:=Tryz.underlying224
 a117:=Tryz.isAgg224
 z117:=Tryz.sizeOf224
 v117:=Tryz.zeroValue224
 t124:=Tryz.underlying227
 a124:=Tryz.isAgg227
 z124:=Tryz.sizeOf227
 v124:=Tryz.zeroValue227 }
open Go.RowKit Go.Lib in
theorem Tryz.strings_IndexAny_long (hv116:∀ w,(zeroValue 223).run Tryz.prog w = .ok (.agg (Array.replicate 256 (.bool false))) w) (s chars:ByteArray) (w:World) (h2:2<=chars.size) (h8:8<s.size) (hs:s.size<4294967281) (hcs:chars.size<4294967281) (hascii:∀ (j:Nat) b,chars.data.toList[j]?=some b->b.toNat<128) :
  Calls Tryz.prog 276 #[.string s,.string chars] w fun e w'=>e = .returned (.int .i64 (Lib.indexAny s.data.toList chars.data.toList))/\w'=((w.alloc (.cells (Lib.setCells chars.data.toList) 223)).alloc (.cells (Lib.setCells chars.data.toList) 223)):=Any.strings_IndexAny_long Tryz.lays153 hv116 (by kernel_rfl) s chars w h2 h8 hs hcs hascii
end Go.Proofs
end
namespace Go.Proofs.YtlkjpfiancahiaaGreatDoor.Vcg
section
open CA CB
open Go.RowKit
section
variable {G:zo}
theorem jH (f:FsV) (n:Int) (hl:f.xs.length<=100000) (hR:z8 f.xs):Fun Tryz.prog G 33 [.agg (fsC f),.sc (.int .i64 n)] (.tup [.agg (Js (zf n f.xs)),.sc (.bool (zt n f.xs))]) 0:=by
 refine fon Tryz.func33 ?_;dsimp only[Tryz.f33]
 push_cast -dsimp
 refine cl (zeq f n hl hR) ?_;push_cast -dsimp
 cases hh:zt n f.xs with
 | false =>
  have hg:zf n f.xs=vh:=by unfold zf;rw[HZ hh];rfl
  push_cast -dsimp [hh]
  exact dn (by push_cast -dsimp [zb,za,CLe,zd,hg,vh])
 | true =>
  obtain ⟨hlt,hg⟩:=H7 hR hh
  have hg:zf n f.xs=f.xs[qV n f.xs]:=by unfold zf;rw[hg];rfl
  have hat:=qI f.xs _ hlt
  push_cast -dsimp [hh,hat]
  (try simp only[lS]);repeat refine an ?_
  exact dn (by push_cast -dsimp [zb,za,CLe,zd,hg])
theorem zP {xs:List zn}:∀ r∈zp xs,r.length=6:=fun r hr=>by
 obtain ⟨x,_,rfl⟩:=List.mem_map.1 hr;rfl
theorem zw {xs:List zn}:jA (zp xs):=fun r hr=>by
 obtain ⟨x,_,rfl⟩:=List.mem_map.1 hr;rfl
theorem zeU (f:FsV) (x:zn) (hl:f.xs.length<=90000) (hR:z8 f.xs) :
  Fun Tryz.prog G 244 [.agg (fsC f),.agg (Js x)] (.agg [.sc (.int .i64 f.maxI),.sc (.int .i64 f.maxB),.sc (.int .i64 f.next),.own 0 53 6 (zp (qP x f.xs))]) 1:=by
 have hll:(zp f.xs).length=f.xs.length:=List.length_map ..
 refine foF (fun _=>[]) Tryz.func244 ?_;dsimp only[Tryz.f244]
 push_cast -dsimp
 refine cl (zeq f x.ino (by omega) hR) ?_;push_cast -dsimp
 refine j7 [] [] (Va (zp f.xs) zP zw (by omega)) rfl (by decide) (by decide) (by simp) (by push_cast -dsimp) (by push_cast -dsimp) (fun r bx' m hp=>?_)
 obtain ⟨rfl,⟨hne,c,h1,h2,rfl,rfl⟩ | ⟨he,⟨rfl,rfl⟩ | ⟨rfl,rfl⟩⟩⟩:=hp
 ·have hbl:=J6 zP h1
  have hre:∀ fp fo,C.reL fp fo (qF 6 (zp f.xs) c)=qF 6 (zp f.xs) c:=fun fp fo=>zE (zG zw)
  have hpos:=List.length_pos_iff.2 hne
  cases hh:zt x.ino f.xs with
  | true =>
   obtain ⟨hlt,_⟩:=H7 hR hh
   have hst:=ziC (c:=c) (rows:=zp f.xs) (row:=Js x) (i:=qV x.ino f.xs) zP rfl (by omega)
   have hset:zp (qP x f.xs)=(zp f.xs).set (qV x.ino f.xs) (Js x):=by rw[←x8 hR hh];simp[List.map_set]
   push_cast -dsimp [hh,hre,hst]
   refine ⟨by omega,by omega,by rw[hbl];omega,[(4,53,6,(zp f.xs).set (qV x.ino f.xs) (Js x),c)],[.inl 0],?_,rfl,rfl,by push_cast -dsimp [zb,za,CLe,zd,hset,List.length_set]⟩
   rw[←hset]
   refine zB (by rw[hset];rfl) (by omega) (by rw[hset,List.length_set];exact h1) h2 zP zw
  | false =>
   have hset:zp (qP x f.xs)=(zp f.xs).take (qV x.ino f.xs)++Js x :: (zp f.xs).drop (qV x.ino f.xs):=by rw[←vu hR hh];simp
   have hrl:=zf9 x.ino f.xs
   have hsl:(zp (qP x f.xs)).length=(zp f.xs).length+1:=by rw[hset];simp;omega
   push_cast -dsimp [hh,hre]
   refine j7 [4] [0] (VP (e:=53) (zp f.xs) (Js x) (qV x.ino f.xs) c zP rfl zw rfl (by omega) (by omega) h1 h2) rfl (by decide) (by decide) (by simp) (by push_cast -dsimp) (by push_cast -dsimp [hre]) (fun r bx' m hp=>?_)
   rw[←hset]at hp
   have hre2:∀ fp fo c,C.reL fp fo (qF 6 (zp (qP x f.xs)) c)=qF 6 (zp (qP x f.xs)) c:=fun fp fo c=>zE (zG zw)
   obtain ⟨rfl,c',g1,g2,⟨rfl,rfl⟩ | ⟨rfl,rfl⟩⟩:=hp
   ·push_cast -dsimp [hre2,hre]
    exact ⟨[(4,53,6,zp (qP x f.xs),c')],[.inl 1],zB rfl (by omega) g1 g2 zP zw,rfl,rfl,by push_cast -dsimp [zb,za,CLe,zd]⟩
   ·have hra:∀ fp fo,C.reL fp fo (List.replicate (c*6) .any)=List.replicate (c*6) .any:=fun fp fo=>zE (by simp[List.all_replicate,C.stayB])
    push_cast -dsimp [hre2,hre,hra]
    exact ⟨[(5,53,6,zp (qP x f.xs),c')],[.inl 1],zB rfl (by omega) g1 g2 zP zw,rfl,rfl,by push_cast -dsimp [zb,za,CLe,zd]⟩
 ·have he:f.xs = []:=by simpa using he
  have hh:zt x.ino f.xs=false:=by rw[he];rfl
  have hr0:qV x.ino f.xs=0:=by rw[he];rfl
  have hset:qP x f.xs = [x]:=by rw[he];rfl
  push_cast -dsimp [hh,hr0]
  refine j7 [] [0] (zam (e:=53) (Js x) rfl rfl) rfl (by decide) (by decide) (by simp) (by push_cast -dsimp) (by push_cast -dsimp) (fun r bx' m hp=>?_)
  obtain ⟨rfl,c,g1,g2,rfl,rfl⟩:=hp
  have hre:∀ fp fo,C.reL fp fo (qF 6 [Js x] c)=qF 6 [Js x] c:=fun fp fo=>zE (zG (zw (xs:=[x])))
  push_cast -dsimp [hre]
  exact ⟨[(3,53,6,zp [x],c)],[.inl 1],zB rfl (by omega) g1 g2 zP zw,rfl,rfl,by push_cast -dsimp [zb,za,CLe,zd,hset]⟩
 ·have he:f.xs = []:=by simpa using he
  have hh:zt x.ino f.xs=false:=by rw[he];rfl
  have hr0:qV x.ino f.xs=0:=by rw[he];rfl
  have hset:qP x f.xs = [x]:=by rw[he];rfl
  push_cast -dsimp [hh,hr0]
  refine j7 [3] [0] (VP (e:=53) [] (Js x) 0 0 (fun r hr=>by cases hr) rfl (fun r hr=>by cases hr) rfl (by simp) (by simp) (by simp) (by simp)) rfl (by decide) (by decide) (by simp) (by push_cast -dsimp) (by push_cast -dsimp [qF]) (fun r bx' m hp=>?_)
  obtain ⟨rfl,c,g1,g2,hp⟩:=hp
  have hre:∀ fp fo,C.reL fp fo (qF 6 [Js x] c)=qF 6 [Js x] c:=fun fp fo=>zE (zG (zw (xs:=[x])))
  rcases hp with ⟨rfl,rfl⟩ | ⟨rfl,rfl⟩
  ·push_cast -dsimp [hre]
   exact ⟨[(3,53,6,zp [x],c)],[.inl 1],zB rfl (Nat.lt_of_lt_of_le (Nat.zero_lt_succ _) g1) g1 g2 zP zw,rfl,rfl,by push_cast -dsimp [zb,za,CLe,zd,hset]⟩
  ·push_cast -dsimp [hre]
   exact ⟨[(4,53,6,zp [x],c)],[.inl 1],zB rfl (Nat.lt_of_lt_of_le (Nat.zero_lt_succ _) g1) g1 g2 zP zw,rfl,rfl,by push_cast -dsimp [zb,za,CLe,zd,hset]⟩
theorem zhj (f:FsV) (n:Int) (hl:f.xs.length<=90000) (hR:z8 f.xs) (h0:f.xs≠[]) :
  Fun Tryz.prog G 248 [.agg (fsC f),.sc (.int .i64 n)] (.agg [.sc (.int .i64 f.maxI),.sc (.int .i64 f.maxB),.sc (.int .i64 f.next),.own 0 53 6 (zp (zT n f.xs))]) 1:=by
 have hll:(zp f.xs).length=f.xs.length:=List.length_map ..
 refine foF (fun _=>[]) Tryz.func248 ?_;dsimp only[Tryz.f248]
 push_cast -dsimp
 refine cl (zeq f n (by omega) hR) ?_;push_cast -dsimp
 refine j7 [] [] (Va (zp f.xs) zP zw (by omega)) rfl (by decide) (by decide) (by simp) (by push_cast -dsimp) (by push_cast -dsimp) (fun r bx' m hp=>?_)
 obtain ⟨rfl,⟨hne,c,h1,h2,rfl,rfl⟩ | ⟨he,_⟩⟩:=hp
 ·have hre:∀ fp fo,C.reL fp fo (qF 6 (zp f.xs) c)=qF 6 (zp f.xs) c:=fun fp fo=>zE (zG zw)
  have hpos:=List.length_pos_iff.2 hne
  cases hh:zt n f.xs with
  | true =>
   obtain ⟨hlt,_⟩:=H7 hR hh
   have hset:zp (zT n f.xs)=(zp f.xs).take (qV n f.xs)++(zp f.xs).drop (qV n f.xs+1):=by rw[←uG hR hh];simp
   have hsl:(zp (zT n f.xs)).length=(zp f.xs).length-1:=by rw[hset];simp;omega
   have hd:=zhM (G:=G) (zp f.xs) (qV n f.xs) c zP zw (by omega) (by omega) h1 h2
   rw[←hset,←hsl]at hd
   have hre2:∀ fp fo,C.reL fp fo (qF 6 (zp (zT n f.xs)) c)=qF 6 (zp (zT n f.xs)) c:=fun fp fo=>zE (zG zw)
   push_cast -dsimp [hh,hre]
   (try simp only[lS]);repeat refine an ?_
   rw[hll]at hd
   refine Qz [3] [] hd rfl (by decide) (by decide) (by simp) (by push_cast -dsimp) (by push_cast -dsimp [hre]) ?_
   push_cast -dsimp [hre,hre2]
   exact ⟨[(3,53,6,zp (zT n f.xs),c)],[.inl 0],zB rfl (by omega) (by omega) h2 zP zw,rfl,rfl,by push_cast -dsimp [zb,za,CLe,zd]⟩
  | false =>
   push_cast -dsimp [hh,hre]
   exact ⟨[(3,53,6,zp f.xs,c)],[.inl 0],zB rfl (by omega) h1 h2 zP zw,rfl,rfl,by push_cast -dsimp [zb,za,CLe,zd,Zd hh]⟩
 ·exact absurd (by simpa using he) h0
theorem zjY {R:Env} {L:Loc} {id e:Nat} {v:Value} (h:Rep R L (.own id e 6 [[.sc (.int .i64 1),.sc (.int .i64 2),.sc (.int .i64 0),.str [],.sc (.int .i64 1),.sc (.slice none 0 0)]]) v):Rep R L (.own id e 6 (zp [⟨1,2,0,[],1,[]⟩])) v:=
 zcf (by simp[RLe,zd,CLe]) h
theorem Xs {α:Type} {a b:List α} {i:Nat} (ha:i<a.length) (hb:i<b.length) (h:a.take i=b.take i):(a.take (i+1)=b.take (i+1))↔a[i]=b[i]:=by
 rw[List.take_add_one,List.take_add_one,h,List.append_right_inj,List.getElem?_eq_getElem ha,List.getElem?_eq_getElem hb]
 simp
theorem zot (a b:zX):(decide (a.name=b.name)&&decide (a.ino=b.ino))=decide (a=b):=by
 cases a;cases b;simp
theorem zpT (a b:zn):a=b↔a.ino=b.ino/\a.kind=b.kind/\a.links=b.links/\a.data=b.data/\a.parent=b.parent/\a.es=b.es:=by
 cases a;cases b;simp
theorem zqV (a b:FsV):a=b↔a.maxI=b.maxI/\a.maxB=b.maxB/\a.next=b.next/\a.xs=b.xs:=by
 cases a;cases b;simp
end
end
section
open CA CB
open Go.RowKit
section
variable {G:zo}
theorem Nu (a b:List zX) (ha:a.length<=9223372036854775807):Fun Tryz.prog G 131 [.sl 2 (zW a),.sl 2 (zW b)] (.sc (.bool (decide (a=b)))) 0:=by
 refine fon Tryz.func131 ?_;dsimp only[Tryz.f131]
 have hla:(zW a).length=a.length:=List.length_map ..
 have hlb:(zW b).length=b.length:=List.length_map ..
 by_cases hab:a.length=b.length
 ·push_cast -dsimp [hla,hlb,hab]
  refine loop (fun i:Nat=>⟨[(0,.sl 2 (zW a)),(1,.sl 2 (zW b)),(5,.sc (.int .i64 i))],[],0,0⟩) (fun i=>i<=b.length/\a.take i=b.take i) (fun i=>b.length-i) 0 ⟨Nat.zero_le _,rfl⟩ ?_ ?_
  ·exact wk
  ·rintro i ⟨h1,h2⟩
   by_cases h:i<b.length
   ·have g1:=Jd a i (by omega)
    have g2:=Jd b i h
    push_cast -dsimp [hla,hab,h,g1,g2]
    repeat refine an ?_
    have hd:=zot a[i] b[i]
    by_cases he:a[i]=b[i]
    ·have hd:(decide (a[i].name=b[i].name)&&decide (a[i].ino=b[i].ino))=true:=by rw[hd,decide_eq_true he]
     push_cast -dsimp [hd]
     repeat refine an ?_
     exact ⟨i+1,⟨h,(Xs (by omega) h h2).2 he⟩,by omega,wk⟩
    ·have hd:(decide (a[i].name=b[i].name)&&decide (a[i].ino=b[i].ino))=false:=by rw[hd,decide_eq_false he]
     push_cast -dsimp [hd]
     have:a≠b:=fun h=>he (by subst h;rfl)
     exact dn (by push_cast -dsimp [zb,za,CLe,zd,this])
   ·push_cast -dsimp [hla,hab,h]
    have:a=b:=by rw[←List.take_of_length_le (l:=a) (i:=i) (by omega),h2,List.take_of_length_le (by omega)]
    exact dn (by push_cast -dsimp [zb,za,CLe,zd,this])
 ·push_cast -dsimp [hla,hlb,hab]
  have:a≠b:=fun h=>hab (by rw[h])
  exact dn (by push_cast -dsimp [zb,za,CLe,zd,this])
theorem zlB (x y:zn) (hx:x.es.length<=9223372036854775807):Fun Tryz.prog G 77 [.agg (Js x),.agg (Js y)] (.sc (.bool (decide (x=y)))) 0:=by
 refine fon Tryz.func77 ?_;dsimp only[Tryz.f77]
 by_cases e0:x.ino=y.ino
 case neg =>
  have hn:¬x=y:=fun h=>e0 (by rw[h])
  push_cast -dsimp [e0]
  exact dn (by push_cast -dsimp [zb,za,CLe,zd,hn])
 by_cases e1:x.kind=y.kind
 case neg =>
  have hn:¬x=y:=fun h=>e1 (by rw[h])
  push_cast -dsimp [e0,e1]
  exact dn (by push_cast -dsimp [zb,za,CLe,zd,hn])
 by_cases e2:x.links=y.links
 case neg =>
  have hn:¬x=y:=fun h=>e2 (by rw[h])
  push_cast -dsimp [e0,e1,e2]
  exact dn (by push_cast -dsimp [zb,za,CLe,zd,hn])
 by_cases e3:x.data=y.data
 case neg =>
  have hn:¬x=y:=fun h=>e3 (by rw[h])
  push_cast -dsimp [e0,e1,e2,e3]
  exact dn (by push_cast -dsimp [zb,za,CLe,zd,hn])
 by_cases e4:x.parent=y.parent
 case neg =>
  have hn:¬x=y:=fun h=>e4 (by rw[h])
  push_cast -dsimp [e0,e1,e2,e3,e4]
  exact dn (by push_cast -dsimp [zb,za,CLe,zd,hn])
 by_cases e5:x.es=y.es
 case neg =>
  have hn:¬x=y:=fun h=>e5 (by rw[h])
  push_cast -dsimp [e0,e1,e2,e3,e4]
  refine cl (Nu x.es y.es hx) ?_;push_cast -dsimp [e5,hn]
  exact dn (by push_cast -dsimp [zb,za,CLe,zd,hn])
 have hn:x=y:=(zpT x y).2 ⟨e0,e1,e2,e3,e4,e5⟩
 push_cast -dsimp [e0,e1,e2,e3,e4]
 refine cl (Nu x.es y.es hx) ?_;push_cast -dsimp [e5]
 exact dn (by push_cast -dsimp [zb,za,CLe,zd,hn])
theorem GR (a b:List zn) (ha:a.length<=100000) (he:∀ x∈a,x.es.length<=9223372036854775807):Fun Tryz.prog G 39 [.sl 6 (zp a),.sl 6 (zp b)] (.sc (.bool (decide (a=b)))) 0:=by
 refine fon Tryz.func39 ?_;dsimp only[Tryz.f39]
 have hla:(zp a).length=a.length:=List.length_map ..
 have hlb:(zp b).length=b.length:=List.length_map ..
 by_cases hab:a.length=b.length
 ·push_cast -dsimp [hla,hlb,hab]
  refine loop (fun i:Nat=>⟨[(0,.sl 6 (zp a)),(1,.sl 6 (zp b)),(5,.sc (.int .i64 i))],[],0,0⟩) (fun i=>i<=b.length/\a.take i=b.take i) (fun i=>b.length-i) 0 ⟨Nat.zero_le _,rfl⟩ ?_ ?_
  ·exact wk
  ·rintro i ⟨h1,h2⟩
   by_cases h:i<b.length
   ·have g1:=qI a i (by omega)
    have g2:=qI b i h
    push_cast -dsimp [hla,hab,h,g1,g2]
    repeat refine an ?_
    refine cl (zlB a[i] b[i] (he _ (List.getElem_mem _))) ?_;push_cast -dsimp
    by_cases he:a[i]=b[i]
    ·push_cast -dsimp [decide_eq_true he]
     repeat refine an ?_
     exact ⟨i+1,⟨h,(Xs (by omega) h h2).2 he⟩,by omega,wk⟩
    ·push_cast -dsimp [decide_eq_false he]
     have:a≠b:=fun h=>he (by subst h;rfl)
     exact dn (by push_cast -dsimp [zb,za,CLe,zd,this])
   ·push_cast -dsimp [hla,hab,h]
    have:a=b:=by rw[←List.take_of_length_le (l:=a) (i:=i) (by omega),h2,List.take_of_length_le (by omega)]
    exact dn (by push_cast -dsimp [zb,za,CLe,zd,this])
 ·push_cast -dsimp [hla,hlb,hab]
  have:a≠b:=fun h=>hab (by rw[h])
  exact dn (by push_cast -dsimp [zb,za,CLe,zd,this])
theorem zfE (x y:FsV) (ha:x.xs.length<=100000) (he:∀ z∈x.xs,z.es.length<=9223372036854775807):Fun Tryz.prog G 12 [.agg (fsC x),.agg (fsC y)] (.sc (.bool (decide (x=y)))) 0:=by
 refine fon Tryz.func12 ?_;dsimp only[Tryz.f12]
 by_cases e0:x.maxI=y.maxI
 case neg =>
  have hn:¬x=y:=fun h=>e0 (by rw[h])
  push_cast -dsimp [e0]
  exact dn (by push_cast -dsimp [zb,za,CLe,zd,hn])
 by_cases e1:x.maxB=y.maxB
 case neg =>
  have hn:¬x=y:=fun h=>e1 (by rw[h])
  push_cast -dsimp [e0,e1]
  exact dn (by push_cast -dsimp [zb,za,CLe,zd,hn])
 by_cases e2:x.next=y.next
 case neg =>
  have hn:¬x=y:=fun h=>e2 (by rw[h])
  push_cast -dsimp [e0,e1,e2]
  exact dn (by push_cast -dsimp [zb,za,CLe,zd,hn])
 by_cases e3:x.xs=y.xs
 case neg =>
  have hn:¬x=y:=fun h=>e3 (by rw[h])
  push_cast -dsimp [e0,e1,e2]
  refine cl (GR x.xs y.xs ha he) ?_;push_cast -dsimp [e3,hn]
  exact dn (by push_cast -dsimp [zb,za,CLe,zd,hn])
 have hn:x=y:=(zqV x y).2 ⟨e0,e1,e2,e3⟩
 push_cast -dsimp [e0,e1,e2]
 refine cl (GR x.xs y.xs ha he) ?_;push_cast -dsimp [e3]
 exact dn (by push_cast -dsimp [zb,za,CLe,zd,hn])
theorem zbC {xs:List zn} {i:Nat} (hi:i<xs.length) (h0:0<i):z8 (xs.take (i+1))↔z8 (xs.take i)/\xs[i-1].ino<xs[i].ino:=by
 rw[List.take_add_one,List.getElem?_eq_getElem hi]
 unfold z8
 rw[List.pairwise_append]
 simp only[Option.toList_some,List.pairwise_singleton,true_and,List.mem_singleton,forall_eq]
 constructor
 ·rintro ⟨h1,h2⟩
  exact ⟨h1,h2 _ (List.mem_take_iff_getElem.2 ⟨i-1,by omega,rfl⟩)⟩
 ·rintro ⟨h1,h2⟩
  refine ⟨h1,fun a ha=>?_⟩
  obtain ⟨j,hj,rfl⟩:=List.mem_take_iff_getElem.1 ha
  rcases Nat.lt_or_ge j (i-1) with q | q
  ·have:=(List.pairwise_iff_getElem.1 h1) j (i-1) (by simp;omega) (by simp;omega) q
   simp at this
   omega
  ·have:j=i-1:=by omega
   subst this;exact h2
instance (xs:List zn):Decidable (z8 xs):=by unfold z8;infer_instance
theorem V8 (f:FsV) (hl:f.xs.length<=100000):Fun Tryz.prog G 96 [.agg (fsC f)] (.sc (.bool (decide (z8 f.xs)))) 0:=by
 have hll:(zp f.xs).length=f.xs.length:=List.length_map ..
 refine fon Tryz.func96 ?_;dsimp only[Tryz.f96]
 push_cast -dsimp
 refine loop (fun i:Nat=>⟨[(1,.ptr 0 0),(3,.sc (.int .i64 i))],[fsC f],0,0⟩) (fun i=>1<=i/\z8 (f.xs.take i)) (fun i=>f.xs.length-i) 1 ⟨Nat.le_refl _,by
  cases f.xs with
  | nil=>exact List.Pairwise.nil
  | cons x r=>exact List.pairwise_singleton _ _⟩ ?_ ?_
 ·exact wk
 ·rintro i ⟨h1,h2⟩
  by_cases h:i<f.xs.length
  ·have g1:=qI f.xs i h
   have g2:=qI f.xs (i-1) (by omega)
   have e1:(i:Int)-1=((i-1:Nat):Int):=by omega
   push_cast -dsimp [hll,h,e1,g1,g2]
   by_cases hc:f.xs[i].ino<=f.xs[i-1].ino
   ·push_cast -dsimp [hc]
    repeat refine an ?_
    have hn:¬z8 f.xs:=fun hR=>by
     have:=(List.pairwise_iff_getElem.1 hR) (i-1) i (by omega) h (by omega)
     omega
    exact dn (by push_cast -dsimp [zb,za,CLe,zd,hn])
   ·push_cast -dsimp [hc]
    repeat refine an ?_
    exact ⟨i+1,⟨by omega,(zbC h (by omega)).2 ⟨h2,by omega⟩⟩,by omega,wk⟩
  ·push_cast -dsimp [hll,h]
   rw[List.take_of_length_le (by omega)]at h2
   exact dn (by push_cast -dsimp [zb,za,CLe,zd,h2])
def Mx (x:zn):Prop:=x.data.length<=5000/\x.es.length<=40/\∀ e∈x.es,e.name.length<=300
instance (x:zn):Decidable (Mx x):=by unfold Mx;infer_instance
def Vf (xs:List zn):Prop:=xs.length<=40/\∀ x∈xs,Mx x
instance (xs:List zn):Decidable (Vf xs):=by unfold Vf;infer_instance
structure FsS (f:FsV):Prop where
 len:f.xs.length<=10000
 node:∀ x∈f.xs,x.es.length<=10000/\x.data.length<=10000/\∀ e∈x.es,e.name.length<=10000
theorem Vf.fs {f:FsV} (h:Vf f.xs):FsS f:=⟨by have:=h.1;omega,fun x hx=>by
 obtain ⟨h1,h2,h3⟩:=h.2 x hx
 exact ⟨by omega,by omega,fun e he=>by have:=h3 e he;omega⟩⟩
theorem uh (f:FsV):Fun Tryz.prog G 93 [.agg (fsC f)] (.sc (.bool (decide (Vf f.xs)))) 0:=by
 have hll:(zp f.xs).length=f.xs.length:=List.length_map ..
 refine fon Tryz.func93 ?_;dsimp only[Tryz.f93]
 push_cast -dsimp
 refine loop (fun i:Nat=>⟨[(1,.ptr 0 0),(3,.sc (.int .i64 i))],[fsC f],0,0⟩) (fun i=>i<=100/\∀ t (h:t<f.xs.length),t<i->Mx f.xs[t]) (fun i=>100-i) 0 ⟨Nat.zero_le _,fun t h h'=>absurd h' (Nat.not_lt_zero _)⟩ ?_ ?_
 ·exact wk
 ·rintro i ⟨h1,h2⟩
  have hend:¬(i<f.xs.length/\i<100)->decide ((f.xs.length:Int)<=40)=decide (Vf f.xs):=fun h=>by
   rw[decide_eq_decide]
   constructor
   ·intro hle
    refine ⟨by omega,fun x hx=>?_⟩
    obtain ⟨t,ht,rfl⟩:=List.getElem_of_mem hx
    exact h2 t ht (by omega)
   ·intro h;have:=h.1;omega
  by_cases h:i<f.xs.length
  ·by_cases h100:i<100
   ·have g1:=qI f.xs i h
    have h100':(i:Int)<100:=by omega
    have hbad:¬Mx f.xs[i]->¬Vf f.xs:=fun hs hf=>hs (hf.2 _ (List.getElem_mem h))
    by_cases hd:5000<(f.xs[i].data.length:Int)
    ·have hn:=hbad fun hs=>by have:=hs.1;omega
     push_cast -dsimp [hll,h,h100',g1,hd]
     repeat refine an ?_
     exact dn (by push_cast -dsimp [zb,za,CLe,zd,hn])
    ·by_cases he:40<(f.xs[i].es.length:Int)
     ·have hn:=hbad fun hs=>by have:=hs.2.1;omega
      push_cast -dsimp [hll,h,h100',g1,hd,List.length_map,he]
      repeat refine an ?_
      exact dn (by push_cast -dsimp [zb,za,CLe,zd,hn])
     ·push_cast -dsimp [hll,h,h100',g1,hd,List.length_map,he]
      repeat refine an ?_
      refine loop (fun j:Nat=>⟨[(1,.ptr 0 0),(3,.sc (.int .i64 i)),(4,.ptr 1 0),(5,.sc (.int .i64 j))],[fsC f,Js f.xs[i]],0,0⟩) (fun j=>j<=f.xs[i].es.length/\∀ t (h':t<f.xs[i].es.length),t<j->f.xs[i].es[t].name.length<=300) (fun j=>f.xs[i].es.length-j) 0 ⟨Nat.zero_le _,fun t h h'=>absurd h' (Nat.not_lt_zero _)⟩ ?_ ?_
      ·exact wk
      ·rintro j ⟨h3,h4⟩
       by_cases hj:j<f.xs[i].es.length
       ·have g2:=Jd f.xs[i].es j hj
        by_cases hs:300<(f.xs[i].es[j].name.length:Int)
        ·have hn:=hbad fun hs'=>by have:=hs'.2.2 _ (List.getElem_mem hj);omega
         push_cast -dsimp [List.length_map,hj,g2,hs]
         repeat refine an ?_
         exact dn (by push_cast -dsimp [zb,za,CLe,zd,hn])
        ·push_cast -dsimp [List.length_map,hj,g2,hs]
         repeat refine an ?_
         refine ⟨j+1,⟨hj,fun t ht hlt=>?_⟩,by omega,wk⟩
         rcases Nat.lt_or_ge t j with q | q
         ·exact h4 t ht q
         ·have:t=j:=by omega
          subst this;omega
       ·push_cast -dsimp [List.length_map,hj]
        repeat refine an ?_
        refine ⟨i+1,⟨by omega,fun t ht hlt=>?_⟩,by omega,wk⟩
        rcases Nat.lt_or_ge t i with q | q
        ·exact h2 t ht q
        ·have:t=i:=by omega
         subst this
         refine ⟨by omega,by omega,fun e hee=>?_⟩
         obtain ⟨u,hu,rfl⟩:=List.getElem_of_mem hee
         exact h4 u hu (by omega)
   ·have h100':((i:Int)<100)=False:=eq_false (by omega)
    have:=hend (by omega)
    push_cast -dsimp [hll,h,h100']
    exact dn (by push_cast -dsimp [zb,za,CLe,zd,this])
  ·have:=hend (by omega)
   push_cast -dsimp [hll,h]
   exact dn (by push_cast -dsimp [zb,za,CLe,zd,this])
theorem NU (f:FsV) (n:Int) (hl:f.xs.length<=90000) :
  Fun Tryz.prog G 92 [.agg (fsC f),.sc (.int .i64 n)] (.agg [.sc (.int .i64 f.maxI),.sc (.int .i64 f.maxB),.sc (.int .i64 f.next),.own 0 53 6 (zp (zT n f.xs))]) 1:=by
 have hll:(zp f.xs).length=f.xs.length:=List.length_map ..
 refine fon Tryz.func92 ?_;dsimp only[Tryz.f92]
 push_cast -dsimp
 refine loop (fun i:Nat=>⟨[(1,.sc (.int .i64 n)),(2,.ptr 0 0),(4,.ptr 1 0),(5,.own 0 53 6 (zp (zT n (f.xs.take i)))),(6,.sc (.int .i64 i))],[fsC f,[.sc (.int .i64 0),.sc (.int .i64 0),.sc (.int .i64 0),.sc (.slice none 0 0)]],1,0⟩) (fun i=>i<=f.xs.length) (fun i=>f.xs.length-i) 0 (Nat.zero_le _) ?_ ?_
 ·exact wks [.inr (53,6)] (by push_cast -dsimp [zb,za,CLe,zd,zT,List.filter_nil])
 ·intro i h1
  by_cases h:i<f.xs.length
  ·have g1:=qI f.xs i h
   have ht:zT n (f.xs.take (i+1))=zT n (f.xs.take i)++zT n [f.xs[i]]:=by
    unfold zT;rw[List.take_add_one,List.getElem?_eq_getElem h,List.filter_append];rfl
   have hle:(zT n (f.xs.take i)).length<=i:=Nat.le_trans VQ (by simp;omega)
   by_cases hc:f.xs[i].ino=n
   ·have ht:zT n (f.xs.take (i+1))=zT n (f.xs.take i):=by rw[ht,Jo hc];simp[zT]
    push_cast -dsimp [hll,h,g1,hc]
    repeat refine an ?_
    exact ⟨i+1,h,by omega,wks [.inl 0] (by push_cast -dsimp [zb,za,CLe,zd,ht])⟩
   ·have ht:zT n (f.xs.take (i+1))=zT n (f.xs.take i)++[f.xs[i]]:=by rw[ht,Jl hc];simp[zT]
    push_cast -dsimp [hll,h,g1,hc]
    repeat refine an ?_
    exact ⟨i+1,h,by omega,wks [.inl 0] (by push_cast -dsimp [zb,za,CLe,zd,ht,List.map_append])⟩
  ·rw[List.take_of_length_le (by omega)]
   push_cast -dsimp [hll,h]
   exact ⟨[.inl 0],rfl,rfl,by push_cast -dsimp [zb,za,CLe,zd]⟩
theorem X9 (f:FsV) (x:zn) (hl:f.xs.length<=90000) :
  Fun Tryz.prog G 46 [.agg (fsC f),.agg (Js x)] (.agg [.sc (.int .i64 f.maxI),.sc (.int .i64 f.maxB),.sc (.int .i64 f.next),.own 0 53 6 (zp (qP x f.xs))]) 1:=by
 have hdl:(zT x.ino f.xs).length<=90000:=Nat.le_trans VQ hl
 have hl2:(zp (zT x.ino f.xs)).length=(zT x.ino f.xs).length:=List.length_map ..
 refine fon Tryz.func46 ?_;dsimp only[Tryz.f46]
 push_cast -dsimp
 refine cl (NU f x.ino hl) ?_;push_cast -dsimp
 unfold qP
 generalize zT x.ino f.xs=rest at hdl hl2
 refine loop (fun p:Nat×List zn×Bool=>⟨[(2,.ptr 0 0),(3,.ptr 1 0),(4,.ptr 2 0),(5,.sl 6 (zp rest)),(6,.own 0 53 6 (zp p.2.1)),(7,.sc (.bool p.2.2)),(8,.sc (.int .i64 p.1))],[fsC f,Js x,[.sc (.int .i64 0),.sc (.int .i64 0),.sc (.int .i64 0),.sc (.slice none 0 0)]],1,0⟩)
  (fun p=>p.1<=rest.length/\p.2.1.length<=p.1+p.2.2.toNat/\ZO x rest=p.2.1++(if p.2.2 then rest.drop p.1 else ZO x (rest.drop p.1))) (fun p=>rest.length-p.1) (0,[],false) ⟨Nat.zero_le _,Nat.zero_le _,by simp⟩ ?_ ?_
 ·exact wks [.inr (53,6)]
 ·rintro ⟨i,out,d⟩ ⟨h1,h2,h3⟩
  dsimp only at h1 h2 h3 ⊢
  have hlo:(zp out).length=out.length:=List.length_map ..
  by_cases h:i<rest.length
  ·have g1:=qI rest i h
   rw[List.drop_eq_getElem_cons h]at h3
   cases d with
   | true =>
    simp only[Bool.toNat_true]at h2
    push_cast -dsimp [hl2,h,g1]
    repeat refine an ?_
    exact ⟨(i+1,out++[rest[i]],true),⟨h,by simp;omega,by rw[h3];simp⟩,by dsimp only;omega,wks [.inl 0] (by push_cast -dsimp [zb,za,CLe,zd,List.map_append])⟩
   | false =>
    simp only[Bool.false_eq_true,if_false,ZO]at h3
    simp only[Bool.toNat_false]at h2
    by_cases hc:x.ino<rest[i].ino
    ·rw[if_pos hc]at h3
     push_cast -dsimp [hl2,h,g1,hc]
     repeat refine an ?_
     exact ⟨(i+1,out++[x]++[rest[i]],true),⟨h,by simp;omega,by rw[h3];simp⟩,by dsimp only;omega,wks [.inl 0] (by push_cast -dsimp [zb,za,CLe,zd,List.map_append])⟩
    ·rw[if_neg hc]at h3
     push_cast -dsimp [hl2,h,g1,hc]
     repeat refine an ?_
     exact ⟨(i+1,out++[rest[i]],false),⟨h,by simp;omega,by rw[h3];simp⟩,by dsimp only;omega,wks [.inl 0] (by push_cast -dsimp [zb,za,CLe,zd,List.map_append])⟩
  ·rw[List.drop_of_length_le (by omega)]at h3
   cases d with
   | true =>
    simp only[Bool.toNat_true]at h2
    have h3:ZO x rest=out:=by rw[h3];simp
    push_cast -dsimp [hl2,h]
    exact ⟨[.inl 0],rfl,rfl,by push_cast -dsimp [zb,za,CLe,zd,h3]⟩
   | false =>
    simp only[Bool.toNat_false]at h2
    have h3:ZO x rest=out++[x]:=by rw[h3];simp[ZO]
    push_cast -dsimp [hl2,h]
    repeat refine an ?_
    exact ⟨[.inl 0],rfl,rfl,by push_cast -dsimp [zb,za,CLe,zd,h3,List.map_append]⟩
theorem ziA (i b:Int):Fun Tryz.prog G 45 [.sc (.int .i64 i),.sc (.int .i64 b)] (.agg [.sc (.int .i64 i),.sc (.int .i64 b),.sc (.int .i64 2),.own 0 53 6 (zp [⟨1,2,0,[],1,[]⟩])]) 1:=by
 refine Fun.resX (r:=.agg [.sc (.int .i64 i),.sc (.int .i64 b),.sc (.int .i64 2),.own 0 53 6 [[.sc (.int .i64 1),.sc (.int .i64 2),.sc (.int .i64 0),.str [],.sc (.int .i64 1),.sc (.slice none 0 0)]]]) ?_ fun R L v h =>
  zbQ (fun vs=>J2 (fun v h=>h) (fun vs=>J2 (fun v h=>h) fun vs=>J2 (fun v h=>h) fun vs=>J2 (fun v=>zjY) fun vs h=>h)) h
 refine fon Tryz.func45 ?_;dsimp only[Tryz.f45]
 push_cast -dsimp
 exact ⟨[.inl 0],rfl,rfl,by push_cast -dsimp [zb,za,CLe,zd]⟩
end
end
section
open Go.RowKit
section
variable {G:zo}
theorem zjD {n:Int} {xs:List zn} {i:Nat} (h:i<xs.length):zt n (xs.take (i+1))=(zt n (xs.take i)||(xs[i].ino==n)):=by
 unfold zt
 rw[List.take_add_one,List.getElem?_eq_getElem h,List.any_append]
 simp
theorem zg5 {n:Int} {xs:List zn} {i:Nat} (h:i<xs.length) (h0:zt n (xs.take i)=false) (he:xs[i].ino=n):zt n xs=true/\zf n xs=xs[i]:=by
 refine ⟨List.any_eq_true.2 ⟨xs[i],List.getElem_mem h,by simp[he]⟩,?_⟩
 unfold zf QG
 rw[List.find?_eq_some_iff_getElem (b:=xs[i]) |>.2 ⟨by simp[he],i,h,rfl,fun j hj=>?_⟩]
 ·rfl
 ·unfold zt at h0
  rw[List.any_eq_false]at h0
  have:=h0 xs[j] (List.mem_take_iff_getElem.2 ⟨j,by omega,rfl⟩)
  simpa using this
theorem jU (f:FsV) (n:Int) (hl:f.xs.length<=100000):Fun Tryz.prog G 73 [.agg (fsC f),.sc (.int .i64 n)] (.tup [.agg (Js (zf n f.xs)),.sc (.bool (zt n f.xs))]) 0:=by
 have hll:(zp f.xs).length=f.xs.length:=List.length_map ..
 refine fon Tryz.func73 ?_;dsimp only[Tryz.f73]
 push_cast -dsimp
 refine loop (fun i:Nat=>⟨[(1,.sc (.int .i64 n)),(2,.ptr 0 0),(4,.ptr 1 0),(6,.sc (.int .i64 i))],[fsC f,[.sc (.int .i64 0),.sc (.int .i64 0),.sc (.int .i64 0),.str [],.sc (.int .i64 0),.sc (.slice none 0 0)]],0,0⟩) (fun i=>i<=f.xs.length/\zt n (f.xs.take i)=false) (fun i=>f.xs.length-i) 0 ⟨Nat.zero_le _,rfl⟩ ?_ ?_
 ·exact wk
 ·rintro i ⟨h1,h2⟩
  by_cases h:i<f.xs.length
  ·have g1:=qI f.xs i h
   by_cases he:f.xs[i].ino=n
   ·obtain ⟨q1,q2⟩:=zg5 h h2 he
    push_cast -dsimp [hll,h,g1,he]
    repeat refine an ?_
    exact dn (by push_cast -dsimp [zb,za,CLe,zd,q1,q2,he])
   ·have q:=zjD (n:=n) h
    rw[h2,show (f.xs[i].ino==n)=false from beq_eq_false_iff_ne.2 he]at q
    push_cast -dsimp [hll,h,g1,he]
    repeat refine an ?_
    exact ⟨i+1,⟨h,q⟩,by omega,wk⟩
  ·rw[List.take_of_length_le (by omega)]at h2
   have hg:zf n f.xs=vh:=by unfold zf;rw[HZ h2];rfl
   push_cast -dsimp [hll,h]
   exact dn (by push_cast -dsimp [zb,za,CLe,zd,hg,h2,vh])
def qp (xs:List zn):Nat:=((xs.filter fun x=>decide (x.kind=1)).map fun x=>x.data.length).sum
theorem M7:∀ {xs:List zn} {n:Nat},(∀ x∈xs,x.data.length<=n)->qp xs<=xs.length*n
 | [],n,_=>by simp[qp]
 | x :: r,n,h=>by
  have ih:=M7 (xs:=r) (n:=n) fun y hy=>h y (List.mem_cons_of_mem _ hy)
  have hx:=h x List.mem_cons_self
  unfold qp at ih ⊢
  rw[List.filter_cons]
  split
  ·simp only[List.map_cons,List.sum_cons,List.length_cons]
   rw[Nat.succ_mul];omega
  ·rw[List.length_cons,Nat.succ_mul];omega
theorem FsS.bytes {f:FsV} (h:FsS f):qp f.xs<=100000000:=by
 have h1:=M7 (xs:=f.xs) (n:=10000) fun x hx=>(h.node x hx).2.1
 have h2:=h.len
 have:f.xs.length*10000<=10000*10000:=Nat.mul_le_mul_right _ h2
 omega
theorem zco {xs:List zn} {i:Nat} (h:i<xs.length):qp (xs.take (i+1))=qp (xs.take i)+if xs[i].kind=1 then xs[i].data.length else 0:=by
 unfold qp
 rw[List.take_add_one,List.getElem?_eq_getElem h,List.filter_append,List.map_append,List.sum_append]
 by_cases hk:xs[i].kind=1<;>simp[hk]
theorem zdw (f:FsV) (hf:FsS f):Fun Tryz.prog G 165 [.agg (fsC f)] (.sc (.int .i64 (qp f.xs:Nat))) 0:=by
 have hll:(zp f.xs).length=f.xs.length:=List.length_map ..
 have h40:=hf.len
 have hb0:qp []=0:=rfl
 refine fon Tryz.func165 ?_;dsimp only[Tryz.f165]
 push_cast -dsimp
 refine loop (fun i:Nat=>⟨[(1,.ptr 0 0),(3,.sc (.int .i64 (qp (f.xs.take i):Nat))),(4,.sc (.int .i64 i))],[fsC f],0,0⟩) (fun i=>i<=f.xs.length/\qp (f.xs.take i)<=i*10000) (fun i=>f.xs.length-i) 0 ⟨Nat.zero_le _,Nat.zero_le _⟩ ?_ ?_
 ·exact wk (by push_cast -dsimp [zb,za,CLe,zd,hb0,List.take_zero])
 ·rintro i ⟨h1,h2⟩
  by_cases h:i<f.xs.length
  ·have g1:=qI f.xs i h
   have hd:=(hf.node _ (List.getElem_mem h)).2.1
   have q:=zco h
   by_cases hk:f.xs[i].kind=1
   ·rw[if_pos hk]at q
    have q':((qp (f.xs.take (i+1)):Nat):Int)=(qp (f.xs.take i):Int)+(f.xs[i].data.length:Int):=by omega
    push_cast -dsimp [hll,h,g1,hk]
    repeat refine an ?_
    exact ⟨i+1,⟨h,by omega⟩,by omega,wk (by push_cast -dsimp [zb,za,CLe,zd,q'])⟩
   ·rw[if_neg hk]at q
    have q':qp (f.xs.take (i+1))=qp (f.xs.take i):=by omega
    push_cast -dsimp [hll,h,g1,hk]
    repeat refine an ?_
    exact ⟨i+1,⟨h,by omega⟩,by omega,wk (by push_cast -dsimp [zb,za,CLe,zd,q'])⟩
  ·rw[List.take_of_length_le (by omega)]
   push_cast -dsimp [hll,h]
   exact dn
end
end
section
open Go.RowKit
abbrev G0:zo:=fun _=>none
abbrev znC (l:List UInt8):List C:=[.str l]
def ZP (s:List (List UInt8)×List UInt8) (b:UInt8):List (List UInt8)×List UInt8:=
 if b=47 then (if s.2 = [] then s.1 else s.1++[s.2],[]) else (s.1,s.2++[b])
def zkz (s:List (List UInt8)×List UInt8):List (List UInt8):=if s.2 = [] then s.1 else s.1++[s.2]
def nst (l:List UInt8) (k:Nat):List (List UInt8)×List UInt8:=if k<=l.length then (l.take k).foldl ZP ([],[]) else (zkz (l.foldl ZP ([],[])),[])
def zk (l:List UInt8):List (List UInt8):=zkz (l.foldl ZP ([],[]))
theorem uE (l:List UInt8):nst l 0=([],[]):=by simp[nst]
theorem zaf (l:List UInt8) (k:Nat) (b:UInt8) (h:l[k]?=some b):nst l (k+1)=ZP (nst l k) b:=by
 have hk:k<l.length:=(List.getElem?_eq_some_iff.1 h).1
 unfold nst
 rw[if_pos (by omega),if_pos (by omega),List.take_add_one,h]
 simp
theorem zcR (l:List UInt8):nst l (l.length+1)=(zk l,[]):=by
 unfold nst zk
 rw[if_neg (by omega)]
theorem zdQ (l:List UInt8):zkz (nst l l.length)=zk l:=by
 unfold nst zk
 rw[if_pos (Nat.le_refl _),List.take_length]
theorem GZ (l:List UInt8):∀ k,k<=l.length->(nst l k).1.length+(nst l k).2.length<=k
 | 0,_=>by simp[uE]
 | k+1,h=>by
  have hk:k<l.length:=by omega
  have ih:=GZ l k (by omega)
  rw[zaf l k l[k] (List.getElem?_eq_getElem hk)]
  unfold ZP
  by_cases h47:l[k]=47
  ·rw[if_pos h47]
   by_cases h2:(nst l k).2 = []
   ·simp[h2];omega
   ·have:0<(nst l k).2.length:=List.length_pos_iff.2 h2
    simp[h2];omega
  ·rw[if_neg h47];simp;omega
theorem qo (l:List UInt8):(zk l).length<=l.length:=by
 rw[←zdQ]
 have:=GZ l l.length (Nat.le_refl _)
 unfold zkz
 split
 ·omega
 ·rename_i h
  have:0<(nst l l.length).2.length:=List.length_pos_iff.2 h
  simp;omega
theorem NG {b c:UInt8} (h:b≠c):¬((b.toNat:Int)=(c.toNat:Int)):=fun e=>h (UInt8.toNat_inj.1 (by omega))
theorem zc6 {α:Type} (l:List α) (k:Nat) (b:α) (h:l[k]?=some b):(l.take (k+1)).drop k = [b]:=by
 have hk:k<l.length:=(List.getElem?_eq_some_iff.1 h).1
 rw[List.take_add_one,h,List.drop_append]
 simp[Nat.min_eq_left (by omega:k<=l.length)]
theorem Uk (l:List UInt8) (h:l.length<=2000000):Fun Tryz.prog G0 47 [.str l] (.own 0 9 1 ((zk l).map znC)) 1:=by
 refine fon Tryz.func47 ?_;dsimp only[Tryz.f47]
 push_cast -dsimp
 refine loop (fun k:Nat=>⟨[(0,.str l),(3,.own 0 9 1 ((nst l k).1.map znC)),(4,.str (nst l k).2),(5,.sc (.int .i64 k))],[],1,0⟩) (fun k=>k<=l.length+1) (fun k=>l.length+1-k) 0 (Nat.zero_le _) ?_ ?_
 ·refine Ji.mk [.inr (9,1)] rfl rfl (Nat.le_refl _) rfl ?_ trivial
  push_cast -dsimp [zb,za,CLe,zd]
  simp[uE]
 ·intro k hk
  push_cast -dsimp
  by_cases h1:k<=l.length
  ·have hs:=GZ l k h1
   by_cases h2:k<l.length
   ·obtain ⟨b,hb⟩:∃ b,l[k]?=some b:=⟨l[k],List.getElem?_eq_getElem h2⟩
    have hn:=zaf l k b hb
    by_cases h3:b=47
    ·have h3':(b.toNat:Int)=47:=by subst h3;rfl
     by_cases h4:(nst l k).2 = []
     ·push_cast -dsimp [h1,h2,h3',hb,h4]
      and_intros<;>try omega
      refine ⟨k+1,by omega,by omega,Ji.mk [.inl 0] rfl rfl (Nat.le_refl _) rfl ?_ trivial⟩
      push_cast -dsimp [zb,za,CLe,zd]
      simp[hn,ZP,h3,h4]
     ·push_cast -dsimp [h1,h2,h3',hb,h4]
      simp only[List.length_map,List.length_cons,List.length_nil]
      and_intros<;>try omega
      refine ⟨k+1,by omega,by omega,Ji.mk [.inl 0] rfl rfl (Nat.le_refl _) rfl ?_ trivial⟩
      push_cast -dsimp [zb,za,CLe,zd]
      simp[hn,ZP,h3,h4,znC]
    ·have h3':¬((b.toNat:Int)=47):=NG h3
     push_cast -dsimp [h1,h2,h3',hb]
     rw[zc6 l k b hb]
     and_intros<;>try omega
     ·simp;omega
     refine ⟨k+1,by omega,by omega,Ji.mk [.inl 0] rfl rfl (Nat.le_refl _) rfl ?_ trivial⟩
     push_cast -dsimp [zb,za,CLe,zd]
     simp[hn,ZP,h3]
   ·obtain rfl:k=l.length:=by omega
    have hl:=zdQ l
    have he:=zcR l
    have hz:=qo l
    by_cases h4:(nst l l.length).2 = []
    ·push_cast -dsimp [h1,h2,h4]
     and_intros<;>try omega
     refine ⟨l.length+1,by omega,by omega,Ji.mk [.inl 0] rfl rfl (Nat.le_refl _) rfl ?_ trivial⟩
     push_cast -dsimp [zb,za,CLe,zd]
     simp[he,←hl,zkz,h4]
    ·push_cast -dsimp [h1,h2,h4]
     simp only[List.length_map,List.length_cons,List.length_nil]
     and_intros<;>try omega
     refine ⟨l.length+1,by omega,by omega,Ji.mk [.inl 0] rfl rfl (Nat.le_refl _) rfl ?_ trivial⟩
     push_cast -dsimp [zb,za,CLe,zd]
     simp[he,←hl,zkz,h4,znC]
  ·obtain rfl:k=l.length+1:=by omega
   have he:=zcR l
   push_cast -dsimp [h1]
   exact ⟨[.inl 0],rfl,rfl,by push_cast -dsimp [zb,za,CLe,zd,he]⟩
end
section
open Go.RowKit
abbrev zQ (xs:List (List UInt8)):List (List C):=xs.map znC
theorem xU (xs:List (List UInt8)):(zQ xs).length=xs.length:=List.length_map _
theorem zcP (xs:List (List UInt8)) (x:List UInt8):zQ xs++[[.str x]]=zQ (xs++[x]):=by simp
theorem strs_get? (xs:List (List UInt8)) (k:Nat):(zQ xs)[k]?=(xs[k]?).map znC:=List.getElem?_map
theorem zft (xs:List (List UInt8)) (k:Nat):(zQ xs).drop k=zQ (xs.drop k):=List.map_drop.symm
theorem zgD (xs:List (List UInt8)) (k:Nat):(zQ xs).take k=zQ (xs.take k):=List.map_take.symm
theorem x9 (xs ys:List (List UInt8)):zQ xs++zQ ys=zQ (xs++ys):=List.map_append.symm
theorem Qx (xs:List (List UInt8)) (k:Nat) (h:k<xs.length):(zQ xs)[k]?=some [.str (xs[k]'h)]:=by rw[strs_get?,List.getElem?_eq_getElem h];rfl
attribute [push_cast] xU zcP zft zgD x9
abbrev qt (b:Bool):C:=.sc (.bool b)
theorem zhX (a b:List (List UInt8)) (ha:a.length<=9223372036854775807):Fun Tryz.prog G0 13 [.sl 1 (zQ a),.sl 1 (zQ b)] (qt (decide (a=b))) 0:=by
 by_cases hl:a.length=b.length
 ·refine fon Tryz.func13 ?_;dsimp only[Tryz.f13]
  push_cast -dsimp [hl]
  refine loop (fun k:Nat=>⟨[(0,.sl 1 (zQ a)),(1,.sl 1 (zQ b)),(5,.sc (.int .i64 k))],[],0,0⟩) (fun k=>k<=a.length/\a.take k=b.take k) (fun k=>a.length-k) 0 ⟨Nat.zero_le _,rfl⟩ ?_ ?_
  ·exact wk
  ·intro k hk
   have hk1:=hk.1
   have hk2:=hk.2
   by_cases h:k<a.length
   ·have hga:=Qx a k h
    have hgb:=Qx b k (by omega)
    by_cases he:a[k]'h=b[k]'(by omega)
    ·push_cast -dsimp [h,hga,hgb,he]
     refine ⟨by omega,by omega,by omega,k+1,⟨by omega,?_⟩,by omega,wk⟩
     rw[List.take_add_one,List.take_add_one,hk2,List.getElem?_eq_getElem h,List.getElem?_eq_getElem (by omega:k<b.length),he]
    ·push_cast -dsimp [h,hga,hgb,he]
     refine ⟨by omega,by omega,[],rfl,rfl,?_⟩
     push_cast -dsimp [zb,za,CLe,zd]
     have:a≠b:=fun e=>he (by subst e;rfl)
     simp[this]
   ·have hkl:k=a.length:=by omega
    push_cast -dsimp [h]
    refine ⟨[],rfl,rfl,?_⟩
    push_cast -dsimp [zb,za,CLe,zd]
    rw[hkl,List.take_length,hl,List.take_length]at hk2
    simp[hk2]
 ·have hl':¬((a.length:Int)=(b.length:Int)):=by omega
  refine fon Tryz.func13 ?_;dsimp only[Tryz.f13]
  push_cast -dsimp [hl]
  refine ⟨[],rfl,rfl,?_⟩
  push_cast -dsimp [zb,za,CLe,zd]
  have:a≠b:=fun e=>hl (by rw[e])
  simp[this]
def few (l:List (List UInt8)):Bool:=(l.take 100).all (fun x=>decide (x.length<=300))&&decide (l.length<=40)
end
section
open Go.RowKit
theorem Fun.wrap {P:Program} {G:zo} {f:FuncId} {args:List C} {r:C} (he:Yh P f=true)
  (h:∀ (R:Env) (vs:List Value),zu R zF args vs->Calls P f vs.toArray R.w fun e w'=>∃ v,e = .returned v/\Below R.w.heap.size R.w w'/\∀ R',Ext R R'->Rep R' zF r v):Fun P G f args r 0:=by
 refine ⟨he,fun R vs hg ha=>(h R vs ha).mono ?_⟩
 rintro e w' ⟨v,rfl,hb,hr⟩
 have st:qj 0 0 R zF ⟨w',fun b o=>b<R.w.heap.size/\R.M b o,R.F⟩ zF:=qj.mem (nx:=0) hb
 exact ⟨v,_,zF,rfl,rfl,st,hr _ st.ext⟩
def jG:List UInt8->List (List UInt8)
 | []=>[[]]
 | b :: l=>if b=47 then [] :: jG l else match jG l with
  | []=>[[b]]
  | x :: r=>(b :: x) :: r
theorem Hj (l:List UInt8):jG l≠[]:=by
 cases l with
 | nil=>simp[jG]
 | cons b l =>
  unfold jG
  split
  ·simp
  ·split<;>simp
theorem Gl:∀ l:List UInt8,Lib.indexByte l 47<0->jG l = [l]
 | [],_=>rfl
 | b :: l,h=>by
  unfold Lib.indexByte at h
  by_cases hb:b=47
  ·subst hb;simp at h
  ·have hb':(b==47)=false:=by simpa using hb
   rw[hb']at h
   simp only[Bool.false_eq_true,if_false]at h
   have hl:Lib.indexByte l 47<0:=by
    split at h
    ·rename_i g;have:=beq_iff_eq.1 g;omega
    ·omega
   unfold jG
   rw[if_neg hb,Gl l hl]
theorem GP:∀ l:List UInt8,-1<=Lib.indexByte l 47
 | []=>Int.le_refl _
 | b :: l=>by
  have:=GP l
  unfold Lib.indexByte
  split
  ·decide
  ·split
   ·decide
   ·omega
theorem zag:∀ (l:List UInt8) (i:Nat),Lib.indexByte l 47=(i:Int)->i<l.length/\jG l=l.take i :: jG (l.drop (i+1))
 | [],i,h=>by
  have h:(-1:Int)=(i:Int):=h
  omega
 | b :: l,i,h=>by
  unfold Lib.indexByte at h
  by_cases hb:b=47
  ·subst hb
   simp at h
   obtain rfl:i=0:=by omega
   refine ⟨by simp,?_⟩
   conv=>lhs;unfold jG
   simp
  ·have hb':(b==47)=false:=by simpa using hb
   rw[hb']at h
   simp only[Bool.false_eq_true,if_false]at h
   split at h
   ·omega
   ·rename_i g
    have g':Lib.indexByte l 47≠-1:=by simpa using g
    have hg:=GP l
    obtain ⟨j,rfl⟩:∃ j,i=j+1:=⟨i-1,by omega⟩
    have hj:Lib.indexByte l 47=(j:Int):=by omega
    obtain ⟨h1,h2⟩:=zag l j hj
    refine ⟨by simp;omega,?_⟩
    conv=>lhs;unfold jG
    rw[if_neg hb,h2]
    simp
theorem Uu:∀ (l:List UInt8) (a:List (List UInt8)) (cur:List UInt8),zkz (l.foldl ZP (a,cur))=a++(match jG l with | []=>[] | x :: r=>(cur++x) :: r).filter (fun x=>!decide (x = []))
 | [],a,cur=>by
  simp only[List.foldl_nil,zkz,jG]
  by_cases h:cur = []<;>simp[h]
 | b :: l,a,cur=>by
  simp only[List.foldl_cons]
  by_cases hb:b=47
  ·subst hb
   have hn:ZP (a,cur) 47=(if cur = [] then a else a++[cur],[]):=by simp[ZP]
   rw[hn,Uu l]
   conv=>rhs;unfold jG
   simp only[if_true]
   have hne:=Hj l
   cases hs:jG l with
   | nil=>exact absurd hs hne
   | cons x r=>by_cases h:cur = []<;>simp[h]
  ·have hn:ZP (a,cur) b=(a,cur++[b]):=by simp[ZP,hb]
   rw[hn,Uu l]
   conv=>rhs;unfold jG
   rw[if_neg hb]
   have hne:=Hj l
   cases hs:jG l with
   | nil=>exact absurd hs hne
   | cons x r=>simp
theorem jR (l:List UInt8):zk l=(jG l).filter (fun x=>!decide (x = [])):=by
 unfold zk
 rw[Uu]
 cases hs:jG l with
 | nil=>rfl
 | cons x r=>simp
theorem zfp (l:List UInt8):Fun Tryz.prog G0 170 [.str l,.str [47]] (.sc (.int .i64 (Lib.indexByte l 47))) 0:=by
 refine Fun.wrap (by kernel_rfl) fun R vs h=>?_
 obtain ⟨v1,us1,rfl,h1,h⟩:=ze.1 h
 obtain ⟨v2,us2,rfl,h2,h⟩:=ze.1 h
 rw[zj]at h
 subst h
 rw[zN]at h1 h2
 subst h1 h2
 refine (Tryz.strings_Index_one ⟨l.toArray⟩ 47 R.w).mono ?_
 rintro e w' ⟨rfl,rfl⟩
 exact ⟨_,rfl,Below.refl _ _,fun R' _=>zm.2 (by simp)⟩
theorem kF (s:List UInt8) (hs:s.length<=1000000):xr Tryz.prog G0 168 [] [.ptr 1 0,.ptr 0 0,.ptr 2 0] [[.str s],[.str [47]],[.sc (.int .i64 0)]] (zQ (jG s)):=by
 refine foI (fun _=>[]) Tryz.func168 ?_;dsimp only[Tryz.f168]
 intro l sf
 push_cast -dsimp
 refine loop (fun x:List UInt8×Nat=>⟨[(0,.sc (.func (.yield l) #[] #[])),(1,.ptr 1 0),(2,.ptr 0 0),(3,.ptr 2 0)],[[.str x.1],[.str [47]],[.sc (.int .i64 0)]],0,x.2⟩)
  (fun x=>x.1.length<=1000000/\(∃ done,jG s=done++jG x.1/\done.length=x.2)/\∀ j,j<x.2->sf j=false) (fun x=>x.1.length) (s,0) ⟨hs,⟨[],rfl,rfl⟩,fun j hj=>by omega⟩ ?_ ?_
 ·refine Ji.mk [] rfl rfl (Nat.zero_le _) rfl ?_ ?_<;>push_cast -dsimp [zb,za,CLe,zd]<;>omega
 ·rintro ⟨r,k⟩ hx
  simp only at hx ⊢
  have hr:=hx.1
  have hsf:=hx.2.2
  obtain ⟨done,hd,hdl⟩:=hx.2.1
  clear hx
  push_cast -dsimp
  refine call (zfp r) ?_
  push_cast -dsimp
  by_cases hi:Lib.indexByte r 47<0
  ·push_cast -dsimp [hi]
   have hk:(zQ (jG s))[k]?=some [.str r]:=by
    rw[hd,Gl r hi];simp[←hdl]
   rw[hk]
   push_cast -dsimp
   refine ⟨by push_cast -dsimp [zb,za,CLe,zd],hsf,?_⟩
   cases hk2:sf k with
   | true=>exact .inr ⟨Nat.succ_pos k,hk2⟩
   | false =>
    refine .inl ⟨?_,fun j (hj:j<k+1)=>?_⟩
    ·rw[hd,Gl r hi];simp[hdl]
    ·rcases Nat.lt_or_ge j k with g | g
     ·exact hsf j g
     ·rw[show j=k by omega];exact hk2
  ·have hg:=GP r
   obtain ⟨i,hii⟩:∃ i:Nat,Lib.indexByte r 47=(i:Int):=⟨(Lib.indexByte r 47).toNat,by omega⟩
   obtain ⟨hir,hsp⟩:=zag r i hii
   have hk:(zQ (jG s))[k]?=some [.str (r.take i)]:=by
    rw[hd,hsp];simp[←hdl]
   rw[hii]at hi ⊢
   push_cast -dsimp [hi]
   rw[hk]
   push_cast -dsimp
   refine ⟨by omega,by omega,by push_cast -dsimp [zb,za,CLe,zd],hsf,br (fun hk2=>?_) (fun hk2=>?_)⟩
   ·push_cast -dsimp
    exact .inr ⟨Nat.succ_pos k,hk2⟩
   ·push_cast -dsimp
    refine ⟨by omega,by omega,(r.drop (i+1),k+1),⟨by simp;omega,⟨done++[r.take i],by rw[hd,hsp];simp,by simp[hdl]⟩,fun j (hj:j<k+1)=>?_⟩,by simp;omega,Ji.mk [] rfl rfl (Nat.zero_le _) rfl ?_ ?_⟩
    ·rcases Nat.lt_or_ge j k with g | g
     ·exact hsf j g
     ·rw[show j=k by omega];exact hk2
    ·push_cast -dsimp [zb,za,CLe,zd]
    ·push_cast -dsimp [zb,za,CLe,zd]
theorem Mp (s:List UInt8):MV Tryz.prog G0 146 [.str s,.str [47],.sc (.int .i64 0)] [] 0 (.clo (.func 168) [] [.ptr 1 0,.ptr 0 0,.ptr 2 0]) [[.str s],[.str [47]],[.sc (.int .i64 0)]] 0:=by
 refine foB (fun _=>[]) Tryz.func146 ?_;dsimp only[Tryz.f146]
 push_cast -dsimp
 exact ⟨[],rfl,rfl,by push_cast -dsimp [zb,za,CLe,zd],by push_cast -dsimp [zb,za,CLe,zd]⟩
theorem xf (s:List UInt8):MV Tryz.prog G0 102 [.str s,.str [47]] [] 0 (.clo (.func 168) [] [.ptr 1 0,.ptr 0 0,.ptr 2 0]) [[.str s],[.str [47]],[.sc (.int .i64 0)]] 0:=by
 refine foB (fun _=>[]) Tryz.func102 ?_;dsimp only[Tryz.f102]
 push_cast -dsimp
 refine Qz [] [] (Mp s) rfl (by simp) (by simp) (fun i hi=>by cases hi) (by push_cast -dsimp) rfl ?_
 push_cast -dsimp
 exact ⟨[],rfl,rfl,by push_cast -dsimp [zb,za,CLe,zd],by push_cast -dsimp [zb,za,CLe,zd]⟩
end
section
open Go.RowKit
abbrev HD (x:List UInt8):Bool:=!decide (x = [])
def cnt (xs:List (List UInt8)) (k:Nat):Nat:=((xs.take k).filter HD).length
theorem uY (xs:List (List UInt8)) (k:Nat) (x:List UInt8) (h:xs[k]?=some x):cnt xs (k+1)=if x = [] then cnt xs k else cnt xs k+1:=by
 unfold cnt
 rw[List.take_add_one,h]
 by_cases hx:x = []<;>simp[hx]
theorem zmW (xs:List (List UInt8)) (k:Nat) (x:List UInt8) (h:xs[k]?=some x) (hx:x≠[]):(xs.filter HD)[cnt xs k]?=some x:=by
 have hk:k<xs.length:=(List.getElem?_eq_some_iff.1 h).1
 have e:xs=xs.take k++x :: xs.drop (k+1):=by
  have:=List.take_append_drop k xs
  rw[List.drop_eq_getElem_cons hk]at this
  rw[List.getElem?_eq_getElem hk]at h
  cases h;exact this.symm
 have e2:xs.filter HD=(xs.take k).filter HD++x :: (xs.drop (k+1)).filter HD:=by
  conv=>lhs;rw[e]
  rw[List.filter_append,List.filter_cons]
  simp[hx]
 rw[e2]
 unfold cnt
 simp
theorem zkX (xs:List (List UInt8)):cnt xs xs.length=(xs.filter HD).length:=by unfold cnt;rw[List.take_length]
theorem ZE {xs:List (List UInt8)} {sf:Nat->Bool}:∀ k,k<=xs.length->(∀ j,j<k->(HD (xs.getD j [])&&sf (cnt xs j))=false)->∀ j,j<cnt xs k->sf j=false
 | 0,_,_,j,hj=>by simp[cnt]at hj
 | k+1,hk,h,j,hj=>by
  have ih:=ZE k (by omega) fun i hi=>h i (by omega)
  have hx:xs[k]?=some (xs.getD k []):=by rw[List.getD_eq_getElem?_getD,List.getElem?_eq_getElem (by omega)];rfl
  rw[uY xs k _ hx]at hj
  by_cases he:xs.getD k [] = []
  ·rw[if_pos he]at hj;exact ih j hj
  ·rw[if_neg he]at hj
   rcases Nat.lt_or_ge j (cnt xs k) with g | g
   ·exact ih j g
   ·have h2:=h k (by omega)
    have h3:HD (xs.getD k [])=true:=by simp only[HD,Bool.not_eq_true',decide_eq_false_iff_not];exact he
    rw[h3,Bool.true_and]at h2
    rw[show j=cnt xs k by omega];exact h2
theorem Qb {xs:List (List UInt8)} {k:Nat} {it:List C} (h:(zQ xs)[k]?=some it):∃ x,xs[k]?=some x/\it = [.str x]:=by
 rw[List.getElem?_map]at h
 cases hq:xs[k]? with
 | none=>rw[hq]at h;cases h
 | some x=>rw[hq]at h;cases h;exact ⟨x,rfl,rfl⟩
theorem Y0 (p:List UInt8) (hs:p.length<=1000000):xr Tryz.prog G0 101 [] [.row [.str p]] [] (zQ (zk p)):=by
 rw[jR]
 refine foI (fun _=>[]) Tryz.func101 ?_;dsimp only[Tryz.f101]
 intro l sf
 push_cast -dsimp
 refine Qz [] [] (xf p) rfl (by simp) (by simp) (fun i hi=>by cases hi) (by push_cast -dsimp) rfl ?_
 push_cast -dsimp
 refine range (zQ (jG p)) (fun k=>HD ((jG p).getD k [])&&sf (cnt (jG p) k)) 1 (fun k=>⟨[],[[.sc (.func (.yield l) #[] #[])]],0,cnt (jG p) k⟩) (kF p hs) (by push_cast -dsimp) (by push_cast -dsimp) (by push_cast -dsimp) (Nat.zero_le _) (by push_cast -dsimp) (fun it hit=>?_) (fun k _=>rfl) ?_ (fun k it hk hsf=>?_) (fun hsf=>?_)
 ·obtain ⟨x,_,rfl⟩:=List.mem_map.1 hit;rfl
 ·exact wk
 ·obtain ⟨x,hx,rfl⟩:=Qb hk
  have hxd:(jG p).getD k []=x:=by rw[List.getD_eq_getElem?_getD,hx];rfl
  have hkl:k<(jG p).length:=(List.getElem?_eq_some_iff.1 hx).1
  have hcs:=uY (jG p) k x hx
  have hbef:=ZE (xs:=jG p) (sf:=sf) k (by omega) hsf
  by_cases he:x = []
  ·push_cast -dsimp [he]
   refine ⟨?_,Ji.mk [] rfl rfl (Nat.le_refl _) ?_ (by push_cast -dsimp [zb,za,CLe,zd]) (by push_cast -dsimp [zb,za,CLe,zd])⟩
   ·rw[hxd,he];rfl
   ·simp[hcs,he,St.wt]
  ·have hget:=zmW (jG p) k x hx he
   have hg2:(zQ ((jG p).filter HD))[cnt (jG p) k]?=some [.str x]:=by rw[List.getElem?_map,hget];rfl
   push_cast -dsimp [he]
   rw[hg2]
   push_cast -dsimp
   refine ⟨by push_cast -dsimp [zb,za,CLe,zd],hbef,br (fun h2=>?_) (fun h2=>?_)⟩
   ·push_cast -dsimp
    refine ⟨by rw[hxd,h2];simp[HD,he],⟨[],[[.sc (.func (.yield l) #[] #[])]],0,cnt (jG p) k+1⟩,rfl,wk,?_⟩
    push_cast -dsimp
    exact .inr ⟨Nat.succ_pos _,h2⟩
   ·push_cast -dsimp
    refine ⟨by rw[h2,Bool.and_false],Ji.mk [] rfl rfl (Nat.le_refl _) ?_ (by push_cast -dsimp [zb,za,CLe,zd]) (by push_cast -dsimp [zb,za,CLe,zd])⟩
    simp[hcs,he,St.wt]
 ·have hall:=zkX (jG p)
  have hbef:=ZE (xs:=jG p) (sf:=sf) (jG p).length (Nat.le_refl _) fun j hj=>hsf j (by simpa using hj)
  push_cast -dsimp
  refine .inl ⟨?_,?_⟩
  ·simp[hall]
  ·simpa using hbef
end
section
open Go.RowKit
theorem JF (p:List UInt8):Fun Tryz.prog G0 57 [.str p] (.clo (.func 101) [] [.row [.str p]]) 0:=by
 refine fon Tryz.func57 ?_;dsimp only[Tryz.f57]
 push_cast -dsimp
 exact dn
theorem Ga (xs:List (List UInt8)) (f:FuncId) (cap:List C) (hsel:C.selL (Yv 1) cap=cap) (hit:xr Tryz.prog G0 f [] cap [] (zQ xs)) (hx:xs.length<=1000001):Fun Tryz.prog G0 155 [.sc (.slice none 0 0),.clo (.func f) [] cap] (.own 0 9 1 (zQ xs)) 1:=by
 refine fon Tryz.func155 ?_;dsimp only[Tryz.f155]
 push_cast -dsimp
 refine range (zQ xs) (fun _=>false) 1 (fun k=>⟨[],[[.own 0 9 1 (zQ (xs.take k))]],1,0⟩) hit (by push_cast -dsimp) hsel (by push_cast -dsimp) (Nat.zero_le _) (by push_cast -dsimp) (fun it h=>?_) (fun k _=>rfl) ?_ (fun k it hk hsf=>?_) (fun hsf=>?_)
 ·obtain ⟨x,_,rfl⟩:=List.mem_map.1 h;rfl
 ·exact wks [.inr (9,1)]
 ·obtain ⟨x,hx2,rfl⟩:=Qb hk
  have hkl:k<xs.length:=(List.getElem?_eq_some_iff.1 hx2).1
  push_cast -dsimp
  simp only[List.length_take]
  refine ⟨by omega,by omega,Ji.mk [.inl 0] rfl rfl (Nat.le_refl _) rfl (by push_cast -dsimp [zb,za,CLe,zd]) ?_⟩
  push_cast -dsimp [zb,za,CLe,zd]
  rw[List.take_add_one,hx2]
  rfl
 ·push_cast -dsimp
  refine ⟨[.inl 0],rfl,rfl,?_⟩
  push_cast -dsimp [zb,za,CLe,zd]
  simp
theorem xB (xs:List (List UInt8)) (f:FuncId) (cap:List C) (hsel:C.selL (Yv 1) cap=cap) (hfrz:C.frzL cap=cap) (hit:xr Tryz.prog G0 f [] cap [] (zQ xs)) (hx:xs.length<=1000001):Fun Tryz.prog G0 115 [.clo (.func f) [] cap] (.own 0 9 1 (zQ xs)) 1:=by
 refine fon Tryz.func115 ?_;dsimp only[Tryz.f115]
 push_cast -dsimp [hfrz]
 refine call (Ga xs f cap hsel hit hx) ?_
 push_cast -dsimp
 exact ⟨[.inl 0],rfl,rfl,by push_cast -dsimp [zb,za,CLe,zd]⟩
theorem Xu (p:List UInt8) (hp:p.length<=1000000):Fun Tryz.prog G0 115 [.clo (.func 101) [] [.row [.str p]]] (.own 0 9 1 (zQ (zk p))) 1:=
 xB (zk p) _ _ (by push_cast -dsimp) (by push_cast -dsimp) (Y0 p hp) (by have:=qo p;omega)
theorem Y4 (s p:List UInt8):Fun Tryz.prog G0 56 [.str s,.str p] (.sc (.bool (Lib.hasPrefix s p))) 0:=by
 refine Fun.wrap (by kernel_rfl) fun R vs h=>?_
 obtain ⟨v1,us1,rfl,h1,h⟩:=ze.1 h
 obtain ⟨v2,us2,rfl,h2,h⟩:=ze.1 h
 rw[zj]at h
 subst h
 rw[zN]at h1 h2
 subst h1 h2
 refine (Tryz.strings_HasPrefix ⟨s.toArray⟩ ⟨p.toArray⟩ R.w).mono ?_
 rintro e w' ⟨rfl,rfl⟩
 exact ⟨_,rfl,Below.refl _ _,fun R' _=>zm.2 (by simp)⟩
theorem QZ (s p:List UInt8) (hs:s.length<=1000000):Fun Tryz.prog G0 116 [.str s,.str p] (.sc (.bool (Lib.hasSuffix s p))) 0:=by
 refine Fun.wrap (by kernel_rfl) fun R vs h=>?_
 obtain ⟨v1,us1,rfl,h1,h⟩:=ze.1 h
 obtain ⟨v2,us2,rfl,h2,h⟩:=ze.1 h
 rw[zj]at h
 subst h
 rw[zN]at h1 h2
 subst h1 h2
 refine (Tryz.strings_HasSuffix ⟨s.toArray⟩ ⟨p.toArray⟩ R.w (by simp[ByteArray.size];omega)).mono ?_
 rintro e w' ⟨rfl,rfl⟩
 exact ⟨_,rfl,Below.refl _ _,fun R' _=>zm.2 (by simp)⟩
theorem V3 (xs:List (List UInt8)) (sep:List UInt8) (hx:xs.length<=1000001) (hl:(Lib.join xs sep).length<=100000000):Fun Tryz.prog G0 108 [.sl 1 (zQ xs),.str sep] (.str (Lib.join xs sep)) 0:=by
 refine Fun.wrap (by kernel_rfl) fun R vs h=>?_
 obtain ⟨v1,us1,rfl,h1,h⟩:=ze.1 h
 obtain ⟨v2,us2,rfl,h2,h⟩:=ze.1 h
 rw[zj]at h
 subst h
 rw[zN]at h2
 subst h2
 obtain ⟨a,cap,rfl,hc1,hc2,hr⟩:=Hy.1 h1
 have hlen:(zQ xs).length=xs.length:=by simp
 have hmap:(xs.map fun x=>ByteArray.mk x.toArray).map (·.data.toList)=xs:=by
  rw[List.map_map]
  conv=>rhs;rw[←List.map_id xs]
  exact List.map_congr_left fun x _=>by simp
 rcases hr with hr | ⟨b,o,rfl,hr⟩
 ·have:xs = []:=by simpa using hr
  subst this
  refine (Tryz.strings_Join_none a cap ⟨sep.toArray⟩ R.w).mono ?_
  rintro e w' ⟨rfl,rfl⟩
  exact ⟨_,rfl,Below.refl _ _,fun R' _=>zN.2 (by simp[Lib.join])⟩
 ·by_cases hx0:xs = []
  ·subst hx0
   refine (Tryz.strings_Join_none _ cap ⟨sep.toArray⟩ R.w).mono ?_
   rintro e w' ⟨rfl,rfl⟩
   exact ⟨_,rfl,Below.refl _ _,fun R' _=>zN.2 (by simp[Lib.join])⟩
  ·have hcells:∀ (j:Nat) x,(xs.map fun x=>ByteArray.mk x.toArray)[j]?=some x->R.w.cell? ⟨b,o+j,none⟩=some (.string x):=fun j x hj=>by
    rw[List.getElem?_map]at hj
    cases hq:xs[j]? with
    | none=>rw[hq]at hj;cases hj
    | some y =>
     rw[hq]at hj;cases hj
     obtain ⟨_,g⟩:=qU hr j [.str y] (by rw[List.getElem?_map,hq];rfl)
     obtain ⟨⟨v,g1,_,g2,_⟩,_⟩:=qd.1 g
     rw[zN]at g2
     subst g2
     simpa using g1
   have hb:b<R.w.heap.size:=by
    cases xs with
    | nil=>exact absurd rfl hx0
    | cons x r =>
     exact vr (hcells 0 ⟨x.toArray⟩ rfl)
   have hj:=Tryz.strings_Join b o cap (xs.map fun x=>ByteArray.mk x.toArray) ⟨sep.toArray⟩ R.w hcells hb (by simp;omega) (by simpa using hc1) (by rw[hmap];simp;omega)
   rw[hmap]at hj
   simp only[List.length_map]at hj
   rw[hlen]
   refine hj.mono ?_
   rintro e w' ⟨rfl,hbl⟩
   exact ⟨_,rfl,hbl,fun R' _=>zN.2 (by simp)⟩
end
section
open Go.RowKit
def zhd (p:List UInt8):C:=.agg [qt (Lib.hasPrefix p [47]),.own 0 9 1 (zQ (zk p)),qt (!decide (zk p = [])&&Lib.hasSuffix p [47])]
theorem Zk (p:List UInt8) (hp:p.length<=1000000):Fun Tryz.prog G0 63 [.str p] (zhd p) 1:=by
 refine fon Tryz.func63 ?_;dsimp only[Tryz.f63]
 push_cast -dsimp
 refine call (JF p) ?_
 push_cast -dsimp
 refine call (Xu p hp) ?_
 push_cast -dsimp
 refine call (Y4 p [47]) ?_
 push_cast -dsimp
 by_cases h:zk p = []
 ·push_cast -dsimp [h]
  exact ⟨[.inl 0],rfl,rfl,by simp only[zhd];push_cast -dsimp [zb,za,CLe,zd,h];simp⟩
 ·have h':0<(zk p).length:=List.length_pos_iff.2 h
  push_cast -dsimp [h']
  refine call (QZ p [47] hp) ?_
  push_cast -dsimp
  exact ⟨[.inl 0],rfl,rfl,by simp only[zhd];push_cast -dsimp [zb,za,CLe,zd,h]⟩
def zp8 (a:Bool) (xs:List (List UInt8)) (s:Bool):C:=.agg [qt a,.sl 1 (zQ xs),qt s]
def put (a:Bool) (xs:List (List UInt8)) (s:Bool):List UInt8:=(if a then [47] else [])++Lib.join xs [47]++(if s&&!decide (xs = []) then [47] else [])
theorem zla (a:Bool) (xs:List (List UInt8)) (s:Bool) (hx:xs.length<=1000001) (hl:(Lib.join xs [47]).length<=100000000):Fun Tryz.prog G0 114 [zp8 a xs s] (.str (put a xs s)) 0:=by
 unfold zp8
 refine fon Tryz.func114 ?_;dsimp only[Tryz.f114]
 push_cast -dsimp
 refine call (V3 xs [47] hx hl) ?_
 push_cast -dsimp
 by_cases h:xs = []
 ·subst h
  cases a<;>cases s<;>push_cast -dsimp
  ·exact ⟨[],rfl,rfl,by push_cast -dsimp [zb,za,CLe,zd];simp[put]⟩
  ·exact ⟨[],rfl,rfl,by push_cast -dsimp [zb,za,CLe,zd];simp[put]⟩
  ·exact ⟨by omega,[],rfl,rfl,by push_cast -dsimp [zb,za,CLe,zd];simp[put]⟩
  ·exact ⟨by omega,[],rfl,rfl,by push_cast -dsimp [zb,za,CLe,zd];simp[put]⟩
 ·have h':0<xs.length:=List.length_pos_iff.2 h
  cases a<;>cases s<;>push_cast -dsimp [h']
  ·exact ⟨[],rfl,rfl,by push_cast -dsimp [zb,za,CLe,zd];simp[put]⟩
  ·exact ⟨by omega,[],rfl,rfl,by push_cast -dsimp [zb,za,CLe,zd];simp[put,h]⟩
  ·exact ⟨by omega,[],rfl,rfl,by push_cast -dsimp [zb,za,CLe,zd];simp[put]⟩
  ·exact ⟨by omega,by omega,[],rfl,rfl,by push_cast -dsimp [zb,za,CLe,zd];simp[put,h]⟩
def zS (xs:List (List UInt8)):List UInt8:=if xs = [] then [47] else 47 :: Lib.join xs [47]
theorem XC (xs:List (List UInt8)) (hx:xs.length<=1000001) (hl:(Lib.join xs [47]).length<=100000000):Fun Tryz.prog G0 69 [.sl 1 (zQ xs)] (.str (zS xs)) 0:=by
 refine fon Tryz.func69 ?_;dsimp only[Tryz.f69]
 push_cast -dsimp
 by_cases h:xs = []
 ·push_cast -dsimp [h]
  exact ⟨[],rfl,rfl,by simp only[zS,h];push_cast -dsimp [zb,za,CLe,zd]⟩
 ·have h':¬((xs.length:Int)=0):=by have:=List.length_pos_iff.2 h;omega
  push_cast -dsimp [h']
  refine call ((V3 xs [47] hx hl)) ?_
  push_cast -dsimp
  exact ⟨by omega,[],rfl,rfl,by simp only[zS,if_neg h];push_cast -dsimp [zb,za,CLe,zd]⟩
def Qi (p:List UInt8):Bool:=(zk p).any (fun x=>decide (255<x.length))||decide (4095<p.length)
theorem v8 (p:List UInt8) (hp:p.length<=1000000):Fun Tryz.prog G0 109 [.str p] (qt (Qi p)) 0:=by
 refine fon Tryz.func109 ?_;dsimp only[Tryz.f109]
 push_cast -dsimp
 refine call (JF p) ?_
 push_cast -dsimp
 refine range (zQ (zk p)) (fun k=>decide (255<((zk p).getD k []).length)) 1 (fun k=>⟨[],[[.sc (.bool false)]],0,0⟩) (Y0 p hp) (by push_cast -dsimp) (by push_cast -dsimp) (by push_cast -dsimp) (Nat.zero_le _) (by push_cast -dsimp) (fun it h=>?_) (fun k _=>rfl) ?_ (fun k it hk hsf=>?_) (fun hsf=>?_)
 ·obtain ⟨x,_,rfl⟩:=List.mem_map.1 h;rfl
 ·exact wk
 ·obtain ⟨x,hx,rfl⟩:=Qb hk
  have hxd:(zk p).getD k []=x:=by rw[List.getD_eq_getElem?_getD,hx];rfl
  push_cast -dsimp
  rw[hxd]
  refine br (fun h=>?_) (fun h=>?_)
  ·have h':255<x.length:=by have:=of_decide_eq_true h;omega
   push_cast -dsimp
   refine ⟨by simpa using h',⟨[],[[.sc (.bool true)]],0,0⟩,rfl,wk,?_⟩
   push_cast -dsimp
   refine ⟨[],rfl,rfl,?_⟩
   push_cast -dsimp [zb,za,CLe,zd]
   have:(zk p).any (fun x=>decide (255<x.length))=true:=List.any_eq_true.2 ⟨x,List.mem_of_getElem? hx,by simpa using h'⟩
   simp[Qi,this]
  ·have h':¬255<x.length:=by have:=of_decide_eq_false h;omega
   push_cast -dsimp
   exact ⟨by simpa using h',wk⟩
 ·push_cast -dsimp
  refine ⟨[],rfl,rfl,?_⟩
  push_cast -dsimp [zb,za,CLe,zd]
  have:(zk p).any (fun x=>decide (255<x.length))=false:=List.any_eq_false.2 fun x hx=>by
   obtain ⟨k,hk,rfl⟩:=List.getElem_of_mem hx
   have:=hsf k (by simpa using hk)
   rw[List.getD_eq_getElem?_getD,List.getElem?_eq_getElem hk]at this
   simpa using this
  simp[Qi,this]
  omega
def Yu (p:List UInt8):List UInt8:=(zk p).getLastD (if Lib.hasPrefix p [47] then [47] else [])
theorem zir (p:List UInt8) (hp:p.length<=1000000):Fun Tryz.prog G0 27 [.str p] (.str (Yu p)) 0:=by
 refine fon Tryz.func27 ?_;dsimp only[Tryz.f27]
 push_cast -dsimp
 refine call (Y4 p [47]) ?_
 push_cast -dsimp
 have go:∀ b0:List UInt8,b0=(if Lib.hasPrefix p [47] then [47] else [])->Yu p=((zk p).take (zk p).length).getLastD b0:=fun b0 hb=>by rw[List.take_length,hb];rfl
 have main:∀ b0:List UInt8,b0=(if Lib.hasPrefix p [47] then [47] else [])->∀ k x,(zk p)[k]?=some x->((zk p).take (k+1)).getLastD b0=x:=fun b0 _ k x hx=>by
  rw[List.take_add_one,hx];simp
 cases hpf:Lib.hasPrefix p [47] with
 | true =>
  rw[hpf]at go main
  push_cast -dsimp
  refine call (JF p) ?_
  push_cast -dsimp
  refine range (zQ (zk p)) (fun k=>false) 1 (fun k=>⟨[],[[.str (((zk p).take k).getLastD [47])]],0,0⟩) (Y0 p hp) (by push_cast -dsimp) (by push_cast -dsimp) (by push_cast -dsimp) (Nat.zero_le _) (by push_cast -dsimp) (fun it h=>?_) (fun k _=>rfl) ?_ (fun k it hk hsf=>?_) (fun hsf=>?_)
  ·obtain ⟨x,_,rfl⟩:=List.mem_map.1 h;rfl
  ·exact Ji.mk [] rfl rfl (Nat.le_refl _) rfl (by push_cast -dsimp [zb,za,CLe,zd]) (by push_cast -dsimp [zb,za,CLe,zd];rfl)
  ·obtain ⟨x,hx,rfl⟩:=Qb hk
   have:=main [47] rfl k x hx
   push_cast -dsimp
   exact wk (h5:=by push_cast -dsimp [zb,za,CLe,zd,this])
  ·have:=go [47] rfl
   push_cast -dsimp
   exact ⟨[],rfl,rfl,by push_cast -dsimp [zb,za,CLe,zd];exact this.symm⟩
 | false =>
  rw[hpf]at go main
  push_cast -dsimp
  refine call (JF p) ?_
  push_cast -dsimp
  refine range (zQ (zk p)) (fun k=>false) 1 (fun k=>⟨[],[[.str (((zk p).take k).getLastD [])]],0,0⟩) (Y0 p hp) (by push_cast -dsimp) (by push_cast -dsimp) (by push_cast -dsimp) (Nat.zero_le _) (by push_cast -dsimp) (fun it h=>?_) (fun k _=>rfl) ?_ (fun k it hk hsf=>?_) (fun hsf=>?_)
  ·obtain ⟨x,_,rfl⟩:=List.mem_map.1 h;rfl
  ·exact Ji.mk [] rfl rfl (Nat.le_refl _) rfl (by push_cast -dsimp [zb,za,CLe,zd]) (by push_cast -dsimp [zb,za,CLe,zd];rfl)
  ·obtain ⟨x,hx,rfl⟩:=Qb hk
   have:=main [] rfl k x hx
   push_cast -dsimp
   exact wk (h5:=by push_cast -dsimp [zb,za,CLe,zd,this])
  ·have:=go [] rfl
   push_cast -dsimp
   exact ⟨[],rfl,rfl,by push_cast -dsimp [zb,za,CLe,zd];exact this.symm⟩
def Xb (p q:List UInt8):Bool:=decide (p=q)||decide (q = [47])||Lib.hasPrefix p (q++[47])
theorem Hh (p q:List UInt8) (hq:q.length<=1000000):Fun Tryz.prog G0 185 [.str p,.str q] (qt (Xb p q)) 0:=by
 refine fon Tryz.func185 ?_;dsimp only[Tryz.f185]
 push_cast -dsimp
 by_cases h1:p=q
 ·push_cast -dsimp [h1]
  exact ⟨[],rfl,rfl,by push_cast -dsimp [zb,za,CLe,zd];simp[Xb]⟩
 ·by_cases h2:q = [47]
  ·subst h2
   push_cast -dsimp [h1]
   exact ⟨[],rfl,rfl,by push_cast -dsimp [zb,za,CLe,zd];simp[Xb]⟩
  ·push_cast -dsimp [h1,h2]
   refine ⟨by omega,?_⟩
   refine call (Y4 p (q++[47])) ?_
   push_cast -dsimp
   exact ⟨[],rfl,rfl,by push_cast -dsimp [zb,za,CLe,zd];simp[Xb,h1,h2]⟩
end
section
open Go.RowKit
theorem QR (l:List UInt8) (c:UInt8):Fun Tryz.prog G0 64 [.str l,.sc (.int .u8 (c.toNat:Int))] (.sc (.int .i64 (Lib.indexByte l c))) 0:=by
 refine Fun.wrap (by kernel_rfl) fun R vs h=>?_
 obtain ⟨v1,us1,rfl,h1,h⟩:=ze.1 h
 obtain ⟨v2,us2,rfl,h2,h⟩:=ze.1 h
 rw[zj]at h
 subst h
 rw[zN]at h1
 rw[zm]at h2
 subst h1 h2
 refine (Tryz.strings_IndexByte ⟨l.toArray⟩ (c.toNat:Int) R.w).mono ?_
 rintro e w' ⟨rfl,rfl⟩
 exact ⟨_,rfl,Below.refl _ _,fun R' _=>zm.2 (by simp)⟩
theorem YW (r:Int):Fun Tryz.prog G0 260 [.sc (.int .i32 r)] (.sc (.bool (Lib.validRune r))) 0:=by
 refine Fun.wrap (by kernel_rfl) fun R vs h=>?_
 obtain ⟨v1,us1,rfl,h1,h⟩:=ze.1 h
 rw[zj]at h
 subst h
 rw[zm]at h1
 subst h1
 refine (Tryz.utf8_ValidRune r R.w).mono ?_
 rintro e w' ⟨rfl,rfl⟩
 exact ⟨_,rfl,Below.refl _ _,fun R' _=>zm.2 rfl⟩
theorem zhm (r:Int) (hv:Utf8.valid r=true) (h128:128<=r):∃ l c,(Utf8.encode r).data.toList=l++[c]/\1<=l.length/\l.length<=3/\128<=c.toNat:=by
 obtain ⟨h1,h2,h3⟩:=encode_facts r hv h128
 generalize Utf8.encode r=bs at h1 h2 h3 ⊢
 have hs:bs.data.toList.length=bs.size:=Array.length_toList
 have h4:=h3 (by omega)
 have h5:bs.data.toList[bs.size-1]?=some (bs[bs.size-1]'(by omega)):=Lib.data_getElem? bs _ (by omega)
 generalize bs[bs.size-1]'(by omega)=c at h4 h5
 generalize bs.data.toList=l at hs h5
 refine ⟨l.take (bs.size-1),c,?_,by simp;omega,by simp;omega,h4⟩
 have:=List.take_append_drop (bs.size-1) l
 have hd:l.drop (bs.size-1) = [c]:=by
  have hlt:bs.size-1<l.length:=by omega
  rw[List.drop_eq_getElem_cons hlt]
  rw[List.getElem?_eq_getElem hlt]at h5
  cases h5
  rw[List.drop_eq_nil_of_le (by omega)]
 rw[hd]at this
 exact this.symm
theorem xo (r:Int) (h1:128<=r) (hv:Utf8.valid r=true) (h2:r≠65533):Fun Tryz.prog G0 236 [.str [47,0],.sc (.int .i32 r)] (.sc (.int .i64 (-1))) 0:=by
 have hlv:Lib.validRune r=true:=by
  have:=validRune_eq r
  rw[hv]at this
  exact this.symm
 obtain ⟨l,c,he,hl1,hl3,hc⟩:=zhm r hv h1
 have ha:0<=r:=by omega
 have hb:¬r<128:=by omega
 have hc0:¬((0:Int)=(c.toNat:Int)):=by omega
 have hix:=QR [] c
 match l,hl1,hl3 with
 | [x],_,_ =>
  refine fon Tryz.func236 ?_;dsimp only[Tryz.f236]
  push_cast -dsimp [ha,hb,h2]
  refine call (YW r) ?_
  push_cast -dsimp [hlv,he]
  refine loop (fun k:Nat=>⟨[(0,.str [47,0]),(1,.sc (.int .i32 r)),(7,.str [x,c]),(8,.sc (.int .i64 1)),(9,.sc (.int .i64 1)),(10,.sc (.int .i64 0))],[],0,0⟩) (fun k=>True) (fun k=>0) 0 trivial ?_ ?_
  ·exact wk
  ·intro k _
   push_cast -dsimp [hc0]
   refine kM hix ?_
   have hi0:Lib.indexByte [] c = -1:=rfl
   push_cast -dsimp [hi0]
   exact dn
 | [x,y],_,_ =>
  refine fon Tryz.func236 ?_;dsimp only[Tryz.f236]
  push_cast -dsimp [ha,hb,h2]
  refine call (YW r) ?_
  push_cast -dsimp [hlv,he]
  refine loop (fun k:Nat=>⟨[(0,.str [47,0]),(9,.sc (.int .i64 2))],[],0,0⟩) (fun k=>True) (fun k=>0) 0 trivial ?_ ?_
  ·exact wk
  ·intro k _
   push_cast -dsimp
   exact dn
 | [x,y,z],_,_ =>
  refine fon Tryz.func236 ?_;dsimp only[Tryz.f236]
  push_cast -dsimp [ha,hb,h2]
  refine call (YW r) ?_
  push_cast -dsimp [hlv,he]
  refine loop (fun k:Nat=>⟨[(0,.str [47,0]),(9,.sc (.int .i64 3))],[],0,0⟩) (fun k=>True) (fun k=>0) 0 trivial ?_ ?_
  ·exact wk
  ·intro k _
   push_cast -dsimp
   exact dn
theorem GL (w:World):Calls Tryz.prog 236 #[.string ⟨#[47,0]⟩,.int .i32 65533] w fun e w'=>e = .returned (.int .i64 (-1))/\Below w.heap.size w w':=by
 go_enter Tryz.func236,Tryz.ntmps236
 go_wp2
 go_loopg [5,6] 2 (fun g _ _ wx=>∃ i:Nat,i+g=2/\wx=w.iter ⟨#[47,0]⟩ i)
 case atStart=>exact ⟨0,by omega,rfl⟩
 case round =>
  obtain ⟨i,hig,rfl⟩:=hrel
  cases gk with
  | zero =>
   obtain rfl:i=2:=by omega
   have hnx:=fun ty=>run_next_end (P:=Tryz.prog) w ⟨#[47,0]⟩ 2 ty (by decide)
   go_wp2
   go_ret
   exact ⟨rfl,(Below.refl _ _).alloc (Nat.le_refl _) _⟩
  | succ g =>
   have hi:i<(ByteArray.mk #[47,0]).size:=by show i<2;omega
   have hx128:((ByteArray.mk #[47,0])[i]'hi).toNat<128:=by
    have:i=0∨i=1:=by omega
    rcases this with rfl | rfl
    ·exact (by decide:(47:UInt8).toNat<128)
    ·exact (by decide:(0:UInt8).toNat<128)
   have hnx:=fun ty=>run_next_ascii (P:=Tryz.prog) w ⟨#[47,0]⟩ i ty hi hx128
   have hne:((((ByteArray.mk #[47,0])[i]'hi).toNat:Int)==65533)=false:=by
    rw[beq_eq_false_iff_ne];omega
   go_wp2
   go_roundg g
   case measure=>omega
   case rel=>exact ⟨i+1,by omega,rfl⟩
end
section
open Go.RowKit Go.Shelf
def bad (b:UInt8):Bool:=decide (b=47)||decide (b=0)
theorem Vv (b:UInt8):[47,0].contains b=bad b:=by simp[bad,List.contains_iff_mem,Bool.eq_iff_iff]
theorem yh {P:Program} {W:World} {b:Nat} {s:ByteArray} {pos:Nat} (hb:W.heap[b]?=some (.stringIter s pos)) (h:pos<s.size) (ty:TypeId) :
  (Instr.next (.pointer (some ⟨b,0,none⟩)) true ty).run P W = .ok (.tuple #[.bool true,.int .i64 pos,.int .i32 (Utf8.decode s pos).1]) (W.putObj b (.stringIter s (pos+(Utf8.decode s pos).2))):=by
 simp only[Instr.next,getObj,setObj,Sem.run_bind,Sem.run,hb,Result.andThen,h,if_true]
 simp[goInt,Sem.run,hb,World.putObj]
theorem U8 {P:Program} {W:World} {b:Nat} {s:ByteArray} {pos:Nat} (hb:W.heap[b]?=some (.stringIter s pos)) (h:¬pos<s.size) (ty:TypeId) :
  (Instr.next (.pointer (some ⟨b,0,none⟩)) true ty).run P W = .ok (.tuple #[.bool false]) W:=by
 simp[Instr.next,getObj,Sem.run,hb,h]
theorem get!_eq (s:ByteArray) (k:Nat) (hk:k<s.size):s.get! k=s[k]'hk:=by
 simp[ByteArray.get!,getElem!_pos,hk];rfl
theorem zi5 {c:Nat} (h:c<55296∨(57344<=c/\c<=1114111)):Utf8.valid (c:Int)=true:=by
 unfold Utf8.valid
 rcases h with h | h
 ·have h1:((c:Int)<55296):=by omega
  simp;omega
 ·simp;omega
theorem vb (s:ByteArray) (i:Nat) (h:i<s.size):(((s[i]'h).toNat<128/\Utf8.decode s i=((s[i]'h).toNat,1))∨(128<=(Utf8.decode s i).1/\Utf8.valid ((Utf8.decode s i).1:Int)=true/\1<=(Utf8.decode s i).2/\i+(Utf8.decode s i).2<=s.size/\∀ j (hj:j<s.size),i<=j->j<i+(Utf8.decode s i).2->128<=(s[j]'hj).toNat)):=by
 by_cases ha:(s[i]'h).toNat<128
 ·exact .inl ⟨ha,decode_ascii s i h ha⟩
 ·refine .inr ?_
  have hb0:¬(s.get! (i+0)).toNat<128:=by rw[Nat.add_zero,get!_eq s i h];exact ha
  have hby:∀ n,(∀ k,k<n->128<=(s.get! (i+k)).toNat)->∀ j (hj:j<s.size),i<=j->j<i+n->128<=(s[j]'hj).toNat:=fun n hn j hj h1 h2=>by
   have:=hn (j-i) (by omega)
   rw[show i+(j-i)=j by omega,get!_eq s j hj]at this
   exact this
  have hone:128<=65533/\Utf8.valid ((65533:Nat):Int)=true/\1<=1/\i+1<=s.size/\∀ j (hj:j<s.size),i<=j->j<i+1->128<=(s[j]'hj).toNat:=
   ⟨by omega,by decide,by omega,by omega,hby 1 fun k hk=>by rw[show k=0 by omega];omega⟩
  unfold Utf8.decode
  simp only[if_neg hb0,Utf8.runeError]
  obtain ⟨b0,hg0⟩:∃ b,(s.get! (i+0)).toNat=b:=⟨_,rfl⟩
  obtain ⟨b1,hg1⟩:∃ b,(s.get! (i+1)).toNat=b:=⟨_,rfl⟩
  obtain ⟨b2,hg2⟩:∃ b,(s.get! (i+2)).toNat=b:=⟨_,rfl⟩
  obtain ⟨b3,hg3⟩:∃ b,(s.get! (i+3)).toNat=b:=⟨_,rfl⟩
  rw[hg0]at hb0
  simp only[hg0,hg1,hg2,hg3]
  have hlt:b0<256:=by rw[←hg0];exact (s.get! (i+0)).toNat_lt
  split
  ·rename_i hc
   simp only[Bool.and_eq_true,beq_iff_eq,decide_eq_true_eq]at hc
   split
   ·rename_i hv
    refine ⟨by show 128<=_;omega,zi5 (.inl (by omega)),by show 1<=2;omega,by show i+2<=_;omega,hby 2 fun k hk=>?_⟩
    rcases (show k=0∨k=1 by omega) with rfl | rfl
    ·rw[hg0];omega
    ·rw[hg1];omega
   ·exact hone
  ·split
   ·rename_i hc
    simp only[Bool.and_eq_true,beq_iff_eq,decide_eq_true_eq]at hc
    split
    ·rename_i hv
     simp only[Bool.and_eq_true,decide_eq_true_eq]at hv
     refine ⟨by show 128<=_;omega,hv.2,by show 1<=3;omega,by show i+3<=_;omega,hby 3 fun k hk=>?_⟩
     rcases (show k=0∨k=1∨k=2 by omega) with rfl | rfl | rfl
     ·rw[hg0];omega
     ·rw[hg1];omega
     ·rw[hg2];omega
    ·exact hone
   ·split
    ·rename_i hc
     simp only[Bool.and_eq_true,beq_iff_eq,decide_eq_true_eq]at hc
     split
     ·rename_i hv
      simp only[Bool.and_eq_true,decide_eq_true_eq]at hv
      refine ⟨by show 128<=_;omega,hv.2,by show 1<=4;omega,by show i+4<=_;omega,hby 4 fun k hk=>?_⟩
      rcases (show k=0∨k=1∨k=2∨k=3 by omega) with rfl | rfl | rfl | rfl
      ·rw[hg0];omega
      ·rw[hg1];omega
      ·rw[hg2];omega
      ·rw[hg3];omega
     ·exact hone
    ·exact hone
theorem HQ (r:Int) (h1:128<=r) (hv:Utf8.valid r=true) (w:World):Calls Tryz.prog 236 #[.string ⟨#[47,0]⟩,.int .i32 r] w fun e w'=>e = .returned (.int .i64 (-1))/\Below w.heap.size w w':=by
 by_cases h2:r=65533
 ·subst h2;exact GL w
 ·refine ((xo r h1 hv h2).2 ⟨w,fun _ _=>False,fun _=>False⟩ [.string ⟨#[47,0]⟩,.int .i32 r] (fun g cs h=>by cases h) ?_).mono ?_
  ·exact ze.2 ⟨_,_,rfl,zN.2 rfl,ze.2 ⟨_,_,rfl,zm.2 rfl,zj.2 rfl⟩⟩
  ·rintro e w' ⟨v,R',L',rfl,rfl,hst,hr⟩
   rw[zm]at hr
   exact ⟨by rw[hr],hst.below⟩
theorem zeL (w:World) (s:ByteArray):(w.iter s 0).heap[w.heap.size]?=some (.stringIter s 0):=World.iter_heap w s 0
theorem y0 {w W:World} {s:ByteArray} {p:Nat} (hb:Below w.heap.size w W) (hs:W.heap[w.heap.size]?=some (.stringIter s p)) (p':Nat):Below w.heap.size w (W.putObj w.heap.size (.stringIter s p'))/\(W.putObj w.heap.size (.stringIter s p')).heap[w.heap.size]?=some (.stringIter s p'):=
 ⟨⟨hb.os,hb.tape,hb.output,by simpa using hb.size,fun k hk=>(World.putObj_heap_other (by omega)).trans (hb.block k hk)⟩,World.putObj_heap_same (zV hs)⟩
theorem zat {w W W':World} {s:ByteArray} {p:Nat} (hb:Below w.heap.size w W) (hs:W.heap[w.heap.size]?=some (.stringIter s p)) (h:Below W.heap.size W W'):Below w.heap.size w W'/\W'.heap[w.heap.size]?=some (.stringIter s p):=
 ⟨hb.trans (h.mono hb.size),(h.block _ (zV hs)).trans hs⟩
theorem kx (s:ByteArray) (w:World) (h8:s.size<=8):Calls Tryz.prog 276 #[.string s,.string ⟨#[47,0]⟩] w fun e w'=>e = .returned (.int .i64 (Lib.indexAny s.data.toList [47,0]))/\Below w.heap.size w w':=by
 have h8z:decide ((8:Int)<(s.size:Int))=false:=decide_eq_false (by omega)
 have hsi:=zeL w s
 have hbi:Below w.heap.size w (w.iter s 0):=(Below.refl _ _).alloc (Nat.le_refl _) _
 have HI:Aside ((w.iter s 0).heap[w.heap.size]?=some (.stringIter s 0)/\Below w.heap.size w (w.iter s 0)):=⟨hsi,hbi⟩
 clear hsi hbi
 go_enter Tryz.func276,Tryz.ntmps276
 go_wp2_with (go_at_call 281;refine (Tryz.strings_shouldUseASCIISet _ _).mono ?_;rintro e w' ⟨rfl,hw⟩;rw[hw,h8z])
 go_loopg [9,10] s.size (fun g _ _ wx=>∃ i:Nat,i+g=s.size/\wx.heap[w.heap.size]?=some (.stringIter s i)/\Below w.heap.size w wx/\Lib.NoAny s.data.toList [47,0] i)
 case atStart=>exact ⟨0,by omega,HI.out.1,HI.out.2,Lib.NoAny.zero _ _⟩
 case round =>
  obtain ⟨i,hig,hs,hbl,hno⟩:=hrel
  have HN:Aside (Lib.NoAny s.data.toList [47,0] i/\wr.heap[w.heap.size]?=some (.stringIter s i)/\Below w.heap.size w wr):=⟨hno,hs,hbl⟩
  cases gk with
  | zero =>
   obtain rfl:i=s.size:=by omega
   have hnx:=fun ty=>U8 (P:=Tryz.prog) hs (by omega) ty
   clear hno hs hbl
   go_wp2
   go_ret
   exact ⟨by rw[Lib.indexAny_none (by rw[←Lib.size_eq];exact HN.out.1)];rfl,HN.out.2.2⟩
  | succ g =>
   have hi:i<s.size:=by omega
   have hnx:=fun ty=>yh (P:=Tryz.prog) hs hi ty
   have hpi:=y0 hbl hs (i+(Utf8.decode s i).2)
   have HP:Aside (Below w.heap.size w (wr.putObj w.heap.size (.stringIter s (i+(Utf8.decode s i).2)))/\(wr.putObj w.heap.size (.stringIter s (i+(Utf8.decode s i).2))).heap[w.heap.size]?=some (.stringIter s (i+(Utf8.decode s i).2))):=hpi
   clear hno hs hbl hpi
   obtain ⟨x,hx⟩:∃ x:UInt8,s[i]'hi=x:=⟨_,rfl⟩
   have hxl:s.data.toList[i]?=some x:=by rw[←hx];exact Lib.data_getElem? s i hi
   rcases vb s i hi with ⟨hd1,hd2⟩ | ⟨hd1,hd2,hd3,hd4,hd5⟩
   ·rw[hx]at hd1 hd2
    rw[hd2]at hnx HP
    have Hx:Aside (s.data.toList[i]?=some x):=hxl
    clear hxl hx hd2
    have hcon:=Lib.contains_iff_indexByte [47,0] x
    have hback:((x.toNat:Int)).toNat.toUInt8=x:=by simp
    cases hin:([47,0]:List UInt8).contains x
    ·rw[hin]at hcon
     have hlt:¬((0:Int)<=Lib.indexByte [47,0] x):=of_decide_eq_false hcon.symm
     clear hcon
     go_wp2_with (go_at_call 236;refine (Tryz.strings_IndexRune_ascii _ _ _ (by omega) (by omega)).mono ?_;rintro e w' ⟨rfl,hw⟩;rw[hw,hback])
     go_roundg g
     case measure=>omega
     case rel=>exact ⟨i+1,by omega,HP.out.2,HP.out.1,HN.out.1.succ Hx.out hin⟩
    ·rw[hin]at hcon
     have hge:(0:Int)<=Lib.indexByte [47,0] x:=of_decide_eq_true hcon.symm
     clear hcon
     go_wp2_with (go_at_call 236;refine (Tryz.strings_IndexRune_ascii _ _ _ (by omega) (by omega)).mono ?_;rintro e w' ⟨rfl,hw⟩;rw[hw,hback])
     go_ret
     exact ⟨by rw[Lib.indexAny_hit HN.out.1 Hx.out hin];rfl,HP.out.1⟩
   ·obtain ⟨c,hc⟩:∃ c,(Utf8.decode s i).1=c:=⟨_,rfl⟩
    obtain ⟨n,hn⟩:∃ n,(Utf8.decode s i).2=n:=⟨_,rfl⟩
    rw[hc,hn]at hnx
    rw[hn]at HP hd3 hd4 hd5
    rw[hc]at hd1 hd2
    have H5:Aside (∀ j (hj:j<s.size),i<=j->j<i+n->128<=(s[j]'hj).toNat):=hd5
    have H2:Aside (Utf8.valid (c:Int)=true):=hd2
    clear hd5 hd2 hxl hx hc hn
    go_wp2_with (go_at_call 236;refine (HQ _ (by omega) H2.out _).mono ?_;rintro e w' ⟨rfl,hw⟩;have HW:=zat HP.out.1 HP.out.2 hw)
    go_roundg (s.size-(i+n))
    case measure=>omega
    case rel =>
     refine ⟨i+n,by omega,HW.2,HW.1,fun j b hj hb=>?_⟩
     rcases Nat.lt_or_ge j i with g | g
     ·exact HN.out.1 j b g hb
     ·have hjs:j<s.size:=by omega
      have:=H5.out j hjs g hj
      have hb2:=Lib.data_getElem? s j hjs
      rw[hb]at hb2
      have hb3:b=s[j]'hjs:=Option.some.inj hb2
      rw[Vv,hb3]
      have h47:s[j]'hjs≠47:=fun e=>by rw[e]at this;revert this;decide
      have h00:s[j]'hjs≠0:=fun e=>by rw[e]at this;revert this;decide
      simp[bad,h47,h00]
end
section
open Go.RowKit Go.Shelf
theorem kT (w:World):(zeroValue 223).run Tryz.prog w = .ok (.agg (Array.replicate 256 (.bool false))) w:=by kernel_rfl
theorem Vt:∀ l:List UInt8,decide (0<=Lib.indexAny l [47,0])=l.any bad
 | []=>rfl
 | b :: l=>by
  have ih:=Vt l
  have hg:=Lib.indexAny_ge [47,0] l
  unfold Lib.indexAny
  rw[Vv,List.any_cons]
  cases hb:bad b with
  | true=>simp
  | false =>
   simp only[Bool.false_eq_true,if_false,Bool.false_or,←ih]
   split
   ·rename_i h
    have:=beq_iff_eq.1 h
    first | rw[this];done | (rw[this];rfl)
   ·rename_i h
    have h':Lib.indexAny l [47,0]≠-1:=by simpa using h
    rw[decide_eq_decide];omega
theorem M1 (l:List UInt8) (hl:l.length<=1000000):Fun Tryz.prog G0 276 [.str l,.str [47,0]] (.sc (.int .i64 (Lib.indexAny l [47,0]))) 0:=by
 refine Fun.wrap (by kernel_rfl) fun R vs h=>?_
 obtain ⟨v1,us1,rfl,h1,h⟩:=ze.1 h
 obtain ⟨v2,us2,rfl,h2,h⟩:=ze.1 h
 rw[zj]at h
 subst h
 rw[zN]at h1 h2
 subst h1 h2
 have hsz:(ByteArray.mk l.toArray).size=l.length:=by simp[ByteArray.size]
 by_cases h8:l.length<=8
 ·refine (kx ⟨l.toArray⟩ R.w (by omega)).mono ?_
  rintro e w' ⟨rfl,hb⟩
  exact ⟨_,rfl,hb,fun R' _=>zm.2 (by simp)⟩
 ·refine (Tryz.strings_IndexAny_long kT ⟨l.toArray⟩ ⟨#[47,0]⟩ R.w (by decide) (by omega) (by omega) (by decide) ?_).mono ?_
  ·intro j b hb
   have:b=47∨b=0:=by
    have:=List.mem_of_getElem? hb
    simpa using this
   rcases this with rfl | rfl<;>decide
  ·rintro e w' ⟨rfl,rfl⟩
   exact ⟨_,rfl,((Below.refl _ _).alloc (Nat.le_refl _) _).alloc (by simp) _,fun R' _=>zm.2 (by simp)⟩
theorem JM (l:List UInt8) (hl:l.length<=1000000):Fun Tryz.prog G0 262 [.str l,.str [47,0]] (qt (l.any bad)) 0:=by
 have h:=Vt l
 refine fon Tryz.func262 ?_;dsimp only[Tryz.f262]
 push_cast -dsimp
 refine call (M1 l hl) ?_
 push_cast -dsimp
 exact dn (by push_cast -dsimp [zb,za,CLe,zd,h])
def may (l:List UInt8):Bool:=!decide (l = [])&&decide (l.length<=255)&&!l.any bad&&!decide (l = [46])&&!decide (l = [46,46])
theorem zmv (l:List UInt8) (hl:l.length<=1000000):Fun Tryz.prog G0 239 [.str l] (qt (may l)) 0:=by
 by_cases h1:l = []
 ·refine fon Tryz.func239 ?_;dsimp only[Tryz.f239]
  push_cast -dsimp [h1]
  exact ⟨[],rfl,rfl,by push_cast -dsimp [zb,za,CLe,zd];simp[may]⟩
 ·by_cases h2:l.length<=255
  ·have h2':(l.length:Int)<=255:=by omega
   cases h3:l.any bad with
   | true =>
    refine fon Tryz.func239 ?_;dsimp only[Tryz.f239]
    push_cast -dsimp [h1,h2']
    refine call (JM l hl) ?_
    push_cast -dsimp [h3]
    exact ⟨[],rfl,rfl,by push_cast -dsimp [zb,za,CLe,zd];simp[may,h3]⟩
   | false =>
    by_cases h4:l = [46]
    ·subst h4
     refine fon Tryz.func239 ?_;dsimp only[Tryz.f239]
     push_cast -dsimp [h2']
     refine call (JM _ hl) ?_
     push_cast -dsimp [h3]
     exact ⟨[],rfl,rfl,by push_cast -dsimp [zb,za,CLe,zd];simp[may]⟩
    ·refine fon Tryz.func239 ?_;dsimp only[Tryz.f239]
     push_cast -dsimp [h1,h2']
     refine call (JM l hl) ?_
     push_cast -dsimp [h3,h4]
     exact ⟨[],rfl,rfl,by push_cast -dsimp [zb,za,CLe,zd];simp[may,h1,h2,h3,h4]⟩
  ·have h2':¬(l.length:Int)<=255:=by omega
   refine fon Tryz.func239 ?_;dsimp only[Tryz.f239]
   push_cast -dsimp [h1,h2']
   exact ⟨[],rfl,rfl,by push_cast -dsimp [zb,za,CLe,zd];simp[may,h2]⟩
theorem zbe (l:List UInt8) (hl:l.length<=1000000):Fun Tryz.prog G0 238 [.str l] (qt (!may l)) 0:=by
 refine fon Tryz.func238 ?_;dsimp only[Tryz.f238]
 push_cast -dsimp
 refine call (zmv l hl) ?_
 push_cast -dsimp
 exact dn
end
end Go.Proofs.YtlkjpfiancahiaaGreatDoor.Vcg
