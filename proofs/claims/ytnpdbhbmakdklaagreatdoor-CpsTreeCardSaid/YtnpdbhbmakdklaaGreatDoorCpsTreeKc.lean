/- What the proof of CpsTree leans on, part 3. No condition beyond what each theorem states. -/
import Derived.Test.YtnpdbhbmakdklaaGreatDoorCpsTreeKb
import Derived.Lib.Overlaps
import Derived.Laws.Externs
import Derived.WalkKit
import Derived.ProofKit
import Derived.Deep.Slices
import Derived.Deep.Fields
import Derived.ChangeSame
import Derived.ChangeOld
import Derived.Lib.SmallJoins
import Derived.Test.YtnpdbhbmakdklaaGreatDoorRows
import Derived.Lib.Bytealg
import Derived.Shelf.Strings.Builder1
import Derived.Shelf.Strings.Builder2
import Derived.Shelf.Strings.OnBuilder
import Derived.Shelf.Strings.Trim
import Derived.Shelf.Small.Utf8
import Derived.Shelf.Small.Strs
import Derived.Shelf.Small.Wraps
import Derived.Shelf.Strings.BuilderF
import Derived.Shelf.Strings.BuilderK
import Derived.Shelf.Strings.Search1
import Derived.Shelf.Strings.Search2
import Derived.Shelf.Strings.Search3
import Derived.Shelf.LaysM
import Derived.Shelf.Strings.Shaped
import Derived.Shelf.Strings.Prefix
import Derived.Shelf.Unicode.Decode
import Derived.Shelf.Strings.Runes
import Derived.Shelf.Strings.IndexAny
import Derived.Shelf.Strings.AsciiSet
import Derived.Shelf.Strings.IndexAnyAll
import Derived.Shelf.Unicode.DecodeSlow
import Derived.Shelf.Unicode.DecodeAny
import Derived.Shelf.Unicode.DecodeLast
import Derived.Ground.Names2Prog
import Derived.Shelf.Slices.SearchI
import Derived.Test.YtnpdbhbmakdklaaGreatDoorProg
import Derived.Laws.Runes
import Derived.Laws.RangeString
import Derived.Deep.LoopGhost
import Derived.Lib.QuoteLoop
set_option linter.unusedVariables false
set_option linter.unusedSimpArgs false
set_option linter.unusedSectionVars false
set_option maxRecDepth 100000
set_option maxHeartbeats 4000000
namespace Go.Proofs.YtnpdbhbmakdklaaGreatDoor.Vcg
variable {f:FuncId} {args r cs vs ds vs1 fargs:List C} {n off b q i k u b1 j cap e s1 size by' p:Nat} {l:Lz} {a:Int} {ps:List (Nat×C)} {KS:St->Prop} {L:Lay} {H:List k8} {rest:List Oper} {dst:Option Tmp} {op:BinOp} {ty t2:TypeId} {pos:String} {af:Array Edge} {g:Option (Nat×Bool)} {fr:Fr} {us:List Operand} {kd:LK} {z1 z2:Option (List Value)} {fn:Fn} {lo hi mx:Option Int} {k2:IntKind} {v:Value} {fp fo:Nat->Option Nat} {place:Nat->Option (Nat×Nat)} {ks1:MK} {fbx:List (List C)} {post:C->List (List C)->Nat->Prop} {code:Code} {W:World}
section
open Go.RowKit
section
variable {P:Program} {G:zq} {σ σ':St} {N p lg m:Nat} {h:Hd} {yd:Option Yd} {brs:List Bool} {bf:Nat->List Bool} {bx bx':List (List C)} {ops:Array Oper} {c c' d d':C} {t t':TypeId} {K:C->Prop} {K2:C->Nat->Prop} {K3:C->St->Prop} {nx:Nat} {tm:List (Nat×C)} {x y z:Operand} {Q:Exit->St->Prop} {X Y:Prop}
def uW (P:Program) (G:zq) (f:FuncId) (args:List C) (nx:Nat) (K:C->Nat->Prop):Prop:=∃ r n,Fun P G f args r n/\K (r.sh nx) (nx+n)
theorem uW.mk {r:C} (h:Fun P G f args r n) (hK:K2 (r.sh nx) (nx+n)):uW P G f args nx K2:=⟨r,n,h,hK⟩
def zq6 (P:Program) (G:zq) (f:FuncId) (args fargs:List C) (σ:St) (K:C->St->Prop):Prop:=
 (∃ r n,Fun P G f fargs r n/\K (r.sh σ.nx) ⟨σ.tm,σ.bx,σ.nx+n,σ.lg⟩)∨vx P G f args σ K∨zll P G f args σ K∨kI P G f args σ K∨zd0 P f args σ K
def aGd (d:Option Tmp) (tm:List (Nat×C)) (want:Bool) (X Y:Prop):Prop:=match d with
 | some d=>match want with
  | true=>zhK (j7 tm d) Y X Y
  | false=>zhK (j7 tm d) Y Y X
 | none=>False
def zpy (L:Option Lay) (c:C) (bx:List (List C)) (K:C->Prop):Prop:=
 match L with
 | none=>False
 | some L=>match c with
  | .ptr i off=>match bx[i]? with
   | some cs=>YK L (cs.drop off) K
   | none=>False
  | .row cs=>YK L cs K
  | _=>False
def zpL (cs:Option (List C)) (off:Nat) (L:Lay) (K:C->Prop):Prop:=match cs with | some cs=>YK L (cs.drop off) K | none=>False
def zsE (x:Option C) (K:C->Prop):Prop:=match x with | some c=>K c | none=>False
def vQ (L:Option Lay) (c:C) (f:Nat) (K:C->Prop):Prop:=
 match L with
 | some ⟨.struct fs,_,_,_⟩=>match fs[f]?,c with
  | some (off,size,agg),.agg cs =>
   if agg then off+size<=cs.length/\K (.agg ((cs.drop off).take size)) else match cs[off]? with
    | some c=>K c
    | none=>False
  | _,_=>False
 | _=>False
def Hr (f:Option (Nat×Nat×Bool)) (cs:List C) (K:C->Prop):Prop:=
 match f with
 | some (off,size,agg)=>if agg then off+size<=cs.length/\K (.agg ((cs.drop off).take size)) else match cs[off]? with
    | some c=>K c
    | none=>False
 | none=>False
def zt9 (L:Option Lay) (c:C) (f:Nat) (K:C->Prop):Prop:=
 match L with
 | some ⟨.struct fs,_,_,_⟩=>match fs[f]?,c with
  | some (off,size,_),.ptr i o=>if size=0 then False else K (.ptr i (o+off))
  | some (off,size,_),.row cs=>if size=0 then False else K (.row (cs.drop off))
  | _,_=>False
 | _=>False
def zq4 (f:Option (Nat×Nat×Bool)) (c:C) (K:C->Prop):Prop:=
 match f,c with
  | some (off,size,_),.ptr i o=>if size=0 then False else K (.ptr i (o+off))
  | some (off,size,_),.row cs=>if size=0 then False else K (.row (cs.drop off))
  | _,_=>False
def ztu (P:Program) (L:Option Lay) (c:C) (i:C) (K:C->Prop):Prop:=
 match L,i with
 | some ⟨.slice e,_,_,_⟩,.sc (.int _ n)=>match lay P e with
  | some L=>match c with
   | .bs j off k m _=>k=L.size/\0<=n/\n<(m:Int)/\K (.ptr j (off+n.toNat*L.size))
   | c=>match c.rows? L.size with
    | some rows=>match rows[n.toNat]? with
     | some r=>0<=n/\K (.row r)
     | none=>False
    | none=>False
  | none=>False
 | some ⟨.array (m+1) e,_,_,_⟩,.sc (.int _ n)=>match lay P e with
  | some L=>match c with
   | .ptr j off=>0<=n/\n<((m+1:Nat):Int)/\K (.ptr j (off+n.toNat*L.size))
   | .row cs=>0<=n/\n<((m+1:Nat):Int)/\K (.row (cs.drop (n.toNat*L.size)))
   | _=>False
  | none=>False
 | _,_=>False
def ztt (L:Option Lay) (c:C) (n:Int) (K:C->Prop):Prop:=
 match L with
  | some L=>match c with
   | .bs j off k m _=>k=L.size/\0<=n/\n<(m:Int)/\K (.ptr j (off+n.toNat*L.size))
   | c=>match c.rows? L.size with
    | some rows=>match rows[n.toNat]? with
     | some r=>0<=n/\K (.row r)
     | none=>False
    | none=>False
  | none=>False
def ztp (rows:Option (List (List C))) (n:Int) (K:C->Prop):Prop:=
 match rows with
   | some rows=>match rows[n.toNat]? with
    | some r=>0<=n/\K (.row r)
    | none=>False
   | none=>False
def aAt (r:Option (List C)) (n:Int) (K:C->Prop):Prop:=match r with | some r=>0<=n/\K (.row r) | none=>False
def ztS (L:Option Lay) (c:C) (m:Nat) (n:Int) (K:C->Prop):Prop:=
 match L with
  | some L=>match c with
   | .ptr j off=>0<=n/\n<((m+1:Nat):Int)/\K (.ptr j (off+n.toNat*L.size))
   | .row cs=>0<=n/\n<((m+1:Nat):Int)/\K (.row (cs.drop (n.toNat*L.size)))
   | _=>False
  | none=>False
def zrN (L:Option Lay) (c i:C) (K:C->Prop):Prop:=
 match L,c,i with
 | some ⟨.str,_,_,_⟩,.str l,.sc (.int _ n)=>match l[n.toNat]? with
  | some b=>0<=n/\K (.sc (.int .u8 (b.toNat:Int)))
  | none=>False
 | _,_,_=>False
def zmQ (b:Option UInt8) (n:Int) (K:C->Prop):Prop:=match b with | some b=>0<=n/\K (.sc (.int .u8 (b.toNat:Int))) | none=>False
def zti (P:Program) (L:Option Lay) (c:C) (lo hi mx:Option Int) (K:C->Prop):Prop:=
   match L with
    | some ⟨.str,_,_,_⟩=>match c,mx with
      | .str l,none=>Jf l.length lo hi/\K (.str (cut l lo hi))
      | _,_=>False
    | some ⟨.slice e,_,_,_⟩=>match lay P e with
      | some L=>match c with
        | .bs i off k n cap=>zn9 L.size i off k n cap lo hi mx K
        | .sc (.slice none 0 0)=>zqP L.size lo hi mx K
        | c=>match c.rows? L.size with
          | some rows=>match mx,hi with
            | none,_=>Jf rows.length lo hi/\K (.sl L.size (cut rows lo hi))
            | some m,some h=>m=h/\Jf rows.length lo hi/\K (.tight L.size (cut rows lo hi))
            | some _,none=>False
          | none=>False
      | none=>False
    | _=>False
def zt6 (P:Program) (t:TypeId) (c:C) (lo hi mx:Option (Option Int)) (K:C->Prop):Prop:=
 match lo,hi,mx with
 | some lo,some hi,some mx=>zti P (lay P t) c lo hi mx K
 | _,_,_=>False
def zt5 (L:Option Lay) (c:C) (lo hi mx:Option Int) (K:C->Prop):Prop:=
 match L with
   | some L=>match c with
    | .bs i off k n cap=>zn9 L.size i off k n cap lo hi mx K
    | .sc (.slice none 0 0)=>zqP L.size lo hi mx K
    | c=>match c.rows? L.size with
     | some rows=>match mx,hi with
      | none,_=>Jf rows.length lo hi/\K (.sl L.size (cut rows lo hi))
      | some m,some h=>m=h/\Jf rows.length lo hi/\K (.tight L.size (cut rows lo hi))
      | some _,none=>False
     | none=>False
   | none=>False
def ztJ (rows:Option (List (List C))) (k:Nat) (lo hi mx:Option Int) (K:C->Prop):Prop:=
 match rows with
    | some rows=>match mx,hi with
     | none,_=>Jf rows.length lo hi/\K (.sl k (cut rows lo hi))
     | some m,some h=>m=h/\Jf rows.length lo hi/\K (.tight k (cut rows lo hi))
     | some _,none=>False
    | none=>False
def zlE (rows:Option (List (List C))) (K:C->Prop):Prop:=match rows with | some rows=>∃ l,rows=Yl l/\K (.str l) | none=>False
theorem zlE.mk {rows:List (List C)} (l:Lz) (h:rows=Yl l) (hK:K (.str l)):zlE (some rows) K:=⟨l,h,hK⟩
def zuc (P:Program) (D S:Option Lay) (c:C) (K:C->Prop):Prop:=
 match D with
 | some ⟨.int k,_,_,_⟩=>match c with
  | .sc (.int _ n)=>match S with | some _=>inR k n/\K (.sc (.int k n)) | none=>False
  | _=>False
 | some ⟨.str,_,_,_⟩=>match S with
  | some ⟨.str,_,_,_⟩=>match c with
   | .str l=>K (.str l)
   | _=>False
  | some ⟨.slice e,_,_,_⟩=>match lay P e with
   | some ⟨.int .u8,_,_,_⟩=>match c.rows? 1 with
    | some rows=>∃ l,rows=Yl l/\K (.str l)
    | none=>False
   | _=>False
  | some ⟨.int _,_,_,_⟩=>match c with
   | .sc (.int _ n)=>K (.str (Utf8.encode n).data.toList)
   | _=>False
  | _=>False
 | some ⟨.slice e,_,_,_⟩=>match S,lay P e with
  | some ⟨.str,_,_,_⟩,some ⟨.int .u8,_,_,_⟩=>match c with
   | .str l=>((l.length:Nat):Int)<=9223372036854775807/\K (.sl 1 (Yl l))
   | _=>False
  | _,_=>False
 | _=>False
def zsm (L:Option Lay) (c:C) (K:C->Prop):Prop:=
 match L,c with
 | some ⟨.slice _,_,_,_⟩,.bs _ _ _ _ c=>K (.sc (.int .i64 (c:Int)))
 | some ⟨.slice _,_,_,_⟩,.sc (.slice none 0 0)=>K (.sc (.int .i64 0))
 | _,_=>False
def zsk (L:Option Lay) (n:Int) (K:C->Prop):Prop:=match L with | some ⟨.slice _,_,_,_⟩=>K (.sc (.int .i64 n)) | _=>False
def zr4 (L:Option Lay) (n:Int) (K:C->Prop):Prop:=match L with | some ⟨.str,_,_,_⟩=>K (.sc (.int .i64 n)) | _=>False
def zs0 (L:Option Lay) (parts:List (Nat×C)) (K:C->Prop):Prop:=
 match L with
 | some ⟨.struct fs,_,_,some z⟩=>(parts.all fun p=>p.2.partB)=true/\match Xz (fun i=>(fs[i]?).map fun f=>(f.1,f.2.1)) (z.map zD) parts with
  | some cs=>K (.agg cs)
  | none=>False
 | _=>False
def aFl (cs:Option (List C)) (K:C->Prop):Prop:=match cs with | some cs=>K (.agg cs) | none=>False
def plS (fs:List (Nat×Nat×Bool)) (i:Nat):Option (Nat×Nat):=(fs[i]?).map fun f=>(f.1,f.2.1)
def plA (k:Nat) (i:Nat):Option (Nat×Nat):=some (i*k,k)
def zlq (pl:Option (Nat×Nat)) (place:Nat->Option (Nat×Nat)) (cs:List C) (c:List C) (rest:List (Nat×C)):Option (List C):=
 match pl with
  | none=>none
  | some (off,size)=>if c.length=size/\off+size<=cs.length then Xz place (cs.take off++c++cs.drop (off+size)) rest else none
def ztw (P:Program) (L:Option Lay) (n:Nat) (parts:List (Nat×C)) (nx:Nat) (K:C->Nat->Prop):Prop:=
 match L with
 | some ⟨.slice e,_,_,_⟩=>match lay P e with
  | some ⟨_,k,_,some z⟩=>z.length=k/\0<k/\n*k<=16777216/\(parts.all fun p=>p.2.frz.partB)=true/\match Xz (fun i=>some (i*k,k)) (List.replicate n (z.map zD)).flatten (parts.map fun p=>(p.1,p.2.frz)) with
   | some cs=>(cs.all C.cellB)=true/\cs.length=n*k/\K (.own nx e k (Q7 k n cs)) (nx+1)
   | none=>False
  | _=>False
 | _=>False
def ztX (L:Option Lay) (e:TypeId) (n:Nat) (parts:List (Nat×C)) (nx:Nat) (K:C->Nat->Prop):Prop:=
   match L with
    | some ⟨_,k,_,some z⟩=>z.length=k/\0<k/\n*k<=16777216/\(parts.all fun p=>p.2.frz.partB)=true/\match Xz (fun i=>some (i*k,k)) (List.replicate n (z.map zD)).flatten (parts.map fun p=>(p.1,p.2.frz)) with
      | some cs=>(cs.all C.cellB)=true/\cs.length=n*k/\K (.own nx e k (Q7 k n cs)) (nx+1)
      | none=>False
    | _=>False
def ztF (cs:Option (List C)) (e k n nx:Nat) (K:C->Nat->Prop):Prop:=
 match cs with
   | some cs=>(cs.all C.cellB)=true/\cs.length=n*k/\K (.own nx e k (Q7 k n cs)) (nx+1)
   | none=>False
def zud (P:Program) (L:Option Lay) (l c:C) (nx:Nat) (K:C->Nat->Prop):Prop:=
 match L,l,c with
 | some ⟨.slice e,_,_,_⟩,.sc (.int _ l),.sc (.int _ c)=>match lay P e with
  | some ⟨_,k,by',some z⟩=>z.length=k/\0<k/\(z.all Value.oneCell')=true/\0<=l/\l<=c/\(by':Int)*c<=281474976710656/\c<=9223372036854775807/\K (.own nx e k (List.replicate l.toNat (z.map zD))) (nx+1)
  | _=>False
 | _,_,_=>False
def ztB (L:Option Lay) (e:TypeId) (l c:Int) (nx:Nat) (K:C->Nat->Prop):Prop:=
 match L with
  | some ⟨_,k,by',some z⟩=>z.length=k/\0<k/\(z.all Value.oneCell')=true/\0<=l/\l<=c/\(by':Int)*c<=281474976710656/\c<=9223372036854775807/\K (.own nx e k (List.replicate l.toNat (z.map zD))) (nx+1)
  | _=>False
def zsB (P:Program) (L:Option Lay) (l c:C) (σ:St) (K:C->St->Prop):Prop:=
 match L,l,c with
 | some ⟨.slice e,_,_,_⟩,.sc (.int _ l),.sc (.int _ c)=>match lay P e with
  | some ⟨_,k,by',some z⟩=>z.length=k/\0<k/\(z.all Value.oneCell')=true/\0<=l/\l<=c/\(by':Int)*c<=281474976710656/\c<=9223372036854775807/\K (.bs σ.bx.length 0 k l.toNat c.toNat) ⟨σ.tm,σ.bx++[(List.replicate c.toNat (z.map zD)).flatten],σ.nx,σ.lg⟩
  | _=>False
 | _,_,_=>False
def zsg (L:Option Lay) (l c:Int) (σ:St) (K:C->St->Prop):Prop:=
 match L with
  | some ⟨_,k,by',some z⟩=>z.length=k/\0<k/\(z.all Value.oneCell')=true/\0<=l/\l<=c/\(by':Int)*c<=281474976710656/\c<=9223372036854775807/\K (.bs σ.bx.length 0 k l.toNat c.toNat) ⟨σ.tm,σ.bx++[(List.replicate c.toNat (z.map zD)).flatten],σ.nx,σ.lg⟩
  | _=>False
def ztM (P:Program) (L:Option Lay) (s x:C) (nx:Nat) (K:C->Nat->Prop):Prop:=
 match L with
 | some ⟨.slice e,_,_,_⟩=>match lay P e with
  | some ⟨_,k,by',some z⟩=>match x.rows? k with
   | some xs=>match s with
    | .sc (.slice none 0 0)=>z.length=k/\0<k/\xs.length<=9223372036854775807/\xs.length*by'<=140737488355328/\K (.own nx e k xs) (nx+1)
    | .tight k' rows=>k'=k/\z.length=k/\0<k/\rows.length+xs.length<=9223372036854775807/\(rows.length+xs.length)*by'<=140737488355328/\(xs = []->K (.tight k' rows) nx)/\(xs≠[]->K (.own nx e k (rows++xs)) (nx+1))
    | _=>False
   | none=>False
  | _=>False
 | _=>False
def ztN (L:Option Lay) (e:TypeId) (s x:C) (nx:Nat) (K:C->Nat->Prop):Prop:=
  match L with
  | some ⟨_,k,by',some z⟩=>match x.rows? k with
   | some xs=>match s with
    | .sc (.slice none 0 0)=>z.length=k/\0<k/\xs.length<=9223372036854775807/\xs.length*by'<=140737488355328/\K (.own nx e k xs) (nx+1)
    | .tight k' rows=>k'=k/\z.length=k/\0<k/\rows.length+xs.length<=9223372036854775807/\(rows.length+xs.length)*by'<=140737488355328/\(xs = []->K (.tight k' rows) nx)/\(xs≠[]->K (.own nx e k (rows++xs)) (nx+1))
    | _=>False
   | none=>False
  | _=>False
def zt2 (xs:Option (List (List C))) (s:C) (e k by':Nat) (z:List Value) (nx:Nat) (K:C->Nat->Prop):Prop:=
 match xs with
   | some xs=>match s with
    | .sc (.slice none 0 0)=>z.length=k/\0<k/\xs.length<=9223372036854775807/\xs.length*by'<=140737488355328/\K (.own nx e k xs) (nx+1)
    | .tight k' rows=>k'=k/\z.length=k/\0<k/\rows.length+xs.length<=9223372036854775807/\(rows.length+xs.length)*by'<=140737488355328/\(xs = []->K (.tight k' rows) nx)/\(xs≠[]->K (.own nx e k (rows++xs)) (nx+1))
    | _=>False
   | none=>False
def ztZ (P:Program) (L:Option Lay) (id e k:Nat) (rows:List (List C)) (x:C) (σ:St) (K:C->St->Prop):Prop:=
   match L with
    | some ⟨.slice e',_,_,_⟩=>match lay P e with
      | some ⟨_,k',by',some z⟩=>match x.rows? k with
        | some xs=>e'=e/\k'=k/\z.length=k/\0<k/\rows.length+xs.length<=9223372036854775807/\(rows.length+xs.length)*by'<=140737488355328/\K (.own id e k (rows++xs)) ⟨zcU id σ.tm,yr id σ.bx,σ.nx,σ.lg⟩
        | none=>False
      | _=>False
    | _=>False
def zsy (L:Option Lay) (e' id e k:Nat) (rows:List (List C)) (x:C) (σ:St) (K:C->St->Prop):Prop:=
  match L with
   | some ⟨_,k',by',some z⟩=>match x.rows? k with
    | some xs=>e'=e/\k'=k/\z.length=k/\0<k/\rows.length+xs.length<=9223372036854775807/\(rows.length+xs.length)*by'<=140737488355328/\K (.own id e k (rows++xs)) ⟨zcU id σ.tm,yr id σ.bx,σ.nx,σ.lg⟩
    | none=>False
   | _=>False
def zs2 (xs:Option (List (List C))) (by' id e k:Nat) (rows:List (List C)) (σ:St) (K:C->St->Prop):Prop:=
   match xs with
        | some xs=>rows.length+xs.length<=9223372036854775807/\(rows.length+xs.length)*by'<=140737488355328/\K (.own id e k (rows++xs)) ⟨zcU id σ.tm,yr id σ.bx,σ.nx,σ.lg⟩
        | none=>False
def ztA (L:Option Lay) (σ:St) (K:C->St->Prop):Prop:=
 match L with
 | some ⟨_,_,_,some z⟩=>(z.all Value.oneCell')=true/\K (.ptr σ.bx.length 0) ⟨σ.tm,σ.bx++[z.map zD],σ.nx,σ.lg⟩
 | _=>False
def ztI (L:Option Lay) (p c:C) (σ:St) (K:C->St->Prop):Prop:=
 match L,p with
 | some L,.ptr i off=>match σ.bx[i]? with
  | some cs=>c.partB=true/\(c.cells.all C.cellB)=true/\c.cells.length=L.size/\off+L.size<=cs.length/\K .any ⟨σ.tm,σ.bx.set i (cs.take off++c.cells++cs.drop (off+L.size)),σ.nx,σ.lg⟩
  | none=>False
 | _,_=>False
def zt1 (cs:Option (List C)) (i off size:Nat) (c:C) (σ:St) (K:C->St->Prop):Prop:=
 match cs with
  | some cs=>c.partB=true/\(c.cells.all C.cellB)=true/\c.cells.length=size/\off+size<=cs.length/\K .any ⟨σ.tm,σ.bx.set i (cs.take off++c.cells++cs.drop (off+size)),σ.nx,σ.lg⟩
  | none=>False
def zf1 (cs:Option (List C)) (off n:Nat) (K:C->Prop):Prop:=match cs with
   | some cs=>∃ l:Lz,l.length=n/\(cs.drop off).take n=l.map (fun b=>C.sc (.int .u8 (b.toNat:Int)))/\K (.str l)
   | none=>False
theorem zf1.mk {K:C->Prop} (l:Lz) (hl:l.length=n) (h:(cs.drop off).take n=l.map (fun b=>C.sc (.int .u8 (b.toNat:Int)))) (hK:K (.str l)):zf1 (some cs) off n K:=⟨l,hl,h,hK⟩
def zub (P:Program) (L:Option Lay) (n:Nat) (parts:List (Nat×C)) (σ:St) (K:C->St->Prop):Prop:=
 match L with
 | some ⟨.slice e,_,_,_⟩=>match lay P e with
  | some ⟨_,k,_,some z⟩=>z.length=k/\0<k/\n*k<=16777216/\(parts.all fun p=>p.2.frz.partB)=true/\match Xz (fun i=>some (i*k,k)) (List.replicate n (z.map zD)).flatten (parts.map fun p=>(p.1,p.2.frz)) with
   | some cs=>(cs.all C.cellB)=true/\cs.length=n*k/\K (.bs σ.bx.length 0 k n n) ⟨σ.tm,σ.bx++[cs],σ.nx,σ.lg⟩
   | none=>False
  | _=>False
 | _=>False
def ztV (L:Option Lay) (n:Nat) (parts:List (Nat×C)) (σ:St) (K:C->St->Prop):Prop:=
   match L with
    | some ⟨_,k,_,some z⟩=>z.length=k/\0<k/\n*k<=16777216/\(parts.all fun p=>p.2.frz.partB)=true/\match Xz (fun i=>some (i*k,k)) (List.replicate n (z.map zD)).flatten (parts.map fun p=>(p.1,p.2.frz)) with
      | some cs=>(cs.all C.cellB)=true/\cs.length=n*k/\K (.bs σ.bx.length 0 k n n) ⟨σ.tm,σ.bx++[cs],σ.nx,σ.lg⟩
      | none=>False
    | _=>False
def zt4 (cs:Option (List C)) (k n:Nat) (σ:St) (K:C->St->Prop):Prop:=
 match cs with
   | some cs=>(cs.all C.cellB)=true/\cs.length=n*k/\K (.bs σ.bx.length 0 k n n) ⟨σ.tm,σ.bx++[cs],σ.nx,σ.lg⟩
   | none=>False
def ztW (P:Program) (L:Option Lay) (p:Nat) (s x:C) (σ:St) (K:C->St->Prop):Prop:=
 match L with
 | some ⟨.slice e,_,_,_⟩=>match lay P e with
  | some ⟨_,k,by',some z⟩=>match x.xs? k σ.bx with
   | some (m,xs)=>z.length=k/\0<k/\(z.all Value.oneCell')=true/\0<m/\match s with
    | .sc (.slice none 0 0)=>m<=9223372036854775807/\m*by'<=140737488355328/\∀ c,m<=c->c<=maxLen->K (.bs σ.bx.length 0 k m c) ⟨σ.tm,σ.bx++[xs++List.replicate ((c-m)*k) .any],σ.nx,σ.lg⟩
    | .bs i 0 k' n c=>match σ.bx[i]? with
     | some cs=>k'=k/\p<=i/\cs.length=c*k/\n<=c/\c<=9223372036854775807/\n+m<=9223372036854775807/\(n+m)*by'<=140737488355328 /\
       ∀ c',n+m<=c'->c'<=maxLen->K (.bs i 0 k (n+m) c') ⟨Gp (Yv i) some σ.tm,Vl i (C.reL (Yv i) some (cs.take (n*k)++xs)++List.replicate ((c'-(n+m))*k) .any) σ.bx,σ.nx,σ.lg⟩
     | none=>False
    | _=>False
   | none=>False
  | _=>False
 | _=>False
def ztK (L:Option Lay) (p:Nat) (s x:C) (σ:St) (K:C->St->Prop):Prop:=
  match L with
  | some ⟨_,k,by',some z⟩=>match x.xs? k σ.bx with
   | some (m,xs)=>z.length=k/\0<k/\(z.all Value.oneCell')=true/\0<m/\match s with
    | .sc (.slice none 0 0)=>m<=9223372036854775807/\m*by'<=140737488355328/\∀ c,m<=c->c<=maxLen->K (.bs σ.bx.length 0 k m c) ⟨σ.tm,σ.bx++[xs++List.replicate ((c-m)*k) .any],σ.nx,σ.lg⟩
    | .bs i 0 k' n c=>match σ.bx[i]? with
     | some cs=>k'=k/\p<=i/\cs.length=c*k/\n<=c/\c<=9223372036854775807/\n+m<=9223372036854775807/\(n+m)*by'<=140737488355328 /\
       ∀ c',n+m<=c'->c'<=maxLen->K (.bs i 0 k (n+m) c') ⟨Gp (Yv i) some σ.tm,Vl i (C.reL (Yv i) some (cs.take (n*k)++xs)++List.replicate ((c'-(n+m))*k) .any) σ.bx,σ.nx,σ.lg⟩
     | none=>False
    | _=>False
   | none=>False
  | _=>False
def ztG (X:Option (Nat×List C)) (p k by':Nat) (z:List Value) (s:C) (σ:St) (K:C->St->Prop):Prop:=
  match X with
   | some (m,xs)=>z.length=k/\0<k/\(z.all Value.oneCell')=true/\0<m/\match s with
    | .sc (.slice none 0 0)=>m<=9223372036854775807/\m*by'<=140737488355328/\∀ c,m<=c->c<=maxLen->K (.bs σ.bx.length 0 k m c) ⟨σ.tm,σ.bx++[xs++List.replicate ((c-m)*k) .any],σ.nx,σ.lg⟩
    | .bs i 0 k' n c=>match σ.bx[i]? with
     | some cs=>k'=k/\p<=i/\cs.length=c*k/\n<=c/\c<=9223372036854775807/\n+m<=9223372036854775807/\(n+m)*by'<=140737488355328 /\
       ∀ c',n+m<=c'->c'<=maxLen->K (.bs i 0 k (n+m) c') ⟨Gp (Yv i) some σ.tm,Vl i (C.reL (Yv i) some (cs.take (n*k)++xs)++List.replicate ((c'-(n+m))*k) .any) σ.bx,σ.nx,σ.lg⟩
     | none=>False
    | _=>False
   | none=>False
def bsO (j:Option Nat) (off k n c:Nat):C:=match j with | some j=>.bs j off k n c | none=>.any
def xsB (k' k off n:Nat) (cs:Option (List C)):Option (Nat×List C):=if k'=k then cs.bind fun cs=>if off+n*k<=cs.length then some (n,(cs.drop off).take (n*k)) else none else none
def zrD (j:Option Nat) (e k:Nat) (rows:List (List C)):C:=match j with | some j=>.own j e k rows | none=>.sl k rows
def zrY (cs:Option (List C)) (off:Nat):C:=match cs with | some cs=>.row ((C.frzL cs).drop off) | none=>.any
def zoP (j:Option Nat) (off:Nat):C:=match j with | some j=>.ptr j off | none=>.any
def zm2 (cs:Option (List C)) (p:Option Tmp) (σ:St) (K:St->Prop):Prop:=match cs,p with
  | some cs,some p=>K ⟨(p,.ptr σ.bx.length 0) :: σ.tm,σ.bx++[cs],σ.nx,σ.lg⟩
  | _,_=>False
def ztx (M:Option (MKd×C)) (t:TypeId) (r:Option C) (nx:Nat) (K:C->Nat->Prop):Prop:=
 match M with
 | some (kd,_)=>match r with
  | none=>K (.mo nx t kd.nil []) (nx+1)
  | some (.sc (.int _ _))=>K (.mo nx t kd.nil []) (nx+1)
  | _=>False
 | none=>False
def ztv (M:Option (MKd×C)) (t:TypeId) (m key:C) (ok:Bool) (K:C->Prop):Prop:=
 match M with
 | some (.int k,z)=>match m,key with
  | .mo _ t' (.int k' l) vs,.sc (.int q n)=>t'=t/\k'=k/\q=k/\Gf (H8 n l vs) z ok K
  | _,_=>False
 | some (.str,z)=>match m,key with
  | .mo _ t' (.str l) vs,.str s=>t'=t/\Gf (H8 s l vs) z ok K
  | _,_=>False
 | none=>False
def zue (M:Option (MKd×C)) (t:TypeId) (m key x:C) (σ:St) (K:C->St->Prop):Prop:=
 match M with
 | some (.int k,_)=>match m,key with
  | .mo id t' (.int k' l) vs,.sc (.int q n)=>t'=t/\k'=k/\q=k/\G4 id (.int k (VV n x.frq l vs).1) (VV n x.frq l vs).2 σ K
  | _,_=>False
 | some (.str,_)=>match m,key with
  | .mo id t' (.str l) vs,.str s=>t'=t/\G4 id (.str (VV s x.frq l vs).1) (VV s x.frq l vs).2 σ K
  | _,_=>False
 | none=>False
def moO (j:Option Nat) (t:TypeId) (ks:MK) (vs:List C):C:=match j with | some j=>.mo j t ks vs | none=>.any
def ztg (x:Option (List C)):C:=match x with | some cs=>.row cs | none=>.any
structure Tag.{u} {α:Sort u} (a:α):Type where
def zqI (M:Option (MKd×C)) (t:TypeId) (r:Option C) (nx:Nat) (K:C->Nat->Prop) (_:Tag K):Prop:=ztx M t r nx K
def zoz (M:Option (MKd×C)) (t:TypeId) (m key:C) (ok:Bool) (K:C->Prop) (_:Tag K):Prop:=ztv M t m key ok K
def v8 (r:Option C) (z:C) (ok:Bool) (K:C->Prop) (_:Tag K):Prop:=Gf r z ok K
def zoT (M:Option (MKd×C)) (t:TypeId) (m key x:C) (σ:St) (K:C->St->Prop) (_:Tag K):Prop:=zue M t m key x σ K
def zd6 (sz i off k n cap:Nat) (lo hi mx:Option Int) (K:C->Prop) (_:Tag K):Prop:=zn9 sz i off k n cap lo hi mx K
def vo (P:Program) (t:TypeId) (s x:C) (σ:St) (K:C->St->Prop) (_:Tag K):Prop:=YW P t s x σ K
def zbc (P:Program) (t tn:TypeId) (s x:C) (σ:St) (K:C->St->Prop) (_:Tag K):Prop:=Np P t tn s x σ K
def Me (P:Program) (t:TypeId) (d x:C) (σ:St) (K:C->St->Prop) (_:Tag K):Prop:=Zu P t d x σ K
def yV (P:Program) (t:TypeId) (x:C) (σ:St) (K:C->St->Prop) (_:Tag K):Prop:=Hm P t x σ K
def zo0 (x y:C) (K:C->Prop) (_:Tag K):Prop:=zqu x y K
def zqH (P:Program) (t:TypeId) (c:C) (K:C->Prop) (_:Tag K):Prop:=zqL P t c K
def zgO (L:Option Lay) (c:C) (K:C->Prop) (_:Tag K):Prop:=zsm L c K
def zgR (P:Program) (bx:List (List C)) (s d:TypeId) (c:C) (K:C->Prop) (_:Tag K):Prop:=zbe P bx s d c K
def Ga (P:Program) (t:TypeId) (n:Nat) (parts:List (Nat×C)) (σ:St) (K:C->St->Prop) (_:Tag K):Prop:=Vj P t n parts σ K
def zo3 (P:Program) (L:Option Lay) (n:Nat) (parts:List (Nat×C)) (σ:St) (K:C->St->Prop) (_:Tag K):Prop:=zub P L n parts σ K
def zpw (L:Option Lay) (n:Nat) (parts:List (Nat×C)) (σ:St) (K:C->St->Prop) (_:Tag K):Prop:=ztV L n parts σ K
def zqC (cs:Option (List C)) (k n:Nat) (σ:St) (K:C->St->Prop) (_:Tag K):Prop:=zt4 cs k n σ K
def zao (P:Program) (p:Nat) (t:TypeId) (s x:C) (σ:St) (K:C->St->Prop) (_:Tag K):Prop:=k7 P p t s x σ K
def zqf (P:Program) (L:Option Lay) (p:Nat) (s x:C) (σ:St) (K:C->St->Prop) (_:Tag K):Prop:=ztW P L p s x σ K
def zqy (L:Option Lay) (p:Nat) (s x:C) (σ:St) (K:C->St->Prop) (_:Tag K):Prop:=ztK L p s x σ K
def zq8 (X:Option (Nat×List C)) (p k by':Nat) (z:List Value) (s:C) (σ:St) (K:C->St->Prop) (_:Tag K):Prop:=ztG X p k by' z s σ K
def znd (c:C) (X Y:Prop) (_:Tag X) (_:Tag Y):Prop:=ABr c X Y
def zko (c:C) (U X Y:Prop) (_:Tag U) (_:Tag X) (_:Tag Y):Prop:=zhK c U X Y
def Xk (ops:Array Oper) (tm:List (Nat×C)) (g:Option (Nat×Bool)) (X Y:Prop) (_:Tag ops) (_:Tag X) (_:Tag Y):Prop:=jm ops tm g X Y
def zrV (d:Option Tmp) (tm:List (Nat×C)) (want:Bool) (X Y:Prop) (_:Tag X) (_:Tag Y):Prop:=aGd d tm want X Y
def V8 (P:Program) (G:zq) (h:Hd) (c:Code) (Q:Exit->St->Prop) (σ:St) (_:Tag c) (_:Tag Q):Prop:=awp P G h c Q σ
def zfB (P:Program) (G:zq) (h:Hd) (ops:Array Oper) (l:List Oper) (σ:St) (K:St->Prop) (_:Tag h) (_:Tag ops) (_:Tag l) (_:Tag K):Prop:=zoU P G h ops l σ K
def X8 (P:Program) (G:zq) (h:Hd) (ops:Array Oper) (l:List Oper) (br:List Bool) (σ:St) (K:St->Prop) (_:Tag h) (_:Tag ops) (_:Tag l) (_:Tag K):Prop:=Vf P G h ops l br σ K
def ML (P:Program) (G:zq) (h:Hd) (ops:Array Oper) (br:List Bool) (σ:St) (K:St->Prop) (_:Tag h) (_:Tag ops) (_:Tag K):Prop:=xh P G h ops br σ K
def zoN (P:Program) (G:zq) (Y:Hd) (ops:Array Oper) (rest:List (Nat×MFl)) (q:Nat) (H:List k8) (fl:MFl) (oo:Option Oper) (σ:St) (K:St->Prop):Prop:=match oo with
 | none=>False
 | some o=>match fl with
  | .pure=>jm ops σ.tm o.guard (JI P G σ.bx (zB G σ.tm) o.op σ.nx fun c nx'=>mix P G Y ops rest (q+1) ((q,fun b=>JI P G b (zB G σ.tm) o.op σ.nx fun c' n'=>c'=c/\n'=nx') :: H) ⟨JH σ.tm o.dst c,σ.bx,nx',σ.lg⟩ K)
    (mix P G Y ops rest (q+1) H ⟨JH σ.tm o.dst (.sc undef),σ.bx,σ.nx,σ.lg⟩ K)
  | .bar=>jm ops σ.tm o.guard (N6 P G Y o.op σ fun c σ'=>mix P G Y ops rest (q+1) [] (σ'.put o.dst c) K) (mix P G Y ops rest (q+1) [] (σ.put o.dst (.sc undef)) K)
  | .flt fr=>qS ops σ.tm o.guard true/\zrb P G o.op σ fun c bx' nx'=>Y3 fr bx' H/\mix P G Y ops rest (q+1) H ⟨JH σ.tm o.dst c,bx',nx',σ.lg⟩ K
def kY (P:Program) (G:zq) (h:Hd) (ops:Array Oper) (all:List Oper) (L:List (Nat×MFl)) (q:Nat) (H:List k8) (σ:St) (K:St->Prop) (_:Tag h) (_:Tag ops) (_:Tag all) (_:Tag H) (_:Tag K):Prop:=mix P G h ops L q H σ K
def ND (P:Program) (G:zq) (h:Hd) (ops:Array Oper) (all:List Oper) (L:List (Nat×MFl)) (q:Nat) (H:List k8) (fl:MFl) (i:Nat) (l:List Oper) (σ:St) (K:St->Prop) (_:Tag h) (_:Tag ops) (_:Tag all) (_:Tag H) (_:Tag l) (_:Tag K):Prop:=zoN P G h ops L q H fl (l[i]?) σ K
def zov (fr:List Nat) (b:List (List C)) (H:List k8) (_:Tag H):Prop:=Y3 fr b H
def uv (P:Program) (G:zq) (f:C) (args:List C) (σ:St) (K:C->List (List C)->Nat->Prop) (_:Tag K):Prop:=xw P G f args σ K
def ztl (P:Program) (G:zq) (f:FuncId) (args:List C) (σ:St) (K:C->List (List C)->Nat->Prop) (_:Tag K):Prop:=zlH P G f args σ K
def XH (P:Program) (G:zq) (ops:Array Oper) (a s:Nat) (l:List Oper) (i:Nat) (cs:Option (List C)) (σ:St) (K:St->Prop) (_:Tag ops) (_:Tag l) (_:Tag K):Prop:=jN P G ops a s l i cs σ K
def zlx (cs:Option (List C)) (p:Option Tmp) (σ:St) (K:St->Prop) (_:Tag K):Prop:=zm2 cs p σ K
def zlJ (L:Option Lay) (K:Prop) (_:Tag K):Prop:=zjC L K
def zlh (L:Option Lay) (c:C) (K:C->Prop) (_:Tag K):Prop:=zjK L c K
def jQ (P:Program) (G:zq) (h:Hd) (op:Op) (σ:St) (K:C->St->Prop) (_:Tag h) (_:Tag op) (_:Tag K):Prop:=N6 P G h op σ K
def Zt (P:Program) (G:zq) (f:FuncId) (args fargs:List C) (σ:St) (K:C->St->Prop) (_:Tag K):Prop:=zq6 P G f args fargs σ K
def ud (P:Program) (G:zq) (h:Hd) (c:C) (args:List C) (σ:St) (K:C->St->Prop) (_:Tag h) (_:Tag K):Prop:=ye P G h c args σ K
def zaQ (y:Yd) (it:Option (List C)) (args:List C) (σ:St) (K:C->St->Prop) (_:Tag y) (_:Tag K):Prop:=Nx y it args σ K
def zee (P:Program) (G:zq) (p:Nat) (A B:Nat->(Exit->St->Prop)->St->Prop) (Q:Exit->St->Prop) (ps:List Tmp) (c:C) (σ:St) (_:Tag A) (_:Tag B) (_:Tag Q):Prop:=zay P G p A B Q ps c σ
def jL (P:Program) (G:zq) (bx:List (List C)) (ev:Operand->C) (op:Op) (nx:Nat) (K:C->Nat->Prop) (_:Tag ev) (_:Tag op) (_:Tag K):Prop:=JI P G bx ev op nx K
def zbp (P:Program) (σ:St) (rs:List ResultVar) (K:C->Prop) (_:Tag K):Prop:=zoG P σ rs K
def Y4 (P:Program) (σ:St) (rv:ResultVar) (K:C->Prop) (_:Tag K):Prop:=Yh P σ rv K
def vH (P:Program) (t:TypeId) (op:BinOp) (x y:C) (K:C->Prop) (_:Tag K):Prop:=zoL P t op x y K
def HJ (op:BinOp) (k:IntKind) (a b:Int) (K:C->Prop) (_:Tag K):Prop:=zrG op k a b K
def za4 (l:Option Lay) (op:BinOp) (x:C) (K:C->Prop) (_:Tag K):Prop:=zmZ l op x K
def zhH (op:BinOp) (b:Bool) (K:C->Prop) (_:Tag K):Prop:=NO op b K
def zgt (op:BinOp) (a b:Lz) (K:C->Prop) (_:Tag K):Prop:=zr7 op a b K
def zrA (op:BinOp) (ks:Option (List LK)) (xs ys:List C) (K:C->Prop) (_:Tag K):Prop:=zsN op ks xs ys K
def zoM (n:Bool) (ks:List LK) (xs ys:List C) (e:Bool) (K:C->Prop) (_:Tag K):Prop:=aEq n ks xs ys e K
def zrP (op:UnOp) (x:C) (K:C->Prop) (_:Tag K):Prop:=aUn op x K
def uT (P:Program) (t:TypeId) (c:C) (bx:List (List C)) (K:C->Prop) (_:Tag K):Prop:=v6 P t c bx K
def vg (L:Option Lay) (c:C) (bx:List (List C)) (K:C->Prop) (_:Tag K):Prop:=zpy L c bx K
def zge (cs:Option (List C)) (off:Nat) (L:Lay) (K:C->Prop) (_:Tag K):Prop:=zpL cs off L K
def Uw (L:Lay) (cs:List C) (K:C->Prop) (_:Tag K):Prop:=YK L cs K
def zob (x:Option C) (K:C->Prop) (_:Tag K):Prop:=zsE x K
def ku (c:C) (i:Nat) (K:C->Prop) (_:Tag K):Prop:=UQ c i K
def zkR (c:C) (K:C->Prop) (_:Tag K):Prop:=zrE c K
def uL (P:Program) (t:TypeId) (c:C) (f:Nat) (K:C->Prop) (_:Tag K):Prop:=zbd P t c f K
def uP (L:Option Lay) (c:C) (f:Nat) (K:C->Prop) (_:Tag K):Prop:=vQ L c f K
def zaj (f:Option (Nat×Nat×Bool)) (cs:List C) (K:C->Prop) (_:Tag K):Prop:=Hr f cs K
def Zm (P:Program) (t:TypeId) (c:C) (f:Nat) (K:C->Prop) (_:Tag K):Prop:=QG P t c f K
def zqs (L:Option Lay) (c:C) (f:Nat) (K:C->Prop) (_:Tag K):Prop:=zt9 L c f K
def zod (f:Option (Nat×Nat×Bool)) (c:C) (K:C->Prop) (_:Tag K):Prop:=zq4 f c K
def Zr (P:Program) (t:TypeId) (c:C) (i:C) (K:C->Prop) (_:Tag K):Prop:=QR P t c i K
def zn2 (P:Program) (L:Option Lay) (c:C) (i:C) (K:C->Prop) (_:Tag K):Prop:=ztu P L c i K
def zjx (L:Option Lay) (c:C) (n:Int) (K:C->Prop) (_:Tag K):Prop:=ztt L c n K
def zmJ (rows:Option (List (List C))) (n:Int) (K:C->Prop) (_:Tag K):Prop:=ztp rows n K
def zto (r:Option (List C)) (n:Int) (K:C->Prop) (_:Tag K):Prop:=aAt r n K
def zps (L:Option Lay) (c:C) (m:Nat) (n:Int) (K:C->Prop) (_:Tag K):Prop:=ztS L c m n K
def uK (P:Program) (t:TypeId) (c i:C) (K:C->Prop) (_:Tag K):Prop:=zaO P t c i K
def zpJ (L:Option Lay) (c i:C) (K:C->Prop) (_:Tag K):Prop:=zrN L c i K
def zlC (b:Option UInt8) (n:Int) (K:C->Prop) (_:Tag K):Prop:=zmQ b n K
def vr (P:Program) (t:TypeId) (c:C) (lo hi mx:Option C) (K:C->Prop) (_:Tag K):Prop:=uY P t c lo hi mx K
def zqY (P:Program) (t:TypeId) (c:C) (lo hi mx:Option (Option Int)) (K:C->Prop) (_:Tag K):Prop:=zt6 P t c lo hi mx K
def znl (P:Program) (L:Option Lay) (c:C) (lo hi mx:Option Int) (K:C->Prop) (_:Tag K):Prop:=zti P L c lo hi mx K
def zfT (L:Option Lay) (c:C) (lo hi mx:Option Int) (K:C->Prop) (_:Tag K):Prop:=zt5 L c lo hi mx K
def zo5 (k:Nat) (lo hi mx:Option Int) (K:C->Prop) (_:Tag K):Prop:=zqP k lo hi mx K
def zkr (rows:Option (List (List C))) (k:Nat) (lo hi mx:Option Int) (K:C->Prop) (_:Tag K):Prop:=ztJ rows k lo hi mx K
def zlv (P:Program) (s d:TypeId) (c:C) (K:C->Prop) (_:Tag K):Prop:=zil P s d c K
def zl1 (P:Program) (D S:Option Lay) (c:C) (K:C->Prop) (_:Tag K):Prop:=zuc P D S c K
def yA (P:Program) (t:TypeId) (c:C) (K:C->Prop) (_:Tag K):Prop:=zre P t c K
def xC (L:Option Lay) (n:Int) (K:C->Prop) (_:Tag K):Prop:=zsk L n K
def zlL (L:Option Lay) (n:Int) (K:C->Prop) (_:Tag K):Prop:=zr4 L n K
def y9 (P:Program) (t:TypeId) (parts:List (Nat×C)) (K:C->Prop) (_:Tag K):Prop:=zae P t parts K
def zrp (L:Option Lay) (parts:List (Nat×C)) (K:C->Prop) (_:Tag K):Prop:=zs0 L parts K
def ztf (cs:Option (List C)) (K:C->Prop) (_:Tag K):Prop:=aFl cs K
def Qz (P:Program) (t:TypeId) (n:Nat) (parts:List (Nat×C)) (nx:Nat) (K:C->Nat->Prop) (_:Tag K):Prop:=YS P t n parts nx K
def zar (P:Program) (t:TypeId) (n:Nat) (parts:List (Nat×C)) (nx:Nat) (K:C->Nat->Prop) (_:Tag K):Prop:=Nm P t n parts nx K
def zrr (P:Program) (L:Option Lay) (n:Nat) (parts:List (Nat×C)) (nx:Nat) (K:C->Nat->Prop) (_:Tag K):Prop:=ztw P L n parts nx K
def zpa (L:Option Lay) (e:TypeId) (n:Nat) (parts:List (Nat×C)) (nx:Nat) (K:C->Nat->Prop) (_:Tag K):Prop:=ztX L e n parts nx K
def zpj (cs:Option (List C)) (e k n nx:Nat) (K:C->Nat->Prop) (_:Tag K):Prop:=ztF cs e k n nx K
def zlw (P:Program) (t:TypeId) (l c:C) (nx:Nat) (K:C->Nat->Prop) (_:Tag K):Prop:=zeO P t l c nx K
def x5 (P:Program) (t:TypeId) (l c:C) (σ:St) (K:C->St->Prop) (_:Tag K):Prop:=UK P t l c σ K
def zlg (P:Program) (L:Option Lay) (l c:C) (σ:St) (K:C->St->Prop) (_:Tag K):Prop:=zsB P L l c σ K
def zlG (L:Option Lay) (l c:Int) (σ:St) (K:C->St->Prop) (_:Tag K):Prop:=zsg L l c σ K
def zqb (P:Program) (L:Option Lay) (l c:C) (nx:Nat) (K:C->Nat->Prop) (_:Tag K):Prop:=zud P L l c nx K
def zqD (L:Option Lay) (e:TypeId) (l c:Int) (nx:Nat) (K:C->Nat->Prop) (_:Tag K):Prop:=ztB L e l c nx K
def zbg (P:Program) (t:TypeId) (s x:C) (σ:St) (K:C->St->Prop) (_:Tag K):Prop:=Nh P t s x σ K
def zaJ (P:Program) (t:TypeId) (s x:C) (nx:Nat) (K:C->Nat->Prop) (_:Tag K):Prop:=Vr P t s x nx K
def zq1 (P:Program) (L:Option Lay) (s x:C) (nx:Nat) (K:C->Nat->Prop) (_:Tag K):Prop:=ztM P L s x nx K
def zrk (L:Option Lay) (e:TypeId) (s x:C) (nx:Nat) (K:C->Nat->Prop) (_:Tag K):Prop:=ztN L e s x nx K
def zpz (xs:Option (List (List C))) (s:C) (e k by':Nat) (z:List Value) (nx:Nat) (K:C->Nat->Prop) (_:Tag K):Prop:=zt2 xs s e k by' z nx K
def zqm (P:Program) (L:Option Lay) (id e k:Nat) (rows:List (List C)) (x:C) (σ:St) (K:C->St->Prop) (_:Tag K):Prop:=ztZ P L id e k rows x σ K
def zq7 (L:Option Lay) (e' id e k:Nat) (rows:List (List C)) (x:C) (σ:St) (K:C->St->Prop) (_:Tag K):Prop:=zsy L e' id e k rows x σ K
def zru (xs:Option (List (List C))) (by' id e k:Nat) (rows:List (List C)) (σ:St) (K:C->St->Prop) (_:Tag K):Prop:=zs2 xs by' id e k rows σ K
def zei (P:Program) (G:zq) (callee:C) (args:List C) (nx:Nat) (K:C->Nat->Prop) (_:Tag K):Prop:=x9 P G callee args nx K
def y4 (P:Program) (G:zq) (f:FuncId) (args:List C) (nx:Nat) (K:C->Nat->Prop) (_:Tag K):Prop:=uW P G f args nx K
def zrl (c:C) (σ:St) (K:C->St->Prop) (_:Tag K):Prop:=zsZ c σ K
def zro (L:Option Lay) (σ:St) (K:C->St->Prop) (_:Tag K):Prop:=ztA L σ K
def zqw (L:Option Lay) (p c:C) (σ:St) (K:C->St->Prop) (_:Tag K):Prop:=ztI L p c σ K
def zqp (cs:Option (List C)) (i off size:Nat) (c:C) (σ:St) (K:C->St->Prop) (_:Tag K):Prop:=zt1 cs i off size c σ K
def zln (p:Nat) (B:(Exit->St->Prop)->St->Prop) (Q:Exit->St->Prop) (σ:St) (_:Tag B) (_:Tag Q):Prop:=zkd p B Q σ
def zbb (next:St->Prop) (Q:Exit->St->Prop) (_:Tag next) (_:Tag Q):Exit->St->Prop:=zrt next Q
def ki (id:Nat) (Q:Exit->St->Prop) (_:Tag Q):Exit->St->Prop:=Ml id Q
def Nd (Q:Exit->St->Prop) (_:Tag Q):Exit->St->Prop:=zfU Q
def zaL (next:St->Prop) (Q:Exit->St->Prop) (_:Tag next) (_:Tag Q):Exit->St->Prop:=znW next Q
def zlz (K:St->Prop) (_:Tag K):Exit->St->Prop:=zne K
def uj (m:Nat) (tm:List (Nat×C)) (st:Bool) (next:St) (Q:Exit->St->Prop) (_:Tag next) (_:Tag Q):Exit->St->Prop:=zhm m tm st next Q
def Mp (P:Program) (rs:List ResultVar) (K:C->St->Prop) (_:Tag K):Exit->St->Prop:=zlj P rs K
theorem zra:V8 P G h .skip Q σ ⟨⟩ ⟨⟩=Q .normal σ:=(rfl)
theorem zoa {l:Nat}:V8 P G h (.label l) Q σ ⟨⟩ ⟨⟩=Q .normal σ:=(rfl)
theorem zq3 {id:Nat}:V8 P G h (.exit id) Q σ ⟨⟩ ⟨⟩=Q (.exit id) σ:=(rfl)
theorem zsT:V8 P G h .ret Q σ ⟨⟩ ⟨⟩=Q .ret σ:=(rfl)
theorem zsu {a b:Code}:V8 P G h (.seq a b) Q σ ⟨⟩ ⟨⟩=V8 P G h a (zbb (fun σ=>V8 P G h b Q σ ⟨⟩ ⟨⟩) Q ⟨⟩ ⟨⟩) σ ⟨⟩ ⟨⟩:=(rfl)
theorem zpg {cc:Operand} {a b:Code}:V8 P G h (.cond cc a b) Q ⟨tm,bx,nx,lg⟩ ⟨⟩ ⟨⟩=znd (zB G tm cc) (V8 P G h a Q ⟨tm,bx,nx,lg⟩ ⟨⟩ ⟨⟩) (V8 P G h b Q ⟨tm,bx,nx,lg⟩ ⟨⟩ ⟨⟩) ⟨⟩ ⟨⟩:=(rfl)
theorem znP {id:Nat} {a:Code}:V8 P G h (.block id a) Q σ ⟨⟩ ⟨⟩=V8 P G h a (ki id Q ⟨⟩) σ ⟨⟩ ⟨⟩:=(rfl)
theorem zpp {a:Code}:V8 P G ⟨p,yd,bf⟩ (.loop a) Q σ ⟨⟩ ⟨⟩=zln p (fun Q σ=>V8 P G ⟨p,yd,bf⟩ a Q σ ⟨⟩ ⟨⟩) Q σ ⟨⟩ ⟨⟩:=(rfl)
theorem ziL {a b:Code} {x:Operand} {ps:List Tmp}:V8 P G ⟨p,yd,bf⟩ (.rangeFunc x ps.toArray a b) Q ⟨tm,bx,nx,lg⟩ ⟨⟩ ⟨⟩=zee P G p (fun m=>fun Q σ=>V8 P G ⟨m,yd,bf⟩ a Q σ ⟨⟩ ⟨⟩) (fun m=>fun Q σ=>V8 P G ⟨m,yd,bf⟩ b Q σ ⟨⟩ ⟨⟩) Q ps (zB G tm x) ⟨tm,bx,nx,lg⟩ ⟨⟩ ⟨⟩ ⟨⟩:=(rfl)
theorem zmU {a:Code}:V8 P G h (.scope a) Q σ ⟨⟩ ⟨⟩=V8 P G h a (Nd Q ⟨⟩) σ ⟨⟩ ⟨⟩:=(rfl)
theorem zjT {id:Nat} {l:List Oper}:V8 P G ⟨p,yd,bf⟩ (.region id l.toArray false) Q σ ⟨⟩ ⟨⟩=zfB P G ⟨p,yd,bf⟩ l.toArray l σ (Q .normal) ⟨⟩ ⟨⟩ ⟨⟩ ⟨⟩:=(rfl)
theorem zeA {id:Nat} {l:List Oper}:V8 P G ⟨p,yd,bf⟩ (.region id l.toArray true) Q σ ⟨⟩ ⟨⟩=ML P G ⟨p,yd,bf⟩ l.toArray (bf id) σ (Q .normal) ⟨⟩ ⟨⟩ ⟨⟩:=(rfl)
theorem zkx {l:List Oper}:ML P G h l.toArray [] σ KS ⟨⟩ ⟨⟩ ⟨⟩=X8 P G h l.toArray l [] σ KS ⟨⟩ ⟨⟩ ⟨⟩ ⟨⟩:=(rfl)
theorem zh9 {l:List Oper} {r:List Bool}:ML P G h l.toArray (false :: r) σ KS ⟨⟩ ⟨⟩ ⟨⟩=X8 P G h l.toArray l (false :: r) σ KS ⟨⟩ ⟨⟩ ⟨⟩ ⟨⟩:=(rfl)
theorem ziu {l:List Oper} {L:List (Nat×MFl)}:ML P G h l.toArray (Hq L) σ KS ⟨⟩ ⟨⟩ ⟨⟩=kY P G h l.toArray l L 0 [] σ KS ⟨⟩ ⟨⟩ ⟨⟩ ⟨⟩ ⟨⟩:=(show xh P G h l.toArray (Hq L) σ KS=mix P G h l.toArray L 0 [] σ KS from by
 unfold xh Hq;rw[show Gu (zhB 199 (unR (zdC L)))=none from rfl,HV];simp only[zcd])
theorem zq2 {all:List Oper}:kY P G h ops all [] q H σ KS ⟨⟩ ⟨⟩ ⟨⟩ ⟨⟩ ⟨⟩=KS σ:=(rfl)
theorem zqn {all:List Oper} {fl:MFl} {L:List (Nat×MFl)}:kY P G h all.toArray all ((i,fl) :: L) q H σ KS ⟨⟩ ⟨⟩ ⟨⟩ ⟨⟩ ⟨⟩=ND P G h all.toArray all L q H fl i all σ KS ⟨⟩ ⟨⟩ ⟨⟩ ⟨⟩ ⟨⟩ ⟨⟩:=(show mix P G h all.toArray ((i,fl) :: L) q H σ KS=zoN P G h all.toArray L q H fl (all[i]?) σ KS from rfl)
theorem zpN {o:Oper} {all l:List Oper} {fl:MFl} {L:List (Nat×MFl)}:ND P G h ops all L q H fl (i+1) (o :: l) σ KS ⟨⟩ ⟨⟩ ⟨⟩ ⟨⟩ ⟨⟩ ⟨⟩=ND P G h ops all L q H fl i l σ KS ⟨⟩ ⟨⟩ ⟨⟩ ⟨⟩ ⟨⟩ ⟨⟩:=(show zoN P G h ops L q H fl ((o :: l)[i+1]?) σ KS=zoN P G h ops L q H fl (l[i]?) σ KS from rfl)
theorem zqe {all:List Oper} {L:List (Nat×MFl)} {op:Op}:ND P G h ops all L q H .pure 0 (⟨dst,op,ty,pos,af,g⟩ :: rest) ⟨tm,bx,nx,lg⟩ KS ⟨⟩ ⟨⟩ ⟨⟩ ⟨⟩ ⟨⟩ ⟨⟩ =
  Xk ops tm g (jL P G bx (zB G tm) op nx (fun c nx'=>kY P G h ops all L (q+1) ((q,fun b=>jL P G b (zB G tm) op nx (fun c' n'=>c'=c/\n'=nx') ⟨⟩ ⟨⟩ ⟨⟩) :: H) ⟨JH tm dst c,bx,nx',lg⟩ KS ⟨⟩ ⟨⟩ ⟨⟩ ⟨⟩ ⟨⟩) ⟨⟩ ⟨⟩ ⟨⟩) (kY P G h ops all L (q+1) H ⟨JH tm dst (.sc undef),bx,nx,lg⟩ KS ⟨⟩ ⟨⟩ ⟨⟩ ⟨⟩ ⟨⟩) ⟨⟩ ⟨⟩ ⟨⟩:=
 (show zoN P G h ops L q H .pure (some ⟨dst,op,ty,pos,af,g⟩) ⟨tm,bx,nx,lg⟩ KS=_ from rfl)
theorem zpr {all:List Oper} {L:List (Nat×MFl)} {op:Op}:ND P G h ops all L q H .bar 0 (⟨dst,op,ty,pos,af,g⟩ :: rest) ⟨tm,bx,nx,lg⟩ KS ⟨⟩ ⟨⟩ ⟨⟩ ⟨⟩ ⟨⟩ ⟨⟩ =
  Xk ops tm g (jQ P G h op ⟨tm,bx,nx,lg⟩ (fun c σ'=>kY P G h ops all L (q+1) [] (σ'.put dst c) KS ⟨⟩ ⟨⟩ ⟨⟩ ⟨⟩ ⟨⟩) ⟨⟩ ⟨⟩ ⟨⟩) (kY P G h ops all L (q+1) [] ((St.mk tm bx nx lg).put dst (.sc undef)) KS ⟨⟩ ⟨⟩ ⟨⟩ ⟨⟩ ⟨⟩) ⟨⟩ ⟨⟩ ⟨⟩:=
 (show zoN P G h ops L q H .bar (some ⟨dst,op,ty,pos,af,g⟩) ⟨tm,bx,nx,lg⟩ KS=_ from rfl)
theorem zlO {all:List Oper} {L:List (Nat×MFl)} {fr:List Nat}:ND P G h ops all L q H (.flt fr) 0 (⟨dst,.store t x y,ty,pos,af,none⟩ :: rest) ⟨tm,bx,nx,lg⟩ KS ⟨⟩ ⟨⟩ ⟨⟩ ⟨⟩ ⟨⟩ ⟨⟩ =
  jQ P G h (.store t x y) ⟨tm,bx,nx,lg⟩ (fun c σ'=>zov fr σ'.bx H ⟨⟩/\kY P G h ops all L (q+1) H ⟨JH tm dst c,σ'.bx,σ'.nx,lg⟩ KS ⟨⟩ ⟨⟩ ⟨⟩ ⟨⟩ ⟨⟩) ⟨⟩ ⟨⟩ ⟨⟩:=
 (show (qS ops tm none true/\ZT P t (zB G tm x) (zB G tm y) ⟨tm,bx,nx,lg⟩ fun c σ'=>Y3 fr σ'.bx H/\mix P G h ops L (q+1) H ⟨JH tm dst c,σ'.bx,σ'.nx,lg⟩ KS)=_ from propext ⟨fun h=>h.2,fun h=>⟨rfl,h⟩⟩)
theorem zlM {all:List Oper} {L:List (Nat×MFl)} {fr:List Nat}:ND P G h ops all L q H (.flt fr) 0 (⟨dst,.call ⟨.builtin .copy,#[x,y],#[t,t']⟩,ty,pos,af,none⟩ :: rest) ⟨tm,bx,nx,lg⟩ KS ⟨⟩ ⟨⟩ ⟨⟩ ⟨⟩ ⟨⟩ ⟨⟩ =
  Me P t (zB G tm x) (zB G tm y) ⟨tm,bx,nx,lg⟩ (fun c σ'=>zov fr σ'.bx H ⟨⟩/\kY P G h ops all L (q+1) H ⟨JH tm dst c,σ'.bx,σ'.nx,lg⟩ KS ⟨⟩ ⟨⟩ ⟨⟩ ⟨⟩ ⟨⟩) ⟨⟩:=
 (show (qS ops tm none true/\Zu P t (zB G tm x) (zB G tm y) ⟨tm,bx,nx,lg⟩ fun c σ'=>Y3 fr σ'.bx H/\mix P G h ops L (q+1) H ⟨JH tm dst c,σ'.bx,σ'.nx,lg⟩ KS)=_ from propext ⟨fun h=>h.2,fun h=>⟨rfl,h⟩⟩)
theorem zp0 {all:List Oper} {L:List (Nat×MFl)} {fr:List Nat} {tys:Array TypeId}:ND P G h ops all L q H (.flt fr) 0 (⟨dst,.call ⟨.value x,us.toArray,tys⟩,ty,pos,af,none⟩ :: rest) ⟨tm,bx,nx,lg⟩ KS ⟨⟩ ⟨⟩ ⟨⟩ ⟨⟩ ⟨⟩ ⟨⟩ =
  uv P G (zB G tm x) (us.map (zB G tm)) ⟨tm,bx,nx,lg⟩ (fun c b' n'=>zov fr b' H ⟨⟩/\kY P G h ops all L (q+1) H ⟨JH tm dst c,b',n',lg⟩ KS ⟨⟩ ⟨⟩ ⟨⟩ ⟨⟩ ⟨⟩) ⟨⟩:=
 (show (qS ops tm none true/\xw P G (zB G tm x) (us.map (zB G tm)) ⟨tm,bx,nx,lg⟩ fun c b' n'=>Y3 fr b' H/\mix P G h ops L (q+1) H ⟨JH tm dst c,b',n',lg⟩ KS)=_ from propext ⟨fun h=>h.2,fun h=>⟨rfl,h⟩⟩)
theorem HG:(qS ops tm g true/\X)=jm ops tm g X False:=by
 refine propext ⟨fun ⟨h,hx⟩=>?_,fun h=>?_⟩
 ·cases g with
  | none=>exact hx
  | some g =>
   obtain ⟨j,want⟩:=g;obtain ⟨d,h1,h2⟩:=h;unfold jm;simp only[h1];rcases h2 with ⟨t,h2,h3⟩ | ⟨_,h3⟩
   ·have h3:t=want:=by simpa using h3.symm
    subst h3;cases t
    ·simp only[h2];unfold zhK;exact ⟨fun h=>(by cases h),fun _=>hx⟩
    ·simp only[h2];unfold zhK;exact ⟨fun _=>hx,fun h=>(by cases h)⟩
   ·cases h3
 ·obtain ⟨b,h1,h2,h3⟩:=jm.out h;cases b with
  | true=>exact ⟨h1,h2 rfl⟩
  | false=>exact (h3 rfl).elim
theorem zms {all:List Oper} {L:List (Nat×MFl)} {fr:List Nat} {tys:Array TypeId} {g:Nat×Bool}:ND P G h ops all L q H (.flt fr) 0 (⟨dst,.call ⟨.value x,us.toArray,tys⟩,ty,pos,af,some g⟩ :: rest) ⟨tm,bx,nx,lg⟩ KS ⟨⟩ ⟨⟩ ⟨⟩ ⟨⟩ ⟨⟩ ⟨⟩ =
  Xk ops tm (some g) (uv P G (zB G tm x) (us.map (zB G tm)) ⟨tm,bx,nx,lg⟩ (fun c b' n'=>zov fr b' H ⟨⟩/\kY P G h ops all L (q+1) H ⟨JH tm dst c,b',n',lg⟩ KS ⟨⟩ ⟨⟩ ⟨⟩ ⟨⟩ ⟨⟩) ⟨⟩) False ⟨⟩ ⟨⟩ ⟨⟩:=
 (show (qS ops tm (some g) true/\xw P G (zB G tm x) (us.map (zB G tm)) ⟨tm,bx,nx,lg⟩ fun c b' n'=>Y3 fr b' H/\mix P G h ops L (q+1) H ⟨JH tm dst c,b',n',lg⟩ KS)=_ from HG)
theorem zmt {K4:C->List (List C)->Nat->Prop} {fs:List C}:uv P G (.clo (.func f) fs cs) args ⟨tm,bx,nx,lg⟩ K4 ⟨⟩=ztl P G f (fs++args++cs) ⟨tm,bx,nx,lg⟩ K4 ⟨⟩:=(rfl)
theorem znC {p:Prop} [Decidable p]:(if p then True else True)=True:=ite_self _
theorem zqZ {fr:List Nat} {b:List (List C)}:zov fr b [] ⟨⟩=True:=(rfl)
theorem zpP {fr:List Nat} {b:List (List C)} {f:List (List C)->Prop} {r:List k8}:zov fr b ((k,f) :: r) ⟨⟩=((if k∈fr then f b else True)/\zov fr b r ⟨⟩):=(show ((match fr.contains k with | true=>f b | false=>True)/\Y3 fr b r)=((if k∈fr then f b else True)/\Y3 fr b r) from by
 cases hq:fr.contains k with
 | true=>rw[if_pos (by simpa using hq)]
 | false=>rw[if_neg fun h=>by simp[h]at hq])
theorem zix {l:List Oper} {a s:Nat}:ML P G h l.toArray (JJ a s) σ KS ⟨⟩ ⟨⟩ ⟨⟩=XH P G l.toArray a s l 0 none σ KS ⟨⟩ ⟨⟩ ⟨⟩:=(show xh P G h l.toArray (JJ a s) σ KS=jN P G l.toArray a s l 0 none σ KS from by unfold xh;rw[Mm])
theorem zhq {a s:Nat} {cs:Option (List C)} {l:List Oper}:XH P G l.toArray a s [] i cs σ KS ⟨⟩ ⟨⟩ ⟨⟩=zlx cs ((l[a]?).bind (·.dst)) σ KS ⟨⟩:=(show jN P G l.toArray a s [] i cs σ KS=zm2 cs ((l[a]?).bind (·.dst)) σ KS from by simp only[jN,zm2,Ah];rfl)
theorem zfj {a s:Nat} {cs:Option (List C)}:XH P G ops a s (⟨dst,.alloc t,ty,pos,af,g⟩ :: rest) a cs ⟨tm,bx,nx,lg⟩ KS ⟨⟩ ⟨⟩ ⟨⟩=zlJ (lay P t) (XH P G ops a s rest (a+1) cs ⟨JH tm dst .any,bx,nx,lg⟩ KS ⟨⟩ ⟨⟩ ⟨⟩) ⟨⟩:=(show jN P G ops a s (⟨dst,.alloc t,ty,pos,af,g⟩ :: rest) a cs ⟨tm,bx,nx,lg⟩ KS=zjC (lay P t) (jN P G ops a s rest (a+1) cs ⟨JH tm dst .any,bx,nx,lg⟩ KS) from by simp only[jN,if_true])
theorem zgE {a s:Nat} {cs:Option (List C)} (hsa:(s==a)=false):XH P G ops a s (⟨dst,.store t y x,ty,pos,af,g⟩ :: rest) s cs ⟨tm,bx,nx,lg⟩ KS ⟨⟩ ⟨⟩ ⟨⟩=zlh (lay P t) (zB G tm x) (fun c=>XH P G ops a s rest (s+1) (some c.cells) ⟨JH tm dst .any,bx,nx,lg⟩ KS ⟨⟩ ⟨⟩ ⟨⟩) ⟨⟩:=(show jN P G ops a s (⟨dst,.store t y x,ty,pos,af,g⟩ :: rest) s cs ⟨tm,bx,nx,lg⟩ KS=zjK (lay P t) (zB G tm x) fun c=>jN P G ops a s rest (s+1) (some c.cells) ⟨JH tm dst .any,bx,nx,lg⟩ KS from by simp only[OU]at hsa;simp only[jN,if_neg hsa,if_true])
theorem zja {a s:Nat} {cs:Option (List C)} {op:Op} (hia:(i==a)=false) (his:(i==s)=false):XH P G ops a s (⟨dst,op,ty,pos,af,g⟩ :: rest) i cs ⟨tm,bx,nx,lg⟩ KS ⟨⟩ ⟨⟩ ⟨⟩=Xk ops tm g (jL P G bx (zB G tm) op nx (fun c nx'=>XH P G ops a s rest (i+1) cs ⟨JH tm dst c,bx,nx',lg⟩ KS ⟨⟩ ⟨⟩ ⟨⟩) ⟨⟩ ⟨⟩ ⟨⟩) (XH P G ops a s rest (i+1) cs ⟨JH tm dst (.sc undef),bx,nx,lg⟩ KS ⟨⟩ ⟨⟩ ⟨⟩) ⟨⟩ ⟨⟩ ⟨⟩:=(show jN P G ops a s (⟨dst,op,ty,pos,af,g⟩ :: rest) i cs ⟨tm,bx,nx,lg⟩ KS=jm ops tm g (JI P G bx (zB G tm) op nx fun c nx'=>jN P G ops a s rest (i+1) cs ⟨JH tm dst c,bx,nx',lg⟩ KS) (jN P G ops a s rest (i+1) cs ⟨JH tm dst (.sc undef),bx,nx,lg⟩ KS) from by simp only[OU]at hia his;simp only[jN,if_neg hia,if_neg his])
theorem zpf {u:Tmp}:zlx (some cs) (some u) ⟨tm,bx,nx,lg⟩ KS ⟨⟩=KS ⟨(u,.ptr bx.length 0) :: tm,bx++[cs],nx,lg⟩:=(rfl)
theorem zqM {z1:List Value}:zlJ (some ⟨kd,k,b1,some z1⟩) X ⟨⟩=(z1.length=k/\(z1.all Value.oneCell')=true/\X):=(rfl)
theorem zpc:zlh (some L) c K ⟨⟩=(c.partB=true/\(c.cells.all C.cellB)=true/\c.cells.length=L.size/\K c):=(rfl)
theorem zp9:zlz KS ⟨⟩ .normal σ=KS σ:=(rfl)
theorem zg3 {next:St} {b:Bool}:uj m tm b next Q ⟨⟩ ⟨⟩ .normal σ=(b=false/\Yc m ⟨[],σ.bx,σ.nx,σ.lg⟩ (next.wt [])):=(rfl)
theorem vW {next:St} {b:Bool}:uj m tm b next Q ⟨⟩ ⟨⟩ .ret σ=(b=true/\∃ σ':St,σ'.bx.length=m/\Yc m ⟨[],σ.bx,σ.nx,σ.lg⟩ (σ'.wt [])/\Q .ret (σ'.wt tm)):=(rfl)
theorem zt7 {tm2:List (Nat×C)}:St.wt ⟨tm,bx,nx,lg⟩ tm2=⟨tm2,bx,nx,lg⟩:=(rfl)
theorem ziX:VB [] cs tm=tm:=(rfl)
theorem zlP {ps:List Tmp}:VB (u :: ps) (c :: cs) tm=VB ps cs ((u,c) :: tm):=(rfl)
theorem zmj:HD m [] = []:=(rfl)
theorem zqq {r:List (Nat×C)}:HD m ((u,c) :: r)=(u,c.sel (GE m)) :: HD m r:=(rfl)
theorem zp8 {next:St->Prop}:zbb next Q ⟨⟩ ⟨⟩ .normal σ=next σ:=(rfl)
theorem vh {next:St->Prop} {id:Nat}:zbb next Q ⟨⟩ ⟨⟩ (.exit id) σ=Q (.exit id) σ:=(rfl)
theorem zcX {next:St->Prop}:zbb next Q ⟨⟩ ⟨⟩ .ret σ=Q .ret σ:=(rfl)
theorem zhv {id:Nat}:ki id Q ⟨⟩ .normal σ=Q .normal σ:=(rfl)
theorem xV {id:Nat}:ki id Q ⟨⟩ (.exit id) σ=Q .normal σ:=(show Ml id Q (.exit id) σ=Q .normal σ from if_pos rfl)
theorem yb {id id2:Nat} (h:(id2==id)=false):ki id Q ⟨⟩ (.exit id2) σ=Q (.exit id2) σ:=(show Ml id Q (.exit id2) σ=Q (.exit id2) σ from if_neg (by simpa using h))
theorem yX {id:Nat}:ki id Q ⟨⟩ .ret σ=Q .ret σ:=(rfl)
theorem zc5:Nd Q ⟨⟩ .normal σ=Q .normal σ:=(rfl)
theorem MX:Nd Q ⟨⟩ .ret σ=Q .ret σ:=(rfl)
theorem zjF {next:St->Prop}:zaL next Q ⟨⟩ ⟨⟩ .normal σ=next σ:=(rfl)
theorem vD {next:St->Prop} {id:Nat}:zaL next Q ⟨⟩ ⟨⟩ (.exit id) σ=Q (.exit id) σ:=(rfl)
theorem zbZ {next:St->Prop}:zaL next Q ⟨⟩ ⟨⟩ .ret σ=Q .ret σ:=(rfl)
theorem zmn {rs:List ResultVar}:Mp P rs K3 ⟨⟩ .normal σ=zbp P σ rs (fun c=>K3 c σ) ⟨⟩:=(rfl)
theorem zom {rs:List ResultVar}:Mp P rs K3 ⟨⟩ .ret σ=zbp P σ rs (fun c=>K3 c σ) ⟨⟩:=(rfl)
theorem zqt:zbp P σ [] K ⟨⟩=K (.tup []):=(rfl)
theorem zrh {a:ResultVar}:zbp P σ [a] K ⟨⟩=Y4 P σ a K ⟨⟩:=(rfl)
theorem zpO {a b:ResultVar}:zbp P σ [a,b] K ⟨⟩=Y4 P σ a (fun c=>Y4 P σ b (fun d=>K (.tup [c,d])) ⟨⟩) ⟨⟩:=(rfl)
theorem zpV {a b c1:ResultVar}:zbp P σ [a,b,c1] K ⟨⟩=Y4 P σ a (fun c=>Y4 P σ b (fun d=>Y4 P σ c1 (fun e=>K (.tup [c,d,e])) ⟨⟩) ⟨⟩) ⟨⟩:=(rfl)
theorem zqi:Y4 P ⟨tm,bx,nx,lg⟩ (.tmp u) K ⟨⟩=K (j7 tm u):=(rfl)
theorem zqJ:Y4 P ⟨tm,bx,nx,lg⟩ (.cell u t) K ⟨⟩=uT P t (j7 tm u) bx K ⟨⟩:=(rfl)
theorem zok:zfB P G h ops [] σ KS ⟨⟩ ⟨⟩ ⟨⟩ ⟨⟩=KS σ:=(rfl)
theorem zoZ {op:Op}:zfB P G h ops (⟨dst,op,ty,pos,af,g⟩ :: rest) ⟨tm,bx,nx,lg⟩ KS ⟨⟩ ⟨⟩ ⟨⟩ ⟨⟩=Xk ops tm g (jQ P G h op ⟨tm,bx,nx,lg⟩ (fun c σ'=>zfB P G h ops rest (σ'.put dst c) KS ⟨⟩ ⟨⟩ ⟨⟩ ⟨⟩) ⟨⟩ ⟨⟩ ⟨⟩) (zfB P G h ops rest (St.put ⟨tm,bx,nx,lg⟩ dst (.sc undef)) KS ⟨⟩ ⟨⟩ ⟨⟩ ⟨⟩) ⟨⟩ ⟨⟩ ⟨⟩:=(rfl)
theorem zjD:X8 P G h ops [] brs σ KS ⟨⟩ ⟨⟩ ⟨⟩ ⟨⟩=KS σ:=(rfl)
theorem zj0 {op:Op}:X8 P G h ops (⟨dst,op,ty,pos,af,g⟩ :: rest) [] ⟨tm,bx,nx,lg⟩ KS ⟨⟩ ⟨⟩ ⟨⟩ ⟨⟩=Xk ops tm g (jL P G bx (zB G tm) op nx (fun c nx'=>X8 P G h ops rest [] ⟨JH tm dst c,bx,nx',lg⟩ KS ⟨⟩ ⟨⟩ ⟨⟩ ⟨⟩) ⟨⟩ ⟨⟩ ⟨⟩) (X8 P G h ops rest [] ⟨JH tm dst (.sc undef),bx,nx,lg⟩ KS ⟨⟩ ⟨⟩ ⟨⟩ ⟨⟩) ⟨⟩ ⟨⟩ ⟨⟩:=(rfl)
theorem zju {op:Op}:X8 P G h ops (⟨dst,op,ty,pos,af,g⟩ :: rest) (false :: brs) ⟨tm,bx,nx,lg⟩ KS ⟨⟩ ⟨⟩ ⟨⟩ ⟨⟩=Xk ops tm g (jL P G bx (zB G tm) op nx (fun c nx'=>X8 P G h ops rest brs ⟨JH tm dst c,bx,nx',lg⟩ KS ⟨⟩ ⟨⟩ ⟨⟩ ⟨⟩) ⟨⟩ ⟨⟩ ⟨⟩) (X8 P G h ops rest brs ⟨JH tm dst (.sc undef),bx,nx,lg⟩ KS ⟨⟩ ⟨⟩ ⟨⟩ ⟨⟩) ⟨⟩ ⟨⟩ ⟨⟩:=(rfl)
theorem zjX {op:Op}:X8 P G h ops (⟨dst,op,ty,pos,af,g⟩ :: rest) (true :: brs) ⟨tm,bx,nx,lg⟩ KS ⟨⟩ ⟨⟩ ⟨⟩ ⟨⟩=Xk ops tm g (jQ P G h op ⟨tm,bx,nx,lg⟩ (fun c σ'=>X8 P G h ops rest brs (σ'.put dst c) KS ⟨⟩ ⟨⟩ ⟨⟩ ⟨⟩) ⟨⟩ ⟨⟩ ⟨⟩) (X8 P G h ops rest brs ⟨JH tm dst (.sc undef),bx,nx,lg⟩ KS ⟨⟩ ⟨⟩ ⟨⟩ ⟨⟩) ⟨⟩ ⟨⟩ ⟨⟩:=(rfl)
theorem zi6:Xk ops tm none X Y ⟨⟩ ⟨⟩ ⟨⟩=X:=(rfl)
theorem zmp {l:List Oper} {want:Bool}:Xk l.toArray tm (some (j,want)) X Y ⟨⟩ ⟨⟩ ⟨⟩=zrV ((l[j]?).bind (·.dst)) tm want X Y ⟨⟩ ⟨⟩:=(show jm l.toArray tm (some (j,want)) X Y=aGd ((l[j]?).bind (·.dst)) tm want X Y from by simp only[jm,Ah];rfl)
theorem zqj {u:Tmp}:zrV (some u) tm true X Y ⟨⟩ ⟨⟩=zko (j7 tm u) Y X Y ⟨⟩ ⟨⟩ ⟨⟩:=(rfl)
theorem zpt {u:Tmp}:zrV (some u) tm false X Y ⟨⟩ ⟨⟩=zko (j7 tm u) Y Y X ⟨⟩ ⟨⟩ ⟨⟩:=(rfl)
theorem zm5 {U:Prop} {b:Bool}:zko (.sc (.bool b)) U X Y ⟨⟩ ⟨⟩ ⟨⟩=znd (.sc (.bool b)) X Y ⟨⟩ ⟨⟩:=(rfl)
theorem zl5 {U:Prop}:zko (.sc undef) U X Y ⟨⟩ ⟨⟩ ⟨⟩=U:=(rfl)
theorem zcc {u:Tmp}:St.put ⟨tm,bx,nx,lg⟩ (some u) c=⟨(u,c) :: tm,bx,nx,lg⟩:=(rfl)
theorem zcw:St.put ⟨tm,bx,nx,lg⟩ none c=⟨tm,bx,nx,lg⟩:=(rfl)
theorem yY {u:Tmp}:JH tm (some u) c=(u,c) :: tm:=(rfl)
theorem yC:JH tm none c=tm:=(rfl)
theorem HR {ps:List (Nat×Operand)}:jQ P G h (.buildSlice t n ps.toArray) ⟨tm,bx,nx,lg⟩ K3 ⟨⟩ ⟨⟩ ⟨⟩=if h.bx t then Ga P t n (ps.map fun p=>(p.1,zB G tm p.2)) ⟨tm,bx,nx,lg⟩ K3 ⟨⟩ else Qz P t n (ps.map fun p=>(p.1,zB G tm p.2)) nx (fun c nx'=>K3 c ⟨tm,bx,nx',lg⟩) ⟨⟩:=(rfl)
theorem HH {ps:List (Nat×Operand)} {ev:Operand->C}:jL P G bx ev (.buildSlice t n ps.toArray) nx K2 ⟨⟩ ⟨⟩ ⟨⟩=zar P t n (ps.map fun p=>(p.1,ev p.2)) nx K2 ⟨⟩:=(rfl)
theorem zrU:zar P t (n+1) ps nx K2 ⟨⟩=Qz P t (n+1) ps nx K2 ⟨⟩:=(rfl)
theorem Nu:jQ P G h (.makeSlice t x y) ⟨tm,bx,nx,lg⟩ K3 ⟨⟩ ⟨⟩ ⟨⟩=if h.bx t then x5 P t (zB G tm x) (zB G tm y) ⟨tm,bx,nx,lg⟩ K3 ⟨⟩ else zlw P t (zB G tm x) (zB G tm y) nx (fun c nx'=>K3 c ⟨tm,bx,nx',lg⟩) ⟨⟩:=(rfl)
theorem zrd:Hd.bx ⟨p,yd,bf⟩ t=(bf (1000000+t)).headD false:=(rfl)
theorem znI:Hd.bx2 ⟨p,yd,bf⟩ t=((bf (1000000+t)).drop 1).headD false:=(rfl)
theorem zhR:jQ P G h (.move x) ⟨tm,bx,nx,lg⟩ K3 ⟨⟩ ⟨⟩ ⟨⟩=K3 (zB G tm x) ⟨tm,bx,nx,lg⟩:=(rfl)
theorem zk3 {ev:Operand->C}:jL P G bx ev (.move x) nx K2 ⟨⟩ ⟨⟩ ⟨⟩=K2 (ev x) nx:=(rfl)
theorem zcg:jQ P G h (.assign x) ⟨tm,bx,nx,lg⟩ K3 ⟨⟩ ⟨⟩ ⟨⟩=K3 (zB G tm x) ⟨tm,bx,nx,lg⟩:=(rfl)
theorem zbz {ev:Operand->C}:jL P G bx ev (.assign x) nx K2 ⟨⟩ ⟨⟩ ⟨⟩=K2 (ev x) nx:=(rfl)
theorem zh3:jQ P G h (.pick x y z) ⟨tm,bx,nx,lg⟩ K3 ⟨⟩ ⟨⟩ ⟨⟩=znd (zB G tm x) (K3 (zB G tm y) ⟨tm,bx,nx,lg⟩) (K3 (zB G tm z) ⟨tm,bx,nx,lg⟩) ⟨⟩ ⟨⟩:=(rfl)
theorem zkW {ev:Operand->C}:jL P G bx ev (.pick x y z) nx K2 ⟨⟩ ⟨⟩ ⟨⟩=znd (ev x) (K2 (ev y) nx) (K2 (ev z) nx) ⟨⟩ ⟨⟩:=(rfl)
theorem zev {ps:List (Nat×Operand)}:jQ P G h (.build t ps.toArray) ⟨tm,bx,nx,lg⟩ K3 ⟨⟩ ⟨⟩ ⟨⟩=y9 P t (ps.map fun p=>(p.1,zB G tm p.2)) (fun c=>K3 c ⟨tm,bx,nx,lg⟩) ⟨⟩:=(rfl)
theorem zeD {ps:List (Nat×Operand)} {ev:Operand->C}:jL P G bx ev (.build t ps.toArray) nx K2 ⟨⟩ ⟨⟩ ⟨⟩=y9 P t (ps.map fun p=>(p.1,ev p.2)) (fun c=>K2 c nx) ⟨⟩:=(rfl)
theorem zit:jQ P G h (.load t x) ⟨tm,bx,nx,lg⟩ K3 ⟨⟩ ⟨⟩ ⟨⟩=uT P t (zB G tm x) bx (fun c=>K3 c ⟨tm,bx,nx,lg⟩) ⟨⟩:=(rfl)
theorem zi0 {ev:Operand->C}:jL P G bx ev (.load t x) nx K2 ⟨⟩ ⟨⟩ ⟨⟩=uT P t (ev x) bx (fun c=>K2 c nx) ⟨⟩:=(rfl)
theorem xa:jQ P G h (.nilCheck x) ⟨tm,bx,nx,lg⟩ K3 ⟨⟩ ⟨⟩ ⟨⟩=zkR (zB G tm x) (fun c=>K3 c ⟨tm,bx,nx,lg⟩) ⟨⟩:=(rfl)
theorem xK {ev:Operand->C}:jL P G bx ev (.nilCheck x) nx K2 ⟨⟩ ⟨⟩ ⟨⟩=zkR (ev x) (fun c=>K2 c nx) ⟨⟩:=(rfl)
theorem zel:jQ P G h (.binOp op t x y t') ⟨tm,bx,nx,lg⟩ K3 ⟨⟩ ⟨⟩ ⟨⟩=vH P t op (zB G tm x) (zB G tm y) (fun c=>K3 c ⟨tm,bx,nx,lg⟩) ⟨⟩:=(rfl)
theorem zf3 {ev:Operand->C}:jL P G bx ev (.binOp op t x y t') nx K2 ⟨⟩ ⟨⟩ ⟨⟩=vH P t op (ev x) (ev y) (fun c=>K2 c nx) ⟨⟩:=(rfl)
theorem zjL {op:UnOp}:jQ P G h (.unOp op t x) ⟨tm,bx,nx,lg⟩ K3 ⟨⟩ ⟨⟩ ⟨⟩=zrP op (zB G tm x) (fun c=>K3 c ⟨tm,bx,nx,lg⟩) ⟨⟩:=(rfl)
theorem zhU {op:UnOp} {ev:Operand->C}:jL P G bx ev (.unOp op t x) nx K2 ⟨⟩ ⟨⟩ ⟨⟩=zrP op (ev x) (fun c=>K2 c nx) ⟨⟩:=(rfl)
theorem uw:jQ P G h (.convert t t' x) ⟨tm,bx,nx,lg⟩ K3 ⟨⟩ ⟨⟩ ⟨⟩=zgR P bx t t' (zB G tm x) (fun c=>K3 c ⟨tm,bx,nx,lg⟩) ⟨⟩:=(rfl)
theorem xH {fs cs:List Operand}:jQ P G h (.makeFunc fn fs.toArray cs.toArray) ⟨tm,bx,nx,lg⟩ K3 ⟨⟩ ⟨⟩ ⟨⟩=K3 (.clo fn (fs.map (zB G tm)) (cs.map (zB G tm))) ⟨tm,bx,nx,lg⟩:=(rfl)
theorem zdR {lo hi mx:Option Operand}:jQ P G h (.slice t x lo hi mx) ⟨tm,bx,nx,lg⟩ K3 ⟨⟩ ⟨⟩ ⟨⟩=vr P t (zB G tm x) (lo.map (zB G tm)) (hi.map (zB G tm)) (mx.map (zB G tm)) (fun c=>K3 c ⟨tm,bx,nx,lg⟩) ⟨⟩:=(rfl)
theorem zf5 {lo hi mx:Option Operand} {ev:Operand->C}:jL P G bx ev (.slice t x lo hi mx) nx K2 ⟨⟩ ⟨⟩ ⟨⟩=vr P t (ev x) (lo.map ev) (hi.map ev) (mx.map ev) (fun c=>K2 c nx) ⟨⟩:=(rfl)
theorem GT {f:Nat}:jQ P G h (.fieldAddr t x f) ⟨tm,bx,nx,lg⟩ K3 ⟨⟩ ⟨⟩ ⟨⟩=Zm P t (zB G tm x) f (fun c=>K3 c ⟨tm,bx,nx,lg⟩) ⟨⟩:=(rfl)
theorem GL {f:Nat} {ev:Operand->C}:jL P G bx ev (.fieldAddr t x f) nx K2 ⟨⟩ ⟨⟩ ⟨⟩=Zm P t (ev x) f (fun c=>K2 c nx) ⟨⟩:=(rfl)
theorem zef {f:Nat}:jQ P G h (.field t x f) ⟨tm,bx,nx,lg⟩ K3 ⟨⟩ ⟨⟩ ⟨⟩=uL P t (zB G tm x) f (fun c=>K3 c ⟨tm,bx,nx,lg⟩) ⟨⟩:=(rfl)
theorem zhy {f:Nat} {ev:Operand->C}:jL P G bx ev (.field t x f) nx K2 ⟨⟩ ⟨⟩ ⟨⟩=uL P t (ev x) f (fun c=>K2 c nx) ⟨⟩:=(rfl)
theorem Nr:jQ P G h (.indexAddr t x y) ⟨tm,bx,nx,lg⟩ K3 ⟨⟩ ⟨⟩ ⟨⟩=Zr P t (zB G tm x) (zB G tm y) (fun c=>K3 c ⟨tm,bx,nx,lg⟩) ⟨⟩:=(rfl)
theorem NJ {ev:Operand->C}:jL P G bx ev (.indexAddr t x y) nx K2 ⟨⟩ ⟨⟩ ⟨⟩=Zr P t (ev x) (ev y) (fun c=>K2 c nx) ⟨⟩:=(rfl)
theorem zhi:jQ P G h (.index t x y) ⟨tm,bx,nx,lg⟩ K3 ⟨⟩ ⟨⟩ ⟨⟩=uK P t (zB G tm x) (zB G tm y) (fun c=>K3 c ⟨tm,bx,nx,lg⟩) ⟨⟩:=(rfl)
theorem zgJ {ev:Operand->C}:jL P G bx ev (.index t x y) nx K2 ⟨⟩ ⟨⟩ ⟨⟩=uK P t (ev x) (ev y) (fun c=>K2 c nx) ⟨⟩:=(rfl)
theorem vJ:jQ P G h (.extract x i) ⟨tm,bx,nx,lg⟩ K3 ⟨⟩ ⟨⟩ ⟨⟩=ku (zB G tm x) i (fun c=>K3 c ⟨tm,bx,nx,lg⟩) ⟨⟩:=(rfl)
theorem vX {ev:Operand->C}:jL P G bx ev (.extract x i) nx K2 ⟨⟩ ⟨⟩ ⟨⟩=ku (ev x) i (fun c=>K2 c nx) ⟨⟩:=(rfl)
theorem zhh {ts:List TypeId}:jQ P G h (.call ⟨.value x,us.toArray,ts.toArray⟩) ⟨tm,bx,nx,lg⟩ K3 ⟨⟩ ⟨⟩ ⟨⟩=ud P G h (zB G tm x) (us.map (zB G tm)) ⟨tm,bx,nx,lg⟩ K3 ⟨⟩ ⟨⟩:=(rfl)
theorem zfl {ts:List TypeId} {ev:Operand->C}:jL P G bx ev (.call ⟨.value x,us.toArray,ts.toArray⟩) nx K2 ⟨⟩ ⟨⟩ ⟨⟩=zei P G (ev x) (us.map ev) nx K2 ⟨⟩:=(rfl)
theorem znp:jQ P G h (.call ⟨.builtin .len,#[x],#[t]⟩) ⟨tm,bx,nx,lg⟩ K3 ⟨⟩ ⟨⟩ ⟨⟩=yA P t (zB G tm x) (fun c=>K3 c ⟨tm,bx,nx,lg⟩) ⟨⟩:=(rfl)
theorem znn {ev:Operand->C}:jL P G bx ev (.call ⟨.builtin .len,#[x],#[t]⟩) nx K2 ⟨⟩ ⟨⟩ ⟨⟩=yA P t (ev x) (fun c=>K2 c nx) ⟨⟩:=(rfl)
theorem uA {r:Option Operand}:jQ P G h (.makeMap t r) ⟨tm,bx,nx,lg⟩ K3 ⟨⟩ ⟨⟩ ⟨⟩=zqI (zdj P t) t (r.map (zB G tm)) nx (fun c nx'=>K3 c ⟨tm,bx,nx',lg⟩) ⟨⟩:=(rfl)
theorem zoW {kd:MKd} {z:C}:zqI (some (kd,z)) t none nx K2 ⟨⟩=K2 (.mo nx t kd.nil []) (nx+1):=(rfl)
theorem zn4 {k:IntKind}:MKd.nil (.int k) = .int k []:=(rfl)
theorem zco {ok:Bool}:jQ P G h (.lookup t x y ok) ⟨tm,bx,nx,lg⟩ K3 ⟨⟩ ⟨⟩ ⟨⟩=zoz (zdj P t) t (zB G tm x) (zB G tm y) ok (fun c=>K3 c ⟨tm,bx,nx,lg⟩) ⟨⟩:=(rfl)
theorem zdd {ok:Bool} {ev:Operand->C}:jL P G bx ev (.lookup t x y ok) nx K2 ⟨⟩ ⟨⟩ ⟨⟩=zoz (zdj P t) t (ev x) (ev y) ok (fun c=>K2 c nx) ⟨⟩:=(rfl)
theorem zpB {k q:IntKind} {z:C} {id:Nat} {l:List Int} {n:Int} {ok:Bool}:zoz (some (.int k,z)) t (.mo id t2 (.int k2 l) vs) (.sc (.int q n)) ok K ⟨⟩=(t2=t/\k2=k/\q=k/\v8 (H8 n l vs) z ok K ⟨⟩):=(rfl)
theorem zkz {z:C}:v8 (some c) z true K ⟨⟩=K (.tup [c,.sc (.bool true)]):=(rfl)
theorem zi1 {z:C}:v8 (some c) z false K ⟨⟩=K c:=(rfl)
theorem zdg {w:Operand}:jQ P G h (.insert t x y w) ⟨tm,bx,nx,lg⟩ K3 ⟨⟩ ⟨⟩ ⟨⟩=zoT (zdj P t) t (zB G tm x) (zB G tm y) (zB G tm w) ⟨tm,bx,nx,lg⟩ K3 ⟨⟩:=(rfl)
theorem zry {k q:IntKind} {z:C} {id:Nat} {l:List Int} {n:Int}:zoT (some (.int k,z)) t (.mo id t2 (.int k2 l) vs) (.sc (.int q n)) d ⟨tm,bx,nx,lg⟩ K3 ⟨⟩=(t2=t/\k2=k/\q=k/\K3 .any ⟨zhN id (.int k (VV n d.frq l vs).1) (VV n d.frq l vs).2 tm,zdq id (.int k (VV n d.frq l vs).1) (VV n d.frq l vs).2 bx,nx,lg⟩):=(rfl)
theorem zcD:jQ P G h (.call ⟨.builtin .append,#[x,y],#[t,t]⟩) ⟨tm,bx,nx,lg⟩ K3 ⟨⟩ ⟨⟩ ⟨⟩=if h.bx t then if h.bx2 t then vo P t (zB G tm x) (zB G tm y) ⟨tm,bx,nx,lg⟩ K3 ⟨⟩ else zao P h.p t (zB G tm x) (zB G tm y) ⟨tm,bx,nx,lg⟩ K3 ⟨⟩ else zbg P t (zB G tm x) (zB G tm y) ⟨tm,bx,nx,lg⟩ K3 ⟨⟩:=(show N6 P G h (.call ⟨.builtin .append,#[x,y],#[t,t]⟩) ⟨tm,bx,nx,lg⟩ K3=if h.bx t then if h.bx2 t then YW P t (zB G tm x) (zB G tm y) ⟨tm,bx,nx,lg⟩ K3 else k7 P h.p t (zB G tm x) (zB G tm y) ⟨tm,bx,nx,lg⟩ K3 else Nh P t (zB G tm x) (zB G tm y) ⟨tm,bx,nx,lg⟩ K3 from by simp[N6,y5])
theorem zi3 (h0:(t'==t)=false):jQ P G h (.call ⟨.builtin .append,#[x,y],#[t,t']⟩) ⟨tm,bx,nx,lg⟩ K3 ⟨⟩ ⟨⟩ ⟨⟩=zbc P t t' (zB G tm x) (zB G tm y) ⟨tm,bx,nx,lg⟩ K3 ⟨⟩:=(show N6 P G h (.call ⟨.builtin .append,#[x,y],#[t,t']⟩) ⟨tm,bx,nx,lg⟩ K3=Np P t t' (zB G tm x) (zB G tm y) ⟨tm,bx,nx,lg⟩ K3 from by simp only[OU]at h0;simp[N6,y5,h0])
theorem ziF:jQ P G h (.call ⟨.builtin .copy,#[x,y],#[t,t']⟩) ⟨tm,bx,nx,lg⟩ K3 ⟨⟩ ⟨⟩ ⟨⟩=Me P t (zB G tm x) (zB G tm y) ⟨tm,bx,nx,lg⟩ K3 ⟨⟩:=(show N6 P G h (.call ⟨.builtin .copy,#[x,y],#[t,t']⟩) ⟨tm,bx,nx,lg⟩ K3=Zu P t (zB G tm x) (zB G tm y) ⟨tm,bx,nx,lg⟩ K3 from by simp[N6,y5])
theorem zeN:jQ P G h (.call ⟨.builtin .clear,#[x],#[t]⟩) ⟨tm,bx,nx,lg⟩ K3 ⟨⟩ ⟨⟩ ⟨⟩=yV P t (zB G tm x) ⟨tm,bx,nx,lg⟩ K3 ⟨⟩:=(show N6 P G h (.call ⟨.builtin .clear,#[x],#[t]⟩) ⟨tm,bx,nx,lg⟩ K3=Hm P t (zB G tm x) ⟨tm,bx,nx,lg⟩ K3 from by simp[N6,y5])
theorem zmq:jQ P G h (.call ⟨.builtin .max,#[x,y],#[t,t']⟩) ⟨tm,bx,nx,lg⟩ K3 ⟨⟩ ⟨⟩ ⟨⟩=zo0 (zB G tm x) (zB G tm y) (fun c=>K3 c ⟨tm,bx,nx,lg⟩) ⟨⟩:=(rfl)
theorem zsC {k k':IntKind} {n m:Int}:zo0 (.sc (.int k n)) (.sc (.int k' m)) K ⟨⟩=K (.sc (.int k (if m>n then m else n))):=(rfl)
theorem zm1:jQ P G h (.call ⟨.builtin .cap,#[x],#[t]⟩) ⟨tm,bx,nx,lg⟩ K3 ⟨⟩ ⟨⟩ ⟨⟩=zqH P t (zB G tm x) (fun c=>K3 c ⟨tm,bx,nx,lg⟩) ⟨⟩:=(show N6 P G h (.call ⟨.builtin .cap,#[x],#[t]⟩) ⟨tm,bx,nx,lg⟩ K3=zqL P t (zB G tm x) fun c=>K3 c ⟨tm,bx,nx,lg⟩ from by simp[N6,y5])
theorem zsS:zqH P t c K ⟨⟩=zgO (lay P t) c K ⟨⟩:=(rfl)
theorem zih:zgO (some ⟨.slice e,s1,b1,z1⟩) (.bs i off k n cap) K ⟨⟩=K (.sc (.int .i64 (cap:Int))):=(rfl)
theorem zfm:zgO (some ⟨.slice e,s1,b1,z1⟩) (.sc (.slice none 0 0)) K ⟨⟩=K (.sc (.int .i64 0)):=(rfl)
theorem zbk {ev:Operand->C}:jL P G bx ev (.call ⟨.builtin .append,#[x,y],#[t,t]⟩) nx K2 ⟨⟩ ⟨⟩ ⟨⟩=zaJ P t (ev x) (ev y) nx K2 ⟨⟩:=(show JI P G bx ev (.call ⟨.builtin .append,#[x,y],#[t,t]⟩) nx K2=Vr P t (ev x) (ev y) nx K2 from by simp[JI,xg,kl])
theorem zeS:jQ P G h (.alloc t) ⟨tm,bx,nx,lg⟩ K3 ⟨⟩ ⟨⟩ ⟨⟩=zro (lay P t) ⟨tm,bx,nx,lg⟩ K3 ⟨⟩:=(rfl)
theorem zmm:jQ P G h (.box t x) ⟨tm,bx,nx,lg⟩ K3 ⟨⟩ ⟨⟩ ⟨⟩=zrl (zB G tm x) ⟨tm,bx,nx,lg⟩ K3 ⟨⟩:=(rfl)
theorem zdM:jQ P G h (.store t x y) ⟨tm,bx,nx,lg⟩ K3 ⟨⟩ ⟨⟩ ⟨⟩=zqw (lay P t) (zB G tm x) (zB G tm y) ⟨tm,bx,nx,lg⟩ K3 ⟨⟩:=(rfl)
theorem ziA {u:Tmp}:zB G tm (.tmp u)=j7 tm u:=(rfl)
theorem zca:zB G tm (.const v)=zD v:=(rfl)
theorem zdK:zB G tm (.func f) = .clo (.func f) [] []:=(rfl)
theorem uz {g:Nat}:zB G tm (.global g)=ztg (G g):=(rfl)
theorem yK:ztg (some cs) = .row cs:=(rfl)
theorem zph {v:Nat} {r:List (Nat×C)}:j7 ((u,c) :: r) v=if v=u then c else j7 r v:=(rfl)
theorem ur {k:IntKind} {n:Int}:zD (.int k n) = .sc (.int k n):=(rfl)
theorem xy {b:Bool}:zD (.bool b) = .sc (.bool b):=(rfl)
theorem vv:zD (.string ⟨l.toArray⟩) = .str l:=(rfl)
theorem NP {a:Option Addr} {m:Nat}:zD (.slice a n m) = .sc (.slice a n m):=(rfl)
theorem vR {a:Option Addr}:zD (.pointer a) = .sc (.pointer a):=(rfl)
theorem vq {a:Option Nat}:zD (.map a) = .sc (.map a):=(rfl)
theorem M2:zD .nilFunc = .sc .nilFunc:=(rfl)
theorem ze9 {k:IntKind} {b:Int}:vH P t op (.sc (.int k a)) (.sc (.int k b)) K ⟨⟩=HJ op k a b K ⟨⟩:=(show zoL P t op (.sc (.int k a)) (.sc (.int k b)) K=zrG op k a b K from by simp[zoL])
theorem zft {a b:Lz}:vH P t op (.str a) (.str b) K ⟨⟩=zgt op a b K ⟨⟩:=(rfl)
theorem zhC:vH P t op (.agg cs) (.agg ds) K ⟨⟩=zrA op (Uv P t) cs ds K ⟨⟩:=(rfl)
theorem Mc {rows:List (List C)}:vH P t op (.sl k rows) (.sc (.slice none 0 0)) K ⟨⟩=za4 (lay P t) op (.sl k rows) K ⟨⟩:=(rfl)
theorem zfg {e0:TypeId} {k0 b0:Nat} {z0:Option (List Value)} {rows:List (List C)}:za4 (some ⟨.slice e0,k0,b0,z0⟩) op (.sl k rows) K ⟨⟩=(rows≠[]/\zhH op false K ⟨⟩):=(rfl)
theorem x6 {a:Option Addr}:vH P t op (.sc (.slice a n cap)) (.sc (.slice none 0 0)) K ⟨⟩=za4 (lay P t) op (.sc (.slice a n cap)) K ⟨⟩:=(rfl)
theorem zgG {e0:TypeId} {k0 b0:Nat} {z0:Option (List Value)} {a:Option Addr}:za4 (some ⟨.slice e0,k0,b0,z0⟩) op (.sc (.slice a n cap)) K ⟨⟩=zhH op a.isNone K ⟨⟩:=(rfl)
theorem zb0 {b:Bool}:zhH .eql b K ⟨⟩=K (.sc (.bool b)):=(rfl)
theorem zd9 {lk:List LK}:zrA .neq (some lk) cs ds K ⟨⟩=zoM true lk cs ds true K ⟨⟩:=(rfl)
theorem zcZ {e:Bool}:zoM true [] [] [] e K ⟨⟩=K (.sc (.bool (!e))):=(rfl)
theorem zh4 {n e:Bool} {lk:List LK} {k k1:IntKind} {b:Int}:zoM n (.int k :: lk) (.sc (.int k1 a) :: cs) (.sc (.int k2 b) :: ds) e K ⟨⟩=(k1=k/\k2=k/\zoM n lk cs ds (e&&decide (a=b)) K ⟨⟩):=(rfl)
theorem zi5 {n e:Bool} {lk:List LK} {a b:Lz}:zoM n (.str :: lk) (.str a :: cs) (.str b :: ds) e K ⟨⟩=zoM n lk cs ds (e&&decide (a=b)) K ⟨⟩:=(rfl)
theorem zfL {k:IntKind} {b:Int}:HJ .add k a b K ⟨⟩=(inR k (a+b)/\K (.sc (.int k (a+b)))):=(rfl)
theorem zfu {k:IntKind} {b:Int}:HJ .sub k a b K ⟨⟩=(inR k (a-b)/\K (.sc (.int k (a-b)))):=(rfl)
theorem zdQ {k:IntKind} {b:Int}:HJ .shr k a b K ⟨⟩=(b=1/\K (.sc (.int k (a / 2)))):=(rfl)
theorem zgq {k:IntKind} {b:Int}:HJ .eql k a b K ⟨⟩=(K (.sc (.bool (decide (a=b))))):=(rfl)
theorem zg2 {k:IntKind} {b:Int}:HJ .neq k a b K ⟨⟩=(K (.sc (.bool (!decide (a=b))))):=(rfl)
theorem zdI {k:IntKind} {b:Int}:HJ .lss k a b K ⟨⟩=(K (.sc (.bool (decide (a<b))))):=(rfl)
theorem zgX {k:IntKind} {b:Int}:HJ .leq k a b K ⟨⟩=(K (.sc (.bool (decide (a<=b))))):=(rfl)
theorem zgM {k:IntKind} {b:Int}:HJ .gtr k a b K ⟨⟩=(K (.sc (.bool (decide (b<a))))):=(rfl)
theorem zhF {k:IntKind} {b:Int}:HJ .geq k a b K ⟨⟩=(K (.sc (.bool (decide (b<=a))))):=(rfl)
theorem zed {a b:Lz}:zgt .add a b K ⟨⟩=(((a.length+b.length:Nat):Int)<=9223372036854775807/\K (.str (a++b))):=(rfl)
theorem zdN {a b:Lz}:zgt .eql a b K ⟨⟩=(K (.sc (.bool (decide (a=b))))):=(rfl)
theorem zfo {a b:Lz}:zgt .neq a b K ⟨⟩=(K (.sc (.bool (!decide (a=b))))):=(rfl)
theorem ze2 {a b:Lz}:zgt .geq a b K ⟨⟩=(K (.sc (.bool (!Op.bytesLess a b)))):=(rfl)
theorem zhT {b:Bool}:zrP .not (.sc (.bool b)) K ⟨⟩=K (.sc (.bool (!b))):=(rfl)
theorem ze0:ku (.tup cs) i K ⟨⟩=zob (cs[i]?) K ⟨⟩:=(rfl)
theorem zsj:zob (some c) K ⟨⟩=K c:=(rfl)
theorem zhk:zkR (.ptr i off) K ⟨⟩=K (.ptr i off):=(rfl)
theorem zhl:zkR (.row cs) K ⟨⟩=K (.row cs):=(rfl)
theorem zo6:uT P t c bx K ⟨⟩=vg (lay P t) c bx K ⟨⟩:=(rfl)
theorem zbN:vg (some L) (.ptr i off) bx K ⟨⟩=zge (bx[i]?) off L K ⟨⟩:=(rfl)
theorem zb6:vg (some L) (.row cs) bx K ⟨⟩=Uw L cs K ⟨⟩:=(rfl)
theorem znT:zge (some cs) off L K ⟨⟩=Uw L (cs.drop off) K ⟨⟩:=(rfl)
theorem NX {fs:List (Nat×Nat×Bool)} {s:Nat}:Uw ⟨.struct fs,s,b,z1⟩ cs K ⟨⟩=(s<=cs.length/\K (.agg (cs.take s))):=(show YK ⟨.struct fs,s,b,z1⟩ cs K=(s<=cs.length/\K (.agg (cs.take s))) from by simp[YK,LK.agg])
theorem zbF {ik:IntKind} {s:Nat}:Uw ⟨.int ik,s,b,z1⟩ (c :: r) K ⟨⟩=K c:=(show YK ⟨.int ik,s,b,z1⟩ (c :: r) K=K c from by simp[YK,LK.agg])
theorem yW {s:Nat}:Uw ⟨.bool,s,b,z1⟩ (c :: r) K ⟨⟩=K c:=(show YK ⟨.bool,s,b,z1⟩ (c :: r) K=K c from by simp[YK,LK.agg])
theorem zb1 {s:Nat}:Uw ⟨.str,s,b,z1⟩ (c :: r) K ⟨⟩=K c:=(show YK ⟨.str,s,b,z1⟩ (c :: r) K=K c from by simp[YK,LK.agg])
theorem Mw {e:TypeId} {s:Nat}:Uw ⟨.slice e,s,b,z1⟩ (c :: r) K ⟨⟩=K c:=(show YK ⟨.slice e,s,b,z1⟩ (c :: r) K=K c from by simp[YK,LK.agg])
theorem MG {s:Nat}:Uw ⟨.other,s,b,z1⟩ (c :: r) K ⟨⟩=K c:=(show YK ⟨.other,s,b,z1⟩ (c :: r) K=K c from by simp[YK,LK.agg])
theorem znQ {f:Nat}:uL P t c f K ⟨⟩=uP (lay P t) c f K ⟨⟩:=(rfl)
theorem zkK {fs:List (Nat×Nat×Bool)} {s:Nat} {f:Nat}:uP (some ⟨.struct fs,s,b,z1⟩) (.agg cs) f K ⟨⟩=zaj (fs[f]?) cs K ⟨⟩:=(show vQ (some ⟨.struct fs,s,b,z1⟩) (.agg cs) f K=Hr (fs[f]?) cs K from by unfold vQ Hr;simp only[];cases fs[f]?<;>simp)
theorem zhu:zaj (some (off,size,false)) cs K ⟨⟩=zob (cs[off]?) K ⟨⟩:=(show Hr (some (off,size,false)) cs K=zsE (cs[off]?) K from by unfold Hr zsE;simp)
theorem ztH {f:Nat}:Zm P t c f K ⟨⟩=zqs (lay P t) c f K ⟨⟩:=(rfl)
theorem zse {fs:List (Nat×Nat×Bool)} {s:Nat} {f:Nat}:zqs (some ⟨.struct fs,s,b,z1⟩) c f K ⟨⟩=zod (fs[f]?) c K ⟨⟩:=(rfl)
theorem zjN {g:Bool}:zod (some (off,size+1,g)) (.ptr i q) K ⟨⟩=K (.ptr i (q+off)):=(show zq4 (some (off,size+1,g)) (.ptr i q) K=K (.ptr i (q+off)) from by simp[zq4])
theorem zhQ {g:Bool}:zod (some (off,size+1,g)) (.row cs) K ⟨⟩=K (.row (cs.drop off)):=(show zq4 (some (off,size+1,g)) (.row cs) K=K (.row (cs.drop off)) from by simp[zq4])
theorem ztL:Zr P t c d K ⟨⟩=zn2 P (lay P t) c d K ⟨⟩:=(rfl)
theorem zbj {s:Nat} {k:IntKind} {n:Int}:zn2 P (some ⟨.slice e,s,b,z1⟩) c (.sc (.int k n)) K ⟨⟩=zjx (lay P e) c n K ⟨⟩:=(rfl)
theorem zcI {m s:Nat} {k:IntKind} {n:Int}:zn2 P (some ⟨.array (m+1) e,s,b,z1⟩) c (.sc (.int k n)) K ⟨⟩=zps (lay P e) c m n K ⟨⟩:=(rfl)
theorem zgg {rows:List (List C)} {n:Int}:zjx (some L) (.sl k rows) n K ⟨⟩=zmJ (C.rows? L.size (.sl k rows)) n K ⟨⟩:=(rfl)
theorem ze4 {rows:List (List C)}:zfT (some L) (.sl k rows) lo hi mx K ⟨⟩=zkr (C.rows? L.size (.sl k rows)) L.size lo hi mx K ⟨⟩:=(rfl)
theorem zbG {id:Nat} {rows:List (List C)} {n:Int}:zjx (some L) (.own id e k rows) n K ⟨⟩=zmJ (C.rows? L.size (.own id e k rows)) n K ⟨⟩:=(rfl)
theorem zbq {id:Nat} {rows:List (List C)}:zfT (some L) (.own id e k rows) lo hi mx K ⟨⟩=zkr (C.rows? L.size (.own id e k rows)) L.size lo hi mx K ⟨⟩:=(rfl)
theorem zdy:zfT (some L) (.sc (.slice none 0 0)) lo hi mx K ⟨⟩=zo5 L.size lo hi mx K ⟨⟩:=(rfl)
theorem zs9:zo5 k lo hi none K ⟨⟩=(Jf 0 lo hi/\K (.sc (.slice none 0 0))):=(rfl)
theorem zbX :zgR P bx t t' (.sc v) K ⟨⟩=zlv P t t' (.sc v) K ⟨⟩:=(rfl)
theorem zeB {n:Int} {m1:Nat}:zjx (some L) (.bs j off k m1 cap) n K ⟨⟩=(k=L.size/\0<=n/\n<(m1:Int)/\K (.ptr j (off+n.toNat*L.size))):=(rfl)
theorem zgW:zfT (some L) (.bs i off k n cap) lo hi mx K ⟨⟩=zd6 L.size i off k n cap lo hi mx K ⟨⟩:=(rfl)
theorem zje {b:Int} {sz:Nat}:zd6 sz i off k n cap none (some b) none K ⟨⟩=(n<=cap/\(0<=b/\b<=(cap:Int))/\K (.bs i off k b.toNat cap)):=(rfl)
theorem ziB {sz:Nat}:zd6 sz i off k n cap (some a) none none K ⟨⟩=(sz=k/\n<=cap/\(0<=a/\a<=(n:Int))/\K (.bs i (off+a.toNat*k) k (n-a.toNat) (cap-a.toNat))):=(rfl)
theorem ziz {b:Int} {sz:Nat}:zd6 sz i off k n cap (some a) (some b) none K ⟨⟩=(sz=k/\(0<=a/\a<=b/\b<=(cap:Int))/\K (.bs i (off+a.toNat*k) k (b.toNat-a.toNat) (cap-a.toNat))):=(rfl)
theorem ziN {b m1:Int} {sz:Nat}:zd6 sz i off k n cap (some a) (some b) (some m1) K ⟨⟩=(sz=k/\(0<=a/\a<=b/\b<=m1/\m1<=(cap:Int))/\K (.bs i (off+a.toNat*k) k (b.toNat-a.toNat) (m1.toNat-a.toNat))):=(rfl)
theorem zk0:yA P t (.bs i off k n cap) K ⟨⟩=xC (lay P t) (n:Int) K ⟨⟩:=(rfl)
theorem ztU:Ga P t n ps ⟨tm,bx,nx,lg⟩ K3 ⟨⟩=zo3 P (lay P t) n ps ⟨tm,bx,nx,lg⟩ K3 ⟨⟩:=(rfl)
theorem zsV {s:Nat}:zo3 P (some ⟨.slice e,s,b,z1⟩) n ps σ K3 ⟨⟩=zpw (lay P e) n ps σ K3 ⟨⟩:=(rfl)
theorem zsR {z1:List Value}:zpw (some ⟨kd,k,b,some z1⟩) n ps σ K3 ⟨⟩=(z1.length=k/\0<k/\n*k<=16777216/\(ps.all fun p=>p.2.frz.partB)=true/\zqC (Xz (plA k) (List.replicate n (z1.map zD)).flatten (ps.map fun p=>(p.1,p.2.frz))) k n σ K3 ⟨⟩):=(rfl)
theorem zsv:zqC (some cs) k n ⟨tm,bx,nx,lg⟩ K3 ⟨⟩=((cs.all C.cellB)=true/\cs.length=n*k/\K3 (.bs bx.length 0 k n n) ⟨tm,bx++[cs],nx,lg⟩):=(rfl)
theorem ztr:zao P p t c d ⟨tm,bx,nx,lg⟩ K3 ⟨⟩=zqf P (lay P t) p c d ⟨tm,bx,nx,lg⟩ K3 ⟨⟩:=(rfl)
theorem zsK {s:Nat}:zqf P (some ⟨.slice e,s,b,z1⟩) p c d σ K3 ⟨⟩=zqy (lay P e) p c d σ K3 ⟨⟩:=(rfl)
theorem zs6 {z1:List Value}:zqy (some ⟨kd,k,b,some z1⟩) p c d ⟨tm,bx,nx,lg⟩ K3 ⟨⟩=zq8 (d.xs? k bx) p k b z1 c ⟨tm,bx,nx,lg⟩ K3 ⟨⟩:=(rfl)
theorem zol {k2:Nat}:C.xs? k bx (.bs i off k2 n cap)=xsB k2 k off n (bx[i]?):=(rfl)
theorem zoS:xsB k k off n (some cs)=if off+n*k<=cs.length then some (n,(cs.drop off).take (n*k)) else none:=(show xsB k k off n (some cs)=if off+n*k<=cs.length then some (n,(cs.drop off).take (n*k)) else none from by simp[xsB])
theorem zor:Vl i cs bx=(N3 (Yv i) some bx).set i cs:=(rfl)
theorem zox:Yv i j=if j=i then none else some j:=(rfl)
theorem zjh:C.frz (.bs i off k n cap) = .any:=(show C.frz (.bs i off k n cap) = .any from by rw[C.frz])
theorem zlT:C.re fp fo (.bs i off k n cap)=bsO (fp i) off k n cap:=(show C.re fp fo (.bs i off k n cap)=bsO (fp i) off k n cap from by rw[C.re];rfl)
theorem zpb:bsO (some j) off k n cap = .bs j off k n cap:=(rfl)
theorem zpD:bsO none off k n cap = .any:=(rfl)
theorem zcu:C.cellB (.bs i off k n cap)=true:=(rfl)
theorem zde:C.partB (.bs i off k n cap)=true:=(rfl)
theorem zbL:C.cells (.bs i off k n cap) = [.bs i off k n cap]:=(rfl)
theorem zqV {rows:List (List C)} {n:Int}:zmJ (some rows) n K ⟨⟩=zto (rows[n.toNat]?) n K ⟨⟩:=(rfl)
theorem zt3 {n:Int}:zto (some r) n K ⟨⟩=(0<=n/\K (.row r)):=(rfl)
theorem zmV {m:Nat} {n:Int}:zps (some L) (.row cs) m n K ⟨⟩=(0<=n/\n<((m+1:Nat):Int)/\K (.row (cs.drop (n.toNat*L.size)))):=(rfl)
theorem ztY:uK P t c d K ⟨⟩=zpJ (lay P t) c d K ⟨⟩:=(rfl)
theorem zso {s:Nat} {k:IntKind} {n:Int}:zpJ (some ⟨.str,s,b,z1⟩) (.str l) (.sc (.int k n)) K ⟨⟩=zlC (l[n.toNat]?) n K ⟨⟩:=(show zrN (some ⟨.str,s,b,z1⟩) (.str l) (.sc (.int k n)) K=zmQ (l[n.toNat]?) n K from by unfold zrN zmQ;simp)
theorem zqh {b:UInt8} {n:Int}:zlC (some b) n K ⟨⟩=(0<=n/\K (.sc (.int .u8 (b.toNat:Int)))):=(rfl)
theorem ztO {lo hi mx:Option C}:vr P t c lo hi mx K ⟨⟩=zqY P t c (zaR lo) (zaR hi) (zaR mx) K ⟨⟩:=(rfl)
theorem zsb:zqY P t c (some lo) (some hi) (some mx) K ⟨⟩=znl P (lay P t) c lo hi mx K ⟨⟩:=(rfl)
theorem zbR:zaR none=some none:=(rfl)
theorem zgF {k:IntKind} {n:Int}:zaR (some (.sc (.int k n)))=some (some n):=(rfl)
theorem zkT {s:Nat}:znl P (some ⟨.str,s,b,z1⟩) (.str l) lo hi none K ⟨⟩=(Jf l.length lo hi/\K (.str (cut l lo hi))):=(rfl)
theorem zcK {s:Nat}:znl P (some ⟨.slice e,s,b,z1⟩) c lo hi mx K ⟨⟩=zfT (lay P e) c lo hi mx K ⟨⟩:=(rfl)
theorem zrv {rows:List (List C)}:zkr (some rows) k lo hi none K ⟨⟩=(Jf rows.length lo hi/\K (.sl k (cut rows lo hi))):=(rfl)
theorem zpv {rows:List (List C)} {h m:Int}:zkr (some rows) k lo (some h) (some m) K ⟨⟩=(m=h/\Jf rows.length lo (some h)/\K (.tight k (cut rows lo (some h)))):=(rfl)
theorem zkJ {α:Type} {l:List α}:cut l (some a) none=l.drop a.toNat:=(rfl)
theorem zi2 {α:Type} {l:List α} {b:Int}:cut l none (some b)=l.take b.toNat:=(rfl)
theorem zkl {α:Type} {l:List α} {b:Int}:cut l (some a) (some b)=(l.take b.toNat).drop a.toNat:=(rfl)
theorem zbP:Jf n (some a) none=(0<=a/\a<=(n:Int)):=(rfl)
theorem zbV {b:Int}:Jf n none (some b)=(0<=b/\b<=(n:Int)):=(rfl)
theorem zbM {b:Int}:Jf n (some a) (some b)=(0<=a/\a<=b/\b<=(n:Int)):=(rfl)
theorem zhe {rows:List (List C)}:C.rows? k (.sl k rows)=some rows:=(show C.rows? k (.sl k rows)=some rows from by simp[C.rows?])
theorem zcW {id:Nat} {rows:List (List C)}:C.rows? k (.own id e k rows)=some rows:=(show C.rows? k (.own id e k rows)=some rows from by simp[C.rows?])
theorem zrg:zlv P t t' c K ⟨⟩=zl1 P (lay P t') (lay P t) c K ⟨⟩:=(rfl)
theorem zdc {k k0:IntKind} {n:Int} {s:Nat}:zl1 P (some ⟨.int k,s,b,z1⟩) (some L) (.sc (.int k0 n)) K ⟨⟩=(inR k n/\K (.sc (.int k n))):=(rfl)
theorem zi9 {s s2 b2:Nat} {k k0:IntKind} {n:Int}:zl1 P (some ⟨.str,s,b,z1⟩) (some ⟨.int k,s2,b2,z2⟩) (.sc (.int k0 n)) K ⟨⟩=K (.str (Utf8.encode n).data.toList):=(rfl)
theorem zhw:yA P t (.str l) K ⟨⟩=zlL (lay P t) (l.length:Int) K ⟨⟩:=(rfl)
theorem zkP {rows:List (List C)}:yA P t (.sl k rows) K ⟨⟩=xC (lay P t) (rows.length:Int) K ⟨⟩:=(rfl)
theorem zgh {id:Nat} {rows:List (List C)}:yA P t (.own id e k rows) K ⟨⟩=xC (lay P t) (rows.length:Int) K ⟨⟩:=(rfl)
theorem zeH:yA P t (.sc (.slice none 0 0)) K ⟨⟩=xC (lay P t) 0 K ⟨⟩:=(rfl)
theorem zo1 {s:Nat} {n:Int}:xC (some ⟨.slice e,s,b,z1⟩) n K ⟨⟩=K (.sc (.int .i64 n)):=(rfl)
theorem zqT {s:Nat} {n:Int}:zlL (some ⟨.str,s,b,z1⟩) n K ⟨⟩=K (.sc (.int .i64 n)):=(rfl)
theorem zmC:y9 P t ps K ⟨⟩=zrp (lay P t) ps K ⟨⟩:=(rfl)
theorem zkX {fs:List (Nat×Nat×Bool)} {s:Nat} {z1:List Value}:zrp (some ⟨.struct fs,s,b,some z1⟩) ps K ⟨⟩=((ps.all fun p=>p.2.partB)=true/\ztf (Xz (plS fs) (z1.map zD) ps) K ⟨⟩):=(show zs0 (some ⟨.struct fs,s,b,some z1⟩) ps K=((ps.all fun p=>p.2.partB)=true/\aFl (Xz (plS fs) (z1.map zD) ps) K) from by unfold zs0 aFl;simp only[];rfl)
theorem zuf:ztf (some cs) K ⟨⟩=K (.agg cs):=(rfl)
theorem znq:Xz place cs []=some cs:=(rfl)
theorem zrs {rest:List (Nat×C)}:Xz place cs ((i,c) :: rest)=zlq (place i) place cs c.cells rest:=(rfl)
theorem znx {l:List C} {rest:List (Nat×C)}:zlq (some (off,size)) place cs l rest=(if l.length=size/\off+size<=cs.length then Xz place (cs.take off++l++cs.drop (off+size)) rest else none):=(rfl)
theorem zsF {fs:List (Nat×Nat×Bool)}:plS fs i=(fs[i]?).map fun f=>(f.1,f.2.1):=(rfl)
theorem zsn:plA k i=some (i*k,k):=(rfl)
theorem ztP:Qz P t n ps nx K2 ⟨⟩=zrr P (lay P t) n ps nx K2 ⟨⟩:=(rfl)
theorem zsh {s:Nat}:zrr P (some ⟨.slice e,s,b,z1⟩) n ps nx K2 ⟨⟩=zpa (lay P e) e n ps nx K2 ⟨⟩:=(rfl)
theorem zsQ {z1:List Value}:zpa (some ⟨kd,k,b,some z1⟩) e n ps nx K2 ⟨⟩=(z1.length=k/\0<k/\n*k<=16777216/\(ps.all fun p=>p.2.frz.partB)=true/\zpj (Xz (plA k) (List.replicate n (z1.map zD)).flatten (ps.map fun p=>(p.1,p.2.frz))) e k n nx K2 ⟨⟩):=(rfl)
theorem zr8:zpj (some cs) e k n nx K2 ⟨⟩=((cs.all C.cellB)=true/\cs.length=n*k/\K2 (.own nx e k (Q7 k n cs)) (nx+1)):=(rfl)
theorem zsi:x5 P t c d ⟨tm,bx,nx,lg⟩ K3 ⟨⟩=zlg P (lay P t) c d ⟨tm,bx,nx,lg⟩ K3 ⟨⟩:=(rfl)
theorem zo7 {s:Nat} {k:IntKind} {l m:Int}:zlg P (some ⟨.slice e,s,b,z1⟩) (.sc (.int k l)) (.sc (.int k2 m)) ⟨tm,bx,nx,lg⟩ K3 ⟨⟩=zlG (lay P e) l m ⟨tm,bx,nx,lg⟩ K3 ⟨⟩:=(rfl)
theorem zp3 {z1:List Value} {l m:Int}:zlG (some ⟨kd,k,b,some z1⟩) l m ⟨tm,bx,nx,lg⟩ K3 ⟨⟩=(z1.length=k/\0<k/\(z1.all Value.oneCell')=true/\0<=l/\l<=m/\(b:Int)*m<=281474976710656/\m<=9223372036854775807/\K3 (.bs bx.length 0 k l.toNat m.toNat) ⟨tm,bx++[(List.replicate m.toNat (z1.map zD)).flatten],nx,lg⟩):=(rfl)
theorem zt0:zlw P t c d nx K2 ⟨⟩=zqb P (lay P t) c d nx K2 ⟨⟩:=(rfl)
theorem zsf {s:Nat} {k:IntKind} {l m:Int}:zqb P (some ⟨.slice e,s,b,z1⟩) (.sc (.int k l)) (.sc (.int k2 m)) nx K2 ⟨⟩=zqD (lay P e) e l m nx K2 ⟨⟩:=(rfl)
theorem zs4 {z1:List Value} {l m:Int}:zqD (some ⟨kd,k,b,some z1⟩) e l m nx K2 ⟨⟩=(z1.length=k/\0<k/\(z1.all Value.oneCell')=true/\0<=l/\l<=m/\(b:Int)*m<=281474976710656/\m<=9223372036854775807/\K2 (.own nx e k (List.replicate l.toNat (z1.map zD))) (nx+1)):=(rfl)
theorem zhj {id:Nat} {rows:List (List C)}:zbg P t (.own id e k rows) d ⟨tm,bx,nx,lg⟩ K3 ⟨⟩=zqm P (lay P t) id e k rows d ⟨tm,bx,nx,lg⟩ K3 ⟨⟩:=(rfl)
theorem zpW:zaJ P t c d nx K2 ⟨⟩=zq1 P (lay P t) c d nx K2 ⟨⟩:=(rfl)
theorem zsD {s:Nat}:zq1 P (some ⟨.slice e,s,b,z1⟩) c d nx K2 ⟨⟩=zrk (lay P e) e c d nx K2 ⟨⟩:=(rfl)
theorem zrW {z1:List Value}:zrk (some ⟨kd,k,b,some z1⟩) e c d nx K2 ⟨⟩=zpz (d.rows? k) c e k b z1 nx K2 ⟨⟩:=(rfl)
theorem zqx {k0:Nat} {z1:List Value} {xs rows:List (List C)}:zpz (some xs) (.tight k0 rows) e k b z1 nx K2 ⟨⟩=(k0=k/\z1.length=k/\0<k/\rows.length+xs.length<=9223372036854775807/\(rows.length+xs.length)*b<=140737488355328/\(xs = []->K2 (.tight k0 rows) nx)/\(¬xs = []->K2 (.own nx e k (rows++xs)) (nx+1))):=(rfl)
theorem zjR {a:Nat} (h:Nat.ble a b=true):a<=b:=OL h
theorem lS:(∀ {α:Type} (a b:List α),(a++b).length=a.length+b.length)/\(∀ {α:Type} (a:α) (b:List α),(a :: b).length=b.length+1)/\(∀ {α:Type},([]:List α).length=0)/\(∀ {α β:Type} (f:α->β) (l:List α),(l.map f).length=l.length)/\(∀ {α:Type} (n:Nat) (l:List α),(l.take n).length=min n l.length)/\∀ {α:Type} (n:Nat) (l:List α),(l.drop n).length=l.length-n:=⟨fun _ _=>Wn,fun _ _=>Wr,OF,fun _ _=>We _,fun _ _=>W2,fun _ _=>W7⟩
theorem zrS {α:Type} {x:α} {l:List α}:((x :: l) = [])=False:=by simp
theorem ztR {p:Prop}:(True->p)=p:=by simp
theorem ztz {p:Prop}:(False->p)=True:=by simp
theorem zts:(¬False)=True:=by simp
theorem zsl {e0 s id:Nat} {rows:List (List C)}:zqm P (some ⟨.slice e0,s,b,z1⟩) id e k rows c σ K3 ⟨⟩=zq7 (lay P e) e0 id e k rows c σ K3 ⟨⟩:=(rfl)
theorem zsp {k0 e0 id:Nat} {z1:List Value} {rows:List (List C)}:zq7 (some ⟨kd,k0,b,some z1⟩) e0 id e k rows c σ K3 ⟨⟩=(e0=e/\k0=k/\z1.length=k/\0<k/\zru (c.rows? k) b id e k rows σ K3 ⟨⟩):=(show zsy (some ⟨kd,k0,b,some z1⟩) e0 id e k rows c σ K3=(e0=e/\k0=k/\z1.length=k/\0<k/\zs2 (c.rows? k) b id e k rows σ K3) from by unfold zsy zs2;simp only[];cases c.rows? k<;>simp)
theorem zr0 {xs rows:List (List C)} {id:Nat}:zru (some xs) b id e k rows ⟨tm,bx,nx,lg⟩ K3 ⟨⟩=(rows.length+xs.length<=9223372036854775807/\(rows.length+xs.length)*b<=140737488355328/\K3 (.own id e k (rows++xs)) ⟨zcU id tm,yr id bx,nx,lg⟩):=(rfl)
theorem zng {fs:List C}:ud P G h (.clo (.func f) fs cs) args ⟨tm,bx,nx,lg⟩ K3 ⟨⟩ ⟨⟩=Zt P G f (fs++args++cs) (C.frzL (fs++args++cs)) ⟨tm,bx,nx,lg⟩ K3 ⟨⟩:=(rfl)
theorem znE {l:Nat} {items:List (List C)} {sf:Nat->Bool}:ud P G ⟨p,some ⟨l,items,sf⟩,bf⟩ (.sc (.func (.yield l) #[] #[])) args ⟨tm,bx,nx,lg⟩ K3 ⟨⟩ ⟨⟩=zaQ ⟨l,items,sf⟩ (items[lg]?) args ⟨tm,bx,nx,lg⟩ K3 ⟨⟩ ⟨⟩:=(show ye P G ⟨p,some ⟨l,items,sf⟩,bf⟩ (.sc (.func (.yield l) #[] #[])) args ⟨tm,bx,nx,lg⟩ K3=Nx ⟨l,items,sf⟩ (items[lg]?) args ⟨tm,bx,nx,lg⟩ K3 from by simp[ye,zaX])
theorem zlb {l:Nat} {items:List (List C)} {sf:Nat->Bool} {it:List C}:zaQ ⟨l,items,sf⟩ (some it) args ⟨tm,bx,nx,lg⟩ K3 ⟨⟩ ⟨⟩=(zh [] 0 args it/\(∀ j,j<lg->sf j=false)/\K3 (.sc (.bool (!sf lg))) ⟨tm,bx,nx,lg+1⟩):=(rfl)
theorem zpS {ι:List Nat}:upB ι m j=match ι[j]? with | some i=>some i | none=>some (m+(j-ι.length)):=(rfl)
theorem ztb:X5 [] i=none:=(rfl)
theorem zrX {x1:Nat} {r:List Nat}:X5 (x1 :: r) i=if i=x1 then some 0 else (X5 r i).map (·+1):=(rfl)
theorem znU:Gp fp fo [] = []:=(rfl)
theorem zo8 {r:List (Nat×C)}:Gp fp fo ((u,c) :: r)=(u,c.re fp fo) :: Gp fp fo r:=(rfl)
theorem zlX:N3 fp fo [] = []:=(rfl)
theorem zrz {r:List (List C)}:N3 fp fo (cs :: r)=C.reL fp fo cs :: N3 fp fo r:=(rfl)
theorem zir {l:List (List C)}:VH [] l bx=bx:=(rfl)
theorem zkp {ι:List Nat} {r:List (List C)}:VH (i :: ι) (cs :: r) bx=VH ι r (bx.set i cs):=(rfl)
theorem zjj {ι κ:List Nat}:Z3 ι κ bx' n ⟨tm,bx,nx,lg⟩=⟨Gp some (Z6 κ) tm,VH ι (N3 (upB ι bx.length) (upO nx) bx') (N3 some (Z6 κ) bx)++N3 (upB ι bx.length) (upO nx) (bx'.drop ι.length),nx+n,lg⟩:=(rfl)
theorem zop {κ:List Nat}:Z6 κ i=if i∈κ then none else some i:=(rfl)
theorem ziw:GE m i=if i<m then some i else none:=(rfl)
theorem zh1:XB m i=if i<m then none else some (i-m):=(rfl)
theorem zmP {fs:List C}:zei P G (.clo (.func f) fs cs) args nx K2 ⟨⟩=y4 P G f (C.frzL (fs++args++cs)) nx K2 ⟨⟩:=(rfl)
theorem zsa {s:Nat} {z1:List Value}:zro (some ⟨kd,s,b,some z1⟩) ⟨tm,bx,nx,lg⟩ K3 ⟨⟩=((z1.all Value.oneCell')=true/\K3 (.ptr bx.length 0) ⟨tm,bx++[z1.map zD],nx,lg⟩):=(rfl)
theorem zsJ:zrl c ⟨tm,bx,nx,lg⟩ K3 ⟨⟩=(c.partB=true/\(c.cells.all C.cellB)=true/\K3 (.ptr bx.length 0) ⟨tm,bx++[c.cells],nx,lg⟩):=(rfl)
theorem zrM:zqw (some L) (.ptr i off) c ⟨tm,bx,nx,lg⟩ K3 ⟨⟩=zqp (bx[i]?) i off L.size c ⟨tm,bx,nx,lg⟩ K3 ⟨⟩:=(rfl)
theorem zst:zqp (some cs) i off size c ⟨tm,bx,nx,lg⟩ K3 ⟨⟩=(c.partB=true/\(c.cells.all C.cellB)=true/\c.cells.length=size/\off+size<=cs.length/\K3 .any ⟨tm,bx.set i (cs.take off++c.cells++cs.drop (off+size)),nx,lg⟩):=(rfl)
theorem ziO:C.frz (.sc v) = .sc v:=(show C.frz (.sc v) = .sc v from by rw[C.frz])
theorem zm0 {id:Nat}:C.dg id (.sc v) = .sc v:=(show C.dg id (.sc v) = .sc v from by rw[C.dg])
theorem zmW:C.sh n (.sc v) = .sc v:=(show C.sh n (.sc v) = .sc v from by rw[C.sh])
theorem zfJ:C.frz (.str l) = .str l:=(show C.frz (.str l) = .str l from by rw[C.frz])
theorem zkA {id:Nat}:C.dg id (.str l) = .str l:=(show C.dg id (.str l) = .str l from by rw[C.dg])
theorem zh6:C.sh n (.str l) = .str l:=(show C.sh n (.str l) = .str l from by rw[C.sh])
theorem zj5 {rows:List (List C)}:C.frz (.sl k rows) = .sl k rows:=(show C.frz (.sl k rows) = .sl k rows from by rw[C.frz])
theorem zmd {rows:List (List C)} {id:Nat}:C.dg id (.sl k rows) = .sl k rows:=(show C.dg id (.sl k rows) = .sl k rows from by rw[C.dg])
theorem zn7 {rows:List (List C)}:C.sh n (.sl k rows) = .sl k rows:=(show C.sh n (.sl k rows) = .sl k rows from by rw[C.sh])
theorem zfW:C.frz (.row cs) = .row cs:=(show C.frz (.row cs) = .row cs from by rw[C.frz])
theorem zke {id:Nat}:C.dg id (.row cs) = .row cs:=(show C.dg id (.row cs) = .row cs from by rw[C.dg])
theorem zj6:C.sh n (.row cs) = .row cs:=(show C.sh n (.row cs) = .row cs from by rw[C.sh])
theorem zkb {id:Nat}:C.dg id (.any) = .any:=(show C.dg id (.any) = .any from by rw[C.dg])
theorem zld:C.sh n (.any) = .any:=(show C.sh n (.any) = .any from by rw[C.sh])
theorem zl9 {ks:MK}:C.sh n (.mo i t2 ks vs) = .mo (n+i) t2 ks vs:=(show C.sh n (.mo i t2 ks vs) = .mo (n+i) t2 ks vs from by rw[C.sh])
theorem zl3 {ks:MK}:C.re fp fo (.mo i t2 ks vs)=moO (fo i) t2 ks (C.reL fp fo vs):=(show C.re fp fo (.mo i t2 ks vs)=moO (fo i) t2 ks (C.reL fp fo vs) from by rw[C.re];rfl)
theorem zl6 {ks:MK}:C.fz bx (.mo i t2 ks vs) = .mo i t2 ks vs:=(show C.fz bx (.mo i t2 ks vs) = .mo i t2 ks vs from by rw[C.fz])
theorem zl2 {id:Nat}:C.up id ks1 vs1 (.sc v) = .sc v:=(show C.up id ks1 vs1 (.sc v) = .sc v from by rw[C.up])
theorem zj3 {id:Nat}:C.up id ks1 vs1 (.str l) = .str l:=(show C.up id ks1 vs1 (.str l) = .str l from by rw[C.up])
theorem zoq {rows:List (List C)} {id:Nat}:C.up id ks1 vs1 (.sl k rows) = .sl k rows:=(show C.up id ks1 vs1 (.sl k rows) = .sl k rows from by rw[C.up])
theorem zjs {id:Nat}:C.up id ks1 vs1 (.ptr i off) = .ptr i off:=(show C.up id ks1 vs1 (.ptr i off) = .ptr i off from by rw[C.up])
theorem znK {ks:MK} {id:Nat}:C.up id ks1 vs1 (.mo i t2 ks vs)=if i=id then .mo i t2 ks1 vs1 else .mo i t2 ks vs:=(show C.up id ks1 vs1 (.mo i t2 ks vs)=if i=id then .mo i t2 ks1 vs1 else .mo i t2 ks vs from by rw[C.up])
theorem zjb {id:Nat}:C.up id ks1 vs1 (.agg cs) = .agg (C.upL id ks1 vs1 cs):=(show C.up id ks1 vs1 (.agg cs) = .agg (C.upL id ks1 vs1 cs) from by rw[C.up])
theorem zkB {fs:List C} {id:Nat}:C.up id ks1 vs1 (.clo fn fs cs) = .clo fn (C.upL id ks1 vs1 fs) (C.upL id ks1 vs1 cs):=(show C.up id ks1 vs1 (.clo fn fs cs) = .clo fn (C.upL id ks1 vs1 fs) (C.upL id ks1 vs1 cs) from by rw[C.up])
theorem zgL {id:Nat}:C.upL id ks1 vs1 [] = []:=(show C.upL id ks1 vs1 [] = [] from by rw[C.upL])
theorem zcy {id:Nat}:C.upL id ks1 vs1 (c :: r)=c.up id ks1 vs1 :: C.upL id ks1 vs1 r:=(show C.upL id ks1 vs1 (c :: r)=c.up id ks1 vs1 :: C.upL id ks1 vs1 r from by rw[C.upL])
theorem zcS {id:Nat}:zhN id ks1 vs1 [] = []:=(rfl)
theorem zq9 {r:List (Nat×C)} {id:Nat}:zhN id ks1 vs1 ((u,c) :: r)=(u,c.up id ks1 vs1) :: zhN id ks1 vs1 r:=(rfl)
theorem zdi {id:Nat}:zdq id ks1 vs1 [] = []:=(rfl)
theorem zoV {r:List (List C)} {id:Nat}:zdq id ks1 vs1 (cs :: r)=C.upL id ks1 vs1 cs :: zdq id ks1 vs1 r:=(rfl)
theorem zd8 {id:Nat} {rows:List (List C)}:C.frz (.own id e k rows) = .sl k rows:=(show C.frz (.own id e k rows) = .sl k rows from by rw[C.frz])
theorem zfd:C.frz (.ptr i off) = .any:=(show C.frz (.ptr i off) = .any from by rw[C.frz])
theorem zjH {id:Nat}:C.dg id (.ptr i off) = .ptr i off:=(show C.dg id (.ptr i off) = .ptr i off from by rw[C.dg])
theorem zjt {id:Nat} {rows:List (List C)}:C.dg id (.own i e k rows)=if i=id then .sl k rows else .own i e k rows:=(show C.dg id (.own i e k rows)=if i=id then .sl k rows else .own i e k rows from by rw[C.dg])
theorem zhX {rows:List (List C)}:C.sh n (.own i e k rows) = .own (n+i) e k rows:=(show C.sh n (.own i e k rows) = .own (n+i) e k rows from by rw[C.sh])
theorem zow:C.re fp fo (.sc v) = .sc v:=(show C.re fp fo (.sc v) = .sc v from by rw[C.re])
theorem zkk:C.sel fp (.sc v) = .sc v:=(show C.sel fp (.sc v) = .sc v from by rw[C.sel])
theorem zkQ:C.re fp fo (.str l) = .str l:=(show C.re fp fo (.str l) = .str l from by rw[C.re])
theorem zeh:C.sel fp (.str l) = .str l:=(show C.sel fp (.str l) = .str l from by rw[C.sel])
theorem zoj {rows:List (List C)}:C.re fp fo (.sl k rows) = .sl k rows:=(show C.re fp fo (.sl k rows) = .sl k rows from by rw[C.re])
theorem zkS {rows:List (List C)}:C.sel fp (.sl k rows) = .sl k rows:=(show C.sel fp (.sl k rows) = .sl k rows from by rw[C.sel])
theorem zbK {rows:List (List C)}:C.re fp fo (.tight k rows) = .tight k rows:=(show C.re fp fo (.tight k rows) = .tight k rows from by rw[C.re])
theorem zjE:C.re fp fo (.row cs) = .row cs:=(show C.re fp fo (.row cs) = .row cs from by rw[C.re])
theorem zgY:C.sel fp (.row cs) = .row cs:=(show C.sel fp (.row cs) = .row cs from by rw[C.sel])
theorem zjy:C.re fp fo (.any) = .any:=(show C.re fp fo (.any) = .any from by rw[C.re])
theorem znF:C.fz bx (.sc v) = .sc v:=(show C.fz bx (.sc v) = .sc v from by rw[C.fz])
theorem zjA:C.fz bx (.str l) = .str l:=(show C.fz bx (.str l) = .str l from by rw[C.fz])
theorem zm3 {rows:List (List C)}:C.fz bx (.sl k rows) = .sl k rows:=(show C.fz bx (.sl k rows) = .sl k rows from by rw[C.fz])
theorem zkh {id:Nat} {rows:List (List C)}:C.fz bx (.own id e k rows) = .own id e k rows:=(show C.fz bx (.own id e k rows) = .own id e k rows from by rw[C.fz])
theorem ziY:C.fz bx (.row cs) = .row cs:=(show C.fz bx (.row cs) = .row cs from by rw[C.fz])
theorem zh5:C.fz bx (.ptr i off)=zrY (bx[i]?) off:=(show C.fz bx (.ptr i off)=zrY (bx[i]?) off from by rw[C.fz];rfl)
theorem zmo:zrY (some cs) off = .row ((C.frzL cs).drop off):=(rfl)
theorem zcv {f:Fn} {a b:Array Value}:Value.oneCell' (.func f a b)=true:=(rfl)
theorem zjU {id:Nat} {rows:List (List C)}:C.re fp fo (.own id e k rows)=zrD (fo id) e k rows:=(show C.re fp fo (.own id e k rows)=zrD (fo id) e k rows from by rw[C.re];rfl)
theorem zi7:C.re fp fo (.ptr i off)=zoP (fp i) off:=(show C.re fp fo (.ptr i off)=zoP (fp i) off from by rw[C.re];rfl)
theorem zeg:C.sel fp (.ptr i off)=zoP (fp i) off:=(show C.sel fp (.ptr i off)=zoP (fp i) off from by rw[C.sel];rfl)
theorem zn1 {rows:List (List C)}:zrD (some j) e k rows = .own j e k rows:=(rfl)
theorem zmD {rows:List (List C)}:zrD none e k rows = .sl k rows:=(rfl)
theorem zmb:zoP (some j) off = .ptr j off:=(rfl)
theorem zn6:zoP none off = .any:=(rfl)
theorem zou:C.fy nx fr bx (.sc v) = .sc v:=(show C.fy nx fr bx (.sc v) = .sc v from by rw[C.fy])
theorem zlN {rows:List (List C)}:C.fy nx fr bx (.sl k rows) = .sl k rows:=(show C.fy nx fr bx (.sl k rows) = .sl k rows from by rw[C.fy])
theorem zmR:C.fy nx fr bx (.bs i off k n cap)=Uz nx fr i off k n cap:=(show C.fy nx fr bx (.bs i off k n cap)=Uz nx fr i off k n cap from by rw[C.fy])
theorem zkL {i2 k2 cap2:Nat} {rows:List (List C)} {r:Fr}:Uz nx ((i2,e,k2,rows,cap2) :: r) i off k n cap=if i=i2/\off=0/\k=k2/\n=rows.length/\cap=cap2 then .own nx e k2 rows else Uz (nx+1) r i off k n cap:=(show Uz nx ((i2,e,k2,rows,cap2) :: r) i off k n cap=if i=i2/\off=0/\k=k2/\n=rows.length/\cap=cap2 then .own nx e k2 rows else Uz (nx+1) r i off k n cap from by rw[Uz])
theorem zi4:C.re fp fo (.agg cs) = .agg (C.reL fp fo cs):=(show C.re fp fo (.agg cs) = .agg (C.reL fp fo cs) from by rw[C.re])
theorem zjl:C.re fp fo (.tup cs) = .tup (C.reL fp fo cs):=(show C.re fp fo (.tup cs) = .tup (C.reL fp fo cs) from by rw[C.re])
theorem zkw {fs:List C}:C.re fp fo (.clo fn fs cs) = .clo fn (C.reL fp fo fs) (C.reL fp fo cs):=(show C.re fp fo (.clo fn fs cs) = .clo fn (C.reL fp fo fs) (C.reL fp fo cs) from by rw[C.re])
theorem zeF:C.reL fp fo [] = []:=(show C.reL fp fo [] = [] from by rw[C.reL])
theorem zbU:C.reL fp fo (c :: r)=C.re fp fo c :: C.reL fp fo r:=(show C.reL fp fo (c :: r)=C.re fp fo c :: C.reL fp fo r from by rw[C.reL])
theorem zeI:C.sel fp (.agg cs) = .agg (C.selL fp cs):=(show C.sel fp (.agg cs) = .agg (C.selL fp cs) from by rw[C.sel])
theorem zeX {fs:List C}:C.sel fp (.clo fn fs cs) = .clo fn (C.selL fp fs) (C.selL fp cs):=(show C.sel fp (.clo fn fs cs) = .clo fn (C.selL fp fs) (C.selL fp cs) from by rw[C.sel])
theorem zb2:C.selL fp [] = []:=(show C.selL fp [] = [] from by rw[C.selL])
theorem ul:C.selL fp (c :: r)=C.sel fp c :: C.selL fp r:=(show C.selL fp (c :: r)=C.sel fp c :: C.selL fp r from by rw[C.selL])
theorem zjQ :C.fz bx (.agg cs) = .agg (C.fzL bx cs):=(show C.fz bx (.agg cs) = .agg (C.fzL bx cs) from by rw[C.fz])
theorem zjq :C.fz bx (.tup cs) = .tup (C.fzL bx cs):=(show C.fz bx (.tup cs) = .tup (C.fzL bx cs) from by rw[C.fz])
theorem zk9 {fs:List C} :C.fz bx (.clo fn fs cs) = .clo fn (C.fzL bx fs) (C.fzL bx cs):=(show C.fz bx (.clo fn fs cs) = .clo fn (C.fzL bx fs) (C.fzL bx cs) from by rw[C.fz])
theorem zht:C.fzL bx [] = []:=(show C.fzL bx [] = [] from by rw[C.fzL])
theorem zcG :C.fzL bx (c :: r)=C.fz bx c :: C.fzL bx r:=(show C.fzL bx (c :: r)=C.fz bx c :: C.fzL bx r from by rw[C.fzL])
theorem zig:C.fy nx fr bx (.agg cs) = .agg (C.fyL nx fr bx cs):=(show C.fy nx fr bx (.agg cs) = .agg (C.fyL nx fr bx cs) from by rw[C.fy])
theorem zji:C.fy nx fr bx (.tup cs) = .tup (C.fyL nx fr bx cs):=(show C.fy nx fr bx (.tup cs) = .tup (C.fyL nx fr bx cs) from by rw[C.fy])
theorem zhz:C.fyL nx fr bx [] = []:=(show C.fyL nx fr bx [] = [] from by rw[C.fyL])
theorem zdp:C.fyL nx fr bx (c :: r)=C.fy nx fr bx c :: C.fyL nx fr bx r:=(show C.fyL nx fr bx (c :: r)=C.fy nx fr bx c :: C.fyL nx fr bx r from by rw[C.fyL])
theorem zfA:C.frz (.agg cs) = .agg (C.frzL cs):=(show C.frz (.agg cs) = .agg (C.frzL cs) from by rw[C.frz])
theorem zgS {fs:List C}:C.frz (.clo fn fs cs) = .clo fn (C.frzL fs) (C.frzL cs):=(show C.frz (.clo fn fs cs) = .clo fn (C.frzL fs) (C.frzL cs) from by rw[C.frz])
theorem zew {fs:List C}:C.frq (.clo fn fs cs) = .clo fn (fs.map C.kp) (cs.map C.kp):=rfl
theorem zki:C.frq (.sc v) = .sc v:=(show C.frz (.sc v) = .sc v from by rw[C.frz])
theorem zfk:C.frq (.str l) = .str l:=(show C.frz (.str l) = .str l from by rw[C.frz])
theorem zjB {rows:List (List C)}:C.frq (.sl k rows) = .sl k rows:=(show C.frz (.sl k rows) = .sl k rows from by rw[C.frz])
theorem zf4:C.frq .any = .any:=(show C.frz .any = .any from by rw[C.frz])
theorem zey {id:Nat} {rows:List (List C)}:C.frq (.own id e k rows) = .sl k rows:=(show C.frz (.own id e k rows) = .sl k rows from by rw[C.frz])
theorem zk6:C.kp (.ptr i off) = .ptr i off:=rfl
theorem znH:C.kp (.sc v) = .sc v:=(show C.frz (.sc v) = .sc v from by rw[C.frz])
theorem zjg:C.kp (.str l) = .str l:=(show C.frz (.str l) = .str l from by rw[C.frz])
theorem ziH:C.kp .any = .any:=(show C.frz .any = .any from by rw[C.frz])
theorem zb5:C.frzL [] = []:=(show C.frzL [] = [] from by rw[C.frzL])
theorem uu:C.frzL (c :: r)=C.frz c :: C.frzL r:=(show C.frzL (c :: r)=C.frz c :: C.frzL r from by rw[C.frzL])
theorem zio {id:Nat}:C.dg id (.agg cs) = .agg (C.dgL id cs):=(show C.dg id (.agg cs) = .agg (C.dgL id cs) from by rw[C.dg])
theorem zlc {id:Nat}:C.dg id (.tup cs) = .tup (C.dgL id cs):=(show C.dg id (.tup cs) = .tup (C.dgL id cs) from by rw[C.dg])
theorem zkY {fs:List C} {id:Nat}:C.dg id (.clo fn fs cs) = .clo fn (C.dgL id fs) (C.dgL id cs):=(show C.dg id (.clo fn fs cs) = .clo fn (C.dgL id fs) (C.dgL id cs) from by rw[C.dg])
theorem zgN {id:Nat}:C.dgL id [] = []:=(show C.dgL id [] = [] from by rw[C.dgL])
theorem zdv {id:Nat}:C.dgL id (c :: r)=C.dg id c :: C.dgL id r:=(show C.dgL id (c :: r)=C.dg id c :: C.dgL id r from by rw[C.dgL])
theorem zin:C.sh n (.agg cs) = .agg (C.shL n cs):=(show C.sh n (.agg cs) = .agg (C.shL n cs) from by rw[C.sh])
theorem zjn:C.sh n (.tup cs) = .tup (C.shL n cs):=(show C.sh n (.tup cs) = .tup (C.shL n cs) from by rw[C.sh])
theorem zjV {fs:List C}:C.sh n (.clo fn fs cs) = .clo fn (C.shL n fs) (C.shL n cs):=(show C.sh n (.clo fn fs cs) = .clo fn (C.shL n fs) (C.shL n cs) from by rw[C.sh])
theorem zgp:C.shL n [] = []:=(show C.shL n [] = [] from by rw[C.shL])
theorem zcf:C.shL n (c :: r)=C.sh n c :: C.shL n r:=(show C.shL n (c :: r)=C.sh n c :: C.shL n r from by rw[C.shL])
theorem zbJ {id:Nat}:zcU id [] = []:=(rfl)
theorem zp1 {id:Nat} {r:List (Nat×C)}:zcU id ((u,c) :: r)=(u,c.dg id) :: zcU id r:=(rfl)
theorem zcq {id:Nat}:yr id [] = []:=(rfl)
theorem zpk {id:Nat} {r:List (List C)}:yr id (cs :: r)=C.dgL id cs :: yr id r:=(rfl)
theorem uf:C.cellB (.str l)=true:=(rfl)
theorem yB:C.partB (.str l)=true:=(rfl)
theorem yN:C.cells (.str l) = [.str l]:=(rfl)
theorem zc1 {rows:List (List C)}:C.cellB (.sl k rows)=true:=(rfl)
theorem zbY {rows:List (List C)}:C.partB (.sl k rows)=true:=(rfl)
theorem zc7 {rows:List (List C)}:C.cells (.sl k rows) = [.sl k rows]:=(rfl)
theorem ve {id:Nat} {rows:List (List C)}:C.cellB (.own id e k rows)=true:=(rfl)
theorem vk {id:Nat} {rows:List (List C)}:C.partB (.own id e k rows)=true:=(rfl)
theorem uo {id:Nat} {rows:List (List C)}:C.cells (.own id e k rows) = [.own id e k rows]:=(rfl)
theorem yS {fs:List C}:C.cellB (.clo fn fs cs)=true:=(rfl)
theorem yE {fs:List C}:C.partB (.clo fn fs cs)=true:=(rfl)
theorem um {fs:List C}:C.cells (.clo fn fs cs) = [.clo fn fs cs]:=(rfl)
theorem zcl:C.cellB (.sc v)=v.oneCell':=(rfl)
theorem zbH:C.partB (.sc v)=v.oneCell':=(rfl)
theorem zdz:C.cells (.sc v) = [.sc v]:=(rfl)
theorem vM:C.partB (.agg cs)=true:=(rfl)
theorem vj:C.cells (.agg cs)=cs:=(rfl)
theorem zfp {k:IntKind} {n:Int}:Value.oneCell' (.int k n)=true:=(rfl)
theorem zds {b:Bool}:Value.oneCell' (.bool b)=true:=(rfl)
theorem vG {a:Option Addr} {m:Nat}:Value.oneCell' (.slice a n m)=true:=(rfl)
theorem M6 {s:ByteArray}:Value.oneCell' (.string s)=true:=(rfl)
theorem znG:Q7 k 0 cs = []:=(rfl)
theorem zmY:Q7 k (n+1) cs=cs.take k :: Q7 k n (cs.drop k):=(rfl)
theorem zma:UM i [] = []:=(rfl)
theorem zpm:UM i (c :: r)=(i,c) :: UM (i+1) r:=(rfl)
theorem zgk:znd (.sc (.bool true)) X Y ⟨⟩ ⟨⟩=X:=zkE
theorem zcO:znd (.sc (.bool false)) X Y ⟨⟩ ⟨⟩=Y:=zg7
theorem br {b:Bool} (hx:b=true->X) (hy:b=false->Y):znd (.sc (.bool b)) X Y ⟨⟩ ⟨⟩:=ABr.mk hx hy
theorem jU {a1:List C} (ι κ:List Nat) (hf:Xe P G f a1 fbx q post) (hq:κ.length=q) (hι:ι.Nodup) (hκ:κ.Nodup) (hb:∀ i∈ι,i<bx.length)
  (ha:C.reL (X5 ι) (X5 κ) args=a1) (hx:(ι.map fun i=>C.reL (X5 ι) (X5 κ) (bx.getD i []))=fbx) (hK:∀ r fbx' n,post r fbx' n->K3 (r.re (upB ι bx.length) (upO nx)) (Z3 ι κ fbx' n ⟨tm,bx,nx,lg⟩)):Zt P G f args fargs ⟨tm,bx,nx,lg⟩ K3 ⟨⟩:=
 .inr <| .inr <| .inr <| .inl ⟨ι,κ,post,hι,hκ,hb,by rw[ha,hq];exact hx▸hf,hK⟩
theorem zgi {K4:C->List (List C)->Nat->Prop} {a1:List C} (ι:List Nat) (hf:Xe P G f a1 fbx 0 post) (hι:ι.Nodup) (hb:∀ i∈ι,i<bx.length)
  (ha:C.reL (X5 ι) (X5 []) args=a1) (hx:(ι.map fun i=>C.reL (X5 ι) (X5 []) (bx.getD i []))=fbx) (hK:∀ r fbx' n,post r fbx' n->K4 (r.re (upB ι bx.length) (upO nx)) (Z3 ι [] fbx' n ⟨tm,bx,nx,lg⟩).bx (nx+n)):ztl P G f args ⟨tm,bx,nx,lg⟩ K4 ⟨⟩:=
 ⟨ι,post,hι,hb,by rw[ha];exact hx▸hf,hK⟩
theorem znJ {r:C} (hf:zsw P f args bx r) (hK:K3 r ⟨tm,bx,nx,lg⟩):Zt P G f args fargs ⟨tm,bx,nx,lg⟩ K3 ⟨⟩:=.inr <| .inr <| .inr <| .inr ⟨r,hf,hK⟩
theorem znS {m:Nat} {z:Option (List Value)} {xs:List C} (hl:lay P t=some ⟨.slice e,s1,b1,z1⟩) (hle:lay P e=some ⟨kd,k,by',z⟩) (hx:d.xs? k bx=some (m,xs)) (hb:bx[i]?=some cs) (hxl:xs.length=m*k) (hfit:off+n*k<=cs.length)
  (hK:K3 (.sc (.int .i64 ((min m n:Nat):Int))) ⟨tm,bx.set i (spl cs off (xs.take (min m n*k))),nx,lg⟩):Me P t (.bs i off k n cap) d ⟨tm,bx,nx,lg⟩ K3 ⟨⟩:=by
 show Zu P t _ _ _ _;unfold Zu;simp only[hl,hle,hx,hb];exact ⟨trivial,hxl,hfit,hK⟩
theorem zqv {m:Nat} {c:C} {z:Option (List Value)} {xs:List C} (hl:lay P t=some ⟨.slice e,s1,b1,z1⟩) (hle:lay P e=some ⟨kd,k,by',z⟩) (hx:d.xs? k bx=some (m,xs)) (hc:c.rows? k=some []) (hb:∀ i off k n c',c≠.bs i off k n c') (hxl:xs.length=m*k)
  (hK:K3 (.sc (.int .i64 0)) ⟨tm,bx,nx,lg⟩):Me P t c d ⟨tm,bx,nx,lg⟩ K3 ⟨⟩:=by
 show Zu P t _ _ _ _;unfold Zu;simp only[hl,hle,hx];cases c<;>first
  | exact absurd rfl (hb _ _ _ _ _)
  | (simp only[hc];exact ⟨hxl,hK⟩)
theorem zpM {z:List Value} (hl:lay P t=some ⟨.slice e,s1,b1,z1⟩) (hle:lay P e=some ⟨kd,k,by',some z⟩) (hb:bx[i]?=some cs) (hz:z.length=k) (hk:0<k) (h1:(z.all Value.oneCell')=true) (hfit:off+n*k<=cs.length)
  (hK:K3 .any ⟨tm,bx.set i (spl cs off (List.replicate n (z.map zD)).flatten),nx,lg⟩):yV P t (.bs i off k n cap) ⟨tm,bx,nx,lg⟩ K3 ⟨⟩:=by
 show Hm P t _ _ _;unfold Hm;simp only[hl,hle,hb];exact ⟨trivial,hz,hk,h1,hfit,hK⟩
theorem NR {m:Nat} {z:List Value} {xs:List C} (hl:lay P t=some ⟨.slice e,s1,b1,z1⟩) (hle:lay P e=some ⟨kd,k,by',some z⟩) (hx:d.xs? k bx=some (m,xs)) (hz:z.length=k) (hk:0<k) (h1:(z.all Value.oneCell')=true) (hxl:xs.length=m*k) (hm:0<m) (h63:m<=9223372036854775807) (hby:m*by'<=140737488355328)
  (hK:∀ cap,m<=cap->cap<=9223372036854775807->K3 (.bs bx.length 0 k m cap) ⟨tm,bx++[xs++List.replicate ((cap-m)*k) .any],nx,lg⟩):vo P t (.sc (.slice none 0 0)) d ⟨tm,bx,nx,lg⟩ K3 ⟨⟩:=by
 show YW P t _ _ _ _;unfold YW;simp only[hl,hle,hx];exact ⟨hz,hk,h1,hxl,hm,h63,hby,fun c h1 h2=>hK c h1 (by unfold maxLen at h2;omega)⟩
theorem Vg {m:Nat} {z:List Value} {xs:List C} (hl:lay P t=some ⟨.slice e,s1,b1,z1⟩) (hle:lay P e=some ⟨kd,k,by',some z⟩) (hx:d.xs? k bx=some (m,xs)) (hz:z.length=k) (hk:0<k) (h1:(z.all Value.oneCell')=true) (hxl:xs.length=m*k)
  (hb:bx[i]?=some cs) (hfit:off+cap*k<=cs.length) (hn:n<=cap) (h63:n+m<=9223372036854775807) (hby:(n+m)*by'<=140737488355328)
  (hK1:n+m<=cap->K3 (.bs i off k (n+m) cap) ⟨tm,bx.set i (spl cs (off+n*k) xs),nx,lg⟩)
  (hK2:cap<n+m->∀ c',n+m<=c'->c'<=9223372036854775807->K3 (.bs bx.length 0 k (n+m) c') ⟨tm,bx++[(cs.drop off).take (n*k)++xs++List.replicate ((c'-(n+m))*k) .any],nx,lg⟩):vo P t (.bs i off k n cap) d ⟨tm,bx,nx,lg⟩ K3 ⟨⟩:=by
 show YW P t _ _ _ _;unfold YW;simp only[hl,hle,hx,hb];exact ⟨hz,hk,h1,hxl,trivial,hfit,hn,h63,hby,hK1,fun h c h1 h2=>hK2 h c h1 (by unfold maxLen at h2;omega)⟩
theorem zdP {tn s2 b2:Nat} {kn kq:IntKind} {z:List Value} {q:Int} (hl:lay P t=some ⟨.slice e,s1,b1,z1⟩) (hln:lay P tn=some ⟨.int kn,s2,b2,z2⟩) (hle:lay P e=some ⟨kd,k,by',some z⟩) (hz:z.length=k) (hk:0<k) (h1:(z.all Value.oneCell')=true)
  (hq:0<q) (h63:q<=9223372036854775807) (hby:q*by'<=140737488355328) (hK:∀ c',q.toNat<=c'->c'<=maxLen->K3 (.bs bx.length 0 k q.toNat c') ⟨tm,bx++[(List.replicate q.toNat (z.map zD)).flatten++List.replicate ((c'-q.toNat)*k) .any],nx,lg⟩) :
  zbc P t tn (.sc (.slice none 0 0)) (.sc (.int kq q)) ⟨tm,bx,nx,lg⟩ K3 ⟨⟩:=by
 show Np P t tn _ _ _ _;unfold Np;simp only[hl,hln,hle];exact ⟨hz,hk,h1,hq,h63,hby,hK⟩
theorem ztD {tn s2 b2:Nat} {kn kq:IntKind} {z:List Value} {q:Int} (hl:lay P t=some ⟨.slice e,s1,b1,z1⟩) (hln:lay P tn=some ⟨.int kn,s2,b2,z2⟩) (hle:lay P e=some ⟨kd,k,by',some z⟩) (hz:z.length=k) (hk:0<k) (h1:(z.all Value.oneCell')=true)
  (hb:bx[i]?=some cs) (hfit:off+cap*k<=cs.length) (hn:n<=cap) (hq:0<q) (h63:(n:Int)+q<=9223372036854775807) (hby:((n:Int)+q)*by'<=140737488355328) (hg:(cap:Int)<n+q)
  (hK:∀ c',n+q.toNat<=c'->c'<=9223372036854775807->K3 (.bs bx.length 0 k (n+q.toNat) c') ⟨tm,bx++[(cs.drop off).take (n*k)++(List.replicate q.toNat (z.map zD)).flatten++List.replicate ((c'-(n+q.toNat))*k) .any],nx,lg⟩):zbc P t tn (.bs i off k n cap) (.sc (.int kq q)) ⟨tm,bx,nx,lg⟩ K3 ⟨⟩:=by
 show Np P t tn _ _ _ _;unfold Np;simp only[hl,hln,hle,hb];exact ⟨hz,hk,h1,trivial,hfit,hn,hq,h63,hby,hg,fun c h1 h2=>hK c h1 (by unfold maxLen at h2;omega)⟩
def opB (P:Program) (fn:Func) (code:Code) (b:Nat->List Bool):Bool:=P.follows .mixedOrders&&(!(fn.name == "runtime.NumGoroutine")&&jT fn.ntmps b code)
theorem zpi {fn:Func} {b:Nat->List Bool} (h:opB P fn code b=true):P.follows .mixedOrders=true:=(AY.1 h).1
theorem zrm {fn:Func} {b:Nat->List Bool} (h:opB P fn code b=true):(fn.name == "runtime.NumGoroutine")=false:=by
 have:=(AY.1 (AY.1 h).2).1;simpa using this
theorem zrf {fn:Func} {b:Nat->List Bool} (h:opB P fn code b=true):jT fn.ntmps b code=true:=(AY.1 (AY.1 h).2).2
theorem foF {fn:Func} {r:C} (b:Nat->List Bool) (hf:P.funcs[f]?=some fn)
  (h:V8 P G ⟨0,none,b⟩ code (Mp P fn.results.toList (fun c σ=>∃ (fr:Fr) (src:Src),zbW fr σ.bx/\Q6 src=true/\src.length=n/\CLe src 0 (c.fy σ.nx fr σ.bx) r) ⟨⟩) ⟨UM 0 args,[],0,0⟩ ⟨⟩ ⟨⟩) (hb:fn.body=some code:=by rfl) (hN:args.length<=fn.ntmps:=by exact zjR rfl) (ho:opB P fn code b=true:=by kernel_rfl):Fun P G f args r n:=Fun.of_awpF b (zpi ho) hf hb (zrm ho) hN (zrf ho) h
theorem foX {fn:Func} {bx:List (List C)} (b:Nat->List Bool) (hf:P.funcs[f]?=some fn)
  (h:V8 P G ⟨bx.length,none,b⟩ code (Mp P fn.results.toList (fun c σ=>∃ r bx' n,(post r bx' n/\bx.length<=bx'.length)/\∃ src:Src,Q6 src=true/\src.length=n/\zd src bx'.length σ.bx bx'/\CLe src bx'.length c r) ⟨⟩) ⟨UM 0 args,bx,q,0⟩ ⟨⟩ ⟨⟩) (hb:fn.body=some code:=by rfl) (hN:args.length<=fn.ntmps:=by exact zjR rfl) (ho:opB P fn code b=true:=by kernel_rfl):Xe P G f args bx q post:=Xe.of_awp b (zpi ho) hf hb (zrm ho) hN (zrf ho) h
theorem zcL {r:C} (gargs:List C) (hf:Fun P G f gargs r n) (hr:r.freshB=true) (hl:jH bx args gargs) (hK:K3 (r.sh nx) ⟨tm,bx,nx+n,lg⟩):Zt P G f args fargs ⟨tm,bx,nx,lg⟩ K3 ⟨⟩:=.inr <| .inr <| .inl ⟨gargs,r,n,hl,hf,hr,hK⟩
theorem call {r:C} (hf:Fun P G f fargs r n) (hK:K3 (r.sh nx) ⟨tm,bx,nx+n,lg⟩):Zt P G f args fargs ⟨tm,bx,nx,lg⟩ K3 ⟨⟩:=.inl ⟨r,n,hf,hK⟩
theorem zbx {r:C} (hf:Fun P G f args r n) (hK:K2 (r.sh nx) (nx+n)):y4 P G f args nx K2 ⟨⟩:=uW.mk hf hK
theorem Fun.less {args':List C} {r:C} (hf:Fun P G f args' r n) (hl:zh [] 0 args args'):Fun P G f args r n:=⟨hf.1,fun R vs hg ha=>hf.2 R vs hg (by
 have:=zx.less _ _ _ hl ha;refine zx.ext (Ext.refl R) ⟨fun i b hb=>?_,fun id x hx=>?_⟩ _ _ this
 ·simp at hb
 ·have hx:Vo [] zU.T id=some x:=hx;simp[Vo]at hx)⟩
theorem Yz {a1:List C} {fbx':List (List C)} {r:C} (ι κ:List Nat) (hf:Zb P G f a1 fbx q r fbx' n) (hq:κ.length=q) (hι:ι.Nodup) (hκ:κ.Nodup) (hb:∀ i∈ι,i<bx.length)
  (ha:C.reL (X5 ι) (X5 κ) args=a1) (hx:(ι.map fun i=>C.reL (X5 ι) (X5 κ) (bx.getD i []))=fbx) (hK:K3 (r.re (upB ι bx.length) (upO nx)) (Z3 ι κ fbx' n ⟨tm,bx,nx,lg⟩)):Zt P G f args fargs ⟨tm,bx,nx,lg⟩ K3 ⟨⟩:=
 .inr <| .inl ⟨ι,κ,r,fbx',n,hι,hκ,hb,by rw[ha,hq];exact hx▸hf,hK⟩
theorem range {A B:Nat->(Exit->St->Prop)->St->Prop} {ps:List Tmp} {first cap first' cap':List C} {bx':List (List C)} (items:List (List C)) (sf:Nat->Bool) (m:Nat) (I:Nat->St) (hit:yu P G f first' cap' bx' items) (e1:C.selL (XB m) first=first') (e2:C.selL (XB m) cap=cap') (e3:(bx.drop m).map (C.selL (XB m))=bx')
  (hp:p<=m) (hm:m<=bx.length) (hlen:∀ it∈items,it.length=ps.length) (hI:∀ k,k<=items.length->(I k).bx.length=m) (hw:Yc m ⟨[],bx,nx,lg⟩ ((I 0).wt []))
  (hbody:∀ k it,items[k]?=some it->(∀ j,j<k->sf j=false)->A m (zlz (B m (uj m (HD m tm) (sf k) (I (k+1)) Q ⟨⟩ ⟨⟩)) ⟨⟩) ((I k).wt (VB ps it (HD m tm))))
  (hdone:(∀ j,j<items.length->sf j=false)->Q .normal ((I items.length).wt (HD m tm))):zee P G p A B Q ps (.clo (.func f) first cap) ⟨tm,bx,nx,lg⟩ ⟨⟩ ⟨⟩ ⟨⟩:=
 ⟨items,sf,m,I,hp,hm,by rw[e1,e2];exact e3▸hit,hlen,hI,hw,hbody,hdone⟩
theorem loop {B:(Exit->St->Prop)->St->Prop} {ι:Type} (I:ι->St) (ok:ι->Prop) (μ:ι->Nat) (i0:ι) (h0:ok i0) (hw:Yc p σ (I i0))
  (hr:∀ i,ok i->B (zaL (fun σ'=>∃ j,ok j/\μ j<μ i/\Yc p σ' (I j)) Q ⟨⟩ ⟨⟩) (I i)):zln p B Q σ ⟨⟩ ⟨⟩:=⟨ι,I,ok,μ,i0,h0,hw,hr⟩
theorem fof {fn:Func} {r:C} (b:Nat->List Bool) (hf:P.funcs[f]?=some fn)
  (h:V8 P G ⟨0,none,b⟩ code (Mp P fn.results.toList (fun c σ=>∃ src:Src,Q6 src=true/\src.length=n/\CLe src 0 (c.fz σ.bx) r) ⟨⟩) ⟨UM 0 args,[],0,0⟩ ⟨⟩ ⟨⟩) (hb:fn.body=some code:=by rfl) (hN:args.length<=fn.ntmps:=by exact zjR rfl) (ho:opB P fn code b=true:=by kernel_rfl):Fun P G f args r n:=Fun.of_awp b (zpi ho) hf hb (zrm ho) hN (zrf ho) h
theorem fon {fn:Func} {r:C} (hf:P.funcs[f]?=some fn)
  (h:V8 P G ⟨0,none,fun _=>[]⟩ code (Mp P fn.results.toList (fun c σ=>∃ src:Src,Q6 src=true/\src.length=n/\CLe src 0 (c.fz σ.bx) r) ⟨⟩) ⟨UM 0 args,[],0,0⟩ ⟨⟩ ⟨⟩) (hb:fn.body=some code:=by rfl) (hN:args.length<=fn.ntmps:=by exact zjR rfl) (ho:opB P fn code (fun _=>[])=true:=by kernel_rfl):Fun P G f args r n:=fof _ hf h hb hN ho
theorem foB {fn:Func} {bx bx':List (List C)} {r:C} (b:Nat->List Bool) (hf:P.funcs[f]?=some fn)
  (h:V8 P G ⟨bx.length,none,b⟩ code (Mp P fn.results.toList (fun c σ=>∃ src:Src,Q6 src=true/\src.length=n/\zd src bx'.length σ.bx bx'/\CLe src bx'.length c r) ⟨⟩) ⟨UM 0 args,bx,q,0⟩ ⟨⟩ ⟨⟩) (hb:fn.body=some code:=by rfl) (hN:args.length<=fn.ntmps:=by exact zjR rfl) (ho:opB P fn code b=true:=by kernel_rfl) (hlen:bx.length<=bx'.length:=by exact zjR rfl):Zb P G f args bx q r bx' n:=Zb.of_awp b (zpi ho) hf hb (zrm ho) hN (zrf ho) hlen h
theorem foI {fn:Func} {first cap:List C} {bx items:List (List C)} (b:Nat->List Bool) (hf:P.funcs[f]?=some fn)
  (h:∀ (l:Nat) (sf:Nat->Bool),V8 P G ⟨0,some ⟨l,items,sf⟩,b⟩ code (Mp P fn.results.toList (fun c σ=>zlZ items sf σ.lg) ⟨⟩) ⟨UM 0 (first++[.sc (.func (.yield l) #[] #[])]++cap),bx,0,0⟩ ⟨⟩ ⟨⟩) (hb:fn.body=some code:=by rfl) (hN:first.length+1+cap.length<=fn.ntmps:=by exact zjR rfl) (ho:opB P fn code b=true:=by kernel_rfl):yu P G f first cap bx items:=yu.of_awp b (zpi ho) hf hb (zrm ho) hN (zrf ho) h
theorem zsI {m:Nat} {xs:List C} {z1:List Value} (A:List C) (hbx:bx[i]?=some cs) (h1:z1.length=k) (h2:0<k) (h3:(z1.all Value.oneCell')=true) (h4:0<m) (hp:p<=i) (hl:cs.length=cap*k) (hn:n<=cap) (hc:cap<=9223372036854775807)
  (h5:n+m<=9223372036854775807) (h6:(n+m)*b<=140737488355328) (hA:C.reL (Yv i) some (cs.take (n*k)++xs)=A)
  (hK:∀ c',n+m<=c'->c'<=9223372036854775807->K3 (.bs i 0 k (n+m) c') ⟨Gp (Yv i) some tm,Vl i (A++List.replicate ((c'-(n+m))*k) .any) bx,nx,lg⟩):zq8 (some (m,xs)) p k b z1 (.bs i 0 k n cap) ⟨tm,bx,nx,lg⟩ K3 ⟨⟩:=by
 refine ⟨h1,h2,h3,h4,?_⟩;simp only[hbx];exact ⟨trivial,hp,hl,hn,hc,h5,h6,fun c' q1 q2=>by rw[hA];exact hK c' q1 (by unfold maxLen at q2;omega)⟩
theorem zcY (k:Nat):((k:Int)+1).toNat=k+1:=by omega
theorem zkd.mk {B:(Exit->St->Prop)->St->Prop} {ι:Type} (I:ι->St) (ok:ι->Prop) (μ:ι->Nat) (i0:ι) (h0:ok i0) (hw:Yc p σ (I i0))
  (hr:∀ i,ok i->B (znW (fun σ'=>∃ j,ok j/\μ j<μ i/\Yc p σ' (I j)) Q) (I i)):zkd p B Q σ:=⟨ι,I,ok,μ,i0,h0,hw,hr⟩
end
attribute [push_cast] zew zki zfk zjB zf4 zey zk6 znH zjg ziH ztc zsc zs1 zta zsq eq_self iff_self List.append_eq zrS ztR ztz zts zrU zdy zs9 znC ziu zq2 zqn zpN zqe zpr zlO zlM zp0 zms zmt zqZ zpP zmq zsC zra zoa zq3 zsT zsu zpg znP zpp ziL zmU zjT zeA zkx zh9 zix zhq zfj zgE zja zpf zqM zpc zp9 zg3 vW zt7 ziX zlP zmj zqq zp8 vh zcX zhv xV yb yX zc5 MX zjF vD zbZ zmn zom zqt zrh zpO zpV zqi zqJ zok zoZ zjD zj0 zju zjX zi6 zmp zqj zpt zm5 zl5 zcc zcw yY yC HR HH Nu zrd znI zhR zk3 zcg zbz zh3 zkW zev zeD zit zi0 xa xK zel zf3 zjL zhU uw xH zdR zf5 GT GL zef zhy Nr NJ zhi zgJ vJ vX zhh zfl znp znn uA zoW zn4 zco zdd zpB zkz zi1 zdg zry zcD zi3 ziF zeN zm1 zsS zih zfm zbk zeS zmm zdM ziA zca zdK uz yK zph ur xy vv NP vR vq M2 ze9 zft zhC Mc zfg x6 zgG zb0 zd9 zcZ zh4 zi5 zfL zfu zdQ zgq zg2 zdI zgX zgM zhF zed zdN zfo ze2 zhT ze0 zsj zhk zhl zo6 zbN zb6 znT NX zbF yW zb1 Mw MG znQ zkK zhu ztH zse zjN zhQ ztL zbj zcI zgg ze4 zbG zbq zbX zeB zgW zje ziB ziz ziN zk0 ztU zsV zsR zsv ztr zsK zs6 zol zoS zor zox zjh zlT zpb zpD zcu zde zbL zqV zt3 zmV ztY zso zqh ztO zsb zbR zgF zkT zcK zrv zpv zkJ zi2 zkl zbP zbV zbM zhe zcW zrg zdc zi9 zhw zkP zgh zeH zo1 zqT zmC zkX zuf znq zrs znx zsF zsn ztP zsh zsQ zr8 zsi zo7 zp3 zt0 zsf zs4 zhj zpW zsD zrW zqx zsl zsp zr0 zng znE zlb zpS ztb zrX znU zo8 zlX zrz zir zkp zjj zop ziw zh1 zmP zsa zsJ zrM zst ziO zm0 zmW zfJ zkA zh6 zj5 zmd zn7 zfW zke zj6 zkb zld zl9 zl3 zl6 zl2 zj3 zoq zjs znK zjb zkB zgL zcy zcS zq9 zdi zoV zd8 zfd zjH zjt zhX zow zkk zkQ zeh zoj zkS zbK zjE zgY zjy znF zjA zm3 zkh ziY zh5 zmo zcv zjU zi7 zeg zn1 zmD zmb zn6 zou zlN zmR zkL zi4 zjl zkw zeF zbU zeI zeX zb2 ul zjQ zjq zk9 zht zcG zig zji zhz zdp zfA zgS zb5 uu zio zlc zkY zgN zdv zin zjn zjV zgp zcf zbJ zp1 zcq zpk uf yB yN zc1 zbY zc7 ve vk uo yS yE um zcl zbH zdz vM vj zfp zds vG M6 znG zmY zma zpm zgk zcO
attribute [push_cast] Int.ofNat_eq_natCast Bool.not_false Bool.not_true Bool.true_beq Bool.false_beq beq_self_eq_true Bool.true_and znL zl0 zqc zl7 zl8 List.map_cons List.map_nil List.getElem?_cons_zero List.getElem?_cons_succ List.getElem?_toArray List.getElem?_nil List.drop_zero List.drop_succ_cons List.drop_nil List.take_succ_cons List.take_zero List.take_nil List.length_cons List.length_nil List.getD_cons_zero List.getD_cons_succ List.set_cons_zero List.set_cons_succ List.cons_append List.nil_append List.append_nil List.all_cons List.all_nil List.tail_cons List.tail_nil List.headD_cons List.headD_nil List.flatten_cons List.flatten_nil List.replicate_succ List.replicate_zero Bool.and_self Bool.and_true Bool.true_and Bool.not_true Bool.not_false Option.bind_some Option.map_some Option.map_none if_true if_false true_and and_true and_self decide_true decide_false Int.ofNat_le Int.ofNat_lt Int.natCast_inj zcY Int.toNat_natCast Nat.zero_add Nat.add_zero List.toList_toArray Int.add_zero Int.zero_add Bool.not_not Int.sub_zero Int.natCast_pos Nat.sub_zero Int.cast_ofNat_Int Nat.one_mul Nat.mul_one
theorem dn {p q r:Src->Prop} (c:r []:=by push_cast [ze,zd,CLe,zh]) (a:p []:=by rfl) (b:q []:=by rfl):∃ s,p s/\q s/\r s:=⟨[],a,b,c⟩
theorem wks {σ σ':St} (src:Src) (h4:ze src σ'.bx.length σ.tm σ'.tm:=by push_cast [ze,zd,CLe,zh]) (h5:zd src σ'.bx.length σ.bx σ'.bx:=by push_cast [ze,zd,CLe,zh]) (h1:Q6 src=true:=by rfl) (h2:src.length=σ'.nx:=by rfl)
  (h3:p<=σ'.bx.length:=by first | exact Wd _ | exact Wb _ | exact zjR rfl) (h0:σ'.lg=σ.lg:=by rfl):Yc p σ σ':=⟨src,h1,h2,h3,h0,h4,h5⟩
theorem wk {σ σ':St} (h4:ze [] σ'.bx.length σ.tm σ'.tm:=by push_cast [ze,zd,CLe,zh]) (h5:zd [] σ'.bx.length σ.bx σ'.bx:=by push_cast [ze,zd,CLe,zh]) (h2:([]:Src).length=σ'.nx:=by rfl)
  (h3:p<=σ'.bx.length:=by first | exact Wd _ | exact Wb _ | exact zjR rfl) (h0:σ'.lg=σ.lg:=by rfl):Yc p σ σ':=⟨[],rfl,h2,h3,h0,h4,h5⟩
theorem an {a b:Prop} (k:b) (h:a:=by first | omega | (simp only[lS];omega)):a/\b:=⟨h,k⟩
namespace CA
theorem cl {P:Program} {G:zq} {f:FuncId} {args fargs:List C} {r:C} {n nx lg:Nat} {tm:List (Nat×C)} {bx:List (List C)} {K3:C->St->Prop} (hf:Fun P G f fargs r n) (hK:K3 (r.sh nx) ⟨tm,bx,nx+n,lg⟩):Zt P G f args fargs ⟨tm,bx,nx,lg⟩ K3 ⟨⟩:=call hf hK
end CA
namespace CB
theorem cl {P:Program} {G:zq} {f:FuncId} {args:List C} {r:C} {n nx:Nat} {K2:C->Nat->Prop} (hf:Fun P G f args r n) (hK:K2 (r.sh nx) (nx+n)):y4 P G f args nx K2 ⟨⟩:=zbx hf hK
end CB
end
section
open Go.RowKit
def C.stayB:C->Bool
 | .sc _ | .str _ | .sl _ _ | .tight _ _ | .row _ | .any=>true
 | _=>false
theorem zjS {c:C} (h:c.stayB=true):c.frz=c:=by cases c<;>simp[C.stayB]at h<;>simp[C.frz]
theorem znv {c:C} {fp fo:Nat->Option Nat} (h:c.stayB=true):c.re fp fo=c:=by cases c<;>simp[C.stayB]at h<;>simp[C.re]
theorem zmh {c:C} {src:Src} {n:Nat} (h:c.stayB=true):CLe src n c c:=by cases c<;>simp[C.stayB]at h<;>simp[CLe]
theorem yf:∀ {cs:List C},(cs.all C.stayB)=true->C.frzL cs=cs
 | [],_=>by simp[C.frzL]
 | c :: r,h=>by
  simp only[AO,Wo]at h;rw[C.frzL,zjS h.1,yf h.2]
theorem zC {fp fo:Nat->Option Nat}:∀ {cs:List C},(cs.all C.stayB)=true->C.reL fp fo cs=cs
 | [],_=>by simp[C.reL]
 | c :: r,h=>by
  simp only[AO,Wo]at h;rw[C.reL,znv h.1,zC h.2]
theorem zS {src:Src} {n:Nat}:∀ {cs:List C},(cs.all C.stayB)=true->zh src n cs cs
 | [],_=>by simp[zh]
 | c :: r,h=>by
  simp only[AO,Wo]at h;rw[zh];exact ⟨zmh h.1,zS h.2⟩
theorem zof {src:Src} {n:Nat} (c:C):CLe src n c .any:=by cases c<;>simp[CLe]
theorem XF {src:Src} {n:Nat}:∀ {cs:List C} {m:Nat},cs.length=m->zh src n cs (List.replicate m .any)
 | [],_,h=>by subst h;simp[zh]
 | c :: r,_,h=>by
  subst h;rw[Wr,AI,zh];exact ⟨zof c,XF rfl⟩
theorem zep {src:Src} {n:Nat}:∀ {a b c d:List C},zh src n a c->zh src n b d->zh src n (a++b) (c++d)
 | [],b,[],d,_,h=>h
 | [],b,x :: c,d,h,_=>by simp[zh]at h
 | x :: a,b,[],d,h,_=>by simp[zh]at h
 | x :: a,b,y :: c,d,h,h'=>by
  rw[W8,W8,zh];rw[zh]at h;exact ⟨h.1,zep h.2 h'⟩
def qz (k:Nat) (rows:List (List C)) (c:Nat):List C:=rows.flatten++List.replicate ((c-rows.length)*k) .any
theorem qw {k:Nat}:∀ {rows:List (List C)},(∀ r∈rows,r.length=k)->rows.flatten.length=rows.length*k
 | [],_=>by simp
 | r :: rs,h=>by
  rw[OR,Wn,h r Wj,qw fun x hx=>h x (Wk _ hx),Wr,AM,Nat.add_comm]
theorem JY {k c:Nat} {rows:List (List C)} (h:∀ r∈rows,r.length=k) (hc:rows.length<=c):(qz k rows c).length=c*k:=by
 unfold qz;rw[Wn,qw h,AU,←On];congr 1;omega
abbrev jA (rows:List (List C)):Prop:=∀ r∈rows,(r.all C.stayB)=true
theorem QY {rows:List (List C)} (h:jA rows):(rows.flatten.all C.stayB)=true:=by
 rw[Ws];intro c hc;obtain ⟨r,hr,hc⟩:=List.mem_flatten.1 hc;exact Ws.1 (h r hr) c hc
theorem zE {k c:Nat} {rows:List (List C)} (h:jA rows):((qz k rows c).all C.stayB)=true:=by
 unfold qz;rw[OV,QY h,Oj,Ws];intro c hc;obtain ⟨_,rfl⟩:=List.mem_replicate.1 hc
 rfl
theorem ZE {k n:Nat}:∀ {rows:List (List C)},(∀ r∈rows,r.length=k)->rows.flatten.take (n*k)=(rows.take n).flatten:=by
 induction n with
 | zero=>intro rows _;simp
 | succ n ih =>
  intro rows h;cases rows with
  | nil=>simp
  | cons r rs =>
   have hr:=h r Wj;rw[Ax,OR,OR,AD,Wg (by rw[hr,AM];omega),hr,show (n+1)*k-k=n*k by rw[AM];omega,ih fun x hx=>h x (Wk _ hx)]
theorem HA {k n:Nat}:∀ {rows:List (List C)},(∀ r∈rows,r.length=k)->rows.flatten.drop (n*k)=(rows.drop n).flatten:=by
 induction n with
 | zero=>intro rows _;simp
 | succ n ih =>
  intro rows h;cases rows with
  | nil=>simp
  | cons r rs =>
   have hr:=h r Wj;rw[Bi,OR,List.drop_append,OI (by rw[hr,AM];omega),hr,Om,show (n+1)*k-k=n*k by rw[AM];omega,ih fun x hx=>h x (Wk _ hx)]
theorem JQ {src:Src} {m k c:Nat} {rows:List (List C)} {cs:List C} (hk:∀ r∈rows,r.length=k) (hs:jA rows) (hc:rows.length<=c) (hl:cs.length=c*k) (ht:cs.take (rows.length*k)=rows.flatten):zh src m cs (qz k rows c):=by
 have h1:cs=rows.flatten++cs.drop (rows.length*k):=by rw[←ht,W1]
 rw[h1];unfold qz;refine zep (zS (QY hs)) (XF ?_);rw[W7,hl,←Nat.sub_mul]
theorem Zi {cs xs:List C} {p:Nat} (h:p+xs.length<=cs.length):(spl cs p xs).length=cs.length:=by
 simp[spl];omega
theorem kD {cs L X:List C} {p q:Nat} (hp:p<=L.length) (hq:q=p+X.length) (hL:cs.take L.length=L) (hc:L.length+X.length<=cs.length) :
  (spl (spl cs q (L.drop p)) p X).take (L.length+X.length)=L.take p++(X++L.drop p):=by
 subst hq;apply OX;intro j;have hcur:∀ j,j<L.length->cs[j]?=L[j]?:=fun j hj=>by
  have h:=Wv (fun l=>l[j]?) hL;simp only[WF,if_pos hj]at h;exact h
 simp only[spl,WF,BE,W3,W2,Wn,W7]
 repeat' (first | split | omega)
 all_goals (first | rfl | omega | exact (WY (by omega)).symm | (congr 1;omega) | (rw[hcur _ (by omega)];first | done | (congr 1;omega)) | (symm;rw[WY];simp;omega) | (rw[WY];simp;omega) | skip)
theorem Nn {cs L X:List C} {p q:Nat} (hp:p<=L.length) (hq:q=p+X.length) (hL:cs.take p=L.take p) (hc:L.length+X.length<=cs.length) :
  (spl (spl cs p X) q (L.drop p)).take (L.length+X.length)=L.take p++(X++L.drop p):=by
 subst hq;apply OX;intro j;have hcur:∀ j,j<p->cs[j]?=L[j]?:=fun j hj=>by
  have h:=Wv (fun l=>l[j]?) hL;simp only[WF,if_pos hj]at h;exact h
 simp only[spl,WF,BE,W3,W2,Wn,W7]
 repeat' (first | split | omega)
 all_goals (first | rfl | omega | exact (WY (by omega)).symm | (congr 1;omega) | (rw[hcur _ (by omega)];first | done | (congr 1;omega)) | (symm;rw[WY];simp;omega) | (rw[WY];simp;omega) | skip)
theorem znc {cs L Z:List C} {p q n:Nat} (hq:q<=L.length) (hpq:p<=q) (hL:cs.take L.length=L) (hn:n=p+(L.length-q)) (hc:L.length<=cs.length) (hz:n+Z.length<=cs.length) :
  (spl (spl cs p (L.drop q)) n Z).take n=L.take p++L.drop q:=by
 subst hn;apply OX;intro j;have hcur:∀ j,j<L.length->cs[j]?=L[j]?:=fun j hj=>by
  have h:=Wv (fun l=>l[j]?) hL;simp only[WF,if_pos hj]at h;exact h
 simp only[spl,WF,BE,W3,W2,Wn,W7]
 repeat' (first | split | omega)
 all_goals (first | rfl | omega | exact (WY (by omega)).symm | (congr 1;omega) | (rw[hcur _ (by omega)];first | done | (congr 1;omega)) | (symm;rw[WY];simp;omega) | (rw[WY];simp;omega) | skip)
theorem yy {P:Program} {f:FuncId} {fn:Func} {t e tR:TypeId} {s1 b1 k by':Nat} {kd:LK} {z1 z:Option (List Value)} (hf:P.funcs[f]?=some fn) (hname:(fn.name == "runtime.NumGoroutine")=false) (hb:fn.body.isNone=true) (hn:Extern.findNext fn=none)
  (he:Extern.find fn=some (Extern.SlicesOverlaps.overlaps #[t,t] #[tR])) (hl:lay P t=some ⟨.slice e,s1,b1,z1⟩) (hle:lay P e=some ⟨kd,k,by',z⟩) {id e' k' i off n c:Nat} {rows bx:List (List C)} {cs:List C} (hbx:bx[i]?=some cs) (hcs:cs≠[]) (hrows:rows≠[]) (hn0:0<n) :
  zsw P f [.own id e' k' rows,.bs i off k n c] bx (.sc (.bool false)):=by
 intro B R L vs hB hO hr;obtain ⟨v1,us,rfl,h1,hr⟩:=zg.1 hr;obtain ⟨v2,us,rfl,h2,hr⟩:=zg.1 hr;rw[zm]at hr;subst hr;refine ⟨.bool false,?_,zp.2 rfl⟩;rw[run_callFunc_extern hf hname hb hn he];have ht:=qe hl rfl;have hz:∀ w,(Go.sizeOf e).run P w = .ok k w:=fun w=>qV hle w;obtain ⟨hT,a,cap,hv1,_⟩:=Xf.1 h1;obtain ⟨b,hbi,ad,rfl,had⟩:=jy.1 h2;obtain ⟨us,ty,e1,e2,e3,e4⟩:=hB.box i b cs hbi hbx;have hsz:us.size≠0:=by
  have:=zy e2;simp only[WS]at this;rw[this];exact fun h=>hcs (WV h)
 rcases hO.own id e' k' v1 hT with hnil | ⟨g,n',cap',cur,ty',q1,q2,q3,q4,q5,q6,q7,q8⟩ | ⟨_,_,_,_,hmap,_⟩
 rotate_right
 ·rw[hv1]at hmap;unfold Hi at hmap;cases hmap
 ·rw[hnil]at hv1;obtain ⟨_,h0,_⟩:=Value.slice.inj hv1;exact absurd (WV h0.symm) hrows
 ·rw[q1];obtain rfl:=had (by omega);have hne:g≠b:=fun h=>q7 (h▸Wf hbi);rw[Lib.run_overlaps_apart R.w t tR e ht k hz ⟨g,0,none⟩ ⟨b,off,none⟩ n' cap' n c hne ty' ty cur.size us.size (by simp[World.shape?,q3]) (by simp[World.shape?,e1]) hsz (frozen_of_row R.w g 0 _ _ q3) (frozen_of_row R.w g _ _ _ q3)]
  rfl
theorem Uu {m k:Nat} {z:List C} (hz:z.length=k):(List.replicate m z).flatten.length=m*k:=by
 have h:=qw (k:=k) (rows:=List.replicate m z) fun r hr=>by rw[(List.mem_replicate.1 hr).2];exact hz
 rw[h,AU]
section
variable {P:Program} {t tn e s1 b1 s2 b2 k by' m i off n cap nx lg:Nat} {kd:LK} {kn kq:IntKind} {z1 z2 z3:Option (List Value)} {z:List Value} {cs xs:List C} {bx:List (List C)} {tm:List (Nat×C)} {d:C} {q:Int} {K3:C->St->Prop}
theorem zlV (hl:lay P t=some ⟨.slice e,s1,b1,z1⟩) (hln:lay P tn=some ⟨.int kn,s2,b2,z2⟩) (hle:lay P e=some ⟨kd,k,by',some z⟩) (hz:z.length=k) (hk:0<k) (h1:(z.all Value.oneCell')=true)
  (hb:bx[i]?=some cs) (hfit:off+cap*k<=cs.length) (hn:n<=cap) (hq:0<q) (h63:(n:Int)+q<=9223372036854775807) (hby:((n:Int)+q)*by'<=140737488355328) (hg:(cap:Int)<n+q)
  (hK:∀ c' B,n+q.toNat<=c'->c'<=9223372036854775807->B.length=c'*k->B.take (n*k)=(cs.drop off).take (n*k)->K3 (.bs bx.length 0 k (n+q.toNat) c') ⟨tm,bx++[B],nx,lg⟩):zbc P t tn (.bs i off k n cap) (.sc (.int kq q)) ⟨tm,bx,nx,lg⟩ K3 ⟨⟩:=by
 have hnk:n*k<=cap*k:=WM _ hn;refine ztD hl hln hle hz hk h1 hb hfit hn hq h63 hby hg fun c' g1 g2=>hK c' _ g1 g2 ?_ ?_
 ·rw[Wn,Wn,Uu (k:=k) (by simpa using hz),AU,W2,W7,OD (by omega),←On,←On];congr 1;omega
 ·rw[WL,OE (by rw[W2,W7];omega)]
theorem X6 (hl:lay P t=some ⟨.slice e,s1,b1,z1⟩) (hle:lay P e=some ⟨kd,k,by',z3⟩) (hx:d.xs? k bx=some (m,xs)) (hb:bx[i]?=some cs) (hxl:xs.length=m*k) (hfit:off+n*k<=cs.length)
  (hK:∀ B,B=spl cs off (xs.take (min m n*k))->B.length=cs.length->K3 (.sc (.int .i64 ((min m n:Nat):Int))) ⟨tm,bx.set i B,nx,lg⟩):Me P t (.bs i off k n cap) d ⟨tm,bx,nx,lg⟩ K3 ⟨⟩:=
 znS hl hle hx hb hxl hfit (hK _ rfl (by
  have h1:min m n*k<=n*k:=WM _ (Nat.min_le_right _ _);exact Zi (by rw[W2];omega)))
theorem zmL (hl:lay P t=some ⟨.slice e,s1,b1,z1⟩) (hle:lay P e=some ⟨kd,k,by',some z⟩) (hb:bx[i]?=some cs) (hz:z.length=k) (hk:0<k) (h1:(z.all Value.oneCell')=true) (hfit:off+n*k<=cs.length)
  (hK:∀ B Z,B=spl cs off Z->Z.length=n*k->B.length=cs.length->K3 .any ⟨tm,bx.set i B,nx,lg⟩):yV P t (.bs i off k n cap) ⟨tm,bx,nx,lg⟩ K3 ⟨⟩:=by
 have hZ:(List.replicate n (z.map zD)).flatten.length=n*k:=Uu (by simpa using hz);exact zpM hl hle hb hz hk h1 hfit (hK _ _ rfl hZ (Zi (by omega)))
end
theorem kK {k i off n c:Nat} {bx:List (List C)} {cs:List C} (hb:bx[i]?=some cs) (h:off+n*k<=cs.length):C.xs? k bx (.bs i off k n c)=some (n,(cs.drop off).take (n*k)):=by
 simp[C.xs?,hb,h]
theorem XO {k c i:Nat} {rows:List (List C)} (hk:∀ r∈rows,r.length=k) (hi:i<=rows.length):((qz k rows c).drop (i*k)).take ((rows.length-i)*k)=rows.flatten.drop (i*k):=by
 have hf:=qw hk;have h1:i*k<=rows.length*k:=WM _ hi;unfold qz;rw[List.drop_append_of_le_length (by omega),OE (by rw[W7,hf,Nat.sub_mul])]
theorem QZ {k i:Nat} {rows:List (List C)} {x:List C} (hk:∀ r∈rows,r.length=k):rows.flatten.take (i*k)++(x++rows.flatten.drop (i*k))=(rows.take i++x :: rows.drop i).flatten:=by
 rw[ZE hk,HA hk];simp
theorem zaP {bx:List (List C)} {i e k c:Nat} {rows:List (List C)} {cs:List C} (hb:bx[i]?=some cs) (hc:0<c) (h1:rows.length<=c) (h2:c<=9223372036854775807) (hl:cs.length=c*k) (hk:∀ r∈rows,r.length=k) (hs:(cs.all C.stayB)=true) (ht:cs.take (rows.length*k)=rows.flatten) :
  zbW [(i,e,k,rows,c)] bx:=by
 refine ⟨by simp,fun x hx=>?_⟩;rw[WT]at hx;subst hx;exact ⟨cs,hb,hc,h1,by unfold maxLen;exact h2,hl,hk,by rw[yf hs];exact ht⟩
theorem zer {k c:Nat} {rows:List (List C)} (hk:∀ r∈rows,r.length=k):(qz k rows c).take (rows.length*k)=rows.flatten:=by
 unfold qz;rw[OE (qw hk)]
theorem zA {bx:List (List C)} {i e k c:Nat} {rows:List (List C)} (hb:bx[i]?=some (qz k rows c)) (hc:0<c) (h1:rows.length<=c) (h2:c<=9223372036854775807) (hk:∀ r∈rows,r.length=k) (hs:jA rows):zbW [(i,e,k,rows,c)] bx:=
 zaP hb hc h1 h2 (JY hk h1) hk (zE hs) (zer hk)
theorem za3 {k c i:Nat} {rows:List (List C)} {row:List C} (hk:∀ r∈rows,r.length=k) (hr:row.length=k) (hi:i<rows.length):(qz k rows c).take (i*k)++row++(qz k rows c).drop (i*k+k)=qz k (rows.set i row) c:=by
 have hf:=qw hk;have h1:(i+1)*k<=rows.length*k:=WM _ hi;rw[AM]at h1;unfold qz;rw[OM (by omega),List.drop_append_of_le_length (by omega),←AM,ZE hk,HA hk,Bp,←WL];congr 1;rw[List.set_eq_take_append_cons_drop,if_pos hi];simp
def RLe:List (List C)->List (List C)->Prop
 | [],[]=>True
 | a :: r,b :: s=>zh [] 0 a b/\RLe r s
 | _,_=>False
theorem RLe.len:∀ {a b:List (List C)},RLe a b->a.length=b.length
 | [],[],_=>rfl
 | _ :: r,_ :: s,h=>by rw[Wr,Wr,RLe.len h.2]
theorem zh.len {src:Src} {n:Nat}:∀ {a b:List C},zh src n a b->a.length=b.length
 | [],[],_=>rfl
 | [],_ :: _,h=>by simp[zh]at h
 | _ :: _,[],h=>by simp[zh]at h
 | _ :: r,_ :: s,h=>by
  rw[zh]at h;rw[Wr,Wr,zh.len h.2]
theorem zeb {R:Env} {c d:C} {v:Value} (h:CLe [] 0 c d) (hr:Rep R zU c v):Rep R zU d v:=by
 refine Rep.ext (Ext.refl R) (T:=Jw [] 0 zU) ⟨fun i b hb=>?_,fun id x hx=>?_⟩ _ _ (Rep.less _ _ _ h hr)
 ·simp at hb
 ·have hx:Vo [] zU.T id=some x:=hx;simp[Vo]at hx
theorem kM {R:Env} {b:Nat}:∀ {cs ds:List C} {o:Nat},zh [] 0 cs ds->zP R cs b o->zP R ds b o
 | [],[],_,_,h=>h
 | [],_ :: _,_,h,_=>by simp[zh]at h
 | _ :: _,[],_,h,_=>by simp[zh]at h
 | c :: r,d :: s,o,h,hr=>by
  rw[zh]at h;obtain ⟨⟨v,h1,h2,h3,h4⟩,h5⟩:=qq.1 hr;exact qq.2 ⟨⟨v,h1,h2,zeb h.1 h3,h4⟩,kM h.2 h5⟩
theorem Gs {R:Env} {k b:Nat}:∀ {a c:List (List C)} {o:Nat},RLe a c->zW R a k b o->zW R c k b o
 | [],[],_,_,h=>h
 | x :: r,y :: s,o,h,hr=>by
  unfold zW at hr ⊢;exact ⟨(zh.len h.1).symm.trans hr.1,kM h.1 hr.2.1,Gs h.2 hr.2.2⟩
theorem zbv {R:Env} {L:Loc} {id e k:Nat} {a c:List (List C)} {v:Value} (h:RLe a c) (hr:Rep R L (.own id e k a) v):Rep R L (.own id e k c) v:=by
 obtain ⟨h1,ad,cap,h2,h3,h4,h5⟩:=Xf.1 hr;refine Xf.2 ⟨h1,ad,cap,by rw[h2,h.len],by rw[←h.len];exact h3,h4,?_⟩;rcases h5 with h5 | ⟨b,o,h5,h6⟩
 ·subst h5;have:=h.len;exact .inl (WV (by simpa using this.symm))
 ·exact .inr ⟨b,o,h5,Gs h h6⟩
theorem Fun.resX {P:Program} {G:zq} {f:FuncId} {args:List C} {r r':C} {n:Nat} (hf:Fun P G f args r n) (h:∀ R L v,Rep R L r v->Rep R L r' v):Fun P G f args r' n:=
 ⟨hf.1,fun R vs hg ha=>(hf.2 R vs hg ha).mono fun e w' ⟨v,R',L',h1,h2,h3,h4⟩=>⟨v,R',L',h1,h2,h3,h _ _ _ h4⟩⟩
theorem zbr {R:Env} {L:Loc} {cs ds:List C} {v:Value} (h:∀ vs,zx R L cs vs->zx R L ds vs) (hr:Rep R L (.agg cs) v):Rep R L (.agg ds) v:=by
 obtain ⟨vs,h1,h2⟩:=Jd.1 hr;exact Jd.2 ⟨vs,h1,h _ h2⟩
theorem Y6 {R:Env} {L:Loc} {c d:C} {cs ds:List C} {vs:List Value} (h:∀ v,Rep R L c v->Rep R L d v) (h':∀ vs,zx R L cs vs->zx R L ds vs) (hr:zx R L (c :: cs) vs):zx R L (d :: ds) vs:=by
 obtain ⟨v,us,rfl,h1,h2⟩:=zg.1 hr;exact zg.2 ⟨v,us,rfl,h _ h1,h' _ h2⟩
end
section
open Go.RowKit
def zdW (k:Nat) (rows:List (List C)) (r:C) (bx':List (List C)) (n:Nat):Prop:=
 n=0/\((rows≠[]/\∃ c,rows.length<=c/\c<=9223372036854775807/\r = .bs 1 0 k rows.length c/\bx' = [[],qz k rows c])∨(rows = []/\(r = .sc (.slice none 0 0)/\bx' = []∨r = .bs 0 0 k 0 0/\bx' = [[]])))
def zrJ (k m:Nat) (ins:List (List C)) (r:C) (bx':List (List C)) (n:Nat):Prop:=
 n=0/\∃ c,ins.length<=c/\c<=9223372036854775807/\(r = .bs 0 0 k ins.length c/\bx' = [qz k ins c]∨r = .bs 1 0 k ins.length c/\bx' = [List.replicate m .any,qz k ins c])
section
variable {G:zq}
theorem QO (rows:List (List C)) (hk:∀ r∈rows,r.length=6) (hs:jA rows) (hl:rows.length<=100000) :
  Xe Tryz.prog G 251 [.sl 6 rows] [] 0 (zdW 6 rows):=by
 refine Xe.bySlice (fun h=>?_) (fun h a cap hr=>?_)
 ·refine foX (fun i=>if i=1000000+22 then [true,true] else []) Tryz.func251 ?_;dsimp only[Tryz.f251];push_cast;refine ⟨h,Vg VU VG rfl rfl (by decide) rfl (qw hk) rfl (Wb _) (Wb _) (by omega) (by omega) (fun hc=>absurd hc ?_) (fun _ c hc hm=>?_)⟩
  ·have:=WI.2 h;omega
  ·push_cast;rw[Ov]at hc;refine ⟨_,_,_,⟨⟨rfl,.inl ⟨h,c,hc,hm,rfl,rfl⟩⟩,Wd _⟩,[],rfl,rfl,?_,by push_cast [ze,zd,CLe,zh]⟩;push_cast [ze,zd,CLe,zh];exact zS (zE hs)
 ·cases a with
  | none =>
   refine foX (fun i=>if i=1000000+22 then [true,true] else []) Tryz.func251 ?_;dsimp only[Tryz.f251];push_cast [hr,BQ];exact ⟨_,_,_,⟨⟨rfl,.inr ⟨h,.inl ⟨rfl,rfl⟩⟩⟩,Wd _⟩,[],rfl,rfl,by push_cast [ze,zd,CLe,zh],by push_cast [ze,zd,CLe,zh]⟩
  | some a =>
   refine foX (fun i=>if i=1000000+22 then [true,true] else []) Tryz.func251 ?_;dsimp only[Tryz.f251];push_cast [hr,BR];have hx:C.xs? 6 [[]] (C.sc (.slice (some a) 0 cap))=some (0,[]):=by simp[C.xs?,hr]
   refine Vg VU VG hx rfl (by decide) rfl rfl rfl (Wb _) (Wb _) (by omega) (by omega) (fun _=>?_) (fun hc=>absurd hc (by omega));push_cast;exact ⟨_,_,_,⟨⟨rfl,.inr ⟨h,.inr ⟨rfl,rfl⟩⟩⟩,Wd _⟩,[],rfl,rfl,by (push_cast [ze,zd,CLe,zh];simp[spl,zh]),by push_cast [ze,zd,CLe,zh]⟩
theorem UP (rows:List (List C)) (x:List C) (i c e:Nat) (hk:∀ r∈rows,r.length=6) (hx:x.length=6) (hs:jA rows) (hsx:(x.all C.stayB)=true) (hl:rows.length<=100000) (hi:i<=rows.length) (hc:rows.length<=c) (hcm:c<=9223372036854775807) :
  Xe Tryz.prog G 250 [.bs 0 0 6 rows.length c,.sc (.int .i64 i),.own 0 e 6 [x]] [qz 6 rows c] 1 (zrJ 6 (c*6) (rows.take i++x :: rows.drop i)):=by
 refine foX (fun j=>if j=1000000+22 then [true,true] else if j=11 then [false,false,false,false,false,false,false,false,true] else if j=15 then [false,false,false,false,false,false,false,false,true] else []) Tryz.func250 ?_;dsimp only[Tryz.f250];push_cast;have hlen:(rows.take i++x :: rows.drop i).length=rows.length+1:=by simp;omega
 have hki:∀ r∈rows.take i++x :: rows.drop i,r.length=6:=fun r hr=>by
  rcases WB.1 hr with hr | hr
  ·exact hk r (Ww hr)
  ·rcases WJ.1 hr with rfl | hr
   ·exact hx
   ·exact hk r (WU hr)
 have hsi:jA (rows.take i++x :: rows.drop i):=fun r hr=>by
  rcases WB.1 hr with hr | hr
  ·exact hs r (Ww hr)
  ·rcases WJ.1 hr with rfl | hr
   ·exact hsx
   ·exact hs r (WU hr)
 have hbl:=JY hk hc;have hfl:=qw hk;have hxl:[x].flatten.length=1*6:=by simp[hx]
 have hpre:(qz 6 rows c).take rows.flatten.length=rows.flatten:=by unfold qz;rw[Bd]
 refine ⟨hc,⟨by omega,hi⟩,br (fun h=>?_) (fun h=>?_)⟩
 ·push_cast;refine Vg VU VG rfl rfl (by decide) rfl hxl rfl (by rw[hbl];omega) hc (by simp;omega) (by simp;omega) (fun h1=>?_) (fun h1 c' h2 h3=>?_)
  ·push_cast;have hi':i=rows.length:=WP h;refine ⟨_,_,_,⟨⟨rfl,c,by rw[hlen];exact h1,hcm,.inl ⟨rfl,rfl⟩⟩,Wb _⟩,[],rfl,rfl,?_,by push_cast [ze,zd,CLe,zh,hlen]⟩;push_cast [ze,zd,CLe,zh];have h6:rows.length*6+6<=c*6:=by have:rows.length+1<=c:=h1;omega
   refine JQ hki hsi (by rw[hlen];exact h1) (by rw[Zi (by rw[hbl,hx];exact h6),hbl]) ?_;rw[hlen,hi',Oi,A3];unfold spl;rw[←hfl,hpre,OE (by simp[hx,hfl];omega)];simp
  ·push_cast;have hi':i=rows.length:=WP h;have h2':rows.length+1<=c':=h2;refine ⟨_,_,_,⟨⟨rfl,c',by rw[hlen];exact h2,h3,.inr ⟨rfl,rfl⟩⟩,OL rfl⟩,[],rfl,rfl,?_,by push_cast [ze,zd,CLe,zh,hlen]⟩;push_cast [ze,zd,CLe,zh];refine ⟨XF hbl,JQ hki hsi (by rw[hlen];exact h2) (by simp[hx,hbl];omega) ?_⟩;rw[hlen,hi',Oi,A3,←hfl,hpre,OE (by simp[hx,hfl];omega)];simp
 ·have hne:i≠rows.length:=OK h;push_cast;refine ⟨⟨by omega,by omega⟩,br (fun h1=>?_) (fun h1=>?_)⟩
  ·have h1':(c:Int)<(rows.length:Int)+1:=WP h1;push_cast
   repeat refine an ?_
   refine zlV VU zoO VG rfl (by decide) rfl rfl (by rw[hbl];omega) (by omega) (by omega) (by omega) (by omega) (by omega) (fun c' B h2 h3 hBl hBt=>?_);have e1:((rows.length:Int)+1-(i:Int)).toNat=rows.length+1-i:=by omega
   rw[e1]at h2 ⊢;have e2:i+(rows.length+1-i)=rows.length+1:=by omega
   rw[e2]at h2 ⊢;push_cast
   repeat refine an ?_
   refine X6 VU VG rfl rfl hxl (by rw[hBl];omega) (fun B1 hB1 hl1=>?_);rw[hBl]at hl1;push_cast
   repeat refine an ?_
   have hbp:=XO (c:=c) hk hi;refine X6 VU VG (kK rfl (by rw[hbl];omega)) rfl (by rw[hbp,W7,hfl];omega) (by rw[hl1];omega) (fun B2 hB2 hl2=>?_);rw[hl1]at hl2;have hX:[x].flatten.take (min [x].length (rows.length+1-i)*6)=x:=by
    rw[Aj,OD (by omega),Wg (by omega)];simp
   rw[hX]at hB1;rw[hbp,show min (rows.length-i) (rows.length-i)*6=(rows.length-i)*6 by omega,Wg (by rw[W7,hfl];omega),hB1]at hB2;push_cast;refine ⟨_,_,_,⟨⟨rfl,c',by rw[hlen];exact h2,h3,.inr ⟨rfl,rfl⟩⟩,OL rfl⟩,[],rfl,rfl,?_,by push_cast [ze,zd,CLe,zh,hlen]⟩;push_cast [ze,zd,CLe,zh];refine ⟨XF hbl,JQ hki hsi (by rw[hlen];exact h2) hl2 ?_⟩;rw[hlen,←QZ hk,hB2];have hg:=Nn (cs:=B) (L:=rows.flatten) (X:=x) (p:=i*6) (q:=(i+1)*6) (by omega) (by omega) (by
    rw[hBt,AS];unfold qz;rw[OM (by omega)]) (by omega)
   rw[hfl,hx]at hg;rw[←hg];congr 1;omega
  ·have h1':¬(c:Int)<(rows.length:Int)+1:=OK h1;push_cast
   repeat refine an ?_
   refine znJ (yy (P:=Tryz.prog) (tR:=4) Tryz.func277 (by kernel_rfl) (by kernel_rfl) (by kernel_rfl) (by kernel_rfl) VU VG rfl (Bf (by rw[hbl];omega)) (by simp) (by omega)) ?_;push_cast
   repeat refine an ?_
   have hbp:=XO (c:=c) hk hi;refine X6 VU VG (kK rfl (by rw[hbl];omega)) rfl (by simp[hbl];omega) (by rw[hbl];omega) (fun B1 hB1 hl1=>?_);rw[hbl]at hl1;rw[BS,OD (by omega),show min (rows.length+1-i) (rows.length-i)*6=(rows.length-i)*6 by omega,hbp]at hB1;push_cast
   repeat refine an ?_
   refine X6 VU VG rfl rfl hxl (by rw[hl1];omega) (fun B2 hB2 hl2=>?_);rw[hl1]at hl2;have hX:[x].flatten.take (min [x].length (rows.length+1-i)*6)=x:=by
    rw[Aj,OD (by omega),Wg (by omega)];simp
   rw[hX,hB1]at hB2;push_cast;have hcc:rows.length+1<=c:=by omega
   refine ⟨_,_,_,⟨⟨rfl,c,by rw[hlen];exact hcc,hcm,.inl ⟨rfl,rfl⟩⟩,OL rfl⟩,[],rfl,rfl,?_,by push_cast [ze,zd,CLe,zh,hlen]⟩;push_cast [ze,zd,CLe,zh];refine JQ hki hsi (by rw[hlen];exact hcc) hl2 ?_;rw[hlen,←QZ hk,hB2];have hg:=kD (cs:=qz 6 rows c) (L:=rows.flatten) (X:=x) (p:=i*6) (q:=(i+1)*6) (by omega) (by omega) hpre (by omega);rw[hfl,hx]at hg;rw[←hg];congr 1;omega
theorem zaK {e:Nat} (x:List C) (hx:x.length=6) (hsx:(x.all C.stayB)=true) :
  Xe Tryz.prog G 250 [.sc (.slice none 0 0),.sc (.int .i64 0),.own 0 e 6 [x]] [] 1 (fun r bx' n=>n=0/\∃ c,1<=c/\c<=9223372036854775807/\r = .bs 0 0 6 1 c/\bx' = [qz 6 [x] c]):=by
 refine foX (fun j=>if j=1000000+22 then [true,true] else if j=11 then [false,false,false,false,false,false,false,false,true] else if j=15 then [false,false,false,false,false,false,false,false,true] else []) Tryz.func250 ?_;dsimp only[Tryz.f250];push_cast;refine NR VU VG rfl rfl (by decide) rfl (by simp[hx]) (by simp) (by simp) (by simp) (fun c h1 h2=>?_);push_cast;refine ⟨_,_,_,⟨⟨rfl,c,h1,h2,rfl,rfl⟩,Wd _⟩,[],rfl,rfl,?_,by push_cast [ze,zd,CLe,zh]⟩;push_cast [ze,zd,CLe,zh];have:=zS (src:=[]) (n:=1) (zE (k:=6) (c:=c) (rows:=[x]) fun r hr=>by
  rw[WT.1 hr];exact hsx)
 unfold qz at this ⊢;simpa using this
theorem zk1 (rows:List (List C)) (i c:Nat) (hk:∀ r∈rows,r.length=6) (hs:jA rows) (hl:rows.length<=100000) (hi:i<rows.length) (hc:rows.length<=c) (hcm:c<=9223372036854775807) :
  Zb Tryz.prog G 295 [.bs 0 0 6 rows.length c,.sc (.int .i64 i),.sc (.int .i64 ((i:Int)+1))] [qz 6 rows c] 0 (.bs 0 0 6 (rows.length-1) c) [qz 6 (rows.take i++rows.drop (i+1)) c] 0:=by
 refine foB (fun j=>if j=1000000+22 then [true,true] else if j=5 then [false,false,false,false,false,false,true,false] else []) Tryz.func295 ?_;dsimp only[Tryz.f295];have h1:((i:Int)=(i:Int)+1)=False:=WG (by omega);have hbl:=JY hk hc;have hfl:=qw hk;have hpre:(qz 6 rows c).take rows.flatten.length=rows.flatten:=by unfold qz;rw[Bd]
 have hlen:(rows.take i++rows.drop (i+1)).length=rows.length-1:=by simp;omega
 have hki:∀ r∈rows.take i++rows.drop (i+1),r.length=6:=fun r hr=>by
  rcases WB.1 hr with hr | hr
  ·exact hk r (Ww hr)
  ·exact hk r (WU hr)
 have hsi:jA (rows.take i++rows.drop (i+1)):=fun r hr=>by
  rcases WB.1 hr with hr | hr
  ·exact hs r (Ww hr)
  ·exact hs r (WU hr)
 have hbp:=XO (c:=c) (i:=i+1) hk hi;push_cast [h1]
 repeat refine an ?_
 have hxl:(List.drop ((i+1)*6) rows.flatten).length=(rows.length-(i+1))*6:=by rw[W7,hfl];omega
 refine Vg VU VG (kK rfl (by rw[hbl];omega)) rfl (by decide) rfl (by rw[hbp,hxl]) rfl (by rw[hbl];omega) (by omega) (by omega) (by omega) (fun _=>?_) (fun h=>absurd h (by omega));rw[hbp];have e1:i+(rows.length-(i+1))=rows.length-1:=by omega
 rw[e1];generalize hB1:spl (qz 6 rows c) (0+i*6) (List.drop ((i+1)*6) rows.flatten)=B1;have hl1:B1.length=c*6:=by rw[←hB1,Zi (by rw[hbl,hxl];omega),hbl]
 push_cast
 repeat refine an ?_
 refine zmL VU VG rfl rfl (by decide) rfl (by rw[hl1];omega) (fun B2 Z hB2 hZ hl2=>?_);rw[hl1]at hl2;push_cast;refine ⟨[],rfl,rfl,?_,by push_cast [ze,zd,CLe,zh]⟩;push_cast [ze,zd,CLe,zh];refine JQ hki hsi (by rw[hlen];omega) hl2 ?_;have hg:=znc (cs:=qz 6 rows c) (L:=rows.flatten) (Z:=Z) (p:=i*6) (q:=(i+1)*6) (n:=(rows.length-1)*6) (by omega) (by omega) hpre (by omega) (by omega) (by rw[hZ];omega);rw[hlen,hB2,←hB1,A2,←ZE hk,←HA hk,←hg,Ov]
end
end
section
structure zN where
 name:Lz
 ino:Int
deriving DecidableEq,Inhabited
structure zl where
 ino:Int
 kind:Int
 links:Int
 data:Lz
 parent:Int
 es:List zN
deriving DecidableEq,Inhabited
def z6 (xs:List zl):Prop:=xs.Pairwise fun a b=>a.ino<b.ino
def zk (n:Int) (xs:List zl):Bool:=xs.any fun x=>x.ino==n
def jC (n:Int) (xs:List zl):Nat:=(xs.filter fun x=>decide (x.ino<n)).length
def qh (n:Int) (xs:List zl):List zl:=xs.filter fun x=>x.ino != n
def XE (n:Int) (xs:List zl):Option zl:=xs.find? fun x=>x.ino==n
def Vb (x:zl):List zl->List zl
 | []=>[x]
 | y :: r=>if x.ino<y.ino then x :: y :: r else y :: Vb x r
def qo (x:zl) (xs:List zl):List zl:=Vb x (qh x.ino xs)
theorem GY (n:Int):∀ (xs:List zl) (i:Nat),i<=xs.length->(∀ t (h:t<xs.length),t<i->xs[t].ino<n)->(∀ t (h:t<xs.length),i<=t->n<=xs[t].ino)->jC n xs=i
 | [],i,h,_,_=>by simp at h;simp[jC,h]
 | x :: r,0,_,_,h2=>by
  have hx:n<=x.ino:=h2 0 (by simp) (Wb _);have ih:=GY n r 0 (Wd _) (fun t h h'=>absurd h' (Oe _)) (fun t h _=>h2 (t+1) (by simp;omega) (Wd _));unfold jC at ih ⊢;rw[ON (by simp;omega)];exact ih
 | x :: r,i+1,h,h1,h2=>by
  have hx:x.ino<n:=h1 0 (by simp) (AZ _);have ih:=GY n r i (by simpa using h) (fun t h h'=>h1 (t+1) (by simp;omega) (by omega)) (fun t h h'=>h2 (t+1) (by simp;omega) (by omega));unfold jC at ih ⊢;rw[Oc (by simp;omega),Wr,ih]
theorem zlo (n:Int) (xs:List zl) (i:Nat) (hi:i<xs.length) (h1:∀ t (h:t<xs.length),t<i->xs[t].ino<n) (h2:n<=xs[i].ino) (hR:z6 xs):zk n xs=decide (xs[i].ino=n):=by
 by_cases h:xs[i].ino=n
 ·rw[Wl h];exact Or.2 ⟨xs[i],Wz hi,by simp[h]⟩
 ·rw[Wi h];apply Oq.2;intro hh;obtain ⟨y,hy,e⟩:=Or.1 hh;obtain ⟨t,ht,rfl⟩:=Wx hy;have e:xs[t].ino=n:=by simpa using e
  rcases O9 t i with h3 | h3 | h3
  ·have:=h1 t ht h3;omega
  ·subst h3;exact h e
  ·have:=(WO.1 hR) i t hi ht h3;omega
theorem zdL (n:Int) (xs:List zl) (h1:∀ t (h:t<xs.length),xs[t].ino<n):zk n xs=false:=by
 apply Oq.2;intro hh;obtain ⟨y,hy,e⟩:=Or.1 hh;obtain ⟨t,ht,rfl⟩:=Wx hy;have e:xs[t].ino=n:=by simpa using e
 have:=h1 t ht;omega
theorem GM {n:Int} {xs:List zl} (h:zk n xs=false):XE n xs=none:=by
 unfold XE zk at *;rw[A8];intro x hx hh;rw[Oh]at h;exact h x hx hh
theorem zcC (n:Int) (xs:List zl) (hR:z6 xs):∃ i,i<=xs.length/\(∀ t (h:t<xs.length),t<i->xs[t].ino<n)/\(∀ t (h:t<xs.length),i<=t->n<=xs[t].ino):=by
 induction xs with
 | nil=>exact ⟨0,Wb _,fun t h=>absurd h (Oe _),fun t h=>absurd h (Oe _)⟩
 | cons x r ih =>
  by_cases hx:x.ino<n
  ·obtain ⟨i,h1,h2,h3⟩:=ih (Bt.1 hR).2;refine ⟨i+1,by simp;omega,fun t h ht=>?_,fun t h ht=>?_⟩
   ·cases t with
    | zero=>exact hx
    | succ t=>exact h2 t (by simpa using h) (by omega)
   ·cases t with
    | zero=>omega
    | succ t=>exact h3 t (by simpa using h) (by omega)
  ·refine ⟨0,Wd _,fun t h ht=>absurd ht (Oe _),fun t h _=>?_⟩;cases t with
   | zero=>simp;omega
   | succ t =>
    have:=(Bt.1 hR).1 (r[t]'(by simpa using h)) (Wz _);simp;omega
theorem zfQ (n:Int) (xs:List zl):jC n xs<=xs.length:=Ak _ _
theorem zgn {n:Int} {xs:List zl} (hR:z6 xs):(∀ t (h:t<xs.length),t<jC n xs->xs[t].ino<n)/\(∀ t (h:t<xs.length),jC n xs<=t->n<=xs[t].ino):=by
 obtain ⟨i,h1,h2,h3⟩:=zcC n xs hR;rw[GY n xs i h1 h2 h3];exact ⟨h2,h3⟩
theorem zie {n:Int} {xs:List zl} (hR:z6 xs) (h:zk n xs=true):∃ hlt:jC n xs<xs.length,xs[jC n xs].ino=n:=by
 obtain ⟨h2,h3⟩:=zgn (n:=n) hR;by_cases hlt:jC n xs<xs.length
 ·refine ⟨hlt,?_⟩;have:=zlo n xs _ hlt h2 (h3 _ hlt (Wb _)) hR;rw[h]at this;exact WP this.symm
 ·have:=zdL n xs (fun t h=>h2 t h (by omega));rw[h]at this;cases this
theorem GU {n:Int} {xs:List zl} (hR:z6 xs) (h:zk n xs=true):∃ hlt:jC n xs<xs.length,XE n xs=some xs[jC n xs]:=by
 obtain ⟨hlt,he⟩:=zie hR h;refine ⟨hlt,?_⟩;obtain ⟨h2,h3⟩:=zgn (n:=n) hR;unfold XE;rw[A4];exact ⟨by simp[he],_,hlt,rfl,fun j hj=>by have:=h2 j (by omega) hj;simp;omega⟩
theorem j8 {y:zl} {r:List zl}:z6 (y :: r)↔(∀ z∈r,y.ino<z.ino)/\z6 r:=Bt
theorem QB {n:Int} {y:zl} {r:List zl} (h:y.ino<n):jC n (y :: r)=jC n r+1:=by
 unfold jC;rw[Oc (by simpa using h),Wr]
theorem Hv {n:Int} {xs:List zl} (h:∀ z∈xs,n<=z.ino):jC n xs=0:=by
 unfold jC;rw[An,AN];intro z hz;have:=h z hz;simp;omega
theorem QM {n:Int} {xs:List zl} (h:zk n xs=false):qh n xs=xs:=by
 unfold qh;rw[BI];intro z hz;unfold zk at h;rw[Oh]at h;have:=h z hz;simpa using this
theorem Zp {n:Int} {y:zl} {r:List zl} (h:y.ino<n):zk n (y :: r)=zk n r:=by
 unfold zk;rw[AQ,show (y.ino==n)=false by rw[OU];omega,OZ]
theorem Vp {n:Int} {xs:List zl} (h:∀ z∈xs,n<z.ino):zk n xs=false:=by
 unfold zk;rw[Oh];intro z hz;have:=h z hz;simp;omega
theorem J6 {n:Int} {y:zl} {r:List zl} (h:y.ino≠n):qh n (y :: r)=y :: qh n r:=by
 unfold qh;rw[Oc (by simpa using h)]
theorem Jl {n:Int} {y:zl} {r:List zl} (h:y.ino=n):qh n (y :: r)=qh n r:=by
 unfold qh;rw[ON (by simpa using h)]
theorem uS {n:Int}:∀ {xs:List zl},z6 xs->zk n xs=true->xs.take (jC n xs)++xs.drop (jC n xs+1)=qh n xs
 | [],_,h=>by cases h
 | y :: r,hR,h=>by
  obtain ⟨h1,h2⟩:=j8.1 hR;by_cases hy:y.ino<n
  ·rw[QB hy,Ax,Bi,W8,uS h2 (by rwa [Zp hy]at h),J6 (by omega)]
  ·have hr0:jC n (y :: r)=0:=Hv fun z hz=>by
    rcases WJ.1 hz with rfl | hz
    ·omega
    ·have:=h1 z hz;omega
   by_cases he:y.ino=n
   ·rw[hr0,Jl he,QM (Vp fun z hz=>by have:=h1 z hz;omega)];rfl
   ·exfalso
    rw[Vp fun z hz=>by
     rcases WJ.1 hz with rfl | hz
     ·omega
     ·have:=h1 z hz;omega]at h
    cases h
theorem zo2 {x y:zl} {r:List zl} (h:y.ino<x.ino):Vb x (y :: r)=y :: Vb x r:=by
 rw[Vb,if_neg (by omega)]
theorem zeW {x:zl} {xs:List zl} (h:∀ z∈xs,x.ino<z.ino):Vb x xs=x :: xs:=by
 cases xs with
 | nil=>rfl
 | cons y r=>rw[Vb,if_pos (h y Wj)]
theorem Zj {x y:zl} {r:List zl} (h:y.ino<x.ino):qo x (y :: r)=y :: qo x r:=by
 unfold qo;rw[J6 (by omega),zo2 h]
theorem yJ {x:zl}:∀ {xs:List zl},z6 xs->zk x.ino xs=true->xs.set (jC x.ino xs) x=qo x xs
 | [],_,h=>by cases h
 | y :: r,hR,h=>by
  obtain ⟨h1,h2⟩:=j8.1 hR;by_cases hy:y.ino<x.ino
  ·rw[QB hy,List.set_cons_succ,yJ h2 (by rwa [Zp hy]at h),Zj hy]
  ·have hr0:jC x.ino (y :: r)=0:=Hv fun z hz=>by
    rcases WJ.1 hz with rfl | hz
    ·omega
    ·have:=h1 z hz;omega
   by_cases he:y.ino=x.ino
   ·unfold qo;rw[hr0,Jl he,QM (Vp fun z hz=>by have:=h1 z hz;omega),zeW fun z hz=>by have:=h1 z hz;omega];rfl
   ·exfalso
    rw[Vp fun z hz=>by
     rcases WJ.1 hz with rfl | hz
     ·omega
     ·have:=h1 z hz;omega]at h
    cases h
theorem va {x:zl}:∀ {xs:List zl},z6 xs->zk x.ino xs=false->xs.take (jC x.ino xs)++x :: xs.drop (jC x.ino xs)=qo x xs
 | [],_,_=>rfl
 | y :: r,hR,h=>by
  obtain ⟨h1,h2⟩:=j8.1 hR;by_cases hy:y.ino<x.ino
  ·rw[QB hy,Ax,Bi,W8,va h2 (by rwa [Zp hy]at h),Zj hy]
  ·have hne:y.ino≠x.ino:=by
    intro e;unfold zk at h;rw[AQ,e]at h;simp at h
   have hr0:jC x.ino (y :: r)=0:=Hv fun z hz=>by
    rcases WJ.1 hz with rfl | hz
    ·omega
    ·have:=h1 z hz;omega
   unfold qo;rw[hr0,QM h,zeW fun z hz=>by
    rcases WJ.1 hz with rfl | hz
    ·omega
    ·have:=h1 z hz;omega]
   rfl
theorem zis {n:Int} {xs:List zl}:∀ x∈qh n xs,x∈xs:=fun x h=>(Ox.1 h).1
theorem G7 {x:zl}:∀ {xs:List zl} {z:zl},z∈Vb x xs↔z=x∨z∈xs
 | [],z=>by simp[Vb]
 | y :: r,z=>by
  rw[Vb];split
  ·simp
  ·rw[WJ,G7,WJ];constructor
   ·rintro (h | h | h)<;>simp[h]
   ·rintro (h | h | h)<;>simp[h]
theorem zmk {x:zl} {xs:List zl} {z:zl} (h:z∈qo x xs):z=x∨z∈xs:=by
 rcases G7.1 h with h | h
 ·exact .inl h
 ·exact .inr (zis _ h)
theorem GC {n:Int} {xs:List zl} (h:z6 xs):z6 (qh n xs):=List.Pairwise.filter _ h
theorem xq {x:zl}:∀ {xs:List zl},z6 xs->(∀ z∈xs,z.ino≠x.ino)->z6 (Vb x xs)
 | [],_,_=>by simp[Vb,z6]
 | y :: r,h,hne=>by
  obtain ⟨h1,h2⟩:=j8.1 h;have hy:=hne y Wj;rw[Vb];split
  ·next hlt =>
   refine j8.2 ⟨fun z hz=>?_,h⟩;rcases WJ.1 hz with rfl | hz
   ·exact hlt
   ·have:=h1 z hz;omega
  ·next hlt =>
   refine j8.2 ⟨fun z hz=>?_,xq h2 fun z hz=>hne z (Wk _ hz)⟩;rcases G7.1 hz with rfl | hz
   ·omega
   ·exact h1 z hz
theorem zZ {x:zl} {xs:List zl} (h:z6 xs):z6 (qo x xs):=xq (GC h) fun z hz=>by
 have:=(Ox.1 hz).2;simpa using this
theorem ze6 {x:zl}:∀ {xs:List zl},(Vb x xs).length=xs.length+1
 | []=>rfl
 | y :: r=>by
  rw[Vb];split
  ·rfl
  ·rw[Wr,ze6,Wr]
theorem Zz {n:Int} {xs:List zl}:(qh n xs).length<=xs.length:=Ak _ _
theorem zgd {x:zl} {xs:List zl}:(qo x xs).length<=xs.length+1:=by
 unfold qo;rw[ze6];have:=Zz (n:=x.ino) (xs:=xs);omega
end
variable {xs:List zl}
section
open CA CB
open Go.RowKit
abbrev GP (e:zN):List C:=[.str e.name,.sc (.int .i64 e.ino)]
abbrev zO (es:List zN):List (List C):=es.map GP
abbrev Yw (x:zl):List C:=[.sc (.int .i64 x.ino),.sc (.int .i64 x.kind),.sc (.int .i64 x.links),.str x.data,.sc (.int .i64 x.parent),.sl 2 (zO x.es)]
abbrev zt (xs:List zl):List (List C):=xs.map Yw
structure FsV where
 maxI:Int
 maxB:Int
 next:Int
 xs:List zl
deriving DecidableEq,Inhabited
abbrev fsC (f:FsV):List C:=[.sc (.int .i64 f.maxI),.sc (.int .i64 f.maxB),.sc (.int .i64 f.next),.sl 6 (zt f.xs)]
theorem ju (xs:List zl) (i:Nat) (h:i<xs.length):(zt xs)[i]?=some (Yw xs[i]):=by simp[Wy,Wa h]
theorem Yg (xs:List zN) (i:Nat) (h:i<xs.length):(zO xs)[i]?=some (GP xs[i]):=by simp[Wy,Wa h]
def zaG:zl:=⟨0,0,0,[],0,[]⟩
def zf (n:Int) (xs:List zl):zl:=(XE n xs).getD zaG
def UI (a b:Int):Int:=if a<b then -1 else if b<a then 1 else 0
section
variable {G:zq}
theorem zf7 (a:Int):Fun Tryz.prog G 225 [.sc (.int .i64 a)] (.sc (.bool false)) 0:=by
 refine fon Tryz.func225 ?_;dsimp only[Tryz.f225];push_cast;exact dn
theorem yD (a b:Int):Fun Tryz.prog G 182 [.sc (.int .i64 a),.sc (.int .i64 b)] (.sc (.int .i64 (UI a b))) 0:=by
 refine fon Tryz.func182 ?_;dsimp only[Tryz.f182];push_cast;refine cl (zf7 a) ?_;push_cast;refine cl (zf7 b) ?_;push_cast;refine br (fun h=>?_) (fun h=>?_)
 ·have h:=WP h;push_cast;exact ⟨[],rfl,rfl,by (push_cast [ze,zd,CLe,zh];simp[UI,h])⟩
 ·have h:=OK h;push_cast;refine br (fun h1=>?_) (fun h1=>?_)
  ·have h1:=WP h1;push_cast;exact ⟨[],rfl,rfl,by (push_cast [ze,zd,CLe,zh];simp[UI,h,h1])⟩
  ·have h1:=OK h1;push_cast;exact ⟨[],rfl,rfl,by (push_cast [ze,zd,CLe,zh];simp[UI,h,h1])⟩
theorem zgx (x:zl) (n:Int):Fun Tryz.prog G 181 [.agg (Yw x),.sc (.int .i64 n)] (.sc (.int .i64 (UI x.ino n))) 0:=by
 refine fon Tryz.func181 ?_;dsimp only[Tryz.f181];push_cast;refine cl (yD x.ino n) ?_;push_cast;exact dn
theorem yT (xs:List zl) (n:Int) (hl:xs.length<=100000) (hR:z6 xs) :
  Fun Tryz.prog G 180 [.sl 6 (zt xs),.sc (.int .i64 n),.clo (.func 181) [] []] (.tup [.sc (.int .i64 (jC n xs:Nat)),.sc (.bool (zk n xs))]) 0:=by
 refine fon Tryz.func180 ?_;dsimp only[Tryz.f180];push_cast;refine loop (fun p:Nat×Nat=>⟨[(0,.sl 6 (zt xs)),(1,.sc (.int .i64 n)),(2,.clo (.func 181) [] []),(8,.sc (.int .i64 (xs.length:Nat))),(9,.sc (.int .i64 p.1)),(10,.sc (.int .i64 p.2))],[],0,0⟩)
  (fun p=>p.1<=p.2/\p.2<=xs.length/\(∀ t (h:t<xs.length),t<p.1->xs[t].ino<n)/\∀ t (h:t<xs.length),p.2<=t->n<=xs[t].ino) (fun p=>p.2-p.1) (0,xs.length) ⟨Wd _,Wb _,fun t _ h=>by (simp at h),fun t h h'=>by (dsimp only at h';omega)⟩ ?_ ?_
 ·exact wk (by push_cast [ze,zd,CLe,zh,We])
 ·rintro ⟨i,j⟩ ⟨h1,h2,h3,h4⟩;dsimp only at h1 h2 h3 h4 ⊢;by_cases h:i<j
  ·obtain ⟨m,hm⟩:∃ m,m=(i+j) / 2:=⟨_,rfl⟩;have hmi:((i:Int)+(j:Int)) / 2=(m:Int):=by omega
   have hml:m<xs.length:=by omega
   have hat:=ju xs m hml;push_cast [h,hmi,hat]
   repeat refine an ?_
   refine cl (zgx xs[m] n) ?_;push_cast;by_cases hc:xs[m].ino<n
   ·have hcv:UI xs[m].ino n = -1:=by simp[UI,hc]
    push_cast [hcv]
    repeat refine an ?_
    refine ⟨(m+1,j),⟨by omega,h2,fun t ht hlt=>?_,h4⟩,by dsimp only;omega,wk⟩;dsimp only at hlt;rcases Wp t m with q | q
    ·have:=(WO.1 hR) t m ht hml q;omega
    ·have:t=m:=by omega
     subst this;exact hc
   ·have hcv:(UI xs[m].ino n<0)=False:=WG (by unfold UI;rw[if_neg hc];split<;>omega);push_cast [hcv]
    repeat refine an ?_
    refine ⟨(i,m),⟨by omega,by omega,h3,fun t ht hge=>?_⟩,by dsimp only;omega,wk⟩;dsimp only at hge;rcases Wp m t with q | q
    ·have:=(WO.1 hR) m t hml ht q;omega
    ·have:t=m:=by omega
     subst this;omega
  ·have hij:i=j:=by omega
   subst hij;have hrk:=GY n xs i h2 h3 h4;push_cast [h];refine br (fun hx=>?_) (fun hx=>?_)
   ·have hx:i<xs.length:=by simpa using hx
    have hat:=ju xs i hx;have hh:=zlo n xs i hx h3 (h4 i hx (Wb _)) hR;push_cast [hx,hat]
    repeat refine an ?_
    refine cl (zgx xs[i] n) ?_;push_cast;have hcv:decide (UI xs[i].ino n=0)=zk n xs:=by
     rw[hh];have:=h4 i hx (Wb _);unfold UI;rw[if_neg (by omega)];split
     ·rw[Wi (by omega),Wi (by omega)]
     ·rw[Wl (by rfl),Wl (by omega)]
    push_cast [hcv];exact dn (by push_cast [ze,zd,CLe,zh,hrk])
   ·have hx:¬i<xs.length:=by simpa using hx
    have hh:=zdL n xs fun t ht=>h3 t ht (by omega);push_cast [hx];exact dn (by push_cast [ze,zd,CLe,zh,hrk,hh])
theorem zfV (f:FsV) (n:Int) (hl:f.xs.length<=100000) (hR:z6 f.xs):Fun Tryz.prog G 148 [.agg (fsC f),.sc (.int .i64 n)] (.tup [.sc (.int .i64 (jC n f.xs:Nat)),.sc (.bool (zk n f.xs))]) 0:=by
 refine fon Tryz.func148 ?_;dsimp only[Tryz.f148];push_cast;refine cl (yT f.xs n hl hR) ?_;push_cast;exact dn
end
end
section
open Go.RowKit Go.ChangeMaps Go.ChangeShapes Go.WideShapes Go.Deep Go.Joins
def xz (W:World):Env:=⟨W,fun _ _=>False,fun _=>False⟩
theorem Fun.answers {P:Program} {G:zq} {f:FuncId} {args:List C} {u:Value} {n:Nat} (h:Fun P G f args (.sc u) n) {W:World} {vs:List Value} (hg:Qb G (xz W)) (ha:zx (xz W) zU args vs) :
  Calls P f vs.toArray W fun e w'=>e = .returned u/\Below W.heap.size W w':=by
 refine (h.2 (xz W) vs hg ha).mono ?_;rintro e w' ⟨v,R',L',rfl,rfl,st,hr⟩;rw[zp]at hr;subst hr;exact ⟨rfl,st.below⟩
section
variable {H:Type} {enc:TypeId×Value->H} {P:Program} {W:World}
def Opn (enc:TypeId×Value->H) (P:Program) (W:World) (t:TypeId) (Q:C->Prop):Prop:=
 ∀ (fuel:Nat) (cs:List Value) (x:DataW H×List MemPlace),DataW.trod enc P W 0 (fun _=>true) true fuel t cs=some x->∃ v c,cs = [v]/\Q c/\Rep (xz W) zU c v/\v.oneCell'=true
def Jc (enc:TypeId×Value->H) (P:Program) (W:World) (t:TypeId) (k:Nat) (Q:List C->Prop):Prop:=
 ∀ (fuel:Nat) (cs:List Value) (x:DataW H×List MemPlace),DataW.trod enc P W 0 (fun _=>true) true fuel t cs=some x ->
  ∃ row,Q row/\row.length=k/\cs.length=k/\∀ (j:Nat) c v,row[j]?=some c->cs[j]?=some v->Rep (xz W) zU c v/\v.oneCell'=true
theorem Opn.int {t:TypeId} {k:IntKind} (ht:P.underlying t=some (.int k)):Opn enc P W t fun c=>∃ n,c = .sc (.int k n)/\(Lit.int k n).wf=true:=fun fuel cs x h=>by
 obtain ⟨n,rfl,_,hw⟩:=DataW.trod_int ht h;exact ⟨_,_,rfl,⟨n,rfl,hw⟩,zp.2 rfl,rfl⟩
theorem Opn.bool {t:TypeId} (ht:P.underlying t=some .bool):Opn enc P W t fun c=>∃ b,c = .sc (.bool b):=fun fuel cs x h=>by
 obtain ⟨n,rfl,_⟩:=DataW.trod_bool ht h;exact ⟨_,_,rfl,⟨n,rfl⟩,zp.2 rfl,rfl⟩
theorem Opn.str {t:TypeId} (ht:P.underlying t=some .string):Opn enc P W t fun c=>∃ l:Lz,c = .str l/\l.length<=maxLen:=fun fuel cs x h=>by
 obtain ⟨s,rfl,_,hs⟩:=DataW.trod_string ht h;exact ⟨_,_,rfl,⟨s.data.toList,rfl,by rw[WS];exact hs⟩,qc.2 (by cases s;simp),rfl⟩
theorem Zl {α:Type} {Q:Nat->α->Prop}:∀ n:Nat,(∀ i,i<n->∃ x,Q i x)->∃ l:List α,l.length=n/\∀ i (h:i<l.length),Q i l[i]
 | 0,_=>⟨[],rfl,fun i h=>absurd h (Oe _)⟩
 | n+1,h=>by
  obtain ⟨l,hl,hq⟩:=Zl n fun i hi=>h i (by omega);obtain ⟨x,hx⟩:=h n (by omega);refine ⟨l++[x],by simp[hl],fun i hi=>?_⟩;rcases Wp i n with h1 | h1
  ·rw[List.getElem_append_left (by omega)];exact hq i (by omega)
  ·have:i=n:=by simp[hl]at hi;omega
   subst this;rw[List.getElem_append_right (by omega)];simpa [hl] using hx
theorem Jc.struct {t:TypeId} {fs:Array Field} {Qs:Nat->C->Prop} (hs:P.underlying t=some (.struct fs)) (hone:oneCellFields P fs=true) (hC:P.cellsOf t=fs.size)
  (h:∀ (j:Nat) f,fs[j]?=some f->Opn enc P W f.type (Qs j)):Jc enc P W t fs.size fun row=>row.length=fs.size/\∀ (j:Nat) c,row[j]?=some c->Qs j c:=fun fuel cs x hx=>by
 obtain ⟨ys,n',hn',hy,hlen,hyl,hf⟩:=DataW.trod_struct hs hx;rw[hC]at hlen;obtain ⟨row,hl,hq⟩:=Zl (Q:=fun j (c:C)=>Qs j c/\∃ v,cs[j]?=some v/\Rep (xz W) zU c v/\v.oneCell'=true) fs.size (fun j hj=>by
  have hfj:fs[j]?=some fs[j]:=W0 hj;obtain ⟨ho,hk⟩:=hone_of hone j _ hfj;have h1:=hf j _ hfj;rw[ho,hk]at h1;have hone':(cs.drop j).take 1 = [cs[j]'(by omega)]:=by
   rw[Ok (by omega)]
   rfl
  rw[hone',Wa (by omega)]at h1;obtain ⟨v,c,e,hq,hr,hoc⟩:=h j _ hfj _ _ _ h1;cases e;exact ⟨c,hq,_,Wa (by omega),hr,hoc⟩)
 refine ⟨row,⟨hl,fun j c hj=>?_⟩,hl,hlen,fun j c v h1 h2=>?_⟩
 ·obtain ⟨hj',rfl⟩:=Wc.1 hj;exact (hq j hj').1
 ·obtain ⟨hj',rfl⟩:=Wc.1 h1;obtain ⟨_,v',e,hr,ho⟩:=hq j hj';rw[h2]at e;cases e;exact ⟨hr,ho⟩
theorem Opn.slice {t e:TypeId} {k:Nat} {Q:List C->Prop} (ht:P.underlying t=some (.slice e)) (hC:P.cellsOf e=k) (hk:0<k) (h:Jc enc P W e k Q):Opn enc P W t fun c=>∃ rows,c = .sl k rows/\rows.length<=maxLen/\∀ r∈rows,Q r:=fun fuel cs x hx=>by
 rcases open_slice ht hx with h0 | ⟨a,len,cap,m,n,D,Pl,hcs,hb,hl,hm,hmm,hx,hi⟩
 ·exact ⟨_,.sl k [],h0.1,⟨[],rfl,Wd _,fun r hr=>by cases hr⟩,Gd.2 ⟨none,0,rfl,Wb _,Wd _,.inl rfl⟩,rfl⟩
 ·simp only[if_true]at hmm;subst hmm;obtain ⟨rows,hrl,hq⟩:=Zl (Q:=fun i (row:List C)=>Q row/\row.length=k/\∀ (j:Nat) c,row[j]?=some c->∃ v,W.cell? (a.add (i*k+j))=some v/\Rep (xz W) zU c v/\v.oneCell'=true) len (fun i hlt=>by
   obtain ⟨cs',hc,ht'⟩:=hi i (by omega);rw[hC]at hc;obtain ⟨row,hq,hl1,hl2,hr⟩:=h _ _ _ ht';obtain ⟨_,hcl,hat⟩:=World.cells?_some hc;refine ⟨row,hq,hl1,fun j c hj=>?_⟩;have hjl:j<k:=by have:=(Wc.1 hj).1;omega
   have hv:cs'[j]?=some (cs'[j]'(by omega)):=Wa (by omega);obtain ⟨hr1,hr2⟩:=hr j c _ hj hv;refine ⟨_,?_,hr1,hr2⟩;rw[←Go.Deep.add_add,hat j hjl,hv])
  refine ⟨_,.sl k rows,hcs,⟨rows,rfl,by omega,fun r hr=>?_⟩,?_,rfl⟩
  ·obtain ⟨i,hi',rfl⟩:=Wx hr;exact (hq i hi').1
  ·refine Gd.2 ⟨some a,m,by rw[hrl],by omega,by omega,?_⟩;by_cases h0:rows = []
   ·exact .inl h0
   ·have hpos:0<rows.length:=WI.2 h0;obtain ⟨b,off,spot⟩:=a;obtain ⟨_,hl0,h00⟩:=hq 0 hpos;obtain ⟨v0,hc0,_⟩:=h00 0 ((rows[0]'hpos)[0]'(by omega)) (Wa _);have hspot:spot=none:=by simpa [Addr.add] using World.cell?_spot hc0
    subst hspot;refine .inr ⟨b,off,rfl,ji fun i row hrow=>?_⟩;obtain ⟨hi',rfl⟩:=Wc.1 hrow;obtain ⟨_,hlr,hcr⟩:=hq i hi';refine ⟨hlr,qi fun j c hj=>?_⟩;obtain ⟨v,h1,h2,h3⟩:=hcr j c hj;rw[Addr.add_lit]at h1;exact ⟨v,by rw[Bj];exact h1,fun hf=>hf,h2,h3⟩
theorem Opn.arg {r:Reach} {b0:Nat} {t:TypeId} {Q:C->Prop} {v:Value} {d:DataW H} {p:List MemPlace} (h:Opn enc P W t Q) (hv:v.cells = #[v]) (hd:DataW.Trod enc P W 0 (fun _=>true) true t v d p):∃ c,Q c/\Rep (xz W) zU c v:=by
 obtain ⟨fuel,hf⟩:=hd;rw[hv]at hf;obtain ⟨v',c,e,hq,hr,_⟩:=h _ _ _ hf;cases e;exact ⟨c,hq,hr⟩
theorem Jc.arg {r:Reach} {b0:Nat} {t:TypeId} {fs:Array Field} {k:Nat} {Q:List C->Prop} {v:Value} {d:DataW H} {p:List MemPlace} (h:Jc enc P W t k Q) (hs:P.underlying t=some (.struct fs)) (hval:Value.okWide P W r b0 t v)
  (hd:DataW.Trod enc P W 0 (fun _=>true) true t v d p):∃ row,Q row/\Rep (xz W) zU (.agg row) v:=by
 obtain ⟨cs,rfl,hsz⟩:=okWide_struct hs hval;obtain ⟨fuel,hf⟩:=hd;obtain ⟨row,hq,h1,h2,hr⟩:=h _ _ _ hf;refine ⟨row,hq,Jd.2 ⟨cs,rfl,YL ?_ fun i c v hc hv=>(hr i c v hc hv).1⟩⟩;have:cs.toList.length=k:=h2;omega
end
end
section
open Go.RowKit Go.ChangeMaps Go.ChangeShapes Go.WideShapes Go.Deep Go.Joins
theorem Nk {α:Type} {f:α->List C} {q:α->Prop}:∀ {rows:List (List C)},(∀ r∈rows,∃ a,r=f a/\q a)->∃ xs:List α,rows=xs.map f/\∀ x∈xs,q x
 | [],_=>⟨[],rfl,fun x h=>by cases h⟩
 | r :: rows,h=>by
  obtain ⟨xs,rfl,hq⟩:=Nk fun r' hr=>h r' (Wk _ hr);obtain ⟨o,rfl,ho⟩:=h r Wj;exact ⟨o :: xs,rfl,fun x hx=>by
   rcases WJ.1 hx with rfl | hx
   ·exact ho
   ·exact hq x hx⟩
section
variable {H:Type} {enc:TypeId×Value->H} {W:World}
theorem zmX:Jc enc Tryz.prog W 112 2 fun row=>∃ o:zN,row=GP o/\o.name.length<=maxLen:=fun fuel cs x hx=>by
 obtain ⟨row,⟨hl,hq⟩,h1,h2,h3⟩:=Jc.struct (W:=W) (enc:=enc) (Qs:=fun j c=>match j with | 0=>∃ l:Lz,c = .str l/\l.length<=maxLen | 1=>∃ n,c = .sc (.int .i64 n)/\(Lit.int .i64 n).wf=true | _=>True) Tryz.underlying112 (by kernel_rfl) (by kernel_rfl) (fun j f hj=>by
  match j,hj with
  | 0,hj=>cases hj;exact Opn.str Tryz.underlying9
  | 1,hj=>cases hj;exact Opn.int Tryz.underlying3
  | j+2,hj=>simp at hj) fuel cs x hx
 match row,h1,hq,h3 with
 | [c0,c1],_,hq,h3 =>
  obtain ⟨a,rfl,ha⟩:=hq 0 c0 rfl;obtain ⟨k,rfl,_⟩:=hq 1 c1 rfl;exact ⟨_,⟨⟨a,k⟩,rfl,ha⟩,rfl,h2,h3⟩
theorem zjZ:Opn enc Tryz.prog W 62 fun c=>∃ xs:List zN,c = .sl 2 (zO xs)/\xs.length<=maxLen/\∀ x∈xs,x.name.length<=maxLen:=fun fuel cs x hx=>by
 obtain ⟨v,c,rfl,⟨rows,rfl,hl,hr⟩,h1,h2⟩:=Opn.slice (W:=W) (enc:=enc) Tryz.underlying62 (show Tryz.prog.cellsOf 112=2 by kernel_rfl) (by decide) zmX fuel cs x hx;obtain ⟨xs,rfl,hq⟩:=Nk hr;exact ⟨v,_,rfl,⟨xs,rfl,by simpa using hl,hq⟩,h1,h2⟩
def zf9 (x:zl):Prop:=x.data.length<=maxLen/\x.es.length<=maxLen/\∀ e∈x.es,e.name.length<=maxLen
theorem zek:Jc enc Tryz.prog W 64 6 fun row=>∃ o:zl,row=Yw o/\zf9 o:=fun fuel cs x hx=>by
 obtain ⟨row,⟨hl,hq⟩,h1,h2,h3⟩:=Jc.struct (W:=W) (enc:=enc) (Qs:=fun j c=>match j with | 0=>∃ n,c = .sc (.int .i64 n)/\(Lit.int .i64 n).wf=true | 1=>∃ n,c = .sc (.int .i64 n)/\(Lit.int .i64 n).wf=true | 2=>∃ n,c = .sc (.int .i64 n)/\(Lit.int .i64 n).wf=true | 3=>∃ l:Lz,c = .str l/\l.length<=maxLen | 4=>∃ n,c = .sc (.int .i64 n)/\(Lit.int .i64 n).wf=true | 5=>∃ xs:List zN,c = .sl 2 (zO xs)/\xs.length<=maxLen/\∀ x∈xs,x.name.length<=maxLen | _=>True) Tryz.underlying64 (by kernel_rfl) (by kernel_rfl) (fun j f hj=>by
  match j,hj with
  | 0,hj=>cases hj;exact Opn.int Tryz.underlying3
  | 1,hj=>cases hj;exact Opn.int Tryz.underlying3
  | 2,hj=>cases hj;exact Opn.int Tryz.underlying3
  | 3,hj=>cases hj;exact Opn.str Tryz.underlying9
  | 4,hj=>cases hj;exact Opn.int Tryz.underlying3
  | 5,hj=>cases hj;exact zjZ
  | j+6,hj=>simp at hj) fuel cs x hx
 match row,h1,hq,h3 with
 | [c0,c1,c2,c3,c4,c5],_,hq,h3 =>
  obtain ⟨a,rfl,_⟩:=hq 0 c0 rfl;obtain ⟨b,rfl,_⟩:=hq 1 c1 rfl;obtain ⟨c,rfl,_⟩:=hq 2 c2 rfl;obtain ⟨d,rfl,hd⟩:=hq 3 c3 rfl;obtain ⟨e,rfl,_⟩:=hq 4 c4 rfl;obtain ⟨f,rfl,hf⟩:=hq 5 c5 rfl;exact ⟨_,⟨⟨a,b,c,d,e,f⟩,rfl,hd,hf⟩,rfl,h2,h3⟩
theorem zad:Opn enc Tryz.prog W 22 fun c=>∃ xs:List zl,c = .sl 6 (zt xs)/\xs.length<=maxLen/\∀ x∈xs,zf9 x:=fun fuel cs x hx=>by
 obtain ⟨v,c,rfl,⟨rows,rfl,hl,hr⟩,h1,h2⟩:=Opn.slice (W:=W) (enc:=enc) Tryz.underlying22 (show Tryz.prog.cellsOf 64=6 by kernel_rfl) (by decide) zek fuel cs x hx;obtain ⟨xs,rfl,hq⟩:=Nk hr;exact ⟨v,_,rfl,⟨xs,rfl,by simpa using hl,hq⟩,h1,h2⟩
theorem zpT:Jc enc Tryz.prog W 24 4 fun row=>∃ f:FsV,row=fsC f/\f.xs.length<=maxLen/\∀ x∈f.xs,zf9 x:=fun fuel cs x hx=>by
 obtain ⟨row,⟨hl,hq⟩,h1,h2,h3⟩:=Jc.struct (W:=W) (enc:=enc) (Qs:=fun j c=>match j with | 0=>∃ n,c = .sc (.int .i64 n)/\(Lit.int .i64 n).wf=true | 1=>∃ n,c = .sc (.int .i64 n)/\(Lit.int .i64 n).wf=true | 2=>∃ n,c = .sc (.int .i64 n)/\(Lit.int .i64 n).wf=true | 3=>∃ xs:List zl,c = .sl 6 (zt xs)/\xs.length<=maxLen/\∀ x∈xs,zf9 x | _=>True) Tryz.underlying24 (by kernel_rfl) (by kernel_rfl) (fun j f hj=>by
  match j,hj with
  | 0,hj=>cases hj;exact Opn.int Tryz.underlying3
  | 1,hj=>cases hj;exact Opn.int Tryz.underlying3
  | 2,hj=>cases hj;exact Opn.int Tryz.underlying3
  | 3,hj=>cases hj;exact zad
  | j+4,hj=>simp at hj) fuel cs x hx
 match row,h1,hq,h3 with
 | [c0,c1,c2,c3],_,hq,h3 =>
  obtain ⟨a,rfl,_⟩:=hq 0 c0 rfl;obtain ⟨b,rfl,_⟩:=hq 1 c1 rfl;obtain ⟨c,rfl,_⟩:=hq 2 c2 rfl;obtain ⟨d,rfl,hd⟩:=hq 3 c3 rfl;exact ⟨_,⟨⟨a,b,c,d⟩,rfl,hd⟩,rfl,h2,h3⟩
end
end
section
open Go
structure zik (κ:Type) where
 lt:κ->κ->Bool
 irr:∀ a,lt a a=false
 tr:∀ {a b c},lt a b=true->lt b c=true->lt a c=true
 tot:∀ {a b},lt a b=false->lt b a=false->a=b
theorem Ya:∀ a:Lz,Op.bytesLess a a=false
 | []=>rfl
 | c :: a=>by
  have h:¬c<c:=by simp
  simp[Op.bytesLess,Ya a]
theorem GZ:∀ {a b c:Lz},Op.bytesLess a b=true->Op.bytesLess b c=true->Op.bytesLess a c=true
 | _,[],_,h,_=>by unfold Op.bytesLess at h;cases h
 | [],y :: b,[],_,h2=>by unfold Op.bytesLess at h2;cases h2
 | [],y :: b,z :: c,_,_=>rfl
 | x :: a,y :: b,[],_,h2=>by unfold Op.bytesLess at h2;cases h2
 | x :: a,y :: b,z :: c,h1,h2=>by
  unfold Op.bytesLess at h1 h2 ⊢;simp only[Ot,Wo,WR,Oz]at h1 h2 ⊢;rcases h1 with h1 | ⟨rfl,h1⟩
  ·rcases h2 with h2 | ⟨rfl,h2⟩
   ·exact .inl (UInt8.lt_trans h1 h2)
   ·exact .inl h1
  ·rcases h2 with h2 | ⟨rfl,h2⟩
   ·exact .inl h2
   ·exact .inr ⟨rfl,GZ h1 h2⟩
theorem xx:∀ {a b:Lz},Op.bytesLess a b=false->Op.bytesLess b a=false->a=b
 | [],[],_,_=>rfl
 | [],y :: b,h,_=>by unfold Op.bytesLess at h;cases h
 | x :: a,[],_,h=>by unfold Op.bytesLess at h;cases h
 | x :: a,y :: b,h1,h2=>by
  unfold Op.bytesLess at h1 h2;simp only[Bc,Of,Ai,OU]at h1 h2;obtain ⟨g1,g2⟩:=h1;obtain ⟨g3,g4⟩:=h2;have hxy:x=y:=by
   apply A9.1;have e1:¬x.toNat<y.toNat:=fun h=>g1 (AB.2 h);have e2:¬y.toNat<x.toNat:=fun h=>g3 (AB.2 h);omega
  subst hxy;have h3:Op.bytesLess a b=false:=by rcases g2 with g | g;exact absurd rfl g;exact g
  have h4:Op.bytesLess b a=false:=by rcases g4 with g | g;exact absurd rfl g;exact g
  rw[xx h3 h4]
theorem zfx:∀ a b:Lz,(Lib.compareBytes a b<0)=(Op.bytesLess a b=true)
 | [],[]=>by simp[Lib.compareBytes,Op.bytesLess]
 | [],_ :: _=>by simp[Lib.compareBytes,Op.bytesLess]
 | _ :: _,[]=>by simp[Lib.compareBytes,Op.bytesLess]
 | a :: x,b :: y=>by
  unfold Lib.compareBytes Op.bytesLess;by_cases h1:a<b
  ·simp[h1]
  ·rw[if_neg h1];by_cases h2:b<a
   ·have:a≠b:=fun e=>by subst e;exact h1 h2
    simp[h1,h2,this]
   ·have e:a=b:=by
     apply A9.1;have e1:¬a.toNat<b.toNat:=fun h=>h1 (AB.2 h);have e2:¬b.toNat<a.toNat:=fun h=>h2 (AB.2 h);omega
    rw[if_neg h2,zfx x y];subst e;simp[h1]
theorem zd5:∀ a b:Lz,(Lib.compareBytes a b=0)=(a=b)
 | [],[]=>by simp[Lib.compareBytes]
 | [],_ :: _=>by simp[Lib.compareBytes]
 | _ :: _,[]=>by simp[Lib.compareBytes]
 | a :: x,b :: y=>by
  unfold Lib.compareBytes;by_cases h1:a<b
  ·have:a≠b:=fun e=>by subst e;simp at h1
   simp[h1,this]
  ·rw[if_neg h1];by_cases h2:b<a
   ·have:a≠b:=fun e=>by subst e;exact h1 h2
    simp[h2,this]
   ·have e:a=b:=by
     apply A9.1;have e1:¬a.toNat<b.toNat:=fun h=>h1 (AB.2 h);have e2:¬b.toNat<a.toNat:=fun h=>h2 (AB.2 h);omega
    rw[if_neg h2,zd5 x y];subst e;simp
def Jj:zik Lz:=⟨Op.bytesLess,Ya,GZ,xx⟩
def Jq:zik Int:=⟨fun a b=>decide (a<b),fun a=>by simp,fun h1 h2=>by simp at h1 h2 ⊢;omega,fun h1 h2=>by simp at h1 h2;omega⟩
section
variable {α κ:Type} [DecidableEq κ] (o:zik κ) (key:α->κ)
def qU (xs:List α):Prop:=xs.Pairwise fun a b=>o.lt (key a) (key b)=true
def qv (n:κ) (xs:List α):Nat:=(xs.filter fun x=>o.lt (key x) n).length
def JZ (n:κ) (xs:List α):Bool:=xs.any fun x=>decide (key x=n)
def qM (n:κ) (xs:List α):Option α:=xs.find? fun x=>decide (key x=n)
def Ye (n:κ) (xs:List α):List α:=xs.filter fun x=>!decide (key x=n)
def Vn (x:α):List α->List α
 | []=>[x]
 | y :: r=>if o.lt (key x) (key y) then x :: y :: r else y :: Vn x r
variable {o:zik κ} {key:α->κ}
theorem zik.asym {a b:κ} (h:o.lt a b=true):o.lt b a=false:=by
 cases h':o.lt b a with
 | false=>rfl
 | true=>have:=o.tr h h';rw[o.irr]at this;cases this
theorem ZR (n:κ):∀ (xs:List α) (i:Nat),i<=xs.length->(∀ t (h:t<xs.length),t<i->o.lt (key xs[t]) n=true)->(∀ t (h:t<xs.length),i<=t->o.lt (key xs[t]) n=false)->qv o key n xs=i
 | [],i,h,_,_=>by simp at h;simp[qv,h]
 | x :: r,0,_,_,h2=>by
  have hx:o.lt (key x) n=false:=h2 0 (by simp) (Wb _);have ih:=ZR n r 0 (Wd _) (fun t h h'=>absurd h' (Oe _)) (fun t h _=>h2 (t+1) (by simp;omega) (Wd _));unfold qv at ih ⊢;rw[ON (by simp[hx])];exact ih
 | x :: r,i+1,h,h1,h2=>by
  have hx:o.lt (key x) n=true:=h1 0 (by simp) (AZ _);have ih:=ZR n r i (by simpa using h) (fun t h h'=>h1 (t+1) (by simp;omega) (by omega)) (fun t h h'=>h2 (t+1) (by simp;omega) (by omega));unfold qv at ih ⊢;rw[Oc (by simp[hx]),Wr,ih]
theorem Vh (n:κ) (xs:List α):qv o key n xs<=xs.length:=Ak _ _
theorem JT {y:α} {r:List α}:qU o key (y :: r)↔(∀ z∈r,o.lt (key y) (key z)=true)/\qU o key r:=Bt
theorem zbA {n:κ} {y:α} {r:List α} (h:o.lt (key y) n=true):qv o key n (y :: r)=qv o key n r+1:=by
 unfold qv;rw[Oc (by simpa using h),Wr]
theorem zcx {n:κ} {y:α} {r:List α} (hR:qU o key (y :: r)) (h:o.lt (key y) n=false):qv o key n (y :: r)=0:=by
 obtain ⟨h1,_⟩:=JT.1 hR;unfold qv;rw[An,AN];intro z hz;rcases WJ.1 hz with rfl | hz
 ·simp[h]
 ·have h3:=h1 z hz;cases h4:o.lt (key z) n with
  | false=>simp
  | true=>have:=o.tr h3 h4;rw[h]at this;cases this
theorem zhf {n:κ} {y:α} {r:List α} (hR:qU o key (y :: r)) (h:o.lt (key y) n=false):JZ key n (y :: r)=decide (key y=n):=by
 obtain ⟨h1,_⟩:=JT.1 hR;unfold JZ;rw[AQ];have:(r.any fun x=>decide (key x=n))=false:=Oh.2 fun z hz=>by
  have h3:=h1 z hz;simp only[WR];rintro rfl;rw[h3]at h;cases h
 rw[this,A1]
theorem UC (n:κ):∀ {xs:List α},qU o key xs->(∀ t (h:t<xs.length),t<qv o key n xs->o.lt (key xs[t]) n=true)/\(∀ t (h:t<xs.length),qv o key n xs<=t->o.lt (key xs[t]) n=false) /\
  (JZ key n xs=true->∃ h:qv o key n xs<xs.length,key xs[qv o key n xs]=n/\qM key n xs=some xs[qv o key n xs]/\Ye key n xs=xs.take (qv o key n xs)++xs.drop (qv o key n xs+1)/\∀ x,key x=n->Vn o key x (Ye key n xs)=xs.set (qv o key n xs) x) /\
  (JZ key n xs=false->qM key n xs=none/\Ye key n xs=xs/\∀ x,key x=n->Vn o key x xs=xs.take (qv o key n xs)++x :: xs.drop (qv o key n xs))
 | [],_=>⟨fun t h=>absurd h (Oe _),fun t h=>absurd h (Oe _),fun h=>(by cases h),fun _=>⟨rfl,rfl,fun x _=>rfl⟩⟩
 | y :: r,hR=>by
  obtain ⟨h1,h2⟩:=JT.1 hR;obtain ⟨i1,i2,i3,i4⟩:=UC n h2;cases hy:o.lt (key y) n with
  | true =>
   have hne:key y≠n:=by rintro rfl;rw[o.irr]at hy;cases hy
   have hrk:=zbA (r:=r) hy;have hhas:JZ key n (y :: r)=JZ key n r:=by unfold JZ;rw[AQ,Wi hne,OZ]
   have hfind:qM key n (y :: r)=qM key n r:=by unfold qM;rw[Af (by simpa using hne)]
   have hless:Ye key n (y :: r)=y :: Ye key n r:=by unfold Ye;rw[Oc (by simpa using hne)]
   have hput:∀ x q,key x=n->Vn o key x (y :: q)=y :: Vn o key x q:=fun x q hx=>by
    rw[Vn,hx,zik.asym hy];rfl
   rw[hhas,hfind,hless,hrk];refine ⟨fun t h ht=>?_,fun t h ht=>?_,fun h=>?_,fun h=>?_⟩
   ·cases t with
    | zero=>exact hy
    | succ t=>exact i1 t (by simpa using h) (by omega)
   ·cases t with
    | zero=>omega
    | succ t=>exact i2 t (by simpa using h) (by omega)
   ·obtain ⟨g,g1,g2,g3,g4⟩:=i3 h;refine ⟨by simp;omega,by simpa using g1,by simpa using g2,by rw[g3];simp,fun x hx=>?_⟩;rw[hput x _ hx,g4 x hx];simp
   ·obtain ⟨g1,g2,g3⟩:=i4 h;refine ⟨g1,by rw[g2],fun x hx=>?_⟩;rw[hput x _ hx,g3 x hx];simp
  | false =>
   have hrk:=zcx hR hy;have hhas:=zhf hR hy;rw[hrk,hhas];have hno:∀ z∈r,key z≠n:=fun z hz=>by
    have h3:=h1 z hz;rintro rfl;rw[h3]at hy;cases hy
   have hlr:Ye key n r=r:=by
    unfold Ye;rw[BI];intro z hz;simpa using hno z hz
   refine ⟨fun t h ht=>absurd ht (Oe _),fun t h _=>?_,fun h=>?_,fun h=>?_⟩
   ·cases t with
    | zero=>exact hy
    | succ t =>
     have h3:=h1 (r[t]'(by simpa using h)) (Wz _);show o.lt (key (r[t]'(by simpa using h))) n=false;cases h4:o.lt (key (r[t]'(by simpa using h))) n with
     | false=>rfl
     | true=>have:=o.tr h3 h4;rw[hy]at this;cases this
   ·have hk:key y=n:=WP h;have hl:Ye key n (y :: r)=r:=by
     show (y :: r).filter (fun x=>!decide (key x=n))=r;rw[ON (by simpa using hk)];exact hlr
    refine ⟨by simp,hk,by unfold qM;rw[Av (by simpa using hk)];rfl,by rw[hl];simp,fun x hx=>?_⟩;rw[hl];cases r with
    | nil=>rfl
    | cons z q =>
     have h3:=h1 z Wj;rw[hk]at h3;rw[Vn,hx,h3];rfl
   ·have hk:key y≠n:=OK h;have hny:o.lt n (key y)=true:=by
     cases h5:o.lt n (key y) with
     | true=>rfl
     | false=>exact absurd (o.tot hy h5) hk
    refine ⟨?_,?_,fun x hx=>?_⟩
    ·unfold qM;rw[A8];intro z hz;rcases WJ.1 hz with rfl | hz
     ·simpa using hk
     ·simpa using hno z hz
    ·show (y :: r).filter (fun x=>!decide (key x=n))=y :: r;rw[Oc (by simpa using hk)];exact Wv _ hlr
    ·rw[Vn,hx,hny];rfl
theorem yx (n:κ) {xs:List α} (hR:qU o key xs) {i:Nat} (hi:qv o key n xs=i) (h:i<xs.length):JZ key n xs=decide (key xs[i]=n):=by
 subst hi;obtain ⟨_,_,h3,_⟩:=UC n hR;cases hh:JZ key n xs with
 | true=>obtain ⟨_,g,_⟩:=h3 hh;rw[Wl g]
 | false =>
  symm
  rw[Of];intro e;unfold JZ at hh;rw[Oh]at hh;exact hh _ (Wz h) (Wl e)
theorem G3 (n:κ) {xs:List α} (hR:qU o key xs) (hi:qv o key n xs=xs.length):JZ key n xs=false:=by
 obtain ⟨_,_,h3,_⟩:=UC n hR;cases hh:JZ key n xs with
 | false=>rfl
 | true=>obtain ⟨g,_⟩:=h3 hh;omega
theorem U8 (n:κ) {xs:List α} (h:qU o key xs):qU o key (Ye key n xs):=h.filter _
theorem QW {x y:α}:∀ {xs:List α},y∈Vn o key x xs↔y=x∨y∈xs
 | []=>by simp[Vn]
 | z :: r=>by
  unfold Vn;split
  ·simp
  ·rw[WJ,QW,WJ];constructor
   ·rintro (h | h | h)
    ·exact .inr (.inl h)
    ·exact .inl h
    ·exact .inr (.inr h)
   ·rintro (h | h | h)
    ·exact .inr (.inl h)
    ·exact .inl h
    ·exact .inr (.inr h)
theorem QC {n:κ} {y:α} {xs:List α}:y∈Ye key n xs↔y∈xs/\key y≠n:=by unfold Ye;simp
theorem V2 {x:α}:∀ {xs:List α},qU o key xs->(∀ y∈xs,key y≠key x)->qU o key (Vn o key x xs)
 | [],_,_=>by unfold Vn qU;simp
 | y :: r,hR,hne=>by
  obtain ⟨h1,h2⟩:=JT.1 hR;unfold Vn;cases hxy:o.lt (key x) (key y) with
  | true =>
   rw[if_pos rfl,JT];refine ⟨fun z hz=>?_,hR⟩;rcases WJ.1 hz with rfl | hz
   ·exact hxy
   ·exact o.tr hxy (h1 z hz)
  | false =>
   rw[if_neg (by simp),JT];have hyx:o.lt (key y) (key x)=true:=by
    cases h:o.lt (key y) (key x) with
    | true=>rfl
    | false=>exact absurd (o.tot h hxy) (hne y Wj)
   refine ⟨fun z hz=>?_,V2 h2 fun z hz=>hne z (Wk _ hz)⟩;rcases QW.1 hz with rfl | hz
   ·exact hyx
   ·exact h1 z hz
theorem kh {x:α} {xs:List α} (h:qU o key xs):qU o key (Vn o key x (Ye key (key x) xs)):=
 V2 (U8 _ h) fun y hy=>(QC.1 hy).2
theorem kL (n:κ) (xs:List α):(Ye key n xs).length<=xs.length:=Ak _ _
theorem UO (x:α):∀ xs:List α,(Vn o key x xs).length=xs.length+1
 | []=>rfl
 | y :: r=>by
  unfold Vn;split
  ·rfl
  ·rw[Wr,UO x r];rfl
end
end
section
open Go.RowKit
section
variable {G:zq}
theorem zc4 (rows:List (List C)) (hk:∀ r∈rows,r.length=2) (hs:jA rows) (hl:rows.length<=100000) :
  Xe Tryz.prog G 291 [.sl 2 rows] [] 0 (zdW 2 rows):=by
 refine Xe.bySlice (fun h=>?_) (fun h a cap hr=>?_)
 ·refine foX (fun i=>if i=1000000+62 then [true,true] else []) Tryz.func291 ?_;dsimp only[Tryz.f291];push_cast;refine ⟨h,Vg Zv YG rfl rfl (by decide) rfl (qw hk) rfl (Wb _) (Wb _) (by omega) (by omega) (fun hc=>absurd hc ?_) (fun _ c hc hm=>?_)⟩
  ·have:=WI.2 h;omega
  ·push_cast;rw[Ov]at hc;refine ⟨_,_,_,⟨⟨rfl,.inl ⟨h,c,hc,hm,rfl,rfl⟩⟩,Wd _⟩,[],rfl,rfl,?_,by push_cast [ze,zd,CLe,zh]⟩;push_cast [ze,zd,CLe,zh];exact zS (zE hs)
 ·cases a with
  | none =>
   refine foX (fun i=>if i=1000000+62 then [true,true] else []) Tryz.func291 ?_;dsimp only[Tryz.f291];push_cast [hr,BQ];exact ⟨_,_,_,⟨⟨rfl,.inr ⟨h,.inl ⟨rfl,rfl⟩⟩⟩,Wd _⟩,[],rfl,rfl,by push_cast [ze,zd,CLe,zh],by push_cast [ze,zd,CLe,zh]⟩
  | some a =>
   refine foX (fun i=>if i=1000000+62 then [true,true] else []) Tryz.func291 ?_;dsimp only[Tryz.f291];push_cast [hr,BR];have hx:C.xs? 2 [[]] (C.sc (.slice (some a) 0 cap))=some (0,[]):=by simp[C.xs?,hr]
   refine Vg Zv YG hx rfl (by decide) rfl rfl rfl (Wb _) (Wb _) (by omega) (by omega) (fun _=>?_) (fun hc=>absurd hc (by omega));push_cast;exact ⟨_,_,_,⟨⟨rfl,.inr ⟨h,.inr ⟨rfl,rfl⟩⟩⟩,Wd _⟩,[],rfl,rfl,by (push_cast [ze,zd,CLe,zh];simp[spl,zh]),by push_cast [ze,zd,CLe,zh]⟩
theorem za7 (rows:List (List C)) (x:List C) (i c e:Nat) (hk:∀ r∈rows,r.length=2) (hx:x.length=2) (hs:jA rows) (hsx:(x.all C.stayB)=true) (hl:rows.length<=100000) (hi:i<=rows.length) (hc:rows.length<=c) (hcm:c<=9223372036854775807) :
  Xe Tryz.prog G 292 [.bs 0 0 2 rows.length c,.sc (.int .i64 i),.own 0 e 2 [x]] [qz 2 rows c] 1 (zrJ 2 (c*2) (rows.take i++x :: rows.drop i)):=by
 refine foX (fun j=>if j=1000000+62 then [true,true] else if j=11 then [false,false,false,false,false,false,false,false,true] else if j=15 then [false,false,false,false,false,false,false,false,true] else []) Tryz.func292 ?_;dsimp only[Tryz.f292];push_cast;have hlen:(rows.take i++x :: rows.drop i).length=rows.length+1:=by simp;omega
 have hki:∀ r∈rows.take i++x :: rows.drop i,r.length=2:=fun r hr=>by
  rcases WB.1 hr with hr | hr
  ·exact hk r (Ww hr)
  ·rcases WJ.1 hr with rfl | hr
   ·exact hx
   ·exact hk r (WU hr)
 have hsi:jA (rows.take i++x :: rows.drop i):=fun r hr=>by
  rcases WB.1 hr with hr | hr
  ·exact hs r (Ww hr)
  ·rcases WJ.1 hr with rfl | hr
   ·exact hsx
   ·exact hs r (WU hr)
 have hbl:=JY hk hc;have hfl:=qw hk;have hxl:[x].flatten.length=1*2:=by simp[hx]
 have hpre:(qz 2 rows c).take rows.flatten.length=rows.flatten:=by unfold qz;rw[Bd]
 refine ⟨hc,⟨by omega,hi⟩,br (fun h=>?_) (fun h=>?_)⟩
 ·push_cast;refine Vg Zv YG rfl rfl (by decide) rfl hxl rfl (by rw[hbl];omega) hc (by simp;omega) (by simp;omega) (fun h1=>?_) (fun h1 c' h2 h3=>?_)
  ·push_cast;have hi':i=rows.length:=WP h;refine ⟨_,_,_,⟨⟨rfl,c,by rw[hlen];exact h1,hcm,.inl ⟨rfl,rfl⟩⟩,Wb _⟩,[],rfl,rfl,?_,by push_cast [ze,zd,CLe,zh,hlen]⟩;push_cast [ze,zd,CLe,zh];have h6:rows.length*2+2<=c*2:=by have:rows.length+1<=c:=h1;omega
   refine JQ hki hsi (by rw[hlen];exact h1) (by rw[Zi (by rw[hbl,hx];exact h6),hbl]) ?_;rw[hlen,hi',Oi,A3];unfold spl;rw[←hfl,hpre,OE (by simp[hx,hfl];omega)];simp
  ·push_cast;have hi':i=rows.length:=WP h;have h2':rows.length+1<=c':=h2;refine ⟨_,_,_,⟨⟨rfl,c',by rw[hlen];exact h2,h3,.inr ⟨rfl,rfl⟩⟩,OL rfl⟩,[],rfl,rfl,?_,by push_cast [ze,zd,CLe,zh,hlen]⟩;push_cast [ze,zd,CLe,zh];refine ⟨XF hbl,JQ hki hsi (by rw[hlen];exact h2) (by simp[hx,hbl];omega) ?_⟩;rw[hlen,hi',Oi,A3,←hfl,hpre,OE (by simp[hx,hfl];omega)];simp
 ·have hne:i≠rows.length:=OK h;push_cast;refine ⟨⟨by omega,by omega⟩,br (fun h1=>?_) (fun h1=>?_)⟩
  ·have h1':(c:Int)<(rows.length:Int)+1:=WP h1;push_cast
   repeat refine an ?_
   refine zlV Zv zoO YG rfl (by decide) rfl rfl (by rw[hbl];omega) (by omega) (by omega) (by omega) (by omega) (by omega) (fun c' B h2 h3 hBl hBt=>?_);have e1:((rows.length:Int)+1-(i:Int)).toNat=rows.length+1-i:=by omega
   rw[e1]at h2 ⊢;have e2:i+(rows.length+1-i)=rows.length+1:=by omega
   rw[e2]at h2 ⊢;push_cast
   repeat refine an ?_
   refine X6 Zv YG rfl rfl hxl (by rw[hBl];omega) (fun B1 hB1 hl1=>?_);rw[hBl]at hl1;push_cast
   repeat refine an ?_
   have hbp:=XO (c:=c) hk hi;refine X6 Zv YG (kK rfl (by rw[hbl];omega)) rfl (by rw[hbp,W7,hfl];omega) (by rw[hl1];omega) (fun B2 hB2 hl2=>?_);rw[hl1]at hl2;have hX:[x].flatten.take (min [x].length (rows.length+1-i)*2)=x:=by
    rw[Aj,OD (by omega),Wg (by omega)];simp
   rw[hX]at hB1;rw[hbp,show min (rows.length-i) (rows.length-i)*2=(rows.length-i)*2 by omega,Wg (by rw[W7,hfl];omega),hB1]at hB2;push_cast;refine ⟨_,_,_,⟨⟨rfl,c',by rw[hlen];exact h2,h3,.inr ⟨rfl,rfl⟩⟩,OL rfl⟩,[],rfl,rfl,?_,by push_cast [ze,zd,CLe,zh,hlen]⟩;push_cast [ze,zd,CLe,zh];refine ⟨XF hbl,JQ hki hsi (by rw[hlen];exact h2) hl2 ?_⟩;rw[hlen,←QZ hk,hB2];have hg:=Nn (cs:=B) (L:=rows.flatten) (X:=x) (p:=i*2) (q:=(i+1)*2) (by omega) (by omega) (by
    rw[hBt,AS];unfold qz;rw[OM (by omega)]) (by omega)
   rw[hfl,hx]at hg;rw[←hg];congr 1;omega
  ·have h1':¬(c:Int)<(rows.length:Int)+1:=OK h1;push_cast
   repeat refine an ?_
   refine znJ (yy (P:=Tryz.prog) (tR:=4) Tryz.func303 (by kernel_rfl) (by kernel_rfl) (by kernel_rfl) (by kernel_rfl) Zv YG rfl (Bf (by rw[hbl];omega)) (by simp) (by omega)) ?_;push_cast
   repeat refine an ?_
   have hbp:=XO (c:=c) hk hi;refine X6 Zv YG (kK rfl (by rw[hbl];omega)) rfl (by simp[hbl];omega) (by rw[hbl];omega) (fun B1 hB1 hl1=>?_);rw[hbl]at hl1;rw[BS,OD (by omega),show min (rows.length+1-i) (rows.length-i)*2=(rows.length-i)*2 by omega,hbp]at hB1;push_cast
   repeat refine an ?_
   refine X6 Zv YG rfl rfl hxl (by rw[hl1];omega) (fun B2 hB2 hl2=>?_);rw[hl1]at hl2;have hX:[x].flatten.take (min [x].length (rows.length+1-i)*2)=x:=by
    rw[Aj,OD (by omega),Wg (by omega)];simp
   rw[hX,hB1]at hB2;push_cast;have hcc:rows.length+1<=c:=by omega
   refine ⟨_,_,_,⟨⟨rfl,c,by rw[hlen];exact hcc,hcm,.inl ⟨rfl,rfl⟩⟩,OL rfl⟩,[],rfl,rfl,?_,by push_cast [ze,zd,CLe,zh,hlen]⟩;push_cast [ze,zd,CLe,zh];refine JQ hki hsi (by rw[hlen];exact hcc) hl2 ?_;rw[hlen,←QZ hk,hB2];have hg:=kD (cs:=qz 2 rows c) (L:=rows.flatten) (X:=x) (p:=i*2) (q:=(i+1)*2) (by omega) (by omega) hpre (by omega);rw[hfl,hx]at hg;rw[←hg];congr 1;omega
theorem zhS {e:Nat} (x:List C) (hx:x.length=2) (hsx:(x.all C.stayB)=true) :
  Xe Tryz.prog G 292 [.sc (.slice none 0 0),.sc (.int .i64 0),.own 0 e 2 [x]] [] 1 (fun r bx' n=>n=0/\∃ c,1<=c/\c<=9223372036854775807/\r = .bs 0 0 2 1 c/\bx' = [qz 2 [x] c]):=by
 refine foX (fun j=>if j=1000000+62 then [true,true] else if j=11 then [false,false,false,false,false,false,false,false,true] else if j=15 then [false,false,false,false,false,false,false,false,true] else []) Tryz.func292 ?_;dsimp only[Tryz.f292];push_cast;refine NR Zv YG rfl rfl (by decide) rfl (by simp[hx]) (by simp) (by simp) (by simp) (fun c h1 h2=>?_);push_cast;refine ⟨_,_,_,⟨⟨rfl,c,h1,h2,rfl,rfl⟩,Wd _⟩,[],rfl,rfl,?_,by push_cast [ze,zd,CLe,zh]⟩;push_cast [ze,zd,CLe,zh];have:=zS (src:=[]) (n:=1) (zE (k:=2) (c:=c) (rows:=[x]) fun r hr=>by
  rw[WT.1 hr];exact hsx)
 unfold qz at this ⊢;simpa using this
end
end
end Go.Proofs.YtnpdbhbmakdklaaGreatDoor.Vcg
section
namespace Go.Proofs
open YtnpdbhbmakdklaaGreatDoor
open Go.Shelf
def Tryz.lays169_ren:Go.Shelf.Ren:=⟨fun | 169=>167 | n=>n,fun | 70=>218 | 9=>9 | 0=>0 | 72=>220 | 37=>174 | 127=>263 | 3=>3 | 5=>5 | n=>n,fun | n=>n⟩
theorem Tryz.lays169:Go.Proofs.Lays.n169 Tryz.prog Tryz.lays169_ren:={
 mixed:=by kernel_rfl
 f169:=Tryz.func167.trans (Wv some (by kernel_rfl))
 t0:=Tryz.underlying0
 a0:=Tryz.isAgg0
 z0:=Tryz.sizeOf0
 v0:=Tryz.zeroValue0
 t3:=Tryz.underlying3
 a3:=Tryz.isAgg3
 z3:=Tryz.sizeOf3
 v3:=Tryz.zeroValue3
 t9:=Tryz.underlying9
 a9:=Tryz.isAgg9
 z9:=Tryz.sizeOf9
 v9:=Tryz.zeroValue9
 t37:=Tryz.underlying174
 a37:=Tryz.isAgg174
 z37:=Tryz.sizeOf174
 v37:=Tryz.zeroValue174
 t70:=Tryz.underlying218
 a70:=Tryz.isAgg218
 z70:=Tryz.sizeOf218
 v70:=Tryz.zeroValue218
 t72:=Tryz.underlying220
 a72:=Tryz.isAgg220
 z72:=Tryz.sizeOf220
 v72:=Tryz.zeroValue220
 t127:=Tryz.underlying263
 a127:=Tryz.isAgg263
 z127:=Tryz.sizeOf263
 v127:=Tryz.zeroValue263 }
theorem Tryz.Builder_Extra_169:Builder.Extra Tryz.prog Tryz.lays169_ren:={
 sizeBuilder:=by kernel_rfl
 liesBuilder:=by kernel_rfl
 t5:=Tryz.underlying5
 a5:=Tryz.isAgg5
 z5:=Tryz.sizeOf5
 v5:=Tryz.zeroValue5
 infoByte:=by kernel_rfl
 cellsByte:=by kernel_rfl
 sizeByte:=by kernel_rfl
 neB5:=by decide }
open Go.RowKit in
theorem Tryz.Builder_String_any (B b:Nat) (l:Lz) (w:World) (h:Lib.IsBuilder 220 5 B b (Lib.byteCells l) w) (hBw:B<=w.heap.size) :
  Calls Tryz.prog 167 #[.pointer (some ⟨b,0,none⟩)] w fun e w'=>e = .returned (.string ⟨l.toArray⟩)/\Below B w w':=Any.Builder_String_any Tryz.lays169 Tryz.Builder_Extra_169 B b l w h hBw
def Tryz.lays156_ren:Go.Shelf.Ren:=⟨fun | 156=>122 | 165=>165 | 166=>166 | 169=>167 | 240=>199 | 241=>200 | 276=>232 | 277=>233 | n=>n,fun | 31=>30 | 9=>9 | 3=>3 | 4=>4 | 0=>0 | 20=>20 | 72=>220 | 76=>224 | 70=>218 | 37=>174 | 75=>223 | 127=>263 | 164=>281 | 5=>5 | 80=>226 | n=>n,fun | n=>n⟩
theorem Tryz.lays156:Go.Proofs.Lays.n156 Tryz.prog Tryz.lays156_ren:={
 mixed:=by kernel_rfl
 f156:=Tryz.func122.trans (Wv some (by kernel_rfl))
 f165:=Tryz.func165.trans (Wv some (by kernel_rfl))
 f166:=Tryz.func166.trans (Wv some (by kernel_rfl))
 f169:=Tryz.func167.trans (Wv some (by kernel_rfl))
 f240:=Tryz.func199.trans (Wv some (by kernel_rfl))
 f241:=Tryz.func200.trans (Wv some (by kernel_rfl))
 f276:=Tryz.func232.trans (Wv some (by kernel_rfl))
 f277:=Tryz.func233.trans (Wv some (by kernel_rfl))
 t0:=Tryz.underlying0
 a0:=Tryz.isAgg0
 z0:=Tryz.sizeOf0
 v0:=Tryz.zeroValue0
 t3:=Tryz.underlying3
 a3:=Tryz.isAgg3
 z3:=Tryz.sizeOf3
 v3:=Tryz.zeroValue3
 t4:=Tryz.underlying4
 a4:=Tryz.isAgg4
 z4:=Tryz.sizeOf4
 v4:=Tryz.zeroValue4
 t9:=Tryz.underlying9
 a9:=Tryz.isAgg9
 z9:=Tryz.sizeOf9
 v9:=Tryz.zeroValue9
 t20:=Tryz.underlying20
 a20:=Tryz.isAgg20
 z20:=Tryz.sizeOf20
 v20:=Tryz.zeroValue20
 t31:=Tryz.underlying30
 a31:=Tryz.isAgg30
 z31:=Tryz.sizeOf30
 v31:=Tryz.zeroValue30
 t37:=Tryz.underlying174
 a37:=Tryz.isAgg174
 z37:=Tryz.sizeOf174
 v37:=Tryz.zeroValue174
 t70:=Tryz.underlying218
 a70:=Tryz.isAgg218
 z70:=Tryz.sizeOf218
 v70:=Tryz.zeroValue218
 t72:=Tryz.underlying220
 a72:=Tryz.isAgg220
 z72:=Tryz.sizeOf220
 v72:=Tryz.zeroValue220
 t75:=Tryz.underlying223
 a75:=Tryz.isAgg223
 z75:=Tryz.sizeOf223
 v75:=Tryz.zeroValue223
 t76:=Tryz.underlying224
 a76:=Tryz.isAgg224
 z76:=Tryz.sizeOf224
 v76:=Tryz.zeroValue224
 t127:=Tryz.underlying263
 a127:=Tryz.isAgg263
 z127:=Tryz.sizeOf263
 v127:=Tryz.zeroValue263
 t164:=Tryz.underlying281
 a164:=Tryz.isAgg281
 z164:=Tryz.sizeOf281
 v164:=Tryz.zeroValue281 }
theorem Tryz.Builder_Extra_156:Builder.Extra Tryz.prog Tryz.lays156_ren:={
 sizeBuilder:=by kernel_rfl
 liesBuilder:=by kernel_rfl
 t5:=Tryz.underlying5
 a5:=Tryz.isAgg5
 z5:=Tryz.sizeOf5
 v5:=Tryz.zeroValue5
 infoByte:=by kernel_rfl
 cellsByte:=by kernel_rfl
 sizeByte:=by kernel_rfl
 neB5:=by decide }
open Go.RowKit in
theorem Tryz.strings_Join_none (a:Option Addr) (c:Nat) (sep:ByteArray) (w:World) :
  Calls Tryz.prog 122 #[.slice a 0 c,.string sep] w fun e w'=>e = .returned (.string ⟨#[]⟩)/\w'=w:=Any.strings_Join_none Tryz.lays156 Tryz.Builder_Extra_156 a c sep w
open Go.RowKit in
theorem Tryz.strings_Join (bk o c:Nat) (xs:List ByteArray) (sep:ByteArray) (w:World) (hcells:∀ (j:Nat) x,xs[j]?=some x->w.cell? ⟨bk,o+j,none⟩=some (.string x)) (hbk:bk<w.heap.size) (hN:xs.length<=140737488355328) (hcap:xs.length<=c) (hlen:(Lib.join (xs.map (·.data.toList)) sep.data.toList).length<=140737488355328) :
  Calls Tryz.prog 122 #[.slice (some ⟨bk,o,none⟩) xs.length c,.string sep] w fun e w'=>e = .returned (.string ⟨(Lib.join (xs.map (·.data.toList)) sep.data.toList).toArray⟩)/\Below w.heap.size w w':=Any.strings_Join Tryz.lays156 Tryz.Builder_Extra_156 bk o c xs sep w hcells hbk hN hcap hlen
def Tryz.lays162_ren:Go.Shelf.Ren:=⟨fun | 162=>162 | 232=>193 | 227=>194 | 234=>195 | 236=>196 | 228=>229 | 271=>230 | 151=>231 | 120=>264 | 197=>191 | 152=>234 | 260=>227 | 137=>145 | 119=>265 | 224=>262 | 225=>261 | 217=>174 | 266=>222 | n=>n,fun | 9=>9 | 4=>4 | 3=>3 | 5=>5 | 117=>255 | 116=>254 | 0=>0 | 124=>258 | 21=>21 | 105=>249 | 46=>261 | 119=>301 | 139=>304 | 138=>303 | n=>n,fun | 3=>5 | 4=>6 | n=>n⟩
theorem Tryz.lays162:Go.Proofs.Lays.n162 Tryz.prog Tryz.lays162_ren:={
 mixed:=by kernel_rfl
 f119:=Tryz.func265.trans (Wv some (by kernel_rfl))
 f120:=Tryz.func264.trans (Wv some (by kernel_rfl))
 f137:=Tryz.func145.trans (Wv some (by kernel_rfl))
 f151:=Tryz.func231.trans (Wv some (by kernel_rfl))
 f152:=Tryz.func234.trans (Wv some (by kernel_rfl))
 f162:=Tryz.func162.trans (Wv some (by kernel_rfl))
 f197:=Tryz.func191.trans (Wv some (by kernel_rfl))
 f217:=Tryz.func174.trans (Wv some (by kernel_rfl))
 f224:=Tryz.func262.trans (Wv some (by kernel_rfl))
 f225:=Tryz.func261.trans (Wv some (by kernel_rfl))
 f227:=Tryz.func194.trans (Wv some (by kernel_rfl))
 f228:=Tryz.func229.trans (Wv some (by kernel_rfl))
 f232:=Tryz.func193.trans (Wv some (by kernel_rfl))
 f234:=Tryz.func195.trans (Wv some (by kernel_rfl))
 f236:=Tryz.func196.trans (Wv some (by kernel_rfl))
 f260:=Tryz.func227.trans (Wv some (by kernel_rfl))
 f266:=Tryz.func222.trans (Wv some (by kernel_rfl))
 f271:=Tryz.func230.trans (Wv some (by kernel_rfl))
 t0:=Tryz.underlying0
 a0:=Tryz.isAgg0
 z0:=Tryz.sizeOf0
 v0:=Tryz.zeroValue0
 t3:=Tryz.underlying3
 a3:=Tryz.isAgg3
 z3:=Tryz.sizeOf3
 v3:=Tryz.zeroValue3
 t4:=Tryz.underlying4
 a4:=Tryz.isAgg4
 z4:=Tryz.sizeOf4
 v4:=Tryz.zeroValue4
 t5:=Tryz.underlying5
 a5:=Tryz.isAgg5
 z5:=Tryz.sizeOf5
 v5:=Tryz.zeroValue5
 t9:=Tryz.underlying9
 a9:=Tryz.isAgg9
 z9:=Tryz.sizeOf9
 v9:=Tryz.zeroValue9
 t21:=Tryz.underlying21
 a21:=Tryz.isAgg21
 z21:=Tryz.sizeOf21
 v21:=Tryz.zeroValue21
 t46:=Tryz.underlying261
 a46:=Tryz.isAgg261
 z46:=Tryz.sizeOf261
 v46:=Tryz.zeroValue261
 t105:=Tryz.underlying249
 a105:=Tryz.isAgg249
 z105:=Tryz.sizeOf249
 v105:=Tryz.zeroValue249
 t116:=Tryz.underlying254
 a116:=Tryz.isAgg254
 z116:=Tryz.sizeOf254
 t117:=Tryz.underlying255
 a117:=Tryz.isAgg255
 z117:=Tryz.sizeOf255
 v117:=Tryz.zeroValue255
 t119:=Tryz.underlying301
 a119:=Tryz.isAgg301
 z119:=Tryz.sizeOf301
 t124:=Tryz.underlying258
 a124:=Tryz.isAgg258
 z124:=Tryz.sizeOf258
 v124:=Tryz.zeroValue258
 t138:=Tryz.underlying303
 a138:=Tryz.isAgg303
 z138:=Tryz.sizeOf303
 v138:=Tryz.zeroValue303
 t139:=Tryz.underlying304
 a139:=Tryz.isAgg304
 z139:=Tryz.sizeOf304
 v139:=Tryz.zeroValue304
 g3:=by kernel_rfl
 g4:=by kernel_rfl }
def Tryz.lays119_ren:Go.Shelf.Ren:=⟨fun | 119=>265 | n=>n,fun | 21=>21 | 4=>4 | n=>n,fun | n=>n⟩
theorem Tryz.lays119:Go.Proofs.Lays.n119 Tryz.prog Tryz.lays119_ren:={
 mixed:=by kernel_rfl
 f119:=Tryz.func265.trans (Wv some (by kernel_rfl))
 t4:=Tryz.underlying4
 a4:=Tryz.isAgg4
 z4:=Tryz.sizeOf4
 v4:=Tryz.zeroValue4
 t21:=Tryz.underlying21
 a21:=Tryz.isAgg21
 z21:=Tryz.sizeOf21
 v21:=Tryz.zeroValue21 }
theorem Tryz.utf8_ValidRune (r:Int) (w:World) :
  Calls Tryz.prog 265 #[.int .i32 r] w fun e w'=>e = .returned (.bool (Lib.validRune r))/\w'=w:=Any.utf8_ValidRune Tryz.lays119 r w
def Tryz.lays106_ren:Go.Shelf.Ren:=⟨fun | 106=>260 | 213=>286 | 265=>302 | n=>n,fun | 9=>9 | 3=>3 | n=>n,fun | n=>n⟩
theorem Tryz.lays106:Go.Proofs.Lays.n106 Tryz.prog Tryz.lays106_ren:={
 mixed:=by kernel_rfl
 f106:=Tryz.func260.trans (Wv some (by kernel_rfl))
 f213:=Tryz.func286.trans (Wv some (by kernel_rfl))
 f265:=Tryz.func302.trans (Wv some (by kernel_rfl))
 t3:=Tryz.underlying3
 a3:=Tryz.isAgg3
 z3:=Tryz.sizeOf3
 v3:=Tryz.zeroValue3
 t9:=Tryz.underlying9
 a9:=Tryz.isAgg9
 z9:=Tryz.sizeOf9
 v9:=Tryz.zeroValue9 }
open Go.RowKit in
theorem Tryz.strings_Compare (a b:ByteArray) (w:World) :
  Calls Tryz.prog 260 #[.string a,.string b] w fun e w'=>e = .returned (.int .i64 (Lib.compareBytes a.data.toList b.data.toList))/\w'=w:=Any.strings_Compare Tryz.lays106 a b w
def Tryz.lays137_ren:Go.Shelf.Ren:=⟨fun | 137=>145 | 217=>174 | 266=>222 | n=>n,fun | 9=>9 | 5=>5 | 3=>3 | n=>n,fun | n=>n⟩
theorem Tryz.lays137:Go.Proofs.Lays.n137 Tryz.prog Tryz.lays137_ren:={
 mixed:=by kernel_rfl
 f137:=Tryz.func145.trans (Wv some (by kernel_rfl))
 f217:=Tryz.func174.trans (Wv some (by kernel_rfl))
 f266:=Tryz.func222.trans (Wv some (by kernel_rfl))
 t3:=Tryz.underlying3
 a3:=Tryz.isAgg3
 z3:=Tryz.sizeOf3
 v3:=Tryz.zeroValue3
 t5:=Tryz.underlying5
 a5:=Tryz.isAgg5
 z5:=Tryz.sizeOf5
 v5:=Tryz.zeroValue5
 t9:=Tryz.underlying9
 a9:=Tryz.isAgg9
 z9:=Tryz.sizeOf9
 v9:=Tryz.zeroValue9 }
open Go.RowKit in
theorem Tryz.strings_IndexByte (s:ByteArray) (c:Int) (w:World) :
  Calls Tryz.prog 145 #[.string s,.int .u8 c] w fun e w'=>e = .returned (.int .i64 (Lib.indexByte s.data.toList c.toNat.toUInt8))/\w'=w:=Any.strings_IndexByte Tryz.lays137 s c w
def Tryz.lays143_ren:Go.Shelf.Ren:=⟨fun | 143=>192 | 219=>228 | 217=>174 | 225=>261 | 224=>262 | 267=>263 | 266=>222 | 314=>287 | n=>n,fun | 9=>9 | 3=>3 | 4=>4 | 5=>5 | 46=>261 | 146=>319 | 51=>318 | n=>n,fun | 1=>4 | n=>n⟩
theorem Tryz.lays143:Go.Proofs.Lays.n143 Tryz.prog Tryz.lays143_ren:={
 mixed:=by kernel_rfl
 f143:=Tryz.func192.trans (Wv some (by kernel_rfl))
 f217:=Tryz.func174.trans (Wv some (by kernel_rfl))
 f219:=Tryz.func228.trans (Wv some (by kernel_rfl))
 f224:=Tryz.func262.trans (Wv some (by kernel_rfl))
 f225:=Tryz.func261.trans (Wv some (by kernel_rfl))
 f266:=Tryz.func222.trans (Wv some (by kernel_rfl))
 f267:=Tryz.func263.trans (Wv some (by kernel_rfl))
 f314:=Tryz.func287.trans (Wv some (by kernel_rfl))
 t3:=Tryz.underlying3
 a3:=Tryz.isAgg3
 z3:=Tryz.sizeOf3
 v3:=Tryz.zeroValue3
 t4:=Tryz.underlying4
 a4:=Tryz.isAgg4
 z4:=Tryz.sizeOf4
 v4:=Tryz.zeroValue4
 t5:=Tryz.underlying5
 a5:=Tryz.isAgg5
 z5:=Tryz.sizeOf5
 v5:=Tryz.zeroValue5
 t9:=Tryz.underlying9
 a9:=Tryz.isAgg9
 z9:=Tryz.sizeOf9
 v9:=Tryz.zeroValue9
 t46:=Tryz.underlying261
 a46:=Tryz.isAgg261
 z46:=Tryz.sizeOf261
 v46:=Tryz.zeroValue261
 t51:=Tryz.underlying318
 a51:=Tryz.isAgg318
 z51:=Tryz.sizeOf318
 v51:=Tryz.zeroValue318
 t146:=Tryz.underlying319
 a146:=Tryz.isAgg319
 z146:=Tryz.sizeOf319
 v146:=Tryz.zeroValue319
 g1:=by kernel_rfl }
open Go.RowKit Go.Lib in
theorem Tryz.strings_Index_one (s:ByteArray) (c:UInt8) (w:World) :
  Calls Tryz.prog 192 #[.string s,.string ⟨#[c]⟩] w fun e w'=>e = .returned (.int .i64 (Lib.indexByte s.data.toList c))/\w'=w:=Any.strings_Index_one Tryz.lays143 s c w
def Tryz.lays99_ren:Go.Shelf.Ren:=⟨fun | 99=>112 | 206=>158 | n=>n,fun | 9=>9 | 4=>4 | 3=>3 | n=>n,fun | n=>n⟩
theorem Tryz.lays99:Go.Proofs.Lays.n99 Tryz.prog Tryz.lays99_ren:={
 mixed:=by kernel_rfl
 f99:=Tryz.func112.trans (Wv some (by kernel_rfl))
 f206:=Tryz.func158.trans (Wv some (by kernel_rfl))
 t3:=Tryz.underlying3
 a3:=Tryz.isAgg3
 z3:=Tryz.sizeOf3
 v3:=Tryz.zeroValue3
 t4:=Tryz.underlying4
 a4:=Tryz.isAgg4
 z4:=Tryz.sizeOf4
 v4:=Tryz.zeroValue4
 t9:=Tryz.underlying9
 a9:=Tryz.isAgg9
 z9:=Tryz.sizeOf9
 v9:=Tryz.zeroValue9 }
open Go.RowKit Go.Lib in
theorem Tryz.strings_HasPrefix (s p:ByteArray) (w:World) :
  Calls Tryz.prog 112 #[.string s,.string p] w fun e w'=>e = .returned (.bool (Lib.hasPrefix s.data.toList p.data.toList))/\w'=w:=Any.strings_HasPrefix Tryz.lays99 s p w
def Tryz.lays100_ren:Go.Shelf.Ren:=⟨fun | 100=>115 | 207=>160 | n=>n,fun | 9=>9 | 4=>4 | 3=>3 | n=>n,fun | n=>n⟩
theorem Tryz.lays100:Go.Proofs.Lays.n100 Tryz.prog Tryz.lays100_ren:={
 mixed:=by kernel_rfl
 f100:=Tryz.func115.trans (Wv some (by kernel_rfl))
 f207:=Tryz.func160.trans (Wv some (by kernel_rfl))
 t3:=Tryz.underlying3
 a3:=Tryz.isAgg3
 z3:=Tryz.sizeOf3
 v3:=Tryz.zeroValue3
 t4:=Tryz.underlying4
 a4:=Tryz.isAgg4
 z4:=Tryz.sizeOf4
 v4:=Tryz.zeroValue4
 t9:=Tryz.underlying9
 a9:=Tryz.isAgg9
 z9:=Tryz.sizeOf9
 v9:=Tryz.zeroValue9 }
open Go.RowKit Go.Lib in
theorem Tryz.strings_HasSuffix (s p:ByteArray) (w:World) (hs:s.size<=9223372036854775807) :
  Calls Tryz.prog 115 #[.string s,.string p] w fun e w'=>e = .returned (.bool (Lib.hasSuffix s.data.toList p.data.toList))/\w'=w:=Any.strings_HasSuffix Tryz.lays100 s p w hs
def Tryz.lays152_ren:Go.Shelf.Ren:=⟨fun | 152=>234 | 137=>145 | 119=>265 | 224=>262 | 225=>261 | 217=>174 | 266=>222 | n=>n,fun | 9=>9 | 21=>21 | 3=>3 | 4=>4 | 5=>5 | 0=>0 | 46=>261 | n=>n,fun | n=>n⟩
theorem Tryz.lays152:Go.Proofs.Lays.n152 Tryz.prog Tryz.lays152_ren:={
 mixed:=by kernel_rfl
 f119:=Tryz.func265.trans (Wv some (by kernel_rfl))
 f137:=Tryz.func145.trans (Wv some (by kernel_rfl))
 f152:=Tryz.func234.trans (Wv some (by kernel_rfl))
 f217:=Tryz.func174.trans (Wv some (by kernel_rfl))
 f224:=Tryz.func262.trans (Wv some (by kernel_rfl))
 f225:=Tryz.func261.trans (Wv some (by kernel_rfl))
 f266:=Tryz.func222.trans (Wv some (by kernel_rfl))
 t0:=Tryz.underlying0
 a0:=Tryz.isAgg0
 z0:=Tryz.sizeOf0
 v0:=Tryz.zeroValue0
 t3:=Tryz.underlying3
 a3:=Tryz.isAgg3
 z3:=Tryz.sizeOf3
 v3:=Tryz.zeroValue3
 t4:=Tryz.underlying4
 a4:=Tryz.isAgg4
 z4:=Tryz.sizeOf4
 v4:=Tryz.zeroValue4
 t5:=Tryz.underlying5
 a5:=Tryz.isAgg5
 z5:=Tryz.sizeOf5
 v5:=Tryz.zeroValue5
 t9:=Tryz.underlying9
 a9:=Tryz.isAgg9
 z9:=Tryz.sizeOf9
 v9:=Tryz.zeroValue9
 t21:=Tryz.underlying21
 a21:=Tryz.isAgg21
 z21:=Tryz.sizeOf21
 v21:=Tryz.zeroValue21
 t46:=Tryz.underlying261
 a46:=Tryz.isAgg261
 z46:=Tryz.sizeOf261
 v46:=Tryz.zeroValue261 }
open Go.RowKit Go.Lib in
theorem Tryz.strings_IndexRune_ascii (s:ByteArray) (r:Int) (w:World) (h0:0<=r) (h1:r<128) :
  Calls Tryz.prog 234 #[.string s,.int .i32 r] w fun e w'=>e = .returned (.int .i64 (Lib.indexByte s.data.toList r.toNat.toUInt8))/\w'=w:=Any.strings_IndexRune_ascii Tryz.lays152 s r w h0 h1
def Tryz.lays226_ren:Go.Shelf.Ren:=⟨fun | 226=>235 | n=>n,fun | 3=>3 | 4=>4 | n=>n,fun | n=>n⟩
theorem Tryz.lays226:Go.Proofs.Lays.n226 Tryz.prog Tryz.lays226_ren:={
 mixed:=by kernel_rfl
 f226:=Tryz.func235.trans (Wv some (by kernel_rfl))
 t3:=Tryz.underlying3
 a3:=Tryz.isAgg3
 z3:=Tryz.sizeOf3
 v3:=Tryz.zeroValue3
 t4:=Tryz.underlying4
 a4:=Tryz.isAgg4
 z4:=Tryz.sizeOf4
 v4:=Tryz.zeroValue4 }
open Go.RowKit Go.Lib in
theorem Tryz.strings_shouldUseASCIISet (n:Int) (w:World) :
  Calls Tryz.prog 235 #[.int .i64 n] w fun e w'=>e = .returned (.bool (decide (8<n)))/\w'=w:=Any.strings_shouldUseASCIISet Tryz.lays226 n w
def Tryz.lays153_ren:Go.Shelf.Ren:=⟨fun | 153=>202 | 152=>234 | 226=>235 | 227=>194 | 228=>229 | 137=>145 | 119=>265 | 224=>262 | 225=>261 | 217=>174 | 266=>222 | n=>n,fun | 9=>9 | 3=>3 | 4=>4 | 5=>5 | 21=>21 | 117=>255 | 116=>254 | 0=>0 | 46=>261 | 124=>258 | n=>n,fun | n=>n⟩
theorem Tryz.lays153:Go.Proofs.Lays.n153 Tryz.prog Tryz.lays153_ren:={
 mixed:=by kernel_rfl
 f119:=Tryz.func265.trans (Wv some (by kernel_rfl))
 f137:=Tryz.func145.trans (Wv some (by kernel_rfl))
 f152:=Tryz.func234.trans (Wv some (by kernel_rfl))
 f153:=Tryz.func202.trans (Wv some (by kernel_rfl))
 f217:=Tryz.func174.trans (Wv some (by kernel_rfl))
 f224:=Tryz.func262.trans (Wv some (by kernel_rfl))
 f225:=Tryz.func261.trans (Wv some (by kernel_rfl))
 f226:=Tryz.func235.trans (Wv some (by kernel_rfl))
 f227:=Tryz.func194.trans (Wv some (by kernel_rfl))
 f228:=Tryz.func229.trans (Wv some (by kernel_rfl))
 f266:=Tryz.func222.trans (Wv some (by kernel_rfl))
 t0:=Tryz.underlying0
 a0:=Tryz.isAgg0
 z0:=Tryz.sizeOf0
 v0:=Tryz.zeroValue0
 t3:=Tryz.underlying3
 a3:=Tryz.isAgg3
 z3:=Tryz.sizeOf3
 v3:=Tryz.zeroValue3
 t4:=Tryz.underlying4
 a4:=Tryz.isAgg4
 z4:=Tryz.sizeOf4
 v4:=Tryz.zeroValue4
 t5:=Tryz.underlying5
 a5:=Tryz.isAgg5
 z5:=Tryz.sizeOf5
 v5:=Tryz.zeroValue5
 t9:=Tryz.underlying9
 a9:=Tryz.isAgg9
 z9:=Tryz.sizeOf9
 v9:=Tryz.zeroValue9
 t21:=Tryz.underlying21
 a21:=Tryz.isAgg21
 z21:=Tryz.sizeOf21
 v21:=Tryz.zeroValue21
 t46:=Tryz.underlying261
 a46:=Tryz.isAgg261
 z46:=Tryz.sizeOf261
 v46:=Tryz.zeroValue261
 t116:=Tryz.underlying254
 a116:=Tryz.isAgg254
 z116:=Tryz.sizeOf254
 t117:=Tryz.underlying255
 a117:=Tryz.isAgg255
 z117:=Tryz.sizeOf255
 v117:=Tryz.zeroValue255
 t124:=Tryz.underlying258
 a124:=Tryz.isAgg258
 z124:=Tryz.sizeOf258
 v124:=Tryz.zeroValue258 }
open Go.RowKit Go.Lib in
theorem Tryz.strings_IndexAny_long (hv116:∀ w,(zeroValue 254).run Tryz.prog w = .ok (.agg (Array.replicate 256 (.bool false))) w) (s chars:ByteArray) (w:World) (h2:2<=chars.size) (h8:8<s.size) (hs:s.size<4294967281) (hcs:chars.size<4294967281) (hascii:∀ (j:Nat) b,chars.data.toList[j]?=some b->b.toNat<128) :
  Calls Tryz.prog 202 #[.string s,.string chars] w fun e w'=>e = .returned (.int .i64 (Lib.indexAny s.data.toList chars.data.toList))/\w'=((w.alloc (.cells (Lib.setCells chars.data.toList) 254)).alloc (.cells (Lib.setCells chars.data.toList) 254)):=Any.strings_IndexAny_long Tryz.lays153 hv116 (by kernel_rfl) s chars w h2 h8 hs hcs hascii
end Go.Proofs
end
namespace Go.Proofs.YtnpdbhbmakdklaaGreatDoor.Vcg
variable {f:FuncId} {args r cs vs ds vs1 fargs:List C} {n off b q i k u b1 j cap e s1 size by' p:Nat} {l:Lz} {a:Int} {ps:List (Nat×C)} {KS:St->Prop} {L:Lay} {H:List k8} {rest:List Oper} {dst:Option Tmp} {op:BinOp} {ty t2:TypeId} {pos:String} {af:Array Edge} {g:Option (Nat×Bool)} {fr:Fr} {us:List Operand} {kd:LK} {z1 z2:Option (List Value)} {fn:Fn} {lo hi mx:Option Int} {k2:IntKind} {v:Value} {fp fo:Nat->Option Nat} {place:Nat->Option (Nat×Nat)} {xs:List zl} {ks1:MK} {fbx:List (List C)} {post:C->List (List C)->Nat->Prop} {code:Code} {W:World}
section
open CA CB
open Go.RowKit
section
variable {G:zq}
theorem qr (f:FsV) (n:Int) (hl:f.xs.length<=100000) (hR:z6 f.xs):Fun Tryz.prog G 100 [.agg (fsC f),.sc (.int .i64 n)] (.tup [.agg (Yw (zf n f.xs)),.sc (.bool (zk n f.xs))]) 0:=by
 refine fon Tryz.func100 ?_;dsimp only[Tryz.f100];push_cast;refine cl (zfV f n hl hR) ?_;push_cast;cases hh:zk n f.xs with
 | false =>
  have hg:zf n f.xs=zaG:=by unfold zf;rw[GM hh];rfl
  push_cast [hh];exact dn (by push_cast [ze,zd,CLe,zh,hg,zaG])
 | true =>
  obtain ⟨hlt,hg⟩:=GU hR hh;have hg:zf n f.xs=f.xs[jC n f.xs]:=by unfold zf;rw[hg];rfl
  have hat:=ju f.xs _ hlt;push_cast [hh,hat]
  (try simp only[lS]);repeat refine an ?_
  exact dn (by push_cast [ze,zd,CLe,zh,hg])
theorem zX:∀ r∈zt xs,r.length=6:=fun r hr=>by
 obtain ⟨x,_,rfl⟩:=WQ.1 hr;rfl
theorem zu:jA (zt xs):=fun r hr=>by
 obtain ⟨x,_,rfl⟩:=WQ.1 hr;rfl
theorem Xg (f:FsV) (x:zl) (hl:f.xs.length<=90000) (hR:z6 f.xs) :
  Fun Tryz.prog G 271 [.agg (fsC f),.agg (Yw x)] (.agg [.sc (.int .i64 f.maxI),.sc (.int .i64 f.maxB),.sc (.int .i64 f.next),.own 0 64 6 (zt (qo x f.xs))]) 1:=by
 have hll:(zt f.xs).length=f.xs.length:=We ..;refine foF (fun _=>[]) Tryz.func271 ?_;dsimp only[Tryz.f271];push_cast;refine cl (zfV f x.ino (by omega) hR) ?_;push_cast;refine jU [] [] (QO (zt f.xs) zX zu (by omega)) rfl (by decide) (by decide) (by simp) (by push_cast) (by push_cast) (fun r bx' m hp=>?_);obtain ⟨rfl,⟨hne,c,h1,h2,rfl,rfl⟩ | ⟨he,⟨rfl,rfl⟩ | ⟨rfl,rfl⟩⟩⟩:=hp
 ·have hbl:=JY zX h1;have hre:∀ fp fo,C.reL fp fo (qz 6 (zt f.xs) c)=qz 6 (zt f.xs) c:=fun fp fo=>zC (zE zu);have hpos:=WI.2 hne;cases hh:zk x.ino f.xs with
  | true =>
   obtain ⟨hlt,_⟩:=GU hR hh;have hst:=za3 (c:=c) (rows:=zt f.xs) (row:=Yw x) (i:=jC x.ino f.xs) zX rfl (by omega);have hset:zt (qo x f.xs)=(zt f.xs).set (jC x.ino f.xs) (Yw x):=by rw[←yJ hR hh];simp[List.map_set]
   push_cast [hh,hre,hst];refine ⟨by omega,by omega,by rw[hbl];omega,[(4,64,6,(zt f.xs).set (jC x.ino f.xs) (Yw x),c)],[.inl 0],?_,rfl,rfl,by push_cast [ze,zd,CLe,zh,hset,Bp]⟩;rw[←hset];refine zA (by rw[hset];rfl) (by omega) (by rw[hset,Bp];exact h1) h2 zX zu
  | false =>
   have hset:zt (qo x f.xs)=(zt f.xs).take (jC x.ino f.xs)++Yw x :: (zt f.xs).drop (jC x.ino f.xs):=by rw[←va hR hh];simp
   have hrl:=zfQ x.ino f.xs;have hsl:(zt (qo x f.xs)).length=(zt f.xs).length+1:=by rw[hset];simp;omega
   push_cast [hh,hre];refine jU [4] [0] (UP (e:=64) (zt f.xs) (Yw x) (jC x.ino f.xs) c zX rfl zu rfl (by omega) (by omega) h1 h2) rfl (by decide) (by decide) (by simp) (by push_cast) (by push_cast [hre]) (fun r bx' m hp=>?_);rw[←hset]at hp;have hre2:∀ fp fo c,C.reL fp fo (qz 6 (zt (qo x f.xs)) c)=qz 6 (zt (qo x f.xs)) c:=fun fp fo c=>zC (zE zu);obtain ⟨rfl,c',g1,g2,⟨rfl,rfl⟩ | ⟨rfl,rfl⟩⟩:=hp
   ·push_cast [hre2,hre];exact ⟨[(4,64,6,zt (qo x f.xs),c')],[.inl 1],zA rfl (by omega) g1 g2 zX zu,rfl,rfl,by push_cast [ze,zd,CLe,zh]⟩
   ·have hra:∀ fp fo,C.reL fp fo (List.replicate (c*6) .any)=List.replicate (c*6) .any:=fun fp fo=>zC (by simp[OG,C.stayB]);push_cast [hre2,hre,hra];exact ⟨[(5,64,6,zt (qo x f.xs),c')],[.inl 1],zA rfl (by omega) g1 g2 zX zu,rfl,rfl,by push_cast [ze,zd,CLe,zh]⟩
 ·have he:f.xs = []:=by simpa using he
  have hh:zk x.ino f.xs=false:=by rw[he];rfl
  have hr0:jC x.ino f.xs=0:=by rw[he];rfl
  have hset:qo x f.xs = [x]:=by rw[he];rfl
  push_cast [hh,hr0];refine jU [] [0] (zaK (e:=64) (Yw x) rfl rfl) rfl (by decide) (by decide) (by simp) (by push_cast) (by push_cast) (fun r bx' m hp=>?_);obtain ⟨rfl,c,g1,g2,rfl,rfl⟩:=hp;have hre:∀ fp fo,C.reL fp fo (qz 6 [Yw x] c)=qz 6 [Yw x] c:=fun fp fo=>zC (zE (zu (xs:=[x])));push_cast [hre];exact ⟨[(3,64,6,zt [x],c)],[.inl 1],zA rfl (by omega) g1 g2 zX zu,rfl,rfl,by push_cast [ze,zd,CLe,zh,hset]⟩
 ·have he:f.xs = []:=by simpa using he
  have hh:zk x.ino f.xs=false:=by rw[he];rfl
  have hr0:jC x.ino f.xs=0:=by rw[he];rfl
  have hset:qo x f.xs = [x]:=by rw[he];rfl
  push_cast [hh,hr0];refine jU [3] [0] (UP (e:=64) [] (Yw x) 0 0 (fun r hr=>by cases hr) rfl (fun r hr=>by cases hr) rfl (by simp) (by simp) (by simp) (by simp)) rfl (by decide) (by decide) (by simp) (by push_cast) (by push_cast [qz]) (fun r bx' m hp=>?_);obtain ⟨rfl,c,g1,g2,hp⟩:=hp;have hre:∀ fp fo,C.reL fp fo (qz 6 [Yw x] c)=qz 6 [Yw x] c:=fun fp fo=>zC (zE (zu (xs:=[x])));rcases hp with ⟨rfl,rfl⟩ | ⟨rfl,rfl⟩
  ·push_cast [hre];exact ⟨[(3,64,6,zt [x],c)],[.inl 1],zA rfl (WH (AR _) g1) g1 g2 zX zu,rfl,rfl,by push_cast [ze,zd,CLe,zh,hset]⟩
  ·push_cast [hre];exact ⟨[(4,64,6,zt [x],c)],[.inl 1],zA rfl (WH (AR _) g1) g1 g2 zX zu,rfl,rfl,by push_cast [ze,zd,CLe,zh,hset]⟩
theorem ziG (f:FsV) (n:Int) (hl:f.xs.length<=90000) (hR:z6 f.xs) (h0:f.xs≠[]) :
  Fun Tryz.prog G 275 [.agg (fsC f),.sc (.int .i64 n)] (.agg [.sc (.int .i64 f.maxI),.sc (.int .i64 f.maxB),.sc (.int .i64 f.next),.own 0 64 6 (zt (qh n f.xs))]) 1:=by
 have hll:(zt f.xs).length=f.xs.length:=We ..;refine foF (fun _=>[]) Tryz.func275 ?_;dsimp only[Tryz.f275];push_cast;refine cl (zfV f n (by omega) hR) ?_;push_cast;refine jU [] [] (QO (zt f.xs) zX zu (by omega)) rfl (by decide) (by decide) (by simp) (by push_cast) (by push_cast) (fun r bx' m hp=>?_);obtain ⟨rfl,⟨hne,c,h1,h2,rfl,rfl⟩ | ⟨he,_⟩⟩:=hp
 ·have hre:∀ fp fo,C.reL fp fo (qz 6 (zt f.xs) c)=qz 6 (zt f.xs) c:=fun fp fo=>zC (zE zu);have hpos:=WI.2 hne;cases hh:zk n f.xs with
  | true =>
   obtain ⟨hlt,_⟩:=GU hR hh;have hset:zt (qh n f.xs)=(zt f.xs).take (jC n f.xs)++(zt f.xs).drop (jC n f.xs+1):=by rw[←uS hR hh];simp
   have hsl:(zt (qh n f.xs)).length=(zt f.xs).length-1:=by rw[hset];simp;omega
   have hd:=zk1 (G:=G) (zt f.xs) (jC n f.xs) c zX zu (by omega) (by omega) h1 h2;rw[←hset,←hsl]at hd;have hre2:∀ fp fo,C.reL fp fo (qz 6 (zt (qh n f.xs)) c)=qz 6 (zt (qh n f.xs)) c:=fun fp fo=>zC (zE zu);push_cast [hh,hre]
   (try simp only[lS]);repeat refine an ?_
   rw[hll]at hd;refine Yz [3] [] hd rfl (by decide) (by decide) (by simp) (by push_cast) (by push_cast [hre]) ?_;push_cast [hre,hre2];exact ⟨[(3,64,6,zt (qh n f.xs),c)],[.inl 0],zA rfl (by omega) (by omega) h2 zX zu,rfl,rfl,by push_cast [ze,zd,CLe,zh]⟩
  | false =>
   push_cast [hh,hre];exact ⟨[(3,64,6,zt f.xs,c)],[.inl 0],zA rfl (by omega) h1 h2 zX zu,rfl,rfl,by push_cast [ze,zd,CLe,zh,QM hh]⟩
 ·exact absurd (by simpa using he) h0
theorem zii (f:FsV) (hl:f.xs.length<=90000) (h0:f.xs≠[]) (h1:-4611686018427387904<=f.next) (h2:f.next<=4611686018427387904) :
  Fun Tryz.prog G 269 [.agg (fsC f)] (.tup [.agg [.sc (.int .i64 f.maxI),.sc (.int .i64 f.maxB),.sc (.int .i64 (f.next+1)),.own 0 64 6 (zt f.xs)],.sc (.int .i64 f.next)]) 1:=by
 have hll:(zt f.xs).length=f.xs.length:=We ..;refine foF (fun _=>[]) Tryz.func269 ?_;dsimp only[Tryz.f269];push_cast
 (try simp only[lS]);repeat refine an ?_
 refine jU [] [] (QO (zt f.xs) zX zu (by omega)) rfl (by decide) (by decide) (by simp) (by push_cast) (by push_cast) (fun r bx' m hp=>?_);obtain ⟨rfl,⟨hne,c,h1,h2,rfl,rfl⟩ | ⟨he,_⟩⟩:=hp
 ·have hre:∀ fp fo,C.reL fp fo (qz 6 (zt f.xs) c)=qz 6 (zt f.xs) c:=fun fp fo=>zC (zE zu);have hpos:=WI.2 hne;push_cast [hre];exact ⟨[(3,64,6,zt f.xs,c)],[.inl 0],zA rfl (by omega) h1 h2 zX zu,rfl,rfl,by push_cast [ze,zd,CLe,zh]⟩
 ·exact absurd (by simpa using he) h0
theorem ziv {R:Env} {L:Loc} {id:Nat} (h:Rep R L (.own id e 6 [[.sc (.int .i64 1),.sc (.int .i64 2),.sc (.int .i64 0),.str [],.sc (.int .i64 1),.sc (.slice none 0 0)]]) v):Rep R L (.own id e 6 (zt [⟨1,2,0,[],1,[]⟩])) v:=
 zbv (by simp[RLe,zh,CLe]) h
end
end
section
open CA CB
open Go.RowKit
section
variable {G:zq}
theorem zcR (hi:i<xs.length) (h0:0<i):z6 (xs.take (i+1))↔z6 (xs.take i)/\xs[i-1].ino<xs[i].ino:=by
 rw[WZ,Wa hi];unfold z6;rw[A0];simp only[Option.toList_some,Bv,true_and,WT,forall_eq];constructor
 ·rintro ⟨h1,h2⟩;exact ⟨h1,h2 _ (Az.2 ⟨i-1,by omega,rfl⟩)⟩
 ·rintro ⟨h1,h2⟩;refine ⟨h1,fun a ha=>?_⟩;obtain ⟨j,hj,rfl⟩:=Az.1 ha;rcases Wp j (i-1) with q | q
  ·have:=(WO.1 h1) j (i-1) (by simp;omega) (by simp;omega) q;simp at this;omega
  ·have:j=i-1:=by omega
   subst this;exact h2
instance (xs:List zl):Decidable (z6 xs):=by unfold z6;infer_instance
theorem UW (f:FsV) (hl:f.xs.length<=100000):Fun Tryz.prog G 108 [.agg (fsC f)] (.sc (.bool (decide (z6 f.xs)))) 0:=by
 have hll:(zt f.xs).length=f.xs.length:=We ..;refine fon Tryz.func108 ?_;dsimp only[Tryz.f108];push_cast;refine loop (fun i:Nat=>⟨[(1,.ptr 0 0),(3,.sc (.int .i64 i))],[fsC f],0,0⟩) (fun i=>1<=i/\z6 (f.xs.take i)) (fun i=>f.xs.length-i) 1 ⟨Wb _,by
  cases f.xs with
  | nil=>exact List.Pairwise.nil
  | cons x r=>exact Bv _ _⟩ ?_ ?_
 ·exact wk
 ·rintro i ⟨h1,h2⟩;by_cases h:i<f.xs.length
  ·have g1:=ju f.xs i h;have g2:=ju f.xs (i-1) (by omega);have e1:(i:Int)-1=((i-1:Nat):Int):=by omega
   push_cast [hll,h,e1,g1,g2];by_cases hc:f.xs[i].ino<=f.xs[i-1].ino
   ·push_cast [hc]
    repeat refine an ?_
    have hn:¬z6 f.xs:=fun hR=>by
     have:=(WO.1 hR) (i-1) i (by omega) h (by omega);omega
    exact dn (by push_cast [ze,zd,CLe,zh,hn])
   ·push_cast [hc]
    repeat refine an ?_
    exact ⟨i+1,⟨by omega,(zcR h (by omega)).2 ⟨h2,by omega⟩⟩,by omega,wk⟩
  ·push_cast [hll,h];rw[Wg (by omega)]at h2;exact dn (by push_cast [ze,zd,CLe,zh,h2])
def M9 (x:zl):Prop:=x.data.length<=5000/\x.es.length<=40/\∀ e∈x.es,e.name.length<=300
instance (x:zl):Decidable (M9 x):=by unfold M9;infer_instance
def HS (xs:List zl):Prop:=xs.length<=40/\∀ x∈xs,M9 x
instance (xs:List zl):Decidable (HS xs):=by unfold HS;infer_instance
structure FsS (f:FsV):Prop where
 len:f.xs.length<=10000
 node:∀ x∈f.xs,x.es.length<=10000/\x.data.length<=10000/\∀ e∈x.es,e.name.length<=10000
theorem HS.fs {f:FsV} (h:HS f.xs):FsS f:=⟨by have:=h.1;omega,fun x hx=>by
 obtain ⟨h1,h2,h3⟩:=h.2 x hx;exact ⟨by omega,by omega,fun e he=>by have:=h3 e he;omega⟩⟩
theorem za0 (f:FsV):Fun Tryz.prog G 105 [.agg (fsC f)] (.sc (.bool (decide (HS f.xs)))) 0:=by
 have hll:(zt f.xs).length=f.xs.length:=We ..;refine fon Tryz.func105 ?_;dsimp only[Tryz.f105];push_cast;refine loop (fun i:Nat=>⟨[(1,.ptr 0 0),(3,.sc (.int .i64 i))],[fsC f],0,0⟩) (fun i=>i<=100/\∀ t (h:t<f.xs.length),t<i->M9 f.xs[t]) (fun i=>100-i) 0 ⟨Wd _,fun t h h'=>absurd h' (Oe _)⟩ ?_ ?_
 ·exact wk
 ·rintro i ⟨h1,h2⟩;have hend:¬(i<f.xs.length/\i<100)->decide ((f.xs.length:Int)<=40)=decide (HS f.xs):=fun h=>by
   rw[A5];constructor
   ·intro hle;refine ⟨by omega,fun x hx=>?_⟩;obtain ⟨t,ht,rfl⟩:=Wx hx;exact h2 t ht (by omega)
   ·intro h;have:=h.1;omega
  by_cases h:i<f.xs.length
  ·by_cases h100:i<100
   ·have g1:=ju f.xs i h;have h100':(i:Int)<100:=by omega
    have hbad:¬M9 f.xs[i]->¬HS f.xs:=fun hs hf=>hs (hf.2 _ (Wz h));by_cases hd:5000<(f.xs[i].data.length:Int)
    ·have hn:=hbad fun hs=>by have:=hs.1;omega
     push_cast [hll,h,h100',g1,hd]
     repeat refine an ?_
     exact dn (by push_cast [ze,zd,CLe,zh,hn])
    ·by_cases he:40<(f.xs[i].es.length:Int)
     ·have hn:=hbad fun hs=>by have:=hs.2.1;omega
      push_cast [hll,h,h100',g1,hd,We,he]
      repeat refine an ?_
      exact dn (by push_cast [ze,zd,CLe,zh,hn])
     ·push_cast [hll,h,h100',g1,hd,We,he]
      repeat refine an ?_
      refine loop (fun j:Nat=>⟨[(1,.ptr 0 0),(3,.sc (.int .i64 i)),(4,.ptr 1 0),(5,.sc (.int .i64 j))],[fsC f,Yw f.xs[i]],0,0⟩) (fun j=>j<=f.xs[i].es.length/\∀ t (h':t<f.xs[i].es.length),t<j->f.xs[i].es[t].name.length<=300) (fun j=>f.xs[i].es.length-j) 0 ⟨Wd _,fun t h h'=>absurd h' (Oe _)⟩ ?_ ?_
      ·exact wk
      ·rintro j ⟨h3,h4⟩;by_cases hj:j<f.xs[i].es.length
       ·have g2:=Yg f.xs[i].es j hj;by_cases hs:300<(f.xs[i].es[j].name.length:Int)
        ·have hn:=hbad fun hs'=>by have:=hs'.2.2 _ (Wz hj);omega
         push_cast [We,hj,g2,hs]
         repeat refine an ?_
         exact dn (by push_cast [ze,zd,CLe,zh,hn])
        ·push_cast [We,hj,g2,hs]
         repeat refine an ?_
         refine ⟨j+1,⟨hj,fun t ht hlt=>?_⟩,by omega,wk⟩;rcases Wp t j with q | q
         ·exact h4 t ht q
         ·have:t=j:=by omega
          subst this;omega
       ·push_cast [We,hj]
        repeat refine an ?_
        refine ⟨i+1,⟨by omega,fun t ht hlt=>?_⟩,by omega,wk⟩;rcases Wp t i with q | q
        ·exact h2 t ht q
        ·have:t=i:=by omega
         subst this;refine ⟨by omega,by omega,fun e hee=>?_⟩;obtain ⟨u,hu,rfl⟩:=Wx hee;exact h4 u hu (by omega)
   ·have h100':((i:Int)<100)=False:=WG (by omega);have:=hend (by omega);push_cast [hll,h,h100'];exact dn (by push_cast [ze,zd,CLe,zh,this])
  ·have:=hend (by omega);push_cast [hll,h];exact dn (by push_cast [ze,zd,CLe,zh,this])
theorem zgf (f:FsV) (n:Int) (hl:f.xs.length<=90000) :
  Fun Tryz.prog G 104 [.agg (fsC f),.sc (.int .i64 n)] (.agg [.sc (.int .i64 f.maxI),.sc (.int .i64 f.maxB),.sc (.int .i64 f.next),.own 0 64 6 (zt (qh n f.xs))]) 1:=by
 have hll:(zt f.xs).length=f.xs.length:=We ..;refine fon Tryz.func104 ?_;dsimp only[Tryz.f104];push_cast;refine loop (fun i:Nat=>⟨[(1,.sc (.int .i64 n)),(2,.ptr 0 0),(4,.ptr 1 0),(5,.own 0 64 6 (zt (qh n (f.xs.take i)))),(6,.sc (.int .i64 i))],[fsC f,[.sc (.int .i64 0),.sc (.int .i64 0),.sc (.int .i64 0),.sc (.slice none 0 0)]],1,0⟩) (fun i=>i<=f.xs.length) (fun i=>f.xs.length-i) 0 (Wd _) ?_ ?_
 ·exact wks [.inr (64,6)] (by push_cast [ze,zd,CLe,zh,qh,List.filter_nil])
 ·intro i h1;by_cases h:i<f.xs.length
  ·have g1:=ju f.xs i h;have ht:qh n (f.xs.take (i+1))=qh n (f.xs.take i)++qh n [f.xs[i]]:=by
    unfold qh;rw[WZ,Wa h,O3];rfl
   have hle:(qh n (f.xs.take i)).length<=i:=WN Zz (by simp;omega);by_cases hc:f.xs[i].ino=n
   ·have ht:qh n (f.xs.take (i+1))=qh n (f.xs.take i):=by rw[ht,Jl hc];simp[qh]
    push_cast [hll,h,g1,hc]
    repeat refine an ?_
    exact ⟨i+1,h,by omega,wks [.inl 0] (by push_cast [ze,zd,CLe,zh,ht])⟩
   ·have ht:qh n (f.xs.take (i+1))=qh n (f.xs.take i)++[f.xs[i]]:=by rw[ht,J6 hc];simp[qh]
    push_cast [hll,h,g1,hc]
    repeat refine an ?_
    exact ⟨i+1,h,by omega,wks [.inl 0] (by push_cast [ze,zd,CLe,zh,ht,W5])⟩
  ·rw[Wg (by omega)];push_cast [hll,h];exact ⟨[.inl 0],rfl,rfl,by push_cast [ze,zd,CLe,zh]⟩
theorem GO (f:FsV) (x:zl) (hl:f.xs.length<=90000) :
  Fun Tryz.prog G 58 [.agg (fsC f),.agg (Yw x)] (.agg [.sc (.int .i64 f.maxI),.sc (.int .i64 f.maxB),.sc (.int .i64 f.next),.own 0 64 6 (zt (qo x f.xs))]) 1:=by
 have hdl:(qh x.ino f.xs).length<=90000:=WN Zz hl;have hl2:(zt (qh x.ino f.xs)).length=(qh x.ino f.xs).length:=We ..;refine fon Tryz.func58 ?_;dsimp only[Tryz.f58];push_cast;refine cl (zgf f x.ino hl) ?_;push_cast;unfold qo;generalize qh x.ino f.xs=rest at hdl hl2;refine loop (fun p:Nat×List zl×Bool=>⟨[(2,.ptr 0 0),(3,.ptr 1 0),(4,.ptr 2 0),(5,.sl 6 (zt rest)),(6,.own 0 64 6 (zt p.2.1)),(7,.sc (.bool p.2.2)),(8,.sc (.int .i64 p.1))],[fsC f,Yw x,[.sc (.int .i64 0),.sc (.int .i64 0),.sc (.int .i64 0),.sc (.slice none 0 0)]],1,0⟩)
  (fun p=>p.1<=rest.length/\p.2.1.length<=p.1+p.2.2.toNat/\Vb x rest=p.2.1++(if p.2.2 then rest.drop p.1 else Vb x (rest.drop p.1))) (fun p=>rest.length-p.1) (0,[],false) ⟨Wd _,Wd _,by simp⟩ ?_ ?_
 ·exact wks [.inr (64,6)]
 ·rintro ⟨i,out,d⟩ ⟨h1,h2,h3⟩;dsimp only at h1 h2 h3 ⊢;have hlo:(zt out).length=out.length:=We ..;by_cases h:i<rest.length
  ·have g1:=ju rest i h;rw[Ok h]at h3;cases d with
   | true =>
    simp only[Bool.toNat_true]at h2;push_cast [hl2,h,g1]
    repeat refine an ?_
    exact ⟨(i+1,out++[rest[i]],true),⟨h,by simp;omega,by rw[h3];simp⟩,by dsimp only;omega,wks [.inl 0] (by push_cast [ze,zd,CLe,zh,W5])⟩
   | false =>
    simp only[Oa,Ol,Vb]at h3;simp only[Bool.toNat_false]at h2;by_cases hc:x.ino<rest[i].ino
    ·rw[if_pos hc]at h3;push_cast [hl2,h,g1,hc]
     repeat refine an ?_
     exact ⟨(i+1,out++[x]++[rest[i]],true),⟨h,by simp;omega,by rw[h3];simp⟩,by dsimp only;omega,wks [.inl 0] (by push_cast [ze,zd,CLe,zh,W5])⟩
    ·rw[if_neg hc]at h3;push_cast [hl2,h,g1,hc]
     repeat refine an ?_
     exact ⟨(i+1,out++[rest[i]],false),⟨h,by simp;omega,by rw[h3];simp⟩,by dsimp only;omega,wks [.inl 0] (by push_cast [ze,zd,CLe,zh,W5])⟩
  ·rw[OI (by omega)]at h3;cases d with
   | true =>
    simp only[Bool.toNat_true]at h2;have h3:Vb x rest=out:=by rw[h3];simp
    push_cast [hl2,h];exact ⟨[.inl 0],rfl,rfl,by push_cast [ze,zd,CLe,zh,h3]⟩
   | false =>
    simp only[Bool.toNat_false]at h2;have h3:Vb x rest=out++[x]:=by rw[h3];simp[Vb]
    push_cast [hl2,h]
    repeat refine an ?_
    exact ⟨[.inl 0],rfl,rfl,by push_cast [ze,zd,CLe,zh,h3,W5]⟩
theorem zhV (i b:Int):Fun Tryz.prog G 57 [.sc (.int .i64 i),.sc (.int .i64 b)] (.agg [.sc (.int .i64 i),.sc (.int .i64 b),.sc (.int .i64 2),.own 0 64 6 (zt [⟨1,2,0,[],1,[]⟩])]) 1:=by
 refine Fun.resX (r:=.agg [.sc (.int .i64 i),.sc (.int .i64 b),.sc (.int .i64 2),.own 0 64 6 [[.sc (.int .i64 1),.sc (.int .i64 2),.sc (.int .i64 0),.str [],.sc (.int .i64 1),.sc (.slice none 0 0)]]]) ?_ fun R L v h =>
  zbr (fun vs=>Y6 (fun v h=>h) (fun vs=>Y6 (fun v h=>h) fun vs=>Y6 (fun v h=>h) fun vs=>Y6 (fun v=>ziv) fun vs h=>h)) h
 refine fon Tryz.func57 ?_;dsimp only[Tryz.f57];push_cast;exact ⟨[.inl 0],rfl,rfl,by push_cast [ze,zd,CLe,zh]⟩
end
end
section
open Go.RowKit
section
variable {G:zq}
theorem zjz {n:Int} (h:i<xs.length):zk n (xs.take (i+1))=(zk n (xs.take i)||(xs[i].ino==n)):=by
 unfold zk;rw[WZ,Wa h,BF];simp
theorem zjY {n:Int} (h:i<xs.length) (h0:zk n (xs.take i)=false) (he:xs[i].ino=n):zk n xs=true/\zf n xs=xs[i]:=by
 refine ⟨Or.2 ⟨xs[i],Wz h,by simp[he]⟩,?_⟩;unfold zf XE;rw[A4 (b:=xs[i]) |>.2 ⟨by simp[he],i,h,rfl,fun j hj=>?_⟩]
 ·rfl
 ·unfold zk at h0;rw[Oh]at h0;have:=h0 xs[j] (Az.2 ⟨j,by omega,rfl⟩);simpa using this
theorem Jt (f:FsV) (n:Int) (hl:f.xs.length<=100000):Fun Tryz.prog G 30 [.agg (fsC f),.sc (.int .i64 n)] (.tup [.agg (Yw (zf n f.xs)),.sc (.bool (zk n f.xs))]) 0:=by
 have hll:(zt f.xs).length=f.xs.length:=We ..;refine fon Tryz.func30 ?_;dsimp only[Tryz.f30];push_cast;refine loop (fun i:Nat=>⟨[(1,.sc (.int .i64 n)),(2,.ptr 0 0),(4,.ptr 1 0),(6,.sc (.int .i64 i))],[fsC f,[.sc (.int .i64 0),.sc (.int .i64 0),.sc (.int .i64 0),.str [],.sc (.int .i64 0),.sc (.slice none 0 0)]],0,0⟩) (fun i=>i<=f.xs.length/\zk n (f.xs.take i)=false) (fun i=>f.xs.length-i) 0 ⟨Wd _,rfl⟩ ?_ ?_
 ·exact wk
 ·rintro i ⟨h1,h2⟩;by_cases h:i<f.xs.length
  ·have g1:=ju f.xs i h;by_cases he:f.xs[i].ino=n
   ·obtain ⟨q1,q2⟩:=zjY h h2 he;push_cast [hll,h,g1,he]
    repeat refine an ?_
    exact dn (by push_cast [ze,zd,CLe,zh,q1,q2,he])
   ·have q:=zjz (n:=n) h;rw[h2,show (f.xs[i].ino==n)=false from OU.2 he]at q;push_cast [hll,h,g1,he]
    repeat refine an ?_
    exact ⟨i+1,⟨h,q⟩,by omega,wk⟩
  ·rw[Wg (by omega)]at h2;have hg:zf n f.xs=zaG:=by unfold zf;rw[GM h2];rfl
   push_cast [hll,h];exact dn (by push_cast [ze,zd,CLe,zh,hg,h2,zaG])
def z8 (xs:List zl):Nat:=((xs.filter fun x=>decide (x.kind=1)).map fun x=>x.data.length).sum
theorem Hu:∀ {xs:List zl} {n:Nat},(∀ x∈xs,x.data.length<=n)->z8 xs<=xs.length*n
 | [],n,_=>by simp[z8]
 | x :: r,n,h=>by
  have ih:=Hu (xs:=r) (n:=n) fun y hy=>h y (Wk _ hy);have hx:=h x Wj;unfold z8 at ih ⊢;rw[O6];split
  ·simp only[WC,OO,Wr];rw[AM];omega
  ·rw[Wr,AM];omega
theorem FsS.bytes {f:FsV} (h:FsS f):z8 f.xs<=100000000:=by
 have h1:=Hu (xs:=f.xs) (n:=10000) fun x hx=>(h.node x hx).2.1;have h2:=h.len;have:f.xs.length*10000<=10000*10000:=WM _ h2;omega
theorem H6 (h:i<xs.length):z8 (xs.take (i+1))=z8 (xs.take i)+if xs[i].kind=1 then xs[i].data.length else 0:=by
 unfold z8;rw[WZ,Wa h,O3,W5,AW];by_cases hk:xs[i].kind=1<;>simp[hk]
theorem zex (f:FsV) (hf:FsS f):Fun Tryz.prog G 173 [.agg (fsC f)] (.sc (.int .i64 (z8 f.xs:Nat))) 0:=by
 have hll:(zt f.xs).length=f.xs.length:=We ..;have h40:=hf.len;have hb0:z8 []=0:=rfl;refine fon Tryz.func173 ?_;dsimp only[Tryz.f173];push_cast;refine loop (fun i:Nat=>⟨[(1,.ptr 0 0),(3,.sc (.int .i64 (z8 (f.xs.take i):Nat))),(4,.sc (.int .i64 i))],[fsC f],0,0⟩) (fun i=>i<=f.xs.length/\z8 (f.xs.take i)<=i*10000) (fun i=>f.xs.length-i) 0 ⟨Wd _,Wd _⟩ ?_ ?_
 ·exact wk (by push_cast [ze,zd,CLe,zh,hb0,Ow])
 ·rintro i ⟨h1,h2⟩;by_cases h:i<f.xs.length
  ·have g1:=ju f.xs i h;have hd:=(hf.node _ (Wz h)).2.1;have q:=H6 h;by_cases hk:f.xs[i].kind=1
   ·rw[if_pos hk]at q;have q':((z8 (f.xs.take (i+1)):Nat):Int)=(z8 (f.xs.take i):Int)+(f.xs[i].data.length:Int):=by omega
    push_cast [hll,h,g1,hk]
    repeat refine an ?_
    exact ⟨i+1,⟨h,by omega⟩,by omega,wk (by push_cast [ze,zd,CLe,zh,q'])⟩
   ·rw[if_neg hk]at q;have q':z8 (f.xs.take (i+1))=z8 (f.xs.take i):=by omega
    push_cast [hll,h,g1,hk]
    repeat refine an ?_
    exact ⟨i+1,⟨h,by omega⟩,by omega,wk (by push_cast [ze,zd,CLe,zh,q'])⟩
  ·rw[Wg (by omega)];push_cast [hll,h];exact dn
end
end
section
open Go.RowKit
abbrev G0:zq:=fun _=>none
abbrev zoH (l:Lz):List C:=[.str l]
def Vu (s:List Lz×Lz) (b:UInt8):List Lz×Lz:=
 if b=47 then (if s.2 = [] then s.1 else s.1++[s.2],[]) else (s.1,s.2++[b])
def zlD (s:List Lz×Lz):List Lz:=if s.2 = [] then s.1 else s.1++[s.2]
def nst (l:Lz) (k:Nat):List Lz×Lz:=if k<=l.length then (l.take k).foldl Vu ([],[]) else (zlD (l.foldl Vu ([],[])),[])
def zn (l:Lz):List Lz:=zlD (l.foldl Vu ([],[]))
theorem zaz (l:Lz):nst l 0=([],[]):=by simp[nst]
theorem u9 (l:Lz) (k:Nat) (b:UInt8) (h:l[k]?=some b):nst l (k+1)=Vu (nst l k) b:=by
 have hk:k<l.length:=(Wc.1 h).1;unfold nst;rw[if_pos (by omega),if_pos (by omega),WZ,h];simp
theorem zgT (l:Lz):nst l (l.length+1)=(zn l,[]):=by
 unfold nst zn;rw[if_neg (by omega)]
theorem zfM (l:Lz):zlD (nst l l.length)=zn l:=by
 unfold nst zn;rw[if_pos (Wb _),Oi]
theorem NW (l:Lz):∀ k,k<=l.length->(nst l k).1.length+(nst l k).2.length<=k
 | 0,_=>by simp[zaz]
 | k+1,h=>by
  have hk:k<l.length:=by omega
  have ih:=NW l k (by omega);rw[u9 l k l[k] (Wa hk)];unfold Vu;by_cases h47:l[k]=47
  ·rw[if_pos h47];by_cases h2:(nst l k).2 = []
   ·simp[h2];omega
   ·have:0<(nst l k).2.length:=WI.2 h2;simp[h2];omega
  ·rw[if_neg h47];simp;omega
theorem qW (l:Lz):(zn l).length<=l.length:=by
 rw[←zfM];have:=NW l l.length (Wb _);unfold zlD;split
 ·omega
 ·rename_i h;have:0<(nst l l.length).2.length:=WI.2 h;simp;omega
theorem zen {b c:UInt8} (h:b≠c):¬((b.toNat:Int)=(c.toNat:Int)):=fun e=>h (A9.1 (by omega))
theorem zfR {α:Type} (l:List α) (k:Nat) (b:α) (h:l[k]?=some b):(l.take (k+1)).drop k = [b]:=by
 have hk:k<l.length:=(Wc.1 h).1;rw[WZ,h,List.drop_append];simp[OD (by omega:k<=l.length)]
theorem Hy (l:Lz) (h:l.length<=2000000):Fun Tryz.prog G0 52 [.str l] (.own 0 9 1 ((zn l).map zoH)) 1:=by
 refine fon Tryz.func52 ?_;dsimp only[Tryz.f52];push_cast;refine loop (fun k:Nat=>⟨[(0,.str l),(3,.own 0 9 1 ((nst l k).1.map zoH)),(4,.str (nst l k).2),(5,.sc (.int .i64 k))],[],1,0⟩) (fun k=>k<=l.length+1) (fun k=>l.length+1-k) 0 (Wd _) ?_ ?_
 ·refine Yc.mk [.inr (9,1)] rfl rfl (Wb _) rfl ?_ trivial;push_cast [ze,zd,CLe,zh];simp[zaz]
 ·intro k hk;push_cast;by_cases h1:k<=l.length
  ·have hs:=NW l k h1;by_cases h2:k<l.length
   ·obtain ⟨b,hb⟩:∃ b,l[k]?=some b:=⟨l[k],Wa h2⟩;have hn:=u9 l k b hb;by_cases h3:b=47
    ·have h3':(b.toNat:Int)=47:=by subst h3;rfl
     by_cases h4:(nst l k).2 = []
     ·push_cast [h1,h2,h3',hb,h4]
      and_intros<;>try omega
      refine ⟨k+1,by omega,by omega,Yc.mk [.inl 0] rfl rfl (Wb _) rfl ?_ trivial⟩;push_cast [ze,zd,CLe,zh];simp[hn,Vu,h3,h4]
     ·push_cast [h1,h2,h3',hb,h4];simp only[We,Wr,OF]
      and_intros<;>try omega
      refine ⟨k+1,by omega,by omega,Yc.mk [.inl 0] rfl rfl (Wb _) rfl ?_ trivial⟩;push_cast [ze,zd,CLe,zh];simp[hn,Vu,h3,h4,zoH]
    ·have h3':¬((b.toNat:Int)=47):=zen h3;push_cast [h1,h2,h3',hb];rw[zfR l k b hb]
     and_intros<;>try omega
     ·simp;omega
     refine ⟨k+1,by omega,by omega,Yc.mk [.inl 0] rfl rfl (Wb _) rfl ?_ trivial⟩;push_cast [ze,zd,CLe,zh];simp[hn,Vu,h3]
   ·obtain rfl:k=l.length:=by omega
    have hl:=zfM l;have he:=zgT l;have hz:=qW l;by_cases h4:(nst l l.length).2 = []
    ·push_cast [h1,h2,h4]
     and_intros<;>try omega
     refine ⟨l.length+1,by omega,by omega,Yc.mk [.inl 0] rfl rfl (Wb _) rfl ?_ trivial⟩;push_cast [ze,zd,CLe,zh];simp[he,←hl,zlD,h4]
    ·push_cast [h1,h2,h4];simp only[We,Wr,OF]
     and_intros<;>try omega
     refine ⟨l.length+1,by omega,by omega,Yc.mk [.inl 0] rfl rfl (Wb _) rfl ?_ trivial⟩;push_cast [ze,zd,CLe,zh];simp[he,←hl,zlD,h4,zoH]
  ·obtain rfl:k=l.length+1:=by omega
   have he:=zgT l;push_cast [h1];exact ⟨[.inl 0],rfl,rfl,by push_cast [ze,zd,CLe,zh,he]⟩
end
section
open Go.RowKit
abbrev qj (xs:List Lz):List (List C):=xs.map zoH
theorem vy (xs:List Lz):(qj xs).length=xs.length:=We _
theorem zg9 (xs:List Lz) (x:Lz):qj xs++[[.str x]]=qj (xs++[x]):=by simp
theorem strs_get? (xs:List Lz) (k:Nat):(qj xs)[k]?=(xs[k]?).map zoH:=Wy
theorem zeL (xs:List Lz) (k:Nat):(qj xs).drop k=qj (xs.drop k):=List.map_drop.symm
theorem zhI (xs:List Lz) (k:Nat):(qj xs).take k=qj (xs.take k):=List.map_take.symm
theorem vV (xs ys:List Lz):qj xs++qj ys=qj (xs++ys):=W5.symm
theorem VY (xs:List Lz) (k:Nat) (h:k<xs.length):(qj xs)[k]?=some [.str (xs[k]'h)]:=by rw[strs_get?,Wa h];rfl
attribute [push_cast] vy zg9 zeL zhI vV
abbrev jb (b:Bool):C:=.sc (.bool b)
theorem uV (a b:List Lz) (ha:a.length<=9223372036854775807):Fun Tryz.prog G0 16 [.sl 1 (qj a),.sl 1 (qj b)] (jb (decide (a=b))) 0:=by
 by_cases hl:a.length=b.length
 ·refine fon Tryz.func16 ?_;dsimp only[Tryz.f16];push_cast [hl];refine loop (fun k:Nat=>⟨[(0,.sl 1 (qj a)),(1,.sl 1 (qj b)),(5,.sc (.int .i64 k))],[],0,0⟩) (fun k=>k<=a.length/\a.take k=b.take k) (fun k=>a.length-k) 0 ⟨Wd _,rfl⟩ ?_ ?_
  ·exact wk
  ·intro k hk;have hk1:=hk.1;have hk2:=hk.2;by_cases h:k<a.length
   ·have hga:=VY a k h;have hgb:=VY b k (by omega);by_cases he:a[k]'h=b[k]'(by omega)
    ·push_cast [h,hga,hgb,he];refine ⟨by omega,by omega,by omega,k+1,⟨by omega,?_⟩,by omega,wk⟩;rw[WZ,WZ,hk2,Wa h,Wa (by omega:k<b.length),he]
    ·push_cast [h,hga,hgb,he];refine ⟨by omega,by omega,[],rfl,rfl,?_⟩;push_cast [ze,zd,CLe,zh];have:a≠b:=fun e=>he (by subst e;rfl);simp[this]
   ·have hkl:k=a.length:=by omega
    push_cast [h];refine ⟨[],rfl,rfl,?_⟩;push_cast [ze,zd,CLe,zh];rw[hkl,Oi,hl,Oi]at hk2;simp[hk2]
 ·have hl':¬((a.length:Int)=(b.length:Int)):=by omega
  refine fon Tryz.func16 ?_;dsimp only[Tryz.f16];push_cast [hl];refine ⟨[],rfl,rfl,?_⟩;push_cast [ze,zd,CLe,zh];have:a≠b:=fun e=>hl (by rw[e]);simp[this]
def few (l:List Lz):Bool:=(l.take 100).all (fun x=>decide (x.length<=300))&&decide (l.length<=40)
end
section
open Go.RowKit
theorem Fun.wrap {P:Program} {G:zq} {r:C} (he:Xd P f=true)
  (h:∀ (R:Env) (vs:List Value),zx R zU args vs->Calls P f vs.toArray R.w fun e w'=>∃ v,e = .returned v/\Below R.w.heap.size R.w w'/\∀ R',Ext R R'->Rep R' zU r v):Fun P G f args r 0:=by
 refine ⟨he,fun R vs hg ha=>(h R vs ha).mono ?_⟩;rintro e w' ⟨v,rfl,hb,hr⟩;have st:qK 0 0 R zU ⟨w',fun b o=>b<R.w.heap.size/\R.M b o,R.F⟩ zU:=qK.mem (nx:=0) hb;exact ⟨v,_,zU,rfl,rfl,st,hr _ st.ext⟩
def Js:Lz->List Lz
 | []=>[[]]
 | b :: l=>if b=47 then [] :: Js l else match Js l with
  | []=>[[b]]
  | x :: r=>(b :: x) :: r
theorem xj (l:Lz):Js l≠[]:=by
 cases l with
 | nil=>simp[Js]
 | cons b l =>
  unfold Js;split
  ·simp
  ·split<;>simp
theorem NA:∀ l:Lz,Lib.indexByte l 47<0->Js l = [l]
 | [],_=>rfl
 | b :: l,h=>by
  unfold Lib.indexByte at h;by_cases hb:b=47
  ·subst hb;simp at h
  ·have hb':(b==47)=false:=by simpa using hb
   rw[hb']at h;simp only[Oa,Ol]at h;have hl:Lib.indexByte l 47<0:=by
    split at h
    ·rename_i g;have:=Oz.1 g;omega
    ·omega
   unfold Js;rw[if_neg hb,NA l hl]
theorem Ns:∀ l:Lz,-1<=Lib.indexByte l 47
 | []=>O7 _
 | b :: l=>by
  have:=Ns l;unfold Lib.indexByte;split
  ·decide
  ·split
   ·decide
   ·omega
theorem zaF:∀ (l:Lz) (i:Nat),Lib.indexByte l 47=(i:Int)->i<l.length/\Js l=l.take i :: Js (l.drop (i+1))
 | [],i,h=>by
  have h:(-1:Int)=(i:Int):=h;omega
 | b :: l,i,h=>by
  unfold Lib.indexByte at h;by_cases hb:b=47
  ·subst hb;simp at h;obtain rfl:i=0:=by omega
   refine ⟨by simp,?_⟩
   conv=>lhs;unfold Js
   simp
  ·have hb':(b==47)=false:=by simpa using hb
   rw[hb']at h;simp only[Oa,Ol]at h;split at h
   ·omega
   ·rename_i g;have g':Lib.indexByte l 47≠-1:=by simpa using g
    have hg:=Ns l;obtain ⟨j,rfl⟩:∃ j,i=j+1:=⟨i-1,by omega⟩;have hj:Lib.indexByte l 47=(j:Int):=by omega
    obtain ⟨h1,h2⟩:=zaF l j hj;refine ⟨by simp;omega,?_⟩
    conv=>lhs;unfold Js
    rw[if_neg hb,h2];simp
theorem Hb:∀ (l:Lz) (a:List Lz) (cur:Lz),zlD (l.foldl Vu (a,cur))=a++(match Js l with | []=>[] | x :: r=>(cur++x) :: r).filter (fun x=>!decide (x = []))
 | [],a,cur=>by
  simp only[BP,zlD,Js];by_cases h:cur = []<;>simp[h]
 | b :: l,a,cur=>by
  simp only[Bn];by_cases hb:b=47
  ·subst hb;have hn:Vu (a,cur) 47=(if cur = [] then a else a++[cur],[]):=by simp[Vu]
   rw[hn,Hb l]
   conv=>rhs;unfold Js
   simp only[if_true];have hne:=xj l;cases hs:Js l with
   | nil=>exact absurd hs hne
   | cons x r=>by_cases h:cur = []<;>simp[h]
  ·have hn:Vu (a,cur) b=(a,cur++[b]):=by simp[Vu,hb]
   rw[hn,Hb l]
   conv=>rhs;unfold Js
   rw[if_neg hb];have hne:=xj l;cases hs:Js l with
   | nil=>exact absurd hs hne
   | cons x r=>simp
theorem YJ (l:Lz):zn l=(Js l).filter (fun x=>!decide (x = [])):=by
 unfold zn;rw[Hb];cases hs:Js l with
 | nil=>rfl
 | cons x r=>simp
theorem ze7 (l:Lz):Fun Tryz.prog G0 192 [.str l,.str [47]] (.sc (.int .i64 (Lib.indexByte l 47))) 0:=by
 refine Fun.wrap (by kernel_rfl) fun R vs h=>?_;obtain ⟨v1,us1,rfl,h1,h⟩:=zg.1 h;obtain ⟨v2,us2,rfl,h2,h⟩:=zg.1 h;rw[zm]at h;subst h;rw[qc]at h1 h2;subst h1 h2;refine (Tryz.strings_Index_one ⟨l.toArray⟩ 47 R.w).mono ?_;rintro e w' ⟨rfl,rfl⟩;exact ⟨_,rfl,Ob _ _,fun R' _=>zp.2 (by simp)⟩
theorem HY (s:Lz) (hs:s.length<=1000000):yu Tryz.prog G0 190 [] [.ptr 1 0,.ptr 0 0,.ptr 2 0] [[.str s],[.str [47]],[.sc (.int .i64 0)]] (qj (Js s)):=by
 refine foI (fun _=>[]) Tryz.func190 ?_;dsimp only[Tryz.f190];intro l sf;push_cast;refine loop (fun x:Lz×Nat=>⟨[(0,.sc (.func (.yield l) #[] #[])),(1,.ptr 1 0),(2,.ptr 0 0),(3,.ptr 2 0)],[[.str x.1],[.str [47]],[.sc (.int .i64 0)]],0,x.2⟩)
  (fun x=>x.1.length<=1000000/\(∃ done,Js s=done++Js x.1/\done.length=x.2)/\∀ j,j<x.2->sf j=false) (fun x=>x.1.length) (s,0) ⟨hs,⟨[],rfl,rfl⟩,fun j hj=>by omega⟩ ?_ ?_
 ·refine Yc.mk [] rfl rfl (Wd _) rfl ?_ ?_<;>push_cast [ze,zd,CLe,zh]<;>omega
 ·rintro ⟨r,k⟩ hx;simp only at hx ⊢;have hr:=hx.1;have hsf:=hx.2.2;obtain ⟨done,hd,hdl⟩:=hx.2.1;clear hx;push_cast;refine call (ze7 r) ?_;push_cast;by_cases hi:Lib.indexByte r 47<0
  ·push_cast [hi];have hk:(qj (Js s))[k]?=some [.str r]:=by
    rw[hd,NA r hi];simp[←hdl]
   rw[hk];push_cast;refine ⟨by push_cast [ze,zd,CLe,zh],hsf,?_⟩;cases hk2:sf k with
   | true=>exact .inr ⟨AZ k,hk2⟩
   | false =>
    refine .inl ⟨?_,fun j (hj:j<k+1)=>?_⟩
    ·rw[hd,NA r hi];simp[hdl]
    ·rcases Wp j k with g | g
     ·exact hsf j g
     ·rw[show j=k by omega];exact hk2
  ·have hg:=Ns r;obtain ⟨i,hii⟩:∃ i:Nat,Lib.indexByte r 47=(i:Int):=⟨(Lib.indexByte r 47).toNat,by omega⟩;obtain ⟨hir,hsp⟩:=zaF r i hii;have hk:(qj (Js s))[k]?=some [.str (r.take i)]:=by
    rw[hd,hsp];simp[←hdl]
   rw[hii]at hi ⊢;push_cast [hi];rw[hk];push_cast;refine ⟨by omega,by omega,by push_cast [ze,zd,CLe,zh],hsf,br (fun hk2=>?_) (fun hk2=>?_)⟩
   ·push_cast;exact .inr ⟨AZ k,hk2⟩
   ·push_cast;refine ⟨by omega,by omega,(r.drop (i+1),k+1),⟨by simp;omega,⟨done++[r.take i],by rw[hd,hsp];simp,by simp[hdl]⟩,fun j (hj:j<k+1)=>?_⟩,by simp;omega,Yc.mk [] rfl rfl (Wd _) rfl ?_ ?_⟩
    ·rcases Wp j k with g | g
     ·exact hsf j g
     ·rw[show j=k by omega];exact hk2
    ·push_cast [ze,zd,CLe,zh]
    ·push_cast [ze,zd,CLe,zh]
theorem N9 (s:Lz):Zb Tryz.prog G0 161 [.str s,.str [47],.sc (.int .i64 0)] [] 0 (.clo (.func 190) [] [.ptr 1 0,.ptr 0 0,.ptr 2 0]) [[.str s],[.str [47]],[.sc (.int .i64 0)]] 0:=by
 refine foB (fun _=>[]) Tryz.func161 ?_;dsimp only[Tryz.f161];push_cast;exact ⟨[],rfl,rfl,by push_cast [ze,zd,CLe,zh],by push_cast [ze,zd,CLe,zh]⟩
theorem yh (s:Lz):Zb Tryz.prog G0 119 [.str s,.str [47]] [] 0 (.clo (.func 190) [] [.ptr 1 0,.ptr 0 0,.ptr 2 0]) [[.str s],[.str [47]],[.sc (.int .i64 0)]] 0:=by
 refine foB (fun _=>[]) Tryz.func119 ?_;dsimp only[Tryz.f119];push_cast;refine Yz [] [] (N9 s) rfl (by simp) (by simp) (fun i hi=>by cases hi) (by push_cast) rfl ?_;push_cast;exact ⟨[],rfl,rfl,by push_cast [ze,zd,CLe,zh],by push_cast [ze,zd,CLe,zh]⟩
end
section
open Go.RowKit
abbrev Gn (x:Lz):Bool:=!decide (x = [])
def cnt (xs:List Lz) (k:Nat):Nat:=((xs.take k).filter Gn).length
theorem uU (xs:List Lz) (k:Nat) (x:Lz) (h:xs[k]?=some x):cnt xs (k+1)=if x = [] then cnt xs k else cnt xs k+1:=by
 unfold cnt;rw[WZ,h];by_cases hx:x = []<;>simp[hx]
theorem znh (xs:List Lz) (k:Nat) (x:Lz) (h:xs[k]?=some x) (hx:x≠[]):(xs.filter Gn)[cnt xs k]?=some x:=by
 have hk:k<xs.length:=(Wc.1 h).1;have e:xs=xs.take k++x :: xs.drop (k+1):=by
  have:=W1 k xs;rw[Ok hk]at this;rw[Wa hk]at h;cases h;exact this.symm
 have e2:xs.filter Gn=(xs.take k).filter Gn++x :: (xs.drop (k+1)).filter Gn:=by
  conv=>lhs;rw[e]
  rw[O3,O6];simp[hx]
 rw[e2];unfold cnt;simp
theorem znk (xs:List Lz):cnt xs xs.length=(xs.filter Gn).length:=by unfold cnt;rw[Oi]
theorem VW {xs:List Lz} {sf:Nat->Bool}:∀ k,k<=xs.length->(∀ j,j<k->(Gn (xs.getD j [])&&sf (cnt xs j))=false)->∀ j,j<cnt xs k->sf j=false
 | 0,_,_,j,hj=>by simp[cnt]at hj
 | k+1,hk,h,j,hj=>by
  have ih:=VW k (by omega) fun i hi=>h i (by omega);have hx:xs[k]?=some (xs.getD k []):=by rw[W4,Wa (by omega)];rfl
  rw[uU xs k _ hx]at hj;by_cases he:xs.getD k [] = []
  ·rw[if_pos he]at hj;exact ih j hj
  ·rw[if_neg he]at hj;rcases Wp j (cnt xs k) with g | g
   ·exact ih j g
   ·have h2:=h k (by omega);have h3:Gn (xs.getD k [])=true:=by simp only[Gn,OY,Of];exact he
    rw[h3,Oj]at h2;rw[show j=cnt xs k by omega];exact h2
theorem QL {xs:List Lz} {it:List C} (h:(qj xs)[k]?=some it):∃ x,xs[k]?=some x/\it = [.str x]:=by
 rw[Wy]at h;cases hq:xs[k]? with
 | none=>rw[hq]at h;cases h
 | some x=>rw[hq]at h;cases h;exact ⟨x,rfl,rfl⟩
theorem XQ (p:Lz) (hs:p.length<=1000000):yu Tryz.prog G0 159 [] [.row [.str p]] [] (qj (zn p)):=by
 rw[YJ];refine foI (fun _=>[]) Tryz.func159 ?_;dsimp only[Tryz.f159];intro l sf;push_cast;refine Yz [] [] (yh p) rfl (by simp) (by simp) (fun i hi=>by cases hi) (by push_cast) rfl ?_;push_cast;refine range (qj (Js p)) (fun k=>Gn ((Js p).getD k [])&&sf (cnt (Js p) k)) 1 (fun k=>⟨[],[[.sc (.func (.yield l) #[] #[])]],0,cnt (Js p) k⟩) (HY p hs) (by push_cast) (by push_cast) (by push_cast) (Wd _) (by push_cast) (fun it hit=>?_) (fun k _=>rfl) ?_ (fun k it hk hsf=>?_) (fun hsf=>?_)
 ·obtain ⟨x,_,rfl⟩:=WQ.1 hit;rfl
 ·exact wk
 ·obtain ⟨x,hx,rfl⟩:=QL hk;have hxd:(Js p).getD k []=x:=by rw[W4,hx];rfl
  have hkl:k<(Js p).length:=(Wc.1 hx).1;have hcs:=uU (Js p) k x hx;have hbef:=VW (xs:=Js p) (sf:=sf) k (by omega) hsf;by_cases he:x = []
  ·push_cast [he];refine ⟨?_,Yc.mk [] rfl rfl (Wb _) ?_ (by push_cast [ze,zd,CLe,zh]) (by push_cast [ze,zd,CLe,zh])⟩
   ·rw[hxd,he];rfl
   ·simp[hcs,he,St.wt]
  ·have hget:=znh (Js p) k x hx he;have hg2:(qj ((Js p).filter Gn))[cnt (Js p) k]?=some [.str x]:=by rw[Wy,hget];rfl
   push_cast [he];rw[hg2];push_cast;refine ⟨by push_cast [ze,zd,CLe,zh],hbef,br (fun h2=>?_) (fun h2=>?_)⟩
   ·push_cast;refine ⟨by rw[hxd,h2];simp[Gn,he],⟨[],[[.sc (.func (.yield l) #[] #[])]],0,cnt (Js p) k+1⟩,rfl,wk,?_⟩;push_cast;exact .inr ⟨AZ _,h2⟩
   ·push_cast;refine ⟨by rw[h2,O4],Yc.mk [] rfl rfl (Wb _) ?_ (by push_cast [ze,zd,CLe,zh]) (by push_cast [ze,zd,CLe,zh])⟩;simp[hcs,he,St.wt]
 ·have hall:=znk (Js p);have hbef:=VW (xs:=Js p) (sf:=sf) (Js p).length (Wb _) fun j hj=>hsf j (by simpa using hj);push_cast;refine .inl ⟨?_,?_⟩
  ·simp[hall]
  ·simpa using hbef
end
section
open Go.RowKit
theorem YA (p:Lz):Fun Tryz.prog G0 113 [.str p] (.clo (.func 159) [] [.row [.str p]]) 0:=by
 refine fon Tryz.func113 ?_;dsimp only[Tryz.f113];push_cast;exact dn
theorem Ny (xs:List Lz) (f:FuncId) (cap:List C) (hsel:C.selL (XB 1) cap=cap) (hit:yu Tryz.prog G0 f [] cap [] (qj xs)) (hx:xs.length<=1000001):Fun Tryz.prog G0 201 [.sc (.slice none 0 0),.clo (.func f) [] cap] (.own 0 9 1 (qj xs)) 1:=by
 refine fon Tryz.func201 ?_;dsimp only[Tryz.f201];push_cast;refine range (qj xs) (fun _=>false) 1 (fun k=>⟨[],[[.own 0 9 1 (qj (xs.take k))]],1,0⟩) hit (by push_cast) hsel (by push_cast) (Wd _) (by push_cast) (fun it h=>?_) (fun k _=>rfl) ?_ (fun k it hk hsf=>?_) (fun hsf=>?_)
 ·obtain ⟨x,_,rfl⟩:=WQ.1 h;rfl
 ·exact wks [.inr (9,1)]
 ·obtain ⟨x,hx2,rfl⟩:=QL hk;have hkl:k<xs.length:=(Wc.1 hx2).1;push_cast;simp only[W2];refine ⟨by omega,by omega,Yc.mk [.inl 0] rfl rfl (Wb _) rfl (by push_cast [ze,zd,CLe,zh]) ?_⟩;push_cast [ze,zd,CLe,zh];rw[WZ,hx2]
  rfl
 ·push_cast;refine ⟨[.inl 0],rfl,rfl,?_⟩;push_cast [ze,zd,CLe,zh];simp
theorem vS (xs:List Lz) (f:FuncId) (cap:List C) (hsel:C.selL (XB 1) cap=cap) (hfrz:C.frzL cap=cap) (hit:yu Tryz.prog G0 f [] cap [] (qj xs)) (hx:xs.length<=1000001):Fun Tryz.prog G0 168 [.clo (.func f) [] cap] (.own 0 9 1 (qj xs)) 1:=by
 refine fon Tryz.func168 ?_;dsimp only[Tryz.f168];push_cast [hfrz];refine call (Ny xs f cap hsel hit hx) ?_;push_cast;exact ⟨[.inl 0],rfl,rfl,by push_cast [ze,zd,CLe,zh]⟩
theorem Qu (p:Lz) (hp:p.length<=1000000):Fun Tryz.prog G0 168 [.clo (.func 159) [] [.row [.str p]]] (.own 0 9 1 (qj (zn p))) 1:=
 vS (zn p) _ _ (by push_cast) (by push_cast) (XQ p hp) (by have:=qW p;omega)
theorem XK (s p:Lz):Fun Tryz.prog G0 112 [.str s,.str p] (.sc (.bool (Lib.hasPrefix s p))) 0:=by
 refine Fun.wrap (by kernel_rfl) fun R vs h=>?_;obtain ⟨v1,us1,rfl,h1,h⟩:=zg.1 h;obtain ⟨v2,us2,rfl,h2,h⟩:=zg.1 h;rw[zm]at h;subst h;rw[qc]at h1 h2;subst h1 h2;refine (Tryz.strings_HasPrefix ⟨s.toArray⟩ ⟨p.toArray⟩ R.w).mono ?_;rintro e w' ⟨rfl,rfl⟩;exact ⟨_,rfl,Ob _ _,fun R' _=>zp.2 (by simp)⟩
theorem Vd (s p:Lz) (hs:s.length<=1000000):Fun Tryz.prog G0 115 [.str s,.str p] (.sc (.bool (Lib.hasSuffix s p))) 0:=by
 refine Fun.wrap (by kernel_rfl) fun R vs h=>?_;obtain ⟨v1,us1,rfl,h1,h⟩:=zg.1 h;obtain ⟨v2,us2,rfl,h2,h⟩:=zg.1 h;rw[zm]at h;subst h;rw[qc]at h1 h2;subst h1 h2;refine (Tryz.strings_HasSuffix ⟨s.toArray⟩ ⟨p.toArray⟩ R.w (by simp[ByteArray.size];omega)).mono ?_;rintro e w' ⟨rfl,rfl⟩;exact ⟨_,rfl,Ob _ _,fun R' _=>zp.2 (by simp)⟩
theorem Na (xs:List Lz) (sep:Lz) (hx:xs.length<=1000001) (hl:(Lib.join xs sep).length<=100000000):Fun Tryz.prog G0 122 [.sl 1 (qj xs),.str sep] (.str (Lib.join xs sep)) 0:=by
 refine Fun.wrap (by kernel_rfl) fun R vs h=>?_;obtain ⟨v1,us1,rfl,h1,h⟩:=zg.1 h;obtain ⟨v2,us2,rfl,h2,h⟩:=zg.1 h;rw[zm]at h;subst h;rw[qc]at h2;subst h2;obtain ⟨a,cap,rfl,hc1,hc2,hr⟩:=Gd.1 h1;have hlen:(qj xs).length=xs.length:=by simp
 have hmap:(xs.map fun x=>ByteArray.mk x.toArray).map (·.data.toList)=xs:=by
  rw[List.map_map]
  conv=>rhs;rw[←List.map_id xs]
  exact AJ fun x _=>by simp
 rcases hr with hr | ⟨b,o,rfl,hr⟩
 ·have:xs = []:=by simpa using hr
  subst this;refine (Tryz.strings_Join_none a cap ⟨sep.toArray⟩ R.w).mono ?_;rintro e w' ⟨rfl,rfl⟩;exact ⟨_,rfl,Ob _ _,fun R' _=>qc.2 (by simp[Lib.join])⟩
 ·by_cases hx0:xs = []
  ·subst hx0;refine (Tryz.strings_Join_none _ cap ⟨sep.toArray⟩ R.w).mono ?_;rintro e w' ⟨rfl,rfl⟩;exact ⟨_,rfl,Ob _ _,fun R' _=>qc.2 (by simp[Lib.join])⟩
  ·have hcells:∀ (j:Nat) x,(xs.map fun x=>ByteArray.mk x.toArray)[j]?=some x->R.w.cell? ⟨b,o+j,none⟩=some (.string x):=fun j x hj=>by
    rw[Wy]at hj;cases hq:xs[j]? with
    | none=>rw[hq]at hj;cases hj
    | some y =>
     rw[hq]at hj;cases hj;obtain ⟨_,g⟩:=jE hr j [.str y] (by rw[Wy,hq];rfl);obtain ⟨⟨v,g1,_,g2,_⟩,_⟩:=qq.1 g;rw[qc]at g2;subst g2;simpa using g1
   have hb:b<R.w.heap.size:=by
    cases xs with
    | nil=>exact absurd rfl hx0
    | cons x r =>
     exact vu (hcells 0 ⟨x.toArray⟩ rfl)
   have hj:=Tryz.strings_Join b o cap (xs.map fun x=>ByteArray.mk x.toArray) ⟨sep.toArray⟩ R.w hcells hb (by simp;omega) (by simpa using hc1) (by rw[hmap];simp;omega);rw[hmap]at hj;simp only[We]at hj;rw[hlen];refine hj.mono ?_;rintro e w' ⟨rfl,hbl⟩;exact ⟨_,rfl,hbl,fun R' _=>qc.2 (by simp)⟩
end
section
open Go.RowKit
def zjv (p:Lz):C:=.agg [jb (Lib.hasPrefix p [47]),.own 0 9 1 (qj (zn p)),jb (!decide (zn p = [])&&Lib.hasSuffix p [47])]
theorem UR (p:Lz) (hp:p.length<=1000000):Fun Tryz.prog G0 125 [.str p] (zjv p) 1:=by
 refine fon Tryz.func125 ?_;dsimp only[Tryz.f125];push_cast;refine call (YA p) ?_;push_cast;refine call (Qu p hp) ?_;push_cast;refine call (XK p [47]) ?_;push_cast;by_cases h:zn p = []
 ·push_cast [h];exact ⟨[.inl 0],rfl,rfl,by simp only[zjv];push_cast [ze,zd,CLe,zh,h];simp⟩
 ·have h':0<(zn p).length:=WI.2 h;push_cast [h'];refine call (Vd p [47] hp) ?_;push_cast;exact ⟨[.inl 0],rfl,rfl,by simp only[zjv];push_cast [ze,zd,CLe,zh,h]⟩
def put (a:Bool) (xs:List Lz) (s:Bool):Lz:=(if a then [47] else [])++Lib.join xs [47]++(if s&&!decide (xs = []) then [47] else [])
def zH (xs:List Lz):Lz:=if xs = [] then [47] else 47 :: Lib.join xs [47]
theorem Qw (xs:List Lz) (hx:xs.length<=1000001) (hl:(Lib.join xs [47]).length<=100000000):Fun Tryz.prog G0 127 [.sl 1 (qj xs)] (.str (zH xs)) 0:=by
 refine fon Tryz.func127 ?_;dsimp only[Tryz.f127];push_cast;by_cases h:xs = []
 ·push_cast [h];exact ⟨[],rfl,rfl,by simp only[zH,h];push_cast [ze,zd,CLe,zh]⟩
 ·have h':¬((xs.length:Int)=0):=by have:=WI.2 h;omega
  push_cast [h'];refine call ((Na xs [47] hx hl)) ?_;push_cast;exact ⟨by omega,[],rfl,rfl,by simp only[zH,if_neg h];push_cast [ze,zd,CLe,zh]⟩
def VZ (p:Lz):Bool:=(zn p).any (fun x=>decide (255<x.length))||decide (4095<p.length)
theorem zaN (p:Lz) (hp:p.length<=1000000):Fun Tryz.prog G0 175 [.str p] (jb (VZ p)) 0:=by
 refine fon Tryz.func175 ?_;dsimp only[Tryz.f175];push_cast;refine call (YA p) ?_;push_cast;refine range (qj (zn p)) (fun k=>decide (255<((zn p).getD k []).length)) 1 (fun k=>⟨[],[[.sc (.bool false)]],0,0⟩) (XQ p hp) (by push_cast) (by push_cast) (by push_cast) (Wd _) (by push_cast) (fun it h=>?_) (fun k _=>rfl) ?_ (fun k it hk hsf=>?_) (fun hsf=>?_)
 ·obtain ⟨x,_,rfl⟩:=WQ.1 h;rfl
 ·exact wk
 ·obtain ⟨x,hx,rfl⟩:=QL hk;have hxd:(zn p).getD k []=x:=by rw[W4,hx];rfl
  push_cast;rw[hxd];refine br (fun h=>?_) (fun h=>?_)
  ·have h':255<x.length:=by have:=WP h;omega
   push_cast;refine ⟨by simpa using h',⟨[],[[.sc (.bool true)]],0,0⟩,rfl,wk,?_⟩;push_cast;refine ⟨[],rfl,rfl,?_⟩;push_cast [ze,zd,CLe,zh];have:(zn p).any (fun x=>decide (255<x.length))=true:=Or.2 ⟨x,Wf hx,by simpa using h'⟩;simp[VZ,this]
  ·have h':¬255<x.length:=by have:=OK h;omega
   push_cast;exact ⟨by simpa using h',wk⟩
 ·push_cast;refine ⟨[],rfl,rfl,?_⟩;push_cast [ze,zd,CLe,zh];have:(zn p).any (fun x=>decide (255<x.length))=false:=Oh.2 fun x hx=>by
   obtain ⟨k,hk,rfl⟩:=Wx hx;have:=hsf k (by simpa using hk);rw[W4,Wa hk]at this;simpa using this
  simp[VZ,this];omega
def Vk (p:Lz):Lz:=(zn p).getLastD (if Lib.hasPrefix p [47] then [47] else [])
theorem zan (p:Lz) (hp:p.length<=1000000):Fun Tryz.prog G0 67 [.str p] (.str (Vk p)) 0:=by
 refine fon Tryz.func67 ?_;dsimp only[Tryz.f67];push_cast;refine call (XK p [47]) ?_;push_cast;have go:∀ b0:Lz,b0=(if Lib.hasPrefix p [47] then [47] else [])->Vk p=((zn p).take (zn p).length).getLastD b0:=fun b0 hb=>by rw[Oi,hb];rfl
 have main:∀ b0:Lz,b0=(if Lib.hasPrefix p [47] then [47] else [])->∀ k x,(zn p)[k]?=some x->((zn p).take (k+1)).getLastD b0=x:=fun b0 _ k x hx=>by
  rw[WZ,hx];simp
 cases hpf:Lib.hasPrefix p [47] with
 | true =>
  rw[hpf]at go main;push_cast;refine call (YA p) ?_;push_cast;refine range (qj (zn p)) (fun k=>false) 1 (fun k=>⟨[],[[.str (((zn p).take k).getLastD [47])]],0,0⟩) (XQ p hp) (by push_cast) (by push_cast) (by push_cast) (Wd _) (by push_cast) (fun it h=>?_) (fun k _=>rfl) ?_ (fun k it hk hsf=>?_) (fun hsf=>?_)
  ·obtain ⟨x,_,rfl⟩:=WQ.1 h;rfl
  ·exact Yc.mk [] rfl rfl (Wb _) rfl (by push_cast [ze,zd,CLe,zh]) (by push_cast [ze,zd,CLe,zh];rfl)
  ·obtain ⟨x,hx,rfl⟩:=QL hk;have:=main [47] rfl k x hx;push_cast;exact wk (h5:=by push_cast [ze,zd,CLe,zh,this])
  ·have:=go [47] rfl;push_cast;exact ⟨[],rfl,rfl,by push_cast [ze,zd,CLe,zh];exact this.symm⟩
 | false =>
  rw[hpf]at go main;push_cast;refine call (YA p) ?_;push_cast;refine range (qj (zn p)) (fun k=>false) 1 (fun k=>⟨[],[[.str (((zn p).take k).getLastD [])]],0,0⟩) (XQ p hp) (by push_cast) (by push_cast) (by push_cast) (Wd _) (by push_cast) (fun it h=>?_) (fun k _=>rfl) ?_ (fun k it hk hsf=>?_) (fun hsf=>?_)
  ·obtain ⟨x,_,rfl⟩:=WQ.1 h;rfl
  ·exact Yc.mk [] rfl rfl (Wb _) rfl (by push_cast [ze,zd,CLe,zh]) (by push_cast [ze,zd,CLe,zh];rfl)
  ·obtain ⟨x,hx,rfl⟩:=QL hk;have:=main [] rfl k x hx;push_cast;exact wk (h5:=by push_cast [ze,zd,CLe,zh,this])
  ·have:=go [] rfl;push_cast;exact ⟨[],rfl,rfl,by push_cast [ze,zd,CLe,zh];exact this.symm⟩
def Xy (p q:Lz):Bool:=decide (p=q)||decide (q = [47])||Lib.hasPrefix p (q++[47])
theorem H9 (p q:Lz) (hq:q.length<=1000000):Fun Tryz.prog G0 205 [.str p,.str q] (jb (Xy p q)) 0:=by
 refine fon Tryz.func205 ?_;dsimp only[Tryz.f205];push_cast;by_cases h1:p=q
 ·push_cast [h1];exact ⟨[],rfl,rfl,by push_cast [ze,zd,CLe,zh];simp[Xy]⟩
 ·by_cases h2:q = [47]
  ·subst h2;push_cast [h1];exact ⟨[],rfl,rfl,by push_cast [ze,zd,CLe,zh];simp[Xy]⟩
  ·push_cast [h1,h2];refine ⟨by omega,?_⟩;refine call (XK p (q++[47])) ?_;push_cast;exact ⟨[],rfl,rfl,by push_cast [ze,zd,CLe,zh];simp[Xy,h1,h2]⟩
end
section
open Go.RowKit
theorem ZS (l:Lz) (c:UInt8):Fun Tryz.prog G0 145 [.str l,.sc (.int .u8 (c.toNat:Int))] (.sc (.int .i64 (Lib.indexByte l c))) 0:=by
 refine Fun.wrap (by kernel_rfl) fun R vs h=>?_;obtain ⟨v1,us1,rfl,h1,h⟩:=zg.1 h;obtain ⟨v2,us2,rfl,h2,h⟩:=zg.1 h;rw[zm]at h;subst h;rw[qc]at h1;rw[zp]at h2;subst h1 h2;refine (Tryz.strings_IndexByte ⟨l.toArray⟩ (c.toNat:Int) R.w).mono ?_;rintro e w' ⟨rfl,rfl⟩;exact ⟨_,rfl,Ob _ _,fun R' _=>zp.2 (by simp)⟩
theorem XW (r:Int):Fun Tryz.prog G0 265 [.sc (.int .i32 r)] (.sc (.bool (Lib.validRune r))) 0:=by
 refine Fun.wrap (by kernel_rfl) fun R vs h=>?_;obtain ⟨v1,us1,rfl,h1,h⟩:=zg.1 h;rw[zm]at h;subst h;rw[zp]at h1;subst h1;refine (Tryz.utf8_ValidRune r R.w).mono ?_;rintro e w' ⟨rfl,rfl⟩;exact ⟨_,rfl,Ob _ _,fun R' _=>zp.2 rfl⟩
theorem ziI (r:Int) (hv:Utf8.valid r=true) (h128:128<=r):∃ l c,(Utf8.encode r).data.toList=l++[c]/\1<=l.length/\l.length<=3/\128<=c.toNat:=by
 obtain ⟨h1,h2,h3⟩:=encode_facts r hv h128;generalize Utf8.encode r=bs at h1 h2 h3 ⊢;have hs:bs.data.toList.length=bs.size:=WS;have h4:=h3 (by omega);have h5:bs.data.toList[bs.size-1]?=some (bs[bs.size-1]'(by omega)):=Lib.data_getElem? bs _ (by omega);generalize bs[bs.size-1]'(by omega)=c at h4 h5;generalize bs.data.toList=l at hs h5;refine ⟨l.take (bs.size-1),c,?_,by simp;omega,by simp;omega,h4⟩;have:=W1 (bs.size-1) l;have hd:l.drop (bs.size-1) = [c]:=by
  have hlt:bs.size-1<l.length:=by omega
  rw[Ok hlt];rw[Wa hlt]at h5;cases h5;rw[AL (by omega)]
 rw[hd]at this;exact this.symm
theorem Mz (r:Int) (h1:128<=r) (hv:Utf8.valid r=true) (h2:r≠65533):Fun Tryz.prog G0 234 [.str [47,0],.sc (.int .i32 r)] (.sc (.int .i64 (-1))) 0:=by
 have hlv:Lib.validRune r=true:=by
  have:=validRune_eq r;rw[hv]at this;exact this.symm
 obtain ⟨l,c,he,hl1,hl3,hc⟩:=ziI r hv h1;have ha:0<=r:=by omega
 have hb:¬r<128:=by omega
 have hc0:¬((0:Int)=(c.toNat:Int)):=by omega
 have hix:=ZS [] c
 match l,hl1,hl3 with
 | [x],_,_ =>
  refine fon Tryz.func234 ?_;dsimp only[Tryz.f234];push_cast [ha,hb,h2];refine call (XW r) ?_;push_cast [hlv,he];refine loop (fun k:Nat=>⟨[(0,.str [47,0]),(1,.sc (.int .i32 r)),(7,.str [x,c]),(8,.sc (.int .i64 1)),(9,.sc (.int .i64 1)),(10,.sc (.int .i64 0))],[],0,0⟩) (fun k=>True) (fun k=>0) 0 trivial ?_ ?_
  ·exact wk
  ·intro k _;push_cast [hc0];refine zbx hix ?_;have hi0:Lib.indexByte [] c = -1:=rfl;push_cast [hi0];exact dn
 | [x,y],_,_ =>
  refine fon Tryz.func234 ?_;dsimp only[Tryz.f234];push_cast [ha,hb,h2];refine call (XW r) ?_;push_cast [hlv,he];refine loop (fun k:Nat=>⟨[(0,.str [47,0]),(9,.sc (.int .i64 2))],[],0,0⟩) (fun k=>True) (fun k=>0) 0 trivial ?_ ?_
  ·exact wk
  ·intro k _;push_cast;exact dn
 | [x,y,z],_,_ =>
  refine fon Tryz.func234 ?_;dsimp only[Tryz.f234];push_cast [ha,hb,h2];refine call (XW r) ?_;push_cast [hlv,he];refine loop (fun k:Nat=>⟨[(0,.str [47,0]),(9,.sc (.int .i64 3))],[],0,0⟩) (fun k=>True) (fun k=>0) 0 trivial ?_ ?_
  ·exact wk
  ·intro k _;push_cast;exact dn
theorem GK (w:World):Calls Tryz.prog 234 #[.string ⟨#[47,0]⟩,.int .i32 65533] w fun e w'=>e = .returned (.int .i64 (-1))/\Below w.heap.size w w':=by
 go_enter Tryz.func234,Tryz.ntmps234
 go_wp2
 go_loopg [5,6] 2 (fun g _ _ wx=>∃ i:Nat,i+g=2/\wx=w.iter ⟨#[47,0]⟩ i)
 case atStart=>exact ⟨0,by omega,rfl⟩
 case round =>
  obtain ⟨i,hig,rfl⟩:=hrel;cases gk with
  | zero =>
   obtain rfl:i=2:=by omega
   have hnx:=fun ty=>run_next_end (P:=Tryz.prog) w ⟨#[47,0]⟩ 2 ty (by decide)
   go_wp2
   go_ret
   exact ⟨rfl,(Ob _ _).alloc (Wb _) _⟩
  | succ g =>
   have hi:i<(ByteArray.mk #[47,0]).size:=by show i<2;omega
   have hx128:((ByteArray.mk #[47,0])[i]'hi).toNat<128:=by
    have:i=0∨i=1:=by omega
    rcases this with rfl | rfl
    ·exact (by decide:(47:UInt8).toNat<128)
    ·exact (by decide:(0:UInt8).toNat<128)
   have hnx:=fun ty=>run_next_ascii (P:=Tryz.prog) w ⟨#[47,0]⟩ i ty hi hx128;have hne:((((ByteArray.mk #[47,0])[i]'hi).toNat:Int)==65533)=false:=by
    rw[OU];omega
   go_wp2
   go_roundg g
   case measure=>omega
   case rel=>exact ⟨i+1,by omega,rfl⟩
end
section
open Go.RowKit Go.Shelf
def bad (b:UInt8):Bool:=decide (b=47)||decide (b=0)
theorem Ug (b:UInt8):[47,0].contains b=bad b:=by simp[bad,List.contains_iff_mem,Bool.eq_iff_iff]
theorem yP {P:Program} {s:ByteArray} {pos:Nat} (hb:W.heap[b]?=some (.stringIter s pos)) (h:pos<s.size) (ty:TypeId) :
  (Instr.next (.pointer (some ⟨b,0,none⟩)) true ty).run P W = .ok (.tuple #[.bool true,.int .i64 pos,.int .i32 (Utf8.decode s pos).1]) (W.putObj b (.stringIter s (pos+(Utf8.decode s pos).2))):=by
 simp only[Instr.next,getObj,setObj,Wm,Sem.run,hb,Result.andThen,h,if_true];simp[goInt,Sem.run,hb,World.putObj]
theorem U1 {P:Program} {s:ByteArray} {pos:Nat} (hb:W.heap[b]?=some (.stringIter s pos)) (h:¬pos<s.size) (ty:TypeId) :
  (Instr.next (.pointer (some ⟨b,0,none⟩)) true ty).run P W = .ok (.tuple #[.bool false]) W:=by
 simp[Instr.next,getObj,Sem.run,hb,h]
theorem get!_eq (s:ByteArray) (k:Nat) (hk:k<s.size):s.get! k=s[k]'hk:=by
 simp[ByteArray.get!,BJ,hk];rfl
theorem zif {c:Nat} (h:c<55296∨(57344<=c/\c<=1114111)):Utf8.valid (c:Int)=true:=by
 unfold Utf8.valid;rcases h with h | h
 ·have h1:((c:Int)<55296):=by omega
  simp;omega
 ·simp;omega
theorem vm (s:ByteArray) (i:Nat) (h:i<s.size):(((s[i]'h).toNat<128/\Utf8.decode s i=((s[i]'h).toNat,1))∨(128<=(Utf8.decode s i).1/\Utf8.valid ((Utf8.decode s i).1:Int)=true/\1<=(Utf8.decode s i).2/\i+(Utf8.decode s i).2<=s.size/\∀ j (hj:j<s.size),i<=j->j<i+(Utf8.decode s i).2->128<=(s[j]'hj).toNat)):=by
 by_cases ha:(s[i]'h).toNat<128
 ·exact .inl ⟨ha,decode_ascii s i h ha⟩
 ·refine .inr ?_;have hb0:¬(s.get! (i+0)).toNat<128:=by rw[O8,get!_eq s i h];exact ha
  have hby:∀ n,(∀ k,k<n->128<=(s.get! (i+k)).toNat)->∀ j (hj:j<s.size),i<=j->j<i+n->128<=(s[j]'hj).toNat:=fun n hn j hj h1 h2=>by
   have:=hn (j-i) (by omega);rw[show i+(j-i)=j by omega,get!_eq s j hj]at this;exact this
  have hone:128<=65533/\Utf8.valid ((65533:Nat):Int)=true/\1<=1/\i+1<=s.size/\∀ j (hj:j<s.size),i<=j->j<i+1->128<=(s[j]'hj).toNat:=
   ⟨by omega,by decide,by omega,by omega,hby 1 fun k hk=>by rw[show k=0 by omega];omega⟩
  unfold Utf8.decode;simp only[if_neg hb0,Utf8.runeError];obtain ⟨b0,hg0⟩:∃ b,(s.get! (i+0)).toNat=b:=⟨_,rfl⟩;obtain ⟨b1,hg1⟩:∃ b,(s.get! (i+1)).toNat=b:=⟨_,rfl⟩;obtain ⟨b2,hg2⟩:∃ b,(s.get! (i+2)).toNat=b:=⟨_,rfl⟩;obtain ⟨b3,hg3⟩:∃ b,(s.get! (i+3)).toNat=b:=⟨_,rfl⟩;rw[hg0]at hb0;simp only[hg0,hg1,hg2,hg3];have hlt:b0<256:=by rw[←hg0];exact (s.get! (i+0)).toNat_lt
  split
  ·rename_i hc;simp only[Wo,Oz,WR]at hc;split
   ·rename_i hv;refine ⟨by show 128<=_;omega,zif (.inl (by omega)),by show 1<=2;omega,by show i+2<=_;omega,hby 2 fun k hk=>?_⟩;rcases (show k=0∨k=1 by omega) with rfl | rfl
    ·rw[hg0];omega
    ·rw[hg1];omega
   ·exact hone
  ·split
   ·rename_i hc;simp only[Wo,Oz,WR]at hc;split
    ·rename_i hv;simp only[Wo,WR]at hv;refine ⟨by show 128<=_;omega,hv.2,by show 1<=3;omega,by show i+3<=_;omega,hby 3 fun k hk=>?_⟩;rcases (show k=0∨k=1∨k=2 by omega) with rfl | rfl | rfl
     ·rw[hg0];omega
     ·rw[hg1];omega
     ·rw[hg2];omega
    ·exact hone
   ·split
    ·rename_i hc;simp only[Wo,Oz,WR]at hc;split
     ·rename_i hv;simp only[Wo,WR]at hv;refine ⟨by show 128<=_;omega,hv.2,by show 1<=4;omega,by show i+4<=_;omega,hby 4 fun k hk=>?_⟩;rcases (show k=0∨k=1∨k=2∨k=3 by omega) with rfl | rfl | rfl | rfl
      ·rw[hg0];omega
      ·rw[hg1];omega
      ·rw[hg2];omega
      ·rw[hg3];omega
     ·exact hone
    ·exact hone
theorem Nj (r:Int) (h1:128<=r) (hv:Utf8.valid r=true) (w:World):Calls Tryz.prog 234 #[.string ⟨#[47,0]⟩,.int .i32 r] w fun e w'=>e = .returned (.int .i64 (-1))/\Below w.heap.size w w':=by
 by_cases h2:r=65533
 ·subst h2;exact GK w
 ·refine ((Mz r h1 hv h2).2 ⟨w,fun _ _=>False,fun _=>False⟩ [.string ⟨#[47,0]⟩,.int .i32 r] (fun g cs h=>by cases h) ?_).mono ?_
  ·exact zg.2 ⟨_,_,rfl,qc.2 rfl,zg.2 ⟨_,_,rfl,zp.2 rfl,zm.2 rfl⟩⟩
  ·rintro e w' ⟨v,R',L',rfl,rfl,hst,hr⟩;rw[zp]at hr;exact ⟨by rw[hr],hst.below⟩
theorem zha (w:World) (s:ByteArray):(w.iter s 0).heap[w.heap.size]?=some (.stringIter s 0):=World.iter_heap w s 0
theorem vU {w:World} {s:ByteArray} (hb:Below w.heap.size w W) (hs:W.heap[w.heap.size]?=some (.stringIter s p)) (p':Nat):Below w.heap.size w (W.putObj w.heap.size (.stringIter s p'))/\(W.putObj w.heap.size (.stringIter s p')).heap[w.heap.size]?=some (.stringIter s p'):=
 ⟨⟨hb.os,hb.tape,hb.output,by simpa using hb.size,fun k hk=>(WW (by omega)).trans (hb.block k hk)⟩,A6 (qg hs)⟩
theorem zcr {w W':World} {s:ByteArray} (hb:Below w.heap.size w W) (hs:W.heap[w.heap.size]?=some (.stringIter s p)) (h:Below W.heap.size W W'):Below w.heap.size w W'/\W'.heap[w.heap.size]?=some (.stringIter s p):=
 ⟨hb.trans (h.mono hb.size),(h.block _ (qg hs)).trans hs⟩
theorem HO (s:ByteArray) (w:World) (h8:s.size<=8):Calls Tryz.prog 202 #[.string s,.string ⟨#[47,0]⟩] w fun e w'=>e = .returned (.int .i64 (Lib.indexAny s.data.toList [47,0]))/\Below w.heap.size w w':=by
 have h8z:decide ((8:Int)<(s.size:Int))=false:=Wi (by omega);have hsi:=zha w s;have hbi:Below w.heap.size w (w.iter s 0):=(Ob _ _).alloc (Wb _) _;have HI:Aside ((w.iter s 0).heap[w.heap.size]?=some (.stringIter s 0)/\Below w.heap.size w (w.iter s 0)):=⟨hsi,hbi⟩;clear hsi hbi
 go_enter Tryz.func202,Tryz.ntmps202
 go_wp2_with (go_at_call 235;refine (Tryz.strings_shouldUseASCIISet _ _).mono ?_;rintro e w' ⟨rfl,hw⟩;rw[hw,h8z])
 go_loopg [9,10] s.size (fun g _ _ wx=>∃ i:Nat,i+g=s.size/\wx.heap[w.heap.size]?=some (.stringIter s i)/\Below w.heap.size w wx/\Lib.NoAny s.data.toList [47,0] i)
 case atStart=>exact ⟨0,by omega,HI.out.1,HI.out.2,Lib.NoAny.zero _ _⟩
 case round =>
  obtain ⟨i,hig,hs,hbl,hno⟩:=hrel;have HN:Aside (Lib.NoAny s.data.toList [47,0] i/\wr.heap[w.heap.size]?=some (.stringIter s i)/\Below w.heap.size w wr):=⟨hno,hs,hbl⟩;cases gk with
  | zero =>
   obtain rfl:i=s.size:=by omega
   have hnx:=fun ty=>U1 (P:=Tryz.prog) hs (by omega) ty;clear hno hs hbl
   go_wp2
   go_ret
   exact ⟨by rw[Lib.indexAny_none (by rw[←Lib.size_eq];exact HN.out.1)];rfl,HN.out.2.2⟩
  | succ g =>
   have hi:i<s.size:=by omega
   have hnx:=fun ty=>yP (P:=Tryz.prog) hs hi ty;have hpi:=vU hbl hs (i+(Utf8.decode s i).2);have HP:Aside (Below w.heap.size w (wr.putObj w.heap.size (.stringIter s (i+(Utf8.decode s i).2)))/\(wr.putObj w.heap.size (.stringIter s (i+(Utf8.decode s i).2))).heap[w.heap.size]?=some (.stringIter s (i+(Utf8.decode s i).2))):=hpi;clear hno hs hbl hpi;obtain ⟨x,hx⟩:∃ x:UInt8,s[i]'hi=x:=⟨_,rfl⟩;have hxl:s.data.toList[i]?=some x:=by rw[←hx];exact Lib.data_getElem? s i hi
   rcases vm s i hi with ⟨hd1,hd2⟩ | ⟨hd1,hd2,hd3,hd4,hd5⟩
   ·rw[hx]at hd1 hd2;rw[hd2]at hnx HP;have Hx:Aside (s.data.toList[i]?=some x):=hxl;clear hxl hx hd2;have hcon:=Lib.contains_iff_indexByte [47,0] x;have hback:((x.toNat:Int)).toNat.toUInt8=x:=by simp
    cases hin:([47,0]:Lz).contains x
    ·rw[hin]at hcon;have hlt:¬((0:Int)<=Lib.indexByte [47,0] x):=OK hcon.symm;clear hcon
     go_wp2_with (go_at_call 234;refine (Tryz.strings_IndexRune_ascii _ _ _ (by omega) (by omega)).mono ?_;rintro e w' ⟨rfl,hw⟩;rw[hw,hback])
     go_roundg g
     case measure=>omega
     case rel=>exact ⟨i+1,by omega,HP.out.2,HP.out.1,HN.out.1.succ Hx.out hin⟩
    ·rw[hin]at hcon;have hge:(0:Int)<=Lib.indexByte [47,0] x:=WP hcon.symm;clear hcon
     go_wp2_with (go_at_call 234;refine (Tryz.strings_IndexRune_ascii _ _ _ (by omega) (by omega)).mono ?_;rintro e w' ⟨rfl,hw⟩;rw[hw,hback])
     go_ret
     exact ⟨by rw[Lib.indexAny_hit HN.out.1 Hx.out hin];rfl,HP.out.1⟩
   ·obtain ⟨c,hc⟩:∃ c,(Utf8.decode s i).1=c:=⟨_,rfl⟩;obtain ⟨n,hn⟩:∃ n,(Utf8.decode s i).2=n:=⟨_,rfl⟩;rw[hc,hn]at hnx;rw[hn]at HP hd3 hd4 hd5;rw[hc]at hd1 hd2;have H5:Aside (∀ j (hj:j<s.size),i<=j->j<i+n->128<=(s[j]'hj).toNat):=hd5;have H2:Aside (Utf8.valid (c:Int)=true):=hd2;clear hd5 hd2 hxl hx hc hn
    go_wp2_with (go_at_call 234;refine (Nj _ (by omega) H2.out _).mono ?_;rintro e w' ⟨rfl,hw⟩;have HW:=zcr HP.out.1 HP.out.2 hw)
    go_roundg (s.size-(i+n))
    case measure=>omega
    case rel =>
     refine ⟨i+n,by omega,HW.2,HW.1,fun j b hj hb=>?_⟩;rcases Wp j i with g | g
     ·exact HN.out.1 j b g hb
     ·have hjs:j<s.size:=by omega
      have:=H5.out j hjs g hj;have hb2:=Lib.data_getElem? s j hjs;rw[hb]at hb2;have hb3:b=s[j]'hjs:=Option.some.inj hb2;rw[Ug,hb3];have h47:s[j]'hjs≠47:=fun e=>by rw[e]at this;revert this;decide
      have h00:s[j]'hjs≠0:=fun e=>by rw[e]at this;revert this;decide
      simp[bad,h47,h00]
end
end Go.Proofs.YtnpdbhbmakdklaaGreatDoor.Vcg
