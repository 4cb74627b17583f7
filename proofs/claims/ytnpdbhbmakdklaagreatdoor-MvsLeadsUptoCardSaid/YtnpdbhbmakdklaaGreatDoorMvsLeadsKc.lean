/- What the proof of MvsLeads leans on, part 3. No condition beyond what each theorem states. -/
import Derived.Test.YtnpdbhbmakdklaaGreatDoorMvsLeadsKb
import Derived.Lib.Overlaps
import Derived.Laws.Externs
import Derived.WalkKit
import Derived.ProofKit
import Derived.Deep.Slices
import Derived.Deep.Fields
import Derived.ChangeSame
import Derived.ChangeOld
import Derived.Lib.SmallJoins
import Derived.Test.YtnpdbhbmakdklaaGreatDoorRows
import Derived.Lib.Bytealg
import Derived.Shelf.Strings.Builder1
import Derived.Shelf.Strings.Builder2
import Derived.Shelf.Strings.OnBuilder
import Derived.Shelf.Strings.Trim
import Derived.Shelf.Small.Utf8
import Derived.Shelf.Small.Strs
import Derived.Shelf.Small.Wraps
import Derived.Shelf.Strings.BuilderF
import Derived.Shelf.Strings.BuilderK
import Derived.Shelf.Strings.Search1
import Derived.Shelf.Strings.Search2
import Derived.Shelf.Strings.Search3
import Derived.Shelf.LaysM
import Derived.Shelf.Strings.Shaped
import Derived.Shelf.Strings.Prefix
import Derived.Shelf.Unicode.Decode
import Derived.Shelf.Strings.Runes
import Derived.Shelf.Strings.IndexAny
import Derived.Shelf.Strings.AsciiSet
import Derived.Shelf.Strings.IndexAnyAll
import Derived.Shelf.Unicode.DecodeSlow
import Derived.Shelf.Unicode.DecodeAny
import Derived.Shelf.Unicode.DecodeLast
import Derived.Ground.Names2Prog
import Derived.Shelf.Slices.SearchI
import Derived.Test.YtnpdbhbmakdklaaGreatDoorProg
import Derived.Laws.Runes
import Derived.Laws.RangeString
import Derived.Deep.LoopGhost
set_option linter.unusedVariables false
set_option linter.unusedSimpArgs false
set_option linter.unusedSectionVars false
set_option maxRecDepth 100000
set_option maxHeartbeats 4000000
namespace Go.Proofs.YtnpdbhbmakdklaaGreatDoor.Vcg
variable {f:FuncId} {args r cs vs ds vs1 fargs:List C} {n off b q i k u b1 j cap e s1 size by':Nat} {l:Lz} {a:Int} {ps:List (Nat×C)} {KS:St->Prop} {L:Lay} {H:List HU} {rest:List Oper} {dst:Option Tmp} {op:BinOp} {ty t2:TypeId} {pos:String} {af:Array Edge} {g:Option (Nat×Bool)} {fr:Fr} {us:List Operand} {kd:LK} {z1 z2:Option (List Value)} {fn:Fn} {lo hi mx:Option Int} {k2:IntKind} {v:Value} {lk:List LK} {fp fo:Nat->Option Nat} {place:Nat->Option (Nat×Nat)} {ks1:MK} {fbx:List (List C)} {post:C->List (List C)->Nat->Prop} {code:Code}
section
open Go.RowKit
section
variable {P:Program} {G:zu} {σ σ':St} {N p lg m:Nat} {h:Hd} {yd:Option Yd} {brs:List Bool} {bf:Nat->List Bool} {bx bx':List (List C)} {ops:Array Oper} {c c' d d':C} {t t':TypeId} {K:C->Prop} {K2:C->Nat->Prop} {K3:C->St->Prop} {nx:Nat} {tm:List (Nat×C)} {x y z:Operand} {Q:Exit->St->Prop} {X Y:Prop}
def zaq (P:Program) (G:zu) (f:FuncId) (args:List C) (nx:Nat) (K:C->Nat->Prop):Prop:=∃ r n,Fun P G f args r n/\K (r.sh nx) (nx+n)
theorem zaq.mk {r:C} (h:Fun P G f args r n) (hK:K2 (r.sh nx) (nx+n)):zaq P G f args nx K2:=⟨r,n,h,hK⟩
def zrU (P:Program) (G:zu) (f:FuncId) (args fargs:List C) (σ:St) (K:C->St->Prop):Prop:=
 (∃ r n,Fun P G f fargs r n/\K (r.sh σ.nx) ⟨σ.tm,σ.bx,σ.nx+n,σ.lg⟩)∨yV P G f args σ K∨zmd P G f args σ K∨kX P G f args σ K∨zgr P f args σ K
def aGd (d:Option Tmp) (tm:List (Nat×C)) (want:Bool) (X Y:Prop):Prop:=match d with
 | some d=>match want with
  | true=>zmn (jZ tm d) Y X Y
  | false=>zmn (jZ tm d) Y Y X
 | none=>False
def zpW (L:Option Lay) (c:C) (bx:List (List C)) (K:C->Prop):Prop:=
 match L with
 | none=>False
 | some L=>match c with
  | .ptr i off=>match bx[i]? with
   | some cs=>YH L (cs.drop off) K
   | none=>False
  | .row cs=>YH L cs K
  | _=>False
def zsg (cs:Option (List C)) (off:Nat) (L:Lay) (K:C->Prop):Prop:=match cs with | some cs=>YH L (cs.drop off) K | none=>False
def ztn (x:Option C) (K:C->Prop):Prop:=match x with | some c=>K c | none=>False
def uw (L:Option Lay) (c:C) (f:Nat) (K:C->Prop):Prop:=
 match L with
 | some ⟨.struct fs,_,_,_⟩=>match fs[f]?,c with
  | some (off,size,agg),.agg cs =>
   if agg then off+size<=cs.length/\K (.agg ((cs.drop off).take size)) else match cs[off]? with
    | some c=>K c
    | none=>False
  | _,_=>False
 | _=>False
def kD (f:Option (Nat×Nat×Bool)) (cs:List C) (K:C->Prop):Prop:=
 match f with
 | some (off,size,agg)=>if agg then off+size<=cs.length/\K (.agg ((cs.drop off).take size)) else match cs[off]? with
    | some c=>K c
    | none=>False
 | none=>False
def zum (L:Option Lay) (c:C) (f:Nat) (K:C->Prop):Prop:=
 match L with
 | some ⟨.struct fs,_,_,_⟩=>match fs[f]?,c with
  | some (off,size,_),.ptr i o=>if size=0 then False else K (.ptr i (o+off))
  | some (off,size,_),.row cs=>if size=0 then False else K (.row (cs.drop off))
  | _,_=>False
 | _=>False
def zqh (f:Option (Nat×Nat×Bool)) (c:C) (K:C->Prop):Prop:=
 match f,c with
  | some (off,size,_),.ptr i o=>if size=0 then False else K (.ptr i (o+off))
  | some (off,size,_),.row cs=>if size=0 then False else K (.row (cs.drop off))
  | _,_=>False
def zuy (P:Program) (L:Option Lay) (c:C) (i:C) (K:C->Prop):Prop:=
 match L,i with
 | some ⟨.slice e,_,_,_⟩,.sc (.int _ n)=>match lay P e with
  | some L=>match c with
   | .bs j off k m _=>k=L.size/\0<=n/\n<(m:Int)/\K (.ptr j (off+n.toNat*L.size))
   | c=>match c.rows? L.size with
    | some rows=>match rows[n.toNat]? with
     | some r=>0<=n/\K (.row r)
     | none=>False
    | none=>False
  | none=>False
 | some ⟨.array (m+1) e,_,_,_⟩,.sc (.int _ n)=>match lay P e with
  | some L=>match c with
   | .ptr j off=>0<=n/\n<((m+1:Nat):Int)/\K (.ptr j (off+n.toNat*L.size))
   | .row cs=>0<=n/\n<((m+1:Nat):Int)/\K (.row (cs.drop (n.toNat*L.size)))
   | _=>False
  | none=>False
 | _,_=>False
def zuR (L:Option Lay) (c:C) (n:Int) (K:C->Prop):Prop:=
 match L with
  | some L=>match c with
   | .bs j off k m _=>k=L.size/\0<=n/\n<(m:Int)/\K (.ptr j (off+n.toNat*L.size))
   | c=>match c.rows? L.size with
    | some rows=>match rows[n.toNat]? with
     | some r=>0<=n/\K (.row r)
     | none=>False
    | none=>False
  | none=>False
def zu5 (rows:Option (List (List C))) (n:Int) (K:C->Prop):Prop:=
 match rows with
   | some rows=>match rows[n.toNat]? with
    | some r=>0<=n/\K (.row r)
    | none=>False
   | none=>False
def aAt (r:Option (List C)) (n:Int) (K:C->Prop):Prop:=match r with | some r=>0<=n/\K (.row r) | none=>False
def zuM (L:Option Lay) (c:C) (m:Nat) (n:Int) (K:C->Prop):Prop:=
 match L with
  | some L=>match c with
   | .ptr j off=>0<=n/\n<((m+1:Nat):Int)/\K (.ptr j (off+n.toNat*L.size))
   | .row cs=>0<=n/\n<((m+1:Nat):Int)/\K (.row (cs.drop (n.toNat*L.size)))
   | _=>False
  | none=>False
def ztQ (L:Option Lay) (c i:C) (K:C->Prop):Prop:=
 match L,c,i with
 | some ⟨.str,_,_,_⟩,.str l,.sc (.int _ n)=>match l[n.toNat]? with
  | some b=>0<=n/\K (.sc (.int .u8 (b.toNat:Int)))
  | none=>False
 | _,_,_=>False
def zmF (b:Option UInt8) (n:Int) (K:C->Prop):Prop:=match b with | some b=>0<=n/\K (.sc (.int .u8 (b.toNat:Int))) | none=>False
def zt6 (P:Program) (L:Option Lay) (c:C) (lo hi mx:Option Int) (K:C->Prop):Prop:=
   match L with
    | some ⟨.str,_,_,_⟩=>match c,mx with
      | .str l,none=>Je l.length lo hi/\K (.str (cut l lo hi))
      | _,_=>False
    | some ⟨.slice e,_,_,_⟩=>match lay P e with
      | some L=>match c with
        | .bs i off k n cap=>znZ L.size i off k n cap lo hi mx K
        | .sc (.slice none 0 0)=>zqd L.size lo hi mx K
        | c=>match c.rows? L.size with
          | some rows=>match mx,hi with
            | none,_=>Je rows.length lo hi/\K (.sl L.size (cut rows lo hi))
            | some m,some h=>m=h/\Je rows.length lo hi/\K (.tight L.size (cut rows lo hi))
            | some _,none=>False
          | none=>False
      | none=>False
    | _=>False
def zuV (P:Program) (t:TypeId) (c:C) (lo hi mx:Option (Option Int)) (K:C->Prop):Prop:=
 match lo,hi,mx with
 | some lo,some hi,some mx=>zt6 P (lay P t) c lo hi mx K
 | _,_,_=>False
def zuJ (L:Option Lay) (c:C) (lo hi mx:Option Int) (K:C->Prop):Prop:=
 match L with
   | some L=>match c with
    | .bs i off k n cap=>znZ L.size i off k n cap lo hi mx K
    | .sc (.slice none 0 0)=>zqd L.size lo hi mx K
    | c=>match c.rows? L.size with
     | some rows=>match mx,hi with
      | none,_=>Je rows.length lo hi/\K (.sl L.size (cut rows lo hi))
      | some m,some h=>m=h/\Je rows.length lo hi/\K (.tight L.size (cut rows lo hi))
      | some _,none=>False
     | none=>False
   | none=>False
def zu0 (rows:Option (List (List C))) (k:Nat) (lo hi mx:Option Int) (K:C->Prop):Prop:=
 match rows with
    | some rows=>match mx,hi with
     | none,_=>Je rows.length lo hi/\K (.sl k (cut rows lo hi))
     | some m,some h=>m=h/\Je rows.length lo hi/\K (.tight k (cut rows lo hi))
     | some _,none=>False
    | none=>False
def zhT (rows:Option (List (List C))) (K:C->Prop):Prop:=match rows with | some rows=>∃ l,rows=J8 l/\K (.str l) | none=>False
theorem zhT.mk {rows:List (List C)} (l:Lz) (h:rows=J8 l) (hK:K (.str l)):zhT (some rows) K:=⟨l,h,hK⟩
def zuN (P:Program) (D S:Option Lay) (c:C) (K:C->Prop):Prop:=
 match D with
 | some ⟨.int k,_,_,_⟩=>match c with
  | .sc (.int _ n)=>match S with | some _=>inR k n/\K (.sc (.int k n)) | none=>False
  | _=>False
 | some ⟨.str,_,_,_⟩=>match S with
  | some ⟨.str,_,_,_⟩=>match c with
   | .str l=>K (.str l)
   | _=>False
  | some ⟨.slice e,_,_,_⟩=>match lay P e with
   | some ⟨.int .u8,_,_,_⟩=>match c.rows? 1 with
    | some rows=>∃ l,rows=J8 l/\K (.str l)
    | none=>False
   | _=>False
  | some ⟨.int _,_,_,_⟩=>match c with
   | .sc (.int _ n)=>K (.str (Utf8.encode n).data.toList)
   | _=>False
  | _=>False
 | some ⟨.slice e,_,_,_⟩=>match S,lay P e with
  | some ⟨.str,_,_,_⟩,some ⟨.int .u8,_,_,_⟩=>match c with
   | .str l=>((l.length:Nat):Int)<=9223372036854775807/\K (.sl 1 (J8 l))
   | _=>False
  | _,_=>False
 | _=>False
def zuO (L:Option Lay) (c:C) (K:C->Prop):Prop:=
 match L with
   | some ⟨.int .u8,_,_,_⟩=>match c.rows? 1 with
    | some rows=>∃ l,rows=J8 l/\K (.str l)
    | none=>False
   | _=>False
def ztr (L:Option Lay) (c:C) (K:C->Prop):Prop:=
 match L,c with
 | some ⟨.slice _,_,_,_⟩,.bs _ _ _ _ c=>K (.sc (.int .i64 (c:Int)))
 | some ⟨.slice _,_,_,_⟩,.sc (.slice none 0 0)=>K (.sc (.int .i64 0))
 | _,_=>False
def ztX (L:Option Lay) (n:Int) (K:C->Prop):Prop:=match L with | some ⟨.slice _,_,_,_⟩=>K (.sc (.int .i64 n)) | _=>False
def zt2 (L:Option Lay) (n:Int) (K:C->Prop):Prop:=match L with | some ⟨.str,_,_,_⟩=>K (.sc (.int .i64 n)) | _=>False
def zsS (L:Option Lay) (parts:List (Nat×C)) (K:C->Prop):Prop:=
 match L with
 | some ⟨.struct fs,_,_,some z⟩=>(parts.all fun p=>p.2.partB)=true/\match Xj (fun i=>(fs[i]?).map fun f=>(f.1,f.2.1)) (z.map zE) parts with
  | some cs=>K (.agg cs)
  | none=>False
 | _=>False
def aFl (cs:Option (List C)) (K:C->Prop):Prop:=match cs with | some cs=>K (.agg cs) | none=>False
def plS (fs:List (Nat×Nat×Bool)) (i:Nat):Option (Nat×Nat):=(fs[i]?).map fun f=>(f.1,f.2.1)
def plA (k:Nat) (i:Nat):Option (Nat×Nat):=some (i*k,k)
def zme (pl:Option (Nat×Nat)) (place:Nat->Option (Nat×Nat)) (cs:List C) (c:List C) (rest:List (Nat×C)):Option (List C):=
 match pl with
  | none=>none
  | some (off,size)=>if c.length=size/\off+size<=cs.length then Xj place (cs.take off++c++cs.drop (off+size)) rest else none
def zvb (P:Program) (L:Option Lay) (n:Nat) (parts:List (Nat×C)) (nx:Nat) (K:C->Nat->Prop):Prop:=
 match L with
 | some ⟨.slice e,_,_,_⟩=>match lay P e with
  | some ⟨_,k,_,some z⟩=>z.length=k/\0<k/\n*k<=16777216/\(parts.all fun p=>p.2.frz.partB)=true/\match Xj (fun i=>some (i*k,k)) (List.replicate n (z.map zE)).flatten (parts.map fun p=>(p.1,p.2.frz)) with
   | some cs=>(cs.all C.cellB)=true/\cs.length=n*k/\K (.own nx e k (Zf k n cs)) (nx+1)
   | none=>False
  | _=>False
 | _=>False
def zu3 (L:Option Lay) (e:TypeId) (n:Nat) (parts:List (Nat×C)) (nx:Nat) (K:C->Nat->Prop):Prop:=
   match L with
    | some ⟨_,k,_,some z⟩=>z.length=k/\0<k/\n*k<=16777216/\(parts.all fun p=>p.2.frz.partB)=true/\match Xj (fun i=>some (i*k,k)) (List.replicate n (z.map zE)).flatten (parts.map fun p=>(p.1,p.2.frz)) with
      | some cs=>(cs.all C.cellB)=true/\cs.length=n*k/\K (.own nx e k (Zf k n cs)) (nx+1)
      | none=>False
    | _=>False
def zu9 (cs:Option (List C)) (e k n nx:Nat) (K:C->Nat->Prop):Prop:=
 match cs with
   | some cs=>(cs.all C.cellB)=true/\cs.length=n*k/\K (.own nx e k (Zf k n cs)) (nx+1)
   | none=>False
def zui (P:Program) (L:Option Lay) (l c:C) (nx:Nat) (K:C->Nat->Prop):Prop:=
 match L,l,c with
 | some ⟨.slice e,_,_,_⟩,.sc (.int _ l),.sc (.int _ c)=>match lay P e with
  | some ⟨_,k,by',some z⟩=>z.length=k/\0<k/\(z.all Value.oneCell')=true/\0<=l/\l<=c/\(by':Int)*c<=281474976710656/\c<=9223372036854775807/\K (.own nx e k (List.replicate l.toNat (z.map zE))) (nx+1)
  | _=>False
 | _,_,_=>False
def zuK (L:Option Lay) (e:TypeId) (l c:Int) (nx:Nat) (K:C->Nat->Prop):Prop:=
 match L with
  | some ⟨_,k,by',some z⟩=>z.length=k/\0<k/\(z.all Value.oneCell')=true/\0<=l/\l<=c/\(by':Int)*c<=281474976710656/\c<=9223372036854775807/\K (.own nx e k (List.replicate l.toNat (z.map zE))) (nx+1)
  | _=>False
def zsT (P:Program) (L:Option Lay) (l c:C) (σ:St) (K:C->St->Prop):Prop:=
 match L,l,c with
 | some ⟨.slice e,_,_,_⟩,.sc (.int _ l),.sc (.int _ c)=>match lay P e with
  | some ⟨_,k,by',some z⟩=>z.length=k/\0<k/\(z.all Value.oneCell')=true/\0<=l/\l<=c/\(by':Int)*c<=281474976710656/\c<=9223372036854775807/\K (.bs σ.bx.length 0 k l.toNat c.toNat) ⟨σ.tm,σ.bx++[(List.replicate c.toNat (z.map zE)).flatten],σ.nx,σ.lg⟩
  | _=>False
 | _,_,_=>False
def ztR (L:Option Lay) (l c:Int) (σ:St) (K:C->St->Prop):Prop:=
 match L with
  | some ⟨_,k,by',some z⟩=>z.length=k/\0<k/\(z.all Value.oneCell')=true/\0<=l/\l<=c/\(by':Int)*c<=281474976710656/\c<=9223372036854775807/\K (.bs σ.bx.length 0 k l.toNat c.toNat) ⟨σ.tm,σ.bx++[(List.replicate c.toNat (z.map zE)).flatten],σ.nx,σ.lg⟩
  | _=>False
def zuA (P:Program) (L:Option Lay) (s x:C) (nx:Nat) (K:C->Nat->Prop):Prop:=
 match L with
 | some ⟨.slice e,_,_,_⟩=>match lay P e with
  | some ⟨_,k,by',some z⟩=>match x.rows? k with
   | some xs=>match s with
    | .sc (.slice none 0 0)=>z.length=k/\0<k/\xs.length<=9223372036854775807/\xs.length*by'<=140737488355328/\K (.own nx e k xs) (nx+1)
    | .tight k' rows=>k'=k/\z.length=k/\0<k/\rows.length+xs.length<=9223372036854775807/\(rows.length+xs.length)*by'<=140737488355328/\(xs = []->K (.tight k' rows) nx)/\(xs≠[]->K (.own nx e k (rows++xs)) (nx+1))
    | _=>False
   | none=>False
  | _=>False
 | _=>False
def zuI (L:Option Lay) (e:TypeId) (s x:C) (nx:Nat) (K:C->Nat->Prop):Prop:=
  match L with
  | some ⟨_,k,by',some z⟩=>match x.rows? k with
   | some xs=>match s with
    | .sc (.slice none 0 0)=>z.length=k/\0<k/\xs.length<=9223372036854775807/\xs.length*by'<=140737488355328/\K (.own nx e k xs) (nx+1)
    | .tight k' rows=>k'=k/\z.length=k/\0<k/\rows.length+xs.length<=9223372036854775807/\(rows.length+xs.length)*by'<=140737488355328/\(xs = []->K (.tight k' rows) nx)/\(xs≠[]->K (.own nx e k (rows++xs)) (nx+1))
    | _=>False
   | none=>False
  | _=>False
def zuo (xs:Option (List (List C))) (s:C) (e k by':Nat) (z:List Value) (nx:Nat) (K:C->Nat->Prop):Prop:=
 match xs with
   | some xs=>match s with
    | .sc (.slice none 0 0)=>z.length=k/\0<k/\xs.length<=9223372036854775807/\xs.length*by'<=140737488355328/\K (.own nx e k xs) (nx+1)
    | .tight k' rows=>k'=k/\z.length=k/\0<k/\rows.length+xs.length<=9223372036854775807/\(rows.length+xs.length)*by'<=140737488355328/\(xs = []->K (.tight k' rows) nx)/\(xs≠[]->K (.own nx e k (rows++xs)) (nx+1))
    | _=>False
   | none=>False
def zuG (P:Program) (L:Option Lay) (id e k:Nat) (rows:List (List C)) (x:C) (σ:St) (K:C->St->Prop):Prop:=
   match L with
    | some ⟨.slice e',_,_,_⟩=>match lay P e with
      | some ⟨_,k',by',some z⟩=>match x.rows? k with
        | some xs=>e'=e/\k'=k/\z.length=k/\0<k/\rows.length+xs.length<=9223372036854775807/\(rows.length+xs.length)*by'<=140737488355328/\K (.own id e k (rows++xs)) ⟨zck id σ.tm,yQ id σ.bx,σ.nx,σ.lg⟩
        | none=>False
      | _=>False
    | _=>False
def ztd (L:Option Lay) (e' id e k:Nat) (rows:List (List C)) (x:C) (σ:St) (K:C->St->Prop):Prop:=
  match L with
   | some ⟨_,k',by',some z⟩=>match x.rows? k with
    | some xs=>e'=e/\k'=k/\z.length=k/\0<k/\rows.length+xs.length<=9223372036854775807/\(rows.length+xs.length)*by'<=140737488355328/\K (.own id e k (rows++xs)) ⟨zck id σ.tm,yQ id σ.bx,σ.nx,σ.lg⟩
    | none=>False
   | _=>False
def ztu (xs:Option (List (List C))) (by' id e k:Nat) (rows:List (List C)) (σ:St) (K:C->St->Prop):Prop:=
   match xs with
        | some xs=>rows.length+xs.length<=9223372036854775807/\(rows.length+xs.length)*by'<=140737488355328/\K (.own id e k (rows++xs)) ⟨zck id σ.tm,yQ id σ.bx,σ.nx,σ.lg⟩
        | none=>False
def zuE (L:Option Lay) (σ:St) (K:C->St->Prop):Prop:=
 match L with
 | some ⟨_,_,_,some z⟩=>(z.all Value.oneCell')=true/\K (.ptr σ.bx.length 0) ⟨σ.tm,σ.bx++[z.map zE],σ.nx,σ.lg⟩
 | _=>False
def zuD (L:Option Lay) (p c:C) (bx:List (List C)) (K:C->Prop):Prop:=
 match L,p with
 | some L,.ptr i off=>match bx[i]? with
  | some cs=>c.partB=true/\(c.cells.all C.cellB)=true/\c.cells.length=L.size/\off+L.size<=cs.length/\UM ((cs.drop off).take L.size) c.cells/\K .any
  | none=>False
 | _,_=>False
def zun (cs:Option (List C)) (off size:Nat) (c:C) (K:C->Prop):Prop:=
 match cs with
  | some cs=>c.partB=true/\(c.cells.all C.cellB)=true/\c.cells.length=size/\off+size<=cs.length/\UM ((cs.drop off).take size) c.cells/\K .any
  | none=>False
def zuB (L:Option Lay) (p c:C) (σ:St) (K:C->St->Prop):Prop:=
 match L,p with
 | some L,.ptr i off=>match σ.bx[i]? with
  | some cs=>c.partB=true/\(c.cells.all C.cellB)=true/\c.cells.length=L.size/\off+L.size<=cs.length/\K .any ⟨σ.tm,σ.bx.set i (cs.take off++c.cells++cs.drop (off+L.size)),σ.nx,σ.lg⟩
  | none=>False
 | _,_=>False
def zux (cs:Option (List C)) (i off size:Nat) (c:C) (σ:St) (K:C->St->Prop):Prop:=
 match cs with
  | some cs=>c.partB=true/\(c.cells.all C.cellB)=true/\c.cells.length=size/\off+size<=cs.length/\K .any ⟨σ.tm,σ.bx.set i (cs.take off++c.cells++cs.drop (off+size)),σ.nx,σ.lg⟩
  | none=>False
def zgZ (cs:Option (List C)) (off n:Nat) (K:C->Prop):Prop:=match cs with
   | some cs=>∃ l:Lz,l.length=n/\(cs.drop off).take n=l.map (fun b=>C.sc (.int .u8 (b.toNat:Int)))/\K (.str l)
   | none=>False
theorem zgZ.mk {K:C->Prop} (l:Lz) (hl:l.length=n) (h:(cs.drop off).take n=l.map (fun b=>C.sc (.int .u8 (b.toNat:Int)))) (hK:K (.str l)):zgZ (some cs) off n K:=⟨l,hl,h,hK⟩
def zuF (P:Program) (L:Option Lay) (n:Nat) (parts:List (Nat×C)) (σ:St) (K:C->St->Prop):Prop:=
 match L with
 | some ⟨.slice e,_,_,_⟩=>match lay P e with
  | some ⟨_,k,_,some z⟩=>z.length=k/\0<k/\n*k<=16777216/\(parts.all fun p=>p.2.frz.partB)=true/\match Xj (fun i=>some (i*k,k)) (List.replicate n (z.map zE)).flatten (parts.map fun p=>(p.1,p.2.frz)) with
   | some cs=>(cs.all C.cellB)=true/\cs.length=n*k/\K (.bs σ.bx.length 0 k n n) ⟨σ.tm,σ.bx++[cs],σ.nx,σ.lg⟩
   | none=>False
  | _=>False
 | _=>False
def zva (L:Option Lay) (n:Nat) (parts:List (Nat×C)) (σ:St) (K:C->St->Prop):Prop:=
   match L with
    | some ⟨_,k,_,some z⟩=>z.length=k/\0<k/\n*k<=16777216/\(parts.all fun p=>p.2.frz.partB)=true/\match Xj (fun i=>some (i*k,k)) (List.replicate n (z.map zE)).flatten (parts.map fun p=>(p.1,p.2.frz)) with
      | some cs=>(cs.all C.cellB)=true/\cs.length=n*k/\K (.bs σ.bx.length 0 k n n) ⟨σ.tm,σ.bx++[cs],σ.nx,σ.lg⟩
      | none=>False
    | _=>False
def zu7 (cs:Option (List C)) (k n:Nat) (σ:St) (K:C->St->Prop):Prop:=
 match cs with
   | some cs=>(cs.all C.cellB)=true/\cs.length=n*k/\K (.bs σ.bx.length 0 k n n) ⟨σ.tm,σ.bx++[cs],σ.nx,σ.lg⟩
   | none=>False
def zup (P:Program) (L:Option Lay) (p:Nat) (s x:C) (σ:St) (K:C->St->Prop):Prop:=
 match L with
 | some ⟨.slice e,_,_,_⟩=>match lay P e with
  | some ⟨_,k,by',some z⟩=>match x.xs? k σ.bx with
   | some (m,xs)=>z.length=k/\0<k/\(z.all Value.oneCell')=true/\0<m/\match s with
    | .sc (.slice none 0 0)=>m<=9223372036854775807/\m*by'<=140737488355328/\∀ c,m<=c->c<=maxLen->K (.bs σ.bx.length 0 k m c) ⟨σ.tm,σ.bx++[xs++List.replicate ((c-m)*k) .any],σ.nx,σ.lg⟩
    | .bs i 0 k' n c=>match σ.bx[i]? with
     | some cs=>k'=k/\p<=i/\cs.length=c*k/\n<=c/\c<=9223372036854775807/\n+m<=9223372036854775807/\(n+m)*by'<=140737488355328 /\
       ∀ c',n+m<=c'->c'<=maxLen->K (.bs i 0 k (n+m) c') ⟨Gw (Yp i) some σ.tm,Vt i (C.reL (Yp i) some (cs.take (n*k)++xs)++List.replicate ((c'-(n+m))*k) .any) σ.bx,σ.nx,σ.lg⟩
     | none=>False
    | _=>False
   | none=>False
  | _=>False
 | _=>False
def zuQ (L:Option Lay) (p:Nat) (s x:C) (σ:St) (K:C->St->Prop):Prop:=
  match L with
  | some ⟨_,k,by',some z⟩=>match x.xs? k σ.bx with
   | some (m,xs)=>z.length=k/\0<k/\(z.all Value.oneCell')=true/\0<m/\match s with
    | .sc (.slice none 0 0)=>m<=9223372036854775807/\m*by'<=140737488355328/\∀ c,m<=c->c<=maxLen->K (.bs σ.bx.length 0 k m c) ⟨σ.tm,σ.bx++[xs++List.replicate ((c-m)*k) .any],σ.nx,σ.lg⟩
    | .bs i 0 k' n c=>match σ.bx[i]? with
     | some cs=>k'=k/\p<=i/\cs.length=c*k/\n<=c/\c<=9223372036854775807/\n+m<=9223372036854775807/\(n+m)*by'<=140737488355328 /\
       ∀ c',n+m<=c'->c'<=maxLen->K (.bs i 0 k (n+m) c') ⟨Gw (Yp i) some σ.tm,Vt i (C.reL (Yp i) some (cs.take (n*k)++xs)++List.replicate ((c'-(n+m))*k) .any) σ.bx,σ.nx,σ.lg⟩
     | none=>False
    | _=>False
   | none=>False
  | _=>False
def zuv (X:Option (Nat×List C)) (p k by':Nat) (z:List Value) (s:C) (σ:St) (K:C->St->Prop):Prop:=
  match X with
   | some (m,xs)=>z.length=k/\0<k/\(z.all Value.oneCell')=true/\0<m/\match s with
    | .sc (.slice none 0 0)=>m<=9223372036854775807/\m*by'<=140737488355328/\∀ c,m<=c->c<=maxLen->K (.bs σ.bx.length 0 k m c) ⟨σ.tm,σ.bx++[xs++List.replicate ((c-m)*k) .any],σ.nx,σ.lg⟩
    | .bs i 0 k' n c=>match σ.bx[i]? with
     | some cs=>k'=k/\p<=i/\cs.length=c*k/\n<=c/\c<=9223372036854775807/\n+m<=9223372036854775807/\(n+m)*by'<=140737488355328 /\
       ∀ c',n+m<=c'->c'<=maxLen->K (.bs i 0 k (n+m) c') ⟨Gw (Yp i) some σ.tm,Vt i (C.reL (Yp i) some (cs.take (n*k)++xs)++List.replicate ((c'-(n+m))*k) .any) σ.bx,σ.nx,σ.lg⟩
     | none=>False
    | _=>False
   | none=>False
def bsO (j:Option Nat) (off k n c:Nat):C:=match j with | some j=>.bs j off k n c | none=>.any
def xsB (k' k off n:Nat) (cs:Option (List C)):Option (Nat×List C):=if k'=k then cs.bind fun cs=>if off+n*k<=cs.length then some (n,(cs.drop off).take (n*k)) else none else none
def zsF (j:Option Nat) (e k:Nat) (rows:List (List C)):C:=match j with | some j=>.own j e k rows | none=>.sl k rows
def ztH (cs:Option (List C)) (off:Nat):C:=match cs with | some cs=>.row ((C.frzL cs).drop off) | none=>.any
def zpx (j:Option Nat) (off:Nat):C:=match j with | some j=>.ptr j off | none=>.any
def zo2 (cs:Option (List C)) (p:Option Tmp) (σ:St) (K:St->Prop):Prop:=match cs,p with
  | some cs,some p=>K ⟨(p,.ptr σ.bx.length 0) :: σ.tm,σ.bx++[cs],σ.nx,σ.lg⟩
  | _,_=>False
def zuH (M:Option (MKd×C)) (t:TypeId) (r:Option C) (nx:Nat) (K:C->Nat->Prop):Prop:=
 match M with
 | some (kd,_)=>match r with
  | none=>K (.mo nx t kd.nil []) (nx+1)
  | some (.sc (.int _ _))=>K (.mo nx t kd.nil []) (nx+1)
  | _=>False
 | none=>False
def zu1 (M:Option (MKd×C)) (t:TypeId) (m key:C) (ok:Bool) (K:C->Prop):Prop:=
 match M with
 | some (.int k,z)=>match m,key with
  | .mo _ t' (.int k' l) vs,.sc (.int q n)=>t'=t/\k'=k/\q=k/\GA (zjv n l vs) z ok K
  | _,_=>False
 | some (.str,z)=>match m,key with
  | .mo _ t' (.str l) vs,.str s=>t'=t/\GA (zjv s l vs) z ok K
  | _,_=>False
 | none=>False
def zuk (M:Option (MKd×C)) (t:TypeId) (m key x:C) (σ:St) (K:C->St->Prop):Prop:=
 match M with
 | some (.int k,_)=>match m,key with
  | .mo id t' (.int k' l) vs,.sc (.int q n)=>t'=t/\k'=k/\q=k/\Nd id (.int k (H1 n x.frz l vs).1) (H1 n x.frz l vs).2 σ K
  | _,_=>False
 | some (.str,_)=>match m,key with
  | .mo id t' (.str l) vs,.str s=>t'=t/\Nd id (.str (H1 s x.frz l vs).1) (H1 s x.frz l vs).2 σ K
  | _,_=>False
 | none=>False
def zuc (x:Option (List C)):C:=match x with | some cs=>.row cs | none=>.any
structure Tag.{u} {α:Sort u} (a:α):Type where
def zpJ (M:Option (MKd×C)) (t:TypeId) (r:Option C) (nx:Nat) (K:C->Nat->Prop) (_:Tag K):Prop:=zuH M t r nx K
def zq1 (M:Option (MKd×C)) (t:TypeId) (m key:C) (ok:Bool) (K:C->Prop) (_:Tag K):Prop:=zu1 M t m key ok K
def zeE (r:Option C) (z:C) (ok:Bool) (K:C->Prop) (_:Tag K):Prop:=GA r z ok K
def zpU (M:Option (MKd×C)) (t:TypeId) (m key x:C) (σ:St) (K:C->St->Prop) (_:Tag K):Prop:=zuk M t m key x σ K
def zeS (sz i off k n cap:Nat) (lo hi mx:Option Int) (K:C->Prop) (_:Tag K):Prop:=znZ sz i off k n cap lo hi mx K
def ue (P:Program) (t:TypeId) (s x:C) (σ:St) (K:C->St->Prop) (_:Tag K):Prop:=Y1 P t s x σ K
def zbh (P:Program) (t tn:TypeId) (s x:C) (σ:St) (K:C->St->Prop) (_:Tag K):Prop:=NS P t tn s x σ K
def yu (P:Program) (t:TypeId) (d x:C) (σ:St) (K:C->St->Prop) (_:Tag K):Prop:=Zs P t d x σ K
def vf (P:Program) (t:TypeId) (x:C) (σ:St) (K:C->St->Prop) (_:Tag K):Prop:=kW P t x σ K
def zqj (x y:C) (K:C->Prop) (_:Tag K):Prop:=zpH x y K
def zrm (P:Program) (t:TypeId) (c:C) (K:C->Prop) (_:Tag K):Prop:=zqJ P t c K
def zij (L:Option Lay) (c:C) (K:C->Prop) (_:Tag K):Prop:=ztr L c K
def ve (P:Program) (bx:List (List C)) (s d:TypeId) (c:C) (K:C->Prop) (_:Tag K):Prop:=zbF P bx s d c K
def Gy (P:Program) (t:TypeId) (n:Nat) (parts:List (Nat×C)) (σ:St) (K:C->St->Prop) (_:Tag K):Prop:=Z4 P t n parts σ K
def zrS (P:Program) (L:Option Lay) (n:Nat) (parts:List (Nat×C)) (σ:St) (K:C->St->Prop) (_:Tag K):Prop:=zuF P L n parts σ K
def zqx (L:Option Lay) (n:Nat) (parts:List (Nat×C)) (σ:St) (K:C->St->Prop) (_:Tag K):Prop:=zva L n parts σ K
def zpI (cs:Option (List C)) (k n:Nat) (σ:St) (K:C->St->Prop) (_:Tag K):Prop:=zu7 cs k n σ K
def zaJ (P:Program) (p:Nat) (t:TypeId) (s x:C) (σ:St) (K:C->St->Prop) (_:Tag K):Prop:=Hg P p t s x σ K
def zsr (P:Program) (L:Option Lay) (p:Nat) (s x:C) (σ:St) (K:C->St->Prop) (_:Tag K):Prop:=zup P L p s x σ K
def zpM (L:Option Lay) (p:Nat) (s x:C) (σ:St) (K:C->St->Prop) (_:Tag K):Prop:=zuQ L p s x σ K
def zqI (X:Option (Nat×List C)) (p k by':Nat) (z:List Value) (s:C) (σ:St) (K:C->St->Prop) (_:Tag K):Prop:=zuv X p k by' z s σ K
def zn4 (c:C) (X Y:Prop) (_:Tag X) (_:Tag Y):Prop:=ABr c X Y
def ziO (c:C) (U X Y:Prop) (_:Tag U) (_:Tag X) (_:Tag Y):Prop:=zmn c U X Y
def XS (ops:Array Oper) (tm:List (Nat×C)) (g:Option (Nat×Bool)) (X Y:Prop) (_:Tag ops) (_:Tag X) (_:Tag Y):Prop:=jJ ops tm g X Y
def ztt (d:Option Tmp) (tm:List (Nat×C)) (want:Bool) (X Y:Prop) (_:Tag X) (_:Tag Y):Prop:=aGd d tm want X Y
def VR (P:Program) (G:zu) (h:Hd) (c:Code) (Q:Exit->St->Prop) (σ:St) (_:Tag c) (_:Tag Q):Prop:=awp P G h c Q σ
def zg2 (P:Program) (G:zu) (h:Hd) (ops:Array Oper) (l:List Oper) (σ:St) (K:St->Prop) (_:Tag h) (_:Tag ops) (_:Tag l) (_:Tag K):Prop:=zrq P G h ops l σ K
def X4 (P:Program) (G:zu) (h:Hd) (ops:Array Oper) (l:List Oper) (br:List Bool) (σ:St) (K:St->Prop) (_:Tag h) (_:Tag ops) (_:Tag l) (_:Tag K):Prop:=Vk P G h ops l br σ K
def xR (P:Program) (G:zu) (h:Hd) (ops:Array Oper) (br:List Bool) (σ:St) (K:St->Prop) (_:Tag h) (_:Tag ops) (_:Tag K):Prop:=MI P G h ops br σ K
def zpA (P:Program) (G:zu) (Y:Hd) (ops:Array Oper) (rest:List (Nat×MFl)) (q:Nat) (H:List HU) (fl:MFl) (oo:Option Oper) (σ:St) (K:St->Prop):Prop:=match oo with
 | none=>False
 | some o=>match fl with
  | .pure=>jJ ops σ.tm o.guard (JN P G σ.bx (zD G σ.tm) o.op σ.nx fun c nx'=>mix P G Y ops rest (q+1) ((q,fun b=>JN P G b (zD G σ.tm) o.op σ.nx fun c' n'=>c'=c/\n'=nx') :: H) ⟨JP σ.tm o.dst c,σ.bx,nx',σ.lg⟩ K)
    (mix P G Y ops rest (q+1) H ⟨JP σ.tm o.dst (.sc undef),σ.bx,σ.nx,σ.lg⟩ K)
  | .bar=>jJ ops σ.tm o.guard (Mu P G Y o.op σ fun c σ'=>mix P G Y ops rest (q+1) [] (σ'.put o.dst c) K) (mix P G Y ops rest (q+1) [] (σ.put o.dst (.sc undef)) K)
  | .flt fr=>o.guard=none/\zr8 P G o.op σ fun c bx' nx'=>Xt fr bx' H/\mix P G Y ops rest (q+1) H ⟨JP σ.tm o.dst c,bx',nx',σ.lg⟩ K
def Gh (P:Program) (G:zu) (h:Hd) (ops:Array Oper) (all:List Oper) (L:List (Nat×MFl)) (q:Nat) (H:List HU) (σ:St) (K:St->Prop) (_:Tag h) (_:Tag ops) (_:Tag all) (_:Tag H) (_:Tag K):Prop:=mix P G h ops L q H σ K
def xJ (P:Program) (G:zu) (h:Hd) (ops:Array Oper) (all:List Oper) (L:List (Nat×MFl)) (q:Nat) (H:List HU) (fl:MFl) (i:Nat) (l:List Oper) (σ:St) (K:St->Prop) (_:Tag h) (_:Tag ops) (_:Tag all) (_:Tag H) (_:Tag l) (_:Tag K):Prop:=zpA P G h ops L q H fl (l[i]?) σ K
def zps (fr:List Nat) (b:List (List C)) (H:List HU) (_:Tag H):Prop:=Xt fr b H
def zeg (P:Program) (G:zu) (f:C) (args:List C) (σ:St) (K:C->List (List C)->Nat->Prop) (_:Tag K):Prop:=zbt P G f args σ K
def zua (P:Program) (G:zu) (f:FuncId) (args:List C) (σ:St) (K:C->List (List C)->Nat->Prop) (_:Tag K):Prop:=zmx P G f args σ K
def XA (P:Program) (G:zu) (ops:Array Oper) (a s:Nat) (l:List Oper) (i:Nat) (cs:Option (List C)) (σ:St) (K:St->Prop) (_:Tag ops) (_:Tag l) (_:Tag K):Prop:=jM P G ops a s l i cs σ K
def zl9 (cs:Option (List C)) (p:Option Tmp) (σ:St) (K:St->Prop) (_:Tag K):Prop:=zo2 cs p σ K
def zmc (L:Option Lay) (K:Prop) (_:Tag K):Prop:=zlG L K
def zl6 (L:Option Lay) (c:C) (K:C->Prop) (_:Tag K):Prop:=ziX L c K
def jT (P:Program) (G:zu) (h:Hd) (op:Op) (σ:St) (K:C->St->Prop) (_:Tag h) (_:Tag op) (_:Tag K):Prop:=Mu P G h op σ K
def Zx (P:Program) (G:zu) (f:FuncId) (args fargs:List C) (σ:St) (K:C->St->Prop) (_:Tag K):Prop:=zrU P G f args fargs σ K
def vD (P:Program) (G:zu) (h:Hd) (c:C) (args:List C) (σ:St) (K:C->St->Prop) (_:Tag h) (_:Tag K):Prop:=x7 P G h c args σ K
def zbO (y:Yd) (it:Option (List C)) (args:List C) (σ:St) (K:C->St->Prop) (_:Tag y) (_:Tag K):Prop:=Na y it args σ K
def zgO (P:Program) (G:zu) (p:Nat) (A B:Nat->(Exit->St->Prop)->St->Prop) (Q:Exit->St->Prop) (ps:List Tmp) (c:C) (σ:St) (_:Tag A) (_:Tag B) (_:Tag Q):Prop:=zbm P G p A B Q ps c σ
def jH (P:Program) (G:zu) (bx:List (List C)) (ev:Operand->C) (op:Op) (nx:Nat) (K:C->Nat->Prop) (_:Tag ev) (_:Tag op) (_:Tag K):Prop:=JN P G bx ev op nx K
def zb9 (P:Program) (σ:St) (rs:List ResultVar) (K:C->Prop) (_:Tag K):Prop:=zpD P σ rs K
def YU (P:Program) (σ:St) (rv:ResultVar) (K:C->Prop) (_:Tag K):Prop:=Yg P σ rv K
def zaf (P:Program) (t:TypeId) (op:BinOp) (x y:C) (K:C->Prop) (_:Tag K):Prop:=zpz P t op x y K
def km (op:BinOp) (k:IntKind) (a b:Int) (K:C->Prop) (_:Tag K):Prop:=zsz op k a b K
def za8 (l:Option Lay) (op:BinOp) (x:C) (K:C->Prop) (_:Tag K):Prop:=zmJ l op x K
def zh7 (op:BinOp) (b:Bool) (K:C->Prop) (_:Tag K):Prop:=NA op b K
def zc5 (op:BinOp) (a b:Lz) (K:C->Prop) (_:Tag K):Prop:=zsG op a b K
def znj (op:BinOp) (ks:Option (List LK)) (xs ys:List C) (K:C->Prop) (_:Tag K):Prop:=zs7 op ks xs ys K
def ziE (n:Bool) (ks:List LK) (xs ys:List C) (e:Bool) (K:C->Prop) (_:Tag K):Prop:=aEq n ks xs ys e K
def zte (op:UnOp) (x:C) (K:C->Prop) (_:Tag K):Prop:=aUn op x K
def zaY (P:Program) (t:TypeId) (c:C) (bx:List (List C)) (K:C->Prop) (_:Tag K):Prop:=vk P t c bx K
def vx (L:Option Lay) (c:C) (bx:List (List C)) (K:C->Prop) (_:Tag K):Prop:=zpW L c bx K
def zir (cs:Option (List C)) (off:Nat) (L:Lay) (K:C->Prop) (_:Tag K):Prop:=zsg cs off L K
def Uy (L:Lay) (cs:List C) (K:C->Prop) (_:Tag K):Prop:=YH L cs K
def znf (x:Option C) (K:C->Prop) (_:Tag K):Prop:=ztn x K
def k9 (c:C) (i:Nat) (K:C->Prop) (_:Tag K):Prop:=UW c i K
def znd (c:C) (K:C->Prop) (_:Tag K):Prop:=zsC c K
def vg (P:Program) (t:TypeId) (c:C) (f:Nat) (K:C->Prop) (_:Tag K):Prop:=za2 P t c f K
def zaF (L:Option Lay) (c:C) (f:Nat) (K:C->Prop) (_:Tag K):Prop:=uw L c f K
def zar (f:Option (Nat×Nat×Bool)) (cs:List C) (K:C->Prop) (_:Tag K):Prop:=kD f cs K
def ZE (P:Program) (t:TypeId) (c:C) (f:Nat) (K:C->Prop) (_:Tag K):Prop:=QZ P t c f K
def zqq (L:Option Lay) (c:C) (f:Nat) (K:C->Prop) (_:Tag K):Prop:=zum L c f K
def zoM (f:Option (Nat×Nat×Bool)) (c:C) (K:C->Prop) (_:Tag K):Prop:=zqh f c K
def ZB (P:Program) (t:TypeId) (c:C) (i:C) (K:C->Prop) (_:Tag K):Prop:=QV P t c i K
def zor (P:Program) (L:Option Lay) (c:C) (i:C) (K:C->Prop) (_:Tag K):Prop:=zuy P L c i K
def zje (L:Option Lay) (c:C) (n:Int) (K:C->Prop) (_:Tag K):Prop:=zuR L c n K
def zop (rows:Option (List (List C))) (n:Int) (K:C->Prop) (_:Tag K):Prop:=zu5 rows n K
def zud (r:Option (List C)) (n:Int) (K:C->Prop) (_:Tag K):Prop:=aAt r n K
def zrw (L:Option Lay) (c:C) (m:Nat) (n:Int) (K:C->Prop) (_:Tag K):Prop:=zuM L c m n K
def uc (P:Program) (t:TypeId) (c i:C) (K:C->Prop) (_:Tag K):Prop:=zbq P t c i K
def zrx (L:Option Lay) (c i:C) (K:C->Prop) (_:Tag K):Prop:=ztQ L c i K
def zmy (b:Option UInt8) (n:Int) (K:C->Prop) (_:Tag K):Prop:=zmF b n K
def vR (P:Program) (t:TypeId) (c:C) (lo hi mx:Option C) (K:C->Prop) (_:Tag K):Prop:=zaG P t c lo hi mx K
def zre (P:Program) (t:TypeId) (c:C) (lo hi mx:Option (Option Int)) (K:C->Prop) (_:Tag K):Prop:=zuV P t c lo hi mx K
def zpg (P:Program) (L:Option Lay) (c:C) (lo hi mx:Option Int) (K:C->Prop) (_:Tag K):Prop:=zt6 P L c lo hi mx K
def zho (L:Option Lay) (c:C) (lo hi mx:Option Int) (K:C->Prop) (_:Tag K):Prop:=zuJ L c lo hi mx K
def zqY (k:Nat) (lo hi mx:Option Int) (K:C->Prop) (_:Tag K):Prop:=zqd k lo hi mx K
def zlz (rows:Option (List (List C))) (k:Nat) (lo hi mx:Option Int) (K:C->Prop) (_:Tag K):Prop:=zu0 rows k lo hi mx K
def znR (rows:Option (List (List C))) (K:C->Prop) (_:Tag K):Prop:=zhT rows K
def zgU (P:Program) (s d:TypeId) (c:C) (K:C->Prop) (_:Tag K):Prop:=zj1 P s d c K
def zjm (P:Program) (D S:Option Lay) (c:C) (K:C->Prop) (_:Tag K):Prop:=zuN P D S c K
def zry (L:Option Lay) (c:C) (K:C->Prop) (_:Tag K):Prop:=zuO L c K
def va (P:Program) (t:TypeId) (c:C) (K:C->Prop) (_:Tag K):Prop:=zsv P t c K
def ym (L:Option Lay) (n:Int) (K:C->Prop) (_:Tag K):Prop:=ztX L n K
def zms (L:Option Lay) (n:Int) (K:C->Prop) (_:Tag K):Prop:=zt2 L n K
def zab (P:Program) (t:TypeId) (parts:List (Nat×C)) (K:C->Prop) (_:Tag K):Prop:=za1 P t parts K
def zsc (L:Option Lay) (parts:List (Nat×C)) (K:C->Prop) (_:Tag K):Prop:=zsS L parts K
def zuf (cs:Option (List C)) (K:C->Prop) (_:Tag K):Prop:=aFl cs K
def QG (P:Program) (t:TypeId) (n:Nat) (parts:List (Nat×C)) (nx:Nat) (K:C->Nat->Prop) (_:Tag K):Prop:=YC P t n parts nx K
def zbb (P:Program) (t:TypeId) (n:Nat) (parts:List (Nat×C)) (nx:Nat) (K:C->Nat->Prop) (_:Tag K):Prop:=N1 P t n parts nx K
def zsn (P:Program) (L:Option Lay) (n:Nat) (parts:List (Nat×C)) (nx:Nat) (K:C->Nat->Prop) (_:Tag K):Prop:=zvb P L n parts nx K
def zqS (L:Option Lay) (e:TypeId) (n:Nat) (parts:List (Nat×C)) (nx:Nat) (K:C->Nat->Prop) (_:Tag K):Prop:=zu3 L e n parts nx K
def zrE (cs:Option (List C)) (e k n nx:Nat) (K:C->Nat->Prop) (_:Tag K):Prop:=zu9 cs e k n nx K
def zmz (P:Program) (t:TypeId) (l c:C) (nx:Nat) (K:C->Nat->Prop) (_:Tag K):Prop:=zev P t l c nx K
def xx (P:Program) (t:TypeId) (l c:C) (σ:St) (K:C->St->Prop) (_:Tag K):Prop:=U6 P t l c σ K
def zl3 (P:Program) (L:Option Lay) (l c:C) (σ:St) (K:C->St->Prop) (_:Tag K):Prop:=zsT P L l c σ K
def zl5 (L:Option Lay) (l c:Int) (σ:St) (K:C->St->Prop) (_:Tag K):Prop:=ztR L l c σ K
def zql (P:Program) (L:Option Lay) (l c:C) (nx:Nat) (K:C->Nat->Prop) (_:Tag K):Prop:=zui P L l c nx K
def zqN (L:Option Lay) (e:TypeId) (l c:Int) (nx:Nat) (K:C->Nat->Prop) (_:Tag K):Prop:=zuK L e l c nx K
def NB (P:Program) (t:TypeId) (s x:C) (σ:St) (K:C->St->Prop) (_:Tag K):Prop:=NK P t s x σ K
def Ng (P:Program) (t:TypeId) (s x:C) (nx:Nat) (K:C->Nat->Prop) (_:Tag K):Prop:=VN P t s x nx K
def zpG (P:Program) (L:Option Lay) (s x:C) (nx:Nat) (K:C->Nat->Prop) (_:Tag K):Prop:=zuA P L s x nx K
def zqV (L:Option Lay) (e:TypeId) (s x:C) (nx:Nat) (K:C->Nat->Prop) (_:Tag K):Prop:=zuI L e s x nx K
def zow (xs:Option (List (List C))) (s:C) (e k by':Nat) (z:List Value) (nx:Nat) (K:C->Nat->Prop) (_:Tag K):Prop:=zuo xs s e k by' z nx K
def zqH (P:Program) (L:Option Lay) (id e k:Nat) (rows:List (List C)) (x:C) (σ:St) (K:C->St->Prop) (_:Tag K):Prop:=zuG P L id e k rows x σ K
def zrh (L:Option Lay) (e' id e k:Nat) (rows:List (List C)) (x:C) (σ:St) (K:C->St->Prop) (_:Tag K):Prop:=ztd L e' id e k rows x σ K
def zqF (xs:Option (List (List C))) (by' id e k:Nat) (rows:List (List C)) (σ:St) (K:C->St->Prop) (_:Tag K):Prop:=ztu xs by' id e k rows σ K
def zhz (P:Program) (G:zu) (callee:C) (args:List C) (nx:Nat) (K:C->Nat->Prop) (_:Tag K):Prop:=yN P G callee args nx K
def vh (P:Program) (G:zu) (f:FuncId) (args:List C) (nx:Nat) (K:C->Nat->Prop) (_:Tag K):Prop:=zaq P G f args nx K
def zq7 (c:C) (σ:St) (K:C->St->Prop) (_:Tag K):Prop:=ztM c σ K
def zsl (L:Option Lay) (σ:St) (K:C->St->Prop) (_:Tag K):Prop:=zuE L σ K
def zra (L:Option Lay) (p c:C) (σ:St) (K:C->St->Prop) (_:Tag K):Prop:=zuB L p c σ K
def zqg (L:Option Lay) (p c:C) (bx:List (List C)) (K:C->Prop) (_:Tag K):Prop:=zuD L p c bx K
def zpZ (cs:Option (List C)) (off size:Nat) (c:C) (K:C->Prop) (_:Tag K):Prop:=zun cs off size c K
def zrs (cs:Option (List C)) (i off size:Nat) (c:C) (σ:St) (K:C->St->Prop) (_:Tag K):Prop:=zux cs i off size c σ K
def zf1 (p:Nat) (B:(Exit->St->Prop)->St->Prop) (Q:Exit->St->Prop) (σ:St) (_:Tag B) (_:Tag Q):Prop:=zlr p B Q σ
def zbK (next:St->Prop) (Q:Exit->St->Prop) (_:Tag next) (_:Tag Q):Exit->St->Prop:=zpF next Q
def Hj (id:Nat) (Q:Exit->St->Prop) (_:Tag Q):Exit->St->Prop:=MW id Q
def Mc (Q:Exit->St->Prop) (_:Tag Q):Exit->St->Prop:=zhE Q
def zbo (next:St->Prop) (Q:Exit->St->Prop) (_:Tag next) (_:Tag Q):Exit->St->Prop:=zo8 next Q
def zl8 (K:St->Prop) (_:Tag K):Exit->St->Prop:=znE K
def zan (m:Nat) (tm:List (Nat×C)) (st:Bool) (next:St) (Q:Exit->St->Prop) (_:Tag next) (_:Tag Q):Exit->St->Prop:=zfq m tm st next Q
def xM (P:Program) (rs:List ResultVar) (K:C->St->Prop) (_:Tag K):Exit->St->Prop:=zl7 P rs K
theorem zqU:VR P G h .skip Q σ ⟨⟩ ⟨⟩=Q .normal σ:=(rfl)
theorem zoE {l:Nat}:VR P G h (.label l) Q σ ⟨⟩ ⟨⟩=Q .normal σ:=(rfl)
theorem zrD {id:Nat}:VR P G h (.exit id) Q σ ⟨⟩ ⟨⟩=Q (.exit id) σ:=(rfl)
theorem zs3:VR P G h .ret Q σ ⟨⟩ ⟨⟩=Q .ret σ:=(rfl)
theorem ztz {a b:Code}:VR P G h (.seq a b) Q σ ⟨⟩ ⟨⟩=VR P G h a (zbK (fun σ=>VR P G h b Q σ ⟨⟩ ⟨⟩) Q ⟨⟩ ⟨⟩) σ ⟨⟩ ⟨⟩:=(rfl)
theorem zqu {cc:Operand} {a b:Code}:VR P G h (.cond cc a b) Q ⟨tm,bx,nx,lg⟩ ⟨⟩ ⟨⟩=zn4 (zD G tm cc) (VR P G h a Q ⟨tm,bx,nx,lg⟩ ⟨⟩ ⟨⟩) (VR P G h b Q ⟨tm,bx,nx,lg⟩ ⟨⟩ ⟨⟩) ⟨⟩ ⟨⟩:=(rfl)
theorem zoN {id:Nat} {a:Code}:VR P G h (.block id a) Q σ ⟨⟩ ⟨⟩=VR P G h a (Hj id Q ⟨⟩) σ ⟨⟩ ⟨⟩:=(rfl)
theorem zqs {a:Code}:VR P G ⟨p,yd,bf⟩ (.loop a) Q σ ⟨⟩ ⟨⟩=zf1 p (fun Q σ=>VR P G ⟨p,yd,bf⟩ a Q σ ⟨⟩ ⟨⟩) Q σ ⟨⟩ ⟨⟩:=(rfl)
theorem zlH {a b:Code} {x:Operand} {ps:List Tmp}:VR P G ⟨p,yd,bf⟩ (.rangeFunc x ps.toArray a b) Q ⟨tm,bx,nx,lg⟩ ⟨⟩ ⟨⟩=zgO P G p (fun m=>fun Q σ=>VR P G ⟨m,yd,bf⟩ a Q σ ⟨⟩ ⟨⟩) (fun m=>fun Q σ=>VR P G ⟨m,yd,bf⟩ b Q σ ⟨⟩ ⟨⟩) Q ps (zD G tm x) ⟨tm,bx,nx,lg⟩ ⟨⟩ ⟨⟩ ⟨⟩:=(rfl)
theorem znS {a:Code}:VR P G h (.scope a) Q σ ⟨⟩ ⟨⟩=VR P G h a (Mc Q ⟨⟩) σ ⟨⟩ ⟨⟩:=(rfl)
theorem zlS {id:Nat} {l:List Oper}:VR P G ⟨p,yd,bf⟩ (.region id l.toArray false) Q σ ⟨⟩ ⟨⟩=zg2 P G ⟨p,yd,bf⟩ l.toArray l σ (Q .normal) ⟨⟩ ⟨⟩ ⟨⟩ ⟨⟩:=(rfl)
theorem zgd {id:Nat} {l:List Oper}:VR P G ⟨p,yd,bf⟩ (.region id l.toArray true) Q σ ⟨⟩ ⟨⟩=xR P G ⟨p,yd,bf⟩ l.toArray (bf id) σ (Q .normal) ⟨⟩ ⟨⟩ ⟨⟩:=(rfl)
theorem zj6 {l:List Oper}:xR P G h l.toArray [] σ KS ⟨⟩ ⟨⟩ ⟨⟩=X4 P G h l.toArray l [] σ KS ⟨⟩ ⟨⟩ ⟨⟩ ⟨⟩:=(rfl)
theorem zlo {l:List Oper} {r:List Bool}:xR P G h l.toArray (false :: r) σ KS ⟨⟩ ⟨⟩ ⟨⟩=X4 P G h l.toArray l (false :: r) σ KS ⟨⟩ ⟨⟩ ⟨⟩ ⟨⟩:=(rfl)
theorem zlJ {l:List Oper} {L:List (Nat×MFl)}:xR P G h l.toArray (Qd L) σ KS ⟨⟩ ⟨⟩ ⟨⟩=Gh P G h l.toArray l L 0 [] σ KS ⟨⟩ ⟨⟩ ⟨⟩ ⟨⟩ ⟨⟩:=(show MI P G h l.toArray (Qd L) σ KS=mix P G h l.toArray L 0 [] σ KS from by
 unfold MI Qd;rw[show Gu (zhH 199 (unR (zd6 L)))=none from rfl,H6];simp only[zbZ])
theorem zr6 {all:List Oper}:Gh P G h ops all [] q H σ KS ⟨⟩ ⟨⟩ ⟨⟩ ⟨⟩ ⟨⟩=KS σ:=(rfl)
theorem zpS {all:List Oper} {fl:MFl} {L:List (Nat×MFl)}:Gh P G h all.toArray all ((i,fl) :: L) q H σ KS ⟨⟩ ⟨⟩ ⟨⟩ ⟨⟩ ⟨⟩=xJ P G h all.toArray all L q H fl i all σ KS ⟨⟩ ⟨⟩ ⟨⟩ ⟨⟩ ⟨⟩ ⟨⟩:=(show mix P G h all.toArray ((i,fl) :: L) q H σ KS=zpA P G h all.toArray L q H fl (all[i]?) σ KS from rfl)
theorem zsx {o:Oper} {all l:List Oper} {fl:MFl} {L:List (Nat×MFl)}:xJ P G h ops all L q H fl (i+1) (o :: l) σ KS ⟨⟩ ⟨⟩ ⟨⟩ ⟨⟩ ⟨⟩ ⟨⟩=xJ P G h ops all L q H fl i l σ KS ⟨⟩ ⟨⟩ ⟨⟩ ⟨⟩ ⟨⟩ ⟨⟩:=(show zpA P G h ops L q H fl ((o :: l)[i+1]?) σ KS=zpA P G h ops L q H fl (l[i]?) σ KS from rfl)
theorem zsm {all:List Oper} {L:List (Nat×MFl)} {op:Op}:xJ P G h ops all L q H .pure 0 (⟨dst,op,ty,pos,af,g⟩ :: rest) ⟨tm,bx,nx,lg⟩ KS ⟨⟩ ⟨⟩ ⟨⟩ ⟨⟩ ⟨⟩ ⟨⟩ =
  XS ops tm g (jH P G bx (zD G tm) op nx (fun c nx'=>Gh P G h ops all L (q+1) ((q,fun b=>jH P G b (zD G tm) op nx (fun c' n'=>c'=c/\n'=nx') ⟨⟩ ⟨⟩ ⟨⟩) :: H) ⟨JP tm dst c,bx,nx',lg⟩ KS ⟨⟩ ⟨⟩ ⟨⟩ ⟨⟩ ⟨⟩) ⟨⟩ ⟨⟩ ⟨⟩) (Gh P G h ops all L (q+1) H ⟨JP tm dst (.sc undef),bx,nx,lg⟩ KS ⟨⟩ ⟨⟩ ⟨⟩ ⟨⟩ ⟨⟩) ⟨⟩ ⟨⟩ ⟨⟩:=
 (show zpA P G h ops L q H .pure (some ⟨dst,op,ty,pos,af,g⟩) ⟨tm,bx,nx,lg⟩ KS=_ from rfl)
theorem zp8 {all:List Oper} {L:List (Nat×MFl)} {op:Op}:xJ P G h ops all L q H .bar 0 (⟨dst,op,ty,pos,af,g⟩ :: rest) ⟨tm,bx,nx,lg⟩ KS ⟨⟩ ⟨⟩ ⟨⟩ ⟨⟩ ⟨⟩ ⟨⟩ =
  XS ops tm g (jT P G h op ⟨tm,bx,nx,lg⟩ (fun c σ'=>Gh P G h ops all L (q+1) [] (σ'.put dst c) KS ⟨⟩ ⟨⟩ ⟨⟩ ⟨⟩ ⟨⟩) ⟨⟩ ⟨⟩ ⟨⟩) (Gh P G h ops all L (q+1) [] ((St.mk tm bx nx lg).put dst (.sc undef)) KS ⟨⟩ ⟨⟩ ⟨⟩ ⟨⟩ ⟨⟩) ⟨⟩ ⟨⟩ ⟨⟩:=
 (show zpA P G h ops L q H .bar (some ⟨dst,op,ty,pos,af,g⟩) ⟨tm,bx,nx,lg⟩ KS=_ from rfl)
theorem zoH {all:List Oper} {L:List (Nat×MFl)} {fr:List Nat}:xJ P G h ops all L q H (.flt fr) 0 (⟨dst,.store t x y,ty,pos,af,none⟩ :: rest) ⟨tm,bx,nx,lg⟩ KS ⟨⟩ ⟨⟩ ⟨⟩ ⟨⟩ ⟨⟩ ⟨⟩ =
  jT P G h (.store t x y) ⟨tm,bx,nx,lg⟩ (fun c σ'=>zps fr σ'.bx H ⟨⟩/\Gh P G h ops all L (q+1) H ⟨JP tm dst c,σ'.bx,σ'.nx,lg⟩ KS ⟨⟩ ⟨⟩ ⟨⟩ ⟨⟩ ⟨⟩) ⟨⟩ ⟨⟩ ⟨⟩:=
 (show ((none:Option (Nat×Bool))=none/\ZM P t (zD G tm x) (zD G tm y) ⟨tm,bx,nx,lg⟩ fun c σ'=>Xt fr σ'.bx H/\mix P G h ops L (q+1) H ⟨JP tm dst c,σ'.bx,σ'.nx,lg⟩ KS)=_ from propext ⟨fun h=>h.2,fun h=>⟨rfl,h⟩⟩)
theorem zoj {all:List Oper} {L:List (Nat×MFl)} {fr:List Nat}:xJ P G h ops all L q H (.flt fr) 0 (⟨dst,.call ⟨.builtin .copy,#[x,y],#[t,t']⟩,ty,pos,af,none⟩ :: rest) ⟨tm,bx,nx,lg⟩ KS ⟨⟩ ⟨⟩ ⟨⟩ ⟨⟩ ⟨⟩ ⟨⟩ =
  yu P t (zD G tm x) (zD G tm y) ⟨tm,bx,nx,lg⟩ (fun c σ'=>zps fr σ'.bx H ⟨⟩/\Gh P G h ops all L (q+1) H ⟨JP tm dst c,σ'.bx,σ'.nx,lg⟩ KS ⟨⟩ ⟨⟩ ⟨⟩ ⟨⟩ ⟨⟩) ⟨⟩:=
 (show ((none:Option (Nat×Bool))=none/\Zs P t (zD G tm x) (zD G tm y) ⟨tm,bx,nx,lg⟩ fun c σ'=>Xt fr σ'.bx H/\mix P G h ops L (q+1) H ⟨JP tm dst c,σ'.bx,σ'.nx,lg⟩ KS)=_ from propext ⟨fun h=>h.2,fun h=>⟨rfl,h⟩⟩)
theorem zr9 {all:List Oper} {L:List (Nat×MFl)} {fr:List Nat} {tys:Array TypeId}:xJ P G h ops all L q H (.flt fr) 0 (⟨dst,.call ⟨.value x,us.toArray,tys⟩,ty,pos,af,none⟩ :: rest) ⟨tm,bx,nx,lg⟩ KS ⟨⟩ ⟨⟩ ⟨⟩ ⟨⟩ ⟨⟩ ⟨⟩ =
  zeg P G (zD G tm x) (us.map (zD G tm)) ⟨tm,bx,nx,lg⟩ (fun c b' n'=>zps fr b' H ⟨⟩/\Gh P G h ops all L (q+1) H ⟨JP tm dst c,b',n',lg⟩ KS ⟨⟩ ⟨⟩ ⟨⟩ ⟨⟩ ⟨⟩) ⟨⟩:=
 (show ((none:Option (Nat×Bool))=none/\zbt P G (zD G tm x) (us.map (zD G tm)) ⟨tm,bx,nx,lg⟩ fun c b' n'=>Xt fr b' H/\mix P G h ops L (q+1) H ⟨JP tm dst c,b',n',lg⟩ KS)=_ from propext ⟨fun h=>h.2,fun h=>⟨rfl,h⟩⟩)
theorem zou {K4:C->List (List C)->Nat->Prop} {fs:List C}:zeg P G (.clo (.func f) fs cs) args ⟨tm,bx,nx,lg⟩ K4 ⟨⟩=zua P G f (fs++args++cs) ⟨tm,bx,nx,lg⟩ K4 ⟨⟩:=(rfl)
theorem zod {p:Prop} [Decidable p]:(if p then True else True)=True:=ite_self _
theorem zrO {fr:List Nat} {b:List (List C)}:zps fr b [] ⟨⟩=True:=(rfl)
theorem zq5 {fr:List Nat} {b:List (List C)} {f:List (List C)->Prop} {r:List HU}:zps fr b ((k,f) :: r) ⟨⟩=((if k∈fr then f b else True)/\zps fr b r ⟨⟩):=(show ((match fr.contains k with | true=>f b | false=>True)/\Xt fr b r)=((if k∈fr then f b else True)/\Xt fr b r) from by
 cases hq:fr.contains k with
 | true=>rw[if_pos (by simpa using hq)]
 | false=>rw[if_neg fun h=>by simp[h]at hq])
theorem ziI {l:List Oper} {a s:Nat}:xR P G h l.toArray (js a s) σ KS ⟨⟩ ⟨⟩ ⟨⟩=XA P G l.toArray a s l 0 none σ KS ⟨⟩ ⟨⟩ ⟨⟩:=(show MI P G h l.toArray (js a s) σ KS=jM P G l.toArray a s l 0 none σ KS from by unfold MI;rw[xh])
theorem zga {a s:Nat} {cs:Option (List C)} {l:List Oper}:XA P G l.toArray a s [] i cs σ KS ⟨⟩ ⟨⟩ ⟨⟩=zl9 cs ((l[a]?).bind (·.dst)) σ KS ⟨⟩:=(show jM P G l.toArray a s [] i cs σ KS=zo2 cs ((l[a]?).bind (·.dst)) σ KS from by simp only[jM,zo2,Aq];rfl)
theorem zg0 {a s:Nat} {cs:Option (List C)}:XA P G ops a s (⟨dst,.alloc t,ty,pos,af,g⟩ :: rest) a cs ⟨tm,bx,nx,lg⟩ KS ⟨⟩ ⟨⟩ ⟨⟩=zmc (lay P t) (XA P G ops a s rest (a+1) cs ⟨JP tm dst .any,bx,nx,lg⟩ KS ⟨⟩ ⟨⟩ ⟨⟩) ⟨⟩:=(show jM P G ops a s (⟨dst,.alloc t,ty,pos,af,g⟩ :: rest) a cs ⟨tm,bx,nx,lg⟩ KS=zlG (lay P t) (jM P G ops a s rest (a+1) cs ⟨JP tm dst .any,bx,nx,lg⟩ KS) from by simp only[jM,if_true])
theorem zfd {a s:Nat} {cs:Option (List C)} (hsa:(s==a)=false):XA P G ops a s (⟨dst,.store t y x,ty,pos,af,g⟩ :: rest) s cs ⟨tm,bx,nx,lg⟩ KS ⟨⟩ ⟨⟩ ⟨⟩=zl6 (lay P t) (zD G tm x) (fun c=>XA P G ops a s rest (s+1) (some c.cells) ⟨JP tm dst .any,bx,nx,lg⟩ KS ⟨⟩ ⟨⟩ ⟨⟩) ⟨⟩:=(show jM P G ops a s (⟨dst,.store t y x,ty,pos,af,g⟩ :: rest) s cs ⟨tm,bx,nx,lg⟩ KS=ziX (lay P t) (zD G tm x) fun c=>jM P G ops a s rest (s+1) (some c.cells) ⟨JP tm dst .any,bx,nx,lg⟩ KS from by simp only[O1]at hsa;simp only[jM,if_neg hsa,if_true])
theorem zlY {a s:Nat} {cs:Option (List C)} {op:Op} (hia:(i==a)=false) (his:(i==s)=false):XA P G ops a s (⟨dst,op,ty,pos,af,g⟩ :: rest) i cs ⟨tm,bx,nx,lg⟩ KS ⟨⟩ ⟨⟩ ⟨⟩=XS ops tm g (jH P G bx (zD G tm) op nx (fun c nx'=>XA P G ops a s rest (i+1) cs ⟨JP tm dst c,bx,nx',lg⟩ KS ⟨⟩ ⟨⟩ ⟨⟩) ⟨⟩ ⟨⟩ ⟨⟩) (XA P G ops a s rest (i+1) cs ⟨JP tm dst (.sc undef),bx,nx,lg⟩ KS ⟨⟩ ⟨⟩ ⟨⟩) ⟨⟩ ⟨⟩ ⟨⟩:=(show jM P G ops a s (⟨dst,op,ty,pos,af,g⟩ :: rest) i cs ⟨tm,bx,nx,lg⟩ KS=jJ ops tm g (JN P G bx (zD G tm) op nx fun c nx'=>jM P G ops a s rest (i+1) cs ⟨JP tm dst c,bx,nx',lg⟩ KS) (jM P G ops a s rest (i+1) cs ⟨JP tm dst (.sc undef),bx,nx,lg⟩ KS) from by simp only[O1]at hia his;simp only[jM,if_neg hia,if_neg his])
theorem zrl {u:Tmp}:zl9 (some cs) (some u) ⟨tm,bx,nx,lg⟩ KS ⟨⟩=KS ⟨(u,.ptr bx.length 0) :: tm,bx++[cs],nx,lg⟩:=(rfl)
theorem zq2 {z1:List Value}:zmc (some ⟨kd,k,b1,some z1⟩) X ⟨⟩=(z1.length=k/\(z1.all Value.oneCell')=true/\X):=(rfl)
theorem zq0:zl6 (some L) c K ⟨⟩=(c.partB=true/\(c.cells.all C.cellB)=true/\c.cells.length=L.size/\K c):=(rfl)
theorem zrV:zl8 KS ⟨⟩ .normal σ=KS σ:=(rfl)
theorem zgt {next:St} {b:Bool}:zan m tm b next Q ⟨⟩ ⟨⟩ .normal σ=(b=false/\JY m ⟨[],σ.bx,σ.nx,σ.lg⟩ (next.wt [])):=(rfl)
theorem zae {next:St} {b:Bool}:zan m tm b next Q ⟨⟩ ⟨⟩ .ret σ=(b=true/\∃ σ':St,σ'.bx.length=m/\JY m ⟨[],σ.bx,σ.nx,σ.lg⟩ (σ'.wt [])/\Q .ret (σ'.wt tm)):=(rfl)
theorem zuz {tm2:List (Nat×C)}:St.wt ⟨tm,bx,nx,lg⟩ tm2=⟨tm2,bx,nx,lg⟩:=(rfl)
theorem ziY:VU [] cs tm=tm:=(rfl)
theorem znC {ps:List Tmp}:VU (u :: ps) (c :: cs) tm=VU ps cs ((u,c) :: tm):=(rfl)
theorem zox:HT m [] = []:=(rfl)
theorem zqT {r:List (Nat×C)}:HT m ((u,c) :: r)=(u,c.sel (Gq m)) :: HT m r:=(rfl)
theorem zqG {next:St->Prop}:zbK next Q ⟨⟩ ⟨⟩ .normal σ=next σ:=(rfl)
theorem v7 {next:St->Prop} {id:Nat}:zbK next Q ⟨⟩ ⟨⟩ (.exit id) σ=Q (.exit id) σ:=(rfl)
theorem zdX {next:St->Prop}:zbK next Q ⟨⟩ ⟨⟩ .ret σ=Q .ret σ:=(rfl)
theorem zff {id:Nat}:Hj id Q ⟨⟩ .normal σ=Q .normal σ:=(rfl)
theorem xe {id:Nat}:Hj id Q ⟨⟩ (.exit id) σ=Q .normal σ:=(show MW id Q (.exit id) σ=Q .normal σ from if_pos rfl)
theorem yK {id id2:Nat} (h:(id2==id)=false):Hj id Q ⟨⟩ (.exit id2) σ=Q (.exit id2) σ:=(show MW id Q (.exit id2) σ=Q (.exit id2) σ from if_neg (by simpa using h))
theorem vP {id:Nat}:Hj id Q ⟨⟩ .ret σ=Q .ret σ:=(rfl)
theorem zdQ:Mc Q ⟨⟩ .normal σ=Q .normal σ:=(rfl)
theorem xF:Mc Q ⟨⟩ .ret σ=Q .ret σ:=(rfl)
theorem zi1 {next:St->Prop}:zbo next Q ⟨⟩ ⟨⟩ .normal σ=next σ:=(rfl)
theorem uD {next:St->Prop} {id:Nat}:zbo next Q ⟨⟩ ⟨⟩ (.exit id) σ=Q (.exit id) σ:=(rfl)
theorem zc0 {next:St->Prop}:zbo next Q ⟨⟩ ⟨⟩ .ret σ=Q .ret σ:=(rfl)
theorem znc {rs:List ResultVar}:xM P rs K3 ⟨⟩ .normal σ=zb9 P σ rs (fun c=>K3 c σ) ⟨⟩:=(rfl)
theorem zob {rs:List ResultVar}:xM P rs K3 ⟨⟩ .ret σ=zb9 P σ rs (fun c=>K3 c σ) ⟨⟩:=(rfl)
theorem zp7:zb9 P σ [] K ⟨⟩=K (.tup []):=(rfl)
theorem zrv {a:ResultVar}:zb9 P σ [a] K ⟨⟩=YU P σ a K ⟨⟩:=(rfl)
theorem zq8 {a b:ResultVar}:zb9 P σ [a,b] K ⟨⟩=YU P σ a (fun c=>YU P σ b (fun d=>K (.tup [c,d])) ⟨⟩) ⟨⟩:=(rfl)
theorem zrd {a b c1:ResultVar}:zb9 P σ [a,b,c1] K ⟨⟩=YU P σ a (fun c=>YU P σ b (fun d=>YU P σ c1 (fun e=>K (.tup [c,d,e])) ⟨⟩) ⟨⟩) ⟨⟩:=(rfl)
theorem zsa:YU P ⟨tm,bx,nx,lg⟩ (.tmp u) K ⟨⟩=K (jZ tm u):=(rfl)
theorem zsj:YU P ⟨tm,bx,nx,lg⟩ (.cell u t) K ⟨⟩=zaY P t (jZ tm u) bx K ⟨⟩:=(rfl)
theorem znl:zg2 P G h ops [] σ KS ⟨⟩ ⟨⟩ ⟨⟩ ⟨⟩=KS σ:=(rfl)
theorem zsk {op:Op}:zg2 P G h ops (⟨dst,op,ty,pos,af,g⟩ :: rest) ⟨tm,bx,nx,lg⟩ KS ⟨⟩ ⟨⟩ ⟨⟩ ⟨⟩=XS ops tm g (jT P G h op ⟨tm,bx,nx,lg⟩ (fun c σ'=>zg2 P G h ops rest (σ'.put dst c) KS ⟨⟩ ⟨⟩ ⟨⟩ ⟨⟩) ⟨⟩ ⟨⟩ ⟨⟩) (zg2 P G h ops rest (St.put ⟨tm,bx,nx,lg⟩ dst (.sc undef)) KS ⟨⟩ ⟨⟩ ⟨⟩ ⟨⟩) ⟨⟩ ⟨⟩ ⟨⟩:=(rfl)
theorem zlW:X4 P G h ops [] brs σ KS ⟨⟩ ⟨⟩ ⟨⟩ ⟨⟩=KS σ:=(rfl)
theorem zi2 {op:Op}:X4 P G h ops (⟨dst,op,ty,pos,af,g⟩ :: rest) [] ⟨tm,bx,nx,lg⟩ KS ⟨⟩ ⟨⟩ ⟨⟩ ⟨⟩=XS ops tm g (jH P G bx (zD G tm) op nx (fun c nx'=>X4 P G h ops rest [] ⟨JP tm dst c,bx,nx',lg⟩ KS ⟨⟩ ⟨⟩ ⟨⟩ ⟨⟩) ⟨⟩ ⟨⟩ ⟨⟩) (X4 P G h ops rest [] ⟨JP tm dst (.sc undef),bx,nx,lg⟩ KS ⟨⟩ ⟨⟩ ⟨⟩ ⟨⟩) ⟨⟩ ⟨⟩ ⟨⟩:=(rfl)
theorem zk0 {op:Op}:X4 P G h ops (⟨dst,op,ty,pos,af,g⟩ :: rest) (false :: brs) ⟨tm,bx,nx,lg⟩ KS ⟨⟩ ⟨⟩ ⟨⟩ ⟨⟩=XS ops tm g (jH P G bx (zD G tm) op nx (fun c nx'=>X4 P G h ops rest brs ⟨JP tm dst c,bx,nx',lg⟩ KS ⟨⟩ ⟨⟩ ⟨⟩ ⟨⟩) ⟨⟩ ⟨⟩ ⟨⟩) (X4 P G h ops rest brs ⟨JP tm dst (.sc undef),bx,nx,lg⟩ KS ⟨⟩ ⟨⟩ ⟨⟩ ⟨⟩) ⟨⟩ ⟨⟩ ⟨⟩:=(rfl)
theorem zjP {op:Op}:X4 P G h ops (⟨dst,op,ty,pos,af,g⟩ :: rest) (true :: brs) ⟨tm,bx,nx,lg⟩ KS ⟨⟩ ⟨⟩ ⟨⟩ ⟨⟩=XS ops tm g (jT P G h op ⟨tm,bx,nx,lg⟩ (fun c σ'=>X4 P G h ops rest brs (σ'.put dst c) KS ⟨⟩ ⟨⟩ ⟨⟩ ⟨⟩) ⟨⟩ ⟨⟩ ⟨⟩) (X4 P G h ops rest brs ⟨JP tm dst (.sc undef),bx,nx,lg⟩ KS ⟨⟩ ⟨⟩ ⟨⟩ ⟨⟩) ⟨⟩ ⟨⟩ ⟨⟩:=(rfl)
theorem zkP:XS ops tm none X Y ⟨⟩ ⟨⟩ ⟨⟩=X:=(rfl)
theorem zmK {l:List Oper} {want:Bool}:XS l.toArray tm (some (j,want)) X Y ⟨⟩ ⟨⟩ ⟨⟩=ztt ((l[j]?).bind (·.dst)) tm want X Y ⟨⟩ ⟨⟩:=(show jJ l.toArray tm (some (j,want)) X Y=aGd ((l[j]?).bind (·.dst)) tm want X Y from by simp only[jJ,Aq];rfl)
theorem zqR {u:Tmp}:ztt (some u) tm true X Y ⟨⟩ ⟨⟩=ziO (jZ tm u) Y X Y ⟨⟩ ⟨⟩ ⟨⟩:=(rfl)
theorem zpY {u:Tmp}:ztt (some u) tm false X Y ⟨⟩ ⟨⟩=ziO (jZ tm u) Y Y X ⟨⟩ ⟨⟩ ⟨⟩:=(rfl)
theorem zoU {U:Prop} {b:Bool}:ziO (.sc (.bool b)) U X Y ⟨⟩ ⟨⟩ ⟨⟩=zn4 (.sc (.bool b)) X Y ⟨⟩ ⟨⟩:=(rfl)
theorem zn1 {U:Prop}:ziO (.sc undef) U X Y ⟨⟩ ⟨⟩ ⟨⟩=U:=(rfl)
theorem zdE {u:Tmp}:St.put ⟨tm,bx,nx,lg⟩ (some u) c=⟨(u,c) :: tm,bx,nx,lg⟩:=(rfl)
theorem zb8:St.put ⟨tm,bx,nx,lg⟩ none c=⟨tm,bx,nx,lg⟩:=(rfl)
theorem vi {u:Tmp}:JP tm (some u) c=(u,c) :: tm:=(rfl)
theorem vL:JP tm none c=tm:=(rfl)
theorem Gc {ps:List (Nat×Operand)}:jT P G h (.buildSlice t n ps.toArray) ⟨tm,bx,nx,lg⟩ K3 ⟨⟩ ⟨⟩ ⟨⟩=if h.bx t then Gy P t n (ps.map fun p=>(p.1,zD G tm p.2)) ⟨tm,bx,nx,lg⟩ K3 ⟨⟩ else QG P t n (ps.map fun p=>(p.1,zD G tm p.2)) nx (fun c nx'=>K3 c ⟨tm,bx,nx',lg⟩) ⟨⟩:=(rfl)
theorem H0 {ps:List (Nat×Operand)} {ev:Operand->C}:jH P G bx ev (.buildSlice t n ps.toArray) nx K2 ⟨⟩ ⟨⟩ ⟨⟩=zbb P t n (ps.map fun p=>(p.1,ev p.2)) nx K2 ⟨⟩:=(rfl)
theorem ztU:zbb P t (n+1) ps nx K2 ⟨⟩=QG P t (n+1) ps nx K2 ⟨⟩:=(rfl)
theorem Nh:jT P G h (.makeSlice t x y) ⟨tm,bx,nx,lg⟩ K3 ⟨⟩ ⟨⟩ ⟨⟩=if h.bx t then xx P t (zD G tm x) (zD G tm y) ⟨tm,bx,nx,lg⟩ K3 ⟨⟩ else zmz P t (zD G tm x) (zD G tm y) nx (fun c nx'=>K3 c ⟨tm,bx,nx',lg⟩) ⟨⟩:=(rfl)
theorem zp9:Hd.bx ⟨p,yd,bf⟩ t=(bf (1000000+t)).headD false:=(rfl)
theorem zo6:Hd.bx2 ⟨p,yd,bf⟩ t=((bf (1000000+t)).drop 1).headD false:=(rfl)
theorem zlv:jT P G h (.move x) ⟨tm,bx,nx,lg⟩ K3 ⟨⟩ ⟨⟩ ⟨⟩=K3 (zD G tm x) ⟨tm,bx,nx,lg⟩:=(rfl)
theorem zkp {ev:Operand->C}:jH P G bx ev (.move x) nx K2 ⟨⟩ ⟨⟩ ⟨⟩=K2 (ev x) nx:=(rfl)
theorem zds:jT P G h (.assign x) ⟨tm,bx,nx,lg⟩ K3 ⟨⟩ ⟨⟩ ⟨⟩=K3 (zD G tm x) ⟨tm,bx,nx,lg⟩:=(rfl)
theorem zch {ev:Operand->C}:jH P G bx ev (.assign x) nx K2 ⟨⟩ ⟨⟩ ⟨⟩=K2 (ev x) nx:=(rfl)
theorem zjK:jT P G h (.pick x y z) ⟨tm,bx,nx,lg⟩ K3 ⟨⟩ ⟨⟩ ⟨⟩=zn4 (zD G tm x) (K3 (zD G tm y) ⟨tm,bx,nx,lg⟩) (K3 (zD G tm z) ⟨tm,bx,nx,lg⟩) ⟨⟩ ⟨⟩:=(rfl)
theorem zi6 {ev:Operand->C}:jH P G bx ev (.pick x y z) nx K2 ⟨⟩ ⟨⟩ ⟨⟩=zn4 (ev x) (K2 (ev y) nx) (K2 (ev z) nx) ⟨⟩ ⟨⟩:=(rfl)
theorem zhe {ps:List (Nat×Operand)}:jT P G h (.build t ps.toArray) ⟨tm,bx,nx,lg⟩ K3 ⟨⟩ ⟨⟩ ⟨⟩=zab P t (ps.map fun p=>(p.1,zD G tm p.2)) (fun c=>K3 c ⟨tm,bx,nx,lg⟩) ⟨⟩:=(rfl)
theorem zfZ {ps:List (Nat×Operand)} {ev:Operand->C}:jH P G bx ev (.build t ps.toArray) nx K2 ⟨⟩ ⟨⟩ ⟨⟩=zab P t (ps.map fun p=>(p.1,ev p.2)) (fun c=>K2 c nx) ⟨⟩:=(rfl)
theorem zlc:jT P G h (.load t x) ⟨tm,bx,nx,lg⟩ K3 ⟨⟩ ⟨⟩ ⟨⟩=zaY P t (zD G tm x) bx (fun c=>K3 c ⟨tm,bx,nx,lg⟩) ⟨⟩:=(rfl)
theorem ziT {ev:Operand->C}:jH P G bx ev (.load t x) nx K2 ⟨⟩ ⟨⟩ ⟨⟩=zaY P t (ev x) bx (fun c=>K2 c nx) ⟨⟩:=(rfl)
theorem xP:jT P G h (.nilCheck x) ⟨tm,bx,nx,lg⟩ K3 ⟨⟩ ⟨⟩ ⟨⟩=znd (zD G tm x) (fun c=>K3 c ⟨tm,bx,nx,lg⟩) ⟨⟩:=(rfl)
theorem ME {ev:Operand->C}:jH P G bx ev (.nilCheck x) nx K2 ⟨⟩ ⟨⟩ ⟨⟩=znd (ev x) (fun c=>K2 c nx) ⟨⟩:=(rfl)
theorem zfc:jT P G h (.binOp op t x y t') ⟨tm,bx,nx,lg⟩ K3 ⟨⟩ ⟨⟩ ⟨⟩=zaf P t op (zD G tm x) (zD G tm y) (fun c=>K3 c ⟨tm,bx,nx,lg⟩) ⟨⟩:=(rfl)
theorem zgP {ev:Operand->C}:jH P G bx ev (.binOp op t x y t') nx K2 ⟨⟩ ⟨⟩ ⟨⟩=zaf P t op (ev x) (ev y) (fun c=>K2 c nx) ⟨⟩:=(rfl)
theorem zjM {op:UnOp}:jT P G h (.unOp op t x) ⟨tm,bx,nx,lg⟩ K3 ⟨⟩ ⟨⟩ ⟨⟩=zte op (zD G tm x) (fun c=>K3 c ⟨tm,bx,nx,lg⟩) ⟨⟩:=(rfl)
theorem zi7 {op:UnOp} {ev:Operand->C}:jH P G bx ev (.unOp op t x) nx K2 ⟨⟩ ⟨⟩ ⟨⟩=zte op (ev x) (fun c=>K2 c nx) ⟨⟩:=(rfl)
theorem ul:jT P G h (.convert t t' x) ⟨tm,bx,nx,lg⟩ K3 ⟨⟩ ⟨⟩ ⟨⟩=ve P bx t t' (zD G tm x) (fun c=>K3 c ⟨tm,bx,nx,lg⟩) ⟨⟩:=(rfl)
theorem M1 {fs cs:List Operand}:jT P G h (.makeFunc fn fs.toArray cs.toArray) ⟨tm,bx,nx,lg⟩ K3 ⟨⟩ ⟨⟩ ⟨⟩=K3 (.clo fn (fs.map (zD G tm)) (cs.map (zD G tm))) ⟨tm,bx,nx,lg⟩:=(rfl)
theorem zgD {lo hi mx:Option Operand}:jT P G h (.slice t x lo hi mx) ⟨tm,bx,nx,lg⟩ K3 ⟨⟩ ⟨⟩ ⟨⟩=vR P t (zD G tm x) (lo.map (zD G tm)) (hi.map (zD G tm)) (mx.map (zD G tm)) (fun c=>K3 c ⟨tm,bx,nx,lg⟩) ⟨⟩:=(rfl)
theorem zfK {lo hi mx:Option Operand} {ev:Operand->C}:jH P G bx ev (.slice t x lo hi mx) nx K2 ⟨⟩ ⟨⟩ ⟨⟩=vR P t (ev x) (lo.map ev) (hi.map ev) (mx.map ev) (fun c=>K2 c nx) ⟨⟩:=(rfl)
theorem NZ {f:Nat}:jT P G h (.fieldAddr t x f) ⟨tm,bx,nx,lg⟩ K3 ⟨⟩ ⟨⟩ ⟨⟩=ZE P t (zD G tm x) f (fun c=>K3 c ⟨tm,bx,nx,lg⟩) ⟨⟩:=(rfl)
theorem NE {f:Nat} {ev:Operand->C}:jH P G bx ev (.fieldAddr t x f) nx K2 ⟨⟩ ⟨⟩ ⟨⟩=ZE P t (ev x) f (fun c=>K2 c nx) ⟨⟩:=(rfl)
theorem zhX {f:Nat}:jT P G h (.field t x f) ⟨tm,bx,nx,lg⟩ K3 ⟨⟩ ⟨⟩ ⟨⟩=vg P t (zD G tm x) f (fun c=>K3 c ⟨tm,bx,nx,lg⟩) ⟨⟩:=(rfl)
theorem zfL {f:Nat} {ev:Operand->C}:jH P G bx ev (.field t x f) nx K2 ⟨⟩ ⟨⟩ ⟨⟩=vg P t (ev x) f (fun c=>K2 c nx) ⟨⟩:=(rfl)
theorem NG:jT P G h (.indexAddr t x y) ⟨tm,bx,nx,lg⟩ K3 ⟨⟩ ⟨⟩ ⟨⟩=ZB P t (zD G tm x) (zD G tm y) (fun c=>K3 c ⟨tm,bx,nx,lg⟩) ⟨⟩:=(rfl)
theorem Mi {ev:Operand->C}:jH P G bx ev (.indexAddr t x y) nx K2 ⟨⟩ ⟨⟩ ⟨⟩=ZB P t (ev x) (ev y) (fun c=>K2 c nx) ⟨⟩:=(rfl)
theorem zgC:jT P G h (.index t x y) ⟨tm,bx,nx,lg⟩ K3 ⟨⟩ ⟨⟩ ⟨⟩=uc P t (zD G tm x) (zD G tm y) (fun c=>K3 c ⟨tm,bx,nx,lg⟩) ⟨⟩:=(rfl)
theorem zeh {ev:Operand->C}:jH P G bx ev (.index t x y) nx K2 ⟨⟩ ⟨⟩ ⟨⟩=uc P t (ev x) (ev y) (fun c=>K2 c nx) ⟨⟩:=(rfl)
theorem y7:jT P G h (.extract x i) ⟨tm,bx,nx,lg⟩ K3 ⟨⟩ ⟨⟩ ⟨⟩=k9 (zD G tm x) i (fun c=>K3 c ⟨tm,bx,nx,lg⟩) ⟨⟩:=(rfl)
theorem vI {ev:Operand->C}:jH P G bx ev (.extract x i) nx K2 ⟨⟩ ⟨⟩ ⟨⟩=k9 (ev x) i (fun c=>K2 c nx) ⟨⟩:=(rfl)
theorem zex {ts:List TypeId}:jT P G h (.call ⟨.value x,us.toArray,ts.toArray⟩) ⟨tm,bx,nx,lg⟩ K3 ⟨⟩ ⟨⟩ ⟨⟩=vD P G h (zD G tm x) (us.map (zD G tm)) ⟨tm,bx,nx,lg⟩ K3 ⟨⟩ ⟨⟩:=(rfl)
theorem zhk {ts:List TypeId} {ev:Operand->C}:jH P G bx ev (.call ⟨.value x,us.toArray,ts.toArray⟩) nx K2 ⟨⟩ ⟨⟩ ⟨⟩=zhz P G (ev x) (us.map ev) nx K2 ⟨⟩:=(rfl)
theorem zm1:jT P G h (.call ⟨.builtin .len,#[x],#[t]⟩) ⟨tm,bx,nx,lg⟩ K3 ⟨⟩ ⟨⟩ ⟨⟩=va P t (zD G tm x) (fun c=>K3 c ⟨tm,bx,nx,lg⟩) ⟨⟩:=(rfl)
theorem zos {ev:Operand->C}:jH P G bx ev (.call ⟨.builtin .len,#[x],#[t]⟩) nx K2 ⟨⟩ ⟨⟩ ⟨⟩=va P t (ev x) (fun c=>K2 c nx) ⟨⟩:=(rfl)
theorem uh {r:Option Operand}:jT P G h (.makeMap t r) ⟨tm,bx,nx,lg⟩ K3 ⟨⟩ ⟨⟩ ⟨⟩=zpJ (zd8 P t) t (r.map (zD G tm)) nx (fun c nx'=>K3 c ⟨tm,bx,nx',lg⟩) ⟨⟩:=(rfl)
theorem zrj {kd:MKd} {z:C}:zpJ (some (kd,z)) t none nx K2 ⟨⟩=K2 (.mo nx t kd.nil []) (nx+1):=(rfl)
theorem zoO {k:IntKind}:MKd.nil (.int k) = .int k []:=(rfl)
theorem zbT {ok:Bool} {ev:Operand->C}:jH P G bx ev (.lookup t x y ok) nx K2 ⟨⟩ ⟨⟩ ⟨⟩=zq1 (zd8 P t) t (ev x) (ev y) ok (fun c=>K2 c nx) ⟨⟩:=(rfl)
theorem zrN {k q:IntKind} {z:C} {id:Nat} {l:List Int} {n:Int} {ok:Bool}:zq1 (some (.int k,z)) t (.mo id t2 (.int k2 l) vs) (.sc (.int q n)) ok K ⟨⟩=(t2=t/\k2=k/\q=k/\zeE (zjv n l vs) z ok K ⟨⟩):=(rfl)
theorem zk9 {z:C}:zeE (some c) z false K ⟨⟩=K c:=(rfl)
theorem zbV {w:Operand}:jT P G h (.insert t x y w) ⟨tm,bx,nx,lg⟩ K3 ⟨⟩ ⟨⟩ ⟨⟩=zpU (zd8 P t) t (zD G tm x) (zD G tm y) (zD G tm w) ⟨tm,bx,nx,lg⟩ K3 ⟨⟩:=(rfl)
theorem zqP {k q:IntKind} {z:C} {id:Nat} {l:List Int} {n:Int}:zpU (some (.int k,z)) t (.mo id t2 (.int k2 l) vs) (.sc (.int q n)) d ⟨tm,bx,nx,lg⟩ K3 ⟨⟩=(t2=t/\k2=k/\q=k/\K3 .any ⟨ziD id (.int k (H1 n d.frz l vs).1) (H1 n d.frz l vs).2 tm,zey id (.int k (H1 n d.frz l vs).1) (H1 n d.frz l vs).2 bx,nx,lg⟩):=(rfl)
theorem zc4:jT P G h (.call ⟨.builtin .append,#[x,y],#[t,t]⟩) ⟨tm,bx,nx,lg⟩ K3 ⟨⟩ ⟨⟩ ⟨⟩=if h.bx t then if h.bx2 t then ue P t (zD G tm x) (zD G tm y) ⟨tm,bx,nx,lg⟩ K3 ⟨⟩ else zaJ P h.p t (zD G tm x) (zD G tm y) ⟨tm,bx,nx,lg⟩ K3 ⟨⟩ else NB P t (zD G tm x) (zD G tm y) ⟨tm,bx,nx,lg⟩ K3 ⟨⟩:=(show Mu P G h (.call ⟨.builtin .append,#[x,y],#[t,t]⟩) ⟨tm,bx,nx,lg⟩ K3=if h.bx t then if h.bx2 t then Y1 P t (zD G tm x) (zD G tm y) ⟨tm,bx,nx,lg⟩ K3 else Hg P h.p t (zD G tm x) (zD G tm y) ⟨tm,bx,nx,lg⟩ K3 else NK P t (zD G tm x) (zD G tm y) ⟨tm,bx,nx,lg⟩ K3 from by simp[Mu,uj])
theorem zkx (h0:(t'==t)=false):jT P G h (.call ⟨.builtin .append,#[x,y],#[t,t']⟩) ⟨tm,bx,nx,lg⟩ K3 ⟨⟩ ⟨⟩ ⟨⟩=zbh P t t' (zD G tm x) (zD G tm y) ⟨tm,bx,nx,lg⟩ K3 ⟨⟩:=(show Mu P G h (.call ⟨.builtin .append,#[x,y],#[t,t']⟩) ⟨tm,bx,nx,lg⟩ K3=NS P t t' (zD G tm x) (zD G tm y) ⟨tm,bx,nx,lg⟩ K3 from by simp only[O1]at h0;simp[Mu,uj,h0])
theorem zjn:jT P G h (.call ⟨.builtin .copy,#[x,y],#[t,t']⟩) ⟨tm,bx,nx,lg⟩ K3 ⟨⟩ ⟨⟩ ⟨⟩=yu P t (zD G tm x) (zD G tm y) ⟨tm,bx,nx,lg⟩ K3 ⟨⟩:=(show Mu P G h (.call ⟨.builtin .copy,#[x,y],#[t,t']⟩) ⟨tm,bx,nx,lg⟩ K3=Zs P t (zD G tm x) (zD G tm y) ⟨tm,bx,nx,lg⟩ K3 from by simp[Mu,uj])
theorem zhf:jT P G h (.call ⟨.builtin .clear,#[x],#[t]⟩) ⟨tm,bx,nx,lg⟩ K3 ⟨⟩ ⟨⟩ ⟨⟩=vf P t (zD G tm x) ⟨tm,bx,nx,lg⟩ K3 ⟨⟩:=(show Mu P G h (.call ⟨.builtin .clear,#[x],#[t]⟩) ⟨tm,bx,nx,lg⟩ K3=kW P t (zD G tm x) ⟨tm,bx,nx,lg⟩ K3 from by simp[Mu,uj])
theorem zm8:jT P G h (.call ⟨.builtin .max,#[x,y],#[t,t']⟩) ⟨tm,bx,nx,lg⟩ K3 ⟨⟩ ⟨⟩ ⟨⟩=zqj (zD G tm x) (zD G tm y) (fun c=>K3 c ⟨tm,bx,nx,lg⟩) ⟨⟩:=(rfl)
theorem zsM {k k':IntKind} {n m:Int}:zqj (.sc (.int k n)) (.sc (.int k' m)) K ⟨⟩=K (.sc (.int k (if m>n then m else n))):=(rfl)
theorem zoA:jT P G h (.call ⟨.builtin .cap,#[x],#[t]⟩) ⟨tm,bx,nx,lg⟩ K3 ⟨⟩ ⟨⟩ ⟨⟩=zrm P t (zD G tm x) (fun c=>K3 c ⟨tm,bx,nx,lg⟩) ⟨⟩:=(show Mu P G h (.call ⟨.builtin .cap,#[x],#[t]⟩) ⟨tm,bx,nx,lg⟩ K3=zqJ P t (zD G tm x) fun c=>K3 c ⟨tm,bx,nx,lg⟩ from by simp[Mu,uj])
theorem ztq:zrm P t c K ⟨⟩=zij (lay P t) c K ⟨⟩:=(rfl)
theorem zjA:zij (some ⟨.slice e,s1,b1,z1⟩) (.bs i off k n cap) K ⟨⟩=K (.sc (.int .i64 (cap:Int))):=(rfl)
theorem zgx:zij (some ⟨.slice e,s1,b1,z1⟩) (.sc (.slice none 0 0)) K ⟨⟩=K (.sc (.int .i64 0)):=(rfl)
theorem zdd {ev:Operand->C}:jH P G bx ev (.call ⟨.builtin .append,#[x,y],#[t,t]⟩) nx K2 ⟨⟩ ⟨⟩ ⟨⟩=Ng P t (ev x) (ev y) nx K2 ⟨⟩:=(show JN P G bx ev (.call ⟨.builtin .append,#[x,y],#[t,t]⟩) nx K2=VN P t (ev x) (ev y) nx K2 from by simp[JN,xk,Hs])
theorem zfo:jT P G h (.alloc t) ⟨tm,bx,nx,lg⟩ K3 ⟨⟩ ⟨⟩ ⟨⟩=zsl (lay P t) ⟨tm,bx,nx,lg⟩ K3 ⟨⟩:=(rfl)
theorem zoJ:jT P G h (.box t x) ⟨tm,bx,nx,lg⟩ K3 ⟨⟩ ⟨⟩ ⟨⟩=zq7 (zD G tm x) ⟨tm,bx,nx,lg⟩ K3 ⟨⟩:=(rfl)
theorem zgB:jT P G h (.store t x y) ⟨tm,bx,nx,lg⟩ K3 ⟨⟩ ⟨⟩ ⟨⟩=zra (lay P t) (zD G tm x) (zD G tm y) ⟨tm,bx,nx,lg⟩ K3 ⟨⟩:=(rfl)
theorem zlb {u:Tmp}:zD G tm (.tmp u)=jZ tm u:=(rfl)
theorem zcr:zD G tm (.const v)=zE v:=(rfl)
theorem zfx:zD G tm (.func f) = .clo (.func f) [] []:=(rfl)
theorem vM {g:Nat}:zD G tm (.global g)=zuc (G g):=(rfl)
theorem vc:zuc (some cs) = .row cs:=(rfl)
theorem zrB {v:Nat} {r:List (Nat×C)}:jZ ((u,c) :: r) v=if v=u then c else jZ r v:=(rfl)
theorem vZ {k:IntKind} {n:Int}:zE (.int k n) = .sc (.int k n):=(rfl)
theorem xm {b:Bool}:zE (.bool b) = .sc (.bool b):=(rfl)
theorem vd:zE (.string ⟨l.toArray⟩) = .str l:=(rfl)
theorem NO {a:Option Addr} {m:Nat}:zE (.slice a n m) = .sc (.slice a n m):=(rfl)
theorem zao {a:Option Addr}:zE (.pointer a) = .sc (.pointer a):=(rfl)
theorem zag {a:Option Nat}:zE (.map a) = .sc (.map a):=(rfl)
theorem xw:zE .nilFunc = .sc .nilFunc:=(rfl)
theorem zeX {k:IntKind} {b:Int}:zaf P t op (.sc (.int k a)) (.sc (.int k b)) K ⟨⟩=km op k a b K ⟨⟩:=(show zpz P t op (.sc (.int k a)) (.sc (.int k b)) K=zsz op k a b K from by simp[zpz])
theorem zhJ {a b:Lz}:zaf P t op (.str a) (.str b) K ⟨⟩=zc5 op a b K ⟨⟩:=(rfl)
theorem zhD:zaf P t op (.agg cs) (.agg ds) K ⟨⟩=znj op (Ul P t) cs ds K ⟨⟩:=(rfl)
theorem MB {rows:List (List C)}:zaf P t op (.sl k rows) (.sc (.slice none 0 0)) K ⟨⟩=za8 (lay P t) op (.sl k rows) K ⟨⟩:=(rfl)
theorem zf8 {e0:TypeId} {k0 b0:Nat} {z0:Option (List Value)} {rows:List (List C)}:za8 (some ⟨.slice e0,k0,b0,z0⟩) op (.sl k rows) K ⟨⟩=(rows≠[]/\zh7 op false K ⟨⟩):=(rfl)
theorem MG {a:Option Addr}:zaf P t op (.sc (.slice a n cap)) (.sc (.slice none 0 0)) K ⟨⟩=za8 (lay P t) op (.sc (.slice a n cap)) K ⟨⟩:=(rfl)
theorem zfb {e0:TypeId} {k0 b0:Nat} {z0:Option (List Value)} {a:Option Addr}:za8 (some ⟨.slice e0,k0,b0,z0⟩) op (.sc (.slice a n cap)) K ⟨⟩=zh7 op a.isNone K ⟨⟩:=(rfl)
theorem zdG {b:Bool}:zh7 .eql b K ⟨⟩=K (.sc (.bool b)):=(rfl)
theorem zen:znj .eql (some lk) cs ds K ⟨⟩=ziE false lk cs ds true K ⟨⟩:=(rfl)
theorem zgb:znj .neq (some lk) cs ds K ⟨⟩=ziE true lk cs ds true K ⟨⟩:=(rfl)
theorem zjS {e:Bool}:ziE false [] [] [] e K ⟨⟩=K (.sc (.bool e)):=(rfl)
theorem zdN {e:Bool}:ziE true [] [] [] e K ⟨⟩=K (.sc (.bool (!e))):=(rfl)
theorem zjJ {n e:Bool} {k k1:IntKind} {b:Int}:ziE n (.int k :: lk) (.sc (.int k1 a) :: cs) (.sc (.int k2 b) :: ds) e K ⟨⟩=(k1=k/\k2=k/\ziE n lk cs ds (e&&decide (a=b)) K ⟨⟩):=(rfl)
theorem zia {n e:Bool} {a b:Bool}:ziE n (.bool :: lk) (.sc (.bool a) :: cs) (.sc (.bool b) :: ds) e K ⟨⟩=ziE n lk cs ds (e&&(a==b)) K ⟨⟩:=(rfl)
theorem zi0 {n e:Bool} {a b:Lz}:ziE n (.str :: lk) (.str a :: cs) (.str b :: ds) e K ⟨⟩=ziE n lk cs ds (e&&decide (a=b)) K ⟨⟩:=(rfl)
theorem zhG {k:IntKind} {b:Int}:km .add k a b K ⟨⟩=(inR k (a+b)/\K (.sc (.int k (a+b)))):=(rfl)
theorem zgh {k:IntKind} {b:Int}:km .sub k a b K ⟨⟩=(inR k (a-b)/\K (.sc (.int k (a-b)))):=(rfl)
theorem zgu {k:IntKind} {b:Int}:km .mul k a b K ⟨⟩=(inR k (a*b)/\K (.sc (.int k (a*b)))):=(rfl)
theorem zfg {k:IntKind} {b:Int}:km .shr k a b K ⟨⟩=(b=1/\K (.sc (.int k (a / 2)))):=(rfl)
theorem zfe {k:IntKind} {b:Int}:km .eql k a b K ⟨⟩=(K (.sc (.bool (decide (a=b))))):=(rfl)
theorem zh4 {k:IntKind} {b:Int}:km .neq k a b K ⟨⟩=(K (.sc (.bool (!decide (a=b))))):=(rfl)
theorem zhP {k:IntKind} {b:Int}:km .lss k a b K ⟨⟩=(K (.sc (.bool (decide (a<b))))):=(rfl)
theorem zfF {k:IntKind} {b:Int}:km .leq k a b K ⟨⟩=(K (.sc (.bool (decide (a<=b))))):=(rfl)
theorem zgi {k:IntKind} {b:Int}:km .gtr k a b K ⟨⟩=(K (.sc (.bool (decide (b<a))))):=(rfl)
theorem zgA {k:IntKind} {b:Int}:km .geq k a b K ⟨⟩=(K (.sc (.bool (decide (b<=a))))):=(rfl)
theorem zhs {a b:Lz}:zc5 .add a b K ⟨⟩=(((a.length+b.length:Nat):Int)<=9223372036854775807/\K (.str (a++b))):=(rfl)
theorem zfV {a b:Lz}:zc5 .eql a b K ⟨⟩=(K (.sc (.bool (decide (a=b))))):=(rfl)
theorem zha {a b:Lz}:zc5 .neq a b K ⟨⟩=(K (.sc (.bool (!decide (a=b))))):=(rfl)
theorem zeL {a b:Lz}:zc5 .geq a b K ⟨⟩=(K (.sc (.bool (!Op.bytesLess a b)))):=(rfl)
theorem zhy {a b:Lz}:zc5 .gtr a b K ⟨⟩=(K (.sc (.bool (!(Op.bytesLess a b||decide (a=b)))))):=(rfl)
theorem zkz {b:Bool}:zte .not (.sc (.bool b)) K ⟨⟩=K (.sc (.bool (!b))):=(rfl)
theorem zec:k9 (.tup cs) i K ⟨⟩=znf (cs[i]?) K ⟨⟩:=(rfl)
theorem zsL:znf (some c) K ⟨⟩=K c:=(rfl)
theorem zh3:znd (.ptr i off) K ⟨⟩=K (.ptr i off):=(rfl)
theorem zqf:zaY P t c bx K ⟨⟩=vx (lay P t) c bx K ⟨⟩:=(rfl)
theorem zix {ev:Operand->C}:jH P G bx ev (.store t x y) nx K2 ⟨⟩ ⟨⟩ ⟨⟩=zqg (lay P t) (ev x) (ev y) bx (fun c=>K2 c nx) ⟨⟩:=(rfl)
theorem zty:zqg (some L) (.ptr i off) c bx K ⟨⟩=zpZ (bx[i]?) off L.size c K ⟨⟩:=(rfl)
theorem zto:zpZ (some cs) off size c K ⟨⟩=(c.partB=true/\(c.cells.all C.cellB)=true/\c.cells.length=size/\off+size<=cs.length/\UM ((cs.drop off).take size) c.cells/\K .any):=(rfl)
theorem zcl:UM [] []=True:=(rfl)
theorem zgM {u:Value} {s:List C}:UM (.sc u :: r) (.sc v :: s)=(u=v/\UM r s):=(rfl)
theorem zc8 {u v:Lz} {s:List C}:UM (.str u :: r) (.str v :: s)=(u=v/\UM r s):=(rfl)
theorem zdi:vx (some L) (.ptr i off) bx K ⟨⟩=zir (bx[i]?) off L K ⟨⟩:=(rfl)
theorem zdv:vx (some L) (.row cs) bx K ⟨⟩=Uy L cs K ⟨⟩:=(rfl)
theorem znM:zir (some cs) off L K ⟨⟩=Uy L (cs.drop off) K ⟨⟩:=(rfl)
theorem Ne {fs:List (Nat×Nat×Bool)} {s:Nat}:Uy ⟨.struct fs,s,b,z1⟩ cs K ⟨⟩=(s<=cs.length/\K (.agg (cs.take s))):=(show YH ⟨.struct fs,s,b,z1⟩ cs K=(s<=cs.length/\K (.agg (cs.take s))) from by simp[YH,LK.agg])
theorem zdI {ik:IntKind} {s:Nat}:Uy ⟨.int ik,s,b,z1⟩ (c :: r) K ⟨⟩=K c:=(show YH ⟨.int ik,s,b,z1⟩ (c :: r) K=K c from by simp[YH,LK.agg])
theorem vH {s:Nat}:Uy ⟨.bool,s,b,z1⟩ (c :: r) K ⟨⟩=K c:=(show YH ⟨.bool,s,b,z1⟩ (c :: r) K=K c from by simp[YH,LK.agg])
theorem zcs {s:Nat}:Uy ⟨.str,s,b,z1⟩ (c :: r) K ⟨⟩=K c:=(show YH ⟨.str,s,b,z1⟩ (c :: r) K=K c from by simp[YH,LK.agg])
theorem yC {e:TypeId} {s:Nat}:Uy ⟨.slice e,s,b,z1⟩ (c :: r) K ⟨⟩=K c:=(show YH ⟨.slice e,s,b,z1⟩ (c :: r) K=K c from by simp[YH,LK.agg])
theorem MN {s:Nat}:Uy ⟨.other,s,b,z1⟩ (c :: r) K ⟨⟩=K c:=(show YH ⟨.other,s,b,z1⟩ (c :: r) K=K c from by simp[YH,LK.agg])
theorem zoW {f:Nat}:vg P t c f K ⟨⟩=zaF (lay P t) c f K ⟨⟩:=(rfl)
theorem zi9 {fs:List (Nat×Nat×Bool)} {s:Nat} {f:Nat}:zaF (some ⟨.struct fs,s,b,z1⟩) (.agg cs) f K ⟨⟩=zar (fs[f]?) cs K ⟨⟩:=(show uw (some ⟨.struct fs,s,b,z1⟩) (.agg cs) f K=kD (fs[f]?) cs K from by unfold uw kD;simp only[];cases fs[f]?<;>simp)
theorem zhI:zar (some (off,size,false)) cs K ⟨⟩=znf (cs[off]?) K ⟨⟩:=(show kD (some (off,size,false)) cs K=ztn (cs[off]?) K from by unfold kD ztn;simp)
theorem zuq {f:Nat}:ZE P t c f K ⟨⟩=zqq (lay P t) c f K ⟨⟩:=(rfl)
theorem ztj {fs:List (Nat×Nat×Bool)} {s:Nat} {f:Nat}:zqq (some ⟨.struct fs,s,b,z1⟩) c f K ⟨⟩=zoM (fs[f]?) c K ⟨⟩:=(rfl)
theorem zjo {g:Bool}:zoM (some (off,size+1,g)) (.ptr i q) K ⟨⟩=K (.ptr i (q+off)):=(show zqh (some (off,size+1,g)) (.ptr i q) K=K (.ptr i (q+off)) from by simp[zqh])
theorem zkJ {g:Bool}:zoM (some (off,size+1,g)) (.row cs) K ⟨⟩=K (.row (cs.drop off)):=(show zqh (some (off,size+1,g)) (.row cs) K=K (.row (cs.drop off)) from by simp[zqh])
theorem zuS:ZB P t c d K ⟨⟩=zor P (lay P t) c d K ⟨⟩:=(rfl)
theorem zdw {s:Nat} {k:IntKind} {n:Int}:zor P (some ⟨.slice e,s,b,z1⟩) c (.sc (.int k n)) K ⟨⟩=zje (lay P e) c n K ⟨⟩:=(rfl)
theorem zce {m s:Nat} {k:IntKind} {n:Int}:zor P (some ⟨.array (m+1) e,s,b,z1⟩) c (.sc (.int k n)) K ⟨⟩=zrw (lay P e) c m n K ⟨⟩:=(rfl)
theorem zig {rows:List (List C)} {n:Int}:zje (some L) (.sl k rows) n K ⟨⟩=zop (C.rows? L.size (.sl k rows)) n K ⟨⟩:=(rfl)
theorem zhg {rows:List (List C)}:zho (some L) (.sl k rows) lo hi mx K ⟨⟩=zlz (C.rows? L.size (.sl k rows)) L.size lo hi mx K ⟨⟩:=(rfl)
theorem zdm {id:Nat} {rows:List (List C)} {n:Int}:zje (some L) (.own id e k rows) n K ⟨⟩=zop (C.rows? L.size (.own id e k rows)) n K ⟨⟩:=(rfl)
theorem zdy {id:Nat} {rows:List (List C)}:zho (some L) (.own id e k rows) lo hi mx K ⟨⟩=zlz (C.rows? L.size (.own id e k rows)) L.size lo hi mx K ⟨⟩:=(rfl)
theorem uk {id:Nat} {rows:List (List C)} :ve P bx t t' (.own id e k rows) K ⟨⟩=zgU P t t' (.own id e k rows) K ⟨⟩:=(rfl)
theorem zcX:zho (some L) (.sc (.slice none 0 0)) lo hi mx K ⟨⟩=zqY L.size lo hi mx K ⟨⟩:=(rfl)
theorem ztN:zqY k lo hi none K ⟨⟩=(Je 0 lo hi/\K (.sc (.slice none 0 0))):=(rfl)
theorem zbW :ve P bx t t' (.sc v) K ⟨⟩=zgU P t t' (.sc v) K ⟨⟩:=(rfl)
theorem zhC {n:Int} {m1:Nat}:zje (some L) (.bs j off k m1 cap) n K ⟨⟩=(k=L.size/\0<=n/\n<(m1:Int)/\K (.ptr j (off+n.toNat*L.size))):=(rfl)
theorem zgw:zho (some L) (.bs i off k n cap) lo hi mx K ⟨⟩=zeS L.size i off k n cap lo hi mx K ⟨⟩:=(rfl)
theorem zlL {b:Int} {sz:Nat}:zeS sz i off k n cap none (some b) none K ⟨⟩=(n<=cap/\(0<=b/\b<=(cap:Int))/\K (.bs i off k b.toNat cap)):=(rfl)
theorem zk3 {sz:Nat}:zeS sz i off k n cap (some a) none none K ⟨⟩=(sz=k/\n<=cap/\(0<=a/\a<=(n:Int))/\K (.bs i (off+a.toNat*k) k (n-a.toNat) (cap-a.toNat))):=(rfl)
theorem zkV {b:Int} {sz:Nat}:zeS sz i off k n cap (some a) (some b) none K ⟨⟩=(sz=k/\(0<=a/\a<=b/\b<=(cap:Int))/\K (.bs i (off+a.toNat*k) k (b.toNat-a.toNat) (cap-a.toNat))):=(rfl)
theorem ziP {b m1:Int} {sz:Nat}:zeS sz i off k n cap (some a) (some b) (some m1) K ⟨⟩=(sz=k/\(0<=a/\a<=b/\b<=m1/\m1<=(cap:Int))/\K (.bs i (off+a.toNat*k) k (b.toNat-a.toNat) (m1.toNat-a.toNat))):=(rfl)
theorem zlR:va P t (.bs i off k n cap) K ⟨⟩=ym (lay P t) (n:Int) K ⟨⟩:=(rfl)
theorem zut:Gy P t n ps ⟨tm,bx,nx,lg⟩ K3 ⟨⟩=zrS P (lay P t) n ps ⟨tm,bx,nx,lg⟩ K3 ⟨⟩:=(rfl)
theorem zth {s:Nat}:zrS P (some ⟨.slice e,s,b,z1⟩) n ps σ K3 ⟨⟩=zqx (lay P e) n ps σ K3 ⟨⟩:=(rfl)
theorem ztE {z1:List Value}:zqx (some ⟨kd,k,b,some z1⟩) n ps σ K3 ⟨⟩=(z1.length=k/\0<k/\n*k<=16777216/\(ps.all fun p=>p.2.frz.partB)=true/\zpI (Xj (plA k) (List.replicate n (z1.map zE)).flatten (ps.map fun p=>(p.1,p.2.frz))) k n σ K3 ⟨⟩):=(rfl)
theorem zsQ:zpI (some cs) k n ⟨tm,bx,nx,lg⟩ K3 ⟨⟩=((cs.all C.cellB)=true/\cs.length=n*k/\K3 (.bs bx.length 0 k n n) ⟨tm,bx++[cs],nx,lg⟩):=(rfl)
theorem zuU:zaJ P p t c d ⟨tm,bx,nx,lg⟩ K3 ⟨⟩=zsr P (lay P t) p c d ⟨tm,bx,nx,lg⟩ K3 ⟨⟩:=(rfl)
theorem zsO {s:Nat}:zsr P (some ⟨.slice e,s,b,z1⟩) p c d σ K3 ⟨⟩=zpM (lay P e) p c d σ K3 ⟨⟩:=(rfl)
theorem zs6 {z1:List Value}:zpM (some ⟨kd,k,b,some z1⟩) p c d ⟨tm,bx,nx,lg⟩ K3 ⟨⟩=zqI (d.xs? k bx) p k b z1 c ⟨tm,bx,nx,lg⟩ K3 ⟨⟩:=(rfl)
theorem zna {k2:Nat}:C.xs? k bx (.bs i off k2 n cap)=xsB k2 k off n (bx[i]?):=(rfl)
theorem zsi:xsB k k off n (some cs)=if off+n*k<=cs.length then some (n,(cs.drop off).take (n*k)) else none:=(show xsB k k off n (some cs)=if off+n*k<=cs.length then some (n,(cs.drop off).take (n*k)) else none from by simp[xsB])
theorem znI:Vt i cs bx=(Mv (Yp i) some bx).set i cs:=(rfl)
theorem zpj:Yp i j=if j=i then none else some j:=(rfl)
theorem ziQ:C.frz (.bs i off k n cap) = .any:=(show C.frz (.bs i off k n cap) = .any from by rw[C.frz])
theorem zoQ:C.re fp fo (.bs i off k n cap)=bsO (fp i) off k n cap:=(show C.re fp fo (.bs i off k n cap)=bsO (fp i) off k n cap from by rw[C.re];rfl)
theorem zq3:bsO (some j) off k n cap = .bs j off k n cap:=(rfl)
theorem zrn:bsO none off k n cap = .any:=(rfl)
theorem zcP:C.cellB (.bs i off k n cap)=true:=(rfl)
theorem zdn:C.partB (.bs i off k n cap)=true:=(rfl)
theorem zdq:C.cells (.bs i off k n cap) = [.bs i off k n cap]:=(rfl)
theorem zrP {rows:List (List C)} {n:Int}:zop (some rows) n K ⟨⟩=zud (rows[n.toNat]?) n K ⟨⟩:=(rfl)
theorem zur {n:Int}:zud (some r) n K ⟨⟩=(0<=n/\K (.row r)):=(rfl)
theorem znF {m:Nat} {n:Int}:zrw (some L) (.row cs) m n K ⟨⟩=(0<=n/\n<((m+1:Nat):Int)/\K (.row (cs.drop (n.toNat*L.size)))):=(rfl)
theorem zuZ:uc P t c d K ⟨⟩=zrx (lay P t) c d K ⟨⟩:=(rfl)
theorem ztl {s:Nat} {k:IntKind} {n:Int}:zrx (some ⟨.str,s,b,z1⟩) (.str l) (.sc (.int k n)) K ⟨⟩=zmy (l[n.toNat]?) n K ⟨⟩:=(show ztQ (some ⟨.str,s,b,z1⟩) (.str l) (.sc (.int k n)) K=zmF (l[n.toNat]?) n K from by unfold ztQ zmF;simp)
theorem zqc {b:UInt8} {n:Int}:zmy (some b) n K ⟨⟩=(0<=n/\K (.sc (.int .u8 (b.toNat:Int)))):=(rfl)
theorem zul {lo hi mx:Option C}:vR P t c lo hi mx K ⟨⟩=zre P t c (za7 lo) (za7 hi) (za7 mx) K ⟨⟩:=(rfl)
theorem ztg:zre P t c (some lo) (some hi) (some mx) K ⟨⟩=zpg P (lay P t) c lo hi mx K ⟨⟩:=(rfl)
theorem zci:za7 none=some none:=(rfl)
theorem zeB {k:IntKind} {n:Int}:za7 (some (.sc (.int k n)))=some (some n):=(rfl)
theorem zkW {s:Nat}:zpg P (some ⟨.str,s,b,z1⟩) (.str l) lo hi none K ⟨⟩=(Je l.length lo hi/\K (.str (cut l lo hi))):=(rfl)
theorem zcE {s:Nat}:zpg P (some ⟨.slice e,s,b,z1⟩) c lo hi mx K ⟨⟩=zho (lay P e) c lo hi mx K ⟨⟩:=(rfl)
theorem zrY {rows:List (List C)}:zlz (some rows) k lo hi none K ⟨⟩=(Je rows.length lo hi/\K (.sl k (cut rows lo hi))):=(rfl)
theorem zp6 {rows:List (List C)} {h m:Int}:zlz (some rows) k lo (some h) (some m) K ⟨⟩=(m=h/\Je rows.length lo (some h)/\K (.tight k (cut rows lo (some h)))):=(rfl)
theorem zka {α:Type} {l:List α}:cut l (some a) none=l.drop a.toNat:=(rfl)
theorem zj5 {α:Type} {l:List α} {b:Int}:cut l none (some b)=l.take b.toNat:=(rfl)
theorem zll {α:Type} {l:List α} {b:Int}:cut l (some a) (some b)=(l.take b.toNat).drop a.toNat:=(rfl)
theorem zdU:Je n (some a) none=(0<=a/\a<=(n:Int)):=(rfl)
theorem zb6 {b:Int}:Je n none (some b)=(0<=b/\b<=(n:Int)):=(rfl)
theorem zdD {b:Int}:Je n (some a) (some b)=(0<=a/\a<=b/\b<=(n:Int)):=(rfl)
theorem zhh {rows:List (List C)}:C.rows? k (.sl k rows)=some rows:=(show C.rows? k (.sl k rows)=some rows from by simp[C.rows?])
theorem zb3 {id:Nat} {rows:List (List C)}:C.rows? k (.own id e k rows)=some rows:=(show C.rows? k (.own id e k rows)=some rows from by simp[C.rows?])
theorem zpE:zgU P t t' c K ⟨⟩=zjm P (lay P t') (lay P t) c K ⟨⟩:=(rfl)
theorem zcM {k k0:IntKind} {n:Int} {s:Nat}:zjm P (some ⟨.int k,s,b,z1⟩) (some L) (.sc (.int k0 n)) K ⟨⟩=(inR k n/\K (.sc (.int k n))):=(rfl)
theorem zkD {s s2 b2:Nat} {k k0:IntKind} {n:Int}:zjm P (some ⟨.str,s,b,z1⟩) (some ⟨.int k,s2,b2,z2⟩) (.sc (.int k0 n)) K ⟨⟩=K (.str (Utf8.encode n).data.toList):=(rfl)
theorem zjF {s s2 b2:Nat}:zjm P (some ⟨.str,s,b,z1⟩) (some ⟨.slice e,s2,b2,z2⟩) c K ⟨⟩=zry (lay P e) c K ⟨⟩:=(rfl)
theorem zhp {s:Nat}:zry (some ⟨.int .u8,s,b,z1⟩) c K ⟨⟩=znR (c.rows? 1) K ⟨⟩:=(rfl)
theorem zg3:va P t (.str l) K ⟨⟩=zms (lay P t) (l.length:Int) K ⟨⟩:=(rfl)
theorem zl1 {rows:List (List C)}:va P t (.sl k rows) K ⟨⟩=ym (lay P t) (rows.length:Int) K ⟨⟩:=(rfl)
theorem zfJ {id:Nat} {rows:List (List C)}:va P t (.own id e k rows) K ⟨⟩=ym (lay P t) (rows.length:Int) K ⟨⟩:=(rfl)
theorem zem:va P t (.sc (.slice none 0 0)) K ⟨⟩=ym (lay P t) 0 K ⟨⟩:=(rfl)
theorem zsw {s:Nat} {n:Int}:ym (some ⟨.slice e,s,b,z1⟩) n K ⟨⟩=K (.sc (.int .i64 n)):=(rfl)
theorem zss {s:Nat} {n:Int}:zms (some ⟨.str,s,b,z1⟩) n K ⟨⟩=K (.sc (.int .i64 n)):=(rfl)
theorem zoi:zab P t ps K ⟨⟩=zsc (lay P t) ps K ⟨⟩:=(rfl)
theorem zjw {fs:List (Nat×Nat×Bool)} {s:Nat} {z1:List Value}:zsc (some ⟨.struct fs,s,b,some z1⟩) ps K ⟨⟩=((ps.all fun p=>p.2.partB)=true/\zuf (Xj (plS fs) (z1.map zE) ps) K ⟨⟩):=(show zsS (some ⟨.struct fs,s,b,some z1⟩) ps K=((ps.all fun p=>p.2.partB)=true/\aFl (Xj (plS fs) (z1.map zE) ps) K) from by unfold zsS aFl;simp only[];rfl)
theorem zuX:zuf (some cs) K ⟨⟩=K (.agg cs):=(rfl)
theorem zov:Xj place cs []=some cs:=(rfl)
theorem zrJ {rest:List (Nat×C)}:Xj place cs ((i,c) :: rest)=zme (place i) place cs c.cells rest:=(rfl)
theorem zo7 {l:List C} {rest:List (Nat×C)}:zme (some (off,size)) place cs l rest=(if l.length=size/\off+size<=cs.length then Xj place (cs.take off++l++cs.drop (off+size)) rest else none):=(rfl)
theorem zs4 {fs:List (Nat×Nat×Bool)}:plS fs i=(fs[i]?).map fun f=>(f.1,f.2.1):=(rfl)
theorem zsR:plA k i=some (i*k,k):=(rfl)
theorem zuj:QG P t n ps nx K2 ⟨⟩=zsn P (lay P t) n ps nx K2 ⟨⟩:=(rfl)
theorem ztc {s:Nat}:zsn P (some ⟨.slice e,s,b,z1⟩) n ps nx K2 ⟨⟩=zqS (lay P e) e n ps nx K2 ⟨⟩:=(rfl)
theorem zsU {z1:List Value}:zqS (some ⟨kd,k,b,some z1⟩) e n ps nx K2 ⟨⟩=(z1.length=k/\0<k/\n*k<=16777216/\(ps.all fun p=>p.2.frz.partB)=true/\zrE (Xj (plA k) (List.replicate n (z1.map zE)).flatten (ps.map fun p=>(p.1,p.2.frz))) e k n nx K2 ⟨⟩):=(rfl)
theorem zts:zrE (some cs) e k n nx K2 ⟨⟩=((cs.all C.cellB)=true/\cs.length=n*k/\K2 (.own nx e k (Zf k n cs)) (nx+1)):=(rfl)
theorem zt3:xx P t c d ⟨tm,bx,nx,lg⟩ K3 ⟨⟩=zl3 P (lay P t) c d ⟨tm,bx,nx,lg⟩ K3 ⟨⟩:=(rfl)
theorem zr1 {s:Nat} {k:IntKind} {l m:Int}:zl3 P (some ⟨.slice e,s,b,z1⟩) (.sc (.int k l)) (.sc (.int k2 m)) ⟨tm,bx,nx,lg⟩ K3 ⟨⟩=zl5 (lay P e) l m ⟨tm,bx,nx,lg⟩ K3 ⟨⟩:=(rfl)
theorem zpP {z1:List Value} {l m:Int}:zl5 (some ⟨kd,k,b,some z1⟩) l m ⟨tm,bx,nx,lg⟩ K3 ⟨⟩=(z1.length=k/\0<k/\(z1.all Value.oneCell')=true/\0<=l/\l<=m/\(b:Int)*m<=281474976710656/\m<=9223372036854775807/\K3 (.bs bx.length 0 k l.toNat m.toNat) ⟨tm,bx++[(List.replicate m.toNat (z1.map zE)).flatten],nx,lg⟩):=(rfl)
theorem zuu:zmz P t c d nx K2 ⟨⟩=zql P (lay P t) c d nx K2 ⟨⟩:=(rfl)
theorem zs2 {s:Nat} {k:IntKind} {l m:Int}:zql P (some ⟨.slice e,s,b,z1⟩) (.sc (.int k l)) (.sc (.int k2 m)) nx K2 ⟨⟩=zqN (lay P e) e l m nx K2 ⟨⟩:=(rfl)
theorem zt1 {z1:List Value} {l m:Int}:zqN (some ⟨kd,k,b,some z1⟩) e l m nx K2 ⟨⟩=(z1.length=k/\0<k/\(z1.all Value.oneCell')=true/\0<=l/\l<=m/\(b:Int)*m<=281474976710656/\m<=9223372036854775807/\K2 (.own nx e k (List.replicate l.toNat (z1.map zE))) (nx+1)):=(rfl)
theorem zin {id:Nat} {rows:List (List C)}:NB P t (.own id e k rows) d ⟨tm,bx,nx,lg⟩ K3 ⟨⟩=zqH P (lay P t) id e k rows d ⟨tm,bx,nx,lg⟩ K3 ⟨⟩:=(rfl)
theorem ze0:NB P t (.sc (.slice none 0 0)) d ⟨tm,bx,nx,lg⟩ K3 ⟨⟩=Ng P t (.sc (.slice none 0 0)) d nx (fun c nx'=>K3 c ⟨tm,bx,nx',lg⟩) ⟨⟩:=(rfl)
theorem zro:Ng P t c d nx K2 ⟨⟩=zpG P (lay P t) c d nx K2 ⟨⟩:=(rfl)
theorem ztb {s:Nat}:zpG P (some ⟨.slice e,s,b,z1⟩) c d nx K2 ⟨⟩=zqV (lay P e) e c d nx K2 ⟨⟩:=(rfl)
theorem zt0 {z1:List Value}:zqV (some ⟨kd,k,b,some z1⟩) e c d nx K2 ⟨⟩=zow (d.rows? k) c e k b z1 nx K2 ⟨⟩:=(rfl)
theorem zpV {z1:List Value} {xs:List (List C)}:zow (some xs) (.sc (.slice none 0 0)) e k b z1 nx K2 ⟨⟩=(z1.length=k/\0<k/\xs.length<=9223372036854775807/\xs.length*b<=140737488355328/\K2 (.own nx e k xs) (nx+1)):=(rfl)
theorem zqi {k0:Nat} {z1:List Value} {xs rows:List (List C)}:zow (some xs) (.tight k0 rows) e k b z1 nx K2 ⟨⟩=(k0=k/\z1.length=k/\0<k/\rows.length+xs.length<=9223372036854775807/\(rows.length+xs.length)*b<=140737488355328/\(xs = []->K2 (.tight k0 rows) nx)/\(¬xs = []->K2 (.own nx e k (rows++xs)) (nx+1))):=(rfl)
theorem zkq {a:Nat} (h:Nat.ble a b=true):a<=b:=OT h
theorem lS:(∀ {α:Type} (a b:List α),(a++b).length=a.length+b.length)/\(∀ {α:Type} (a:α) (b:List α),(a :: b).length=b.length+1)/\(∀ {α:Type},([]:List α).length=0)/\(∀ {α β:Type} (f:α->β) (l:List α),(l.map f).length=l.length)/\(∀ {α:Type} (n:Nat) (l:List α),(l.take n).length=min n l.length)/\∀ {α:Type} (n:Nat) (l:List α),(l.drop n).length=l.length-n:=⟨fun _ _=>Wn,fun _ _=>Wh,WG,fun _ _=>We _,fun _ _=>W7,fun _ _=>W3⟩
theorem ztJ {α:Type} {x:α} {l:List α}:((x :: l) = [])=False:=by simp
theorem zu4 {p:Prop}:(True->p)=p:=by simp
theorem zu6 {p:Prop}:(False->p)=True:=by simp
theorem zuY:(¬False)=True:=by simp
theorem zsZ {e0 s id:Nat} {rows:List (List C)}:zqH P (some ⟨.slice e0,s,b,z1⟩) id e k rows c σ K3 ⟨⟩=zrh (lay P e) e0 id e k rows c σ K3 ⟨⟩:=(rfl)
theorem ztG {k0 e0 id:Nat} {z1:List Value} {rows:List (List C)}:zrh (some ⟨kd,k0,b,some z1⟩) e0 id e k rows c σ K3 ⟨⟩=(e0=e/\k0=k/\z1.length=k/\0<k/\zqF (c.rows? k) b id e k rows σ K3 ⟨⟩):=(show ztd (some ⟨kd,k0,b,some z1⟩) e0 id e k rows c σ K3=(e0=e/\k0=k/\z1.length=k/\0<k/\ztu (c.rows? k) b id e k rows σ K3) from by unfold ztd ztu;simp only[];cases c.rows? k<;>simp)
theorem zsH {xs rows:List (List C)} {id:Nat}:zqF (some xs) b id e k rows ⟨tm,bx,nx,lg⟩ K3 ⟨⟩=(rows.length+xs.length<=9223372036854775807/\(rows.length+xs.length)*b<=140737488355328/\K3 (.own id e k (rows++xs)) ⟨zck id tm,yQ id bx,nx,lg⟩):=(rfl)
theorem zn9 {fs:List C}:vD P G h (.clo (.func f) fs cs) args ⟨tm,bx,nx,lg⟩ K3 ⟨⟩ ⟨⟩=Zx P G f (fs++args++cs) (C.frzL (fs++args++cs)) ⟨tm,bx,nx,lg⟩ K3 ⟨⟩:=(rfl)
theorem znQ {l:Nat} {items:List (List C)} {sf:Nat->Bool}:vD P G ⟨p,some ⟨l,items,sf⟩,bf⟩ (.sc (.func (.yield l) #[] #[])) args ⟨tm,bx,nx,lg⟩ K3 ⟨⟩ ⟨⟩=zbO ⟨l,items,sf⟩ (items[lg]?) args ⟨tm,bx,nx,lg⟩ K3 ⟨⟩ ⟨⟩:=(show x7 P G ⟨p,some ⟨l,items,sf⟩,bf⟩ (.sc (.func (.yield l) #[] #[])) args ⟨tm,bx,nx,lg⟩ K3=Na ⟨l,items,sf⟩ (items[lg]?) args ⟨tm,bx,nx,lg⟩ K3 from by simp[x7,zbg])
theorem zj4 {l:Nat} {items:List (List C)} {sf:Nat->Bool} {it:List C}:zbO ⟨l,items,sf⟩ (some it) args ⟨tm,bx,nx,lg⟩ K3 ⟨⟩ ⟨⟩=(zh [] 0 args it/\(∀ j,j<lg->sf j=false)/\K3 (.sc (.bool (!sf lg))) ⟨tm,bx,nx,lg+1⟩):=(rfl)
theorem zqy {ι:List Nat}:upB ι m j=match ι[j]? with | some i=>some i | none=>some (m+(j-ι.length)):=(rfl)
theorem ztS:X2 [] i=none:=(rfl)
theorem ztI {x1:Nat} {r:List Nat}:X2 (x1 :: r) i=if i=x1 then some 0 else (X2 r i).map (·+1):=(rfl)
theorem zpe:Gw fp fo [] = []:=(rfl)
theorem zqX {r:List (Nat×C)}:Gw fp fo ((u,c) :: r)=(u,c.re fp fo) :: Gw fp fo r:=(rfl)
theorem zoG:Mv fp fo [] = []:=(rfl)
theorem zqn {r:List (List C)}:Mv fp fo (cs :: r)=C.reL fp fo cs :: Mv fp fo r:=(rfl)
theorem zkf {l:List (List C)}:Ui [] l bx=bx:=(rfl)
theorem zjX {ι:List Nat} {r:List (List C)}:Ui (i :: ι) (cs :: r) bx=Ui ι r (bx.set i cs):=(rfl)
theorem zld {ι κ:List Nat}:ZS ι κ bx' n ⟨tm,bx,nx,lg⟩=⟨Gw some (Vf κ) tm,Ui ι (Mv (upB ι bx.length) (upO nx) bx') (Mv some (Vf κ) bx)++Mv (upB ι bx.length) (upO nx) (bx'.drop ι.length),nx+n,lg⟩:=(rfl)
theorem zmO {κ:List Nat}:Vf κ i=if i∈κ then none else some i:=(rfl)
theorem zkG:Gq m i=if i<m then some i else none:=(rfl)
theorem zjY:Xq m i=if i<m then none else some (i-m):=(rfl)
theorem znr {fs:List C}:zhz P G (.clo (.func f) fs cs) args nx K2 ⟨⟩=vh P G f (C.frzL (fs++args++cs)) nx K2 ⟨⟩:=(rfl)
theorem zt4 {s:Nat} {z1:List Value}:zsl (some ⟨kd,s,b,some z1⟩) ⟨tm,bx,nx,lg⟩ K3 ⟨⟩=((z1.all Value.oneCell')=true/\K3 (.ptr bx.length 0) ⟨tm,bx++[z1.map zE],nx,lg⟩):=(rfl)
theorem zs5:zq7 c ⟨tm,bx,nx,lg⟩ K3 ⟨⟩=(c.partB=true/\(c.cells.all C.cellB)=true/\K3 (.ptr bx.length 0) ⟨tm,bx++[c.cells],nx,lg⟩):=(rfl)
theorem zsY:zra (some L) (.ptr i off) c ⟨tm,bx,nx,lg⟩ K3 ⟨⟩=zrs (bx[i]?) i off L.size c ⟨tm,bx,nx,lg⟩ K3 ⟨⟩:=(rfl)
theorem zs9:zrs (some cs) i off size c ⟨tm,bx,nx,lg⟩ K3 ⟨⟩=(c.partB=true/\(c.cells.all C.cellB)=true/\c.cells.length=size/\off+size<=cs.length/\K3 .any ⟨tm,bx.set i (cs.take off++c.cells++cs.drop (off+size)),nx,lg⟩):=(rfl)
theorem zlI:C.frz (.sc v) = .sc v:=(show C.frz (.sc v) = .sc v from by rw[C.frz])
theorem zpd {id:Nat}:C.dg id (.sc v) = .sc v:=(show C.dg id (.sc v) = .sc v from by rw[C.dg])
theorem zpn:C.sh n (.sc v) = .sc v:=(show C.sh n (.sc v) = .sc v from by rw[C.sh])
theorem zeV:C.frz (.str l) = .str l:=(show C.frz (.str l) = .str l from by rw[C.frz])
theorem ziS {id:Nat}:C.dg id (.str l) = .str l:=(show C.dg id (.str l) = .str l from by rw[C.dg])
theorem zlt:C.sh n (.str l) = .str l:=(show C.sh n (.str l) = .str l from by rw[C.sh])
theorem zkk {rows:List (List C)}:C.frz (.sl k rows) = .sl k rows:=(show C.frz (.sl k rows) = .sl k rows from by rw[C.frz])
theorem zpo {rows:List (List C)} {id:Nat}:C.dg id (.sl k rows) = .sl k rows:=(show C.dg id (.sl k rows) = .sl k rows from by rw[C.dg])
theorem zoy {rows:List (List C)}:C.sh n (.sl k rows) = .sl k rows:=(show C.sh n (.sl k rows) = .sl k rows from by rw[C.sh])
theorem zfE:C.frz (.row cs) = .row cs:=(show C.frz (.row cs) = .row cs from by rw[C.frz])
theorem zjI {id:Nat}:C.dg id (.row cs) = .row cs:=(show C.dg id (.row cs) = .row cs from by rw[C.dg])
theorem zjR:C.sh n (.row cs) = .row cs:=(show C.sh n (.row cs) = .row cs from by rw[C.sh])
theorem zj2 {id:Nat}:C.dg id (.any) = .any:=(show C.dg id (.any) = .any from by rw[C.dg])
theorem zjt:C.sh n (.any) = .any:=(show C.sh n (.any) = .any from by rw[C.sh])
theorem zoa {ks:MK}:C.sh n (.mo i t2 ks vs) = .mo (n+i) t2 ks vs:=(show C.sh n (.mo i t2 ks vs) = .mo (n+i) t2 ks vs from by rw[C.sh])
theorem zog {ks:MK}:C.fz bx (.mo i t2 ks vs) = .mo i t2 ks vs:=(show C.fz bx (.mo i t2 ks vs) = .mo i t2 ks vs from by rw[C.fz])
theorem zmX {id:Nat}:C.up id ks1 vs1 (.sc v) = .sc v:=(show C.up id ks1 vs1 (.sc v) = .sc v from by rw[C.up])
theorem zpa {ks:MK} {id:Nat}:C.up id ks1 vs1 (.mo i t2 ks vs)=if i=id then .mo i t2 ks1 vs1 else .mo i t2 ks vs:=(show C.up id ks1 vs1 (.mo i t2 ks vs)=if i=id then .mo i t2 ks1 vs1 else .mo i t2 ks vs from by rw[C.up])
theorem zdH {id:Nat}:ziD id ks1 vs1 [] = []:=(rfl)
theorem zqZ {r:List (Nat×C)} {id:Nat}:ziD id ks1 vs1 ((u,c) :: r)=(u,c.up id ks1 vs1) :: ziD id ks1 vs1 r:=(rfl)
theorem zdc {id:Nat}:zey id ks1 vs1 [] = []:=(rfl)
theorem zfw {id:Nat} {rows:List (List C)}:C.frz (.own id e k rows) = .sl k rows:=(show C.frz (.own id e k rows) = .sl k rows from by rw[C.frz])
theorem ze7:C.frz (.ptr i off) = .any:=(show C.frz (.ptr i off) = .any from by rw[C.frz])
theorem zjH {id:Nat}:C.dg id (.ptr i off) = .ptr i off:=(show C.dg id (.ptr i off) = .ptr i off from by rw[C.dg])
theorem zi3 {id:Nat} {rows:List (List C)}:C.dg id (.own i e k rows)=if i=id then .sl k rows else .own i e k rows:=(show C.dg id (.own i e k rows)=if i=id then .sl k rows else .own i e k rows from by rw[C.dg])
theorem zkj {rows:List (List C)}:C.sh n (.own i e k rows) = .own (n+i) e k rows:=(show C.sh n (.own i e k rows) = .own (n+i) e k rows from by rw[C.sh])
theorem znx:C.re fp fo (.sc v) = .sc v:=(show C.re fp fo (.sc v) = .sc v from by rw[C.re])
theorem zkL:C.sel fp (.sc v) = .sc v:=(show C.sel fp (.sc v) = .sc v from by rw[C.sel])
theorem zlk:C.re fp fo (.str l) = .str l:=(show C.re fp fo (.str l) = .str l from by rw[C.re])
theorem zh9:C.sel fp (.str l) = .str l:=(show C.sel fp (.str l) = .str l from by rw[C.sel])
theorem znV {rows:List (List C)}:C.re fp fo (.sl k rows) = .sl k rows:=(show C.re fp fo (.sl k rows) = .sl k rows from by rw[C.re])
theorem zkK {rows:List (List C)}:C.sel fp (.sl k rows) = .sl k rows:=(show C.sel fp (.sl k rows) = .sl k rows from by rw[C.sel])
theorem zdu {rows:List (List C)}:C.re fp fo (.tight k rows) = .tight k rows:=(show C.re fp fo (.tight k rows) = .tight k rows from by rw[C.re])
theorem ziR:C.re fp fo (.row cs) = .row cs:=(show C.re fp fo (.row cs) = .row cs from by rw[C.re])
theorem ziB:C.sel fp (.row cs) = .row cs:=(show C.sel fp (.row cs) = .row cs from by rw[C.sel])
theorem zlQ:C.re fp fo (.any) = .any:=(show C.re fp fo (.any) = .any from by rw[C.re])
theorem zm3:C.fz bx (.sc v) = .sc v:=(show C.fz bx (.sc v) = .sc v from by rw[C.fz])
theorem zk4:C.fz bx (.str l) = .str l:=(show C.fz bx (.str l) = .str l from by rw[C.fz])
theorem zoe {rows:List (List C)}:C.fz bx (.sl k rows) = .sl k rows:=(show C.fz bx (.sl k rows) = .sl k rows from by rw[C.fz])
theorem zk2 {id:Nat} {rows:List (List C)}:C.fz bx (.own id e k rows) = .own id e k rows:=(show C.fz bx (.own id e k rows) = .own id e k rows from by rw[C.fz])
theorem zk8:C.fz bx (.row cs) = .row cs:=(show C.fz bx (.row cs) = .row cs from by rw[C.fz])
theorem zl0:C.fz bx (.ptr i off)=ztH (bx[i]?) off:=(show C.fz bx (.ptr i off)=ztH (bx[i]?) off from by rw[C.fz];rfl)
theorem zni:ztH (some cs) off = .row ((C.frzL cs).drop off):=(rfl)
theorem zcU {f:Fn} {a b:Array Value}:Value.oneCell' (.func f a b)=true:=(rfl)
theorem zle {id:Nat} {rows:List (List C)}:C.re fp fo (.own id e k rows)=zsF (fo id) e k rows:=(show C.re fp fo (.own id e k rows)=zsF (fo id) e k rows from by rw[C.re];rfl)
theorem zjO:C.re fp fo (.ptr i off)=zpx (fp i) off:=(show C.re fp fo (.ptr i off)=zpx (fp i) off from by rw[C.re];rfl)
theorem zii:C.sel fp (.ptr i off)=zpx (fp i) off:=(show C.sel fp (.ptr i off)=zpx (fp i) off from by rw[C.sel];rfl)
theorem znW {rows:List (List C)}:zsF (some j) e k rows = .own j e k rows:=(rfl)
theorem znp {rows:List (List C)}:zsF none e k rows = .sl k rows:=(rfl)
theorem zon:zpx (some j) off = .ptr j off:=(rfl)
theorem zom:zpx none off = .any:=(rfl)
theorem znP:C.fy nx fr bx (.sc v) = .sc v:=(show C.fy nx fr bx (.sc v) = .sc v from by rw[C.fy])
theorem zmZ {rows:List (List C)}:C.fy nx fr bx (.sl k rows) = .sl k rows:=(show C.fy nx fr bx (.sl k rows) = .sl k rows from by rw[C.fy])
theorem znz:C.fy nx fr bx (.bs i off k n cap)=UL nx fr i off k n cap:=(show C.fy nx fr bx (.bs i off k n cap)=UL nx fr i off k n cap from by rw[C.fy])
theorem zls {i2 k2 cap2:Nat} {rows:List (List C)} {r:Fr}:UL nx ((i2,e,k2,rows,cap2) :: r) i off k n cap=if i=i2/\off=0/\k=k2/\n=rows.length/\cap=cap2 then .own nx e k2 rows else UL (nx+1) r i off k n cap:=(show UL nx ((i2,e,k2,rows,cap2) :: r) i off k n cap=if i=i2/\off=0/\k=k2/\n=rows.length/\cap=cap2 then .own nx e k2 rows else UL (nx+1) r i off k n cap from by rw[UL])
theorem zjp:C.re fp fo (.agg cs) = .agg (C.reL fp fo cs):=(show C.re fp fo (.agg cs) = .agg (C.reL fp fo cs) from by rw[C.re])
theorem zlC:C.re fp fo (.tup cs) = .tup (C.reL fp fo cs):=(show C.re fp fo (.tup cs) = .tup (C.reL fp fo cs) from by rw[C.re])
theorem zks {fs:List C}:C.re fp fo (.clo fn fs cs) = .clo fn (C.reL fp fo fs) (C.reL fp fo cs):=(show C.re fp fo (.clo fn fs cs) = .clo fn (C.reL fp fo fs) (C.reL fp fo cs) from by rw[C.re])
theorem zh8:C.reL fp fo [] = []:=(show C.reL fp fo [] = [] from by rw[C.reL])
theorem zdB:C.reL fp fo (c :: r)=C.re fp fo c :: C.reL fp fo r:=(show C.reL fp fo (c :: r)=C.re fp fo c :: C.reL fp fo r from by rw[C.reL])
theorem zeT:C.sel fp (.agg cs) = .agg (C.selL fp cs):=(show C.sel fp (.agg cs) = .agg (C.selL fp cs) from by rw[C.sel])
theorem ze2 {fs:List C}:C.sel fp (.clo fn fs cs) = .clo fn (C.selL fp fs) (C.selL fp cs):=(show C.sel fp (.clo fn fs cs) = .clo fn (C.selL fp fs) (C.selL fp cs) from by rw[C.sel])
theorem zcp:C.selL fp [] = []:=(show C.selL fp [] = [] from by rw[C.selL])
theorem vj:C.selL fp (c :: r)=C.sel fp c :: C.selL fp r:=(show C.selL fp (c :: r)=C.sel fp c :: C.selL fp r from by rw[C.selL])
theorem zkT :C.fz bx (.agg cs) = .agg (C.fzL bx cs):=(show C.fz bx (.agg cs) = .agg (C.fzL bx cs) from by rw[C.fz])
theorem zkI :C.fz bx (.tup cs) = .tup (C.fzL bx cs):=(show C.fz bx (.tup cs) = .tup (C.fzL bx cs) from by rw[C.fz])
theorem zjq {fs:List C} :C.fz bx (.clo fn fs cs) = .clo fn (C.fzL bx fs) (C.fzL bx cs):=(show C.fz bx (.clo fn fs cs) = .clo fn (C.fzL bx fs) (C.fzL bx cs) from by rw[C.fz])
theorem zeR:C.fzL bx [] = []:=(show C.fzL bx [] = [] from by rw[C.fzL])
theorem zcw :C.fzL bx (c :: r)=C.fz bx c :: C.fzL bx r:=(show C.fzL bx (c :: r)=C.fz bx c :: C.fzL bx r from by rw[C.fzL])
theorem zlT:C.fy nx fr bx (.agg cs) = .agg (C.fyL nx fr bx cs):=(show C.fy nx fr bx (.agg cs) = .agg (C.fyL nx fr bx cs) from by rw[C.fy])
theorem zju:C.fy nx fr bx (.tup cs) = .tup (C.fyL nx fr bx cs):=(show C.fy nx fr bx (.tup cs) = .tup (C.fyL nx fr bx cs) from by rw[C.fy])
theorem zhK:C.fyL nx fr bx [] = []:=(show C.fyL nx fr bx [] = [] from by rw[C.fyL])
theorem zb2:C.fyL nx fr bx (c :: r)=C.fy nx fr bx c :: C.fyL nx fr bx r:=(show C.fyL nx fr bx (c :: r)=C.fy nx fr bx c :: C.fyL nx fr bx r from by rw[C.fyL])
theorem zh2:C.frz (.agg cs) = .agg (C.frzL cs):=(show C.frz (.agg cs) = .agg (C.frzL cs) from by rw[C.frz])
theorem zfY {fs:List C}:C.frz (.clo fn fs cs) = .clo fn (C.frzL fs) (C.frzL cs):=(show C.frz (.clo fn fs cs) = .clo fn (C.frzL fs) (C.frzL cs) from by rw[C.frz])
theorem zdg:C.frzL [] = []:=(show C.frzL [] = [] from by rw[C.frzL])
theorem vp:C.frzL (c :: r)=C.frz c :: C.frzL r:=(show C.frzL (c :: r)=C.frz c :: C.frzL r from by rw[C.frzL])
theorem zlP {id:Nat}:C.dg id (.agg cs) = .agg (C.dgL id cs):=(show C.dg id (.agg cs) = .agg (C.dgL id cs) from by rw[C.dg])
theorem zkM {id:Nat}:C.dg id (.tup cs) = .tup (C.dgL id cs):=(show C.dg id (.tup cs) = .tup (C.dgL id cs) from by rw[C.dg])
theorem zlF {fs:List C} {id:Nat}:C.dg id (.clo fn fs cs) = .clo fn (C.dgL id fs) (C.dgL id cs):=(show C.dg id (.clo fn fs cs) = .clo fn (C.dgL id fs) (C.dgL id cs) from by rw[C.dg])
theorem zhu {id:Nat}:C.dgL id [] = []:=(show C.dgL id [] = [] from by rw[C.dgL])
theorem zdk {id:Nat}:C.dgL id (c :: r)=C.dg id c :: C.dgL id r:=(show C.dgL id (c :: r)=C.dg id c :: C.dgL id r from by rw[C.dgL])
theorem ziJ:C.sh n (.agg cs) = .agg (C.shL n cs):=(show C.sh n (.agg cs) = .agg (C.shL n cs) from by rw[C.sh])
theorem zj8:C.sh n (.tup cs) = .tup (C.shL n cs):=(show C.sh n (.tup cs) = .tup (C.shL n cs) from by rw[C.sh])
theorem zjB {fs:List C}:C.sh n (.clo fn fs cs) = .clo fn (C.shL n fs) (C.shL n cs):=(show C.sh n (.clo fn fs cs) = .clo fn (C.shL n fs) (C.shL n cs) from by rw[C.sh])
theorem zhm:C.shL n [] = []:=(show C.shL n [] = [] from by rw[C.shL])
theorem zc3:C.shL n (c :: r)=C.sh n c :: C.shL n r:=(show C.shL n (c :: r)=C.sh n c :: C.shL n r from by rw[C.shL])
theorem zdb {id:Nat}:zck id [] = []:=(rfl)
theorem zqC {id:Nat} {r:List (Nat×C)}:zck id ((u,c) :: r)=(u,c.dg id) :: zck id r:=(rfl)
theorem zcv {id:Nat}:yQ id [] = []:=(rfl)
theorem zpK {id:Nat} {r:List (List C)}:yQ id (cs :: r)=C.dgL id cs :: yQ id r:=(rfl)
theorem uM:C.cellB (.str l)=true:=(rfl)
theorem uL:C.partB (.str l)=true:=(rfl)
theorem uo:C.cells (.str l) = [.str l]:=(rfl)
theorem zdM {rows:List (List C)}:C.cellB (.sl k rows)=true:=(rfl)
theorem zc9 {rows:List (List C)}:C.partB (.sl k rows)=true:=(rfl)
theorem zdW {rows:List (List C)}:C.cells (.sl k rows) = [.sl k rows]:=(rfl)
theorem uY {id:Nat} {rows:List (List C)}:C.cellB (.own id e k rows)=true:=(rfl)
theorem uU {id:Nat} {rows:List (List C)}:C.partB (.own id e k rows)=true:=(rfl)
theorem yW {id:Nat} {rows:List (List C)}:C.cells (.own id e k rows) = [.own id e k rows]:=(rfl)
theorem vn {fs:List C}:C.cellB (.clo fn fs cs)=true:=(rfl)
theorem zad {fs:List C}:C.partB (.clo fn fs cs)=true:=(rfl)
theorem uS {fs:List C}:C.cells (.clo fn fs cs) = [.clo fn fs cs]:=(rfl)
theorem zd2:C.cellB (.sc v)=v.oneCell':=(rfl)
theorem zbX:C.partB (.sc v)=v.oneCell':=(rfl)
theorem zcA:C.cells (.sc v) = [.sc v]:=(rfl)
theorem vN:C.partB (.agg cs)=true:=(rfl)
theorem uB:C.cells (.agg cs)=cs:=(rfl)
theorem zf6 {k:IntKind} {n:Int}:Value.oneCell' (.int k n)=true:=(rfl)
theorem zb1 {b:Bool}:Value.oneCell' (.bool b)=true:=(rfl)
theorem vo {a:Option Addr} {m:Nat}:Value.oneCell' (.slice a n m)=true:=(rfl)
theorem xu {s:ByteArray}:Value.oneCell' (.string s)=true:=(rfl)
theorem znB:Zf k 0 cs = []:=(rfl)
theorem zoh:Zf k (n+1) cs=cs.take k :: Zf k n (cs.drop k):=(rfl)
theorem zmE:U2 i [] = []:=(rfl)
theorem zqW:U2 i (c :: r)=(i,c) :: U2 (i+1) r:=(rfl)
theorem zeW:zn4 (.sc (.bool true)) X Y ⟨⟩ ⟨⟩=X:=zlu
theorem zcZ:zn4 (.sc (.bool false)) X Y ⟨⟩ ⟨⟩=Y:=zf4
theorem br {b:Bool} (hx:b=true->X) (hy:b=false->Y):zn4 (.sc (.bool b)) X Y ⟨⟩ ⟨⟩:=ABr.mk hx hy
theorem jI {a1:List C} (ι κ:List Nat) (hf:YX P G f a1 fbx q post) (hq:κ.length=q) (hι:ι.Nodup) (hκ:κ.Nodup) (hb:∀ i∈ι,i<bx.length)
  (ha:C.reL (X2 ι) (X2 κ) args=a1) (hx:(ι.map fun i=>C.reL (X2 ι) (X2 κ) (bx.getD i []))=fbx) (hK:∀ r fbx' n,post r fbx' n->K3 (r.re (upB ι bx.length) (upO nx)) (ZS ι κ fbx' n ⟨tm,bx,nx,lg⟩)):Zx P G f args fargs ⟨tm,bx,nx,lg⟩ K3 ⟨⟩:=
 .inr <| .inr <| .inr <| .inl ⟨ι,κ,post,hι,hκ,hb,by rw[ha,hq];exact hx▸hf,hK⟩
theorem zoC {K4:C->List (List C)->Nat->Prop} {a1:List C} (ι:List Nat) (hf:YX P G f a1 fbx 0 post) (hι:ι.Nodup) (hb:∀ i∈ι,i<bx.length)
  (ha:C.reL (X2 ι) (X2 []) args=a1) (hx:(ι.map fun i=>C.reL (X2 ι) (X2 []) (bx.getD i []))=fbx) (hK:∀ r fbx' n,post r fbx' n->K4 (r.re (upB ι bx.length) (upO nx)) (ZS ι [] fbx' n ⟨tm,bx,nx,lg⟩).bx (nx+n)):zua P G f args ⟨tm,bx,nx,lg⟩ K4 ⟨⟩:=
 ⟨ι,post,hι,hb,by rw[ha];exact hx▸hf,hK⟩
theorem znA {r:C} (hf:ztP P f args bx r) (hK:K3 r ⟨tm,bx,nx,lg⟩):Zx P G f args fargs ⟨tm,bx,nx,lg⟩ K3 ⟨⟩:=.inr <| .inr <| .inr <| .inr ⟨r,hf,hK⟩
theorem zmT {m:Nat} {z:Option (List Value)} {xs:List C} (hl:lay P t=some ⟨.slice e,s1,b1,z1⟩) (hle:lay P e=some ⟨kd,k,by',z⟩) (hx:d.xs? k bx=some (m,xs)) (hb:bx[i]?=some cs) (hxl:xs.length=m*k) (hfit:off+n*k<=cs.length)
  (hK:K3 (.sc (.int .i64 ((min m n:Nat):Int))) ⟨tm,bx.set i (spl cs off (xs.take (min m n*k))),nx,lg⟩):yu P t (.bs i off k n cap) d ⟨tm,bx,nx,lg⟩ K3 ⟨⟩:=by
 show Zs P t _ _ _ _;unfold Zs;simp only[hl,hle,hx,hb];exact ⟨trivial,hxl,hfit,hK⟩
theorem zrb {m:Nat} {c:C} {z:Option (List Value)} {xs:List C} (hl:lay P t=some ⟨.slice e,s1,b1,z1⟩) (hle:lay P e=some ⟨kd,k,by',z⟩) (hx:d.xs? k bx=some (m,xs)) (hc:c.rows? k=some []) (hb:∀ i off k n c',c≠.bs i off k n c') (hxl:xs.length=m*k)
  (hK:K3 (.sc (.int .i64 0)) ⟨tm,bx,nx,lg⟩):yu P t c d ⟨tm,bx,nx,lg⟩ K3 ⟨⟩:=by
 show Zs P t _ _ _ _;unfold Zs;simp only[hl,hle,hx];cases c<;>first
  | exact absurd rfl (hb _ _ _ _ _)
  | (simp only[hc];exact ⟨hxl,hK⟩)
theorem zqB {z:List Value} (hl:lay P t=some ⟨.slice e,s1,b1,z1⟩) (hle:lay P e=some ⟨kd,k,by',some z⟩) (hb:bx[i]?=some cs) (hz:z.length=k) (hk:0<k) (h1:(z.all Value.oneCell')=true) (hfit:off+n*k<=cs.length)
  (hK:K3 .any ⟨tm,bx.set i (spl cs off (List.replicate n (z.map zE)).flatten),nx,lg⟩):vf P t (.bs i off k n cap) ⟨tm,bx,nx,lg⟩ K3 ⟨⟩:=by
 show kW P t _ _ _;unfold kW;simp only[hl,hle,hb];exact ⟨trivial,hz,hk,h1,hfit,hK⟩
theorem ND {m:Nat} {z:List Value} {xs:List C} (hl:lay P t=some ⟨.slice e,s1,b1,z1⟩) (hle:lay P e=some ⟨kd,k,by',some z⟩) (hx:d.xs? k bx=some (m,xs)) (hz:z.length=k) (hk:0<k) (h1:(z.all Value.oneCell')=true) (hxl:xs.length=m*k) (hm:0<m) (h63:m<=9223372036854775807) (hby:m*by'<=140737488355328)
  (hK:∀ cap,m<=cap->cap<=9223372036854775807->K3 (.bs bx.length 0 k m cap) ⟨tm,bx++[xs++List.replicate ((cap-m)*k) .any],nx,lg⟩):ue P t (.sc (.slice none 0 0)) d ⟨tm,bx,nx,lg⟩ K3 ⟨⟩:=by
 show Y1 P t _ _ _ _;unfold Y1;simp only[hl,hle,hx];exact ⟨hz,hk,h1,hxl,hm,h63,hby,fun c h1 h2=>hK c h1 (by unfold maxLen at h2;omega)⟩
theorem Vw {m:Nat} {z:List Value} {xs:List C} (hl:lay P t=some ⟨.slice e,s1,b1,z1⟩) (hle:lay P e=some ⟨kd,k,by',some z⟩) (hx:d.xs? k bx=some (m,xs)) (hz:z.length=k) (hk:0<k) (h1:(z.all Value.oneCell')=true) (hxl:xs.length=m*k)
  (hb:bx[i]?=some cs) (hfit:off+cap*k<=cs.length) (hn:n<=cap) (h63:n+m<=9223372036854775807) (hby:(n+m)*by'<=140737488355328)
  (hK1:n+m<=cap->K3 (.bs i off k (n+m) cap) ⟨tm,bx.set i (spl cs (off+n*k) xs),nx,lg⟩)
  (hK2:cap<n+m->∀ c',n+m<=c'->c'<=9223372036854775807->K3 (.bs bx.length 0 k (n+m) c') ⟨tm,bx++[(cs.drop off).take (n*k)++xs++List.replicate ((c'-(n+m))*k) .any],nx,lg⟩):ue P t (.bs i off k n cap) d ⟨tm,bx,nx,lg⟩ K3 ⟨⟩:=by
 show Y1 P t _ _ _ _;unfold Y1;simp only[hl,hle,hx,hb];exact ⟨hz,hk,h1,hxl,trivial,hfit,hn,h63,hby,hK1,fun h c h1 h2=>hK2 h c h1 (by unfold maxLen at h2;omega)⟩
theorem zer {tn s2 b2:Nat} {kn kq:IntKind} {z:List Value} {q:Int} (hl:lay P t=some ⟨.slice e,s1,b1,z1⟩) (hln:lay P tn=some ⟨.int kn,s2,b2,z2⟩) (hle:lay P e=some ⟨kd,k,by',some z⟩) (hz:z.length=k) (hk:0<k) (h1:(z.all Value.oneCell')=true)
  (hq:0<q) (h63:q<=9223372036854775807) (hby:q*by'<=140737488355328) (hK:∀ c',q.toNat<=c'->c'<=maxLen->K3 (.bs bx.length 0 k q.toNat c') ⟨tm,bx++[(List.replicate q.toNat (z.map zE)).flatten++List.replicate ((c'-q.toNat)*k) .any],nx,lg⟩) :
  zbh P t tn (.sc (.slice none 0 0)) (.sc (.int kq q)) ⟨tm,bx,nx,lg⟩ K3 ⟨⟩:=by
 show NS P t tn _ _ _ _;unfold NS;simp only[hl,hln,hle];exact ⟨hz,hk,h1,hq,h63,hby,hK⟩
theorem zuL {tn s2 b2:Nat} {kn kq:IntKind} {z:List Value} {q:Int} (hl:lay P t=some ⟨.slice e,s1,b1,z1⟩) (hln:lay P tn=some ⟨.int kn,s2,b2,z2⟩) (hle:lay P e=some ⟨kd,k,by',some z⟩) (hz:z.length=k) (hk:0<k) (h1:(z.all Value.oneCell')=true)
  (hb:bx[i]?=some cs) (hfit:off+cap*k<=cs.length) (hn:n<=cap) (hq:0<q) (h63:(n:Int)+q<=9223372036854775807) (hby:((n:Int)+q)*by'<=140737488355328) (hg:(cap:Int)<n+q)
  (hK:∀ c',n+q.toNat<=c'->c'<=9223372036854775807->K3 (.bs bx.length 0 k (n+q.toNat) c') ⟨tm,bx++[(cs.drop off).take (n*k)++(List.replicate q.toNat (z.map zE)).flatten++List.replicate ((c'-(n+q.toNat))*k) .any],nx,lg⟩):zbh P t tn (.bs i off k n cap) (.sc (.int kq q)) ⟨tm,bx,nx,lg⟩ K3 ⟨⟩:=by
 show NS P t tn _ _ _ _;unfold NS;simp only[hl,hln,hle,hb];exact ⟨hz,hk,h1,trivial,hfit,hn,hq,h63,hby,hg,fun c h1 h2=>hK c h1 (by unfold maxLen at h2;omega)⟩
def opB (P:Program) (fn:Func) (code:Code) (b:Nat->List Bool):Bool:=P.follows .mixedOrders&&(!(fn.name == "runtime.NumGoroutine")&&jW fn.ntmps b code)
theorem zqm {fn:Func} {b:Nat->List Bool} (h:opB P fn code b=true):P.follows .mixedOrders=true:=(A2.1 h).1
theorem zqM {fn:Func} {b:Nat->List Bool} (h:opB P fn code b=true):(fn.name == "runtime.NumGoroutine")=false:=by
 have:=(A2.1 (A2.1 h).2).1;simpa using this
theorem zqb {fn:Func} {b:Nat->List Bool} (h:opB P fn code b=true):jW fn.ntmps b code=true:=(A2.1 (A2.1 h).2).2
theorem foF {fn:Func} {r:C} (b:Nat->List Bool) (hf:P.funcs[f]?=some fn)
  (h:VR P G ⟨0,none,b⟩ code (xM P fn.results.toList (fun c σ=>∃ (fr:Fr) (src:Src),zcf fr σ.bx/\Zc src=true/\src.length=n/\CLe src 0 (c.fy σ.nx fr σ.bx) r) ⟨⟩) ⟨U2 0 args,[],0,0⟩ ⟨⟩ ⟨⟩) (hb:fn.body=some code:=by rfl) (hN:args.length<=fn.ntmps:=by exact zkq rfl) (ho:opB P fn code b=true:=by kernel_rfl):Fun P G f args r n:=Fun.of_awpF b (zqm ho) hf hb (zqM ho) hN (zqb ho) h
theorem foX {fn:Func} {bx:List (List C)} (b:Nat->List Bool) (hf:P.funcs[f]?=some fn)
  (h:VR P G ⟨bx.length,none,b⟩ code (xM P fn.results.toList (fun c σ=>∃ r bx' n,(post r bx' n/\bx.length<=bx'.length)/\∃ src:Src,Zc src=true/\src.length=n/\zd src bx'.length σ.bx bx'/\CLe src bx'.length c r) ⟨⟩) ⟨U2 0 args,bx,q,0⟩ ⟨⟩ ⟨⟩) (hb:fn.body=some code:=by rfl) (hN:args.length<=fn.ntmps:=by exact zkq rfl) (ho:opB P fn code b=true:=by kernel_rfl):YX P G f args bx q post:=YX.of_awp b (zqm ho) hf hb (zqM ho) hN (zqb ho) h
theorem zp3 {r:C} (gargs:List C) (hf:Fun P G f gargs r n) (hr:r.freshB=true) (hl:X6 bx args gargs) (hK:K3 (r.sh nx) ⟨tm,bx,nx+n,lg⟩):Zx P G f args fargs ⟨tm,bx,nx,lg⟩ K3 ⟨⟩:=.inr <| .inr <| .inl ⟨gargs,r,n,hl,hf,hr,hK⟩
theorem call {r:C} (hf:Fun P G f fargs r n) (hK:K3 (r.sh nx) ⟨tm,bx,nx+n,lg⟩):Zx P G f args fargs ⟨tm,bx,nx,lg⟩ K3 ⟨⟩:=.inl ⟨r,n,hf,hK⟩
theorem H7 {r:C} (hf:Fun P G f args r n) (hK:K2 (r.sh nx) (nx+n)):vh P G f args nx K2 ⟨⟩:=zaq.mk hf hK
theorem Fun.less {args':List C} {r:C} (hf:Fun P G f args' r n) (hl:zh [] 0 args args'):Fun P G f args r n:=⟨hf.1,fun R vs hg ha=>hf.2 R vs hg (by
 have:=zy.less _ _ _ hl ha;refine zy.ext (Ext.refl R) ⟨fun i b hb=>?_,fun id x hx=>?_⟩ _ _ this
 ·simp at hb
 ·have hx:VE [] zP.T id=some x:=hx;simp[VE]at hx)⟩
theorem VS {a1:List C} {fbx':List (List C)} {r:C} (ι κ:List Nat) (hf:Mw P G f a1 fbx q r fbx' n) (hq:κ.length=q) (hι:ι.Nodup) (hκ:κ.Nodup) (hb:∀ i∈ι,i<bx.length)
  (ha:C.reL (X2 ι) (X2 κ) args=a1) (hx:(ι.map fun i=>C.reL (X2 ι) (X2 κ) (bx.getD i []))=fbx) (hK:K3 (r.re (upB ι bx.length) (upO nx)) (ZS ι κ fbx' n ⟨tm,bx,nx,lg⟩)):Zx P G f args fargs ⟨tm,bx,nx,lg⟩ K3 ⟨⟩:=
 .inr <| .inl ⟨ι,κ,r,fbx',n,hι,hκ,hb,by rw[ha,hq];exact hx▸hf,hK⟩
theorem range {A B:Nat->(Exit->St->Prop)->St->Prop} {ps:List Tmp} {first cap first' cap':List C} {bx':List (List C)} (items:List (List C)) (sf:Nat->Bool) (m:Nat) (I:Nat->St) (hit:yR P G f first' cap' bx' items) (e1:C.selL (Xq m) first=first') (e2:C.selL (Xq m) cap=cap') (e3:(bx.drop m).map (C.selL (Xq m))=bx')
  (hp:p<=m) (hm:m<=bx.length) (hlen:∀ it∈items,it.length=ps.length) (hI:∀ k,k<=items.length->(I k).bx.length=m) (hw:JY m ⟨[],bx,nx,lg⟩ ((I 0).wt []))
  (hbody:∀ k it,items[k]?=some it->(∀ j,j<k->sf j=false)->A m (zl8 (B m (zan m (HT m tm) (sf k) (I (k+1)) Q ⟨⟩ ⟨⟩)) ⟨⟩) ((I k).wt (VU ps it (HT m tm))))
  (hdone:(∀ j,j<items.length->sf j=false)->Q .normal ((I items.length).wt (HT m tm))):zgO P G p A B Q ps (.clo (.func f) first cap) ⟨tm,bx,nx,lg⟩ ⟨⟩ ⟨⟩ ⟨⟩:=
 ⟨items,sf,m,I,hp,hm,by rw[e1,e2];exact e3▸hit,hlen,hI,hw,hbody,hdone⟩
theorem loop {B:(Exit->St->Prop)->St->Prop} {ι:Type} (I:ι->St) (ok:ι->Prop) (μ:ι->Nat) (i0:ι) (h0:ok i0) (hw:JY p σ (I i0))
  (hr:∀ i,ok i->B (zbo (fun σ'=>∃ j,ok j/\μ j<μ i/\JY p σ' (I j)) Q ⟨⟩ ⟨⟩) (I i)):zf1 p B Q σ ⟨⟩ ⟨⟩:=⟨ι,I,ok,μ,i0,h0,hw,hr⟩
theorem fof {fn:Func} {r:C} (b:Nat->List Bool) (hf:P.funcs[f]?=some fn)
  (h:VR P G ⟨0,none,b⟩ code (xM P fn.results.toList (fun c σ=>∃ src:Src,Zc src=true/\src.length=n/\CLe src 0 (c.fz σ.bx) r) ⟨⟩) ⟨U2 0 args,[],0,0⟩ ⟨⟩ ⟨⟩) (hb:fn.body=some code:=by rfl) (hN:args.length<=fn.ntmps:=by exact zkq rfl) (ho:opB P fn code b=true:=by kernel_rfl):Fun P G f args r n:=Fun.of_awp b (zqm ho) hf hb (zqM ho) hN (zqb ho) h
theorem fon {fn:Func} {r:C} (hf:P.funcs[f]?=some fn)
  (h:VR P G ⟨0,none,fun _=>[]⟩ code (xM P fn.results.toList (fun c σ=>∃ src:Src,Zc src=true/\src.length=n/\CLe src 0 (c.fz σ.bx) r) ⟨⟩) ⟨U2 0 args,[],0,0⟩ ⟨⟩ ⟨⟩) (hb:fn.body=some code:=by rfl) (hN:args.length<=fn.ntmps:=by exact zkq rfl) (ho:opB P fn code (fun _=>[])=true:=by kernel_rfl):Fun P G f args r n:=fof _ hf h hb hN ho
theorem foB {fn:Func} {bx bx':List (List C)} {r:C} (b:Nat->List Bool) (hf:P.funcs[f]?=some fn)
  (h:VR P G ⟨bx.length,none,b⟩ code (xM P fn.results.toList (fun c σ=>∃ src:Src,Zc src=true/\src.length=n/\zd src bx'.length σ.bx bx'/\CLe src bx'.length c r) ⟨⟩) ⟨U2 0 args,bx,q,0⟩ ⟨⟩ ⟨⟩) (hb:fn.body=some code:=by rfl) (hN:args.length<=fn.ntmps:=by exact zkq rfl) (ho:opB P fn code b=true:=by kernel_rfl) (hlen:bx.length<=bx'.length:=by exact zkq rfl):Mw P G f args bx q r bx' n:=Mw.of_awp b (zqm ho) hf hb (zqM ho) hN (zqb ho) hlen h
theorem foI {fn:Func} {first cap:List C} {bx items:List (List C)} (b:Nat->List Bool) (hf:P.funcs[f]?=some fn)
  (h:∀ (l:Nat) (sf:Nat->Bool),VR P G ⟨0,some ⟨l,items,sf⟩,b⟩ code (xM P fn.results.toList (fun c σ=>znU items sf σ.lg) ⟨⟩) ⟨U2 0 (first++[.sc (.func (.yield l) #[] #[])]++cap),bx,0,0⟩ ⟨⟩ ⟨⟩) (hb:fn.body=some code:=by rfl) (hN:first.length+1+cap.length<=fn.ntmps:=by exact zkq rfl) (ho:opB P fn code b=true:=by kernel_rfl):yR P G f first cap bx items:=yR.of_awp b (zqm ho) hf hb (zqM ho) hN (zqb ho) h
theorem ztW {m:Nat} {xs:List C} {z1:List Value} (A:List C) (hbx:bx[i]?=some cs) (h1:z1.length=k) (h2:0<k) (h3:(z1.all Value.oneCell')=true) (h4:0<m) (hp:p<=i) (hl:cs.length=cap*k) (hn:n<=cap) (hc:cap<=9223372036854775807)
  (h5:n+m<=9223372036854775807) (h6:(n+m)*b<=140737488355328) (hA:C.reL (Yp i) some (cs.take (n*k)++xs)=A)
  (hK:∀ c',n+m<=c'->c'<=9223372036854775807->K3 (.bs i 0 k (n+m) c') ⟨Gw (Yp i) some tm,Vt i (A++List.replicate ((c'-(n+m))*k) .any) bx,nx,lg⟩):zqI (some (m,xs)) p k b z1 (.bs i 0 k n cap) ⟨tm,bx,nx,lg⟩ K3 ⟨⟩:=by
 refine ⟨h1,h2,h3,h4,?_⟩;simp only[hbx];exact ⟨trivial,hp,hl,hn,hc,h5,h6,fun c' q1 q2=>by rw[hA];exact hK c' q1 (by unfold maxLen at q2;omega)⟩
theorem zdF (k:Nat):((k:Int)+1).toNat=k+1:=by omega
theorem zlr.mk {B:(Exit->St->Prop)->St->Prop} {ι:Type} (I:ι->St) (ok:ι->Prop) (μ:ι->Nat) (i0:ι) (h0:ok i0) (hw:JY p σ (I i0))
  (hr:∀ i,ok i->B (zo8 (fun σ'=>∃ j,ok j/\μ j<μ i/\JY p σ' (I j)) Q) (I i)):zlr p B Q σ:=⟨ι,I,ok,μ,i0,h0,hw,hr⟩
end
attribute [push_cast] eq_self iff_self List.append_eq ztJ zu4 zu6 zuY ztU zcX ztN zod zlJ zr6 zpS zsx zsm zp8 zoH zoj zr9 zou zrO zq5 zm8 zsM zqU zoE zrD zs3 ztz zqu zoN zqs zlH znS zlS zgd zj6 zlo ziI zga zg0 zfd zlY zrl zq2 zq0 zrV zgt zae zuz ziY znC zox zqT zqG v7 zdX zff xe yK vP zdQ xF zi1 uD zc0 znc zob zp7 zrv zq8 zrd zsa zsj znl zsk zlW zi2 zk0 zjP zkP zmK zqR zpY zoU zn1 zdE zb8 vi vL Gc H0 Nh zp9 zo6 zlv zkp zds zch zjK zi6 zhe zfZ zlc ziT xP ME zfc zgP zjM zi7 ul M1 zgD zfK NZ NE zhX zfL NG Mi zgC zeh y7 vI zex zhk zm1 zos uh zrj zoO zbT zrN zk9 zbV zqP zc4 zkx zjn zhf zoA ztq zjA zgx zdd zfo zoJ zgB zlb zcr zfx vM vc zrB vZ xm vd NO zao zag xw zeX zhJ zhD MB zf8 MG zfb zdG zen zgb zjS zdN zjJ zia zi0 zhG zgh zgu zfg zfe zh4 zhP zfF zgi zgA zhs zfV zha zeL zhy zkz zec zsL zh3 zqf zix zty zto zcl zgM zc8 zdi zdv znM Ne zdI vH zcs yC MN zoW zi9 zhI zuq ztj zjo zkJ zuS zdw zce zig zhg zdm zdy uk zbW zhC zgw zlL zk3 zkV ziP zlR zut zth ztE zsQ zuU zsO zs6 zna zsi znI zpj ziQ zoQ zq3 zrn zcP zdn zdq zrP zur znF zuZ ztl zqc zul ztg zci zeB zkW zcE zrY zp6 zka zj5 zll zdU zb6 zdD zhh zb3 zpE zcM zkD zjF zhp zg3 zl1 zfJ zem zsw zss zoi zjw zuX zov zrJ zo7 zs4 zsR zuj ztc zsU zts zt3 zr1 zpP zuu zs2 zt1 zin ze0 zro ztb zt0 zpV zqi zsZ ztG zsH zn9 znQ zj4 zqy ztS ztI zpe zqX zoG zqn zkf zjX zld zmO zkG zjY znr zt4 zs5 zsY zs9 zlI zpd zpn zeV ziS zlt zkk zpo zoy zfE zjI zjR zj2 zjt zoa zog zmX zpa zdH zqZ zdc zfw ze7 zjH zi3 zkj znx zkL zlk zh9 znV zkK zdu ziR ziB zlQ zm3 zk4 zoe zk2 zk8 zl0 zni zcU zle zjO zii znW znp zon zom znP zmZ znz zls zjp zlC zks zh8 zdB zeT ze2 zcp vj zkT zkI zjq zeR zcw zlT zju zhK zb2 zh2 zfY zdg vp zlP zkM zlF zhu zdk ziJ zj8 zjB zhm zc3 zdb zqC zcv zpK uM uL uo zdM zc9 zdW uY uU yW vn zad uS zd2 zbX zcA vN uB zf6 zb1 vo xu znB zoh zmE zqW zeW zcZ
attribute [push_cast] Int.ofNat_eq_natCast Bool.not_false Bool.not_true Bool.true_beq Bool.false_beq beq_self_eq_true Bool.true_and zn3 zng zp4 zoV znL List.map_cons List.map_nil List.getElem?_cons_zero List.getElem?_cons_succ List.getElem?_toArray List.getElem?_nil List.drop_zero List.drop_succ_cons List.drop_nil List.take_succ_cons List.take_zero List.take_nil List.length_cons List.length_nil List.getD_cons_zero List.getD_cons_succ List.set_cons_zero List.set_cons_succ List.cons_append List.nil_append List.append_nil List.all_cons List.all_nil List.tail_cons List.tail_nil List.headD_cons List.headD_nil List.flatten_cons List.flatten_nil List.replicate_succ List.replicate_zero Bool.and_self Bool.and_true Bool.true_and Bool.not_true Bool.not_false Option.bind_some Option.map_some Option.map_none if_true if_false true_and and_true and_self decide_true decide_false Int.ofNat_le Int.ofNat_lt Int.natCast_inj zdF Int.toNat_natCast Nat.zero_add Nat.add_zero List.toList_toArray Int.add_zero Int.zero_add Bool.not_not Int.sub_zero Int.natCast_pos Nat.sub_zero Int.cast_ofNat_Int Nat.one_mul Nat.mul_one
theorem dn {p q r:Src->Prop} (c:r []:=by push_cast [ze,zd,CLe,zh]) (a:p []:=by rfl) (b:q []:=by rfl):∃ s,p s/\q s/\r s:=⟨[],a,b,c⟩
theorem wks {p:Nat} {σ σ':St} (src:Src) (h4:ze src σ'.bx.length σ.tm σ'.tm:=by push_cast [ze,zd,CLe,zh]) (h5:zd src σ'.bx.length σ.bx σ'.bx:=by push_cast [ze,zd,CLe,zh]) (h1:Zc src=true:=by rfl) (h2:src.length=σ'.nx:=by rfl)
  (h3:p<=σ'.bx.length:=by first | exact Wb _ | exact Wc _ | exact zkq rfl) (h0:σ'.lg=σ.lg:=by rfl):JY p σ σ':=⟨src,h1,h2,h3,h0,h4,h5⟩
theorem wk {p:Nat} {σ σ':St} (h4:ze [] σ'.bx.length σ.tm σ'.tm:=by push_cast [ze,zd,CLe,zh]) (h5:zd [] σ'.bx.length σ.bx σ'.bx:=by push_cast [ze,zd,CLe,zh]) (h2:([]:Src).length=σ'.nx:=by rfl)
  (h3:p<=σ'.bx.length:=by first | exact Wb _ | exact Wc _ | exact zkq rfl) (h0:σ'.lg=σ.lg:=by rfl):JY p σ σ':=⟨[],rfl,h2,h3,h0,h4,h5⟩
theorem an {a b:Prop} (k:b) (h:a:=by first | omega | (simp only[lS];omega)):a/\b:=⟨h,k⟩
namespace CA
theorem cl {P:Program} {G:zu} {f:FuncId} {args fargs:List C} {r:C} {n nx lg:Nat} {tm:List (Nat×C)} {bx:List (List C)} {K3:C->St->Prop} (hf:Fun P G f fargs r n) (hK:K3 (r.sh nx) ⟨tm,bx,nx+n,lg⟩):Zx P G f args fargs ⟨tm,bx,nx,lg⟩ K3 ⟨⟩:=call hf hK
end CA
namespace CB
theorem cl {P:Program} {G:zu} {f:FuncId} {args:List C} {r:C} {n nx:Nat} {K2:C->Nat->Prop} (hf:Fun P G f args r n) (hK:K2 (r.sh nx) (nx+n)):vh P G f args nx K2 ⟨⟩:=H7 hf hK
end CB
end
section
open Go.RowKit
def C.stayB:C->Bool
 | .sc _ | .str _ | .sl _ _ | .tight _ _ | .row _ | .any=>true
 | _=>false
theorem zky {c:C} (h:c.stayB=true):c.frz=c:=by cases c<;>simp[C.stayB]at h<;>simp[C.frz]
theorem zoY {c:C} {fp fo:Nat->Option Nat} (h:c.stayB=true):c.re fp fo=c:=by cases c<;>simp[C.stayB]at h<;>simp[C.re]
theorem zmH {c:C} {src:Src} {n:Nat} (h:c.stayB=true):CLe src n c c:=by cases c<;>simp[C.stayB]at h<;>simp[CLe]
theorem yH:∀ {cs:List C},(cs.all C.stayB)=true->C.frzL cs=cs
 | [],_=>by simp[C.frzL]
 | c :: r,h=>by
  simp only[A4,Wp]at h;rw[C.frzL,zky h.1,yH h.2]
theorem zF {fp fo:Nat->Option Nat}:∀ {cs:List C},(cs.all C.stayB)=true->C.reL fp fo cs=cs
 | [],_=>by simp[C.reL]
 | c :: r,h=>by
  simp only[A4,Wp]at h;rw[C.reL,zoY h.1,zF h.2]
theorem z6 {src:Src} {n:Nat}:∀ {cs:List C},(cs.all C.stayB)=true->zh src n cs cs
 | [],_=>by simp[zh]
 | c :: r,h=>by
  simp only[A4,Wp]at h;rw[zh];exact ⟨zmH h.1,z6 h.2⟩
theorem zo0 {src:Src} {n:Nat} (c:C):CLe src n c .any:=by cases c<;>simp[CLe]
theorem XV {src:Src} {n:Nat}:∀ {cs:List C} {m:Nat},cs.length=m->zh src n cs (List.replicate m .any)
 | [],_,h=>by subst h;simp[zh]
 | c :: r,_,h=>by
  subst h;rw[Wh,AS,zh];exact ⟨zo0 c,XV rfl⟩
theorem zhU {src:Src} {n:Nat}:∀ {a b c d:List C},zh src n a c->zh src n b d->zh src n (a++b) (c++d)
 | [],b,[],d,_,h=>h
 | [],b,x :: c,d,h,_=>by simp[zh]at h
 | x :: a,b,[],d,h,_=>by simp[zh]at h
 | x :: a,b,y :: c,d,h,h'=>by
  rw[Of,Of,zh];rw[zh]at h;exact ⟨h.1,zhU h.2 h'⟩
def qF (k:Nat) (rows:List (List C)) (c:Nat):List C:=rows.flatten++List.replicate ((c-rows.length)*k) .any
theorem qA {k:Nat}:∀ {rows:List (List C)},(∀ r∈rows,r.length=k)->rows.flatten.length=rows.length*k
 | [],_=>by simp
 | r :: rs,h=>by
  rw[OX,Wn,h r Wk,qA fun x hx=>h x (Wl _ hx),Wh,AT,Nat.add_comm]
theorem JX {k c:Nat} {rows:List (List C)} (h:∀ r∈rows,r.length=k) (hc:rows.length<=c):(qF k rows c).length=c*k:=by
 unfold qF;rw[Wn,qA h,A0,←Oq];congr 1;omega
abbrev ju (rows:List (List C)):Prop:=∀ r∈rows,(r.all C.stayB)=true
theorem Za {rows:List (List C)} (h:ju rows):(rows.flatten.all C.stayB)=true:=by
 rw[Wz];intro c hc;obtain ⟨r,hr,hc⟩:=List.mem_flatten.1 hc;exact Wz.1 (h r hr) c hc
theorem zH {k c:Nat} {rows:List (List C)} (h:ju rows):((qF k rows c).all C.stayB)=true:=by
 unfold qF;rw[O2,Za h,Oj,Wz];intro c hc;obtain ⟨_,rfl⟩:=List.mem_replicate.1 hc
 rfl
theorem ZW {k n:Nat}:∀ {rows:List (List C)},(∀ r∈rows,r.length=k)->rows.flatten.take (n*k)=(rows.take n).flatten:=by
 induction n with
 | zero=>intro rows _;simp
 | succ n ih =>
  intro rows h;cases rows with
  | nil=>simp
  | cons r rs =>
   have hr:=h r Wk;rw[AD,OX,OX,AJ,Wf (by rw[hr,AT];omega),hr,show (n+1)*k-k=n*k by rw[AT];omega,ih fun x hx=>h x (Wl _ hx)]
theorem He {k n:Nat}:∀ {rows:List (List C)},(∀ r∈rows,r.length=k)->rows.flatten.drop (n*k)=(rows.drop n).flatten:=by
 induction n with
 | zero=>intro rows _;simp
 | succ n ih =>
  intro rows h;cases rows with
  | nil=>simp
  | cons r rs =>
   have hr:=h r Wk;rw[A8,OX,List.drop_append,Or (by rw[hr,AT];omega),hr,OB,show (n+1)*k-k=n*k by rw[AT];omega,ih fun x hx=>h x (Wl _ hx)]
theorem JR {src:Src} {m k c:Nat} {rows:List (List C)} {cs:List C} (hk:∀ r∈rows,r.length=k) (hs:ju rows) (hc:rows.length<=c) (hl:cs.length=c*k) (ht:cs.take (rows.length*k)=rows.flatten):zh src m cs (qF k rows c):=by
 have h1:cs=rows.flatten++cs.drop (rows.length*k):=by rw[←ht,Od]
 rw[h1];unfold qF;refine zhU (z6 (Za hs)) (XV ?_);rw[W3,hl,←Nat.sub_mul]
theorem ZD {cs xs:List C} {p:Nat} (h:p+xs.length<=cs.length):(spl cs p xs).length=cs.length:=by
 simp[spl];omega
theorem Hq {cs L X:List C} {p q:Nat} (hp:p<=L.length) (hq:q=p+X.length) (hL:cs.take L.length=L) (hc:L.length+X.length<=cs.length) :
  (spl (spl cs q (L.drop p)) p X).take (L.length+X.length)=L.take p++(X++L.drop p):=by
 subst hq;apply O5;intro j;have hcur:∀ j,j<L.length->cs[j]?=L[j]?:=fun j hj=>by
  have h:=Wu (fun l=>l[j]?) hL;simp only[WK,if_pos hj]at h;exact h
 simp only[spl,WK,BM,Ob,W7,Wn,W3]
 repeat' (first | split | omega)
 all_goals (first | rfl | omega | exact (W4 (by omega)).symm | (congr 1;omega) | (rw[hcur _ (by omega)];first | done | (congr 1;omega)) | (symm;rw[W4];simp;omega) | (rw[W4];simp;omega) | skip)
theorem Nk {cs L X:List C} {p q:Nat} (hp:p<=L.length) (hq:q=p+X.length) (hL:cs.take p=L.take p) (hc:L.length+X.length<=cs.length) :
  (spl (spl cs p X) q (L.drop p)).take (L.length+X.length)=L.take p++(X++L.drop p):=by
 subst hq;apply O5;intro j;have hcur:∀ j,j<p->cs[j]?=L[j]?:=fun j hj=>by
  have h:=Wu (fun l=>l[j]?) hL;simp only[WK,if_pos hj]at h;exact h
 simp only[spl,WK,BM,Ob,W7,Wn,W3]
 repeat' (first | split | omega)
 all_goals (first | rfl | omega | exact (W4 (by omega)).symm | (congr 1;omega) | (rw[hcur _ (by omega)];first | done | (congr 1;omega)) | (symm;rw[W4];simp;omega) | (rw[W4];simp;omega) | skip)
theorem zmI {cs L Z:List C} {p q n:Nat} (hq:q<=L.length) (hpq:p<=q) (hL:cs.take L.length=L) (hn:n=p+(L.length-q)) (hc:L.length<=cs.length) (hz:n+Z.length<=cs.length) :
  (spl (spl cs p (L.drop q)) n Z).take n=L.take p++L.drop q:=by
 subst hn;apply O5;intro j;have hcur:∀ j,j<L.length->cs[j]?=L[j]?:=fun j hj=>by
  have h:=Wu (fun l=>l[j]?) hL;simp only[WK,if_pos hj]at h;exact h
 simp only[spl,WK,BM,Ob,W7,Wn,W3]
 repeat' (first | split | omega)
 all_goals (first | rfl | omega | exact (W4 (by omega)).symm | (congr 1;omega) | (rw[hcur _ (by omega)];first | done | (congr 1;omega)) | (symm;rw[W4];simp;omega) | (rw[W4];simp;omega) | skip)
theorem vK {P:Program} {f:FuncId} {fn:Func} {t e tR:TypeId} {s1 b1 k by':Nat} {kd:LK} {z1 z:Option (List Value)} (hf:P.funcs[f]?=some fn) (hname:(fn.name == "runtime.NumGoroutine")=false) (hb:fn.body.isNone=true) (hn:Extern.findNext fn=none)
  (he:Extern.find fn=some (Extern.SlicesOverlaps.overlaps #[t,t] #[tR])) (hl:lay P t=some ⟨.slice e,s1,b1,z1⟩) (hle:lay P e=some ⟨kd,k,by',z⟩) {id e' k' i off n c:Nat} {rows bx:List (List C)} {cs:List C} (hbx:bx[i]?=some cs) (hcs:cs≠[]) (hrows:rows≠[]) (hn0:0<n) :
  ztP P f [.own id e' k' rows,.bs i off k n c] bx (.sc (.bool false)):=by
 intro B R L vs hB hO hr;obtain ⟨v1,us,rfl,h1,hr⟩:=zi.1 hr;obtain ⟨v2,us,rfl,h2,hr⟩:=zi.1 hr;rw[zo]at hr;subst hr;refine ⟨.bool false,?_,zt.2 rfl⟩;rw[run_callFunc_extern hf hname hb hn he];have ht:=qi hl rfl;have hz:∀ w,(Go.sizeOf e).run P w = .ok k w:=fun w=>qO hle w;obtain ⟨hT,a,cap,hv1,_⟩:=Y5.1 h1;obtain ⟨b,hbi,ad,rfl,had⟩:=jv.1 h2;obtain ⟨us,ty,e1,e2,e3,e4⟩:=hB.box i b cs hbi hbx;have hsz:us.size≠0:=by
  have:=zx e2;simp only[WY]at this;rw[this];exact fun h=>hcs (W6 h)
 rcases hO.own id e' k' v1 hT with hnil | ⟨g,n',cap',cur,ty',q1,q2,q3,q4,q5,q6,q7,q8⟩ | ⟨_,_,_,_,hmap,_⟩
 rotate_right
 ·rw[hv1]at hmap;unfold HD at hmap;cases hmap
 ·rw[hnil]at hv1;obtain ⟨_,h0,_⟩:=Value.slice.inj hv1;exact absurd (W6 h0.symm) hrows
 ·rw[q1];obtain rfl:=had (by omega);have hne:g≠b:=fun h=>q7 (h▸Wg hbi);rw[Lib.run_overlaps_apart R.w t tR e ht k hz ⟨g,0,none⟩ ⟨b,off,none⟩ n' cap' n c hne ty' ty cur.size us.size (by simp[World.shape?,q3]) (by simp[World.shape?,e1]) hsz (frozen_of_row R.w g 0 _ _ q3) (frozen_of_row R.w g _ _ _ q3)]
  rfl
theorem UH {m k:Nat} {z:List C} (hz:z.length=k):(List.replicate m z).flatten.length=m*k:=by
 have h:=qA (k:=k) (rows:=List.replicate m z) fun r hr=>by rw[(List.mem_replicate.1 hr).2];exact hz
 rw[h,A0]
section
variable {P:Program} {t tn e s1 b1 s2 b2 k by' m i off n cap nx lg:Nat} {kd:LK} {kn kq:IntKind} {z1 z2 z3:Option (List Value)} {z:List Value} {cs xs:List C} {bx:List (List C)} {tm:List (Nat×C)} {d:C} {q:Int} {K3:C->St->Prop}
theorem znh (hl:lay P t=some ⟨.slice e,s1,b1,z1⟩) (hln:lay P tn=some ⟨.int kn,s2,b2,z2⟩) (hle:lay P e=some ⟨kd,k,by',some z⟩) (hz:z.length=k) (hk:0<k) (h1:(z.all Value.oneCell')=true)
  (hb:bx[i]?=some cs) (hfit:off+cap*k<=cs.length) (hn:n<=cap) (hq:0<q) (h63:(n:Int)+q<=9223372036854775807) (hby:((n:Int)+q)*by'<=140737488355328) (hg:(cap:Int)<n+q)
  (hK:∀ c' B,n+q.toNat<=c'->c'<=9223372036854775807->B.length=c'*k->B.take (n*k)=(cs.drop off).take (n*k)->K3 (.bs bx.length 0 k (n+q.toNat) c') ⟨tm,bx++[B],nx,lg⟩):zbh P t tn (.bs i off k n cap) (.sc (.int kq q)) ⟨tm,bx,nx,lg⟩ K3 ⟨⟩:=by
 have hnk:n*k<=cap*k:=WT _ hn;refine zuL hl hln hle hz hk h1 hb hfit hn hq h63 hby hg fun c' g1 g2=>hK c' _ g1 g2 ?_ ?_
 ·rw[Wn,Wn,UH (k:=k) (by simpa using hz),A0,W7,W3,OJ (by omega),←Oq,←Oq];congr 1;omega
 ·rw[WH,OK (by rw[W7,W3];omega)]
theorem X1 (hl:lay P t=some ⟨.slice e,s1,b1,z1⟩) (hle:lay P e=some ⟨kd,k,by',z3⟩) (hx:d.xs? k bx=some (m,xs)) (hb:bx[i]?=some cs) (hxl:xs.length=m*k) (hfit:off+n*k<=cs.length)
  (hK:∀ B,B=spl cs off (xs.take (min m n*k))->B.length=cs.length->K3 (.sc (.int .i64 ((min m n:Nat):Int))) ⟨tm,bx.set i B,nx,lg⟩):yu P t (.bs i off k n cap) d ⟨tm,bx,nx,lg⟩ K3 ⟨⟩:=
 zmT hl hle hx hb hxl hfit (hK _ rfl (by
  have h1:min m n*k<=n*k:=WT _ (Nat.min_le_right _ _);exact ZD (by rw[W7];omega)))
theorem znG (hl:lay P t=some ⟨.slice e,s1,b1,z1⟩) (hle:lay P e=some ⟨kd,k,by',some z⟩) (hb:bx[i]?=some cs) (hz:z.length=k) (hk:0<k) (h1:(z.all Value.oneCell')=true) (hfit:off+n*k<=cs.length)
  (hK:∀ B Z,B=spl cs off Z->Z.length=n*k->B.length=cs.length->K3 .any ⟨tm,bx.set i B,nx,lg⟩):vf P t (.bs i off k n cap) ⟨tm,bx,nx,lg⟩ K3 ⟨⟩:=by
 have hZ:(List.replicate n (z.map zE)).flatten.length=n*k:=UH (by simpa using hz);exact zqB hl hle hb hz hk h1 hfit (hK _ _ rfl hZ (ZD (by omega)))
end
theorem HQ {k i off n c:Nat} {bx:List (List C)} {cs:List C} (hb:bx[i]?=some cs) (h:off+n*k<=cs.length):C.xs? k bx (.bs i off k n c)=some (n,(cs.drop off).take (n*k)):=by
 simp[C.xs?,hb,h]
theorem XB {k c i:Nat} {rows:List (List C)} (hk:∀ r∈rows,r.length=k) (hi:i<=rows.length):((qF k rows c).drop (i*k)).take ((rows.length-i)*k)=rows.flatten.drop (i*k):=by
 have hf:=qA hk;have h1:i*k<=rows.length*k:=WT _ hi;unfold qF;rw[List.drop_append_of_le_length (by omega),OK (by rw[W3,hf,Nat.sub_mul])]
theorem Q6 {k i:Nat} {rows:List (List C)} {x:List C} (hk:∀ r∈rows,r.length=k):rows.flatten.take (i*k)++(x++rows.flatten.drop (i*k))=(rows.take i++x :: rows.drop i).flatten:=by
 rw[ZW hk,He hk];simp
theorem zaQ {bx:List (List C)} {i e k c:Nat} {rows:List (List C)} {cs:List C} (hb:bx[i]?=some cs) (hc:0<c) (h1:rows.length<=c) (h2:c<=9223372036854775807) (hl:cs.length=c*k) (hk:∀ r∈rows,r.length=k) (hs:(cs.all C.stayB)=true) (ht:cs.take (rows.length*k)=rows.flatten) :
  zcf [(i,e,k,rows,c)] bx:=by
 refine ⟨by simp,fun x hx=>?_⟩;rw[W0]at hx;subst hx;exact ⟨cs,hb,hc,h1,by unfold maxLen;exact h2,hl,hk,by rw[yH hs];exact ht⟩
theorem zft {k c:Nat} {rows:List (List C)} (hk:∀ r∈rows,r.length=k):(qF k rows c).take (rows.length*k)=rows.flatten:=by
 unfold qF;rw[OK (qA hk)]
theorem zC {bx:List (List C)} {i e k c:Nat} {rows:List (List C)} (hb:bx[i]?=some (qF k rows c)) (hc:0<c) (h1:rows.length<=c) (h2:c<=9223372036854775807) (hk:∀ r∈rows,r.length=k) (hs:ju rows):zcf [(i,e,k,rows,c)] bx:=
 zaQ hb hc h1 h2 (JX hk h1) hk (zH hs) (zft hk)
theorem zbN {k c i:Nat} {rows:List (List C)} {row:List C} (hk:∀ r∈rows,r.length=k) (hr:row.length=k) (hi:i<rows.length):(qF k rows c).take (i*k)++row++(qF k rows c).drop (i*k+k)=qF k (rows.set i row) c:=by
 have hf:=qA hk;have h1:(i+1)*k<=rows.length*k:=WT _ hi;rw[AT]at h1;unfold qF;rw[OU (by omega),List.drop_append_of_le_length (by omega),←AT,ZW hk,He hk,Bx,←WH];congr 1;rw[List.set_eq_take_append_cons_drop,if_pos hi];simp
def RLe:List (List C)->List (List C)->Prop
 | [],[]=>True
 | a :: r,b :: s=>zh [] 0 a b/\RLe r s
 | _,_=>False
theorem RLe.len:∀ {a b:List (List C)},RLe a b->a.length=b.length
 | [],[],_=>rfl
 | _ :: r,_ :: s,h=>by rw[Wh,Wh,RLe.len h.2]
theorem zh.len {src:Src} {n:Nat}:∀ {a b:List C},zh src n a b->a.length=b.length
 | [],[],_=>rfl
 | [],_ :: _,h=>by simp[zh]at h
 | _ :: _,[],h=>by simp[zh]at h
 | _ :: r,_ :: s,h=>by
  rw[zh]at h;rw[Wh,Wh,zh.len h.2]
theorem zgV {R:Env} {c d:C} {v:Value} (h:CLe [] 0 c d) (hr:Rep R zP c v):Rep R zP d v:=by
 refine Rep.ext (Ext.refl R) (T:=JJ [] 0 zP) ⟨fun i b hb=>?_,fun id x hx=>?_⟩ _ _ (Rep.less _ _ _ h hr)
 ·simp at hb
 ·have hx:VE [] zP.T id=some x:=hx;simp[VE]at hx
theorem kK {R:Env} {b:Nat}:∀ {cs ds:List C} {o:Nat},zh [] 0 cs ds->zU R cs b o->zU R ds b o
 | [],[],_,_,h=>h
 | [],_ :: _,_,h,_=>by simp[zh]at h
 | _ :: _,[],_,h,_=>by simp[zh]at h
 | c :: r,d :: s,o,h,hr=>by
  rw[zh]at h;obtain ⟨⟨v,h1,h2,h3,h4⟩,h5⟩:=qu.1 hr;exact qu.2 ⟨⟨v,h1,h2,zgV h.1 h3,h4⟩,kK h.2 h5⟩
theorem GS {R:Env} {k b:Nat}:∀ {a c:List (List C)} {o:Nat},RLe a c->zZ R a k b o->zZ R c k b o
 | [],[],_,_,h=>h
 | x :: r,y :: s,o,h,hr=>by
  unfold zZ at hr ⊢;exact ⟨(zh.len h.1).symm.trans hr.1,kK h.1 hr.2.1,GS h.2 hr.2.2⟩
theorem zde {R:Env} {L:Loc} {id e k:Nat} {a c:List (List C)} {v:Value} (h:RLe a c) (hr:Rep R L (.own id e k a) v):Rep R L (.own id e k c) v:=by
 obtain ⟨h1,ad,cap,h2,h3,h4,h5⟩:=Y5.1 hr;refine Y5.2 ⟨h1,ad,cap,by rw[h2,h.len],by rw[←h.len];exact h3,h4,?_⟩;rcases h5 with h5 | ⟨b,o,h5,h6⟩
 ·subst h5;have:=h.len;exact .inl (W6 (by simpa using this.symm))
 ·exact .inr ⟨b,o,h5,GS h h6⟩
theorem Fun.resX {P:Program} {G:zu} {f:FuncId} {args:List C} {r r':C} {n:Nat} (hf:Fun P G f args r n) (h:∀ R L v,Rep R L r v->Rep R L r' v):Fun P G f args r' n:=
 ⟨hf.1,fun R vs hg ha=>(hf.2 R vs hg ha).mono fun e w' ⟨v,R',L',h1,h2,h3,h4⟩=>⟨v,R',L',h1,h2,h3,h _ _ _ h4⟩⟩
theorem zdL {R:Env} {L:Loc} {cs ds:List C} {v:Value} (h:∀ vs,zy R L cs vs->zy R L ds vs) (hr:Rep R L (.agg cs) v):Rep R L (.agg ds) v:=by
 obtain ⟨vs,h1,h2⟩:=Ju.1 hr;exact Ju.2 ⟨vs,h1,h _ h2⟩
theorem Y2 {R:Env} {L:Loc} {c d:C} {cs ds:List C} {vs:List Value} (h:∀ v,Rep R L c v->Rep R L d v) (h':∀ vs,zy R L cs vs->zy R L ds vs) (hr:zy R L (c :: cs) vs):zy R L (d :: ds) vs:=by
 obtain ⟨v,us,rfl,h1,h2⟩:=zi.1 hr;exact zi.2 ⟨v,us,rfl,h _ h1,h' _ h2⟩
end
section
open Go.RowKit
def zgp (k:Nat) (rows:List (List C)) (r:C) (bx':List (List C)) (n:Nat):Prop:=
 n=0/\((rows≠[]/\∃ c,rows.length<=c/\c<=9223372036854775807/\r = .bs 1 0 k rows.length c/\bx' = [[],qF k rows c])∨(rows = []/\(r = .sc (.slice none 0 0)/\bx' = []∨r = .bs 0 0 k 0 0/\bx' = [[]])))
def zsE (k m:Nat) (ins:List (List C)) (r:C) (bx':List (List C)) (n:Nat):Prop:=
 n=0/\∃ c,ins.length<=c/\c<=9223372036854775807/\(r = .bs 0 0 k ins.length c/\bx' = [qF k ins c]∨r = .bs 1 0 k ins.length c/\bx' = [List.replicate m .any,qF k ins c])
section
variable {G:zu}
theorem Ua (rows:List (List C)) (hk:∀ r∈rows,r.length=6) (hs:ju rows) (hl:rows.length<=100000) :
  YX Tryz.prog G 251 [.sl 6 rows] [] 0 (zgp 6 rows):=by
 refine YX.bySlice (fun h=>?_) (fun h a cap hr=>?_)
 ·refine foX (fun i=>if i=1000000+22 then [true,true] else []) Tryz.func251 ?_;dsimp only[Tryz.f251];push_cast;refine ⟨h,Vw V7 V4 rfl rfl (by decide) rfl (qA hk) rfl (Wc _) (Wc _) (by omega) (by omega) (fun hc=>absurd hc ?_) (fun _ c hc hm=>?_)⟩
  ·have:=WI.2 h;omega
  ·push_cast;rw[Ox]at hc;refine ⟨_,_,_,⟨⟨rfl,.inl ⟨h,c,hc,hm,rfl,rfl⟩⟩,Wb _⟩,[],rfl,rfl,?_,by push_cast [ze,zd,CLe,zh]⟩;push_cast [ze,zd,CLe,zh];exact z6 (zH hs)
 ·cases a with
  | none =>
   refine foX (fun i=>if i=1000000+22 then [true,true] else []) Tryz.func251 ?_;dsimp only[Tryz.f251];push_cast [hr,O9];exact ⟨_,_,_,⟨⟨rfl,.inr ⟨h,.inl ⟨rfl,rfl⟩⟩⟩,Wb _⟩,[],rfl,rfl,by push_cast [ze,zd,CLe,zh],by push_cast [ze,zd,CLe,zh]⟩
  | some a =>
   refine foX (fun i=>if i=1000000+22 then [true,true] else []) Tryz.func251 ?_;dsimp only[Tryz.f251];push_cast [hr,Aa];have hx:C.xs? 6 [[]] (C.sc (.slice (some a) 0 cap))=some (0,[]):=by simp[C.xs?,hr]
   refine Vw V7 V4 hx rfl (by decide) rfl rfl rfl (Wc _) (Wc _) (by omega) (by omega) (fun _=>?_) (fun hc=>absurd hc (by omega));push_cast;exact ⟨_,_,_,⟨⟨rfl,.inr ⟨h,.inr ⟨rfl,rfl⟩⟩⟩,Wb _⟩,[],rfl,rfl,by (push_cast [ze,zd,CLe,zh];simp[spl,zh]),by push_cast [ze,zd,CLe,zh]⟩
theorem UU (rows:List (List C)) (x:List C) (i c e:Nat) (hk:∀ r∈rows,r.length=6) (hx:x.length=6) (hs:ju rows) (hsx:(x.all C.stayB)=true) (hl:rows.length<=100000) (hi:i<=rows.length) (hc:rows.length<=c) (hcm:c<=9223372036854775807) :
  YX Tryz.prog G 250 [.bs 0 0 6 rows.length c,.sc (.int .i64 i),.own 0 e 6 [x]] [qF 6 rows c] 1 (zsE 6 (c*6) (rows.take i++x :: rows.drop i)):=by
 refine foX (fun j=>if j=1000000+22 then [true,true] else if j=11 then [false,false,false,false,false,false,false,false,true] else if j=15 then [false,false,false,false,false,false,false,false,true] else []) Tryz.func250 ?_;dsimp only[Tryz.f250];push_cast;have hlen:(rows.take i++x :: rows.drop i).length=rows.length+1:=by simp;omega
 have hki:∀ r∈rows.take i++x :: rows.drop i,r.length=6:=fun r hr=>by
  rcases WC.1 hr with hr | hr
  ·exact hk r (Wx hr)
  ·rcases WF.1 hr with rfl | hr
   ·exact hx
   ·exact hk r (WU hr)
 have hsi:ju (rows.take i++x :: rows.drop i):=fun r hr=>by
  rcases WC.1 hr with hr | hr
  ·exact hs r (Wx hr)
  ·rcases WF.1 hr with rfl | hr
   ·exact hsx
   ·exact hs r (WU hr)
 have hbl:=JX hk hc;have hfl:=qA hk;have hxl:[x].flatten.length=1*6:=by simp[hx]
 have hpre:(qF 6 rows c).take rows.flatten.length=rows.flatten:=by unfold qF;rw[Bi]
 refine ⟨hc,⟨by omega,hi⟩,br (fun h=>?_) (fun h=>?_)⟩
 ·push_cast;refine Vw V7 V4 rfl rfl (by decide) rfl hxl rfl (by rw[hbl];omega) hc (by simp;omega) (by simp;omega) (fun h1=>?_) (fun h1 c' h2 h3=>?_)
  ·push_cast;have hi':i=rows.length:=WP h;refine ⟨_,_,_,⟨⟨rfl,c,by rw[hlen];exact h1,hcm,.inl ⟨rfl,rfl⟩⟩,Wc _⟩,[],rfl,rfl,?_,by push_cast [ze,zd,CLe,zh,hlen]⟩;push_cast [ze,zd,CLe,zh];have h6:rows.length*6+6<=c*6:=by have:rows.length+1<=c:=h1;omega
   refine JR hki hsi (by rw[hlen];exact h1) (by rw[ZD (by rw[hbl,hx];exact h6),hbl]) ?_;rw[hlen,hi',Oi,AL];unfold spl;rw[←hfl,hpre,OK (by simp[hx,hfl];omega)];simp
  ·push_cast;have hi':i=rows.length:=WP h;have h2':rows.length+1<=c':=h2;refine ⟨_,_,_,⟨⟨rfl,c',by rw[hlen];exact h2,h3,.inr ⟨rfl,rfl⟩⟩,OT rfl⟩,[],rfl,rfl,?_,by push_cast [ze,zd,CLe,zh,hlen]⟩;push_cast [ze,zd,CLe,zh];refine ⟨XV hbl,JR hki hsi (by rw[hlen];exact h2) (by simp[hx,hbl];omega) ?_⟩;rw[hlen,hi',Oi,AL,←hfl,hpre,OK (by simp[hx,hfl];omega)];simp
 ·have hne:i≠rows.length:=OS h;push_cast;refine ⟨⟨by omega,by omega⟩,br (fun h1=>?_) (fun h1=>?_)⟩
  ·have h1':(c:Int)<(rows.length:Int)+1:=WP h1;push_cast
   repeat refine an ?_
   refine znh V7 zpu V4 rfl (by decide) rfl rfl (by rw[hbl];omega) (by omega) (by omega) (by omega) (by omega) (by omega) (fun c' B h2 h3 hBl hBt=>?_);have e1:((rows.length:Int)+1-(i:Int)).toNat=rows.length+1-i:=by omega
   rw[e1]at h2 ⊢;have e2:i+(rows.length+1-i)=rows.length+1:=by omega
   rw[e2]at h2 ⊢;push_cast
   repeat refine an ?_
   refine X1 V7 V4 rfl rfl hxl (by rw[hBl];omega) (fun B1 hB1 hl1=>?_);rw[hBl]at hl1;push_cast
   repeat refine an ?_
   have hbp:=XB (c:=c) hk hi;refine X1 V7 V4 (HQ rfl (by rw[hbl];omega)) rfl (by rw[hbp,W3,hfl];omega) (by rw[hl1];omega) (fun B2 hB2 hl2=>?_);rw[hl1]at hl2;have hX:[x].flatten.take (min [x].length (rows.length+1-i)*6)=x:=by
    rw[Om,OJ (by omega),Wf (by omega)];simp
   rw[hX]at hB1;rw[hbp,show min (rows.length-i) (rows.length-i)*6=(rows.length-i)*6 by omega,Wf (by rw[W3,hfl];omega),hB1]at hB2;push_cast;refine ⟨_,_,_,⟨⟨rfl,c',by rw[hlen];exact h2,h3,.inr ⟨rfl,rfl⟩⟩,OT rfl⟩,[],rfl,rfl,?_,by push_cast [ze,zd,CLe,zh,hlen]⟩;push_cast [ze,zd,CLe,zh];refine ⟨XV hbl,JR hki hsi (by rw[hlen];exact h2) hl2 ?_⟩;rw[hlen,←Q6 hk,hB2];have hg:=Nk (cs:=B) (L:=rows.flatten) (X:=x) (p:=i*6) (q:=(i+1)*6) (by omega) (by omega) (by
    rw[hBt,AY];unfold qF;rw[OU (by omega)]) (by omega)
   rw[hfl,hx]at hg;rw[←hg];congr 1;omega
  ·have h1':¬(c:Int)<(rows.length:Int)+1:=OS h1;push_cast
   repeat refine an ?_
   refine znA (vK (P:=Tryz.prog) (tR:=4) Tryz.func277 (by kernel_rfl) (by kernel_rfl) (by kernel_rfl) (by kernel_rfl) V7 V4 rfl (Bk (by rw[hbl];omega)) (by simp) (by omega)) ?_;push_cast
   repeat refine an ?_
   have hbp:=XB (c:=c) hk hi;refine X1 V7 V4 (HQ rfl (by rw[hbl];omega)) rfl (by simp[hbl];omega) (by rw[hbl];omega) (fun B1 hB1 hl1=>?_);rw[hbl]at hl1;rw[B3,OJ (by omega),show min (rows.length+1-i) (rows.length-i)*6=(rows.length-i)*6 by omega,hbp]at hB1;push_cast
   repeat refine an ?_
   refine X1 V7 V4 rfl rfl hxl (by rw[hl1];omega) (fun B2 hB2 hl2=>?_);rw[hl1]at hl2;have hX:[x].flatten.take (min [x].length (rows.length+1-i)*6)=x:=by
    rw[Om,OJ (by omega),Wf (by omega)];simp
   rw[hX,hB1]at hB2;push_cast;have hcc:rows.length+1<=c:=by omega
   refine ⟨_,_,_,⟨⟨rfl,c,by rw[hlen];exact hcc,hcm,.inl ⟨rfl,rfl⟩⟩,OT rfl⟩,[],rfl,rfl,?_,by push_cast [ze,zd,CLe,zh,hlen]⟩;push_cast [ze,zd,CLe,zh];refine JR hki hsi (by rw[hlen];exact hcc) hl2 ?_;rw[hlen,←Q6 hk,hB2];have hg:=Hq (cs:=qF 6 rows c) (L:=rows.flatten) (X:=x) (p:=i*6) (q:=(i+1)*6) (by omega) (by omega) hpre (by omega);rw[hfl,hx]at hg;rw[←hg];congr 1;omega
theorem zaM {e:Nat} (x:List C) (hx:x.length=6) (hsx:(x.all C.stayB)=true) :
  YX Tryz.prog G 250 [.sc (.slice none 0 0),.sc (.int .i64 0),.own 0 e 6 [x]] [] 1 (fun r bx' n=>n=0/\∃ c,1<=c/\c<=9223372036854775807/\r = .bs 0 0 6 1 c/\bx' = [qF 6 [x] c]):=by
 refine foX (fun j=>if j=1000000+22 then [true,true] else if j=11 then [false,false,false,false,false,false,false,false,true] else if j=15 then [false,false,false,false,false,false,false,false,true] else []) Tryz.func250 ?_;dsimp only[Tryz.f250];push_cast;refine ND V7 V4 rfl rfl (by decide) rfl (by simp[hx]) (by simp) (by simp) (by simp) (fun c h1 h2=>?_);push_cast;refine ⟨_,_,_,⟨⟨rfl,c,h1,h2,rfl,rfl⟩,Wb _⟩,[],rfl,rfl,?_,by push_cast [ze,zd,CLe,zh]⟩;push_cast [ze,zd,CLe,zh];have:=z6 (src:=[]) (n:=1) (zH (k:=6) (c:=c) (rows:=[x]) fun r hr=>by
  rw[W0.1 hr];exact hsx)
 unfold qF at this ⊢;simpa using this
theorem zjb (rows:List (List C)) (i c:Nat) (hk:∀ r∈rows,r.length=6) (hs:ju rows) (hl:rows.length<=100000) (hi:i<rows.length) (hc:rows.length<=c) (hcm:c<=9223372036854775807) :
  Mw Tryz.prog G 295 [.bs 0 0 6 rows.length c,.sc (.int .i64 i),.sc (.int .i64 ((i:Int)+1))] [qF 6 rows c] 0 (.bs 0 0 6 (rows.length-1) c) [qF 6 (rows.take i++rows.drop (i+1)) c] 0:=by
 refine foB (fun j=>if j=1000000+22 then [true,true] else if j=5 then [false,false,false,false,false,false,true,false] else []) Tryz.func295 ?_;dsimp only[Tryz.f295];have h1:((i:Int)=(i:Int)+1)=False:=Wy (by omega);have hbl:=JX hk hc;have hfl:=qA hk;have hpre:(qF 6 rows c).take rows.flatten.length=rows.flatten:=by unfold qF;rw[Bi]
 have hlen:(rows.take i++rows.drop (i+1)).length=rows.length-1:=by simp;omega
 have hki:∀ r∈rows.take i++rows.drop (i+1),r.length=6:=fun r hr=>by
  rcases WC.1 hr with hr | hr
  ·exact hk r (Wx hr)
  ·exact hk r (WU hr)
 have hsi:ju (rows.take i++rows.drop (i+1)):=fun r hr=>by
  rcases WC.1 hr with hr | hr
  ·exact hs r (Wx hr)
  ·exact hs r (WU hr)
 have hbp:=XB (c:=c) (i:=i+1) hk hi;push_cast [h1]
 repeat refine an ?_
 have hxl:(List.drop ((i+1)*6) rows.flatten).length=(rows.length-(i+1))*6:=by rw[W3,hfl];omega
 refine Vw V7 V4 (HQ rfl (by rw[hbl];omega)) rfl (by decide) rfl (by rw[hbp,hxl]) rfl (by rw[hbl];omega) (by omega) (by omega) (by omega) (fun _=>?_) (fun h=>absurd h (by omega));rw[hbp];have e1:i+(rows.length-(i+1))=rows.length-1:=by omega
 rw[e1];generalize hB1:spl (qF 6 rows c) (0+i*6) (List.drop ((i+1)*6) rows.flatten)=B1;have hl1:B1.length=c*6:=by rw[←hB1,ZD (by rw[hbl,hxl];omega),hbl]
 push_cast
 repeat refine an ?_
 refine znG V7 V4 rfl rfl (by decide) rfl (by rw[hl1];omega) (fun B2 Z hB2 hZ hl2=>?_);rw[hl1]at hl2;push_cast;refine ⟨[],rfl,rfl,?_,by push_cast [ze,zd,CLe,zh]⟩;push_cast [ze,zd,CLe,zh];refine JR hki hsi (by rw[hlen];omega) hl2 ?_;have hg:=zmI (cs:=qF 6 rows c) (L:=rows.flatten) (Z:=Z) (p:=i*6) (q:=(i+1)*6) (n:=(rows.length-1)*6) (by omega) (by omega) hpre (by omega) (by omega) (by rw[hZ];omega);rw[hlen,hB2,←hB1,A6,←ZW hk,←He hk,←hg,Ox]
end
end
section
structure zN where
 name:Lz
 ino:Int
deriving DecidableEq,Inhabited
structure zn where
 ino:Int
 kind:Int
 links:Int
 data:Lz
 parent:Int
 es:List zN
deriving DecidableEq,Inhabited
def zW (xs:List zn):Prop:=xs.Pairwise fun a b=>a.ino<b.ino
def zl (n:Int) (xs:List zn):Bool:=xs.any fun x=>x.ino==n
def jE (n:Int) (xs:List zn):Nat:=(xs.filter fun x=>decide (x.ino<n)).length
def zY (n:Int) (xs:List zn):List zn:=xs.filter fun x=>x.ino != n
def Xy (n:Int) (xs:List zn):Option zn:=xs.find? fun x=>x.ino==n
def Z7 (x:zn):List zn->List zn
 | []=>[x]
 | y :: r=>if x.ino<y.ino then x :: y :: r else y :: Z7 x r
def qd (x:zn) (xs:List zn):List zn:=Z7 x (zY x.ino xs)
theorem Mm (n:Int):∀ (xs:List zn) (i:Nat),i<=xs.length->(∀ t (h:t<xs.length),t<i->xs[t].ino<n)->(∀ t (h:t<xs.length),i<=t->n<=xs[t].ino)->jE n xs=i
 | [],i,h,_,_=>by simp at h;simp[jE,h]
 | x :: r,0,_,_,h2=>by
  have hx:n<=x.ino:=h2 0 (by simp) (Wc _);have ih:=Mm n r 0 (Wb _) (fun t h h'=>absurd h' (Oo _)) (fun t h _=>h2 (t+1) (by simp;omega) (Wb _));unfold jE at ih ⊢;rw[OH (by simp;omega)];exact ih
 | x :: r,i+1,h,h1,h2=>by
  have hx:x.ino<n:=h1 0 (by simp) (A3 _);have ih:=Mm n r i (by simpa using h) (fun t h h'=>h1 (t+1) (by simp;omega) (by omega)) (fun t h h'=>h2 (t+1) (by simp;omega) (by omega));unfold jE at ih ⊢;rw[Og (by simp;omega),Wh,ih]
theorem zma (n:Int) (xs:List zn) (i:Nat) (hi:i<xs.length) (h1:∀ t (h:t<xs.length),t<i->xs[t].ino<n) (h2:n<=xs[i].ino) (hR:zW xs):zl n xs=decide (xs[i].ino=n):=by
 by_cases h:xs[i].ino=n
 ·rw[Wm h];exact Ou.2 ⟨xs[i],Ww hi,by simp[h]⟩
 ·rw[Wj h];apply Oy.2;intro hh;obtain ⟨y,hy,e⟩:=Ou.1 hh;obtain ⟨t,ht,rfl⟩:=Wt hy;have e:xs[t].ino=n:=by simpa using e
  rcases Af t i with h3 | h3 | h3
  ·have:=h1 t ht h3;omega
  ·subst h3;exact h e
  ·have:=(WR.1 hR) i t hi ht h3;omega
theorem zfa (n:Int) (xs:List zn) (h1:∀ t (h:t<xs.length),xs[t].ino<n):zl n xs=false:=by
 apply Oy.2;intro hh;obtain ⟨y,hy,e⟩:=Ou.1 hh;obtain ⟨t,ht,rfl⟩:=Wt hy;have e:xs[t].ino=n:=by simpa using e
 have:=h1 t ht;omega
theorem N3 {n:Int} {xs:List zn} (h:zl n xs=false):Xy n xs=none:=by
 unfold Xy zl at *;rw[Be];intro x hx hh;rw[W5]at h;exact h x hx hh
theorem zcu (n:Int) (xs:List zn) (hR:zW xs):∃ i,i<=xs.length/\(∀ t (h:t<xs.length),t<i->xs[t].ino<n)/\(∀ t (h:t<xs.length),i<=t->n<=xs[t].ino):=by
 induction xs with
 | nil=>exact ⟨0,Wc _,fun t h=>absurd h (Oo _),fun t h=>absurd h (Oo _)⟩
 | cons x r ih =>
  by_cases hx:x.ino<n
  ·obtain ⟨i,h1,h2,h3⟩:=ih (Bf.1 hR).2;refine ⟨i+1,by simp;omega,fun t h ht=>?_,fun t h ht=>?_⟩
   ·cases t with
    | zero=>exact hx
    | succ t=>exact h2 t (by simpa using h) (by omega)
   ·cases t with
    | zero=>omega
    | succ t=>exact h3 t (by simpa using h) (by omega)
  ·refine ⟨0,Wb _,fun t h ht=>absurd ht (Oo _),fun t h _=>?_⟩;cases t with
   | zero=>simp;omega
   | succ t =>
    have:=(Bf.1 hR).1 (r[t]'(by simpa using h)) (Ww _);simp;omega
theorem zfT (n:Int) (xs:List zn):jE n xs<=xs.length:=OI _ _
theorem zhi {n:Int} {xs:List zn} (hR:zW xs):(∀ t (h:t<xs.length),t<jE n xs->xs[t].ino<n)/\(∀ t (h:t<xs.length),jE n xs<=t->n<=xs[t].ino):=by
 obtain ⟨i,h1,h2,h3⟩:=zcu n xs hR;rw[Mm n xs i h1 h2 h3];exact ⟨h2,h3⟩
theorem zk7 {n:Int} {xs:List zn} (hR:zW xs) (h:zl n xs=true):∃ hlt:jE n xs<xs.length,xs[jE n xs].ino=n:=by
 obtain ⟨h2,h3⟩:=zhi (n:=n) hR;by_cases hlt:jE n xs<xs.length
 ·refine ⟨hlt,?_⟩;have:=zma n xs _ hlt h2 (h3 _ hlt (Wc _)) hR;rw[h]at this;exact WP this.symm
 ·have:=zfa n xs (fun t h=>h2 t h (by omega));rw[h]at this;cases this
theorem Mb {n:Int} {xs:List zn} (hR:zW xs) (h:zl n xs=true):∃ hlt:jE n xs<xs.length,Xy n xs=some xs[jE n xs]:=by
 obtain ⟨hlt,he⟩:=zk7 hR h;refine ⟨hlt,?_⟩;obtain ⟨h2,h3⟩:=zhi (n:=n) hR;unfold Xy;rw[A9];exact ⟨by simp[he],_,hlt,rfl,fun j hj=>by have:=h2 j (by omega) hj;simp;omega⟩
theorem j6 {y:zn} {r:List zn}:zW (y :: r)↔(∀ z∈r,y.ino<z.ino)/\zW r:=Bf
theorem Qm {n:Int} {y:zn} {r:List zn} (h:y.ino<n):jE n (y :: r)=jE n r+1:=by
 unfold jE;rw[Og (by simpa using h),Wh]
theorem HG {n:Int} {xs:List zn} (h:∀ z∈xs,n<=z.ino):jE n xs=0:=by
 unfold jE;rw[At,AU];intro z hz;have:=h z hz;simp;omega
theorem Q4 {n:Int} {xs:List zn} (h:zl n xs=false):zY n xs=xs:=by
 unfold zY;rw[Bo];intro z hz;unfold zl at h;rw[W5]at h;have:=h z hz;simpa using this
theorem Zu {n:Int} {y:zn} {r:List zn} (h:y.ino<n):zl n (y :: r)=zl n r:=by
 unfold zl;rw[AN,show (y.ino==n)=false by rw[O1];omega,O6]
theorem Uj {n:Int} {xs:List zn} (h:∀ z∈xs,n<z.ino):zl n xs=false:=by
 unfold zl;rw[W5];intro z hz;have:=h z hz;simp;omega
theorem J6 {n:Int} {y:zn} {r:List zn} (h:y.ino≠n):zY n (y :: r)=y :: zY n r:=by
 unfold zY;rw[Og (by simpa using h)]
theorem Jm {n:Int} {y:zn} {r:List zn} (h:y.ino=n):zY n (y :: r)=zY n r:=by
 unfold zY;rw[OH (by simpa using h)]
theorem zbj {n:Int}:∀ {xs:List zn},zW xs->zl n xs=true->xs.take (jE n xs)++xs.drop (jE n xs+1)=zY n xs
 | [],_,h=>by cases h
 | y :: r,hR,h=>by
  obtain ⟨h1,h2⟩:=j6.1 hR;by_cases hy:y.ino<n
  ·rw[Qm hy,AD,A8,Of,zbj h2 (by rwa [Zu hy]at h),J6 (by omega)]
  ·have hr0:jE n (y :: r)=0:=HG fun z hz=>by
    rcases WF.1 hz with rfl | hz
    ·omega
    ·have:=h1 z hz;omega
   by_cases he:y.ino=n
   ·rw[hr0,Jm he,Q4 (Uj fun z hz=>by have:=h1 z hz;omega)];rfl
   ·exfalso
    rw[Uj fun z hz=>by
     rcases WF.1 hz with rfl | hz
     ·omega
     ·have:=h1 z hz;omega]at h
    cases h
theorem zpQ {x y:zn} {r:List zn} (h:y.ino<x.ino):Z7 x (y :: r)=y :: Z7 x r:=by
 rw[Z7,if_neg (by omega)]
theorem zej {x:zn} {xs:List zn} (h:∀ z∈xs,x.ino<z.ino):Z7 x xs=x :: xs:=by
 cases xs with
 | nil=>rfl
 | cons y r=>rw[Z7,if_pos (h y Wk)]
theorem Zt {x y:zn} {r:List zn} (h:y.ino<x.ino):qd x (y :: r)=y :: qd x r:=by
 unfold qd;rw[J6 (by omega),zpQ h]
theorem vY {x:zn}:∀ {xs:List zn},zW xs->zl x.ino xs=true->xs.set (jE x.ino xs) x=qd x xs
 | [],_,h=>by cases h
 | y :: r,hR,h=>by
  obtain ⟨h1,h2⟩:=j6.1 hR;by_cases hy:y.ino<x.ino
  ·rw[Qm hy,List.set_cons_succ,vY h2 (by rwa [Zu hy]at h),Zt hy]
  ·have hr0:jE x.ino (y :: r)=0:=HG fun z hz=>by
    rcases WF.1 hz with rfl | hz
    ·omega
    ·have:=h1 z hz;omega
   by_cases he:y.ino=x.ino
   ·unfold qd;rw[hr0,Jm he,Q4 (Uj fun z hz=>by have:=h1 z hz;omega),zej fun z hz=>by have:=h1 z hz;omega];rfl
   ·exfalso
    rw[Uj fun z hz=>by
     rcases WF.1 hz with rfl | hz
     ·omega
     ·have:=h1 z hz;omega]at h
    cases h
theorem ug {x:zn}:∀ {xs:List zn},zW xs->zl x.ino xs=false->xs.take (jE x.ino xs)++x :: xs.drop (jE x.ino xs)=qd x xs
 | [],_,_=>rfl
 | y :: r,hR,h=>by
  obtain ⟨h1,h2⟩:=j6.1 hR;by_cases hy:y.ino<x.ino
  ·rw[Qm hy,AD,A8,Of,ug h2 (by rwa [Zu hy]at h),Zt hy]
  ·have hne:y.ino≠x.ino:=by
    intro e;unfold zl at h;rw[AN,e]at h;simp at h
   have hr0:jE x.ino (y :: r)=0:=HG fun z hz=>by
    rcases WF.1 hz with rfl | hz
    ·omega
    ·have:=h1 z hz;omega
   unfold qd;rw[hr0,Q4 h,zej fun z hz=>by
    rcases WF.1 hz with rfl | hz
    ·omega
    ·have:=h1 z hz;omega]
   rfl
theorem zku {n:Int} {xs:List zn}:∀ x∈zY n xs,x∈xs:=fun x h=>(OC.1 h).1
theorem Ml {x:zn}:∀ {xs:List zn} {z:zn},z∈Z7 x xs↔z=x∨z∈xs
 | [],z=>by simp[Z7]
 | y :: r,z=>by
  rw[Z7];split
  ·simp
  ·rw[WF,Ml,WF];constructor
   ·rintro (h | h | h)<;>simp[h]
   ·rintro (h | h | h)<;>simp[h]
theorem zny {x:zn} {xs:List zn} {z:zn} (h:z∈qd x xs):z=x∨z∈xs:=by
 rcases Ml.1 h with h | h
 ·exact .inl h
 ·exact .inr (zku _ h)
theorem GI {n:Int} {xs:List zn} (h:zW xs):zW (zY n xs):=List.Pairwise.filter _ h
theorem xI {x:zn}:∀ {xs:List zn},zW xs->(∀ z∈xs,z.ino≠x.ino)->zW (Z7 x xs)
 | [],_,_=>by simp[Z7,zW]
 | y :: r,h,hne=>by
  obtain ⟨h1,h2⟩:=j6.1 h;have hy:=hne y Wk;rw[Z7];split
  ·next hlt =>
   refine j6.2 ⟨fun z hz=>?_,h⟩;rcases WF.1 hz with rfl | hz
   ·exact hlt
   ·have:=h1 z hz;omega
  ·next hlt =>
   refine j6.2 ⟨fun z hz=>?_,xI h2 fun z hz=>hne z (Wl _ hz)⟩;rcases Ml.1 hz with rfl | hz
   ·omega
   ·exact h1 z hz
theorem zO {x:zn} {xs:List zn} (h:zW xs):zW (qd x xs):=xI (GI h) fun z hz=>by
 have:=(OC.1 hz).2;simpa using this
theorem zeb {x:zn}:∀ {xs:List zn},(Z7 x xs).length=xs.length+1
 | []=>rfl
 | y :: r=>by
  rw[Z7];split
  ·rfl
  ·rw[Wh,zeb,Wh]
theorem Ve {n:Int} {xs:List zn}:(zY n xs).length<=xs.length:=OI _ _
theorem zaa {x:zn} {xs:List zn}:(qd x xs).length<=xs.length+1:=by
 unfold qd;rw[zeb];have:=Ve (n:=x.ino) (xs:=xs);omega
end
variable {xs:List zn}
section
open CA CB
open Go.RowKit
abbrev Md (e:zN):List C:=[.str e.name,.sc (.int .i64 e.ino)]
abbrev zJ (es:List zN):List (List C):=es.map Md
abbrev JS (x:zn):List C:=[.sc (.int .i64 x.ino),.sc (.int .i64 x.kind),.sc (.int .i64 x.links),.str x.data,.sc (.int .i64 x.parent),.sl 2 (zJ x.es)]
abbrev zr (xs:List zn):List (List C):=xs.map JS
structure FsV where
 maxI:Int
 maxB:Int
 next:Int
 xs:List zn
deriving DecidableEq,Inhabited
abbrev fsC (f:FsV):List C:=[.sc (.int .i64 f.maxI),.sc (.int .i64 f.maxB),.sc (.int .i64 f.next),.sl 6 (zr f.xs)]
theorem jb (xs:List zn) (i:Nat) (h:i<xs.length):(zr xs)[i]?=some (JS xs[i]):=by simp[WA,Wa h]
theorem Jk (xs:List zN) (i:Nat) (h:i<xs.length):(zJ xs)[i]?=some (Md xs[i]):=by simp[WA,Wa h]
def vU:zn:=⟨0,0,0,[],0,[]⟩
def zf (n:Int) (xs:List zn):zn:=(Xy n xs).getD vU
def U8 (a b:Int):Int:=if a<b then -1 else if b<a then 1 else 0
section
variable {G:zu}
theorem zgH (a:Int):Fun Tryz.prog G 225 [.sc (.int .i64 a)] (.sc (.bool false)) 0:=by
 refine fon Tryz.func225 ?_;dsimp only[Tryz.f225];push_cast;exact dn
theorem uW (a b:Int):Fun Tryz.prog G 182 [.sc (.int .i64 a),.sc (.int .i64 b)] (.sc (.int .i64 (U8 a b))) 0:=by
 refine fon Tryz.func182 ?_;dsimp only[Tryz.f182];push_cast;refine cl (zgH a) ?_;push_cast;refine cl (zgH b) ?_;push_cast;refine br (fun h=>?_) (fun h=>?_)
 ·have h:=WP h;push_cast;exact ⟨[],rfl,rfl,by (push_cast [ze,zd,CLe,zh];simp[U8,h])⟩
 ·have h:=OS h;push_cast;refine br (fun h1=>?_) (fun h1=>?_)
  ·have h1:=WP h1;push_cast;exact ⟨[],rfl,rfl,by (push_cast [ze,zd,CLe,zh];simp[U8,h,h1])⟩
  ·have h1:=OS h1;push_cast;exact ⟨[],rfl,rfl,by (push_cast [ze,zd,CLe,zh];simp[U8,h,h1])⟩
theorem zhQ (x:zn) (n:Int):Fun Tryz.prog G 181 [.agg (JS x),.sc (.int .i64 n)] (.sc (.int .i64 (U8 x.ino n))) 0:=by
 refine fon Tryz.func181 ?_;dsimp only[Tryz.f181];push_cast;refine cl (uW x.ino n) ?_;push_cast;exact dn
theorem vJ (xs:List zn) (n:Int) (hl:xs.length<=100000) (hR:zW xs) :
  Fun Tryz.prog G 180 [.sl 6 (zr xs),.sc (.int .i64 n),.clo (.func 181) [] []] (.tup [.sc (.int .i64 (jE n xs:Nat)),.sc (.bool (zl n xs))]) 0:=by
 refine fon Tryz.func180 ?_;dsimp only[Tryz.f180];push_cast;refine loop (fun p:Nat×Nat=>⟨[(0,.sl 6 (zr xs)),(1,.sc (.int .i64 n)),(2,.clo (.func 181) [] []),(8,.sc (.int .i64 (xs.length:Nat))),(9,.sc (.int .i64 p.1)),(10,.sc (.int .i64 p.2))],[],0,0⟩)
  (fun p=>p.1<=p.2/\p.2<=xs.length/\(∀ t (h:t<xs.length),t<p.1->xs[t].ino<n)/\∀ t (h:t<xs.length),p.2<=t->n<=xs[t].ino) (fun p=>p.2-p.1) (0,xs.length) ⟨Wb _,Wc _,fun t _ h=>by (simp at h),fun t h h'=>by (dsimp only at h';omega)⟩ ?_ ?_
 ·exact wk (by push_cast [ze,zd,CLe,zh,We])
 ·rintro ⟨i,j⟩ ⟨h1,h2,h3,h4⟩;dsimp only at h1 h2 h3 h4 ⊢;by_cases h:i<j
  ·obtain ⟨m,hm⟩:∃ m,m=(i+j) / 2:=⟨_,rfl⟩;have hmi:((i:Int)+(j:Int)) / 2=(m:Int):=by omega
   have hml:m<xs.length:=by omega
   have hat:=jb xs m hml;push_cast [h,hmi,hat]
   repeat refine an ?_
   refine cl (zhQ xs[m] n) ?_;push_cast;by_cases hc:xs[m].ino<n
   ·have hcv:U8 xs[m].ino n = -1:=by simp[U8,hc]
    push_cast [hcv]
    repeat refine an ?_
    refine ⟨(m+1,j),⟨by omega,h2,fun t ht hlt=>?_,h4⟩,by dsimp only;omega,wk⟩;dsimp only at hlt;rcases Wr t m with q | q
    ·have:=(WR.1 hR) t m ht hml q;omega
    ·have:t=m:=by omega
     subst this;exact hc
   ·have hcv:(U8 xs[m].ino n<0)=False:=Wy (by unfold U8;rw[if_neg hc];split<;>omega);push_cast [hcv]
    repeat refine an ?_
    refine ⟨(i,m),⟨by omega,by omega,h3,fun t ht hge=>?_⟩,by dsimp only;omega,wk⟩;dsimp only at hge;rcases Wr m t with q | q
    ·have:=(WR.1 hR) m t hml ht q;omega
    ·have:t=m:=by omega
     subst this;omega
  ·have hij:i=j:=by omega
   subst hij;have hrk:=Mm n xs i h2 h3 h4;push_cast [h];refine br (fun hx=>?_) (fun hx=>?_)
   ·have hx:i<xs.length:=by simpa using hx
    have hat:=jb xs i hx;have hh:=zma n xs i hx h3 (h4 i hx (Wc _)) hR;push_cast [hx,hat]
    repeat refine an ?_
    refine cl (zhQ xs[i] n) ?_;push_cast;have hcv:decide (U8 xs[i].ino n=0)=zl n xs:=by
     rw[hh];have:=h4 i hx (Wc _);unfold U8;rw[if_neg (by omega)];split
     ·rw[Wj (by omega),Wj (by omega)]
     ·rw[Wm (by rfl),Wm (by omega)]
    push_cast [hcv];exact dn (by push_cast [ze,zd,CLe,zh,hrk])
   ·have hx:¬i<xs.length:=by simpa using hx
    have hh:=zfa n xs fun t ht=>h3 t ht (by omega);push_cast [hx];exact dn (by push_cast [ze,zd,CLe,zh,hrk,hh])
theorem zhr (f:FsV) (n:Int) (hl:f.xs.length<=100000) (hR:zW f.xs):Fun Tryz.prog G 148 [.agg (fsC f),.sc (.int .i64 n)] (.tup [.sc (.int .i64 (jE n f.xs:Nat)),.sc (.bool (zl n f.xs))]) 0:=by
 refine fon Tryz.func148 ?_;dsimp only[Tryz.f148];push_cast;refine cl (vJ f.xs n hl hR) ?_;push_cast;exact dn
end
end
section
open Go.RowKit Go.ChangeMaps Go.ChangeShapes Go.WideShapes Go.Deep Go.Joins
def xg (W:World):Env:=⟨W,fun _ _=>False,fun _=>False⟩
theorem Fun.answers {P:Program} {G:zu} {f:FuncId} {args:List C} {u:Value} {n:Nat} (h:Fun P G f args (.sc u) n) {W:World} {vs:List Value} (hg:X7 G (xg W)) (ha:zy (xg W) zP args vs) :
  Calls P f vs.toArray W fun e w'=>e = .returned u/\Below W.heap.size W w':=by
 refine (h.2 (xg W) vs hg ha).mono ?_;rintro e w' ⟨v,R',L',rfl,rfl,st,hr⟩;rw[zt]at hr;subst hr;exact ⟨rfl,st.below⟩
section
variable {H:Type} {enc:TypeId×Value->H} {P:Program} {W:World}
def Opn (enc:TypeId×Value->H) (P:Program) (W:World) (t:TypeId) (Q:C->Prop):Prop:=
 ∀ (fuel:Nat) (cs:List Value) (x:DataW H×List MemPlace),DataW.trod enc P W 0 (fun _=>true) true fuel t cs=some x->∃ v c,cs = [v]/\Q c/\Rep (xg W) zP c v/\v.oneCell'=true
def jG (enc:TypeId×Value->H) (P:Program) (W:World) (t:TypeId) (k:Nat) (Q:List C->Prop):Prop:=
 ∀ (fuel:Nat) (cs:List Value) (x:DataW H×List MemPlace),DataW.trod enc P W 0 (fun _=>true) true fuel t cs=some x ->
  ∃ row,Q row/\row.length=k/\cs.length=k/\∀ (j:Nat) c v,row[j]?=some c->cs[j]?=some v->Rep (xg W) zP c v/\v.oneCell'=true
theorem Opn.int {t:TypeId} {k:IntKind} (ht:P.underlying t=some (.int k)):Opn enc P W t fun c=>∃ n,c = .sc (.int k n)/\(Lit.int k n).wf=true:=fun fuel cs x h=>by
 obtain ⟨n,rfl,_,hw⟩:=DataW.trod_int ht h;exact ⟨_,_,rfl,⟨n,rfl,hw⟩,zt.2 rfl,rfl⟩
theorem Opn.bool {t:TypeId} (ht:P.underlying t=some .bool):Opn enc P W t fun c=>∃ b,c = .sc (.bool b):=fun fuel cs x h=>by
 obtain ⟨n,rfl,_⟩:=DataW.trod_bool ht h;exact ⟨_,_,rfl,⟨n,rfl⟩,zt.2 rfl,rfl⟩
theorem Opn.str {t:TypeId} (ht:P.underlying t=some .string):Opn enc P W t fun c=>∃ l:Lz,c = .str l/\l.length<=maxLen:=fun fuel cs x h=>by
 obtain ⟨s,rfl,_,hs⟩:=DataW.trod_string ht h;exact ⟨_,_,rfl,⟨s.data.toList,rfl,by rw[WY];exact hs⟩,z7.2 (by cases s;simp),rfl⟩
theorem jG.one {t:TypeId} {Q:C->Prop} (h:Opn enc P W t Q):jG enc P W t 1 fun row=>∃ c,row = [c]/\Q c:=fun fuel cs x hx=>by
 obtain ⟨v,c,rfl,hq,hr,ho⟩:=h fuel cs x hx;refine ⟨[c],⟨c,rfl,hq⟩,rfl,rfl,fun j c' v' h1 h2=>?_⟩;cases j with
 | zero=>cases h1;cases h2;exact ⟨hr,ho⟩
 | succ j=>cases h1
theorem Zw {α:Type} {Q:Nat->α->Prop}:∀ n:Nat,(∀ i,i<n->∃ x,Q i x)->∃ l:List α,l.length=n/\∀ i (h:i<l.length),Q i l[i]
 | 0,_=>⟨[],rfl,fun i h=>absurd h (Oo _)⟩
 | n+1,h=>by
  obtain ⟨l,hl,hq⟩:=Zw n fun i hi=>h i (by omega);obtain ⟨x,hx⟩:=h n (by omega);refine ⟨l++[x],by simp[hl],fun i hi=>?_⟩;rcases Wr i n with h1 | h1
  ·rw[List.getElem_append_left (by omega)];exact hq i (by omega)
  ·have:i=n:=by simp[hl]at hi;omega
   subst this;rw[List.getElem_append_right (by omega)];simpa [hl] using hx
theorem jG.struct {t:TypeId} {fs:Array Field} {Qs:Nat->C->Prop} (hs:P.underlying t=some (.struct fs)) (hone:oneCellFields P fs=true) (hC:P.cellsOf t=fs.size)
  (h:∀ (j:Nat) f,fs[j]?=some f->Opn enc P W f.type (Qs j)):jG enc P W t fs.size fun row=>row.length=fs.size/\∀ (j:Nat) c,row[j]?=some c->Qs j c:=fun fuel cs x hx=>by
 obtain ⟨ys,n',hn',hy,hlen,hyl,hf⟩:=DataW.trod_struct hs hx;rw[hC]at hlen;obtain ⟨row,hl,hq⟩:=Zw (Q:=fun j (c:C)=>Qs j c/\∃ v,cs[j]?=some v/\Rep (xg W) zP c v/\v.oneCell'=true) fs.size (fun j hj=>by
  have hfj:fs[j]?=some fs[j]:=W9 hj;obtain ⟨ho,hk⟩:=hone_of hone j _ hfj;have h1:=hf j _ hfj;rw[ho,hk]at h1;have hone':(cs.drop j).take 1 = [cs[j]'(by omega)]:=by
   rw[Oe (by omega)]
   rfl
  rw[hone',Wa (by omega)]at h1;obtain ⟨v,c,e,hq,hr,hoc⟩:=h j _ hfj _ _ _ h1;cases e;exact ⟨c,hq,_,Wa (by omega),hr,hoc⟩)
 refine ⟨row,⟨hl,fun j c hj=>?_⟩,hl,hlen,fun j c v h1 h2=>?_⟩
 ·obtain ⟨hj',rfl⟩:=Wd.1 hj;exact (hq j hj').1
 ·obtain ⟨hj',rfl⟩:=Wd.1 h1;obtain ⟨_,v',e,hr,ho⟩:=hq j hj';rw[h2]at e;cases e;exact ⟨hr,ho⟩
theorem Opn.slice {t e:TypeId} {k:Nat} {Q:List C->Prop} (ht:P.underlying t=some (.slice e)) (hC:P.cellsOf e=k) (hk:0<k) (h:jG enc P W e k Q):Opn enc P W t fun c=>∃ rows,c = .sl k rows/\rows.length<=maxLen/\∀ r∈rows,Q r:=fun fuel cs x hx=>by
 rcases open_slice ht hx with h0 | ⟨a,len,cap,m,n,D,Pl,hcs,hb,hl,hm,hmm,hx,hi⟩
 ·exact ⟨_,.sl k [],h0.1,⟨[],rfl,Wb _,fun r hr=>by cases hr⟩,G4.2 ⟨none,0,rfl,Wc _,Wb _,.inl rfl⟩,rfl⟩
 ·simp only[if_true]at hmm;subst hmm;obtain ⟨rows,hrl,hq⟩:=Zw (Q:=fun i (row:List C)=>Q row/\row.length=k/\∀ (j:Nat) c,row[j]?=some c->∃ v,W.cell? (a.add (i*k+j))=some v/\Rep (xg W) zP c v/\v.oneCell'=true) len (fun i hlt=>by
   obtain ⟨cs',hc,ht'⟩:=hi i (by omega);rw[hC]at hc;obtain ⟨row,hq,hl1,hl2,hr⟩:=h _ _ _ ht';obtain ⟨_,hcl,hat⟩:=World.cells?_some hc;refine ⟨row,hq,hl1,fun j c hj=>?_⟩;have hjl:j<k:=by have:=(Wd.1 hj).1;omega
   have hv:cs'[j]?=some (cs'[j]'(by omega)):=Wa (by omega);obtain ⟨hr1,hr2⟩:=hr j c _ hj hv;refine ⟨_,?_,hr1,hr2⟩;rw[←Go.Deep.add_add,hat j hjl,hv])
  refine ⟨_,.sl k rows,hcs,⟨rows,rfl,by omega,fun r hr=>?_⟩,?_,rfl⟩
  ·obtain ⟨i,hi',rfl⟩:=Wt hr;exact (hq i hi').1
  ·refine G4.2 ⟨some a,m,by rw[hrl],by omega,by omega,?_⟩;by_cases h0:rows = []
   ·exact .inl h0
   ·have hpos:0<rows.length:=WI.2 h0;obtain ⟨b,off,spot⟩:=a;obtain ⟨_,hl0,h00⟩:=hq 0 hpos;obtain ⟨v0,hc0,_⟩:=h00 0 ((rows[0]'hpos)[0]'(by omega)) (Wa _);have hspot:spot=none:=by simpa [Addr.add] using World.cell?_spot hc0
    subst hspot;refine .inr ⟨b,off,rfl,jf fun i row hrow=>?_⟩;obtain ⟨hi',rfl⟩:=Wd.1 hrow;obtain ⟨_,hlr,hcr⟩:=hq i hi';refine ⟨hlr,qm fun j c hj=>?_⟩;obtain ⟨v,h1,h2,h3⟩:=hcr j c hj;rw[Addr.add_lit]at h1;exact ⟨v,by rw[B5];exact h1,fun hf=>hf,h2,h3⟩
theorem Opn.arg {r:Reach} {b0:Nat} {t:TypeId} {Q:C->Prop} {v:Value} {d:DataW H} {p:List MemPlace} (h:Opn enc P W t Q) (hv:v.cells = #[v]) (hd:DataW.Trod enc P W 0 (fun _=>true) true t v d p):∃ c,Q c/\Rep (xg W) zP c v:=by
 obtain ⟨fuel,hf⟩:=hd;rw[hv]at hf;obtain ⟨v',c,e,hq,hr,_⟩:=h _ _ _ hf;cases e;exact ⟨c,hq,hr⟩
theorem jG.arg {r:Reach} {b0:Nat} {t:TypeId} {fs:Array Field} {k:Nat} {Q:List C->Prop} {v:Value} {d:DataW H} {p:List MemPlace} (h:jG enc P W t k Q) (hs:P.underlying t=some (.struct fs)) (hval:Value.okWide P W r b0 t v)
  (hd:DataW.Trod enc P W 0 (fun _=>true) true t v d p):∃ row,Q row/\Rep (xg W) zP (.agg row) v:=by
 obtain ⟨cs,rfl,hsz⟩:=okWide_struct hs hval;obtain ⟨fuel,hf⟩:=hd;obtain ⟨row,hq,h1,h2,hr⟩:=h _ _ _ hf;refine ⟨row,hq,Ju.2 ⟨cs,rfl,Yx ?_ fun i c v hc hv=>(hr i c v hc hv).1⟩⟩;have:cs.toList.length=k:=h2;omega
end
end
section
open Go.RowKit Go.ChangeMaps Go.ChangeShapes Go.WideShapes Go.Deep Go.Joins
theorem NF {α:Type} {f:α->List C} {q:α->Prop}:∀ {rows:List (List C)},(∀ r∈rows,∃ a,r=f a/\q a)->∃ xs:List α,rows=xs.map f/\∀ x∈xs,q x
 | [],_=>⟨[],rfl,fun x h=>by cases h⟩
 | r :: rows,h=>by
  obtain ⟨xs,rfl,hq⟩:=NF fun r' hr=>h r' (Wl _ hr);obtain ⟨o,rfl,ho⟩:=h r Wk;exact ⟨o :: xs,rfl,fun x hx=>by
   rcases WF.1 hx with rfl | hx
   ·exact ho
   ·exact hq x hx⟩
section
variable {H:Type} {enc:TypeId×Value->H} {W:World}
theorem zm4:jG enc Tryz.prog W 112 2 fun row=>∃ o:zN,row=Md o/\o.name.length<=maxLen:=fun fuel cs x hx=>by
 obtain ⟨row,⟨hl,hq⟩,h1,h2,h3⟩:=jG.struct (W:=W) (enc:=enc) (Qs:=fun j c=>match j with | 0=>∃ l:Lz,c = .str l/\l.length<=maxLen | 1=>∃ n,c = .sc (.int .i64 n)/\(Lit.int .i64 n).wf=true | _=>True) Tryz.underlying112 (by kernel_rfl) (by kernel_rfl) (fun j f hj=>by
  match j,hj with
  | 0,hj=>cases hj;exact Opn.str Tryz.underlying9
  | 1,hj=>cases hj;exact Opn.int Tryz.underlying3
  | j+2,hj=>simp at hj) fuel cs x hx
 match row,h1,hq,h3 with
 | [c0,c1],_,hq,h3 =>
  obtain ⟨a,rfl,ha⟩:=hq 0 c0 rfl;obtain ⟨k,rfl,_⟩:=hq 1 c1 rfl;exact ⟨_,⟨⟨a,k⟩,rfl,ha⟩,rfl,h2,h3⟩
theorem zkH:Opn enc Tryz.prog W 62 fun c=>∃ xs:List zN,c = .sl 2 (zJ xs)/\xs.length<=maxLen/\∀ x∈xs,x.name.length<=maxLen:=fun fuel cs x hx=>by
 obtain ⟨v,c,rfl,⟨rows,rfl,hl,hr⟩,h1,h2⟩:=Opn.slice (W:=W) (enc:=enc) Tryz.underlying62 (show Tryz.prog.cellsOf 112=2 by kernel_rfl) (by decide) zm4 fuel cs x hx;obtain ⟨xs,rfl,hq⟩:=NF hr;exact ⟨v,_,rfl,⟨xs,rfl,by simpa using hl,hq⟩,h1,h2⟩
def zfO (x:zn):Prop:=x.data.length<=maxLen/\x.es.length<=maxLen/\∀ e∈x.es,e.name.length<=maxLen
theorem zeM:jG enc Tryz.prog W 64 6 fun row=>∃ o:zn,row=JS o/\zfO o:=fun fuel cs x hx=>by
 obtain ⟨row,⟨hl,hq⟩,h1,h2,h3⟩:=jG.struct (W:=W) (enc:=enc) (Qs:=fun j c=>match j with | 0=>∃ n,c = .sc (.int .i64 n)/\(Lit.int .i64 n).wf=true | 1=>∃ n,c = .sc (.int .i64 n)/\(Lit.int .i64 n).wf=true | 2=>∃ n,c = .sc (.int .i64 n)/\(Lit.int .i64 n).wf=true | 3=>∃ l:Lz,c = .str l/\l.length<=maxLen | 4=>∃ n,c = .sc (.int .i64 n)/\(Lit.int .i64 n).wf=true | 5=>∃ xs:List zN,c = .sl 2 (zJ xs)/\xs.length<=maxLen/\∀ x∈xs,x.name.length<=maxLen | _=>True) Tryz.underlying64 (by kernel_rfl) (by kernel_rfl) (fun j f hj=>by
  match j,hj with
  | 0,hj=>cases hj;exact Opn.int Tryz.underlying3
  | 1,hj=>cases hj;exact Opn.int Tryz.underlying3
  | 2,hj=>cases hj;exact Opn.int Tryz.underlying3
  | 3,hj=>cases hj;exact Opn.str Tryz.underlying9
  | 4,hj=>cases hj;exact Opn.int Tryz.underlying3
  | 5,hj=>cases hj;exact zkH
  | j+6,hj=>simp at hj) fuel cs x hx
 match row,h1,hq,h3 with
 | [c0,c1,c2,c3,c4,c5],_,hq,h3 =>
  obtain ⟨a,rfl,_⟩:=hq 0 c0 rfl;obtain ⟨b,rfl,_⟩:=hq 1 c1 rfl;obtain ⟨c,rfl,_⟩:=hq 2 c2 rfl;obtain ⟨d,rfl,hd⟩:=hq 3 c3 rfl;obtain ⟨e,rfl,_⟩:=hq 4 c4 rfl;obtain ⟨f,rfl,hf⟩:=hq 5 c5 rfl;exact ⟨_,⟨⟨a,b,c,d,e,f⟩,rfl,hd,hf⟩,rfl,h2,h3⟩
theorem za5:Opn enc Tryz.prog W 22 fun c=>∃ xs:List zn,c = .sl 6 (zr xs)/\xs.length<=maxLen/\∀ x∈xs,zfO x:=fun fuel cs x hx=>by
 obtain ⟨v,c,rfl,⟨rows,rfl,hl,hr⟩,h1,h2⟩:=Opn.slice (W:=W) (enc:=enc) Tryz.underlying22 (show Tryz.prog.cellsOf 64=6 by kernel_rfl) (by decide) zeM fuel cs x hx;obtain ⟨xs,rfl,hq⟩:=NF hr;exact ⟨v,_,rfl,⟨xs,rfl,by simpa using hl,hq⟩,h1,h2⟩
theorem zq6:jG enc Tryz.prog W 24 4 fun row=>∃ f:FsV,row=fsC f/\f.xs.length<=maxLen/\∀ x∈f.xs,zfO x:=fun fuel cs x hx=>by
 obtain ⟨row,⟨hl,hq⟩,h1,h2,h3⟩:=jG.struct (W:=W) (enc:=enc) (Qs:=fun j c=>match j with | 0=>∃ n,c = .sc (.int .i64 n)/\(Lit.int .i64 n).wf=true | 1=>∃ n,c = .sc (.int .i64 n)/\(Lit.int .i64 n).wf=true | 2=>∃ n,c = .sc (.int .i64 n)/\(Lit.int .i64 n).wf=true | 3=>∃ xs:List zn,c = .sl 6 (zr xs)/\xs.length<=maxLen/\∀ x∈xs,zfO x | _=>True) Tryz.underlying24 (by kernel_rfl) (by kernel_rfl) (fun j f hj=>by
  match j,hj with
  | 0,hj=>cases hj;exact Opn.int Tryz.underlying3
  | 1,hj=>cases hj;exact Opn.int Tryz.underlying3
  | 2,hj=>cases hj;exact Opn.int Tryz.underlying3
  | 3,hj=>cases hj;exact za5
  | j+4,hj=>simp at hj) fuel cs x hx
 match row,h1,hq,h3 with
 | [c0,c1,c2,c3],_,hq,h3 =>
  obtain ⟨a,rfl,_⟩:=hq 0 c0 rfl;obtain ⟨b,rfl,_⟩:=hq 1 c1 rfl;obtain ⟨c,rfl,_⟩:=hq 2 c2 rfl;obtain ⟨d,rfl,hd⟩:=hq 3 c3 rfl;exact ⟨_,⟨⟨a,b,c,d⟩,rfl,hd⟩,rfl,h2,h3⟩
end
end
section
open Go
structure ziH (κ:Type) where
 lt:κ->κ->Bool
 irr:∀ a,lt a a=false
 tr:∀ {a b c},lt a b=true->lt b c=true->lt a c=true
 tot:∀ {a b},lt a b=false->lt b a=false->a=b
theorem YD:∀ a:Lz,Op.bytesLess a a=false
 | []=>rfl
 | c :: a=>by
  have h:¬c<c:=by simp
  simp[Op.bytesLess,YD a]
theorem NT:∀ {a b c:Lz},Op.bytesLess a b=true->Op.bytesLess b c=true->Op.bytesLess a c=true
 | _,[],_,h,_=>by unfold Op.bytesLess at h;cases h
 | [],y :: b,[],_,h2=>by unfold Op.bytesLess at h2;cases h2
 | [],y :: b,z :: c,_,_=>rfl
 | x :: a,y :: b,[],_,h2=>by unfold Op.bytesLess at h2;cases h2
 | x :: a,y :: b,z :: c,h1,h2=>by
  unfold Op.bytesLess at h1 h2 ⊢;simp only[OA,Wp,WW,OE]at h1 h2 ⊢;rcases h1 with h1 | ⟨rfl,h1⟩
  ·rcases h2 with h2 | ⟨rfl,h2⟩
   ·exact .inl (UInt8.lt_trans h1 h2)
   ·exact .inl h1
  ·rcases h2 with h2 | ⟨rfl,h2⟩
   ·exact .inl h2
   ·exact .inr ⟨rfl,NT h1 h2⟩
theorem kr:∀ {a b:Lz},Op.bytesLess a b=false->Op.bytesLess b a=false->a=b
 | [],[],_,_=>rfl
 | [],y :: b,h,_=>by unfold Op.bytesLess at h;cases h
 | x :: a,[],_,h=>by unfold Op.bytesLess at h;cases h
 | x :: a,y :: b,h1,h2=>by
  unfold Op.bytesLess at h1 h2;simp only[AO,Ok,AG,O1]at h1 h2;obtain ⟨g1,g2⟩:=h1;obtain ⟨g3,g4⟩:=h2;have hxy:x=y:=by
   apply Am.1;have e1:¬x.toNat<y.toNat:=fun h=>g1 (AH.2 h);have e2:¬y.toNat<x.toNat:=fun h=>g3 (AH.2 h);omega
  subst hxy;have h3:Op.bytesLess a b=false:=by rcases g2 with g | g;exact absurd rfl g;exact g
  have h4:Op.bytesLess b a=false:=by rcases g4 with g | g;exact absurd rfl g;exact g
  rw[kr h3 h4]
theorem zeu:∀ a b:Lz,(Lib.compareBytes a b<0)=(Op.bytesLess a b=true)
 | [],[]=>by simp[Lib.compareBytes,Op.bytesLess]
 | [],_ :: _=>by simp[Lib.compareBytes,Op.bytesLess]
 | _ :: _,[]=>by simp[Lib.compareBytes,Op.bytesLess]
 | a :: x,b :: y=>by
  unfold Lib.compareBytes Op.bytesLess;by_cases h1:a<b
  ·simp[h1]
  ·rw[if_neg h1];by_cases h2:b<a
   ·have:a≠b:=fun e=>by subst e;exact h1 h2
    simp[h1,h2,this]
   ·have e:a=b:=by
     apply Am.1;have e1:¬a.toNat<b.toNat:=fun h=>h1 (AH.2 h);have e2:¬b.toNat<a.toNat:=fun h=>h2 (AH.2 h);omega
    rw[if_neg h2,zeu x y];subst e;simp[h1]
theorem zh6:∀ a b:Lz,(Lib.compareBytes a b=0)=(a=b)
 | [],[]=>by simp[Lib.compareBytes]
 | [],_ :: _=>by simp[Lib.compareBytes]
 | _ :: _,[]=>by simp[Lib.compareBytes]
 | a :: x,b :: y=>by
  unfold Lib.compareBytes;by_cases h1:a<b
  ·have:a≠b:=fun e=>by subst e;simp at h1
   simp[h1,this]
  ·rw[if_neg h1];by_cases h2:b<a
   ·have:a≠b:=fun e=>by subst e;exact h1 h2
    simp[h2,this]
   ·have e:a=b:=by
     apply Am.1;have e1:¬a.toNat<b.toNat:=fun h=>h1 (AH.2 h);have e2:¬b.toNat<a.toNat:=fun h=>h2 (AH.2 h);omega
    rw[if_neg h2,zh6 x y];subst e;simp
def jF:ziH Lz:=⟨Op.bytesLess,YD,NT,kr⟩
def j4:ziH Int:=⟨fun a b=>decide (a<b),fun a=>by simp,fun h1 h2=>by simp at h1 h2 ⊢;omega,fun h1 h2=>by simp at h1 h2;omega⟩
section
variable {α κ:Type} [DecidableEq κ] (o:ziH κ) (key:α->κ)
def qQ (xs:List α):Prop:=xs.Pairwise fun a b=>o.lt (key a) (key b)=true
def qx (n:κ) (xs:List α):Nat:=(xs.filter fun x=>o.lt (key x) n).length
def Js (n:κ) (xs:List α):Bool:=xs.any fun x=>decide (key x=n)
def qz (n:κ) (xs:List α):Option α:=xs.find? fun x=>decide (key x=n)
def jh (n:κ) (xs:List α):List α:=xs.filter fun x=>!decide (key x=n)
def YY (x:α):List α->List α
 | []=>[x]
 | y :: r=>if o.lt (key x) (key y) then x :: y :: r else y :: YY x r
variable {o:ziH κ} {key:α->κ}
theorem ziH.asym {a b:κ} (h:o.lt a b=true):o.lt b a=false:=by
 cases h':o.lt b a with
 | false=>rfl
 | true=>have:=o.tr h h';rw[o.irr]at this;cases this
theorem Z1 (n:κ):∀ (xs:List α) (i:Nat),i<=xs.length->(∀ t (h:t<xs.length),t<i->o.lt (key xs[t]) n=true)->(∀ t (h:t<xs.length),i<=t->o.lt (key xs[t]) n=false)->qx o key n xs=i
 | [],i,h,_,_=>by simp at h;simp[qx,h]
 | x :: r,0,_,_,h2=>by
  have hx:o.lt (key x) n=false:=h2 0 (by simp) (Wc _);have ih:=Z1 n r 0 (Wb _) (fun t h h'=>absurd h' (Oo _)) (fun t h _=>h2 (t+1) (by simp;omega) (Wb _));unfold qx at ih ⊢;rw[OH (by simp[hx])];exact ih
 | x :: r,i+1,h,h1,h2=>by
  have hx:o.lt (key x) n=true:=h1 0 (by simp) (A3 _);have ih:=Z1 n r i (by simpa using h) (fun t h h'=>h1 (t+1) (by simp;omega) (by omega)) (fun t h h'=>h2 (t+1) (by simp;omega) (by omega));unfold qx at ih ⊢;rw[Og (by simp[hx]),Wh,ih]
theorem VC (n:κ) (xs:List α):qx o key n xs<=xs.length:=OI _ _
theorem JV {y:α} {r:List α}:qQ o key (y :: r)↔(∀ z∈r,o.lt (key y) (key z)=true)/\qQ o key r:=Bf
theorem zcF {n:κ} {y:α} {r:List α} (h:o.lt (key y) n=true):qx o key n (y :: r)=qx o key n r+1:=by
 unfold qx;rw[Og (by simpa using h),Wh]
theorem zcS {n:κ} {y:α} {r:List α} (hR:qQ o key (y :: r)) (h:o.lt (key y) n=false):qx o key n (y :: r)=0:=by
 obtain ⟨h1,_⟩:=JV.1 hR;unfold qx;rw[At,AU];intro z hz;rcases WF.1 hz with rfl | hz
 ·simp[h]
 ·have h3:=h1 z hz;cases h4:o.lt (key z) n with
  | false=>simp
  | true=>have:=o.tr h3 h4;rw[h]at this;cases this
theorem zeP {n:κ} {y:α} {r:List α} (hR:qQ o key (y :: r)) (h:o.lt (key y) n=false):Js key n (y :: r)=decide (key y=n):=by
 obtain ⟨h1,_⟩:=JV.1 hR;unfold Js;rw[AN];have:(r.any fun x=>decide (key x=n))=false:=W5.2 fun z hz=>by
  have h3:=h1 z hz;simp only[WW];rintro rfl;rw[h3]at h;cases h
 rw[this,A5]
theorem UP (n:κ):∀ {xs:List α},qQ o key xs->(∀ t (h:t<xs.length),t<qx o key n xs->o.lt (key xs[t]) n=true)/\(∀ t (h:t<xs.length),qx o key n xs<=t->o.lt (key xs[t]) n=false) /\
  (Js key n xs=true->∃ h:qx o key n xs<xs.length,key xs[qx o key n xs]=n/\qz key n xs=some xs[qx o key n xs]/\jh key n xs=xs.take (qx o key n xs)++xs.drop (qx o key n xs+1)/\∀ x,key x=n->YY o key x (jh key n xs)=xs.set (qx o key n xs) x) /\
  (Js key n xs=false->qz key n xs=none/\jh key n xs=xs/\∀ x,key x=n->YY o key x xs=xs.take (qx o key n xs)++x :: xs.drop (qx o key n xs))
 | [],_=>⟨fun t h=>absurd h (Oo _),fun t h=>absurd h (Oo _),fun h=>(by cases h),fun _=>⟨rfl,rfl,fun x _=>rfl⟩⟩
 | y :: r,hR=>by
  obtain ⟨h1,h2⟩:=JV.1 hR;obtain ⟨i1,i2,i3,i4⟩:=UP n h2;cases hy:o.lt (key y) n with
  | true =>
   have hne:key y≠n:=by rintro rfl;rw[o.irr]at hy;cases hy
   have hrk:=zcF (r:=r) hy;have hhas:Js key n (y :: r)=Js key n r:=by unfold Js;rw[AN,Wj hne,O6]
   have hfind:qz key n (y :: r)=qz key n r:=by unfold qz;rw[Ao (by simpa using hne)]
   have hless:jh key n (y :: r)=y :: jh key n r:=by unfold jh;rw[Og (by simpa using hne)]
   have hput:∀ x q,key x=n->YY o key x (y :: q)=y :: YY o key x q:=fun x q hx=>by
    rw[YY,hx,ziH.asym hy];rfl
   rw[hhas,hfind,hless,hrk];refine ⟨fun t h ht=>?_,fun t h ht=>?_,fun h=>?_,fun h=>?_⟩
   ·cases t with
    | zero=>exact hy
    | succ t=>exact i1 t (by simpa using h) (by omega)
   ·cases t with
    | zero=>omega
    | succ t=>exact i2 t (by simpa using h) (by omega)
   ·obtain ⟨g,g1,g2,g3,g4⟩:=i3 h;refine ⟨by simp;omega,by simpa using g1,by simpa using g2,by rw[g3];simp,fun x hx=>?_⟩;rw[hput x _ hx,g4 x hx];simp
   ·obtain ⟨g1,g2,g3⟩:=i4 h;refine ⟨g1,by rw[g2],fun x hx=>?_⟩;rw[hput x _ hx,g3 x hx];simp
  | false =>
   have hrk:=zcS hR hy;have hhas:=zeP hR hy;rw[hrk,hhas];have hno:∀ z∈r,key z≠n:=fun z hz=>by
    have h3:=h1 z hz;rintro rfl;rw[h3]at hy;cases hy
   have hlr:jh key n r=r:=by
    unfold jh;rw[Bo];intro z hz;simpa using hno z hz
   refine ⟨fun t h ht=>absurd ht (Oo _),fun t h _=>?_,fun h=>?_,fun h=>?_⟩
   ·cases t with
    | zero=>exact hy
    | succ t =>
     have h3:=h1 (r[t]'(by simpa using h)) (Ww _);show o.lt (key (r[t]'(by simpa using h))) n=false;cases h4:o.lt (key (r[t]'(by simpa using h))) n with
     | false=>rfl
     | true=>have:=o.tr h3 h4;rw[hy]at this;cases this
   ·have hk:key y=n:=WP h;have hl:jh key n (y :: r)=r:=by
     show (y :: r).filter (fun x=>!decide (key x=n))=r;rw[OH (by simpa using hk)];exact hlr
    refine ⟨by simp,hk,by unfold qz;rw[AC (by simpa using hk)];rfl,by rw[hl];simp,fun x hx=>?_⟩;rw[hl];cases r with
    | nil=>rfl
    | cons z q =>
     have h3:=h1 z Wk;rw[hk]at h3;rw[YY,hx,h3];rfl
   ·have hk:key y≠n:=OS h;have hny:o.lt n (key y)=true:=by
     cases h5:o.lt n (key y) with
     | true=>rfl
     | false=>exact absurd (o.tot hy h5) hk
    refine ⟨?_,?_,fun x hx=>?_⟩
    ·unfold qz;rw[Be];intro z hz;rcases WF.1 hz with rfl | hz
     ·simpa using hk
     ·simpa using hno z hz
    ·show (y :: r).filter (fun x=>!decide (key x=n))=y :: r;rw[Og (by simpa using hk)];exact Wu _ hlr
    ·rw[YY,hx,hny];rfl
theorem uO (n:κ) {xs:List α} (hR:qQ o key xs) {i:Nat} (hi:qx o key n xs=i) (h:i<xs.length):Js key n xs=decide (key xs[i]=n):=by
 subst hi;obtain ⟨_,_,h3,_⟩:=UP n hR;cases hh:Js key n xs with
 | true=>obtain ⟨_,g,_⟩:=h3 hh;rw[Wm g]
 | false =>
  symm
  rw[Ok];intro e;unfold Js at hh;rw[W5]at hh;exact hh _ (Ww h) (Wm e)
theorem Mh (n:κ) {xs:List α} (hR:qQ o key xs) (hi:qx o key n xs=xs.length):Js key n xs=false:=by
 obtain ⟨_,_,h3,_⟩:=UP n hR;cases hh:Js key n xs with
 | false=>rfl
 | true=>obtain ⟨g,_⟩:=h3 hh;omega
theorem ko (n:κ) {xs:List α} (h:qQ o key xs):qQ o key (jh key n xs):=h.filter _
theorem Q3 {x y:α}:∀ {xs:List α},y∈YY o key x xs↔y=x∨y∈xs
 | []=>by simp[YY]
 | z :: r=>by
  unfold YY;split
  ·simp
  ·rw[WF,Q3,WF];constructor
   ·rintro (h | h | h)
    ·exact .inr (.inl h)
    ·exact .inl h
    ·exact .inr (.inr h)
   ·rintro (h | h | h)
    ·exact .inr (.inl h)
    ·exact .inl h
    ·exact .inr (.inr h)
theorem QI {n:κ} {y:α} {xs:List α}:y∈jh key n xs↔y∈xs/\key y≠n:=by unfold jh;simp
theorem Ud {x:α}:∀ {xs:List α},qQ o key xs->(∀ y∈xs,key y≠key x)->qQ o key (YY o key x xs)
 | [],_,_=>by unfold YY qQ;simp
 | y :: r,hR,hne=>by
  obtain ⟨h1,h2⟩:=JV.1 hR;unfold YY;cases hxy:o.lt (key x) (key y) with
  | true =>
   rw[if_pos rfl,JV];refine ⟨fun z hz=>?_,hR⟩;rcases WF.1 hz with rfl | hz
   ·exact hxy
   ·exact o.tr hxy (h1 z hz)
  | false =>
   rw[if_neg (by simp),JV];have hyx:o.lt (key y) (key x)=true:=by
    cases h:o.lt (key y) (key x) with
    | true=>rfl
    | false=>exact absurd (o.tot h hxy) (hne y Wk)
   refine ⟨fun z hz=>?_,Ud h2 fun z hz=>hne z (Wl _ hz)⟩;rcases Q3.1 hz with rfl | hz
   ·exact hyx
   ·exact h1 z hz
theorem kO {x:α} {xs:List α} (h:qQ o key xs):qQ o key (YY o key x (jh key (key x) xs)):=
 Ud (ko _ h) fun y hy=>(QI.1 hy).2
theorem YE (n:κ) (xs:List α):(jh key n xs).length<=xs.length:=OI _ _
theorem U1 (x:α):∀ xs:List α,(YY o key x xs).length=xs.length+1
 | []=>rfl
 | y :: r=>by
  unfold YY;split
  ·rfl
  ·rw[Wh,U1 x r];rfl
end
end
section
open Go.RowKit
section
variable {G:zu}
theorem zcc (rows:List (List C)) (hk:∀ r∈rows,r.length=2) (hs:ju rows) (hl:rows.length<=100000) :
  YX Tryz.prog G 291 [.sl 2 rows] [] 0 (zgp 2 rows):=by
 refine YX.bySlice (fun h=>?_) (fun h a cap hr=>?_)
 ·refine foX (fun i=>if i=1000000+62 then [true,true] else []) Tryz.func291 ?_;dsimp only[Tryz.f291];push_cast;refine ⟨h,Vw ZC Yy rfl rfl (by decide) rfl (qA hk) rfl (Wc _) (Wc _) (by omega) (by omega) (fun hc=>absurd hc ?_) (fun _ c hc hm=>?_)⟩
  ·have:=WI.2 h;omega
  ·push_cast;rw[Ox]at hc;refine ⟨_,_,_,⟨⟨rfl,.inl ⟨h,c,hc,hm,rfl,rfl⟩⟩,Wb _⟩,[],rfl,rfl,?_,by push_cast [ze,zd,CLe,zh]⟩;push_cast [ze,zd,CLe,zh];exact z6 (zH hs)
 ·cases a with
  | none =>
   refine foX (fun i=>if i=1000000+62 then [true,true] else []) Tryz.func291 ?_;dsimp only[Tryz.f291];push_cast [hr,O9];exact ⟨_,_,_,⟨⟨rfl,.inr ⟨h,.inl ⟨rfl,rfl⟩⟩⟩,Wb _⟩,[],rfl,rfl,by push_cast [ze,zd,CLe,zh],by push_cast [ze,zd,CLe,zh]⟩
  | some a =>
   refine foX (fun i=>if i=1000000+62 then [true,true] else []) Tryz.func291 ?_;dsimp only[Tryz.f291];push_cast [hr,Aa];have hx:C.xs? 2 [[]] (C.sc (.slice (some a) 0 cap))=some (0,[]):=by simp[C.xs?,hr]
   refine Vw ZC Yy hx rfl (by decide) rfl rfl rfl (Wc _) (Wc _) (by omega) (by omega) (fun _=>?_) (fun hc=>absurd hc (by omega));push_cast;exact ⟨_,_,_,⟨⟨rfl,.inr ⟨h,.inr ⟨rfl,rfl⟩⟩⟩,Wb _⟩,[],rfl,rfl,by (push_cast [ze,zd,CLe,zh];simp[spl,zh]),by push_cast [ze,zd,CLe,zh]⟩
theorem zaO (rows:List (List C)) (x:List C) (i c e:Nat) (hk:∀ r∈rows,r.length=2) (hx:x.length=2) (hs:ju rows) (hsx:(x.all C.stayB)=true) (hl:rows.length<=100000) (hi:i<=rows.length) (hc:rows.length<=c) (hcm:c<=9223372036854775807) :
  YX Tryz.prog G 292 [.bs 0 0 2 rows.length c,.sc (.int .i64 i),.own 0 e 2 [x]] [qF 2 rows c] 1 (zsE 2 (c*2) (rows.take i++x :: rows.drop i)):=by
 refine foX (fun j=>if j=1000000+62 then [true,true] else if j=11 then [false,false,false,false,false,false,false,false,true] else if j=15 then [false,false,false,false,false,false,false,false,true] else []) Tryz.func292 ?_;dsimp only[Tryz.f292];push_cast;have hlen:(rows.take i++x :: rows.drop i).length=rows.length+1:=by simp;omega
 have hki:∀ r∈rows.take i++x :: rows.drop i,r.length=2:=fun r hr=>by
  rcases WC.1 hr with hr | hr
  ·exact hk r (Wx hr)
  ·rcases WF.1 hr with rfl | hr
   ·exact hx
   ·exact hk r (WU hr)
 have hsi:ju (rows.take i++x :: rows.drop i):=fun r hr=>by
  rcases WC.1 hr with hr | hr
  ·exact hs r (Wx hr)
  ·rcases WF.1 hr with rfl | hr
   ·exact hsx
   ·exact hs r (WU hr)
 have hbl:=JX hk hc;have hfl:=qA hk;have hxl:[x].flatten.length=1*2:=by simp[hx]
 have hpre:(qF 2 rows c).take rows.flatten.length=rows.flatten:=by unfold qF;rw[Bi]
 refine ⟨hc,⟨by omega,hi⟩,br (fun h=>?_) (fun h=>?_)⟩
 ·push_cast;refine Vw ZC Yy rfl rfl (by decide) rfl hxl rfl (by rw[hbl];omega) hc (by simp;omega) (by simp;omega) (fun h1=>?_) (fun h1 c' h2 h3=>?_)
  ·push_cast;have hi':i=rows.length:=WP h;refine ⟨_,_,_,⟨⟨rfl,c,by rw[hlen];exact h1,hcm,.inl ⟨rfl,rfl⟩⟩,Wc _⟩,[],rfl,rfl,?_,by push_cast [ze,zd,CLe,zh,hlen]⟩;push_cast [ze,zd,CLe,zh];have h6:rows.length*2+2<=c*2:=by have:rows.length+1<=c:=h1;omega
   refine JR hki hsi (by rw[hlen];exact h1) (by rw[ZD (by rw[hbl,hx];exact h6),hbl]) ?_;rw[hlen,hi',Oi,AL];unfold spl;rw[←hfl,hpre,OK (by simp[hx,hfl];omega)];simp
  ·push_cast;have hi':i=rows.length:=WP h;have h2':rows.length+1<=c':=h2;refine ⟨_,_,_,⟨⟨rfl,c',by rw[hlen];exact h2,h3,.inr ⟨rfl,rfl⟩⟩,OT rfl⟩,[],rfl,rfl,?_,by push_cast [ze,zd,CLe,zh,hlen]⟩;push_cast [ze,zd,CLe,zh];refine ⟨XV hbl,JR hki hsi (by rw[hlen];exact h2) (by simp[hx,hbl];omega) ?_⟩;rw[hlen,hi',Oi,AL,←hfl,hpre,OK (by simp[hx,hfl];omega)];simp
 ·have hne:i≠rows.length:=OS h;push_cast;refine ⟨⟨by omega,by omega⟩,br (fun h1=>?_) (fun h1=>?_)⟩
  ·have h1':(c:Int)<(rows.length:Int)+1:=WP h1;push_cast
   repeat refine an ?_
   refine znh ZC zpu Yy rfl (by decide) rfl rfl (by rw[hbl];omega) (by omega) (by omega) (by omega) (by omega) (by omega) (fun c' B h2 h3 hBl hBt=>?_);have e1:((rows.length:Int)+1-(i:Int)).toNat=rows.length+1-i:=by omega
   rw[e1]at h2 ⊢;have e2:i+(rows.length+1-i)=rows.length+1:=by omega
   rw[e2]at h2 ⊢;push_cast
   repeat refine an ?_
   refine X1 ZC Yy rfl rfl hxl (by rw[hBl];omega) (fun B1 hB1 hl1=>?_);rw[hBl]at hl1;push_cast
   repeat refine an ?_
   have hbp:=XB (c:=c) hk hi;refine X1 ZC Yy (HQ rfl (by rw[hbl];omega)) rfl (by rw[hbp,W3,hfl];omega) (by rw[hl1];omega) (fun B2 hB2 hl2=>?_);rw[hl1]at hl2;have hX:[x].flatten.take (min [x].length (rows.length+1-i)*2)=x:=by
    rw[Om,OJ (by omega),Wf (by omega)];simp
   rw[hX]at hB1;rw[hbp,show min (rows.length-i) (rows.length-i)*2=(rows.length-i)*2 by omega,Wf (by rw[W3,hfl];omega),hB1]at hB2;push_cast;refine ⟨_,_,_,⟨⟨rfl,c',by rw[hlen];exact h2,h3,.inr ⟨rfl,rfl⟩⟩,OT rfl⟩,[],rfl,rfl,?_,by push_cast [ze,zd,CLe,zh,hlen]⟩;push_cast [ze,zd,CLe,zh];refine ⟨XV hbl,JR hki hsi (by rw[hlen];exact h2) hl2 ?_⟩;rw[hlen,←Q6 hk,hB2];have hg:=Nk (cs:=B) (L:=rows.flatten) (X:=x) (p:=i*2) (q:=(i+1)*2) (by omega) (by omega) (by
    rw[hBt,AY];unfold qF;rw[OU (by omega)]) (by omega)
   rw[hfl,hx]at hg;rw[←hg];congr 1;omega
  ·have h1':¬(c:Int)<(rows.length:Int)+1:=OS h1;push_cast
   repeat refine an ?_
   refine znA (vK (P:=Tryz.prog) (tR:=4) Tryz.func303 (by kernel_rfl) (by kernel_rfl) (by kernel_rfl) (by kernel_rfl) ZC Yy rfl (Bk (by rw[hbl];omega)) (by simp) (by omega)) ?_;push_cast
   repeat refine an ?_
   have hbp:=XB (c:=c) hk hi;refine X1 ZC Yy (HQ rfl (by rw[hbl];omega)) rfl (by simp[hbl];omega) (by rw[hbl];omega) (fun B1 hB1 hl1=>?_);rw[hbl]at hl1;rw[B3,OJ (by omega),show min (rows.length+1-i) (rows.length-i)*2=(rows.length-i)*2 by omega,hbp]at hB1;push_cast
   repeat refine an ?_
   refine X1 ZC Yy rfl rfl hxl (by rw[hl1];omega) (fun B2 hB2 hl2=>?_);rw[hl1]at hl2;have hX:[x].flatten.take (min [x].length (rows.length+1-i)*2)=x:=by
    rw[Om,OJ (by omega),Wf (by omega)];simp
   rw[hX,hB1]at hB2;push_cast;have hcc:rows.length+1<=c:=by omega
   refine ⟨_,_,_,⟨⟨rfl,c,by rw[hlen];exact hcc,hcm,.inl ⟨rfl,rfl⟩⟩,OT rfl⟩,[],rfl,rfl,?_,by push_cast [ze,zd,CLe,zh,hlen]⟩;push_cast [ze,zd,CLe,zh];refine JR hki hsi (by rw[hlen];exact hcc) hl2 ?_;rw[hlen,←Q6 hk,hB2];have hg:=Hq (cs:=qF 2 rows c) (L:=rows.flatten) (X:=x) (p:=i*2) (q:=(i+1)*2) (by omega) (by omega) hpre (by omega);rw[hfl,hx]at hg;rw[←hg];congr 1;omega
theorem zjZ {e:Nat} (x:List C) (hx:x.length=2) (hsx:(x.all C.stayB)=true) :
  YX Tryz.prog G 292 [.sc (.slice none 0 0),.sc (.int .i64 0),.own 0 e 2 [x]] [] 1 (fun r bx' n=>n=0/\∃ c,1<=c/\c<=9223372036854775807/\r = .bs 0 0 2 1 c/\bx' = [qF 2 [x] c]):=by
 refine foX (fun j=>if j=1000000+62 then [true,true] else if j=11 then [false,false,false,false,false,false,false,false,true] else if j=15 then [false,false,false,false,false,false,false,false,true] else []) Tryz.func292 ?_;dsimp only[Tryz.f292];push_cast;refine ND ZC Yy rfl rfl (by decide) rfl (by simp[hx]) (by simp) (by simp) (by simp) (fun c h1 h2=>?_);push_cast;refine ⟨_,_,_,⟨⟨rfl,c,h1,h2,rfl,rfl⟩,Wb _⟩,[],rfl,rfl,?_,by push_cast [ze,zd,CLe,zh]⟩;push_cast [ze,zd,CLe,zh];have:=z6 (src:=[]) (n:=1) (zH (k:=2) (c:=c) (rows:=[x]) fun r hr=>by
  rw[W0.1 hr];exact hsx)
 unfold qF at this ⊢;simpa using this
end
end
end Go.Proofs.YtnpdbhbmakdklaaGreatDoor.Vcg
section
namespace Go.Proofs
open YtnpdbhbmakdklaaGreatDoor
open Go.Shelf
def Tryz.lays169_ren:Go.Shelf.Ren:=⟨fun | 169=>167 | n=>n,fun | 70=>218 | 9=>9 | 0=>0 | 72=>220 | 37=>174 | 127=>263 | 3=>3 | 5=>5 | n=>n,fun | n=>n⟩
theorem Tryz.lays169:Go.Proofs.Lays.n169 Tryz.prog Tryz.lays169_ren:={
 mixed:=by kernel_rfl
 f169:=Tryz.func167.trans (Wu some (by kernel_rfl))
 t0:=Tryz.underlying0
 a0:=Tryz.isAgg0
 z0:=Tryz.sizeOf0
 v0:=Tryz.zeroValue0
 t3:=Tryz.underlying3
 a3:=Tryz.isAgg3
 z3:=Tryz.sizeOf3
 v3:=Tryz.zeroValue3
 t9:=Tryz.underlying9
 a9:=Tryz.isAgg9
 z9:=Tryz.sizeOf9
 v9:=Tryz.zeroValue9
 t37:=Tryz.underlying174
 a37:=Tryz.isAgg174
 z37:=Tryz.sizeOf174
 v37:=Tryz.zeroValue174
 t70:=Tryz.underlying218
 a70:=Tryz.isAgg218
 z70:=Tryz.sizeOf218
 v70:=Tryz.zeroValue218
 t72:=Tryz.underlying220
 a72:=Tryz.isAgg220
 z72:=Tryz.sizeOf220
 v72:=Tryz.zeroValue220
 t127:=Tryz.underlying263
 a127:=Tryz.isAgg263
 z127:=Tryz.sizeOf263
 v127:=Tryz.zeroValue263 }
theorem Tryz.Builder_Extra_169:Builder.Extra Tryz.prog Tryz.lays169_ren:={
 sizeBuilder:=by kernel_rfl
 liesBuilder:=by kernel_rfl
 t5:=Tryz.underlying5
 a5:=Tryz.isAgg5
 z5:=Tryz.sizeOf5
 v5:=Tryz.zeroValue5
 infoByte:=by kernel_rfl
 cellsByte:=by kernel_rfl
 sizeByte:=by kernel_rfl
 neB5:=by decide }
open Go.RowKit in
theorem Tryz.Builder_String_any (B b:Nat) (l:Lz) (w:World) (h:Lib.IsBuilder 220 5 B b (Lib.byteCells l) w) (hBw:B<=w.heap.size) :
  Calls Tryz.prog 167 #[.pointer (some ⟨b,0,none⟩)] w fun e w'=>e = .returned (.string ⟨l.toArray⟩)/\Below B w w':=Any.Builder_String_any Tryz.lays169 Tryz.Builder_Extra_169 B b l w h hBw
def Tryz.lays156_ren:Go.Shelf.Ren:=⟨fun | 156=>122 | 165=>165 | 166=>166 | 169=>167 | 240=>199 | 241=>200 | 276=>232 | 277=>233 | n=>n,fun | 31=>30 | 9=>9 | 3=>3 | 4=>4 | 0=>0 | 20=>20 | 72=>220 | 76=>224 | 70=>218 | 37=>174 | 75=>223 | 127=>263 | 164=>281 | 5=>5 | 80=>226 | n=>n,fun | n=>n⟩
theorem Tryz.lays156:Go.Proofs.Lays.n156 Tryz.prog Tryz.lays156_ren:={
 mixed:=by kernel_rfl
 f156:=Tryz.func122.trans (Wu some (by kernel_rfl))
 f165:=Tryz.func165.trans (Wu some (by kernel_rfl))
 f166:=Tryz.func166.trans (Wu some (by kernel_rfl))
 f169:=Tryz.func167.trans (Wu some (by kernel_rfl))
 f240:=Tryz.func199.trans (Wu some (by kernel_rfl))
 f241:=Tryz.func200.trans (Wu some (by kernel_rfl))
 f276:=Tryz.func232.trans (Wu some (by kernel_rfl))
 f277:=Tryz.func233.trans (Wu some (by kernel_rfl))
 t0:=Tryz.underlying0
 a0:=Tryz.isAgg0
 z0:=Tryz.sizeOf0
 v0:=Tryz.zeroValue0
 t3:=Tryz.underlying3
 a3:=Tryz.isAgg3
 z3:=Tryz.sizeOf3
 v3:=Tryz.zeroValue3
 t4:=Tryz.underlying4
 a4:=Tryz.isAgg4
 z4:=Tryz.sizeOf4
 v4:=Tryz.zeroValue4
 t9:=Tryz.underlying9
 a9:=Tryz.isAgg9
 z9:=Tryz.sizeOf9
 v9:=Tryz.zeroValue9
 t20:=Tryz.underlying20
 a20:=Tryz.isAgg20
 z20:=Tryz.sizeOf20
 v20:=Tryz.zeroValue20
 t31:=Tryz.underlying30
 a31:=Tryz.isAgg30
 z31:=Tryz.sizeOf30
 v31:=Tryz.zeroValue30
 t37:=Tryz.underlying174
 a37:=Tryz.isAgg174
 z37:=Tryz.sizeOf174
 v37:=Tryz.zeroValue174
 t70:=Tryz.underlying218
 a70:=Tryz.isAgg218
 z70:=Tryz.sizeOf218
 v70:=Tryz.zeroValue218
 t72:=Tryz.underlying220
 a72:=Tryz.isAgg220
 z72:=Tryz.sizeOf220
 v72:=Tryz.zeroValue220
 t75:=Tryz.underlying223
 a75:=Tryz.isAgg223
 z75:=Tryz.sizeOf223
 v75:=Tryz.zeroValue223
 t76:=Tryz.underlying224
 a76:=Tryz.isAgg224
 z76:=Tryz.sizeOf224
 v76:=Tryz.zeroValue224
 t127:=Tryz.underlying263
 a127:=Tryz.isAgg263
 z127:=Tryz.sizeOf263
 v127:=Tryz.zeroValue263
 t164:=Tryz.underlying281
 a164:=Tryz.isAgg281
 z164:=Tryz.sizeOf281
 v164:=Tryz.zeroValue281 }
theorem Tryz.Builder_Extra_156:Builder.Extra Tryz.prog Tryz.lays156_ren:={
 sizeBuilder:=by kernel_rfl
 liesBuilder:=by kernel_rfl
 t5:=Tryz.underlying5
 a5:=Tryz.isAgg5
 z5:=Tryz.sizeOf5
 v5:=Tryz.zeroValue5
 infoByte:=by kernel_rfl
 cellsByte:=by kernel_rfl
 sizeByte:=by kernel_rfl
 neB5:=by decide }
open Go.RowKit in
theorem Tryz.strings_Join_none (a:Option Addr) (c:Nat) (sep:ByteArray) (w:World) :
  Calls Tryz.prog 122 #[.slice a 0 c,.string sep] w fun e w'=>e = .returned (.string ⟨#[]⟩)/\w'=w:=Any.strings_Join_none Tryz.lays156 Tryz.Builder_Extra_156 a c sep w
open Go.RowKit in
theorem Tryz.strings_Join (bk o c:Nat) (xs:List ByteArray) (sep:ByteArray) (w:World) (hcells:∀ (j:Nat) x,xs[j]?=some x->w.cell? ⟨bk,o+j,none⟩=some (.string x)) (hbk:bk<w.heap.size) (hN:xs.length<=140737488355328) (hcap:xs.length<=c) (hlen:(Lib.join (xs.map (·.data.toList)) sep.data.toList).length<=140737488355328) :
  Calls Tryz.prog 122 #[.slice (some ⟨bk,o,none⟩) xs.length c,.string sep] w fun e w'=>e = .returned (.string ⟨(Lib.join (xs.map (·.data.toList)) sep.data.toList).toArray⟩)/\Below w.heap.size w w':=Any.strings_Join Tryz.lays156 Tryz.Builder_Extra_156 bk o c xs sep w hcells hbk hN hcap hlen
def Tryz.lays162_ren:Go.Shelf.Ren:=⟨fun | 162=>162 | 232=>193 | 227=>194 | 234=>195 | 236=>196 | 228=>229 | 271=>230 | 151=>231 | 120=>264 | 197=>191 | 152=>234 | 260=>227 | 137=>145 | 119=>265 | 224=>262 | 225=>261 | 217=>174 | 266=>222 | n=>n,fun | 9=>9 | 4=>4 | 3=>3 | 5=>5 | 117=>255 | 116=>254 | 0=>0 | 124=>258 | 21=>21 | 105=>249 | 46=>261 | 119=>301 | 139=>304 | 138=>303 | n=>n,fun | 3=>5 | 4=>6 | n=>n⟩
theorem Tryz.lays162:Go.Proofs.Lays.n162 Tryz.prog Tryz.lays162_ren:={
 mixed:=by kernel_rfl
 f119:=Tryz.func265.trans (Wu some (by kernel_rfl))
 f120:=Tryz.func264.trans (Wu some (by kernel_rfl))
 f137:=Tryz.func145.trans (Wu some (by kernel_rfl))
 f151:=Tryz.func231.trans (Wu some (by kernel_rfl))
 f152:=Tryz.func234.trans (Wu some (by kernel_rfl))
 f162:=Tryz.func162.trans (Wu some (by kernel_rfl))
 f197:=Tryz.func191.trans (Wu some (by kernel_rfl))
 f217:=Tryz.func174.trans (Wu some (by kernel_rfl))
 f224:=Tryz.func262.trans (Wu some (by kernel_rfl))
 f225:=Tryz.func261.trans (Wu some (by kernel_rfl))
 f227:=Tryz.func194.trans (Wu some (by kernel_rfl))
 f228:=Tryz.func229.trans (Wu some (by kernel_rfl))
 f232:=Tryz.func193.trans (Wu some (by kernel_rfl))
 f234:=Tryz.func195.trans (Wu some (by kernel_rfl))
 f236:=Tryz.func196.trans (Wu some (by kernel_rfl))
 f260:=Tryz.func227.trans (Wu some (by kernel_rfl))
 f266:=Tryz.func222.trans (Wu some (by kernel_rfl))
 f271:=Tryz.func230.trans (Wu some (by kernel_rfl))
 t0:=Tryz.underlying0
 a0:=Tryz.isAgg0
 z0:=Tryz.sizeOf0
 v0:=Tryz.zeroValue0
 t3:=Tryz.underlying3
 a3:=Tryz.isAgg3
 z3:=Tryz.sizeOf3
 v3:=Tryz.zeroValue3
 t4:=Tryz.underlying4
 a4:=Tryz.isAgg4
 z4:=Tryz.sizeOf4
 v4:=Tryz.zeroValue4
 t5:=Tryz.underlying5
 a5:=Tryz.isAgg5
 z5:=Tryz.sizeOf5
 v5:=Tryz.zeroValue5
 t9:=Tryz.underlying9
 a9:=Tryz.isAgg9
 z9:=Tryz.sizeOf9
 v9:=Tryz.zeroValue9
 t21:=Tryz.underlying21
 a21:=Tryz.isAgg21
 z21:=Tryz.sizeOf21
 v21:=Tryz.zeroValue21
 t46:=Tryz.underlying261
 a46:=Tryz.isAgg261
 z46:=Tryz.sizeOf261
 v46:=Tryz.zeroValue261
 t105:=Tryz.underlying249
 a105:=Tryz.isAgg249
 z105:=Tryz.sizeOf249
 v105:=Tryz.zeroValue249
 t116:=Tryz.underlying254
 a116:=Tryz.isAgg254
 z116:=Tryz.sizeOf254
 t117:=Tryz.underlying255
 a117:=Tryz.isAgg255
 z117:=Tryz.sizeOf255
 v117:=Tryz.zeroValue255
 t119:=Tryz.underlying301
 a119:=Tryz.isAgg301
 z119:=Tryz.sizeOf301
 t124:=Tryz.underlying258
 a124:=Tryz.isAgg258
 z124:=Tryz.sizeOf258
 v124:=Tryz.zeroValue258
 t138:=Tryz.underlying303
 a138:=Tryz.isAgg303
 z138:=Tryz.sizeOf303
 v138:=Tryz.zeroValue303
 t139:=Tryz.underlying304
 a139:=Tryz.isAgg304
 z139:=Tryz.sizeOf304
 v139:=Tryz.zeroValue304
 g3:=by kernel_rfl
 g4:=by kernel_rfl }
def Tryz.lays119_ren:Go.Shelf.Ren:=⟨fun | 119=>265 | n=>n,fun | 21=>21 | 4=>4 | n=>n,fun | n=>n⟩
theorem Tryz.lays119:Go.Proofs.Lays.n119 Tryz.prog Tryz.lays119_ren:={
 mixed:=by kernel_rfl
 f119:=Tryz.func265.trans (Wu some (by kernel_rfl))
 t4:=Tryz.underlying4
 a4:=Tryz.isAgg4
 z4:=Tryz.sizeOf4
 v4:=Tryz.zeroValue4
 t21:=Tryz.underlying21
 a21:=Tryz.isAgg21
 z21:=Tryz.sizeOf21
 v21:=Tryz.zeroValue21 }
theorem Tryz.utf8_ValidRune (r:Int) (w:World) :
  Calls Tryz.prog 265 #[.int .i32 r] w fun e w'=>e = .returned (.bool (Lib.validRune r))/\w'=w:=Any.utf8_ValidRune Tryz.lays119 r w
def Tryz.lays106_ren:Go.Shelf.Ren:=⟨fun | 106=>260 | 213=>286 | 265=>302 | n=>n,fun | 9=>9 | 3=>3 | n=>n,fun | n=>n⟩
theorem Tryz.lays106:Go.Proofs.Lays.n106 Tryz.prog Tryz.lays106_ren:={
 mixed:=by kernel_rfl
 f106:=Tryz.func260.trans (Wu some (by kernel_rfl))
 f213:=Tryz.func286.trans (Wu some (by kernel_rfl))
 f265:=Tryz.func302.trans (Wu some (by kernel_rfl))
 t3:=Tryz.underlying3
 a3:=Tryz.isAgg3
 z3:=Tryz.sizeOf3
 v3:=Tryz.zeroValue3
 t9:=Tryz.underlying9
 a9:=Tryz.isAgg9
 z9:=Tryz.sizeOf9
 v9:=Tryz.zeroValue9 }
open Go.RowKit in
theorem Tryz.strings_Compare (a b:ByteArray) (w:World) :
  Calls Tryz.prog 260 #[.string a,.string b] w fun e w'=>e = .returned (.int .i64 (Lib.compareBytes a.data.toList b.data.toList))/\w'=w:=Any.strings_Compare Tryz.lays106 a b w
def Tryz.lays137_ren:Go.Shelf.Ren:=⟨fun | 137=>145 | 217=>174 | 266=>222 | n=>n,fun | 9=>9 | 5=>5 | 3=>3 | n=>n,fun | n=>n⟩
theorem Tryz.lays137:Go.Proofs.Lays.n137 Tryz.prog Tryz.lays137_ren:={
 mixed:=by kernel_rfl
 f137:=Tryz.func145.trans (Wu some (by kernel_rfl))
 f217:=Tryz.func174.trans (Wu some (by kernel_rfl))
 f266:=Tryz.func222.trans (Wu some (by kernel_rfl))
 t3:=Tryz.underlying3
 a3:=Tryz.isAgg3
 z3:=Tryz.sizeOf3
 v3:=Tryz.zeroValue3
 t5:=Tryz.underlying5
 a5:=Tryz.isAgg5
 z5:=Tryz.sizeOf5
 v5:=Tryz.zeroValue5
 t9:=Tryz.underlying9
 a9:=Tryz.isAgg9
 z9:=Tryz.sizeOf9
 v9:=Tryz.zeroValue9 }
open Go.RowKit in
theorem Tryz.strings_IndexByte (s:ByteArray) (c:Int) (w:World) :
  Calls Tryz.prog 145 #[.string s,.int .u8 c] w fun e w'=>e = .returned (.int .i64 (Lib.indexByte s.data.toList c.toNat.toUInt8))/\w'=w:=Any.strings_IndexByte Tryz.lays137 s c w
def Tryz.lays143_ren:Go.Shelf.Ren:=⟨fun | 143=>192 | 219=>228 | 217=>174 | 225=>261 | 224=>262 | 267=>263 | 266=>222 | 314=>287 | n=>n,fun | 9=>9 | 3=>3 | 4=>4 | 5=>5 | 46=>261 | 146=>319 | 51=>318 | n=>n,fun | 1=>4 | n=>n⟩
theorem Tryz.lays143:Go.Proofs.Lays.n143 Tryz.prog Tryz.lays143_ren:={
 mixed:=by kernel_rfl
 f143:=Tryz.func192.trans (Wu some (by kernel_rfl))
 f217:=Tryz.func174.trans (Wu some (by kernel_rfl))
 f219:=Tryz.func228.trans (Wu some (by kernel_rfl))
 f224:=Tryz.func262.trans (Wu some (by kernel_rfl))
 f225:=Tryz.func261.trans (Wu some (by kernel_rfl))
 f266:=Tryz.func222.trans (Wu some (by kernel_rfl))
 f267:=Tryz.func263.trans (Wu some (by kernel_rfl))
 f314:=Tryz.func287.trans (Wu some (by kernel_rfl))
 t3:=Tryz.underlying3
 a3:=Tryz.isAgg3
 z3:=Tryz.sizeOf3
 v3:=Tryz.zeroValue3
 t4:=Tryz.underlying4
 a4:=Tryz.isAgg4
 z4:=Tryz.sizeOf4
 v4:=Tryz.zeroValue4
 t5:=Tryz.underlying5
 a5:=Tryz.isAgg5
 z5:=Tryz.sizeOf5
 v5:=Tryz.zeroValue5
 t9:=Tryz.underlying9
 a9:=Tryz.isAgg9
 z9:=Tryz.sizeOf9
 v9:=Tryz.zeroValue9
 t46:=Tryz.underlying261
 a46:=Tryz.isAgg261
 z46:=Tryz.sizeOf261
 v46:=Tryz.zeroValue261
 t51:=Tryz.underlying318
 a51:=Tryz.isAgg318
 z51:=Tryz.sizeOf318
 v51:=Tryz.zeroValue318
 t146:=Tryz.underlying319
 a146:=Tryz.isAgg319
 z146:=Tryz.sizeOf319
 v146:=Tryz.zeroValue319
 g1:=by kernel_rfl }
open Go.RowKit Go.Lib in
theorem Tryz.strings_Index_one (s:ByteArray) (c:UInt8) (w:World) :
  Calls Tryz.prog 192 #[.string s,.string ⟨#[c]⟩] w fun e w'=>e = .returned (.int .i64 (Lib.indexByte s.data.toList c))/\w'=w:=Any.strings_Index_one Tryz.lays143 s c w
def Tryz.lays99_ren:Go.Shelf.Ren:=⟨fun | 99=>112 | 206=>158 | n=>n,fun | 9=>9 | 4=>4 | 3=>3 | n=>n,fun | n=>n⟩
theorem Tryz.lays99:Go.Proofs.Lays.n99 Tryz.prog Tryz.lays99_ren:={
 mixed:=by kernel_rfl
 f99:=Tryz.func112.trans (Wu some (by kernel_rfl))
 f206:=Tryz.func158.trans (Wu some (by kernel_rfl))
 t3:=Tryz.underlying3
 a3:=Tryz.isAgg3
 z3:=Tryz.sizeOf3
 v3:=Tryz.zeroValue3
 t4:=Tryz.underlying4
 a4:=Tryz.isAgg4
 z4:=Tryz.sizeOf4
 v4:=Tryz.zeroValue4
 t9:=Tryz.underlying9
 a9:=Tryz.isAgg9
 z9:=Tryz.sizeOf9
 v9:=Tryz.zeroValue9 }
open Go.RowKit Go.Lib in
theorem Tryz.strings_HasPrefix (s p:ByteArray) (w:World) :
  Calls Tryz.prog 112 #[.string s,.string p] w fun e w'=>e = .returned (.bool (Lib.hasPrefix s.data.toList p.data.toList))/\w'=w:=Any.strings_HasPrefix Tryz.lays99 s p w
def Tryz.lays100_ren:Go.Shelf.Ren:=⟨fun | 100=>115 | 207=>160 | n=>n,fun | 9=>9 | 4=>4 | 3=>3 | n=>n,fun | n=>n⟩
theorem Tryz.lays100:Go.Proofs.Lays.n100 Tryz.prog Tryz.lays100_ren:={
 mixed:=by kernel_rfl
 f100:=Tryz.func115.trans (Wu some (by kernel_rfl))
 f207:=Tryz.func160.trans (Wu some (by kernel_rfl))
 t3:=Tryz.underlying3
 a3:=Tryz.isAgg3
 z3:=Tryz.sizeOf3
 v3:=Tryz.zeroValue3
 t4:=Tryz.underlying4
 a4:=Tryz.isAgg4
 z4:=Tryz.sizeOf4
 v4:=Tryz.zeroValue4
 t9:=Tryz.underlying9
 a9:=Tryz.isAgg9
 z9:=Tryz.sizeOf9
 v9:=Tryz.zeroValue9 }
open Go.RowKit Go.Lib in
theorem Tryz.strings_HasSuffix (s p:ByteArray) (w:World) (hs:s.size<=9223372036854775807) :
  Calls Tryz.prog 115 #[.string s,.string p] w fun e w'=>e = .returned (.bool (Lib.hasSuffix s.data.toList p.data.toList))/\w'=w:=Any.strings_HasSuffix Tryz.lays100 s p w hs
def Tryz.lays152_ren:Go.Shelf.Ren:=⟨fun | 152=>234 | 137=>145 | 119=>265 | 224=>262 | 225=>261 | 217=>174 | 266=>222 | n=>n,fun | 9=>9 | 21=>21 | 3=>3 | 4=>4 | 5=>5 | 0=>0 | 46=>261 | n=>n,fun | n=>n⟩
theorem Tryz.lays152:Go.Proofs.Lays.n152 Tryz.prog Tryz.lays152_ren:={
 mixed:=by kernel_rfl
 f119:=Tryz.func265.trans (Wu some (by kernel_rfl))
 f137:=Tryz.func145.trans (Wu some (by kernel_rfl))
 f152:=Tryz.func234.trans (Wu some (by kernel_rfl))
 f217:=Tryz.func174.trans (Wu some (by kernel_rfl))
 f224:=Tryz.func262.trans (Wu some (by kernel_rfl))
 f225:=Tryz.func261.trans (Wu some (by kernel_rfl))
 f266:=Tryz.func222.trans (Wu some (by kernel_rfl))
 t0:=Tryz.underlying0
 a0:=Tryz.isAgg0
 z0:=Tryz.sizeOf0
 v0:=Tryz.zeroValue0
 t3:=Tryz.underlying3
 a3:=Tryz.isAgg3
 z3:=Tryz.sizeOf3
 v3:=Tryz.zeroValue3
 t4:=Tryz.underlying4
 a4:=Tryz.isAgg4
 z4:=Tryz.sizeOf4
 v4:=Tryz.zeroValue4
 t5:=Tryz.underlying5
 a5:=Tryz.isAgg5
 z5:=Tryz.sizeOf5
 v5:=Tryz.zeroValue5
 t9:=Tryz.underlying9
 a9:=Tryz.isAgg9
 z9:=Tryz.sizeOf9
 v9:=Tryz.zeroValue9
 t21:=Tryz.underlying21
 a21:=Tryz.isAgg21
 z21:=Tryz.sizeOf21
 v21:=Tryz.zeroValue21
 t46:=Tryz.underlying261
 a46:=Tryz.isAgg261
 z46:=Tryz.sizeOf261
 v46:=Tryz.zeroValue261 }
open Go.RowKit Go.Lib in
theorem Tryz.strings_IndexRune_ascii (s:ByteArray) (r:Int) (w:World) (h0:0<=r) (h1:r<128) :
  Calls Tryz.prog 234 #[.string s,.int .i32 r] w fun e w'=>e = .returned (.int .i64 (Lib.indexByte s.data.toList r.toNat.toUInt8))/\w'=w:=Any.strings_IndexRune_ascii Tryz.lays152 s r w h0 h1
def Tryz.lays226_ren:Go.Shelf.Ren:=⟨fun | 226=>235 | n=>n,fun | 3=>3 | 4=>4 | n=>n,fun | n=>n⟩
theorem Tryz.lays226:Go.Proofs.Lays.n226 Tryz.prog Tryz.lays226_ren:={
 mixed:=by kernel_rfl
 f226:=Tryz.func235.trans (Wu some (by kernel_rfl))
 t3:=Tryz.underlying3
 a3:=Tryz.isAgg3
 z3:=Tryz.sizeOf3
 v3:=Tryz.zeroValue3
 t4:=Tryz.underlying4
 a4:=Tryz.isAgg4
 z4:=Tryz.sizeOf4
 v4:=Tryz.zeroValue4 }
open Go.RowKit Go.Lib in
theorem Tryz.strings_shouldUseASCIISet (n:Int) (w:World) :
  Calls Tryz.prog 235 #[.int .i64 n] w fun e w'=>e = .returned (.bool (decide (8<n)))/\w'=w:=Any.strings_shouldUseASCIISet Tryz.lays226 n w
def Tryz.lays153_ren:Go.Shelf.Ren:=⟨fun | 153=>202 | 152=>234 | 226=>235 | 227=>194 | 228=>229 | 137=>145 | 119=>265 | 224=>262 | 225=>261 | 217=>174 | 266=>222 | n=>n,fun | 9=>9 | 3=>3 | 4=>4 | 5=>5 | 21=>21 | 117=>255 | 116=>254 | 0=>0 | 46=>261 | 124=>258 | n=>n,fun | n=>n⟩
theorem Tryz.lays153:Go.Proofs.Lays.n153 Tryz.prog Tryz.lays153_ren:={
 mixed:=by kernel_rfl
 f119:=Tryz.func265.trans (Wu some (by kernel_rfl))
 f137:=Tryz.func145.trans (Wu some (by kernel_rfl))
 f152:=Tryz.func234.trans (Wu some (by kernel_rfl))
 f153:=Tryz.func202.trans (Wu some (by kernel_rfl))
 f217:=Tryz.func174.trans (Wu some (by kernel_rfl))
 f224:=Tryz.func262.trans (Wu some (by kernel_rfl))
 f225:=Tryz.func261.trans (Wu some (by kernel_rfl))
 f226:=Tryz.func235.trans (Wu some (by kernel_rfl))
 f227:=Tryz.func194.trans (Wu some (by kernel_rfl))
 f228:=Tryz.func229.trans (Wu some (by kernel_rfl))
 f266:=Tryz.func222.trans (Wu some (by kernel_rfl))
 t0:=Tryz.underlying0
 a0:=Tryz.isAgg0
 z0:=Tryz.sizeOf0
 v0:=Tryz.zeroValue0
 t3:=Tryz.underlying3
 a3:=Tryz.isAgg3
 z3:=Tryz.sizeOf3
 v3:=Tryz.zeroValue3
 t4:=Tryz.underlying4
 a4:=Tryz.isAgg4
 z4:=Tryz.sizeOf4
 v4:=Tryz.zeroValue4
 t5:=Tryz.underlying5
 a5:=Tryz.isAgg5
 z5:=Tryz.sizeOf5
 v5:=Tryz.zeroValue5
 t9:=Tryz.underlying9
 a9:=Tryz.isAgg9
 z9:=Tryz.sizeOf9
 v9:=Tryz.zeroValue9
 t21:=Tryz.underlying21
 a21:=Tryz.isAgg21
 z21:=Tryz.sizeOf21
 v21:=Tryz.zeroValue21
 t46:=Tryz.underlying261
 a46:=Tryz.isAgg261
 z46:=Tryz.sizeOf261
 v46:=Tryz.zeroValue261
 t116:=Tryz.underlying254
 a116:=Tryz.isAgg254
 z116:=Tryz.sizeOf254
 t117:=Tryz.underlying255
 a117:=Tryz.isAgg255
 z117:=Tryz.sizeOf255
 v117:=Tryz.zeroValue255
 t124:=Tryz.underlying258
 a124:=Tryz.isAgg258
 z124:=Tryz.sizeOf258
 v124:=Tryz.zeroValue258 }
open Go.RowKit Go.Lib in
theorem Tryz.strings_IndexAny_long (hv116:∀ w,(zeroValue 254).run Tryz.prog w = .ok (.agg (Array.replicate 256 (.bool false))) w) (s chars:ByteArray) (w:World) (h2:2<=chars.size) (h8:8<s.size) (hs:s.size<4294967281) (hcs:chars.size<4294967281) (hascii:∀ (j:Nat) b,chars.data.toList[j]?=some b->b.toNat<128) :
  Calls Tryz.prog 202 #[.string s,.string chars] w fun e w'=>e = .returned (.int .i64 (Lib.indexAny s.data.toList chars.data.toList))/\w'=((w.alloc (.cells (Lib.setCells chars.data.toList) 254)).alloc (.cells (Lib.setCells chars.data.toList) 254)):=Any.strings_IndexAny_long Tryz.lays153 hv116 (by kernel_rfl) s chars w h2 h8 hs hcs hascii
end Go.Proofs
end
namespace Go.Proofs.YtnpdbhbmakdklaaGreatDoor.Vcg
variable {f:FuncId} {args r cs vs ds vs1 fargs:List C} {n off b q i k u b1 j cap e s1 size by':Nat} {l:Lz} {a:Int} {ps:List (Nat×C)} {KS:St->Prop} {L:Lay} {H:List HU} {rest:List Oper} {dst:Option Tmp} {op:BinOp} {ty t2:TypeId} {pos:String} {af:Array Edge} {g:Option (Nat×Bool)} {fr:Fr} {us:List Operand} {kd:LK} {z1 z2:Option (List Value)} {fn:Fn} {lo hi mx:Option Int} {k2:IntKind} {v:Value} {lk:List LK} {fp fo:Nat->Option Nat} {place:Nat->Option (Nat×Nat)} {xs:List zn} {ks1:MK} {fbx:List (List C)} {post:C->List (List C)->Nat->Prop} {code:Code}
section
open CA CB
open Go.RowKit
section
variable {G:zu}
theorem jn (f:FsV) (n:Int) (hl:f.xs.length<=100000) (hR:zW f.xs):Fun Tryz.prog G 100 [.agg (fsC f),.sc (.int .i64 n)] (.tup [.agg (JS (zf n f.xs)),.sc (.bool (zl n f.xs))]) 0:=by
 refine fon Tryz.func100 ?_;dsimp only[Tryz.f100];push_cast;refine cl (zhr f n hl hR) ?_;push_cast;cases hh:zl n f.xs with
 | false =>
  have hg:zf n f.xs=vU:=by unfold zf;rw[N3 hh];rfl
  push_cast [hh];exact dn (by push_cast [ze,zd,CLe,zh,hg,vU])
 | true =>
  obtain ⟨hlt,hg⟩:=Mb hR hh;have hg:zf n f.xs=f.xs[jE n f.xs]:=by unfold zf;rw[hg];rfl
  have hat:=jb f.xs _ hlt;push_cast [hh,hat]
  (try simp only[lS]);repeat refine an ?_
  exact dn (by push_cast [ze,zd,CLe,zh,hg])
theorem qc:∀ r∈zr xs,r.length=6:=fun r hr=>by
 obtain ⟨x,_,rfl⟩:=WV.1 hr;rfl
theorem zA:ju (zr xs):=fun r hr=>by
 obtain ⟨x,_,rfl⟩:=WV.1 hr;rfl
theorem Hw (f:FsV) (x:zn) (hl:f.xs.length<=90000) (hR:zW f.xs) :
  Fun Tryz.prog G 271 [.agg (fsC f),.agg (JS x)] (.agg [.sc (.int .i64 f.maxI),.sc (.int .i64 f.maxB),.sc (.int .i64 f.next),.own 0 64 6 (zr (qd x f.xs))]) 1:=by
 have hll:(zr f.xs).length=f.xs.length:=We ..;refine foF (fun _=>[]) Tryz.func271 ?_;dsimp only[Tryz.f271];push_cast;refine cl (zhr f x.ino (by omega) hR) ?_;push_cast;refine jI [] [] (Ua (zr f.xs) qc zA (by omega)) rfl (by decide) (by decide) (by simp) (by push_cast) (by push_cast) (fun r bx' m hp=>?_);obtain ⟨rfl,⟨hne,c,h1,h2,rfl,rfl⟩ | ⟨he,⟨rfl,rfl⟩ | ⟨rfl,rfl⟩⟩⟩:=hp
 ·have hbl:=JX qc h1;have hre:∀ fp fo,C.reL fp fo (qF 6 (zr f.xs) c)=qF 6 (zr f.xs) c:=fun fp fo=>zF (zH zA);have hpos:=WI.2 hne;cases hh:zl x.ino f.xs with
  | true =>
   obtain ⟨hlt,_⟩:=Mb hR hh;have hst:=zbN (c:=c) (rows:=zr f.xs) (row:=JS x) (i:=jE x.ino f.xs) qc rfl (by omega);have hset:zr (qd x f.xs)=(zr f.xs).set (jE x.ino f.xs) (JS x):=by rw[←vY hR hh];simp[List.map_set]
   push_cast [hh,hre,hst];refine ⟨by omega,by omega,by rw[hbl];omega,[(4,64,6,(zr f.xs).set (jE x.ino f.xs) (JS x),c)],[.inl 0],?_,rfl,rfl,by push_cast [ze,zd,CLe,zh,hset,Bx]⟩;rw[←hset];refine zC (by rw[hset];rfl) (by omega) (by rw[hset,Bx];exact h1) h2 qc zA
  | false =>
   have hset:zr (qd x f.xs)=(zr f.xs).take (jE x.ino f.xs)++JS x :: (zr f.xs).drop (jE x.ino f.xs):=by rw[←ug hR hh];simp
   have hrl:=zfT x.ino f.xs;have hsl:(zr (qd x f.xs)).length=(zr f.xs).length+1:=by rw[hset];simp;omega
   push_cast [hh,hre];refine jI [4] [0] (UU (e:=64) (zr f.xs) (JS x) (jE x.ino f.xs) c qc rfl zA rfl (by omega) (by omega) h1 h2) rfl (by decide) (by decide) (by simp) (by push_cast) (by push_cast [hre]) (fun r bx' m hp=>?_);rw[←hset]at hp;have hre2:∀ fp fo c,C.reL fp fo (qF 6 (zr (qd x f.xs)) c)=qF 6 (zr (qd x f.xs)) c:=fun fp fo c=>zF (zH zA);obtain ⟨rfl,c',g1,g2,⟨rfl,rfl⟩ | ⟨rfl,rfl⟩⟩:=hp
   ·push_cast [hre2,hre];exact ⟨[(4,64,6,zr (qd x f.xs),c')],[.inl 1],zC rfl (by omega) g1 g2 qc zA,rfl,rfl,by push_cast [ze,zd,CLe,zh]⟩
   ·have hra:∀ fp fo,C.reL fp fo (List.replicate (c*6) .any)=List.replicate (c*6) .any:=fun fp fo=>zF (by simp[OL,C.stayB]);push_cast [hre2,hre,hra];exact ⟨[(5,64,6,zr (qd x f.xs),c')],[.inl 1],zC rfl (by omega) g1 g2 qc zA,rfl,rfl,by push_cast [ze,zd,CLe,zh]⟩
 ·have he:f.xs = []:=by simpa using he
  have hh:zl x.ino f.xs=false:=by rw[he];rfl
  have hr0:jE x.ino f.xs=0:=by rw[he];rfl
  have hset:qd x f.xs = [x]:=by rw[he];rfl
  push_cast [hh,hr0];refine jI [] [0] (zaM (e:=64) (JS x) rfl rfl) rfl (by decide) (by decide) (by simp) (by push_cast) (by push_cast) (fun r bx' m hp=>?_);obtain ⟨rfl,c,g1,g2,rfl,rfl⟩:=hp;have hre:∀ fp fo,C.reL fp fo (qF 6 [JS x] c)=qF 6 [JS x] c:=fun fp fo=>zF (zH (zA (xs:=[x])));push_cast [hre];exact ⟨[(3,64,6,zr [x],c)],[.inl 1],zC rfl (by omega) g1 g2 qc zA,rfl,rfl,by push_cast [ze,zd,CLe,zh,hset]⟩
 ·have he:f.xs = []:=by simpa using he
  have hh:zl x.ino f.xs=false:=by rw[he];rfl
  have hr0:jE x.ino f.xs=0:=by rw[he];rfl
  have hset:qd x f.xs = [x]:=by rw[he];rfl
  push_cast [hh,hr0];refine jI [3] [0] (UU (e:=64) [] (JS x) 0 0 (fun r hr=>by cases hr) rfl (fun r hr=>by cases hr) rfl (by simp) (by simp) (by simp) (by simp)) rfl (by decide) (by decide) (by simp) (by push_cast) (by push_cast [qF]) (fun r bx' m hp=>?_);obtain ⟨rfl,c,g1,g2,hp⟩:=hp;have hre:∀ fp fo,C.reL fp fo (qF 6 [JS x] c)=qF 6 [JS x] c:=fun fp fo=>zF (zH (zA (xs:=[x])));rcases hp with ⟨rfl,rfl⟩ | ⟨rfl,rfl⟩
  ·push_cast [hre];exact ⟨[(3,64,6,zr [x],c)],[.inl 1],zC rfl (WM (AV _) g1) g1 g2 qc zA,rfl,rfl,by push_cast [ze,zd,CLe,zh,hset]⟩
  ·push_cast [hre];exact ⟨[(4,64,6,zr [x],c)],[.inl 1],zC rfl (WM (AV _) g1) g1 g2 qc zA,rfl,rfl,by push_cast [ze,zd,CLe,zh,hset]⟩
theorem zlf (f:FsV) (n:Int) (hl:f.xs.length<=90000) (hR:zW f.xs) (h0:f.xs≠[]) :
  Fun Tryz.prog G 275 [.agg (fsC f),.sc (.int .i64 n)] (.agg [.sc (.int .i64 f.maxI),.sc (.int .i64 f.maxB),.sc (.int .i64 f.next),.own 0 64 6 (zr (zY n f.xs))]) 1:=by
 have hll:(zr f.xs).length=f.xs.length:=We ..;refine foF (fun _=>[]) Tryz.func275 ?_;dsimp only[Tryz.f275];push_cast;refine cl (zhr f n (by omega) hR) ?_;push_cast;refine jI [] [] (Ua (zr f.xs) qc zA (by omega)) rfl (by decide) (by decide) (by simp) (by push_cast) (by push_cast) (fun r bx' m hp=>?_);obtain ⟨rfl,⟨hne,c,h1,h2,rfl,rfl⟩ | ⟨he,_⟩⟩:=hp
 ·have hre:∀ fp fo,C.reL fp fo (qF 6 (zr f.xs) c)=qF 6 (zr f.xs) c:=fun fp fo=>zF (zH zA);have hpos:=WI.2 hne;cases hh:zl n f.xs with
  | true =>
   obtain ⟨hlt,_⟩:=Mb hR hh;have hset:zr (zY n f.xs)=(zr f.xs).take (jE n f.xs)++(zr f.xs).drop (jE n f.xs+1):=by rw[←zbj hR hh];simp
   have hsl:(zr (zY n f.xs)).length=(zr f.xs).length-1:=by rw[hset];simp;omega
   have hd:=zjb (G:=G) (zr f.xs) (jE n f.xs) c qc zA (by omega) (by omega) h1 h2;rw[←hset,←hsl]at hd;have hre2:∀ fp fo,C.reL fp fo (qF 6 (zr (zY n f.xs)) c)=qF 6 (zr (zY n f.xs)) c:=fun fp fo=>zF (zH zA);push_cast [hh,hre]
   (try simp only[lS]);repeat refine an ?_
   rw[hll]at hd;refine VS [3] [] hd rfl (by decide) (by decide) (by simp) (by push_cast) (by push_cast [hre]) ?_;push_cast [hre,hre2];exact ⟨[(3,64,6,zr (zY n f.xs),c)],[.inl 0],zC rfl (by omega) (by omega) h2 qc zA,rfl,rfl,by push_cast [ze,zd,CLe,zh]⟩
  | false =>
   push_cast [hh,hre];exact ⟨[(3,64,6,zr f.xs,c)],[.inl 0],zC rfl (by omega) h1 h2 qc zA,rfl,rfl,by push_cast [ze,zd,CLe,zh,Q4 hh]⟩
 ·exact absurd (by simpa using he) h0
theorem zj7 {R:Env} {L:Loc} {id:Nat} (h:Rep R L (.own id e 6 [[.sc (.int .i64 1),.sc (.int .i64 2),.sc (.int .i64 0),.str [],.sc (.int .i64 1),.sc (.slice none 0 0)]]) v):Rep R L (.own id e 6 (zr [⟨1,2,0,[],1,[]⟩])) v:=
 zde (by simp[RLe,zh,CLe]) h
theorem QF {α:Type} {a b:List α} (ha:i<a.length) (hb:i<b.length) (h:a.take i=b.take i):(a.take (i+1)=b.take (i+1))↔a[i]=b[i]:=by
 rw[WQ,WQ,h,List.append_right_inj,Wa ha,Wa hb];simp
theorem zrt (a b:zN):(decide (a.name=b.name)&&decide (a.ino=b.ino))=decide (a=b):=by
 cases a;cases b;simp
theorem zrp (a b:zn):a=b↔a.ino=b.ino/\a.kind=b.kind/\a.links=b.links/\a.data=b.data/\a.parent=b.parent/\a.es=b.es:=by
 cases a;cases b;simp
theorem zsI (a b:FsV):a=b↔a.maxI=b.maxI/\a.maxB=b.maxB/\a.next=b.next/\a.xs=b.xs:=by
 cases a;cases b;simp
end
end
section
open CA CB
open Go.RowKit
section
variable {G:zu}
theorem MY (a b:List zN) (ha:a.length<=9223372036854775807):Fun Tryz.prog G 138 [.sl 2 (zJ a),.sl 2 (zJ b)] (.sc (.bool (decide (a=b)))) 0:=by
 refine fon Tryz.func138 ?_;dsimp only[Tryz.f138];have hla:(zJ a).length=a.length:=We ..;have hlb:(zJ b).length=b.length:=We ..;by_cases hab:a.length=b.length
 ·push_cast [hla,hlb,hab];refine loop (fun i:Nat=>⟨[(0,.sl 2 (zJ a)),(1,.sl 2 (zJ b)),(5,.sc (.int .i64 i))],[],0,0⟩) (fun i=>i<=b.length/\a.take i=b.take i) (fun i=>b.length-i) 0 ⟨Wb _,rfl⟩ ?_ ?_
  ·exact wk
  ·rintro i ⟨h1,h2⟩;by_cases h:i<b.length
   ·have g1:=Jk a i (by omega);have g2:=Jk b i h;push_cast [hla,hab,h,g1,g2]
    repeat refine an ?_
    have hd:=zrt a[i] b[i];by_cases he:a[i]=b[i]
    ·have hd:(decide (a[i].name=b[i].name)&&decide (a[i].ino=b[i].ino))=true:=by rw[hd,Wm he]
     push_cast [hd]
     repeat refine an ?_
     exact ⟨i+1,⟨h,(QF (by omega) h h2).2 he⟩,by omega,wk⟩
    ·have hd:(decide (a[i].name=b[i].name)&&decide (a[i].ino=b[i].ino))=false:=by rw[hd,Wj he]
     push_cast [hd];have:a≠b:=fun h=>he (by subst h;rfl);exact dn (by push_cast [ze,zd,CLe,zh,this])
   ·push_cast [hla,hab,h];have:a=b:=by rw[←Wf (l:=a) (i:=i) (by omega),h2,Wf (by omega)]
    exact dn (by push_cast [ze,zd,CLe,zh,this])
 ·push_cast [hla,hlb,hab];have:a≠b:=fun h=>hab (by rw[h]);exact dn (by push_cast [ze,zd,CLe,zh,this])
theorem zph (x y:zn) (hx:x.es.length<=9223372036854775807):Fun Tryz.prog G 84 [.agg (JS x),.agg (JS y)] (.sc (.bool (decide (x=y)))) 0:=by
 refine fon Tryz.func84 ?_;dsimp only[Tryz.f84];by_cases e0:x.ino=y.ino
 case neg =>
  have hn:¬x=y:=fun h=>e0 (by rw[h]);push_cast [e0];exact dn (by push_cast [ze,zd,CLe,zh,hn])
 by_cases e1:x.kind=y.kind
 case neg =>
  have hn:¬x=y:=fun h=>e1 (by rw[h]);push_cast [e0,e1];exact dn (by push_cast [ze,zd,CLe,zh,hn])
 by_cases e2:x.links=y.links
 case neg =>
  have hn:¬x=y:=fun h=>e2 (by rw[h]);push_cast [e0,e1,e2];exact dn (by push_cast [ze,zd,CLe,zh,hn])
 by_cases e3:x.data=y.data
 case neg =>
  have hn:¬x=y:=fun h=>e3 (by rw[h]);push_cast [e0,e1,e2,e3];exact dn (by push_cast [ze,zd,CLe,zh,hn])
 by_cases e4:x.parent=y.parent
 case neg =>
  have hn:¬x=y:=fun h=>e4 (by rw[h]);push_cast [e0,e1,e2,e3,e4];exact dn (by push_cast [ze,zd,CLe,zh,hn])
 by_cases e5:x.es=y.es
 case neg =>
  have hn:¬x=y:=fun h=>e5 (by rw[h]);push_cast [e0,e1,e2,e3,e4];refine cl (MY x.es y.es hx) ?_;push_cast [e5,hn];exact dn (by push_cast [ze,zd,CLe,zh,hn])
 have hn:x=y:=(zrp x y).2 ⟨e0,e1,e2,e3,e4,e5⟩;push_cast [e0,e1,e2,e3,e4];refine cl (MY x.es y.es hx) ?_;push_cast [e5];exact dn (by push_cast [ze,zd,CLe,zh,hn])
theorem NC (a b:List zn) (ha:a.length<=100000) (he:∀ x∈a,x.es.length<=9223372036854775807):Fun Tryz.prog G 45 [.sl 6 (zr a),.sl 6 (zr b)] (.sc (.bool (decide (a=b)))) 0:=by
 refine fon Tryz.func45 ?_;dsimp only[Tryz.f45];have hla:(zr a).length=a.length:=We ..;have hlb:(zr b).length=b.length:=We ..;by_cases hab:a.length=b.length
 ·push_cast [hla,hlb,hab];refine loop (fun i:Nat=>⟨[(0,.sl 6 (zr a)),(1,.sl 6 (zr b)),(5,.sc (.int .i64 i))],[],0,0⟩) (fun i=>i<=b.length/\a.take i=b.take i) (fun i=>b.length-i) 0 ⟨Wb _,rfl⟩ ?_ ?_
  ·exact wk
  ·rintro i ⟨h1,h2⟩;by_cases h:i<b.length
   ·have g1:=jb a i (by omega);have g2:=jb b i h;push_cast [hla,hab,h,g1,g2]
    repeat refine an ?_
    refine cl (zph a[i] b[i] (he _ (Ww _))) ?_;push_cast;by_cases he:a[i]=b[i]
    ·push_cast [Wm he]
     repeat refine an ?_
     exact ⟨i+1,⟨h,(QF (by omega) h h2).2 he⟩,by omega,wk⟩
    ·push_cast [Wj he];have:a≠b:=fun h=>he (by subst h;rfl);exact dn (by push_cast [ze,zd,CLe,zh,this])
   ·push_cast [hla,hab,h];have:a=b:=by rw[←Wf (l:=a) (i:=i) (by omega),h2,Wf (by omega)]
    exact dn (by push_cast [ze,zd,CLe,zh,this])
 ·push_cast [hla,hlb,hab];have:a≠b:=fun h=>hab (by rw[h]);exact dn (by push_cast [ze,zd,CLe,zh,this])
theorem zeZ (x y:FsV) (ha:x.xs.length<=100000) (he:∀ z∈x.xs,z.es.length<=9223372036854775807):Fun Tryz.prog G 15 [.agg (fsC x),.agg (fsC y)] (.sc (.bool (decide (x=y)))) 0:=by
 refine fon Tryz.func15 ?_;dsimp only[Tryz.f15];by_cases e0:x.maxI=y.maxI
 case neg =>
  have hn:¬x=y:=fun h=>e0 (by rw[h]);push_cast [e0];exact dn (by push_cast [ze,zd,CLe,zh,hn])
 by_cases e1:x.maxB=y.maxB
 case neg =>
  have hn:¬x=y:=fun h=>e1 (by rw[h]);push_cast [e0,e1];exact dn (by push_cast [ze,zd,CLe,zh,hn])
 by_cases e2:x.next=y.next
 case neg =>
  have hn:¬x=y:=fun h=>e2 (by rw[h]);push_cast [e0,e1,e2];exact dn (by push_cast [ze,zd,CLe,zh,hn])
 by_cases e3:x.xs=y.xs
 case neg =>
  have hn:¬x=y:=fun h=>e3 (by rw[h]);push_cast [e0,e1,e2];refine cl (NC x.xs y.xs ha he) ?_;push_cast [e3,hn];exact dn (by push_cast [ze,zd,CLe,zh,hn])
 have hn:x=y:=(zsI x y).2 ⟨e0,e1,e2,e3⟩;push_cast [e0,e1,e2];refine cl (NC x.xs y.xs ha he) ?_;push_cast [e3];exact dn (by push_cast [ze,zd,CLe,zh,hn])
theorem zcW (hi:i<xs.length) (h0:0<i):zW (xs.take (i+1))↔zW (xs.take i)/\xs[i-1].ino<xs[i].ino:=by
 rw[WQ,Wa hi];unfold zW;rw[AP];simp only[Option.toList_some,BD,true_and,W0,forall_eq];constructor
 ·rintro ⟨h1,h2⟩;exact ⟨h1,h2 _ (AE.2 ⟨i-1,by omega,rfl⟩)⟩
 ·rintro ⟨h1,h2⟩;refine ⟨h1,fun a ha=>?_⟩;obtain ⟨j,hj,rfl⟩:=AE.1 ha;rcases Wr j (i-1) with q | q
  ·have:=(WR.1 h1) j (i-1) (by simp;omega) (by simp;omega) q;simp at this;omega
  ·have:j=i-1:=by omega
   subst this;exact h2
instance (xs:List zn):Decidable (zW xs):=by unfold zW;infer_instance
theorem U5 (f:FsV) (hl:f.xs.length<=100000):Fun Tryz.prog G 108 [.agg (fsC f)] (.sc (.bool (decide (zW f.xs)))) 0:=by
 have hll:(zr f.xs).length=f.xs.length:=We ..;refine fon Tryz.func108 ?_;dsimp only[Tryz.f108];push_cast;refine loop (fun i:Nat=>⟨[(1,.ptr 0 0),(3,.sc (.int .i64 i))],[fsC f],0,0⟩) (fun i=>1<=i/\zW (f.xs.take i)) (fun i=>f.xs.length-i) 1 ⟨Wc _,by
  cases f.xs with
  | nil=>exact List.Pairwise.nil
  | cons x r=>exact BD _ _⟩ ?_ ?_
 ·exact wk
 ·rintro i ⟨h1,h2⟩;by_cases h:i<f.xs.length
  ·have g1:=jb f.xs i h;have g2:=jb f.xs (i-1) (by omega);have e1:(i:Int)-1=((i-1:Nat):Int):=by omega
   push_cast [hll,h,e1,g1,g2];by_cases hc:f.xs[i].ino<=f.xs[i-1].ino
   ·push_cast [hc]
    repeat refine an ?_
    have hn:¬zW f.xs:=fun hR=>by
     have:=(WR.1 hR) (i-1) i (by omega) h (by omega);omega
    exact dn (by push_cast [ze,zd,CLe,zh,hn])
   ·push_cast [hc]
    repeat refine an ?_
    exact ⟨i+1,⟨by omega,(zcW h (by omega)).2 ⟨h2,by omega⟩⟩,by omega,wk⟩
  ·push_cast [hll,h];rw[Wf (by omega)]at h2;exact dn (by push_cast [ze,zd,CLe,zh,h2])
def xc (x:zn):Prop:=x.data.length<=5000/\x.es.length<=40/\∀ e∈x.es,e.name.length<=300
instance (x:zn):Decidable (xc x):=by unfold xc;infer_instance
def Gg (xs:List zn):Prop:=xs.length<=40/\∀ x∈xs,xc x
instance (xs:List zn):Decidable (Gg xs):=by unfold Gg;infer_instance
structure FsS (f:FsV):Prop where
 len:f.xs.length<=10000
 node:∀ x∈f.xs,x.es.length<=10000/\x.data.length<=10000/\∀ e∈x.es,e.name.length<=10000
theorem Gg.fs {f:FsV} (h:Gg f.xs):FsS f:=⟨by have:=h.1;omega,fun x hx=>by
 obtain ⟨h1,h2,h3⟩:=h.2 x hx;exact ⟨by omega,by omega,fun e he=>by have:=h3 e he;omega⟩⟩
theorem zby (f:FsV):Fun Tryz.prog G 105 [.agg (fsC f)] (.sc (.bool (decide (Gg f.xs)))) 0:=by
 have hll:(zr f.xs).length=f.xs.length:=We ..;refine fon Tryz.func105 ?_;dsimp only[Tryz.f105];push_cast;refine loop (fun i:Nat=>⟨[(1,.ptr 0 0),(3,.sc (.int .i64 i))],[fsC f],0,0⟩) (fun i=>i<=100/\∀ t (h:t<f.xs.length),t<i->xc f.xs[t]) (fun i=>100-i) 0 ⟨Wb _,fun t h h'=>absurd h' (Oo _)⟩ ?_ ?_
 ·exact wk
 ·rintro i ⟨h1,h2⟩;have hend:¬(i<f.xs.length/\i<100)->decide ((f.xs.length:Int)<=40)=decide (Gg f.xs):=fun h=>by
   rw[AW];constructor
   ·intro hle;refine ⟨by omega,fun x hx=>?_⟩;obtain ⟨t,ht,rfl⟩:=Wt hx;exact h2 t ht (by omega)
   ·intro h;have:=h.1;omega
  by_cases h:i<f.xs.length
  ·by_cases h100:i<100
   ·have g1:=jb f.xs i h;have h100':(i:Int)<100:=by omega
    have hbad:¬xc f.xs[i]->¬Gg f.xs:=fun hs hf=>hs (hf.2 _ (Ww h));by_cases hd:5000<(f.xs[i].data.length:Int)
    ·have hn:=hbad fun hs=>by have:=hs.1;omega
     push_cast [hll,h,h100',g1,hd]
     repeat refine an ?_
     exact dn (by push_cast [ze,zd,CLe,zh,hn])
    ·by_cases he:40<(f.xs[i].es.length:Int)
     ·have hn:=hbad fun hs=>by have:=hs.2.1;omega
      push_cast [hll,h,h100',g1,hd,We,he]
      repeat refine an ?_
      exact dn (by push_cast [ze,zd,CLe,zh,hn])
     ·push_cast [hll,h,h100',g1,hd,We,he]
      repeat refine an ?_
      refine loop (fun j:Nat=>⟨[(1,.ptr 0 0),(3,.sc (.int .i64 i)),(4,.ptr 1 0),(5,.sc (.int .i64 j))],[fsC f,JS f.xs[i]],0,0⟩) (fun j=>j<=f.xs[i].es.length/\∀ t (h':t<f.xs[i].es.length),t<j->f.xs[i].es[t].name.length<=300) (fun j=>f.xs[i].es.length-j) 0 ⟨Wb _,fun t h h'=>absurd h' (Oo _)⟩ ?_ ?_
      ·exact wk
      ·rintro j ⟨h3,h4⟩;by_cases hj:j<f.xs[i].es.length
       ·have g2:=Jk f.xs[i].es j hj;by_cases hs:300<(f.xs[i].es[j].name.length:Int)
        ·have hn:=hbad fun hs'=>by have:=hs'.2.2 _ (Ww hj);omega
         push_cast [We,hj,g2,hs]
         repeat refine an ?_
         exact dn (by push_cast [ze,zd,CLe,zh,hn])
        ·push_cast [We,hj,g2,hs]
         repeat refine an ?_
         refine ⟨j+1,⟨hj,fun t ht hlt=>?_⟩,by omega,wk⟩;rcases Wr t j with q | q
         ·exact h4 t ht q
         ·have:t=j:=by omega
          subst this;omega
       ·push_cast [We,hj]
        repeat refine an ?_
        refine ⟨i+1,⟨by omega,fun t ht hlt=>?_⟩,by omega,wk⟩;rcases Wr t i with q | q
        ·exact h2 t ht q
        ·have:t=i:=by omega
         subst this;refine ⟨by omega,by omega,fun e hee=>?_⟩;obtain ⟨u,hu,rfl⟩:=Wt hee;exact h4 u hu (by omega)
   ·have h100':((i:Int)<100)=False:=Wy (by omega);have:=hend (by omega);push_cast [hll,h,h100'];exact dn (by push_cast [ze,zd,CLe,zh,this])
  ·have:=hend (by omega);push_cast [hll,h];exact dn (by push_cast [ze,zd,CLe,zh,this])
theorem Hi (f:FsV) (n:Int) (hl:f.xs.length<=90000) :
  Fun Tryz.prog G 104 [.agg (fsC f),.sc (.int .i64 n)] (.agg [.sc (.int .i64 f.maxI),.sc (.int .i64 f.maxB),.sc (.int .i64 f.next),.own 0 64 6 (zr (zY n f.xs))]) 1:=by
 have hll:(zr f.xs).length=f.xs.length:=We ..;refine fon Tryz.func104 ?_;dsimp only[Tryz.f104];push_cast;refine loop (fun i:Nat=>⟨[(1,.sc (.int .i64 n)),(2,.ptr 0 0),(4,.ptr 1 0),(5,.own 0 64 6 (zr (zY n (f.xs.take i)))),(6,.sc (.int .i64 i))],[fsC f,[.sc (.int .i64 0),.sc (.int .i64 0),.sc (.int .i64 0),.sc (.slice none 0 0)]],1,0⟩) (fun i=>i<=f.xs.length) (fun i=>f.xs.length-i) 0 (Wb _) ?_ ?_
 ·exact wks [.inr (64,6)] (by push_cast [ze,zd,CLe,zh,zY,BO])
 ·intro i h1;by_cases h:i<f.xs.length
  ·have g1:=jb f.xs i h;have ht:zY n (f.xs.take (i+1))=zY n (f.xs.take i)++zY n [f.xs[i]]:=by
    unfold zY;rw[WQ,Wa h,Oz];rfl
   have hle:(zY n (f.xs.take i)).length<=i:=WJ Ve (by simp;omega);by_cases hc:f.xs[i].ino=n
   ·have ht:zY n (f.xs.take (i+1))=zY n (f.xs.take i):=by rw[ht,Jm hc];simp[zY]
    push_cast [hll,h,g1,hc]
    repeat refine an ?_
    exact ⟨i+1,h,by omega,wks [.inl 0] (by push_cast [ze,zd,CLe,zh,ht])⟩
   ·have ht:zY n (f.xs.take (i+1))=zY n (f.xs.take i)++[f.xs[i]]:=by rw[ht,J6 hc];simp[zY]
    push_cast [hll,h,g1,hc]
    repeat refine an ?_
    exact ⟨i+1,h,by omega,wks [.inl 0] (by push_cast [ze,zd,CLe,zh,ht,WS])⟩
  ·rw[Wf (by omega)];push_cast [hll,h];exact ⟨[.inl 0],rfl,rfl,by push_cast [ze,zd,CLe,zh]⟩
theorem Jz (f:FsV) (x:zn) (hl:f.xs.length<=90000) :
  Fun Tryz.prog G 58 [.agg (fsC f),.agg (JS x)] (.agg [.sc (.int .i64 f.maxI),.sc (.int .i64 f.maxB),.sc (.int .i64 f.next),.own 0 64 6 (zr (qd x f.xs))]) 1:=by
 have hdl:(zY x.ino f.xs).length<=90000:=WJ Ve hl;have hl2:(zr (zY x.ino f.xs)).length=(zY x.ino f.xs).length:=We ..;refine fon Tryz.func58 ?_;dsimp only[Tryz.f58];push_cast;refine cl (Hi f x.ino hl) ?_;push_cast;unfold qd;generalize zY x.ino f.xs=rest at hdl hl2;refine loop (fun p:Nat×List zn×Bool=>⟨[(2,.ptr 0 0),(3,.ptr 1 0),(4,.ptr 2 0),(5,.sl 6 (zr rest)),(6,.own 0 64 6 (zr p.2.1)),(7,.sc (.bool p.2.2)),(8,.sc (.int .i64 p.1))],[fsC f,JS x,[.sc (.int .i64 0),.sc (.int .i64 0),.sc (.int .i64 0),.sc (.slice none 0 0)]],1,0⟩)
  (fun p=>p.1<=rest.length/\p.2.1.length<=p.1+p.2.2.toNat/\Z7 x rest=p.2.1++(if p.2.2 then rest.drop p.1 else Z7 x (rest.drop p.1))) (fun p=>rest.length-p.1) (0,[],false) ⟨Wb _,Wb _,by simp⟩ ?_ ?_
 ·exact wks [.inr (64,6)]
 ·rintro ⟨i,out,d⟩ ⟨h1,h2,h3⟩;dsimp only at h1 h2 h3 ⊢;have hlo:(zr out).length=out.length:=We ..;by_cases h:i<rest.length
  ·have g1:=jb rest i h;rw[Oe h]at h3;cases d with
   | true =>
    simp only[Bg]at h2;push_cast [hl2,h,g1]
    repeat refine an ?_
    exact ⟨(i+1,out++[rest[i]],true),⟨h,by simp;omega,by rw[h3];simp⟩,by dsimp only;omega,wks [.inl 0] (by push_cast [ze,zd,CLe,zh,WS])⟩
   | false =>
    simp only[WX,Oh,Z7]at h3;simp only[Ba]at h2;by_cases hc:x.ino<rest[i].ino
    ·rw[if_pos hc]at h3;push_cast [hl2,h,g1,hc]
     repeat refine an ?_
     exact ⟨(i+1,out++[x]++[rest[i]],true),⟨h,by simp;omega,by rw[h3];simp⟩,by dsimp only;omega,wks [.inl 0] (by push_cast [ze,zd,CLe,zh,WS])⟩
    ·rw[if_neg hc]at h3;push_cast [hl2,h,g1,hc]
     repeat refine an ?_
     exact ⟨(i+1,out++[rest[i]],false),⟨h,by simp;omega,by rw[h3];simp⟩,by dsimp only;omega,wks [.inl 0] (by push_cast [ze,zd,CLe,zh,WS])⟩
  ·rw[Or (by omega)]at h3;cases d with
   | true =>
    simp only[Bg]at h2;have h3:Z7 x rest=out:=by rw[h3];simp
    push_cast [hl2,h];exact ⟨[.inl 0],rfl,rfl,by push_cast [ze,zd,CLe,zh,h3]⟩
   | false =>
    simp only[Ba]at h2;have h3:Z7 x rest=out++[x]:=by rw[h3];simp[Z7]
    push_cast [hl2,h]
    repeat refine an ?_
    exact ⟨[.inl 0],rfl,rfl,by push_cast [ze,zd,CLe,zh,h3,WS]⟩
theorem ziU (i b:Int):Fun Tryz.prog G 57 [.sc (.int .i64 i),.sc (.int .i64 b)] (.agg [.sc (.int .i64 i),.sc (.int .i64 b),.sc (.int .i64 2),.own 0 64 6 (zr [⟨1,2,0,[],1,[]⟩])]) 1:=by
 refine Fun.resX (r:=.agg [.sc (.int .i64 i),.sc (.int .i64 b),.sc (.int .i64 2),.own 0 64 6 [[.sc (.int .i64 1),.sc (.int .i64 2),.sc (.int .i64 0),.str [],.sc (.int .i64 1),.sc (.slice none 0 0)]]]) ?_ fun R L v h =>
  zdL (fun vs=>Y2 (fun v h=>h) (fun vs=>Y2 (fun v h=>h) fun vs=>Y2 (fun v h=>h) fun vs=>Y2 (fun v=>zj7) fun vs h=>h)) h
 refine fon Tryz.func57 ?_;dsimp only[Tryz.f57];push_cast;exact ⟨[.inl 0],rfl,rfl,by push_cast [ze,zd,CLe,zh]⟩
end
end
section
open Go.RowKit
section
variable {G:zu}
theorem zkn {n:Int} (h:i<xs.length):zl n (xs.take (i+1))=(zl n (xs.take i)||(xs[i].ino==n)):=by
 unfold zl;rw[WQ,Wa h,By];simp
theorem zlh {n:Int} (h:i<xs.length) (h0:zl n (xs.take i)=false) (he:xs[i].ino=n):zl n xs=true/\zf n xs=xs[i]:=by
 refine ⟨Ou.2 ⟨xs[i],Ww h,by simp[he]⟩,?_⟩;unfold zf Xy;rw[A9 (b:=xs[i]) |>.2 ⟨by simp[he],i,h,rfl,fun j hj=>?_⟩]
 ·rfl
 ·unfold zl at h0;rw[W5]at h0;have:=h0 xs[j] (AE.2 ⟨j,by omega,rfl⟩);simpa using this
theorem qU (f:FsV) (n:Int) (hl:f.xs.length<=100000):Fun Tryz.prog G 30 [.agg (fsC f),.sc (.int .i64 n)] (.tup [.agg (JS (zf n f.xs)),.sc (.bool (zl n f.xs))]) 0:=by
 have hll:(zr f.xs).length=f.xs.length:=We ..;refine fon Tryz.func30 ?_;dsimp only[Tryz.f30];push_cast;refine loop (fun i:Nat=>⟨[(1,.sc (.int .i64 n)),(2,.ptr 0 0),(4,.ptr 1 0),(6,.sc (.int .i64 i))],[fsC f,[.sc (.int .i64 0),.sc (.int .i64 0),.sc (.int .i64 0),.str [],.sc (.int .i64 0),.sc (.slice none 0 0)]],0,0⟩) (fun i=>i<=f.xs.length/\zl n (f.xs.take i)=false) (fun i=>f.xs.length-i) 0 ⟨Wb _,rfl⟩ ?_ ?_
 ·exact wk
 ·rintro i ⟨h1,h2⟩;by_cases h:i<f.xs.length
  ·have g1:=jb f.xs i h;by_cases he:f.xs[i].ino=n
   ·obtain ⟨q1,q2⟩:=zlh h h2 he;push_cast [hll,h,g1,he]
    repeat refine an ?_
    exact dn (by push_cast [ze,zd,CLe,zh,q1,q2,he])
   ·have q:=zkn (n:=n) h;rw[h2,show (f.xs[i].ino==n)=false from O1.2 he]at q;push_cast [hll,h,g1,he]
    repeat refine an ?_
    exact ⟨i+1,⟨h,q⟩,by omega,wk⟩
  ·rw[Wf (by omega)]at h2;have hg:zf n f.xs=vU:=by unfold zf;rw[N3 h2];rfl
   push_cast [hll,h];exact dn (by push_cast [ze,zd,CLe,zh,hg,h2,vU])
def ql (xs:List zn):Nat:=((xs.filter fun x=>decide (x.kind=1)).map fun x=>x.data.length).sum
theorem yl:∀ {xs:List zn} {n:Nat},(∀ x∈xs,x.data.length<=n)->ql xs<=xs.length*n
 | [],n,_=>by simp[ql]
 | x :: r,n,h=>by
  have ih:=yl (xs:=r) (n:=n) fun y hy=>h y (Wl _ hy);have hx:=h x Wk;unfold ql at ih ⊢;rw[O4];split
  ·simp only[Wq,OY,Wh];rw[AT];omega
  ·rw[Wh,AT];omega
theorem FsS.bytes {f:FsV} (h:FsS f):ql f.xs<=100000000:=by
 have h1:=yl (xs:=f.xs) (n:=10000) fun x hx=>(h.node x hx).2.1;have h2:=h.len;have:f.xs.length*10000<=10000*10000:=WT _ h2;omega
theorem zcy (h:i<xs.length):ql (xs.take (i+1))=ql (xs.take i)+if xs[i].kind=1 then xs[i].data.length else 0:=by
 unfold ql;rw[WQ,Wa h,Oz,WS,BP];by_cases hk:xs[i].kind=1<;>simp[hk]
theorem yJ (f:FsV) (hf:FsS f):Fun Tryz.prog G 173 [.agg (fsC f)] (.sc (.int .i64 (ql f.xs:Nat))) 0:=by
 have hll:(zr f.xs).length=f.xs.length:=We ..;have h40:=hf.len;have hb0:ql []=0:=rfl;refine fon Tryz.func173 ?_;dsimp only[Tryz.f173];push_cast;refine loop (fun i:Nat=>⟨[(1,.ptr 0 0),(3,.sc (.int .i64 (ql (f.xs.take i):Nat))),(4,.sc (.int .i64 i))],[fsC f],0,0⟩) (fun i=>i<=f.xs.length/\ql (f.xs.take i)<=i*10000) (fun i=>f.xs.length-i) 0 ⟨Wb _,Wb _⟩ ?_ ?_
 ·exact wk (by push_cast [ze,zd,CLe,zh,hb0,OF])
 ·rintro i ⟨h1,h2⟩;by_cases h:i<f.xs.length
  ·have g1:=jb f.xs i h;have hd:=(hf.node _ (Ww h)).2.1;have q:=zcy h;by_cases hk:f.xs[i].kind=1
   ·rw[if_pos hk]at q;have q':((ql (f.xs.take (i+1)):Nat):Int)=(ql (f.xs.take i):Int)+(f.xs[i].data.length:Int):=by omega
    push_cast [hll,h,g1,hk]
    repeat refine an ?_
    exact ⟨i+1,⟨h,by omega⟩,by omega,wk (by push_cast [ze,zd,CLe,zh,q'])⟩
   ·rw[if_neg hk]at q;have q':ql (f.xs.take (i+1))=ql (f.xs.take i):=by omega
    push_cast [hll,h,g1,hk]
    repeat refine an ?_
    exact ⟨i+1,⟨h,by omega⟩,by omega,wk (by push_cast [ze,zd,CLe,zh,q'])⟩
  ·rw[Wf (by omega)];push_cast [hll,h];exact dn
end
end
section
open Go.RowKit
abbrev G0:zu:=fun _=>none
abbrev zpB (l:Lz):List C:=[.str l]
def V5 (s:List Lz×Lz) (b:UInt8):List Lz×Lz:=
 if b=47 then (if s.2 = [] then s.1 else s.1++[s.2],[]) else (s.1,s.2++[b])
def zmf (s:List Lz×Lz):List Lz:=if s.2 = [] then s.1 else s.1++[s.2]
def nst (l:Lz) (k:Nat):List Lz×Lz:=if k<=l.length then (l.take k).foldl V5 ([],[]) else (zmf (l.foldl V5 ([],[])),[])
def zp (l:Lz):List Lz:=zmf (l.foldl V5 ([],[]))
theorem zbw (l:Lz):nst l 0=([],[]):=by simp[nst]
theorem zbQ (l:Lz) (k:Nat) (b:UInt8) (h:l[k]?=some b):nst l (k+1)=V5 (nst l k) b:=by
 have hk:k<l.length:=(Wd.1 h).1;unfold nst;rw[if_pos (by omega),if_pos (by omega),WQ,h];simp
theorem zfW (l:Lz):nst l (l.length+1)=(zp l,[]):=by
 unfold nst zp;rw[if_neg (by omega)]
theorem ze8 (l:Lz):zmf (nst l l.length)=zp l:=by
 unfold nst zp;rw[if_pos (Wc _),Oi]
theorem NH (l:Lz):∀ k,k<=l.length->(nst l k).1.length+(nst l k).2.length<=k
 | 0,_=>by simp[zbw]
 | k+1,h=>by
  have hk:k<l.length:=by omega
  have ih:=NH l k (by omega);rw[zbQ l k l[k] (Wa hk)];unfold V5;by_cases h47:l[k]=47
  ·rw[if_pos h47];by_cases h2:(nst l k).2 = []
   ·simp[h2];omega
   ·have:0<(nst l k).2.length:=WI.2 h2;simp[h2];omega
  ·rw[if_neg h47];simp;omega
theorem qP (l:Lz):(zp l).length<=l.length:=by
 rw[←ze8];have:=NH l l.length (Wc _);unfold zmf;split
 ·omega
 ·rename_i h;have:0<(nst l l.length).2.length:=WI.2 h;simp;omega
theorem zjk {b c:UInt8} (h:b≠c):¬((b.toNat:Int)=(c.toNat:Int)):=fun e=>h (Am.1 (by omega))
theorem zep {α:Type} (l:List α) (k:Nat) (b:α) (h:l[k]?=some b):(l.take (k+1)).drop k = [b]:=by
 have hk:k<l.length:=(Wd.1 h).1;rw[WQ,h,List.drop_append];simp[OJ (by omega:k<=l.length)]
theorem kU (l:Lz) (h:l.length<=2000000):Fun Tryz.prog G0 52 [.str l] (.own 0 9 1 ((zp l).map zpB)) 1:=by
 refine fon Tryz.func52 ?_;dsimp only[Tryz.f52];push_cast;refine loop (fun k:Nat=>⟨[(0,.str l),(3,.own 0 9 1 ((nst l k).1.map zpB)),(4,.str (nst l k).2),(5,.sc (.int .i64 k))],[],1,0⟩) (fun k=>k<=l.length+1) (fun k=>l.length+1-k) 0 (Wb _) ?_ ?_
 ·refine JY.mk [.inr (9,1)] rfl rfl (Wc _) rfl ?_ trivial;push_cast [ze,zd,CLe,zh];simp[zbw]
 ·intro k hk;push_cast;by_cases h1:k<=l.length
  ·have hs:=NH l k h1;by_cases h2:k<l.length
   ·obtain ⟨b,hb⟩:∃ b,l[k]?=some b:=⟨l[k],Wa h2⟩;have hn:=zbQ l k b hb;by_cases h3:b=47
    ·have h3':(b.toNat:Int)=47:=by subst h3;rfl
     by_cases h4:(nst l k).2 = []
     ·push_cast [h1,h2,h3',hb,h4]
      and_intros<;>try omega
      refine ⟨k+1,by omega,by omega,JY.mk [.inl 0] rfl rfl (Wc _) rfl ?_ trivial⟩;push_cast [ze,zd,CLe,zh];simp[hn,V5,h3,h4]
     ·push_cast [h1,h2,h3',hb,h4];simp only[We,Wh,WG]
      and_intros<;>try omega
      refine ⟨k+1,by omega,by omega,JY.mk [.inl 0] rfl rfl (Wc _) rfl ?_ trivial⟩;push_cast [ze,zd,CLe,zh];simp[hn,V5,h3,h4,zpB]
    ·have h3':¬((b.toNat:Int)=47):=zjk h3;push_cast [h1,h2,h3',hb];rw[zep l k b hb]
     and_intros<;>try omega
     ·simp;omega
     refine ⟨k+1,by omega,by omega,JY.mk [.inl 0] rfl rfl (Wc _) rfl ?_ trivial⟩;push_cast [ze,zd,CLe,zh];simp[hn,V5,h3]
   ·obtain rfl:k=l.length:=by omega
    have hl:=ze8 l;have he:=zfW l;have hz:=qP l;by_cases h4:(nst l l.length).2 = []
    ·push_cast [h1,h2,h4]
     and_intros<;>try omega
     refine ⟨l.length+1,by omega,by omega,JY.mk [.inl 0] rfl rfl (Wc _) rfl ?_ trivial⟩;push_cast [ze,zd,CLe,zh];simp[he,←hl,zmf,h4]
    ·push_cast [h1,h2,h4];simp only[We,Wh,WG]
     and_intros<;>try omega
     refine ⟨l.length+1,by omega,by omega,JY.mk [.inl 0] rfl rfl (Wc _) rfl ?_ trivial⟩;push_cast [ze,zd,CLe,zh];simp[he,←hl,zmf,h4,zpB]
  ·obtain rfl:k=l.length+1:=by omega
   have he:=zfW l;push_cast [h1];exact ⟨[.inl 0],rfl,rfl,by push_cast [ze,zd,CLe,zh,he]⟩
end
section
open Go.RowKit
abbrev zV (xs:List Lz):List (List C):=xs.map zpB
theorem ur (xs:List Lz):(zV xs).length=xs.length:=We _
theorem zgy (xs:List Lz) (x:Lz):zV xs++[[.str x]]=zV (xs++[x]):=by simp
theorem strs_get? (xs:List Lz) (k:Nat):(zV xs)[k]?=(xs[k]?).map zpB:=WA
theorem zhd (xs:List Lz) (k:Nat):(zV xs).drop k=zV (xs.drop k):=List.map_drop.symm
theorem zg8 (xs:List Lz) (k:Nat):(zV xs).take k=zV (xs.take k):=List.map_take.symm
theorem y5 (xs ys:List Lz):zV xs++zV ys=zV (xs++ys):=WS.symm
theorem Zo (xs:List Lz) (k:Nat) (h:k<xs.length):(zV xs)[k]?=some [.str (xs[k]'h)]:=by rw[strs_get?,Wa h];rfl
attribute [push_cast] ur zgy zhd zg8 y5
abbrev qJ (b:Bool):C:=.sc (.bool b)
theorem zbL (a b:List Lz) (ha:a.length<=9223372036854775807):Fun Tryz.prog G0 16 [.sl 1 (zV a),.sl 1 (zV b)] (qJ (decide (a=b))) 0:=by
 by_cases hl:a.length=b.length
 ·refine fon Tryz.func16 ?_;dsimp only[Tryz.f16];push_cast [hl];refine loop (fun k:Nat=>⟨[(0,.sl 1 (zV a)),(1,.sl 1 (zV b)),(5,.sc (.int .i64 k))],[],0,0⟩) (fun k=>k<=a.length/\a.take k=b.take k) (fun k=>a.length-k) 0 ⟨Wb _,rfl⟩ ?_ ?_
  ·exact wk
  ·intro k hk;have hk1:=hk.1;have hk2:=hk.2;by_cases h:k<a.length
   ·have hga:=Zo a k h;have hgb:=Zo b k (by omega);by_cases he:a[k]'h=b[k]'(by omega)
    ·push_cast [h,hga,hgb,he];refine ⟨by omega,by omega,by omega,k+1,⟨by omega,?_⟩,by omega,wk⟩;rw[WQ,WQ,hk2,Wa h,Wa (by omega:k<b.length),he]
    ·push_cast [h,hga,hgb,he];refine ⟨by omega,by omega,[],rfl,rfl,?_⟩;push_cast [ze,zd,CLe,zh];have:a≠b:=fun e=>he (by subst e;rfl);simp[this]
   ·have hkl:k=a.length:=by omega
    push_cast [h];refine ⟨[],rfl,rfl,?_⟩;push_cast [ze,zd,CLe,zh];rw[hkl,Oi,hl,Oi]at hk2;simp[hk2]
 ·have hl':¬((a.length:Int)=(b.length:Int)):=by omega
  refine fon Tryz.func16 ?_;dsimp only[Tryz.f16];push_cast [hl];refine ⟨[],rfl,rfl,?_⟩;push_cast [ze,zd,CLe,zh];have:a≠b:=fun e=>hl (by rw[e]);simp[this]
def few (l:List Lz):Bool:=(l.take 100).all (fun x=>decide (x.length<=300))&&decide (l.length<=40)
end
section
open Go.RowKit
theorem Fun.wrap {P:Program} {G:zu} {r:C} (he:Y9 P f=true)
  (h:∀ (R:Env) (vs:List Value),zy R zP args vs->Calls P f vs.toArray R.w fun e w'=>∃ v,e = .returned v/\Below R.w.heap.size R.w w'/\∀ R',Ext R R'->Rep R' zP r v):Fun P G f args r 0:=by
 refine ⟨he,fun R vs hg ha=>(h R vs ha).mono ?_⟩;rintro e w' ⟨v,rfl,hb,hr⟩;have st:qH 0 0 R zP ⟨w',fun b o=>b<R.w.heap.size/\R.M b o,R.F⟩ zP:=qH.mem (nx:=0) hb;exact ⟨v,_,zP,rfl,rfl,st,hr _ st.ext⟩
def Jr:Lz->List Lz
 | []=>[[]]
 | b :: l=>if b=47 then [] :: Jr l else match Jr l with
  | []=>[[b]]
  | x :: r=>(b :: x) :: r
theorem xA (l:Lz):Jr l≠[]:=by
 cases l with
 | nil=>simp[Jr]
 | cons b l =>
  unfold Jr;split
  ·simp
  ·split<;>simp
theorem Nu:∀ l:Lz,Lib.indexByte l 47<0->Jr l = [l]
 | [],_=>rfl
 | b :: l,h=>by
  unfold Lib.indexByte at h;by_cases hb:b=47
  ·subst hb;simp at h
  ·have hb':(b==47)=false:=by simpa using hb
   rw[hb']at h;simp only[WX,Oh]at h;have hl:Lib.indexByte l 47<0:=by
    split at h
    ·rename_i g;have:=OE.1 g;omega
    ·omega
   unfold Jr;rw[if_neg hb,Nu l hl]
theorem NP:∀ l:Lz,-1<=Lib.indexByte l 47
 | []=>O0 _
 | b :: l=>by
  have:=NP l;unfold Lib.indexByte;split
  ·decide
  ·split
   ·decide
   ·omega
theorem zaT:∀ (l:Lz) (i:Nat),Lib.indexByte l 47=(i:Int)->i<l.length/\Jr l=l.take i :: Jr (l.drop (i+1))
 | [],i,h=>by
  have h:(-1:Int)=(i:Int):=h;omega
 | b :: l,i,h=>by
  unfold Lib.indexByte at h;by_cases hb:b=47
  ·subst hb;simp at h;obtain rfl:i=0:=by omega
   refine ⟨by simp,?_⟩
   conv=>lhs;unfold Jr
   simp
  ·have hb':(b==47)=false:=by simpa using hb
   rw[hb']at h;simp only[WX,Oh]at h;split at h
   ·omega
   ·rename_i g;have g':Lib.indexByte l 47≠-1:=by simpa using g
    have hg:=NP l;obtain ⟨j,rfl⟩:∃ j,i=j+1:=⟨i-1,by omega⟩;have hj:Lib.indexByte l 47=(j:Int):=by omega
    obtain ⟨h1,h2⟩:=zaT l j hj;refine ⟨by simp;omega,?_⟩
    conv=>lhs;unfold Jr
    rw[if_neg hb,h2];simp
theorem HR:∀ (l:Lz) (a:List Lz) (cur:Lz),zmf (l.foldl V5 (a,cur))=a++(match Jr l with | []=>[] | x :: r=>(cur++x) :: r).filter (fun x=>!decide (x = []))
 | [],a,cur=>by
  simp only[B0,zmf,Jr];by_cases h:cur = []<;>simp[h]
 | b :: l,a,cur=>by
  simp only[Bv];by_cases hb:b=47
  ·subst hb;have hn:V5 (a,cur) 47=(if cur = [] then a else a++[cur],[]):=by simp[V5]
   rw[hn,HR l]
   conv=>rhs;unfold Jr
   simp only[if_true];have hne:=xA l;cases hs:Jr l with
   | nil=>exact absurd hs hne
   | cons x r=>by_cases h:cur = []<;>simp[h]
  ·have hn:V5 (a,cur) b=(a,cur++[b]):=by simp[V5,hb]
   rw[hn,HR l]
   conv=>rhs;unfold Jr
   rw[if_neg hb];have hne:=xA l;cases hs:Jr l with
   | nil=>exact absurd hs hne
   | cons x r=>simp
theorem YB (l:Lz):zp l=(Jr l).filter (fun x=>!decide (x = [])):=by
 unfold zp;rw[HR];cases hs:Jr l with
 | nil=>rfl
 | cons x r=>simp
theorem zeY (l:Lz):Fun Tryz.prog G0 192 [.str l,.str [47]] (.sc (.int .i64 (Lib.indexByte l 47))) 0:=by
 refine Fun.wrap (by kernel_rfl) fun R vs h=>?_;obtain ⟨v1,us1,rfl,h1,h⟩:=zi.1 h;obtain ⟨v2,us2,rfl,h2,h⟩:=zi.1 h;rw[zo]at h;subst h;rw[z7]at h1 h2;subst h1 h2;refine (Tryz.strings_Index_one ⟨l.toArray⟩ 47 R.w).mono ?_;rintro e w' ⟨rfl,rfl⟩;exact ⟨_,rfl,Oa _ _,fun R' _=>zt.2 (by simp)⟩
theorem H3 (s:Lz) (hs:s.length<=1000000):yR Tryz.prog G0 190 [] [.ptr 1 0,.ptr 0 0,.ptr 2 0] [[.str s],[.str [47]],[.sc (.int .i64 0)]] (zV (Jr s)):=by
 refine foI (fun _=>[]) Tryz.func190 ?_;dsimp only[Tryz.f190];intro l sf;push_cast;refine loop (fun x:Lz×Nat=>⟨[(0,.sc (.func (.yield l) #[] #[])),(1,.ptr 1 0),(2,.ptr 0 0),(3,.ptr 2 0)],[[.str x.1],[.str [47]],[.sc (.int .i64 0)]],0,x.2⟩)
  (fun x=>x.1.length<=1000000/\(∃ done,Jr s=done++Jr x.1/\done.length=x.2)/\∀ j,j<x.2->sf j=false) (fun x=>x.1.length) (s,0) ⟨hs,⟨[],rfl,rfl⟩,fun j hj=>by omega⟩ ?_ ?_
 ·refine JY.mk [] rfl rfl (Wb _) rfl ?_ ?_<;>push_cast [ze,zd,CLe,zh]<;>omega
 ·rintro ⟨r,k⟩ hx;simp only at hx ⊢;have hr:=hx.1;have hsf:=hx.2.2;obtain ⟨done,hd,hdl⟩:=hx.2.1;clear hx;push_cast;refine call (zeY r) ?_;push_cast;by_cases hi:Lib.indexByte r 47<0
  ·push_cast [hi];have hk:(zV (Jr s))[k]?=some [.str r]:=by
    rw[hd,Nu r hi];simp[←hdl]
   rw[hk];push_cast;refine ⟨by push_cast [ze,zd,CLe,zh],hsf,?_⟩;cases hk2:sf k with
   | true=>exact .inr ⟨A3 k,hk2⟩
   | false =>
    refine .inl ⟨?_,fun j (hj:j<k+1)=>?_⟩
    ·rw[hd,Nu r hi];simp[hdl]
    ·rcases Wr j k with g | g
     ·exact hsf j g
     ·rw[show j=k by omega];exact hk2
  ·have hg:=NP r;obtain ⟨i,hii⟩:∃ i:Nat,Lib.indexByte r 47=(i:Int):=⟨(Lib.indexByte r 47).toNat,by omega⟩;obtain ⟨hir,hsp⟩:=zaT r i hii;have hk:(zV (Jr s))[k]?=some [.str (r.take i)]:=by
    rw[hd,hsp];simp[←hdl]
   rw[hii]at hi ⊢;push_cast [hi];rw[hk];push_cast;refine ⟨by omega,by omega,by push_cast [ze,zd,CLe,zh],hsf,br (fun hk2=>?_) (fun hk2=>?_)⟩
   ·push_cast;exact .inr ⟨A3 k,hk2⟩
   ·push_cast;refine ⟨by omega,by omega,(r.drop (i+1),k+1),⟨by simp;omega,⟨done++[r.take i],by rw[hd,hsp];simp,by simp[hdl]⟩,fun j (hj:j<k+1)=>?_⟩,by simp;omega,JY.mk [] rfl rfl (Wb _) rfl ?_ ?_⟩
    ·rcases Wr j k with g | g
     ·exact hsf j g
     ·rw[show j=k by omega];exact hk2
    ·push_cast [ze,zd,CLe,zh]
    ·push_cast [ze,zd,CLe,zh]
theorem xL (s:Lz):Mw Tryz.prog G0 161 [.str s,.str [47],.sc (.int .i64 0)] [] 0 (.clo (.func 190) [] [.ptr 1 0,.ptr 0 0,.ptr 2 0]) [[.str s],[.str [47]],[.sc (.int .i64 0)]] 0:=by
 refine foB (fun _=>[]) Tryz.func161 ?_;dsimp only[Tryz.f161];push_cast;exact ⟨[],rfl,rfl,by push_cast [ze,zd,CLe,zh],by push_cast [ze,zd,CLe,zh]⟩
theorem xY (s:Lz):Mw Tryz.prog G0 119 [.str s,.str [47]] [] 0 (.clo (.func 190) [] [.ptr 1 0,.ptr 0 0,.ptr 2 0]) [[.str s],[.str [47]],[.sc (.int .i64 0)]] 0:=by
 refine foB (fun _=>[]) Tryz.func119 ?_;dsimp only[Tryz.f119];push_cast;refine VS [] [] (xL s) rfl (by simp) (by simp) (fun i hi=>by cases hi) (by push_cast) rfl ?_;push_cast;exact ⟨[],rfl,rfl,by push_cast [ze,zd,CLe,zh],by push_cast [ze,zd,CLe,zh]⟩
end
section
open Go.RowKit
abbrev GV (x:Lz):Bool:=!decide (x = [])
def cnt (xs:List Lz) (k:Nat):Nat:=((xs.take k).filter GV).length
theorem zbu (xs:List Lz) (k:Nat) (x:Lz) (h:xs[k]?=some x):cnt xs (k+1)=if x = [] then cnt xs k else cnt xs k+1:=by
 unfold cnt;rw[WQ,h];by_cases hx:x = []<;>simp[hx]
theorem znY (xs:List Lz) (k:Nat) (x:Lz) (h:xs[k]?=some x) (hx:x≠[]):(xs.filter GV)[cnt xs k]?=some x:=by
 have hk:k<xs.length:=(Wd.1 h).1;have e:xs=xs.take k++x :: xs.drop (k+1):=by
  have:=Od k xs;rw[Oe hk]at this;rw[Wa hk]at h;cases h;exact this.symm
 have e2:xs.filter GV=(xs.take k).filter GV++x :: (xs.drop (k+1)).filter GV:=by
  conv=>lhs;rw[e]
  rw[Oz,O4];simp[hx]
 rw[e2];unfold cnt;simp
theorem zo4 (xs:List Lz):cnt xs xs.length=(xs.filter GV).length:=by unfold cnt;rw[Oi]
theorem Ub {xs:List Lz} {sf:Nat->Bool}:∀ k,k<=xs.length->(∀ j,j<k->(GV (xs.getD j [])&&sf (cnt xs j))=false)->∀ j,j<cnt xs k->sf j=false
 | 0,_,_,j,hj=>by simp[cnt]at hj
 | k+1,hk,h,j,hj=>by
  have ih:=Ub k (by omega) fun i hi=>h i (by omega);have hx:xs[k]?=some (xs.getD k []):=by rw[Oc,Wa (by omega)];rfl
  rw[zbu xs k _ hx]at hj;by_cases he:xs.getD k [] = []
  ·rw[if_pos he]at hj;exact ih j hj
  ·rw[if_neg he]at hj;rcases Wr j (cnt xs k) with g | g
   ·exact ih j g
   ·have h2:=h k (by omega);have h3:GV (xs.getD k [])=true:=by simp only[GV,OQ,Ok];exact he
    rw[h3,Oj]at h2;rw[show j=cnt xs k by omega];exact h2
theorem Q8 {xs:List Lz} {it:List C} (h:(zV xs)[k]?=some it):∃ x,xs[k]?=some x/\it = [.str x]:=by
 rw[WA]at h;cases hq:xs[k]? with
 | none=>rw[hq]at h;cases h
 | some x=>rw[hq]at h;cases h;exact ⟨x,rfl,rfl⟩
theorem XX (p:Lz) (hs:p.length<=1000000):yR Tryz.prog G0 159 [] [.row [.str p]] [] (zV (zp p)):=by
 rw[YB];refine foI (fun _=>[]) Tryz.func159 ?_;dsimp only[Tryz.f159];intro l sf;push_cast;refine VS [] [] (xY p) rfl (by simp) (by simp) (fun i hi=>by cases hi) (by push_cast) rfl ?_;push_cast;refine range (zV (Jr p)) (fun k=>GV ((Jr p).getD k [])&&sf (cnt (Jr p) k)) 1 (fun k=>⟨[],[[.sc (.func (.yield l) #[] #[])]],0,cnt (Jr p) k⟩) (H3 p hs) (by push_cast) (by push_cast) (by push_cast) (Wb _) (by push_cast) (fun it hit=>?_) (fun k _=>rfl) ?_ (fun k it hk hsf=>?_) (fun hsf=>?_)
 ·obtain ⟨x,_,rfl⟩:=WV.1 hit;rfl
 ·exact wk
 ·obtain ⟨x,hx,rfl⟩:=Q8 hk;have hxd:(Jr p).getD k []=x:=by rw[Oc,hx];rfl
  have hkl:k<(Jr p).length:=(Wd.1 hx).1;have hcs:=zbu (Jr p) k x hx;have hbef:=Ub (xs:=Jr p) (sf:=sf) k (by omega) hsf;by_cases he:x = []
  ·push_cast [he];refine ⟨?_,JY.mk [] rfl rfl (Wc _) ?_ (by push_cast [ze,zd,CLe,zh]) (by push_cast [ze,zd,CLe,zh])⟩
   ·rw[hxd,he];rfl
   ·simp[hcs,he,St.wt]
  ·have hget:=znY (Jr p) k x hx he;have hg2:(zV ((Jr p).filter GV))[cnt (Jr p) k]?=some [.str x]:=by rw[WA,hget];rfl
   push_cast [he];rw[hg2];push_cast;refine ⟨by push_cast [ze,zd,CLe,zh],hbef,br (fun h2=>?_) (fun h2=>?_)⟩
   ·push_cast;refine ⟨by rw[hxd,h2];simp[GV,he],⟨[],[[.sc (.func (.yield l) #[] #[])]],0,cnt (Jr p) k+1⟩,rfl,wk,?_⟩;push_cast;exact .inr ⟨A3 _,h2⟩
   ·push_cast;refine ⟨by rw[h2,Al],JY.mk [] rfl rfl (Wc _) ?_ (by push_cast [ze,zd,CLe,zh]) (by push_cast [ze,zd,CLe,zh])⟩;simp[hcs,he,St.wt]
 ·have hall:=zo4 (Jr p);have hbef:=Ub (xs:=Jr p) (sf:=sf) (Jr p).length (Wc _) fun j hj=>hsf j (by simpa using hj);push_cast;refine .inl ⟨?_,?_⟩
  ·simp[hall]
  ·simpa using hbef
end
section
open Go.RowKit
theorem Yt (p:Lz):Fun Tryz.prog G0 113 [.str p] (.clo (.func 159) [] [.row [.str p]]) 0:=by
 refine fon Tryz.func113 ?_;dsimp only[Tryz.f113];push_cast;exact dn
theorem N6 (xs:List Lz) (f:FuncId) (cap:List C) (hsel:C.selL (Xq 1) cap=cap) (hit:yR Tryz.prog G0 f [] cap [] (zV xs)) (hx:xs.length<=1000001):Fun Tryz.prog G0 201 [.sc (.slice none 0 0),.clo (.func f) [] cap] (.own 0 9 1 (zV xs)) 1:=by
 refine fon Tryz.func201 ?_;dsimp only[Tryz.f201];push_cast;refine range (zV xs) (fun _=>false) 1 (fun k=>⟨[],[[.own 0 9 1 (zV (xs.take k))]],1,0⟩) hit (by push_cast) hsel (by push_cast) (Wb _) (by push_cast) (fun it h=>?_) (fun k _=>rfl) ?_ (fun k it hk hsf=>?_) (fun hsf=>?_)
 ·obtain ⟨x,_,rfl⟩:=WV.1 h;rfl
 ·exact wks [.inr (9,1)]
 ·obtain ⟨x,hx2,rfl⟩:=Q8 hk;have hkl:k<xs.length:=(Wd.1 hx2).1;push_cast;simp only[W7];refine ⟨by omega,by omega,JY.mk [.inl 0] rfl rfl (Wc _) rfl (by push_cast [ze,zd,CLe,zh]) ?_⟩;push_cast [ze,zd,CLe,zh];rw[WQ,hx2]
  rfl
 ·push_cast;refine ⟨[.inl 0],rfl,rfl,?_⟩;push_cast [ze,zd,CLe,zh];simp
theorem u7 (xs:List Lz) (f:FuncId) (cap:List C) (hsel:C.selL (Xq 1) cap=cap) (hfrz:C.frzL cap=cap) (hit:yR Tryz.prog G0 f [] cap [] (zV xs)) (hx:xs.length<=1000001):Fun Tryz.prog G0 168 [.clo (.func f) [] cap] (.own 0 9 1 (zV xs)) 1:=by
 refine fon Tryz.func168 ?_;dsimp only[Tryz.f168];push_cast [hfrz];refine call (N6 xs f cap hsel hit hx) ?_;push_cast;exact ⟨[.inl 0],rfl,rfl,by push_cast [ze,zd,CLe,zh]⟩
theorem QN (p:Lz) (hp:p.length<=1000000):Fun Tryz.prog G0 168 [.clo (.func 159) [] [.row [.str p]]] (.own 0 9 1 (zV (zp p))) 1:=
 u7 (zp p) _ _ (by push_cast) (by push_cast) (XX p hp) (by have:=qP p;omega)
theorem XM (s p:Lz):Fun Tryz.prog G0 112 [.str s,.str p] (.sc (.bool (Lib.hasPrefix s p))) 0:=by
 refine Fun.wrap (by kernel_rfl) fun R vs h=>?_;obtain ⟨v1,us1,rfl,h1,h⟩:=zi.1 h;obtain ⟨v2,us2,rfl,h2,h⟩:=zi.1 h;rw[zo]at h;subst h;rw[z7]at h1 h2;subst h1 h2;refine (Tryz.strings_HasPrefix ⟨s.toArray⟩ ⟨p.toArray⟩ R.w).mono ?_;rintro e w' ⟨rfl,rfl⟩;exact ⟨_,rfl,Oa _ _,fun R' _=>zt.2 (by simp)⟩
theorem ZT (s p:Lz) (hs:s.length<=1000000):Fun Tryz.prog G0 115 [.str s,.str p] (.sc (.bool (Lib.hasSuffix s p))) 0:=by
 refine Fun.wrap (by kernel_rfl) fun R vs h=>?_;obtain ⟨v1,us1,rfl,h1,h⟩:=zi.1 h;obtain ⟨v2,us2,rfl,h2,h⟩:=zi.1 h;rw[zo]at h;subst h;rw[z7]at h1 h2;subst h1 h2;refine (Tryz.strings_HasSuffix ⟨s.toArray⟩ ⟨p.toArray⟩ R.w (by simp[ByteArray.size];omega)).mono ?_;rintro e w' ⟨rfl,rfl⟩;exact ⟨_,rfl,Oa _ _,fun R' _=>zt.2 (by simp)⟩
theorem No (xs:List Lz) (sep:Lz) (hx:xs.length<=1000001) (hl:(Lib.join xs sep).length<=100000000):Fun Tryz.prog G0 122 [.sl 1 (zV xs),.str sep] (.str (Lib.join xs sep)) 0:=by
 refine Fun.wrap (by kernel_rfl) fun R vs h=>?_;obtain ⟨v1,us1,rfl,h1,h⟩:=zi.1 h;obtain ⟨v2,us2,rfl,h2,h⟩:=zi.1 h;rw[zo]at h;subst h;rw[z7]at h2;subst h2;obtain ⟨a,cap,rfl,hc1,hc2,hr⟩:=G4.1 h1;have hlen:(zV xs).length=xs.length:=by simp
 have hmap:(xs.map fun x=>ByteArray.mk x.toArray).map (·.data.toList)=xs:=by
  rw[List.map_map]
  conv=>rhs;rw[←List.map_id xs]
  exact A7 fun x _=>by simp
 rcases hr with hr | ⟨b,o,rfl,hr⟩
 ·have:xs = []:=by simpa using hr
  subst this;refine (Tryz.strings_Join_none a cap ⟨sep.toArray⟩ R.w).mono ?_;rintro e w' ⟨rfl,rfl⟩;exact ⟨_,rfl,Oa _ _,fun R' _=>z7.2 (by simp[Lib.join])⟩
 ·by_cases hx0:xs = []
  ·subst hx0;refine (Tryz.strings_Join_none _ cap ⟨sep.toArray⟩ R.w).mono ?_;rintro e w' ⟨rfl,rfl⟩;exact ⟨_,rfl,Oa _ _,fun R' _=>z7.2 (by simp[Lib.join])⟩
  ·have hcells:∀ (j:Nat) x,(xs.map fun x=>ByteArray.mk x.toArray)[j]?=some x->R.w.cell? ⟨b,o+j,none⟩=some (.string x):=fun j x hj=>by
    rw[WA]at hj;cases hq:xs[j]? with
    | none=>rw[hq]at hj;cases hj
    | some y =>
     rw[hq]at hj;cases hj;obtain ⟨_,g⟩:=jA hr j [.str y] (by rw[WA,hq];rfl);obtain ⟨⟨v,g1,_,g2,_⟩,_⟩:=qu.1 g;rw[z7]at g2;subst g2;simpa using g1
   have hb:b<R.w.heap.size:=by
    cases xs with
    | nil=>exact absurd rfl hx0
    | cons x r =>
     exact vX (hcells 0 ⟨x.toArray⟩ rfl)
   have hj:=Tryz.strings_Join b o cap (xs.map fun x=>ByteArray.mk x.toArray) ⟨sep.toArray⟩ R.w hcells hb (by simp;omega) (by simpa using hc1) (by rw[hmap];simp;omega);rw[hmap]at hj;simp only[We]at hj;rw[hlen];refine hj.mono ?_;rintro e w' ⟨rfl,hbl⟩;exact ⟨_,rfl,hbl,fun R' _=>z7.2 (by simp)⟩
end
section
open Go.RowKit
def zkX (p:Lz):C:=.agg [qJ (Lib.hasPrefix p [47]),.own 0 9 1 (zV (zp p)),qJ (!decide (zp p = [])&&Lib.hasSuffix p [47])]
theorem ke (p:Lz) (hp:p.length<=1000000):Fun Tryz.prog G0 125 [.str p] (zkX p) 1:=by
 refine fon Tryz.func125 ?_;dsimp only[Tryz.f125];push_cast;refine call (Yt p) ?_;push_cast;refine call (QN p hp) ?_;push_cast;refine call (XM p [47]) ?_;push_cast;by_cases h:zp p = []
 ·push_cast [h];exact ⟨[.inl 0],rfl,rfl,by simp only[zkX];push_cast [ze,zd,CLe,zh,h];simp⟩
 ·have h':0<(zp p).length:=WI.2 h;push_cast [h'];refine call (ZT p [47] hp) ?_;push_cast;exact ⟨[.inl 0],rfl,rfl,by simp only[zkX];push_cast [ze,zd,CLe,zh,h]⟩
def put (a:Bool) (xs:List Lz) (s:Bool):Lz:=(if a then [47] else [])++Lib.join xs [47]++(if s&&!decide (xs = []) then [47] else [])
def qC (xs:List Lz):Lz:=if xs = [] then [47] else 47 :: Lib.join xs [47]
theorem Qr (xs:List Lz) (hx:xs.length<=1000001) (hl:(Lib.join xs [47]).length<=100000000):Fun Tryz.prog G0 127 [.sl 1 (zV xs)] (.str (qC xs)) 0:=by
 refine fon Tryz.func127 ?_;dsimp only[Tryz.f127];push_cast;by_cases h:xs = []
 ·push_cast [h];exact ⟨[],rfl,rfl,by simp only[qC,h];push_cast [ze,zd,CLe,zh]⟩
 ·have h':¬((xs.length:Int)=0):=by have:=WI.2 h;omega
  push_cast [h'];refine call ((No xs [47] hx hl)) ?_;push_cast;exact ⟨by omega,[],rfl,rfl,by simp only[qC,if_neg h];push_cast [ze,zd,CLe,zh]⟩
def UQ (p:Lz):Bool:=(zp p).any (fun x=>decide (255<x.length))||decide (4095<p.length)
theorem zax (p:Lz) (hp:p.length<=1000000):Fun Tryz.prog G0 175 [.str p] (qJ (UQ p)) 0:=by
 refine fon Tryz.func175 ?_;dsimp only[Tryz.f175];push_cast;refine call (Yt p) ?_;push_cast;refine range (zV (zp p)) (fun k=>decide (255<((zp p).getD k []).length)) 1 (fun k=>⟨[],[[.sc (.bool false)]],0,0⟩) (XX p hp) (by push_cast) (by push_cast) (by push_cast) (Wb _) (by push_cast) (fun it h=>?_) (fun k _=>rfl) ?_ (fun k it hk hsf=>?_) (fun hsf=>?_)
 ·obtain ⟨x,_,rfl⟩:=WV.1 h;rfl
 ·exact wk
 ·obtain ⟨x,hx,rfl⟩:=Q8 hk;have hxd:(zp p).getD k []=x:=by rw[Oc,hx];rfl
  push_cast;rw[hxd];refine br (fun h=>?_) (fun h=>?_)
  ·have h':255<x.length:=by have:=WP h;omega
   push_cast;refine ⟨by simpa using h',⟨[],[[.sc (.bool true)]],0,0⟩,rfl,wk,?_⟩;push_cast;refine ⟨[],rfl,rfl,?_⟩;push_cast [ze,zd,CLe,zh];have:(zp p).any (fun x=>decide (255<x.length))=true:=Ou.2 ⟨x,Wg hx,by simpa using h'⟩;simp[UQ,this]
  ·have h':¬255<x.length:=by have:=OS h;omega
   push_cast;exact ⟨by simpa using h',wk⟩
 ·push_cast;refine ⟨[],rfl,rfl,?_⟩;push_cast [ze,zd,CLe,zh];have:(zp p).any (fun x=>decide (255<x.length))=false:=W5.2 fun x hx=>by
   obtain ⟨k,hk,rfl⟩:=Wt hx;have:=hsf k (by simpa using hk);rw[Oc,Wa hk]at this;simpa using this
  simp[UQ,this];omega
def ZP (p:Lz):Lz:=(zp p).getLastD (if Lib.hasPrefix p [47] then [47] else [])
theorem zbB (p:Lz) (hp:p.length<=1000000):Fun Tryz.prog G0 67 [.str p] (.str (ZP p)) 0:=by
 refine fon Tryz.func67 ?_;dsimp only[Tryz.f67];push_cast;refine call (XM p [47]) ?_;push_cast;have go:∀ b0:Lz,b0=(if Lib.hasPrefix p [47] then [47] else [])->ZP p=((zp p).take (zp p).length).getLastD b0:=fun b0 hb=>by rw[Oi,hb];rfl
 have main:∀ b0:Lz,b0=(if Lib.hasPrefix p [47] then [47] else [])->∀ k x,(zp p)[k]?=some x->((zp p).take (k+1)).getLastD b0=x:=fun b0 _ k x hx=>by
  rw[WQ,hx];simp
 cases hpf:Lib.hasPrefix p [47] with
 | true =>
  rw[hpf]at go main;push_cast;refine call (Yt p) ?_;push_cast;refine range (zV (zp p)) (fun k=>false) 1 (fun k=>⟨[],[[.str (((zp p).take k).getLastD [47])]],0,0⟩) (XX p hp) (by push_cast) (by push_cast) (by push_cast) (Wb _) (by push_cast) (fun it h=>?_) (fun k _=>rfl) ?_ (fun k it hk hsf=>?_) (fun hsf=>?_)
  ·obtain ⟨x,_,rfl⟩:=WV.1 h;rfl
  ·exact JY.mk [] rfl rfl (Wc _) rfl (by push_cast [ze,zd,CLe,zh]) (by push_cast [ze,zd,CLe,zh];rfl)
  ·obtain ⟨x,hx,rfl⟩:=Q8 hk;have:=main [47] rfl k x hx;push_cast;exact wk (h5:=by push_cast [ze,zd,CLe,zh,this])
  ·have:=go [47] rfl;push_cast;exact ⟨[],rfl,rfl,by push_cast [ze,zd,CLe,zh];exact this.symm⟩
 | false =>
  rw[hpf]at go main;push_cast;refine call (Yt p) ?_;push_cast;refine range (zV (zp p)) (fun k=>false) 1 (fun k=>⟨[],[[.str (((zp p).take k).getLastD [])]],0,0⟩) (XX p hp) (by push_cast) (by push_cast) (by push_cast) (Wb _) (by push_cast) (fun it h=>?_) (fun k _=>rfl) ?_ (fun k it hk hsf=>?_) (fun hsf=>?_)
  ·obtain ⟨x,_,rfl⟩:=WV.1 h;rfl
  ·exact JY.mk [] rfl rfl (Wc _) rfl (by push_cast [ze,zd,CLe,zh]) (by push_cast [ze,zd,CLe,zh];rfl)
  ·obtain ⟨x,hx,rfl⟩:=Q8 hk;have:=main [] rfl k x hx;push_cast;exact wk (h5:=by push_cast [ze,zd,CLe,zh,this])
  ·have:=go [] rfl;push_cast;exact ⟨[],rfl,rfl,by push_cast [ze,zd,CLe,zh];exact this.symm⟩
def Jf (p q:Lz):Bool:=decide (p=q)||decide (q = [47])||Lib.hasPrefix p (q++[47])
theorem Gz (p q:Lz) (hq:q.length<=1000000):Fun Tryz.prog G0 205 [.str p,.str q] (qJ (Jf p q)) 0:=by
 refine fon Tryz.func205 ?_;dsimp only[Tryz.f205];push_cast;by_cases h1:p=q
 ·push_cast [h1];exact ⟨[],rfl,rfl,by push_cast [ze,zd,CLe,zh];simp[Jf]⟩
 ·by_cases h2:q = [47]
  ·subst h2;push_cast [h1];exact ⟨[],rfl,rfl,by push_cast [ze,zd,CLe,zh];simp[Jf]⟩
  ·push_cast [h1,h2];refine ⟨by omega,?_⟩;refine call (XM p (q++[47])) ?_;push_cast;exact ⟨[],rfl,rfl,by push_cast [ze,zd,CLe,zh];simp[Jf,h1,h2]⟩
end
section
open Go.RowKit
theorem ZR (l:Lz) (c:UInt8):Fun Tryz.prog G0 145 [.str l,.sc (.int .u8 (c.toNat:Int))] (.sc (.int .i64 (Lib.indexByte l c))) 0:=by
 refine Fun.wrap (by kernel_rfl) fun R vs h=>?_;obtain ⟨v1,us1,rfl,h1,h⟩:=zi.1 h;obtain ⟨v2,us2,rfl,h2,h⟩:=zi.1 h;rw[zo]at h;subst h;rw[z7]at h1;rw[zt]at h2;subst h1 h2;refine (Tryz.strings_IndexByte ⟨l.toArray⟩ (c.toNat:Int) R.w).mono ?_;rintro e w' ⟨rfl,rfl⟩;exact ⟨_,rfl,Oa _ _,fun R' _=>zt.2 (by simp)⟩
theorem XP (r:Int):Fun Tryz.prog G0 265 [.sc (.int .i32 r)] (.sc (.bool (Lib.validRune r))) 0:=by
 refine Fun.wrap (by kernel_rfl) fun R vs h=>?_;obtain ⟨v1,us1,rfl,h1,h⟩:=zi.1 h;rw[zo]at h;subst h;rw[zt]at h1;subst h1;refine (Tryz.utf8_ValidRune r R.w).mono ?_;rintro e w' ⟨rfl,rfl⟩;exact ⟨_,rfl,Oa _ _,fun R' _=>zt.2 rfl⟩
theorem zjL (r:Int) (hv:Utf8.valid r=true) (h128:128<=r):∃ l c,(Utf8.encode r).data.toList=l++[c]/\1<=l.length/\l.length<=3/\128<=c.toNat:=by
 obtain ⟨h1,h2,h3⟩:=encode_facts r hv h128;generalize Utf8.encode r=bs at h1 h2 h3 ⊢;have hs:bs.data.toList.length=bs.size:=WY;have h4:=h3 (by omega);have h5:bs.data.toList[bs.size-1]?=some (bs[bs.size-1]'(by omega)):=Lib.data_getElem? bs _ (by omega);generalize bs[bs.size-1]'(by omega)=c at h4 h5;generalize bs.data.toList=l at hs h5;refine ⟨l.take (bs.size-1),c,?_,by simp;omega,by simp;omega,h4⟩;have:=Od (bs.size-1) l;have hd:l.drop (bs.size-1) = [c]:=by
  have hlt:bs.size-1<l.length:=by omega
  rw[Oe hlt];rw[Wa hlt]at h5;cases h5;rw[Bc (by omega)]
 rw[hd]at this;exact this.symm
theorem yB (r:Int) (h1:128<=r) (hv:Utf8.valid r=true) (h2:r≠65533):Fun Tryz.prog G0 234 [.str [47,0],.sc (.int .i32 r)] (.sc (.int .i64 (-1))) 0:=by
 have hlv:Lib.validRune r=true:=by
  have:=validRune_eq r;rw[hv]at this;exact this.symm
 obtain ⟨l,c,he,hl1,hl3,hc⟩:=zjL r hv h1;have ha:0<=r:=by omega
 have hb:¬r<128:=by omega
 have hc0:¬((0:Int)=(c.toNat:Int)):=by omega
 have hix:=ZR [] c
 match l,hl1,hl3 with
 | [x],_,_ =>
  refine fon Tryz.func234 ?_;dsimp only[Tryz.f234];push_cast [ha,hb,h2];refine call (XP r) ?_;push_cast [hlv,he];refine loop (fun k:Nat=>⟨[(0,.str [47,0]),(1,.sc (.int .i32 r)),(7,.str [x,c]),(8,.sc (.int .i64 1)),(9,.sc (.int .i64 1)),(10,.sc (.int .i64 0))],[],0,0⟩) (fun k=>True) (fun k=>0) 0 trivial ?_ ?_
  ·exact wk
  ·intro k _;push_cast [hc0];refine H7 hix ?_;have hi0:Lib.indexByte [] c = -1:=rfl;push_cast [hi0];exact dn
 | [x,y],_,_ =>
  refine fon Tryz.func234 ?_;dsimp only[Tryz.f234];push_cast [ha,hb,h2];refine call (XP r) ?_;push_cast [hlv,he];refine loop (fun k:Nat=>⟨[(0,.str [47,0]),(9,.sc (.int .i64 2))],[],0,0⟩) (fun k=>True) (fun k=>0) 0 trivial ?_ ?_
  ·exact wk
  ·intro k _;push_cast;exact dn
 | [x,y,z],_,_ =>
  refine fon Tryz.func234 ?_;dsimp only[Tryz.f234];push_cast [ha,hb,h2];refine call (XP r) ?_;push_cast [hlv,he];refine loop (fun k:Nat=>⟨[(0,.str [47,0]),(9,.sc (.int .i64 3))],[],0,0⟩) (fun k=>True) (fun k=>0) 0 trivial ?_ ?_
  ·exact wk
  ·intro k _;push_cast;exact dn
theorem NV (w:World):Calls Tryz.prog 234 #[.string ⟨#[47,0]⟩,.int .i32 65533] w fun e w'=>e = .returned (.int .i64 (-1))/\Below w.heap.size w w':=by
 go_enter Tryz.func234,Tryz.ntmps234
 go_wp2
 go_loopg [5,6] 2 (fun g _ _ wx=>∃ i:Nat,i+g=2/\wx=w.iter ⟨#[47,0]⟩ i)
 case atStart=>exact ⟨0,by omega,rfl⟩
 case round =>
  obtain ⟨i,hig,rfl⟩:=hrel;cases gk with
  | zero =>
   obtain rfl:i=2:=by omega
   have hnx:=fun ty=>run_next_end (P:=Tryz.prog) w ⟨#[47,0]⟩ 2 ty (by decide)
   go_wp2
   go_ret
   exact ⟨rfl,(Oa _ _).alloc (Wc _) _⟩
  | succ g =>
   have hi:i<(ByteArray.mk #[47,0]).size:=by show i<2;omega
   have hx128:((ByteArray.mk #[47,0])[i]'hi).toNat<128:=by
    have:i=0∨i=1:=by omega
    rcases this with rfl | rfl
    ·exact (by decide:(47:UInt8).toNat<128)
    ·exact (by decide:(0:UInt8).toNat<128)
   have hnx:=fun ty=>run_next_ascii (P:=Tryz.prog) w ⟨#[47,0]⟩ i ty hi hx128;have hne:((((ByteArray.mk #[47,0])[i]'hi).toNat:Int)==65533)=false:=by
    rw[O1];omega
   go_wp2
   go_roundg g
   case measure=>omega
   case rel=>exact ⟨i+1,by omega,rfl⟩
end
end Go.Proofs.YtnpdbhbmakdklaaGreatDoor.Vcg
