/- What the proof of MvsTrue leans on, part 3: Vcg18 Slc0 Slc1 TabV Tab1 OpenG OpenT Srt0 SlcE Shelf Tab2 TabR Snd1 PathN Ref1 Path1 Path2 Path3 Path4 May1. No condition beyond what each theorem states. -/
import Derived.Test.YtnpdbhbmakdklaaGreatDoorMvsTrueKb
import Derived.Lib.Overlaps
import Derived.Laws.Externs
import Derived.WalkKit
import Derived.ProofKit
import Derived.Deep.Slices
import Derived.Deep.Fields
import Derived.ChangeSame
import Derived.ChangeOld
import Derived.Lib.SmallJoins
import Derived.Test.YtnpdbhbmakdklaaGreatDoorRows
import Derived.Lib.Bytealg
import Derived.Shelf.Strings.Builder1
import Derived.Shelf.Strings.Builder2
import Derived.Shelf.Strings.OnBuilder
import Derived.Shelf.Strings.Trim
import Derived.Shelf.Small.Utf8
import Derived.Shelf.Small.Strs
import Derived.Shelf.Small.Wraps
import Derived.Shelf.Strings.BuilderF
import Derived.Shelf.Strings.BuilderK
import Derived.Shelf.Strings.Search1
import Derived.Shelf.Strings.Search2
import Derived.Shelf.Strings.Search3
import Derived.Shelf.LaysM
import Derived.Shelf.Strings.Shaped
import Derived.Shelf.Strings.Prefix
import Derived.Shelf.Unicode.Decode
import Derived.Shelf.Strings.Runes
import Derived.Shelf.Strings.IndexAny
import Derived.Shelf.Strings.AsciiSet
import Derived.Shelf.Strings.IndexAnyAll
import Derived.Shelf.Unicode.DecodeSlow
import Derived.Shelf.Unicode.DecodeAny
import Derived.Shelf.Unicode.DecodeLast
import Derived.Ground.Names2Prog
import Derived.Shelf.Slices.SearchI
import Derived.Test.YtnpdbhbmakdklaaGreatDoorProg
import Derived.Laws.Runes
import Derived.Laws.RangeString
import Derived.Deep.LoopGhost
set_option linter.unusedVariables false
set_option linter.unusedSimpArgs false
set_option linter.unusedSectionVars false
set_option maxRecDepth 100000
set_option maxHeartbeats 4000000
namespace Go.Proofs.YtnpdbhbmakdklaaGreatDoor.Vcg
variable {f:FuncId} {args r cs vs ds vs1 fargs:List C} {n off b q i k u b1 j e cap s1 size by' p c:Nat} {l:Lz} {a:Int} {ps:List (Nat×C)} {KS:St->Prop} {L:Lay} {H:List Hz} {rest:List Oper} {dst:Option Tmp} {op:BinOp} {ty t2 t:TypeId} {pos:String} {af:Array Edge} {g:Option (Nat×Bool)} {fr:Fr} {us:List Operand} {kd:LK} {z1 z2:Option (List Value)} {fn:Fn} {lo hi mx:Option Int} {k2:IntKind} {v:Value} {lk:List LK} {fp fo:Nat->Option Nat} {place:Nat->Option (Nat×Nat)} {ks1:MK} {fbx:List (List C)} {post:C->List (List C)->Nat->Prop} {code:Code} {P:Program} {G:zt} {R:Env}
section
open Go.RowKit
section
variable {P:Program} {G:zt} {σ σ':St} {N p lg m:Nat} {h:Hd} {yd:Option Yd} {brs:List Bool} {bf:Nat->List Bool} {bx bx':List (List C)} {ops:Array Oper} {c c' d d':C} {t t':TypeId} {K:C->Prop} {K2:C->Nat->Prop} {K3:C->St->Prop} {nx:Nat} {tm:List (Nat×C)} {x y z:Operand} {Q:Exit->St->Prop} {X Y:Prop}
def zaw (P:Program) (G:zt) (f:FuncId) (args:List C) (nx:Nat) (K:C->Nat->Prop):Prop:=∃ r n,Fun P G f args r n/\K (r.sh nx) (nx+n)
theorem zaw.mk {r:C} (h:Fun P G f args r n) (hK:K2 (r.sh nx) (nx+n)):zaw P G f args nx K2:=⟨r,n,h,hK⟩
def zpP (P:Program) (G:zt) (f:FuncId) (args fargs:List C) (σ:St) (K:C->St->Prop):Prop:=
 (∃ r n,Fun P G f fargs r n/\K (r.sh σ.nx) ⟨σ.tm,σ.bx,σ.nx+n,σ.lg⟩)∨un P G f args σ K∨zl5 P G f args σ K∨kY P G f args σ K∨zfj P f args σ K
def aGd (d:Option Tmp) (tm:List (Nat×C)) (want:Bool) (X Y:Prop):Prop:=match d with
 | some d=>match want with
  | true=>zl0 (jW tm d) Y X Y
  | false=>zl0 (jW tm d) Y Y X
 | none=>False
def zpF (L:Option Lay) (c:C) (bx:List (List C)) (K:C->Prop):Prop:=
 match L with
 | none=>False
 | some L=>match c with
  | .ptr i off=>match bx[i]? with
   | some cs=>Yz L (cs.drop off) K
   | none=>False
  | .row cs=>Yz L cs K
  | _=>False
def zqL (cs:Option (List C)) (off:Nat) (L:Lay) (K:C->Prop):Prop:=match cs with | some cs=>Yz L (cs.drop off) K | none=>False
def zqh (L:Option Lay) (op:BinOp) (a b:Bool) (K:C->Prop):Prop:=match L with | some ⟨.bool,_,_,_⟩=>zil op a b K | _=>False
def zsl (x:Option C) (K:C->Prop):Prop:=match x with | some c=>K c | none=>False
def y7 (L:Option Lay) (c:C) (f:Nat) (K:C->Prop):Prop:=
 match L with
 | some ⟨.struct fs,_,_,_⟩=>match fs[f]?,c with
  | some (off,size,agg),.agg cs =>
   if agg then off+size<=cs.length/\K (.agg ((cs.drop off).take size)) else match cs[off]? with
    | some c=>K c
    | none=>False
  | _,_=>False
 | _=>False
def Ha (f:Option (Nat×Nat×Bool)) (cs:List C) (K:C->Prop):Prop:=
 match f with
 | some (off,size,agg)=>if agg then off+size<=cs.length/\K (.agg ((cs.drop off).take size)) else match cs[off]? with
    | some c=>K c
    | none=>False
 | none=>False
def zuh (L:Option Lay) (c:C) (f:Nat) (K:C->Prop):Prop:=
 match L with
 | some ⟨.struct fs,_,_,_⟩=>match fs[f]?,c with
  | some (off,size,_),.ptr i o=>if size=0 then False else K (.ptr i (o+off))
  | some (off,size,_),.row cs=>if size=0 then False else K (.row (cs.drop off))
  | _,_=>False
 | _=>False
def zrf (f:Option (Nat×Nat×Bool)) (c:C) (K:C->Prop):Prop:=
 match f,c with
  | some (off,size,_),.ptr i o=>if size=0 then False else K (.ptr i (o+off))
  | some (off,size,_),.row cs=>if size=0 then False else K (.row (cs.drop off))
  | _,_=>False
def zuI (P:Program) (L:Option Lay) (c:C) (i:C) (K:C->Prop):Prop:=
 match L,i with
 | some ⟨.slice e,_,_,_⟩,.sc (.int _ n)=>match lay P e with
  | some L=>match c with
   | .bs j off k m _=>k=L.size/\0<=n/\n<(m:Int)/\K (.ptr j (off+n.toNat*L.size))
   | c=>match c.rows? L.size with
    | some rows=>match rows[n.toNat]? with
     | some r=>0<=n/\K (.row r)
     | none=>False
    | none=>False
  | none=>False
 | some ⟨.array (m+1) e,_,_,_⟩,.sc (.int _ n)=>match lay P e with
  | some L=>match c with
   | .ptr j off=>0<=n/\n<((m+1:Nat):Int)/\K (.ptr j (off+n.toNat*L.size))
   | .row cs=>0<=n/\n<((m+1:Nat):Int)/\K (.row (cs.drop (n.toNat*L.size)))
   | _=>False
  | none=>False
 | _,_=>False
def zua (L:Option Lay) (c:C) (n:Int) (K:C->Prop):Prop:=
 match L with
  | some L=>match c with
   | .bs j off k m _=>k=L.size/\0<=n/\n<(m:Int)/\K (.ptr j (off+n.toNat*L.size))
   | c=>match c.rows? L.size with
    | some rows=>match rows[n.toNat]? with
     | some r=>0<=n/\K (.row r)
     | none=>False
    | none=>False
  | none=>False
def zt1 (rows:Option (List (List C))) (n:Int) (K:C->Prop):Prop:=
 match rows with
   | some rows=>match rows[n.toNat]? with
    | some r=>0<=n/\K (.row r)
    | none=>False
   | none=>False
def aAt (r:Option (List C)) (n:Int) (K:C->Prop):Prop:=match r with | some r=>0<=n/\K (.row r) | none=>False
def zuj (L:Option Lay) (c:C) (m:Nat) (n:Int) (K:C->Prop):Prop:=
 match L with
  | some L=>match c with
   | .ptr j off=>0<=n/\n<((m+1:Nat):Int)/\K (.ptr j (off+n.toNat*L.size))
   | .row cs=>0<=n/\n<((m+1:Nat):Int)/\K (.row (cs.drop (n.toNat*L.size)))
   | _=>False
  | none=>False
def zsZ (L:Option Lay) (c i:C) (K:C->Prop):Prop:=
 match L,c,i with
 | some ⟨.str,_,_,_⟩,.str l,.sc (.int _ n)=>match l[n.toNat]? with
  | some b=>0<=n/\K (.sc (.int .u8 (b.toNat:Int)))
  | none=>False
 | _,_,_=>False
def zmY (b:Option UInt8) (n:Int) (K:C->Prop):Prop:=match b with | some b=>0<=n/\K (.sc (.int .u8 (b.toNat:Int))) | none=>False
def ztH (P:Program) (L:Option Lay) (c:C) (lo hi mx:Option Int) (K:C->Prop):Prop:=
   match L with
    | some ⟨.str,_,_,_⟩=>match c,mx with
      | .str l,none=>j8 l.length lo hi/\K (.str (cut l lo hi))
      | _,_=>False
    | some ⟨.slice e,_,_,_⟩=>match lay P e with
      | some L=>match c with
        | .bs i off k n cap=>zne L.size i off k n cap lo hi mx K
        | .sc (.slice none 0 0)=>zp4 L.size lo hi mx K
        | c=>match c.rows? L.size with
          | some rows=>match mx,hi with
            | none,_=>j8 rows.length lo hi/\K (.sl L.size (cut rows lo hi))
            | some m,some h=>m=h/\j8 rows.length lo hi/\K (.tight L.size (cut rows lo hi))
            | some _,none=>False
          | none=>False
      | none=>False
    | _=>False
def ztY (P:Program) (t:TypeId) (c:C) (lo hi mx:Option (Option Int)) (K:C->Prop):Prop:=
 match lo,hi,mx with
 | some lo,some hi,some mx=>ztH P (lay P t) c lo hi mx K
 | _,_,_=>False
def zt3 (L:Option Lay) (c:C) (lo hi mx:Option Int) (K:C->Prop):Prop:=
 match L with
   | some L=>match c with
    | .bs i off k n cap=>zne L.size i off k n cap lo hi mx K
    | .sc (.slice none 0 0)=>zp4 L.size lo hi mx K
    | c=>match c.rows? L.size with
     | some rows=>match mx,hi with
      | none,_=>j8 rows.length lo hi/\K (.sl L.size (cut rows lo hi))
      | some m,some h=>m=h/\j8 rows.length lo hi/\K (.tight L.size (cut rows lo hi))
      | some _,none=>False
     | none=>False
   | none=>False
def zt9 (rows:Option (List (List C))) (k:Nat) (lo hi mx:Option Int) (K:C->Prop):Prop:=
 match rows with
    | some rows=>match mx,hi with
     | none,_=>j8 rows.length lo hi/\K (.sl k (cut rows lo hi))
     | some m,some h=>m=h/\j8 rows.length lo hi/\K (.tight k (cut rows lo hi))
     | some _,none=>False
    | none=>False
def zhg (rows:Option (List (List C))) (K:C->Prop):Prop:=match rows with | some rows=>∃ l,rows=J1 l/\K (.str l) | none=>False
theorem zhg.mk {rows:List (List C)} (l:Lz) (h:rows=J1 l) (hK:K (.str l)):zhg (some rows) K:=⟨l,h,hK⟩
def zun (P:Program) (D S:Option Lay) (c:C) (K:C->Prop):Prop:=
 match D with
 | some ⟨.int k,_,_,_⟩=>match c with
  | .sc (.int _ n)=>match S with | some _=>inR k n/\K (.sc (.int k n)) | none=>False
  | _=>False
 | some ⟨.str,_,_,_⟩=>match S with
  | some ⟨.str,_,_,_⟩=>match c with
   | .str l=>K (.str l)
   | _=>False
  | some ⟨.slice e,_,_,_⟩=>match lay P e with
   | some ⟨.int .u8,_,_,_⟩=>match c.rows? 1 with
    | some rows=>∃ l,rows=J1 l/\K (.str l)
    | none=>False
   | _=>False
  | some ⟨.int _,_,_,_⟩=>match c with
   | .sc (.int _ n)=>K (.str (Utf8.encode n).data.toList)
   | _=>False
  | _=>False
 | some ⟨.slice e,_,_,_⟩=>match S,lay P e with
  | some ⟨.str,_,_,_⟩,some ⟨.int .u8,_,_,_⟩=>match c with
   | .str l=>((l.length:Nat):Int)<=9223372036854775807/\K (.sl 1 (J1 l))
   | _=>False
  | _,_=>False
 | _=>False
def zux (L:Option Lay) (c:C) (K:C->Prop):Prop:=
 match L with
   | some ⟨.int .u8,_,_,_⟩=>match c.rows? 1 with
    | some rows=>∃ l,rows=J1 l/\K (.str l)
    | none=>False
   | _=>False
def zsy (L:Option Lay) (c:C) (K:C->Prop):Prop:=
 match L,c with
 | some ⟨.slice _,_,_,_⟩,.bs _ _ _ _ c=>K (.sc (.int .i64 (c:Int)))
 | some ⟨.slice _,_,_,_⟩,.sc (.slice none 0 0)=>K (.sc (.int .i64 0))
 | _,_=>False
def zsu (L:Option Lay) (n:Int) (K:C->Prop):Prop:=match L with | some ⟨.slice _,_,_,_⟩=>K (.sc (.int .i64 n)) | _=>False
def zs3 (L:Option Lay) (n:Int) (K:C->Prop):Prop:=match L with | some ⟨.str,_,_,_⟩=>K (.sc (.int .i64 n)) | _=>False
def ztc (L:Option Lay) (parts:List (Nat×C)) (K:C->Prop):Prop:=
 match L with
 | some ⟨.struct fs,_,_,some z⟩=>(parts.all fun p=>p.2.partB)=true/\match Xt (fun i=>(fs[i]?).map fun f=>(f.1,f.2.1)) (z.map zF) parts with
  | some cs=>K (.agg cs)
  | none=>False
 | _=>False
def aFl (cs:Option (List C)) (K:C->Prop):Prop:=match cs with | some cs=>K (.agg cs) | none=>False
def plS (fs:List (Nat×Nat×Bool)) (i:Nat):Option (Nat×Nat):=(fs[i]?).map fun f=>(f.1,f.2.1)
def plA (k:Nat) (i:Nat):Option (Nat×Nat):=some (i*k,k)
def zmb (pl:Option (Nat×Nat)) (place:Nat->Option (Nat×Nat)) (cs:List C) (c:List C) (rest:List (Nat×C)):Option (List C):=
 match pl with
  | none=>none
  | some (off,size)=>if c.length=size/\off+size<=cs.length then Xt place (cs.take off++c++cs.drop (off+size)) rest else none
def zuA (P:Program) (L:Option Lay) (n:Nat) (parts:List (Nat×C)) (nx:Nat) (K:C->Nat->Prop):Prop:=
 match L with
 | some ⟨.slice e,_,_,_⟩=>match lay P e with
  | some ⟨_,k,_,some z⟩=>z.length=k/\0<k/\n*k<=16777216/\(parts.all fun p=>p.2.frz.partB)=true/\match Xt (fun i=>some (i*k,k)) (List.replicate n (z.map zF)).flatten (parts.map fun p=>(p.1,p.2.frz)) with
   | some cs=>(cs.all C.cellB)=true/\cs.length=n*k/\K (.own nx e k (QZ k n cs)) (nx+1)
   | none=>False
  | _=>False
 | _=>False
def ztS (L:Option Lay) (e:TypeId) (n:Nat) (parts:List (Nat×C)) (nx:Nat) (K:C->Nat->Prop):Prop:=
   match L with
    | some ⟨_,k,_,some z⟩=>z.length=k/\0<k/\n*k<=16777216/\(parts.all fun p=>p.2.frz.partB)=true/\match Xt (fun i=>some (i*k,k)) (List.replicate n (z.map zF)).flatten (parts.map fun p=>(p.1,p.2.frz)) with
      | some cs=>(cs.all C.cellB)=true/\cs.length=n*k/\K (.own nx e k (QZ k n cs)) (nx+1)
      | none=>False
    | _=>False
def zuf (cs:Option (List C)) (e k n nx:Nat) (K:C->Nat->Prop):Prop:=
 match cs with
   | some cs=>(cs.all C.cellB)=true/\cs.length=n*k/\K (.own nx e k (QZ k n cs)) (nx+1)
   | none=>False
def zud (P:Program) (L:Option Lay) (l c:C) (nx:Nat) (K:C->Nat->Prop):Prop:=
 match L,l,c with
 | some ⟨.slice e,_,_,_⟩,.sc (.int _ l),.sc (.int _ c)=>match lay P e with
  | some ⟨_,k,by',some z⟩=>z.length=k/\0<k/\(z.all Value.oneCell')=true/\0<=l/\l<=c/\(by':Int)*c<=281474976710656/\c<=9223372036854775807/\K (.own nx e k (List.replicate l.toNat (z.map zF))) (nx+1)
  | _=>False
 | _,_,_=>False
def zur (L:Option Lay) (e:TypeId) (l c:Int) (nx:Nat) (K:C->Nat->Prop):Prop:=
 match L with
  | some ⟨_,k,by',some z⟩=>z.length=k/\0<k/\(z.all Value.oneCell')=true/\0<=l/\l<=c/\(by':Int)*c<=281474976710656/\c<=9223372036854775807/\K (.own nx e k (List.replicate l.toNat (z.map zF))) (nx+1)
  | _=>False
def zth (P:Program) (L:Option Lay) (l c:C) (σ:St) (K:C->St->Prop):Prop:=
 match L,l,c with
 | some ⟨.slice e,_,_,_⟩,.sc (.int _ l),.sc (.int _ c)=>match lay P e with
  | some ⟨_,k,by',some z⟩=>z.length=k/\0<k/\(z.all Value.oneCell')=true/\0<=l/\l<=c/\(by':Int)*c<=281474976710656/\c<=9223372036854775807/\K (.bs σ.bx.length 0 k l.toNat c.toNat) ⟨σ.tm,σ.bx++[(List.replicate c.toNat (z.map zF)).flatten],σ.nx,σ.lg⟩
  | _=>False
 | _,_,_=>False
def ztC (L:Option Lay) (l c:Int) (σ:St) (K:C->St->Prop):Prop:=
 match L with
  | some ⟨_,k,by',some z⟩=>z.length=k/\0<k/\(z.all Value.oneCell')=true/\0<=l/\l<=c/\(by':Int)*c<=281474976710656/\c<=9223372036854775807/\K (.bs σ.bx.length 0 k l.toNat c.toNat) ⟨σ.tm,σ.bx++[(List.replicate c.toNat (z.map zF)).flatten],σ.nx,σ.lg⟩
  | _=>False
def ztR (P:Program) (L:Option Lay) (s x:C) (nx:Nat) (K:C->Nat->Prop):Prop:=
 match L with
 | some ⟨.slice e,_,_,_⟩=>match lay P e with
  | some ⟨_,k,by',some z⟩=>match x.rows? k with
   | some xs=>match s with
    | .sc (.slice none 0 0)=>z.length=k/\0<k/\xs.length<=9223372036854775807/\xs.length*by'<=140737488355328/\K (.own nx e k xs) (nx+1)
    | .tight k' rows=>k'=k/\z.length=k/\0<k/\rows.length+xs.length<=9223372036854775807/\(rows.length+xs.length)*by'<=140737488355328/\(xs = []->K (.tight k' rows) nx)/\(xs≠[]->K (.own nx e k (rows++xs)) (nx+1))
    | _=>False
   | none=>False
  | _=>False
 | _=>False
def zuJ (L:Option Lay) (e:TypeId) (s x:C) (nx:Nat) (K:C->Nat->Prop):Prop:=
  match L with
  | some ⟨_,k,by',some z⟩=>match x.rows? k with
   | some xs=>match s with
    | .sc (.slice none 0 0)=>z.length=k/\0<k/\xs.length<=9223372036854775807/\xs.length*by'<=140737488355328/\K (.own nx e k xs) (nx+1)
    | .tight k' rows=>k'=k/\z.length=k/\0<k/\rows.length+xs.length<=9223372036854775807/\(rows.length+xs.length)*by'<=140737488355328/\(xs = []->K (.tight k' rows) nx)/\(xs≠[]->K (.own nx e k (rows++xs)) (nx+1))
    | _=>False
   | none=>False
  | _=>False
def zus (xs:Option (List (List C))) (s:C) (e k by':Nat) (z:List Value) (nx:Nat) (K:C->Nat->Prop):Prop:=
 match xs with
   | some xs=>match s with
    | .sc (.slice none 0 0)=>z.length=k/\0<k/\xs.length<=9223372036854775807/\xs.length*by'<=140737488355328/\K (.own nx e k xs) (nx+1)
    | .tight k' rows=>k'=k/\z.length=k/\0<k/\rows.length+xs.length<=9223372036854775807/\(rows.length+xs.length)*by'<=140737488355328/\(xs = []->K (.tight k' rows) nx)/\(xs≠[]->K (.own nx e k (rows++xs)) (nx+1))
    | _=>False
   | none=>False
def zt6 (P:Program) (L:Option Lay) (id e k:Nat) (rows:List (List C)) (x:C) (σ:St) (K:C->St->Prop):Prop:=
   match L with
    | some ⟨.slice e',_,_,_⟩=>match lay P e with
      | some ⟨_,k',by',some z⟩=>match x.rows? k with
        | some xs=>e'=e/\k'=k/\z.length=k/\0<k/\rows.length+xs.length<=9223372036854775807/\(rows.length+xs.length)*by'<=140737488355328/\K (.own id e k (rows++xs)) ⟨zdI id σ.tm,yO id σ.bx,σ.nx,σ.lg⟩
        | none=>False
      | _=>False
    | _=>False
def zsv (L:Option Lay) (e' id e k:Nat) (rows:List (List C)) (x:C) (σ:St) (K:C->St->Prop):Prop:=
  match L with
   | some ⟨_,k',by',some z⟩=>match x.rows? k with
    | some xs=>e'=e/\k'=k/\z.length=k/\0<k/\rows.length+xs.length<=9223372036854775807/\(rows.length+xs.length)*by'<=140737488355328/\K (.own id e k (rows++xs)) ⟨zdI id σ.tm,yO id σ.bx,σ.nx,σ.lg⟩
    | none=>False
   | _=>False
def zs0 (xs:Option (List (List C))) (by' id e k:Nat) (rows:List (List C)) (σ:St) (K:C->St->Prop):Prop:=
   match xs with
        | some xs=>rows.length+xs.length<=9223372036854775807/\(rows.length+xs.length)*by'<=140737488355328/\K (.own id e k (rows++xs)) ⟨zdI id σ.tm,yO id σ.bx,σ.nx,σ.lg⟩
        | none=>False
def zuM (L:Option Lay) (σ:St) (K:C->St->Prop):Prop:=
 match L with
 | some ⟨_,_,_,some z⟩=>(z.all Value.oneCell')=true/\K (.ptr σ.bx.length 0) ⟨σ.tm,σ.bx++[z.map zF],σ.nx,σ.lg⟩
 | _=>False
def zuF (L:Option Lay) (p c:C) (bx:List (List C)) (K:C->Prop):Prop:=
 match L,p with
 | some L,.ptr i off=>match bx[i]? with
  | some cs=>c.partB=true/\(c.cells.all C.cellB)=true/\c.cells.length=L.size/\off+L.size<=cs.length/\UD ((cs.drop off).take L.size) c.cells/\K .any
  | none=>False
 | _,_=>False
def zt4 (cs:Option (List C)) (off size:Nat) (c:C) (K:C->Prop):Prop:=
 match cs with
  | some cs=>c.partB=true/\(c.cells.all C.cellB)=true/\c.cells.length=size/\off+size<=cs.length/\UD ((cs.drop off).take size) c.cells/\K .any
  | none=>False
def zuD (L:Option Lay) (p c:C) (σ:St) (K:C->St->Prop):Prop:=
 match L,p with
 | some L,.ptr i off=>match σ.bx[i]? with
  | some cs=>c.partB=true/\(c.cells.all C.cellB)=true/\c.cells.length=L.size/\off+L.size<=cs.length/\K .any ⟨σ.tm,σ.bx.set i (cs.take off++c.cells++cs.drop (off+L.size)),σ.nx,σ.lg⟩
  | none=>False
 | _,_=>False
def zuw (cs:Option (List C)) (i off size:Nat) (c:C) (σ:St) (K:C->St->Prop):Prop:=
 match cs with
  | some cs=>c.partB=true/\(c.cells.all C.cellB)=true/\c.cells.length=size/\off+size<=cs.length/\K .any ⟨σ.tm,σ.bx.set i (cs.take off++c.cells++cs.drop (off+size)),σ.nx,σ.lg⟩
  | none=>False
def ze6 (cs:Option (List C)) (off n:Nat) (K:C->Prop):Prop:=match cs with
   | some cs=>∃ l:Lz,l.length=n/\(cs.drop off).take n=l.map (fun b=>C.sc (.int .u8 (b.toNat:Int)))/\K (.str l)
   | none=>False
theorem ze6.mk {K:C->Prop} (l:Lz) (hl:l.length=n) (h:(cs.drop off).take n=l.map (fun b=>C.sc (.int .u8 (b.toNat:Int)))) (hK:K (.str l)):ze6 (some cs) off n K:=⟨l,hl,h,hK⟩
def ztW (P:Program) (L:Option Lay) (n:Nat) (parts:List (Nat×C)) (σ:St) (K:C->St->Prop):Prop:=
 match L with
 | some ⟨.slice e,_,_,_⟩=>match lay P e with
  | some ⟨_,k,_,some z⟩=>z.length=k/\0<k/\n*k<=16777216/\(parts.all fun p=>p.2.frz.partB)=true/\match Xt (fun i=>some (i*k,k)) (List.replicate n (z.map zF)).flatten (parts.map fun p=>(p.1,p.2.frz)) with
   | some cs=>(cs.all C.cellB)=true/\cs.length=n*k/\K (.bs σ.bx.length 0 k n n) ⟨σ.tm,σ.bx++[cs],σ.nx,σ.lg⟩
   | none=>False
  | _=>False
 | _=>False
def zt0 (L:Option Lay) (n:Nat) (parts:List (Nat×C)) (σ:St) (K:C->St->Prop):Prop:=
   match L with
    | some ⟨_,k,_,some z⟩=>z.length=k/\0<k/\n*k<=16777216/\(parts.all fun p=>p.2.frz.partB)=true/\match Xt (fun i=>some (i*k,k)) (List.replicate n (z.map zF)).flatten (parts.map fun p=>(p.1,p.2.frz)) with
      | some cs=>(cs.all C.cellB)=true/\cs.length=n*k/\K (.bs σ.bx.length 0 k n n) ⟨σ.tm,σ.bx++[cs],σ.nx,σ.lg⟩
      | none=>False
    | _=>False
def ztZ (cs:Option (List C)) (k n:Nat) (σ:St) (K:C->St->Prop):Prop:=
 match cs with
   | some cs=>(cs.all C.cellB)=true/\cs.length=n*k/\K (.bs σ.bx.length 0 k n n) ⟨σ.tm,σ.bx++[cs],σ.nx,σ.lg⟩
   | none=>False
def zug (P:Program) (L:Option Lay) (p:Nat) (s x:C) (σ:St) (K:C->St->Prop):Prop:=
 match L with
 | some ⟨.slice e,_,_,_⟩=>match lay P e with
  | some ⟨_,k,by',some z⟩=>match x.xs? k σ.bx with
   | some (m,xs)=>z.length=k/\0<k/\(z.all Value.oneCell')=true/\0<m/\match s with
    | .sc (.slice none 0 0)=>m<=9223372036854775807/\m*by'<=140737488355328/\∀ c,m<=c->c<=maxLen->K (.bs σ.bx.length 0 k m c) ⟨σ.tm,σ.bx++[xs++List.replicate ((c-m)*k) .any],σ.nx,σ.lg⟩
    | .bs i 0 k' n c=>match σ.bx[i]? with
     | some cs=>k'=k/\p<=i/\cs.length=c*k/\n<=c/\c<=9223372036854775807/\n+m<=9223372036854775807/\(n+m)*by'<=140737488355328 /\
       ∀ c',n+m<=c'->c'<=maxLen->K (.bs i 0 k (n+m) c') ⟨Gx (Yl i) some σ.tm,Vf i (C.reL (Yl i) some (cs.take (n*k)++xs)++List.replicate ((c'-(n+m))*k) .any) σ.bx,σ.nx,σ.lg⟩
     | none=>False
    | _=>False
   | none=>False
  | _=>False
 | _=>False
def ztT (L:Option Lay) (p:Nat) (s x:C) (σ:St) (K:C->St->Prop):Prop:=
  match L with
  | some ⟨_,k,by',some z⟩=>match x.xs? k σ.bx with
   | some (m,xs)=>z.length=k/\0<k/\(z.all Value.oneCell')=true/\0<m/\match s with
    | .sc (.slice none 0 0)=>m<=9223372036854775807/\m*by'<=140737488355328/\∀ c,m<=c->c<=maxLen->K (.bs σ.bx.length 0 k m c) ⟨σ.tm,σ.bx++[xs++List.replicate ((c-m)*k) .any],σ.nx,σ.lg⟩
    | .bs i 0 k' n c=>match σ.bx[i]? with
     | some cs=>k'=k/\p<=i/\cs.length=c*k/\n<=c/\c<=9223372036854775807/\n+m<=9223372036854775807/\(n+m)*by'<=140737488355328 /\
       ∀ c',n+m<=c'->c'<=maxLen->K (.bs i 0 k (n+m) c') ⟨Gx (Yl i) some σ.tm,Vf i (C.reL (Yl i) some (cs.take (n*k)++xs)++List.replicate ((c'-(n+m))*k) .any) σ.bx,σ.nx,σ.lg⟩
     | none=>False
    | _=>False
   | none=>False
  | _=>False
def zup (X:Option (Nat×List C)) (p k by':Nat) (z:List Value) (s:C) (σ:St) (K:C->St->Prop):Prop:=
  match X with
   | some (m,xs)=>z.length=k/\0<k/\(z.all Value.oneCell')=true/\0<m/\match s with
    | .sc (.slice none 0 0)=>m<=9223372036854775807/\m*by'<=140737488355328/\∀ c,m<=c->c<=maxLen->K (.bs σ.bx.length 0 k m c) ⟨σ.tm,σ.bx++[xs++List.replicate ((c-m)*k) .any],σ.nx,σ.lg⟩
    | .bs i 0 k' n c=>match σ.bx[i]? with
     | some cs=>k'=k/\p<=i/\cs.length=c*k/\n<=c/\c<=9223372036854775807/\n+m<=9223372036854775807/\(n+m)*by'<=140737488355328 /\
       ∀ c',n+m<=c'->c'<=maxLen->K (.bs i 0 k (n+m) c') ⟨Gx (Yl i) some σ.tm,Vf i (C.reL (Yl i) some (cs.take (n*k)++xs)++List.replicate ((c'-(n+m))*k) .any) σ.bx,σ.nx,σ.lg⟩
     | none=>False
    | _=>False
   | none=>False
def bsO (j:Option Nat) (off k n c:Nat):C:=match j with | some j=>.bs j off k n c | none=>.any
def xsB (k' k off n:Nat) (cs:Option (List C)):Option (Nat×List C):=if k'=k then cs.bind fun cs=>if off+n*k<=cs.length then some (n,(cs.drop off).take (n*k)) else none else none
def zr4 (j:Option Nat) (e k:Nat) (rows:List (List C)):C:=match j with | some j=>.own j e k rows | none=>.sl k rows
def ztr (cs:Option (List C)) (off:Nat):C:=match cs with | some cs=>.row ((C.frzL cs).drop off) | none=>.any
def zo6 (j:Option Nat) (off:Nat):C:=match j with | some j=>.ptr j off | none=>.any
def zmm (cs:Option (List C)) (p:Option Tmp) (σ:St) (K:St->Prop):Prop:=match cs,p with
  | some cs,some p=>K ⟨(p,.ptr σ.bx.length 0) :: σ.tm,σ.bx++[cs],σ.nx,σ.lg⟩
  | _,_=>False
def zuB (M:Option (MKd×C)) (t:TypeId) (r:Option C) (nx:Nat) (K:C->Nat->Prop):Prop:=
 match M with
 | some (kd,_)=>match r with
  | none=>K (.mo nx t kd.nil []) (nx+1)
  | some (.sc (.int _ _))=>K (.mo nx t kd.nil []) (nx+1)
  | _=>False
 | none=>False
def zuL (M:Option (MKd×C)) (t:TypeId) (m key:C) (ok:Bool) (K:C->Prop):Prop:=
 match M with
 | some (.int k,z)=>match m,key with
  | .mo _ t' (.int k' l) vs,.sc (.int q n)=>t'=t/\k'=k/\q=k/\H7 (zln n l vs) z ok K
  | _,_=>False
 | some (.str,z)=>match m,key with
  | .mo _ t' (.str l) vs,.str s=>t'=t/\H7 (zln s l vs) z ok K
  | _,_=>False
 | none=>False
def zuo (M:Option (MKd×C)) (t:TypeId) (m key x:C) (σ:St) (K:C->St->Prop):Prop:=
 match M with
 | some (.int k,_)=>match m,key with
  | .mo id t' (.int k' l) vs,.sc (.int q n)=>t'=t/\k'=k/\q=k/\NA id (.int k (HM n x.frz l vs).1) (HM n x.frz l vs).2 σ K
  | _,_=>False
 | some (.str,_)=>match m,key with
  | .mo id t' (.str l) vs,.str s=>t'=t/\NA id (.str (HM s x.frz l vs).1) (HM s x.frz l vs).2 σ K
  | _,_=>False
 | none=>False
def ztN (x:Option (List C)):C:=match x with | some cs=>.row cs | none=>.any
structure Tag.{u} {α:Sort u} (a:α):Type where
def zqm (M:Option (MKd×C)) (t:TypeId) (r:Option C) (nx:Nat) (K:C->Nat->Prop) (_:Tag K):Prop:=zuB M t r nx K
def zqu (M:Option (MKd×C)) (t:TypeId) (m key:C) (ok:Bool) (K:C->Prop) (_:Tag K):Prop:=zuL M t m key ok K
def zhu (r:Option C) (z:C) (ok:Bool) (K:C->Prop) (_:Tag K):Prop:=H7 r z ok K
def zrd (M:Option (MKd×C)) (t:TypeId) (m key x:C) (σ:St) (K:C->St->Prop) (_:Tag K):Prop:=zuo M t m key x σ K
def zhM (sz i off k n cap:Nat) (lo hi mx:Option Int) (K:C->Prop) (_:Tag K):Prop:=zne sz i off k n cap lo hi mx K
def kF (P:Program) (t:TypeId) (s x:C) (σ:St) (K:C->St->Prop) (_:Tag K):Prop:=JT P t s x σ K
def zbb (P:Program) (t tn:TypeId) (s x:C) (σ:St) (K:C->St->Prop) (_:Tag K):Prop:=Md P t tn s x σ K
def yy (P:Program) (t:TypeId) (d x:C) (σ:St) (K:C->St->Prop) (_:Tag K):Prop:=Zx P t d x σ K
def vN (P:Program) (t:TypeId) (x:C) (σ:St) (K:C->St->Prop) (_:Tag K):Prop:=kH P t x σ K
def zqO (x y:C) (K:C->Prop) (_:Tag K):Prop:=zqe x y K
def zrK (P:Program) (t:TypeId) (c:C) (K:C->Prop) (_:Tag K):Prop:=zrj P t c K
def zfH (L:Option Lay) (c:C) (K:C->Prop) (_:Tag K):Prop:=zsy L c K
def vp (P:Program) (bx:List (List C)) (s d:TypeId) (c:C) (K:C->Prop) (_:Tag K):Prop:=zai P bx s d c K
def GH (P:Program) (t:TypeId) (n:Nat) (parts:List (Nat×C)) (σ:St) (K:C->St->Prop) (_:Tag K):Prop:=Vm P t n parts σ K
def zqC (P:Program) (L:Option Lay) (n:Nat) (parts:List (Nat×C)) (σ:St) (K:C->St->Prop) (_:Tag K):Prop:=ztW P L n parts σ K
def zqN (L:Option Lay) (n:Nat) (parts:List (Nat×C)) (σ:St) (K:C->St->Prop) (_:Tag K):Prop:=zt0 L n parts σ K
def zpg (cs:Option (List C)) (k n:Nat) (σ:St) (K:C->St->Prop) (_:Tag K):Prop:=ztZ cs k n σ K
def zaI (P:Program) (p:Nat) (t:TypeId) (s x:C) (σ:St) (K:C->St->Prop) (_:Tag K):Prop:=kf P p t s x σ K
def zqR (P:Program) (L:Option Lay) (p:Nat) (s x:C) (σ:St) (K:C->St->Prop) (_:Tag K):Prop:=zug P L p s x σ K
def zqr (L:Option Lay) (p:Nat) (s x:C) (σ:St) (K:C->St->Prop) (_:Tag K):Prop:=ztT L p s x σ K
def zre (X:Option (Nat×List C)) (p k by':Nat) (z:List Value) (s:C) (σ:St) (K:C->St->Prop) (_:Tag K):Prop:=zup X p k by' z s σ K
def zoQ (c:C) (X Y:Prop) (_:Tag X) (_:Tag Y):Prop:=ABr c X Y
def zkz (c:C) (U X Y:Prop) (_:Tag U) (_:Tag X) (_:Tag Y):Prop:=zl0 c U X Y
def XK (ops:Array Oper) (tm:List (Nat×C)) (g:Option (Nat×Bool)) (X Y:Prop) (_:Tag ops) (_:Tag X) (_:Tag Y):Prop:=jG ops tm g X Y
def ztv (d:Option Tmp) (tm:List (Nat×C)) (want:Bool) (X Y:Prop) (_:Tag X) (_:Tag Y):Prop:=aGd d tm want X Y
def V7 (P:Program) (G:zt) (h:Hd) (c:Code) (Q:Exit->St->Prop) (σ:St) (_:Tag c) (_:Tag Q):Prop:=awp P G h c Q σ
def zfO (P:Program) (G:zt) (h:Hd) (ops:Array Oper) (l:List Oper) (σ:St) (K:St->Prop) (_:Tag h) (_:Tag ops) (_:Tag l) (_:Tag K):Prop:=zp2 P G h ops l σ K
def X2 (P:Program) (G:zt) (h:Hd) (ops:Array Oper) (l:List Oper) (br:List Bool) (σ:St) (K:St->Prop) (_:Tag h) (_:Tag ops) (_:Tag l) (_:Tag K):Prop:=Vl P G h ops l br σ K
def yD (P:Program) (G:zt) (h:Hd) (ops:Array Oper) (br:List Bool) (σ:St) (K:St->Prop) (_:Tag h) (_:Tag ops) (_:Tag K):Prop:=ye P G h ops br σ K
def zo3 (P:Program) (G:zt) (Y:Hd) (ops:Array Oper) (rest:List (Nat×MFl)) (q:Nat) (H:List Hz) (fl:MFl) (oo:Option Oper) (σ:St) (K:St->Prop):Prop:=match oo with
 | none=>False
 | some o=>match fl with
  | .pure=>jG ops σ.tm o.guard (Jy P G σ.bx (zD G σ.tm) o.op σ.nx fun c nx'=>mix P G Y ops rest (q+1) ((q,fun b=>Jy P G b (zD G σ.tm) o.op σ.nx fun c' n'=>c'=c/\n'=nx') :: H) ⟨Jx σ.tm o.dst c,σ.bx,nx',σ.lg⟩ K)
    (mix P G Y ops rest (q+1) H ⟨Jx σ.tm o.dst (.sc undef),σ.bx,σ.nx,σ.lg⟩ K)
  | .bar=>jG ops σ.tm o.guard (Mm P G Y o.op σ fun c σ'=>mix P G Y ops rest (q+1) [] (σ'.put o.dst c) K) (mix P G Y ops rest (q+1) [] (σ.put o.dst (.sc undef)) K)
  | .flt fr=>o.guard=none/\zpM P G o.op σ fun c bx' nx'=>YY fr bx' H/\mix P G Y ops rest (q+1) H ⟨Jx σ.tm o.dst c,bx',nx',σ.lg⟩ K
def HE (P:Program) (G:zt) (h:Hd) (ops:Array Oper) (all:List Oper) (L:List (Nat×MFl)) (q:Nat) (H:List Hz) (σ:St) (K:St->Prop) (_:Tag h) (_:Tag ops) (_:Tag all) (_:Tag H) (_:Tag K):Prop:=mix P G h ops L q H σ K
def Mf (P:Program) (G:zt) (h:Hd) (ops:Array Oper) (all:List Oper) (L:List (Nat×MFl)) (q:Nat) (H:List Hz) (fl:MFl) (i:Nat) (l:List Oper) (σ:St) (K:St->Prop) (_:Tag h) (_:Tag ops) (_:Tag all) (_:Tag H) (_:Tag l) (_:Tag K):Prop:=zo3 P G h ops L q H fl (l[i]?) σ K
def znU (fr:List Nat) (b:List (List C)) (H:List Hz) (_:Tag H):Prop:=YY fr b H
def zgk (P:Program) (G:zt) (f:C) (args:List C) (σ:St) (K:C->List (List C)->Nat->Prop) (_:Tag K):Prop:=zbl P G f args σ K
def ztP (P:Program) (G:zt) (f:FuncId) (args:List C) (σ:St) (K:C->List (List C)->Nat->Prop) (_:Tag K):Prop:=zl3 P G f args σ K
def XI (P:Program) (G:zt) (ops:Array Oper) (a s:Nat) (l:List Oper) (i:Nat) (cs:Option (List C)) (σ:St) (K:St->Prop) (_:Tag ops) (_:Tag l) (_:Tag K):Prop:=jK P G ops a s l i cs σ K
def zlC (cs:Option (List C)) (p:Option Tmp) (σ:St) (K:St->Prop) (_:Tag K):Prop:=zmm cs p σ K
def zlO (L:Option Lay) (K:Prop) (_:Tag K):Prop:=zju L K
def zlQ (L:Option Lay) (c:C) (K:C->Prop) (_:Tag K):Prop:=ziE L c K
def jT (P:Program) (G:zt) (h:Hd) (op:Op) (σ:St) (K:C->St->Prop) (_:Tag h) (_:Tag op) (_:Tag K):Prop:=Mm P G h op σ K
def Zt (P:Program) (G:zt) (f:FuncId) (args fargs:List C) (σ:St) (K:C->St->Prop) (_:Tag K):Prop:=zpP P G f args fargs σ K
def vr (P:Program) (G:zt) (h:Hd) (c:C) (args:List C) (σ:St) (K:C->St->Prop) (_:Tag h) (_:Tag K):Prop:=xx P G h c args σ K
def zaW (y:Yd) (it:Option (List C)) (args:List C) (σ:St) (K:C->St->Prop) (_:Tag y) (_:Tag K):Prop:=N3 y it args σ K
def zfG (P:Program) (G:zt) (p:Nat) (A B:Nat->(Exit->St->Prop)->St->Prop) (Q:Exit->St->Prop) (ps:List Tmp) (c:C) (σ:St) (_:Tag A) (_:Tag B) (_:Tag Q):Prop:=zay P G p A B Q ps c σ
def jF (P:Program) (G:zt) (bx:List (List C)) (ev:Operand->C) (op:Op) (nx:Nat) (K:C->Nat->Prop) (_:Tag ev) (_:Tag op) (_:Tag K):Prop:=Jy P G bx ev op nx K
def zbZ (P:Program) (σ:St) (rs:List ResultVar) (K:C->Prop) (_:Tag K):Prop:=zo5 P σ rs K
def YR (P:Program) (σ:St) (rv:ResultVar) (K:C->Prop) (_:Tag K):Prop:=Yb P σ rv K
def xF (P:Program) (t:TypeId) (op:BinOp) (x y:C) (K:C->Prop) (_:Tag K):Prop:=zpa P t op x y K
def HS (op:BinOp) (k:IntKind) (a b:Int) (K:C->Prop) (_:Tag K):Prop:=zr7 op k a b K
def zaL (l:Option Lay) (op:BinOp) (x:C) (K:C->Prop) (_:Tag K):Prop:=zoy l op x K
def zha (op:BinOp) (b:Bool) (K:C->Prop) (_:Tag K):Prop:=G7 op b K
def zbX (op:BinOp) (a b:Lz) (K:C->Prop) (_:Tag K):Prop:=ztb op a b K
def zlK (op:BinOp) (a b:Bool) (K:C->Prop) (_:Tag K):Prop:=zil op a b K
def zgI (L:Option Lay) (op:BinOp) (a b:Bool) (K:C->Prop) (_:Tag K):Prop:=zqh L op a b K
def zm3 (op:BinOp) (ks:Option (List LK)) (xs ys:List C) (K:C->Prop) (_:Tag K):Prop:=zsR op ks xs ys K
def zh7 (n:Bool) (ks:List LK) (xs ys:List C) (e:Bool) (K:C->Prop) (_:Tag K):Prop:=aEq n ks xs ys e K
def ztk (op:UnOp) (x:C) (K:C->Prop) (_:Tag K):Prop:=aUn op x K
def zbc (P:Program) (t:TypeId) (c:C) (bx:List (List C)) (K:C->Prop) (_:Tag K):Prop:=ut P t c bx K
def u0 (L:Option Lay) (c:C) (bx:List (List C)) (K:C->Prop) (_:Tag K):Prop:=zpF L c bx K
def zgG (cs:Option (List C)) (off:Nat) (L:Lay) (K:C->Prop) (_:Tag K):Prop:=zqL cs off L K
def Uk (L:Lay) (cs:List C) (K:C->Prop) (_:Tag K):Prop:=Yz L cs K
def zmr (x:Option C) (K:C->Prop) (_:Tag K):Prop:=zsl x K
def U4 (c:C) (i:Nat) (K:C->Prop) (_:Tag K):Prop:=U1 c i K
def znY (c:C) (K:C->Prop) (_:Tag K):Prop:=zr6 c K
def ui (P:Program) (t:TypeId) (c:C) (f:Nat) (K:C->Prop) (_:Tag K):Prop:=zbw P t c f K
def zar (L:Option Lay) (c:C) (f:Nat) (K:C->Prop) (_:Tag K):Prop:=y7 L c f K
def zba (f:Option (Nat×Nat×Bool)) (cs:List C) (K:C->Prop) (_:Tag K):Prop:=Ha f cs K
def Zw (P:Program) (t:TypeId) (c:C) (f:Nat) (K:C->Prop) (_:Tag K):Prop:=QH P t c f K
def zrA (L:Option Lay) (c:C) (f:Nat) (K:C->Prop) (_:Tag K):Prop:=zuh L c f K
def zn1 (f:Option (Nat×Nat×Bool)) (c:C) (K:C->Prop) (_:Tag K):Prop:=zrf f c K
def Zq (P:Program) (t:TypeId) (c:C) (i:C) (K:C->Prop) (_:Tag K):Prop:=QM P t c i K
def zob (P:Program) (L:Option Lay) (c:C) (i:C) (K:C->Prop) (_:Tag K):Prop:=zuI P L c i K
def zi9 (L:Option Lay) (c:C) (n:Int) (K:C->Prop) (_:Tag K):Prop:=zua L c n K
def zoj (rows:Option (List (List C))) (n:Int) (K:C->Prop) (_:Tag K):Prop:=zt1 rows n K
def ztI (r:Option (List C)) (n:Int) (K:C->Prop) (_:Tag K):Prop:=aAt r n K
def zrz (L:Option Lay) (c:C) (m:Nat) (n:Int) (K:C->Prop) (_:Tag K):Prop:=zuj L c m n K
def vE (P:Program) (t:TypeId) (c i:C) (K:C->Prop) (_:Tag K):Prop:=zaM P t c i K
def zrp (L:Option Lay) (c i:C) (K:C->Prop) (_:Tag K):Prop:=zsZ L c i K
def zmf (b:Option UInt8) (n:Int) (K:C->Prop) (_:Tag K):Prop:=zmY b n K
def v8 (P:Program) (t:TypeId) (c:C) (lo hi mx:Option C) (K:C->Prop) (_:Tag K):Prop:=zaS P t c lo hi mx K
def zpi (P:Program) (t:TypeId) (c:C) (lo hi mx:Option (Option Int)) (K:C->Prop) (_:Tag K):Prop:=ztY P t c lo hi mx K
def znB (P:Program) (L:Option Lay) (c:C) (lo hi mx:Option Int) (K:C->Prop) (_:Tag K):Prop:=ztH P L c lo hi mx K
def zhY (L:Option Lay) (c:C) (lo hi mx:Option Int) (K:C->Prop) (_:Tag K):Prop:=zt3 L c lo hi mx K
def zpw (k:Nat) (lo hi mx:Option Int) (K:C->Prop) (_:Tag K):Prop:=zp4 k lo hi mx K
def zjb (rows:Option (List (List C))) (k:Nat) (lo hi mx:Option Int) (K:C->Prop) (_:Tag K):Prop:=zt9 rows k lo hi mx K
def zop (rows:Option (List (List C))) (K:C->Prop) (_:Tag K):Prop:=zhg rows K
def zfk (P:Program) (s d:TypeId) (c:C) (K:C->Prop) (_:Tag K):Prop:=zjR P s d c K
def zjg (P:Program) (D S:Option Lay) (c:C) (K:C->Prop) (_:Tag K):Prop:=zun P D S c K
def zpv (L:Option Lay) (c:C) (K:C->Prop) (_:Tag K):Prop:=zux L c K
def vo (P:Program) (t:TypeId) (c:C) (K:C->Prop) (_:Tag K):Prop:=zpj P t c K
def yC (L:Option Lay) (n:Int) (K:C->Prop) (_:Tag K):Prop:=zsu L n K
def zl8 (L:Option Lay) (n:Int) (K:C->Prop) (_:Tag K):Prop:=zs3 L n K
def ud (P:Program) (t:TypeId) (parts:List (Nat×C)) (K:C->Prop) (_:Tag K):Prop:=zbt P t parts K
def zp0 (L:Option Lay) (parts:List (Nat×C)) (K:C->Prop) (_:Tag K):Prop:=ztc L parts K
def ztJ (cs:Option (List C)) (K:C->Prop) (_:Tag K):Prop:=aFl cs K
def QD (P:Program) (t:TypeId) (n:Nat) (parts:List (Nat×C)) (nx:Nat) (K:C->Nat->Prop) (_:Tag K):Prop:=YB P t n parts nx K
def ND (P:Program) (t:TypeId) (n:Nat) (parts:List (Nat×C)) (nx:Nat) (K:C->Nat->Prop) (_:Tag K):Prop:=Nz P t n parts nx K
def zrT (P:Program) (L:Option Lay) (nx:Nat) (K:C->Nat->Prop) (_:Tag K):Prop:=match L with
 | some ⟨.slice e,_,_,_⟩=>match lay P e with
  | some ⟨_,k,_,some z⟩=>z.length=k/\0<k/\K (.tight k []) nx
  | _=>False
 | _=>False
def zpr (L:Option Lay) (nx:Nat) (K:C->Nat->Prop) (_:Tag K):Prop:=match L with
  | some ⟨_,k,_,some z⟩=>z.length=k/\0<k/\K (.tight k []) nx
  | _=>False
def zpE (P:Program) (L:Option Lay) (n:Nat) (parts:List (Nat×C)) (nx:Nat) (K:C->Nat->Prop) (_:Tag K):Prop:=zuA P L n parts nx K
def zq5 (L:Option Lay) (e:TypeId) (n:Nat) (parts:List (Nat×C)) (nx:Nat) (K:C->Nat->Prop) (_:Tag K):Prop:=ztS L e n parts nx K
def zpz (cs:Option (List C)) (e k n nx:Nat) (K:C->Nat->Prop) (_:Tag K):Prop:=zuf cs e k n nx K
def zlY (P:Program) (t:TypeId) (l c:C) (nx:Nat) (K:C->Nat->Prop) (_:Tag K):Prop:=zhU P t l c nx K
def xd (P:Program) (t:TypeId) (l c:C) (σ:St) (K:C->St->Prop) (_:Tag K):Prop:=UR P t l c σ K
def zl7 (P:Program) (L:Option Lay) (l c:C) (σ:St) (K:C->St->Prop) (_:Tag K):Prop:=zth P L l c σ K
def zlR (L:Option Lay) (l c:Int) (σ:St) (K:C->St->Prop) (_:Tag K):Prop:=ztC L l c σ K
def zqc (P:Program) (L:Option Lay) (l c:C) (nx:Nat) (K:C->Nat->Prop) (_:Tag K):Prop:=zud P L l c nx K
def zqG (L:Option Lay) (e:TypeId) (l c:Int) (nx:Nat) (K:C->Nat->Prop) (_:Tag K):Prop:=zur L e l c nx K
def N7 (P:Program) (t:TypeId) (s x:C) (σ:St) (K:C->St->Prop) (_:Tag K):Prop:=NM P t s x σ K
def Ma (P:Program) (t:TypeId) (s x:C) (nx:Nat) (K:C->Nat->Prop) (_:Tag K):Prop:=VR P t s x nx K
def zpQ (P:Program) (L:Option Lay) (s x:C) (nx:Nat) (K:C->Nat->Prop) (_:Tag K):Prop:=ztR P L s x nx K
def zpB (L:Option Lay) (e:TypeId) (s x:C) (nx:Nat) (K:C->Nat->Prop) (_:Tag K):Prop:=zuJ L e s x nx K
def zmP (xs:Option (List (List C))) (s:C) (e k by':Nat) (z:List Value) (nx:Nat) (K:C->Nat->Prop) (_:Tag K):Prop:=zus xs s e k by' z nx K
def zpX (P:Program) (L:Option Lay) (id e k:Nat) (rows:List (List C)) (x:C) (σ:St) (K:C->St->Prop) (_:Tag K):Prop:=zt6 P L id e k rows x σ K
def zpY (L:Option Lay) (e' id e k:Nat) (rows:List (List C)) (x:C) (σ:St) (K:C->St->Prop) (_:Tag K):Prop:=zsv L e' id e k rows x σ K
def zrR (xs:Option (List (List C))) (by' id e k:Nat) (rows:List (List C)) (σ:St) (K:C->St->Prop) (_:Tag K):Prop:=zs0 xs by' id e k rows σ K
def zem (P:Program) (G:zt) (callee:C) (args:List C) (nx:Nat) (K:C->Nat->Prop) (_:Tag K):Prop:=MH P G callee args nx K
def uc (P:Program) (G:zt) (f:FuncId) (args:List C) (nx:Nat) (K:C->Nat->Prop) (_:Tag K):Prop:=zaw P G f args nx K
def zqj (c:C) (σ:St) (K:C->St->Prop) (_:Tag K):Prop:=zr9 c σ K
def zrg (L:Option Lay) (σ:St) (K:C->St->Prop) (_:Tag K):Prop:=zuM L σ K
def zrH (L:Option Lay) (p c:C) (σ:St) (K:C->St->Prop) (_:Tag K):Prop:=zuD L p c σ K
def zqH (L:Option Lay) (p c:C) (bx:List (List C)) (K:C->Prop) (_:Tag K):Prop:=zuF L p c bx K
def zq7 (cs:Option (List C)) (off size:Nat) (c:C) (K:C->Prop) (_:Tag K):Prop:=zt4 cs off size c K
def zq8 (cs:Option (List C)) (i off size:Nat) (c:C) (σ:St) (K:C->St->Prop) (_:Tag K):Prop:=zuw cs i off size c σ K
def zeu (p:Nat) (B:(Exit->St->Prop)->St->Prop) (Q:Exit->St->Prop) (σ:St) (_:Tag B) (_:Tag Q):Prop:=zkp p B Q σ
def zaX (next:St->Prop) (Q:Exit->St->Prop) (_:Tag next) (_:Tag Q):Exit->St->Prop:=zqX next Q
def kP (id:Nat) (Q:Exit->St->Prop) (_:Tag Q):Exit->St->Prop:=yc id Q
def Nv (Q:Exit->St->Prop) (_:Tag Q):Exit->St->Prop:=zeq Q
def zaN (next:St->Prop) (Q:Exit->St->Prop) (_:Tag next) (_:Tag Q):Exit->St->Prop:=zmz next Q
def zma (K:St->Prop) (_:Tag K):Exit->St->Prop:=zoK K
def yX (m:Nat) (tm:List (Nat×C)) (st:Bool) (next:St) (Q:Exit->St->Prop) (_:Tag next) (_:Tag Q):Exit->St->Prop:=zgw m tm st next Q
def MF (P:Program) (rs:List ResultVar) (K:C->St->Prop) (_:Tag K):Exit->St->Prop:=zlD P rs K
theorem zrk:V7 P G h .skip Q σ ⟨⟩ ⟨⟩=Q .normal σ:=(rfl)
theorem zmG {l:Nat}:V7 P G h (.label l) Q σ ⟨⟩ ⟨⟩=Q .normal σ:=(rfl)
theorem zqk {id:Nat}:V7 P G h (.exit id) Q σ ⟨⟩ ⟨⟩=Q (.exit id) σ:=(rfl)
theorem zsx:V7 P G h .ret Q σ ⟨⟩ ⟨⟩=Q .ret σ:=(rfl)
theorem zsN {a b:Code}:V7 P G h (.seq a b) Q σ ⟨⟩ ⟨⟩=V7 P G h a (zaX (fun σ=>V7 P G h b Q σ ⟨⟩ ⟨⟩) Q ⟨⟩ ⟨⟩) σ ⟨⟩ ⟨⟩:=(rfl)
theorem zrQ {cc:Operand} {a b:Code}:V7 P G h (.cond cc a b) Q ⟨tm,bx,nx,lg⟩ ⟨⟩ ⟨⟩=zoQ (zD G tm cc) (V7 P G h a Q ⟨tm,bx,nx,lg⟩ ⟨⟩ ⟨⟩) (V7 P G h b Q ⟨tm,bx,nx,lg⟩ ⟨⟩ ⟨⟩) ⟨⟩ ⟨⟩:=(rfl)
theorem zod {id:Nat} {a:Code}:V7 P G h (.block id a) Q σ ⟨⟩ ⟨⟩=V7 P G h a (kP id Q ⟨⟩) σ ⟨⟩ ⟨⟩:=(rfl)
theorem zrC {a:Code}:V7 P G ⟨p,yd,bf⟩ (.loop a) Q σ ⟨⟩ ⟨⟩=zeu p (fun Q σ=>V7 P G ⟨p,yd,bf⟩ a Q σ ⟨⟩ ⟨⟩) Q σ ⟨⟩ ⟨⟩:=(rfl)
theorem zik {a b:Code} {x:Operand} {ps:List Tmp}:V7 P G ⟨p,yd,bf⟩ (.rangeFunc x ps.toArray a b) Q ⟨tm,bx,nx,lg⟩ ⟨⟩ ⟨⟩=zfG P G p (fun m=>fun Q σ=>V7 P G ⟨m,yd,bf⟩ a Q σ ⟨⟩ ⟨⟩) (fun m=>fun Q σ=>V7 P G ⟨m,yd,bf⟩ b Q σ ⟨⟩ ⟨⟩) Q ps (zD G tm x) ⟨tm,bx,nx,lg⟩ ⟨⟩ ⟨⟩ ⟨⟩:=(rfl)
theorem znN {a:Code}:V7 P G h (.scope a) Q σ ⟨⟩ ⟨⟩=V7 P G h a (Nv Q ⟨⟩) σ ⟨⟩ ⟨⟩:=(rfl)
theorem zkq {id:Nat} {l:List Oper}:V7 P G ⟨p,yd,bf⟩ (.region id l.toArray false) Q σ ⟨⟩ ⟨⟩=zfO P G ⟨p,yd,bf⟩ l.toArray l σ (Q .normal) ⟨⟩ ⟨⟩ ⟨⟩ ⟨⟩:=(rfl)
theorem zf1 {id:Nat} {l:List Oper}:V7 P G ⟨p,yd,bf⟩ (.region id l.toArray true) Q σ ⟨⟩ ⟨⟩=yD P G ⟨p,yd,bf⟩ l.toArray (bf id) σ (Q .normal) ⟨⟩ ⟨⟩ ⟨⟩:=(rfl)
theorem zi1 {l:List Oper}:yD P G h l.toArray [] σ KS ⟨⟩ ⟨⟩ ⟨⟩=X2 P G h l.toArray l [] σ KS ⟨⟩ ⟨⟩ ⟨⟩ ⟨⟩:=(rfl)
theorem ziO {l:List Oper} {r:List Bool}:yD P G h l.toArray (false :: r) σ KS ⟨⟩ ⟨⟩ ⟨⟩=X2 P G h l.toArray l (false :: r) σ KS ⟨⟩ ⟨⟩ ⟨⟩ ⟨⟩:=(rfl)
theorem zjM {l:List Oper} {L:List (Nat×MFl)}:yD P G h l.toArray (Ys L) σ KS ⟨⟩ ⟨⟩ ⟨⟩=HE P G h l.toArray l L 0 [] σ KS ⟨⟩ ⟨⟩ ⟨⟩ ⟨⟩ ⟨⟩:=(show ye P G h l.toArray (Ys L) σ KS=mix P G h l.toArray L 0 [] σ KS from by
 unfold ye Ys;rw[show GL (zeg 199 (unR (zdU L)))=none from rfl,H0];simp only[zdB])
theorem zp6 {all:List Oper}:HE P G h ops all [] q H σ KS ⟨⟩ ⟨⟩ ⟨⟩ ⟨⟩ ⟨⟩=KS σ:=(rfl)
theorem zpy {all:List Oper} {fl:MFl} {L:List (Nat×MFl)}:HE P G h all.toArray all ((i,fl) :: L) q H σ KS ⟨⟩ ⟨⟩ ⟨⟩ ⟨⟩ ⟨⟩=Mf P G h all.toArray all L q H fl i all σ KS ⟨⟩ ⟨⟩ ⟨⟩ ⟨⟩ ⟨⟩ ⟨⟩:=(show mix P G h all.toArray ((i,fl) :: L) q H σ KS=zo3 P G h all.toArray L q H fl (all[i]?) σ KS from rfl)
theorem zp1 {o:Oper} {all l:List Oper} {fl:MFl} {L:List (Nat×MFl)}:Mf P G h ops all L q H fl (i+1) (o :: l) σ KS ⟨⟩ ⟨⟩ ⟨⟩ ⟨⟩ ⟨⟩ ⟨⟩=Mf P G h ops all L q H fl i l σ KS ⟨⟩ ⟨⟩ ⟨⟩ ⟨⟩ ⟨⟩ ⟨⟩:=(show zo3 P G h ops L q H fl ((o :: l)[i+1]?) σ KS=zo3 P G h ops L q H fl (l[i]?) σ KS from rfl)
theorem zqV {all:List Oper} {L:List (Nat×MFl)} {op:Op}:Mf P G h ops all L q H .pure 0 (⟨dst,op,ty,pos,af,g⟩ :: rest) ⟨tm,bx,nx,lg⟩ KS ⟨⟩ ⟨⟩ ⟨⟩ ⟨⟩ ⟨⟩ ⟨⟩ =
  XK ops tm g (jF P G bx (zD G tm) op nx (fun c nx'=>HE P G h ops all L (q+1) ((q,fun b=>jF P G b (zD G tm) op nx (fun c' n'=>c'=c/\n'=nx') ⟨⟩ ⟨⟩ ⟨⟩) :: H) ⟨Jx tm dst c,bx,nx',lg⟩ KS ⟨⟩ ⟨⟩ ⟨⟩ ⟨⟩ ⟨⟩) ⟨⟩ ⟨⟩ ⟨⟩) (HE P G h ops all L (q+1) H ⟨Jx tm dst (.sc undef),bx,nx,lg⟩ KS ⟨⟩ ⟨⟩ ⟨⟩ ⟨⟩ ⟨⟩) ⟨⟩ ⟨⟩ ⟨⟩:=
 (show zo3 P G h ops L q H .pure (some ⟨dst,op,ty,pos,af,g⟩) ⟨tm,bx,nx,lg⟩ KS=_ from rfl)
theorem zqd {all:List Oper} {L:List (Nat×MFl)} {op:Op}:Mf P G h ops all L q H .bar 0 (⟨dst,op,ty,pos,af,g⟩ :: rest) ⟨tm,bx,nx,lg⟩ KS ⟨⟩ ⟨⟩ ⟨⟩ ⟨⟩ ⟨⟩ ⟨⟩ =
  XK ops tm g (jT P G h op ⟨tm,bx,nx,lg⟩ (fun c σ'=>HE P G h ops all L (q+1) [] (σ'.put dst c) KS ⟨⟩ ⟨⟩ ⟨⟩ ⟨⟩ ⟨⟩) ⟨⟩ ⟨⟩ ⟨⟩) (HE P G h ops all L (q+1) [] ((St.mk tm bx nx lg).put dst (.sc undef)) KS ⟨⟩ ⟨⟩ ⟨⟩ ⟨⟩ ⟨⟩) ⟨⟩ ⟨⟩ ⟨⟩:=
 (show zo3 P G h ops L q H .bar (some ⟨dst,op,ty,pos,af,g⟩) ⟨tm,bx,nx,lg⟩ KS=_ from rfl)
theorem zon {all:List Oper} {L:List (Nat×MFl)} {fr:List Nat}:Mf P G h ops all L q H (.flt fr) 0 (⟨dst,.store t x y,ty,pos,af,none⟩ :: rest) ⟨tm,bx,nx,lg⟩ KS ⟨⟩ ⟨⟩ ⟨⟩ ⟨⟩ ⟨⟩ ⟨⟩ =
  jT P G h (.store t x y) ⟨tm,bx,nx,lg⟩ (fun c σ'=>znU fr σ'.bx H ⟨⟩/\HE P G h ops all L (q+1) H ⟨Jx tm dst c,σ'.bx,σ'.nx,lg⟩ KS ⟨⟩ ⟨⟩ ⟨⟩ ⟨⟩ ⟨⟩) ⟨⟩ ⟨⟩ ⟨⟩:=
 (show ((none:Option (Nat×Bool))=none/\Vq P t (zD G tm x) (zD G tm y) ⟨tm,bx,nx,lg⟩ fun c σ'=>YY fr σ'.bx H/\mix P G h ops L (q+1) H ⟨Jx tm dst c,σ'.bx,σ'.nx,lg⟩ KS)=_ from propext ⟨fun h=>h.2,fun h=>⟨rfl,h⟩⟩)
theorem zn6 {all:List Oper} {L:List (Nat×MFl)} {fr:List Nat}:Mf P G h ops all L q H (.flt fr) 0 (⟨dst,.call ⟨.builtin .copy,#[x,y],#[t,t']⟩,ty,pos,af,none⟩ :: rest) ⟨tm,bx,nx,lg⟩ KS ⟨⟩ ⟨⟩ ⟨⟩ ⟨⟩ ⟨⟩ ⟨⟩ =
  yy P t (zD G tm x) (zD G tm y) ⟨tm,bx,nx,lg⟩ (fun c σ'=>znU fr σ'.bx H ⟨⟩/\HE P G h ops all L (q+1) H ⟨Jx tm dst c,σ'.bx,σ'.nx,lg⟩ KS ⟨⟩ ⟨⟩ ⟨⟩ ⟨⟩ ⟨⟩) ⟨⟩:=
 (show ((none:Option (Nat×Bool))=none/\Zx P t (zD G tm x) (zD G tm y) ⟨tm,bx,nx,lg⟩ fun c σ'=>YY fr σ'.bx H/\mix P G h ops L (q+1) H ⟨Jx tm dst c,σ'.bx,σ'.nx,lg⟩ KS)=_ from propext ⟨fun h=>h.2,fun h=>⟨rfl,h⟩⟩)
theorem zoB {all:List Oper} {L:List (Nat×MFl)} {fr:List Nat}:Mf P G h ops all L q H (.flt fr) 0 (⟨dst,.call ⟨.builtin .append,#[x,y],#[t,t]⟩,ty,pos,af,none⟩ :: rest) ⟨tm,bx,nx,lg⟩ KS ⟨⟩ ⟨⟩ ⟨⟩ ⟨⟩ ⟨⟩ ⟨⟩ =
  kF P t (zD G tm x) (zD G tm y) ⟨tm,bx,nx,lg⟩ (fun c σ'=>znU fr σ'.bx H ⟨⟩/\HE P G h ops all L (q+1) H ⟨Jx tm dst c,σ'.bx,σ'.nx,lg⟩ KS ⟨⟩ ⟨⟩ ⟨⟩ ⟨⟩ ⟨⟩) ⟨⟩:=
 (show ((none:Option (Nat×Bool))=none/\t=t/\JT P t (zD G tm x) (zD G tm y) ⟨tm,bx,nx,lg⟩ fun c σ'=>YY fr σ'.bx H/\mix P G h ops L (q+1) H ⟨Jx tm dst c,σ'.bx,σ'.nx,lg⟩ KS)=_ from propext ⟨fun h=>h.2.2,fun h=>⟨rfl,rfl,h⟩⟩)
theorem zpK {all:List Oper} {L:List (Nat×MFl)} {fr:List Nat} {tys:Array TypeId}:Mf P G h ops all L q H (.flt fr) 0 (⟨dst,.call ⟨.value x,us.toArray,tys⟩,ty,pos,af,none⟩ :: rest) ⟨tm,bx,nx,lg⟩ KS ⟨⟩ ⟨⟩ ⟨⟩ ⟨⟩ ⟨⟩ ⟨⟩ =
  zgk P G (zD G tm x) (us.map (zD G tm)) ⟨tm,bx,nx,lg⟩ (fun c b' n'=>znU fr b' H ⟨⟩/\HE P G h ops all L (q+1) H ⟨Jx tm dst c,b',n',lg⟩ KS ⟨⟩ ⟨⟩ ⟨⟩ ⟨⟩ ⟨⟩) ⟨⟩:=
 (show ((none:Option (Nat×Bool))=none/\zbl P G (zD G tm x) (us.map (zD G tm)) ⟨tm,bx,nx,lg⟩ fun c b' n'=>YY fr b' H/\mix P G h ops L (q+1) H ⟨Jx tm dst c,b',n',lg⟩ KS)=_ from propext ⟨fun h=>h.2,fun h=>⟨rfl,h⟩⟩)
theorem zm8 {K4:C->List (List C)->Nat->Prop} {fs:List C}:zgk P G (.clo (.func f) fs cs) args ⟨tm,bx,nx,lg⟩ K4 ⟨⟩=ztP P G f (fs++args++cs) ⟨tm,bx,nx,lg⟩ K4 ⟨⟩:=(rfl)
theorem zom {p:Prop} [Decidable p]:(if p then True else True)=True:=ite_self _
theorem zry {fr:List Nat} {b:List (List C)}:znU fr b [] ⟨⟩=True:=(rfl)
theorem zqi {fr:List Nat} {b:List (List C)} {f:List (List C)->Prop} {r:List Hz}:znU fr b ((k,f) :: r) ⟨⟩=((if k∈fr then f b else True)/\znU fr b r ⟨⟩):=(show ((match fr.contains k with | true=>f b | false=>True)/\YY fr b r)=((if k∈fr then f b else True)/\YY fr b r) from by
 cases hq:fr.contains k with
 | true=>rw[if_pos (by simpa using hq)]
 | false=>rw[if_neg fun h=>by simp[h]at hq])
theorem zjO {l:List Oper} {a s:Nat}:yD P G h l.toArray (qS a s) σ KS ⟨⟩ ⟨⟩ ⟨⟩=XI P G l.toArray a s l 0 none σ KS ⟨⟩ ⟨⟩ ⟨⟩:=(show ye P G h l.toArray (qS a s) σ KS=jK P G l.toArray a s l 0 none σ KS from by unfold ye;rw[xK])
theorem zgc {a s:Nat} {cs:Option (List C)} {l:List Oper}:XI P G l.toArray a s [] i cs σ KS ⟨⟩ ⟨⟩ ⟨⟩=zlC cs ((l[a]?).bind (·.dst)) σ KS ⟨⟩:=(show jK P G l.toArray a s [] i cs σ KS=zmm cs ((l[a]?).bind (·.dst)) σ KS from by simp only[jK,zmm,At];rfl)
theorem zgz {a s:Nat} {cs:Option (List C)}:XI P G ops a s (⟨dst,.alloc t,ty,pos,af,g⟩ :: rest) a cs ⟨tm,bx,nx,lg⟩ KS ⟨⟩ ⟨⟩ ⟨⟩=zlO (lay P t) (XI P G ops a s rest (a+1) cs ⟨Jx tm dst .any,bx,nx,lg⟩ KS ⟨⟩ ⟨⟩ ⟨⟩) ⟨⟩:=(show jK P G ops a s (⟨dst,.alloc t,ty,pos,af,g⟩ :: rest) a cs ⟨tm,bx,nx,lg⟩ KS=zju (lay P t) (jK P G ops a s rest (a+1) cs ⟨Jx tm dst .any,bx,nx,lg⟩ KS) from by simp only[jK,if_true])
theorem zf6 {a s:Nat} {cs:Option (List C)} (hsa:(s==a)=false):XI P G ops a s (⟨dst,.store t y x,ty,pos,af,g⟩ :: rest) s cs ⟨tm,bx,nx,lg⟩ KS ⟨⟩ ⟨⟩ ⟨⟩=zlQ (lay P t) (zD G tm x) (fun c=>XI P G ops a s rest (s+1) (some c.cells) ⟨Jx tm dst .any,bx,nx,lg⟩ KS ⟨⟩ ⟨⟩ ⟨⟩) ⟨⟩:=(show jK P G ops a s (⟨dst,.store t y x,ty,pos,af,g⟩ :: rest) s cs ⟨tm,bx,nx,lg⟩ KS=ziE (lay P t) (zD G tm x) fun c=>jK P G ops a s rest (s+1) (some c.cells) ⟨Jx tm dst .any,bx,nx,lg⟩ KS from by simp only[O1]at hsa;simp only[jK,if_neg hsa,if_true])
theorem zjH {a s:Nat} {cs:Option (List C)} {op:Op} (hia:(i==a)=false) (his:(i==s)=false):XI P G ops a s (⟨dst,op,ty,pos,af,g⟩ :: rest) i cs ⟨tm,bx,nx,lg⟩ KS ⟨⟩ ⟨⟩ ⟨⟩=XK ops tm g (jF P G bx (zD G tm) op nx (fun c nx'=>XI P G ops a s rest (i+1) cs ⟨Jx tm dst c,bx,nx',lg⟩ KS ⟨⟩ ⟨⟩ ⟨⟩) ⟨⟩ ⟨⟩ ⟨⟩) (XI P G ops a s rest (i+1) cs ⟨Jx tm dst (.sc undef),bx,nx,lg⟩ KS ⟨⟩ ⟨⟩ ⟨⟩) ⟨⟩ ⟨⟩ ⟨⟩:=(show jK P G ops a s (⟨dst,op,ty,pos,af,g⟩ :: rest) i cs ⟨tm,bx,nx,lg⟩ KS=jG ops tm g (Jy P G bx (zD G tm) op nx fun c nx'=>jK P G ops a s rest (i+1) cs ⟨Jx tm dst c,bx,nx',lg⟩ KS) (jK P G ops a s rest (i+1) cs ⟨Jx tm dst (.sc undef),bx,nx,lg⟩ KS) from by simp only[O1]at hia his;simp only[jK,if_neg hia,if_neg his])
theorem zqg {u:Tmp}:zlC (some cs) (some u) ⟨tm,bx,nx,lg⟩ KS ⟨⟩=KS ⟨(u,.ptr bx.length 0) :: tm,bx++[cs],nx,lg⟩:=(rfl)
theorem zr1 {z1:List Value}:zlO (some ⟨kd,k,b1,some z1⟩) X ⟨⟩=(z1.length=k/\(z1.all Value.oneCell')=true/\X):=(rfl)
theorem zq6:zlQ (some L) c K ⟨⟩=(c.partB=true/\(c.cells.all C.cellB)=true/\c.cells.length=L.size/\K c):=(rfl)
theorem zr2:zma KS ⟨⟩ .normal σ=KS σ:=(rfl)
theorem zgd {next:St} {b:Bool}:yX m tm b next Q ⟨⟩ ⟨⟩ .normal σ=(b=false/\JW m ⟨[],σ.bx,σ.nx,σ.lg⟩ (next.wt [])):=(rfl)
theorem uz {next:St} {b:Bool}:yX m tm b next Q ⟨⟩ ⟨⟩ .ret σ=(b=true/\∃ σ':St,σ'.bx.length=m/\JW m ⟨[],σ.bx,σ.nx,σ.lg⟩ (σ'.wt [])/\Q .ret (σ'.wt tm)):=(rfl)
theorem zub {tm2:List (Nat×C)}:St.wt ⟨tm,bx,nx,lg⟩ tm2=⟨tm2,bx,nx,lg⟩:=(rfl)
theorem zki:VT [] cs tm=tm:=(rfl)
theorem zmW {ps:List Tmp}:VT (u :: ps) (c :: cs) tm=VT ps cs ((u,c) :: tm):=(rfl)
theorem znm:HG m [] = []:=(rfl)
theorem zqp {r:List (Nat×C)}:HG m ((u,c) :: r)=(u,c.sel (GJ m)) :: HG m r:=(rfl)
theorem zqB {next:St->Prop}:zaX next Q ⟨⟩ ⟨⟩ .normal σ=next σ:=(rfl)
theorem uV {next:St->Prop} {id:Nat}:zaX next Q ⟨⟩ ⟨⟩ (.exit id) σ=Q (.exit id) σ:=(rfl)
theorem zdl {next:St->Prop}:zaX next Q ⟨⟩ ⟨⟩ .ret σ=Q .ret σ:=(rfl)
theorem zhT {id:Nat}:kP id Q ⟨⟩ .normal σ=Q .normal σ:=(rfl)
theorem yf {id:Nat}:kP id Q ⟨⟩ (.exit id) σ=Q .normal σ:=(show yc id Q (.exit id) σ=Q .normal σ from if_pos rfl)
theorem xu {id id2:Nat} (h:(id2==id)=false):kP id Q ⟨⟩ (.exit id2) σ=Q (.exit id2) σ:=(show yc id Q (.exit id2) σ=Q (.exit id2) σ from if_neg (by simpa using h))
theorem vQ {id:Nat}:kP id Q ⟨⟩ .ret σ=Q .ret σ:=(rfl)
theorem zdp:Nv Q ⟨⟩ .normal σ=Q .normal σ:=(rfl)
theorem MU:Nv Q ⟨⟩ .ret σ=Q .ret σ:=(rfl)
theorem zkc {next:St->Prop}:zaN next Q ⟨⟩ ⟨⟩ .normal σ=next σ:=(rfl)
theorem uH {next:St->Prop} {id:Nat}:zaN next Q ⟨⟩ ⟨⟩ (.exit id) σ=Q (.exit id) σ:=(rfl)
theorem zdj {next:St->Prop}:zaN next Q ⟨⟩ ⟨⟩ .ret σ=Q .ret σ:=(rfl)
theorem zmD {rs:List ResultVar}:MF P rs K3 ⟨⟩ .normal σ=zbZ P σ rs (fun c=>K3 c σ) ⟨⟩:=(rfl)
theorem zoH {rs:List ResultVar}:MF P rs K3 ⟨⟩ .ret σ=zbZ P σ rs (fun c=>K3 c σ) ⟨⟩:=(rfl)
theorem zpf:zbZ P σ [] K ⟨⟩=K (.tup []):=(rfl)
theorem zqo {a:ResultVar}:zbZ P σ [a] K ⟨⟩=YR P σ a K ⟨⟩:=(rfl)
theorem zq3 {a b:ResultVar}:zbZ P σ [a,b] K ⟨⟩=YR P σ a (fun c=>YR P σ b (fun d=>K (.tup [c,d])) ⟨⟩) ⟨⟩:=(rfl)
theorem zpR {a b c1:ResultVar}:zbZ P σ [a,b,c1] K ⟨⟩=YR P σ a (fun c=>YR P σ b (fun d=>YR P σ c1 (fun e=>K (.tup [c,d,e])) ⟨⟩) ⟨⟩) ⟨⟩:=(rfl)
theorem zq2:YR P ⟨tm,bx,nx,lg⟩ (.tmp u) K ⟨⟩=K (jW tm u):=(rfl)
theorem zqA:YR P ⟨tm,bx,nx,lg⟩ (.cell u t) K ⟨⟩=zbc P t (jW tm u) bx K ⟨⟩:=(rfl)
theorem zo1:zfO P G h ops [] σ KS ⟨⟩ ⟨⟩ ⟨⟩ ⟨⟩=KS σ:=(rfl)
theorem zrq {op:Op}:zfO P G h ops (⟨dst,op,ty,pos,af,g⟩ :: rest) ⟨tm,bx,nx,lg⟩ KS ⟨⟩ ⟨⟩ ⟨⟩ ⟨⟩=XK ops tm g (jT P G h op ⟨tm,bx,nx,lg⟩ (fun c σ'=>zfO P G h ops rest (σ'.put dst c) KS ⟨⟩ ⟨⟩ ⟨⟩ ⟨⟩) ⟨⟩ ⟨⟩ ⟨⟩) (zfO P G h ops rest (St.put ⟨tm,bx,nx,lg⟩ dst (.sc undef)) KS ⟨⟩ ⟨⟩ ⟨⟩ ⟨⟩) ⟨⟩ ⟨⟩ ⟨⟩:=(rfl)
theorem ziG:X2 P G h ops [] brs σ KS ⟨⟩ ⟨⟩ ⟨⟩ ⟨⟩=KS σ:=(rfl)
theorem ziI {op:Op}:X2 P G h ops (⟨dst,op,ty,pos,af,g⟩ :: rest) [] ⟨tm,bx,nx,lg⟩ KS ⟨⟩ ⟨⟩ ⟨⟩ ⟨⟩=XK ops tm g (jF P G bx (zD G tm) op nx (fun c nx'=>X2 P G h ops rest [] ⟨Jx tm dst c,bx,nx',lg⟩ KS ⟨⟩ ⟨⟩ ⟨⟩ ⟨⟩) ⟨⟩ ⟨⟩ ⟨⟩) (X2 P G h ops rest [] ⟨Jx tm dst (.sc undef),bx,nx,lg⟩ KS ⟨⟩ ⟨⟩ ⟨⟩ ⟨⟩) ⟨⟩ ⟨⟩ ⟨⟩:=(rfl)
theorem zkr {op:Op}:X2 P G h ops (⟨dst,op,ty,pos,af,g⟩ :: rest) (false :: brs) ⟨tm,bx,nx,lg⟩ KS ⟨⟩ ⟨⟩ ⟨⟩ ⟨⟩=XK ops tm g (jF P G bx (zD G tm) op nx (fun c nx'=>X2 P G h ops rest brs ⟨Jx tm dst c,bx,nx',lg⟩ KS ⟨⟩ ⟨⟩ ⟨⟩ ⟨⟩) ⟨⟩ ⟨⟩ ⟨⟩) (X2 P G h ops rest brs ⟨Jx tm dst (.sc undef),bx,nx,lg⟩ KS ⟨⟩ ⟨⟩ ⟨⟩ ⟨⟩) ⟨⟩ ⟨⟩ ⟨⟩:=(rfl)
theorem ziB {op:Op}:X2 P G h ops (⟨dst,op,ty,pos,af,g⟩ :: rest) (true :: brs) ⟨tm,bx,nx,lg⟩ KS ⟨⟩ ⟨⟩ ⟨⟩ ⟨⟩=XK ops tm g (jT P G h op ⟨tm,bx,nx,lg⟩ (fun c σ'=>X2 P G h ops rest brs (σ'.put dst c) KS ⟨⟩ ⟨⟩ ⟨⟩ ⟨⟩) ⟨⟩ ⟨⟩ ⟨⟩) (X2 P G h ops rest brs ⟨Jx tm dst (.sc undef),bx,nx,lg⟩ KS ⟨⟩ ⟨⟩ ⟨⟩ ⟨⟩) ⟨⟩ ⟨⟩ ⟨⟩:=(rfl)
theorem zkb:XK ops tm none X Y ⟨⟩ ⟨⟩ ⟨⟩=X:=(rfl)
theorem zmH {l:List Oper} {want:Bool}:XK l.toArray tm (some (j,want)) X Y ⟨⟩ ⟨⟩ ⟨⟩=ztv ((l[j]?).bind (·.dst)) tm want X Y ⟨⟩ ⟨⟩:=(show jG l.toArray tm (some (j,want)) X Y=aGd ((l[j]?).bind (·.dst)) tm want X Y from by simp only[jG,At];rfl)
theorem zqw {u:Tmp}:ztv (some u) tm true X Y ⟨⟩ ⟨⟩=zkz (jW tm u) Y X Y ⟨⟩ ⟨⟩ ⟨⟩:=(rfl)
theorem zqU {u:Tmp}:ztv (some u) tm false X Y ⟨⟩ ⟨⟩=zkz (jW tm u) Y Y X ⟨⟩ ⟨⟩ ⟨⟩:=(rfl)
theorem znq {U:Prop} {b:Bool}:zkz (.sc (.bool b)) U X Y ⟨⟩ ⟨⟩ ⟨⟩=zoQ (.sc (.bool b)) X Y ⟨⟩ ⟨⟩:=(rfl)
theorem zn7 {U:Prop}:zkz (.sc undef) U X Y ⟨⟩ ⟨⟩ ⟨⟩=U:=(rfl)
theorem zbG {u:Tmp}:St.put ⟨tm,bx,nx,lg⟩ (some u) c=⟨(u,c) :: tm,bx,nx,lg⟩:=(rfl)
theorem zcR:St.put ⟨tm,bx,nx,lg⟩ none c=⟨tm,bx,nx,lg⟩:=(rfl)
theorem vx {u:Tmp}:Jx tm (some u) c=(u,c) :: tm:=(rfl)
theorem vP:Jx tm none c=tm:=(rfl)
theorem HH {ps:List (Nat×Operand)}:jT P G h (.buildSlice t n ps.toArray) ⟨tm,bx,nx,lg⟩ K3 ⟨⟩ ⟨⟩ ⟨⟩=if h.bx t then GH P t n (ps.map fun p=>(p.1,zD G tm p.2)) ⟨tm,bx,nx,lg⟩ K3 ⟨⟩ else QD P t n (ps.map fun p=>(p.1,zD G tm p.2)) nx (fun c nx'=>K3 c ⟨tm,bx,nx',lg⟩) ⟨⟩:=(rfl)
theorem HT {ps:List (Nat×Operand)} {ev:Operand->C}:jF P G bx ev (.buildSlice t n ps.toArray) nx K2 ⟨⟩ ⟨⟩ ⟨⟩=ND P t n (ps.map fun p=>(p.1,ev p.2)) nx K2 ⟨⟩:=(rfl)
theorem zse:ND P t 0 [] nx K2 ⟨⟩=zrT P (lay P t) nx K2 ⟨⟩:=(rfl)
theorem zso:ND P t (n+1) ps nx K2 ⟨⟩=QD P t (n+1) ps nx K2 ⟨⟩:=(rfl)
theorem zty {s:Nat}:zrT P (some ⟨.slice e,s,b,z1⟩) nx K2 ⟨⟩=zpr (lay P e) nx K2 ⟨⟩:=(rfl)
theorem zsG {z1:List Value}:zpr (some ⟨kd,k,b,some z1⟩) nx K2 ⟨⟩=(z1.length=k/\0<k/\K2 (.tight k []) nx):=(rfl)
theorem Me:jT P G h (.makeSlice t x y) ⟨tm,bx,nx,lg⟩ K3 ⟨⟩ ⟨⟩ ⟨⟩=if h.bx t then xd P t (zD G tm x) (zD G tm y) ⟨tm,bx,nx,lg⟩ K3 ⟨⟩ else zlY P t (zD G tm x) (zD G tm y) nx (fun c nx'=>K3 c ⟨tm,bx,nx',lg⟩) ⟨⟩:=(rfl)
theorem zrV:Hd.bx ⟨p,yd,bf⟩ t=(bf (1000000+t)).headD false:=(rfl)
theorem zm7:Hd.bx2 ⟨p,yd,bf⟩ t=((bf (1000000+t)).drop 1).headD false:=(rfl)
theorem ziy:jT P G h (.move x) ⟨tm,bx,nx,lg⟩ K3 ⟨⟩ ⟨⟩ ⟨⟩=K3 (zD G tm x) ⟨tm,bx,nx,lg⟩:=(rfl)
theorem zjh {ev:Operand->C}:jF P G bx ev (.move x) nx K2 ⟨⟩ ⟨⟩ ⟨⟩=K2 (ev x) nx:=(rfl)
theorem zcn:jT P G h (.assign x) ⟨tm,bx,nx,lg⟩ K3 ⟨⟩ ⟨⟩ ⟨⟩=K3 (zD G tm x) ⟨tm,bx,nx,lg⟩:=(rfl)
theorem zck {ev:Operand->C}:jF P G bx ev (.assign x) nx K2 ⟨⟩ ⟨⟩ ⟨⟩=K2 (ev x) nx:=(rfl)
theorem zjm:jT P G h (.pick x y z) ⟨tm,bx,nx,lg⟩ K3 ⟨⟩ ⟨⟩ ⟨⟩=zoQ (zD G tm x) (K3 (zD G tm y) ⟨tm,bx,nx,lg⟩) (K3 (zD G tm z) ⟨tm,bx,nx,lg⟩) ⟨⟩ ⟨⟩:=(rfl)
theorem zjU {ev:Operand->C}:jF P G bx ev (.pick x y z) nx K2 ⟨⟩ ⟨⟩ ⟨⟩=zoQ (ev x) (K2 (ev y) nx) (K2 (ev z) nx) ⟨⟩ ⟨⟩:=(rfl)
theorem zgR {ps:List (Nat×Operand)}:jT P G h (.build t ps.toArray) ⟨tm,bx,nx,lg⟩ K3 ⟨⟩ ⟨⟩ ⟨⟩=ud P t (ps.map fun p=>(p.1,zD G tm p.2)) (fun c=>K3 c ⟨tm,bx,nx,lg⟩) ⟨⟩:=(rfl)
theorem zfg {ps:List (Nat×Operand)} {ev:Operand->C}:jF P G bx ev (.build t ps.toArray) nx K2 ⟨⟩ ⟨⟩ ⟨⟩=ud P t (ps.map fun p=>(p.1,ev p.2)) (fun c=>K2 c nx) ⟨⟩:=(rfl)
theorem zj0:jT P G h (.load t x) ⟨tm,bx,nx,lg⟩ K3 ⟨⟩ ⟨⟩ ⟨⟩=zbc P t (zD G tm x) bx (fun c=>K3 c ⟨tm,bx,nx,lg⟩) ⟨⟩:=(rfl)
theorem zig {ev:Operand->C}:jF P G bx ev (.load t x) nx K2 ⟨⟩ ⟨⟩ ⟨⟩=zbc P t (ev x) bx (fun c=>K2 c nx) ⟨⟩:=(rfl)
theorem MD:jT P G h (.nilCheck x) ⟨tm,bx,nx,lg⟩ K3 ⟨⟩ ⟨⟩ ⟨⟩=znY (zD G tm x) (fun c=>K3 c ⟨tm,bx,nx,lg⟩) ⟨⟩:=(rfl)
theorem Mw {ev:Operand->C}:jF P G bx ev (.nilCheck x) nx K2 ⟨⟩ ⟨⟩ ⟨⟩=znY (ev x) (fun c=>K2 c nx) ⟨⟩:=(rfl)
theorem zgY:jT P G h (.binOp op t x y t') ⟨tm,bx,nx,lg⟩ K3 ⟨⟩ ⟨⟩ ⟨⟩=xF P t op (zD G tm x) (zD G tm y) (fun c=>K3 c ⟨tm,bx,nx,lg⟩) ⟨⟩:=(rfl)
theorem zfP {ev:Operand->C}:jF P G bx ev (.binOp op t x y t') nx K2 ⟨⟩ ⟨⟩ ⟨⟩=xF P t op (ev x) (ev y) (fun c=>K2 c nx) ⟨⟩:=(rfl)
theorem ziD {op:UnOp}:jT P G h (.unOp op t x) ⟨tm,bx,nx,lg⟩ K3 ⟨⟩ ⟨⟩ ⟨⟩=ztk op (zD G tm x) (fun c=>K3 c ⟨tm,bx,nx,lg⟩) ⟨⟩:=(rfl)
theorem zis {op:UnOp} {ev:Operand->C}:jF P G bx ev (.unOp op t x) nx K2 ⟨⟩ ⟨⟩ ⟨⟩=ztk op (ev x) (fun c=>K2 c nx) ⟨⟩:=(rfl)
theorem yY:jT P G h (.convert t t' x) ⟨tm,bx,nx,lg⟩ K3 ⟨⟩ ⟨⟩ ⟨⟩=vp P bx t t' (zD G tm x) (fun c=>K3 c ⟨tm,bx,nx,lg⟩) ⟨⟩:=(rfl)
theorem MJ {fs cs:List Operand}:jT P G h (.makeFunc fn fs.toArray cs.toArray) ⟨tm,bx,nx,lg⟩ K3 ⟨⟩ ⟨⟩ ⟨⟩=K3 (.clo fn (fs.map (zD G tm)) (cs.map (zD G tm))) ⟨tm,bx,nx,lg⟩:=(rfl)
theorem zhX {lo hi mx:Option Operand}:jT P G h (.slice t x lo hi mx) ⟨tm,bx,nx,lg⟩ K3 ⟨⟩ ⟨⟩ ⟨⟩=v8 P t (zD G tm x) (lo.map (zD G tm)) (hi.map (zD G tm)) (mx.map (zD G tm)) (fun c=>K3 c ⟨tm,bx,nx,lg⟩) ⟨⟩:=(rfl)
theorem zh4 {lo hi mx:Option Operand} {ev:Operand->C}:jF P G bx ev (.slice t x lo hi mx) nx K2 ⟨⟩ ⟨⟩ ⟨⟩=v8 P t (ev x) (lo.map ev) (hi.map ev) (mx.map ev) (fun c=>K2 c nx) ⟨⟩:=(rfl)
theorem NZ {f:Nat}:jT P G h (.fieldAddr t x f) ⟨tm,bx,nx,lg⟩ K3 ⟨⟩ ⟨⟩ ⟨⟩=Zw P t (zD G tm x) f (fun c=>K3 c ⟨tm,bx,nx,lg⟩) ⟨⟩:=(rfl)
theorem NB {f:Nat} {ev:Operand->C}:jF P G bx ev (.fieldAddr t x f) nx K2 ⟨⟩ ⟨⟩ ⟨⟩=Zw P t (ev x) f (fun c=>K2 c nx) ⟨⟩:=(rfl)
theorem zgl {f:Nat}:jT P G h (.field t x f) ⟨tm,bx,nx,lg⟩ K3 ⟨⟩ ⟨⟩ ⟨⟩=ui P t (zD G tm x) f (fun c=>K3 c ⟨tm,bx,nx,lg⟩) ⟨⟩:=(rfl)
theorem zge {f:Nat} {ev:Operand->C}:jF P G bx ev (.field t x f) nx K2 ⟨⟩ ⟨⟩ ⟨⟩=ui P t (ev x) f (fun c=>K2 c nx) ⟨⟩:=(rfl)
theorem N9:jT P G h (.indexAddr t x y) ⟨tm,bx,nx,lg⟩ K3 ⟨⟩ ⟨⟩ ⟨⟩=Zq P t (zD G tm x) (zD G tm y) (fun c=>K3 c ⟨tm,bx,nx,lg⟩) ⟨⟩:=(rfl)
theorem Mi {ev:Operand->C}:jF P G bx ev (.indexAddr t x y) nx K2 ⟨⟩ ⟨⟩ ⟨⟩=Zq P t (ev x) (ev y) (fun c=>K2 c nx) ⟨⟩:=(rfl)
theorem zeB:jT P G h (.index t x y) ⟨tm,bx,nx,lg⟩ K3 ⟨⟩ ⟨⟩ ⟨⟩=vE P t (zD G tm x) (zD G tm y) (fun c=>K3 c ⟨tm,bx,nx,lg⟩) ⟨⟩:=(rfl)
theorem zhi {ev:Operand->C}:jF P G bx ev (.index t x y) nx K2 ⟨⟩ ⟨⟩ ⟨⟩=vE P t (ev x) (ev y) (fun c=>K2 c nx) ⟨⟩:=(rfl)
theorem ul:jT P G h (.extract x i) ⟨tm,bx,nx,lg⟩ K3 ⟨⟩ ⟨⟩ ⟨⟩=U4 (zD G tm x) i (fun c=>K3 c ⟨tm,bx,nx,lg⟩) ⟨⟩:=(rfl)
theorem vI {ev:Operand->C}:jF P G bx ev (.extract x i) nx K2 ⟨⟩ ⟨⟩ ⟨⟩=U4 (ev x) i (fun c=>K2 c nx) ⟨⟩:=(rfl)
theorem ze1 {ts:List TypeId}:jT P G h (.call ⟨.value x,us.toArray,ts.toArray⟩) ⟨tm,bx,nx,lg⟩ K3 ⟨⟩ ⟨⟩ ⟨⟩=vr P G h (zD G tm x) (us.map (zD G tm)) ⟨tm,bx,nx,lg⟩ K3 ⟨⟩ ⟨⟩:=(rfl)
theorem zet {ts:List TypeId} {ev:Operand->C}:jF P G bx ev (.call ⟨.value x,us.toArray,ts.toArray⟩) nx K2 ⟨⟩ ⟨⟩ ⟨⟩=zem P G (ev x) (us.map ev) nx K2 ⟨⟩:=(rfl)
theorem znw:jT P G h (.call ⟨.builtin .len,#[x],#[t]⟩) ⟨tm,bx,nx,lg⟩ K3 ⟨⟩ ⟨⟩ ⟨⟩=vo P t (zD G tm x) (fun c=>K3 c ⟨tm,bx,nx,lg⟩) ⟨⟩:=(rfl)
theorem zoX {ev:Operand->C}:jF P G bx ev (.call ⟨.builtin .len,#[x],#[t]⟩) nx K2 ⟨⟩ ⟨⟩ ⟨⟩=vo P t (ev x) (fun c=>K2 c nx) ⟨⟩:=(rfl)
theorem uy {r:Option Operand}:jT P G h (.makeMap t r) ⟨tm,bx,nx,lg⟩ K3 ⟨⟩ ⟨⟩ ⟨⟩=zqm (zdV P t) t (r.map (zD G tm)) nx (fun c nx'=>K3 c ⟨tm,bx,nx',lg⟩) ⟨⟩:=(rfl)
theorem zpC {kd:MKd} {z:C}:zqm (some (kd,z)) t none nx K2 ⟨⟩=K2 (.mo nx t kd.nil []) (nx+1):=(rfl)
theorem zoY {k:IntKind}:MKd.nil (.int k) = .int k []:=(rfl)
theorem zdO {ok:Bool} {ev:Operand->C}:jF P G bx ev (.lookup t x y ok) nx K2 ⟨⟩ ⟨⟩ ⟨⟩=zqu (zdV P t) t (ev x) (ev y) ok (fun c=>K2 c nx) ⟨⟩:=(rfl)
theorem zpm {k q:IntKind} {z:C} {id:Nat} {l:List Int} {n:Int} {ok:Bool}:zqu (some (.int k,z)) t (.mo id t2 (.int k2 l) vs) (.sc (.int q n)) ok K ⟨⟩=(t2=t/\k2=k/\q=k/\zhu (zln n l vs) z ok K ⟨⟩):=(rfl)
theorem zlu {z:C}:zhu (some c) z false K ⟨⟩=K c:=(rfl)
theorem zbS {w:Operand}:jT P G h (.insert t x y w) ⟨tm,bx,nx,lg⟩ K3 ⟨⟩ ⟨⟩ ⟨⟩=zrd (zdV P t) t (zD G tm x) (zD G tm y) (zD G tm w) ⟨tm,bx,nx,lg⟩ K3 ⟨⟩:=(rfl)
theorem zq9 {k q:IntKind} {z:C} {id:Nat} {l:List Int} {n:Int}:zrd (some (.int k,z)) t (.mo id t2 (.int k2 l) vs) (.sc (.int q n)) d ⟨tm,bx,nx,lg⟩ K3 ⟨⟩=(t2=t/\k2=k/\q=k/\K3 .any ⟨zh9 id (.int k (HM n d.frz l vs).1) (HM n d.frz l vs).2 tm,zfC id (.int k (HM n d.frz l vs).1) (HM n d.frz l vs).2 bx,nx,lg⟩):=(rfl)
theorem zcm:jT P G h (.call ⟨.builtin .append,#[x,y],#[t,t]⟩) ⟨tm,bx,nx,lg⟩ K3 ⟨⟩ ⟨⟩ ⟨⟩=if h.bx t then if h.bx2 t then kF P t (zD G tm x) (zD G tm y) ⟨tm,bx,nx,lg⟩ K3 ⟨⟩ else zaI P h.p t (zD G tm x) (zD G tm y) ⟨tm,bx,nx,lg⟩ K3 ⟨⟩ else N7 P t (zD G tm x) (zD G tm y) ⟨tm,bx,nx,lg⟩ K3 ⟨⟩:=(show Mm P G h (.call ⟨.builtin .append,#[x,y],#[t,t]⟩) ⟨tm,bx,nx,lg⟩ K3=if h.bx t then if h.bx2 t then JT P t (zD G tm x) (zD G tm y) ⟨tm,bx,nx,lg⟩ K3 else kf P h.p t (zD G tm x) (zD G tm y) ⟨tm,bx,nx,lg⟩ K3 else NM P t (zD G tm x) (zD G tm y) ⟨tm,bx,nx,lg⟩ K3 from by simp[Mm,uu])
theorem zkk (h0:(t'==t)=false):jT P G h (.call ⟨.builtin .append,#[x,y],#[t,t']⟩) ⟨tm,bx,nx,lg⟩ K3 ⟨⟩ ⟨⟩ ⟨⟩=zbb P t t' (zD G tm x) (zD G tm y) ⟨tm,bx,nx,lg⟩ K3 ⟨⟩:=(show Mm P G h (.call ⟨.builtin .append,#[x,y],#[t,t']⟩) ⟨tm,bx,nx,lg⟩ K3=Md P t t' (zD G tm x) (zD G tm y) ⟨tm,bx,nx,lg⟩ K3 from by simp only[O1]at h0;simp[Mm,uu,h0])
theorem zlw:jT P G h (.call ⟨.builtin .copy,#[x,y],#[t,t']⟩) ⟨tm,bx,nx,lg⟩ K3 ⟨⟩ ⟨⟩ ⟨⟩=yy P t (zD G tm x) (zD G tm y) ⟨tm,bx,nx,lg⟩ K3 ⟨⟩:=(show Mm P G h (.call ⟨.builtin .copy,#[x,y],#[t,t']⟩) ⟨tm,bx,nx,lg⟩ K3=Zx P t (zD G tm x) (zD G tm y) ⟨tm,bx,nx,lg⟩ K3 from by simp[Mm,uu])
theorem zei:jT P G h (.call ⟨.builtin .clear,#[x],#[t]⟩) ⟨tm,bx,nx,lg⟩ K3 ⟨⟩ ⟨⟩ ⟨⟩=vN P t (zD G tm x) ⟨tm,bx,nx,lg⟩ K3 ⟨⟩:=(show Mm P G h (.call ⟨.builtin .clear,#[x],#[t]⟩) ⟨tm,bx,nx,lg⟩ K3=kH P t (zD G tm x) ⟨tm,bx,nx,lg⟩ K3 from by simp[Mm,uu])
theorem zoP:jT P G h (.call ⟨.builtin .max,#[x,y],#[t,t']⟩) ⟨tm,bx,nx,lg⟩ K3 ⟨⟩ ⟨⟩ ⟨⟩=zqO (zD G tm x) (zD G tm y) (fun c=>K3 c ⟨tm,bx,nx,lg⟩) ⟨⟩:=(rfl)
theorem zsz {k k':IntKind} {n m:Int}:zqO (.sc (.int k n)) (.sc (.int k' m)) K ⟨⟩=K (.sc (.int k (if m>n then m else n))):=(rfl)
theorem zm0:jT P G h (.call ⟨.builtin .cap,#[x],#[t]⟩) ⟨tm,bx,nx,lg⟩ K3 ⟨⟩ ⟨⟩ ⟨⟩=zrK P t (zD G tm x) (fun c=>K3 c ⟨tm,bx,nx,lg⟩) ⟨⟩:=(show Mm P G h (.call ⟨.builtin .cap,#[x],#[t]⟩) ⟨tm,bx,nx,lg⟩ K3=zrj P t (zD G tm x) fun c=>K3 c ⟨tm,bx,nx,lg⟩ from by simp[Mm,uu])
theorem zsd:zrK P t c K ⟨⟩=zfH (lay P t) c K ⟨⟩:=(rfl)
theorem zkn:zfH (some ⟨.slice e,s1,b1,z1⟩) (.bs i off k n cap) K ⟨⟩=K (.sc (.int .i64 (cap:Int))):=(rfl)
theorem zhR:zfH (some ⟨.slice e,s1,b1,z1⟩) (.sc (.slice none 0 0)) K ⟨⟩=K (.sc (.int .i64 0)):=(rfl)
theorem zcw {ev:Operand->C}:jF P G bx ev (.call ⟨.builtin .append,#[x,y],#[t,t]⟩) nx K2 ⟨⟩ ⟨⟩ ⟨⟩=Ma P t (ev x) (ev y) nx K2 ⟨⟩:=(show Jy P G bx ev (.call ⟨.builtin .append,#[x,y],#[t,t]⟩) nx K2=VR P t (ev x) (ev y) nx K2 from by simp[Jy,xn,kJ])
theorem zhS:jT P G h (.alloc t) ⟨tm,bx,nx,lg⟩ K3 ⟨⟩ ⟨⟩ ⟨⟩=zrg (lay P t) ⟨tm,bx,nx,lg⟩ K3 ⟨⟩:=(rfl)
theorem znS:jT P G h (.box t x) ⟨tm,bx,nx,lg⟩ K3 ⟨⟩ ⟨⟩ ⟨⟩=zqj (zD G tm x) ⟨tm,bx,nx,lg⟩ K3 ⟨⟩:=(rfl)
theorem zfM:jT P G h (.store t x y) ⟨tm,bx,nx,lg⟩ K3 ⟨⟩ ⟨⟩ ⟨⟩=zrH (lay P t) (zD G tm x) (zD G tm y) ⟨tm,bx,nx,lg⟩ K3 ⟨⟩:=(rfl)
theorem zjw {u:Tmp}:zD G tm (.tmp u)=jW tm u:=(rfl)
theorem zb4:zD G tm (.const v)=zF v:=(rfl)
theorem zeA:zD G tm (.func f) = .clo (.func f) [] []:=(rfl)
theorem vk {g:Nat}:zD G tm (.global g)=ztN (G g):=(rfl)
theorem vK:ztN (some cs) = .row cs:=(rfl)
theorem zp7 {v:Nat} {r:List (Nat×C)}:jW ((u,c) :: r) v=if v=u then c else jW r v:=(rfl)
theorem vi {k:IntKind} {n:Int}:zF (.int k n) = .sc (.int k n):=(rfl)
theorem xm {b:Bool}:zF (.bool b) = .sc (.bool b):=(rfl)
theorem yQ:zF (.string ⟨l.toArray⟩) = .str l:=(rfl)
theorem N8 {a:Option Addr} {m:Nat}:zF (.slice a n m) = .sc (.slice a n m):=(rfl)
theorem vb {a:Option Addr}:zF (.pointer a) = .sc (.pointer a):=(rfl)
theorem uT {a:Option Nat}:zF (.map a) = .sc (.map a):=(rfl)
theorem yG:zF .nilFunc = .sc .nilFunc:=(rfl)
theorem zfy {k:IntKind} {b:Int}:xF P t op (.sc (.int k a)) (.sc (.int k b)) K ⟨⟩=HS op k a b K ⟨⟩:=(show zpa P t op (.sc (.int k a)) (.sc (.int k b)) K=zr7 op k a b K from by simp[zpa])
theorem zeb {a b:Lz}:xF P t op (.str a) (.str b) K ⟨⟩=zbX op a b K ⟨⟩:=(rfl)
theorem zdx {a b:Bool}:xF P t op (.sc (.bool a)) (.sc (.bool b)) K ⟨⟩=zgI (lay P t) op a b K ⟨⟩:=(rfl)
theorem zfD:xF P t op (.agg cs) (.agg ds) K ⟨⟩=zm3 op (Uw P t) cs ds K ⟨⟩:=(rfl)
theorem x5 {rows:List (List C)}:xF P t op (.sl k rows) (.sc (.slice none 0 0)) K ⟨⟩=zaL (lay P t) op (.sl k rows) K ⟨⟩:=(rfl)
theorem zh0 {e0:TypeId} {k0 b0:Nat} {z0:Option (List Value)} {rows:List (List C)}:zaL (some ⟨.slice e0,k0,b0,z0⟩) op (.sl k rows) K ⟨⟩=(rows≠[]/\zha op false K ⟨⟩):=(rfl)
theorem yu {a:Option Addr}:xF P t op (.sc (.slice a n cap)) (.sc (.slice none 0 0)) K ⟨⟩=zaL (lay P t) op (.sc (.slice a n cap)) K ⟨⟩:=(rfl)
theorem zfE {e0:TypeId} {k0 b0:Nat} {z0:Option (List Value)} {a:Option Addr}:zaL (some ⟨.slice e0,k0,b0,z0⟩) op (.sc (.slice a n cap)) K ⟨⟩=zha op a.isNone K ⟨⟩:=(rfl)
theorem zcj {b:Bool}:zha .eql b K ⟨⟩=K (.sc (.bool b)):=(rfl)
theorem zgE:zm3 .eql (some lk) cs ds K ⟨⟩=zh7 false lk cs ds true K ⟨⟩:=(rfl)
theorem zd3:zm3 .neq (some lk) cs ds K ⟨⟩=zh7 true lk cs ds true K ⟨⟩:=(rfl)
theorem zkH {e:Bool}:zh7 false [] [] [] e K ⟨⟩=K (.sc (.bool e)):=(rfl)
theorem zbH {e:Bool}:zh7 true [] [] [] e K ⟨⟩=K (.sc (.bool (!e))):=(rfl)
theorem ziK {n e:Bool} {k k1:IntKind} {b:Int}:zh7 n (.int k :: lk) (.sc (.int k1 a) :: cs) (.sc (.int k2 b) :: ds) e K ⟨⟩=(k1=k/\k2=k/\zh7 n lk cs ds (e&&decide (a=b)) K ⟨⟩):=(rfl)
theorem zhz {n e:Bool} {a b:Bool}:zh7 n (.bool :: lk) (.sc (.bool a) :: cs) (.sc (.bool b) :: ds) e K ⟨⟩=zh7 n lk cs ds (e&&(a==b)) K ⟨⟩:=(rfl)
theorem ziQ {n e:Bool} {a b:Lz}:zh7 n (.str :: lk) (.str a :: cs) (.str b :: ds) e K ⟨⟩=zh7 n lk cs ds (e&&decide (a=b)) K ⟨⟩:=(rfl)
theorem zoM {a b:Bool} {s:Nat}:zgI (some ⟨.bool,s,b1,z1⟩) op a b K ⟨⟩=zlK op a b K ⟨⟩:=(rfl)
theorem zgp {k:IntKind} {b:Int}:HS .add k a b K ⟨⟩=(inR k (a+b)/\K (.sc (.int k (a+b)))):=(rfl)
theorem zhW {k:IntKind} {b:Int}:HS .sub k a b K ⟨⟩=(inR k (a-b)/\K (.sc (.int k (a-b)))):=(rfl)
theorem zd4 {k:IntKind} {b:Int}:HS .shr k a b K ⟨⟩=(b=1/\K (.sc (.int k (a / 2)))):=(rfl)
theorem zg4 {k:IntKind} {b:Int}:HS .eql k a b K ⟨⟩=(K (.sc (.bool (decide (a=b))))):=(rfl)
theorem zgF {k:IntKind} {b:Int}:HS .neq k a b K ⟨⟩=(K (.sc (.bool (!decide (a=b))))):=(rfl)
theorem zf2 {k:IntKind} {b:Int}:HS .lss k a b K ⟨⟩=(K (.sc (.bool (decide (a<b))))):=(rfl)
theorem ze8 {k:IntKind} {b:Int}:HS .leq k a b K ⟨⟩=(K (.sc (.bool (decide (a<=b))))):=(rfl)
theorem zgK {k:IntKind} {b:Int}:HS .gtr k a b K ⟨⟩=(K (.sc (.bool (decide (b<a))))):=(rfl)
theorem zfZ {k:IntKind} {b:Int}:HS .geq k a b K ⟨⟩=(K (.sc (.bool (decide (b<=a))))):=(rfl)
theorem zeR {a b:Lz}:zbX .add a b K ⟨⟩=(((a.length+b.length:Nat):Int)<=9223372036854775807/\K (.str (a++b))):=(rfl)
theorem zht {a b:Lz}:zbX .eql a b K ⟨⟩=(K (.sc (.bool (decide (a=b))))):=(rfl)
theorem zhH {a b:Lz}:zbX .neq a b K ⟨⟩=(K (.sc (.bool (!decide (a=b))))):=(rfl)
theorem zhG {a b:Lz}:zbX .geq a b K ⟨⟩=(K (.sc (.bool (!Op.bytesLess a b)))):=(rfl)
theorem zfs {a b:Lz}:zbX .gtr a b K ⟨⟩=(K (.sc (.bool (!(Op.bytesLess a b||decide (a=b)))))):=(rfl)
theorem zcB {a b:Bool}:zlK .eql a b K ⟨⟩=K (.sc (.bool (a==b))):=(rfl)
theorem zkv {b:Bool}:ztk .not (.sc (.bool b)) K ⟨⟩=K (.sc (.bool (!b))):=(rfl)
theorem zeo:U4 (.tup cs) i K ⟨⟩=zmr (cs[i]?) K ⟨⟩:=(rfl)
theorem zsS:zmr (some c) K ⟨⟩=K c:=(rfl)
theorem zdZ:znY (.ptr i off) K ⟨⟩=K (.ptr i off):=(rfl)
theorem zp5:zbc P t c bx K ⟨⟩=u0 (lay P t) c bx K ⟨⟩:=(rfl)
theorem zeH {ev:Operand->C}:jF P G bx ev (.store t x y) nx K2 ⟨⟩ ⟨⟩ ⟨⟩=zqH (lay P t) (ev x) (ev y) bx (fun c=>K2 c nx) ⟨⟩:=(rfl)
theorem zsh:zqH (some L) (.ptr i off) c bx K ⟨⟩=zq7 (bx[i]?) off L.size c K ⟨⟩:=(rfl)
theorem zti:zq7 (some cs) off size c K ⟨⟩=(c.partB=true/\(c.cells.all C.cellB)=true/\c.cells.length=size/\off+size<=cs.length/\UD ((cs.drop off).take size) c.cells/\K .any):=(rfl)
theorem zcr:UD [] []=True:=(rfl)
theorem zgP {u:Value} {s:List C}:UD (.sc u :: r) (.sc v :: s)=(u=v/\UD r s):=(rfl)
theorem zbQ {u v:Lz} {s:List C}:UD (.str u :: r) (.str v :: s)=(u=v/\UD r s):=(rfl)
theorem zbL:u0 (some L) (.ptr i off) bx K ⟨⟩=zgG (bx[i]?) off L K ⟨⟩:=(rfl)
theorem zcX:u0 (some L) (.row cs) bx K ⟨⟩=Uk L cs K ⟨⟩:=(rfl)
theorem zoC:zgG (some cs) off L K ⟨⟩=Uk L (cs.drop off) K ⟨⟩:=(rfl)
theorem N1 {fs:List (Nat×Nat×Bool)} {s:Nat}:Uk ⟨.struct fs,s,b,z1⟩ cs K ⟨⟩=(s<=cs.length/\K (.agg (cs.take s))):=(show Yz ⟨.struct fs,s,b,z1⟩ cs K=(s<=cs.length/\K (.agg (cs.take s))) from by simp[Yz,LK.agg])
theorem zdr {ik:IntKind} {s:Nat}:Uk ⟨.int ik,s,b,z1⟩ (c :: r) K ⟨⟩=K c:=(show Yz ⟨.int ik,s,b,z1⟩ (c :: r) K=K c from by simp[Yz,LK.agg])
theorem yR {s:Nat}:Uk ⟨.bool,s,b,z1⟩ (c :: r) K ⟨⟩=K c:=(show Yz ⟨.bool,s,b,z1⟩ (c :: r) K=K c from by simp[Yz,LK.agg])
theorem zcK {s:Nat}:Uk ⟨.str,s,b,z1⟩ (c :: r) K ⟨⟩=K c:=(show Yz ⟨.str,s,b,z1⟩ (c :: r) K=K c from by simp[Yz,LK.agg])
theorem xg {e:TypeId} {s:Nat}:Uk ⟨.slice e,s,b,z1⟩ (c :: r) K ⟨⟩=K c:=(show Yz ⟨.slice e,s,b,z1⟩ (c :: r) K=K c from by simp[Yz,LK.agg])
theorem My {s:Nat}:Uk ⟨.other,s,b,z1⟩ (c :: r) K ⟨⟩=K c:=(show Yz ⟨.other,s,b,z1⟩ (c :: r) K=K c from by simp[Yz,LK.agg])
theorem zoV {f:Nat}:ui P t c f K ⟨⟩=zar (lay P t) c f K ⟨⟩:=(rfl)
theorem zjD {fs:List (Nat×Nat×Bool)} {s:Nat} {f:Nat}:zar (some ⟨.struct fs,s,b,z1⟩) (.agg cs) f K ⟨⟩=zba (fs[f]?) cs K ⟨⟩:=(show y7 (some ⟨.struct fs,s,b,z1⟩) (.agg cs) f K=Ha (fs[f]?) cs K from by unfold y7 Ha;simp only[];cases fs[f]?<;>simp)
theorem zeT:zba (some (off,size,false)) cs K ⟨⟩=zmr (cs[off]?) K ⟨⟩:=(show Ha (some (off,size,false)) cs K=zsl (cs[off]?) K from by unfold Ha zsl;simp)
theorem zul {f:Nat}:Zw P t c f K ⟨⟩=zrA (lay P t) c f K ⟨⟩:=(rfl)
theorem zs9 {fs:List (Nat×Nat×Bool)} {s:Nat} {f:Nat}:zrA (some ⟨.struct fs,s,b,z1⟩) c f K ⟨⟩=zn1 (fs[f]?) c K ⟨⟩:=(rfl)
theorem zih {g:Bool}:zn1 (some (off,size+1,g)) (.ptr i q) K ⟨⟩=K (.ptr i (q+off)):=(show zrf (some (off,size+1,g)) (.ptr i q) K=K (.ptr i (q+off)) from by simp[zrf])
theorem zjG {g:Bool}:zn1 (some (off,size+1,g)) (.row cs) K ⟨⟩=K (.row (cs.drop off)):=(show zrf (some (off,size+1,g)) (.row cs) K=K (.row (cs.drop off)) from by simp[zrf])
theorem zuu:Zq P t c d K ⟨⟩=zob P (lay P t) c d K ⟨⟩:=(rfl)
theorem zbD {s:Nat} {k:IntKind} {n:Int}:zob P (some ⟨.slice e,s,b,z1⟩) c (.sc (.int k n)) K ⟨⟩=zi9 (lay P e) c n K ⟨⟩:=(rfl)
theorem zcz {m s:Nat} {k:IntKind} {n:Int}:zob P (some ⟨.array (m+1) e,s,b,z1⟩) c (.sc (.int k n)) K ⟨⟩=zrz (lay P e) c m n K ⟨⟩:=(rfl)
theorem zhP {rows:List (List C)} {n:Int}:zi9 (some L) (.sl k rows) n K ⟨⟩=zoj (C.rows? L.size (.sl k rows)) n K ⟨⟩:=(rfl)
theorem zeN {rows:List (List C)}:zhY (some L) (.sl k rows) lo hi mx K ⟨⟩=zjb (C.rows? L.size (.sl k rows)) L.size lo hi mx K ⟨⟩:=(rfl)
theorem zcE {id:Nat} {rows:List (List C)} {n:Int}:zi9 (some L) (.own id e k rows) n K ⟨⟩=zoj (C.rows? L.size (.own id e k rows)) n K ⟨⟩:=(rfl)
theorem zdm {id:Nat} {rows:List (List C)}:zhY (some L) (.own id e k rows) lo hi mx K ⟨⟩=zjb (C.rows? L.size (.own id e k rows)) L.size lo hi mx K ⟨⟩:=(rfl)
theorem uU {id:Nat} {rows:List (List C)} :vp P bx t t' (.own id e k rows) K ⟨⟩=zfk P t t' (.own id e k rows) K ⟨⟩:=(rfl)
theorem zdz:zhY (some L) (.sc (.slice none 0 0)) lo hi mx K ⟨⟩=zpw L.size lo hi mx K ⟨⟩:=(rfl)
theorem zsi:zpw k lo hi none K ⟨⟩=(j8 0 lo hi/\K (.sc (.slice none 0 0))):=(rfl)
theorem zdH :vp P bx t t' (.sc v) K ⟨⟩=zfk P t t' (.sc v) K ⟨⟩:=(rfl)
theorem zhm {n:Int} {m1:Nat}:zi9 (some L) (.bs j off k m1 cap) n K ⟨⟩=(k=L.size/\0<=n/\n<(m1:Int)/\K (.ptr j (off+n.toNat*L.size))):=(rfl)
theorem zfS:zhY (some L) (.bs i off k n cap) lo hi mx K ⟨⟩=zhM L.size i off k n cap lo hi mx K ⟨⟩:=(rfl)
theorem zk5 {b:Int} {sz:Nat}:zhM sz i off k n cap none (some b) none K ⟨⟩=(n<=cap/\(0<=b/\b<=(cap:Int))/\K (.bs i off k b.toNat cap)):=(rfl)
theorem zky {sz:Nat}:zhM sz i off k n cap (some a) none none K ⟨⟩=(sz=k/\n<=cap/\(0<=a/\a<=(n:Int))/\K (.bs i (off+a.toNat*k) k (n-a.toNat) (cap-a.toNat))):=(rfl)
theorem zjz {b:Int} {sz:Nat}:zhM sz i off k n cap (some a) (some b) none K ⟨⟩=(sz=k/\(0<=a/\a<=b/\b<=(cap:Int))/\K (.bs i (off+a.toNat*k) k (b.toNat-a.toNat) (cap-a.toNat))):=(rfl)
theorem zjL {b m1:Int} {sz:Nat}:zhM sz i off k n cap (some a) (some b) (some m1) K ⟨⟩=(sz=k/\(0<=a/\a<=b/\b<=m1/\m1<=(cap:Int))/\K (.bs i (off+a.toNat*k) k (b.toNat-a.toNat) (m1.toNat-a.toNat))):=(rfl)
theorem ziY:vo P t (.bs i off k n cap) K ⟨⟩=yC (lay P t) (n:Int) K ⟨⟩:=(rfl)
theorem zuH:GH P t n ps ⟨tm,bx,nx,lg⟩ K3 ⟨⟩=zqC P (lay P t) n ps ⟨tm,bx,nx,lg⟩ K3 ⟨⟩:=(rfl)
theorem ztB {s:Nat}:zqC P (some ⟨.slice e,s,b,z1⟩) n ps σ K3 ⟨⟩=zqN (lay P e) n ps σ K3 ⟨⟩:=(rfl)
theorem zss {z1:List Value}:zqN (some ⟨kd,k,b,some z1⟩) n ps σ K3 ⟨⟩=(z1.length=k/\0<k/\n*k<=16777216/\(ps.all fun p=>p.2.frz.partB)=true/\zpg (Xt (plA k) (List.replicate n (z1.map zF)).flatten (ps.map fun p=>(p.1,p.2.frz))) k n σ K3 ⟨⟩):=(rfl)
theorem zsg:zpg (some cs) k n ⟨tm,bx,nx,lg⟩ K3 ⟨⟩=((cs.all C.cellB)=true/\cs.length=n*k/\K3 (.bs bx.length 0 k n n) ⟨tm,bx++[cs],nx,lg⟩):=(rfl)
theorem zui:zaI P p t c d ⟨tm,bx,nx,lg⟩ K3 ⟨⟩=zqR P (lay P t) p c d ⟨tm,bx,nx,lg⟩ K3 ⟨⟩:=(rfl)
theorem zsC {s:Nat}:zqR P (some ⟨.slice e,s,b,z1⟩) p c d σ K3 ⟨⟩=zqr (lay P e) p c d σ K3 ⟨⟩:=(rfl)
theorem ztj {z1:List Value}:zqr (some ⟨kd,k,b,some z1⟩) p c d ⟨tm,bx,nx,lg⟩ K3 ⟨⟩=zre (d.xs? k bx) p k b z1 c ⟨tm,bx,nx,lg⟩ K3 ⟨⟩:=(rfl)
theorem zoI {k2:Nat}:C.xs? k bx (.bs i off k2 n cap)=xsB k2 k off n (bx[i]?):=(rfl)
theorem zpD:xsB k k off n (some cs)=if off+n*k<=cs.length then some (n,(cs.drop off).take (n*k)) else none:=(show xsB k k off n (some cs)=if off+n*k<=cs.length then some (n,(cs.drop off).take (n*k)) else none from by simp[xsB])
theorem znF:Vf i cs bx=(Mp (Yl i) some bx).set i cs:=(rfl)
theorem znE:Yl i j=if j=i then none else some j:=(rfl)
theorem zjJ:C.frz (.bs i off k n cap) = .any:=(show C.frz (.bs i off k n cap) = .any from by rw[C.frz])
theorem zns:C.re fp fo (.bs i off k n cap)=bsO (fp i) off k n cap:=(show C.re fp fo (.bs i off k n cap)=bsO (fp i) off k n cap from by rw[C.re];rfl)
theorem zpN:bsO (some j) off k n cap = .bs j off k n cap:=(rfl)
theorem zq0:bsO none off k n cap = .any:=(rfl)
theorem zcx:C.cellB (.bs i off k n cap)=true:=(rfl)
theorem zdd:C.partB (.bs i off k n cap)=true:=(rfl)
theorem zcW:C.cells (.bs i off k n cap) = [.bs i off k n cap]:=(rfl)
theorem zrc {rows:List (List C)} {n:Int}:zoj (some rows) n K ⟨⟩=ztI (rows[n.toNat]?) n K ⟨⟩:=(rfl)
theorem zt8 {n:Int}:ztI (some r) n K ⟨⟩=(0<=n/\K (.row r)):=(rfl)
theorem zmx {m:Nat} {n:Int}:zrz (some L) (.row cs) m n K ⟨⟩=(0<=n/\n<((m+1:Nat):Int)/\K (.row (cs.drop (n.toNat*L.size)))):=(rfl)
theorem zuc:vE P t c d K ⟨⟩=zrp (lay P t) c d K ⟨⟩:=(rfl)
theorem zsk {s:Nat} {k:IntKind} {n:Int}:zrp (some ⟨.str,s,b,z1⟩) (.str l) (.sc (.int k n)) K ⟨⟩=zmf (l[n.toNat]?) n K ⟨⟩:=(show zsZ (some ⟨.str,s,b,z1⟩) (.str l) (.sc (.int k n)) K=zmY (l[n.toNat]?) n K from by unfold zsZ zmY;simp)
theorem zqD {b:UInt8} {n:Int}:zmf (some b) n K ⟨⟩=(0<=n/\K (.sc (.int .u8 (b.toNat:Int)))):=(rfl)
theorem zue {lo hi mx:Option C}:v8 P t c lo hi mx K ⟨⟩=zpi P t c (za1 lo) (za1 hi) (za1 mx) K ⟨⟩:=(rfl)
theorem zsQ:zpi P t c (some lo) (some hi) (some mx) K ⟨⟩=znB P (lay P t) c lo hi mx K ⟨⟩:=(rfl)
theorem zc6:za1 none=some none:=(rfl)
theorem zf7 {k:IntKind} {n:Int}:za1 (some (.sc (.int k n)))=some (some n):=(rfl)
theorem zjT {s:Nat}:znB P (some ⟨.str,s,b,z1⟩) (.str l) lo hi none K ⟨⟩=(j8 l.length lo hi/\K (.str (cut l lo hi))):=(rfl)
theorem zdD {s:Nat}:znB P (some ⟨.slice e,s,b,z1⟩) c lo hi mx K ⟨⟩=zhY (lay P e) c lo hi mx K ⟨⟩:=(rfl)
theorem zqP {rows:List (List C)}:zjb (some rows) k lo hi none K ⟨⟩=(j8 rows.length lo hi/\K (.sl k (cut rows lo hi))):=(rfl)
theorem zrs {rows:List (List C)} {h m:Int}:zjb (some rows) k lo (some h) (some m) K ⟨⟩=(m=h/\j8 rows.length lo (some h)/\K (.tight k (cut rows lo (some h)))):=(rfl)
theorem zkd {α:Type} {l:List α}:cut l (some a) none=l.drop a.toNat:=(rfl)
theorem zkW {α:Type} {l:List α} {b:Int}:cut l none (some b)=l.take b.toNat:=(rfl)
theorem zjo {α:Type} {l:List α} {b:Int}:cut l (some a) (some b)=(l.take b.toNat).drop a.toNat:=(rfl)
theorem zc3:j8 n (some a) none=(0<=a/\a<=(n:Int)):=(rfl)
theorem zcP {b:Int}:j8 n none (some b)=(0<=b/\b<=(n:Int)):=(rfl)
theorem zdf {b:Int}:j8 n (some a) (some b)=(0<=a/\a<=b/\b<=(n:Int)):=(rfl)
theorem zgu {rows:List (List C)}:C.rows? k (.sl k rows)=some rows:=(show C.rows? k (.sl k rows)=some rows from by simp[C.rows?])
theorem zdk {id:Nat} {rows:List (List C)}:C.rows? k (.own id e k rows)=some rows:=(show C.rows? k (.own id e k rows)=some rows from by simp[C.rows?])
theorem zr0:zfk P t t' c K ⟨⟩=zjg P (lay P t') (lay P t) c K ⟨⟩:=(rfl)
theorem zc4 {k k0:IntKind} {n:Int} {s:Nat}:zjg P (some ⟨.int k,s,b,z1⟩) (some L) (.sc (.int k0 n)) K ⟨⟩=(inR k n/\K (.sc (.int k n))):=(rfl)
theorem zjX {s s2 b2:Nat} {k k0:IntKind} {n:Int}:zjg P (some ⟨.str,s,b,z1⟩) (some ⟨.int k,s2,b2,z2⟩) (.sc (.int k0 n)) K ⟨⟩=K (.str (Utf8.encode n).data.toList):=(rfl)
theorem ziz {s s2 b2:Nat}:zjg P (some ⟨.str,s,b,z1⟩) (some ⟨.slice e,s2,b2,z2⟩) c K ⟨⟩=zpv (lay P e) c K ⟨⟩:=(rfl)
theorem zhh {s:Nat}:zpv (some ⟨.int .u8,s,b,z1⟩) c K ⟨⟩=zop (c.rows? 1) K ⟨⟩:=(rfl)
theorem zeG:vo P t (.str l) K ⟨⟩=zl8 (lay P t) (l.length:Int) K ⟨⟩:=(rfl)
theorem ziC {rows:List (List C)}:vo P t (.sl k rows) K ⟨⟩=yC (lay P t) (rows.length:Int) K ⟨⟩:=(rfl)
theorem ze9 {id:Nat} {rows:List (List C)}:vo P t (.own id e k rows) K ⟨⟩=yC (lay P t) (rows.length:Int) K ⟨⟩:=(rfl)
theorem zeL:vo P t (.sc (.slice none 0 0)) K ⟨⟩=yC (lay P t) 0 K ⟨⟩:=(rfl)
theorem zpt {s:Nat} {n:Int}:yC (some ⟨.slice e,s,b,z1⟩) n K ⟨⟩=K (.sc (.int .i64 n)):=(rfl)
theorem zpZ {s:Nat} {n:Int}:zl8 (some ⟨.str,s,b,z1⟩) n K ⟨⟩=K (.sc (.int .i64 n)):=(rfl)
theorem zoA:ud P t ps K ⟨⟩=zp0 (lay P t) ps K ⟨⟩:=(rfl)
theorem zi7 {fs:List (Nat×Nat×Bool)} {s:Nat} {z1:List Value}:zp0 (some ⟨.struct fs,s,b,some z1⟩) ps K ⟨⟩=((ps.all fun p=>p.2.partB)=true/\ztJ (Xt (plS fs) (z1.map zF) ps) K ⟨⟩):=(show ztc (some ⟨.struct fs,s,b,some z1⟩) ps K=((ps.all fun p=>p.2.partB)=true/\aFl (Xt (plS fs) (z1.map zF) ps) K) from by unfold ztc aFl;simp only[];rfl)
theorem ztX:ztJ (some cs) K ⟨⟩=K (.agg cs):=(rfl)
theorem znu:Xt place cs []=some cs:=(rfl)
theorem zqf {rest:List (Nat×C)}:Xt place cs ((i,c) :: rest)=zmb (place i) place cs c.cells rest:=(rfl)
theorem zmU {l:List C} {rest:List (Nat×C)}:zmb (some (off,size)) place cs l rest=(if l.length=size/\off+size<=cs.length then Xt place (cs.take off++l++cs.drop (off+size)) rest else none):=(rfl)
theorem ztd {fs:List (Nat×Nat×Bool)}:plS fs i=(fs[i]?).map fun f=>(f.1,f.2.1):=(rfl)
theorem zs1:plA k i=some (i*k,k):=(rfl)
theorem ztU:QD P t n ps nx K2 ⟨⟩=zpE P (lay P t) n ps nx K2 ⟨⟩:=(rfl)
theorem ztx {s:Nat}:zpE P (some ⟨.slice e,s,b,z1⟩) n ps nx K2 ⟨⟩=zq5 (lay P e) e n ps nx K2 ⟨⟩:=(rfl)
theorem zsj {z1:List Value}:zq5 (some ⟨kd,k,b,some z1⟩) e n ps nx K2 ⟨⟩=(z1.length=k/\0<k/\n*k<=16777216/\(ps.all fun p=>p.2.frz.partB)=true/\zpz (Xt (plA k) (List.replicate n (z1.map zF)).flatten (ps.map fun p=>(p.1,p.2.frz))) e k n nx K2 ⟨⟩):=(rfl)
theorem zsJ:zpz (some cs) e k n nx K2 ⟨⟩=((cs.all C.cellB)=true/\cs.length=n*k/\K2 (.own nx e k (QZ k n cs)) (nx+1)):=(rfl)
theorem zsq:xd P t c d ⟨tm,bx,nx,lg⟩ K3 ⟨⟩=zl7 P (lay P t) c d ⟨tm,bx,nx,lg⟩ K3 ⟨⟩:=(rfl)
theorem zqy {s:Nat} {k:IntKind} {l m:Int}:zl7 P (some ⟨.slice e,s,b,z1⟩) (.sc (.int k l)) (.sc (.int k2 m)) ⟨tm,bx,nx,lg⟩ K3 ⟨⟩=zlR (lay P e) l m ⟨tm,bx,nx,lg⟩ K3 ⟨⟩:=(rfl)
theorem zqn {z1:List Value} {l m:Int}:zlR (some ⟨kd,k,b,some z1⟩) l m ⟨tm,bx,nx,lg⟩ K3 ⟨⟩=(z1.length=k/\0<k/\(z1.all Value.oneCell')=true/\0<=l/\l<=m/\(b:Int)*m<=281474976710656/\m<=9223372036854775807/\K3 (.bs bx.length 0 k l.toNat m.toNat) ⟨tm,bx++[(List.replicate m.toNat (z1.map zF)).flatten],nx,lg⟩):=(rfl)
theorem zuz:zlY P t c d nx K2 ⟨⟩=zqc P (lay P t) c d nx K2 ⟨⟩:=(rfl)
theorem zsD {s:Nat} {k:IntKind} {l m:Int}:zqc P (some ⟨.slice e,s,b,z1⟩) (.sc (.int k l)) (.sc (.int k2 m)) nx K2 ⟨⟩=zqG (lay P e) e l m nx K2 ⟨⟩:=(rfl)
theorem zs6 {z1:List Value} {l m:Int}:zqG (some ⟨kd,k,b,some z1⟩) e l m nx K2 ⟨⟩=(z1.length=k/\0<k/\(z1.all Value.oneCell')=true/\0<=l/\l<=m/\(b:Int)*m<=281474976710656/\m<=9223372036854775807/\K2 (.own nx e k (List.replicate l.toNat (z1.map zF))) (nx+1)):=(rfl)
theorem zhl {id:Nat} {rows:List (List C)}:N7 P t (.own id e k rows) d ⟨tm,bx,nx,lg⟩ K3 ⟨⟩=zpX P (lay P t) id e k rows d ⟨tm,bx,nx,lg⟩ K3 ⟨⟩:=(rfl)
theorem zgO:N7 P t (.sc (.slice none 0 0)) d ⟨tm,bx,nx,lg⟩ K3 ⟨⟩=Ma P t (.sc (.slice none 0 0)) d nx (fun c nx'=>K3 c ⟨tm,bx,nx',lg⟩) ⟨⟩:=(rfl)
theorem zqT:Ma P t c d nx K2 ⟨⟩=zpQ P (lay P t) c d nx K2 ⟨⟩:=(rfl)
theorem ztu {s:Nat}:zpQ P (some ⟨.slice e,s,b,z1⟩) c d nx K2 ⟨⟩=zpB (lay P e) e c d nx K2 ⟨⟩:=(rfl)
theorem zsH {z1:List Value}:zpB (some ⟨kd,k,b,some z1⟩) e c d nx K2 ⟨⟩=zmP (d.rows? k) c e k b z1 nx K2 ⟨⟩:=(rfl)
theorem zpu {z1:List Value} {xs:List (List C)}:zmP (some xs) (.sc (.slice none 0 0)) e k b z1 nx K2 ⟨⟩=(z1.length=k/\0<k/\xs.length<=9223372036854775807/\xs.length*b<=140737488355328/\K2 (.own nx e k xs) (nx+1)):=(rfl)
theorem zqF {k0:Nat} {z1:List Value} {xs rows:List (List C)}:zmP (some xs) (.tight k0 rows) e k b z1 nx K2 ⟨⟩=(k0=k/\z1.length=k/\0<k/\rows.length+xs.length<=9223372036854775807/\(rows.length+xs.length)*b<=140737488355328/\(xs = []->K2 (.tight k0 rows) nx)/\(¬xs = []->K2 (.own nx e k (rows++xs)) (nx+1))):=(rfl)
theorem zjN {a:Nat} (h:Nat.ble a b=true):a<=b:=OS h
theorem lS:(∀ {α:Type} (a b:List α),(a++b).length=a.length+b.length)/\(∀ {α:Type} (a:α) (b:List α),(a :: b).length=b.length+1)/\(∀ {α:Type},([]:List α).length=0)/\(∀ {α β:Type} (f:α->β) (l:List α),(l.map f).length=l.length)/\(∀ {α:Type} (n:Nat) (l:List α),(l.take n).length=min n l.length)/\∀ {α:Type} (n:Nat) (l:List α),(l.drop n).length=l.length-n:=⟨fun _ _=>Wi,fun _ _=>Wh,Wz,fun _ _=>We _,fun _ _=>Ob,fun _ _=>W1⟩
theorem zto {α:Type} {x:α} {l:List α}:((x :: l) = [])=False:=by simp
theorem ztV {p:Prop}:(True->p)=p:=by simp
theorem zuG {p:Prop}:(False->p)=True:=by simp
theorem zuy:(¬True)=False:=by simp
theorem zt7:(¬False)=True:=by simp
theorem zs2 {e0 s id:Nat} {rows:List (List C)}:zpX P (some ⟨.slice e0,s,b,z1⟩) id e k rows c σ K3 ⟨⟩=zpY (lay P e) e0 id e k rows c σ K3 ⟨⟩:=(rfl)
theorem zsE {k0 e0 id:Nat} {z1:List Value} {rows:List (List C)}:zpY (some ⟨kd,k0,b,some z1⟩) e0 id e k rows c σ K3 ⟨⟩=(e0=e/\k0=k/\z1.length=k/\0<k/\zrR (c.rows? k) b id e k rows σ K3 ⟨⟩):=(show zsv (some ⟨kd,k0,b,some z1⟩) e0 id e k rows c σ K3=(e0=e/\k0=k/\z1.length=k/\0<k/\zs0 (c.rows? k) b id e k rows σ K3) from by unfold zsv zs0;simp only[];cases c.rows? k<;>simp)
theorem zsb {xs rows:List (List C)} {id:Nat}:zrR (some xs) b id e k rows ⟨tm,bx,nx,lg⟩ K3 ⟨⟩=(rows.length+xs.length<=9223372036854775807/\(rows.length+xs.length)*b<=140737488355328/\K3 (.own id e k (rows++xs)) ⟨zdI id tm,yO id bx,nx,lg⟩):=(rfl)
theorem zoe {fs:List C}:vr P G h (.clo (.func f) fs cs) args ⟨tm,bx,nx,lg⟩ K3 ⟨⟩ ⟨⟩=Zt P G f (fs++args++cs) (C.frzL (fs++args++cs)) ⟨tm,bx,nx,lg⟩ K3 ⟨⟩:=(rfl)
theorem zmS {l:Nat} {items:List (List C)} {sf:Nat->Bool}:vr P G ⟨p,some ⟨l,items,sf⟩,bf⟩ (.sc (.func (.yield l) #[] #[])) args ⟨tm,bx,nx,lg⟩ K3 ⟨⟩ ⟨⟩=zaW ⟨l,items,sf⟩ (items[lg]?) args ⟨tm,bx,nx,lg⟩ K3 ⟨⟩ ⟨⟩:=(show xx P G ⟨p,some ⟨l,items,sf⟩,bf⟩ (.sc (.func (.yield l) #[] #[])) args ⟨tm,bx,nx,lg⟩ K3=N3 ⟨l,items,sf⟩ (items[lg]?) args ⟨tm,bx,nx,lg⟩ K3 from by simp[xx,zbp])
theorem zlk {l:Nat} {items:List (List C)} {sf:Nat->Bool} {it:List C}:zaW ⟨l,items,sf⟩ (some it) args ⟨tm,bx,nx,lg⟩ K3 ⟨⟩ ⟨⟩=(zg [] 0 args it/\(∀ j,j<lg->sf j=false)/\K3 (.sc (.bool (!sf lg))) ⟨tm,bx,nx,lg+1⟩):=(rfl)
theorem zqK {ι:List Nat}:upB ι m j=match ι[j]? with | some i=>some i | none=>some (m+(j-ι.length)):=(rfl)
theorem zsT:upO nx j=some (nx+j):=(rfl)
theorem ztq:XY [] i=none:=(rfl)
theorem zsP {x1:Nat} {r:List Nat}:XY (x1 :: r) i=if i=x1 then some 0 else (XY r i).map (·+1):=(rfl)
theorem znv:Gx fp fo [] = []:=(rfl)
theorem zri {r:List (Nat×C)}:Gx fp fo ((u,c) :: r)=(u,c.re fp fo) :: Gx fp fo r:=(rfl)
theorem zog:Mp fp fo [] = []:=(rfl)
theorem zqb {r:List (List C)}:Mp fp fo (cs :: r)=C.reL fp fo cs :: Mp fp fo r:=(rfl)
theorem zjn {l:List (List C)}:VP [] l bx=bx:=(rfl)
theorem zll {ι:List Nat} {r:List (List C)}:VP (i :: ι) (cs :: r) bx=VP ι r (bx.set i cs):=(rfl)
theorem zkM {ι κ:List Nat}:Z8 ι κ bx' n ⟨tm,bx,nx,lg⟩=⟨Gx some (ZV κ) tm,VP ι (Mp (upB ι bx.length) (upO nx) bx') (Mp some (ZV κ) bx)++Mp (upB ι bx.length) (upO nx) (bx'.drop ι.length),nx+n,lg⟩:=(rfl)
theorem zoL {κ:List Nat}:ZV κ i=if i∈κ then none else some i:=(rfl)
theorem zkO:GJ m i=if i<m then some i else none:=(rfl)
theorem zko:Xf m i=if i<m then none else some (i-m):=(rfl)
theorem zow {fs:List C}:zem P G (.clo (.func f) fs cs) args nx K2 ⟨⟩=uc P G f (C.frzL (fs++args++cs)) nx K2 ⟨⟩:=(rfl)
theorem zsm {s:Nat} {z1:List Value}:zrg (some ⟨kd,s,b,some z1⟩) ⟨tm,bx,nx,lg⟩ K3 ⟨⟩=((z1.all Value.oneCell')=true/\K3 (.ptr bx.length 0) ⟨tm,bx++[z1.map zF],nx,lg⟩):=(rfl)
theorem zsY:zqj c ⟨tm,bx,nx,lg⟩ K3 ⟨⟩=(c.partB=true/\(c.cells.all C.cellB)=true/\K3 (.ptr bx.length 0) ⟨tm,bx++[c.cells],nx,lg⟩):=(rfl)
theorem zsf:zrH (some L) (.ptr i off) c ⟨tm,bx,nx,lg⟩ K3 ⟨⟩=zq8 (bx[i]?) i off L.size c ⟨tm,bx,nx,lg⟩ K3 ⟨⟩:=(rfl)
theorem zsa:zq8 (some cs) i off size c ⟨tm,bx,nx,lg⟩ K3 ⟨⟩=(c.partB=true/\(c.cells.all C.cellB)=true/\c.cells.length=size/\off+size<=cs.length/\K3 .any ⟨tm,bx.set i (cs.take off++c.cells++cs.drop (off+size)),nx,lg⟩):=(rfl)
theorem zkt:C.frz (.sc v) = .sc v:=(show C.frz (.sc v) = .sc v from by rw[C.frz])
theorem znP {id:Nat}:C.dg id (.sc v) = .sc v:=(show C.dg id (.sc v) = .sc v from by rw[C.dg])
theorem zml:C.sh n (.sc v) = .sc v:=(show C.sh n (.sc v) = .sc v from by rw[C.sh])
theorem zeh:C.frz (.str l) = .str l:=(show C.frz (.str l) = .str l from by rw[C.frz])
theorem ziH {id:Nat}:C.dg id (.str l) = .str l:=(show C.dg id (.str l) = .str l from by rw[C.dg])
theorem zja:C.sh n (.str l) = .str l:=(show C.sh n (.str l) = .str l from by rw[C.sh])
theorem zjp {rows:List (List C)}:C.frz (.sl k rows) = .sl k rows:=(show C.frz (.sl k rows) = .sl k rows from by rw[C.frz])
theorem zmk {rows:List (List C)} {id:Nat}:C.dg id (.sl k rows) = .sl k rows:=(show C.dg id (.sl k rows) = .sl k rows from by rw[C.dg])
theorem zn3 {rows:List (List C)}:C.sh n (.sl k rows) = .sl k rows:=(show C.sh n (.sl k rows) = .sl k rows from by rw[C.sh])
theorem ux {rows:List (List C)}:C.frz (.tight k rows) = .tight k rows:=(show C.frz (.tight k rows) = .tight k rows from by rw[C.frz])
theorem zhs:C.frz (.row cs) = .row cs:=(show C.frz (.row cs) = .row cs from by rw[C.frz])
theorem ziu {id:Nat}:C.dg id (.row cs) = .row cs:=(show C.dg id (.row cs) = .row cs from by rw[C.dg])
theorem zjy:C.sh n (.row cs) = .row cs:=(show C.sh n (.row cs) = .row cs from by rw[C.sh])
theorem zj6 {id:Nat}:C.dg id (.any) = .any:=(show C.dg id (.any) = .any from by rw[C.dg])
theorem zj5:C.sh n (.any) = .any:=(show C.sh n (.any) = .any from by rw[C.sh])
theorem znA {ks:MK}:C.sh n (.mo i t2 ks vs) = .mo (n+i) t2 ks vs:=(show C.sh n (.mo i t2 ks vs) = .mo (n+i) t2 ks vs from by rw[C.sh])
theorem zm4 {ks:MK}:C.fz bx (.mo i t2 ks vs) = .mo i t2 ks vs:=(show C.fz bx (.mo i t2 ks vs) = .mo i t2 ks vs from by rw[C.fz])
theorem zoJ {id:Nat}:C.up id ks1 vs1 (.sc v) = .sc v:=(show C.up id ks1 vs1 (.sc v) = .sc v from by rw[C.up])
theorem znJ {ks:MK} {id:Nat}:C.up id ks1 vs1 (.mo i t2 ks vs)=if i=id then .mo i t2 ks1 vs1 else .mo i t2 ks vs:=(show C.up id ks1 vs1 (.mo i t2 ks vs)=if i=id then .mo i t2 ks1 vs1 else .mo i t2 ks vs from by rw[C.up])
theorem zbN {id:Nat}:zh9 id ks1 vs1 [] = []:=(rfl)
theorem zqx {r:List (Nat×C)} {id:Nat}:zh9 id ks1 vs1 ((u,c) :: r)=(u,c.up id ks1 vs1) :: zh9 id ks1 vs1 r:=(rfl)
theorem zdi {id:Nat}:zfC id ks1 vs1 [] = []:=(rfl)
theorem zgA {id:Nat} {rows:List (List C)}:C.frz (.own id e k rows) = .sl k rows:=(show C.frz (.own id e k rows) = .sl k rows from by rw[C.frz])
theorem zgh:C.frz (.ptr i off) = .any:=(show C.frz (.ptr i off) = .any from by rw[C.frz])
theorem zif {id:Nat}:C.dg id (.ptr i off) = .ptr i off:=(show C.dg id (.ptr i off) = .ptr i off from by rw[C.dg])
theorem zjv {id:Nat} {rows:List (List C)}:C.dg id (.own i e k rows)=if i=id then .sl k rows else .own i e k rows:=(show C.dg id (.own i e k rows)=if i=id then .sl k rows else .own i e k rows from by rw[C.dg])
theorem zjY {rows:List (List C)}:C.sh n (.own i e k rows) = .own (n+i) e k rows:=(show C.sh n (.own i e k rows) = .own (n+i) e k rows from by rw[C.sh])
theorem znV:C.re fp fo (.sc v) = .sc v:=(show C.re fp fo (.sc v) = .sc v from by rw[C.re])
theorem ziW:C.sel fp (.sc v) = .sc v:=(show C.sel fp (.sc v) = .sc v from by rw[C.sel])
theorem zjS:C.re fp fo (.str l) = .str l:=(show C.re fp fo (.str l) = .str l from by rw[C.re])
theorem zed:C.sel fp (.str l) = .str l:=(show C.sel fp (.str l) = .str l from by rw[C.sel])
theorem zoU {rows:List (List C)}:C.re fp fo (.sl k rows) = .sl k rows:=(show C.re fp fo (.sl k rows) = .sl k rows from by rw[C.re])
theorem zjP {rows:List (List C)}:C.sel fp (.sl k rows) = .sl k rows:=(show C.sel fp (.sl k rows) = .sl k rows from by rw[C.sel])
theorem zb1 {rows:List (List C)}:C.re fp fo (.tight k rows) = .tight k rows:=(show C.re fp fo (.tight k rows) = .tight k rows from by rw[C.re])
theorem zli:C.re fp fo (.row cs) = .row cs:=(show C.re fp fo (.row cs) = .row cs from by rw[C.re])
theorem zfq:C.sel fp (.row cs) = .row cs:=(show C.sel fp (.row cs) = .row cs from by rw[C.sel])
theorem zkw:C.re fp fo (.any) = .any:=(show C.re fp fo (.any) = .any from by rw[C.re])
theorem znn:C.fz bx (.sc v) = .sc v:=(show C.fz bx (.sc v) = .sc v from by rw[C.fz])
theorem zkX:C.fz bx (.str l) = .str l:=(show C.fz bx (.str l) = .str l from by rw[C.fz])
theorem znL {rows:List (List C)}:C.fz bx (.sl k rows) = .sl k rows:=(show C.fz bx (.sl k rows) = .sl k rows from by rw[C.fz])
theorem zlp {id:Nat} {rows:List (List C)}:C.fz bx (.own id e k rows) = .own id e k rows:=(show C.fz bx (.own id e k rows) = .own id e k rows from by rw[C.fz])
theorem zkE:C.fz bx (.row cs) = .row cs:=(show C.fz bx (.row cs) = .row cs from by rw[C.fz])
theorem zjd:C.fz bx (.ptr i off)=ztr (bx[i]?) off:=(show C.fz bx (.ptr i off)=ztr (bx[i]?) off from by rw[C.fz];rfl)
theorem zny:ztr (some cs) off = .row ((C.frzL cs).drop off):=(rfl)
theorem zbK {f:Fn} {a b:Array Value}:Value.oneCell' (.func f a b)=true:=(rfl)
theorem zi3 {id:Nat} {rows:List (List C)}:C.re fp fo (.own id e k rows)=zr4 (fo id) e k rows:=(show C.re fp fo (.own id e k rows)=zr4 (fo id) e k rows from by rw[C.re];rfl)
theorem zlq:C.re fp fo (.ptr i off)=zo6 (fp i) off:=(show C.re fp fo (.ptr i off)=zo6 (fp i) off from by rw[C.re];rfl)
theorem zd2:C.sel fp (.ptr i off)=zo6 (fp i) off:=(show C.sel fp (.ptr i off)=zo6 (fp i) off from by rw[C.sel];rfl)
theorem zoo {rows:List (List C)}:zr4 (some j) e k rows = .own j e k rows:=(rfl)
theorem zmT {rows:List (List C)}:zr4 none e k rows = .sl k rows:=(rfl)
theorem zmF:zo6 (some j) off = .ptr j off:=(rfl)
theorem zmw:zo6 none off = .any:=(rfl)
theorem znO:C.fy nx fr bx (.sc v) = .sc v:=(show C.fy nx fr bx (.sc v) = .sc v from by rw[C.fy])
theorem zno {rows:List (List C)}:C.fy nx fr bx (.sl k rows) = .sl k rows:=(show C.fy nx fr bx (.sl k rows) = .sl k rows from by rw[C.fy])
theorem zor:C.fy nx fr bx (.bs i off k n cap)=UH nx fr i off k n cap:=(show C.fy nx fr bx (.bs i off k n cap)=UH nx fr i off k n cap from by rw[C.fy])
theorem zix {i2 k2 cap2:Nat} {rows:List (List C)} {r:Fr}:UH nx ((i2,e,k2,rows,cap2) :: r) i off k n cap=if i=i2/\off=0/\k=k2/\n=rows.length/\cap=cap2 then .own nx e k2 rows else UH (nx+1) r i off k n cap:=(show UH nx ((i2,e,k2,rows,cap2) :: r) i off k n cap=if i=i2/\off=0/\k=k2/\n=rows.length/\cap=cap2 then .own nx e k2 rows else UH (nx+1) r i off k n cap from by rw[UH])
theorem zj1:C.re fp fo (.agg cs) = .agg (C.reL fp fo cs):=(show C.re fp fo (.agg cs) = .agg (C.reL fp fo cs) from by rw[C.re])
theorem zk4:C.re fp fo (.tup cs) = .tup (C.reL fp fo cs):=(show C.re fp fo (.tup cs) = .tup (C.reL fp fo cs) from by rw[C.re])
theorem zjr {fs:List C}:C.re fp fo (.clo fn fs cs) = .clo fn (C.reL fp fo fs) (C.reL fp fo cs):=(show C.re fp fo (.clo fn fs cs) = .clo fn (C.reL fp fo fs) (C.reL fp fo cs) from by rw[C.re])
theorem zfd:C.reL fp fo [] = []:=(show C.reL fp fo [] = [] from by rw[C.reL])
theorem zcO:C.reL fp fo (c :: r)=C.re fp fo c :: C.reL fp fo r:=(show C.reL fp fo (c :: r)=C.re fp fo c :: C.reL fp fo r from by rw[C.reL])
theorem zgx:C.sel fp (.agg cs) = .agg (C.selL fp cs):=(show C.sel fp (.agg cs) = .agg (C.selL fp cs) from by rw[C.sel])
theorem zfU {fs:List C}:C.sel fp (.clo fn fs cs) = .clo fn (C.selL fp fs) (C.selL fp cs):=(show C.sel fp (.clo fn fs cs) = .clo fn (C.selL fp fs) (C.selL fp cs) from by rw[C.sel])
theorem zcF:C.selL fp [] = []:=(show C.selL fp [] = [] from by rw[C.selL])
theorem uh:C.selL fp (c :: r)=C.sel fp c :: C.selL fp r:=(show C.selL fp (c :: r)=C.sel fp c :: C.selL fp r from by rw[C.selL])
theorem zjA :C.fz bx (.agg cs) = .agg (C.fzL bx cs):=(show C.fz bx (.agg cs) = .agg (C.fzL bx cs) from by rw[C.fz])
theorem zkK :C.fz bx (.tup cs) = .tup (C.fzL bx cs):=(show C.fz bx (.tup cs) = .tup (C.fzL bx cs) from by rw[C.fz])
theorem zjf {fs:List C} :C.fz bx (.clo fn fs cs) = .clo fn (C.fzL bx fs) (C.fzL bx cs):=(show C.fz bx (.clo fn fs cs) = .clo fn (C.fzL bx fs) (C.fzL bx cs) from by rw[C.fz])
theorem ze3:C.fzL bx [] = []:=(show C.fzL bx [] = [] from by rw[C.fzL])
theorem zdJ :C.fzL bx (c :: r)=C.fz bx c :: C.fzL bx r:=(show C.fzL bx (c :: r)=C.fz bx c :: C.fzL bx r from by rw[C.fzL])
theorem zkS:C.fy nx fr bx (.agg cs) = .agg (C.fyL nx fr bx cs):=(show C.fy nx fr bx (.agg cs) = .agg (C.fyL nx fr bx cs) from by rw[C.fy])
theorem zjc:C.fy nx fr bx (.tup cs) = .tup (C.fyL nx fr bx cs):=(show C.fy nx fr bx (.tup cs) = .tup (C.fyL nx fr bx cs) from by rw[C.fy])
theorem zd9:C.fyL nx fr bx [] = []:=(show C.fyL nx fr bx [] = [] from by rw[C.fyL])
theorem zdG:C.fyL nx fr bx (c :: r)=C.fy nx fr bx c :: C.fyL nx fr bx r:=(show C.fyL nx fr bx (c :: r)=C.fy nx fr bx c :: C.fyL nx fr bx r from by rw[C.fyL])
theorem zey:C.frz (.agg cs) = .agg (C.frzL cs):=(show C.frz (.agg cs) = .agg (C.frzL cs) from by rw[C.frz])
theorem zgv {fs:List C}:C.frz (.clo fn fs cs) = .clo fn (C.frzL fs) (C.frzL cs):=(show C.frz (.clo fn fs cs) = .clo fn (C.frzL fs) (C.frzL cs) from by rw[C.frz])
theorem zb6:C.frzL [] = []:=(show C.frzL [] = [] from by rw[C.frzL])
theorem uw:C.frzL (c :: r)=C.frz c :: C.frzL r:=(show C.frzL (c :: r)=C.frz c :: C.frzL r from by rw[C.frzL])
theorem zkh {id:Nat}:C.dg id (.agg cs) = .agg (C.dgL id cs):=(show C.dg id (.agg cs) = .agg (C.dgL id cs) from by rw[C.dg])
theorem ziA {id:Nat}:C.dg id (.tup cs) = .tup (C.dgL id cs):=(show C.dg id (.tup cs) = .tup (C.dgL id cs) from by rw[C.dg])
theorem zka {fs:List C} {id:Nat}:C.dg id (.clo fn fs cs) = .clo fn (C.dgL id fs) (C.dgL id cs):=(show C.dg id (.clo fn fs cs) = .clo fn (C.dgL id fs) (C.dgL id cs) from by rw[C.dg])
theorem zf9 {id:Nat}:C.dgL id [] = []:=(show C.dgL id [] = [] from by rw[C.dgL])
theorem zde {id:Nat}:C.dgL id (c :: r)=C.dg id c :: C.dgL id r:=(show C.dgL id (c :: r)=C.dg id c :: C.dgL id r from by rw[C.dgL])
theorem zlm:C.sh n (.agg cs) = .agg (C.shL n cs):=(show C.sh n (.agg cs) = .agg (C.shL n cs) from by rw[C.sh])
theorem zjt:C.sh n (.tup cs) = .tup (C.shL n cs):=(show C.sh n (.tup cs) = .tup (C.shL n cs) from by rw[C.sh])
theorem zi6 {fs:List C}:C.sh n (.clo fn fs cs) = .clo fn (C.shL n fs) (C.shL n cs):=(show C.sh n (.clo fn fs cs) = .clo fn (C.shL n fs) (C.shL n cs) from by rw[C.sh])
theorem zhd:C.shL n [] = []:=(show C.shL n [] = [] from by rw[C.shL])
theorem zcI:C.shL n (c :: r)=C.sh n c :: C.shL n r:=(show C.shL n (c :: r)=C.sh n c :: C.shL n r from by rw[C.shL])
theorem zcU {id:Nat}:zdI id [] = []:=(rfl)
theorem zqJ {id:Nat} {r:List (Nat×C)}:zdI id ((u,c) :: r)=(u,c.dg id) :: zdI id r:=(rfl)
theorem zdg {id:Nat}:yO id [] = []:=(rfl)
theorem zqS {id:Nat} {r:List (List C)}:yO id (cs :: r)=C.dgL id cs :: yO id r:=(rfl)
theorem vC:C.cellB (.str l)=true:=(rfl)
theorem uE:C.partB (.str l)=true:=(rfl)
theorem vc:C.cells (.str l) = [.str l]:=(rfl)
theorem zdQ {rows:List (List C)}:C.cellB (.sl k rows)=true:=(rfl)
theorem zcy {rows:List (List C)}:C.partB (.sl k rows)=true:=(rfl)
theorem zbI {rows:List (List C)}:C.cells (.sl k rows) = [.sl k rows]:=(rfl)
theorem uB {id:Nat} {rows:List (List C)}:C.cellB (.own id e k rows)=true:=(rfl)
theorem ur {id:Nat} {rows:List (List C)}:C.partB (.own id e k rows)=true:=(rfl)
theorem u7 {id:Nat} {rows:List (List C)}:C.cells (.own id e k rows) = [.own id e k rows]:=(rfl)
theorem vw {fs:List C}:C.cellB (.clo fn fs cs)=true:=(rfl)
theorem vB {fs:List C}:C.partB (.clo fn fs cs)=true:=(rfl)
theorem uR {fs:List C}:C.cells (.clo fn fs cs) = [.clo fn fs cs]:=(rfl)
theorem zct:C.cellB (.sc v)=v.oneCell':=(rfl)
theorem zdq:C.partB (.sc v)=v.oneCell':=(rfl)
theorem zdM:C.cells (.sc v) = [.sc v]:=(rfl)
theorem vu:C.partB (.agg cs)=true:=(rfl)
theorem uK:C.cells (.agg cs)=cs:=(rfl)
theorem zhw {k:IntKind} {n:Int}:Value.oneCell' (.int k n)=true:=(rfl)
theorem zc0 {b:Bool}:Value.oneCell' (.bool b)=true:=(rfl)
theorem yP {a:Option Addr} {m:Nat}:Value.oneCell' (.slice a n m)=true:=(rfl)
theorem xt {s:ByteArray}:Value.oneCell' (.string s)=true:=(rfl)
theorem zoc:QZ k 0 cs = []:=(rfl)
theorem zmC:QZ k (n+1) cs=cs.take k :: QZ k n (cs.drop k):=(rfl)
theorem zm5:UN i [] = []:=(rfl)
theorem zq4:UN i (c :: r)=(i,c) :: UN (i+1) r:=(rfl)
theorem zeY:zoQ (.sc (.bool true)) X Y ⟨⟩ ⟨⟩=X:=zkR
theorem zdb:zoQ (.sc (.bool false)) X Y ⟨⟩ ⟨⟩=Y:=zgL
theorem br {b:Bool} (hx:b=true->X) (hy:b=false->Y):zoQ (.sc (.bool b)) X Y ⟨⟩ ⟨⟩:=ABr.mk hx hy
theorem ju {a1:List C} (ι κ:List Nat) (hf:YJ P G f a1 fbx q post) (hq:κ.length=q) (hι:ι.Nodup) (hκ:κ.Nodup) (hb:∀ i∈ι,i<bx.length)
  (ha:C.reL (XY ι) (XY κ) args=a1) (hx:(ι.map fun i=>C.reL (XY ι) (XY κ) (bx.getD i []))=fbx) (hK:∀ r fbx' n,post r fbx' n->K3 (r.re (upB ι bx.length) (upO nx)) (Z8 ι κ fbx' n ⟨tm,bx,nx,lg⟩)):Zt P G f args fargs ⟨tm,bx,nx,lg⟩ K3 ⟨⟩:=
 .inr <| .inr <| .inr <| .inl ⟨ι,κ,post,hι,hκ,hb,by rw[ha,hq];exact hx▸hf,hK⟩
theorem zoO {K4:C->List (List C)->Nat->Prop} {a1:List C} (ι:List Nat) (hf:YJ P G f a1 fbx 0 post) (hι:ι.Nodup) (hb:∀ i∈ι,i<bx.length)
  (ha:C.reL (XY ι) (XY []) args=a1) (hx:(ι.map fun i=>C.reL (XY ι) (XY []) (bx.getD i []))=fbx) (hK:∀ r fbx' n,post r fbx' n->K4 (r.re (upB ι bx.length) (upO nx)) (Z8 ι [] fbx' n ⟨tm,bx,nx,lg⟩).bx (nx+n)):ztP P G f args ⟨tm,bx,nx,lg⟩ K4 ⟨⟩:=
 ⟨ι,post,hι,hb,by rw[ha];exact hx▸hf,hK⟩
theorem zn4 {r:C} (hf:zsF P f args bx r) (hK:K3 r ⟨tm,bx,nx,lg⟩):Zt P G f args fargs ⟨tm,bx,nx,lg⟩ K3 ⟨⟩:=.inr <| .inr <| .inr <| .inr ⟨r,hf,hK⟩
theorem zmE {m:Nat} {z:Option (List Value)} {xs:List C} (hl:lay P t=some ⟨.slice e,s1,b1,z1⟩) (hle:lay P e=some ⟨kd,k,by',z⟩) (hx:d.xs? k bx=some (m,xs)) (hb:bx[i]?=some cs) (hxl:xs.length=m*k) (hfit:off+n*k<=cs.length)
  (hK:K3 (.sc (.int .i64 ((min m n:Nat):Int))) ⟨tm,bx.set i (spl cs off (xs.take (min m n*k))),nx,lg⟩):yy P t (.bs i off k n cap) d ⟨tm,bx,nx,lg⟩ K3 ⟨⟩:=by
 show Zx P t _ _ _ _;unfold Zx;simp only[hl,hle,hx,hb];exact ⟨trivial,hxl,hfit,hK⟩
theorem zrn {m:Nat} {c:C} {z:Option (List Value)} {xs:List C} (hl:lay P t=some ⟨.slice e,s1,b1,z1⟩) (hle:lay P e=some ⟨kd,k,by',z⟩) (hx:d.xs? k bx=some (m,xs)) (hc:c.rows? k=some []) (hb:∀ i off k n c',c≠.bs i off k n c') (hxl:xs.length=m*k)
  (hK:K3 (.sc (.int .i64 0)) ⟨tm,bx,nx,lg⟩):yy P t c d ⟨tm,bx,nx,lg⟩ K3 ⟨⟩:=by
 show Zx P t _ _ _ _;unfold Zx;simp only[hl,hle,hx];cases c<;>first
  | exact absurd rfl (hb _ _ _ _ _)
  | (simp only[hc];exact ⟨hxl,hK⟩)
theorem zqY {z:List Value} (hl:lay P t=some ⟨.slice e,s1,b1,z1⟩) (hle:lay P e=some ⟨kd,k,by',some z⟩) (hb:bx[i]?=some cs) (hz:z.length=k) (hk:0<k) (h1:(z.all Value.oneCell')=true) (hfit:off+n*k<=cs.length)
  (hK:K3 .any ⟨tm,bx.set i (spl cs off (List.replicate n (z.map zF)).flatten),nx,lg⟩):vN P t (.bs i off k n cap) ⟨tm,bx,nx,lg⟩ K3 ⟨⟩:=by
 show kH P t _ _ _;unfold kH;simp only[hl,hle,hb];exact ⟨trivial,hz,hk,h1,hfit,hK⟩
theorem NC {m:Nat} {z:List Value} {xs:List C} (hl:lay P t=some ⟨.slice e,s1,b1,z1⟩) (hle:lay P e=some ⟨kd,k,by',some z⟩) (hx:d.xs? k bx=some (m,xs)) (hz:z.length=k) (hk:0<k) (h1:(z.all Value.oneCell')=true) (hxl:xs.length=m*k) (hm:0<m) (h63:m<=9223372036854775807) (hby:m*by'<=140737488355328)
  (hK:∀ cap,m<=cap->cap<=9223372036854775807->K3 (.bs bx.length 0 k m cap) ⟨tm,bx++[xs++List.replicate ((cap-m)*k) .any],nx,lg⟩):kF P t (.sc (.slice none 0 0)) d ⟨tm,bx,nx,lg⟩ K3 ⟨⟩:=by
 show JT P t _ _ _ _;unfold JT;simp only[hl,hle,hx];exact ⟨hz,hk,h1,hxl,hm,h63,hby,fun c h1 h2=>hK c h1 (by unfold maxLen at h2;omega)⟩
theorem zat {m:Nat} {z:List Value} {xs:List C} (hl:lay P t=some ⟨.slice e,s1,b1,z1⟩) (hle:lay P e=some ⟨kd,k,by',some z⟩) (hx:d.xs? k bx=some (m,xs)) (hz:z.length=k) (hk:0<k) (h1:(z.all Value.oneCell')=true) (hxl:xs.length=m*k) (h63:m<=9223372036854775807) (hby:m*by'<=140737488355328)
  (h0:m=0->K3 (.tight k []) ⟨tm,bx,nx,lg⟩) (hK:0<m->∀ cap,m<=cap->cap<=9223372036854775807->K3 (.bs bx.length 0 k m cap) ⟨tm,bx++[xs++List.replicate ((cap-m)*k) .any],nx,lg⟩):kF P t (.tight k []) d ⟨tm,bx,nx,lg⟩ K3 ⟨⟩:=by
 show JT P t _ _ _ _;unfold JT;simp only[hl,hle,hx];exact ⟨hz,hk,h1,hxl,trivial,h63,hby,h0,fun hm c h1 h2=>hK hm c h1 (by unfold maxLen at h2;omega)⟩
theorem Q3 {m:Nat} {z:List Value} {xs:List C} (hl:lay P t=some ⟨.slice e,s1,b1,z1⟩) (hle:lay P e=some ⟨kd,k,by',some z⟩) (hx:d.xs? k bx=some (m,xs)) (hz:z.length=k) (hk:0<k) (h1:(z.all Value.oneCell')=true) (hxl:xs.length=m*k)
  (hb:bx[i]?=some cs) (hfit:off+cap*k<=cs.length) (hn:n<=cap) (h63:n+m<=9223372036854775807) (hby:(n+m)*by'<=140737488355328)
  (hK1:n+m<=cap->K3 (.bs i off k (n+m) cap) ⟨tm,bx.set i (spl cs (off+n*k) xs),nx,lg⟩)
  (hK2:cap<n+m->∀ c',n+m<=c'->c'<=9223372036854775807->K3 (.bs bx.length 0 k (n+m) c') ⟨tm,bx++[(cs.drop off).take (n*k)++xs++List.replicate ((c'-(n+m))*k) .any],nx,lg⟩):kF P t (.bs i off k n cap) d ⟨tm,bx,nx,lg⟩ K3 ⟨⟩:=by
 show JT P t _ _ _ _;unfold JT;simp only[hl,hle,hx,hb];exact ⟨hz,hk,h1,hxl,trivial,hfit,hn,h63,hby,hK1,fun h c h1 h2=>hK2 h c h1 (by unfold maxLen at h2;omega)⟩
theorem zgW {tn s2 b2:Nat} {kn kq:IntKind} {z:List Value} {q:Int} (hl:lay P t=some ⟨.slice e,s1,b1,z1⟩) (hln:lay P tn=some ⟨.int kn,s2,b2,z2⟩) (hle:lay P e=some ⟨kd,k,by',some z⟩) (hz:z.length=k) (hk:0<k) (h1:(z.all Value.oneCell')=true)
  (hq:0<q) (h63:q<=9223372036854775807) (hby:q*by'<=140737488355328) (hK:∀ c',q.toNat<=c'->c'<=maxLen->K3 (.bs bx.length 0 k q.toNat c') ⟨tm,bx++[(List.replicate q.toNat (z.map zF)).flatten++List.replicate ((c'-q.toNat)*k) .any],nx,lg⟩) :
  zbb P t tn (.sc (.slice none 0 0)) (.sc (.int kq q)) ⟨tm,bx,nx,lg⟩ K3 ⟨⟩:=by
 show Md P t tn _ _ _ _;unfold Md;simp only[hl,hln,hle];exact ⟨hz,hk,h1,hq,h63,hby,hK⟩
theorem zuq {tn s2 b2:Nat} {kn kq:IntKind} {z:List Value} {q:Int} (hl:lay P t=some ⟨.slice e,s1,b1,z1⟩) (hln:lay P tn=some ⟨.int kn,s2,b2,z2⟩) (hle:lay P e=some ⟨kd,k,by',some z⟩) (hz:z.length=k) (hk:0<k) (h1:(z.all Value.oneCell')=true)
  (hb:bx[i]?=some cs) (hfit:off+cap*k<=cs.length) (hn:n<=cap) (hq:0<q) (h63:(n:Int)+q<=9223372036854775807) (hby:((n:Int)+q)*by'<=140737488355328) (hg:(cap:Int)<n+q)
  (hK:∀ c',n+q.toNat<=c'->c'<=9223372036854775807->K3 (.bs bx.length 0 k (n+q.toNat) c') ⟨tm,bx++[(cs.drop off).take (n*k)++(List.replicate q.toNat (z.map zF)).flatten++List.replicate ((c'-(n+q.toNat))*k) .any],nx,lg⟩):zbb P t tn (.bs i off k n cap) (.sc (.int kq q)) ⟨tm,bx,nx,lg⟩ K3 ⟨⟩:=by
 show Md P t tn _ _ _ _;unfold Md;simp only[hl,hln,hle,hb];exact ⟨hz,hk,h1,trivial,hfit,hn,hq,h63,hby,hg,fun c h1 h2=>hK c h1 (by unfold maxLen at h2;omega)⟩
def opB (P:Program) (fn:Func) (code:Code) (b:Nat->List Bool):Bool:=P.follows .mixedOrders&&(!(fn.name == "runtime.NumGoroutine")&&jV fn.ntmps b code)
theorem zpo {fn:Func} {b:Nat->List Bool} (h:opB P fn code b=true):P.follows .mixedOrders=true:=(A4.1 h).1
theorem zpn {fn:Func} {b:Nat->List Bool} (h:opB P fn code b=true):(fn.name == "runtime.NumGoroutine")=false:=by
 have:=(A4.1 (A4.1 h).2).1;simpa using this
theorem zpO {fn:Func} {b:Nat->List Bool} (h:opB P fn code b=true):jV fn.ntmps b code=true:=(A4.1 (A4.1 h).2).2
theorem foF {fn:Func} {r:C} (b:Nat->List Bool) (hf:P.funcs[f]?=some fn)
  (h:V7 P G ⟨0,none,b⟩ code (MF P fn.results.toList (fun c σ=>∃ (fr:Fr) (src:Src),zb3 fr σ.bx/\Q0 src=true/\src.length=n/\CLe src 0 (c.fy σ.nx fr σ.bx) r) ⟨⟩) ⟨UN 0 args,[],0,0⟩ ⟨⟩ ⟨⟩) (hb:fn.body=some code:=by rfl) (hN:args.length<=fn.ntmps:=by exact zjN rfl) (ho:opB P fn code b=true:=by kernel_rfl):Fun P G f args r n:=Fun.of_awpF b (zpo ho) hf hb (zpn ho) hN (zpO ho) h
theorem foX {fn:Func} {bx:List (List C)} (b:Nat->List Bool) (hf:P.funcs[f]?=some fn)
  (h:V7 P G ⟨bx.length,none,b⟩ code (MF P fn.results.toList (fun c σ=>∃ r bx' n,(post r bx' n/\bx.length<=bx'.length)/\∃ src:Src,Q0 src=true/\src.length=n/\zd src bx'.length σ.bx bx'/\CLe src bx'.length c r) ⟨⟩) ⟨UN 0 args,bx,q,0⟩ ⟨⟩ ⟨⟩) (hb:fn.body=some code:=by rfl) (hN:args.length<=fn.ntmps:=by exact zjN rfl) (ho:opB P fn code b=true:=by kernel_rfl):YJ P G f args bx q post:=YJ.of_awp b (zpo ho) hf hb (zpn ho) hN (zpO ho) h
theorem M7 {r:C} (gargs:List C) (hf:Fun P G f gargs r n) (hr:r.freshB=true) (hl:JA bx args gargs) (hK:K3 (r.sh nx) ⟨tm,bx,nx+n,lg⟩):Zt P G f args fargs ⟨tm,bx,nx,lg⟩ K3 ⟨⟩:=.inr <| .inr <| .inl ⟨gargs,r,n,hl,hf,hr,hK⟩
theorem call {r:C} (hf:Fun P G f fargs r n) (hK:K3 (r.sh nx) ⟨tm,bx,nx+n,lg⟩):Zt P G f args fargs ⟨tm,bx,nx,lg⟩ K3 ⟨⟩:=.inl ⟨r,n,hf,hK⟩
theorem zb0 {r:C} (hf:Fun P G f args r n) (hK:K2 (r.sh nx) (nx+n)):uc P G f args nx K2 ⟨⟩:=zaw.mk hf hK
theorem Fun.less {args':List C} {r:C} (hf:Fun P G f args' r n) (hl:zg [] 0 args args'):Fun P G f args r n:=⟨hf.1,fun R vs hg ha=>hf.2 R vs hg (by
 have:=zA.less _ _ _ hl ha;refine zA.ext (Ext.refl R) ⟨fun i b hb=>?_,fun id x hx=>?_⟩ _ _ this
 ·simp at hb
 ·have hx:Vr [] zN.T id=some x:=hx;simp[Vr]at hx)⟩
theorem VX {a1:List C} {fbx':List (List C)} {r:C} (ι κ:List Nat) (hf:Mr P G f a1 fbx q r fbx' n) (hq:κ.length=q) (hι:ι.Nodup) (hκ:κ.Nodup) (hb:∀ i∈ι,i<bx.length)
  (ha:C.reL (XY ι) (XY κ) args=a1) (hx:(ι.map fun i=>C.reL (XY ι) (XY κ) (bx.getD i []))=fbx) (hK:K3 (r.re (upB ι bx.length) (upO nx)) (Z8 ι κ fbx' n ⟨tm,bx,nx,lg⟩)):Zt P G f args fargs ⟨tm,bx,nx,lg⟩ K3 ⟨⟩:=
 .inr <| .inl ⟨ι,κ,r,fbx',n,hι,hκ,hb,by rw[ha,hq];exact hx▸hf,hK⟩
theorem range {A B:Nat->(Exit->St->Prop)->St->Prop} {ps:List Tmp} {first cap first' cap':List C} {bx':List (List C)} (items:List (List C)) (sf:Nat->Bool) (m:Nat) (I:Nat->St) (hit:yJ P G f first' cap' bx' items) (e1:C.selL (Xf m) first=first') (e2:C.selL (Xf m) cap=cap') (e3:(bx.drop m).map (C.selL (Xf m))=bx')
  (hp:p<=m) (hm:m<=bx.length) (hlen:∀ it∈items,it.length=ps.length) (hI:∀ k,k<=items.length->(I k).bx.length=m) (hw:JW m ⟨[],bx,nx,lg⟩ ((I 0).wt []))
  (hbody:∀ k it,items[k]?=some it->(∀ j,j<k->sf j=false)->A m (zma (B m (yX m (HG m tm) (sf k) (I (k+1)) Q ⟨⟩ ⟨⟩)) ⟨⟩) ((I k).wt (VT ps it (HG m tm))))
  (hdone:(∀ j,j<items.length->sf j=false)->Q .normal ((I items.length).wt (HG m tm))):zfG P G p A B Q ps (.clo (.func f) first cap) ⟨tm,bx,nx,lg⟩ ⟨⟩ ⟨⟩ ⟨⟩:=
 ⟨items,sf,m,I,hp,hm,by rw[e1,e2];exact e3▸hit,hlen,hI,hw,hbody,hdone⟩
theorem loop {B:(Exit->St->Prop)->St->Prop} {ι:Type} (I:ι->St) (ok:ι->Prop) (μ:ι->Nat) (i0:ι) (h0:ok i0) (hw:JW p σ (I i0))
  (hr:∀ i,ok i->B (zaN (fun σ'=>∃ j,ok j/\μ j<μ i/\JW p σ' (I j)) Q ⟨⟩ ⟨⟩) (I i)):zeu p B Q σ ⟨⟩ ⟨⟩:=⟨ι,I,ok,μ,i0,h0,hw,hr⟩
theorem fof {fn:Func} {r:C} (b:Nat->List Bool) (hf:P.funcs[f]?=some fn)
  (h:V7 P G ⟨0,none,b⟩ code (MF P fn.results.toList (fun c σ=>∃ src:Src,Q0 src=true/\src.length=n/\CLe src 0 (c.fz σ.bx) r) ⟨⟩) ⟨UN 0 args,[],0,0⟩ ⟨⟩ ⟨⟩) (hb:fn.body=some code:=by rfl) (hN:args.length<=fn.ntmps:=by exact zjN rfl) (ho:opB P fn code b=true:=by kernel_rfl):Fun P G f args r n:=Fun.of_awp b (zpo ho) hf hb (zpn ho) hN (zpO ho) h
theorem fon {fn:Func} {r:C} (hf:P.funcs[f]?=some fn)
  (h:V7 P G ⟨0,none,fun _=>[]⟩ code (MF P fn.results.toList (fun c σ=>∃ src:Src,Q0 src=true/\src.length=n/\CLe src 0 (c.fz σ.bx) r) ⟨⟩) ⟨UN 0 args,[],0,0⟩ ⟨⟩ ⟨⟩) (hb:fn.body=some code:=by rfl) (hN:args.length<=fn.ntmps:=by exact zjN rfl) (ho:opB P fn code (fun _=>[])=true:=by kernel_rfl):Fun P G f args r n:=fof _ hf h hb hN ho
theorem foB {fn:Func} {bx bx':List (List C)} {r:C} (b:Nat->List Bool) (hf:P.funcs[f]?=some fn)
  (h:V7 P G ⟨bx.length,none,b⟩ code (MF P fn.results.toList (fun c σ=>∃ src:Src,Q0 src=true/\src.length=n/\zd src bx'.length σ.bx bx'/\CLe src bx'.length c r) ⟨⟩) ⟨UN 0 args,bx,q,0⟩ ⟨⟩ ⟨⟩) (hb:fn.body=some code:=by rfl) (hN:args.length<=fn.ntmps:=by exact zjN rfl) (ho:opB P fn code b=true:=by kernel_rfl) (hlen:bx.length<=bx'.length:=by exact zjN rfl):Mr P G f args bx q r bx' n:=Mr.of_awp b (zpo ho) hf hb (zpn ho) hN (zpO ho) hlen h
theorem foI {fn:Func} {first cap:List C} {bx items:List (List C)} (b:Nat->List Bool) (hf:P.funcs[f]?=some fn)
  (h:∀ (l:Nat) (sf:Nat->Bool),V7 P G ⟨0,some ⟨l,items,sf⟩,b⟩ code (MF P fn.results.toList (fun c σ=>zoq items sf σ.lg) ⟨⟩) ⟨UN 0 (first++[.sc (.func (.yield l) #[] #[])]++cap),bx,0,0⟩ ⟨⟩ ⟨⟩) (hb:fn.body=some code:=by rfl) (hN:first.length+1+cap.length<=fn.ntmps:=by exact zjN rfl) (ho:opB P fn code b=true:=by kernel_rfl):yJ P G f first cap bx items:=yJ.of_awp b (zpo ho) hf hb (zpn ho) hN (zpO ho) h
theorem zsr {m:Nat} {xs:List C} {z1:List Value} (A:List C) (hbx:bx[i]?=some cs) (h1:z1.length=k) (h2:0<k) (h3:(z1.all Value.oneCell')=true) (h4:0<m) (hp:p<=i) (hl:cs.length=cap*k) (hn:n<=cap) (hc:cap<=9223372036854775807)
  (h5:n+m<=9223372036854775807) (h6:(n+m)*b<=140737488355328) (hA:C.reL (Yl i) some (cs.take (n*k)++xs)=A)
  (hK:∀ c',n+m<=c'->c'<=9223372036854775807->K3 (.bs i 0 k (n+m) c') ⟨Gx (Yl i) some tm,Vf i (A++List.replicate ((c'-(n+m))*k) .any) bx,nx,lg⟩):zre (some (m,xs)) p k b z1 (.bs i 0 k n cap) ⟨tm,bx,nx,lg⟩ K3 ⟨⟩:=by
 refine ⟨h1,h2,h3,h4,?_⟩;simp only[hbx];exact ⟨trivial,hp,hl,hn,hc,h5,h6,fun c' q1 q2=>by rw[hA];exact hK c' q1 (by unfold maxLen at q2;omega)⟩
theorem zds (k:Nat):((k:Int)+1).toNat=k+1:=by omega
theorem zkp.mk {B:(Exit->St->Prop)->St->Prop} {ι:Type} (I:ι->St) (ok:ι->Prop) (μ:ι->Nat) (i0:ι) (h0:ok i0) (hw:JW p σ (I i0))
  (hr:∀ i,ok i->B (zmz (fun σ'=>∃ j,ok j/\μ j<μ i/\JW p σ' (I j)) Q) (I i)):zkp p B Q σ:=⟨ι,I,ok,μ,i0,h0,hw,hr⟩
end
attribute [push_cast] zoB eq_self iff_self List.append_eq zto ztV zuG zuy zt7 zse zso zty zsG zdz zsi zom zjM zp6 zpy zp1 zqV zqd zon zn6 zpK zm8 zry zqi zoP zsz zrk zmG zqk zsx zsN zrQ zod zrC zik znN zkq zf1 zi1 ziO zjO zgc zgz zf6 zjH zqg zr1 zq6 zr2 zgd uz zub zki zmW znm zqp zqB uV zdl zhT yf xu vQ zdp MU zkc uH zdj zmD zoH zpf zqo zq3 zpR zq2 zqA zo1 zrq ziG ziI zkr ziB zkb zmH zqw zqU znq zn7 zbG zcR vx vP HH HT Me zrV zm7 ziy zjh zcn zck zjm zjU zgR zfg zj0 zig MD Mw zgY zfP ziD zis yY MJ zhX zh4 NZ NB zgl zge N9 Mi zeB zhi ul vI ze1 zet znw zoX uy zpC zoY zdO zpm zlu zbS zq9 zcm zkk zlw zei zm0 zsd zkn zhR zcw zhS znS zfM zjw zb4 zeA vk vK zp7 vi xm yQ N8 vb uT yG zfy zeb zdx zfD x5 zh0 yu zfE zcj zgE zd3 zkH zbH ziK zhz ziQ zoM zgp zhW zd4 zg4 zgF zf2 ze8 zgK zfZ zeR zht zhH zhG zfs zcB zkv zeo zsS zdZ zp5 zeH zsh zti zcr zgP zbQ zbL zcX zoC N1 zdr yR zcK xg My zoV zjD zeT zul zs9 zih zjG zuu zbD zcz zhP zeN zcE zdm uU zdH zhm zfS zk5 zky zjz zjL ziY zuH ztB zss zsg zui zsC ztj zoI zpD znF znE zjJ zns zpN zq0 zcx zdd zcW zrc zt8 zmx zuc zsk zqD zue zsQ zc6 zf7 zjT zdD zqP zrs zkd zkW zjo zc3 zcP zdf zgu zdk zr0 zc4 zjX ziz zhh zeG ziC ze9 zeL zpt zpZ zoA zi7 ztX znu zqf zmU ztd zs1 ztU ztx zsj zsJ zsq zqy zqn zuz zsD zs6 zhl zgO zqT ztu zsH zpu zqF zs2 zsE zsb zoe zmS zlk zqK zsT ztq zsP znv zri zog zqb zjn zll zkM zoL zkO zko zow zsm zsY zsf zsa zkt znP zml zeh ziH zja zjp zmk zn3 ux zhs ziu zjy zj6 zj5 znA zm4 zoJ znJ zbN zqx zdi zgA zgh zif zjv zjY znV ziW zjS zed zoU zjP zb1 zli zfq zkw znn zkX znL zlp zkE zjd zny zbK zi3 zlq zd2 zoo zmT zmF zmw znO zno zor zix zj1 zk4 zjr zfd zcO zgx zfU zcF uh zjA zkK zjf ze3 zdJ zkS zjc zd9 zdG zey zgv zb6 uw zkh ziA zka zf9 zde zlm zjt zi6 zhd zcI zcU zqJ zdg zqS vC uE vc zdQ zcy zbI uB ur u7 vw vB uR zct zdq zdM vu uK zhw zc0 yP xt zoc zmC zm5 zq4 zeY zdb
attribute [push_cast] Int.ofNat_eq_natCast Bool.not_false Bool.not_true Bool.true_beq Bool.false_beq beq_self_eq_true Bool.true_and zoR znb zra zoZ zoG List.map_cons List.map_nil List.getElem?_cons_zero List.getElem?_cons_succ List.getElem?_toArray List.getElem?_nil List.drop_zero List.drop_succ_cons List.drop_nil List.take_succ_cons List.take_zero List.take_nil List.length_cons List.length_nil List.getD_cons_zero List.getD_cons_succ List.set_cons_zero List.set_cons_succ List.cons_append List.nil_append List.append_nil List.all_cons List.all_nil List.tail_cons List.tail_nil List.headD_cons List.headD_nil List.flatten_cons List.flatten_nil List.replicate_succ List.replicate_zero Bool.and_self Bool.and_true Bool.true_and Bool.not_true Bool.not_false Option.bind_some Option.map_some Option.map_none if_true if_false true_and and_true and_self decide_true decide_false Int.ofNat_le Int.ofNat_lt Int.natCast_inj zds Int.toNat_natCast Nat.zero_add Nat.add_zero List.toList_toArray Int.add_zero Int.zero_add Bool.not_not Int.sub_zero Int.natCast_pos Nat.sub_zero Int.cast_ofNat_Int Nat.one_mul Nat.mul_one
theorem dn {p q r:Src->Prop} (c:r []:=by push_cast [ze,zd,CLe,zg]) (a:p []:=by rfl) (b:q []:=by rfl):∃ s,p s/\q s/\r s:=⟨[],a,b,c⟩
theorem wks {σ σ':St} (src:Src) (h4:ze src σ'.bx.length σ.tm σ'.tm:=by push_cast [ze,zd,CLe,zg]) (h5:zd src σ'.bx.length σ.bx σ'.bx:=by push_cast [ze,zd,CLe,zg]) (h1:Q0 src=true:=by rfl) (h2:src.length=σ'.nx:=by rfl)
  (h3:p<=σ'.bx.length:=by first | exact Wc _ | exact Wb _ | exact zjN rfl) (h0:σ'.lg=σ.lg:=by rfl):JW p σ σ':=⟨src,h1,h2,h3,h0,h4,h5⟩
theorem wk {σ σ':St} (h4:ze [] σ'.bx.length σ.tm σ'.tm:=by push_cast [ze,zd,CLe,zg]) (h5:zd [] σ'.bx.length σ.bx σ'.bx:=by push_cast [ze,zd,CLe,zg]) (h2:([]:Src).length=σ'.nx:=by rfl)
  (h3:p<=σ'.bx.length:=by first | exact Wc _ | exact Wb _ | exact zjN rfl) (h0:σ'.lg=σ.lg:=by rfl):JW p σ σ':=⟨[],rfl,h2,h3,h0,h4,h5⟩
theorem an {a b:Prop} (k:b) (h:a:=by first | omega | (simp only[lS];omega)):a/\b:=⟨h,k⟩
namespace CA
theorem cl {r:C} {nx lg:Nat} {tm:List (Nat×C)} {bx:List (List C)} {K3:C->St->Prop} (hf:Fun P G f fargs r n) (hK:K3 (r.sh nx) ⟨tm,bx,nx+n,lg⟩):Zt P G f args fargs ⟨tm,bx,nx,lg⟩ K3 ⟨⟩:=call hf hK
end CA
namespace CB
theorem cl {r:C} {nx:Nat} {K2:C->Nat->Prop} (hf:Fun P G f args r n) (hK:K2 (r.sh nx) (nx+n)):uc P G f args nx K2 ⟨⟩:=zb0 hf hK
end CB
end
section
open Go.RowKit
def C.stayB:C->Bool
 | .sc _ | .str _ | .sl _ _ | .tight _ _ | .row _ | .any=>true
 | _=>false
theorem zi5 {c:C} (h:c.stayB=true):c.frz=c:=by cases c<;>simp[C.stayB]at h<;>simp[C.frz]
theorem zoW {c:C} (h:c.stayB=true):c.re fp fo=c:=by cases c<;>simp[C.stayB]at h<;>simp[C.re]
theorem zmp {c:C} {src:Src} (h:c.stayB=true):CLe src n c c:=by cases c<;>simp[C.stayB]at h<;>simp[CLe]
theorem Hu:∀ {cs:List C},(cs.all C.stayB)=true->C.frzL cs=cs
 | [],_=>by simp[C.frzL]
 | c :: r,h=>by
  simp only[A1,Wt]at h;rw[C.frzL,zi5 h.1,Hu h.2]
theorem zG {fp fo:Nat->Option Nat}:∀ {cs:List C},(cs.all C.stayB)=true->C.reL fp fo cs=cs
 | [],_=>by simp[C.reL]
 | c :: r,h=>by
  simp only[A1,Wt]at h;rw[C.reL,zoW h.1,zG h.2]
theorem zV {src:Src} {n:Nat}:∀ {cs:List C},(cs.all C.stayB)=true->zg src n cs cs
 | [],_=>by simp[zg]
 | c :: r,h=>by
  simp only[A1,Wt]at h;rw[zg];exact ⟨zmp h.1,zV h.2⟩
theorem zn9 {src:Src} (c:C):CLe src n c .any:=by cases c<;>simp[CLe]
theorem XB {src:Src} {n:Nat}:∀ {cs:List C} {m:Nat},cs.length=m->zg src n cs (List.replicate m .any)
 | [],_,h=>by subst h;simp[zg]
 | c :: r,_,h=>by
  subst h;rw[Wh,AW,zg];exact ⟨zn9 c,XB rfl⟩
theorem ze7 {src:Src} {n:Nat}:∀ {a b c d:List C},zg src n a c->zg src n b d->zg src n (a++b) (c++d)
 | [],b,[],d,_,h=>h
 | [],b,x :: c,d,h,_=>by simp[zg]at h
 | x :: a,b,[],d,h,_=>by simp[zg]at h
 | x :: a,b,y :: c,d,h,h'=>by
  rw[Oh,Oh,zg];rw[zg]at h;exact ⟨h.1,ze7 h.2 h'⟩
def qB (k:Nat) (rows:List (List C)) (c:Nat):List C:=rows.flatten++List.replicate ((c-rows.length)*k) .any
theorem zM {k:Nat}:∀ {rows:List (List C)},(∀ r∈rows,r.length=k)->rows.flatten.length=rows.length*k
 | [],_=>by simp
 | r :: rs,h=>by
  rw[OW,Wi,h r Wl,zM fun x hx=>h x (Wn _ hx),Wh,AZ,Nat.add_comm]
theorem JM {rows:List (List C)} (h:∀ r∈rows,r.length=k) (hc:rows.length<=c):(qB k rows c).length=c*k:=by
 unfold qB;rw[Wi,zM h,Au,←On];congr 1;omega
abbrev ji (rows:List (List C)):Prop:=∀ r∈rows,(r.all C.stayB)=true
theorem Xn {rows:List (List C)} (h:ji rows):(rows.flatten.all C.stayB)=true:=by
 rw[WE];intro c hc;obtain ⟨r,hr,hc⟩:=List.mem_flatten.1 hc;exact WE.1 (h r hr) c hc
theorem zI {rows:List (List C)} (h:ji rows):((qB k rows c).all C.stayB)=true:=by
 unfold qB;rw[O2,Xn h,Ok,WE];intro c hc;obtain ⟨_,rfl⟩:=List.mem_replicate.1 hc
 rfl
theorem Z7:∀ {rows:List (List C)},(∀ r∈rows,r.length=k)->rows.flatten.take (n*k)=(rows.take n).flatten:=by
 induction n with
 | zero=>intro rows _;simp
 | succ n ih =>
  intro rows h;cases rows with
  | nil=>simp
  | cons r rs =>
   have hr:=h r Wl;rw[AH,OW,OW,Ax,Wf (by rw[hr,AZ];omega),hr,show (n+1)*k-k=n*k by rw[AZ];omega,ih fun x hx=>h x (Wn _ hx)]
theorem kX:∀ {rows:List (List C)},(∀ r∈rows,r.length=k)->rows.flatten.drop (n*k)=(rows.drop n).flatten:=by
 induction n with
 | zero=>intro rows _;simp
 | succ n ih =>
  intro rows h;cases rows with
  | nil=>simp
  | cons r rs =>
   have hr:=h r Wl;rw[A9,OW,List.drop_append,OA (by rw[hr,AZ];omega),hr,Ox,show (n+1)*k-k=n*k by rw[AZ];omega,ih fun x hx=>h x (Wn _ hx)]
theorem JI {src:Src} {m:Nat} {rows:List (List C)} (hk:∀ r∈rows,r.length=k) (hs:ji rows) (hc:rows.length<=c) (hl:cs.length=c*k) (ht:cs.take (rows.length*k)=rows.flatten):zg src m cs (qB k rows c):=by
 have h1:cs=rows.flatten++cs.drop (rows.length*k):=by rw[←ht,Oa]
 rw[h1];unfold qB;refine ze7 (zV (Xn hs)) (XB ?_);rw[W1,hl,←Nat.sub_mul]
theorem Zm {xs:List C} (h:p+xs.length<=cs.length):(spl cs p xs).length=cs.length:=by
 simp[spl];omega
theorem kG {L X:List C} (hp:p<=L.length) (hq:q=p+X.length) (hL:cs.take L.length=L) (hc:L.length+X.length<=cs.length) :
  (spl (spl cs q (L.drop p)) p X).take (L.length+X.length)=L.take p++(X++L.drop p):=by
 subst hq;apply O6;intro j;have hcur:∀ j,j<L.length->cs[j]?=L[j]?:=fun j hj=>by
  have h:=WA (fun l=>l[j]?) hL;simp only[WJ,if_pos hj]at h;exact h
 simp only[spl,WJ,BM,W8,Ob,Wi,W1]
 repeat' (first | split | omega)
 all_goals (first | rfl | omega | exact (W2 (by omega)).symm | (congr 1;omega) | (rw[hcur _ (by omega)];first | done | (congr 1;omega)) | (symm;rw[W2];simp;omega) | (rw[W2];simp;omega) | skip)
theorem Ne {L X:List C} (hp:p<=L.length) (hq:q=p+X.length) (hL:cs.take p=L.take p) (hc:L.length+X.length<=cs.length) :
  (spl (spl cs p X) q (L.drop p)).take (L.length+X.length)=L.take p++(X++L.drop p):=by
 subst hq;apply O6;intro j;have hcur:∀ j,j<p->cs[j]?=L[j]?:=fun j hj=>by
  have h:=WA (fun l=>l[j]?) hL;simp only[WJ,if_pos hj]at h;exact h
 simp only[spl,WJ,BM,W8,Ob,Wi,W1]
 repeat' (first | split | omega)
 all_goals (first | rfl | omega | exact (W2 (by omega)).symm | (congr 1;omega) | (rw[hcur _ (by omega)];first | done | (congr 1;omega)) | (symm;rw[W2];simp;omega) | (rw[W2];simp;omega) | skip)
theorem znl {L Z:List C} (hq:q<=L.length) (hpq:p<=q) (hL:cs.take L.length=L) (hn:n=p+(L.length-q)) (hc:L.length<=cs.length) (hz:n+Z.length<=cs.length) :
  (spl (spl cs p (L.drop q)) n Z).take n=L.take p++L.drop q:=by
 subst hn;apply O6;intro j;have hcur:∀ j,j<L.length->cs[j]?=L[j]?:=fun j hj=>by
  have h:=WA (fun l=>l[j]?) hL;simp only[WJ,if_pos hj]at h;exact h
 simp only[spl,WJ,BM,W8,Ob,Wi,W1]
 repeat' (first | split | omega)
 all_goals (first | rfl | omega | exact (W2 (by omega)).symm | (congr 1;omega) | (rw[hcur _ (by omega)];first | done | (congr 1;omega)) | (symm;rw[W2];simp;omega) | (rw[W2];simp;omega) | skip)
theorem uf {fn:Func} {e tR:TypeId} {z:Option (List Value)} (hf:P.funcs[f]?=some fn) (hname:(fn.name == "runtime.NumGoroutine")=false) (hb:fn.body.isNone=true) (hn:Extern.findNext fn=none)
  (he:Extern.find fn=some (Extern.SlicesOverlaps.overlaps #[t,t] #[tR])) (hl:lay P t=some ⟨.slice e,s1,b1,z1⟩) (hle:lay P e=some ⟨kd,k,by',z⟩) {id e' k' i off n c:Nat} {rows bx:List (List C)} {cs:List C} (hbx:bx[i]?=some cs) (hcs:cs≠[]) (hrows:rows≠[]) (hn0:0<n) :
  zsF P f [.own id e' k' rows,.bs i off k n c] bx (.sc (.bool false)):=by
 intro B R L vs hB hO hr;obtain ⟨v1,us,rfl,h1,hr⟩:=zh.1 hr;obtain ⟨v2,us,rfl,h2,hr⟩:=zh.1 hr;rw[zm]at hr;subst hr;refine ⟨.bool false,?_,zr.2 rfl⟩;rw[run_callFunc_extern hf hname hb hn he];have ht:=qh hl rfl;have hz:∀ w,(Go.sizeOf e).run P w = .ok k w:=fun w=>qR hle w;obtain ⟨hT,a,cap,hv1,_⟩:=Y2.1 h1;obtain ⟨b,hbi,ad,rfl,had⟩:=jx.1 h2;obtain ⟨us,ty,e1,e2,e3,e4⟩:=hB.box i b cs hbi hbx;have hsz:us.size≠0:=by
  have:=zy e2;simp only[WW]at this;rw[this];exact fun h=>hcs (WP h)
 rcases hO.own id e' k' v1 hT with hnil | ⟨g,n',cap',cur,ty',q1,q2,q3,q4,q5,q6,q7,q8⟩ | ⟨_,_,_,_,hmap,_⟩
 rotate_right
 ·rw[hv1]at hmap;unfold Hw at hmap;cases hmap
 ·rw[hnil]at hv1;obtain ⟨_,h0,_⟩:=Value.slice.inj hv1;exact absurd (WP h0.symm) hrows
 ·rw[q1];obtain rfl:=had (by omega);have hne:g≠b:=fun h=>q7 (h▸Wg hbi);rw[Lib.run_overlaps_apart R.w t tR e ht k hz ⟨g,0,none⟩ ⟨b,off,none⟩ n' cap' n c hne ty' ty cur.size us.size (by simp[World.shape?,q3]) (by simp[World.shape?,e1]) hsz (frozen_of_row R.w g 0 _ _ q3) (frozen_of_row R.w g _ _ _ q3)]
  rfl
theorem Ua {m:Nat} {z:List C} (hz:z.length=k):(List.replicate m z).flatten.length=m*k:=by
 have h:=zM (k:=k) (rows:=List.replicate m z) fun r hr=>by rw[(List.mem_replicate.1 hr).2];exact hz
 rw[h,Au]
section
variable {P:Program} {t tn e s1 b1 s2 b2 k by' m i off n cap nx lg:Nat} {kd:LK} {kn kq:IntKind} {z1 z2 z3:Option (List Value)} {z:List Value} {cs xs:List C} {bx:List (List C)} {tm:List (Nat×C)} {d:C} {q:Int} {K3:C->St->Prop}
theorem zov (hl:lay P t=some ⟨.slice e,s1,b1,z1⟩) (hln:lay P tn=some ⟨.int kn,s2,b2,z2⟩) (hle:lay P e=some ⟨kd,k,by',some z⟩) (hz:z.length=k) (hk:0<k) (h1:(z.all Value.oneCell')=true)
  (hb:bx[i]?=some cs) (hfit:off+cap*k<=cs.length) (hn:n<=cap) (hq:0<q) (h63:(n:Int)+q<=9223372036854775807) (hby:((n:Int)+q)*by'<=140737488355328) (hg:(cap:Int)<n+q)
  (hK:∀ c' B,n+q.toNat<=c'->c'<=9223372036854775807->B.length=c'*k->B.take (n*k)=(cs.drop off).take (n*k)->K3 (.bs bx.length 0 k (n+q.toNat) c') ⟨tm,bx++[B],nx,lg⟩):zbb P t tn (.bs i off k n cap) (.sc (.int kq q)) ⟨tm,bx,nx,lg⟩ K3 ⟨⟩:=by
 have hnk:n*k<=cap*k:=WT _ hn;refine zuq hl hln hle hz hk h1 hb hfit hn hq h63 hby hg fun c' g1 g2=>hK c' _ g1 g2 ?_ ?_
 ·rw[Wi,Wi,Ua (k:=k) (by simpa using hz),Au,Ob,W1,OH (by omega),←On,←On];congr 1;omega
 ·rw[WI,OI (by rw[Ob,W1];omega)]
theorem X1 (hl:lay P t=some ⟨.slice e,s1,b1,z1⟩) (hle:lay P e=some ⟨kd,k,by',z3⟩) (hx:d.xs? k bx=some (m,xs)) (hb:bx[i]?=some cs) (hxl:xs.length=m*k) (hfit:off+n*k<=cs.length)
  (hK:∀ B,B=spl cs off (xs.take (min m n*k))->B.length=cs.length->K3 (.sc (.int .i64 ((min m n:Nat):Int))) ⟨tm,bx.set i B,nx,lg⟩):yy P t (.bs i off k n cap) d ⟨tm,bx,nx,lg⟩ K3 ⟨⟩:=
 zmE hl hle hx hb hxl hfit (hK _ rfl (by
  have h1:min m n*k<=n*k:=WT _ (Nat.min_le_right _ _);exact Zm (by rw[Ob];omega)))
theorem znt (hl:lay P t=some ⟨.slice e,s1,b1,z1⟩) (hle:lay P e=some ⟨kd,k,by',some z⟩) (hb:bx[i]?=some cs) (hz:z.length=k) (hk:0<k) (h1:(z.all Value.oneCell')=true) (hfit:off+n*k<=cs.length)
  (hK:∀ B Z,B=spl cs off Z->Z.length=n*k->B.length=cs.length->K3 .any ⟨tm,bx.set i B,nx,lg⟩):vN P t (.bs i off k n cap) ⟨tm,bx,nx,lg⟩ K3 ⟨⟩:=by
 have hZ:(List.replicate n (z.map zF)).flatten.length=n*k:=Ua (by simpa using hz);exact zqY hl hle hb hz hk h1 hfit (hK _ _ rfl hZ (Zm (by omega)))
end
theorem U6 {bx:List (List C)} (hb:bx[i]?=some cs) (h:off+n*k<=cs.length):C.xs? k bx (.bs i off k n c)=some (n,(cs.drop off).take (n*k)):=by
 simp[C.xs?,hb,h]
theorem XW {rows:List (List C)} (hk:∀ r∈rows,r.length=k) (hi:i<=rows.length):((qB k rows c).drop (i*k)).take ((rows.length-i)*k)=rows.flatten.drop (i*k):=by
 have hf:=zM hk;have h1:i*k<=rows.length*k:=WT _ hi;unfold qB;rw[List.drop_append_of_le_length (by omega),OI (by rw[W1,hf,Nat.sub_mul])]
theorem QL {rows:List (List C)} {x:List C} (hk:∀ r∈rows,r.length=k):rows.flatten.take (i*k)++(x++rows.flatten.drop (i*k))=(rows.take i++x :: rows.drop i).flatten:=by
 rw[Z7 hk,kX hk];simp
theorem zaD {bx:List (List C)} {rows:List (List C)} (hb:bx[i]?=some cs) (hc:0<c) (h1:rows.length<=c) (h2:c<=9223372036854775807) (hl:cs.length=c*k) (hk:∀ r∈rows,r.length=k) (hs:(cs.all C.stayB)=true) (ht:cs.take (rows.length*k)=rows.flatten) :
  zb3 [(i,e,k,rows,c)] bx:=by
 refine ⟨by simp,fun x hx=>?_⟩;rw[W3]at hx;subst hx;exact ⟨cs,hb,hc,h1,by unfold maxLen;exact h2,hl,hk,by rw[Hu hs];exact ht⟩
theorem zhj {rows:List (List C)} (hk:∀ r∈rows,r.length=k):(qB k rows c).take (rows.length*k)=rows.flatten:=by
 unfold qB;rw[OI (zM hk)]
theorem zC {bx:List (List C)} {rows:List (List C)} (hb:bx[i]?=some (qB k rows c)) (hc:0<c) (h1:rows.length<=c) (h2:c<=9223372036854775807) (hk:∀ r∈rows,r.length=k) (hs:ji rows):zb3 [(i,e,k,rows,c)] bx:=
 zaD hb hc h1 h2 (JM hk h1) hk (zI hs) (zhj hk)
theorem zaz {rows:List (List C)} {row:List C} (hk:∀ r∈rows,r.length=k) (hr:row.length=k) (hi:i<rows.length):(qB k rows c).take (i*k)++row++(qB k rows c).drop (i*k+k)=qB k (rows.set i row) c:=by
 have hf:=zM hk;have h1:(i+1)*k<=rows.length*k:=WT _ hi;rw[AZ]at h1;unfold qB;rw[OT (by omega),List.drop_append_of_le_length (by omega),←AZ,Z7 hk,kX hk,Br,←WI];congr 1;rw[List.set_eq_take_append_cons_drop,if_pos hi];simp
def RLe:List (List C)->List (List C)->Prop
 | [],[]=>True
 | a :: r,b :: s=>zg [] 0 a b/\RLe r s
 | _,_=>False
theorem RLe.len:∀ {a b:List (List C)},RLe a b->a.length=b.length
 | [],[],_=>rfl
 | _ :: r,_ :: s,h=>by rw[Wh,Wh,RLe.len h.2]
theorem zg.len {src:Src}:∀ {a b:List C},zg src n a b->a.length=b.length
 | [],[],_=>rfl
 | [],_ :: _,h=>by simp[zg]at h
 | _ :: _,[],h=>by simp[zg]at h
 | _ :: r,_ :: s,h=>by
  rw[zg]at h;rw[Wh,Wh,zg.len h.2]
theorem zfK {c d:C} (h:CLe [] 0 c d) (hr:Rep R zN c v):Rep R zN d v:=by
 refine Rep.ext (Ext.refl R) (T:=Jm [] 0 zN) ⟨fun i b hb=>?_,fun id x hx=>?_⟩ _ _ (Rep.less _ _ _ h hr)
 ·simp at hb
 ·have hx:Vr [] zN.T id=some x:=hx;simp[Vr]at hx
theorem Hi {R:Env} {b:Nat}:∀ {cs ds:List C} {o:Nat},zg [] 0 cs ds->zR R cs b o->zR R ds b o
 | [],[],_,_,h=>h
 | [],_ :: _,_,h,_=>by simp[zg]at h
 | _ :: _,[],_,h,_=>by simp[zg]at h
 | c :: r,d :: s,o,h,hr=>by
  rw[zg]at h;obtain ⟨⟨v,h1,h2,h3,h4⟩,h5⟩:=qp.1 hr;exact qp.2 ⟨⟨v,h1,h2,zfK h.1 h3,h4⟩,Hi h.2 h5⟩
theorem Gs {R:Env} {k b:Nat}:∀ {a c:List (List C)} {o:Nat},RLe a c->zU R a k b o->zU R c k b o
 | [],[],_,_,h=>h
 | x :: r,y :: s,o,h,hr=>by
  unfold zU at hr ⊢;exact ⟨(zg.len h.1).symm.trans hr.1,Hi h.1 hr.2.1,Gs h.2 hr.2.2⟩
theorem zb7 {L:Loc} {id:Nat} {a c:List (List C)} (h:RLe a c) (hr:Rep R L (.own id e k a) v):Rep R L (.own id e k c) v:=by
 obtain ⟨h1,ad,cap,h2,h3,h4,h5⟩:=Y2.1 hr;refine Y2.2 ⟨h1,ad,cap,by rw[h2,h.len],by rw[←h.len];exact h3,h4,?_⟩;rcases h5 with h5 | ⟨b,o,h5,h6⟩
 ·subst h5;have:=h.len;exact .inl (WP (by simpa using this.symm))
 ·exact .inr ⟨b,o,h5,Gs h h6⟩
theorem Fun.resX {r r':C} (hf:Fun P G f args r n) (h:∀ R L v,Rep R L r v->Rep R L r' v):Fun P G f args r' n:=
 ⟨hf.1,fun R vs hg ha=>(hf.2 R vs hg ha).mono fun e w' ⟨v,R',L',h1,h2,h3,h4⟩=>⟨v,R',L',h1,h2,h3,h _ _ _ h4⟩⟩
theorem zcv {L:Loc} (h:∀ vs,zA R L cs vs->zA R L ds vs) (hr:Rep R L (.agg cs) v):Rep R L (.agg ds) v:=by
 obtain ⟨vs,h1,h2⟩:=Jq.1 hr;exact Jq.2 ⟨vs,h1,h _ h2⟩
theorem YS {L:Loc} {c d:C} {vs:List Value} (h:∀ v,Rep R L c v->Rep R L d v) (h':∀ vs,zA R L cs vs->zA R L ds vs) (hr:zA R L (c :: cs) vs):zA R L (d :: ds) vs:=by
 obtain ⟨v,us,rfl,h1,h2⟩:=zh.1 hr;exact zh.2 ⟨v,us,rfl,h _ h1,h' _ h2⟩
end
section
open Go.RowKit
def zgX (k:Nat) (rows:List (List C)) (r:C) (bx':List (List C)) (n:Nat):Prop:=
 n=0/\((rows≠[]/\∃ c,rows.length<=c/\c<=9223372036854775807/\r = .bs 1 0 k rows.length c/\bx' = [[],qB k rows c])∨(rows = []/\(r = .sc (.slice none 0 0)/\bx' = []∨r = .bs 0 0 k 0 0/\bx' = [[]])))
def zr8 (k m:Nat) (ins:List (List C)) (r:C) (bx':List (List C)) (n:Nat):Prop:=
 n=0/\∃ c,ins.length<=c/\c<=9223372036854775807/\(r = .bs 0 0 k ins.length c/\bx' = [qB k ins c]∨r = .bs 1 0 k ins.length c/\bx' = [List.replicate m .any,qB k ins c])
section
variable {G:zt}
theorem V2 (rows:List (List C)) (hk:∀ r∈rows,r.length=6) (hs:ji rows) (hl:rows.length<=100000) :
  YJ Tryz.prog G 251 [.sl 6 rows] [] 0 (zgX 6 rows):=by
 refine YJ.bySlice (fun h=>?_) (fun h a cap hr=>?_)
 ·refine foX (fun i=>if i=1000000+22 then [true,true] else []) Tryz.func251 ?_;dsimp only[Tryz.f251];push_cast;refine ⟨h,Q3 VB V4 rfl rfl (by decide) rfl (zM hk) rfl (Wb _) (Wb _) (by omega) (by omega) (fun hc=>absurd hc ?_) (fun _ c hc hm=>?_)⟩
  ·have:=WB.2 h;omega
  ·push_cast;rw[Ov]at hc;refine ⟨_,_,_,⟨⟨rfl,.inl ⟨h,c,hc,hm,rfl,rfl⟩⟩,Wc _⟩,[],rfl,rfl,?_,by push_cast [ze,zd,CLe,zg]⟩;push_cast [ze,zd,CLe,zg];exact zV (zI hs)
 ·cases a with
  | none =>
   refine foX (fun i=>if i=1000000+22 then [true,true] else []) Tryz.func251 ?_;dsimp only[Tryz.f251];push_cast [hr,Aa];exact ⟨_,_,_,⟨⟨rfl,.inr ⟨h,.inl ⟨rfl,rfl⟩⟩⟩,Wc _⟩,[],rfl,rfl,by push_cast [ze,zd,CLe,zg],by push_cast [ze,zd,CLe,zg]⟩
  | some a =>
   refine foX (fun i=>if i=1000000+22 then [true,true] else []) Tryz.func251 ?_;dsimp only[Tryz.f251];push_cast [hr,Ab];have hx:C.xs? 6 [[]] (C.sc (.slice (some a) 0 cap))=some (0,[]):=by simp[C.xs?,hr]
   refine Q3 VB V4 hx rfl (by decide) rfl rfl rfl (Wb _) (Wb _) (by omega) (by omega) (fun _=>?_) (fun hc=>absurd hc (by omega));push_cast;exact ⟨_,_,_,⟨⟨rfl,.inr ⟨h,.inr ⟨rfl,rfl⟩⟩⟩,Wc _⟩,[],rfl,rfl,by (push_cast [ze,zd,CLe,zg];simp[spl,zg]),by push_cast [ze,zd,CLe,zg]⟩
theorem UK (rows:List (List C)) (x:List C) (i c e:Nat) (hk:∀ r∈rows,r.length=6) (hx:x.length=6) (hs:ji rows) (hsx:(x.all C.stayB)=true) (hl:rows.length<=100000) (hi:i<=rows.length) (hc:rows.length<=c) (hcm:c<=9223372036854775807) :
  YJ Tryz.prog G 250 [.bs 0 0 6 rows.length c,.sc (.int .i64 i),.own 0 e 6 [x]] [qB 6 rows c] 1 (zr8 6 (c*6) (rows.take i++x :: rows.drop i)):=by
 refine foX (fun j=>if j=1000000+22 then [true,true] else if j=11 then [false,false,false,false,false,false,false,false,true] else if j=15 then [false,false,false,false,false,false,false,false,true] else []) Tryz.func250 ?_;dsimp only[Tryz.f250];push_cast;have hlen:(rows.take i++x :: rows.drop i).length=rows.length+1:=by simp;omega
 have hki:∀ r∈rows.take i++x :: rows.drop i,r.length=6:=fun r hr=>by
  rcases WF.1 hr with hr | hr
  ·exact hk r (WC hr)
  ·rcases WK.1 hr with rfl | hr
   ·exact hx
   ·exact hk r (WU hr)
 have hsi:ji (rows.take i++x :: rows.drop i):=fun r hr=>by
  rcases WF.1 hr with hr | hr
  ·exact hs r (WC hr)
  ·rcases WK.1 hr with rfl | hr
   ·exact hsx
   ·exact hs r (WU hr)
 have hbl:=JM hk hc;have hfl:=zM hk;have hxl:[x].flatten.length=1*6:=by simp[hx]
 have hpre:(qB 6 rows c).take rows.flatten.length=rows.flatten:=by unfold qB;rw[BC]
 refine ⟨hc,⟨by omega,hi⟩,br (fun h=>?_) (fun h=>?_)⟩
 ·push_cast;refine Q3 VB V4 rfl rfl (by decide) rfl hxl rfl (by rw[hbl];omega) hc (by simp;omega) (by simp;omega) (fun h1=>?_) (fun h1 c' h2 h3=>?_)
  ·push_cast;have hi':i=rows.length:=WR h;refine ⟨_,_,_,⟨⟨rfl,c,by rw[hlen];exact h1,hcm,.inl ⟨rfl,rfl⟩⟩,Wb _⟩,[],rfl,rfl,?_,by push_cast [ze,zd,CLe,zg,hlen]⟩;push_cast [ze,zd,CLe,zg];have h6:rows.length*6+6<=c*6:=by have:rows.length+1<=c:=h1;omega
   refine JI hki hsi (by rw[hlen];exact h1) (by rw[Zm (by rw[hbl,hx];exact h6),hbl]) ?_;rw[hlen,hi',Of,AO];unfold spl;rw[←hfl,hpre,OI (by simp[hx,hfl];omega)];simp
  ·push_cast;have hi':i=rows.length:=WR h;have h2':rows.length+1<=c':=h2;refine ⟨_,_,_,⟨⟨rfl,c',by rw[hlen];exact h2,h3,.inr ⟨rfl,rfl⟩⟩,OS rfl⟩,[],rfl,rfl,?_,by push_cast [ze,zd,CLe,zg,hlen]⟩;push_cast [ze,zd,CLe,zg];refine ⟨XB hbl,JI hki hsi (by rw[hlen];exact h2) (by simp[hx,hbl];omega) ?_⟩;rw[hlen,hi',Of,AO,←hfl,hpre,OI (by simp[hx,hfl];omega)];simp
 ·have hne:i≠rows.length:=OQ h;push_cast;refine ⟨⟨by omega,by omega⟩,br (fun h1=>?_) (fun h1=>?_)⟩
  ·have h1':(c:Int)<(rows.length:Int)+1:=WR h1;push_cast
   repeat refine an ?_
   refine zov VB zo4 V4 rfl (by decide) rfl rfl (by rw[hbl];omega) (by omega) (by omega) (by omega) (by omega) (by omega) (fun c' B h2 h3 hBl hBt=>?_);have e1:((rows.length:Int)+1-(i:Int)).toNat=rows.length+1-i:=by omega
   rw[e1]at h2 ⊢;have e2:i+(rows.length+1-i)=rows.length+1:=by omega
   rw[e2]at h2 ⊢;push_cast
   repeat refine an ?_
   refine X1 VB V4 rfl rfl hxl (by rw[hBl];omega) (fun B1 hB1 hl1=>?_);rw[hBl]at hl1;push_cast
   repeat refine an ?_
   have hbp:=XW (c:=c) hk hi;refine X1 VB V4 (U6 rfl (by rw[hbl];omega)) rfl (by rw[hbp,W1,hfl];omega) (by rw[hl1];omega) (fun B2 hB2 hl2=>?_);rw[hl1]at hl2;have hX:[x].flatten.take (min [x].length (rows.length+1-i)*6)=x:=by
    rw[OF,OH (by omega),Wf (by omega)];simp
   rw[hX]at hB1;rw[hbp,show min (rows.length-i) (rows.length-i)*6=(rows.length-i)*6 by omega,Wf (by rw[W1,hfl];omega),hB1]at hB2;push_cast;refine ⟨_,_,_,⟨⟨rfl,c',by rw[hlen];exact h2,h3,.inr ⟨rfl,rfl⟩⟩,OS rfl⟩,[],rfl,rfl,?_,by push_cast [ze,zd,CLe,zg,hlen]⟩;push_cast [ze,zd,CLe,zg];refine ⟨XB hbl,JI hki hsi (by rw[hlen];exact h2) hl2 ?_⟩;rw[hlen,←QL hk,hB2];have hg:=Ne (cs:=B) (L:=rows.flatten) (X:=x) (p:=i*6) (q:=(i+1)*6) (by omega) (by omega) (by
    rw[hBt,AT];unfold qB;rw[OT (by omega)]) (by omega)
   rw[hfl,hx]at hg;rw[←hg];congr 1;omega
  ·have h1':¬(c:Int)<(rows.length:Int)+1:=OQ h1;push_cast
   repeat refine an ?_
   refine zn4 (uf (P:=Tryz.prog) (tR:=4) Tryz.func277 (by kernel_rfl) (by kernel_rfl) (by kernel_rfl) (by kernel_rfl) VB V4 rfl (Bj (by rw[hbl];omega)) (by simp) (by omega)) ?_;push_cast
   repeat refine an ?_
   have hbp:=XW (c:=c) hk hi;refine X1 VB V4 (U6 rfl (by rw[hbl];omega)) rfl (by simp[hbl];omega) (by rw[hbl];omega) (fun B1 hB1 hl1=>?_);rw[hbl]at hl1;rw[B4,OH (by omega),show min (rows.length+1-i) (rows.length-i)*6=(rows.length-i)*6 by omega,hbp]at hB1;push_cast
   repeat refine an ?_
   refine X1 VB V4 rfl rfl hxl (by rw[hl1];omega) (fun B2 hB2 hl2=>?_);rw[hl1]at hl2;have hX:[x].flatten.take (min [x].length (rows.length+1-i)*6)=x:=by
    rw[OF,OH (by omega),Wf (by omega)];simp
   rw[hX,hB1]at hB2;push_cast;have hcc:rows.length+1<=c:=by omega
   refine ⟨_,_,_,⟨⟨rfl,c,by rw[hlen];exact hcc,hcm,.inl ⟨rfl,rfl⟩⟩,OS rfl⟩,[],rfl,rfl,?_,by push_cast [ze,zd,CLe,zg,hlen]⟩;push_cast [ze,zd,CLe,zg];refine JI hki hsi (by rw[hlen];exact hcc) hl2 ?_;rw[hlen,←QL hk,hB2];have hg:=kG (cs:=qB 6 rows c) (L:=rows.flatten) (X:=x) (p:=i*6) (q:=(i+1)*6) (by omega) (by omega) hpre (by omega);rw[hfl,hx]at hg;rw[←hg];congr 1;omega
theorem zak (x:List C) (hx:x.length=6) (hsx:(x.all C.stayB)=true) :
  YJ Tryz.prog G 250 [.sc (.slice none 0 0),.sc (.int .i64 0),.own 0 e 6 [x]] [] 1 (fun r bx' n=>n=0/\∃ c,1<=c/\c<=9223372036854775807/\r = .bs 0 0 6 1 c/\bx' = [qB 6 [x] c]):=by
 refine foX (fun j=>if j=1000000+22 then [true,true] else if j=11 then [false,false,false,false,false,false,false,false,true] else if j=15 then [false,false,false,false,false,false,false,false,true] else []) Tryz.func250 ?_;dsimp only[Tryz.f250];push_cast;refine NC VB V4 rfl rfl (by decide) rfl (by simp[hx]) (by simp) (by simp) (by simp) (fun c h1 h2=>?_);push_cast;refine ⟨_,_,_,⟨⟨rfl,c,h1,h2,rfl,rfl⟩,Wc _⟩,[],rfl,rfl,?_,by push_cast [ze,zd,CLe,zg]⟩;push_cast [ze,zd,CLe,zg];have:=zV (src:=[]) (n:=1) (zI (k:=6) (c:=c) (rows:=[x]) fun r hr=>by
  rw[W3.1 hr];exact hsx)
 unfold qB at this ⊢;simpa using this
theorem ziU (rows:List (List C)) (i c:Nat) (hk:∀ r∈rows,r.length=6) (hs:ji rows) (hl:rows.length<=100000) (hi:i<rows.length) (hc:rows.length<=c) (hcm:c<=9223372036854775807) :
  Mr Tryz.prog G 295 [.bs 0 0 6 rows.length c,.sc (.int .i64 i),.sc (.int .i64 ((i:Int)+1))] [qB 6 rows c] 0 (.bs 0 0 6 (rows.length-1) c) [qB 6 (rows.take i++rows.drop (i+1)) c] 0:=by
 refine foB (fun j=>if j=1000000+22 then [true,true] else if j=5 then [false,false,false,false,false,false,true,false] else []) Tryz.func295 ?_;dsimp only[Tryz.f295];have h1:((i:Int)=(i:Int)+1)=False:=Wu (by omega);have hbl:=JM hk hc;have hfl:=zM hk;have hpre:(qB 6 rows c).take rows.flatten.length=rows.flatten:=by unfold qB;rw[BC]
 have hlen:(rows.take i++rows.drop (i+1)).length=rows.length-1:=by simp;omega
 have hki:∀ r∈rows.take i++rows.drop (i+1),r.length=6:=fun r hr=>by
  rcases WF.1 hr with hr | hr
  ·exact hk r (WC hr)
  ·exact hk r (WU hr)
 have hsi:ji (rows.take i++rows.drop (i+1)):=fun r hr=>by
  rcases WF.1 hr with hr | hr
  ·exact hs r (WC hr)
  ·exact hs r (WU hr)
 have hbp:=XW (c:=c) (i:=i+1) hk hi;push_cast [h1]
 repeat refine an ?_
 have hxl:(List.drop ((i+1)*6) rows.flatten).length=(rows.length-(i+1))*6:=by rw[W1,hfl];omega
 refine Q3 VB V4 (U6 rfl (by rw[hbl];omega)) rfl (by decide) rfl (by rw[hbp,hxl]) rfl (by rw[hbl];omega) (by omega) (by omega) (by omega) (fun _=>?_) (fun h=>absurd h (by omega));rw[hbp];have e1:i+(rows.length-(i+1))=rows.length-1:=by omega
 rw[e1];generalize hB1:spl (qB 6 rows c) (0+i*6) (List.drop ((i+1)*6) rows.flatten)=B1;have hl1:B1.length=c*6:=by rw[←hB1,Zm (by rw[hbl,hxl];omega),hbl]
 push_cast
 repeat refine an ?_
 refine znt VB V4 rfl rfl (by decide) rfl (by rw[hl1];omega) (fun B2 Z hB2 hZ hl2=>?_);rw[hl1]at hl2;push_cast;refine ⟨[],rfl,rfl,?_,by push_cast [ze,zd,CLe,zg]⟩;push_cast [ze,zd,CLe,zg];refine JI hki hsi (by rw[hlen];omega) hl2 ?_;have hg:=znl (cs:=qB 6 rows c) (L:=rows.flatten) (Z:=Z) (p:=i*6) (q:=(i+1)*6) (n:=(rows.length-1)*6) (by omega) (by omega) hpre (by omega) (by omega) (by rw[hZ];omega);rw[hlen,hB2,←hB1,AX,←Z7 hk,←kX hk,←hg,Ov]
end
end
section
structure zS where
 name:Lz
 ino:Int
deriving DecidableEq,Inhabited
structure zo where
 ino:Int
 kind:Int
 links:Int
 data:Lz
 parent:Int
 es:List zS
deriving DecidableEq,Inhabited
def qc (xs:List zo):Prop:=xs.Pairwise fun a b=>a.ino<b.ino
def zk (n:Int) (xs:List zo):Bool:=xs.any fun x=>x.ino==n
def jC (n:Int) (xs:List zo):Nat:=(xs.filter fun x=>decide (x.ino<n)).length
def qf (n:Int) (xs:List zo):List zo:=xs.filter fun x=>x.ino != n
def Xy (n:Int) (xs:List zo):Option zo:=xs.find? fun x=>x.ino==n
def ZH (x:zo):List zo->List zo
 | []=>[x]
 | y :: r=>if x.ino<y.ino then x :: y :: r else y :: ZH x r
def qq (x:zo) (xs:List zo):List zo:=ZH x (qf x.ino xs)
theorem NW (n:Int):∀ (xs:List zo) (i:Nat),i<=xs.length->(∀ t (h:t<xs.length),t<i->xs[t].ino<n)->(∀ t (h:t<xs.length),i<=t->n<=xs[t].ino)->jC n xs=i
 | [],i,h,_,_=>by simp at h;simp[jC,h]
 | x :: r,0,_,_,h2=>by
  have hx:n<=x.ino:=h2 0 (by simp) (Wb _);have ih:=NW n r 0 (Wc _) (fun t h h'=>absurd h' (OJ _)) (fun t h _=>h2 (t+1) (by simp;omega) (Wc _));unfold jC at ih ⊢;rw[O4 (by simp;omega)];exact ih
 | x :: r,i+1,h,h1,h2=>by
  have hx:x.ino<n:=h1 0 (by simp) (A5 _);have ih:=NW n r i (by simpa using h) (fun t h h'=>h1 (t+1) (by simp;omega) (by omega)) (fun t h h'=>h2 (t+1) (by simp;omega) (by omega));unfold jC at ih ⊢;rw[Om (by simp;omega),Wh,ih]
theorem zlz (n:Int) (xs:List zo) (i:Nat) (hi:i<xs.length) (h1:∀ t (h:t<xs.length),t<i->xs[t].ino<n) (h2:n<=xs[i].ino) (hR:qc xs):zk n xs=decide (xs[i].ino=n):=by
 by_cases h:xs[i].ino=n
 ·rw[Wm h];exact Oq.2 ⟨xs[i],Wx hi,by simp[h]⟩
 ·rw[Wk h];apply Oo.2;intro hh;obtain ⟨y,hy,e⟩:=Oq.1 hh;obtain ⟨t,ht,rfl⟩:=WH hy;have e:xs[t].ino=n:=by simpa using e
  rcases Ar t i with h3 | h3 | h3
  ·have:=h1 t ht h3;omega
  ·subst h3;exact h e
  ·have:=(WV.1 hR) i t hi ht h3;omega
theorem zgS (n:Int) (xs:List zo) (h1:∀ t (h:t<xs.length),xs[t].ino<n):zk n xs=false:=by
 apply Oo.2;intro hh;obtain ⟨y,hy,e⟩:=Oq.1 hh;obtain ⟨t,ht,rfl⟩:=WH hy;have e:xs[t].ino=n:=by simpa using e
 have:=h1 t ht;omega
theorem NF {n:Int} {xs:List zo} (h:zk n xs=false):Xy n xs=none:=by
 unfold Xy zk at *;rw[Be];intro x hx hh;rw[Og]at h;exact h x hx hh
theorem zcV (n:Int) (xs:List zo) (hR:qc xs):∃ i,i<=xs.length/\(∀ t (h:t<xs.length),t<i->xs[t].ino<n)/\(∀ t (h:t<xs.length),i<=t->n<=xs[t].ino):=by
 induction xs with
 | nil=>exact ⟨0,Wb _,fun t h=>absurd h (OJ _),fun t h=>absurd h (OJ _)⟩
 | cons x r ih =>
  by_cases hx:x.ino<n
  ·obtain ⟨i,h1,h2,h3⟩:=ih (Bv.1 hR).2;refine ⟨i+1,by simp;omega,fun t h ht=>?_,fun t h ht=>?_⟩
   ·cases t with
    | zero=>exact hx
    | succ t=>exact h2 t (by simpa using h) (by omega)
   ·cases t with
    | zero=>omega
    | succ t=>exact h3 t (by simpa using h) (by omega)
  ·refine ⟨0,Wc _,fun t h ht=>absurd ht (OJ _),fun t h _=>?_⟩;cases t with
   | zero=>simp;omega
   | succ t =>
    have:=(Bv.1 hR).1 (r[t]'(by simpa using h)) (Wx _);simp;omega
theorem zfn (n:Int) (xs:List zo):jC n xs<=xs.length:=OG _ _
theorem zhD {n:Int} {xs:List zo} (hR:qc xs):(∀ t (h:t<xs.length),t<jC n xs->xs[t].ino<n)/\(∀ t (h:t<xs.length),jC n xs<=t->n<=xs[t].ino):=by
 obtain ⟨i,h1,h2,h3⟩:=zcV n xs hR;rw[NW n xs i h1 h2 h3];exact ⟨h2,h3⟩
theorem zkD {n:Int} {xs:List zo} (hR:qc xs) (h:zk n xs=true):∃ hlt:jC n xs<xs.length,xs[jC n xs].ino=n:=by
 obtain ⟨h2,h3⟩:=zhD (n:=n) hR;by_cases hlt:jC n xs<xs.length
 ·refine ⟨hlt,?_⟩;have:=zlz n xs _ hlt h2 (h3 _ hlt (Wb _)) hR;rw[h]at this;exact WR this.symm
 ·have:=zgS n xs (fun t h=>h2 t h (by omega));rw[h]at this;cases this
theorem No {n:Int} {xs:List zo} (hR:qc xs) (h:zk n xs=true):∃ hlt:jC n xs<xs.length,Xy n xs=some xs[jC n xs]:=by
 obtain ⟨hlt,he⟩:=zkD hR h;refine ⟨hlt,?_⟩;obtain ⟨h2,h3⟩:=zhD (n:=n) hR;unfold Xy;rw[Ba];exact ⟨by simp[he],_,hlt,rfl,fun j hj=>by have:=h2 j (by omega) hj;simp;omega⟩
theorem jY {y:zo} {r:List zo}:qc (y :: r)↔(∀ z∈r,y.ino<z.ino)/\qc r:=Bv
theorem Ql {n:Int} {y:zo} {r:List zo} (h:y.ino<n):jC n (y :: r)=jC n r+1:=by
 unfold jC;rw[Om (by simpa using h),Wh]
theorem Hk {n:Int} {xs:List zo} (h:∀ z∈xs,n<=z.ino):jC n xs=0:=by
 unfold jC;rw[Ak,A0];intro z hz;have:=h z hz;simp;omega
theorem QS {n:Int} {xs:List zo} (h:zk n xs=false):qf n xs=xs:=by
 unfold qf;rw[BV];intro z hz;unfold zk at h;rw[Og]at h;have:=h z hz;simpa using this
theorem Zj {n:Int} {y:zo} {r:List zo} (h:y.ino<n):zk n (y :: r)=zk n r:=by
 unfold zk;rw[A7,show (y.ino==n)=false by rw[O1];omega,O7]
theorem VH {n:Int} {xs:List zo} (h:∀ z∈xs,n<z.ino):zk n xs=false:=by
 unfold zk;rw[Og];intro z hz;have:=h z hz;simp;omega
theorem JS {n:Int} {y:zo} {r:List zo} (h:y.ino≠n):qf n (y :: r)=y :: qf n r:=by
 unfold qf;rw[Om (by simpa using h)]
theorem Jf {n:Int} {y:zo} {r:List zo} (h:y.ino=n):qf n (y :: r)=qf n r:=by
 unfold qf;rw[O4 (by simpa using h)]
theorem zaV {n:Int}:∀ {xs:List zo},qc xs->zk n xs=true->xs.take (jC n xs)++xs.drop (jC n xs+1)=qf n xs
 | [],_,h=>by cases h
 | y :: r,hR,h=>by
  obtain ⟨h1,h2⟩:=jY.1 hR;by_cases hy:y.ino<n
  ·rw[Ql hy,AH,A9,Oh,zaV h2 (by rwa [Zj hy]at h),JS (by omega)]
  ·have hr0:jC n (y :: r)=0:=Hk fun z hz=>by
    rcases WK.1 hz with rfl | hz
    ·omega
    ·have:=h1 z hz;omega
   by_cases he:y.ino=n
   ·rw[hr0,Jf he,QS (VH fun z hz=>by have:=h1 z hz;omega)];rfl
   ·exfalso
    rw[VH fun z hz=>by
     rcases WK.1 hz with rfl | hz
     ·omega
     ·have:=h1 z hz;omega]at h
    cases h
theorem zrv {x y:zo} {r:List zo} (h:y.ino<x.ino):ZH x (y :: r)=y :: ZH x r:=by
 rw[ZH,if_neg (by omega)]
theorem zeP {x:zo} {xs:List zo} (h:∀ z∈xs,x.ino<z.ino):ZH x xs=x :: xs:=by
 cases xs with
 | nil=>rfl
 | cons y r=>rw[ZH,if_pos (h y Wl)]
theorem Zv {x y:zo} {r:List zo} (h:y.ino<x.ino):qq x (y :: r)=y :: qq x r:=by
 unfold qq;rw[JS (by omega),zrv h]
theorem uL {x:zo}:∀ {xs:List zo},qc xs->zk x.ino xs=true->xs.set (jC x.ino xs) x=qq x xs
 | [],_,h=>by cases h
 | y :: r,hR,h=>by
  obtain ⟨h1,h2⟩:=jY.1 hR;by_cases hy:y.ino<x.ino
  ·rw[Ql hy,List.set_cons_succ,uL h2 (by rwa [Zj hy]at h),Zv hy]
  ·have hr0:jC x.ino (y :: r)=0:=Hk fun z hz=>by
    rcases WK.1 hz with rfl | hz
    ·omega
    ·have:=h1 z hz;omega
   by_cases he:y.ino=x.ino
   ·unfold qq;rw[hr0,Jf he,QS (VH fun z hz=>by have:=h1 z hz;omega),zeP fun z hz=>by have:=h1 z hz;omega];rfl
   ·exfalso
    rw[VH fun z hz=>by
     rcases WK.1 hz with rfl | hz
     ·omega
     ·have:=h1 z hz;omega]at h
    cases h
theorem zaa {x:zo}:∀ {xs:List zo},qc xs->zk x.ino xs=false->xs.take (jC x.ino xs)++x :: xs.drop (jC x.ino xs)=qq x xs
 | [],_,_=>rfl
 | y :: r,hR,h=>by
  obtain ⟨h1,h2⟩:=jY.1 hR;by_cases hy:y.ino<x.ino
  ·rw[Ql hy,AH,A9,Oh,zaa h2 (by rwa [Zj hy]at h),Zv hy]
  ·have hne:y.ino≠x.ino:=by
    intro e;unfold zk at h;rw[A7,e]at h;simp at h
   have hr0:jC x.ino (y :: r)=0:=Hk fun z hz=>by
    rcases WK.1 hz with rfl | hz
    ·omega
    ·have:=h1 z hz;omega
   unfold qq;rw[hr0,QS h,zeP fun z hz=>by
    rcases WK.1 hz with rfl | hz
    ·omega
    ·have:=h1 z hz;omega]
   rfl
theorem zj3 {n:Int} {xs:List zo}:∀ x∈qf n xs,x∈xs:=fun x h=>(Oy.1 h).1
theorem GR {x:zo}:∀ {xs:List zo} {z:zo},z∈ZH x xs↔z=x∨z∈xs
 | [],z=>by simp[ZH]
 | y :: r,z=>by
  rw[ZH];split
  ·simp
  ·rw[WK,GR,WK];constructor
   ·rintro (h | h | h)<;>simp[h]
   ·rintro (h | h | h)<;>simp[h]
theorem zoh {x:zo} {xs:List zo} {z:zo} (h:z∈qq x xs):z=x∨z∈xs:=by
 rcases GR.1 h with h | h
 ·exact .inl h
 ·exact .inr (zj3 _ h)
theorem GO {n:Int} {xs:List zo} (h:qc xs):qc (qf n xs):=List.Pairwise.filter _ h
theorem xC {x:zo}:∀ {xs:List zo},qc xs->(∀ z∈xs,z.ino≠x.ino)->qc (ZH x xs)
 | [],_,_=>by simp[ZH,qc]
 | y :: r,h,hne=>by
  obtain ⟨h1,h2⟩:=jY.1 h;have hy:=hne y Wl;rw[ZH];split
  ·next hlt =>
   refine jY.2 ⟨fun z hz=>?_,h⟩;rcases WK.1 hz with rfl | hz
   ·exact hlt
   ·have:=h1 z hz;omega
  ·next hlt =>
   refine jY.2 ⟨fun z hz=>?_,xC h2 fun z hz=>hne z (Wn _ hz)⟩;rcases GR.1 hz with rfl | hz
   ·omega
   ·exact h1 z hz
theorem z8 {x:zo} {xs:List zo} (h:qc xs):qc (qq x xs):=xC (GO h) fun z hz=>by
 have:=(Oy.1 hz).2;simpa using this
theorem zeW {x:zo}:∀ {xs:List zo},(ZH x xs).length=xs.length+1
 | []=>rfl
 | y :: r=>by
  rw[ZH];split
  ·rfl
  ·rw[Wh,zeW,Wh]
theorem ZZ {n:Int} {xs:List zo}:(qf n xs).length<=xs.length:=OG _ _
theorem zgo {x:zo} {xs:List zo}:(qq x xs).length<=xs.length+1:=by
 unfold qq;rw[zeW];have:=ZZ (n:=x.ino) (xs:=xs);omega
end
variable {xs:List zo} {x y:zo}
section
open CA CB
open Go.RowKit
abbrev Nc (e:zS):List C:=[.str e.name,.sc (.int .i64 e.ino)]
abbrev zJ (es:List zS):List (List C):=es.map Nc
abbrev J0 (x:zo):List C:=[.sc (.int .i64 x.ino),.sc (.int .i64 x.kind),.sc (.int .i64 x.links),.str x.data,.sc (.int .i64 x.parent),.sl 2 (zJ x.es)]
abbrev zu (xs:List zo):List (List C):=xs.map J0
structure FsV where
 maxI:Int
 maxB:Int
 next:Int
 xs:List zo
deriving DecidableEq,Inhabited
abbrev fsC (f:FsV):List C:=[.sc (.int .i64 f.maxI),.sc (.int .i64 f.maxB),.sc (.int .i64 f.next),.sl 6 (zu f.xs)]
theorem jg (xs:List zo) (i:Nat) (h:i<xs.length):(zu xs)[i]?=some (J0 xs[i]):=by simp[Ws,Wa h]
theorem Je (xs:List zS) (i:Nat) (h:i<xs.length):(zJ xs)[i]?=some (Nc xs[i]):=by simp[Ws,Wa h]
def Mn:zo:=⟨0,0,0,[],0,[]⟩
def zf (n:Int) (xs:List zo):zo:=(Xy n xs).getD Mn
def UV (a b:Int):Int:=if a<b then -1 else if b<a then 1 else 0
section
variable {G:zt}
theorem zfo (a:Int):Fun Tryz.prog G 225 [.sc (.int .i64 a)] (.sc (.bool false)) 0:=by
 refine fon Tryz.func225 ?_;dsimp only[Tryz.f225];push_cast;exact dn
theorem uk (a b:Int):Fun Tryz.prog G 182 [.sc (.int .i64 a),.sc (.int .i64 b)] (.sc (.int .i64 (UV a b))) 0:=by
 refine fon Tryz.func182 ?_;dsimp only[Tryz.f182];push_cast;refine cl (zfo a) ?_;push_cast;refine cl (zfo b) ?_;push_cast;refine br (fun h=>?_) (fun h=>?_)
 ·have h:=WR h;push_cast;exact ⟨[],rfl,rfl,by (push_cast [ze,zd,CLe,zg];simp[UV,h])⟩
 ·have h:=OQ h;push_cast;refine br (fun h1=>?_) (fun h1=>?_)
  ·have h1:=WR h1;push_cast;exact ⟨[],rfl,rfl,by (push_cast [ze,zd,CLe,zg];simp[UV,h,h1])⟩
  ·have h1:=OQ h1;push_cast;exact ⟨[],rfl,rfl,by (push_cast [ze,zd,CLe,zg];simp[UV,h,h1])⟩
theorem zfb (x:zo) (n:Int):Fun Tryz.prog G 181 [.agg (J0 x),.sc (.int .i64 n)] (.sc (.int .i64 (UV x.ino n))) 0:=by
 refine fon Tryz.func181 ?_;dsimp only[Tryz.f181];push_cast;refine cl (uk x.ino n) ?_;push_cast;exact dn
theorem yZ (xs:List zo) (n:Int) (hl:xs.length<=100000) (hR:qc xs) :
  Fun Tryz.prog G 180 [.sl 6 (zu xs),.sc (.int .i64 n),.clo (.func 181) [] []] (.tup [.sc (.int .i64 (jC n xs:Nat)),.sc (.bool (zk n xs))]) 0:=by
 refine fon Tryz.func180 ?_;dsimp only[Tryz.f180];push_cast;refine loop (fun p:Nat×Nat=>⟨[(0,.sl 6 (zu xs)),(1,.sc (.int .i64 n)),(2,.clo (.func 181) [] []),(8,.sc (.int .i64 (xs.length:Nat))),(9,.sc (.int .i64 p.1)),(10,.sc (.int .i64 p.2))],[],0,0⟩)
  (fun p=>p.1<=p.2/\p.2<=xs.length/\(∀ t (h:t<xs.length),t<p.1->xs[t].ino<n)/\∀ t (h:t<xs.length),p.2<=t->n<=xs[t].ino) (fun p=>p.2-p.1) (0,xs.length) ⟨Wc _,Wb _,fun t _ h=>by (simp at h),fun t h h'=>by (dsimp only at h';omega)⟩ ?_ ?_
 ·exact wk (by push_cast [ze,zd,CLe,zg,We])
 ·rintro ⟨i,j⟩ ⟨h1,h2,h3,h4⟩;dsimp only at h1 h2 h3 h4 ⊢;by_cases h:i<j
  ·obtain ⟨m,hm⟩:∃ m,m=(i+j) / 2:=⟨_,rfl⟩;have hmi:((i:Int)+(j:Int)) / 2=(m:Int):=by omega
   have hml:m<xs.length:=by omega
   have hat:=jg xs m hml;push_cast [h,hmi,hat]
   repeat refine an ?_
   refine cl (zfb xs[m] n) ?_;push_cast;by_cases hc:xs[m].ino<n
   ·have hcv:UV xs[m].ino n = -1:=by simp[UV,hc]
    push_cast [hcv]
    repeat refine an ?_
    refine ⟨(m+1,j),⟨by omega,h2,fun t ht hlt=>?_,h4⟩,by dsimp only;omega,wk⟩;dsimp only at hlt;rcases Wr t m with q | q
    ·have:=(WV.1 hR) t m ht hml q;omega
    ·have:t=m:=by omega
     subst this;exact hc
   ·have hcv:(UV xs[m].ino n<0)=False:=Wu (by unfold UV;rw[if_neg hc];split<;>omega);push_cast [hcv]
    repeat refine an ?_
    refine ⟨(i,m),⟨by omega,by omega,h3,fun t ht hge=>?_⟩,by dsimp only;omega,wk⟩;dsimp only at hge;rcases Wr m t with q | q
    ·have:=(WV.1 hR) m t hml ht q;omega
    ·have:t=m:=by omega
     subst this;omega
  ·have hij:i=j:=by omega
   subst hij;have hrk:=NW n xs i h2 h3 h4;push_cast [h];refine br (fun hx=>?_) (fun hx=>?_)
   ·have hx:i<xs.length:=by simpa using hx
    have hat:=jg xs i hx;have hh:=zlz n xs i hx h3 (h4 i hx (Wb _)) hR;push_cast [hx,hat]
    repeat refine an ?_
    refine cl (zfb xs[i] n) ?_;push_cast;have hcv:decide (UV xs[i].ino n=0)=zk n xs:=by
     rw[hh];have:=h4 i hx (Wb _);unfold UV;rw[if_neg (by omega)];split
     ·rw[Wk (by omega),Wk (by omega)]
     ·rw[Wm (by rfl),Wm (by omega)]
    push_cast [hcv];exact dn (by push_cast [ze,zd,CLe,zg,hrk])
   ·have hx:¬i<xs.length:=by simpa using hx
    have hh:=zgS n xs fun t ht=>h3 t ht (by omega);push_cast [hx];exact dn (by push_cast [ze,zd,CLe,zg,hrk,hh])
theorem zhx (f:FsV) (n:Int) (hl:f.xs.length<=100000) (hR:qc f.xs):Fun Tryz.prog G 148 [.agg (fsC f),.sc (.int .i64 n)] (.tup [.sc (.int .i64 (jC n f.xs:Nat)),.sc (.bool (zk n f.xs))]) 0:=by
 refine fon Tryz.func148 ?_;dsimp only[Tryz.f148];push_cast;refine cl (yZ f.xs n hl hR) ?_;push_cast;exact dn
end
end
section
open Go.RowKit Go.ChangeMaps Go.ChangeShapes Go.WideShapes Go.Deep Go.Joins
def M1 (W:World):Env:=⟨W,fun _ _=>False,fun _=>False⟩
theorem Fun.answers {u:Value} (h:Fun P G f args (.sc u) n) {W:World} {vs:List Value} (hg:XZ G (M1 W)) (ha:zA (M1 W) zN args vs) :
  Calls P f vs.toArray W fun e w'=>e = .returned u/\Below W.heap.size W w':=by
 refine (h.2 (M1 W) vs hg ha).mono ?_;rintro e w' ⟨v,R',L',rfl,rfl,st,hr⟩;rw[zr]at hr;subst hr;exact ⟨rfl,st.below⟩
section
variable {H:Type} {enc:TypeId×Value->H} {P:Program} {W:World}
def Opn (enc:TypeId×Value->H) (P:Program) (W:World) (t:TypeId) (Q:C->Prop):Prop:=
 ∀ (fuel:Nat) (cs:List Value) (x:DataW H×List MemPlace),DataW.trod enc P W 0 (fun _=>true) true fuel t cs=some x->∃ v c,cs = [v]/\Q c/\Rep (M1 W) zN c v/\v.oneCell'=true
def jE (enc:TypeId×Value->H) (P:Program) (W:World) (t:TypeId) (k:Nat) (Q:List C->Prop):Prop:=
 ∀ (fuel:Nat) (cs:List Value) (x:DataW H×List MemPlace),DataW.trod enc P W 0 (fun _=>true) true fuel t cs=some x ->
  ∃ row,Q row/\row.length=k/\cs.length=k/\∀ (j:Nat) c v,row[j]?=some c->cs[j]?=some v->Rep (M1 W) zN c v/\v.oneCell'=true
theorem Opn.int {k:IntKind} (ht:P.underlying t=some (.int k)):Opn enc P W t fun c=>∃ n,c = .sc (.int k n)/\(Lit.int k n).wf=true:=fun fuel cs x h=>by
 obtain ⟨n,rfl,_,hw⟩:=DataW.trod_int ht h;exact ⟨_,_,rfl,⟨n,rfl,hw⟩,zr.2 rfl,rfl⟩
theorem Opn.bool (ht:P.underlying t=some .bool):Opn enc P W t fun c=>∃ b,c = .sc (.bool b):=fun fuel cs x h=>by
 obtain ⟨n,rfl,_⟩:=DataW.trod_bool ht h;exact ⟨_,_,rfl,⟨n,rfl⟩,zr.2 rfl,rfl⟩
theorem Opn.str (ht:P.underlying t=some .string):Opn enc P W t fun c=>∃ l:Lz,c = .str l/\l.length<=maxLen:=fun fuel cs x h=>by
 obtain ⟨s,rfl,_,hs⟩:=DataW.trod_string ht h;exact ⟨_,_,rfl,⟨s.data.toList,rfl,by rw[WW];exact hs⟩,z6.2 (by cases s;simp),rfl⟩
theorem jE.one {Q:C->Prop} (h:Opn enc P W t Q):jE enc P W t 1 fun row=>∃ c,row = [c]/\Q c:=fun fuel cs x hx=>by
 obtain ⟨v,c,rfl,hq,hr,ho⟩:=h fuel cs x hx;refine ⟨[c],⟨c,rfl,hq⟩,rfl,rfl,fun j c' v' h1 h2=>?_⟩;cases j with
 | zero=>cases h1;cases h2;exact ⟨hr,ho⟩
 | succ j=>cases h1
theorem Zo {α:Type} {Q:Nat->α->Prop}:∀ n:Nat,(∀ i,i<n->∃ x,Q i x)->∃ l:List α,l.length=n/\∀ i (h:i<l.length),Q i l[i]
 | 0,_=>⟨[],rfl,fun i h=>absurd h (OJ _)⟩
 | n+1,h=>by
  obtain ⟨l,hl,hq⟩:=Zo n fun i hi=>h i (by omega);obtain ⟨x,hx⟩:=h n (by omega);refine ⟨l++[x],by simp[hl],fun i hi=>?_⟩;rcases Wr i n with h1 | h1
  ·rw[List.getElem_append_left (by omega)];exact hq i (by omega)
  ·have:i=n:=by simp[hl]at hi;omega
   subst this;rw[List.getElem_append_right (by omega)];simpa [hl] using hx
theorem jE.struct {fs:Array Field} {Qs:Nat->C->Prop} (hs:P.underlying t=some (.struct fs)) (hone:oneCellFields P fs=true) (hC:P.cellsOf t=fs.size)
  (h:∀ (j:Nat) f,fs[j]?=some f->Opn enc P W f.type (Qs j)):jE enc P W t fs.size fun row=>row.length=fs.size/\∀ (j:Nat) c,row[j]?=some c->Qs j c:=fun fuel cs x hx=>by
 obtain ⟨ys,n',hn',hy,hlen,hyl,hf⟩:=DataW.trod_struct hs hx;rw[hC]at hlen;obtain ⟨row,hl,hq⟩:=Zo (Q:=fun j (c:C)=>Qs j c/\∃ v,cs[j]?=some v/\Rep (M1 W) zN c v/\v.oneCell'=true) fs.size (fun j hj=>by
  have hfj:fs[j]?=some fs[j]:=W5 hj;obtain ⟨ho,hk⟩:=hone_of hone j _ hfj;have h1:=hf j _ hfj;rw[ho,hk]at h1;have hone':(cs.drop j).take 1 = [cs[j]'(by omega)]:=by
   rw[Oc (by omega)]
   rfl
  rw[hone',Wa (by omega)]at h1;obtain ⟨v,c,e,hq,hr,hoc⟩:=h j _ hfj _ _ _ h1;cases e;exact ⟨c,hq,_,Wa (by omega),hr,hoc⟩)
 refine ⟨row,⟨hl,fun j c hj=>?_⟩,hl,hlen,fun j c v h1 h2=>?_⟩
 ·obtain ⟨hj',rfl⟩:=Wd.1 hj;exact (hq j hj').1
 ·obtain ⟨hj',rfl⟩:=Wd.1 h1;obtain ⟨_,v',e,hr,ho⟩:=hq j hj';rw[h2]at e;cases e;exact ⟨hr,ho⟩
theorem Opn.slice {e:TypeId} {Q:List C->Prop} (ht:P.underlying t=some (.slice e)) (hC:P.cellsOf e=k) (hk:0<k) (h:jE enc P W e k Q):Opn enc P W t fun c=>∃ rows,c = .sl k rows/\rows.length<=maxLen/\∀ r∈rows,Q r:=fun fuel cs x hx=>by
 rcases open_slice ht hx with h0 | ⟨a,len,cap,m,n,D,Pl,hcs,hb,hl,hm,hmm,hx,hi⟩
 ·exact ⟨_,.sl k [],h0.1,⟨[],rfl,Wc _,fun r hr=>by cases hr⟩,GK.2 ⟨none,0,rfl,Wb _,Wc _,.inl rfl⟩,rfl⟩
 ·simp only[if_true]at hmm;subst hmm;obtain ⟨rows,hrl,hq⟩:=Zo (Q:=fun i (row:List C)=>Q row/\row.length=k/\∀ (j:Nat) c,row[j]?=some c->∃ v,W.cell? (a.add (i*k+j))=some v/\Rep (M1 W) zN c v/\v.oneCell'=true) len (fun i hlt=>by
   obtain ⟨cs',hc,ht'⟩:=hi i (by omega);rw[hC]at hc;obtain ⟨row,hq,hl1,hl2,hr⟩:=h _ _ _ ht';obtain ⟨_,hcl,hat⟩:=World.cells?_some hc;refine ⟨row,hq,hl1,fun j c hj=>?_⟩;have hjl:j<k:=by have:=(Wd.1 hj).1;omega
   have hv:cs'[j]?=some (cs'[j]'(by omega)):=Wa (by omega);obtain ⟨hr1,hr2⟩:=hr j c _ hj hv;refine ⟨_,?_,hr1,hr2⟩;rw[←Go.Deep.add_add,hat j hjl,hv])
  refine ⟨_,.sl k rows,hcs,⟨rows,rfl,by omega,fun r hr=>?_⟩,?_,rfl⟩
  ·obtain ⟨i,hi',rfl⟩:=WH hr;exact (hq i hi').1
  ·refine GK.2 ⟨some a,m,by rw[hrl],by omega,by omega,?_⟩;by_cases h0:rows = []
   ·exact .inl h0
   ·have hpos:0<rows.length:=WB.2 h0;obtain ⟨b,off,spot⟩:=a;obtain ⟨_,hl0,h00⟩:=hq 0 hpos;obtain ⟨v0,hc0,_⟩:=h00 0 ((rows[0]'hpos)[0]'(by omega)) (Wa _);have hspot:spot=none:=by simpa [Addr.add] using World.cell?_spot hc0
    subst hspot;refine .inr ⟨b,off,rfl,jh fun i row hrow=>?_⟩;obtain ⟨hi',rfl⟩:=Wd.1 hrow;obtain ⟨_,hlr,hcr⟩:=hq i hi';refine ⟨hlr,qk fun j c hj=>?_⟩;obtain ⟨v,h1,h2,h3⟩:=hcr j c hj;rw[Addr.add_lit]at h1;exact ⟨v,by rw[B6];exact h1,fun hf=>hf,h2,h3⟩
theorem Opn.arg {r:Reach} {b0:Nat} {Q:C->Prop} {d:DataW H} {p:List MemPlace} (h:Opn enc P W t Q) (hv:v.cells = #[v]) (hd:DataW.Trod enc P W 0 (fun _=>true) true t v d p):∃ c,Q c/\Rep (M1 W) zN c v:=by
 obtain ⟨fuel,hf⟩:=hd;rw[hv]at hf;obtain ⟨v',c,e,hq,hr,_⟩:=h _ _ _ hf;cases e;exact ⟨c,hq,hr⟩
theorem jE.arg {r:Reach} {b0:Nat} {fs:Array Field} {Q:List C->Prop} {d:DataW H} {p:List MemPlace} (h:jE enc P W t k Q) (hs:P.underlying t=some (.struct fs)) (hval:Value.okWide P W r b0 t v)
  (hd:DataW.Trod enc P W 0 (fun _=>true) true t v d p):∃ row,Q row/\Rep (M1 W) zN (.agg row) v:=by
 obtain ⟨cs,rfl,hsz⟩:=okWide_struct hs hval;obtain ⟨fuel,hf⟩:=hd;obtain ⟨row,hq,h1,h2,hr⟩:=h _ _ _ hf;refine ⟨row,hq,Jq.2 ⟨cs,rfl,YA ?_ fun i c v hc hv=>(hr i c v hc hv).1⟩⟩;have:cs.toList.length=k:=h2;omega
end
end
section
open Go.RowKit Go.ChangeMaps Go.ChangeShapes Go.WideShapes Go.Deep Go.Joins
theorem GZ {α:Type} {f:α->List C} {q:α->Prop}:∀ {rows:List (List C)},(∀ r∈rows,∃ a,r=f a/\q a)->∃ xs:List α,rows=xs.map f/\∀ x∈xs,q x
 | [],_=>⟨[],rfl,fun x h=>by cases h⟩
 | r :: rows,h=>by
  obtain ⟨xs,rfl,hq⟩:=GZ fun r' hr=>h r' (Wn _ hr);obtain ⟨o,rfl,ho⟩:=h r Wl;exact ⟨o :: xs,rfl,fun x hx=>by
   rcases WK.1 hx with rfl | hx
   ·exact ho
   ·exact hq x hx⟩
section
variable {H:Type} {enc:TypeId×Value->H} {W:World}
theorem zmQ:jE enc Tryz.prog W 112 2 fun row=>∃ o:zS,row=Nc o/\o.name.length<=maxLen:=fun fuel cs x hx=>by
 obtain ⟨row,⟨hl,hq⟩,h1,h2,h3⟩:=jE.struct (W:=W) (enc:=enc) (Qs:=fun j c=>match j with | 0=>∃ l:Lz,c = .str l/\l.length<=maxLen | 1=>∃ n,c = .sc (.int .i64 n)/\(Lit.int .i64 n).wf=true | _=>True) Tryz.underlying112 (by kernel_rfl) (by kernel_rfl) (fun j f hj=>by
  match j,hj with
  | 0,hj=>cases hj;exact Opn.str Tryz.underlying9
  | 1,hj=>cases hj;exact Opn.int Tryz.underlying3
  | j+2,hj=>simp at hj) fuel cs x hx
 match row,h1,hq,h3 with
 | [c0,c1],_,hq,h3 =>
  obtain ⟨a,rfl,ha⟩:=hq 0 c0 rfl;obtain ⟨k,rfl,_⟩:=hq 1 c1 rfl;exact ⟨_,⟨⟨a,k⟩,rfl,ha⟩,rfl,h2,h3⟩
theorem zj4:Opn enc Tryz.prog W 62 fun c=>∃ xs:List zS,c = .sl 2 (zJ xs)/\xs.length<=maxLen/\∀ x∈xs,x.name.length<=maxLen:=fun fuel cs x hx=>by
 obtain ⟨v,c,rfl,⟨rows,rfl,hl,hr⟩,h1,h2⟩:=Opn.slice (W:=W) (enc:=enc) Tryz.underlying62 (show Tryz.prog.cellsOf 112=2 by kernel_rfl) (by decide) zmQ fuel cs x hx;obtain ⟨xs,rfl,hq⟩:=GZ hr;exact ⟨v,_,rfl,⟨xs,rfl,by simpa using hl,hq⟩,h1,h2⟩
def ze5 (x:zo):Prop:=x.data.length<=maxLen/\x.es.length<=maxLen/\∀ e∈x.es,e.name.length<=maxLen
theorem zgs:jE enc Tryz.prog W 64 6 fun row=>∃ o:zo,row=J0 o/\ze5 o:=fun fuel cs x hx=>by
 obtain ⟨row,⟨hl,hq⟩,h1,h2,h3⟩:=jE.struct (W:=W) (enc:=enc) (Qs:=fun j c=>match j with | 0=>∃ n,c = .sc (.int .i64 n)/\(Lit.int .i64 n).wf=true | 1=>∃ n,c = .sc (.int .i64 n)/\(Lit.int .i64 n).wf=true | 2=>∃ n,c = .sc (.int .i64 n)/\(Lit.int .i64 n).wf=true | 3=>∃ l:Lz,c = .str l/\l.length<=maxLen | 4=>∃ n,c = .sc (.int .i64 n)/\(Lit.int .i64 n).wf=true | 5=>∃ xs:List zS,c = .sl 2 (zJ xs)/\xs.length<=maxLen/\∀ x∈xs,x.name.length<=maxLen | _=>True) Tryz.underlying64 (by kernel_rfl) (by kernel_rfl) (fun j f hj=>by
  match j,hj with
  | 0,hj=>cases hj;exact Opn.int Tryz.underlying3
  | 1,hj=>cases hj;exact Opn.int Tryz.underlying3
  | 2,hj=>cases hj;exact Opn.int Tryz.underlying3
  | 3,hj=>cases hj;exact Opn.str Tryz.underlying9
  | 4,hj=>cases hj;exact Opn.int Tryz.underlying3
  | 5,hj=>cases hj;exact zj4
  | j+6,hj=>simp at hj) fuel cs x hx
 match row,h1,hq,h3 with
 | [c0,c1,c2,c3,c4,c5],_,hq,h3 =>
  obtain ⟨a,rfl,_⟩:=hq 0 c0 rfl;obtain ⟨b,rfl,_⟩:=hq 1 c1 rfl;obtain ⟨c,rfl,_⟩:=hq 2 c2 rfl;obtain ⟨d,rfl,hd⟩:=hq 3 c3 rfl;obtain ⟨e,rfl,_⟩:=hq 4 c4 rfl;obtain ⟨f,rfl,hf⟩:=hq 5 c5 rfl;exact ⟨_,⟨⟨a,b,c,d,e,f⟩,rfl,hd,hf⟩,rfl,h2,h3⟩
theorem zaO:Opn enc Tryz.prog W 22 fun c=>∃ xs:List zo,c = .sl 6 (zu xs)/\xs.length<=maxLen/\∀ x∈xs,ze5 x:=fun fuel cs x hx=>by
 obtain ⟨v,c,rfl,⟨rows,rfl,hl,hr⟩,h1,h2⟩:=Opn.slice (W:=W) (enc:=enc) Tryz.underlying22 (show Tryz.prog.cellsOf 64=6 by kernel_rfl) (by decide) zgs fuel cs x hx;obtain ⟨xs,rfl,hq⟩:=GZ hr;exact ⟨v,_,rfl,⟨xs,rfl,by simpa using hl,hq⟩,h1,h2⟩
theorem zrW:jE enc Tryz.prog W 24 4 fun row=>∃ f:FsV,row=fsC f/\f.xs.length<=maxLen/\∀ x∈f.xs,ze5 x:=fun fuel cs x hx=>by
 obtain ⟨row,⟨hl,hq⟩,h1,h2,h3⟩:=jE.struct (W:=W) (enc:=enc) (Qs:=fun j c=>match j with | 0=>∃ n,c = .sc (.int .i64 n)/\(Lit.int .i64 n).wf=true | 1=>∃ n,c = .sc (.int .i64 n)/\(Lit.int .i64 n).wf=true | 2=>∃ n,c = .sc (.int .i64 n)/\(Lit.int .i64 n).wf=true | 3=>∃ xs:List zo,c = .sl 6 (zu xs)/\xs.length<=maxLen/\∀ x∈xs,ze5 x | _=>True) Tryz.underlying24 (by kernel_rfl) (by kernel_rfl) (fun j f hj=>by
  match j,hj with
  | 0,hj=>cases hj;exact Opn.int Tryz.underlying3
  | 1,hj=>cases hj;exact Opn.int Tryz.underlying3
  | 2,hj=>cases hj;exact Opn.int Tryz.underlying3
  | 3,hj=>cases hj;exact zaO
  | j+4,hj=>simp at hj) fuel cs x hx
 match row,h1,hq,h3 with
 | [c0,c1,c2,c3],_,hq,h3 =>
  obtain ⟨a,rfl,_⟩:=hq 0 c0 rfl;obtain ⟨b,rfl,_⟩:=hq 1 c1 rfl;obtain ⟨c,rfl,_⟩:=hq 2 c2 rfl;obtain ⟨d,rfl,hd⟩:=hq 3 c3 rfl;exact ⟨_,⟨⟨a,b,c,d⟩,rfl,hd⟩,rfl,h2,h3⟩
end
end
section
open Go
structure zlH (κ:Type) where
 lt:κ->κ->Bool
 irr:∀ a,lt a a=false
 tr:∀ {a b c},lt a b=true->lt b c=true->lt a c=true
 tot:∀ {a b},lt a b=false->lt b a=false->a=b
theorem Qw:∀ a:Lz,Op.bytesLess a a=false
 | []=>rfl
 | c :: a=>by
  have h:¬c<c:=by simp
  simp[Op.bytesLess,Qw a]
theorem Nx:∀ {a b c:Lz},Op.bytesLess a b=true->Op.bytesLess b c=true->Op.bytesLess a c=true
 | _,[],_,h,_=>by unfold Op.bytesLess at h;cases h
 | [],y :: b,[],_,h2=>by unfold Op.bytesLess at h2;cases h2
 | [],y :: b,z :: c,_,_=>rfl
 | x :: a,y :: b,[],_,h2=>by unfold Op.bytesLess at h2;cases h2
 | x :: a,y :: b,z :: c,h1,h2=>by
  unfold Op.bytesLess at h1 h2 ⊢;simp only[Ow,Wt,W6,OC]at h1 h2 ⊢;rcases h1 with h1 | ⟨rfl,h1⟩
  ·rcases h2 with h2 | ⟨rfl,h2⟩
   ·exact .inl (UInt8.lt_trans h1 h2)
   ·exact .inl h1
  ·rcases h2 with h2 | ⟨rfl,h2⟩
   ·exact .inl h2
   ·exact .inr ⟨rfl,Nx h1 h2⟩
theorem Hs:∀ {a b:Lz},Op.bytesLess a b=false->Op.bytesLess b a=false->a=b
 | [],[],_,_=>rfl
 | [],y :: b,h,_=>by unfold Op.bytesLess at h;cases h
 | x :: a,[],_,h=>by unfold Op.bytesLess at h;cases h
 | x :: a,y :: b,h1,h2=>by
  unfold Op.bytesLess at h1 h2;simp only[BK,Ou,AK,O1]at h1 h2;obtain ⟨g1,g2⟩:=h1;obtain ⟨g3,g4⟩:=h2;have hxy:x=y:=by
   apply Ao.1;have e1:¬x.toNat<y.toNat:=fun h=>g1 (AL.2 h);have e2:¬y.toNat<x.toNat:=fun h=>g3 (AL.2 h);omega
  subst hxy;have h3:Op.bytesLess a b=false:=by rcases g2 with g | g;exact absurd rfl g;exact g
  have h4:Op.bytesLess b a=false:=by rcases g4 with g | g;exact absurd rfl g;exact g
  rw[Hs h3 h4]
theorem zez:∀ a b:Lz,(Lib.compareBytes a b<0)=(Op.bytesLess a b=true)
 | [],[]=>by simp[Lib.compareBytes,Op.bytesLess]
 | [],_ :: _=>by simp[Lib.compareBytes,Op.bytesLess]
 | _ :: _,[]=>by simp[Lib.compareBytes,Op.bytesLess]
 | a :: x,b :: y=>by
  unfold Lib.compareBytes Op.bytesLess;by_cases h1:a<b
  ·simp[h1]
  ·rw[if_neg h1];by_cases h2:b<a
   ·have:a≠b:=fun e=>by subst e;exact h1 h2
    simp[h1,h2,this]
   ·have e:a=b:=by
     apply Ao.1;have e1:¬a.toNat<b.toNat:=fun h=>h1 (AL.2 h);have e2:¬b.toNat<a.toNat:=fun h=>h2 (AL.2 h);omega
    rw[if_neg h2,zez x y];subst e;simp[h1]
theorem zfz:∀ a b:Lz,(Lib.compareBytes a b=0)=(a=b)
 | [],[]=>by simp[Lib.compareBytes]
 | [],_ :: _=>by simp[Lib.compareBytes]
 | _ :: _,[]=>by simp[Lib.compareBytes]
 | a :: x,b :: y=>by
  unfold Lib.compareBytes;by_cases h1:a<b
  ·have:a≠b:=fun e=>by subst e;simp at h1
   simp[h1,this]
  ·rw[if_neg h1];by_cases h2:b<a
   ·have:a≠b:=fun e=>by subst e;exact h1 h2
    simp[h2,this]
   ·have e:a=b:=by
     apply Ao.1;have e1:¬a.toNat<b.toNat:=fun h=>h1 (AL.2 h);have e2:¬b.toNat<a.toNat:=fun h=>h2 (AL.2 h);omega
    rw[if_neg h2,zfz x y];subst e;simp
def jI:zlH Lz:=⟨Op.bytesLess,Qw,Nx,Hs⟩
def Jk:zlH Int:=⟨fun a b=>decide (a<b),fun a=>by simp,fun h1 h2=>by simp at h1 h2 ⊢;omega,fun h1 h2=>by simp at h1 h2;omega⟩
section
variable {α κ:Type} [DecidableEq κ] (o:zlH κ) (key:α->κ)
def qT (xs:List α):Prop:=xs.Pairwise fun a b=>o.lt (key a) (key b)=true
def qv (n:κ) (xs:List α):Nat:=(xs.filter fun x=>o.lt (key x) n).length
def Ya (n:κ) (xs:List α):Bool:=xs.any fun x=>decide (key x=n)
def jk (n:κ) (xs:List α):Option α:=xs.find? fun x=>decide (key x=n)
def JH (n:κ) (xs:List α):List α:=xs.filter fun x=>!decide (key x=n)
def Q5 (x:α):List α->List α
 | []=>[x]
 | y :: r=>if o.lt (key x) (key y) then x :: y :: r else y :: Q5 x r
variable {o:zlH κ} {key:α->κ}
theorem zlH.asym {a b:κ} (h:o.lt a b=true):o.lt b a=false:=by
 cases h':o.lt b a with
 | false=>rfl
 | true=>have:=o.tr h h';rw[o.irr]at this;cases this
theorem ZQ (n:κ):∀ (xs:List α) (i:Nat),i<=xs.length->(∀ t (h:t<xs.length),t<i->o.lt (key xs[t]) n=true)->(∀ t (h:t<xs.length),i<=t->o.lt (key xs[t]) n=false)->qv o key n xs=i
 | [],i,h,_,_=>by simp at h;simp[qv,h]
 | x :: r,0,_,_,h2=>by
  have hx:o.lt (key x) n=false:=h2 0 (by simp) (Wb _);have ih:=ZQ n r 0 (Wc _) (fun t h h'=>absurd h' (OJ _)) (fun t h _=>h2 (t+1) (by simp;omega) (Wc _));unfold qv at ih ⊢;rw[O4 (by simp[hx])];exact ih
 | x :: r,i+1,h,h1,h2=>by
  have hx:o.lt (key x) n=true:=h1 0 (by simp) (A5 _);have ih:=ZQ n r i (by simpa using h) (fun t h h'=>h1 (t+1) (by simp;omega) (by omega)) (fun t h h'=>h2 (t+1) (by simp;omega) (by omega));unfold qv at ih ⊢;rw[Om (by simp[hx]),Wh,ih]
theorem Z0 (n:κ) (xs:List α):qv o key n xs<=xs.length:=OG _ _
theorem JG {y:α} {r:List α}:qT o key (y :: r)↔(∀ z∈r,o.lt (key y) (key z)=true)/\qT o key r:=Bv
theorem zcq {n:κ} {y:α} {r:List α} (h:o.lt (key y) n=true):qv o key n (y :: r)=qv o key n r+1:=by
 unfold qv;rw[Om (by simpa using h),Wh]
theorem zdn {n:κ} {y:α} {r:List α} (hR:qT o key (y :: r)) (h:o.lt (key y) n=false):qv o key n (y :: r)=0:=by
 obtain ⟨h1,_⟩:=JG.1 hR;unfold qv;rw[Ak,A0];intro z hz;rcases WK.1 hz with rfl | hz
 ·simp[h]
 ·have h3:=h1 z hz;cases h4:o.lt (key z) n with
  | false=>simp
  | true=>have:=o.tr h3 h4;rw[h]at this;cases this
theorem zd5 {n:κ} {y:α} {r:List α} (hR:qT o key (y :: r)) (h:o.lt (key y) n=false):Ya key n (y :: r)=decide (key y=n):=by
 obtain ⟨h1,_⟩:=JG.1 hR;unfold Ya;rw[A7];have:(r.any fun x=>decide (key x=n))=false:=Og.2 fun z hz=>by
  have h3:=h1 z hz;simp only[W6];rintro rfl;rw[h3]at h;cases h
 rw[this,AS]
theorem UB (n:κ):∀ {xs:List α},qT o key xs->(∀ t (h:t<xs.length),t<qv o key n xs->o.lt (key xs[t]) n=true)/\(∀ t (h:t<xs.length),qv o key n xs<=t->o.lt (key xs[t]) n=false) /\
  (Ya key n xs=true->∃ h:qv o key n xs<xs.length,key xs[qv o key n xs]=n/\jk key n xs=some xs[qv o key n xs]/\JH key n xs=xs.take (qv o key n xs)++xs.drop (qv o key n xs+1)/\∀ x,key x=n->Q5 o key x (JH key n xs)=xs.set (qv o key n xs) x) /\
  (Ya key n xs=false->jk key n xs=none/\JH key n xs=xs/\∀ x,key x=n->Q5 o key x xs=xs.take (qv o key n xs)++x :: xs.drop (qv o key n xs))
 | [],_=>⟨fun t h=>absurd h (OJ _),fun t h=>absurd h (OJ _),fun h=>(by cases h),fun _=>⟨rfl,rfl,fun x _=>rfl⟩⟩
 | y :: r,hR=>by
  obtain ⟨h1,h2⟩:=JG.1 hR;obtain ⟨i1,i2,i3,i4⟩:=UB n h2;cases hy:o.lt (key y) n with
  | true =>
   have hne:key y≠n:=by rintro rfl;rw[o.irr]at hy;cases hy
   have hrk:=zcq (r:=r) hy;have hhas:Ya key n (y :: r)=Ya key n r:=by unfold Ya;rw[A7,Wk hne,O7]
   have hfind:jk key n (y :: r)=jk key n r:=by unfold jk;rw[Aq (by simpa using hne)]
   have hless:JH key n (y :: r)=y :: JH key n r:=by unfold JH;rw[Om (by simpa using hne)]
   have hput:∀ x q,key x=n->Q5 o key x (y :: q)=y :: Q5 o key x q:=fun x q hx=>by
    rw[Q5,hx,zlH.asym hy];rfl
   rw[hhas,hfind,hless,hrk];refine ⟨fun t h ht=>?_,fun t h ht=>?_,fun h=>?_,fun h=>?_⟩
   ·cases t with
    | zero=>exact hy
    | succ t=>exact i1 t (by simpa using h) (by omega)
   ·cases t with
    | zero=>omega
    | succ t=>exact i2 t (by simpa using h) (by omega)
   ·obtain ⟨g,g1,g2,g3,g4⟩:=i3 h;refine ⟨by simp;omega,by simpa using g1,by simpa using g2,by rw[g3];simp,fun x hx=>?_⟩;rw[hput x _ hx,g4 x hx];simp
   ·obtain ⟨g1,g2,g3⟩:=i4 h;refine ⟨g1,by rw[g2],fun x hx=>?_⟩;rw[hput x _ hx,g3 x hx];simp
  | false =>
   have hrk:=zdn hR hy;have hhas:=zd5 hR hy;rw[hrk,hhas];have hno:∀ z∈r,key z≠n:=fun z hz=>by
    have h3:=h1 z hz;rintro rfl;rw[h3]at hy;cases hy
   have hlr:JH key n r=r:=by
    unfold JH;rw[BV];intro z hz;simpa using hno z hz
   refine ⟨fun t h ht=>absurd ht (OJ _),fun t h _=>?_,fun h=>?_,fun h=>?_⟩
   ·cases t with
    | zero=>exact hy
    | succ t =>
     have h3:=h1 (r[t]'(by simpa using h)) (Wx _);show o.lt (key (r[t]'(by simpa using h))) n=false;cases h4:o.lt (key (r[t]'(by simpa using h))) n with
     | false=>rfl
     | true=>have:=o.tr h3 h4;rw[hy]at this;cases this
   ·have hk:key y=n:=WR h;have hl:JH key n (y :: r)=r:=by
     show (y :: r).filter (fun x=>!decide (key x=n))=r;rw[O4 (by simpa using hk)];exact hlr
    refine ⟨by simp,hk,by unfold jk;rw[AG (by simpa using hk)];rfl,by rw[hl];simp,fun x hx=>?_⟩;rw[hl];cases r with
    | nil=>rfl
    | cons z q =>
     have h3:=h1 z Wl;rw[hk]at h3;rw[Q5,hx,h3];rfl
   ·have hk:key y≠n:=OQ h;have hny:o.lt n (key y)=true:=by
     cases h5:o.lt n (key y) with
     | true=>rfl
     | false=>exact absurd (o.tot hy h5) hk
    refine ⟨?_,?_,fun x hx=>?_⟩
    ·unfold jk;rw[Be];intro z hz;rcases WK.1 hz with rfl | hz
     ·simpa using hk
     ·simpa using hno z hz
    ·show (y :: r).filter (fun x=>!decide (key x=n))=y :: r;rw[Om (by simpa using hk)];exact WA _ hlr
    ·rw[Q5,hx,hny];rfl
theorem y9 (n:κ) {xs:List α} (hR:qT o key xs) {i:Nat} (hi:qv o key n xs=i) (h:i<xs.length):Ya key n xs=decide (key xs[i]=n):=by
 subst hi;obtain ⟨_,_,h3,_⟩:=UB n hR;cases hh:Ya key n xs with
 | true=>obtain ⟨_,g,_⟩:=h3 hh;rw[Wm g]
 | false =>
  symm
  rw[Ou];intro e;unfold Ya at hh;rw[Og]at hh;exact hh _ (Wx h) (Wm e)
theorem Nw (n:κ) {xs:List α} (hR:qT o key xs) (hi:qv o key n xs=xs.length):Ya key n xs=false:=by
 obtain ⟨_,_,h3,_⟩:=UB n hR;cases hh:Ya key n xs with
 | false=>rfl
 | true=>obtain ⟨g,_⟩:=h3 hh;omega
theorem Hr (n:κ) {xs:List α} (h:qT o key xs):qT o key (JH key n xs):=h.filter _
theorem QW {x y:α}:∀ {xs:List α},y∈Q5 o key x xs↔y=x∨y∈xs
 | []=>by simp[Q5]
 | z :: r=>by
  unfold Q5;split
  ·simp
  ·rw[WK,QW,WK];constructor
   ·rintro (h | h | h)
    ·exact .inr (.inl h)
    ·exact .inl h
    ·exact .inr (.inr h)
   ·rintro (h | h | h)
    ·exact .inr (.inl h)
    ·exact .inl h
    ·exact .inr (.inr h)
theorem ZE {n:κ} {y:α} {xs:List α}:y∈JH key n xs↔y∈xs/\key y≠n:=by unfold JH;simp
theorem VV {x:α}:∀ {xs:List α},qT o key xs->(∀ y∈xs,key y≠key x)->qT o key (Q5 o key x xs)
 | [],_,_=>by unfold Q5 qT;simp
 | y :: r,hR,hne=>by
  obtain ⟨h1,h2⟩:=JG.1 hR;unfold Q5;cases hxy:o.lt (key x) (key y) with
  | true =>
   rw[if_pos rfl,JG];refine ⟨fun z hz=>?_,hR⟩;rcases WK.1 hz with rfl | hz
   ·exact hxy
   ·exact o.tr hxy (h1 z hz)
  | false =>
   rw[if_neg (by simp),JG];have hyx:o.lt (key y) (key x)=true:=by
    cases h:o.lt (key y) (key x) with
    | true=>rfl
    | false=>exact absurd (o.tot h hxy) (hne y Wl)
   refine ⟨fun z hz=>?_,VV h2 fun z hz=>hne z (Wn _ hz)⟩;rcases QW.1 hz with rfl | hz
   ·exact hyx
   ·exact h1 z hz
theorem kO {x:α} {xs:List α} (h:qT o key xs):qT o key (Q5 o key x (JH key (key x) xs)):=
 VV (Hr _ h) fun y hy=>(ZE.1 hy).2
theorem YH (n:κ) (xs:List α):(JH key n xs).length<=xs.length:=OG _ _
theorem UI (x:α):∀ xs:List α,(Q5 o key x xs).length=xs.length+1
 | []=>rfl
 | y :: r=>by
  unfold Q5;split
  ·rfl
  ·rw[Wh,UI x r];rfl
end
end
section
open Go.RowKit
section
variable {G:zt}
theorem zcA (rows:List (List C)) (hk:∀ r∈rows,r.length=2) (hs:ji rows) (hl:rows.length<=100000) :
  YJ Tryz.prog G 291 [.sl 2 rows] [] 0 (zgX 2 rows):=by
 refine YJ.bySlice (fun h=>?_) (fun h a cap hr=>?_)
 ·refine foX (fun i=>if i=1000000+62 then [true,true] else []) Tryz.func291 ?_;dsimp only[Tryz.f291];push_cast;refine ⟨h,Q3 Zf YE rfl rfl (by decide) rfl (zM hk) rfl (Wb _) (Wb _) (by omega) (by omega) (fun hc=>absurd hc ?_) (fun _ c hc hm=>?_)⟩
  ·have:=WB.2 h;omega
  ·push_cast;rw[Ov]at hc;refine ⟨_,_,_,⟨⟨rfl,.inl ⟨h,c,hc,hm,rfl,rfl⟩⟩,Wc _⟩,[],rfl,rfl,?_,by push_cast [ze,zd,CLe,zg]⟩;push_cast [ze,zd,CLe,zg];exact zV (zI hs)
 ·cases a with
  | none =>
   refine foX (fun i=>if i=1000000+62 then [true,true] else []) Tryz.func291 ?_;dsimp only[Tryz.f291];push_cast [hr,Aa];exact ⟨_,_,_,⟨⟨rfl,.inr ⟨h,.inl ⟨rfl,rfl⟩⟩⟩,Wc _⟩,[],rfl,rfl,by push_cast [ze,zd,CLe,zg],by push_cast [ze,zd,CLe,zg]⟩
  | some a =>
   refine foX (fun i=>if i=1000000+62 then [true,true] else []) Tryz.func291 ?_;dsimp only[Tryz.f291];push_cast [hr,Ab];have hx:C.xs? 2 [[]] (C.sc (.slice (some a) 0 cap))=some (0,[]):=by simp[C.xs?,hr]
   refine Q3 Zf YE hx rfl (by decide) rfl rfl rfl (Wb _) (Wb _) (by omega) (by omega) (fun _=>?_) (fun hc=>absurd hc (by omega));push_cast;exact ⟨_,_,_,⟨⟨rfl,.inr ⟨h,.inr ⟨rfl,rfl⟩⟩⟩,Wc _⟩,[],rfl,rfl,by (push_cast [ze,zd,CLe,zg];simp[spl,zg]),by push_cast [ze,zd,CLe,zg]⟩
theorem zbu (rows:List (List C)) (x:List C) (i c e:Nat) (hk:∀ r∈rows,r.length=2) (hx:x.length=2) (hs:ji rows) (hsx:(x.all C.stayB)=true) (hl:rows.length<=100000) (hi:i<=rows.length) (hc:rows.length<=c) (hcm:c<=9223372036854775807) :
  YJ Tryz.prog G 292 [.bs 0 0 2 rows.length c,.sc (.int .i64 i),.own 0 e 2 [x]] [qB 2 rows c] 1 (zr8 2 (c*2) (rows.take i++x :: rows.drop i)):=by
 refine foX (fun j=>if j=1000000+62 then [true,true] else if j=11 then [false,false,false,false,false,false,false,false,true] else if j=15 then [false,false,false,false,false,false,false,false,true] else []) Tryz.func292 ?_;dsimp only[Tryz.f292];push_cast;have hlen:(rows.take i++x :: rows.drop i).length=rows.length+1:=by simp;omega
 have hki:∀ r∈rows.take i++x :: rows.drop i,r.length=2:=fun r hr=>by
  rcases WF.1 hr with hr | hr
  ·exact hk r (WC hr)
  ·rcases WK.1 hr with rfl | hr
   ·exact hx
   ·exact hk r (WU hr)
 have hsi:ji (rows.take i++x :: rows.drop i):=fun r hr=>by
  rcases WF.1 hr with hr | hr
  ·exact hs r (WC hr)
  ·rcases WK.1 hr with rfl | hr
   ·exact hsx
   ·exact hs r (WU hr)
 have hbl:=JM hk hc;have hfl:=zM hk;have hxl:[x].flatten.length=1*2:=by simp[hx]
 have hpre:(qB 2 rows c).take rows.flatten.length=rows.flatten:=by unfold qB;rw[BC]
 refine ⟨hc,⟨by omega,hi⟩,br (fun h=>?_) (fun h=>?_)⟩
 ·push_cast;refine Q3 Zf YE rfl rfl (by decide) rfl hxl rfl (by rw[hbl];omega) hc (by simp;omega) (by simp;omega) (fun h1=>?_) (fun h1 c' h2 h3=>?_)
  ·push_cast;have hi':i=rows.length:=WR h;refine ⟨_,_,_,⟨⟨rfl,c,by rw[hlen];exact h1,hcm,.inl ⟨rfl,rfl⟩⟩,Wb _⟩,[],rfl,rfl,?_,by push_cast [ze,zd,CLe,zg,hlen]⟩;push_cast [ze,zd,CLe,zg];have h6:rows.length*2+2<=c*2:=by have:rows.length+1<=c:=h1;omega
   refine JI hki hsi (by rw[hlen];exact h1) (by rw[Zm (by rw[hbl,hx];exact h6),hbl]) ?_;rw[hlen,hi',Of,AO];unfold spl;rw[←hfl,hpre,OI (by simp[hx,hfl];omega)];simp
  ·push_cast;have hi':i=rows.length:=WR h;have h2':rows.length+1<=c':=h2;refine ⟨_,_,_,⟨⟨rfl,c',by rw[hlen];exact h2,h3,.inr ⟨rfl,rfl⟩⟩,OS rfl⟩,[],rfl,rfl,?_,by push_cast [ze,zd,CLe,zg,hlen]⟩;push_cast [ze,zd,CLe,zg];refine ⟨XB hbl,JI hki hsi (by rw[hlen];exact h2) (by simp[hx,hbl];omega) ?_⟩;rw[hlen,hi',Of,AO,←hfl,hpre,OI (by simp[hx,hfl];omega)];simp
 ·have hne:i≠rows.length:=OQ h;push_cast;refine ⟨⟨by omega,by omega⟩,br (fun h1=>?_) (fun h1=>?_)⟩
  ·have h1':(c:Int)<(rows.length:Int)+1:=WR h1;push_cast
   repeat refine an ?_
   refine zov Zf zo4 YE rfl (by decide) rfl rfl (by rw[hbl];omega) (by omega) (by omega) (by omega) (by omega) (by omega) (fun c' B h2 h3 hBl hBt=>?_);have e1:((rows.length:Int)+1-(i:Int)).toNat=rows.length+1-i:=by omega
   rw[e1]at h2 ⊢;have e2:i+(rows.length+1-i)=rows.length+1:=by omega
   rw[e2]at h2 ⊢;push_cast
   repeat refine an ?_
   refine X1 Zf YE rfl rfl hxl (by rw[hBl];omega) (fun B1 hB1 hl1=>?_);rw[hBl]at hl1;push_cast
   repeat refine an ?_
   have hbp:=XW (c:=c) hk hi;refine X1 Zf YE (U6 rfl (by rw[hbl];omega)) rfl (by rw[hbp,W1,hfl];omega) (by rw[hl1];omega) (fun B2 hB2 hl2=>?_);rw[hl1]at hl2;have hX:[x].flatten.take (min [x].length (rows.length+1-i)*2)=x:=by
    rw[OF,OH (by omega),Wf (by omega)];simp
   rw[hX]at hB1;rw[hbp,show min (rows.length-i) (rows.length-i)*2=(rows.length-i)*2 by omega,Wf (by rw[W1,hfl];omega),hB1]at hB2;push_cast;refine ⟨_,_,_,⟨⟨rfl,c',by rw[hlen];exact h2,h3,.inr ⟨rfl,rfl⟩⟩,OS rfl⟩,[],rfl,rfl,?_,by push_cast [ze,zd,CLe,zg,hlen]⟩;push_cast [ze,zd,CLe,zg];refine ⟨XB hbl,JI hki hsi (by rw[hlen];exact h2) hl2 ?_⟩;rw[hlen,←QL hk,hB2];have hg:=Ne (cs:=B) (L:=rows.flatten) (X:=x) (p:=i*2) (q:=(i+1)*2) (by omega) (by omega) (by
    rw[hBt,AT];unfold qB;rw[OT (by omega)]) (by omega)
   rw[hfl,hx]at hg;rw[←hg];congr 1;omega
  ·have h1':¬(c:Int)<(rows.length:Int)+1:=OQ h1;push_cast
   repeat refine an ?_
   refine zn4 (uf (P:=Tryz.prog) (tR:=4) Tryz.func303 (by kernel_rfl) (by kernel_rfl) (by kernel_rfl) (by kernel_rfl) Zf YE rfl (Bj (by rw[hbl];omega)) (by simp) (by omega)) ?_;push_cast
   repeat refine an ?_
   have hbp:=XW (c:=c) hk hi;refine X1 Zf YE (U6 rfl (by rw[hbl];omega)) rfl (by simp[hbl];omega) (by rw[hbl];omega) (fun B1 hB1 hl1=>?_);rw[hbl]at hl1;rw[B4,OH (by omega),show min (rows.length+1-i) (rows.length-i)*2=(rows.length-i)*2 by omega,hbp]at hB1;push_cast
   repeat refine an ?_
   refine X1 Zf YE rfl rfl hxl (by rw[hl1];omega) (fun B2 hB2 hl2=>?_);rw[hl1]at hl2;have hX:[x].flatten.take (min [x].length (rows.length+1-i)*2)=x:=by
    rw[OF,OH (by omega),Wf (by omega)];simp
   rw[hX,hB1]at hB2;push_cast;have hcc:rows.length+1<=c:=by omega
   refine ⟨_,_,_,⟨⟨rfl,c,by rw[hlen];exact hcc,hcm,.inl ⟨rfl,rfl⟩⟩,OS rfl⟩,[],rfl,rfl,?_,by push_cast [ze,zd,CLe,zg,hlen]⟩;push_cast [ze,zd,CLe,zg];refine JI hki hsi (by rw[hlen];exact hcc) hl2 ?_;rw[hlen,←QL hk,hB2];have hg:=kG (cs:=qB 2 rows c) (L:=rows.flatten) (X:=x) (p:=i*2) (q:=(i+1)*2) (by omega) (by omega) hpre (by omega);rw[hfl,hx]at hg;rw[←hg];congr 1;omega
theorem zlo (x:List C) (hx:x.length=2) (hsx:(x.all C.stayB)=true) :
  YJ Tryz.prog G 292 [.sc (.slice none 0 0),.sc (.int .i64 0),.own 0 e 2 [x]] [] 1 (fun r bx' n=>n=0/\∃ c,1<=c/\c<=9223372036854775807/\r = .bs 0 0 2 1 c/\bx' = [qB 2 [x] c]):=by
 refine foX (fun j=>if j=1000000+62 then [true,true] else if j=11 then [false,false,false,false,false,false,false,false,true] else if j=15 then [false,false,false,false,false,false,false,false,true] else []) Tryz.func292 ?_;dsimp only[Tryz.f292];push_cast;refine NC Zf YE rfl rfl (by decide) rfl (by simp[hx]) (by simp) (by simp) (by simp) (fun c h1 h2=>?_);push_cast;refine ⟨_,_,_,⟨⟨rfl,c,h1,h2,rfl,rfl⟩,Wc _⟩,[],rfl,rfl,?_,by push_cast [ze,zd,CLe,zg]⟩;push_cast [ze,zd,CLe,zg];have:=zV (src:=[]) (n:=1) (zI (k:=2) (c:=c) (rows:=[x]) fun r hr=>by
  rw[W3.1 hr];exact hsx)
 unfold qB at this ⊢;simpa using this
end
end
end Go.Proofs.YtnpdbhbmakdklaaGreatDoor.Vcg
section
namespace Go.Proofs
open YtnpdbhbmakdklaaGreatDoor
open Go.Shelf
def Tryz.lays169_ren:Go.Shelf.Ren:=⟨fun | 169=>167 | n=>n,fun | 70=>218 | 9=>9 | 0=>0 | 72=>220 | 37=>174 | 127=>263 | 3=>3 | 5=>5 | n=>n,fun | n=>n⟩
theorem Tryz.lays169:Go.Proofs.Lays.n169 Tryz.prog Tryz.lays169_ren:={
 mixed:=by kernel_rfl
 f169:=Tryz.func167.trans (WA some (by kernel_rfl))
 t0:=Tryz.underlying0
 a0:=Tryz.isAgg0
 z0:=Tryz.sizeOf0
 v0:=Tryz.zeroValue0
 t3:=Tryz.underlying3
 a3:=Tryz.isAgg3
 z3:=Tryz.sizeOf3
 v3:=Tryz.zeroValue3
 t9:=Tryz.underlying9
 a9:=Tryz.isAgg9
 z9:=Tryz.sizeOf9
 v9:=Tryz.zeroValue9
 t37:=Tryz.underlying174
 a37:=Tryz.isAgg174
 z37:=Tryz.sizeOf174
 v37:=Tryz.zeroValue174
 t70:=Tryz.underlying218
 a70:=Tryz.isAgg218
 z70:=Tryz.sizeOf218
 v70:=Tryz.zeroValue218
 t72:=Tryz.underlying220
 a72:=Tryz.isAgg220
 z72:=Tryz.sizeOf220
 v72:=Tryz.zeroValue220
 t127:=Tryz.underlying263
 a127:=Tryz.isAgg263
 z127:=Tryz.sizeOf263
 v127:=Tryz.zeroValue263 }
theorem Tryz.Builder_Extra_169:Builder.Extra Tryz.prog Tryz.lays169_ren:={
 sizeBuilder:=by kernel_rfl
 liesBuilder:=by kernel_rfl
 t5:=Tryz.underlying5
 a5:=Tryz.isAgg5
 z5:=Tryz.sizeOf5
 v5:=Tryz.zeroValue5
 infoByte:=by kernel_rfl
 cellsByte:=by kernel_rfl
 sizeByte:=by kernel_rfl
 neB5:=by decide }
open Go.RowKit in
theorem Tryz.Builder_String_any (B b:Nat) (l:Lz) (w:World) (h:Lib.IsBuilder 220 5 B b (Lib.byteCells l) w) (hBw:B<=w.heap.size) :
  Calls Tryz.prog 167 #[.pointer (some ⟨b,0,none⟩)] w fun e w'=>e = .returned (.string ⟨l.toArray⟩)/\Below B w w':=Any.Builder_String_any Tryz.lays169 Tryz.Builder_Extra_169 B b l w h hBw
def Tryz.lays156_ren:Go.Shelf.Ren:=⟨fun | 156=>122 | 165=>165 | 166=>166 | 169=>167 | 240=>199 | 241=>200 | 276=>232 | 277=>233 | n=>n,fun | 31=>30 | 9=>9 | 3=>3 | 4=>4 | 0=>0 | 20=>20 | 72=>220 | 76=>224 | 70=>218 | 37=>174 | 75=>223 | 127=>263 | 164=>281 | 5=>5 | 80=>226 | n=>n,fun | n=>n⟩
theorem Tryz.lays156:Go.Proofs.Lays.n156 Tryz.prog Tryz.lays156_ren:={
 mixed:=by kernel_rfl
 f156:=Tryz.func122.trans (WA some (by kernel_rfl))
 f165:=Tryz.func165.trans (WA some (by kernel_rfl))
 f166:=Tryz.func166.trans (WA some (by kernel_rfl))
 f169:=Tryz.func167.trans (WA some (by kernel_rfl))
 f240:=Tryz.func199.trans (WA some (by kernel_rfl))
 f241:=Tryz.func200.trans (WA some (by kernel_rfl))
 f276:=Tryz.func232.trans (WA some (by kernel_rfl))
 f277:=Tryz.func233.trans (WA some (by kernel_rfl))
 t0:=Tryz.underlying0
 a0:=Tryz.isAgg0
 z0:=Tryz.sizeOf0
 v0:=Tryz.zeroValue0
 t3:=Tryz.underlying3
 a3:=Tryz.isAgg3
 z3:=Tryz.sizeOf3
 v3:=Tryz.zeroValue3
 t4:=Tryz.underlying4
 a4:=Tryz.isAgg4
 z4:=Tryz.sizeOf4
 v4:=Tryz.zeroValue4
 t9:=Tryz.underlying9
 a9:=Tryz.isAgg9
 z9:=Tryz.sizeOf9
 v9:=Tryz.zeroValue9
 t20:=Tryz.underlying20
 a20:=Tryz.isAgg20
 z20:=Tryz.sizeOf20
 v20:=Tryz.zeroValue20
 t31:=Tryz.underlying30
 a31:=Tryz.isAgg30
 z31:=Tryz.sizeOf30
 v31:=Tryz.zeroValue30
 t37:=Tryz.underlying174
 a37:=Tryz.isAgg174
 z37:=Tryz.sizeOf174
 v37:=Tryz.zeroValue174
 t70:=Tryz.underlying218
 a70:=Tryz.isAgg218
 z70:=Tryz.sizeOf218
 v70:=Tryz.zeroValue218
 t72:=Tryz.underlying220
 a72:=Tryz.isAgg220
 z72:=Tryz.sizeOf220
 v72:=Tryz.zeroValue220
 t75:=Tryz.underlying223
 a75:=Tryz.isAgg223
 z75:=Tryz.sizeOf223
 v75:=Tryz.zeroValue223
 t76:=Tryz.underlying224
 a76:=Tryz.isAgg224
 z76:=Tryz.sizeOf224
 v76:=Tryz.zeroValue224
 t127:=Tryz.underlying263
 a127:=Tryz.isAgg263
 z127:=Tryz.sizeOf263
 v127:=Tryz.zeroValue263
 t164:=Tryz.underlying281
 a164:=Tryz.isAgg281
 z164:=Tryz.sizeOf281
 v164:=Tryz.zeroValue281 }
theorem Tryz.Builder_Extra_156:Builder.Extra Tryz.prog Tryz.lays156_ren:={
 sizeBuilder:=by kernel_rfl
 liesBuilder:=by kernel_rfl
 t5:=Tryz.underlying5
 a5:=Tryz.isAgg5
 z5:=Tryz.sizeOf5
 v5:=Tryz.zeroValue5
 infoByte:=by kernel_rfl
 cellsByte:=by kernel_rfl
 sizeByte:=by kernel_rfl
 neB5:=by decide }
open Go.RowKit in
theorem Tryz.strings_Join_none (a:Option Addr) (c:Nat) (sep:ByteArray) (w:World) :
  Calls Tryz.prog 122 #[.slice a 0 c,.string sep] w fun e w'=>e = .returned (.string ⟨#[]⟩)/\w'=w:=Any.strings_Join_none Tryz.lays156 Tryz.Builder_Extra_156 a c sep w
open Go.RowKit in
theorem Tryz.strings_Join (bk o c:Nat) (xs:List ByteArray) (sep:ByteArray) (w:World) (hcells:∀ (j:Nat) x,xs[j]?=some x->w.cell? ⟨bk,o+j,none⟩=some (.string x)) (hbk:bk<w.heap.size) (hN:xs.length<=140737488355328) (hcap:xs.length<=c) (hlen:(Lib.join (xs.map (·.data.toList)) sep.data.toList).length<=140737488355328) :
  Calls Tryz.prog 122 #[.slice (some ⟨bk,o,none⟩) xs.length c,.string sep] w fun e w'=>e = .returned (.string ⟨(Lib.join (xs.map (·.data.toList)) sep.data.toList).toArray⟩)/\Below w.heap.size w w':=Any.strings_Join Tryz.lays156 Tryz.Builder_Extra_156 bk o c xs sep w hcells hbk hN hcap hlen
def Tryz.lays162_ren:Go.Shelf.Ren:=⟨fun | 162=>162 | 232=>193 | 227=>194 | 234=>195 | 236=>196 | 228=>229 | 271=>230 | 151=>231 | 120=>264 | 197=>191 | 152=>234 | 260=>227 | 137=>145 | 119=>265 | 224=>262 | 225=>261 | 217=>174 | 266=>222 | n=>n,fun | 9=>9 | 4=>4 | 3=>3 | 5=>5 | 117=>255 | 116=>254 | 0=>0 | 124=>258 | 21=>21 | 105=>249 | 46=>261 | 119=>301 | 139=>304 | 138=>303 | n=>n,fun | 3=>5 | 4=>6 | n=>n⟩
theorem Tryz.lays162:Go.Proofs.Lays.n162 Tryz.prog Tryz.lays162_ren:={
 mixed:=by kernel_rfl
 f119:=Tryz.func265.trans (WA some (by kernel_rfl))
 f120:=Tryz.func264.trans (WA some (by kernel_rfl))
 f137:=Tryz.func145.trans (WA some (by kernel_rfl))
 f151:=Tryz.func231.trans (WA some (by kernel_rfl))
 f152:=Tryz.func234.trans (WA some (by kernel_rfl))
 f162:=Tryz.func162.trans (WA some (by kernel_rfl))
 f197:=Tryz.func191.trans (WA some (by kernel_rfl))
 f217:=Tryz.func174.trans (WA some (by kernel_rfl))
 f224:=Tryz.func262.trans (WA some (by kernel_rfl))
 f225:=Tryz.func261.trans (WA some (by kernel_rfl))
 f227:=Tryz.func194.trans (WA some (by kernel_rfl))
 f228:=Tryz.func229.trans (WA some (by kernel_rfl))
 f232:=Tryz.func193.trans (WA some (by kernel_rfl))
 f234:=Tryz.func195.trans (WA some (by kernel_rfl))
 f236:=Tryz.func196.trans (WA some (by kernel_rfl))
 f260:=Tryz.func227.trans (WA some (by kernel_rfl))
 f266:=Tryz.func222.trans (WA some (by kernel_rfl))
 f271:=Tryz.func230.trans (WA some (by kernel_rfl))
 t0:=Tryz.underlying0
 a0:=Tryz.isAgg0
 z0:=Tryz.sizeOf0
 v0:=Tryz.zeroValue0
 t3:=Tryz.underlying3
 a3:=Tryz.isAgg3
 z3:=Tryz.sizeOf3
 v3:=Tryz.zeroValue3
 t4:=Tryz.underlying4
 a4:=Tryz.isAgg4
 z4:=Tryz.sizeOf4
 v4:=Tryz.zeroValue4
 t5:=Tryz.underlying5
 a5:=Tryz.isAgg5
 z5:=Tryz.sizeOf5
 v5:=Tryz.zeroValue5
 t9:=Tryz.underlying9
 a9:=Tryz.isAgg9
 z9:=Tryz.sizeOf9
 v9:=Tryz.zeroValue9
 t21:=Tryz.underlying21
 a21:=Tryz.isAgg21
 z21:=Tryz.sizeOf21
 v21:=Tryz.zeroValue21
 t46:=Tryz.underlying261
 a46:=Tryz.isAgg261
 z46:=Tryz.sizeOf261
 v46:=Tryz.zeroValue261
 t105:=Tryz.underlying249
 a105:=Tryz.isAgg249
 z105:=Tryz.sizeOf249
 v105:=Tryz.zeroValue249
 t116:=Tryz.underlying254
 a116:=Tryz.isAgg254
 z116:=Tryz.sizeOf254
 t117:=Tryz.underlying255
 a117:=Tryz.isAgg255
 z117:=Tryz.sizeOf255
 v117:=Tryz.zeroValue255
 t119:=Tryz.underlying301
 a119:=Tryz.isAgg301
 z119:=Tryz.sizeOf301
 t124:=Tryz.underlying258
 a124:=Tryz.isAgg258
 z124:=Tryz.sizeOf258
 v124:=Tryz.zeroValue258
 t138:=Tryz.underlying303
 a138:=Tryz.isAgg303
 z138:=Tryz.sizeOf303
 v138:=Tryz.zeroValue303
 t139:=Tryz.underlying304
 a139:=Tryz.isAgg304
 z139:=Tryz.sizeOf304
 v139:=Tryz.zeroValue304
 g3:=by kernel_rfl
 g4:=by kernel_rfl }
def Tryz.lays119_ren:Go.Shelf.Ren:=⟨fun | 119=>265 | n=>n,fun | 21=>21 | 4=>4 | n=>n,fun | n=>n⟩
theorem Tryz.lays119:Go.Proofs.Lays.n119 Tryz.prog Tryz.lays119_ren:={
 mixed:=by kernel_rfl
 f119:=Tryz.func265.trans (WA some (by kernel_rfl))
 t4:=Tryz.underlying4
 a4:=Tryz.isAgg4
 z4:=Tryz.sizeOf4
 v4:=Tryz.zeroValue4
 t21:=Tryz.underlying21
 a21:=Tryz.isAgg21
 z21:=Tryz.sizeOf21
 v21:=Tryz.zeroValue21 }
theorem Tryz.utf8_ValidRune (r:Int) (w:World) :
  Calls Tryz.prog 265 #[.int .i32 r] w fun e w'=>e = .returned (.bool (Lib.validRune r))/\w'=w:=Any.utf8_ValidRune Tryz.lays119 r w
def Tryz.lays106_ren:Go.Shelf.Ren:=⟨fun | 106=>260 | 213=>286 | 265=>302 | n=>n,fun | 9=>9 | 3=>3 | n=>n,fun | n=>n⟩
theorem Tryz.lays106:Go.Proofs.Lays.n106 Tryz.prog Tryz.lays106_ren:={
 mixed:=by kernel_rfl
 f106:=Tryz.func260.trans (WA some (by kernel_rfl))
 f213:=Tryz.func286.trans (WA some (by kernel_rfl))
 f265:=Tryz.func302.trans (WA some (by kernel_rfl))
 t3:=Tryz.underlying3
 a3:=Tryz.isAgg3
 z3:=Tryz.sizeOf3
 v3:=Tryz.zeroValue3
 t9:=Tryz.underlying9
 a9:=Tryz.isAgg9
 z9:=Tryz.sizeOf9
 v9:=Tryz.zeroValue9 }
open Go.RowKit in
theorem Tryz.strings_Compare (a b:ByteArray) (w:World) :
  Calls Tryz.prog 260 #[.string a,.string b] w fun e w'=>e = .returned (.int .i64 (Lib.compareBytes a.data.toList b.data.toList))/\w'=w:=Any.strings_Compare Tryz.lays106 a b w
def Tryz.lays137_ren:Go.Shelf.Ren:=⟨fun | 137=>145 | 217=>174 | 266=>222 | n=>n,fun | 9=>9 | 5=>5 | 3=>3 | n=>n,fun | n=>n⟩
theorem Tryz.lays137:Go.Proofs.Lays.n137 Tryz.prog Tryz.lays137_ren:={
 mixed:=by kernel_rfl
 f137:=Tryz.func145.trans (WA some (by kernel_rfl))
 f217:=Tryz.func174.trans (WA some (by kernel_rfl))
 f266:=Tryz.func222.trans (WA some (by kernel_rfl))
 t3:=Tryz.underlying3
 a3:=Tryz.isAgg3
 z3:=Tryz.sizeOf3
 v3:=Tryz.zeroValue3
 t5:=Tryz.underlying5
 a5:=Tryz.isAgg5
 z5:=Tryz.sizeOf5
 v5:=Tryz.zeroValue5
 t9:=Tryz.underlying9
 a9:=Tryz.isAgg9
 z9:=Tryz.sizeOf9
 v9:=Tryz.zeroValue9 }
open Go.RowKit in
theorem Tryz.strings_IndexByte (s:ByteArray) (c:Int) (w:World) :
  Calls Tryz.prog 145 #[.string s,.int .u8 c] w fun e w'=>e = .returned (.int .i64 (Lib.indexByte s.data.toList c.toNat.toUInt8))/\w'=w:=Any.strings_IndexByte Tryz.lays137 s c w
def Tryz.lays143_ren:Go.Shelf.Ren:=⟨fun | 143=>192 | 219=>228 | 217=>174 | 225=>261 | 224=>262 | 267=>263 | 266=>222 | 314=>287 | n=>n,fun | 9=>9 | 3=>3 | 4=>4 | 5=>5 | 46=>261 | 146=>319 | 51=>318 | n=>n,fun | 1=>4 | n=>n⟩
theorem Tryz.lays143:Go.Proofs.Lays.n143 Tryz.prog Tryz.lays143_ren:={
 mixed:=by kernel_rfl
 f143:=Tryz.func192.trans (WA some (by kernel_rfl))
 f217:=Tryz.func174.trans (WA some (by kernel_rfl))
 f219:=Tryz.func228.trans (WA some (by kernel_rfl))
 f224:=Tryz.func262.trans (WA some (by kernel_rfl))
 f225:=Tryz.func261.trans (WA some (by kernel_rfl))
 f266:=Tryz.func222.trans (WA some (by kernel_rfl))
 f267:=Tryz.func263.trans (WA some (by kernel_rfl))
 f314:=Tryz.func287.trans (WA some (by kernel_rfl))
 t3:=Tryz.underlying3
 a3:=Tryz.isAgg3
 z3:=Tryz.sizeOf3
 v3:=Tryz.zeroValue3
 t4:=Tryz.underlying4
 a4:=Tryz.isAgg4
 z4:=Tryz.sizeOf4
 v4:=Tryz.zeroValue4
 t5:=Tryz.underlying5
 a5:=Tryz.isAgg5
 z5:=Tryz.sizeOf5
 v5:=Tryz.zeroValue5
 t9:=Tryz.underlying9
 a9:=Tryz.isAgg9
 z9:=Tryz.sizeOf9
 v9:=Tryz.zeroValue9
 t46:=Tryz.underlying261
 a46:=Tryz.isAgg261
 z46:=Tryz.sizeOf261
 v46:=Tryz.zeroValue261
 t51:=Tryz.underlying318
 a51:=Tryz.isAgg318
 z51:=Tryz.sizeOf318
 v51:=Tryz.zeroValue318
 t146:=Tryz.underlying319
 a146:=Tryz.isAgg319
 z146:=Tryz.sizeOf319
 v146:=Tryz.zeroValue319
 g1:=by kernel_rfl }
open Go.RowKit Go.Lib in
theorem Tryz.strings_Index_one (s:ByteArray) (c:UInt8) (w:World) :
  Calls Tryz.prog 192 #[.string s,.string ⟨#[c]⟩] w fun e w'=>e = .returned (.int .i64 (Lib.indexByte s.data.toList c))/\w'=w:=Any.strings_Index_one Tryz.lays143 s c w
def Tryz.lays99_ren:Go.Shelf.Ren:=⟨fun | 99=>112 | 206=>158 | n=>n,fun | 9=>9 | 4=>4 | 3=>3 | n=>n,fun | n=>n⟩
theorem Tryz.lays99:Go.Proofs.Lays.n99 Tryz.prog Tryz.lays99_ren:={
 mixed:=by kernel_rfl
 f99:=Tryz.func112.trans (WA some (by kernel_rfl))
 f206:=Tryz.func158.trans (WA some (by kernel_rfl))
 t3:=Tryz.underlying3
 a3:=Tryz.isAgg3
 z3:=Tryz.sizeOf3
 v3:=Tryz.zeroValue3
 t4:=Tryz.underlying4
 a4:=Tryz.isAgg4
 z4:=Tryz.sizeOf4
 v4:=Tryz.zeroValue4
 t9:=Tryz.underlying9
 a9:=Tryz.isAgg9
 z9:=Tryz.sizeOf9
 v9:=Tryz.zeroValue9 }
open Go.RowKit Go.Lib in
theorem Tryz.strings_HasPrefix (s p:ByteArray) (w:World) :
  Calls Tryz.prog 112 #[.string s,.string p] w fun e w'=>e = .returned (.bool (Lib.hasPrefix s.data.toList p.data.toList))/\w'=w:=Any.strings_HasPrefix Tryz.lays99 s p w
def Tryz.lays100_ren:Go.Shelf.Ren:=⟨fun | 100=>115 | 207=>160 | n=>n,fun | 9=>9 | 4=>4 | 3=>3 | n=>n,fun | n=>n⟩
theorem Tryz.lays100:Go.Proofs.Lays.n100 Tryz.prog Tryz.lays100_ren:={
 mixed:=by kernel_rfl
 f100:=Tryz.func115.trans (WA some (by kernel_rfl))
 f207:=Tryz.func160.trans (WA some (by kernel_rfl))
 t3:=Tryz.underlying3
 a3:=Tryz.isAgg3
 z3:=Tryz.sizeOf3
 v3:=Tryz.zeroValue3
 t4:=Tryz.underlying4
 a4:=Tryz.isAgg4
 z4:=Tryz.sizeOf4
 v4:=Tryz.zeroValue4
 t9:=Tryz.underlying9
 a9:=Tryz.isAgg9
 z9:=Tryz.sizeOf9
 v9:=Tryz.zeroValue9 }
open Go.RowKit Go.Lib in
theorem Tryz.strings_HasSuffix (s p:ByteArray) (w:World) (hs:s.size<=9223372036854775807) :
  Calls Tryz.prog 115 #[.string s,.string p] w fun e w'=>e = .returned (.bool (Lib.hasSuffix s.data.toList p.data.toList))/\w'=w:=Any.strings_HasSuffix Tryz.lays100 s p w hs
def Tryz.lays152_ren:Go.Shelf.Ren:=⟨fun | 152=>234 | 137=>145 | 119=>265 | 224=>262 | 225=>261 | 217=>174 | 266=>222 | n=>n,fun | 9=>9 | 21=>21 | 3=>3 | 4=>4 | 5=>5 | 0=>0 | 46=>261 | n=>n,fun | n=>n⟩
theorem Tryz.lays152:Go.Proofs.Lays.n152 Tryz.prog Tryz.lays152_ren:={
 mixed:=by kernel_rfl
 f119:=Tryz.func265.trans (WA some (by kernel_rfl))
 f137:=Tryz.func145.trans (WA some (by kernel_rfl))
 f152:=Tryz.func234.trans (WA some (by kernel_rfl))
 f217:=Tryz.func174.trans (WA some (by kernel_rfl))
 f224:=Tryz.func262.trans (WA some (by kernel_rfl))
 f225:=Tryz.func261.trans (WA some (by kernel_rfl))
 f266:=Tryz.func222.trans (WA some (by kernel_rfl))
 t0:=Tryz.underlying0
 a0:=Tryz.isAgg0
 z0:=Tryz.sizeOf0
 v0:=Tryz.zeroValue0
 t3:=Tryz.underlying3
 a3:=Tryz.isAgg3
 z3:=Tryz.sizeOf3
 v3:=Tryz.zeroValue3
 t4:=Tryz.underlying4
 a4:=Tryz.isAgg4
 z4:=Tryz.sizeOf4
 v4:=Tryz.zeroValue4
 t5:=Tryz.underlying5
 a5:=Tryz.isAgg5
 z5:=Tryz.sizeOf5
 v5:=Tryz.zeroValue5
 t9:=Tryz.underlying9
 a9:=Tryz.isAgg9
 z9:=Tryz.sizeOf9
 v9:=Tryz.zeroValue9
 t21:=Tryz.underlying21
 a21:=Tryz.isAgg21
 z21:=Tryz.sizeOf21
 v21:=Tryz.zeroValue21
 t46:=Tryz.underlying261
 a46:=Tryz.isAgg261
 z46:=Tryz.sizeOf261
 v46:=Tryz.zeroValue261 }
open Go.RowKit Go.Lib in
theorem Tryz.strings_IndexRune_ascii (s:ByteArray) (r:Int) (w:World) (h0:0<=r) (h1:r<128) :
  Calls Tryz.prog 234 #[.string s,.int .i32 r] w fun e w'=>e = .returned (.int .i64 (Lib.indexByte s.data.toList r.toNat.toUInt8))/\w'=w:=Any.strings_IndexRune_ascii Tryz.lays152 s r w h0 h1
def Tryz.lays226_ren:Go.Shelf.Ren:=⟨fun | 226=>235 | n=>n,fun | 3=>3 | 4=>4 | n=>n,fun | n=>n⟩
theorem Tryz.lays226:Go.Proofs.Lays.n226 Tryz.prog Tryz.lays226_ren:={
 mixed:=by kernel_rfl
 f226:=Tryz.func235.trans (WA some (by kernel_rfl))
 t3:=Tryz.underlying3
 a3:=Tryz.isAgg3
 z3:=Tryz.sizeOf3
 v3:=Tryz.zeroValue3
 t4:=Tryz.underlying4
 a4:=Tryz.isAgg4
 z4:=Tryz.sizeOf4
 v4:=Tryz.zeroValue4 }
open Go.RowKit Go.Lib in
theorem Tryz.strings_shouldUseASCIISet (n:Int) (w:World) :
  Calls Tryz.prog 235 #[.int .i64 n] w fun e w'=>e = .returned (.bool (decide (8<n)))/\w'=w:=Any.strings_shouldUseASCIISet Tryz.lays226 n w
def Tryz.lays153_ren:Go.Shelf.Ren:=⟨fun | 153=>202 | 152=>234 | 226=>235 | 227=>194 | 228=>229 | 137=>145 | 119=>265 | 224=>262 | 225=>261 | 217=>174 | 266=>222 | n=>n,fun | 9=>9 | 3=>3 | 4=>4 | 5=>5 | 21=>21 | 117=>255 | 116=>254 | 0=>0 | 46=>261 | 124=>258 | n=>n,fun | n=>n⟩
theorem Tryz.lays153:Go.Proofs.Lays.n153 Tryz.prog Tryz.lays153_ren:={
 mixed:=by kernel_rfl
 f119:=Tryz.func265.trans (WA some (by kernel_rfl))
 f137:=Tryz.func145.trans (WA some (by kernel_rfl))
 f152:=Tryz.func234.trans (WA some (by kernel_rfl))
 f153:=Tryz.func202.trans (WA some (by kernel_rfl))
 f217:=Tryz.func174.trans (WA some (by kernel_rfl))
 f224:=Tryz.func262.trans (WA some (by kernel_rfl))
 f225:=Tryz.func261.trans (WA some (by kernel_rfl))
 f226:=Tryz.func235.trans (WA some (by kernel_rfl))
 f227:=Tryz.func194.trans (WA some (by kernel_rfl))
 f228:=Tryz.func229.trans (WA some (by kernel_rfl))
 f266:=Tryz.func222.trans (WA some (by kernel_rfl))
 t0:=Tryz.underlying0
 a0:=Tryz.isAgg0
 z0:=Tryz.sizeOf0
 v0:=Tryz.zeroValue0
 t3:=Tryz.underlying3
 a3:=Tryz.isAgg3
 z3:=Tryz.sizeOf3
 v3:=Tryz.zeroValue3
 t4:=Tryz.underlying4
 a4:=Tryz.isAgg4
 z4:=Tryz.sizeOf4
 v4:=Tryz.zeroValue4
 t5:=Tryz.underlying5
 a5:=Tryz.isAgg5
 z5:=Tryz.sizeOf5
 v5:=Tryz.zeroValue5
 t9:=Tryz.underlying9
 a9:=Tryz.isAgg9
 z9:=Tryz.sizeOf9
 v9:=Tryz.zeroValue9
 t21:=Tryz.underlying21
 a21:=Tryz.isAgg21
 z21:=Tryz.sizeOf21
 v21:=Tryz.zeroValue21
 t46:=Tryz.underlying261
 a46:=Tryz.isAgg261
 z46:=Tryz.sizeOf261
 v46:=Tryz.zeroValue261
 t116:=Tryz.underlying254
 a116:=Tryz.isAgg254
 z116:=Tryz.sizeOf254
 t117:=Tryz.underlying255
 a117:=Tryz.isAgg255
 z117:=Tryz.sizeOf255
 v117:=Tryz.zeroValue255
 t124:=Tryz.underlying258
 a124:=Tryz.isAgg258
 z124:=Tryz.sizeOf258
 v124:=Tryz.zeroValue258 }
open Go.RowKit Go.Lib in
theorem Tryz.strings_IndexAny_long (hv116:∀ w,(zeroValue 254).run Tryz.prog w = .ok (.agg (Array.replicate 256 (.bool false))) w) (s chars:ByteArray) (w:World) (h2:2<=chars.size) (h8:8<s.size) (hs:s.size<4294967281) (hcs:chars.size<4294967281) (hascii:∀ (j:Nat) b,chars.data.toList[j]?=some b->b.toNat<128) :
  Calls Tryz.prog 202 #[.string s,.string chars] w fun e w'=>e = .returned (.int .i64 (Lib.indexAny s.data.toList chars.data.toList))/\w'=((w.alloc (.cells (Lib.setCells chars.data.toList) 254)).alloc (.cells (Lib.setCells chars.data.toList) 254)):=Any.strings_IndexAny_long Tryz.lays153 hv116 (by kernel_rfl) s chars w h2 h8 hs hcs hascii
end Go.Proofs
end
namespace Go.Proofs.YtnpdbhbmakdklaaGreatDoor.Vcg
variable {f:FuncId} {args r cs vs ds vs1 fargs:List C} {n off b q i k u b1 j e cap s1 size by' p c:Nat} {l:Lz} {a:Int} {ps:List (Nat×C)} {KS:St->Prop} {L:Lay} {H:List Hz} {rest:List Oper} {dst:Option Tmp} {op:BinOp} {ty t2 t:TypeId} {pos:String} {af:Array Edge} {g:Option (Nat×Bool)} {fr:Fr} {us:List Operand} {kd:LK} {z1 z2:Option (List Value)} {fn:Fn} {lo hi mx:Option Int} {k2:IntKind} {v:Value} {lk:List LK} {fp fo:Nat->Option Nat} {place:Nat->Option (Nat×Nat)} {xs:List zo} {ks1:MK} {fbx:List (List C)} {post:C->List (List C)->Nat->Prop} {code:Code} {P:Program} {G:zt} {x y:zo} {R:Env}
section
open CA CB
open Go.RowKit
section
variable {G:zt}
theorem jm (f:FsV) (n:Int) (hl:f.xs.length<=100000) (hR:qc f.xs):Fun Tryz.prog G 100 [.agg (fsC f),.sc (.int .i64 n)] (.tup [.agg (J0 (zf n f.xs)),.sc (.bool (zk n f.xs))]) 0:=by
 refine fon Tryz.func100 ?_;dsimp only[Tryz.f100];push_cast;refine cl (zhx f n hl hR) ?_;push_cast;cases hh:zk n f.xs with
 | false =>
  have hg:zf n f.xs=Mn:=by unfold zf;rw[NF hh];rfl
  push_cast [hh];exact dn (by push_cast [ze,zd,CLe,zg,hg,Mn])
 | true =>
  obtain ⟨hlt,hg⟩:=No hR hh;have hg:zf n f.xs=f.xs[jC n f.xs]:=by unfold zf;rw[hg];rfl
  have hat:=jg f.xs _ hlt;push_cast [hh,hat]
  (try simp only[lS]);repeat refine an ?_
  exact dn (by push_cast [ze,zd,CLe,zg,hg])
theorem z7:∀ r∈zu xs,r.length=6:=fun r hr=>by
 obtain ⟨x,_,rfl⟩:=WS.1 hr;rfl
theorem zB:ji (zu xs):=fun r hr=>by
 obtain ⟨x,_,rfl⟩:=WS.1 hr;rfl
theorem kV (f:FsV) (x:zo) (hl:f.xs.length<=90000) (hR:qc f.xs) :
  Fun Tryz.prog G 271 [.agg (fsC f),.agg (J0 x)] (.agg [.sc (.int .i64 f.maxI),.sc (.int .i64 f.maxB),.sc (.int .i64 f.next),.own 0 64 6 (zu (qq x f.xs))]) 1:=by
 have hll:(zu f.xs).length=f.xs.length:=We ..;refine foF (fun _=>[]) Tryz.func271 ?_;dsimp only[Tryz.f271];push_cast;refine cl (zhx f x.ino (by omega) hR) ?_;push_cast;refine ju [] [] (V2 (zu f.xs) z7 zB (by omega)) rfl (by decide) (by decide) (by simp) (by push_cast) (by push_cast) (fun r bx' m hp=>?_);obtain ⟨rfl,⟨hne,c,h1,h2,rfl,rfl⟩ | ⟨he,⟨rfl,rfl⟩ | ⟨rfl,rfl⟩⟩⟩:=hp
 ·have hbl:=JM z7 h1;have hre:∀ fp fo,C.reL fp fo (qB 6 (zu f.xs) c)=qB 6 (zu f.xs) c:=fun fp fo=>zG (zI zB);have hpos:=WB.2 hne;cases hh:zk x.ino f.xs with
  | true =>
   obtain ⟨hlt,_⟩:=No hR hh;have hst:=zaz (c:=c) (rows:=zu f.xs) (row:=J0 x) (i:=jC x.ino f.xs) z7 rfl (by omega);have hset:zu (qq x f.xs)=(zu f.xs).set (jC x.ino f.xs) (J0 x):=by rw[←uL hR hh];simp[List.map_set]
   push_cast [hh,hre,hst];refine ⟨by omega,by omega,by rw[hbl];omega,[(4,64,6,(zu f.xs).set (jC x.ino f.xs) (J0 x),c)],[.inl 0],?_,rfl,rfl,by push_cast [ze,zd,CLe,zg,hset,Br]⟩;rw[←hset];refine zC (by rw[hset];rfl) (by omega) (by rw[hset,Br];exact h1) h2 z7 zB
  | false =>
   have hset:zu (qq x f.xs)=(zu f.xs).take (jC x.ino f.xs)++J0 x :: (zu f.xs).drop (jC x.ino f.xs):=by rw[←zaa hR hh];simp
   have hrl:=zfn x.ino f.xs;have hsl:(zu (qq x f.xs)).length=(zu f.xs).length+1:=by rw[hset];simp;omega
   push_cast [hh,hre];refine ju [4] [0] (UK (e:=64) (zu f.xs) (J0 x) (jC x.ino f.xs) c z7 rfl zB rfl (by omega) (by omega) h1 h2) rfl (by decide) (by decide) (by simp) (by push_cast) (by push_cast [hre]) (fun r bx' m hp=>?_);rw[←hset]at hp;have hre2:∀ fp fo c,C.reL fp fo (qB 6 (zu (qq x f.xs)) c)=qB 6 (zu (qq x f.xs)) c:=fun fp fo c=>zG (zI zB);obtain ⟨rfl,c',g1,g2,⟨rfl,rfl⟩ | ⟨rfl,rfl⟩⟩:=hp
   ·push_cast [hre2,hre];exact ⟨[(4,64,6,zu (qq x f.xs),c')],[.inl 1],zC rfl (by omega) g1 g2 z7 zB,rfl,rfl,by push_cast [ze,zd,CLe,zg]⟩
   ·have hra:∀ fp fo,C.reL fp fo (List.replicate (c*6) .any)=List.replicate (c*6) .any:=fun fp fo=>zG (by simp[OK,C.stayB]);push_cast [hre2,hre,hra];exact ⟨[(5,64,6,zu (qq x f.xs),c')],[.inl 1],zC rfl (by omega) g1 g2 z7 zB,rfl,rfl,by push_cast [ze,zd,CLe,zg]⟩
 ·have he:f.xs = []:=by simpa using he
  have hh:zk x.ino f.xs=false:=by rw[he];rfl
  have hr0:jC x.ino f.xs=0:=by rw[he];rfl
  have hset:qq x f.xs = [x]:=by rw[he];rfl
  push_cast [hh,hr0];refine ju [] [0] (zak (e:=64) (J0 x) rfl rfl) rfl (by decide) (by decide) (by simp) (by push_cast) (by push_cast) (fun r bx' m hp=>?_);obtain ⟨rfl,c,g1,g2,rfl,rfl⟩:=hp;have hre:∀ fp fo,C.reL fp fo (qB 6 [J0 x] c)=qB 6 [J0 x] c:=fun fp fo=>zG (zI (zB (xs:=[x])));push_cast [hre];exact ⟨[(3,64,6,zu [x],c)],[.inl 1],zC rfl (by omega) g1 g2 z7 zB,rfl,rfl,by push_cast [ze,zd,CLe,zg,hset]⟩
 ·have he:f.xs = []:=by simpa using he
  have hh:zk x.ino f.xs=false:=by rw[he];rfl
  have hr0:jC x.ino f.xs=0:=by rw[he];rfl
  have hset:qq x f.xs = [x]:=by rw[he];rfl
  push_cast [hh,hr0];refine ju [3] [0] (UK (e:=64) [] (J0 x) 0 0 (fun r hr=>by cases hr) rfl (fun r hr=>by cases hr) rfl (by simp) (by simp) (by simp) (by simp)) rfl (by decide) (by decide) (by simp) (by push_cast) (by push_cast [qB]) (fun r bx' m hp=>?_);obtain ⟨rfl,c,g1,g2,hp⟩:=hp;have hre:∀ fp fo,C.reL fp fo (qB 6 [J0 x] c)=qB 6 [J0 x] c:=fun fp fo=>zG (zI (zB (xs:=[x])));rcases hp with ⟨rfl,rfl⟩ | ⟨rfl,rfl⟩
  ·push_cast [hre];exact ⟨[(3,64,6,zu [x],c)],[.inl 1],zC rfl (WM (A2 _) g1) g1 g2 z7 zB,rfl,rfl,by push_cast [ze,zd,CLe,zg,hset]⟩
  ·push_cast [hre];exact ⟨[(4,64,6,zu [x],c)],[.inl 1],zC rfl (WM (A2 _) g1) g1 g2 z7 zB,rfl,rfl,by push_cast [ze,zd,CLe,zg,hset]⟩
theorem ziV (f:FsV) (n:Int) (hl:f.xs.length<=90000) (hR:qc f.xs) (h0:f.xs≠[]) :
  Fun Tryz.prog G 275 [.agg (fsC f),.sc (.int .i64 n)] (.agg [.sc (.int .i64 f.maxI),.sc (.int .i64 f.maxB),.sc (.int .i64 f.next),.own 0 64 6 (zu (qf n f.xs))]) 1:=by
 have hll:(zu f.xs).length=f.xs.length:=We ..;refine foF (fun _=>[]) Tryz.func275 ?_;dsimp only[Tryz.f275];push_cast;refine cl (zhx f n (by omega) hR) ?_;push_cast;refine ju [] [] (V2 (zu f.xs) z7 zB (by omega)) rfl (by decide) (by decide) (by simp) (by push_cast) (by push_cast) (fun r bx' m hp=>?_);obtain ⟨rfl,⟨hne,c,h1,h2,rfl,rfl⟩ | ⟨he,_⟩⟩:=hp
 ·have hre:∀ fp fo,C.reL fp fo (qB 6 (zu f.xs) c)=qB 6 (zu f.xs) c:=fun fp fo=>zG (zI zB);have hpos:=WB.2 hne;cases hh:zk n f.xs with
  | true =>
   obtain ⟨hlt,_⟩:=No hR hh;have hset:zu (qf n f.xs)=(zu f.xs).take (jC n f.xs)++(zu f.xs).drop (jC n f.xs+1):=by rw[←zaV hR hh];simp
   have hsl:(zu (qf n f.xs)).length=(zu f.xs).length-1:=by rw[hset];simp;omega
   have hd:=ziU (G:=G) (zu f.xs) (jC n f.xs) c z7 zB (by omega) (by omega) h1 h2;rw[←hset,←hsl]at hd;have hre2:∀ fp fo,C.reL fp fo (qB 6 (zu (qf n f.xs)) c)=qB 6 (zu (qf n f.xs)) c:=fun fp fo=>zG (zI zB);push_cast [hh,hre]
   (try simp only[lS]);repeat refine an ?_
   rw[hll]at hd;refine VX [3] [] hd rfl (by decide) (by decide) (by simp) (by push_cast) (by push_cast [hre]) ?_;push_cast [hre,hre2];exact ⟨[(3,64,6,zu (qf n f.xs),c)],[.inl 0],zC rfl (by omega) (by omega) h2 z7 zB,rfl,rfl,by push_cast [ze,zd,CLe,zg]⟩
  | false =>
   push_cast [hh,hre];exact ⟨[(3,64,6,zu f.xs,c)],[.inl 0],zC rfl (by omega) h1 h2 z7 zB,rfl,rfl,by push_cast [ze,zd,CLe,zg,QS hh]⟩
 ·exact absurd (by simpa using he) h0
theorem zkZ {L:Loc} {id:Nat} (h:Rep R L (.own id e 6 [[.sc (.int .i64 1),.sc (.int .i64 2),.sc (.int .i64 0),.str [],.sc (.int .i64 1),.sc (.slice none 0 0)]]) v):Rep R L (.own id e 6 (zu [⟨1,2,0,[],1,[]⟩])) v:=
 zb7 (by simp[RLe,zg,CLe]) h
theorem Ug {α:Type} {a b:List α} (ha:i<a.length) (hb:i<b.length) (h:a.take i=b.take i):(a.take (i+1)=b.take (i+1))↔a[i]=b[i]:=by
 rw[WX,WX,h,List.append_right_inj,Wa ha,Wa hb];simp
theorem zpI (a b:zS):(decide (a.name=b.name)&&decide (a.ino=b.ino))=decide (a=b):=by
 cases a;cases b;simp
theorem zp3 (a b:zo):a=b↔a.ino=b.ino/\a.kind=b.kind/\a.links=b.links/\a.data=b.data/\a.parent=b.parent/\a.es=b.es:=by
 cases a;cases b;simp
theorem ztz (a b:FsV):a=b↔a.maxI=b.maxI/\a.maxB=b.maxB/\a.next=b.next/\a.xs=b.xs:=by
 cases a;cases b;simp
end
end
section
open CA CB
open Go.RowKit
section
variable {G:zt}
theorem MN (a b:List zS) (ha:a.length<=9223372036854775807):Fun Tryz.prog G 138 [.sl 2 (zJ a),.sl 2 (zJ b)] (.sc (.bool (decide (a=b)))) 0:=by
 refine fon Tryz.func138 ?_;dsimp only[Tryz.f138];have hla:(zJ a).length=a.length:=We ..;have hlb:(zJ b).length=b.length:=We ..;by_cases hab:a.length=b.length
 ·push_cast [hla,hlb,hab];refine loop (fun i:Nat=>⟨[(0,.sl 2 (zJ a)),(1,.sl 2 (zJ b)),(5,.sc (.int .i64 i))],[],0,0⟩) (fun i=>i<=b.length/\a.take i=b.take i) (fun i=>b.length-i) 0 ⟨Wc _,rfl⟩ ?_ ?_
  ·exact wk
  ·rintro i ⟨h1,h2⟩;by_cases h:i<b.length
   ·have g1:=Je a i (by omega);have g2:=Je b i h;push_cast [hla,hab,h,g1,g2]
    repeat refine an ?_
    have hd:=zpI a[i] b[i];by_cases he:a[i]=b[i]
    ·have hd:(decide (a[i].name=b[i].name)&&decide (a[i].ino=b[i].ino))=true:=by rw[hd,Wm he]
     push_cast [hd]
     repeat refine an ?_
     exact ⟨i+1,⟨h,(Ug (by omega) h h2).2 he⟩,by omega,wk⟩
    ·have hd:(decide (a[i].name=b[i].name)&&decide (a[i].ino=b[i].ino))=false:=by rw[hd,Wk he]
     push_cast [hd];have:a≠b:=fun h=>he (by subst h;rfl);exact dn (by push_cast [ze,zd,CLe,zg,this])
   ·push_cast [hla,hab,h];have:a=b:=by rw[←Wf (l:=a) (i:=i) (by omega),h2,Wf (by omega)]
    exact dn (by push_cast [ze,zd,CLe,zg,this])
 ·push_cast [hla,hlb,hab];have:a≠b:=fun h=>hab (by rw[h]);exact dn (by push_cast [ze,zd,CLe,zg,this])
theorem znk (x y:zo) (hx:x.es.length<=9223372036854775807):Fun Tryz.prog G 84 [.agg (J0 x),.agg (J0 y)] (.sc (.bool (decide (x=y)))) 0:=by
 refine fon Tryz.func84 ?_;dsimp only[Tryz.f84];by_cases e0:x.ino=y.ino
 case neg =>
  have hn:¬x=y:=fun h=>e0 (by rw[h]);push_cast [e0];exact dn (by push_cast [ze,zd,CLe,zg,hn])
 by_cases e1:x.kind=y.kind
 case neg =>
  have hn:¬x=y:=fun h=>e1 (by rw[h]);push_cast [e0,e1];exact dn (by push_cast [ze,zd,CLe,zg,hn])
 by_cases e2:x.links=y.links
 case neg =>
  have hn:¬x=y:=fun h=>e2 (by rw[h]);push_cast [e0,e1,e2];exact dn (by push_cast [ze,zd,CLe,zg,hn])
 by_cases e3:x.data=y.data
 case neg =>
  have hn:¬x=y:=fun h=>e3 (by rw[h]);push_cast [e0,e1,e2,e3];exact dn (by push_cast [ze,zd,CLe,zg,hn])
 by_cases e4:x.parent=y.parent
 case neg =>
  have hn:¬x=y:=fun h=>e4 (by rw[h]);push_cast [e0,e1,e2,e3,e4];exact dn (by push_cast [ze,zd,CLe,zg,hn])
 by_cases e5:x.es=y.es
 case neg =>
  have hn:¬x=y:=fun h=>e5 (by rw[h]);push_cast [e0,e1,e2,e3,e4];refine cl (MN x.es y.es hx) ?_;push_cast [e5,hn];exact dn (by push_cast [ze,zd,CLe,zg,hn])
 have hn:x=y:=(zp3 x y).2 ⟨e0,e1,e2,e3,e4,e5⟩;push_cast [e0,e1,e2,e3,e4];refine cl (MN x.es y.es hx) ?_;push_cast [e5];exact dn (by push_cast [ze,zd,CLe,zg,hn])
theorem zbk (a b:List zo) (ha:a.length<=100000) (he:∀ x∈a,x.es.length<=9223372036854775807):Fun Tryz.prog G 45 [.sl 6 (zu a),.sl 6 (zu b)] (.sc (.bool (decide (a=b)))) 0:=by
 refine fon Tryz.func45 ?_;dsimp only[Tryz.f45];have hla:(zu a).length=a.length:=We ..;have hlb:(zu b).length=b.length:=We ..;by_cases hab:a.length=b.length
 ·push_cast [hla,hlb,hab];refine loop (fun i:Nat=>⟨[(0,.sl 6 (zu a)),(1,.sl 6 (zu b)),(5,.sc (.int .i64 i))],[],0,0⟩) (fun i=>i<=b.length/\a.take i=b.take i) (fun i=>b.length-i) 0 ⟨Wc _,rfl⟩ ?_ ?_
  ·exact wk
  ·rintro i ⟨h1,h2⟩;by_cases h:i<b.length
   ·have g1:=jg a i (by omega);have g2:=jg b i h;push_cast [hla,hab,h,g1,g2]
    repeat refine an ?_
    refine cl (znk a[i] b[i] (he _ (Wx _))) ?_;push_cast;by_cases he:a[i]=b[i]
    ·push_cast [Wm he]
     repeat refine an ?_
     exact ⟨i+1,⟨h,(Ug (by omega) h h2).2 he⟩,by omega,wk⟩
    ·push_cast [Wk he];have:a≠b:=fun h=>he (by subst h;rfl);exact dn (by push_cast [ze,zd,CLe,zg,this])
   ·push_cast [hla,hab,h];have:a=b:=by rw[←Wf (l:=a) (i:=i) (by omega),h2,Wf (by omega)]
    exact dn (by push_cast [ze,zd,CLe,zg,this])
 ·push_cast [hla,hlb,hab];have:a≠b:=fun h=>hab (by rw[h]);exact dn (by push_cast [ze,zd,CLe,zg,this])
theorem zef (x y:FsV) (ha:x.xs.length<=100000) (he:∀ z∈x.xs,z.es.length<=9223372036854775807):Fun Tryz.prog G 15 [.agg (fsC x),.agg (fsC y)] (.sc (.bool (decide (x=y)))) 0:=by
 refine fon Tryz.func15 ?_;dsimp only[Tryz.f15];by_cases e0:x.maxI=y.maxI
 case neg =>
  have hn:¬x=y:=fun h=>e0 (by rw[h]);push_cast [e0];exact dn (by push_cast [ze,zd,CLe,zg,hn])
 by_cases e1:x.maxB=y.maxB
 case neg =>
  have hn:¬x=y:=fun h=>e1 (by rw[h]);push_cast [e0,e1];exact dn (by push_cast [ze,zd,CLe,zg,hn])
 by_cases e2:x.next=y.next
 case neg =>
  have hn:¬x=y:=fun h=>e2 (by rw[h]);push_cast [e0,e1,e2];exact dn (by push_cast [ze,zd,CLe,zg,hn])
 by_cases e3:x.xs=y.xs
 case neg =>
  have hn:¬x=y:=fun h=>e3 (by rw[h]);push_cast [e0,e1,e2];refine cl (zbk x.xs y.xs ha he) ?_;push_cast [e3,hn];exact dn (by push_cast [ze,zd,CLe,zg,hn])
 have hn:x=y:=(ztz x y).2 ⟨e0,e1,e2,e3⟩;push_cast [e0,e1,e2];refine cl (zbk x.xs y.xs ha he) ?_;push_cast [e3];exact dn (by push_cast [ze,zd,CLe,zg,hn])
theorem zcd (hi:i<xs.length) (h0:0<i):qc (xs.take (i+1))↔qc (xs.take i)/\xs[i-1].ino<xs[i].ino:=by
 rw[WX,Wa hi];unfold qc;rw[A6];simp only[Option.toList_some,Bx,true_and,W3,forall_eq];constructor
 ·rintro ⟨h1,h2⟩;exact ⟨h1,h2 _ (AI.2 ⟨i-1,by omega,rfl⟩)⟩
 ·rintro ⟨h1,h2⟩;refine ⟨h1,fun a ha=>?_⟩;obtain ⟨j,hj,rfl⟩:=AI.1 ha;rcases Wr j (i-1) with q | q
  ·have:=(WV.1 h1) j (i-1) (by simp;omega) (by simp;omega) q;simp at this;omega
  ·have:j=i-1:=by omega
   subst this;exact h2
instance (xs:List zo):Decidable (qc xs):=by unfold qc;infer_instance
theorem UY (f:FsV) (hl:f.xs.length<=100000):Fun Tryz.prog G 108 [.agg (fsC f)] (.sc (.bool (decide (qc f.xs)))) 0:=by
 have hll:(zu f.xs).length=f.xs.length:=We ..;refine fon Tryz.func108 ?_;dsimp only[Tryz.f108];push_cast;refine loop (fun i:Nat=>⟨[(1,.ptr 0 0),(3,.sc (.int .i64 i))],[fsC f],0,0⟩) (fun i=>1<=i/\qc (f.xs.take i)) (fun i=>f.xs.length-i) 1 ⟨Wb _,by
  cases f.xs with
  | nil=>exact List.Pairwise.nil
  | cons x r=>exact Bx _ _⟩ ?_ ?_
 ·exact wk
 ·rintro i ⟨h1,h2⟩;by_cases h:i<f.xs.length
  ·have g1:=jg f.xs i h;have g2:=jg f.xs (i-1) (by omega);have e1:(i:Int)-1=((i-1:Nat):Int):=by omega
   push_cast [hll,h,e1,g1,g2];by_cases hc:f.xs[i].ino<=f.xs[i-1].ino
   ·push_cast [hc]
    repeat refine an ?_
    have hn:¬qc f.xs:=fun hR=>by
     have:=(WV.1 hR) (i-1) i (by omega) h (by omega);omega
    exact dn (by push_cast [ze,zd,CLe,zg,hn])
   ·push_cast [hc]
    repeat refine an ?_
    exact ⟨i+1,⟨by omega,(zcd h (by omega)).2 ⟨h2,by omega⟩⟩,by omega,wk⟩
  ·push_cast [hll,h];rw[Wf (by omega)]at h2;exact dn (by push_cast [ze,zd,CLe,zg,h2])
def yH (x:zo):Prop:=x.data.length<=5000/\x.es.length<=40/\∀ e∈x.es,e.name.length<=300
instance (x:zo):Decidable (yH x):=by unfold yH;infer_instance
def H4 (xs:List zo):Prop:=xs.length<=40/\∀ x∈xs,yH x
instance (xs:List zo):Decidable (H4 xs):=by unfold H4;infer_instance
structure FsS (f:FsV):Prop where
 len:f.xs.length<=10000
 node:∀ x∈f.xs,x.es.length<=10000/\x.data.length<=10000/\∀ e∈x.es,e.name.length<=10000
theorem H4.fs {f:FsV} (h:H4 f.xs):FsS f:=⟨by have:=h.1;omega,fun x hx=>by
 obtain ⟨h1,h2,h3⟩:=h.2 x hx;exact ⟨by omega,by omega,fun e he=>by have:=h3 e he;omega⟩⟩
theorem zam (f:FsV):Fun Tryz.prog G 105 [.agg (fsC f)] (.sc (.bool (decide (H4 f.xs)))) 0:=by
 have hll:(zu f.xs).length=f.xs.length:=We ..;refine fon Tryz.func105 ?_;dsimp only[Tryz.f105];push_cast;refine loop (fun i:Nat=>⟨[(1,.ptr 0 0),(3,.sc (.int .i64 i))],[fsC f],0,0⟩) (fun i=>i<=100/\∀ t (h:t<f.xs.length),t<i->yH f.xs[t]) (fun i=>100-i) 0 ⟨Wc _,fun t h h'=>absurd h' (OJ _)⟩ ?_ ?_
 ·exact wk
 ·rintro i ⟨h1,h2⟩;have hend:¬(i<f.xs.length/\i<100)->decide ((f.xs.length:Int)<=40)=decide (H4 f.xs):=fun h=>by
   rw[Bb];constructor
   ·intro hle;refine ⟨by omega,fun x hx=>?_⟩;obtain ⟨t,ht,rfl⟩:=WH hx;exact h2 t ht (by omega)
   ·intro h;have:=h.1;omega
  by_cases h:i<f.xs.length
  ·by_cases h100:i<100
   ·have g1:=jg f.xs i h;have h100':(i:Int)<100:=by omega
    have hbad:¬yH f.xs[i]->¬H4 f.xs:=fun hs hf=>hs (hf.2 _ (Wx h));by_cases hd:5000<(f.xs[i].data.length:Int)
    ·have hn:=hbad fun hs=>by have:=hs.1;omega
     push_cast [hll,h,h100',g1,hd]
     repeat refine an ?_
     exact dn (by push_cast [ze,zd,CLe,zg,hn])
    ·by_cases he:40<(f.xs[i].es.length:Int)
     ·have hn:=hbad fun hs=>by have:=hs.2.1;omega
      push_cast [hll,h,h100',g1,hd,We,he]
      repeat refine an ?_
      exact dn (by push_cast [ze,zd,CLe,zg,hn])
     ·push_cast [hll,h,h100',g1,hd,We,he]
      repeat refine an ?_
      refine loop (fun j:Nat=>⟨[(1,.ptr 0 0),(3,.sc (.int .i64 i)),(4,.ptr 1 0),(5,.sc (.int .i64 j))],[fsC f,J0 f.xs[i]],0,0⟩) (fun j=>j<=f.xs[i].es.length/\∀ t (h':t<f.xs[i].es.length),t<j->f.xs[i].es[t].name.length<=300) (fun j=>f.xs[i].es.length-j) 0 ⟨Wc _,fun t h h'=>absurd h' (OJ _)⟩ ?_ ?_
      ·exact wk
      ·rintro j ⟨h3,h4⟩;by_cases hj:j<f.xs[i].es.length
       ·have g2:=Je f.xs[i].es j hj;by_cases hs:300<(f.xs[i].es[j].name.length:Int)
        ·have hn:=hbad fun hs'=>by have:=hs'.2.2 _ (Wx hj);omega
         push_cast [We,hj,g2,hs]
         repeat refine an ?_
         exact dn (by push_cast [ze,zd,CLe,zg,hn])
        ·push_cast [We,hj,g2,hs]
         repeat refine an ?_
         refine ⟨j+1,⟨hj,fun t ht hlt=>?_⟩,by omega,wk⟩;rcases Wr t j with q | q
         ·exact h4 t ht q
         ·have:t=j:=by omega
          subst this;omega
       ·push_cast [We,hj]
        repeat refine an ?_
        refine ⟨i+1,⟨by omega,fun t ht hlt=>?_⟩,by omega,wk⟩;rcases Wr t i with q | q
        ·exact h2 t ht q
        ·have:t=i:=by omega
         subst this;refine ⟨by omega,by omega,fun e hee=>?_⟩;obtain ⟨u,hu,rfl⟩:=WH hee;exact h4 u hu (by omega)
   ·have h100':((i:Int)<100)=False:=Wu (by omega);have:=hend (by omega);push_cast [hll,h,h100'];exact dn (by push_cast [ze,zd,CLe,zg,this])
  ·have:=hend (by omega);push_cast [hll,h];exact dn (by push_cast [ze,zd,CLe,zg,this])
theorem xv (f:FsV) (n:Int) (hl:f.xs.length<=90000) :
  Fun Tryz.prog G 104 [.agg (fsC f),.sc (.int .i64 n)] (.agg [.sc (.int .i64 f.maxI),.sc (.int .i64 f.maxB),.sc (.int .i64 f.next),.own 0 64 6 (zu (qf n f.xs))]) 1:=by
 have hll:(zu f.xs).length=f.xs.length:=We ..;refine fon Tryz.func104 ?_;dsimp only[Tryz.f104];push_cast;refine loop (fun i:Nat=>⟨[(1,.sc (.int .i64 n)),(2,.ptr 0 0),(4,.ptr 1 0),(5,.own 0 64 6 (zu (qf n (f.xs.take i)))),(6,.sc (.int .i64 i))],[fsC f,[.sc (.int .i64 0),.sc (.int .i64 0),.sc (.int .i64 0),.sc (.slice none 0 0)]],1,0⟩) (fun i=>i<=f.xs.length) (fun i=>f.xs.length-i) 0 (Wc _) ?_ ?_
 ·exact wks [.inr (64,6)] (by push_cast [ze,zd,CLe,zg,qf,List.filter_nil])
 ·intro i h1;by_cases h:i<f.xs.length
  ·have g1:=jg f.xs i h;have ht:qf n (f.xs.take (i+1))=qf n (f.xs.take i)++qf n [f.xs[i]]:=by
    unfold qf;rw[WX,Wa h,OR];rfl
   have hle:(qf n (f.xs.take i)).length<=i:=WL ZZ (by simp;omega);by_cases hc:f.xs[i].ino=n
   ·have ht:qf n (f.xs.take (i+1))=qf n (f.xs.take i):=by rw[ht,Jf hc];simp[qf]
    push_cast [hll,h,g1,hc]
    repeat refine an ?_
    exact ⟨i+1,h,by omega,wks [.inl 0] (by push_cast [ze,zd,CLe,zg,ht])⟩
   ·have ht:qf n (f.xs.take (i+1))=qf n (f.xs.take i)++[f.xs[i]]:=by rw[ht,JS hc];simp[qf]
    push_cast [hll,h,g1,hc]
    repeat refine an ?_
    exact ⟨i+1,h,by omega,wks [.inl 0] (by push_cast [ze,zd,CLe,zg,ht,WY])⟩
  ·rw[Wf (by omega)];push_cast [hll,h];exact ⟨[.inl 0],rfl,rfl,by push_cast [ze,zd,CLe,zg]⟩
theorem JO (f:FsV) (x:zo) (hl:f.xs.length<=90000) :
  Fun Tryz.prog G 58 [.agg (fsC f),.agg (J0 x)] (.agg [.sc (.int .i64 f.maxI),.sc (.int .i64 f.maxB),.sc (.int .i64 f.next),.own 0 64 6 (zu (qq x f.xs))]) 1:=by
 have hdl:(qf x.ino f.xs).length<=90000:=WL ZZ hl;have hl2:(zu (qf x.ino f.xs)).length=(qf x.ino f.xs).length:=We ..;refine fon Tryz.func58 ?_;dsimp only[Tryz.f58];push_cast;refine cl (xv f x.ino hl) ?_;push_cast;unfold qq;generalize qf x.ino f.xs=rest at hdl hl2;refine loop (fun p:Nat×List zo×Bool=>⟨[(2,.ptr 0 0),(3,.ptr 1 0),(4,.ptr 2 0),(5,.sl 6 (zu rest)),(6,.own 0 64 6 (zu p.2.1)),(7,.sc (.bool p.2.2)),(8,.sc (.int .i64 p.1))],[fsC f,J0 x,[.sc (.int .i64 0),.sc (.int .i64 0),.sc (.int .i64 0),.sc (.slice none 0 0)]],1,0⟩)
  (fun p=>p.1<=rest.length/\p.2.1.length<=p.1+p.2.2.toNat/\ZH x rest=p.2.1++(if p.2.2 then rest.drop p.1 else ZH x (rest.drop p.1))) (fun p=>rest.length-p.1) (0,[],false) ⟨Wc _,Wc _,by simp⟩ ?_ ?_
 ·exact wks [.inr (64,6)]
 ·rintro ⟨i,out,d⟩ ⟨h1,h2,h3⟩;dsimp only at h1 h2 h3 ⊢;have hlo:(zu out).length=out.length:=We ..;by_cases h:i<rest.length
  ·have g1:=jg rest i h;rw[Oc h]at h3;cases d with
   | true =>
    simp only[BP]at h2;push_cast [hl2,h,g1]
    repeat refine an ?_
    exact ⟨(i+1,out++[rest[i]],true),⟨h,by simp;omega,by rw[h3];simp⟩,by dsimp only;omega,wks [.inl 0] (by push_cast [ze,zd,CLe,zg,WY])⟩
   | false =>
    simp only[W0,Oi,ZH]at h3;simp only[BI]at h2;by_cases hc:x.ino<rest[i].ino
    ·rw[if_pos hc]at h3;push_cast [hl2,h,g1,hc]
     repeat refine an ?_
     exact ⟨(i+1,out++[x]++[rest[i]],true),⟨h,by simp;omega,by rw[h3];simp⟩,by dsimp only;omega,wks [.inl 0] (by push_cast [ze,zd,CLe,zg,WY])⟩
    ·rw[if_neg hc]at h3;push_cast [hl2,h,g1,hc]
     repeat refine an ?_
     exact ⟨(i+1,out++[rest[i]],false),⟨h,by simp;omega,by rw[h3];simp⟩,by dsimp only;omega,wks [.inl 0] (by push_cast [ze,zd,CLe,zg,WY])⟩
  ·rw[OA (by omega)]at h3;cases d with
   | true =>
    simp only[BP]at h2;have h3:ZH x rest=out:=by rw[h3];simp
    push_cast [hl2,h];exact ⟨[.inl 0],rfl,rfl,by push_cast [ze,zd,CLe,zg,h3]⟩
   | false =>
    simp only[BI]at h2;have h3:ZH x rest=out++[x]:=by rw[h3];simp[ZH]
    push_cast [hl2,h]
    repeat refine an ?_
    exact ⟨[.inl 0],rfl,rfl,by push_cast [ze,zd,CLe,zg,h3,WY]⟩
theorem ziq (i b:Int):Fun Tryz.prog G 57 [.sc (.int .i64 i),.sc (.int .i64 b)] (.agg [.sc (.int .i64 i),.sc (.int .i64 b),.sc (.int .i64 2),.own 0 64 6 (zu [⟨1,2,0,[],1,[]⟩])]) 1:=by
 refine Fun.resX (r:=.agg [.sc (.int .i64 i),.sc (.int .i64 b),.sc (.int .i64 2),.own 0 64 6 [[.sc (.int .i64 1),.sc (.int .i64 2),.sc (.int .i64 0),.str [],.sc (.int .i64 1),.sc (.slice none 0 0)]]]) ?_ fun R L v h =>
  zcv (fun vs=>YS (fun v h=>h) (fun vs=>YS (fun v h=>h) fun vs=>YS (fun v h=>h) fun vs=>YS (fun v=>zkZ) fun vs h=>h)) h
 refine fon Tryz.func57 ?_;dsimp only[Tryz.f57];push_cast;exact ⟨[.inl 0],rfl,rfl,by push_cast [ze,zd,CLe,zg]⟩
end
end
section
open Go.RowKit
section
variable {G:zt}
theorem zk1 {n:Int} (h:i<xs.length):zk n (xs.take (i+1))=(zk n (xs.take i)||(xs[i].ino==n)):=by
 unfold zk;rw[WX,Wa h,BQ];simp
theorem zi4 {n:Int} (h:i<xs.length) (h0:zk n (xs.take i)=false) (he:xs[i].ino=n):zk n xs=true/\zf n xs=xs[i]:=by
 refine ⟨Oq.2 ⟨xs[i],Wx h,by simp[he]⟩,?_⟩;unfold zf Xy;rw[Ba (b:=xs[i]) |>.2 ⟨by simp[he],i,h,rfl,fun j hj=>?_⟩]
 ·rfl
 ·unfold zk at h0;rw[Og]at h0;have:=h0 xs[j] (AI.2 ⟨j,by omega,rfl⟩);simpa using this
theorem qt (f:FsV) (n:Int) (hl:f.xs.length<=100000):Fun Tryz.prog G 30 [.agg (fsC f),.sc (.int .i64 n)] (.tup [.agg (J0 (zf n f.xs)),.sc (.bool (zk n f.xs))]) 0:=by
 have hll:(zu f.xs).length=f.xs.length:=We ..;refine fon Tryz.func30 ?_;dsimp only[Tryz.f30];push_cast;refine loop (fun i:Nat=>⟨[(1,.sc (.int .i64 n)),(2,.ptr 0 0),(4,.ptr 1 0),(6,.sc (.int .i64 i))],[fsC f,[.sc (.int .i64 0),.sc (.int .i64 0),.sc (.int .i64 0),.str [],.sc (.int .i64 0),.sc (.slice none 0 0)]],0,0⟩) (fun i=>i<=f.xs.length/\zk n (f.xs.take i)=false) (fun i=>f.xs.length-i) 0 ⟨Wc _,rfl⟩ ?_ ?_
 ·exact wk
 ·rintro i ⟨h1,h2⟩;by_cases h:i<f.xs.length
  ·have g1:=jg f.xs i h;by_cases he:f.xs[i].ino=n
   ·obtain ⟨q1,q2⟩:=zi4 h h2 he;push_cast [hll,h,g1,he]
    repeat refine an ?_
    exact dn (by push_cast [ze,zd,CLe,zg,q1,q2,he])
   ·have q:=zk1 (n:=n) h;rw[h2,show (f.xs[i].ino==n)=false from O1.2 he]at q;push_cast [hll,h,g1,he]
    repeat refine an ?_
    exact ⟨i+1,⟨h,q⟩,by omega,wk⟩
  ·rw[Wf (by omega)]at h2;have hg:zf n f.xs=Mn:=by unfold zf;rw[NF h2];rfl
   push_cast [hll,h];exact dn (by push_cast [ze,zd,CLe,zg,hg,h2,Mn])
def ql (xs:List zo):Nat:=((xs.filter fun x=>decide (x.kind=1)).map fun x=>x.data.length).sum
theorem MQ:∀ {xs:List zo} {n:Nat},(∀ x∈xs,x.data.length<=n)->ql xs<=xs.length*n
 | [],n,_=>by simp[ql]
 | x :: r,n,h=>by
  have ih:=MQ (xs:=r) (n:=n) fun y hy=>h y (Wn _ hy);have hx:=h x Wl;unfold ql at ih ⊢;rw[O5];split
  ·simp only[Wo,OY,Wh];rw[AZ];omega
  ·rw[Wh,AZ];omega
theorem FsS.bytes {f:FsV} (h:FsS f):ql f.xs<=100000000:=by
 have h1:=MQ (xs:=f.xs) (n:=10000) fun x hx=>(h.node x hx).2.1;have h2:=h.len;have:f.xs.length*10000<=10000*10000:=WT _ h2;omega
theorem zdh (h:i<xs.length):ql (xs.take (i+1))=ql (xs.take i)+if xs[i].kind=1 then xs[i].data.length else 0:=by
 unfold ql;rw[WX,Wa h,OR,WY,BR];by_cases hk:xs[i].kind=1<;>simp[hk]
theorem zhb (f:FsV) (hf:FsS f):Fun Tryz.prog G 173 [.agg (fsC f)] (.sc (.int .i64 (ql f.xs:Nat))) 0:=by
 have hll:(zu f.xs).length=f.xs.length:=We ..;have h40:=hf.len;have hb0:ql []=0:=rfl;refine fon Tryz.func173 ?_;dsimp only[Tryz.f173];push_cast;refine loop (fun i:Nat=>⟨[(1,.ptr 0 0),(3,.sc (.int .i64 (ql (f.xs.take i):Nat))),(4,.sc (.int .i64 i))],[fsC f],0,0⟩) (fun i=>i<=f.xs.length/\ql (f.xs.take i)<=i*10000) (fun i=>f.xs.length-i) 0 ⟨Wc _,Wc _⟩ ?_ ?_
 ·exact wk (by push_cast [ze,zd,CLe,zg,hb0,OD])
 ·rintro i ⟨h1,h2⟩;by_cases h:i<f.xs.length
  ·have g1:=jg f.xs i h;have hd:=(hf.node _ (Wx h)).2.1;have q:=zdh h;by_cases hk:f.xs[i].kind=1
   ·rw[if_pos hk]at q;have q':((ql (f.xs.take (i+1)):Nat):Int)=(ql (f.xs.take i):Int)+(f.xs[i].data.length:Int):=by omega
    push_cast [hll,h,g1,hk]
    repeat refine an ?_
    exact ⟨i+1,⟨h,by omega⟩,by omega,wk (by push_cast [ze,zd,CLe,zg,q'])⟩
   ·rw[if_neg hk]at q;have q':ql (f.xs.take (i+1))=ql (f.xs.take i):=by omega
    push_cast [hll,h,g1,hk]
    repeat refine an ?_
    exact ⟨i+1,⟨h,by omega⟩,by omega,wk (by push_cast [ze,zd,CLe,zg,q'])⟩
  ·rw[Wf (by omega)];push_cast [hll,h];exact dn
end
end
section
open Go.RowKit
abbrev G0:zt:=fun _=>none
abbrev zo7 (l:Lz):List C:=[.str l]
def VQ (s:List Lz×Lz) (b:UInt8):List Lz×Lz:=
 if b=47 then (if s.2 = [] then s.1 else s.1++[s.2],[]) else (s.1,s.2++[b])
def zlL (s:List Lz×Lz):List Lz:=if s.2 = [] then s.1 else s.1++[s.2]
def nst (l:Lz) (k:Nat):List Lz×Lz:=if k<=l.length then (l.take k).foldl VQ ([],[]) else (zlL (l.foldl VQ ([],[])),[])
def zn (l:Lz):List Lz:=zlL (l.foldl VQ ([],[]))
theorem zby (l:Lz):nst l 0=([],[]):=by simp[nst]
theorem zaC (l:Lz) (k:Nat) (b:UInt8) (h:l[k]?=some b):nst l (k+1)=VQ (nst l k) b:=by
 have hk:k<l.length:=(Wd.1 h).1;unfold nst;rw[if_pos (by omega),if_pos (by omega),WX,h];simp
theorem zfJ (l:Lz):nst l (l.length+1)=(zn l,[]):=by
 unfold nst zn;rw[if_neg (by omega)]
theorem zhp (l:Lz):zlL (nst l l.length)=zn l:=by
 unfold nst zn;rw[if_pos (Wb _),Of]
theorem NL (l:Lz):∀ k,k<=l.length->(nst l k).1.length+(nst l k).2.length<=k
 | 0,_=>by simp[zby]
 | k+1,h=>by
  have hk:k<l.length:=by omega
  have ih:=NL l k (by omega);rw[zaC l k l[k] (Wa hk)];unfold VQ;by_cases h47:l[k]=47
  ·rw[if_pos h47];by_cases h2:(nst l k).2 = []
   ·simp[h2];omega
   ·have:0<(nst l k).2.length:=WB.2 h2;simp[h2];omega
  ·rw[if_neg h47];simp;omega
theorem qw (l:Lz):(zn l).length<=l.length:=by
 rw[←zhp];have:=NL l l.length (Wb _);unfold zlL;split
 ·omega
 ·rename_i h;have:0<(nst l l.length).2.length:=WB.2 h;simp;omega
theorem yx {b c:UInt8} (h:b≠c):¬((b.toNat:Int)=(c.toNat:Int)):=fun e=>h (Ao.1 (by omega))
theorem zgb {α:Type} (l:List α) (k:Nat) (b:α) (h:l[k]?=some b):(l.take (k+1)).drop k = [b]:=by
 have hk:k<l.length:=(Wd.1 h).1;rw[WX,h,List.drop_append];simp[OH (by omega:k<=l.length)]
theorem ZG (l:Lz) (h:l.length<=2000000):Fun Tryz.prog G0 52 [.str l] (.own 0 9 1 ((zn l).map zo7)) 1:=by
 refine fon Tryz.func52 ?_;dsimp only[Tryz.f52];push_cast;refine loop (fun k:Nat=>⟨[(0,.str l),(3,.own 0 9 1 ((nst l k).1.map zo7)),(4,.str (nst l k).2),(5,.sc (.int .i64 k))],[],1,0⟩) (fun k=>k<=l.length+1) (fun k=>l.length+1-k) 0 (Wc _) ?_ ?_
 ·refine JW.mk [.inr (9,1)] rfl rfl (Wb _) rfl ?_ trivial;push_cast [ze,zd,CLe,zg];simp[zby]
 ·intro k hk;push_cast;by_cases h1:k<=l.length
  ·have hs:=NL l k h1;by_cases h2:k<l.length
   ·obtain ⟨b,hb⟩:∃ b,l[k]?=some b:=⟨l[k],Wa h2⟩;have hn:=zaC l k b hb;by_cases h3:b=47
    ·have h3':(b.toNat:Int)=47:=by subst h3;rfl
     by_cases h4:(nst l k).2 = []
     ·push_cast [h1,h2,h3',hb,h4]
      and_intros<;>try omega
      refine ⟨k+1,by omega,by omega,JW.mk [.inl 0] rfl rfl (Wb _) rfl ?_ trivial⟩;push_cast [ze,zd,CLe,zg];simp[hn,VQ,h3,h4]
     ·push_cast [h1,h2,h3',hb,h4];simp only[We,Wh,Wz]
      and_intros<;>try omega
      refine ⟨k+1,by omega,by omega,JW.mk [.inl 0] rfl rfl (Wb _) rfl ?_ trivial⟩;push_cast [ze,zd,CLe,zg];simp[hn,VQ,h3,h4,zo7]
    ·have h3':¬((b.toNat:Int)=47):=yx h3;push_cast [h1,h2,h3',hb];rw[zgb l k b hb]
     and_intros<;>try omega
     ·simp;omega
     refine ⟨k+1,by omega,by omega,JW.mk [.inl 0] rfl rfl (Wb _) rfl ?_ trivial⟩;push_cast [ze,zd,CLe,zg];simp[hn,VQ,h3]
   ·obtain rfl:k=l.length:=by omega
    have hl:=zhp l;have he:=zfJ l;have hz:=qw l;by_cases h4:(nst l l.length).2 = []
    ·push_cast [h1,h2,h4]
     and_intros<;>try omega
     refine ⟨l.length+1,by omega,by omega,JW.mk [.inl 0] rfl rfl (Wb _) rfl ?_ trivial⟩;push_cast [ze,zd,CLe,zg];simp[he,←hl,zlL,h4]
    ·push_cast [h1,h2,h4];simp only[We,Wh,Wz]
     and_intros<;>try omega
     refine ⟨l.length+1,by omega,by omega,JW.mk [.inl 0] rfl rfl (Wb _) rfl ?_ trivial⟩;push_cast [ze,zd,CLe,zg];simp[he,←hl,zlL,h4,zo7]
  ·obtain rfl:k=l.length+1:=by omega
   have he:=zfJ l;push_cast [h1];exact ⟨[.inl 0],rfl,rfl,by push_cast [ze,zd,CLe,zg,he]⟩
end
section
open Go.RowKit
abbrev zE (xs:List Lz):List (List C):=xs.map zo7
theorem yW (xs:List Lz):(zE xs).length=xs.length:=We _
theorem zhV (xs:List Lz) (x:Lz):zE xs++[[.str x]]=zE (xs++[x]):=by simp
theorem strs_get? (xs:List Lz) (k:Nat):(zE xs)[k]?=(xs[k]?).map zo7:=Ws
theorem zeC (xs:List Lz) (k:Nat):(zE xs).drop k=zE (xs.drop k):=List.map_drop.symm
theorem zfh (xs:List Lz) (k:Nat):(zE xs).take k=zE (xs.take k):=List.map_take.symm
theorem uq (xs ys:List Lz):zE xs++zE ys=zE (xs++ys):=WY.symm
theorem Zz (xs:List Lz) (k:Nat) (h:k<xs.length):(zE xs)[k]?=some [.str (xs[k]'h)]:=by rw[strs_get?,Wa h];rfl
attribute [push_cast] yW zhV zeC zfh uq
abbrev qQ (b:Bool):C:=.sc (.bool b)
theorem N6 (a b:List Lz) (ha:a.length<=9223372036854775807):Fun Tryz.prog G0 16 [.sl 1 (zE a),.sl 1 (zE b)] (qQ (decide (a=b))) 0:=by
 by_cases hl:a.length=b.length
 ·refine fon Tryz.func16 ?_;dsimp only[Tryz.f16];push_cast [hl];refine loop (fun k:Nat=>⟨[(0,.sl 1 (zE a)),(1,.sl 1 (zE b)),(5,.sc (.int .i64 k))],[],0,0⟩) (fun k=>k<=a.length/\a.take k=b.take k) (fun k=>a.length-k) 0 ⟨Wc _,rfl⟩ ?_ ?_
  ·exact wk
  ·intro k hk;have hk1:=hk.1;have hk2:=hk.2;by_cases h:k<a.length
   ·have hga:=Zz a k h;have hgb:=Zz b k (by omega);by_cases he:a[k]'h=b[k]'(by omega)
    ·push_cast [h,hga,hgb,he];refine ⟨by omega,by omega,by omega,k+1,⟨by omega,?_⟩,by omega,wk⟩;rw[WX,WX,hk2,Wa h,Wa (by omega:k<b.length),he]
    ·push_cast [h,hga,hgb,he];refine ⟨by omega,by omega,[],rfl,rfl,?_⟩;push_cast [ze,zd,CLe,zg];have:a≠b:=fun e=>he (by subst e;rfl);simp[this]
   ·have hkl:k=a.length:=by omega
    push_cast [h];refine ⟨[],rfl,rfl,?_⟩;push_cast [ze,zd,CLe,zg];rw[hkl,Of,hl,Of]at hk2;simp[hk2]
 ·have hl':¬((a.length:Int)=(b.length:Int)):=by omega
  refine fon Tryz.func16 ?_;dsimp only[Tryz.f16];push_cast [hl];refine ⟨[],rfl,rfl,?_⟩;push_cast [ze,zd,CLe,zg];have:a≠b:=fun e=>hl (by rw[e]);simp[this]
def few (l:List Lz):Bool:=(l.take 100).all (fun x=>decide (x.length<=300))&&decide (l.length<=40)
end
section
open Go.RowKit
theorem Fun.wrap {r:C} (he:Y9 P f=true)
  (h:∀ (R:Env) (vs:List Value),zA R zN args vs->Calls P f vs.toArray R.w fun e w'=>∃ v,e = .returned v/\Below R.w.heap.size R.w w'/\∀ R',Ext R R'->Rep R' zN r v):Fun P G f args r 0:=by
 refine ⟨he,fun R vs hg ha=>(h R vs ha).mono ?_⟩;rintro e w' ⟨v,rfl,hb,hr⟩;have st:qH 0 0 R zN ⟨w',fun b o=>b<R.w.heap.size/\R.M b o,R.F⟩ zN:=qH.mem (nx:=0) hb;exact ⟨v,_,zN,rfl,rfl,st,hr _ st.ext⟩
def Jb:Lz->List Lz
 | []=>[[]]
 | b :: l=>if b=47 then [] :: Jb l else match Jb l with
  | []=>[[b]]
  | x :: r=>(b :: x) :: r
theorem Gm (l:Lz):Jb l≠[]:=by
 cases l with
 | nil=>simp[Jb]
 | cons b l =>
  unfold Jb;split
  ·simp
  ·split<;>simp
theorem NX:∀ l:Lz,Lib.indexByte l 47<0->Jb l = [l]
 | [],_=>rfl
 | b :: l,h=>by
  unfold Lib.indexByte at h;by_cases hb:b=47
  ·subst hb;simp at h
  ·have hb':(b==47)=false:=by simpa using hb
   rw[hb']at h;simp only[W0,Oi]at h;have hl:Lib.indexByte l 47<0:=by
    split at h
    ·rename_i g;have:=OC.1 g;omega
    ·omega
   unfold Jb;rw[if_neg hb,NX l hl]
theorem Nb:∀ l:Lz,-1<=Lib.indexByte l 47
 | []=>Af _
 | b :: l=>by
  have:=Nb l;unfold Lib.indexByte;split
  ·decide
  ·split
   ·decide
   ·omega
theorem zaj:∀ (l:Lz) (i:Nat),Lib.indexByte l 47=(i:Int)->i<l.length/\Jb l=l.take i :: Jb (l.drop (i+1))
 | [],i,h=>by
  have h:(-1:Int)=(i:Int):=h;omega
 | b :: l,i,h=>by
  unfold Lib.indexByte at h;by_cases hb:b=47
  ·subst hb;simp at h;obtain rfl:i=0:=by omega
   refine ⟨by simp,?_⟩
   conv=>lhs;unfold Jb
   simp
  ·have hb':(b==47)=false:=by simpa using hb
   rw[hb']at h;simp only[W0,Oi]at h;split at h
   ·omega
   ·rename_i g;have g':Lib.indexByte l 47≠-1:=by simpa using g
    have hg:=Nb l;obtain ⟨j,rfl⟩:∃ j,i=j+1:=⟨i-1,by omega⟩;have hj:Lib.indexByte l 47=(j:Int):=by omega
    obtain ⟨h1,h2⟩:=zaj l j hj;refine ⟨by simp;omega,?_⟩
    conv=>lhs;unfold Jb
    rw[if_neg hb,h2];simp
theorem Hy:∀ (l:Lz) (a:List Lz) (cur:Lz),zlL (l.foldl VQ (a,cur))=a++(match Jb l with | []=>[] | x :: r=>(cur++x) :: r).filter (fun x=>!decide (x = []))
 | [],a,cur=>by
  simp only[B3,zlL,Jb];by_cases h:cur = []<;>simp[h]
 | b :: l,a,cur=>by
  simp only[Bp];by_cases hb:b=47
  ·subst hb;have hn:VQ (a,cur) 47=(if cur = [] then a else a++[cur],[]):=by simp[VQ]
   rw[hn,Hy l]
   conv=>rhs;unfold Jb
   simp only[if_true];have hne:=Gm l;cases hs:Jb l with
   | nil=>exact absurd hs hne
   | cons x r=>by_cases h:cur = []<;>simp[h]
  ·have hn:VQ (a,cur) b=(a,cur++[b]):=by simp[VQ,hb]
   rw[hn,Hy l]
   conv=>rhs;unfold Jb
   rw[if_neg hb];have hne:=Gm l;cases hs:Jb l with
   | nil=>exact absurd hs hne
   | cons x r=>simp
theorem JZ (l:Lz):zn l=(Jb l).filter (fun x=>!decide (x = [])):=by
 unfold zn;rw[Hy];cases hs:Jb l with
 | nil=>rfl
 | cons x r=>simp
theorem zhN (l:Lz):Fun Tryz.prog G0 192 [.str l,.str [47]] (.sc (.int .i64 (Lib.indexByte l 47))) 0:=by
 refine Fun.wrap (by kernel_rfl) fun R vs h=>?_;obtain ⟨v1,us1,rfl,h1,h⟩:=zh.1 h;obtain ⟨v2,us2,rfl,h2,h⟩:=zh.1 h;rw[zm]at h;subst h;rw[z6]at h1 h2;subst h1 h2;refine (Tryz.strings_Index_one ⟨l.toArray⟩ 47 R.w).mono ?_;rintro e w' ⟨rfl,rfl⟩;exact ⟨_,rfl,W7 _ _,fun R' _=>zr.2 (by simp)⟩
theorem HX (s:Lz) (hs:s.length<=1000000):yJ Tryz.prog G0 190 [] [.ptr 1 0,.ptr 0 0,.ptr 2 0] [[.str s],[.str [47]],[.sc (.int .i64 0)]] (zE (Jb s)):=by
 refine foI (fun _=>[]) Tryz.func190 ?_;dsimp only[Tryz.f190];intro l sf;push_cast;refine loop (fun x:Lz×Nat=>⟨[(0,.sc (.func (.yield l) #[] #[])),(1,.ptr 1 0),(2,.ptr 0 0),(3,.ptr 2 0)],[[.str x.1],[.str [47]],[.sc (.int .i64 0)]],0,x.2⟩)
  (fun x=>x.1.length<=1000000/\(∃ done,Jb s=done++Jb x.1/\done.length=x.2)/\∀ j,j<x.2->sf j=false) (fun x=>x.1.length) (s,0) ⟨hs,⟨[],rfl,rfl⟩,fun j hj=>by omega⟩ ?_ ?_
 ·refine JW.mk [] rfl rfl (Wc _) rfl ?_ ?_<;>push_cast [ze,zd,CLe,zg]<;>omega
 ·rintro ⟨r,k⟩ hx;simp only at hx ⊢;have hr:=hx.1;have hsf:=hx.2.2;obtain ⟨done,hd,hdl⟩:=hx.2.1;clear hx;push_cast;refine call (zhN r) ?_;push_cast;by_cases hi:Lib.indexByte r 47<0
  ·push_cast [hi];have hk:(zE (Jb s))[k]?=some [.str r]:=by
    rw[hd,NX r hi];simp[←hdl]
   rw[hk];push_cast;refine ⟨by push_cast [ze,zd,CLe,zg],hsf,?_⟩;cases hk2:sf k with
   | true=>exact .inr ⟨A5 k,hk2⟩
   | false =>
    refine .inl ⟨?_,fun j (hj:j<k+1)=>?_⟩
    ·rw[hd,NX r hi];simp[hdl]
    ·rcases Wr j k with g | g
     ·exact hsf j g
     ·rw[show j=k by omega];exact hk2
  ·have hg:=Nb r;obtain ⟨i,hii⟩:∃ i:Nat,Lib.indexByte r 47=(i:Int):=⟨(Lib.indexByte r 47).toNat,by omega⟩;obtain ⟨hir,hsp⟩:=zaj r i hii;have hk:(zE (Jb s))[k]?=some [.str (r.take i)]:=by
    rw[hd,hsp];simp[←hdl]
   rw[hii]at hi ⊢;push_cast [hi];rw[hk];push_cast;refine ⟨by omega,by omega,by push_cast [ze,zd,CLe,zg],hsf,br (fun hk2=>?_) (fun hk2=>?_)⟩
   ·push_cast;exact .inr ⟨A5 k,hk2⟩
   ·push_cast;refine ⟨by omega,by omega,(r.drop (i+1),k+1),⟨by simp;omega,⟨done++[r.take i],by rw[hd,hsp];simp,by simp[hdl]⟩,fun j (hj:j<k+1)=>?_⟩,by simp;omega,JW.mk [] rfl rfl (Wc _) rfl ?_ ?_⟩
    ·rcases Wr j k with g | g
     ·exact hsf j g
     ·rw[show j=k by omega];exact hk2
    ·push_cast [ze,zd,CLe,zg]
    ·push_cast [ze,zd,CLe,zg]
theorem Mz (s:Lz):Mr Tryz.prog G0 161 [.str s,.str [47],.sc (.int .i64 0)] [] 0 (.clo (.func 190) [] [.ptr 1 0,.ptr 0 0,.ptr 2 0]) [[.str s],[.str [47]],[.sc (.int .i64 0)]] 0:=by
 refine foB (fun _=>[]) Tryz.func161 ?_;dsimp only[Tryz.f161];push_cast;exact ⟨[],rfl,rfl,by push_cast [ze,zd,CLe,zg],by push_cast [ze,zd,CLe,zg]⟩
theorem MY (s:Lz):Mr Tryz.prog G0 119 [.str s,.str [47]] [] 0 (.clo (.func 190) [] [.ptr 1 0,.ptr 0 0,.ptr 2 0]) [[.str s],[.str [47]],[.sc (.int .i64 0)]] 0:=by
 refine foB (fun _=>[]) Tryz.func119 ?_;dsimp only[Tryz.f119];push_cast;refine VX [] [] (Mz s) rfl (by simp) (by simp) (fun i hi=>by cases hi) (by push_cast) rfl ?_;push_cast;exact ⟨[],rfl,rfl,by push_cast [ze,zd,CLe,zg],by push_cast [ze,zd,CLe,zg]⟩
end
section
open Go.RowKit
abbrev Gp (x:Lz):Bool:=!decide (x = [])
def cnt (xs:List Lz) (k:Nat):Nat:=((xs.take k).filter Gp).length
theorem za3 (xs:List Lz) (k:Nat) (x:Lz) (h:xs[k]?=some x):cnt xs (k+1)=if x = [] then cnt xs k else cnt xs k+1:=by
 unfold cnt;rw[WX,h];by_cases hx:x = []<;>simp[hx]
theorem zmA (xs:List Lz) (k:Nat) (x:Lz) (h:xs[k]?=some x) (hx:x≠[]):(xs.filter Gp)[cnt xs k]?=some x:=by
 have hk:k<xs.length:=(Wd.1 h).1;have e:xs=xs.take k++x :: xs.drop (k+1):=by
  have:=Oa k xs;rw[Oc hk]at this;rw[Wa hk]at h;cases h;exact this.symm
 have e2:xs.filter Gp=(xs.take k).filter Gp++x :: (xs.drop (k+1)).filter Gp:=by
  conv=>lhs;rw[e]
  rw[OR,O5];simp[hx]
 rw[e2];unfold cnt;simp
theorem zmK (xs:List Lz):cnt xs xs.length=(xs.filter Gp).length:=by unfold cnt;rw[Of]
theorem VF {xs:List Lz} {sf:Nat->Bool}:∀ k,k<=xs.length->(∀ j,j<k->(Gp (xs.getD j [])&&sf (cnt xs j))=false)->∀ j,j<cnt xs k->sf j=false
 | 0,_,_,j,hj=>by simp[cnt]at hj
 | k+1,hk,h,j,hj=>by
  have ih:=VF k (by omega) fun i hi=>h i (by omega);have hx:xs[k]?=some (xs.getD k []):=by rw[W9,Wa (by omega)];rfl
  rw[za3 xs k _ hx]at hj;by_cases he:xs.getD k [] = []
  ·rw[if_pos he]at hj;exact ih j hj
  ·rw[if_neg he]at hj;rcases Wr j (cnt xs k) with g | g
   ·exact ih j g
   ·have h2:=h k (by omega);have h3:Gp (xs.getD k [])=true:=by simp only[Gp,AE,Ou];exact he
    rw[h3,Ok]at h2;rw[show j=cnt xs k by omega];exact h2
theorem QK {xs:List Lz} {it:List C} (h:(zE xs)[k]?=some it):∃ x,xs[k]?=some x/\it = [.str x]:=by
 rw[Ws]at h;cases hq:xs[k]? with
 | none=>rw[hq]at h;cases h
 | some x=>rw[hq]at h;cases h;exact ⟨x,rfl,rfl⟩
theorem XT (p:Lz) (hs:p.length<=1000000):yJ Tryz.prog G0 159 [] [.row [.str p]] [] (zE (zn p)):=by
 rw[JZ];refine foI (fun _=>[]) Tryz.func159 ?_;dsimp only[Tryz.f159];intro l sf;push_cast;refine VX [] [] (MY p) rfl (by simp) (by simp) (fun i hi=>by cases hi) (by push_cast) rfl ?_;push_cast;refine range (zE (Jb p)) (fun k=>Gp ((Jb p).getD k [])&&sf (cnt (Jb p) k)) 1 (fun k=>⟨[],[[.sc (.func (.yield l) #[] #[])]],0,cnt (Jb p) k⟩) (HX p hs) (by push_cast) (by push_cast) (by push_cast) (Wc _) (by push_cast) (fun it hit=>?_) (fun k _=>rfl) ?_ (fun k it hk hsf=>?_) (fun hsf=>?_)
 ·obtain ⟨x,_,rfl⟩:=WS.1 hit;rfl
 ·exact wk
 ·obtain ⟨x,hx,rfl⟩:=QK hk;have hxd:(Jb p).getD k []=x:=by rw[W9,hx];rfl
  have hkl:k<(Jb p).length:=(Wd.1 hx).1;have hcs:=za3 (Jb p) k x hx;have hbef:=VF (xs:=Jb p) (sf:=sf) k (by omega) hsf;by_cases he:x = []
  ·push_cast [he];refine ⟨?_,JW.mk [] rfl rfl (Wb _) ?_ (by push_cast [ze,zd,CLe,zg]) (by push_cast [ze,zd,CLe,zg])⟩
   ·rw[hxd,he];rfl
   ·simp[hcs,he,St.wt]
  ·have hget:=zmA (Jb p) k x hx he;have hg2:(zE ((Jb p).filter Gp))[cnt (Jb p) k]?=some [.str x]:=by rw[Ws,hget];rfl
   push_cast [he];rw[hg2];push_cast;refine ⟨by push_cast [ze,zd,CLe,zg],hbef,br (fun h2=>?_) (fun h2=>?_)⟩
   ·push_cast;refine ⟨by rw[hxd,h2];simp[Gp,he],⟨[],[[.sc (.func (.yield l) #[] #[])]],0,cnt (Jb p) k+1⟩,rfl,wk,?_⟩;push_cast;exact .inr ⟨A5 _,h2⟩
   ·push_cast;refine ⟨by rw[h2,Ad],JW.mk [] rfl rfl (Wb _) ?_ (by push_cast [ze,zd,CLe,zg]) (by push_cast [ze,zd,CLe,zg])⟩;simp[hcs,he,St.wt]
 ·have hall:=zmK (Jb p);have hbef:=VF (xs:=Jb p) (sf:=sf) (Jb p).length (Wb _) fun j hj=>hsf j (by simpa using hj);push_cast;refine .inl ⟨?_,?_⟩
  ·simp[hall]
  ·simpa using hbef
end
section
open Go.RowKit
theorem Yv (p:Lz):Fun Tryz.prog G0 113 [.str p] (.clo (.func 159) [] [.row [.str p]]) 0:=by
 refine fon Tryz.func113 ?_;dsimp only[Tryz.f113];push_cast;exact dn
theorem Ns (xs:List Lz) (f:FuncId) (cap:List C) (hsel:C.selL (Xf 1) cap=cap) (hit:yJ Tryz.prog G0 f [] cap [] (zE xs)) (hx:xs.length<=1000001):Fun Tryz.prog G0 201 [.sc (.slice none 0 0),.clo (.func f) [] cap] (.own 0 9 1 (zE xs)) 1:=by
 refine fon Tryz.func201 ?_;dsimp only[Tryz.f201];push_cast;refine range (zE xs) (fun _=>false) 1 (fun k=>⟨[],[[.own 0 9 1 (zE (xs.take k))]],1,0⟩) hit (by push_cast) hsel (by push_cast) (Wc _) (by push_cast) (fun it h=>?_) (fun k _=>rfl) ?_ (fun k it hk hsf=>?_) (fun hsf=>?_)
 ·obtain ⟨x,_,rfl⟩:=WS.1 h;rfl
 ·exact wks [.inr (9,1)]
 ·obtain ⟨x,hx2,rfl⟩:=QK hk;have hkl:k<xs.length:=(Wd.1 hx2).1;push_cast;simp only[Ob];refine ⟨by omega,by omega,JW.mk [.inl 0] rfl rfl (Wb _) rfl (by push_cast [ze,zd,CLe,zg]) ?_⟩;push_cast [ze,zd,CLe,zg];rw[WX,hx2]
  rfl
 ·push_cast;refine ⟨[.inl 0],rfl,rfl,?_⟩;push_cast [ze,zd,CLe,zg];simp
theorem uX (xs:List Lz) (f:FuncId) (cap:List C) (hsel:C.selL (Xf 1) cap=cap) (hfrz:C.frzL cap=cap) (hit:yJ Tryz.prog G0 f [] cap [] (zE xs)) (hx:xs.length<=1000001):Fun Tryz.prog G0 168 [.clo (.func f) [] cap] (.own 0 9 1 (zE xs)) 1:=by
 refine fon Tryz.func168 ?_;dsimp only[Tryz.f168];push_cast [hfrz];refine call (Ns xs f cap hsel hit hx) ?_;push_cast;exact ⟨[.inl 0],rfl,rfl,by push_cast [ze,zd,CLe,zg]⟩
theorem Qk (p:Lz) (hp:p.length<=1000000):Fun Tryz.prog G0 168 [.clo (.func 159) [] [.row [.str p]]] (.own 0 9 1 (zE (zn p))) 1:=
 uX (zn p) _ _ (by push_cast) (by push_cast) (XT p hp) (by have:=qw p;omega)
theorem XV (s p:Lz):Fun Tryz.prog G0 112 [.str s,.str p] (.sc (.bool (Lib.hasPrefix s p))) 0:=by
 refine Fun.wrap (by kernel_rfl) fun R vs h=>?_;obtain ⟨v1,us1,rfl,h1,h⟩:=zh.1 h;obtain ⟨v2,us2,rfl,h2,h⟩:=zh.1 h;rw[zm]at h;subst h;rw[z6]at h1 h2;subst h1 h2;refine (Tryz.strings_HasPrefix ⟨s.toArray⟩ ⟨p.toArray⟩ R.w).mono ?_;rintro e w' ⟨rfl,rfl⟩;exact ⟨_,rfl,W7 _ _,fun R' _=>zr.2 (by simp)⟩
theorem Z3 (s p:Lz) (hs:s.length<=1000000):Fun Tryz.prog G0 115 [.str s,.str p] (.sc (.bool (Lib.hasSuffix s p))) 0:=by
 refine Fun.wrap (by kernel_rfl) fun R vs h=>?_;obtain ⟨v1,us1,rfl,h1,h⟩:=zh.1 h;obtain ⟨v2,us2,rfl,h2,h⟩:=zh.1 h;rw[zm]at h;subst h;rw[z6]at h1 h2;subst h1 h2;refine (Tryz.strings_HasSuffix ⟨s.toArray⟩ ⟨p.toArray⟩ R.w (by simp[ByteArray.size];omega)).mono ?_;rintro e w' ⟨rfl,rfl⟩;exact ⟨_,rfl,W7 _ _,fun R' _=>zr.2 (by simp)⟩
theorem Mh (xs:List Lz) (sep:Lz) (hx:xs.length<=1000001) (hl:(Lib.join xs sep).length<=100000000):Fun Tryz.prog G0 122 [.sl 1 (zE xs),.str sep] (.str (Lib.join xs sep)) 0:=by
 refine Fun.wrap (by kernel_rfl) fun R vs h=>?_;obtain ⟨v1,us1,rfl,h1,h⟩:=zh.1 h;obtain ⟨v2,us2,rfl,h2,h⟩:=zh.1 h;rw[zm]at h;subst h;rw[z6]at h2;subst h2;obtain ⟨a,cap,rfl,hc1,hc2,hr⟩:=GK.1 h1;have hlen:(zE xs).length=xs.length:=by simp
 have hmap:(xs.map fun x=>ByteArray.mk x.toArray).map (·.data.toList)=xs:=by
  rw[List.map_map]
  conv=>rhs;rw[←List.map_id xs]
  exact A8 fun x _=>by simp
 rcases hr with hr | ⟨b,o,rfl,hr⟩
 ·have:xs = []:=by simpa using hr
  subst this;refine (Tryz.strings_Join_none a cap ⟨sep.toArray⟩ R.w).mono ?_;rintro e w' ⟨rfl,rfl⟩;exact ⟨_,rfl,W7 _ _,fun R' _=>z6.2 (by simp[Lib.join])⟩
 ·by_cases hx0:xs = []
  ·subst hx0;refine (Tryz.strings_Join_none _ cap ⟨sep.toArray⟩ R.w).mono ?_;rintro e w' ⟨rfl,rfl⟩;exact ⟨_,rfl,W7 _ _,fun R' _=>z6.2 (by simp[Lib.join])⟩
  ·have hcells:∀ (j:Nat) x,(xs.map fun x=>ByteArray.mk x.toArray)[j]?=some x->R.w.cell? ⟨b,o+j,none⟩=some (.string x):=fun j x hj=>by
    rw[Ws]at hj;cases hq:xs[j]? with
    | none=>rw[hq]at hj;cases hj
    | some y =>
     rw[hq]at hj;cases hj;obtain ⟨_,g⟩:=jz hr j [.str y] (by rw[Ws,hq];rfl);obtain ⟨⟨v,g1,_,g2,_⟩,_⟩:=qp.1 g;rw[z6]at g2;subst g2;simpa using g1
   have hb:b<R.w.heap.size:=by
    cases xs with
    | nil=>exact absurd rfl hx0
    | cons x r =>
     exact uJ (hcells 0 ⟨x.toArray⟩ rfl)
   have hj:=Tryz.strings_Join b o cap (xs.map fun x=>ByteArray.mk x.toArray) ⟨sep.toArray⟩ R.w hcells hb (by simp;omega) (by simpa using hc1) (by rw[hmap];simp;omega);rw[hmap]at hj;simp only[We]at hj;rw[hlen];refine hj.mono ?_;rintro e w' ⟨rfl,hbl⟩;exact ⟨_,rfl,hbl,fun R' _=>z6.2 (by simp)⟩
end
section
open Go.RowKit
def HQ (p:Lz):C:=.agg [qQ (Lib.hasPrefix p [47]),.own 0 9 1 (zE (zn p)),qQ (!decide (zn p = [])&&Lib.hasSuffix p [47])]
theorem UM (p:Lz) (hp:p.length<=1000000):Fun Tryz.prog G0 125 [.str p] (HQ p) 1:=by
 refine fon Tryz.func125 ?_;dsimp only[Tryz.f125];push_cast;refine call (Yv p) ?_;push_cast;refine call (Qk p hp) ?_;push_cast;refine call (XV p [47]) ?_;push_cast;by_cases h:zn p = []
 ·push_cast [h];exact ⟨[.inl 0],rfl,rfl,by simp only[HQ];push_cast [ze,zd,CLe,zg,h];simp⟩
 ·have h':0<(zn p).length:=WB.2 h;push_cast [h'];refine call (Z3 p [47] hp) ?_;push_cast;exact ⟨[.inl 0],rfl,rfl,by simp only[HQ];push_cast [ze,zd,CLe,zg,h]⟩
def put (a:Bool) (xs:List Lz) (s:Bool):Lz:=(if a then [47] else [])++Lib.join xs [47]++(if s&&!decide (xs = []) then [47] else [])
def qy (xs:List Lz):Lz:=if xs = [] then [47] else 47 :: Lib.join xs [47]
theorem Qd (xs:List Lz) (hx:xs.length<=1000001) (hl:(Lib.join xs [47]).length<=100000000):Fun Tryz.prog G0 127 [.sl 1 (zE xs)] (.str (qy xs)) 0:=by
 refine fon Tryz.func127 ?_;dsimp only[Tryz.f127];push_cast;by_cases h:xs = []
 ·push_cast [h];exact ⟨[],rfl,rfl,by simp only[qy,h];push_cast [ze,zd,CLe,zg]⟩
 ·have h':¬((xs.length:Int)=0):=by have:=WB.2 h;omega
  push_cast [h'];refine call ((Mh xs [47] hx hl)) ?_;push_cast;exact ⟨by omega,[],rfl,rfl,by simp only[qy,if_neg h];push_cast [ze,zd,CLe,zg]⟩
def X7 (p:Lz):Bool:=(zn p).any (fun x=>decide (255<x.length))||decide (4095<p.length)
theorem zaZ (p:Lz) (hp:p.length<=1000000):Fun Tryz.prog G0 175 [.str p] (qQ (X7 p)) 0:=by
 refine fon Tryz.func175 ?_;dsimp only[Tryz.f175];push_cast;refine call (Yv p) ?_;push_cast;refine range (zE (zn p)) (fun k=>decide (255<((zn p).getD k []).length)) 1 (fun k=>⟨[],[[.sc (.bool false)]],0,0⟩) (XT p hp) (by push_cast) (by push_cast) (by push_cast) (Wc _) (by push_cast) (fun it h=>?_) (fun k _=>rfl) ?_ (fun k it hk hsf=>?_) (fun hsf=>?_)
 ·obtain ⟨x,_,rfl⟩:=WS.1 h;rfl
 ·exact wk
 ·obtain ⟨x,hx,rfl⟩:=QK hk;have hxd:(zn p).getD k []=x:=by rw[W9,hx];rfl
  push_cast;rw[hxd];refine br (fun h=>?_) (fun h=>?_)
  ·have h':255<x.length:=by have:=WR h;omega
   push_cast;refine ⟨by simpa using h',⟨[],[[.sc (.bool true)]],0,0⟩,rfl,wk,?_⟩;push_cast;refine ⟨[],rfl,rfl,?_⟩;push_cast [ze,zd,CLe,zg];have:(zn p).any (fun x=>decide (255<x.length))=true:=Oq.2 ⟨x,Wg hx,by simpa using h'⟩;simp[X7,this]
  ·have h':¬255<x.length:=by have:=OQ h;omega
   push_cast;exact ⟨by simpa using h',wk⟩
 ·push_cast;refine ⟨[],rfl,rfl,?_⟩;push_cast [ze,zd,CLe,zg];have:(zn p).any (fun x=>decide (255<x.length))=false:=Og.2 fun x hx=>by
   obtain ⟨k,hk,rfl⟩:=WH hx;have:=hsf k (by simpa using hk);rw[W9,Wa hk]at this;simpa using this
  simp[X7,this];omega
def J8 (p:Lz):Lz:=(zn p).getLastD (if Lib.hasPrefix p [47] then [47] else [])
theorem zaP (p:Lz) (hp:p.length<=1000000):Fun Tryz.prog G0 67 [.str p] (.str (J8 p)) 0:=by
 refine fon Tryz.func67 ?_;dsimp only[Tryz.f67];push_cast;refine call (XV p [47]) ?_;push_cast;have go:∀ b0:Lz,b0=(if Lib.hasPrefix p [47] then [47] else [])->J8 p=((zn p).take (zn p).length).getLastD b0:=fun b0 hb=>by rw[Of,hb];rfl
 have main:∀ b0:Lz,b0=(if Lib.hasPrefix p [47] then [47] else [])->∀ k x,(zn p)[k]?=some x->((zn p).take (k+1)).getLastD b0=x:=fun b0 _ k x hx=>by
  rw[WX,hx];simp
 cases hpf:Lib.hasPrefix p [47] with
 | true =>
  rw[hpf]at go main;push_cast;refine call (Yv p) ?_;push_cast;refine range (zE (zn p)) (fun k=>false) 1 (fun k=>⟨[],[[.str (((zn p).take k).getLastD [47])]],0,0⟩) (XT p hp) (by push_cast) (by push_cast) (by push_cast) (Wc _) (by push_cast) (fun it h=>?_) (fun k _=>rfl) ?_ (fun k it hk hsf=>?_) (fun hsf=>?_)
  ·obtain ⟨x,_,rfl⟩:=WS.1 h;rfl
  ·exact JW.mk [] rfl rfl (Wb _) rfl (by push_cast [ze,zd,CLe,zg]) (by push_cast [ze,zd,CLe,zg];rfl)
  ·obtain ⟨x,hx,rfl⟩:=QK hk;have:=main [47] rfl k x hx;push_cast;exact wk (h5:=by push_cast [ze,zd,CLe,zg,this])
  ·have:=go [47] rfl;push_cast;exact ⟨[],rfl,rfl,by push_cast [ze,zd,CLe,zg];exact this.symm⟩
 | false =>
  rw[hpf]at go main;push_cast;refine call (Yv p) ?_;push_cast;refine range (zE (zn p)) (fun k=>false) 1 (fun k=>⟨[],[[.str (((zn p).take k).getLastD [])]],0,0⟩) (XT p hp) (by push_cast) (by push_cast) (by push_cast) (Wc _) (by push_cast) (fun it h=>?_) (fun k _=>rfl) ?_ (fun k it hk hsf=>?_) (fun hsf=>?_)
  ·obtain ⟨x,_,rfl⟩:=WS.1 h;rfl
  ·exact JW.mk [] rfl rfl (Wb _) rfl (by push_cast [ze,zd,CLe,zg]) (by push_cast [ze,zd,CLe,zg];rfl)
  ·obtain ⟨x,hx,rfl⟩:=QK hk;have:=main [] rfl k x hx;push_cast;exact wk (h5:=by push_cast [ze,zd,CLe,zg,this])
  ·have:=go [] rfl;push_cast;exact ⟨[],rfl,rfl,by push_cast [ze,zd,CLe,zg];exact this.symm⟩
def YQ (p q:Lz):Bool:=decide (p=q)||decide (q = [47])||Lib.hasPrefix p (q++[47])
theorem Gy (p q:Lz) (hq:q.length<=1000000):Fun Tryz.prog G0 205 [.str p,.str q] (qQ (YQ p q)) 0:=by
 refine fon Tryz.func205 ?_;dsimp only[Tryz.f205];push_cast;by_cases h1:p=q
 ·push_cast [h1];exact ⟨[],rfl,rfl,by push_cast [ze,zd,CLe,zg];simp[YQ]⟩
 ·by_cases h2:q = [47]
  ·subst h2;push_cast [h1];exact ⟨[],rfl,rfl,by push_cast [ze,zd,CLe,zg];simp[YQ]⟩
  ·push_cast [h1,h2];refine ⟨by omega,?_⟩;refine call (XV p (q++[47])) ?_;push_cast;exact ⟨[],rfl,rfl,by push_cast [ze,zd,CLe,zg];simp[YQ,h1,h2]⟩
end
section
open Go.RowKit
theorem Vo (l:Lz) (c:UInt8):Fun Tryz.prog G0 145 [.str l,.sc (.int .u8 (c.toNat:Int))] (.sc (.int .i64 (Lib.indexByte l c))) 0:=by
 refine Fun.wrap (by kernel_rfl) fun R vs h=>?_;obtain ⟨v1,us1,rfl,h1,h⟩:=zh.1 h;obtain ⟨v2,us2,rfl,h2,h⟩:=zh.1 h;rw[zm]at h;subst h;rw[z6]at h1;rw[zr]at h2;subst h1 h2;refine (Tryz.strings_IndexByte ⟨l.toArray⟩ (c.toNat:Int) R.w).mono ?_;rintro e w' ⟨rfl,rfl⟩;exact ⟨_,rfl,W7 _ _,fun R' _=>zr.2 (by simp)⟩
theorem XH (r:Int):Fun Tryz.prog G0 265 [.sc (.int .i32 r)] (.sc (.bool (Lib.validRune r))) 0:=by
 refine Fun.wrap (by kernel_rfl) fun R vs h=>?_;obtain ⟨v1,us1,rfl,h1,h⟩:=zh.1 h;rw[zm]at h;subst h;rw[zr]at h1;subst h1;refine (Tryz.utf8_ValidRune r R.w).mono ?_;rintro e w' ⟨rfl,rfl⟩;exact ⟨_,rfl,W7 _ _,fun R' _=>zr.2 rfl⟩
theorem zi8 (r:Int) (hv:Utf8.valid r=true) (h128:128<=r):∃ l c,(Utf8.encode r).data.toList=l++[c]/\1<=l.length/\l.length<=3/\128<=c.toNat:=by
 obtain ⟨h1,h2,h3⟩:=encode_facts r hv h128;generalize Utf8.encode r=bs at h1 h2 h3 ⊢;have hs:bs.data.toList.length=bs.size:=WW;have h4:=h3 (by omega);have h5:bs.data.toList[bs.size-1]?=some (bs[bs.size-1]'(by omega)):=Lib.data_getElem? bs _ (by omega);generalize bs[bs.size-1]'(by omega)=c at h4 h5;generalize bs.data.toList=l at hs h5;refine ⟨l.take (bs.size-1),c,?_,by simp;omega,by simp;omega,h4⟩;have:=Oa (bs.size-1) l;have hd:l.drop (bs.size-1) = [c]:=by
  have hlt:bs.size-1<l.length:=by omega
  rw[Oc hlt];rw[Wa hlt]at h5;cases h5;rw[AY (by omega)]
 rw[hd]at this;exact this.symm
theorem xA (r:Int) (h1:128<=r) (hv:Utf8.valid r=true) (h2:r≠65533):Fun Tryz.prog G0 234 [.str [47,0],.sc (.int .i32 r)] (.sc (.int .i64 (-1))) 0:=by
 have hlv:Lib.validRune r=true:=by
  have:=validRune_eq r;rw[hv]at this;exact this.symm
 obtain ⟨l,c,he,hl1,hl3,hc⟩:=zi8 r hv h1;have ha:0<=r:=by omega
 have hb:¬r<128:=by omega
 have hc0:¬((0:Int)=(c.toNat:Int)):=by omega
 have hix:=Vo [] c
 match l,hl1,hl3 with
 | [x],_,_ =>
  refine fon Tryz.func234 ?_;dsimp only[Tryz.f234];push_cast [ha,hb,h2];refine call (XH r) ?_;push_cast [hlv,he];refine loop (fun k:Nat=>⟨[(0,.str [47,0]),(1,.sc (.int .i32 r)),(7,.str [x,c]),(8,.sc (.int .i64 1)),(9,.sc (.int .i64 1)),(10,.sc (.int .i64 0))],[],0,0⟩) (fun k=>True) (fun k=>0) 0 trivial ?_ ?_
  ·exact wk
  ·intro k _;push_cast [hc0];refine zb0 hix ?_;have hi0:Lib.indexByte [] c = -1:=rfl;push_cast [hi0];exact dn
 | [x,y],_,_ =>
  refine fon Tryz.func234 ?_;dsimp only[Tryz.f234];push_cast [ha,hb,h2];refine call (XH r) ?_;push_cast [hlv,he];refine loop (fun k:Nat=>⟨[(0,.str [47,0]),(9,.sc (.int .i64 2))],[],0,0⟩) (fun k=>True) (fun k=>0) 0 trivial ?_ ?_
  ·exact wk
  ·intro k _;push_cast;exact dn
 | [x,y,z],_,_ =>
  refine fon Tryz.func234 ?_;dsimp only[Tryz.f234];push_cast [ha,hb,h2];refine call (XH r) ?_;push_cast [hlv,he];refine loop (fun k:Nat=>⟨[(0,.str [47,0]),(9,.sc (.int .i64 3))],[],0,0⟩) (fun k=>True) (fun k=>0) 0 trivial ?_ ?_
  ·exact wk
  ·intro k _;push_cast;exact dn
theorem Nj (w:World):Calls Tryz.prog 234 #[.string ⟨#[47,0]⟩,.int .i32 65533] w fun e w'=>e = .returned (.int .i64 (-1))/\Below w.heap.size w w':=by
 go_enter Tryz.func234,Tryz.ntmps234
 go_wp2
 go_loopg [5,6] 2 (fun g _ _ wx=>∃ i:Nat,i+g=2/\wx=w.iter ⟨#[47,0]⟩ i)
 case atStart=>exact ⟨0,by omega,rfl⟩
 case round =>
  obtain ⟨i,hig,rfl⟩:=hrel;cases gk with
  | zero =>
   obtain rfl:i=2:=by omega
   have hnx:=fun ty=>run_next_end (P:=Tryz.prog) w ⟨#[47,0]⟩ 2 ty (by decide)
   go_wp2
   go_ret
   exact ⟨rfl,(W7 _ _).alloc (Wb _) _⟩
  | succ g =>
   have hi:i<(ByteArray.mk #[47,0]).size:=by show i<2;omega
   have hx128:((ByteArray.mk #[47,0])[i]'hi).toNat<128:=by
    have:i=0∨i=1:=by omega
    rcases this with rfl | rfl
    ·exact (by decide:(47:UInt8).toNat<128)
    ·exact (by decide:(0:UInt8).toNat<128)
   have hnx:=fun ty=>run_next_ascii (P:=Tryz.prog) w ⟨#[47,0]⟩ i ty hi hx128;have hne:((((ByteArray.mk #[47,0])[i]'hi).toNat:Int)==65533)=false:=by
    rw[O1];omega
   go_wp2
   go_roundg g
   case measure=>omega
   case rel=>exact ⟨i+1,by omega,rfl⟩
end
end Go.Proofs.YtnpdbhbmakdklaaGreatDoor.Vcg
