/- What the proof of MvsBelow leans on, part 3: Vcg18 Slc0 Slc1 TabV Tab1 OpenG OpenT Srt0 SlcE Shelf Tab2 TabR Snd1 PathN Ref1 Path1 Path2 Path3 Path4 May1 May2 May3. No condition beyond what each theorem states. -/
import Derived.Test.YtnpdbhbmakdklaaGreatDoorMvsBelowKb
import Derived.Lib.Overlaps
import Derived.Laws.Externs
import Derived.WalkKit
import Derived.ProofKit
import Derived.Deep.Slices
import Derived.Deep.Fields
import Derived.ChangeSame
import Derived.ChangeOld
import Derived.Lib.SmallJoins
import Derived.Test.YtnpdbhbmakdklaaGreatDoorRows
import Derived.Lib.Bytealg
import Derived.Shelf.Strings.Builder1
import Derived.Shelf.Strings.Builder2
import Derived.Shelf.Strings.OnBuilder
import Derived.Shelf.Strings.Trim
import Derived.Shelf.Small.Utf8
import Derived.Shelf.Small.Strs
import Derived.Shelf.Small.Wraps
import Derived.Shelf.Strings.BuilderF
import Derived.Shelf.Strings.BuilderK
import Derived.Shelf.Strings.Search1
import Derived.Shelf.Strings.Search2
import Derived.Shelf.Strings.Search3
import Derived.Shelf.LaysM
import Derived.Shelf.Strings.Shaped
import Derived.Shelf.Strings.Prefix
import Derived.Shelf.Unicode.Decode
import Derived.Shelf.Strings.Runes
import Derived.Shelf.Strings.IndexAny
import Derived.Shelf.Strings.AsciiSet
import Derived.Shelf.Strings.IndexAnyAll
import Derived.Shelf.Unicode.DecodeSlow
import Derived.Shelf.Unicode.DecodeAny
import Derived.Shelf.Unicode.DecodeLast
import Derived.Ground.Names2Prog
import Derived.Shelf.Slices.SearchI
import Derived.Test.YtnpdbhbmakdklaaGreatDoorProg
import Derived.Laws.Runes
import Derived.Laws.RangeString
import Derived.Deep.LoopGhost
import Derived.Lib.QuoteLoop
import Derived.Lib.IndexAny
set_option linter.unusedVariables false
set_option linter.unusedSimpArgs false
set_option linter.unusedSectionVars false
set_option maxRecDepth 100000
set_option maxHeartbeats 4000000
namespace Go.Proofs.YtnpdbhbmakdklaaGreatDoor.Vcg
variable {f:FuncId} {args r cs vs ds vs1 fargs:List C} {n off b q i k u b1 j cap e s1 size by' p:Nat} {l:Lz} {a:Int} {ps:List (Nat×C)} {KS:St->Prop} {L:Lay} {H:List k7} {rest:List Oper} {dst:Option Tmp} {op:BinOp} {ty t2:TypeId} {pos:String} {af:Array Edge} {g:Option (Nat×Bool)} {fr:Fr} {us:List Operand} {kd:LK} {z1 z2:Option (List Value)} {fn:Fn} {lo hi mx:Option Int} {k2:IntKind} {v:Value} {lk:List LK} {fp fo:Nat->Option Nat} {place:Nat->Option (Nat×Nat)} {ks1:MK} {fbx:List (List C)} {post:C->List (List C)->Nat->Prop} {code:Code} {W:World}
section
open Go.RowKit
section
variable {P:Program} {G:zr} {σ σ':St} {N p lg m:Nat} {h:Hd} {yd:Option Yd} {brs:List Bool} {bf:Nat->List Bool} {bx bx':List (List C)} {ops:Array Oper} {c c' d d':C} {t t':TypeId} {K:C->Prop} {K2:C->Nat->Prop} {K3:C->St->Prop} {nx:Nat} {tm:List (Nat×C)} {x y z:Operand} {Q:Exit->St->Prop} {X Y:Prop}
def uk (P:Program) (G:zr) (f:FuncId) (args:List C) (nx:Nat) (K:C->Nat->Prop):Prop:=∃ r n,Fun P G f args r n/\K (r.sh nx) (nx+n)
theorem uk.mk {r:C} (h:Fun P G f args r n) (hK:K2 (r.sh nx) (nx+n)):uk P G f args nx K2:=⟨r,n,h,hK⟩
def zqk (P:Program) (G:zr) (f:FuncId) (args fargs:List C) (σ:St) (K:C->St->Prop):Prop:=
 (∃ r n,Fun P G f fargs r n/\K (r.sh σ.nx) ⟨σ.tm,σ.bx,σ.nx+n,σ.lg⟩)∨ym P G f args σ K∨zkm P G f args σ K∨UE P G f args σ K∨zeD P f args σ K
def aGd (d:Option Tmp) (tm:List (Nat×C)) (want:Bool) (X Y:Prop):Prop:=match d with
 | some d=>match want with
  | true=>zkg (jX tm d) Y X Y
  | false=>zkg (jX tm d) Y Y X
 | none=>False
def zn8 (L:Option Lay) (c:C) (bx:List (List C)) (K:C->Prop):Prop:=
 match L with
 | none=>False
 | some L=>match c with
  | .ptr i off=>match bx[i]? with
   | some cs=>Yn L (cs.drop off) K
   | none=>False
  | .row cs=>Yn L cs K
  | _=>False
def zoK (cs:Option (List C)) (off:Nat) (L:Lay) (K:C->Prop):Prop:=match cs with | some cs=>Yn L (cs.drop off) K | none=>False
def zrR (x:Option C) (K:C->Prop):Prop:=match x with | some c=>K c | none=>False
def vp (L:Option Lay) (c:C) (f:Nat) (K:C->Prop):Prop:=
 match L with
 | some ⟨.struct fs,_,_,_⟩=>match fs[f]?,c with
  | some (off,size,agg),.agg cs =>
   if agg then off+size<=cs.length/\K (.agg ((cs.drop off).take size)) else match cs[off]? with
    | some c=>K c
    | none=>False
  | _,_=>False
 | _=>False
def U6 (f:Option (Nat×Nat×Bool)) (cs:List C) (K:C->Prop):Prop:=
 match f with
 | some (off,size,agg)=>if agg then off+size<=cs.length/\K (.agg ((cs.drop off).take size)) else match cs[off]? with
    | some c=>K c
    | none=>False
 | none=>False
def zsI (L:Option Lay) (c:C) (f:Nat) (K:C->Prop):Prop:=
 match L with
 | some ⟨.struct fs,_,_,_⟩=>match fs[f]?,c with
  | some (off,size,_),.ptr i o=>if size=0 then False else K (.ptr i (o+off))
  | some (off,size,_),.row cs=>if size=0 then False else K (.row (cs.drop off))
  | _,_=>False
 | _=>False
def zqm (f:Option (Nat×Nat×Bool)) (c:C) (K:C->Prop):Prop:=
 match f,c with
  | some (off,size,_),.ptr i o=>if size=0 then False else K (.ptr i (o+off))
  | some (off,size,_),.row cs=>if size=0 then False else K (.row (cs.drop off))
  | _,_=>False
def zs5 (P:Program) (L:Option Lay) (c:C) (i:C) (K:C->Prop):Prop:=
 match L,i with
 | some ⟨.slice e,_,_,_⟩,.sc (.int _ n)=>match lay P e with
  | some L=>match c with
   | .bs j off k m _=>k=L.size/\0<=n/\n<(m:Int)/\K (.ptr j (off+n.toNat*L.size))
   | c=>match c.rows? L.size with
    | some rows=>match rows[n.toNat]? with
     | some r=>0<=n/\K (.row r)
     | none=>False
    | none=>False
  | none=>False
 | some ⟨.array (m+1) e,_,_,_⟩,.sc (.int _ n)=>match lay P e with
  | some L=>match c with
   | .ptr j off=>0<=n/\n<((m+1:Nat):Int)/\K (.ptr j (off+n.toNat*L.size))
   | .row cs=>0<=n/\n<((m+1:Nat):Int)/\K (.row (cs.drop (n.toNat*L.size)))
   | _=>False
  | none=>False
 | _,_=>False
def zsD (L:Option Lay) (c:C) (n:Int) (K:C->Prop):Prop:=
 match L with
  | some L=>match c with
   | .bs j off k m _=>k=L.size/\0<=n/\n<(m:Int)/\K (.ptr j (off+n.toNat*L.size))
   | c=>match c.rows? L.size with
    | some rows=>match rows[n.toNat]? with
     | some r=>0<=n/\K (.row r)
     | none=>False
    | none=>False
  | none=>False
def zsX (rows:Option (List (List C))) (n:Int) (K:C->Prop):Prop:=
 match rows with
   | some rows=>match rows[n.toNat]? with
    | some r=>0<=n/\K (.row r)
    | none=>False
   | none=>False
def aAt (r:Option (List C)) (n:Int) (K:C->Prop):Prop:=match r with | some r=>0<=n/\K (.row r) | none=>False
def zsT (L:Option Lay) (c:C) (m:Nat) (n:Int) (K:C->Prop):Prop:=
 match L with
  | some L=>match c with
   | .ptr j off=>0<=n/\n<((m+1:Nat):Int)/\K (.ptr j (off+n.toNat*L.size))
   | .row cs=>0<=n/\n<((m+1:Nat):Int)/\K (.row (cs.drop (n.toNat*L.size)))
   | _=>False
  | none=>False
def zrW (L:Option Lay) (c i:C) (K:C->Prop):Prop:=
 match L,c,i with
 | some ⟨.str,_,_,_⟩,.str l,.sc (.int _ n)=>match l[n.toNat]? with
  | some b=>0<=n/\K (.sc (.int .u8 (b.toNat:Int)))
  | none=>False
 | _,_,_=>False
def znd (b:Option UInt8) (n:Int) (K:C->Prop):Prop:=match b with | some b=>0<=n/\K (.sc (.int .u8 (b.toNat:Int))) | none=>False
def zr2 (P:Program) (L:Option Lay) (c:C) (lo hi mx:Option Int) (K:C->Prop):Prop:=
   match L with
    | some ⟨.str,_,_,_⟩=>match c,mx with
      | .str l,none=>j7 l.length lo hi/\K (.str (cut l lo hi))
      | _,_=>False
    | some ⟨.slice e,_,_,_⟩=>match lay P e with
      | some L=>match c with
        | .bs i off k n cap=>znf L.size i off k n cap lo hi mx K
        | .sc (.slice none 0 0)=>zn0 L.size lo hi mx K
        | c=>match c.rows? L.size with
          | some rows=>match mx,hi with
            | none,_=>j7 rows.length lo hi/\K (.sl L.size (cut rows lo hi))
            | some m,some h=>m=h/\j7 rows.length lo hi/\K (.tight L.size (cut rows lo hi))
            | some _,none=>False
          | none=>False
      | none=>False
    | _=>False
def zsF (P:Program) (t:TypeId) (c:C) (lo hi mx:Option (Option Int)) (K:C->Prop):Prop:=
 match lo,hi,mx with
 | some lo,some hi,some mx=>zr2 P (lay P t) c lo hi mx K
 | _,_,_=>False
def zsK (L:Option Lay) (c:C) (lo hi mx:Option Int) (K:C->Prop):Prop:=
 match L with
   | some L=>match c with
    | .bs i off k n cap=>znf L.size i off k n cap lo hi mx K
    | .sc (.slice none 0 0)=>zn0 L.size lo hi mx K
    | c=>match c.rows? L.size with
     | some rows=>match mx,hi with
      | none,_=>j7 rows.length lo hi/\K (.sl L.size (cut rows lo hi))
      | some m,some h=>m=h/\j7 rows.length lo hi/\K (.tight L.size (cut rows lo hi))
      | some _,none=>False
     | none=>False
   | none=>False
def zst (rows:Option (List (List C))) (k:Nat) (lo hi mx:Option Int) (K:C->Prop):Prop:=
 match rows with
    | some rows=>match mx,hi with
     | none,_=>j7 rows.length lo hi/\K (.sl k (cut rows lo hi))
     | some m,some h=>m=h/\j7 rows.length lo hi/\K (.tight k (cut rows lo hi))
     | some _,none=>False
    | none=>False
def zkv (rows:Option (List (List C))) (K:C->Prop):Prop:=match rows with | some rows=>∃ l,rows=J1 l/\K (.str l) | none=>False
theorem zkv.mk {rows:List (List C)} (l:Lz) (h:rows=J1 l) (hK:K (.str l)):zkv (some rows) K:=⟨l,h,hK⟩
def zsh (P:Program) (D S:Option Lay) (c:C) (K:C->Prop):Prop:=
 match D with
 | some ⟨.int k,_,_,_⟩=>match c with
  | .sc (.int _ n)=>match S with | some _=>inR k n/\K (.sc (.int k n)) | none=>False
  | _=>False
 | some ⟨.str,_,_,_⟩=>match S with
  | some ⟨.str,_,_,_⟩=>match c with
   | .str l=>K (.str l)
   | _=>False
  | some ⟨.slice e,_,_,_⟩=>match lay P e with
   | some ⟨.int .u8,_,_,_⟩=>match c.rows? 1 with
    | some rows=>∃ l,rows=J1 l/\K (.str l)
    | none=>False
   | _=>False
  | some ⟨.int _,_,_,_⟩=>match c with
   | .sc (.int _ n)=>K (.str (Utf8.encode n).data.toList)
   | _=>False
  | _=>False
 | some ⟨.slice e,_,_,_⟩=>match S,lay P e with
  | some ⟨.str,_,_,_⟩,some ⟨.int .u8,_,_,_⟩=>match c with
   | .str l=>((l.length:Nat):Int)<=9223372036854775807/\K (.sl 1 (J1 l))
   | _=>False
  | _,_=>False
 | _=>False
def zrl (L:Option Lay) (c:C) (K:C->Prop):Prop:=
 match L,c with
 | some ⟨.slice _,_,_,_⟩,.bs _ _ _ _ c=>K (.sc (.int .i64 (c:Int)))
 | some ⟨.slice _,_,_,_⟩,.sc (.slice none 0 0)=>K (.sc (.int .i64 0))
 | _,_=>False
def zru (L:Option Lay) (n:Int) (K:C->Prop):Prop:=match L with | some ⟨.slice _,_,_,_⟩=>K (.sc (.int .i64 n)) | _=>False
def zq4 (L:Option Lay) (n:Int) (K:C->Prop):Prop:=match L with | some ⟨.str,_,_,_⟩=>K (.sc (.int .i64 n)) | _=>False
def zr1 (L:Option Lay) (parts:List (Nat×C)) (K:C->Prop):Prop:=
 match L with
 | some ⟨.struct fs,_,_,some z⟩=>(parts.all fun p=>p.2.partB)=true/\match Y9 (fun i=>(fs[i]?).map fun f=>(f.1,f.2.1)) (z.map zD) parts with
  | some cs=>K (.agg cs)
  | none=>False
 | _=>False
def aFl (cs:Option (List C)) (K:C->Prop):Prop:=match cs with | some cs=>K (.agg cs) | none=>False
def plS (fs:List (Nat×Nat×Bool)) (i:Nat):Option (Nat×Nat):=(fs[i]?).map fun f=>(f.1,f.2.1)
def plA (k:Nat) (i:Nat):Option (Nat×Nat):=some (i*k,k)
def zke (pl:Option (Nat×Nat)) (place:Nat->Option (Nat×Nat)) (cs:List C) (c:List C) (rest:List (Nat×C)):Option (List C):=
 match pl with
  | none=>none
  | some (off,size)=>if c.length=size/\off+size<=cs.length then Y9 place (cs.take off++c++cs.drop (off+size)) rest else none
def zsU (P:Program) (L:Option Lay) (n:Nat) (parts:List (Nat×C)) (nx:Nat) (K:C->Nat->Prop):Prop:=
 match L with
 | some ⟨.slice e,_,_,_⟩=>match lay P e with
  | some ⟨_,k,_,some z⟩=>z.length=k/\0<k/\n*k<=16777216/\(parts.all fun p=>p.2.frz.partB)=true/\match Y9 (fun i=>some (i*k,k)) (List.replicate n (z.map zD)).flatten (parts.map fun p=>(p.1,p.2.frz)) with
   | some cs=>(cs.all C.cellB)=true/\cs.length=n*k/\K (.own nx e k (QG k n cs)) (nx+1)
   | none=>False
  | _=>False
 | _=>False
def zsP (L:Option Lay) (e:TypeId) (n:Nat) (parts:List (Nat×C)) (nx:Nat) (K:C->Nat->Prop):Prop:=
   match L with
    | some ⟨_,k,_,some z⟩=>z.length=k/\0<k/\n*k<=16777216/\(parts.all fun p=>p.2.frz.partB)=true/\match Y9 (fun i=>some (i*k,k)) (List.replicate n (z.map zD)).flatten (parts.map fun p=>(p.1,p.2.frz)) with
      | some cs=>(cs.all C.cellB)=true/\cs.length=n*k/\K (.own nx e k (QG k n cs)) (nx+1)
      | none=>False
    | _=>False
def zsi (cs:Option (List C)) (e k n nx:Nat) (K:C->Nat->Prop):Prop:=
 match cs with
   | some cs=>(cs.all C.cellB)=true/\cs.length=n*k/\K (.own nx e k (QG k n cs)) (nx+1)
   | none=>False
def zsV (P:Program) (L:Option Lay) (l c:C) (nx:Nat) (K:C->Nat->Prop):Prop:=
 match L,l,c with
 | some ⟨.slice e,_,_,_⟩,.sc (.int _ l),.sc (.int _ c)=>match lay P e with
  | some ⟨_,k,by',some z⟩=>z.length=k/\0<k/\(z.all Value.oneCell')=true/\0<=l/\l<=c/\(by':Int)*c<=281474976710656/\c<=9223372036854775807/\K (.own nx e k (List.replicate l.toNat (z.map zD))) (nx+1)
  | _=>False
 | _,_,_=>False
def zsl (L:Option Lay) (e:TypeId) (l c:Int) (nx:Nat) (K:C->Nat->Prop):Prop:=
 match L with
  | some ⟨_,k,by',some z⟩=>z.length=k/\0<k/\(z.all Value.oneCell')=true/\0<=l/\l<=c/\(by':Int)*c<=281474976710656/\c<=9223372036854775807/\K (.own nx e k (List.replicate l.toNat (z.map zD))) (nx+1)
  | _=>False
def zqU (P:Program) (L:Option Lay) (l c:C) (σ:St) (K:C->St->Prop):Prop:=
 match L,l,c with
 | some ⟨.slice e,_,_,_⟩,.sc (.int _ l),.sc (.int _ c)=>match lay P e with
  | some ⟨_,k,by',some z⟩=>z.length=k/\0<k/\(z.all Value.oneCell')=true/\0<=l/\l<=c/\(by':Int)*c<=281474976710656/\c<=9223372036854775807/\K (.bs σ.bx.length 0 k l.toNat c.toNat) ⟨σ.tm,σ.bx++[(List.replicate c.toNat (z.map zD)).flatten],σ.nx,σ.lg⟩
  | _=>False
 | _,_,_=>False
def zrg (L:Option Lay) (l c:Int) (σ:St) (K:C->St->Prop):Prop:=
 match L with
  | some ⟨_,k,by',some z⟩=>z.length=k/\0<k/\(z.all Value.oneCell')=true/\0<=l/\l<=c/\(by':Int)*c<=281474976710656/\c<=9223372036854775807/\K (.bs σ.bx.length 0 k l.toNat c.toNat) ⟨σ.tm,σ.bx++[(List.replicate c.toNat (z.map zD)).flatten],σ.nx,σ.lg⟩
  | _=>False
def zsk (P:Program) (L:Option Lay) (s x:C) (nx:Nat) (K:C->Nat->Prop):Prop:=
 match L with
 | some ⟨.slice e,_,_,_⟩=>match lay P e with
  | some ⟨_,k,by',some z⟩=>match x.rows? k with
   | some xs=>match s with
    | .sc (.slice none 0 0)=>z.length=k/\0<k/\xs.length<=9223372036854775807/\xs.length*by'<=140737488355328/\K (.own nx e k xs) (nx+1)
    | .tight k' rows=>k'=k/\z.length=k/\0<k/\rows.length+xs.length<=9223372036854775807/\(rows.length+xs.length)*by'<=140737488355328/\(xs = []->K (.tight k' rows) nx)/\(xs≠[]->K (.own nx e k (rows++xs)) (nx+1))
    | _=>False
   | none=>False
  | _=>False
 | _=>False
def zsG (L:Option Lay) (e:TypeId) (s x:C) (nx:Nat) (K:C->Nat->Prop):Prop:=
  match L with
  | some ⟨_,k,by',some z⟩=>match x.rows? k with
   | some xs=>match s with
    | .sc (.slice none 0 0)=>z.length=k/\0<k/\xs.length<=9223372036854775807/\xs.length*by'<=140737488355328/\K (.own nx e k xs) (nx+1)
    | .tight k' rows=>k'=k/\z.length=k/\0<k/\rows.length+xs.length<=9223372036854775807/\(rows.length+xs.length)*by'<=140737488355328/\(xs = []->K (.tight k' rows) nx)/\(xs≠[]->K (.own nx e k (rows++xs)) (nx+1))
    | _=>False
   | none=>False
  | _=>False
def zs4 (xs:Option (List (List C))) (s:C) (e k by':Nat) (z:List Value) (nx:Nat) (K:C->Nat->Prop):Prop:=
 match xs with
   | some xs=>match s with
    | .sc (.slice none 0 0)=>z.length=k/\0<k/\xs.length<=9223372036854775807/\xs.length*by'<=140737488355328/\K (.own nx e k xs) (nx+1)
    | .tight k' rows=>k'=k/\z.length=k/\0<k/\rows.length+xs.length<=9223372036854775807/\(rows.length+xs.length)*by'<=140737488355328/\(xs = []->K (.tight k' rows) nx)/\(xs≠[]->K (.own nx e k (rows++xs)) (nx+1))
    | _=>False
   | none=>False
def zss (P:Program) (L:Option Lay) (id e k:Nat) (rows:List (List C)) (x:C) (σ:St) (K:C->St->Prop):Prop:=
   match L with
    | some ⟨.slice e',_,_,_⟩=>match lay P e with
      | some ⟨_,k',by',some z⟩=>match x.rows? k with
        | some xs=>e'=e/\k'=k/\z.length=k/\0<k/\rows.length+xs.length<=9223372036854775807/\(rows.length+xs.length)*by'<=140737488355328/\K (.own id e k (rows++xs)) ⟨zay id σ.tm,xD id σ.bx,σ.nx,σ.lg⟩
        | none=>False
      | _=>False
    | _=>False
def zq1 (L:Option Lay) (e' id e k:Nat) (rows:List (List C)) (x:C) (σ:St) (K:C->St->Prop):Prop:=
  match L with
   | some ⟨_,k',by',some z⟩=>match x.rows? k with
    | some xs=>e'=e/\k'=k/\z.length=k/\0<k/\rows.length+xs.length<=9223372036854775807/\(rows.length+xs.length)*by'<=140737488355328/\K (.own id e k (rows++xs)) ⟨zay id σ.tm,xD id σ.bx,σ.nx,σ.lg⟩
    | none=>False
   | _=>False
def zrh (xs:Option (List (List C))) (by' id e k:Nat) (rows:List (List C)) (σ:St) (K:C->St->Prop):Prop:=
   match xs with
        | some xs=>rows.length+xs.length<=9223372036854775807/\(rows.length+xs.length)*by'<=140737488355328/\K (.own id e k (rows++xs)) ⟨zay id σ.tm,xD id σ.bx,σ.nx,σ.lg⟩
        | none=>False
def zsE (L:Option Lay) (σ:St) (K:C->St->Prop):Prop:=
 match L with
 | some ⟨_,_,_,some z⟩=>(z.all Value.oneCell')=true/\K (.ptr σ.bx.length 0) ⟨σ.tm,σ.bx++[z.map zD],σ.nx,σ.lg⟩
 | _=>False
def zso (L:Option Lay) (p c:C) (σ:St) (K:C->St->Prop):Prop:=
 match L,p with
 | some L,.ptr i off=>match σ.bx[i]? with
  | some cs=>c.partB=true/\(c.cells.all C.cellB)=true/\c.cells.length=L.size/\off+L.size<=cs.length/\K .any ⟨σ.tm,σ.bx.set i (cs.take off++c.cells++cs.drop (off+L.size)),σ.nx,σ.lg⟩
  | none=>False
 | _,_=>False
def zsz (cs:Option (List C)) (i off size:Nat) (c:C) (σ:St) (K:C->St->Prop):Prop:=
 match cs with
  | some cs=>c.partB=true/\(c.cells.all C.cellB)=true/\c.cells.length=size/\off+size<=cs.length/\K .any ⟨σ.tm,σ.bx.set i (cs.take off++c.cells++cs.drop (off+size)),σ.nx,σ.lg⟩
  | none=>False
def zc3 (cs:Option (List C)) (off n:Nat) (K:C->Prop):Prop:=match cs with
   | some cs=>∃ l:Lz,l.length=n/\(cs.drop off).take n=l.map (fun b=>C.sc (.int .u8 (b.toNat:Int)))/\K (.str l)
   | none=>False
theorem zc3.mk {K:C->Prop} (l:Lz) (hl:l.length=n) (h:(cs.drop off).take n=l.map (fun b=>C.sc (.int .u8 (b.toNat:Int)))) (hK:K (.str l)):zc3 (some cs) off n K:=⟨l,hl,h,hK⟩
def zsY (P:Program) (L:Option Lay) (n:Nat) (parts:List (Nat×C)) (σ:St) (K:C->St->Prop):Prop:=
 match L with
 | some ⟨.slice e,_,_,_⟩=>match lay P e with
  | some ⟨_,k,_,some z⟩=>z.length=k/\0<k/\n*k<=16777216/\(parts.all fun p=>p.2.frz.partB)=true/\match Y9 (fun i=>some (i*k,k)) (List.replicate n (z.map zD)).flatten (parts.map fun p=>(p.1,p.2.frz)) with
   | some cs=>(cs.all C.cellB)=true/\cs.length=n*k/\K (.bs σ.bx.length 0 k n n) ⟨σ.tm,σ.bx++[cs],σ.nx,σ.lg⟩
   | none=>False
  | _=>False
 | _=>False
def zsn (L:Option Lay) (n:Nat) (parts:List (Nat×C)) (σ:St) (K:C->St->Prop):Prop:=
   match L with
    | some ⟨_,k,_,some z⟩=>z.length=k/\0<k/\n*k<=16777216/\(parts.all fun p=>p.2.frz.partB)=true/\match Y9 (fun i=>some (i*k,k)) (List.replicate n (z.map zD)).flatten (parts.map fun p=>(p.1,p.2.frz)) with
      | some cs=>(cs.all C.cellB)=true/\cs.length=n*k/\K (.bs σ.bx.length 0 k n n) ⟨σ.tm,σ.bx++[cs],σ.nx,σ.lg⟩
      | none=>False
    | _=>False
def zsQ (cs:Option (List C)) (k n:Nat) (σ:St) (K:C->St->Prop):Prop:=
 match cs with
   | some cs=>(cs.all C.cellB)=true/\cs.length=n*k/\K (.bs σ.bx.length 0 k n n) ⟨σ.tm,σ.bx++[cs],σ.nx,σ.lg⟩
   | none=>False
def zsM (P:Program) (L:Option Lay) (p:Nat) (s x:C) (σ:St) (K:C->St->Prop):Prop:=
 match L with
 | some ⟨.slice e,_,_,_⟩=>match lay P e with
  | some ⟨_,k,by',some z⟩=>match x.xs? k σ.bx with
   | some (m,xs)=>z.length=k/\0<k/\(z.all Value.oneCell')=true/\0<m/\match s with
    | .sc (.slice none 0 0)=>m<=9223372036854775807/\m*by'<=140737488355328/\∀ c,m<=c->c<=maxLen->K (.bs σ.bx.length 0 k m c) ⟨σ.tm,σ.bx++[xs++List.replicate ((c-m)*k) .any],σ.nx,σ.lg⟩
    | .bs i 0 k' n c=>match σ.bx[i]? with
     | some cs=>k'=k/\p<=i/\cs.length=c*k/\n<=c/\c<=9223372036854775807/\n+m<=9223372036854775807/\(n+m)*by'<=140737488355328 /\
       ∀ c',n+m<=c'->c'<=maxLen->K (.bs i 0 k (n+m) c') ⟨HF (J5 i) some σ.tm,Zo i (C.reL (J5 i) some (cs.take (n*k)++xs)++List.replicate ((c'-(n+m))*k) .any) σ.bx,σ.nx,σ.lg⟩
     | none=>False
    | _=>False
   | none=>False
  | _=>False
 | _=>False
def zsr (L:Option Lay) (p:Nat) (s x:C) (σ:St) (K:C->St->Prop):Prop:=
  match L with
  | some ⟨_,k,by',some z⟩=>match x.xs? k σ.bx with
   | some (m,xs)=>z.length=k/\0<k/\(z.all Value.oneCell')=true/\0<m/\match s with
    | .sc (.slice none 0 0)=>m<=9223372036854775807/\m*by'<=140737488355328/\∀ c,m<=c->c<=maxLen->K (.bs σ.bx.length 0 k m c) ⟨σ.tm,σ.bx++[xs++List.replicate ((c-m)*k) .any],σ.nx,σ.lg⟩
    | .bs i 0 k' n c=>match σ.bx[i]? with
     | some cs=>k'=k/\p<=i/\cs.length=c*k/\n<=c/\c<=9223372036854775807/\n+m<=9223372036854775807/\(n+m)*by'<=140737488355328 /\
       ∀ c',n+m<=c'->c'<=maxLen->K (.bs i 0 k (n+m) c') ⟨HF (J5 i) some σ.tm,Zo i (C.reL (J5 i) some (cs.take (n*k)++xs)++List.replicate ((c'-(n+m))*k) .any) σ.bx,σ.nx,σ.lg⟩
     | none=>False
    | _=>False
   | none=>False
  | _=>False
def zsf (X:Option (Nat×List C)) (p k by':Nat) (z:List Value) (s:C) (σ:St) (K:C->St->Prop):Prop:=
  match X with
   | some (m,xs)=>z.length=k/\0<k/\(z.all Value.oneCell')=true/\0<m/\match s with
    | .sc (.slice none 0 0)=>m<=9223372036854775807/\m*by'<=140737488355328/\∀ c,m<=c->c<=maxLen->K (.bs σ.bx.length 0 k m c) ⟨σ.tm,σ.bx++[xs++List.replicate ((c-m)*k) .any],σ.nx,σ.lg⟩
    | .bs i 0 k' n c=>match σ.bx[i]? with
     | some cs=>k'=k/\p<=i/\cs.length=c*k/\n<=c/\c<=9223372036854775807/\n+m<=9223372036854775807/\(n+m)*by'<=140737488355328 /\
       ∀ c',n+m<=c'->c'<=maxLen->K (.bs i 0 k (n+m) c') ⟨HF (J5 i) some σ.tm,Zo i (C.reL (J5 i) some (cs.take (n*k)++xs)++List.replicate ((c'-(n+m))*k) .any) σ.bx,σ.nx,σ.lg⟩
     | none=>False
    | _=>False
   | none=>False
def bsO (j:Option Nat) (off k n c:Nat):C:=match j with | some j=>.bs j off k n c | none=>.any
def xsB (k' k off n:Nat) (cs:Option (List C)):Option (Nat×List C):=if k'=k then cs.bind fun cs=>if off+n*k<=cs.length then some (n,(cs.drop off).take (n*k)) else none else none
def zqA (j:Option Nat) (e k:Nat) (rows:List (List C)):C:=match j with | some j=>.own j e k rows | none=>.sl k rows
def zq3 (cs:Option (List C)) (off:Nat):C:=match cs with | some cs=>.row ((C.frzL cs).drop off) | none=>.any
def znI (j:Option Nat) (off:Nat):C:=match j with | some j=>.ptr j off | none=>.any
def zkV (cs:Option (List C)) (p:Option Tmp) (σ:St) (K:St->Prop):Prop:=match cs,p with
  | some cs,some p=>K ⟨(p,.ptr σ.bx.length 0) :: σ.tm,σ.bx++[cs],σ.nx,σ.lg⟩
  | _,_=>False
def zsu (M:Option (MKd×C)) (t:TypeId) (r:Option C) (nx:Nat) (K:C->Nat->Prop):Prop:=
 match M with
 | some (kd,_)=>match r with
  | none=>K (.mo nx t kd.nil []) (nx+1)
  | some (.sc (.int _ _))=>K (.mo nx t kd.nil []) (nx+1)
  | _=>False
 | none=>False
def zsm (M:Option (MKd×C)) (t:TypeId) (m key:C) (ok:Bool) (K:C->Prop):Prop:=
 match M with
 | some (.int k,z)=>match m,key with
  | .mo _ t' (.int k' l) vs,.sc (.int q n)=>t'=t/\k'=k/\q=k/\HU (zi5 n l vs) z ok K
  | _,_=>False
 | some (.str,z)=>match m,key with
  | .mo _ t' (.str l) vs,.str s=>t'=t/\HU (zi5 s l vs) z ok K
  | _,_=>False
 | none=>False
def zsp (M:Option (MKd×C)) (t:TypeId) (m key x:C) (σ:St) (K:C->St->Prop):Prop:=
 match M with
 | some (.int k,_)=>match m,key with
  | .mo id t' (.int k' l) vs,.sc (.int q n)=>t'=t/\k'=k/\q=k/\GH id (.int k (Hl n x.frz l vs).1) (Hl n x.frz l vs).2 σ K
  | _,_=>False
 | some (.str,_)=>match m,key with
  | .mo id t' (.str l) vs,.str s=>t'=t/\GH id (.str (Hl s x.frz l vs).1) (Hl s x.frz l vs).2 σ K
  | _,_=>False
 | none=>False
def zr4 (x:Option (List C)):C:=match x with | some cs=>.row cs | none=>.any
structure Tag.{u} {α:Sort u} (a:α):Type where
def znL (M:Option (MKd×C)) (t:TypeId) (r:Option C) (nx:Nat) (K:C->Nat->Prop) (_:Tag K):Prop:=zsu M t r nx K
def zqh (M:Option (MKd×C)) (t:TypeId) (m key:C) (ok:Bool) (K:C->Prop) (_:Tag K):Prop:=zsm M t m key ok K
def zfp (r:Option C) (z:C) (ok:Bool) (K:C->Prop) (_:Tag K):Prop:=HU r z ok K
def zoU (M:Option (MKd×C)) (t:TypeId) (m key x:C) (σ:St) (K:C->St->Prop) (_:Tag K):Prop:=zsp M t m key x σ K
def zcQ (sz i off k n cap:Nat) (lo hi mx:Option Int) (K:C->Prop) (_:Tag K):Prop:=znf sz i off k n cap lo hi mx K
def xS (P:Program) (t:TypeId) (s x:C) (σ:St) (K:C->St->Prop) (_:Tag K):Prop:=YA P t s x σ K
def zak (P:Program) (t tn:TypeId) (s x:C) (σ:St) (K:C->St->Prop) (_:Tag K):Prop:=Gn P t tn s x σ K
def MJ (P:Program) (t:TypeId) (d x:C) (σ:St) (K:C->St->Prop) (_:Tag K):Prop:=QX P t d x σ K
def vQ (P:Program) (t:TypeId) (x:C) (σ:St) (K:C->St->Prop) (_:Tag K):Prop:=U4 P t x σ K
def zpT (x y:C) (K:C->Prop) (_:Tag K):Prop:=zpq x y K
def zpP (P:Program) (t:TypeId) (c:C) (K:C->Prop) (_:Tag K):Prop:=zoe P t c K
def zdP (L:Option Lay) (c:C) (K:C->Prop) (_:Tag K):Prop:=zrl L c K
def zeR (P:Program) (bx:List (List C)) (s d:TypeId) (c:C) (K:C->Prop) (_:Tag K):Prop:=u6 P bx s d c K
def H6 (P:Program) (t:TypeId) (n:Nat) (parts:List (Nat×C)) (σ:St) (K:C->St->Prop) (_:Tag K):Prop:=ZU P t n parts σ K
def zp8 (P:Program) (L:Option Lay) (n:Nat) (parts:List (Nat×C)) (σ:St) (K:C->St->Prop) (_:Tag K):Prop:=zsY P L n parts σ K
def znP (L:Option Lay) (n:Nat) (parts:List (Nat×C)) (σ:St) (K:C->St->Prop) (_:Tag K):Prop:=zsn L n parts σ K
def znY (cs:Option (List C)) (k n:Nat) (σ:St) (K:C->St->Prop) (_:Tag K):Prop:=zsQ cs k n σ K
def zag (P:Program) (p:Nat) (t:TypeId) (s x:C) (σ:St) (K:C->St->Prop) (_:Tag K):Prop:=U5 P p t s x σ K
def znK (P:Program) (L:Option Lay) (p:Nat) (s x:C) (σ:St) (K:C->St->Prop) (_:Tag K):Prop:=zsM P L p s x σ K
def zos (L:Option Lay) (p:Nat) (s x:C) (σ:St) (K:C->St->Prop) (_:Tag K):Prop:=zsr L p s x σ K
def zpC (X:Option (Nat×List C)) (p k by':Nat) (z:List Value) (s:C) (σ:St) (K:C->St->Prop) (_:Tag K):Prop:=zsf X p k by' z s σ K
def zm8 (c:C) (X Y:Prop) (_:Tag X) (_:Tag Y):Prop:=ABr c X Y
def zhW (c:C) (U X Y:Prop) (_:Tag U) (_:Tag X) (_:Tag Y):Prop:=zkg c U X Y
def Xr (ops:Array Oper) (tm:List (Nat×C)) (g:Option (Nat×Bool)) (X Y:Prop) (_:Tag ops) (_:Tag X) (_:Tag Y):Prop:=jz ops tm g X Y
def zqZ (d:Option Tmp) (tm:List (Nat×C)) (want:Bool) (X Y:Prop) (_:Tag X) (_:Tag Y):Prop:=aGd d tm want X Y
def Ve (P:Program) (G:zr) (h:Hd) (c:Code) (Q:Exit->St->Prop) (σ:St) (_:Tag c) (_:Tag Q):Prop:=awp P G h c Q σ
def zf3 (P:Program) (G:zr) (h:Hd) (ops:Array Oper) (l:List Oper) (σ:St) (K:St->Prop) (_:Tag h) (_:Tag ops) (_:Tag l) (_:Tag K):Prop:=zod P G h ops l σ K
def XH (P:Program) (G:zr) (h:Hd) (ops:Array Oper) (l:List Oper) (br:List Bool) (σ:St) (K:St->Prop) (_:Tag h) (_:Tag ops) (_:Tag l) (_:Tag K):Prop:=Zt P G h ops l br σ K
def M2 (P:Program) (G:zr) (h:Hd) (ops:Array Oper) (br:List Bool) (σ:St) (K:St->Prop) (_:Tag h) (_:Tag ops) (_:Tag K):Prop:=Mg P G h ops br σ K
def znw (P:Program) (G:zr) (Y:Hd) (ops:Array Oper) (rest:List (Nat×MFl)) (q:Nat) (H:List k7) (fl:MFl) (oo:Option Oper) (σ:St) (K:St->Prop):Prop:=match oo with
 | none=>False
 | some o=>match fl with
  | .pure=>jz ops σ.tm o.guard (Ju P G σ.bx (zC G σ.tm) o.op σ.nx fun c nx'=>mix P G Y ops rest (q+1) ((q,fun b=>Ju P G b (zC G σ.tm) o.op σ.nx fun c' n'=>c'=c/\n'=nx') :: H) ⟨Jz σ.tm o.dst c,σ.bx,nx',σ.lg⟩ K)
    (mix P G Y ops rest (q+1) H ⟨Jz σ.tm o.dst (.sc undef),σ.bx,σ.nx,σ.lg⟩ K)
  | .bar=>jz ops σ.tm o.guard (Nu P G Y o.op σ fun c σ'=>mix P G Y ops rest (q+1) [] (σ'.put o.dst c) K) (mix P G Y ops rest (q+1) [] (σ.put o.dst (.sc undef)) K)
  | .flt fr=>o.guard=none/\zqi P G o.op σ fun c bx' nx'=>Y1 fr bx' H/\mix P G Y ops rest (q+1) H ⟨Jz σ.tm o.dst c,bx',nx',σ.lg⟩ K
def Hc (P:Program) (G:zr) (h:Hd) (ops:Array Oper) (all:List Oper) (L:List (Nat×MFl)) (q:Nat) (H:List k7) (σ:St) (K:St->Prop) (_:Tag h) (_:Tag ops) (_:Tag all) (_:Tag H) (_:Tag K):Prop:=mix P G h ops L q H σ K
def M9 (P:Program) (G:zr) (h:Hd) (ops:Array Oper) (all:List Oper) (L:List (Nat×MFl)) (q:Nat) (H:List k7) (fl:MFl) (i:Nat) (l:List Oper) (σ:St) (K:St->Prop) (_:Tag h) (_:Tag ops) (_:Tag all) (_:Tag H) (_:Tag l) (_:Tag K):Prop:=znw P G h ops L q H fl (l[i]?) σ K
def znA (fr:List Nat) (b:List (List C)) (H:List k7) (_:Tag H):Prop:=Y1 fr b H
def zgK (P:Program) (G:zr) (f:C) (args:List C) (σ:St) (K:C->List (List C)->Nat->Prop) (_:Tag K):Prop:=zac P G f args σ K
def zr7 (P:Program) (G:zr) (f:FuncId) (args:List C) (σ:St) (K:C->List (List C)->Nat->Prop) (_:Tag K):Prop:=zkL P G f args σ K
def Xq (P:Program) (G:zr) (ops:Array Oper) (a s:Nat) (l:List Oper) (i:Nat) (cs:Option (List C)) (σ:St) (K:St->Prop) (_:Tag ops) (_:Tag l) (_:Tag K):Prop:=jC P G ops a s l i cs σ K
def zkw (cs:Option (List C)) (p:Option Tmp) (σ:St) (K:St->Prop) (_:Tag K):Prop:=zkV cs p σ K
def zkM (L:Option Lay) (K:Prop) (_:Tag K):Prop:=zhy L K
def zkD (L:Option Lay) (c:C) (K:C->Prop) (_:Tag K):Prop:=zhh L c K
def jH (P:Program) (G:zr) (h:Hd) (op:Op) (σ:St) (K:C->St->Prop) (_:Tag h) (_:Tag op) (_:Tag K):Prop:=Nu P G h op σ K
def QQ (P:Program) (G:zr) (f:FuncId) (args fargs:List C) (σ:St) (K:C->St->Prop) (_:Tag K):Prop:=zqk P G f args fargs σ K
def y6 (P:Program) (G:zr) (h:Hd) (c:C) (args:List C) (σ:St) (K:C->St->Prop) (_:Tag h) (_:Tag K):Prop:=NT P G h c args σ K
def uK (y:Yd) (it:Option (List C)) (args:List C) (σ:St) (K:C->St->Prop) (_:Tag y) (_:Tag K):Prop:=Gi y it args σ K
def zdJ (P:Program) (G:zr) (p:Nat) (A B:Nat->(Exit->St->Prop)->St->Prop) (Q:Exit->St->Prop) (ps:List Tmp) (c:C) (σ:St) (_:Tag A) (_:Tag B) (_:Tag Q):Prop:=zao P G p A B Q ps c σ
def jD (P:Program) (G:zr) (bx:List (List C)) (ev:Operand->C) (op:Op) (nx:Nat) (K:C->Nat->Prop) (_:Tag ev) (_:Tag op) (_:Tag K):Prop:=Ju P G bx ev op nx K
def zbb (P:Program) (σ:St) (rs:List ResultVar) (K:C->Prop) (_:Tag K):Prop:=znH P σ rs K
def Yx (P:Program) (σ:St) (rv:ResultVar) (K:C->Prop) (_:Tag K):Prop:=JW P σ rv K
def yQ (P:Program) (t:TypeId) (op:BinOp) (x y:C) (K:C->Prop) (_:Tag K):Prop:=znz P t op x y K
def Hk (op:BinOp) (k:IntKind) (a b:Int) (K:C->Prop) (_:Tag K):Prop:=zqy op k a b K
def vY (l:Option Lay) (op:BinOp) (x:C) (K:C->Prop) (_:Tag K):Prop:=zlZ l op x K
def zgM (op:BinOp) (b:Bool) (K:C->Prop) (_:Tag K):Prop:=Nn op b K
def zfi (op:BinOp) (a b:Lz) (K:C->Prop) (_:Tag K):Prop:=zqJ op a b K
def zmY (op:BinOp) (ks:Option (List LK)) (xs ys:List C) (K:C->Prop) (_:Tag K):Prop:=zrN op ks xs ys K
def zgV (n:Bool) (ks:List LK) (xs ys:List C) (e:Bool) (K:C->Prop) (_:Tag K):Prop:=aEq n ks xs ys e K
def zqN (op:UnOp) (x:C) (K:C->Prop) (_:Tag K):Prop:=aUn op x K
def zae (P:Program) (t:TypeId) (c:C) (bx:List (List C)) (K:C->Prop) (_:Tag K):Prop:=vL P t c bx K
def y7 (L:Option Lay) (c:C) (bx:List (List C)) (K:C->Prop) (_:Tag K):Prop:=zn8 L c bx K
def zf6 (cs:Option (List C)) (off:Nat) (L:Lay) (K:C->Prop) (_:Tag K):Prop:=zoK cs off L K
def V9 (L:Lay) (cs:List C) (K:C->Prop) (_:Tag K):Prop:=Yn L cs K
def zlx (x:Option C) (K:C->Prop) (_:Tag K):Prop:=zrR x K
def kE (c:C) (i:Nat) (K:C->Prop) (_:Tag K):Prop:=Uk c i K
def zmE (c:C) (K:C->Prop) (_:Tag K):Prop:=zqx c K
def vN (P:Program) (t:TypeId) (c:C) (f:Nat) (K:C->Prop) (_:Tag K):Prop:=zaw P t c f K
def uB (L:Option Lay) (c:C) (f:Nat) (K:C->Prop) (_:Tag K):Prop:=vp L c f K
def uA (f:Option (Nat×Nat×Bool)) (cs:List C) (K:C->Prop) (_:Tag K):Prop:=U6 f cs K
def QU (P:Program) (t:TypeId) (c:C) (f:Nat) (K:C->Prop) (_:Tag K):Prop:=Qq P t c f K
def zpJ (L:Option Lay) (c:C) (f:Nat) (K:C->Prop) (_:Tag K):Prop:=zsI L c f K
def zlQ (f:Option (Nat×Nat×Bool)) (c:C) (K:C->Prop) (_:Tag K):Prop:=zqm f c K
def QO (P:Program) (t:TypeId) (c:C) (i:C) (K:C->Prop) (_:Tag K):Prop:=Ql P t c i K
def zm5 (P:Program) (L:Option Lay) (c:C) (i:C) (K:C->Prop) (_:Tag K):Prop:=zs5 P L c i K
def ziP (L:Option Lay) (c:C) (n:Int) (K:C->Prop) (_:Tag K):Prop:=zsD L c n K
def zms (rows:Option (List (List C))) (n:Int) (K:C->Prop) (_:Tag K):Prop:=zsX rows n K
def zr8 (r:Option (List C)) (n:Int) (K:C->Prop) (_:Tag K):Prop:=aAt r n K
def zqw (L:Option Lay) (c:C) (m:Nat) (n:Int) (K:C->Prop) (_:Tag K):Prop:=zsT L c m n K
def yC (P:Program) (t:TypeId) (c i:C) (K:C->Prop) (_:Tag K):Prop:=zaq P t c i K
def zoF (L:Option Lay) (c i:C) (K:C->Prop) (_:Tag K):Prop:=zrW L c i K
def zkr (b:Option UInt8) (n:Int) (K:C->Prop) (_:Tag K):Prop:=znd b n K
def xR (P:Program) (t:TypeId) (c:C) (lo hi mx:Option C) (K:C->Prop) (_:Tag K):Prop:=uq P t c lo hi mx K
def zpm (P:Program) (t:TypeId) (c:C) (lo hi mx:Option (Option Int)) (K:C->Prop) (_:Tag K):Prop:=zsF P t c lo hi mx K
def zk2 (P:Program) (L:Option Lay) (c:C) (lo hi mx:Option Int) (K:C->Prop) (_:Tag K):Prop:=zr2 P L c lo hi mx K
def zfv (L:Option Lay) (c:C) (lo hi mx:Option Int) (K:C->Prop) (_:Tag K):Prop:=zsK L c lo hi mx K
def zp0 (k:Nat) (lo hi mx:Option Int) (K:C->Prop) (_:Tag K):Prop:=zn0 k lo hi mx K
def zg7 (rows:Option (List (List C))) (k:Nat) (lo hi mx:Option Int) (K:C->Prop) (_:Tag K):Prop:=zst rows k lo hi mx K
def zkn (P:Program) (s d:TypeId) (c:C) (K:C->Prop) (_:Tag K):Prop:=zhm P s d c K
def zmv (P:Program) (D S:Option Lay) (c:C) (K:C->Prop) (_:Tag K):Prop:=zsh P D S c K
def xT (P:Program) (t:TypeId) (c:C) (K:C->Prop) (_:Tag K):Prop:=zn5 P t c K
def M4 (L:Option Lay) (n:Int) (K:C->Prop) (_:Tag K):Prop:=zru L n K
def zks (L:Option Lay) (n:Int) (K:C->Prop) (_:Tag K):Prop:=zq4 L n K
def vf (P:Program) (t:TypeId) (parts:List (Nat×C)) (K:C->Prop) (_:Tag K):Prop:=uD P t parts K
def zpM (L:Option Lay) (parts:List (Nat×C)) (K:C->Prop) (_:Tag K):Prop:=zr1 L parts K
def zsd (cs:Option (List C)) (K:C->Prop) (_:Tag K):Prop:=aFl cs K
def Qd (P:Program) (t:TypeId) (n:Nat) (parts:List (Nat×C)) (nx:Nat) (K:C->Nat->Prop) (_:Tag K):Prop:=Ym P t n parts nx K
def uh (P:Program) (t:TypeId) (n:Nat) (parts:List (Nat×C)) (nx:Nat) (K:C->Nat->Prop) (_:Tag K):Prop:=Gk P t n parts nx K
def zqj (P:Program) (L:Option Lay) (n:Nat) (parts:List (Nat×C)) (nx:Nat) (K:C->Nat->Prop) (_:Tag K):Prop:=zsU P L n parts nx K
def zqu (L:Option Lay) (e:TypeId) (n:Nat) (parts:List (Nat×C)) (nx:Nat) (K:C->Nat->Prop) (_:Tag K):Prop:=zsP L e n parts nx K
def zpc (cs:Option (List C)) (e k n nx:Nat) (K:C->Nat->Prop) (_:Tag K):Prop:=zsi cs e k n nx K
def zkE (P:Program) (t:TypeId) (l c:C) (nx:Nat) (K:C->Nat->Prop) (_:Tag K):Prop:=zgm P t l c nx K
def MT (P:Program) (t:TypeId) (l c:C) (σ:St) (K:C->St->Prop) (_:Tag K):Prop:=Ul P t l c σ K
def zkJ (P:Program) (L:Option Lay) (l c:C) (σ:St) (K:C->St->Prop) (_:Tag K):Prop:=zqU P L l c σ K
def zkk (L:Option Lay) (l c:Int) (σ:St) (K:C->St->Prop) (_:Tag K):Prop:=zrg L l c σ K
def zp9 (P:Program) (L:Option Lay) (l c:C) (nx:Nat) (K:C->Nat->Prop) (_:Tag K):Prop:=zsV P L l c nx K
def znR (L:Option Lay) (e:TypeId) (l c:Int) (nx:Nat) (K:C->Nat->Prop) (_:Tag K):Prop:=zsl L e l c nx K
def ug (P:Program) (t:TypeId) (s x:C) (σ:St) (K:C->St->Prop) (_:Tag K):Prop:=Nm P t s x σ K
def zal (P:Program) (t:TypeId) (s x:C) (nx:Nat) (K:C->Nat->Prop) (_:Tag K):Prop:=Vr P t s x nx K
def zqt (P:Program) (L:Option Lay) (s x:C) (nx:Nat) (K:C->Nat->Prop) (_:Tag K):Prop:=zsk P L s x nx K
def zpE (L:Option Lay) (e:TypeId) (s x:C) (nx:Nat) (K:C->Nat->Prop) (_:Tag K):Prop:=zsG L e s x nx K
def zpK (xs:Option (List (List C))) (s:C) (e k by':Nat) (z:List Value) (nx:Nat) (K:C->Nat->Prop) (_:Tag K):Prop:=zs4 xs s e k by' z nx K
def zoS (P:Program) (L:Option Lay) (id e k:Nat) (rows:List (List C)) (x:C) (σ:St) (K:C->St->Prop) (_:Tag K):Prop:=zss P L id e k rows x σ K
def zpQ (L:Option Lay) (e' id e k:Nat) (rows:List (List C)) (x:C) (σ:St) (K:C->St->Prop) (_:Tag K):Prop:=zq1 L e' id e k rows x σ K
def zpa (xs:Option (List (List C))) (by' id e k:Nat) (rows:List (List C)) (σ:St) (K:C->St->Prop) (_:Tag K):Prop:=zrh xs by' id e k rows σ K
def zec (P:Program) (G:zr) (callee:C) (args:List C) (nx:Nat) (K:C->Nat->Prop) (_:Tag K):Prop:=xl P G callee args nx K
def yV (P:Program) (G:zr) (f:FuncId) (args:List C) (nx:Nat) (K:C->Nat->Prop) (_:Tag K):Prop:=uk P G f args nx K
def zpD (c:C) (σ:St) (K:C->St->Prop) (_:Tag K):Prop:=zrV c σ K
def zpW (L:Option Lay) (σ:St) (K:C->St->Prop) (_:Tag K):Prop:=zsE L σ K
def zoq (L:Option Lay) (p c:C) (σ:St) (K:C->St->Prop) (_:Tag K):Prop:=zso L p c σ K
def zpx (cs:Option (List C)) (i off size:Nat) (c:C) (σ:St) (K:C->St->Prop) (_:Tag K):Prop:=zsz cs i off size c σ K
def zkp (p:Nat) (B:(Exit->St->Prop)->St->Prop) (Q:Exit->St->Prop) (σ:St) (_:Tag B) (_:Tag Q):Prop:=zhD p B Q σ
def zaj (next:St->Prop) (Q:Exit->St->Prop) (_:Tag next) (_:Tag Q):Exit->St->Prop:=zoW next Q
def US (id:Nat) (Q:Exit->St->Prop) (_:Tag Q):Exit->St->Prop:=MW id Q
def Gl (Q:Exit->St->Prop) (_:Tag Q):Exit->St->Prop:=zfO Q
def ua (next:St->Prop) (Q:Exit->St->Prop) (_:Tag next) (_:Tag Q):Exit->St->Prop:=zkP next Q
def zkf (K:St->Prop) (_:Tag K):Exit->St->Prop:=zmS K
def xL (m:Nat) (tm:List (Nat×C)) (st:Bool) (next:St) (Q:Exit->St->Prop) (_:Tag next) (_:Tag Q):Exit->St->Prop:=zfa m tm st next Q
def xj (P:Program) (rs:List ResultVar) (K:C->St->Prop) (_:Tag K):Exit->St->Prop:=zkd P rs K
theorem zo1:Ve P G h .skip Q σ ⟨⟩ ⟨⟩=Q .normal σ:=(rfl)
theorem zmX {l:Nat}:Ve P G h (.label l) Q σ ⟨⟩ ⟨⟩=Q .normal σ:=(rfl)
theorem zot {id:Nat}:Ve P G h (.exit id) Q σ ⟨⟩ ⟨⟩=Q (.exit id) σ:=(rfl)
theorem zrs:Ve P G h .ret Q σ ⟨⟩ ⟨⟩=Q .ret σ:=(rfl)
theorem zqK {a b:Code}:Ve P G h (.seq a b) Q σ ⟨⟩ ⟨⟩=Ve P G h a (zaj (fun σ=>Ve P G h b Q σ ⟨⟩ ⟨⟩) Q ⟨⟩ ⟨⟩) σ ⟨⟩ ⟨⟩:=(rfl)
theorem zqo {cc:Operand} {a b:Code}:Ve P G h (.cond cc a b) Q ⟨tm,bx,nx,lg⟩ ⟨⟩ ⟨⟩=zm8 (zC G tm cc) (Ve P G h a Q ⟨tm,bx,nx,lg⟩ ⟨⟩ ⟨⟩) (Ve P G h b Q ⟨tm,bx,nx,lg⟩ ⟨⟩ ⟨⟩) ⟨⟩ ⟨⟩:=(rfl)
theorem zlI {id:Nat} {a:Code}:Ve P G h (.block id a) Q σ ⟨⟩ ⟨⟩=Ve P G h a (US id Q ⟨⟩) σ ⟨⟩ ⟨⟩:=(rfl)
theorem zpe {a:Code}:Ve P G ⟨p,yd,bf⟩ (.loop a) Q σ ⟨⟩ ⟨⟩=zkp p (fun Q σ=>Ve P G ⟨p,yd,bf⟩ a Q σ ⟨⟩ ⟨⟩) Q σ ⟨⟩ ⟨⟩:=(rfl)
theorem zic {a b:Code} {x:Operand} {ps:List Tmp}:Ve P G ⟨p,yd,bf⟩ (.rangeFunc x ps.toArray a b) Q ⟨tm,bx,nx,lg⟩ ⟨⟩ ⟨⟩=zdJ P G p (fun m=>fun Q σ=>Ve P G ⟨m,yd,bf⟩ a Q σ ⟨⟩ ⟨⟩) (fun m=>fun Q σ=>Ve P G ⟨m,yd,bf⟩ b Q σ ⟨⟩ ⟨⟩) Q ps (zC G tm x) ⟨tm,bx,nx,lg⟩ ⟨⟩ ⟨⟩ ⟨⟩:=(rfl)
theorem zmi {a:Code}:Ve P G h (.scope a) Q σ ⟨⟩ ⟨⟩=Ve P G h a (Gl Q ⟨⟩) σ ⟨⟩ ⟨⟩:=(rfl)
theorem zij {id:Nat} {l:List Oper}:Ve P G ⟨p,yd,bf⟩ (.region id l.toArray false) Q σ ⟨⟩ ⟨⟩=zf3 P G ⟨p,yd,bf⟩ l.toArray l σ (Q .normal) ⟨⟩ ⟨⟩ ⟨⟩ ⟨⟩:=(rfl)
theorem zez {id:Nat} {l:List Oper}:Ve P G ⟨p,yd,bf⟩ (.region id l.toArray true) Q σ ⟨⟩ ⟨⟩=M2 P G ⟨p,yd,bf⟩ l.toArray (bf id) σ (Q .normal) ⟨⟩ ⟨⟩ ⟨⟩:=(rfl)
theorem zj1 {l:List Oper}:M2 P G h l.toArray [] σ KS ⟨⟩ ⟨⟩ ⟨⟩=XH P G h l.toArray l [] σ KS ⟨⟩ ⟨⟩ ⟨⟩ ⟨⟩:=(rfl)
theorem zjN {l:List Oper} {r:List Bool}:M2 P G h l.toArray (false :: r) σ KS ⟨⟩ ⟨⟩ ⟨⟩=XH P G h l.toArray l (false :: r) σ KS ⟨⟩ ⟨⟩ ⟨⟩ ⟨⟩:=(rfl)
theorem zjh {l:List Oper} {L:List (Nat×MFl)}:M2 P G h l.toArray (QW L) σ KS ⟨⟩ ⟨⟩ ⟨⟩=Hc P G h l.toArray l L 0 [] σ KS ⟨⟩ ⟨⟩ ⟨⟩ ⟨⟩ ⟨⟩:=(show Mg P G h l.toArray (QW L) σ KS=mix P G h l.toArray L 0 [] σ KS from by
 unfold Mg QW;rw[show HY (zdz 199 (unR (zcO L)))=none from rfl,Hq];simp only[zbl])
theorem zqq {all:List Oper}:Hc P G h ops all [] q H σ KS ⟨⟩ ⟨⟩ ⟨⟩ ⟨⟩ ⟨⟩=KS σ:=(rfl)
theorem znZ {all:List Oper} {fl:MFl} {L:List (Nat×MFl)}:Hc P G h all.toArray all ((i,fl) :: L) q H σ KS ⟨⟩ ⟨⟩ ⟨⟩ ⟨⟩ ⟨⟩=M9 P G h all.toArray all L q H fl i all σ KS ⟨⟩ ⟨⟩ ⟨⟩ ⟨⟩ ⟨⟩ ⟨⟩:=(show mix P G h all.toArray ((i,fl) :: L) q H σ KS=znw P G h all.toArray L q H fl (all[i]?) σ KS from rfl)
theorem zpv {o:Oper} {all l:List Oper} {fl:MFl} {L:List (Nat×MFl)}:M9 P G h ops all L q H fl (i+1) (o :: l) σ KS ⟨⟩ ⟨⟩ ⟨⟩ ⟨⟩ ⟨⟩ ⟨⟩=M9 P G h ops all L q H fl i l σ KS ⟨⟩ ⟨⟩ ⟨⟩ ⟨⟩ ⟨⟩ ⟨⟩:=(show znw P G h ops L q H fl ((o :: l)[i+1]?) σ KS=znw P G h ops L q H fl (l[i]?) σ KS from rfl)
theorem zp3 {all:List Oper} {L:List (Nat×MFl)} {op:Op}:M9 P G h ops all L q H .pure 0 (⟨dst,op,ty,pos,af,g⟩ :: rest) ⟨tm,bx,nx,lg⟩ KS ⟨⟩ ⟨⟩ ⟨⟩ ⟨⟩ ⟨⟩ ⟨⟩ =
  Xr ops tm g (jD P G bx (zC G tm) op nx (fun c nx'=>Hc P G h ops all L (q+1) ((q,fun b=>jD P G b (zC G tm) op nx (fun c' n'=>c'=c/\n'=nx') ⟨⟩ ⟨⟩ ⟨⟩) :: H) ⟨Jz tm dst c,bx,nx',lg⟩ KS ⟨⟩ ⟨⟩ ⟨⟩ ⟨⟩ ⟨⟩) ⟨⟩ ⟨⟩ ⟨⟩) (Hc P G h ops all L (q+1) H ⟨Jz tm dst (.sc undef),bx,nx,lg⟩ KS ⟨⟩ ⟨⟩ ⟨⟩ ⟨⟩ ⟨⟩) ⟨⟩ ⟨⟩ ⟨⟩:=
 (show znw P G h ops L q H .pure (some ⟨dst,op,ty,pos,af,g⟩) ⟨tm,bx,nx,lg⟩ KS=_ from rfl)
theorem zph {all:List Oper} {L:List (Nat×MFl)} {op:Op}:M9 P G h ops all L q H .bar 0 (⟨dst,op,ty,pos,af,g⟩ :: rest) ⟨tm,bx,nx,lg⟩ KS ⟨⟩ ⟨⟩ ⟨⟩ ⟨⟩ ⟨⟩ ⟨⟩ =
  Xr ops tm g (jH P G h op ⟨tm,bx,nx,lg⟩ (fun c σ'=>Hc P G h ops all L (q+1) [] (σ'.put dst c) KS ⟨⟩ ⟨⟩ ⟨⟩ ⟨⟩ ⟨⟩) ⟨⟩ ⟨⟩ ⟨⟩) (Hc P G h ops all L (q+1) [] ((St.mk tm bx nx lg).put dst (.sc undef)) KS ⟨⟩ ⟨⟩ ⟨⟩ ⟨⟩ ⟨⟩) ⟨⟩ ⟨⟩ ⟨⟩:=
 (show znw P G h ops L q H .bar (some ⟨dst,op,ty,pos,af,g⟩) ⟨tm,bx,nx,lg⟩ KS=_ from rfl)
theorem zll {all:List Oper} {L:List (Nat×MFl)} {fr:List Nat}:M9 P G h ops all L q H (.flt fr) 0 (⟨dst,.store t x y,ty,pos,af,none⟩ :: rest) ⟨tm,bx,nx,lg⟩ KS ⟨⟩ ⟨⟩ ⟨⟩ ⟨⟩ ⟨⟩ ⟨⟩ =
  jH P G h (.store t x y) ⟨tm,bx,nx,lg⟩ (fun c σ'=>znA fr σ'.bx H ⟨⟩/\Hc P G h ops all L (q+1) H ⟨Jz tm dst c,σ'.bx,σ'.nx,lg⟩ KS ⟨⟩ ⟨⟩ ⟨⟩ ⟨⟩ ⟨⟩) ⟨⟩ ⟨⟩ ⟨⟩:=
 (show ((none:Option (Nat×Bool))=none/\ZK P t (zC G tm x) (zC G tm y) ⟨tm,bx,nx,lg⟩ fun c σ'=>Y1 fr σ'.bx H/\mix P G h ops L (q+1) H ⟨Jz tm dst c,σ'.bx,σ'.nx,lg⟩ KS)=_ from propext ⟨fun h=>h.2,fun h=>⟨rfl,h⟩⟩)
theorem zlA {all:List Oper} {L:List (Nat×MFl)} {fr:List Nat}:M9 P G h ops all L q H (.flt fr) 0 (⟨dst,.call ⟨.builtin .copy,#[x,y],#[t,t']⟩,ty,pos,af,none⟩ :: rest) ⟨tm,bx,nx,lg⟩ KS ⟨⟩ ⟨⟩ ⟨⟩ ⟨⟩ ⟨⟩ ⟨⟩ =
  MJ P t (zC G tm x) (zC G tm y) ⟨tm,bx,nx,lg⟩ (fun c σ'=>znA fr σ'.bx H ⟨⟩/\Hc P G h ops all L (q+1) H ⟨Jz tm dst c,σ'.bx,σ'.nx,lg⟩ KS ⟨⟩ ⟨⟩ ⟨⟩ ⟨⟩ ⟨⟩) ⟨⟩:=
 (show ((none:Option (Nat×Bool))=none/\QX P t (zC G tm x) (zC G tm y) ⟨tm,bx,nx,lg⟩ fun c σ'=>Y1 fr σ'.bx H/\mix P G h ops L (q+1) H ⟨Jz tm dst c,σ'.bx,σ'.nx,lg⟩ KS)=_ from propext ⟨fun h=>h.2,fun h=>⟨rfl,h⟩⟩)
theorem zoJ {all:List Oper} {L:List (Nat×MFl)} {fr:List Nat} {tys:Array TypeId}:M9 P G h ops all L q H (.flt fr) 0 (⟨dst,.call ⟨.value x,us.toArray,tys⟩,ty,pos,af,none⟩ :: rest) ⟨tm,bx,nx,lg⟩ KS ⟨⟩ ⟨⟩ ⟨⟩ ⟨⟩ ⟨⟩ ⟨⟩ =
  zgK P G (zC G tm x) (us.map (zC G tm)) ⟨tm,bx,nx,lg⟩ (fun c b' n'=>znA fr b' H ⟨⟩/\Hc P G h ops all L (q+1) H ⟨Jz tm dst c,b',n',lg⟩ KS ⟨⟩ ⟨⟩ ⟨⟩ ⟨⟩ ⟨⟩) ⟨⟩:=
 (show ((none:Option (Nat×Bool))=none/\zac P G (zC G tm x) (us.map (zC G tm)) ⟨tm,bx,nx,lg⟩ fun c b' n'=>Y1 fr b' H/\mix P G h ops L (q+1) H ⟨Jz tm dst c,b',n',lg⟩ KS)=_ from propext ⟨fun h=>h.2,fun h=>⟨rfl,h⟩⟩)
theorem zns {K4:C->List (List C)->Nat->Prop} {fs:List C}:zgK P G (.clo (.func f) fs cs) args ⟨tm,bx,nx,lg⟩ K4 ⟨⟩=zr7 P G f (fs++args++cs) ⟨tm,bx,nx,lg⟩ K4 ⟨⟩:=(rfl)
theorem zmu {p:Prop} [Decidable p]:(if p then True else True)=True:=ite_self _
theorem znX {fr:List Nat} {b:List (List C)}:znA fr b [] ⟨⟩=True:=(rfl)
theorem zol {fr:List Nat} {b:List (List C)} {f:List (List C)->Prop} {r:List k7}:znA fr b ((k,f) :: r) ⟨⟩=((if k∈fr then f b else True)/\znA fr b r ⟨⟩):=(show ((match fr.contains k with | true=>f b | false=>True)/\Y1 fr b r)=((if k∈fr then f b else True)/\Y1 fr b r) from by
 cases hq:fr.contains k with
 | true=>rw[if_pos (by simpa using hq)]
 | false=>rw[if_neg fun h=>by simp[h]at hq])
theorem zhN {l:List Oper} {a s:Nat}:M2 P G h l.toArray (j9 a s) σ KS ⟨⟩ ⟨⟩ ⟨⟩=Xq P G l.toArray a s l 0 none σ KS ⟨⟩ ⟨⟩ ⟨⟩:=(show Mg P G h l.toArray (j9 a s) σ KS=jC P G l.toArray a s l 0 none σ KS from by unfold Mg;rw[MQ])
theorem zeg {a s:Nat} {cs:Option (List C)} {l:List Oper}:Xq P G l.toArray a s [] i cs σ KS ⟨⟩ ⟨⟩ ⟨⟩=zkw cs ((l[a]?).bind (·.dst)) σ KS ⟨⟩:=(show jC P G l.toArray a s [] i cs σ KS=zkV cs ((l[a]?).bind (·.dst)) σ KS from by simp only[jC,zkV,Am];rfl)
theorem zeH {a s:Nat} {cs:Option (List C)}:Xq P G ops a s (⟨dst,.alloc t,ty,pos,af,g⟩ :: rest) a cs ⟨tm,bx,nx,lg⟩ KS ⟨⟩ ⟨⟩ ⟨⟩=zkM (lay P t) (Xq P G ops a s rest (a+1) cs ⟨Jz tm dst .any,bx,nx,lg⟩ KS ⟨⟩ ⟨⟩ ⟨⟩) ⟨⟩:=(show jC P G ops a s (⟨dst,.alloc t,ty,pos,af,g⟩ :: rest) a cs ⟨tm,bx,nx,lg⟩ KS=zhy (lay P t) (jC P G ops a s rest (a+1) cs ⟨Jz tm dst .any,bx,nx,lg⟩ KS) from by simp only[jC,if_true])
theorem zfh {a s:Nat} {cs:Option (List C)} (hsa:(s==a)=false):Xq P G ops a s (⟨dst,.store t y x,ty,pos,af,g⟩ :: rest) s cs ⟨tm,bx,nx,lg⟩ KS ⟨⟩ ⟨⟩ ⟨⟩=zkD (lay P t) (zC G tm x) (fun c=>Xq P G ops a s rest (s+1) (some c.cells) ⟨Jz tm dst .any,bx,nx,lg⟩ KS ⟨⟩ ⟨⟩ ⟨⟩) ⟨⟩:=(show jC P G ops a s (⟨dst,.store t y x,ty,pos,af,g⟩ :: rest) s cs ⟨tm,bx,nx,lg⟩ KS=zhh (lay P t) (zC G tm x) fun c=>jC P G ops a s rest (s+1) (some c.cells) ⟨Jz tm dst .any,bx,nx,lg⟩ KS from by simp only[OU]at hsa;simp only[jC,if_neg hsa,if_true])
theorem zho {a s:Nat} {cs:Option (List C)} {op:Op} (hia:(i==a)=false) (his:(i==s)=false):Xq P G ops a s (⟨dst,op,ty,pos,af,g⟩ :: rest) i cs ⟨tm,bx,nx,lg⟩ KS ⟨⟩ ⟨⟩ ⟨⟩=Xr ops tm g (jD P G bx (zC G tm) op nx (fun c nx'=>Xq P G ops a s rest (i+1) cs ⟨Jz tm dst c,bx,nx',lg⟩ KS ⟨⟩ ⟨⟩ ⟨⟩) ⟨⟩ ⟨⟩ ⟨⟩) (Xq P G ops a s rest (i+1) cs ⟨Jz tm dst (.sc undef),bx,nx,lg⟩ KS ⟨⟩ ⟨⟩ ⟨⟩) ⟨⟩ ⟨⟩ ⟨⟩:=(show jC P G ops a s (⟨dst,op,ty,pos,af,g⟩ :: rest) i cs ⟨tm,bx,nx,lg⟩ KS=jz ops tm g (Ju P G bx (zC G tm) op nx fun c nx'=>jC P G ops a s rest (i+1) cs ⟨Jz tm dst c,bx,nx',lg⟩ KS) (jC P G ops a s rest (i+1) cs ⟨Jz tm dst (.sc undef),bx,nx,lg⟩ KS) from by simp only[OU]at hia his;simp only[jC,if_neg hia,if_neg his])
theorem zn7 {u:Tmp}:zkw (some cs) (some u) ⟨tm,bx,nx,lg⟩ KS ⟨⟩=KS ⟨(u,.ptr bx.length 0) :: tm,bx++[cs],nx,lg⟩:=(rfl)
theorem zoA {z1:List Value}:zkM (some ⟨kd,k,b1,some z1⟩) X ⟨⟩=(z1.length=k/\(z1.all Value.oneCell')=true/\X):=(rfl)
theorem zqp:zkD (some L) c K ⟨⟩=(c.partB=true/\(c.cells.all C.cellB)=true/\c.cells.length=L.size/\K c):=(rfl)
theorem zof:zkf KS ⟨⟩ .normal σ=KS σ:=(rfl)
theorem zgv {next:St} {b:Bool}:xL m tm b next Q ⟨⟩ ⟨⟩ .normal σ=(b=false/\JY m ⟨[],σ.bx,σ.nx,σ.lg⟩ (next.wt [])):=(rfl)
theorem yf {next:St} {b:Bool}:xL m tm b next Q ⟨⟩ ⟨⟩ .ret σ=(b=true/\∃ σ':St,σ'.bx.length=m/\JY m ⟨[],σ.bx,σ.nx,σ.lg⟩ (σ'.wt [])/\Q .ret (σ'.wt tm)):=(rfl)
theorem zs0 {tm2:List (Nat×C)}:St.wt ⟨tm,bx,nx,lg⟩ tm2=⟨tm2,bx,nx,lg⟩:=(rfl)
theorem zh6:Vu [] cs tm=tm:=(rfl)
theorem zlT {ps:List Tmp}:Vu (u :: ps) (c :: cs) tm=Vu ps cs ((u,c) :: tm):=(rfl)
theorem zlS:kW m [] = []:=(rfl)
theorem zpX {r:List (Nat×C)}:kW m ((u,c) :: r)=(u,c.sel (Hv m)) :: kW m r:=(rfl)
theorem zpr {next:St->Prop}:zaj next Q ⟨⟩ ⟨⟩ .normal σ=next σ:=(rfl)
theorem vz {next:St->Prop} {id:Nat}:zaj next Q ⟨⟩ ⟨⟩ (.exit id) σ=Q (.exit id) σ:=(rfl)
theorem zbx {next:St->Prop}:zaj next Q ⟨⟩ ⟨⟩ .ret σ=Q .ret σ:=(rfl)
theorem zda {id:Nat}:US id Q ⟨⟩ .normal σ=Q .normal σ:=(rfl)
theorem xv {id:Nat}:US id Q ⟨⟩ (.exit id) σ=Q .normal σ:=(show MW id Q (.exit id) σ=Q .normal σ from if_pos rfl)
theorem MO {id id2:Nat} (h:(id2==id)=false):US id Q ⟨⟩ (.exit id2) σ=Q (.exit id2) σ:=(show MW id Q (.exit id2) σ=Q (.exit id2) σ from if_neg (by simpa using h))
theorem vJ {id:Nat}:US id Q ⟨⟩ .ret σ=Q .ret σ:=(rfl)
theorem zb8:Gl Q ⟨⟩ .normal σ=Q .normal σ:=(rfl)
theorem Mm:Gl Q ⟨⟩ .ret σ=Q .ret σ:=(rfl)
theorem zh9 {next:St->Prop}:ua next Q ⟨⟩ ⟨⟩ .normal σ=next σ:=(rfl)
theorem vF {next:St->Prop} {id:Nat}:ua next Q ⟨⟩ ⟨⟩ (.exit id) σ=Q (.exit id) σ:=(rfl)
theorem za0 {next:St->Prop}:ua next Q ⟨⟩ ⟨⟩ .ret σ=Q .ret σ:=(rfl)
theorem zm6 {rs:List ResultVar}:xj P rs K3 ⟨⟩ .normal σ=zbb P σ rs (fun c=>K3 c σ) ⟨⟩:=(rfl)
theorem zmK {rs:List ResultVar}:xj P rs K3 ⟨⟩ .ret σ=zbb P σ rs (fun c=>K3 c σ) ⟨⟩:=(rfl)
theorem zoj:zbb P σ [] K ⟨⟩=K (.tup []):=(rfl)
theorem znW {a:ResultVar}:zbb P σ [a] K ⟨⟩=Yx P σ a K ⟨⟩:=(rfl)
theorem zoB {a b:ResultVar}:zbb P σ [a,b] K ⟨⟩=Yx P σ a (fun c=>Yx P σ b (fun d=>K (.tup [c,d])) ⟨⟩) ⟨⟩:=(rfl)
theorem zpt {a b c1:ResultVar}:zbb P σ [a,b,c1] K ⟨⟩=Yx P σ a (fun c=>Yx P σ b (fun d=>Yx P σ c1 (fun e=>K (.tup [c,d,e])) ⟨⟩) ⟨⟩) ⟨⟩:=(rfl)
theorem zpR:Yx P ⟨tm,bx,nx,lg⟩ (.tmp u) K ⟨⟩=K (jX tm u):=(rfl)
theorem zpw:Yx P ⟨tm,bx,nx,lg⟩ (.cell u t) K ⟨⟩=zae P t (jX tm u) bx K ⟨⟩:=(rfl)
theorem zm9:zf3 P G h ops [] σ KS ⟨⟩ ⟨⟩ ⟨⟩ ⟨⟩=KS σ:=(rfl)
theorem zpg {op:Op}:zf3 P G h ops (⟨dst,op,ty,pos,af,g⟩ :: rest) ⟨tm,bx,nx,lg⟩ KS ⟨⟩ ⟨⟩ ⟨⟩ ⟨⟩=Xr ops tm g (jH P G h op ⟨tm,bx,nx,lg⟩ (fun c σ'=>zf3 P G h ops rest (σ'.put dst c) KS ⟨⟩ ⟨⟩ ⟨⟩ ⟨⟩) ⟨⟩ ⟨⟩ ⟨⟩) (zf3 P G h ops rest (St.put ⟨tm,bx,nx,lg⟩ dst (.sc undef)) KS ⟨⟩ ⟨⟩ ⟨⟩ ⟨⟩) ⟨⟩ ⟨⟩ ⟨⟩:=(rfl)
theorem ziz:XH P G h ops [] brs σ KS ⟨⟩ ⟨⟩ ⟨⟩ ⟨⟩=KS σ:=(rfl)
theorem zj8 {op:Op}:XH P G h ops (⟨dst,op,ty,pos,af,g⟩ :: rest) [] ⟨tm,bx,nx,lg⟩ KS ⟨⟩ ⟨⟩ ⟨⟩ ⟨⟩=Xr ops tm g (jD P G bx (zC G tm) op nx (fun c nx'=>XH P G h ops rest [] ⟨Jz tm dst c,bx,nx',lg⟩ KS ⟨⟩ ⟨⟩ ⟨⟩ ⟨⟩) ⟨⟩ ⟨⟩ ⟨⟩) (XH P G h ops rest [] ⟨Jz tm dst (.sc undef),bx,nx,lg⟩ KS ⟨⟩ ⟨⟩ ⟨⟩ ⟨⟩) ⟨⟩ ⟨⟩ ⟨⟩:=(rfl)
theorem ziE {op:Op}:XH P G h ops (⟨dst,op,ty,pos,af,g⟩ :: rest) (false :: brs) ⟨tm,bx,nx,lg⟩ KS ⟨⟩ ⟨⟩ ⟨⟩ ⟨⟩=Xr ops tm g (jD P G bx (zC G tm) op nx (fun c nx'=>XH P G h ops rest brs ⟨Jz tm dst c,bx,nx',lg⟩ KS ⟨⟩ ⟨⟩ ⟨⟩ ⟨⟩) ⟨⟩ ⟨⟩ ⟨⟩) (XH P G h ops rest brs ⟨Jz tm dst (.sc undef),bx,nx,lg⟩ KS ⟨⟩ ⟨⟩ ⟨⟩ ⟨⟩) ⟨⟩ ⟨⟩ ⟨⟩:=(rfl)
theorem ziR {op:Op}:XH P G h ops (⟨dst,op,ty,pos,af,g⟩ :: rest) (true :: brs) ⟨tm,bx,nx,lg⟩ KS ⟨⟩ ⟨⟩ ⟨⟩ ⟨⟩=Xr ops tm g (jH P G h op ⟨tm,bx,nx,lg⟩ (fun c σ'=>XH P G h ops rest brs (σ'.put dst c) KS ⟨⟩ ⟨⟩ ⟨⟩ ⟨⟩) ⟨⟩ ⟨⟩ ⟨⟩) (XH P G h ops rest brs ⟨Jz tm dst (.sc undef),bx,nx,lg⟩ KS ⟨⟩ ⟨⟩ ⟨⟩ ⟨⟩) ⟨⟩ ⟨⟩ ⟨⟩:=(rfl)
theorem zht:Xr ops tm none X Y ⟨⟩ ⟨⟩ ⟨⟩=X:=(rfl)
theorem znk {l:List Oper} {want:Bool}:Xr l.toArray tm (some (j,want)) X Y ⟨⟩ ⟨⟩ ⟨⟩=zqZ ((l[j]?).bind (·.dst)) tm want X Y ⟨⟩ ⟨⟩:=(show jz l.toArray tm (some (j,want)) X Y=aGd ((l[j]?).bind (·.dst)) tm want X Y from by simp only[jz,Am];rfl)
theorem zqb {u:Tmp}:zqZ (some u) tm true X Y ⟨⟩ ⟨⟩=zhW (jX tm u) Y X Y ⟨⟩ ⟨⟩ ⟨⟩:=(rfl)
theorem zox {u:Tmp}:zqZ (some u) tm false X Y ⟨⟩ ⟨⟩=zhW (jX tm u) Y Y X ⟨⟩ ⟨⟩ ⟨⟩:=(rfl)
theorem zm3 {U:Prop} {b:Bool}:zhW (.sc (.bool b)) U X Y ⟨⟩ ⟨⟩ ⟨⟩=zm8 (.sc (.bool b)) X Y ⟨⟩ ⟨⟩:=(rfl)
theorem zni {U:Prop}:zhW (.sc undef) U X Y ⟨⟩ ⟨⟩ ⟨⟩=U:=(rfl)
theorem zaP {u:Tmp}:St.put ⟨tm,bx,nx,lg⟩ (some u) c=⟨(u,c) :: tm,bx,nx,lg⟩:=(rfl)
theorem zbL:St.put ⟨tm,bx,nx,lg⟩ none c=⟨tm,bx,nx,lg⟩:=(rfl)
theorem x0 {u:Tmp}:Jz tm (some u) c=(u,c) :: tm:=(rfl)
theorem vk:Jz tm none c=tm:=(rfl)
theorem Hj {ps:List (Nat×Operand)}:jH P G h (.buildSlice t n ps.toArray) ⟨tm,bx,nx,lg⟩ K3 ⟨⟩ ⟨⟩ ⟨⟩=if h.bx t then H6 P t n (ps.map fun p=>(p.1,zC G tm p.2)) ⟨tm,bx,nx,lg⟩ K3 ⟨⟩ else Qd P t n (ps.map fun p=>(p.1,zC G tm p.2)) nx (fun c nx'=>K3 c ⟨tm,bx,nx',lg⟩) ⟨⟩:=(rfl)
theorem Hg {ps:List (Nat×Operand)} {ev:Operand->C}:jD P G bx ev (.buildSlice t n ps.toArray) nx K2 ⟨⟩ ⟨⟩ ⟨⟩=uh P t n (ps.map fun p=>(p.1,ev p.2)) nx K2 ⟨⟩:=(rfl)
theorem zrr:uh P t (n+1) ps nx K2 ⟨⟩=Qd P t (n+1) ps nx K2 ⟨⟩:=(rfl)
theorem Ni:jH P G h (.makeSlice t x y) ⟨tm,bx,nx,lg⟩ K3 ⟨⟩ ⟨⟩ ⟨⟩=if h.bx t then MT P t (zC G tm x) (zC G tm y) ⟨tm,bx,nx,lg⟩ K3 ⟨⟩ else zkE P t (zC G tm x) (zC G tm y) nx (fun c nx'=>K3 c ⟨tm,bx,nx',lg⟩) ⟨⟩:=(rfl)
theorem zon:Hd.bx ⟨p,yd,bf⟩ t=(bf (1000000+t)).headD false:=(rfl)
theorem znq:Hd.bx2 ⟨p,yd,bf⟩ t=((bf (1000000+t)).drop 1).headD false:=(rfl)
theorem zjK:jH P G h (.move x) ⟨tm,bx,nx,lg⟩ K3 ⟨⟩ ⟨⟩ ⟨⟩=K3 (zC G tm x) ⟨tm,bx,nx,lg⟩:=(rfl)
theorem zik {ev:Operand->C}:jD P G bx ev (.move x) nx K2 ⟨⟩ ⟨⟩ ⟨⟩=K2 (ev x) nx:=(rfl)
theorem zbq:jH P G h (.assign x) ⟨tm,bx,nx,lg⟩ K3 ⟨⟩ ⟨⟩ ⟨⟩=K3 (zC G tm x) ⟨tm,bx,nx,lg⟩:=(rfl)
theorem za3 {ev:Operand->C}:jD P G bx ev (.assign x) nx K2 ⟨⟩ ⟨⟩ ⟨⟩=K2 (ev x) nx:=(rfl)
theorem zhI:jH P G h (.pick x y z) ⟨tm,bx,nx,lg⟩ K3 ⟨⟩ ⟨⟩ ⟨⟩=zm8 (zC G tm x) (K3 (zC G tm y) ⟨tm,bx,nx,lg⟩) (K3 (zC G tm z) ⟨tm,bx,nx,lg⟩) ⟨⟩ ⟨⟩:=(rfl)
theorem zif {ev:Operand->C}:jD P G bx ev (.pick x y z) nx K2 ⟨⟩ ⟨⟩ ⟨⟩=zm8 (ev x) (K2 (ev y) nx) (K2 (ev z) nx) ⟨⟩ ⟨⟩:=(rfl)
theorem zgE {ps:List (Nat×Operand)}:jH P G h (.build t ps.toArray) ⟨tm,bx,nx,lg⟩ K3 ⟨⟩ ⟨⟩ ⟨⟩=vf P t (ps.map fun p=>(p.1,zC G tm p.2)) (fun c=>K3 c ⟨tm,bx,nx,lg⟩) ⟨⟩:=(rfl)
theorem zdT {ps:List (Nat×Operand)} {ev:Operand->C}:jD P G bx ev (.build t ps.toArray) nx K2 ⟨⟩ ⟨⟩ ⟨⟩=vf P t (ps.map fun p=>(p.1,ev p.2)) (fun c=>K2 c nx) ⟨⟩:=(rfl)
theorem zjC:jH P G h (.load t x) ⟨tm,bx,nx,lg⟩ K3 ⟨⟩ ⟨⟩ ⟨⟩=zae P t (zC G tm x) bx (fun c=>K3 c ⟨tm,bx,nx,lg⟩) ⟨⟩:=(rfl)
theorem zj7 {ev:Operand->C}:jD P G bx ev (.load t x) nx K2 ⟨⟩ ⟨⟩ ⟨⟩=zae P t (ev x) bx (fun c=>K2 c nx) ⟨⟩:=(rfl)
theorem NA:jH P G h (.nilCheck x) ⟨tm,bx,nx,lg⟩ K3 ⟨⟩ ⟨⟩ ⟨⟩=zmE (zC G tm x) (fun c=>K3 c ⟨tm,bx,nx,lg⟩) ⟨⟩:=(rfl)
theorem Me {ev:Operand->C}:jD P G bx ev (.nilCheck x) nx K2 ⟨⟩ ⟨⟩ ⟨⟩=zmE (ev x) (fun c=>K2 c nx) ⟨⟩:=(rfl)
theorem zfj:jH P G h (.binOp op t x y t') ⟨tm,bx,nx,lg⟩ K3 ⟨⟩ ⟨⟩ ⟨⟩=yQ P t op (zC G tm x) (zC G tm y) (fun c=>K3 c ⟨tm,bx,nx,lg⟩) ⟨⟩:=(rfl)
theorem zgg {ev:Operand->C}:jD P G bx ev (.binOp op t x y t') nx K2 ⟨⟩ ⟨⟩ ⟨⟩=yQ P t op (ev x) (ev y) (fun c=>K2 c nx) ⟨⟩:=(rfl)
theorem zjw {op:UnOp}:jH P G h (.unOp op t x) ⟨tm,bx,nx,lg⟩ K3 ⟨⟩ ⟨⟩ ⟨⟩=zqN op (zC G tm x) (fun c=>K3 c ⟨tm,bx,nx,lg⟩) ⟨⟩:=(rfl)
theorem zhw {op:UnOp} {ev:Operand->C}:jD P G bx ev (.unOp op t x) nx K2 ⟨⟩ ⟨⟩ ⟨⟩=zqN op (ev x) (fun c=>K2 c nx) ⟨⟩:=(rfl)
theorem xX:jH P G h (.convert t t' x) ⟨tm,bx,nx,lg⟩ K3 ⟨⟩ ⟨⟩ ⟨⟩=zeR P bx t t' (zC G tm x) (fun c=>K3 c ⟨tm,bx,nx,lg⟩) ⟨⟩:=(rfl)
theorem xd {fs cs:List Operand}:jH P G h (.makeFunc fn fs.toArray cs.toArray) ⟨tm,bx,nx,lg⟩ K3 ⟨⟩ ⟨⟩ ⟨⟩=K3 (.clo fn (fs.map (zC G tm)) (cs.map (zC G tm))) ⟨tm,bx,nx,lg⟩:=(rfl)
theorem zfY {lo hi mx:Option Operand}:jH P G h (.slice t x lo hi mx) ⟨tm,bx,nx,lg⟩ K3 ⟨⟩ ⟨⟩ ⟨⟩=xR P t (zC G tm x) (lo.map (zC G tm)) (hi.map (zC G tm)) (mx.map (zC G tm)) (fun c=>K3 c ⟨tm,bx,nx,lg⟩) ⟨⟩:=(rfl)
theorem zc1 {lo hi mx:Option Operand} {ev:Operand->C}:jD P G bx ev (.slice t x lo hi mx) nx K2 ⟨⟩ ⟨⟩ ⟨⟩=xR P t (ev x) (lo.map ev) (hi.map ev) (mx.map ev) (fun c=>K2 c nx) ⟨⟩:=(rfl)
theorem GZ {f:Nat}:jH P G h (.fieldAddr t x f) ⟨tm,bx,nx,lg⟩ K3 ⟨⟩ ⟨⟩ ⟨⟩=QU P t (zC G tm x) f (fun c=>K3 c ⟨tm,bx,nx,lg⟩) ⟨⟩:=(rfl)
theorem GK {f:Nat} {ev:Operand->C}:jD P G bx ev (.fieldAddr t x f) nx K2 ⟨⟩ ⟨⟩ ⟨⟩=QU P t (ev x) f (fun c=>K2 c nx) ⟨⟩:=(rfl)
theorem zeB {f:Nat}:jH P G h (.field t x f) ⟨tm,bx,nx,lg⟩ K3 ⟨⟩ ⟨⟩ ⟨⟩=vN P t (zC G tm x) f (fun c=>K3 c ⟨tm,bx,nx,lg⟩) ⟨⟩:=(rfl)
theorem zdp {f:Nat} {ev:Operand->C}:jD P G bx ev (.field t x f) nx K2 ⟨⟩ ⟨⟩ ⟨⟩=vN P t (ev x) f (fun c=>K2 c nx) ⟨⟩:=(rfl)
theorem Gy:jH P G h (.indexAddr t x y) ⟨tm,bx,nx,lg⟩ K3 ⟨⟩ ⟨⟩ ⟨⟩=QO P t (zC G tm x) (zC G tm y) (fun c=>K3 c ⟨tm,bx,nx,lg⟩) ⟨⟩:=(rfl)
theorem G5 {ev:Operand->C}:jD P G bx ev (.indexAddr t x y) nx K2 ⟨⟩ ⟨⟩ ⟨⟩=QO P t (ev x) (ev y) (fun c=>K2 c nx) ⟨⟩:=(rfl)
theorem zgp:jH P G h (.index t x y) ⟨tm,bx,nx,lg⟩ K3 ⟨⟩ ⟨⟩ ⟨⟩=yC P t (zC G tm x) (zC G tm y) (fun c=>K3 c ⟨tm,bx,nx,lg⟩) ⟨⟩:=(rfl)
theorem zcS {ev:Operand->C}:jD P G bx ev (.index t x y) nx K2 ⟨⟩ ⟨⟩ ⟨⟩=yC P t (ev x) (ev y) (fun c=>K2 c nx) ⟨⟩:=(rfl)
theorem yg:jH P G h (.extract x i) ⟨tm,bx,nx,lg⟩ K3 ⟨⟩ ⟨⟩ ⟨⟩=kE (zC G tm x) i (fun c=>K3 c ⟨tm,bx,nx,lg⟩) ⟨⟩:=(rfl)
theorem vr {ev:Operand->C}:jD P G bx ev (.extract x i) nx K2 ⟨⟩ ⟨⟩ ⟨⟩=kE (ev x) i (fun c=>K2 c nx) ⟨⟩:=(rfl)
theorem zgx {ts:List TypeId}:jH P G h (.call ⟨.value x,us.toArray,ts.toArray⟩) ⟨tm,bx,nx,lg⟩ K3 ⟨⟩ ⟨⟩ ⟨⟩=y6 P G h (zC G tm x) (us.map (zC G tm)) ⟨tm,bx,nx,lg⟩ K3 ⟨⟩ ⟨⟩:=(rfl)
theorem zgk {ts:List TypeId} {ev:Operand->C}:jD P G bx ev (.call ⟨.value x,us.toArray,ts.toArray⟩) nx K2 ⟨⟩ ⟨⟩ ⟨⟩=zec P G (ev x) (us.map ev) nx K2 ⟨⟩:=(rfl)
theorem zmW:jH P G h (.call ⟨.builtin .len,#[x],#[t]⟩) ⟨tm,bx,nx,lg⟩ K3 ⟨⟩ ⟨⟩ ⟨⟩=xT P t (zC G tm x) (fun c=>K3 c ⟨tm,bx,nx,lg⟩) ⟨⟩:=(rfl)
theorem znc {ev:Operand->C}:jD P G bx ev (.call ⟨.builtin .len,#[x],#[t]⟩) nx K2 ⟨⟩ ⟨⟩ ⟨⟩=xT P t (ev x) (fun c=>K2 c nx) ⟨⟩:=(rfl)
theorem yH {r:Option Operand}:jH P G h (.makeMap t r) ⟨tm,bx,nx,lg⟩ K3 ⟨⟩ ⟨⟩ ⟨⟩=znL (zcI P t) t (r.map (zC G tm)) nx (fun c nx'=>K3 c ⟨tm,bx,nx',lg⟩) ⟨⟩:=(rfl)
theorem zow {kd:MKd} {z:C}:znL (some (kd,z)) t none nx K2 ⟨⟩=K2 (.mo nx t kd.nil []) (nx+1):=(rfl)
theorem zmL {k:IntKind}:MKd.nil (.int k) = .int k []:=(rfl)
theorem zb4 {ok:Bool} {ev:Operand->C}:jD P G bx ev (.lookup t x y ok) nx K2 ⟨⟩ ⟨⟩ ⟨⟩=zqh (zcI P t) t (ev x) (ev y) ok (fun c=>K2 c nx) ⟨⟩:=(rfl)
theorem zo3 {k q:IntKind} {z:C} {id:Nat} {l:List Int} {n:Int} {ok:Bool}:zqh (some (.int k,z)) t (.mo id t2 (.int k2 l) vs) (.sc (.int q n)) ok K ⟨⟩=(t2=t/\k2=k/\q=k/\zfp (zi5 n l vs) z ok K ⟨⟩):=(rfl)
theorem zir {z:C}:zfp (some c) z false K ⟨⟩=K c:=(rfl)
theorem zcB {w:Operand}:jH P G h (.insert t x y w) ⟨tm,bx,nx,lg⟩ K3 ⟨⟩ ⟨⟩ ⟨⟩=zoU (zcI P t) t (zC G tm x) (zC G tm y) (zC G tm w) ⟨tm,bx,nx,lg⟩ K3 ⟨⟩:=(rfl)
theorem zpG {k q:IntKind} {z:C} {id:Nat} {l:List Int} {n:Int}:zoU (some (.int k,z)) t (.mo id t2 (.int k2 l) vs) (.sc (.int q n)) d ⟨tm,bx,nx,lg⟩ K3 ⟨⟩=(t2=t/\k2=k/\q=k/\K3 .any ⟨zgZ id (.int k (Hl n d.frz l vs).1) (Hl n d.frz l vs).2 tm,ze0 id (.int k (Hl n d.frz l vs).1) (Hl n d.frz l vs).2 bx,nx,lg⟩):=(rfl)
theorem zbK:jH P G h (.call ⟨.builtin .append,#[x,y],#[t,t]⟩) ⟨tm,bx,nx,lg⟩ K3 ⟨⟩ ⟨⟩ ⟨⟩=if h.bx t then if h.bx2 t then xS P t (zC G tm x) (zC G tm y) ⟨tm,bx,nx,lg⟩ K3 ⟨⟩ else zag P h.p t (zC G tm x) (zC G tm y) ⟨tm,bx,nx,lg⟩ K3 ⟨⟩ else ug P t (zC G tm x) (zC G tm y) ⟨tm,bx,nx,lg⟩ K3 ⟨⟩:=(show Nu P G h (.call ⟨.builtin .append,#[x,y],#[t,t]⟩) ⟨tm,bx,nx,lg⟩ K3=if h.bx t then if h.bx2 t then YA P t (zC G tm x) (zC G tm y) ⟨tm,bx,nx,lg⟩ K3 else U5 P h.p t (zC G tm x) (zC G tm y) ⟨tm,bx,nx,lg⟩ K3 else Nm P t (zC G tm x) (zC G tm y) ⟨tm,bx,nx,lg⟩ K3 from by simp[Nu,vl])
theorem zi9 (h0:(t'==t)=false):jH P G h (.call ⟨.builtin .append,#[x,y],#[t,t']⟩) ⟨tm,bx,nx,lg⟩ K3 ⟨⟩ ⟨⟩ ⟨⟩=zak P t t' (zC G tm x) (zC G tm y) ⟨tm,bx,nx,lg⟩ K3 ⟨⟩:=(show Nu P G h (.call ⟨.builtin .append,#[x,y],#[t,t']⟩) ⟨tm,bx,nx,lg⟩ K3=Gn P t t' (zC G tm x) (zC G tm y) ⟨tm,bx,nx,lg⟩ K3 from by simp only[OU]at h0;simp[Nu,vl,h0])
theorem zhc:jH P G h (.call ⟨.builtin .copy,#[x,y],#[t,t']⟩) ⟨tm,bx,nx,lg⟩ K3 ⟨⟩ ⟨⟩ ⟨⟩=MJ P t (zC G tm x) (zC G tm y) ⟨tm,bx,nx,lg⟩ K3 ⟨⟩:=(show Nu P G h (.call ⟨.builtin .copy,#[x,y],#[t,t']⟩) ⟨tm,bx,nx,lg⟩ K3=QX P t (zC G tm x) (zC G tm y) ⟨tm,bx,nx,lg⟩ K3 from by simp[Nu,vl])
theorem zeP:jH P G h (.call ⟨.builtin .clear,#[x],#[t]⟩) ⟨tm,bx,nx,lg⟩ K3 ⟨⟩ ⟨⟩ ⟨⟩=vQ P t (zC G tm x) ⟨tm,bx,nx,lg⟩ K3 ⟨⟩:=(show Nu P G h (.call ⟨.builtin .clear,#[x],#[t]⟩) ⟨tm,bx,nx,lg⟩ K3=U4 P t (zC G tm x) ⟨tm,bx,nx,lg⟩ K3 from by simp[Nu,vl])
theorem zlH:jH P G h (.call ⟨.builtin .max,#[x,y],#[t,t']⟩) ⟨tm,bx,nx,lg⟩ K3 ⟨⟩ ⟨⟩ ⟨⟩=zpT (zC G tm x) (zC G tm y) (fun c=>K3 c ⟨tm,bx,nx,lg⟩) ⟨⟩:=(rfl)
theorem zrS {k k':IntKind} {n m:Int}:zpT (.sc (.int k n)) (.sc (.int k' m)) K ⟨⟩=K (.sc (.int k (if m>n then m else n))):=(rfl)
theorem zlk:jH P G h (.call ⟨.builtin .cap,#[x],#[t]⟩) ⟨tm,bx,nx,lg⟩ K3 ⟨⟩ ⟨⟩ ⟨⟩=zpP P t (zC G tm x) (fun c=>K3 c ⟨tm,bx,nx,lg⟩) ⟨⟩:=(show Nu P G h (.call ⟨.builtin .cap,#[x],#[t]⟩) ⟨tm,bx,nx,lg⟩ K3=zoe P t (zC G tm x) fun c=>K3 c ⟨tm,bx,nx,lg⟩ from by simp[Nu,vl])
theorem zrx:zpP P t c K ⟨⟩=zdP (lay P t) c K ⟨⟩:=(rfl)
theorem zg5:zdP (some ⟨.slice e,s1,b1,z1⟩) (.bs i off k n cap) K ⟨⟩=K (.sc (.int .i64 (cap:Int))):=(rfl)
theorem zge:zdP (some ⟨.slice e,s1,b1,z1⟩) (.sc (.slice none 0 0)) K ⟨⟩=K (.sc (.int .i64 0)):=(rfl)
theorem zb1 {ev:Operand->C}:jD P G bx ev (.call ⟨.builtin .append,#[x,y],#[t,t]⟩) nx K2 ⟨⟩ ⟨⟩ ⟨⟩=zal P t (ev x) (ev y) nx K2 ⟨⟩:=(show Ju P G bx ev (.call ⟨.builtin .append,#[x,y],#[t,t]⟩) nx K2=Vr P t (ev x) (ev y) nx K2 from by simp[Ju,Ml,kF])
theorem zf2:jH P G h (.alloc t) ⟨tm,bx,nx,lg⟩ K3 ⟨⟩ ⟨⟩ ⟨⟩=zpW (lay P t) ⟨tm,bx,nx,lg⟩ K3 ⟨⟩:=(rfl)
theorem zmR:jH P G h (.box t x) ⟨tm,bx,nx,lg⟩ K3 ⟨⟩ ⟨⟩ ⟨⟩=zpD (zC G tm x) ⟨tm,bx,nx,lg⟩ K3 ⟨⟩:=(rfl)
theorem zeK:jH P G h (.store t x y) ⟨tm,bx,nx,lg⟩ K3 ⟨⟩ ⟨⟩ ⟨⟩=zoq (lay P t) (zC G tm x) (zC G tm y) ⟨tm,bx,nx,lg⟩ K3 ⟨⟩:=(rfl)
theorem zhx {u:Tmp}:zC G tm (.tmp u)=jX tm u:=(rfl)
theorem zcm:zC G tm (.const v)=zD v:=(rfl)
theorem zdy:zC G tm (.func f) = .clo (.func f) [] []:=(rfl)
theorem vv {g:Nat}:zC G tm (.global g)=zr4 (G g):=(rfl)
theorem vh:zr4 (some cs) = .row cs:=(rfl)
theorem zpY {v:Nat} {r:List (Nat×C)}:jX ((u,c) :: r) v=if v=u then c else jX r v:=(rfl)
theorem yl {k:IntKind} {n:Int}:zD (.int k n) = .sc (.int k n):=(rfl)
theorem M1 {b:Bool}:zD (.bool b) = .sc (.bool b):=(rfl)
theorem y5:zD (.string ⟨l.toArray⟩) = .str l:=(rfl)
theorem G8 {a:Option Addr} {m:Nat}:zD (.slice a n m) = .sc (.slice a n m):=(rfl)
theorem yW {a:Option Addr}:zD (.pointer a) = .sc (.pointer a):=(rfl)
theorem yu {a:Option Nat}:zD (.map a) = .sc (.map a):=(rfl)
theorem N2:zD .nilFunc = .sc .nilFunc:=(rfl)
theorem zdR {k:IntKind} {b:Int}:yQ P t op (.sc (.int k a)) (.sc (.int k b)) K ⟨⟩=Hk op k a b K ⟨⟩:=(show znz P t op (.sc (.int k a)) (.sc (.int k b)) K=zqy op k a b K from by simp[znz])
theorem zd6 {a b:Lz}:yQ P t op (.str a) (.str b) K ⟨⟩=zfi op a b K ⟨⟩:=(rfl)
theorem zeJ:yQ P t op (.agg cs) (.agg ds) K ⟨⟩=zmY op (V5 P t) cs ds K ⟨⟩:=(rfl)
theorem MV {rows:List (List C)}:yQ P t op (.sl k rows) (.sc (.slice none 0 0)) K ⟨⟩=vY (lay P t) op (.sl k rows) K ⟨⟩:=(rfl)
theorem zeZ {e0:TypeId} {k0 b0:Nat} {z0:Option (List Value)} {rows:List (List C)}:vY (some ⟨.slice e0,k0,b0,z0⟩) op (.sl k rows) K ⟨⟩=(rows≠[]/\zgM op false K ⟨⟩):=(rfl)
theorem MA {a:Option Addr}:yQ P t op (.sc (.slice a n cap)) (.sc (.slice none 0 0)) K ⟨⟩=vY (lay P t) op (.sc (.slice a n cap)) K ⟨⟩:=(rfl)
theorem zfM {e0:TypeId} {k0 b0:Nat} {z0:Option (List Value)} {a:Option Addr}:vY (some ⟨.slice e0,k0,b0,z0⟩) op (.sc (.slice a n cap)) K ⟨⟩=zgM op a.isNone K ⟨⟩:=(rfl)
theorem zaJ {b:Bool}:zgM .eql b K ⟨⟩=K (.sc (.bool b)):=(rfl)
theorem ze7:zmY .eql (some lk) cs ds K ⟨⟩=zgV false lk cs ds true K ⟨⟩:=(rfl)
theorem zfu:zmY .neq (some lk) cs ds K ⟨⟩=zgV true lk cs ds true K ⟨⟩:=(rfl)
theorem zj9 {e:Bool}:zgV false [] [] [] e K ⟨⟩=K (.sc (.bool e)):=(rfl)
theorem zcD {e:Bool}:zgV true [] [] [] e K ⟨⟩=K (.sc (.bool (!e))):=(rfl)
theorem zjk {n e:Bool} {k k1:IntKind} {b:Int}:zgV n (.int k :: lk) (.sc (.int k1 a) :: cs) (.sc (.int k2 b) :: ds) e K ⟨⟩=(k1=k/\k2=k/\zgV n lk cs ds (e&&decide (a=b)) K ⟨⟩):=(rfl)
theorem zd4 {n e:Bool} {a b:Bool}:zgV n (.bool :: lk) (.sc (.bool a) :: cs) (.sc (.bool b) :: ds) e K ⟨⟩=zgV n lk cs ds (e&&(a==b)) K ⟨⟩:=(rfl)
theorem zjJ {n e:Bool} {a b:Lz}:zgV n (.str :: lk) (.str a :: cs) (.str b :: ds) e K ⟨⟩=zgV n lk cs ds (e&&decide (a=b)) K ⟨⟩:=(rfl)
theorem zeI {k:IntKind} {b:Int}:Hk .add k a b K ⟨⟩=(inR k (a+b)/\K (.sc (.int k (a+b)))):=(rfl)
theorem zeo {k:IntKind} {b:Int}:Hk .sub k a b K ⟨⟩=(inR k (a-b)/\K (.sc (.int k (a-b)))):=(rfl)
theorem zgG {k:IntKind} {b:Int}:Hk .shr k a b K ⟨⟩=(b=1/\K (.sc (.int k (a / 2)))):=(rfl)
theorem zd0 {k:IntKind} {b:Int}:Hk .eql k a b K ⟨⟩=(K (.sc (.bool (decide (a=b))))):=(rfl)
theorem zga {k:IntKind} {b:Int}:Hk .neq k a b K ⟨⟩=(K (.sc (.bool (!decide (a=b))))):=(rfl)
theorem zeh {k:IntKind} {b:Int}:Hk .lss k a b K ⟨⟩=(K (.sc (.bool (decide (a<b))))):=(rfl)
theorem zfL {k:IntKind} {b:Int}:Hk .leq k a b K ⟨⟩=(K (.sc (.bool (decide (a<=b))))):=(rfl)
theorem zfc {k:IntKind} {b:Int}:Hk .gtr k a b K ⟨⟩=(K (.sc (.bool (decide (b<a))))):=(rfl)
theorem zfT {k:IntKind} {b:Int}:Hk .geq k a b K ⟨⟩=(K (.sc (.bool (decide (b<=a))))):=(rfl)
theorem zc2 {a b:Lz}:zfi .add a b K ⟨⟩=(((a.length+b.length:Nat):Int)<=9223372036854775807/\K (.str (a++b))):=(rfl)
theorem zdN {a b:Lz}:zfi .eql a b K ⟨⟩=(K (.sc (.bool (decide (a=b))))):=(rfl)
theorem zd1 {a b:Lz}:zfi .neq a b K ⟨⟩=(K (.sc (.bool (!decide (a=b))))):=(rfl)
theorem zee {a b:Lz}:zfi .geq a b K ⟨⟩=(K (.sc (.bool (!Op.bytesLess a b)))):=(rfl)
theorem zjt {b:Bool}:zqN .not (.sc (.bool b)) K ⟨⟩=K (.sc (.bool (!b))):=(rfl)
theorem zfA:kE (.tup cs) i K ⟨⟩=zlx (cs[i]?) K ⟨⟩:=(rfl)
theorem zrq:zlx (some c) K ⟨⟩=K c:=(rfl)
theorem zdA:zmE (.ptr i off) K ⟨⟩=K (.ptr i off):=(rfl)
theorem znM:zae P t c bx K ⟨⟩=y7 (lay P t) c bx K ⟨⟩:=(rfl)
theorem zca:y7 (some L) (.ptr i off) bx K ⟨⟩=zf6 (bx[i]?) off L K ⟨⟩:=(rfl)
theorem zcu:y7 (some L) (.row cs) bx K ⟨⟩=V9 L cs K ⟨⟩:=(rfl)
theorem zk8:zf6 (some cs) off L K ⟨⟩=V9 L (cs.drop off) K ⟨⟩:=(rfl)
theorem GP {fs:List (Nat×Nat×Bool)} {s:Nat}:V9 ⟨.struct fs,s,b,z1⟩ cs K ⟨⟩=(s<=cs.length/\K (.agg (cs.take s))):=(show Yn ⟨.struct fs,s,b,z1⟩ cs K=(s<=cs.length/\K (.agg (cs.take s))) from by simp[Yn,LK.agg])
theorem zcd {ik:IntKind} {s:Nat}:V9 ⟨.int ik,s,b,z1⟩ (c :: r) K ⟨⟩=K c:=(show Yn ⟨.int ik,s,b,z1⟩ (c :: r) K=K c from by simp[Yn,LK.agg])
theorem x6 {s:Nat}:V9 ⟨.bool,s,b,z1⟩ (c :: r) K ⟨⟩=K c:=(show Yn ⟨.bool,s,b,z1⟩ (c :: r) K=K c from by simp[Yn,LK.agg])
theorem za9 {s:Nat}:V9 ⟨.str,s,b,z1⟩ (c :: r) K ⟨⟩=K c:=(show Yn ⟨.str,s,b,z1⟩ (c :: r) K=K c from by simp[Yn,LK.agg])
theorem N6 {e:TypeId} {s:Nat}:V9 ⟨.slice e,s,b,z1⟩ (c :: r) K ⟨⟩=K c:=(show Yn ⟨.slice e,s,b,z1⟩ (c :: r) K=K c from by simp[Yn,LK.agg])
theorem Mj {s:Nat}:V9 ⟨.other,s,b,z1⟩ (c :: r) K ⟨⟩=K c:=(show Yn ⟨.other,s,b,z1⟩ (c :: r) K=K c from by simp[Yn,LK.agg])
theorem zlz {f:Nat}:vN P t c f K ⟨⟩=uB (lay P t) c f K ⟨⟩:=(rfl)
theorem ziJ {fs:List (Nat×Nat×Bool)} {s:Nat} {f:Nat}:uB (some ⟨.struct fs,s,b,z1⟩) (.agg cs) f K ⟨⟩=uA (fs[f]?) cs K ⟨⟩:=(show vp (some ⟨.struct fs,s,b,z1⟩) (.agg cs) f K=U6 (fs[f]?) cs K from by unfold vp U6;simp only[];cases fs[f]?<;>simp)
theorem zeb:uA (some (off,size,false)) cs K ⟨⟩=zlx (cs[off]?) K ⟨⟩:=(show U6 (some (off,size,false)) cs K=zrR (cs[off]?) K from by unfold U6 zrR;simp)
theorem zsw {f:Nat}:QU P t c f K ⟨⟩=zpJ (lay P t) c f K ⟨⟩:=(rfl)
theorem zqR {fs:List (Nat×Nat×Bool)} {s:Nat} {f:Nat}:zpJ (some ⟨.struct fs,s,b,z1⟩) c f K ⟨⟩=zlQ (fs[f]?) c K ⟨⟩:=(rfl)
theorem zhv {g:Bool}:zlQ (some (off,size+1,g)) (.ptr i q) K ⟨⟩=K (.ptr i (q+off)):=(show zqm (some (off,size+1,g)) (.ptr i q) K=K (.ptr i (q+off)) from by simp[zqm])
theorem zg4 {g:Bool}:zlQ (some (off,size+1,g)) (.row cs) K ⟨⟩=K (.row (cs.drop off)):=(show zqm (some (off,size+1,g)) (.row cs) K=K (.row (cs.drop off)) from by simp[zqm])
theorem zsy:QO P t c d K ⟨⟩=zm5 P (lay P t) c d K ⟨⟩:=(rfl)
theorem zaD {s:Nat} {k:IntKind} {n:Int}:zm5 P (some ⟨.slice e,s,b,z1⟩) c (.sc (.int k n)) K ⟨⟩=ziP (lay P e) c n K ⟨⟩:=(rfl)
theorem zbP {m s:Nat} {k:IntKind} {n:Int}:zm5 P (some ⟨.array (m+1) e,s,b,z1⟩) c (.sc (.int k n)) K ⟨⟩=zqw (lay P e) c m n K ⟨⟩:=(rfl)
theorem zcR {rows:List (List C)} {n:Int}:ziP (some L) (.sl k rows) n K ⟨⟩=zms (C.rows? L.size (.sl k rows)) n K ⟨⟩:=(rfl)
theorem zde {rows:List (List C)}:zfv (some L) (.sl k rows) lo hi mx K ⟨⟩=zg7 (C.rows? L.size (.sl k rows)) L.size lo hi mx K ⟨⟩:=(rfl)
theorem zck {id:Nat} {rows:List (List C)} {n:Int}:ziP (some L) (.own id e k rows) n K ⟨⟩=zms (C.rows? L.size (.own id e k rows)) n K ⟨⟩:=(rfl)
theorem zce {id:Nat} {rows:List (List C)}:zfv (some L) (.own id e k rows) lo hi mx K ⟨⟩=zg7 (C.rows? L.size (.own id e k rows)) L.size lo hi mx K ⟨⟩:=(rfl)
theorem zb3:zfv (some L) (.sc (.slice none 0 0)) lo hi mx K ⟨⟩=zp0 L.size lo hi mx K ⟨⟩:=(rfl)
theorem zq5:zp0 k lo hi none K ⟨⟩=(j7 0 lo hi/\K (.sc (.slice none 0 0))):=(rfl)
theorem zcp :zeR P bx t t' (.sc v) K ⟨⟩=zkn P t t' (.sc v) K ⟨⟩:=(rfl)
theorem zeG {n:Int} {m1:Nat}:ziP (some L) (.bs j off k m1 cap) n K ⟨⟩=(k=L.size/\0<=n/\n<(m1:Int)/\K (.ptr j (off+n.toNat*L.size))):=(rfl)
theorem zgj:zfv (some L) (.bs i off k n cap) lo hi mx K ⟨⟩=zcQ L.size i off k n cap lo hi mx K ⟨⟩:=(rfl)
theorem zjV {b:Int} {sz:Nat}:zcQ sz i off k n cap none (some b) none K ⟨⟩=(n<=cap/\(0<=b/\b<=(cap:Int))/\K (.bs i off k b.toNat cap)):=(rfl)
theorem zh0 {sz:Nat}:zcQ sz i off k n cap (some a) none none K ⟨⟩=(sz=k/\n<=cap/\(0<=a/\a<=(n:Int))/\K (.bs i (off+a.toNat*k) k (n-a.toNat) (cap-a.toNat))):=(rfl)
theorem zhL {b:Int} {sz:Nat}:zcQ sz i off k n cap (some a) (some b) none K ⟨⟩=(sz=k/\(0<=a/\a<=b/\b<=(cap:Int))/\K (.bs i (off+a.toNat*k) k (b.toNat-a.toNat) (cap-a.toNat))):=(rfl)
theorem zjc {b m1:Int} {sz:Nat}:zcQ sz i off k n cap (some a) (some b) (some m1) K ⟨⟩=(sz=k/\(0<=a/\a<=b/\b<=m1/\m1<=(cap:Int))/\K (.bs i (off+a.toNat*k) k (b.toNat-a.toNat) (m1.toNat-a.toNat))):=(rfl)
theorem zjz:xT P t (.bs i off k n cap) K ⟨⟩=M4 (lay P t) (n:Int) K ⟨⟩:=(rfl)
theorem zsW:H6 P t n ps ⟨tm,bx,nx,lg⟩ K3 ⟨⟩=zp8 P (lay P t) n ps ⟨tm,bx,nx,lg⟩ K3 ⟨⟩:=(rfl)
theorem zro {s:Nat}:zp8 P (some ⟨.slice e,s,b,z1⟩) n ps σ K3 ⟨⟩=znP (lay P e) n ps σ K3 ⟨⟩:=(rfl)
theorem zrT {z1:List Value}:znP (some ⟨kd,k,b,some z1⟩) n ps σ K3 ⟨⟩=(z1.length=k/\0<k/\n*k<=16777216/\(ps.all fun p=>p.2.frz.partB)=true/\znY (Y9 (plA k) (List.replicate n (z1.map zD)).flatten (ps.map fun p=>(p.1,p.2.frz))) k n σ K3 ⟨⟩):=(rfl)
theorem zrv:znY (some cs) k n ⟨tm,bx,nx,lg⟩ K3 ⟨⟩=((cs.all C.cellB)=true/\cs.length=n*k/\K3 (.bs bx.length 0 k n n) ⟨tm,bx++[cs],nx,lg⟩):=(rfl)
theorem zsg:zag P p t c d ⟨tm,bx,nx,lg⟩ K3 ⟨⟩=znK P (lay P t) p c d ⟨tm,bx,nx,lg⟩ K3 ⟨⟩:=(rfl)
theorem zrc {s:Nat}:znK P (some ⟨.slice e,s,b,z1⟩) p c d σ K3 ⟨⟩=zos (lay P e) p c d σ K3 ⟨⟩:=(rfl)
theorem zrC {z1:List Value}:zos (some ⟨kd,k,b,some z1⟩) p c d ⟨tm,bx,nx,lg⟩ K3 ⟨⟩=zpC (d.xs? k bx) p k b z1 c ⟨tm,bx,nx,lg⟩ K3 ⟨⟩:=(rfl)
theorem zlf {k2:Nat}:C.xs? k bx (.bs i off k2 n cap)=xsB k2 k off n (bx[i]?):=(rfl)
theorem zp7:xsB k k off n (some cs)=if off+n*k<=cs.length then some (n,(cs.drop off).take (n*k)) else none:=(show xsB k k off n (some cs)=if off+n*k<=cs.length then some (n,(cs.drop off).take (n*k)) else none from by simp[xsB])
theorem zlh:Zo i cs bx=(Ny (J5 i) some bx).set i cs:=(rfl)
theorem zmr:J5 i j=if j=i then none else some j:=(rfl)
theorem zim:C.frz (.bs i off k n cap) = .any:=(show C.frz (.bs i off k n cap) = .any from by rw[C.frz])
theorem zmQ:C.re fp fo (.bs i off k n cap)=bsO (fp i) off k n cap:=(show C.re fp fo (.bs i off k n cap)=bsO (fp i) off k n cap from by rw[C.re];rfl)
theorem zo6:bsO (some j) off k n cap = .bs j off k n cap:=(rfl)
theorem zo9:bsO none off k n cap = .any:=(rfl)
theorem zcs:C.cellB (.bs i off k n cap)=true:=(rfl)
theorem zbd:C.partB (.bs i off k n cap)=true:=(rfl)
theorem zbp:C.cells (.bs i off k n cap) = [.bs i off k n cap]:=(rfl)
theorem znS {rows:List (List C)} {n:Int}:zms (some rows) n K ⟨⟩=zr8 (rows[n.toNat]?) n K ⟨⟩:=(rfl)
theorem zs3 {n:Int}:zr8 (some r) n K ⟨⟩=(0<=n/\K (.row r)):=(rfl)
theorem zmH {m:Nat} {n:Int}:zqw (some L) (.row cs) m n K ⟨⟩=(0<=n/\n<((m+1:Nat):Int)/\K (.row (cs.drop (n.toNat*L.size)))):=(rfl)
theorem zs2:yC P t c d K ⟨⟩=zoF (lay P t) c d K ⟨⟩:=(rfl)
theorem zqF {s:Nat} {k:IntKind} {n:Int}:zoF (some ⟨.str,s,b,z1⟩) (.str l) (.sc (.int k n)) K ⟨⟩=zkr (l[n.toNat]?) n K ⟨⟩:=(show zrW (some ⟨.str,s,b,z1⟩) (.str l) (.sc (.int k n)) K=znd (l[n.toNat]?) n K from by unfold zrW znd;simp)
theorem zoV {b:UInt8} {n:Int}:zkr (some b) n K ⟨⟩=(0<=n/\K (.sc (.int .u8 (b.toNat:Int)))):=(rfl)
theorem zsN {lo hi mx:Option C}:xR P t c lo hi mx K ⟨⟩=zpm P t c (uS lo) (uS hi) (uS mx) K ⟨⟩:=(rfl)
theorem zrM:zpm P t c (some lo) (some hi) (some mx) K ⟨⟩=zk2 P (lay P t) c lo hi mx K ⟨⟩:=(rfl)
theorem zb5:uS none=some none:=(rfl)
theorem zgh {k:IntKind} {n:Int}:uS (some (.sc (.int k n)))=some (some n):=(rfl)
theorem zjR {s:Nat}:zk2 P (some ⟨.str,s,b,z1⟩) (.str l) lo hi none K ⟨⟩=(j7 l.length lo hi/\K (.str (cut l lo hi))):=(rfl)
theorem zbD {s:Nat}:zk2 P (some ⟨.slice e,s,b,z1⟩) c lo hi mx K ⟨⟩=zfv (lay P e) c lo hi mx K ⟨⟩:=(rfl)
theorem zps {rows:List (List C)}:zg7 (some rows) k lo hi none K ⟨⟩=(j7 rows.length lo hi/\K (.sl k (cut rows lo hi))):=(rfl)
theorem zoL {rows:List (List C)} {h m:Int}:zg7 (some rows) k lo (some h) (some m) K ⟨⟩=(m=h/\j7 rows.length lo (some h)/\K (.tight k (cut rows lo (some h)))):=(rfl)
theorem zhS {α:Type} {l:List α}:cut l (some a) none=l.drop a.toNat:=(rfl)
theorem zj0 {α:Type} {l:List α} {b:Int}:cut l none (some b)=l.take b.toNat:=(rfl)
theorem zjG {α:Type} {l:List α} {b:Int}:cut l (some a) (some b)=(l.take b.toNat).drop a.toNat:=(rfl)
theorem zbS:j7 n (some a) none=(0<=a/\a<=(n:Int)):=(rfl)
theorem zbJ {b:Int}:j7 n none (some b)=(0<=b/\b<=(n:Int)):=(rfl)
theorem zcq {b:Int}:j7 n (some a) (some b)=(0<=a/\a<=b/\b<=(n:Int)):=(rfl)
theorem ze8 {rows:List (List C)}:C.rows? k (.sl k rows)=some rows:=(show C.rows? k (.sl k rows)=some rows from by simp[C.rows?])
theorem zct {id:Nat} {rows:List (List C)}:C.rows? k (.own id e k rows)=some rows:=(show C.rows? k (.own id e k rows)=some rows from by simp[C.rows?])
theorem zoc:zkn P t t' c K ⟨⟩=zmv P (lay P t') (lay P t) c K ⟨⟩:=(rfl)
theorem za6 {k k0:IntKind} {n:Int} {s:Nat}:zmv P (some ⟨.int k,s,b,z1⟩) (some L) (.sc (.int k0 n)) K ⟨⟩=(inR k n/\K (.sc (.int k n))):=(rfl)
theorem zi4 {s s2 b2:Nat} {k k0:IntKind} {n:Int}:zmv P (some ⟨.str,s,b,z1⟩) (some ⟨.int k,s2,b2,z2⟩) (.sc (.int k0 n)) K ⟨⟩=K (.str (Utf8.encode n).data.toList):=(rfl)
theorem zfI:xT P t (.str l) K ⟨⟩=zks (lay P t) (l.length:Int) K ⟨⟩:=(rfl)
theorem zha {rows:List (List C)}:xT P t (.sl k rows) K ⟨⟩=M4 (lay P t) (rows.length:Int) K ⟨⟩:=(rfl)
theorem zcU {id:Nat} {rows:List (List C)}:xT P t (.own id e k rows) K ⟨⟩=M4 (lay P t) (rows.length:Int) K ⟨⟩:=(rfl)
theorem zgu:xT P t (.sc (.slice none 0 0)) K ⟨⟩=M4 (lay P t) 0 K ⟨⟩:=(rfl)
theorem zqv {s:Nat} {n:Int}:M4 (some ⟨.slice e,s,b,z1⟩) n K ⟨⟩=K (.sc (.int .i64 n)):=(rfl)
theorem zoO {s:Nat} {n:Int}:zks (some ⟨.str,s,b,z1⟩) n K ⟨⟩=K (.sc (.int .i64 n)):=(rfl)
theorem zmP:vf P t ps K ⟨⟩=zpM (lay P t) ps K ⟨⟩:=(rfl)
theorem zhO {fs:List (Nat×Nat×Bool)} {s:Nat} {z1:List Value}:zpM (some ⟨.struct fs,s,b,some z1⟩) ps K ⟨⟩=((ps.all fun p=>p.2.partB)=true/\zsd (Y9 (plS fs) (z1.map zD) ps) K ⟨⟩):=(show zr1 (some ⟨.struct fs,s,b,some z1⟩) ps K=((ps.all fun p=>p.2.partB)=true/\aFl (Y9 (plS fs) (z1.map zD) ps) K) from by unfold zr1 aFl;simp only[];rfl)
theorem zs1:zsd (some cs) K ⟨⟩=K (.agg cs):=(rfl)
theorem zlJ:Y9 place cs []=some cs:=(rfl)
theorem zqe {rest:List (Nat×C)}:Y9 place cs ((i,c) :: rest)=zke (place i) place cs c.cells rest:=(rfl)
theorem zmf {l:List C} {rest:List (Nat×C)}:zke (some (off,size)) place cs l rest=(if l.length=size/\off+size<=cs.length then Y9 place (cs.take off++l++cs.drop (off+size)) rest else none):=(rfl)
theorem zrd {fs:List (Nat×Nat×Bool)}:plS fs i=(fs[i]?).map fun f=>(f.1,f.2.1):=(rfl)
theorem zq7:plA k i=some (i*k,k):=(rfl)
theorem zsL:Qd P t n ps nx K2 ⟨⟩=zqj P (lay P t) n ps nx K2 ⟨⟩:=(rfl)
theorem zrF {s:Nat}:zqj P (some ⟨.slice e,s,b,z1⟩) n ps nx K2 ⟨⟩=zqu (lay P e) e n ps nx K2 ⟨⟩:=(rfl)
theorem zra {z1:List Value}:zqu (some ⟨kd,k,b,some z1⟩) e n ps nx K2 ⟨⟩=(z1.length=k/\0<k/\n*k<=16777216/\(ps.all fun p=>p.2.frz.partB)=true/\zpc (Y9 (plA k) (List.replicate n (z1.map zD)).flatten (ps.map fun p=>(p.1,p.2.frz))) e k n nx K2 ⟨⟩):=(rfl)
theorem zrO:zpc (some cs) e k n nx K2 ⟨⟩=((cs.all C.cellB)=true/\cs.length=n*k/\K2 (.own nx e k (QG k n cs)) (nx+1)):=(rfl)
theorem zrt:MT P t c d ⟨tm,bx,nx,lg⟩ K3 ⟨⟩=zkJ P (lay P t) c d ⟨tm,bx,nx,lg⟩ K3 ⟨⟩:=(rfl)
theorem znU {s:Nat} {k:IntKind} {l m:Int}:zkJ P (some ⟨.slice e,s,b,z1⟩) (.sc (.int k l)) (.sc (.int k2 m)) ⟨tm,bx,nx,lg⟩ K3 ⟨⟩=zkk (lay P e) l m ⟨tm,bx,nx,lg⟩ K3 ⟨⟩:=(rfl)
theorem zpO {z1:List Value} {l m:Int}:zkk (some ⟨kd,k,b,some z1⟩) l m ⟨tm,bx,nx,lg⟩ K3 ⟨⟩=(z1.length=k/\0<k/\(z1.all Value.oneCell')=true/\0<=l/\l<=m/\(b:Int)*m<=281474976710656/\m<=9223372036854775807/\K3 (.bs bx.length 0 k l.toNat m.toNat) ⟨tm,bx++[(List.replicate m.toNat (z1.map zD)).flatten],nx,lg⟩):=(rfl)
theorem zsj:zkE P t c d nx K2 ⟨⟩=zp9 P (lay P t) c d nx K2 ⟨⟩:=(rfl)
theorem zrL {s:Nat} {k:IntKind} {l m:Int}:zp9 P (some ⟨.slice e,s,b,z1⟩) (.sc (.int k l)) (.sc (.int k2 m)) nx K2 ⟨⟩=znR (lay P e) e l m nx K2 ⟨⟩:=(rfl)
theorem zrw {z1:List Value} {l m:Int}:znR (some ⟨kd,k,b,some z1⟩) e l m nx K2 ⟨⟩=(z1.length=k/\0<k/\(z1.all Value.oneCell')=true/\0<=l/\l<=m/\(b:Int)*m<=281474976710656/\m<=9223372036854775807/\K2 (.own nx e k (List.replicate l.toNat (z1.map zD))) (nx+1)):=(rfl)
theorem zdB {id:Nat} {rows:List (List C)}:ug P t (.own id e k rows) d ⟨tm,bx,nx,lg⟩ K3 ⟨⟩=zoS P (lay P t) id e k rows d ⟨tm,bx,nx,lg⟩ K3 ⟨⟩:=(rfl)
theorem zop:zal P t c d nx K2 ⟨⟩=zqt P (lay P t) c d nx K2 ⟨⟩:=(rfl)
theorem zry {s:Nat}:zqt P (some ⟨.slice e,s,b,z1⟩) c d nx K2 ⟨⟩=zpE (lay P e) e c d nx K2 ⟨⟩:=(rfl)
theorem zrI {z1:List Value}:zpE (some ⟨kd,k,b,some z1⟩) e c d nx K2 ⟨⟩=zpK (d.rows? k) c e k b z1 nx K2 ⟨⟩:=(rfl)
theorem zpZ {k0:Nat} {z1:List Value} {xs rows:List (List C)}:zpK (some xs) (.tight k0 rows) e k b z1 nx K2 ⟨⟩=(k0=k/\z1.length=k/\0<k/\rows.length+xs.length<=9223372036854775807/\(rows.length+xs.length)*b<=140737488355328/\(xs = []->K2 (.tight k0 rows) nx)/\(¬xs = []->K2 (.own nx e k (rows++xs)) (nx+1))):=(rfl)
theorem zie {a:Nat} (h:Nat.ble a b=true):a<=b:=OL h
theorem lS:(∀ {α:Type} (a b:List α),(a++b).length=a.length+b.length)/\(∀ {α:Type} (a:α) (b:List α),(a :: b).length=b.length+1)/\(∀ {α:Type},([]:List α).length=0)/\(∀ {α β:Type} (f:α->β) (l:List α),(l.map f).length=l.length)/\(∀ {α:Type} (n:Nat) (l:List α),(l.take n).length=min n l.length)/\∀ {α:Type} (n:Nat) (l:List α),(l.drop n).length=l.length-n:=⟨fun _ _=>Wk,fun _ _=>Wr,OC,fun _ _=>We _,fun _ _=>W5,fun _ _=>W6⟩
theorem zq0 {α:Type} {x:α} {l:List α}:((x :: l) = [])=False:=by simp
theorem zsZ {p:Prop}:(True->p)=p:=by simp
theorem zsq {p:Prop}:(False->p)=True:=by simp
theorem zsR:(¬False)=True:=by simp
theorem zrE {e0 s id:Nat} {rows:List (List C)}:zoS P (some ⟨.slice e0,s,b,z1⟩) id e k rows c σ K3 ⟨⟩=zpQ (lay P e) e0 id e k rows c σ K3 ⟨⟩:=(rfl)
theorem zrz {k0 e0 id:Nat} {z1:List Value} {rows:List (List C)}:zpQ (some ⟨kd,k0,b,some z1⟩) e0 id e k rows c σ K3 ⟨⟩=(e0=e/\k0=k/\z1.length=k/\0<k/\zpa (c.rows? k) b id e k rows σ K3 ⟨⟩):=(show zq1 (some ⟨kd,k0,b,some z1⟩) e0 id e k rows c σ K3=(e0=e/\k0=k/\z1.length=k/\0<k/\zrh (c.rows? k) b id e k rows σ K3) from by unfold zq1 zrh;simp only[];cases c.rows? k<;>simp)
theorem zqL {xs rows:List (List C)} {id:Nat}:zpa (some xs) b id e k rows ⟨tm,bx,nx,lg⟩ K3 ⟨⟩=(rows.length+xs.length<=9223372036854775807/\(rows.length+xs.length)*b<=140737488355328/\K3 (.own id e k (rows++xs)) ⟨zay id tm,xD id bx,nx,lg⟩):=(rfl)
theorem zmM {fs:List C}:y6 P G h (.clo (.func f) fs cs) args ⟨tm,bx,nx,lg⟩ K3 ⟨⟩ ⟨⟩=QQ P G f (fs++args++cs) (C.frzL (fs++args++cs)) ⟨tm,bx,nx,lg⟩ K3 ⟨⟩:=(rfl)
theorem zk4 {l:Nat} {items:List (List C)} {sf:Nat->Bool}:y6 P G ⟨p,some ⟨l,items,sf⟩,bf⟩ (.sc (.func (.yield l) #[] #[])) args ⟨tm,bx,nx,lg⟩ K3 ⟨⟩ ⟨⟩=uK ⟨l,items,sf⟩ (items[lg]?) args ⟨tm,bx,nx,lg⟩ K3 ⟨⟩ ⟨⟩:=(show NT P G ⟨p,some ⟨l,items,sf⟩,bf⟩ (.sc (.func (.yield l) #[] #[])) args ⟨tm,bx,nx,lg⟩ K3=Gi ⟨l,items,sf⟩ (items[lg]?) args ⟨tm,bx,nx,lg⟩ K3 from by simp[NT,v6])
theorem zhk {l:Nat} {items:List (List C)} {sf:Nat->Bool} {it:List C}:uK ⟨l,items,sf⟩ (some it) args ⟨tm,bx,nx,lg⟩ K3 ⟨⟩ ⟨⟩=(zg [] 0 args it/\(∀ j,j<lg->sf j=false)/\K3 (.sc (.bool (!sf lg))) ⟨tm,bx,nx,lg+1⟩):=(rfl)
theorem zpf {ι:List Nat}:upB ι m j=match ι[j]? with | some i=>some i | none=>some (m+(j-ι.length)):=(rfl)
theorem zrQ:XK [] i=none:=(rfl)
theorem zr0 {x1:Nat} {r:List Nat}:XK (x1 :: r) i=if i=x1 then some 0 else (XK r i).map (·+1):=(rfl)
theorem zl1:HF fp fo [] = []:=(rfl)
theorem zn1 {r:List (Nat×C)}:HF fp fo ((u,c) :: r)=(u,c.re fp fo) :: HF fp fo r:=(rfl)
theorem znt:Ny fp fo [] = []:=(rfl)
theorem zpn {r:List (List C)}:Ny fp fo (cs :: r)=C.reL fp fo cs :: Ny fp fo r:=(rfl)
theorem ziH {l:List (List C)}:VA [] l bx=bx:=(rfl)
theorem zh4 {ι:List Nat} {r:List (List C)}:VA (i :: ι) (cs :: r) bx=VA ι r (bx.set i cs):=(rfl)
theorem zi2 {ι κ:List Nat}:Zu ι κ bx' n ⟨tm,bx,nx,lg⟩=⟨HF some (Zc κ) tm,VA ι (Ny (upB ι bx.length) (upO nx) bx') (Ny some (Zc κ) bx)++Ny (upB ι bx.length) (upO nx) (bx'.drop ι.length),nx+n,lg⟩:=(rfl)
theorem zkT {κ:List Nat}:Zc κ i=if i∈κ then none else some i:=(rfl)
theorem zii:Hv m i=if i<m then some i else none:=(rfl)
theorem zjf:YW m i=if i<m then none else some (i-m):=(rfl)
theorem zmU {fs:List C}:zec P G (.clo (.func f) fs cs) args nx K2 ⟨⟩=yV P G f (C.frzL (fs++args++cs)) nx K2 ⟨⟩:=(rfl)
theorem zrD {s:Nat} {z1:List Value}:zpW (some ⟨kd,s,b,some z1⟩) ⟨tm,bx,nx,lg⟩ K3 ⟨⟩=((z1.all Value.oneCell')=true/\K3 (.ptr bx.length 0) ⟨tm,bx++[z1.map zD],nx,lg⟩):=(rfl)
theorem zri:zpD c ⟨tm,bx,nx,lg⟩ K3 ⟨⟩=(c.partB=true/\(c.cells.all C.cellB)=true/\K3 (.ptr bx.length 0) ⟨tm,bx++[c.cells],nx,lg⟩):=(rfl)
theorem zrb:zoq (some L) (.ptr i off) c ⟨tm,bx,nx,lg⟩ K3 ⟨⟩=zpx (bx[i]?) i off L.size c ⟨tm,bx,nx,lg⟩ K3 ⟨⟩:=(rfl)
theorem zrn:zpx (some cs) i off size c ⟨tm,bx,nx,lg⟩ K3 ⟨⟩=(c.partB=true/\(c.cells.all C.cellB)=true/\c.cells.length=size/\off+size<=cs.length/\K3 .any ⟨tm,bx.set i (cs.take off++c.cells++cs.drop (off+size)),nx,lg⟩):=(rfl)
theorem zhl:C.frz (.sc v) = .sc v:=(show C.frz (.sc v) = .sc v from by rw[C.frz])
theorem zmV {id:Nat}:C.dg id (.sc v) = .sc v:=(show C.dg id (.sc v) = .sc v from by rw[C.dg])
theorem zmD:C.sh n (.sc v) = .sc v:=(show C.sh n (.sc v) = .sc v from by rw[C.sh])
theorem zef:C.frz (.str l) = .str l:=(show C.frz (.str l) = .str l from by rw[C.frz])
theorem zhe {id:Nat}:C.dg id (.str l) = .str l:=(show C.dg id (.str l) = .str l from by rw[C.dg])
theorem ziM:C.sh n (.str l) = .str l:=(show C.sh n (.str l) = .str l from by rw[C.sh])
theorem zjs {rows:List (List C)}:C.frz (.sl k rows) = .sl k rows:=(show C.frz (.sl k rows) = .sl k rows from by rw[C.frz])
theorem zlj {rows:List (List C)} {id:Nat}:C.dg id (.sl k rows) = .sl k rows:=(show C.dg id (.sl k rows) = .sl k rows from by rw[C.dg])
theorem zmw {rows:List (List C)}:C.sh n (.sl k rows) = .sl k rows:=(show C.sh n (.sl k rows) = .sl k rows from by rw[C.sh])
theorem zdO:C.frz (.row cs) = .row cs:=(show C.frz (.row cs) = .row cs from by rw[C.frz])
theorem zi0 {id:Nat}:C.dg id (.row cs) = .row cs:=(show C.dg id (.row cs) = .row cs from by rw[C.dg])
theorem zjg:C.sh n (.row cs) = .row cs:=(show C.sh n (.row cs) = .row cs from by rw[C.sh])
theorem zhj {id:Nat}:C.dg id (.any) = .any:=(show C.dg id (.any) = .any from by rw[C.dg])
theorem zhY:C.sh n (.any) = .any:=(show C.sh n (.any) = .any from by rw[C.sh])
theorem zlE {ks:MK}:C.sh n (.mo i t2 ks vs) = .mo (n+i) t2 ks vs:=(show C.sh n (.mo i t2 ks vs) = .mo (n+i) t2 ks vs from by rw[C.sh])
theorem zl3 {ks:MK}:C.fz bx (.mo i t2 ks vs) = .mo i t2 ks vs:=(show C.fz bx (.mo i t2 ks vs) = .mo i t2 ks vs from by rw[C.fz])
theorem zmO {id:Nat}:C.up id ks1 vs1 (.sc v) = .sc v:=(show C.up id ks1 vs1 (.sc v) = .sc v from by rw[C.up])
theorem zkZ {ks:MK} {id:Nat}:C.up id ks1 vs1 (.mo i t2 ks vs)=if i=id then .mo i t2 ks1 vs1 else .mo i t2 ks vs:=(show C.up id ks1 vs1 (.mo i t2 ks vs)=if i=id then .mo i t2 ks1 vs1 else .mo i t2 ks vs from by rw[C.up])
theorem zbw {id:Nat}:zgZ id ks1 vs1 [] = []:=(rfl)
theorem zpH {r:List (Nat×C)} {id:Nat}:zgZ id ks1 vs1 ((u,c) :: r)=(u,c.up id ks1 vs1) :: zgZ id ks1 vs1 r:=(rfl)
theorem zbB {id:Nat}:ze0 id ks1 vs1 [] = []:=(rfl)
theorem zdo {id:Nat} {rows:List (List C)}:C.frz (.own id e k rows) = .sl k rows:=(show C.frz (.own id e k rows) = .sl k rows from by rw[C.frz])
theorem zf5:C.frz (.ptr i off) = .any:=(show C.frz (.ptr i off) = .any from by rw[C.frz])
theorem zia {id:Nat}:C.dg id (.ptr i off) = .ptr i off:=(show C.dg id (.ptr i off) = .ptr i off from by rw[C.dg])
theorem zhF {id:Nat} {rows:List (List C)}:C.dg id (.own i e k rows)=if i=id then .sl k rows else .own i e k rows:=(show C.dg id (.own i e k rows)=if i=id then .sl k rows else .own i e k rows from by rw[C.dg])
theorem zj6 {rows:List (List C)}:C.sh n (.own i e k rows) = .own (n+i) e k rows:=(show C.sh n (.own i e k rows) = .own (n+i) e k rows from by rw[C.sh])
theorem zkX:C.re fp fo (.sc v) = .sc v:=(show C.re fp fo (.sc v) = .sc v from by rw[C.re])
theorem zjM:C.sel fp (.sc v) = .sc v:=(show C.sel fp (.sc v) = .sc v from by rw[C.sel])
theorem zhi:C.re fp fo (.str l) = .str l:=(show C.re fp fo (.str l) = .str l from by rw[C.re])
theorem zf7:C.sel fp (.str l) = .str l:=(show C.sel fp (.str l) = .str l from by rw[C.sel])
theorem zk7 {rows:List (List C)}:C.re fp fo (.sl k rows) = .sl k rows:=(show C.re fp fo (.sl k rows) = .sl k rows from by rw[C.re])
theorem zh1 {rows:List (List C)}:C.sel fp (.sl k rows) = .sl k rows:=(show C.sel fp (.sl k rows) = .sl k rows from by rw[C.sel])
theorem zbi {rows:List (List C)}:C.re fp fo (.tight k rows) = .tight k rows:=(show C.re fp fo (.tight k rows) = .tight k rows from by rw[C.re])
theorem zjm:C.re fp fo (.row cs) = .row cs:=(show C.re fp fo (.row cs) = .row cs from by rw[C.re])
theorem zfP:C.sel fp (.row cs) = .row cs:=(show C.sel fp (.row cs) = .row cs from by rw[C.sel])
theorem zjZ:C.re fp fo (.any) = .any:=(show C.re fp fo (.any) = .any from by rw[C.re])
theorem zlM:C.fz bx (.sc v) = .sc v:=(show C.fz bx (.sc v) = .sc v from by rw[C.fz])
theorem zhf:C.fz bx (.str l) = .str l:=(show C.fz bx (.str l) = .str l from by rw[C.fz])
theorem zl9 {rows:List (List C)}:C.fz bx (.sl k rows) = .sl k rows:=(show C.fz bx (.sl k rows) = .sl k rows from by rw[C.fz])
theorem zjo {id:Nat} {rows:List (List C)}:C.fz bx (.own id e k rows) = .own id e k rows:=(show C.fz bx (.own id e k rows) = .own id e k rows from by rw[C.fz])
theorem ziS:C.fz bx (.row cs) = .row cs:=(show C.fz bx (.row cs) = .row cs from by rw[C.fz])
theorem zjb:C.fz bx (.ptr i off)=zq3 (bx[i]?) off:=(show C.fz bx (.ptr i off)=zq3 (bx[i]?) off from by rw[C.fz];rfl)
theorem zlO:zq3 (some cs) off = .row ((C.frzL cs).drop off):=(rfl)
theorem zaI {f:Fn} {a b:Array Value}:Value.oneCell' (.func f a b)=true:=(rfl)
theorem ziW {id:Nat} {rows:List (List C)}:C.re fp fo (.own id e k rows)=zqA (fo id) e k rows:=(show C.re fp fo (.own id e k rows)=zqA (fo id) e k rows from by rw[C.re];rfl)
theorem zhP:C.re fp fo (.ptr i off)=znI (fp i) off:=(show C.re fp fo (.ptr i off)=znI (fp i) off from by rw[C.re];rfl)
theorem zfd:C.sel fp (.ptr i off)=znI (fp i) off:=(show C.sel fp (.ptr i off)=znI (fp i) off from by rw[C.sel];rfl)
theorem zml {rows:List (List C)}:zqA (some j) e k rows = .own j e k rows:=(rfl)
theorem zli {rows:List (List C)}:zqA none e k rows = .sl k rows:=(rfl)
theorem zlw:znI (some j) off = .ptr j off:=(rfl)
theorem zk9:znI none off = .any:=(rfl)
theorem znr:C.fy nx fr bx (.sc v) = .sc v:=(show C.fy nx fr bx (.sc v) = .sc v from by rw[C.fy])
theorem zmI {rows:List (List C)}:C.fy nx fr bx (.sl k rows) = .sl k rows:=(show C.fy nx fr bx (.sl k rows) = .sl k rows from by rw[C.fy])
theorem zlg:C.fy nx fr bx (.bs i off k n cap)=Uj nx fr i off k n cap:=(show C.fy nx fr bx (.bs i off k n cap)=Uj nx fr i off k n cap from by rw[C.fy])
theorem zi3 {i2 k2 cap2:Nat} {rows:List (List C)} {r:Fr}:Uj nx ((i2,e,k2,rows,cap2) :: r) i off k n cap=if i=i2/\off=0/\k=k2/\n=rows.length/\cap=cap2 then .own nx e k2 rows else Uj (nx+1) r i off k n cap:=(show Uj nx ((i2,e,k2,rows,cap2) :: r) i off k n cap=if i=i2/\off=0/\k=k2/\n=rows.length/\cap=cap2 then .own nx e k2 rows else Uj (nx+1) r i off k n cap from by rw[Uj])
theorem zi7:C.re fp fo (.agg cs) = .agg (C.reL fp fo cs):=(show C.re fp fo (.agg cs) = .agg (C.reL fp fo cs) from by rw[C.re])
theorem zg2:C.re fp fo (.tup cs) = .tup (C.reL fp fo cs):=(show C.re fp fo (.tup cs) = .tup (C.reL fp fo cs) from by rw[C.re])
theorem zhr {fs:List C}:C.re fp fo (.clo fn fs cs) = .clo fn (C.reL fp fo fs) (C.reL fp fo cs):=(show C.re fp fo (.clo fn fs cs) = .clo fn (C.reL fp fo fs) (C.reL fp fo cs) from by rw[C.re])
theorem zej:C.reL fp fo [] = []:=(show C.reL fp fo [] = [] from by rw[C.reL])
theorem zaT:C.reL fp fo (c :: r)=C.re fp fo c :: C.reL fp fo r:=(show C.reL fp fo (c :: r)=C.re fp fo c :: C.reL fp fo r from by rw[C.reL])
theorem zgR:C.sel fp (.agg cs) = .agg (C.selL fp cs):=(show C.sel fp (.agg cs) = .agg (C.selL fp cs) from by rw[C.sel])
theorem ze2 {fs:List C}:C.sel fp (.clo fn fs cs) = .clo fn (C.selL fp fs) (C.selL fp cs):=(show C.sel fp (.clo fn fs cs) = .clo fn (C.selL fp fs) (C.selL fp cs) from by rw[C.sel])
theorem zcE:C.selL fp [] = []:=(show C.selL fp [] = [] from by rw[C.selL])
theorem xU:C.selL fp (c :: r)=C.sel fp c :: C.selL fp r:=(show C.selL fp (c :: r)=C.sel fp c :: C.selL fp r from by rw[C.selL])
theorem zig :C.fz bx (.agg cs) = .agg (C.fzL bx cs):=(show C.fz bx (.agg cs) = .agg (C.fzL bx cs) from by rw[C.fz])
theorem zi6 :C.fz bx (.tup cs) = .tup (C.fzL bx cs):=(show C.fz bx (.tup cs) = .tup (C.fzL bx cs) from by rw[C.fz])
theorem ziD {fs:List C} :C.fz bx (.clo fn fs cs) = .clo fn (C.fzL bx fs) (C.fzL bx cs):=(show C.fz bx (.clo fn fs cs) = .clo fn (C.fzL bx fs) (C.fzL bx cs) from by rw[C.fz])
theorem zdc:C.fzL bx [] = []:=(show C.fzL bx [] = [] from by rw[C.fzL])
theorem zcl :C.fzL bx (c :: r)=C.fz bx c :: C.fzL bx r:=(show C.fzL bx (c :: r)=C.fz bx c :: C.fzL bx r from by rw[C.fzL])
theorem zjp:C.fy nx fr bx (.agg cs) = .agg (C.fyL nx fr bx cs):=(show C.fy nx fr bx (.agg cs) = .agg (C.fyL nx fr bx cs) from by rw[C.fy])
theorem zji:C.fy nx fr bx (.tup cs) = .tup (C.fyL nx fr bx cs):=(show C.fy nx fr bx (.tup cs) = .tup (C.fyL nx fr bx cs) from by rw[C.fy])
theorem zgH:C.fyL nx fr bx [] = []:=(show C.fyL nx fr bx [] = [] from by rw[C.fyL])
theorem zbN:C.fyL nx fr bx (c :: r)=C.fy nx fr bx c :: C.fyL nx fr bx r:=(show C.fyL nx fr bx (c :: r)=C.fy nx fr bx c :: C.fyL nx fr bx r from by rw[C.fyL])
theorem zev:C.frz (.agg cs) = .agg (C.frzL cs):=(show C.frz (.agg cs) = .agg (C.frzL cs) from by rw[C.frz])
theorem zfk {fs:List C}:C.frz (.clo fn fs cs) = .clo fn (C.frzL fs) (C.frzL cs):=(show C.frz (.clo fn fs cs) = .clo fn (C.frzL fs) (C.frzL cs) from by rw[C.frz])
theorem zbU:C.frzL [] = []:=(show C.frzL [] = [] from by rw[C.frzL])
theorem yi:C.frzL (c :: r)=C.frz c :: C.frzL r:=(show C.frzL (c :: r)=C.frz c :: C.frzL r from by rw[C.frzL])
theorem zjB {id:Nat}:C.dg id (.agg cs) = .agg (C.dgL id cs):=(show C.dg id (.agg cs) = .agg (C.dgL id cs) from by rw[C.dg])
theorem ziw {id:Nat}:C.dg id (.tup cs) = .tup (C.dgL id cs):=(show C.dg id (.tup cs) = .tup (C.dgL id cs) from by rw[C.dg])
theorem zkb {fs:List C} {id:Nat}:C.dg id (.clo fn fs cs) = .clo fn (C.dgL id fs) (C.dgL id cs):=(show C.dg id (.clo fn fs cs) = .clo fn (C.dgL id fs) (C.dgL id cs) from by rw[C.dg])
theorem zdi {id:Nat}:C.dgL id [] = []:=(show C.dgL id [] = [] from by rw[C.dgL])
theorem zaA {id:Nat}:C.dgL id (c :: r)=C.dg id c :: C.dgL id r:=(show C.dgL id (c :: r)=C.dg id c :: C.dgL id r from by rw[C.dgL])
theorem zju:C.sh n (.agg cs) = .agg (C.shL n cs):=(show C.sh n (.agg cs) = .agg (C.shL n cs) from by rw[C.sh])
theorem zib:C.sh n (.tup cs) = .tup (C.shL n cs):=(show C.sh n (.tup cs) = .tup (C.shL n cs) from by rw[C.sh])
theorem zis {fs:List C}:C.sh n (.clo fn fs cs) = .clo fn (C.shL n fs) (C.shL n cs):=(show C.sh n (.clo fn fs cs) = .clo fn (C.shL n fs) (C.shL n cs) from by rw[C.sh])
theorem zdF:C.shL n [] = []:=(show C.shL n [] = [] from by rw[C.shL])
theorem zaU:C.shL n (c :: r)=C.sh n c :: C.shL n r:=(show C.shL n (c :: r)=C.sh n c :: C.shL n r from by rw[C.shL])
theorem zcw {id:Nat}:zay id [] = []:=(rfl)
theorem zob {id:Nat} {r:List (Nat×C)}:zay id ((u,c) :: r)=(u,c.dg id) :: zay id r:=(rfl)
theorem zbX {id:Nat}:xD id [] = []:=(rfl)
theorem zp6 {id:Nat} {r:List (List C)}:xD id (cs :: r)=C.dgL id cs :: xD id r:=(rfl)
theorem x8:C.cellB (.str l)=true:=(rfl)
theorem yx:C.partB (.str l)=true:=(rfl)
theorem vU:C.cells (.str l) = [.str l]:=(rfl)
theorem zaF {rows:List (List C)}:C.cellB (.sl k rows)=true:=(rfl)
theorem zcg {rows:List (List C)}:C.partB (.sl k rows)=true:=(rfl)
theorem zcv {rows:List (List C)}:C.cells (.sl k rows) = [.sl k rows]:=(rfl)
theorem vg {id:Nat} {rows:List (List C)}:C.cellB (.own id e k rows)=true:=(rfl)
theorem vD {id:Nat} {rows:List (List C)}:C.partB (.own id e k rows)=true:=(rfl)
theorem yt {id:Nat} {rows:List (List C)}:C.cells (.own id e k rows) = [.own id e k rows]:=(rfl)
theorem vx {fs:List C}:C.cellB (.clo fn fs cs)=true:=(rfl)
theorem yT {fs:List C}:C.partB (.clo fn fs cs)=true:=(rfl)
theorem vG {fs:List C}:C.cells (.clo fn fs cs) = [.clo fn fs cs]:=(rfl)
theorem zbF:C.cellB (.sc v)=v.oneCell':=(rfl)
theorem zbQ:C.partB (.sc v)=v.oneCell':=(rfl)
theorem zcG:C.cells (.sc v) = [.sc v]:=(rfl)
theorem yD:C.partB (.agg cs)=true:=(rfl)
theorem yk:C.cells (.agg cs)=cs:=(rfl)
theorem zex {k:IntKind} {n:Int}:Value.oneCell' (.int k n)=true:=(rfl)
theorem za5 {b:Bool}:Value.oneCell' (.bool b)=true:=(rfl)
theorem yP {a:Option Addr} {m:Nat}:Value.oneCell' (.slice a n m)=true:=(rfl)
theorem NM {s:ByteArray}:Value.oneCell' (.string s)=true:=(rfl)
theorem zlR:QG k 0 cs = []:=(rfl)
theorem zmp:QG k (n+1) cs=cs.take k :: QG k n (cs.drop k):=(rfl)
theorem zlN:Uy i [] = []:=(rfl)
theorem zpk:Uy i (c :: r)=(i,c) :: Uy (i+1) r:=(rfl)
theorem zfl:zm8 (.sc (.bool true)) X Y ⟨⟩ ⟨⟩=X:=zj3
theorem zbc:zm8 (.sc (.bool false)) X Y ⟨⟩ ⟨⟩=Y:=zdY
theorem br {b:Bool} (hx:b=true->X) (hy:b=false->Y):zm8 (.sc (.bool b)) X Y ⟨⟩ ⟨⟩:=ABr.mk hx hy
theorem jy {a1:List C} (ι κ:List Nat) (hf:YH P G f a1 fbx q post) (hq:κ.length=q) (hι:ι.Nodup) (hκ:κ.Nodup) (hb:∀ i∈ι,i<bx.length)
  (ha:C.reL (XK ι) (XK κ) args=a1) (hx:(ι.map fun i=>C.reL (XK ι) (XK κ) (bx.getD i []))=fbx) (hK:∀ r fbx' n,post r fbx' n->K3 (r.re (upB ι bx.length) (upO nx)) (Zu ι κ fbx' n ⟨tm,bx,nx,lg⟩)):QQ P G f args fargs ⟨tm,bx,nx,lg⟩ K3 ⟨⟩:=
 .inr <| .inr <| .inr <| .inl ⟨ι,κ,post,hι,hκ,hb,by rw[ha,hq];exact hx▸hf,hK⟩
theorem zlC {K4:C->List (List C)->Nat->Prop} {a1:List C} (ι:List Nat) (hf:YH P G f a1 fbx 0 post) (hι:ι.Nodup) (hb:∀ i∈ι,i<bx.length)
  (ha:C.reL (XK ι) (XK []) args=a1) (hx:(ι.map fun i=>C.reL (XK ι) (XK []) (bx.getD i []))=fbx) (hK:∀ r fbx' n,post r fbx' n->K4 (r.re (upB ι bx.length) (upO nx)) (Zu ι [] fbx' n ⟨tm,bx,nx,lg⟩).bx (nx+n)):zr7 P G f args ⟨tm,bx,nx,lg⟩ K4 ⟨⟩:=
 ⟨ι,post,hι,hb,by rw[ha];exact hx▸hf,hK⟩
theorem zmG {r:C} (hf:zrX P f args bx r) (hK:K3 r ⟨tm,bx,nx,lg⟩):QQ P G f args fargs ⟨tm,bx,nx,lg⟩ K3 ⟨⟩:=.inr <| .inr <| .inr <| .inr ⟨r,hf,hK⟩
theorem zma {m:Nat} {z:Option (List Value)} {xs:List C} (hl:lay P t=some ⟨.slice e,s1,b1,z1⟩) (hle:lay P e=some ⟨kd,k,by',z⟩) (hx:d.xs? k bx=some (m,xs)) (hb:bx[i]?=some cs) (hxl:xs.length=m*k) (hfit:off+n*k<=cs.length)
  (hK:K3 (.sc (.int .i64 ((min m n:Nat):Int))) ⟨tm,bx.set i (spl cs off (xs.take (min m n*k))),nx,lg⟩):MJ P t (.bs i off k n cap) d ⟨tm,bx,nx,lg⟩ K3 ⟨⟩:=by
 show QX P t _ _ _ _;unfold QX;simp only[hl,hle,hx,hb];exact ⟨trivial,hxl,hfit,hK⟩
theorem zoT {m:Nat} {c:C} {z:Option (List Value)} {xs:List C} (hl:lay P t=some ⟨.slice e,s1,b1,z1⟩) (hle:lay P e=some ⟨kd,k,by',z⟩) (hx:d.xs? k bx=some (m,xs)) (hc:c.rows? k=some []) (hb:∀ i off k n c',c≠.bs i off k n c') (hxl:xs.length=m*k)
  (hK:K3 (.sc (.int .i64 0)) ⟨tm,bx,nx,lg⟩):MJ P t c d ⟨tm,bx,nx,lg⟩ K3 ⟨⟩:=by
 show QX P t _ _ _ _;unfold QX;simp only[hl,hle,hx];cases c<;>first
  | exact absurd rfl (hb _ _ _ _ _)
  | (simp only[hc];exact ⟨hxl,hK⟩)
theorem zpl {z:List Value} (hl:lay P t=some ⟨.slice e,s1,b1,z1⟩) (hle:lay P e=some ⟨kd,k,by',some z⟩) (hb:bx[i]?=some cs) (hz:z.length=k) (hk:0<k) (h1:(z.all Value.oneCell')=true) (hfit:off+n*k<=cs.length)
  (hK:K3 .any ⟨tm,bx.set i (spl cs off (List.replicate n (z.map zD)).flatten),nx,lg⟩):vQ P t (.bs i off k n cap) ⟨tm,bx,nx,lg⟩ K3 ⟨⟩:=by
 show U4 P t _ _ _;unfold U4;simp only[hl,hle,hb];exact ⟨trivial,hz,hk,h1,hfit,hK⟩
theorem No {m:Nat} {z:List Value} {xs:List C} (hl:lay P t=some ⟨.slice e,s1,b1,z1⟩) (hle:lay P e=some ⟨kd,k,by',some z⟩) (hx:d.xs? k bx=some (m,xs)) (hz:z.length=k) (hk:0<k) (h1:(z.all Value.oneCell')=true) (hxl:xs.length=m*k) (hm:0<m) (h63:m<=9223372036854775807) (hby:m*by'<=140737488355328)
  (hK:∀ cap,m<=cap->cap<=9223372036854775807->K3 (.bs bx.length 0 k m cap) ⟨tm,bx++[xs++List.replicate ((cap-m)*k) .any],nx,lg⟩):xS P t (.sc (.slice none 0 0)) d ⟨tm,bx,nx,lg⟩ K3 ⟨⟩:=by
 show YA P t _ _ _ _;unfold YA;simp only[hl,hle,hx];exact ⟨hz,hk,h1,hxl,hm,h63,hby,fun c h1 h2=>hK c h1 (by unfold maxLen at h2;omega)⟩
theorem Ze {m:Nat} {z:List Value} {xs:List C} (hl:lay P t=some ⟨.slice e,s1,b1,z1⟩) (hle:lay P e=some ⟨kd,k,by',some z⟩) (hx:d.xs? k bx=some (m,xs)) (hz:z.length=k) (hk:0<k) (h1:(z.all Value.oneCell')=true) (hxl:xs.length=m*k)
  (hb:bx[i]?=some cs) (hfit:off+cap*k<=cs.length) (hn:n<=cap) (h63:n+m<=9223372036854775807) (hby:(n+m)*by'<=140737488355328)
  (hK1:n+m<=cap->K3 (.bs i off k (n+m) cap) ⟨tm,bx.set i (spl cs (off+n*k) xs),nx,lg⟩)
  (hK2:cap<n+m->∀ c',n+m<=c'->c'<=9223372036854775807->K3 (.bs bx.length 0 k (n+m) c') ⟨tm,bx++[(cs.drop off).take (n*k)++xs++List.replicate ((c'-(n+m))*k) .any],nx,lg⟩):xS P t (.bs i off k n cap) d ⟨tm,bx,nx,lg⟩ K3 ⟨⟩:=by
 show YA P t _ _ _ _;unfold YA;simp only[hl,hle,hx,hb];exact ⟨hz,hk,h1,hxl,trivial,hfit,hn,h63,hby,hK1,fun h c h1 h2=>hK2 h c h1 (by unfold maxLen at h2;omega)⟩
theorem zf0 {tn s2 b2:Nat} {kn kq:IntKind} {z:List Value} {q:Int} (hl:lay P t=some ⟨.slice e,s1,b1,z1⟩) (hln:lay P tn=some ⟨.int kn,s2,b2,z2⟩) (hle:lay P e=some ⟨kd,k,by',some z⟩) (hz:z.length=k) (hk:0<k) (h1:(z.all Value.oneCell')=true)
  (hq:0<q) (h63:q<=9223372036854775807) (hby:q*by'<=140737488355328) (hK:∀ c',q.toNat<=c'->c'<=maxLen->K3 (.bs bx.length 0 k q.toNat c') ⟨tm,bx++[(List.replicate q.toNat (z.map zD)).flatten++List.replicate ((c'-q.toNat)*k) .any],nx,lg⟩) :
  zak P t tn (.sc (.slice none 0 0)) (.sc (.int kq q)) ⟨tm,bx,nx,lg⟩ K3 ⟨⟩:=by
 show Gn P t tn _ _ _ _;unfold Gn;simp only[hl,hln,hle];exact ⟨hz,hk,h1,hq,h63,hby,hK⟩
theorem zsv {tn s2 b2:Nat} {kn kq:IntKind} {z:List Value} {q:Int} (hl:lay P t=some ⟨.slice e,s1,b1,z1⟩) (hln:lay P tn=some ⟨.int kn,s2,b2,z2⟩) (hle:lay P e=some ⟨kd,k,by',some z⟩) (hz:z.length=k) (hk:0<k) (h1:(z.all Value.oneCell')=true)
  (hb:bx[i]?=some cs) (hfit:off+cap*k<=cs.length) (hn:n<=cap) (hq:0<q) (h63:(n:Int)+q<=9223372036854775807) (hby:((n:Int)+q)*by'<=140737488355328) (hg:(cap:Int)<n+q)
  (hK:∀ c',n+q.toNat<=c'->c'<=9223372036854775807->K3 (.bs bx.length 0 k (n+q.toNat) c') ⟨tm,bx++[(cs.drop off).take (n*k)++(List.replicate q.toNat (z.map zD)).flatten++List.replicate ((c'-(n+q.toNat))*k) .any],nx,lg⟩):zak P t tn (.bs i off k n cap) (.sc (.int kq q)) ⟨tm,bx,nx,lg⟩ K3 ⟨⟩:=by
 show Gn P t tn _ _ _ _;unfold Gn;simp only[hl,hln,hle,hb];exact ⟨hz,hk,h1,trivial,hfit,hn,hq,h63,hby,hg,fun c h1 h2=>hK c h1 (by unfold maxLen at h2;omega)⟩
def opB (P:Program) (fn:Func) (code:Code) (b:Nat->List Bool):Bool:=P.follows .mixedOrders&&(!(fn.name == "runtime.NumGoroutine")&&jQ fn.ntmps b code)
theorem zpy {fn:Func} {b:Nat->List Bool} (h:opB P fn code b=true):P.follows .mixedOrders=true:=(AZ.1 h).1
theorem zo2 {fn:Func} {b:Nat->List Bool} (h:opB P fn code b=true):(fn.name == "runtime.NumGoroutine")=false:=by
 have:=(AZ.1 (AZ.1 h).2).1;simpa using this
theorem zoR {fn:Func} {b:Nat->List Bool} (h:opB P fn code b=true):jQ fn.ntmps b code=true:=(AZ.1 (AZ.1 h).2).2
theorem foF {fn:Func} {r:C} (b:Nat->List Bool) (hf:P.funcs[f]?=some fn)
  (h:Ve P G ⟨0,none,b⟩ code (xj P fn.results.toList (fun c σ=>∃ (fr:Fr) (src:Src),zbv fr σ.bx/\QF src=true/\src.length=n/\CLe src 0 (c.fy σ.nx fr σ.bx) r) ⟨⟩) ⟨Uy 0 args,[],0,0⟩ ⟨⟩ ⟨⟩) (hb:fn.body=some code:=by rfl) (hN:args.length<=fn.ntmps:=by exact zie rfl) (ho:opB P fn code b=true:=by kernel_rfl):Fun P G f args r n:=Fun.of_awpF b (zpy ho) hf hb (zo2 ho) hN (zoR ho) h
theorem foX {fn:Func} {bx:List (List C)} (b:Nat->List Bool) (hf:P.funcs[f]?=some fn)
  (h:Ve P G ⟨bx.length,none,b⟩ code (xj P fn.results.toList (fun c σ=>∃ r bx' n,(post r bx' n/\bx.length<=bx'.length)/\∃ src:Src,QF src=true/\src.length=n/\zd src bx'.length σ.bx bx'/\CLe src bx'.length c r) ⟨⟩) ⟨Uy 0 args,bx,q,0⟩ ⟨⟩ ⟨⟩) (hb:fn.body=some code:=by rfl) (hN:args.length<=fn.ntmps:=by exact zie rfl) (ho:opB P fn code b=true:=by kernel_rfl):YH P G f args bx q post:=YH.of_awp b (zpy ho) hf hb (zo2 ho) hN (zoR ho) h
theorem zo0 {r:C} (gargs:List C) (hf:Fun P G f gargs r n) (hr:r.freshB=true) (hl:XF bx args gargs) (hK:K3 (r.sh nx) ⟨tm,bx,nx+n,lg⟩):QQ P G f args fargs ⟨tm,bx,nx,lg⟩ K3 ⟨⟩:=.inr <| .inr <| .inl ⟨gargs,r,n,hl,hf,hr,hK⟩
theorem call {r:C} (hf:Fun P G f fargs r n) (hK:K3 (r.sh nx) ⟨tm,bx,nx+n,lg⟩):QQ P G f args fargs ⟨tm,bx,nx,lg⟩ K3 ⟨⟩:=.inl ⟨r,n,hf,hK⟩
theorem zaE {r:C} (hf:Fun P G f args r n) (hK:K2 (r.sh nx) (nx+n)):yV P G f args nx K2 ⟨⟩:=uk.mk hf hK
theorem Fun.less {args':List C} {r:C} (hf:Fun P G f args' r n) (hl:zg [] 0 args args'):Fun P G f args r n:=⟨hf.1,fun R vs hg ha=>hf.2 R vs hg (by
 have:=zy.less _ _ _ hl ha;refine zy.ext (Ext.refl R) ⟨fun i b hb=>?_,fun id x hx=>?_⟩ _ _ this
 ·simp at hb
 ·have hx:Z4 [] zI.T id=some x:=hx;simp[Z4]at hx)⟩
theorem VK {a1:List C} {fbx':List (List C)} {r:C} (ι κ:List Nat) (hf:Nr P G f a1 fbx q r fbx' n) (hq:κ.length=q) (hι:ι.Nodup) (hκ:κ.Nodup) (hb:∀ i∈ι,i<bx.length)
  (ha:C.reL (XK ι) (XK κ) args=a1) (hx:(ι.map fun i=>C.reL (XK ι) (XK κ) (bx.getD i []))=fbx) (hK:K3 (r.re (upB ι bx.length) (upO nx)) (Zu ι κ fbx' n ⟨tm,bx,nx,lg⟩)):QQ P G f args fargs ⟨tm,bx,nx,lg⟩ K3 ⟨⟩:=
 .inr <| .inl ⟨ι,κ,r,fbx',n,hι,hκ,hb,by rw[ha,hq];exact hx▸hf,hK⟩
theorem range {A B:Nat->(Exit->St->Prop)->St->Prop} {ps:List Tmp} {first cap first' cap':List C} {bx':List (List C)} (items:List (List C)) (sf:Nat->Bool) (m:Nat) (I:Nat->St) (hit:xE P G f first' cap' bx' items) (e1:C.selL (YW m) first=first') (e2:C.selL (YW m) cap=cap') (e3:(bx.drop m).map (C.selL (YW m))=bx')
  (hp:p<=m) (hm:m<=bx.length) (hlen:∀ it∈items,it.length=ps.length) (hI:∀ k,k<=items.length->(I k).bx.length=m) (hw:JY m ⟨[],bx,nx,lg⟩ ((I 0).wt []))
  (hbody:∀ k it,items[k]?=some it->(∀ j,j<k->sf j=false)->A m (zkf (B m (xL m (kW m tm) (sf k) (I (k+1)) Q ⟨⟩ ⟨⟩)) ⟨⟩) ((I k).wt (Vu ps it (kW m tm))))
  (hdone:(∀ j,j<items.length->sf j=false)->Q .normal ((I items.length).wt (kW m tm))):zdJ P G p A B Q ps (.clo (.func f) first cap) ⟨tm,bx,nx,lg⟩ ⟨⟩ ⟨⟩ ⟨⟩:=
 ⟨items,sf,m,I,hp,hm,by rw[e1,e2];exact e3▸hit,hlen,hI,hw,hbody,hdone⟩
theorem loop {B:(Exit->St->Prop)->St->Prop} {ι:Type} (I:ι->St) (ok:ι->Prop) (μ:ι->Nat) (i0:ι) (h0:ok i0) (hw:JY p σ (I i0))
  (hr:∀ i,ok i->B (ua (fun σ'=>∃ j,ok j/\μ j<μ i/\JY p σ' (I j)) Q ⟨⟩ ⟨⟩) (I i)):zkp p B Q σ ⟨⟩ ⟨⟩:=⟨ι,I,ok,μ,i0,h0,hw,hr⟩
theorem fof {fn:Func} {r:C} (b:Nat->List Bool) (hf:P.funcs[f]?=some fn)
  (h:Ve P G ⟨0,none,b⟩ code (xj P fn.results.toList (fun c σ=>∃ src:Src,QF src=true/\src.length=n/\CLe src 0 (c.fz σ.bx) r) ⟨⟩) ⟨Uy 0 args,[],0,0⟩ ⟨⟩ ⟨⟩) (hb:fn.body=some code:=by rfl) (hN:args.length<=fn.ntmps:=by exact zie rfl) (ho:opB P fn code b=true:=by kernel_rfl):Fun P G f args r n:=Fun.of_awp b (zpy ho) hf hb (zo2 ho) hN (zoR ho) h
theorem fon {fn:Func} {r:C} (hf:P.funcs[f]?=some fn)
  (h:Ve P G ⟨0,none,fun _=>[]⟩ code (xj P fn.results.toList (fun c σ=>∃ src:Src,QF src=true/\src.length=n/\CLe src 0 (c.fz σ.bx) r) ⟨⟩) ⟨Uy 0 args,[],0,0⟩ ⟨⟩ ⟨⟩) (hb:fn.body=some code:=by rfl) (hN:args.length<=fn.ntmps:=by exact zie rfl) (ho:opB P fn code (fun _=>[])=true:=by kernel_rfl):Fun P G f args r n:=fof _ hf h hb hN ho
theorem foB {fn:Func} {bx bx':List (List C)} {r:C} (b:Nat->List Bool) (hf:P.funcs[f]?=some fn)
  (h:Ve P G ⟨bx.length,none,b⟩ code (xj P fn.results.toList (fun c σ=>∃ src:Src,QF src=true/\src.length=n/\zd src bx'.length σ.bx bx'/\CLe src bx'.length c r) ⟨⟩) ⟨Uy 0 args,bx,q,0⟩ ⟨⟩ ⟨⟩) (hb:fn.body=some code:=by rfl) (hN:args.length<=fn.ntmps:=by exact zie rfl) (ho:opB P fn code b=true:=by kernel_rfl) (hlen:bx.length<=bx'.length:=by exact zie rfl):Nr P G f args bx q r bx' n:=Nr.of_awp b (zpy ho) hf hb (zo2 ho) hN (zoR ho) hlen h
theorem foI {fn:Func} {first cap:List C} {bx items:List (List C)} (b:Nat->List Bool) (hf:P.funcs[f]?=some fn)
  (h:∀ (l:Nat) (sf:Nat->Bool),Ve P G ⟨0,some ⟨l,items,sf⟩,b⟩ code (xj P fn.results.toList (fun c σ=>zlW items sf σ.lg) ⟨⟩) ⟨Uy 0 (first++[.sc (.func (.yield l) #[] #[])]++cap),bx,0,0⟩ ⟨⟩ ⟨⟩) (hb:fn.body=some code:=by rfl) (hN:first.length+1+cap.length<=fn.ntmps:=by exact zie rfl) (ho:opB P fn code b=true:=by kernel_rfl):xE P G f first cap bx items:=xE.of_awp b (zpy ho) hf hb (zo2 ho) hN (zoR ho) h
theorem zrk {m:Nat} {xs:List C} {z1:List Value} (A:List C) (hbx:bx[i]?=some cs) (h1:z1.length=k) (h2:0<k) (h3:(z1.all Value.oneCell')=true) (h4:0<m) (hp:p<=i) (hl:cs.length=cap*k) (hn:n<=cap) (hc:cap<=9223372036854775807)
  (h5:n+m<=9223372036854775807) (h6:(n+m)*b<=140737488355328) (hA:C.reL (J5 i) some (cs.take (n*k)++xs)=A)
  (hK:∀ c',n+m<=c'->c'<=9223372036854775807->K3 (.bs i 0 k (n+m) c') ⟨HF (J5 i) some tm,Zo i (A++List.replicate ((c'-(n+m))*k) .any) bx,nx,lg⟩):zpC (some (m,xs)) p k b z1 (.bs i 0 k n cap) ⟨tm,bx,nx,lg⟩ K3 ⟨⟩:=by
 refine ⟨h1,h2,h3,h4,?_⟩;simp only[hbx];exact ⟨trivial,hp,hl,hn,hc,h5,h6,fun c' q1 q2=>by rw[hA];exact hK c' q1 (by unfold maxLen at q2;omega)⟩
theorem zbf (k:Nat):((k:Int)+1).toNat=k+1:=by omega
theorem zhD.mk {B:(Exit->St->Prop)->St->Prop} {ι:Type} (I:ι->St) (ok:ι->Prop) (μ:ι->Nat) (i0:ι) (h0:ok i0) (hw:JY p σ (I i0))
  (hr:∀ i,ok i->B (zkP (fun σ'=>∃ j,ok j/\μ j<μ i/\JY p σ' (I j)) Q) (I i)):zhD p B Q σ:=⟨ι,I,ok,μ,i0,h0,hw,hr⟩
end
attribute [push_cast] eq_self iff_self List.append_eq zq0 zsZ zsq zsR zrr zb3 zq5 zmu zjh zqq znZ zpv zp3 zph zll zlA zoJ zns znX zol zlH zrS zo1 zmX zot zrs zqK zqo zlI zpe zic zmi zij zez zj1 zjN zhN zeg zeH zfh zho zn7 zoA zqp zof zgv yf zs0 zh6 zlT zlS zpX zpr vz zbx zda xv MO vJ zb8 Mm zh9 vF za0 zm6 zmK zoj znW zoB zpt zpR zpw zm9 zpg ziz zj8 ziE ziR zht znk zqb zox zm3 zni zaP zbL x0 vk Hj Hg Ni zon znq zjK zik zbq za3 zhI zif zgE zdT zjC zj7 NA Me zfj zgg zjw zhw xX xd zfY zc1 GZ GK zeB zdp Gy G5 zgp zcS yg vr zgx zgk zmW znc yH zow zmL zb4 zo3 zir zcB zpG zbK zi9 zhc zeP zlk zrx zg5 zge zb1 zf2 zmR zeK zhx zcm zdy vv vh zpY yl M1 y5 G8 yW yu N2 zdR zd6 zeJ MV zeZ MA zfM zaJ ze7 zfu zj9 zcD zjk zd4 zjJ zeI zeo zgG zd0 zga zeh zfL zfc zfT zc2 zdN zd1 zee zjt zfA zrq zdA znM zca zcu zk8 GP zcd x6 za9 N6 Mj zlz ziJ zeb zsw zqR zhv zg4 zsy zaD zbP zcR zde zck zce zcp zeG zgj zjV zh0 zhL zjc zjz zsW zro zrT zrv zsg zrc zrC zlf zp7 zlh zmr zim zmQ zo6 zo9 zcs zbd zbp znS zs3 zmH zs2 zqF zoV zsN zrM zb5 zgh zjR zbD zps zoL zhS zj0 zjG zbS zbJ zcq ze8 zct zoc za6 zi4 zfI zha zcU zgu zqv zoO zmP zhO zs1 zlJ zqe zmf zrd zq7 zsL zrF zra zrO zrt znU zpO zsj zrL zrw zdB zop zry zrI zpZ zrE zrz zqL zmM zk4 zhk zpf zrQ zr0 zl1 zn1 znt zpn ziH zh4 zi2 zkT zii zjf zmU zrD zri zrb zrn zhl zmV zmD zef zhe ziM zjs zlj zmw zdO zi0 zjg zhj zhY zlE zl3 zmO zkZ zbw zpH zbB zdo zf5 zia zhF zj6 zkX zjM zhi zf7 zk7 zh1 zbi zjm zfP zjZ zlM zhf zl9 zjo ziS zjb zlO zaI ziW zhP zfd zml zli zlw zk9 znr zmI zlg zi3 zi7 zg2 zhr zej zaT zgR ze2 zcE xU zig zi6 ziD zdc zcl zjp zji zgH zbN zev zfk zbU yi zjB ziw zkb zdi zaA zju zib zis zdF zaU zcw zob zbX zp6 x8 yx vU zaF zcg zcv vg vD yt vx yT vG zbF zbQ zcG yD yk zex za5 yP NM zlR zmp zlN zpk zfl zbc
attribute [push_cast] Int.ofNat_eq_natCast Bool.not_false Bool.not_true Bool.true_beq Bool.false_beq beq_self_eq_true Bool.true_and zlK zng zqa znj zna List.map_cons List.map_nil List.getElem?_cons_zero List.getElem?_cons_succ List.getElem?_toArray List.getElem?_nil List.drop_zero List.drop_succ_cons List.drop_nil List.take_succ_cons List.take_zero List.take_nil List.length_cons List.length_nil List.getD_cons_zero List.getD_cons_succ List.set_cons_zero List.set_cons_succ List.cons_append List.nil_append List.append_nil List.all_cons List.all_nil List.tail_cons List.tail_nil List.headD_cons List.headD_nil List.flatten_cons List.flatten_nil List.replicate_succ List.replicate_zero Bool.and_self Bool.and_true Bool.true_and Bool.not_true Bool.not_false Option.bind_some Option.map_some Option.map_none if_true if_false true_and and_true and_self decide_true decide_false Int.ofNat_le Int.ofNat_lt Int.natCast_inj zbf Int.toNat_natCast Nat.zero_add Nat.add_zero List.toList_toArray Int.add_zero Int.zero_add Bool.not_not Int.sub_zero Int.natCast_pos Nat.sub_zero Int.cast_ofNat_Int Nat.one_mul Nat.mul_one
theorem dn {p q r:Src->Prop} (c:r []:=by push_cast [ze,zd,CLe,zg]) (a:p []:=by rfl) (b:q []:=by rfl):∃ s,p s/\q s/\r s:=⟨[],a,b,c⟩
theorem wks {σ σ':St} (src:Src) (h4:ze src σ'.bx.length σ.tm σ'.tm:=by push_cast [ze,zd,CLe,zg]) (h5:zd src σ'.bx.length σ.bx σ'.bx:=by push_cast [ze,zd,CLe,zg]) (h1:QF src=true:=by rfl) (h2:src.length=σ'.nx:=by rfl)
  (h3:p<=σ'.bx.length:=by first | exact Wd _ | exact Wb _ | exact zie rfl) (h0:σ'.lg=σ.lg:=by rfl):JY p σ σ':=⟨src,h1,h2,h3,h0,h4,h5⟩
theorem wk {σ σ':St} (h4:ze [] σ'.bx.length σ.tm σ'.tm:=by push_cast [ze,zd,CLe,zg]) (h5:zd [] σ'.bx.length σ.bx σ'.bx:=by push_cast [ze,zd,CLe,zg]) (h2:([]:Src).length=σ'.nx:=by rfl)
  (h3:p<=σ'.bx.length:=by first | exact Wd _ | exact Wb _ | exact zie rfl) (h0:σ'.lg=σ.lg:=by rfl):JY p σ σ':=⟨[],rfl,h2,h3,h0,h4,h5⟩
theorem an {a b:Prop} (k:b) (h:a:=by first | omega | (simp only[lS];omega)):a/\b:=⟨h,k⟩
namespace CA
theorem cl {P:Program} {G:zr} {f:FuncId} {args fargs:List C} {r:C} {n nx lg:Nat} {tm:List (Nat×C)} {bx:List (List C)} {K3:C->St->Prop} (hf:Fun P G f fargs r n) (hK:K3 (r.sh nx) ⟨tm,bx,nx+n,lg⟩):QQ P G f args fargs ⟨tm,bx,nx,lg⟩ K3 ⟨⟩:=call hf hK
end CA
namespace CB
theorem cl {P:Program} {G:zr} {f:FuncId} {args:List C} {r:C} {n nx:Nat} {K2:C->Nat->Prop} (hf:Fun P G f args r n) (hK:K2 (r.sh nx) (nx+n)):yV P G f args nx K2 ⟨⟩:=zaE hf hK
end CB
end
section
open Go.RowKit
def C.stayB:C->Bool
 | .sc _ | .str _ | .sl _ _ | .tight _ _ | .row _ | .any=>true
 | _=>false
theorem zhG {c:C} (h:c.stayB=true):c.frz=c:=by cases c<;>simp[C.stayB]at h<;>simp[C.frz]
theorem znp {c:C} {fp fo:Nat->Option Nat} (h:c.stayB=true):c.re fp fo=c:=by cases c<;>simp[C.stayB]at h<;>simp[C.re]
theorem zmg {c:C} {src:Src} {n:Nat} (h:c.stayB=true):CLe src n c c:=by cases c<;>simp[C.stayB]at h<;>simp[CLe]
theorem MF:∀ {cs:List C},(cs.all C.stayB)=true->C.frzL cs=cs
 | [],_=>by simp[C.frzL]
 | c :: r,h=>by
  simp only[A2,Wp]at h;rw[C.frzL,zhG h.1,MF h.2]
theorem zE {fp fo:Nat->Option Nat}:∀ {cs:List C},(cs.all C.stayB)=true->C.reL fp fo cs=cs
 | [],_=>by simp[C.reL]
 | c :: r,h=>by
  simp only[A2,Wp]at h;rw[C.reL,znp h.1,zE h.2]
theorem zT {src:Src} {n:Nat}:∀ {cs:List C},(cs.all C.stayB)=true->zg src n cs cs
 | [],_=>by simp[zg]
 | c :: r,h=>by
  simp only[A2,Wp]at h;rw[zg];exact ⟨zmg h.1,zT h.2⟩
theorem znu {src:Src} {n:Nat} (c:C):CLe src n c .any:=by cases c<;>simp[CLe]
theorem Xn {src:Src} {n:Nat}:∀ {cs:List C} {m:Nat},cs.length=m->zg src n cs (List.replicate m .any)
 | [],_,h=>by subst h;simp[zg]
 | c :: r,_,h=>by
  subst h;rw[Wr,AN,zg];exact ⟨znu c,Xn rfl⟩
theorem zd7 {src:Src} {n:Nat}:∀ {a b c d:List C},zg src n a c->zg src n b d->zg src n (a++b) (c++d)
 | [],b,[],d,_,h=>h
 | [],b,x :: c,d,h,_=>by simp[zg]at h
 | x :: a,b,[],d,h,_=>by simp[zg]at h
 | x :: a,b,y :: c,d,h,h'=>by
  rw[Om,Om,zg];rw[zg]at h;exact ⟨h.1,zd7 h.2 h'⟩
def qx (k:Nat) (rows:List (List C)) (c:Nat):List C:=rows.flatten++List.replicate ((c-rows.length)*k) .any
theorem qt {k:Nat}:∀ {rows:List (List C)},(∀ r∈rows,r.length=k)->rows.flatten.length=rows.length*k
 | [],_=>by simp
 | r :: rs,h=>by
  rw[OR,Wk,h r Wi,qt fun x hx=>h x (Wl _ hx),Wr,AQ,Nat.add_comm]
theorem JH {k c:Nat} {rows:List (List C)} (h:∀ r∈rows,r.length=k) (hc:rows.length<=c):(qx k rows c).length=c*k:=by
 unfold qx;rw[Wk,qt h,AX,←Oj];congr 1;omega
abbrev jn (rows:List (List C)):Prop:=∀ r∈rows,(r.all C.stayB)=true
theorem Qv {rows:List (List C)} (h:jn rows):(rows.flatten.all C.stayB)=true:=by
 rw[Wt];intro c hc;obtain ⟨r,hr,hc⟩:=List.mem_flatten.1 hc;exact Wt.1 (h r hr) c hc
theorem zG {k c:Nat} {rows:List (List C)} (h:jn rows):((qx k rows c).all C.stayB)=true:=by
 unfold qx;rw[OW,Qv h,Or,Wt];intro c hc;obtain ⟨_,rfl⟩:=List.mem_replicate.1 hc
 rfl
theorem Zp {k n:Nat}:∀ {rows:List (List C)},(∀ r∈rows,r.length=k)->rows.flatten.take (n*k)=(rows.take n).flatten:=by
 induction n with
 | zero=>intro rows _;simp
 | succ n ih =>
  intro rows h;cases rows with
  | nil=>simp
  | cons r rs =>
   have hr:=h r Wi;rw[AC,OR,OR,AH,Wg (by rw[hr,AQ];omega),hr,show (n+1)*k-k=n*k by rw[AQ];omega,ih fun x hx=>h x (Wl _ hx)]
theorem UF {k n:Nat}:∀ {rows:List (List C)},(∀ r∈rows,r.length=k)->rows.flatten.drop (n*k)=(rows.drop n).flatten:=by
 induction n with
 | zero=>intro rows _;simp
 | succ n ih =>
  intro rows h;cases rows with
  | nil=>simp
  | cons r rs =>
   have hr:=h r Wi;rw[Bk,OR,List.drop_append,OG (by rw[hr,AQ];omega),hr,OV,show (n+1)*k-k=n*k by rw[AQ];omega,ih fun x hx=>h x (Wl _ hx)]
theorem JD {src:Src} {m k c:Nat} {rows:List (List C)} {cs:List C} (hk:∀ r∈rows,r.length=k) (hs:jn rows) (hc:rows.length<=c) (hl:cs.length=c*k) (ht:cs.take (rows.length*k)=rows.flatten):zg src m cs (qx k rows c):=by
 have h1:cs=rows.flatten++cs.drop (rows.length*k):=by rw[←ht,W2]
 rw[h1];unfold qx;refine zd7 (zT (Qv hs)) (Xn ?_);rw[W6,hl,←Nat.sub_mul]
theorem Q3 {cs xs:List C} {p:Nat} (h:p+xs.length<=cs.length):(spl cs p xs).length=cs.length:=by
 simp[spl];omega
theorem UD {cs L X:List C} {p q:Nat} (hp:p<=L.length) (hq:q=p+X.length) (hL:cs.take L.length=L) (hc:L.length+X.length<=cs.length) :
  (spl (spl cs q (L.drop p)) p X).take (L.length+X.length)=L.take p++(X++L.drop p):=by
 subst hq;apply OZ;intro j;have hcur:∀ j,j<L.length->cs[j]?=L[j]?:=fun j hj=>by
  have h:=Wu (fun l=>l[j]?) hL;simp only[WF,if_pos hj]at h;exact h
 simp only[spl,WF,BF,W3,W5,Wk,W6]
 repeat' (first | split | omega)
 all_goals (first | rfl | omega | exact (WX (by omega)).symm | (congr 1;omega) | (rw[hcur _ (by omega)];first | done | (congr 1;omega)) | (symm;rw[WX];simp;omega) | (rw[WX];simp;omega) | skip)
theorem G6 {cs L X:List C} {p q:Nat} (hp:p<=L.length) (hq:q=p+X.length) (hL:cs.take p=L.take p) (hc:L.length+X.length<=cs.length) :
  (spl (spl cs p X) q (L.drop p)).take (L.length+X.length)=L.take p++(X++L.drop p):=by
 subst hq;apply OZ;intro j;have hcur:∀ j,j<p->cs[j]?=L[j]?:=fun j hj=>by
  have h:=Wu (fun l=>l[j]?) hL;simp only[WF,if_pos hj]at h;exact h
 simp only[spl,WF,BF,W3,W5,Wk,W6]
 repeat' (first | split | omega)
 all_goals (first | rfl | omega | exact (WX (by omega)).symm | (congr 1;omega) | (rw[hcur _ (by omega)];first | done | (congr 1;omega)) | (symm;rw[WX];simp;omega) | (rw[WX];simp;omega) | skip)
theorem zlY {cs L Z:List C} {p q n:Nat} (hq:q<=L.length) (hpq:p<=q) (hL:cs.take L.length=L) (hn:n=p+(L.length-q)) (hc:L.length<=cs.length) (hz:n+Z.length<=cs.length) :
  (spl (spl cs p (L.drop q)) n Z).take n=L.take p++L.drop q:=by
 subst hn;apply OZ;intro j;have hcur:∀ j,j<L.length->cs[j]?=L[j]?:=fun j hj=>by
  have h:=Wu (fun l=>l[j]?) hL;simp only[WF,if_pos hj]at h;exact h
 simp only[spl,WF,BF,W3,W5,Wk,W6]
 repeat' (first | split | omega)
 all_goals (first | rfl | omega | exact (WX (by omega)).symm | (congr 1;omega) | (rw[hcur _ (by omega)];first | done | (congr 1;omega)) | (symm;rw[WX];simp;omega) | (rw[WX];simp;omega) | skip)
theorem yh {P:Program} {f:FuncId} {fn:Func} {t e tR:TypeId} {s1 b1 k by':Nat} {kd:LK} {z1 z:Option (List Value)} (hf:P.funcs[f]?=some fn) (hname:(fn.name == "runtime.NumGoroutine")=false) (hb:fn.body.isNone=true) (hn:Extern.findNext fn=none)
  (he:Extern.find fn=some (Extern.SlicesOverlaps.overlaps #[t,t] #[tR])) (hl:lay P t=some ⟨.slice e,s1,b1,z1⟩) (hle:lay P e=some ⟨kd,k,by',z⟩) {id e' k' i off n c:Nat} {rows bx:List (List C)} {cs:List C} (hbx:bx[i]?=some cs) (hcs:cs≠[]) (hrows:rows≠[]) (hn0:0<n) :
  zrX P f [.own id e' k' rows,.bs i off k n c] bx (.sc (.bool false)):=by
 intro B R L vs hB hO hr;obtain ⟨v1,us,rfl,h1,hr⟩:=zh.1 hr;obtain ⟨v2,us,rfl,h2,hr⟩:=zh.1 hr;rw[zm]at hr;subst hr;refine ⟨.bool false,?_,zq.2 rfl⟩;rw[run_callFunc_extern hf hname hb hn he];have ht:=qd hl rfl;have hz:∀ w,(Go.sizeOf e).run P w = .ok k w:=fun w=>qK hle w;obtain ⟨hT,a,cap,hv1,_⟩:=YJ.1 h1;obtain ⟨b,hbi,ad,rfl,had⟩:=jk.1 h2;obtain ⟨us,ty,e1,e2,e3,e4⟩:=hB.box i b cs hbi hbx;have hsz:us.size≠0:=by
  have:=zw e2;simp only[WR]at this;rw[this];exact fun h=>hcs (WZ h)
 rcases hO.own id e' k' v1 hT with hnil | ⟨g,n',cap',cur,ty',q1,q2,q3,q4,q5,q6,q7,q8⟩ | ⟨_,_,_,_,hmap,_⟩
 rotate_right
 ·rw[hv1]at hmap;unfold U2 at hmap;cases hmap
 ·rw[hnil]at hv1;obtain ⟨_,h0,_⟩:=Value.slice.inj hv1;exact absurd (WZ h0.symm) hrows
 ·rw[q1];obtain rfl:=had (by omega);have hne:g≠b:=fun h=>q7 (h▸Wf hbi);rw[Lib.run_overlaps_apart R.w t tR e ht k hz ⟨g,0,none⟩ ⟨b,off,none⟩ n' cap' n c hne ty' ty cur.size us.size (by simp[World.shape?,q3]) (by simp[World.shape?,e1]) hsz (frozen_of_row R.w g 0 _ _ q3) (frozen_of_row R.w g _ _ _ q3)]
  rfl
theorem VS {m k:Nat} {z:List C} (hz:z.length=k):(List.replicate m z).flatten.length=m*k:=by
 have h:=qt (k:=k) (rows:=List.replicate m z) fun r hr=>by rw[(List.mem_replicate.1 hr).2];exact hz
 rw[h,AX]
section
variable {P:Program} {t tn e s1 b1 s2 b2 k by' m i off n cap nx lg:Nat} {kd:LK} {kn kq:IntKind} {z1 z2 z3:Option (List Value)} {z:List Value} {cs xs:List C} {bx:List (List C)} {tm:List (Nat×C)} {d:C} {q:Int} {K3:C->St->Prop}
theorem znh (hl:lay P t=some ⟨.slice e,s1,b1,z1⟩) (hln:lay P tn=some ⟨.int kn,s2,b2,z2⟩) (hle:lay P e=some ⟨kd,k,by',some z⟩) (hz:z.length=k) (hk:0<k) (h1:(z.all Value.oneCell')=true)
  (hb:bx[i]?=some cs) (hfit:off+cap*k<=cs.length) (hn:n<=cap) (hq:0<q) (h63:(n:Int)+q<=9223372036854775807) (hby:((n:Int)+q)*by'<=140737488355328) (hg:(cap:Int)<n+q)
  (hK:∀ c' B,n+q.toNat<=c'->c'<=9223372036854775807->B.length=c'*k->B.take (n*k)=(cs.drop off).take (n*k)->K3 (.bs bx.length 0 k (n+q.toNat) c') ⟨tm,bx++[B],nx,lg⟩):zak P t tn (.bs i off k n cap) (.sc (.int kq q)) ⟨tm,bx,nx,lg⟩ K3 ⟨⟩:=by
 have hnk:n*k<=cap*k:=WO _ hn;refine zsv hl hln hle hz hk h1 hb hfit hn hq h63 hby hg fun c' g1 g2=>hK c' _ g1 g2 ?_ ?_
 ·rw[Wk,Wk,VS (k:=k) (by simpa using hz),AX,W5,W6,OA (by omega),←Oj,←Oj];congr 1;omega
 ·rw[WE,OB (by rw[W5,W6];omega)]
theorem XI (hl:lay P t=some ⟨.slice e,s1,b1,z1⟩) (hle:lay P e=some ⟨kd,k,by',z3⟩) (hx:d.xs? k bx=some (m,xs)) (hb:bx[i]?=some cs) (hxl:xs.length=m*k) (hfit:off+n*k<=cs.length)
  (hK:∀ B,B=spl cs off (xs.take (min m n*k))->B.length=cs.length->K3 (.sc (.int .i64 ((min m n:Nat):Int))) ⟨tm,bx.set i B,nx,lg⟩):MJ P t (.bs i off k n cap) d ⟨tm,bx,nx,lg⟩ K3 ⟨⟩:=
 zma hl hle hx hb hxl hfit (hK _ rfl (by
  have h1:min m n*k<=n*k:=WO _ (Nat.min_le_right _ _);exact Q3 (by rw[W5];omega)))
theorem zmh (hl:lay P t=some ⟨.slice e,s1,b1,z1⟩) (hle:lay P e=some ⟨kd,k,by',some z⟩) (hb:bx[i]?=some cs) (hz:z.length=k) (hk:0<k) (h1:(z.all Value.oneCell')=true) (hfit:off+n*k<=cs.length)
  (hK:∀ B Z,B=spl cs off Z->Z.length=n*k->B.length=cs.length->K3 .any ⟨tm,bx.set i B,nx,lg⟩):vQ P t (.bs i off k n cap) ⟨tm,bx,nx,lg⟩ K3 ⟨⟩:=by
 have hZ:(List.replicate n (z.map zD)).flatten.length=n*k:=VS (by simpa using hz);exact zpl hl hle hb hz hk h1 hfit (hK _ _ rfl hZ (Q3 (by omega)))
end
theorem km {k i off n c:Nat} {bx:List (List C)} {cs:List C} (hb:bx[i]?=some cs) (h:off+n*k<=cs.length):C.xs? k bx (.bs i off k n c)=some (n,(cs.drop off).take (n*k)):=by
 simp[C.xs?,hb,h]
theorem Xt {k c i:Nat} {rows:List (List C)} (hk:∀ r∈rows,r.length=k) (hi:i<=rows.length):((qx k rows c).drop (i*k)).take ((rows.length-i)*k)=rows.flatten.drop (i*k):=by
 have hf:=qt hk;have h1:i*k<=rows.length*k:=WO _ hi;unfold qx;rw[List.drop_append_of_le_length (by omega),OB (by rw[W6,hf,Nat.sub_mul])]
theorem Qp {k i:Nat} {rows:List (List C)} {x:List C} (hk:∀ r∈rows,r.length=k):rows.flatten.take (i*k)++(x++rows.flatten.drop (i*k))=(rows.take i++x :: rows.drop i).flatten:=by
 rw[Zp hk,UF hk];simp
theorem uW {bx:List (List C)} {i e k c:Nat} {rows:List (List C)} {cs:List C} (hb:bx[i]?=some cs) (hc:0<c) (h1:rows.length<=c) (h2:c<=9223372036854775807) (hl:cs.length=c*k) (hk:∀ r∈rows,r.length=k) (hs:(cs.all C.stayB)=true) (ht:cs.take (rows.length*k)=rows.flatten) :
  zbv [(i,e,k,rows,c)] bx:=by
 refine ⟨by simp,fun x hx=>?_⟩;rw[WY]at hx;subst hx;exact ⟨cs,hb,hc,h1,by unfold maxLen;exact h2,hl,hk,by rw[MF hs];exact ht⟩
theorem zdM {k c:Nat} {rows:List (List C)} (hk:∀ r∈rows,r.length=k):(qx k rows c).take (rows.length*k)=rows.flatten:=by
 unfold qx;rw[OB (qt hk)]
theorem zB {bx:List (List C)} {i e k c:Nat} {rows:List (List C)} (hb:bx[i]?=some (qx k rows c)) (hc:0<c) (h1:rows.length<=c) (h2:c<=9223372036854775807) (hk:∀ r∈rows,r.length=k) (hs:jn rows):zbv [(i,e,k,rows,c)] bx:=
 uW hb hc h1 h2 (JH hk h1) hk (zG hs) (zdM hk)
theorem uz {k c i:Nat} {rows:List (List C)} {row:List C} (hk:∀ r∈rows,r.length=k) (hr:row.length=k) (hi:i<rows.length):(qx k rows c).take (i*k)++row++(qx k rows c).drop (i*k+k)=qx k (rows.set i row) c:=by
 have hf:=qt hk;have h1:(i+1)*k<=rows.length*k:=WO _ hi;rw[AQ]at h1;unfold qx;rw[ON (by omega),List.drop_append_of_le_length (by omega),←AQ,Zp hk,UF hk,Bq,←WE];congr 1;rw[List.set_eq_take_append_cons_drop,if_pos hi];simp
def RLe:List (List C)->List (List C)->Prop
 | [],[]=>True
 | a :: r,b :: s=>zg [] 0 a b/\RLe r s
 | _,_=>False
theorem RLe.len:∀ {a b:List (List C)},RLe a b->a.length=b.length
 | [],[],_=>rfl
 | _ :: r,_ :: s,h=>by rw[Wr,Wr,RLe.len h.2]
theorem zg.len {src:Src} {n:Nat}:∀ {a b:List C},zg src n a b->a.length=b.length
 | [],[],_=>rfl
 | [],_ :: _,h=>by simp[zg]at h
 | _ :: _,[],h=>by simp[zg]at h
 | _ :: r,_ :: s,h=>by
  rw[zg]at h;rw[Wr,Wr,zg.len h.2]
theorem zfV {R:Env} {c d:C} {v:Value} (h:CLe [] 0 c d) (hr:Rep R zI c v):Rep R zI d v:=by
 refine Rep.ext (Ext.refl R) (T:=Jq [] 0 zI) ⟨fun i b hb=>?_,fun id x hx=>?_⟩ _ _ (Rep.less _ _ _ h hr)
 ·simp at hb
 ·have hx:Z4 [] zI.T id=some x:=hx;simp[Z4]at hx
theorem UO {R:Env} {b:Nat}:∀ {cs ds:List C} {o:Nat},zg [] 0 cs ds->zP R cs b o->zP R ds b o
 | [],[],_,_,h=>h
 | [],_ :: _,_,h,_=>by simp[zg]at h
 | _ :: _,[],_,h,_=>by simp[zg]at h
 | c :: r,d :: s,o,h,hr=>by
  rw[zg]at h;obtain ⟨⟨v,h1,h2,h3,h4⟩,h5⟩:=qo.1 hr;exact qo.2 ⟨⟨v,h1,h2,zfV h.1 h3,h4⟩,UO h.2 h5⟩
theorem HE {R:Env} {k b:Nat}:∀ {a c:List (List C)} {o:Nat},RLe a c->zR R a k b o->zR R c k b o
 | [],[],_,_,h=>h
 | x :: r,y :: s,o,h,hr=>by
  unfold zR at hr ⊢;exact ⟨(zg.len h.1).symm.trans hr.1,UO h.1 hr.2.1,HE h.2 hr.2.2⟩
theorem zbT {R:Env} {L:Loc} {id e k:Nat} {a c:List (List C)} {v:Value} (h:RLe a c) (hr:Rep R L (.own id e k a) v):Rep R L (.own id e k c) v:=by
 obtain ⟨h1,ad,cap,h2,h3,h4,h5⟩:=YJ.1 hr;refine YJ.2 ⟨h1,ad,cap,by rw[h2,h.len],by rw[←h.len];exact h3,h4,?_⟩;rcases h5 with h5 | ⟨b,o,h5,h6⟩
 ·subst h5;have:=h.len;exact .inl (WZ (by simpa using this.symm))
 ·exact .inr ⟨b,o,h5,HE h h6⟩
theorem Fun.resX {P:Program} {G:zr} {f:FuncId} {args:List C} {r r':C} {n:Nat} (hf:Fun P G f args r n) (h:∀ R L v,Rep R L r v->Rep R L r' v):Fun P G f args r' n:=
 ⟨hf.1,fun R vs hg ha=>(hf.2 R vs hg ha).mono fun e w' ⟨v,R',L',h1,h2,h3,h4⟩=>⟨v,R',L',h1,h2,h3,h _ _ _ h4⟩⟩
theorem zbV {R:Env} {L:Loc} {cs ds:List C} {v:Value} (h:∀ vs,zy R L cs vs->zy R L ds vs) (hr:Rep R L (.agg cs) v):Rep R L (.agg ds) v:=by
 obtain ⟨vs,h1,h2⟩:=Jk.1 hr;exact Jk.2 ⟨vs,h1,h _ h2⟩
theorem YF {R:Env} {L:Loc} {c d:C} {cs ds:List C} {vs:List Value} (h:∀ v,Rep R L c v->Rep R L d v) (h':∀ vs,zy R L cs vs->zy R L ds vs) (hr:zy R L (c :: cs) vs):zy R L (d :: ds) vs:=by
 obtain ⟨v,us,rfl,h1,h2⟩:=zh.1 hr;exact zh.2 ⟨v,us,rfl,h _ h1,h' _ h2⟩
end
section
open Go.RowKit
def zdG (k:Nat) (rows:List (List C)) (r:C) (bx':List (List C)) (n:Nat):Prop:=
 n=0/\((rows≠[]/\∃ c,rows.length<=c/\c<=9223372036854775807/\r = .bs 1 0 k rows.length c/\bx' = [[],qx k rows c])∨(rows = []/\(r = .sc (.slice none 0 0)/\bx' = []∨r = .bs 0 0 k 0 0/\bx' = [[]])))
def zqE (k m:Nat) (ins:List (List C)) (r:C) (bx':List (List C)) (n:Nat):Prop:=
 n=0/\∃ c,ins.length<=c/\c<=9223372036854775807/\(r = .bs 0 0 k ins.length c/\bx' = [qx k ins c]∨r = .bs 1 0 k ins.length c/\bx' = [List.replicate m .any,qx k ins c])
section
variable {G:zr}
theorem VM (rows:List (List C)) (hk:∀ r∈rows,r.length=6) (hs:jn rows) (hl:rows.length<=100000) :
  YH Tryz.prog G 251 [.sl 6 rows] [] 0 (zdG 6 rows):=by
 refine YH.bySlice (fun h=>?_) (fun h a cap hr=>?_)
 ·refine foX (fun i=>if i=1000000+22 then [true,true] else []) Tryz.func251 ?_;dsimp only[Tryz.f251];push_cast;refine ⟨h,Ze VH Z9 rfl rfl (by decide) rfl (qt hk) rfl (Wb _) (Wb _) (by omega) (by omega) (fun hc=>absurd hc ?_) (fun _ c hc hm=>?_)⟩
  ·have:=WG.2 h;omega
  ·push_cast;rw[Ot]at hc;refine ⟨_,_,_,⟨⟨rfl,.inl ⟨h,c,hc,hm,rfl,rfl⟩⟩,Wd _⟩,[],rfl,rfl,?_,by push_cast [ze,zd,CLe,zg]⟩;push_cast [ze,zd,CLe,zg];exact zT (zG hs)
 ·cases a with
  | none =>
   refine foX (fun i=>if i=1000000+22 then [true,true] else []) Tryz.func251 ?_;dsimp only[Tryz.f251];push_cast [hr,O3];exact ⟨_,_,_,⟨⟨rfl,.inr ⟨h,.inl ⟨rfl,rfl⟩⟩⟩,Wd _⟩,[],rfl,rfl,by push_cast [ze,zd,CLe,zg],by push_cast [ze,zd,CLe,zg]⟩
  | some a =>
   refine foX (fun i=>if i=1000000+22 then [true,true] else []) Tryz.func251 ?_;dsimp only[Tryz.f251];push_cast [hr,O4];have hx:C.xs? 6 [[]] (C.sc (.slice (some a) 0 cap))=some (0,[]):=by simp[C.xs?,hr]
   refine Ze VH Z9 hx rfl (by decide) rfl rfl rfl (Wb _) (Wb _) (by omega) (by omega) (fun _=>?_) (fun hc=>absurd hc (by omega));push_cast;exact ⟨_,_,_,⟨⟨rfl,.inr ⟨h,.inr ⟨rfl,rfl⟩⟩⟩,Wd _⟩,[],rfl,rfl,by (push_cast [ze,zd,CLe,zg];simp[spl,zg]),by push_cast [ze,zd,CLe,zg]⟩
theorem Us (rows:List (List C)) (x:List C) (i c e:Nat) (hk:∀ r∈rows,r.length=6) (hx:x.length=6) (hs:jn rows) (hsx:(x.all C.stayB)=true) (hl:rows.length<=100000) (hi:i<=rows.length) (hc:rows.length<=c) (hcm:c<=9223372036854775807) :
  YH Tryz.prog G 250 [.bs 0 0 6 rows.length c,.sc (.int .i64 i),.own 0 e 6 [x]] [qx 6 rows c] 1 (zqE 6 (c*6) (rows.take i++x :: rows.drop i)):=by
 refine foX (fun j=>if j=1000000+22 then [true,true] else if j=11 then [false,false,false,false,false,false,false,false,true] else if j=15 then [false,false,false,false,false,false,false,false,true] else []) Tryz.func250 ?_;dsimp only[Tryz.f250];push_cast;have hlen:(rows.take i++x :: rows.drop i).length=rows.length+1:=by simp;omega
 have hki:∀ r∈rows.take i++x :: rows.drop i,r.length=6:=fun r hr=>by
  rcases Wz.1 hr with hr | hr
  ·exact hk r (Wx hr)
  ·rcases WK.1 hr with rfl | hr
   ·exact hx
   ·exact hk r (WT hr)
 have hsi:jn (rows.take i++x :: rows.drop i):=fun r hr=>by
  rcases Wz.1 hr with hr | hr
  ·exact hs r (Wx hr)
  ·rcases WK.1 hr with rfl | hr
   ·exact hsx
   ·exact hs r (WT hr)
 have hbl:=JH hk hc;have hfl:=qt hk;have hxl:[x].flatten.length=1*6:=by simp[hx]
 have hpre:(qx 6 rows c).take rows.flatten.length=rows.flatten:=by unfold qx;rw[Bf]
 refine ⟨hc,⟨by omega,hi⟩,br (fun h=>?_) (fun h=>?_)⟩
 ·push_cast;refine Ze VH Z9 rfl rfl (by decide) rfl hxl rfl (by rw[hbl];omega) hc (by simp;omega) (by simp;omega) (fun h1=>?_) (fun h1 c' h2 h3=>?_)
  ·push_cast;have hi':i=rows.length:=WN h;refine ⟨_,_,_,⟨⟨rfl,c,by rw[hlen];exact h1,hcm,.inl ⟨rfl,rfl⟩⟩,Wb _⟩,[],rfl,rfl,?_,by push_cast [ze,zd,CLe,zg,hlen]⟩;push_cast [ze,zd,CLe,zg];have h6:rows.length*6+6<=c*6:=by have:rows.length+1<=c:=h1;omega
   refine JD hki hsi (by rw[hlen];exact h1) (by rw[Q3 (by rw[hbl,hx];exact h6),hbl]) ?_;rw[hlen,hi',Og,A6];unfold spl;rw[←hfl,hpre,OB (by simp[hx,hfl];omega)];simp
  ·push_cast;have hi':i=rows.length:=WN h;have h2':rows.length+1<=c':=h2;refine ⟨_,_,_,⟨⟨rfl,c',by rw[hlen];exact h2,h3,.inr ⟨rfl,rfl⟩⟩,OL rfl⟩,[],rfl,rfl,?_,by push_cast [ze,zd,CLe,zg,hlen]⟩;push_cast [ze,zd,CLe,zg];refine ⟨Xn hbl,JD hki hsi (by rw[hlen];exact h2) (by simp[hx,hbl];omega) ?_⟩;rw[hlen,hi',Og,A6,←hfl,hpre,OB (by simp[hx,hfl];omega)];simp
 ·have hne:i≠rows.length:=OK h;push_cast;refine ⟨⟨by omega,by omega⟩,br (fun h1=>?_) (fun h1=>?_)⟩
  ·have h1':(c:Int)<(rows.length:Int)+1:=WN h1;push_cast
   repeat refine an ?_
   refine znh VH znG Z9 rfl (by decide) rfl rfl (by rw[hbl];omega) (by omega) (by omega) (by omega) (by omega) (by omega) (fun c' B h2 h3 hBl hBt=>?_);have e1:((rows.length:Int)+1-(i:Int)).toNat=rows.length+1-i:=by omega
   rw[e1]at h2 ⊢;have e2:i+(rows.length+1-i)=rows.length+1:=by omega
   rw[e2]at h2 ⊢;push_cast
   repeat refine an ?_
   refine XI VH Z9 rfl rfl hxl (by rw[hBl];omega) (fun B1 hB1 hl1=>?_);rw[hBl]at hl1;push_cast
   repeat refine an ?_
   have hbp:=Xt (c:=c) hk hi;refine XI VH Z9 (km rfl (by rw[hbl];omega)) rfl (by rw[hbp,W6,hfl];omega) (by rw[hl1];omega) (fun B2 hB2 hl2=>?_);rw[hl1]at hl2;have hX:[x].flatten.take (min [x].length (rows.length+1-i)*6)=x:=by
    rw[OM,OA (by omega),Wg (by omega)];simp
   rw[hX]at hB1;rw[hbp,show min (rows.length-i) (rows.length-i)*6=(rows.length-i)*6 by omega,Wg (by rw[W6,hfl];omega),hB1]at hB2;push_cast;refine ⟨_,_,_,⟨⟨rfl,c',by rw[hlen];exact h2,h3,.inr ⟨rfl,rfl⟩⟩,OL rfl⟩,[],rfl,rfl,?_,by push_cast [ze,zd,CLe,zg,hlen]⟩;push_cast [ze,zd,CLe,zg];refine ⟨Xn hbl,JD hki hsi (by rw[hlen];exact h2) hl2 ?_⟩;rw[hlen,←Qp hk,hB2];have hg:=G6 (cs:=B) (L:=rows.flatten) (X:=x) (p:=i*6) (q:=(i+1)*6) (by omega) (by omega) (by
    rw[hBt,AV];unfold qx;rw[ON (by omega)]) (by omega)
   rw[hfl,hx]at hg;rw[←hg];congr 1;omega
  ·have h1':¬(c:Int)<(rows.length:Int)+1:=OK h1;push_cast
   repeat refine an ?_
   refine zmG (yh (P:=Tryz.prog) (tR:=4) Tryz.func277 (by kernel_rfl) (by kernel_rfl) (by kernel_rfl) (by kernel_rfl) VH Z9 rfl (Bh (by rw[hbl];omega)) (by simp) (by omega)) ?_;push_cast
   repeat refine an ?_
   have hbp:=Xt (c:=c) hk hi;refine XI VH Z9 (km rfl (by rw[hbl];omega)) rfl (by simp[hbl];omega) (by rw[hbl];omega) (fun B1 hB1 hl1=>?_);rw[hbl]at hl1;rw[BT,OA (by omega),show min (rows.length+1-i) (rows.length-i)*6=(rows.length-i)*6 by omega,hbp]at hB1;push_cast
   repeat refine an ?_
   refine XI VH Z9 rfl rfl hxl (by rw[hl1];omega) (fun B2 hB2 hl2=>?_);rw[hl1]at hl2;have hX:[x].flatten.take (min [x].length (rows.length+1-i)*6)=x:=by
    rw[OM,OA (by omega),Wg (by omega)];simp
   rw[hX,hB1]at hB2;push_cast;have hcc:rows.length+1<=c:=by omega
   refine ⟨_,_,_,⟨⟨rfl,c,by rw[hlen];exact hcc,hcm,.inl ⟨rfl,rfl⟩⟩,OL rfl⟩,[],rfl,rfl,?_,by push_cast [ze,zd,CLe,zg,hlen]⟩;push_cast [ze,zd,CLe,zg];refine JD hki hsi (by rw[hlen];exact hcc) hl2 ?_;rw[hlen,←Qp hk,hB2];have hg:=UD (cs:=qx 6 rows c) (L:=rows.flatten) (X:=x) (p:=i*6) (q:=(i+1)*6) (by omega) (by omega) hpre (by omega);rw[hfl,hx]at hg;rw[←hg];congr 1;omega
theorem zab {e:Nat} (x:List C) (hx:x.length=6) (hsx:(x.all C.stayB)=true) :
  YH Tryz.prog G 250 [.sc (.slice none 0 0),.sc (.int .i64 0),.own 0 e 6 [x]] [] 1 (fun r bx' n=>n=0/\∃ c,1<=c/\c<=9223372036854775807/\r = .bs 0 0 6 1 c/\bx' = [qx 6 [x] c]):=by
 refine foX (fun j=>if j=1000000+22 then [true,true] else if j=11 then [false,false,false,false,false,false,false,false,true] else if j=15 then [false,false,false,false,false,false,false,false,true] else []) Tryz.func250 ?_;dsimp only[Tryz.f250];push_cast;refine No VH Z9 rfl rfl (by decide) rfl (by simp[hx]) (by simp) (by simp) (by simp) (fun c h1 h2=>?_);push_cast;refine ⟨_,_,_,⟨⟨rfl,c,h1,h2,rfl,rfl⟩,Wd _⟩,[],rfl,rfl,?_,by push_cast [ze,zd,CLe,zg]⟩;push_cast [ze,zd,CLe,zg];have:=zT (src:=[]) (n:=1) (zG (k:=6) (c:=c) (rows:=[x]) fun r hr=>by
  rw[WY.1 hr];exact hsx)
 unfold qx at this ⊢;simpa using this
theorem ziQ (rows:List (List C)) (i c:Nat) (hk:∀ r∈rows,r.length=6) (hs:jn rows) (hl:rows.length<=100000) (hi:i<rows.length) (hc:rows.length<=c) (hcm:c<=9223372036854775807) :
  Nr Tryz.prog G 295 [.bs 0 0 6 rows.length c,.sc (.int .i64 i),.sc (.int .i64 ((i:Int)+1))] [qx 6 rows c] 0 (.bs 0 0 6 (rows.length-1) c) [qx 6 (rows.take i++rows.drop (i+1)) c] 0:=by
 refine foB (fun j=>if j=1000000+22 then [true,true] else if j=5 then [false,false,false,false,false,false,true,false] else []) Tryz.func295 ?_;dsimp only[Tryz.f295];have h1:((i:Int)=(i:Int)+1)=False:=WH (by omega);have hbl:=JH hk hc;have hfl:=qt hk;have hpre:(qx 6 rows c).take rows.flatten.length=rows.flatten:=by unfold qx;rw[Bf]
 have hlen:(rows.take i++rows.drop (i+1)).length=rows.length-1:=by simp;omega
 have hki:∀ r∈rows.take i++rows.drop (i+1),r.length=6:=fun r hr=>by
  rcases Wz.1 hr with hr | hr
  ·exact hk r (Wx hr)
  ·exact hk r (WT hr)
 have hsi:jn (rows.take i++rows.drop (i+1)):=fun r hr=>by
  rcases Wz.1 hr with hr | hr
  ·exact hs r (Wx hr)
  ·exact hs r (WT hr)
 have hbp:=Xt (c:=c) (i:=i+1) hk hi;push_cast [h1]
 repeat refine an ?_
 have hxl:(List.drop ((i+1)*6) rows.flatten).length=(rows.length-(i+1))*6:=by rw[W6,hfl];omega
 refine Ze VH Z9 (km rfl (by rw[hbl];omega)) rfl (by decide) rfl (by rw[hbp,hxl]) rfl (by rw[hbl];omega) (by omega) (by omega) (by omega) (fun _=>?_) (fun h=>absurd h (by omega));rw[hbp];have e1:i+(rows.length-(i+1))=rows.length-1:=by omega
 rw[e1];generalize hB1:spl (qx 6 rows c) (0+i*6) (List.drop ((i+1)*6) rows.flatten)=B1;have hl1:B1.length=c*6:=by rw[←hB1,Q3 (by rw[hbl,hxl];omega),hbl]
 push_cast
 repeat refine an ?_
 refine zmh VH Z9 rfl rfl (by decide) rfl (by rw[hl1];omega) (fun B2 Z hB2 hZ hl2=>?_);rw[hl1]at hl2;push_cast;refine ⟨[],rfl,rfl,?_,by push_cast [ze,zd,CLe,zg]⟩;push_cast [ze,zd,CLe,zg];refine JD hki hsi (by rw[hlen];omega) hl2 ?_;have hg:=zlY (cs:=qx 6 rows c) (L:=rows.flatten) (Z:=Z) (p:=i*6) (q:=(i+1)*6) (n:=(rows.length-1)*6) (by omega) (by omega) hpre (by omega) (by omega) (by rw[hZ];omega);rw[hlen,hB2,←hB1,A4,←Zp hk,←UF hk,←hg,Ot]
end
end
section
structure zO where
 name:Lz
 ino:Int
deriving DecidableEq,Inhabited
structure zl where
 ino:Int
 kind:Int
 links:Int
 data:Lz
 parent:Int
 es:List zO
deriving DecidableEq,Inhabited
def zZ (xs:List zl):Prop:=xs.Pairwise fun a b=>a.ino<b.ino
def zk (n:Int) (xs:List zl):Bool:=xs.any fun x=>x.ino==n
def jo (n:Int) (xs:List zl):Nat:=(xs.filter fun x=>decide (x.ino<n)).length
def qc (n:Int) (xs:List zl):List zl:=xs.filter fun x=>x.ino != n
def Xc (n:Int) (xs:List zl):Option zl:=xs.find? fun x=>x.ino==n
def ZV (x:zl):List zl->List zl
 | []=>[x]
 | y :: r=>if x.ino<y.ino then x :: y :: r else y :: ZV x r
def qp (x:zl) (xs:List zl):List zl:=ZV x (qc x.ino xs)
theorem Gq (n:Int):∀ (xs:List zl) (i:Nat),i<=xs.length->(∀ t (h:t<xs.length),t<i->xs[t].ino<n)->(∀ t (h:t<xs.length),i<=t->n<=xs[t].ino)->jo n xs=i
 | [],i,h,_,_=>by simp at h;simp[jo,h]
 | x :: r,0,_,_,h2=>by
  have hx:n<=x.ino:=h2 0 (by simp) (Wb _);have ih:=Gq n r 0 (Wd _) (fun t h h'=>absurd h' (OD _)) (fun t h _=>h2 (t+1) (by simp;omega) (Wd _));unfold jo at ih ⊢;rw[OY (by simp;omega)];exact ih
 | x :: r,i+1,h,h1,h2=>by
  have hx:x.ino<n:=h1 0 (by simp) (A0 _);have ih:=Gq n r i (by simpa using h) (fun t h h'=>h1 (t+1) (by simp;omega) (by omega)) (fun t h h'=>h2 (t+1) (by simp;omega) (by omega));unfold jo at ih ⊢;rw[Oh (by simp;omega),Wr,ih]
theorem zkB (n:Int) (xs:List zl) (i:Nat) (hi:i<xs.length) (h1:∀ t (h:t<xs.length),t<i->xs[t].ino<n) (h2:n<=xs[i].ino) (hR:zZ xs):zk n xs=decide (xs[i].ino=n):=by
 by_cases h:xs[i].ino=n
 ·rw[Wn h];exact Ou.2 ⟨xs[i],WB hi,by simp[h]⟩
 ·rw[Wj h];apply Ok.2;intro hh;obtain ⟨y,hy,e⟩:=Ou.1 hh;obtain ⟨t,ht,rfl⟩:=WD hy;have e:xs[t].ino=n:=by simpa using e
  rcases Ai t i with h3 | h3 | h3
  ·have:=h1 t ht h3;omega
  ·subst h3;exact h e
  ·have:=(WQ.1 hR) i t hi ht h3;omega
theorem zc8 (n:Int) (xs:List zl) (h1:∀ t (h:t<xs.length),xs[t].ino<n):zk n xs=false:=by
 apply Ok.2;intro hh;obtain ⟨y,hy,e⟩:=Ou.1 hh;obtain ⟨t,ht,rfl⟩:=WD hy;have e:xs[t].ino=n:=by simpa using e
 have:=h1 t ht;omega
theorem Gr {n:Int} {xs:List zl} (h:zk n xs=false):Xc n xs=none:=by
 unfold Xc zk at *;rw[Bb];intro x hx hh;rw[Ob]at h;exact h x hx hh
theorem zbA (n:Int) (xs:List zl) (hR:zZ xs):∃ i,i<=xs.length/\(∀ t (h:t<xs.length),t<i->xs[t].ino<n)/\(∀ t (h:t<xs.length),i<=t->n<=xs[t].ino):=by
 induction xs with
 | nil=>exact ⟨0,Wb _,fun t h=>absurd h (OD _),fun t h=>absurd h (OD _)⟩
 | cons x r ih =>
  by_cases hx:x.ino<n
  ·obtain ⟨i,h1,h2,h3⟩:=ih (Bv.1 hR).2;refine ⟨i+1,by simp;omega,fun t h ht=>?_,fun t h ht=>?_⟩
   ·cases t with
    | zero=>exact hx
    | succ t=>exact h2 t (by simpa using h) (by omega)
   ·cases t with
    | zero=>omega
    | succ t=>exact h3 t (by simpa using h) (by omega)
  ·refine ⟨0,Wd _,fun t h ht=>absurd ht (OD _),fun t h _=>?_⟩;cases t with
   | zero=>simp;omega
   | succ t =>
    have:=(Bv.1 hR).1 (r[t]'(by simpa using h)) (WB _);simp;omega
theorem zfW (n:Int) (xs:List zl):jo n xs<=xs.length:=Ao _ _
theorem ze3 {n:Int} {xs:List zl} (hR:zZ xs):(∀ t (h:t<xs.length),t<jo n xs->xs[t].ino<n)/\(∀ t (h:t<xs.length),jo n xs<=t->n<=xs[t].ino):=by
 obtain ⟨i,h1,h2,h3⟩:=zbA n xs hR;rw[Gq n xs i h1 h2 h3];exact ⟨h2,h3⟩
theorem zjE {n:Int} {xs:List zl} (hR:zZ xs) (h:zk n xs=true):∃ hlt:jo n xs<xs.length,xs[jo n xs].ino=n:=by
 obtain ⟨h2,h3⟩:=ze3 (n:=n) hR;by_cases hlt:jo n xs<xs.length
 ·refine ⟨hlt,?_⟩;have:=zkB n xs _ hlt h2 (h3 _ hlt (Wb _)) hR;rw[h]at this;exact WN this.symm
 ·have:=zc8 n xs (fun t h=>h2 t h (by omega));rw[h]at this;cases this
theorem Ne {n:Int} {xs:List zl} (hR:zZ xs) (h:zk n xs=true):∃ hlt:jo n xs<xs.length,Xc n xs=some xs[jo n xs]:=by
 obtain ⟨hlt,he⟩:=zjE hR h;refine ⟨hlt,?_⟩;obtain ⟨h2,h3⟩:=ze3 (n:=n) hR;unfold Xc;rw[A7];exact ⟨by simp[he],_,hlt,rfl,fun j hj=>by have:=h2 j (by omega) hj;simp;omega⟩
theorem jW {y:zl} {r:List zl}:zZ (y :: r)↔(∀ z∈r,y.ino<z.ino)/\zZ r:=Bv
theorem Qf {n:Int} {y:zl} {r:List zl} (h:y.ino<n):jo n (y :: r)=jo n r+1:=by
 unfold jo;rw[Oh (by simpa using h),Wr]
theorem UQ {n:Int} {xs:List zl} (h:∀ z∈xs,n<=z.ino):jo n xs=0:=by
 unfold jo;rw[As,AR];intro z hz;have:=h z hz;simp;omega
theorem Qt {n:Int} {xs:List zl} (h:zk n xs=false):qc n xs=xs:=by
 unfold qc;rw[BL];intro z hz;unfold zk at h;rw[Ob]at h;have:=h z hz;simpa using this
theorem QM {n:Int} {y:zl} {r:List zl} (h:y.ino<n):zk n (y :: r)=zk n r:=by
 unfold zk;rw[AS,show (y.ino==n)=false by rw[OU];omega,O0]
theorem Vo {n:Int} {xs:List zl} (h:∀ z∈xs,n<z.ino):zk n xs=false:=by
 unfold zk;rw[Ob];intro z hz;have:=h z hz;simp;omega
theorem JQ {n:Int} {y:zl} {r:List zl} (h:y.ino≠n):qc n (y :: r)=y :: qc n r:=by
 unfold qc;rw[Oh (by simpa using h)]
theorem Jc {n:Int} {y:zl} {r:List zl} (h:y.ino=n):qc n (y :: r)=qc n r:=by
 unfold qc;rw[OY (by simpa using h)]
theorem u9 {n:Int}:∀ {xs:List zl},zZ xs->zk n xs=true->xs.take (jo n xs)++xs.drop (jo n xs+1)=qc n xs
 | [],_,h=>by cases h
 | y :: r,hR,h=>by
  obtain ⟨h1,h2⟩:=jW.1 hR;by_cases hy:y.ino<n
  ·rw[Qf hy,AC,Bk,Om,u9 h2 (by rwa [QM hy]at h),JQ (by omega)]
  ·have hr0:jo n (y :: r)=0:=UQ fun z hz=>by
    rcases WK.1 hz with rfl | hz
    ·omega
    ·have:=h1 z hz;omega
   by_cases he:y.ino=n
   ·rw[hr0,Jc he,Qt (Vo fun z hz=>by have:=h1 z hz;omega)];rfl
   ·exfalso
    rw[Vo fun z hz=>by
     rcases WK.1 hz with rfl | hz
     ·omega
     ·have:=h1 z hz;omega]at h
    cases h
theorem zoo {x y:zl} {r:List zl} (h:y.ino<x.ino):ZV x (y :: r)=y :: ZV x r:=by
 rw[ZV,if_neg (by omega)]
theorem zgC {x:zl} {xs:List zl} (h:∀ z∈xs,x.ino<z.ino):ZV x xs=x :: xs:=by
 cases xs with
 | nil=>rfl
 | cons y r=>rw[ZV,if_pos (h y Wi)]
theorem Q4 {x y:zl} {r:List zl} (h:y.ino<x.ino):qp x (y :: r)=y :: qp x r:=by
 unfold qp;rw[JQ (by omega),zoo h]
theorem yy {x:zl}:∀ {xs:List zl},zZ xs->zk x.ino xs=true->xs.set (jo x.ino xs) x=qp x xs
 | [],_,h=>by cases h
 | y :: r,hR,h=>by
  obtain ⟨h1,h2⟩:=jW.1 hR;by_cases hy:y.ino<x.ino
  ·rw[Qf hy,List.set_cons_succ,yy h2 (by rwa [QM hy]at h),Q4 hy]
  ·have hr0:jo x.ino (y :: r)=0:=UQ fun z hz=>by
    rcases WK.1 hz with rfl | hz
    ·omega
    ·have:=h1 z hz;omega
   by_cases he:y.ino=x.ino
   ·unfold qp;rw[hr0,Jc he,Qt (Vo fun z hz=>by have:=h1 z hz;omega),zgC fun z hz=>by have:=h1 z hz;omega];rfl
   ·exfalso
    rw[Vo fun z hz=>by
     rcases WK.1 hz with rfl | hz
     ·omega
     ·have:=h1 z hz;omega]at h
    cases h
theorem y9 {x:zl}:∀ {xs:List zl},zZ xs->zk x.ino xs=false->xs.take (jo x.ino xs)++x :: xs.drop (jo x.ino xs)=qp x xs
 | [],_,_=>rfl
 | y :: r,hR,h=>by
  obtain ⟨h1,h2⟩:=jW.1 hR;by_cases hy:y.ino<x.ino
  ·rw[Qf hy,AC,Bk,Om,y9 h2 (by rwa [QM hy]at h),Q4 hy]
  ·have hne:y.ino≠x.ino:=by
    intro e;unfold zk at h;rw[AS,e]at h;simp at h
   have hr0:jo x.ino (y :: r)=0:=UQ fun z hz=>by
    rcases WK.1 hz with rfl | hz
    ·omega
    ·have:=h1 z hz;omega
   unfold qp;rw[hr0,Qt h,zgC fun z hz=>by
    rcases WK.1 hz with rfl | hz
    ·omega
    ·have:=h1 z hz;omega]
   rfl
theorem zjq {n:Int} {xs:List zl}:∀ x∈qc n xs,x∈xs:=fun x h=>(Ov.1 h).1
theorem G3 {x:zl}:∀ {xs:List zl} {z:zl},z∈ZV x xs↔z=x∨z∈xs
 | [],z=>by simp[ZV]
 | y :: r,z=>by
  rw[ZV];split
  ·simp
  ·rw[WK,G3,WK];constructor
   ·rintro (h | h | h)<;>simp[h]
   ·rintro (h | h | h)<;>simp[h]
theorem zmq {x:zl} {xs:List zl} {z:zl} (h:z∈qp x xs):z=x∨z∈xs:=by
 rcases G3.1 h with h | h
 ·exact .inl h
 ·exact .inr (zjq _ h)
theorem Hu {n:Int} {xs:List zl} (h:zZ xs):zZ (qc n xs):=List.Pairwise.filter _ h
theorem NG {x:zl}:∀ {xs:List zl},zZ xs->(∀ z∈xs,z.ino≠x.ino)->zZ (ZV x xs)
 | [],_,_=>by simp[ZV,zZ]
 | y :: r,h,hne=>by
  obtain ⟨h1,h2⟩:=jW.1 h;have hy:=hne y Wi;rw[ZV];split
  ·next hlt =>
   refine jW.2 ⟨fun z hz=>?_,h⟩;rcases WK.1 hz with rfl | hz
   ·exact hlt
   ·have:=h1 z hz;omega
  ·next hlt =>
   refine jW.2 ⟨fun z hz=>?_,NG h2 fun z hz=>hne z (Wl _ hz)⟩;rcases G3.1 hz with rfl | hz
   ·omega
   ·exact h1 z hz
theorem z7 {x:zl} {xs:List zl} (h:zZ xs):zZ (qp x xs):=NG (Hu h) fun z hz=>by
 have:=(Ov.1 hz).2;simpa using this
theorem zgO {x:zl}:∀ {xs:List zl},(ZV x xs).length=xs.length+1
 | []=>rfl
 | y :: r=>by
  rw[ZV];split
  ·rfl
  ·rw[Wr,zgO,Wr]
theorem ZR {n:Int} {xs:List zl}:(qc n xs).length<=xs.length:=Ao _ _
theorem zdI {x:zl} {xs:List zl}:(qp x xs).length<=xs.length+1:=by
 unfold qp;rw[zgO];have:=ZR (n:=x.ino) (xs:=xs);omega
end
variable {xs:List zl}
section
open CA CB
open Go.RowKit
abbrev Gu (e:zO):List C:=[.str e.name,.sc (.int .i64 e.ino)]
abbrev zQ (es:List zO):List (List C):=es.map Gu
abbrev Yf (x:zl):List C:=[.sc (.int .i64 x.ino),.sc (.int .i64 x.kind),.sc (.int .i64 x.links),.str x.data,.sc (.int .i64 x.parent),.sl 2 (zQ x.es)]
abbrev zx (xs:List zl):List (List C):=xs.map Yf
structure FsV where
 maxI:Int
 maxB:Int
 next:Int
 xs:List zl
deriving DecidableEq,Inhabited
abbrev fsC (f:FsV):List C:=[.sc (.int .i64 f.maxI),.sc (.int .i64 f.maxB),.sc (.int .i64 f.next),.sl 6 (zx f.xs)]
theorem jt (xs:List zl) (i:Nat) (h:i<xs.length):(zx xs)[i]?=some (Yf xs[i]):=by simp[Wv,Wa h]
theorem JV (xs:List zO) (i:Nat) (h:i<xs.length):(zQ xs)[i]?=some (Gu xs[i]):=by simp[Wv,Wa h]
def Nt:zl:=⟨0,0,0,[],0,[]⟩
def zf (n:Int) (xs:List zl):zl:=(Xc n xs).getD Nt
def Uu (a b:Int):Int:=if a<b then -1 else if b<a then 1 else 0
section
variable {G:zr}
theorem zgN (a:Int):Fun Tryz.prog G 225 [.sc (.int .i64 a)] (.sc (.bool false)) 0:=by
 refine fon Tryz.func225 ?_;dsimp only[Tryz.f225];push_cast;exact dn
theorem vo (a b:Int):Fun Tryz.prog G 182 [.sc (.int .i64 a),.sc (.int .i64 b)] (.sc (.int .i64 (Uu a b))) 0:=by
 refine fon Tryz.func182 ?_;dsimp only[Tryz.f182];push_cast;refine cl (zgN a) ?_;push_cast;refine cl (zgN b) ?_;push_cast;refine br (fun h=>?_) (fun h=>?_)
 ·have h:=WN h;push_cast;exact ⟨[],rfl,rfl,by (push_cast [ze,zd,CLe,zg];simp[Uu,h])⟩
 ·have h:=OK h;push_cast;refine br (fun h1=>?_) (fun h1=>?_)
  ·have h1:=WN h1;push_cast;exact ⟨[],rfl,rfl,by (push_cast [ze,zd,CLe,zg];simp[Uu,h,h1])⟩
  ·have h1:=OK h1;push_cast;exact ⟨[],rfl,rfl,by (push_cast [ze,zd,CLe,zg];simp[Uu,h,h1])⟩
theorem zgc (x:zl) (n:Int):Fun Tryz.prog G 181 [.agg (Yf x),.sc (.int .i64 n)] (.sc (.int .i64 (Uu x.ino n))) 0:=by
 refine fon Tryz.func181 ?_;dsimp only[Tryz.f181];push_cast;refine cl (vo x.ino n) ?_;push_cast;exact dn
theorem yX (xs:List zl) (n:Int) (hl:xs.length<=100000) (hR:zZ xs) :
  Fun Tryz.prog G 180 [.sl 6 (zx xs),.sc (.int .i64 n),.clo (.func 181) [] []] (.tup [.sc (.int .i64 (jo n xs:Nat)),.sc (.bool (zk n xs))]) 0:=by
 refine fon Tryz.func180 ?_;dsimp only[Tryz.f180];push_cast;refine loop (fun p:Nat×Nat=>⟨[(0,.sl 6 (zx xs)),(1,.sc (.int .i64 n)),(2,.clo (.func 181) [] []),(8,.sc (.int .i64 (xs.length:Nat))),(9,.sc (.int .i64 p.1)),(10,.sc (.int .i64 p.2))],[],0,0⟩)
  (fun p=>p.1<=p.2/\p.2<=xs.length/\(∀ t (h:t<xs.length),t<p.1->xs[t].ino<n)/\∀ t (h:t<xs.length),p.2<=t->n<=xs[t].ino) (fun p=>p.2-p.1) (0,xs.length) ⟨Wd _,Wb _,fun t _ h=>by (simp at h),fun t h h'=>by (dsimp only at h';omega)⟩ ?_ ?_
 ·exact wk (by push_cast [ze,zd,CLe,zg,We])
 ·rintro ⟨i,j⟩ ⟨h1,h2,h3,h4⟩;dsimp only at h1 h2 h3 h4 ⊢;by_cases h:i<j
  ·obtain ⟨m,hm⟩:∃ m,m=(i+j) / 2:=⟨_,rfl⟩;have hmi:((i:Int)+(j:Int)) / 2=(m:Int):=by omega
   have hml:m<xs.length:=by omega
   have hat:=jt xs m hml;push_cast [h,hmi,hat]
   repeat refine an ?_
   refine cl (zgc xs[m] n) ?_;push_cast;by_cases hc:xs[m].ino<n
   ·have hcv:Uu xs[m].ino n = -1:=by simp[Uu,hc]
    push_cast [hcv]
    repeat refine an ?_
    refine ⟨(m+1,j),⟨by omega,h2,fun t ht hlt=>?_,h4⟩,by dsimp only;omega,wk⟩;dsimp only at hlt;rcases Wq t m with q | q
    ·have:=(WQ.1 hR) t m ht hml q;omega
    ·have:t=m:=by omega
     subst this;exact hc
   ·have hcv:(Uu xs[m].ino n<0)=False:=WH (by unfold Uu;rw[if_neg hc];split<;>omega);push_cast [hcv]
    repeat refine an ?_
    refine ⟨(i,m),⟨by omega,by omega,h3,fun t ht hge=>?_⟩,by dsimp only;omega,wk⟩;dsimp only at hge;rcases Wq m t with q | q
    ·have:=(WQ.1 hR) m t hml ht q;omega
    ·have:t=m:=by omega
     subst this;omega
  ·have hij:i=j:=by omega
   subst hij;have hrk:=Gq n xs i h2 h3 h4;push_cast [h];refine br (fun hx=>?_) (fun hx=>?_)
   ·have hx:i<xs.length:=by simpa using hx
    have hat:=jt xs i hx;have hh:=zkB n xs i hx h3 (h4 i hx (Wb _)) hR;push_cast [hx,hat]
    repeat refine an ?_
    refine cl (zgc xs[i] n) ?_;push_cast;have hcv:decide (Uu xs[i].ino n=0)=zk n xs:=by
     rw[hh];have:=h4 i hx (Wb _);unfold Uu;rw[if_neg (by omega)];split
     ·rw[Wj (by omega),Wj (by omega)]
     ·rw[Wn (by rfl),Wn (by omega)]
    push_cast [hcv];exact dn (by push_cast [ze,zd,CLe,zg,hrk])
   ·have hx:¬i<xs.length:=by simpa using hx
    have hh:=zc8 n xs fun t ht=>h3 t ht (by omega);push_cast [hx];exact dn (by push_cast [ze,zd,CLe,zg,hrk,hh])
theorem zgb (f:FsV) (n:Int) (hl:f.xs.length<=100000) (hR:zZ f.xs):Fun Tryz.prog G 148 [.agg (fsC f),.sc (.int .i64 n)] (.tup [.sc (.int .i64 (jo n f.xs:Nat)),.sc (.bool (zk n f.xs))]) 0:=by
 refine fon Tryz.func148 ?_;dsimp only[Tryz.f148];push_cast;refine cl (yX f.xs n hl hR) ?_;push_cast;exact dn
end
end
section
open Go.RowKit Go.ChangeMaps Go.ChangeShapes Go.WideShapes Go.Deep Go.Joins
def N7 (W:World):Env:=⟨W,fun _ _=>False,fun _=>False⟩
theorem Fun.answers {P:Program} {G:zr} {f:FuncId} {args:List C} {u:Value} {n:Nat} (h:Fun P G f args (.sc u) n) {W:World} {vs:List Value} (hg:XM G (N7 W)) (ha:zy (N7 W) zI args vs) :
  Calls P f vs.toArray W fun e w'=>e = .returned u/\Below W.heap.size W w':=by
 refine (h.2 (N7 W) vs hg ha).mono ?_;rintro e w' ⟨v,R',L',rfl,rfl,st,hr⟩;rw[zq]at hr;subst hr;exact ⟨rfl,st.below⟩
section
variable {H:Type} {enc:TypeId×Value->H} {P:Program} {W:World}
def Opn (enc:TypeId×Value->H) (P:Program) (W:World) (t:TypeId) (Q:C->Prop):Prop:=
 ∀ (fuel:Nat) (cs:List Value) (x:DataW H×List MemPlace),DataW.trod enc P W 0 (fun _=>true) true fuel t cs=some x->∃ v c,cs = [v]/\Q c/\Rep (N7 W) zI c v/\v.oneCell'=true
def jZ (enc:TypeId×Value->H) (P:Program) (W:World) (t:TypeId) (k:Nat) (Q:List C->Prop):Prop:=
 ∀ (fuel:Nat) (cs:List Value) (x:DataW H×List MemPlace),DataW.trod enc P W 0 (fun _=>true) true fuel t cs=some x ->
  ∃ row,Q row/\row.length=k/\cs.length=k/\∀ (j:Nat) c v,row[j]?=some c->cs[j]?=some v->Rep (N7 W) zI c v/\v.oneCell'=true
theorem Opn.int {t:TypeId} {k:IntKind} (ht:P.underlying t=some (.int k)):Opn enc P W t fun c=>∃ n,c = .sc (.int k n)/\(Lit.int k n).wf=true:=fun fuel cs x h=>by
 obtain ⟨n,rfl,_,hw⟩:=DataW.trod_int ht h;exact ⟨_,_,rfl,⟨n,rfl,hw⟩,zq.2 rfl,rfl⟩
theorem Opn.bool {t:TypeId} (ht:P.underlying t=some .bool):Opn enc P W t fun c=>∃ b,c = .sc (.bool b):=fun fuel cs x h=>by
 obtain ⟨n,rfl,_⟩:=DataW.trod_bool ht h;exact ⟨_,_,rfl,⟨n,rfl⟩,zq.2 rfl,rfl⟩
theorem Opn.str {t:TypeId} (ht:P.underlying t=some .string):Opn enc P W t fun c=>∃ l:Lz,c = .str l/\l.length<=maxLen:=fun fuel cs x h=>by
 obtain ⟨s,rfl,_,hs⟩:=DataW.trod_string ht h;exact ⟨_,_,rfl,⟨s.data.toList,rfl,by rw[WR];exact hs⟩,z8.2 (by cases s;simp),rfl⟩
theorem QP {α:Type} {Q:Nat->α->Prop}:∀ n:Nat,(∀ i,i<n->∃ x,Q i x)->∃ l:List α,l.length=n/\∀ i (h:i<l.length),Q i l[i]
 | 0,_=>⟨[],rfl,fun i h=>absurd h (OD _)⟩
 | n+1,h=>by
  obtain ⟨l,hl,hq⟩:=QP n fun i hi=>h i (by omega);obtain ⟨x,hx⟩:=h n (by omega);refine ⟨l++[x],by simp[hl],fun i hi=>?_⟩;rcases Wq i n with h1 | h1
  ·rw[List.getElem_append_left (by omega)];exact hq i (by omega)
  ·have:i=n:=by simp[hl]at hi;omega
   subst this;rw[List.getElem_append_right (by omega)];simpa [hl] using hx
theorem jZ.struct {t:TypeId} {fs:Array Field} {Qs:Nat->C->Prop} (hs:P.underlying t=some (.struct fs)) (hone:oneCellFields P fs=true) (hC:P.cellsOf t=fs.size)
  (h:∀ (j:Nat) f,fs[j]?=some f->Opn enc P W f.type (Qs j)):jZ enc P W t fs.size fun row=>row.length=fs.size/\∀ (j:Nat) c,row[j]?=some c->Qs j c:=fun fuel cs x hx=>by
 obtain ⟨ys,n',hn',hy,hlen,hyl,hf⟩:=DataW.trod_struct hs hx;rw[hC]at hlen;obtain ⟨row,hl,hq⟩:=QP (Q:=fun j (c:C)=>Qs j c/\∃ v,cs[j]?=some v/\Rep (N7 W) zI c v/\v.oneCell'=true) fs.size (fun j hj=>by
  have hfj:fs[j]?=some fs[j]:=W1 hj;obtain ⟨ho,hk⟩:=hone_of hone j _ hfj;have h1:=hf j _ hfj;rw[ho,hk]at h1;have hone':(cs.drop j).take 1 = [cs[j]'(by omega)]:=by
   rw[Of (by omega)]
   rfl
  rw[hone',Wa (by omega)]at h1;obtain ⟨v,c,e,hq,hr,hoc⟩:=h j _ hfj _ _ _ h1;cases e;exact ⟨c,hq,_,Wa (by omega),hr,hoc⟩)
 refine ⟨row,⟨hl,fun j c hj=>?_⟩,hl,hlen,fun j c v h1 h2=>?_⟩
 ·obtain ⟨hj',rfl⟩:=Wc.1 hj;exact (hq j hj').1
 ·obtain ⟨hj',rfl⟩:=Wc.1 h1;obtain ⟨_,v',e,hr,ho⟩:=hq j hj';rw[h2]at e;cases e;exact ⟨hr,ho⟩
theorem Opn.slice {t e:TypeId} {k:Nat} {Q:List C->Prop} (ht:P.underlying t=some (.slice e)) (hC:P.cellsOf e=k) (hk:0<k) (h:jZ enc P W e k Q):Opn enc P W t fun c=>∃ rows,c = .sl k rows/\rows.length<=maxLen/\∀ r∈rows,Q r:=fun fuel cs x hx=>by
 rcases open_slice ht hx with h0 | ⟨a,len,cap,m,n,D,Pl,hcs,hb,hl,hm,hmm,hx,hi⟩
 ·exact ⟨_,.sl k [],h0.1,⟨[],rfl,Wd _,fun r hr=>by cases hr⟩,HH.2 ⟨none,0,rfl,Wb _,Wd _,.inl rfl⟩,rfl⟩
 ·simp only[if_true]at hmm;subst hmm;obtain ⟨rows,hrl,hq⟩:=QP (Q:=fun i (row:List C)=>Q row/\row.length=k/\∀ (j:Nat) c,row[j]?=some c->∃ v,W.cell? (a.add (i*k+j))=some v/\Rep (N7 W) zI c v/\v.oneCell'=true) len (fun i hlt=>by
   obtain ⟨cs',hc,ht'⟩:=hi i (by omega);rw[hC]at hc;obtain ⟨row,hq,hl1,hl2,hr⟩:=h _ _ _ ht';obtain ⟨_,hcl,hat⟩:=World.cells?_some hc;refine ⟨row,hq,hl1,fun j c hj=>?_⟩;have hjl:j<k:=by have:=(Wc.1 hj).1;omega
   have hv:cs'[j]?=some (cs'[j]'(by omega)):=Wa (by omega);obtain ⟨hr1,hr2⟩:=hr j c _ hj hv;refine ⟨_,?_,hr1,hr2⟩;rw[←Go.Deep.add_add,hat j hjl,hv])
  refine ⟨_,.sl k rows,hcs,⟨rows,rfl,by omega,fun r hr=>?_⟩,?_,rfl⟩
  ·obtain ⟨i,hi',rfl⟩:=WD hr;exact (hq i hi').1
  ·refine HH.2 ⟨some a,m,by rw[hrl],by omega,by omega,?_⟩;by_cases h0:rows = []
   ·exact .inl h0
   ·have hpos:0<rows.length:=WG.2 h0;obtain ⟨b,off,spot⟩:=a;obtain ⟨_,hl0,h00⟩:=hq 0 hpos;obtain ⟨v0,hc0,_⟩:=h00 0 ((rows[0]'hpos)[0]'(by omega)) (Wa _);have hspot:spot=none:=by simpa [Addr.add] using World.cell?_spot hc0
    subst hspot;refine .inr ⟨b,off,rfl,qX fun i row hrow=>?_⟩;obtain ⟨hi',rfl⟩:=Wc.1 hrow;obtain ⟨_,hlr,hcr⟩:=hq i hi';refine ⟨hlr,qf fun j c hj=>?_⟩;obtain ⟨v,h1,h2,h3⟩:=hcr j c hj;rw[Addr.add_lit]at h1;exact ⟨v,by rw[BV];exact h1,fun hf=>hf,h2,h3⟩
theorem Opn.arg {r:Reach} {b0:Nat} {t:TypeId} {Q:C->Prop} {v:Value} {d:DataW H} {p:List MemPlace} (h:Opn enc P W t Q) (hv:v.cells = #[v]) (hd:DataW.Trod enc P W 0 (fun _=>true) true t v d p):∃ c,Q c/\Rep (N7 W) zI c v:=by
 obtain ⟨fuel,hf⟩:=hd;rw[hv]at hf;obtain ⟨v',c,e,hq,hr,_⟩:=h _ _ _ hf;cases e;exact ⟨c,hq,hr⟩
theorem jZ.arg {r:Reach} {b0:Nat} {t:TypeId} {fs:Array Field} {k:Nat} {Q:List C->Prop} {v:Value} {d:DataW H} {p:List MemPlace} (h:jZ enc P W t k Q) (hs:P.underlying t=some (.struct fs)) (hval:Value.okWide P W r b0 t v)
  (hd:DataW.Trod enc P W 0 (fun _=>true) true t v d p):∃ row,Q row/\Rep (N7 W) zI (.agg row) v:=by
 obtain ⟨cs,rfl,hsz⟩:=okWide_struct hs hval;obtain ⟨fuel,hf⟩:=hd;obtain ⟨row,hq,h1,h2,hr⟩:=h _ _ _ hf;refine ⟨row,hq,Jk.2 ⟨cs,rfl,Yh ?_ fun i c v hc hv=>(hr i c v hc hv).1⟩⟩;have:cs.toList.length=k:=h2;omega
end
end
section
open Go.RowKit Go.ChangeMaps Go.ChangeShapes Go.WideShapes Go.Deep Go.Joins
theorem Gj {α:Type} {f:α->List C} {q:α->Prop}:∀ {rows:List (List C)},(∀ r∈rows,∃ a,r=f a/\q a)->∃ xs:List α,rows=xs.map f/\∀ x∈xs,q x
 | [],_=>⟨[],rfl,fun x h=>by cases h⟩
 | r :: rows,h=>by
  obtain ⟨xs,rfl,hq⟩:=Gj fun r' hr=>h r' (Wl _ hr);obtain ⟨o,rfl,ho⟩:=h r Wi;exact ⟨o :: xs,rfl,fun x hx=>by
   rcases WK.1 hx with rfl | hx
   ·exact ho
   ·exact hq x hx⟩
section
variable {H:Type} {enc:TypeId×Value->H} {W:World}
theorem zmT:jZ enc Tryz.prog W 112 2 fun row=>∃ o:zO,row=Gu o/\o.name.length<=maxLen:=fun fuel cs x hx=>by
 obtain ⟨row,⟨hl,hq⟩,h1,h2,h3⟩:=jZ.struct (W:=W) (enc:=enc) (Qs:=fun j c=>match j with | 0=>∃ l:Lz,c = .str l/\l.length<=maxLen | 1=>∃ n,c = .sc (.int .i64 n)/\(Lit.int .i64 n).wf=true | _=>True) Tryz.underlying112 (by kernel_rfl) (by kernel_rfl) (fun j f hj=>by
  match j,hj with
  | 0,hj=>cases hj;exact Opn.str Tryz.underlying9
  | 1,hj=>cases hj;exact Opn.int Tryz.underlying3
  | j+2,hj=>simp at hj) fuel cs x hx
 match row,h1,hq,h3 with
 | [c0,c1],_,hq,h3 =>
  obtain ⟨a,rfl,ha⟩:=hq 0 c0 rfl;obtain ⟨k,rfl,_⟩:=hq 1 c1 rfl;exact ⟨_,⟨⟨a,k⟩,rfl,ha⟩,rfl,h2,h3⟩
theorem ziT:Opn enc Tryz.prog W 62 fun c=>∃ xs:List zO,c = .sl 2 (zQ xs)/\xs.length<=maxLen/\∀ x∈xs,x.name.length<=maxLen:=fun fuel cs x hx=>by
 obtain ⟨v,c,rfl,⟨rows,rfl,hl,hr⟩,h1,h2⟩:=Opn.slice (W:=W) (enc:=enc) Tryz.underlying62 (show Tryz.prog.cellsOf 112=2 by kernel_rfl) (by decide) zmT fuel cs x hx;obtain ⟨xs,rfl,hq⟩:=Gj hr;exact ⟨v,_,rfl,⟨xs,rfl,by simpa using hl,hq⟩,h1,h2⟩
def zcP (x:zl):Prop:=x.data.length<=maxLen/\x.es.length<=maxLen/\∀ e∈x.es,e.name.length<=maxLen
theorem zeX:jZ enc Tryz.prog W 64 6 fun row=>∃ o:zl,row=Yf o/\zcP o:=fun fuel cs x hx=>by
 obtain ⟨row,⟨hl,hq⟩,h1,h2,h3⟩:=jZ.struct (W:=W) (enc:=enc) (Qs:=fun j c=>match j with | 0=>∃ n,c = .sc (.int .i64 n)/\(Lit.int .i64 n).wf=true | 1=>∃ n,c = .sc (.int .i64 n)/\(Lit.int .i64 n).wf=true | 2=>∃ n,c = .sc (.int .i64 n)/\(Lit.int .i64 n).wf=true | 3=>∃ l:Lz,c = .str l/\l.length<=maxLen | 4=>∃ n,c = .sc (.int .i64 n)/\(Lit.int .i64 n).wf=true | 5=>∃ xs:List zO,c = .sl 2 (zQ xs)/\xs.length<=maxLen/\∀ x∈xs,x.name.length<=maxLen | _=>True) Tryz.underlying64 (by kernel_rfl) (by kernel_rfl) (fun j f hj=>by
  match j,hj with
  | 0,hj=>cases hj;exact Opn.int Tryz.underlying3
  | 1,hj=>cases hj;exact Opn.int Tryz.underlying3
  | 2,hj=>cases hj;exact Opn.int Tryz.underlying3
  | 3,hj=>cases hj;exact Opn.str Tryz.underlying9
  | 4,hj=>cases hj;exact Opn.int Tryz.underlying3
  | 5,hj=>cases hj;exact ziT
  | j+6,hj=>simp at hj) fuel cs x hx
 match row,h1,hq,h3 with
 | [c0,c1,c2,c3,c4,c5],_,hq,h3 =>
  obtain ⟨a,rfl,_⟩:=hq 0 c0 rfl;obtain ⟨b,rfl,_⟩:=hq 1 c1 rfl;obtain ⟨c,rfl,_⟩:=hq 2 c2 rfl;obtain ⟨d,rfl,hd⟩:=hq 3 c3 rfl;obtain ⟨e,rfl,_⟩:=hq 4 c4 rfl;obtain ⟨f,rfl,hf⟩:=hq 5 c5 rfl;exact ⟨_,⟨⟨a,b,c,d,e,f⟩,rfl,hd,hf⟩,rfl,h2,h3⟩
theorem ur:Opn enc Tryz.prog W 22 fun c=>∃ xs:List zl,c = .sl 6 (zx xs)/\xs.length<=maxLen/\∀ x∈xs,zcP x:=fun fuel cs x hx=>by
 obtain ⟨v,c,rfl,⟨rows,rfl,hl,hr⟩,h1,h2⟩:=Opn.slice (W:=W) (enc:=enc) Tryz.underlying22 (show Tryz.prog.cellsOf 64=6 by kernel_rfl) (by decide) zeX fuel cs x hx;obtain ⟨xs,rfl,hq⟩:=Gj hr;exact ⟨v,_,rfl,⟨xs,rfl,by simpa using hl,hq⟩,h1,h2⟩
theorem zpU:jZ enc Tryz.prog W 24 4 fun row=>∃ f:FsV,row=fsC f/\f.xs.length<=maxLen/\∀ x∈f.xs,zcP x:=fun fuel cs x hx=>by
 obtain ⟨row,⟨hl,hq⟩,h1,h2,h3⟩:=jZ.struct (W:=W) (enc:=enc) (Qs:=fun j c=>match j with | 0=>∃ n,c = .sc (.int .i64 n)/\(Lit.int .i64 n).wf=true | 1=>∃ n,c = .sc (.int .i64 n)/\(Lit.int .i64 n).wf=true | 2=>∃ n,c = .sc (.int .i64 n)/\(Lit.int .i64 n).wf=true | 3=>∃ xs:List zl,c = .sl 6 (zx xs)/\xs.length<=maxLen/\∀ x∈xs,zcP x | _=>True) Tryz.underlying24 (by kernel_rfl) (by kernel_rfl) (fun j f hj=>by
  match j,hj with
  | 0,hj=>cases hj;exact Opn.int Tryz.underlying3
  | 1,hj=>cases hj;exact Opn.int Tryz.underlying3
  | 2,hj=>cases hj;exact Opn.int Tryz.underlying3
  | 3,hj=>cases hj;exact ur
  | j+4,hj=>simp at hj) fuel cs x hx
 match row,h1,hq,h3 with
 | [c0,c1,c2,c3],_,hq,h3 =>
  obtain ⟨a,rfl,_⟩:=hq 0 c0 rfl;obtain ⟨b,rfl,_⟩:=hq 1 c1 rfl;obtain ⟨c,rfl,_⟩:=hq 2 c2 rfl;obtain ⟨d,rfl,hd⟩:=hq 3 c3 rfl;exact ⟨_,⟨⟨a,b,c,d⟩,rfl,hd⟩,rfl,h2,h3⟩
end
end
section
open Go
structure zh7 (κ:Type) where
 lt:κ->κ->Bool
 irr:∀ a,lt a a=false
 tr:∀ {a b c},lt a b=true->lt b c=true->lt a c=true
 tot:∀ {a b},lt a b=false->lt b a=false->a=b
theorem Z2:∀ a:Lz,Op.bytesLess a a=false
 | []=>rfl
 | c :: a=>by
  have h:¬c<c:=by simp
  simp[Op.bytesLess,Z2 a]
theorem G9:∀ {a b c:Lz},Op.bytesLess a b=true->Op.bytesLess b c=true->Op.bytesLess a c=true
 | _,[],_,h,_=>by unfold Op.bytesLess at h;cases h
 | [],y :: b,[],_,h2=>by unfold Op.bytesLess at h2;cases h2
 | [],y :: b,z :: c,_,_=>rfl
 | x :: a,y :: b,[],_,h2=>by unfold Op.bytesLess at h2;cases h2
 | x :: a,y :: b,z :: c,h1,h2=>by
  unfold Op.bytesLess at h1 h2 ⊢;simp only[On,Wp,WU,Ox]at h1 h2 ⊢;rcases h1 with h1 | ⟨rfl,h1⟩
  ·rcases h2 with h2 | ⟨rfl,h2⟩
   ·exact .inl (UInt8.lt_trans h1 h2)
   ·exact .inl h1
  ·rcases h2 with h2 | ⟨rfl,h2⟩
   ·exact .inl h2
   ·exact .inr ⟨rfl,G9 h1 h2⟩
theorem NI:∀ {a b:Lz},Op.bytesLess a b=false->Op.bytesLess b a=false->a=b
 | [],[],_,_=>rfl
 | [],y :: b,h,_=>by unfold Op.bytesLess at h;cases h
 | x :: a,[],_,h=>by unfold Op.bytesLess at h;cases h
 | x :: a,y :: b,h1,h2=>by
  unfold Op.bytesLess at h1 h2;simp only[Be,Oc,An,OU]at h1 h2;obtain ⟨g1,g2⟩:=h1;obtain ⟨g3,g4⟩:=h2;have hxy:x=y:=by
   apply Bc.1;have e1:¬x.toNat<y.toNat:=fun h=>g1 (AF.2 h);have e2:¬y.toNat<x.toNat:=fun h=>g3 (AF.2 h);omega
  subst hxy;have h3:Op.bytesLess a b=false:=by rcases g2 with g | g;exact absurd rfl g;exact g
  have h4:Op.bytesLess b a=false:=by rcases g4 with g | g;exact absurd rfl g;exact g
  rw[NI h3 h4]
theorem zfz:∀ a b:Lz,(Lib.compareBytes a b<0)=(Op.bytesLess a b=true)
 | [],[]=>by simp[Lib.compareBytes,Op.bytesLess]
 | [],_ :: _=>by simp[Lib.compareBytes,Op.bytesLess]
 | _ :: _,[]=>by simp[Lib.compareBytes,Op.bytesLess]
 | a :: x,b :: y=>by
  unfold Lib.compareBytes Op.bytesLess;by_cases h1:a<b
  ·simp[h1]
  ·rw[if_neg h1];by_cases h2:b<a
   ·have:a≠b:=fun e=>by subst e;exact h1 h2
    simp[h1,h2,this]
   ·have e:a=b:=by
     apply Bc.1;have e1:¬a.toNat<b.toNat:=fun h=>h1 (AF.2 h);have e2:¬b.toNat<a.toNat:=fun h=>h2 (AF.2 h);omega
    rw[if_neg h2,zfz x y];subst e;simp[h1]
theorem zeQ:∀ a b:Lz,(Lib.compareBytes a b=0)=(a=b)
 | [],[]=>by simp[Lib.compareBytes]
 | [],_ :: _=>by simp[Lib.compareBytes]
 | _ :: _,[]=>by simp[Lib.compareBytes]
 | a :: x,b :: y=>by
  unfold Lib.compareBytes;by_cases h1:a<b
  ·have:a≠b:=fun e=>by subst e;simp at h1
   simp[h1,this]
  ·rw[if_neg h1];by_cases h2:b<a
   ·have:a≠b:=fun e=>by subst e;exact h1 h2
    simp[h2,this]
   ·have e:a=b:=by
     apply Bc.1;have e1:¬a.toNat<b.toNat:=fun h=>h1 (AF.2 h);have e2:¬b.toNat<a.toNat:=fun h=>h2 (AF.2 h);omega
    rw[if_neg h2,zeQ x y];subst e;simp
def Jv:zh7 Lz:=⟨Op.bytesLess,Z2,G9,NI⟩
def Ji:zh7 Int:=⟨fun a b=>decide (a<b),fun a=>by simp,fun h1 h2=>by simp at h1 h2 ⊢;omega,fun h1 h2=>by simp at h1 h2;omega⟩
section
variable {α κ:Type} [DecidableEq κ] (o:zh7 κ) (key:α->κ)
def qL (xs:List α):Prop:=xs.Pairwise fun a b=>o.lt (key a) (key b)=true
def qr (n:κ) (xs:List α):Nat:=(xs.filter fun x=>o.lt (key x) n).length
def JB (n:κ) (xs:List α):Bool:=xs.any fun x=>decide (key x=n)
def qA (n:κ) (xs:List α):Option α:=xs.find? fun x=>decide (key x=n)
def Yt (n:κ) (xs:List α):List α:=xs.filter fun x=>!decide (key x=n)
def Vi (x:α):List α->List α
 | []=>[x]
 | y :: r=>if o.lt (key x) (key y) then x :: y :: r else y :: Vi x r
variable {o:zh7 κ} {key:α->κ}
theorem zh7.asym {a b:κ} (h:o.lt a b=true):o.lt b a=false:=by
 cases h':o.lt b a with
 | false=>rfl
 | true=>have:=o.tr h h';rw[o.irr]at this;cases this
theorem ZS (n:κ):∀ (xs:List α) (i:Nat),i<=xs.length->(∀ t (h:t<xs.length),t<i->o.lt (key xs[t]) n=true)->(∀ t (h:t<xs.length),i<=t->o.lt (key xs[t]) n=false)->qr o key n xs=i
 | [],i,h,_,_=>by simp at h;simp[qr,h]
 | x :: r,0,_,_,h2=>by
  have hx:o.lt (key x) n=false:=h2 0 (by simp) (Wb _);have ih:=ZS n r 0 (Wd _) (fun t h h'=>absurd h' (OD _)) (fun t h _=>h2 (t+1) (by simp;omega) (Wd _));unfold qr at ih ⊢;rw[OY (by simp[hx])];exact ih
 | x :: r,i+1,h,h1,h2=>by
  have hx:o.lt (key x) n=true:=h1 0 (by simp) (A0 _);have ih:=ZS n r i (by simpa using h) (fun t h h'=>h1 (t+1) (by simp;omega) (by omega)) (fun t h h'=>h2 (t+1) (by simp;omega) (by omega));unfold qr at ih ⊢;rw[Oh (by simp[hx]),Wr,ih]
theorem Zz (n:κ) (xs:List α):qr o key n xs<=xs.length:=Ao _ _
theorem JA {y:α} {r:List α}:qL o key (y :: r)↔(∀ z∈r,o.lt (key y) (key z)=true)/\qL o key r:=Bv
theorem zcf {n:κ} {y:α} {r:List α} (h:o.lt (key y) n=true):qr o key n (y :: r)=qr o key n r+1:=by
 unfold qr;rw[Oh (by simpa using h),Wr]
theorem zaH {n:κ} {y:α} {r:List α} (hR:qL o key (y :: r)) (h:o.lt (key y) n=false):qr o key n (y :: r)=0:=by
 obtain ⟨h1,_⟩:=JA.1 hR;unfold qr;rw[As,AR];intro z hz;rcases WK.1 hz with rfl | hz
 ·simp[h]
 ·have h3:=h1 z hz;cases h4:o.lt (key z) n with
  | false=>simp
  | true=>have:=o.tr h3 h4;rw[h]at this;cases this
theorem zcZ {n:κ} {y:α} {r:List α} (hR:qL o key (y :: r)) (h:o.lt (key y) n=false):JB key n (y :: r)=decide (key y=n):=by
 obtain ⟨h1,_⟩:=JA.1 hR;unfold JB;rw[AS];have:(r.any fun x=>decide (key x=n))=false:=Ob.2 fun z hz=>by
  have h3:=h1 z hz;simp only[WU];rintro rfl;rw[h3]at h;cases h
 rw[this,A3]
theorem Ue (n:κ):∀ {xs:List α},qL o key xs->(∀ t (h:t<xs.length),t<qr o key n xs->o.lt (key xs[t]) n=true)/\(∀ t (h:t<xs.length),qr o key n xs<=t->o.lt (key xs[t]) n=false) /\
  (JB key n xs=true->∃ h:qr o key n xs<xs.length,key xs[qr o key n xs]=n/\qA key n xs=some xs[qr o key n xs]/\Yt key n xs=xs.take (qr o key n xs)++xs.drop (qr o key n xs+1)/\∀ x,key x=n->Vi o key x (Yt key n xs)=xs.set (qr o key n xs) x) /\
  (JB key n xs=false->qA key n xs=none/\Yt key n xs=xs/\∀ x,key x=n->Vi o key x xs=xs.take (qr o key n xs)++x :: xs.drop (qr o key n xs))
 | [],_=>⟨fun t h=>absurd h (OD _),fun t h=>absurd h (OD _),fun h=>(by cases h),fun _=>⟨rfl,rfl,fun x _=>rfl⟩⟩
 | y :: r,hR=>by
  obtain ⟨h1,h2⟩:=JA.1 hR;obtain ⟨i1,i2,i3,i4⟩:=Ue n h2;cases hy:o.lt (key y) n with
  | true =>
   have hne:key y≠n:=by rintro rfl;rw[o.irr]at hy;cases hy
   have hrk:=zcf (r:=r) hy;have hhas:JB key n (y :: r)=JB key n r:=by unfold JB;rw[AS,Wj hne,O0]
   have hfind:qA key n (y :: r)=qA key n r:=by unfold qA;rw[Ah (by simpa using hne)]
   have hless:Yt key n (y :: r)=y :: Yt key n r:=by unfold Yt;rw[Oh (by simpa using hne)]
   have hput:∀ x q,key x=n->Vi o key x (y :: q)=y :: Vi o key x q:=fun x q hx=>by
    rw[Vi,hx,zh7.asym hy];rfl
   rw[hhas,hfind,hless,hrk];refine ⟨fun t h ht=>?_,fun t h ht=>?_,fun h=>?_,fun h=>?_⟩
   ·cases t with
    | zero=>exact hy
    | succ t=>exact i1 t (by simpa using h) (by omega)
   ·cases t with
    | zero=>omega
    | succ t=>exact i2 t (by simpa using h) (by omega)
   ·obtain ⟨g,g1,g2,g3,g4⟩:=i3 h;refine ⟨by simp;omega,by simpa using g1,by simpa using g2,by rw[g3];simp,fun x hx=>?_⟩;rw[hput x _ hx,g4 x hx];simp
   ·obtain ⟨g1,g2,g3⟩:=i4 h;refine ⟨g1,by rw[g2],fun x hx=>?_⟩;rw[hput x _ hx,g3 x hx];simp
  | false =>
   have hrk:=zaH hR hy;have hhas:=zcZ hR hy;rw[hrk,hhas];have hno:∀ z∈r,key z≠n:=fun z hz=>by
    have h3:=h1 z hz;rintro rfl;rw[h3]at hy;cases hy
   have hlr:Yt key n r=r:=by
    unfold Yt;rw[BL];intro z hz;simpa using hno z hz
   refine ⟨fun t h ht=>absurd ht (OD _),fun t h _=>?_,fun h=>?_,fun h=>?_⟩
   ·cases t with
    | zero=>exact hy
    | succ t =>
     have h3:=h1 (r[t]'(by simpa using h)) (WB _);show o.lt (key (r[t]'(by simpa using h))) n=false;cases h4:o.lt (key (r[t]'(by simpa using h))) n with
     | false=>rfl
     | true=>have:=o.tr h3 h4;rw[hy]at this;cases this
   ·have hk:key y=n:=WN h;have hl:Yt key n (y :: r)=r:=by
     show (y :: r).filter (fun x=>!decide (key x=n))=r;rw[OY (by simpa using hk)];exact hlr
    refine ⟨by simp,hk,by unfold qA;rw[AA (by simpa using hk)];rfl,by rw[hl];simp,fun x hx=>?_⟩;rw[hl];cases r with
    | nil=>rfl
    | cons z q =>
     have h3:=h1 z Wi;rw[hk]at h3;rw[Vi,hx,h3];rfl
   ·have hk:key y≠n:=OK h;have hny:o.lt n (key y)=true:=by
     cases h5:o.lt n (key y) with
     | true=>rfl
     | false=>exact absurd (o.tot hy h5) hk
    refine ⟨?_,?_,fun x hx=>?_⟩
    ·unfold qA;rw[Bb];intro z hz;rcases WK.1 hz with rfl | hz
     ·simpa using hk
     ·simpa using hno z hz
    ·show (y :: r).filter (fun x=>!decide (key x=n))=y :: r;rw[Oh (by simpa using hk)];exact Wu _ hlr
    ·rw[Vi,hx,hny];rfl
theorem yp (n:κ) {xs:List α} (hR:qL o key xs) {i:Nat} (hi:qr o key n xs=i) (h:i<xs.length):JB key n xs=decide (key xs[i]=n):=by
 subst hi;obtain ⟨_,_,h3,_⟩:=Ue n hR;cases hh:JB key n xs with
 | true=>obtain ⟨_,g,_⟩:=h3 hh;rw[Wn g]
 | false =>
  symm
  rw[Oc];intro e;unfold JB at hh;rw[Ob]at hh;exact hh _ (WB h) (Wn e)
theorem Gm (n:κ) {xs:List α} (hR:qL o key xs) (hi:qr o key n xs=xs.length):JB key n xs=false:=by
 obtain ⟨_,_,h3,_⟩:=Ue n hR;cases hh:JB key n xs with
 | false=>rfl
 | true=>obtain ⟨g,_⟩:=h3 hh;omega
theorem kN (n:κ) {xs:List α} (h:qL o key xs):qL o key (Yt key n xs):=h.filter _
theorem Qx {x y:α}:∀ {xs:List α},y∈Vi o key x xs↔y=x∨y∈xs
 | []=>by simp[Vi]
 | z :: r=>by
  unfold Vi;split
  ·simp
  ·rw[WK,Qx,WK];constructor
   ·rintro (h | h | h)
    ·exact .inr (.inl h)
    ·exact .inl h
    ·exact .inr (.inr h)
   ·rintro (h | h | h)
    ·exact .inr (.inl h)
    ·exact .inl h
    ·exact .inr (.inr h)
theorem X7 {n:κ} {y:α} {xs:List α}:y∈Yt key n xs↔y∈xs/\key y≠n:=by unfold Yt;simp
theorem Z5 {x:α}:∀ {xs:List α},qL o key xs->(∀ y∈xs,key y≠key x)->qL o key (Vi o key x xs)
 | [],_,_=>by unfold Vi qL;simp
 | y :: r,hR,hne=>by
  obtain ⟨h1,h2⟩:=JA.1 hR;unfold Vi;cases hxy:o.lt (key x) (key y) with
  | true =>
   rw[if_pos rfl,JA];refine ⟨fun z hz=>?_,hR⟩;rcases WK.1 hz with rfl | hz
   ·exact hxy
   ·exact o.tr hxy (h1 z hz)
  | false =>
   rw[if_neg (by simp),JA];have hyx:o.lt (key y) (key x)=true:=by
    cases h:o.lt (key y) (key x) with
    | true=>rfl
    | false=>exact absurd (o.tot h hxy) (hne y Wi)
   refine ⟨fun z hz=>?_,Z5 h2 fun z hz=>hne z (Wl _ hz)⟩;rcases Qx.1 hz with rfl | hz
   ·exact hyx
   ·exact h1 z hz
theorem kl {x:α} {xs:List α} (h:qL o key xs):qL o key (Vi o key x (Yt key (key x) xs)):=
 Z5 (kN _ h) fun y hy=>(X7.1 hy).2
theorem UV (n:κ) (xs:List α):(Yt key n xs).length<=xs.length:=Ao _ _
theorem Ux (x:α):∀ xs:List α,(Vi o key x xs).length=xs.length+1
 | []=>rfl
 | y :: r=>by
  unfold Vi;split
  ·rfl
  ·rw[Wr,Ux x r];rfl
end
end
section
open Go.RowKit
section
variable {G:zr}
theorem zaB (rows:List (List C)) (hk:∀ r∈rows,r.length=2) (hs:jn rows) (hl:rows.length<=100000) :
  YH Tryz.prog G 291 [.sl 2 rows] [] 0 (zdG 2 rows):=by
 refine YH.bySlice (fun h=>?_) (fun h a cap hr=>?_)
 ·refine foX (fun i=>if i=1000000+62 then [true,true] else []) Tryz.func291 ?_;dsimp only[Tryz.f291];push_cast;refine ⟨h,Ze QS Yj rfl rfl (by decide) rfl (qt hk) rfl (Wb _) (Wb _) (by omega) (by omega) (fun hc=>absurd hc ?_) (fun _ c hc hm=>?_)⟩
  ·have:=WG.2 h;omega
  ·push_cast;rw[Ot]at hc;refine ⟨_,_,_,⟨⟨rfl,.inl ⟨h,c,hc,hm,rfl,rfl⟩⟩,Wd _⟩,[],rfl,rfl,?_,by push_cast [ze,zd,CLe,zg]⟩;push_cast [ze,zd,CLe,zg];exact zT (zG hs)
 ·cases a with
  | none =>
   refine foX (fun i=>if i=1000000+62 then [true,true] else []) Tryz.func291 ?_;dsimp only[Tryz.f291];push_cast [hr,O3];exact ⟨_,_,_,⟨⟨rfl,.inr ⟨h,.inl ⟨rfl,rfl⟩⟩⟩,Wd _⟩,[],rfl,rfl,by push_cast [ze,zd,CLe,zg],by push_cast [ze,zd,CLe,zg]⟩
  | some a =>
   refine foX (fun i=>if i=1000000+62 then [true,true] else []) Tryz.func291 ?_;dsimp only[Tryz.f291];push_cast [hr,O4];have hx:C.xs? 2 [[]] (C.sc (.slice (some a) 0 cap))=some (0,[]):=by simp[C.xs?,hr]
   refine Ze QS Yj hx rfl (by decide) rfl rfl rfl (Wb _) (Wb _) (by omega) (by omega) (fun _=>?_) (fun hc=>absurd hc (by omega));push_cast;exact ⟨_,_,_,⟨⟨rfl,.inr ⟨h,.inr ⟨rfl,rfl⟩⟩⟩,Wd _⟩,[],rfl,rfl,by (push_cast [ze,zd,CLe,zg];simp[spl,zg]),by push_cast [ze,zd,CLe,zg]⟩
theorem uj (rows:List (List C)) (x:List C) (i c e:Nat) (hk:∀ r∈rows,r.length=2) (hx:x.length=2) (hs:jn rows) (hsx:(x.all C.stayB)=true) (hl:rows.length<=100000) (hi:i<=rows.length) (hc:rows.length<=c) (hcm:c<=9223372036854775807) :
  YH Tryz.prog G 292 [.bs 0 0 2 rows.length c,.sc (.int .i64 i),.own 0 e 2 [x]] [qx 2 rows c] 1 (zqE 2 (c*2) (rows.take i++x :: rows.drop i)):=by
 refine foX (fun j=>if j=1000000+62 then [true,true] else if j=11 then [false,false,false,false,false,false,false,false,true] else if j=15 then [false,false,false,false,false,false,false,false,true] else []) Tryz.func292 ?_;dsimp only[Tryz.f292];push_cast;have hlen:(rows.take i++x :: rows.drop i).length=rows.length+1:=by simp;omega
 have hki:∀ r∈rows.take i++x :: rows.drop i,r.length=2:=fun r hr=>by
  rcases Wz.1 hr with hr | hr
  ·exact hk r (Wx hr)
  ·rcases WK.1 hr with rfl | hr
   ·exact hx
   ·exact hk r (WT hr)
 have hsi:jn (rows.take i++x :: rows.drop i):=fun r hr=>by
  rcases Wz.1 hr with hr | hr
  ·exact hs r (Wx hr)
  ·rcases WK.1 hr with rfl | hr
   ·exact hsx
   ·exact hs r (WT hr)
 have hbl:=JH hk hc;have hfl:=qt hk;have hxl:[x].flatten.length=1*2:=by simp[hx]
 have hpre:(qx 2 rows c).take rows.flatten.length=rows.flatten:=by unfold qx;rw[Bf]
 refine ⟨hc,⟨by omega,hi⟩,br (fun h=>?_) (fun h=>?_)⟩
 ·push_cast;refine Ze QS Yj rfl rfl (by decide) rfl hxl rfl (by rw[hbl];omega) hc (by simp;omega) (by simp;omega) (fun h1=>?_) (fun h1 c' h2 h3=>?_)
  ·push_cast;have hi':i=rows.length:=WN h;refine ⟨_,_,_,⟨⟨rfl,c,by rw[hlen];exact h1,hcm,.inl ⟨rfl,rfl⟩⟩,Wb _⟩,[],rfl,rfl,?_,by push_cast [ze,zd,CLe,zg,hlen]⟩;push_cast [ze,zd,CLe,zg];have h6:rows.length*2+2<=c*2:=by have:rows.length+1<=c:=h1;omega
   refine JD hki hsi (by rw[hlen];exact h1) (by rw[Q3 (by rw[hbl,hx];exact h6),hbl]) ?_;rw[hlen,hi',Og,A6];unfold spl;rw[←hfl,hpre,OB (by simp[hx,hfl];omega)];simp
  ·push_cast;have hi':i=rows.length:=WN h;have h2':rows.length+1<=c':=h2;refine ⟨_,_,_,⟨⟨rfl,c',by rw[hlen];exact h2,h3,.inr ⟨rfl,rfl⟩⟩,OL rfl⟩,[],rfl,rfl,?_,by push_cast [ze,zd,CLe,zg,hlen]⟩;push_cast [ze,zd,CLe,zg];refine ⟨Xn hbl,JD hki hsi (by rw[hlen];exact h2) (by simp[hx,hbl];omega) ?_⟩;rw[hlen,hi',Og,A6,←hfl,hpre,OB (by simp[hx,hfl];omega)];simp
 ·have hne:i≠rows.length:=OK h;push_cast;refine ⟨⟨by omega,by omega⟩,br (fun h1=>?_) (fun h1=>?_)⟩
  ·have h1':(c:Int)<(rows.length:Int)+1:=WN h1;push_cast
   repeat refine an ?_
   refine znh QS znG Yj rfl (by decide) rfl rfl (by rw[hbl];omega) (by omega) (by omega) (by omega) (by omega) (by omega) (fun c' B h2 h3 hBl hBt=>?_);have e1:((rows.length:Int)+1-(i:Int)).toNat=rows.length+1-i:=by omega
   rw[e1]at h2 ⊢;have e2:i+(rows.length+1-i)=rows.length+1:=by omega
   rw[e2]at h2 ⊢;push_cast
   repeat refine an ?_
   refine XI QS Yj rfl rfl hxl (by rw[hBl];omega) (fun B1 hB1 hl1=>?_);rw[hBl]at hl1;push_cast
   repeat refine an ?_
   have hbp:=Xt (c:=c) hk hi;refine XI QS Yj (km rfl (by rw[hbl];omega)) rfl (by rw[hbp,W6,hfl];omega) (by rw[hl1];omega) (fun B2 hB2 hl2=>?_);rw[hl1]at hl2;have hX:[x].flatten.take (min [x].length (rows.length+1-i)*2)=x:=by
    rw[OM,OA (by omega),Wg (by omega)];simp
   rw[hX]at hB1;rw[hbp,show min (rows.length-i) (rows.length-i)*2=(rows.length-i)*2 by omega,Wg (by rw[W6,hfl];omega),hB1]at hB2;push_cast;refine ⟨_,_,_,⟨⟨rfl,c',by rw[hlen];exact h2,h3,.inr ⟨rfl,rfl⟩⟩,OL rfl⟩,[],rfl,rfl,?_,by push_cast [ze,zd,CLe,zg,hlen]⟩;push_cast [ze,zd,CLe,zg];refine ⟨Xn hbl,JD hki hsi (by rw[hlen];exact h2) hl2 ?_⟩;rw[hlen,←Qp hk,hB2];have hg:=G6 (cs:=B) (L:=rows.flatten) (X:=x) (p:=i*2) (q:=(i+1)*2) (by omega) (by omega) (by
    rw[hBt,AV];unfold qx;rw[ON (by omega)]) (by omega)
   rw[hfl,hx]at hg;rw[←hg];congr 1;omega
  ·have h1':¬(c:Int)<(rows.length:Int)+1:=OK h1;push_cast
   repeat refine an ?_
   refine zmG (yh (P:=Tryz.prog) (tR:=4) Tryz.func303 (by kernel_rfl) (by kernel_rfl) (by kernel_rfl) (by kernel_rfl) QS Yj rfl (Bh (by rw[hbl];omega)) (by simp) (by omega)) ?_;push_cast
   repeat refine an ?_
   have hbp:=Xt (c:=c) hk hi;refine XI QS Yj (km rfl (by rw[hbl];omega)) rfl (by simp[hbl];omega) (by rw[hbl];omega) (fun B1 hB1 hl1=>?_);rw[hbl]at hl1;rw[BT,OA (by omega),show min (rows.length+1-i) (rows.length-i)*2=(rows.length-i)*2 by omega,hbp]at hB1;push_cast
   repeat refine an ?_
   refine XI QS Yj rfl rfl hxl (by rw[hl1];omega) (fun B2 hB2 hl2=>?_);rw[hl1]at hl2;have hX:[x].flatten.take (min [x].length (rows.length+1-i)*2)=x:=by
    rw[OM,OA (by omega),Wg (by omega)];simp
   rw[hX,hB1]at hB2;push_cast;have hcc:rows.length+1<=c:=by omega
   refine ⟨_,_,_,⟨⟨rfl,c,by rw[hlen];exact hcc,hcm,.inl ⟨rfl,rfl⟩⟩,OL rfl⟩,[],rfl,rfl,?_,by push_cast [ze,zd,CLe,zg,hlen]⟩;push_cast [ze,zd,CLe,zg];refine JD hki hsi (by rw[hlen];exact hcc) hl2 ?_;rw[hlen,←Qp hk,hB2];have hg:=UD (cs:=qx 2 rows c) (L:=rows.flatten) (X:=x) (p:=i*2) (q:=(i+1)*2) (by omega) (by omega) hpre (by omega);rw[hfl,hx]at hg;rw[←hg];congr 1;omega
theorem zg1 {e:Nat} (x:List C) (hx:x.length=2) (hsx:(x.all C.stayB)=true) :
  YH Tryz.prog G 292 [.sc (.slice none 0 0),.sc (.int .i64 0),.own 0 e 2 [x]] [] 1 (fun r bx' n=>n=0/\∃ c,1<=c/\c<=9223372036854775807/\r = .bs 0 0 2 1 c/\bx' = [qx 2 [x] c]):=by
 refine foX (fun j=>if j=1000000+62 then [true,true] else if j=11 then [false,false,false,false,false,false,false,false,true] else if j=15 then [false,false,false,false,false,false,false,false,true] else []) Tryz.func292 ?_;dsimp only[Tryz.f292];push_cast;refine No QS Yj rfl rfl (by decide) rfl (by simp[hx]) (by simp) (by simp) (by simp) (fun c h1 h2=>?_);push_cast;refine ⟨_,_,_,⟨⟨rfl,c,h1,h2,rfl,rfl⟩,Wd _⟩,[],rfl,rfl,?_,by push_cast [ze,zd,CLe,zg]⟩;push_cast [ze,zd,CLe,zg];have:=zT (src:=[]) (n:=1) (zG (k:=2) (c:=c) (rows:=[x]) fun r hr=>by
  rw[WY.1 hr];exact hsx)
 unfold qx at this ⊢;simpa using this
end
end
end Go.Proofs.YtnpdbhbmakdklaaGreatDoor.Vcg
section
namespace Go.Proofs
open YtnpdbhbmakdklaaGreatDoor
open Go.Shelf
def Tryz.lays169_ren:Go.Shelf.Ren:=⟨fun | 169=>167 | n=>n,fun | 70=>218 | 9=>9 | 0=>0 | 72=>220 | 37=>174 | 127=>263 | 3=>3 | 5=>5 | n=>n,fun | n=>n⟩
theorem Tryz.lays169:Go.Proofs.Lays.n169 Tryz.prog Tryz.lays169_ren:={
 mixed:=by kernel_rfl
 f169:=Tryz.func167.trans (Wu some (by kernel_rfl))
 t0:=Tryz.underlying0
 a0:=Tryz.isAgg0
 z0:=Tryz.sizeOf0
 v0:=Tryz.zeroValue0
 t3:=Tryz.underlying3
 a3:=Tryz.isAgg3
 z3:=Tryz.sizeOf3
 v3:=Tryz.zeroValue3
 t9:=Tryz.underlying9
 a9:=Tryz.isAgg9
 z9:=Tryz.sizeOf9
 v9:=Tryz.zeroValue9
 t37:=Tryz.underlying174
 a37:=Tryz.isAgg174
 z37:=Tryz.sizeOf174
 v37:=Tryz.zeroValue174
 t70:=Tryz.underlying218
 a70:=Tryz.isAgg218
 z70:=Tryz.sizeOf218
 v70:=Tryz.zeroValue218
 t72:=Tryz.underlying220
 a72:=Tryz.isAgg220
 z72:=Tryz.sizeOf220
 v72:=Tryz.zeroValue220
 t127:=Tryz.underlying263
 a127:=Tryz.isAgg263
 z127:=Tryz.sizeOf263
 v127:=Tryz.zeroValue263 }
theorem Tryz.Builder_Extra_169:Builder.Extra Tryz.prog Tryz.lays169_ren:={
 sizeBuilder:=by kernel_rfl
 liesBuilder:=by kernel_rfl
 t5:=Tryz.underlying5
 a5:=Tryz.isAgg5
 z5:=Tryz.sizeOf5
 v5:=Tryz.zeroValue5
 infoByte:=by kernel_rfl
 cellsByte:=by kernel_rfl
 sizeByte:=by kernel_rfl
 neB5:=by decide }
open Go.RowKit in
theorem Tryz.Builder_String_any (B b:Nat) (l:Lz) (w:World) (h:Lib.IsBuilder 220 5 B b (Lib.byteCells l) w) (hBw:B<=w.heap.size) :
  Calls Tryz.prog 167 #[.pointer (some ⟨b,0,none⟩)] w fun e w'=>e = .returned (.string ⟨l.toArray⟩)/\Below B w w':=Any.Builder_String_any Tryz.lays169 Tryz.Builder_Extra_169 B b l w h hBw
def Tryz.lays156_ren:Go.Shelf.Ren:=⟨fun | 156=>122 | 165=>165 | 166=>166 | 169=>167 | 240=>199 | 241=>200 | 276=>232 | 277=>233 | n=>n,fun | 31=>30 | 9=>9 | 3=>3 | 4=>4 | 0=>0 | 20=>20 | 72=>220 | 76=>224 | 70=>218 | 37=>174 | 75=>223 | 127=>263 | 164=>281 | 5=>5 | 80=>226 | n=>n,fun | n=>n⟩
theorem Tryz.lays156:Go.Proofs.Lays.n156 Tryz.prog Tryz.lays156_ren:={
 mixed:=by kernel_rfl
 f156:=Tryz.func122.trans (Wu some (by kernel_rfl))
 f165:=Tryz.func165.trans (Wu some (by kernel_rfl))
 f166:=Tryz.func166.trans (Wu some (by kernel_rfl))
 f169:=Tryz.func167.trans (Wu some (by kernel_rfl))
 f240:=Tryz.func199.trans (Wu some (by kernel_rfl))
 f241:=Tryz.func200.trans (Wu some (by kernel_rfl))
 f276:=Tryz.func232.trans (Wu some (by kernel_rfl))
 f277:=Tryz.func233.trans (Wu some (by kernel_rfl))
 t0:=Tryz.underlying0
 a0:=Tryz.isAgg0
 z0:=Tryz.sizeOf0
 v0:=Tryz.zeroValue0
 t3:=Tryz.underlying3
 a3:=Tryz.isAgg3
 z3:=Tryz.sizeOf3
 v3:=Tryz.zeroValue3
 t4:=Tryz.underlying4
 a4:=Tryz.isAgg4
 z4:=Tryz.sizeOf4
 v4:=Tryz.zeroValue4
 t9:=Tryz.underlying9
 a9:=Tryz.isAgg9
 z9:=Tryz.sizeOf9
 v9:=Tryz.zeroValue9
 t20:=Tryz.underlying20
 a20:=Tryz.isAgg20
 z20:=Tryz.sizeOf20
 v20:=Tryz.zeroValue20
 t31:=Tryz.underlying30
 a31:=Tryz.isAgg30
 z31:=Tryz.sizeOf30
 v31:=Tryz.zeroValue30
 t37:=Tryz.underlying174
 a37:=Tryz.isAgg174
 z37:=Tryz.sizeOf174
 v37:=Tryz.zeroValue174
 t70:=Tryz.underlying218
 a70:=Tryz.isAgg218
 z70:=Tryz.sizeOf218
 v70:=Tryz.zeroValue218
 t72:=Tryz.underlying220
 a72:=Tryz.isAgg220
 z72:=Tryz.sizeOf220
 v72:=Tryz.zeroValue220
 t75:=Tryz.underlying223
 a75:=Tryz.isAgg223
 z75:=Tryz.sizeOf223
 v75:=Tryz.zeroValue223
 t76:=Tryz.underlying224
 a76:=Tryz.isAgg224
 z76:=Tryz.sizeOf224
 v76:=Tryz.zeroValue224
 t127:=Tryz.underlying263
 a127:=Tryz.isAgg263
 z127:=Tryz.sizeOf263
 v127:=Tryz.zeroValue263
 t164:=Tryz.underlying281
 a164:=Tryz.isAgg281
 z164:=Tryz.sizeOf281
 v164:=Tryz.zeroValue281 }
theorem Tryz.Builder_Extra_156:Builder.Extra Tryz.prog Tryz.lays156_ren:={
 sizeBuilder:=by kernel_rfl
 liesBuilder:=by kernel_rfl
 t5:=Tryz.underlying5
 a5:=Tryz.isAgg5
 z5:=Tryz.sizeOf5
 v5:=Tryz.zeroValue5
 infoByte:=by kernel_rfl
 cellsByte:=by kernel_rfl
 sizeByte:=by kernel_rfl
 neB5:=by decide }
open Go.RowKit in
theorem Tryz.strings_Join_none (a:Option Addr) (c:Nat) (sep:ByteArray) (w:World) :
  Calls Tryz.prog 122 #[.slice a 0 c,.string sep] w fun e w'=>e = .returned (.string ⟨#[]⟩)/\w'=w:=Any.strings_Join_none Tryz.lays156 Tryz.Builder_Extra_156 a c sep w
open Go.RowKit in
theorem Tryz.strings_Join (bk o c:Nat) (xs:List ByteArray) (sep:ByteArray) (w:World) (hcells:∀ (j:Nat) x,xs[j]?=some x->w.cell? ⟨bk,o+j,none⟩=some (.string x)) (hbk:bk<w.heap.size) (hN:xs.length<=140737488355328) (hcap:xs.length<=c) (hlen:(Lib.join (xs.map (·.data.toList)) sep.data.toList).length<=140737488355328) :
  Calls Tryz.prog 122 #[.slice (some ⟨bk,o,none⟩) xs.length c,.string sep] w fun e w'=>e = .returned (.string ⟨(Lib.join (xs.map (·.data.toList)) sep.data.toList).toArray⟩)/\Below w.heap.size w w':=Any.strings_Join Tryz.lays156 Tryz.Builder_Extra_156 bk o c xs sep w hcells hbk hN hcap hlen
def Tryz.lays162_ren:Go.Shelf.Ren:=⟨fun | 162=>162 | 232=>193 | 227=>194 | 234=>195 | 236=>196 | 228=>229 | 271=>230 | 151=>231 | 120=>264 | 197=>191 | 152=>234 | 260=>227 | 137=>145 | 119=>265 | 224=>262 | 225=>261 | 217=>174 | 266=>222 | n=>n,fun | 9=>9 | 4=>4 | 3=>3 | 5=>5 | 117=>255 | 116=>254 | 0=>0 | 124=>258 | 21=>21 | 105=>249 | 46=>261 | 119=>301 | 139=>304 | 138=>303 | n=>n,fun | 3=>5 | 4=>6 | n=>n⟩
theorem Tryz.lays162:Go.Proofs.Lays.n162 Tryz.prog Tryz.lays162_ren:={
 mixed:=by kernel_rfl
 f119:=Tryz.func265.trans (Wu some (by kernel_rfl))
 f120:=Tryz.func264.trans (Wu some (by kernel_rfl))
 f137:=Tryz.func145.trans (Wu some (by kernel_rfl))
 f151:=Tryz.func231.trans (Wu some (by kernel_rfl))
 f152:=Tryz.func234.trans (Wu some (by kernel_rfl))
 f162:=Tryz.func162.trans (Wu some (by kernel_rfl))
 f197:=Tryz.func191.trans (Wu some (by kernel_rfl))
 f217:=Tryz.func174.trans (Wu some (by kernel_rfl))
 f224:=Tryz.func262.trans (Wu some (by kernel_rfl))
 f225:=Tryz.func261.trans (Wu some (by kernel_rfl))
 f227:=Tryz.func194.trans (Wu some (by kernel_rfl))
 f228:=Tryz.func229.trans (Wu some (by kernel_rfl))
 f232:=Tryz.func193.trans (Wu some (by kernel_rfl))
 f234:=Tryz.func195.trans (Wu some (by kernel_rfl))
 f236:=Tryz.func196.trans (Wu some (by kernel_rfl))
 f260:=Tryz.func227.trans (Wu some (by kernel_rfl))
 f266:=Tryz.func222.trans (Wu some (by kernel_rfl))
 f271:=Tryz.func230.trans (Wu some (by kernel_rfl))
 t0:=Tryz.underlying0
 a0:=Tryz.isAgg0
 z0:=Tryz.sizeOf0
 v0:=Tryz.zeroValue0
 t3:=Tryz.underlying3
 a3:=Tryz.isAgg3
 z3:=Tryz.sizeOf3
 v3:=Tryz.zeroValue3
 t4:=Tryz.underlying4
 a4:=Tryz.isAgg4
 z4:=Tryz.sizeOf4
 v4:=Tryz.zeroValue4
 t5:=Tryz.underlying5
 a5:=Tryz.isAgg5
 z5:=Tryz.sizeOf5
 v5:=Tryz.zeroValue5
 t9:=Tryz.underlying9
 a9:=Tryz.isAgg9
 z9:=Tryz.sizeOf9
 v9:=Tryz.zeroValue9
 t21:=Tryz.underlying21
 a21:=Tryz.isAgg21
 z21:=Tryz.sizeOf21
 v21:=Tryz.zeroValue21
 t46:=Tryz.underlying261
 a46:=Tryz.isAgg261
 z46:=Tryz.sizeOf261
 v46:=Tryz.zeroValue261
 t105:=Tryz.underlying249
 a105:=Tryz.isAgg249
 z105:=Tryz.sizeOf249
 v105:=Tryz.zeroValue249
 t116:=Tryz.underlying254
 a116:=Tryz.isAgg254
 z116:=Tryz.sizeOf254
 t117:=Tryz.underlying255
 a117:=Tryz.isAgg255
 z117:=Tryz.sizeOf255
 v117:=Tryz.zeroValue255
 t119:=Tryz.underlying301
 a119:=Tryz.isAgg301
 z119:=Tryz.sizeOf301
 t124:=Tryz.underlying258
 a124:=Tryz.isAgg258
 z124:=Tryz.sizeOf258
 v124:=Tryz.zeroValue258
 t138:=Tryz.underlying303
 a138:=Tryz.isAgg303
 z138:=Tryz.sizeOf303
 v138:=Tryz.zeroValue303
 t139:=Tryz.underlying304
 a139:=Tryz.isAgg304
 z139:=Tryz.sizeOf304
 v139:=Tryz.zeroValue304
 g3:=by kernel_rfl
 g4:=by kernel_rfl }
def Tryz.lays119_ren:Go.Shelf.Ren:=⟨fun | 119=>265 | n=>n,fun | 21=>21 | 4=>4 | n=>n,fun | n=>n⟩
theorem Tryz.lays119:Go.Proofs.Lays.n119 Tryz.prog Tryz.lays119_ren:={
 mixed:=by kernel_rfl
 f119:=Tryz.func265.trans (Wu some (by kernel_rfl))
 t4:=Tryz.underlying4
 a4:=Tryz.isAgg4
 z4:=Tryz.sizeOf4
 v4:=Tryz.zeroValue4
 t21:=Tryz.underlying21
 a21:=Tryz.isAgg21
 z21:=Tryz.sizeOf21
 v21:=Tryz.zeroValue21 }
theorem Tryz.utf8_ValidRune (r:Int) (w:World) :
  Calls Tryz.prog 265 #[.int .i32 r] w fun e w'=>e = .returned (.bool (Lib.validRune r))/\w'=w:=Any.utf8_ValidRune Tryz.lays119 r w
def Tryz.lays106_ren:Go.Shelf.Ren:=⟨fun | 106=>260 | 213=>286 | 265=>302 | n=>n,fun | 9=>9 | 3=>3 | n=>n,fun | n=>n⟩
theorem Tryz.lays106:Go.Proofs.Lays.n106 Tryz.prog Tryz.lays106_ren:={
 mixed:=by kernel_rfl
 f106:=Tryz.func260.trans (Wu some (by kernel_rfl))
 f213:=Tryz.func286.trans (Wu some (by kernel_rfl))
 f265:=Tryz.func302.trans (Wu some (by kernel_rfl))
 t3:=Tryz.underlying3
 a3:=Tryz.isAgg3
 z3:=Tryz.sizeOf3
 v3:=Tryz.zeroValue3
 t9:=Tryz.underlying9
 a9:=Tryz.isAgg9
 z9:=Tryz.sizeOf9
 v9:=Tryz.zeroValue9 }
open Go.RowKit in
theorem Tryz.strings_Compare (a b:ByteArray) (w:World) :
  Calls Tryz.prog 260 #[.string a,.string b] w fun e w'=>e = .returned (.int .i64 (Lib.compareBytes a.data.toList b.data.toList))/\w'=w:=Any.strings_Compare Tryz.lays106 a b w
def Tryz.lays137_ren:Go.Shelf.Ren:=⟨fun | 137=>145 | 217=>174 | 266=>222 | n=>n,fun | 9=>9 | 5=>5 | 3=>3 | n=>n,fun | n=>n⟩
theorem Tryz.lays137:Go.Proofs.Lays.n137 Tryz.prog Tryz.lays137_ren:={
 mixed:=by kernel_rfl
 f137:=Tryz.func145.trans (Wu some (by kernel_rfl))
 f217:=Tryz.func174.trans (Wu some (by kernel_rfl))
 f266:=Tryz.func222.trans (Wu some (by kernel_rfl))
 t3:=Tryz.underlying3
 a3:=Tryz.isAgg3
 z3:=Tryz.sizeOf3
 v3:=Tryz.zeroValue3
 t5:=Tryz.underlying5
 a5:=Tryz.isAgg5
 z5:=Tryz.sizeOf5
 v5:=Tryz.zeroValue5
 t9:=Tryz.underlying9
 a9:=Tryz.isAgg9
 z9:=Tryz.sizeOf9
 v9:=Tryz.zeroValue9 }
open Go.RowKit in
theorem Tryz.strings_IndexByte (s:ByteArray) (c:Int) (w:World) :
  Calls Tryz.prog 145 #[.string s,.int .u8 c] w fun e w'=>e = .returned (.int .i64 (Lib.indexByte s.data.toList c.toNat.toUInt8))/\w'=w:=Any.strings_IndexByte Tryz.lays137 s c w
def Tryz.lays143_ren:Go.Shelf.Ren:=⟨fun | 143=>192 | 219=>228 | 217=>174 | 225=>261 | 224=>262 | 267=>263 | 266=>222 | 314=>287 | n=>n,fun | 9=>9 | 3=>3 | 4=>4 | 5=>5 | 46=>261 | 146=>319 | 51=>318 | n=>n,fun | 1=>4 | n=>n⟩
theorem Tryz.lays143:Go.Proofs.Lays.n143 Tryz.prog Tryz.lays143_ren:={
 mixed:=by kernel_rfl
 f143:=Tryz.func192.trans (Wu some (by kernel_rfl))
 f217:=Tryz.func174.trans (Wu some (by kernel_rfl))
 f219:=Tryz.func228.trans (Wu some (by kernel_rfl))
 f224:=Tryz.func262.trans (Wu some (by kernel_rfl))
 f225:=Tryz.func261.trans (Wu some (by kernel_rfl))
 f266:=Tryz.func222.trans (Wu some (by kernel_rfl))
 f267:=Tryz.func263.trans (Wu some (by kernel_rfl))
 f314:=Tryz.func287.trans (Wu some (by kernel_rfl))
 t3:=Tryz.underlying3
 a3:=Tryz.isAgg3
 z3:=Tryz.sizeOf3
 v3:=Tryz.zeroValue3
 t4:=Tryz.underlying4
 a4:=Tryz.isAgg4
 z4:=Tryz.sizeOf4
 v4:=Tryz.zeroValue4
 t5:=Tryz.underlying5
 a5:=Tryz.isAgg5
 z5:=Tryz.sizeOf5
 v5:=Tryz.zeroValue5
 t9:=Tryz.underlying9
 a9:=Tryz.isAgg9
 z9:=Tryz.sizeOf9
 v9:=Tryz.zeroValue9
 t46:=Tryz.underlying261
 a46:=Tryz.isAgg261
 z46:=Tryz.sizeOf261
 v46:=Tryz.zeroValue261
 t51:=Tryz.underlying318
 a51:=Tryz.isAgg318
 z51:=Tryz.sizeOf318
 v51:=Tryz.zeroValue318
 t146:=Tryz.underlying319
 a146:=Tryz.isAgg319
 z146:=Tryz.sizeOf319
 v146:=Tryz.zeroValue319
 g1:=by kernel_rfl }
open Go.RowKit Go.Lib in
theorem Tryz.strings_Index_one (s:ByteArray) (c:UInt8) (w:World) :
  Calls Tryz.prog 192 #[.string s,.string ⟨#[c]⟩] w fun e w'=>e = .returned (.int .i64 (Lib.indexByte s.data.toList c))/\w'=w:=Any.strings_Index_one Tryz.lays143 s c w
def Tryz.lays99_ren:Go.Shelf.Ren:=⟨fun | 99=>112 | 206=>158 | n=>n,fun | 9=>9 | 4=>4 | 3=>3 | n=>n,fun | n=>n⟩
theorem Tryz.lays99:Go.Proofs.Lays.n99 Tryz.prog Tryz.lays99_ren:={
 mixed:=by kernel_rfl
 f99:=Tryz.func112.trans (Wu some (by kernel_rfl))
 f206:=Tryz.func158.trans (Wu some (by kernel_rfl))
 t3:=Tryz.underlying3
 a3:=Tryz.isAgg3
 z3:=Tryz.sizeOf3
 v3:=Tryz.zeroValue3
 t4:=Tryz.underlying4
 a4:=Tryz.isAgg4
 z4:=Tryz.sizeOf4
 v4:=Tryz.zeroValue4
 t9:=Tryz.underlying9
 a9:=Tryz.isAgg9
 z9:=Tryz.sizeOf9
 v9:=Tryz.zeroValue9 }
open Go.RowKit Go.Lib in
theorem Tryz.strings_HasPrefix (s p:ByteArray) (w:World) :
  Calls Tryz.prog 112 #[.string s,.string p] w fun e w'=>e = .returned (.bool (Lib.hasPrefix s.data.toList p.data.toList))/\w'=w:=Any.strings_HasPrefix Tryz.lays99 s p w
def Tryz.lays100_ren:Go.Shelf.Ren:=⟨fun | 100=>115 | 207=>160 | n=>n,fun | 9=>9 | 4=>4 | 3=>3 | n=>n,fun | n=>n⟩
theorem Tryz.lays100:Go.Proofs.Lays.n100 Tryz.prog Tryz.lays100_ren:={
 mixed:=by kernel_rfl
 f100:=Tryz.func115.trans (Wu some (by kernel_rfl))
 f207:=Tryz.func160.trans (Wu some (by kernel_rfl))
 t3:=Tryz.underlying3
 a3:=Tryz.isAgg3
 z3:=Tryz.sizeOf3
 v3:=Tryz.zeroValue3
 t4:=Tryz.underlying4
 a4:=Tryz.isAgg4
 z4:=Tryz.sizeOf4
 v4:=Tryz.zeroValue4
 t9:=Tryz.underlying9
 a9:=Tryz.isAgg9
 z9:=Tryz.sizeOf9
 v9:=Tryz.zeroValue9 }
open Go.RowKit Go.Lib in
theorem Tryz.strings_HasSuffix (s p:ByteArray) (w:World) (hs:s.size<=9223372036854775807) :
  Calls Tryz.prog 115 #[.string s,.string p] w fun e w'=>e = .returned (.bool (Lib.hasSuffix s.data.toList p.data.toList))/\w'=w:=Any.strings_HasSuffix Tryz.lays100 s p w hs
def Tryz.lays152_ren:Go.Shelf.Ren:=⟨fun | 152=>234 | 137=>145 | 119=>265 | 224=>262 | 225=>261 | 217=>174 | 266=>222 | n=>n,fun | 9=>9 | 21=>21 | 3=>3 | 4=>4 | 5=>5 | 0=>0 | 46=>261 | n=>n,fun | n=>n⟩
theorem Tryz.lays152:Go.Proofs.Lays.n152 Tryz.prog Tryz.lays152_ren:={
 mixed:=by kernel_rfl
 f119:=Tryz.func265.trans (Wu some (by kernel_rfl))
 f137:=Tryz.func145.trans (Wu some (by kernel_rfl))
 f152:=Tryz.func234.trans (Wu some (by kernel_rfl))
 f217:=Tryz.func174.trans (Wu some (by kernel_rfl))
 f224:=Tryz.func262.trans (Wu some (by kernel_rfl))
 f225:=Tryz.func261.trans (Wu some (by kernel_rfl))
 f266:=Tryz.func222.trans (Wu some (by kernel_rfl))
 t0:=Tryz.underlying0
 a0:=Tryz.isAgg0
 z0:=Tryz.sizeOf0
 v0:=Tryz.zeroValue0
 t3:=Tryz.underlying3
 a3:=Tryz.isAgg3
 z3:=Tryz.sizeOf3
 v3:=Tryz.zeroValue3
 t4:=Tryz.underlying4
 a4:=Tryz.isAgg4
 z4:=Tryz.sizeOf4
 v4:=Tryz.zeroValue4
 t5:=Tryz.underlying5
 a5:=Tryz.isAgg5
 z5:=Tryz.sizeOf5
 v5:=Tryz.zeroValue5
 t9:=Tryz.underlying9
 a9:=Tryz.isAgg9
 z9:=Tryz.sizeOf9
 v9:=Tryz.zeroValue9
 t21:=Tryz.underlying21
 a21:=Tryz.isAgg21
 z21:=Tryz.sizeOf21
 v21:=Tryz.zeroValue21
 t46:=Tryz.underlying261
 a46:=Tryz.isAgg261
 z46:=Tryz.sizeOf261
 v46:=Tryz.zeroValue261 }
open Go.RowKit Go.Lib in
theorem Tryz.strings_IndexRune_ascii (s:ByteArray) (r:Int) (w:World) (h0:0<=r) (h1:r<128) :
  Calls Tryz.prog 234 #[.string s,.int .i32 r] w fun e w'=>e = .returned (.int .i64 (Lib.indexByte s.data.toList r.toNat.toUInt8))/\w'=w:=Any.strings_IndexRune_ascii Tryz.lays152 s r w h0 h1
def Tryz.lays226_ren:Go.Shelf.Ren:=⟨fun | 226=>235 | n=>n,fun | 3=>3 | 4=>4 | n=>n,fun | n=>n⟩
theorem Tryz.lays226:Go.Proofs.Lays.n226 Tryz.prog Tryz.lays226_ren:={
 mixed:=by kernel_rfl
 f226:=Tryz.func235.trans (Wu some (by kernel_rfl))
 t3:=Tryz.underlying3
 a3:=Tryz.isAgg3
 z3:=Tryz.sizeOf3
 v3:=Tryz.zeroValue3
 t4:=Tryz.underlying4
 a4:=Tryz.isAgg4
 z4:=Tryz.sizeOf4
 v4:=Tryz.zeroValue4 }
open Go.RowKit Go.Lib in
theorem Tryz.strings_shouldUseASCIISet (n:Int) (w:World) :
  Calls Tryz.prog 235 #[.int .i64 n] w fun e w'=>e = .returned (.bool (decide (8<n)))/\w'=w:=Any.strings_shouldUseASCIISet Tryz.lays226 n w
def Tryz.lays153_ren:Go.Shelf.Ren:=⟨fun | 153=>202 | 152=>234 | 226=>235 | 227=>194 | 228=>229 | 137=>145 | 119=>265 | 224=>262 | 225=>261 | 217=>174 | 266=>222 | n=>n,fun | 9=>9 | 3=>3 | 4=>4 | 5=>5 | 21=>21 | 117=>255 | 116=>254 | 0=>0 | 46=>261 | 124=>258 | n=>n,fun | n=>n⟩
theorem Tryz.lays153:Go.Proofs.Lays.n153 Tryz.prog Tryz.lays153_ren:={
 mixed:=by kernel_rfl
 f119:=Tryz.func265.trans (Wu some (by kernel_rfl))
 f137:=Tryz.func145.trans (Wu some (by kernel_rfl))
 f152:=Tryz.func234.trans (Wu some (by kernel_rfl))
 f153:=Tryz.func202.trans (Wu some (by kernel_rfl))
 f217:=Tryz.func174.trans (Wu some (by kernel_rfl))
 f224:=Tryz.func262.trans (Wu some (by kernel_rfl))
 f225:=Tryz.func261.trans (Wu some (by kernel_rfl))
 f226:=Tryz.func235.trans (Wu some (by kernel_rfl))
 f227:=Tryz.func194.trans (Wu some (by kernel_rfl))
 f228:=Tryz.func229.trans (Wu some (by kernel_rfl))
 f266:=Tryz.func222.trans (Wu some (by kernel_rfl))
 t0:=Tryz.underlying0
 a0:=Tryz.isAgg0
 z0:=Tryz.sizeOf0
 v0:=Tryz.zeroValue0
 t3:=Tryz.underlying3
 a3:=Tryz.isAgg3
 z3:=Tryz.sizeOf3
 v3:=Tryz.zeroValue3
 t4:=Tryz.underlying4
 a4:=Tryz.isAgg4
 z4:=Tryz.sizeOf4
 v4:=Tryz.zeroValue4
 t5:=Tryz.underlying5
 a5:=Tryz.isAgg5
 z5:=Tryz.sizeOf5
 v5:=Tryz.zeroValue5
 t9:=Tryz.underlying9
 a9:=Tryz.isAgg9
 z9:=Tryz.sizeOf9
 v9:=Tryz.zeroValue9
 t21:=Tryz.underlying21
 a21:=Tryz.isAgg21
 z21:=Tryz.sizeOf21
 v21:=Tryz.zeroValue21
 t46:=Tryz.underlying261
 a46:=Tryz.isAgg261
 z46:=Tryz.sizeOf261
 v46:=Tryz.zeroValue261
 t116:=Tryz.underlying254
 a116:=Tryz.isAgg254
 z116:=Tryz.sizeOf254
 t117:=Tryz.underlying255
 a117:=Tryz.isAgg255
 z117:=Tryz.sizeOf255
 v117:=Tryz.zeroValue255
 t124:=Tryz.underlying258
 a124:=Tryz.isAgg258
 z124:=Tryz.sizeOf258
 v124:=Tryz.zeroValue258 }
open Go.RowKit Go.Lib in
theorem Tryz.strings_IndexAny_long (hv116:∀ w,(zeroValue 254).run Tryz.prog w = .ok (.agg (Array.replicate 256 (.bool false))) w) (s chars:ByteArray) (w:World) (h2:2<=chars.size) (h8:8<s.size) (hs:s.size<4294967281) (hcs:chars.size<4294967281) (hascii:∀ (j:Nat) b,chars.data.toList[j]?=some b->b.toNat<128) :
  Calls Tryz.prog 202 #[.string s,.string chars] w fun e w'=>e = .returned (.int .i64 (Lib.indexAny s.data.toList chars.data.toList))/\w'=((w.alloc (.cells (Lib.setCells chars.data.toList) 254)).alloc (.cells (Lib.setCells chars.data.toList) 254)):=Any.strings_IndexAny_long Tryz.lays153 hv116 (by kernel_rfl) s chars w h2 h8 hs hcs hascii
end Go.Proofs
end
namespace Go.Proofs.YtnpdbhbmakdklaaGreatDoor.Vcg
variable {f:FuncId} {args r cs vs ds vs1 fargs:List C} {n off b q i k u b1 j cap e s1 size by' p:Nat} {l:Lz} {a:Int} {ps:List (Nat×C)} {KS:St->Prop} {L:Lay} {H:List k7} {rest:List Oper} {dst:Option Tmp} {op:BinOp} {ty t2:TypeId} {pos:String} {af:Array Edge} {g:Option (Nat×Bool)} {fr:Fr} {us:List Operand} {kd:LK} {z1 z2:Option (List Value)} {fn:Fn} {lo hi mx:Option Int} {k2:IntKind} {v:Value} {lk:List LK} {fp fo:Nat->Option Nat} {place:Nat->Option (Nat×Nat)} {xs:List zl} {ks1:MK} {fbx:List (List C)} {post:C->List (List C)->Nat->Prop} {code:Code} {W:World}
section
open CA CB
open Go.RowKit
section
variable {G:zr}
theorem je (f:FsV) (n:Int) (hl:f.xs.length<=100000) (hR:zZ f.xs):Fun Tryz.prog G 100 [.agg (fsC f),.sc (.int .i64 n)] (.tup [.agg (Yf (zf n f.xs)),.sc (.bool (zk n f.xs))]) 0:=by
 refine fon Tryz.func100 ?_;dsimp only[Tryz.f100];push_cast;refine cl (zgb f n hl hR) ?_;push_cast;cases hh:zk n f.xs with
 | false =>
  have hg:zf n f.xs=Nt:=by unfold zf;rw[Gr hh];rfl
  push_cast [hh];exact dn (by push_cast [ze,zd,CLe,zg,hg,Nt])
 | true =>
  obtain ⟨hlt,hg⟩:=Ne hR hh;have hg:zf n f.xs=f.xs[jo n f.xs]:=by unfold zf;rw[hg];rfl
  have hat:=jt f.xs _ hlt;push_cast [hh,hat]
  (try simp only[lS]);repeat refine an ?_
  exact dn (by push_cast [ze,zd,CLe,zg,hg])
theorem zX:∀ r∈zx xs,r.length=6:=fun r hr=>by
 obtain ⟨x,_,rfl⟩:=WP.1 hr;rfl
theorem zA:jn (zx xs):=fun r hr=>by
 obtain ⟨x,_,rfl⟩:=WP.1 hr;rfl
theorem UP (f:FsV) (x:zl) (hl:f.xs.length<=90000) (hR:zZ f.xs) :
  Fun Tryz.prog G 271 [.agg (fsC f),.agg (Yf x)] (.agg [.sc (.int .i64 f.maxI),.sc (.int .i64 f.maxB),.sc (.int .i64 f.next),.own 0 64 6 (zx (qp x f.xs))]) 1:=by
 have hll:(zx f.xs).length=f.xs.length:=We ..;refine foF (fun _=>[]) Tryz.func271 ?_;dsimp only[Tryz.f271];push_cast;refine cl (zgb f x.ino (by omega) hR) ?_;push_cast;refine jy [] [] (VM (zx f.xs) zX zA (by omega)) rfl (by decide) (by decide) (by simp) (by push_cast) (by push_cast) (fun r bx' m hp=>?_);obtain ⟨rfl,⟨hne,c,h1,h2,rfl,rfl⟩ | ⟨he,⟨rfl,rfl⟩ | ⟨rfl,rfl⟩⟩⟩:=hp
 ·have hbl:=JH zX h1;have hre:∀ fp fo,C.reL fp fo (qx 6 (zx f.xs) c)=qx 6 (zx f.xs) c:=fun fp fo=>zE (zG zA);have hpos:=WG.2 hne;cases hh:zk x.ino f.xs with
  | true =>
   obtain ⟨hlt,_⟩:=Ne hR hh;have hst:=uz (c:=c) (rows:=zx f.xs) (row:=Yf x) (i:=jo x.ino f.xs) zX rfl (by omega);have hset:zx (qp x f.xs)=(zx f.xs).set (jo x.ino f.xs) (Yf x):=by rw[←yy hR hh];simp[List.map_set]
   push_cast [hh,hre,hst];refine ⟨by omega,by omega,by rw[hbl];omega,[(4,64,6,(zx f.xs).set (jo x.ino f.xs) (Yf x),c)],[.inl 0],?_,rfl,rfl,by push_cast [ze,zd,CLe,zg,hset,Bq]⟩;rw[←hset];refine zB (by rw[hset];rfl) (by omega) (by rw[hset,Bq];exact h1) h2 zX zA
  | false =>
   have hset:zx (qp x f.xs)=(zx f.xs).take (jo x.ino f.xs)++Yf x :: (zx f.xs).drop (jo x.ino f.xs):=by rw[←y9 hR hh];simp
   have hrl:=zfW x.ino f.xs;have hsl:(zx (qp x f.xs)).length=(zx f.xs).length+1:=by rw[hset];simp;omega
   push_cast [hh,hre];refine jy [4] [0] (Us (e:=64) (zx f.xs) (Yf x) (jo x.ino f.xs) c zX rfl zA rfl (by omega) (by omega) h1 h2) rfl (by decide) (by decide) (by simp) (by push_cast) (by push_cast [hre]) (fun r bx' m hp=>?_);rw[←hset]at hp;have hre2:∀ fp fo c,C.reL fp fo (qx 6 (zx (qp x f.xs)) c)=qx 6 (zx (qp x f.xs)) c:=fun fp fo c=>zE (zG zA);obtain ⟨rfl,c',g1,g2,⟨rfl,rfl⟩ | ⟨rfl,rfl⟩⟩:=hp
   ·push_cast [hre2,hre];exact ⟨[(4,64,6,zx (qp x f.xs),c')],[.inl 1],zB rfl (by omega) g1 g2 zX zA,rfl,rfl,by push_cast [ze,zd,CLe,zg]⟩
   ·have hra:∀ fp fo,C.reL fp fo (List.replicate (c*6) .any)=List.replicate (c*6) .any:=fun fp fo=>zE (by simp[OE,C.stayB]);push_cast [hre2,hre,hra];exact ⟨[(5,64,6,zx (qp x f.xs),c')],[.inl 1],zB rfl (by omega) g1 g2 zX zA,rfl,rfl,by push_cast [ze,zd,CLe,zg]⟩
 ·have he:f.xs = []:=by simpa using he
  have hh:zk x.ino f.xs=false:=by rw[he];rfl
  have hr0:jo x.ino f.xs=0:=by rw[he];rfl
  have hset:qp x f.xs = [x]:=by rw[he];rfl
  push_cast [hh,hr0];refine jy [] [0] (zab (e:=64) (Yf x) rfl rfl) rfl (by decide) (by decide) (by simp) (by push_cast) (by push_cast) (fun r bx' m hp=>?_);obtain ⟨rfl,c,g1,g2,rfl,rfl⟩:=hp;have hre:∀ fp fo,C.reL fp fo (qx 6 [Yf x] c)=qx 6 [Yf x] c:=fun fp fo=>zE (zG (zA (xs:=[x])));push_cast [hre];exact ⟨[(3,64,6,zx [x],c)],[.inl 1],zB rfl (by omega) g1 g2 zX zA,rfl,rfl,by push_cast [ze,zd,CLe,zg,hset]⟩
 ·have he:f.xs = []:=by simpa using he
  have hh:zk x.ino f.xs=false:=by rw[he];rfl
  have hr0:jo x.ino f.xs=0:=by rw[he];rfl
  have hset:qp x f.xs = [x]:=by rw[he];rfl
  push_cast [hh,hr0];refine jy [3] [0] (Us (e:=64) [] (Yf x) 0 0 (fun r hr=>by cases hr) rfl (fun r hr=>by cases hr) rfl (by simp) (by simp) (by simp) (by simp)) rfl (by decide) (by decide) (by simp) (by push_cast) (by push_cast [qx]) (fun r bx' m hp=>?_);obtain ⟨rfl,c,g1,g2,hp⟩:=hp;have hre:∀ fp fo,C.reL fp fo (qx 6 [Yf x] c)=qx 6 [Yf x] c:=fun fp fo=>zE (zG (zA (xs:=[x])));rcases hp with ⟨rfl,rfl⟩ | ⟨rfl,rfl⟩
  ·push_cast [hre];exact ⟨[(3,64,6,zx [x],c)],[.inl 1],zB rfl (WI (AT _) g1) g1 g2 zX zA,rfl,rfl,by push_cast [ze,zd,CLe,zg,hset]⟩
  ·push_cast [hre];exact ⟨[(4,64,6,zx [x],c)],[.inl 1],zB rfl (WI (AT _) g1) g1 g2 zX zA,rfl,rfl,by push_cast [ze,zd,CLe,zg,hset]⟩
theorem zhJ (f:FsV) (n:Int) (hl:f.xs.length<=90000) (hR:zZ f.xs) (h0:f.xs≠[]) :
  Fun Tryz.prog G 275 [.agg (fsC f),.sc (.int .i64 n)] (.agg [.sc (.int .i64 f.maxI),.sc (.int .i64 f.maxB),.sc (.int .i64 f.next),.own 0 64 6 (zx (qc n f.xs))]) 1:=by
 have hll:(zx f.xs).length=f.xs.length:=We ..;refine foF (fun _=>[]) Tryz.func275 ?_;dsimp only[Tryz.f275];push_cast;refine cl (zgb f n (by omega) hR) ?_;push_cast;refine jy [] [] (VM (zx f.xs) zX zA (by omega)) rfl (by decide) (by decide) (by simp) (by push_cast) (by push_cast) (fun r bx' m hp=>?_);obtain ⟨rfl,⟨hne,c,h1,h2,rfl,rfl⟩ | ⟨he,_⟩⟩:=hp
 ·have hre:∀ fp fo,C.reL fp fo (qx 6 (zx f.xs) c)=qx 6 (zx f.xs) c:=fun fp fo=>zE (zG zA);have hpos:=WG.2 hne;cases hh:zk n f.xs with
  | true =>
   obtain ⟨hlt,_⟩:=Ne hR hh;have hset:zx (qc n f.xs)=(zx f.xs).take (jo n f.xs)++(zx f.xs).drop (jo n f.xs+1):=by rw[←u9 hR hh];simp
   have hsl:(zx (qc n f.xs)).length=(zx f.xs).length-1:=by rw[hset];simp;omega
   have hd:=ziQ (G:=G) (zx f.xs) (jo n f.xs) c zX zA (by omega) (by omega) h1 h2;rw[←hset,←hsl]at hd;have hre2:∀ fp fo,C.reL fp fo (qx 6 (zx (qc n f.xs)) c)=qx 6 (zx (qc n f.xs)) c:=fun fp fo=>zE (zG zA);push_cast [hh,hre]
   (try simp only[lS]);repeat refine an ?_
   rw[hll]at hd;refine VK [3] [] hd rfl (by decide) (by decide) (by simp) (by push_cast) (by push_cast [hre]) ?_;push_cast [hre,hre2];exact ⟨[(3,64,6,zx (qc n f.xs),c)],[.inl 0],zB rfl (by omega) (by omega) h2 zX zA,rfl,rfl,by push_cast [ze,zd,CLe,zg]⟩
  | false =>
   push_cast [hh,hre];exact ⟨[(3,64,6,zx f.xs,c)],[.inl 0],zB rfl (by omega) h1 h2 zX zA,rfl,rfl,by push_cast [ze,zd,CLe,zg,Qt hh]⟩
 ·exact absurd (by simpa using he) h0
theorem zjT {R:Env} {L:Loc} {id:Nat} (h:Rep R L (.own id e 6 [[.sc (.int .i64 1),.sc (.int .i64 2),.sc (.int .i64 0),.str [],.sc (.int .i64 1),.sc (.slice none 0 0)]]) v):Rep R L (.own id e 6 (zx [⟨1,2,0,[],1,[]⟩])) v:=
 zbT (by simp[RLe,zg,CLe]) h
theorem M6 {α:Type} {a b:List α} (ha:i<a.length) (hb:i<b.length) (h:a.take i=b.take i):(a.take (i+1)=b.take (i+1))↔a[i]=b[i]:=by
 rw[WV,WV,h,List.append_right_inj,Wa ha,Wa hb];simp
end
end
section
open CA CB
open Go.RowKit
section
variable {G:zr}
theorem zaW (hi:i<xs.length) (h0:0<i):zZ (xs.take (i+1))↔zZ (xs.take i)/\xs[i-1].ino<xs[i].ino:=by
 rw[WV,Wa hi];unfold zZ;rw[A1];simp only[Option.toList_some,Bx,true_and,WY,forall_eq];constructor
 ·rintro ⟨h1,h2⟩;exact ⟨h1,h2 _ (AD.2 ⟨i-1,by omega,rfl⟩)⟩
 ·rintro ⟨h1,h2⟩;refine ⟨h1,fun a ha=>?_⟩;obtain ⟨j,hj,rfl⟩:=AD.1 ha;rcases Wq j (i-1) with q | q
  ·have:=(WQ.1 h1) j (i-1) (by simp;omega) (by simp;omega) q;simp at this;omega
  ·have:j=i-1:=by omega
   subst this;exact h2
instance (xs:List zl):Decidable (zZ xs):=by unfold zZ;infer_instance
theorem Un (f:FsV) (hl:f.xs.length<=100000):Fun Tryz.prog G 108 [.agg (fsC f)] (.sc (.bool (decide (zZ f.xs)))) 0:=by
 have hll:(zx f.xs).length=f.xs.length:=We ..;refine fon Tryz.func108 ?_;dsimp only[Tryz.f108];push_cast;refine loop (fun i:Nat=>⟨[(1,.ptr 0 0),(3,.sc (.int .i64 i))],[fsC f],0,0⟩) (fun i=>1<=i/\zZ (f.xs.take i)) (fun i=>f.xs.length-i) 1 ⟨Wb _,by
  cases f.xs with
  | nil=>exact List.Pairwise.nil
  | cons x r=>exact Bx _ _⟩ ?_ ?_
 ·exact wk
 ·rintro i ⟨h1,h2⟩;by_cases h:i<f.xs.length
  ·have g1:=jt f.xs i h;have g2:=jt f.xs (i-1) (by omega);have e1:(i:Int)-1=((i-1:Nat):Int):=by omega
   push_cast [hll,h,e1,g1,g2];by_cases hc:f.xs[i].ino<=f.xs[i-1].ino
   ·push_cast [hc]
    repeat refine an ?_
    have hn:¬zZ f.xs:=fun hR=>by
     have:=(WQ.1 hR) (i-1) i (by omega) h (by omega);omega
    exact dn (by push_cast [ze,zd,CLe,zg,hn])
   ·push_cast [hc]
    repeat refine an ?_
    exact ⟨i+1,⟨by omega,(zaW h (by omega)).2 ⟨h2,by omega⟩⟩,by omega,wk⟩
  ·push_cast [hll,h];rw[Wg (by omega)]at h2;exact dn (by push_cast [ze,zd,CLe,zg,h2])
def N8 (x:zl):Prop:=x.data.length<=5000/\x.es.length<=40/\∀ e∈x.es,e.name.length<=300
instance (x:zl):Decidable (N8 x):=by unfold N8;infer_instance
def k8 (xs:List zl):Prop:=xs.length<=40/\∀ x∈xs,N8 x
instance (xs:List zl):Decidable (k8 xs):=by unfold k8;infer_instance
structure FsS (f:FsV):Prop where
 len:f.xs.length<=10000
 node:∀ x∈f.xs,x.es.length<=10000/\x.data.length<=10000/\∀ e∈x.es,e.name.length<=10000
theorem k8.fs {f:FsV} (h:k8 f.xs):FsS f:=⟨by have:=h.1;omega,fun x hx=>by
 obtain ⟨h1,h2,h3⟩:=h.2 x hx;exact ⟨by omega,by omega,fun e he=>by have:=h3 e he;omega⟩⟩
theorem uV (f:FsV):Fun Tryz.prog G 105 [.agg (fsC f)] (.sc (.bool (decide (k8 f.xs)))) 0:=by
 have hll:(zx f.xs).length=f.xs.length:=We ..;refine fon Tryz.func105 ?_;dsimp only[Tryz.f105];push_cast;refine loop (fun i:Nat=>⟨[(1,.ptr 0 0),(3,.sc (.int .i64 i))],[fsC f],0,0⟩) (fun i=>i<=100/\∀ t (h:t<f.xs.length),t<i->N8 f.xs[t]) (fun i=>100-i) 0 ⟨Wd _,fun t h h'=>absurd h' (OD _)⟩ ?_ ?_
 ·exact wk
 ·rintro i ⟨h1,h2⟩;have hend:¬(i<f.xs.length/\i<100)->decide ((f.xs.length:Int)<=40)=decide (k8 f.xs):=fun h=>by
   rw[A8];constructor
   ·intro hle;refine ⟨by omega,fun x hx=>?_⟩;obtain ⟨t,ht,rfl⟩:=WD hx;exact h2 t ht (by omega)
   ·intro h;have:=h.1;omega
  by_cases h:i<f.xs.length
  ·by_cases h100:i<100
   ·have g1:=jt f.xs i h;have h100':(i:Int)<100:=by omega
    have hbad:¬N8 f.xs[i]->¬k8 f.xs:=fun hs hf=>hs (hf.2 _ (WB h));by_cases hd:5000<(f.xs[i].data.length:Int)
    ·have hn:=hbad fun hs=>by have:=hs.1;omega
     push_cast [hll,h,h100',g1,hd]
     repeat refine an ?_
     exact dn (by push_cast [ze,zd,CLe,zg,hn])
    ·by_cases he:40<(f.xs[i].es.length:Int)
     ·have hn:=hbad fun hs=>by have:=hs.2.1;omega
      push_cast [hll,h,h100',g1,hd,We,he]
      repeat refine an ?_
      exact dn (by push_cast [ze,zd,CLe,zg,hn])
     ·push_cast [hll,h,h100',g1,hd,We,he]
      repeat refine an ?_
      refine loop (fun j:Nat=>⟨[(1,.ptr 0 0),(3,.sc (.int .i64 i)),(4,.ptr 1 0),(5,.sc (.int .i64 j))],[fsC f,Yf f.xs[i]],0,0⟩) (fun j=>j<=f.xs[i].es.length/\∀ t (h':t<f.xs[i].es.length),t<j->f.xs[i].es[t].name.length<=300) (fun j=>f.xs[i].es.length-j) 0 ⟨Wd _,fun t h h'=>absurd h' (OD _)⟩ ?_ ?_
      ·exact wk
      ·rintro j ⟨h3,h4⟩;by_cases hj:j<f.xs[i].es.length
       ·have g2:=JV f.xs[i].es j hj;by_cases hs:300<(f.xs[i].es[j].name.length:Int)
        ·have hn:=hbad fun hs'=>by have:=hs'.2.2 _ (WB hj);omega
         push_cast [We,hj,g2,hs]
         repeat refine an ?_
         exact dn (by push_cast [ze,zd,CLe,zg,hn])
        ·push_cast [We,hj,g2,hs]
         repeat refine an ?_
         refine ⟨j+1,⟨hj,fun t ht hlt=>?_⟩,by omega,wk⟩;rcases Wq t j with q | q
         ·exact h4 t ht q
         ·have:t=j:=by omega
          subst this;omega
       ·push_cast [We,hj]
        repeat refine an ?_
        refine ⟨i+1,⟨by omega,fun t ht hlt=>?_⟩,by omega,wk⟩;rcases Wq t i with q | q
        ·exact h2 t ht q
        ·have:t=i:=by omega
         subst this;refine ⟨by omega,by omega,fun e hee=>?_⟩;obtain ⟨u,hu,rfl⟩:=WD hee;exact h4 u hu (by omega)
   ·have h100':((i:Int)<100)=False:=WH (by omega);have:=hend (by omega);push_cast [hll,h,h100'];exact dn (by push_cast [ze,zd,CLe,zg,this])
  ·have:=hend (by omega);push_cast [hll,h];exact dn (by push_cast [ze,zd,CLe,zg,this])
theorem zf1 (f:FsV) (n:Int) (hl:f.xs.length<=90000) :
  Fun Tryz.prog G 104 [.agg (fsC f),.sc (.int .i64 n)] (.agg [.sc (.int .i64 f.maxI),.sc (.int .i64 f.maxB),.sc (.int .i64 f.next),.own 0 64 6 (zx (qc n f.xs))]) 1:=by
 have hll:(zx f.xs).length=f.xs.length:=We ..;refine fon Tryz.func104 ?_;dsimp only[Tryz.f104];push_cast;refine loop (fun i:Nat=>⟨[(1,.sc (.int .i64 n)),(2,.ptr 0 0),(4,.ptr 1 0),(5,.own 0 64 6 (zx (qc n (f.xs.take i)))),(6,.sc (.int .i64 i))],[fsC f,[.sc (.int .i64 0),.sc (.int .i64 0),.sc (.int .i64 0),.sc (.slice none 0 0)]],1,0⟩) (fun i=>i<=f.xs.length) (fun i=>f.xs.length-i) 0 (Wd _) ?_ ?_
 ·exact wks [.inr (64,6)] (by push_cast [ze,zd,CLe,zg,qc,List.filter_nil])
 ·intro i h1;by_cases h:i<f.xs.length
  ·have g1:=jt f.xs i h;have ht:qc n (f.xs.take (i+1))=qc n (f.xs.take i)++qc n [f.xs[i]]:=by
    unfold qc;rw[WV,Wa h,O5];rfl
   have hle:(qc n (f.xs.take i)).length<=i:=WM ZR (by simp;omega);by_cases hc:f.xs[i].ino=n
   ·have ht:qc n (f.xs.take (i+1))=qc n (f.xs.take i):=by rw[ht,Jc hc];simp[qc]
    push_cast [hll,h,g1,hc]
    repeat refine an ?_
    exact ⟨i+1,h,by omega,wks [.inl 0] (by push_cast [ze,zd,CLe,zg,ht])⟩
   ·have ht:qc n (f.xs.take (i+1))=qc n (f.xs.take i)++[f.xs[i]]:=by rw[ht,JQ hc];simp[qc]
    push_cast [hll,h,g1,hc]
    repeat refine an ?_
    exact ⟨i+1,h,by omega,wks [.inl 0] (by push_cast [ze,zd,CLe,zg,ht,Oa])⟩
  ·rw[Wg (by omega)];push_cast [hll,h];exact ⟨[.inl 0],rfl,rfl,by push_cast [ze,zd,CLe,zg]⟩
theorem uE (f:FsV) (x:zl) (hl:f.xs.length<=90000) :
  Fun Tryz.prog G 58 [.agg (fsC f),.agg (Yf x)] (.agg [.sc (.int .i64 f.maxI),.sc (.int .i64 f.maxB),.sc (.int .i64 f.next),.own 0 64 6 (zx (qp x f.xs))]) 1:=by
 have hdl:(qc x.ino f.xs).length<=90000:=WM ZR hl;have hl2:(zx (qc x.ino f.xs)).length=(qc x.ino f.xs).length:=We ..;refine fon Tryz.func58 ?_;dsimp only[Tryz.f58];push_cast;refine cl (zf1 f x.ino hl) ?_;push_cast;unfold qp;generalize qc x.ino f.xs=rest at hdl hl2;refine loop (fun p:Nat×List zl×Bool=>⟨[(2,.ptr 0 0),(3,.ptr 1 0),(4,.ptr 2 0),(5,.sl 6 (zx rest)),(6,.own 0 64 6 (zx p.2.1)),(7,.sc (.bool p.2.2)),(8,.sc (.int .i64 p.1))],[fsC f,Yf x,[.sc (.int .i64 0),.sc (.int .i64 0),.sc (.int .i64 0),.sc (.slice none 0 0)]],1,0⟩)
  (fun p=>p.1<=rest.length/\p.2.1.length<=p.1+p.2.2.toNat/\ZV x rest=p.2.1++(if p.2.2 then rest.drop p.1 else ZV x (rest.drop p.1))) (fun p=>rest.length-p.1) (0,[],false) ⟨Wd _,Wd _,by simp⟩ ?_ ?_
 ·exact wks [.inr (64,6)]
 ·rintro ⟨i,out,d⟩ ⟨h1,h2,h3⟩;dsimp only at h1 h2 h3 ⊢;have hlo:(zx out).length=out.length:=We ..;by_cases h:i<rest.length
  ·have g1:=jt rest i h;rw[Of h]at h3;cases d with
   | true =>
    simp only[Bool.toNat_true]at h2;push_cast [hl2,h,g1]
    repeat refine an ?_
    exact ⟨(i+1,out++[rest[i]],true),⟨h,by simp;omega,by rw[h3];simp⟩,by dsimp only;omega,wks [.inl 0] (by push_cast [ze,zd,CLe,zg,Oa])⟩
   | false =>
    simp only[W7,Oe,ZV]at h3;simp only[Bool.toNat_false]at h2;by_cases hc:x.ino<rest[i].ino
    ·rw[if_pos hc]at h3;push_cast [hl2,h,g1,hc]
     repeat refine an ?_
     exact ⟨(i+1,out++[x]++[rest[i]],true),⟨h,by simp;omega,by rw[h3];simp⟩,by dsimp only;omega,wks [.inl 0] (by push_cast [ze,zd,CLe,zg,Oa])⟩
    ·rw[if_neg hc]at h3;push_cast [hl2,h,g1,hc]
     repeat refine an ?_
     exact ⟨(i+1,out++[rest[i]],false),⟨h,by simp;omega,by rw[h3];simp⟩,by dsimp only;omega,wks [.inl 0] (by push_cast [ze,zd,CLe,zg,Oa])⟩
  ·rw[OG (by omega)]at h3;cases d with
   | true =>
    simp only[Bool.toNat_true]at h2;have h3:ZV x rest=out:=by rw[h3];simp
    push_cast [hl2,h];exact ⟨[.inl 0],rfl,rfl,by push_cast [ze,zd,CLe,zg,h3]⟩
   | false =>
    simp only[Bool.toNat_false]at h2;have h3:ZV x rest=out++[x]:=by rw[h3];simp[ZV]
    push_cast [hl2,h]
    repeat refine an ?_
    exact ⟨[.inl 0],rfl,rfl,by push_cast [ze,zd,CLe,zg,h3,Oa]⟩
theorem zj4 (i b:Int):Fun Tryz.prog G 57 [.sc (.int .i64 i),.sc (.int .i64 b)] (.agg [.sc (.int .i64 i),.sc (.int .i64 b),.sc (.int .i64 2),.own 0 64 6 (zx [⟨1,2,0,[],1,[]⟩])]) 1:=by
 refine Fun.resX (r:=.agg [.sc (.int .i64 i),.sc (.int .i64 b),.sc (.int .i64 2),.own 0 64 6 [[.sc (.int .i64 1),.sc (.int .i64 2),.sc (.int .i64 0),.str [],.sc (.int .i64 1),.sc (.slice none 0 0)]]]) ?_ fun R L v h =>
  zbV (fun vs=>YF (fun v h=>h) (fun vs=>YF (fun v h=>h) fun vs=>YF (fun v h=>h) fun vs=>YF (fun v=>zjT) fun vs h=>h)) h
 refine fon Tryz.func57 ?_;dsimp only[Tryz.f57];push_cast;exact ⟨[.inl 0],rfl,rfl,by push_cast [ze,zd,CLe,zg]⟩
end
end
section
open Go.RowKit
section
variable {G:zr}
theorem ziC {n:Int} (h:i<xs.length):zk n (xs.take (i+1))=(zk n (xs.take i)||(xs[i].ino==n)):=by
 unfold zk;rw[WV,Wa h,BH];simp
theorem zhp {n:Int} (h:i<xs.length) (h0:zk n (xs.take i)=false) (he:xs[i].ino=n):zk n xs=true/\zf n xs=xs[i]:=by
 refine ⟨Ou.2 ⟨xs[i],WB h,by simp[he]⟩,?_⟩;unfold zf Xc;rw[A7 (b:=xs[i]) |>.2 ⟨by simp[he],i,h,rfl,fun j hj=>?_⟩]
 ·rfl
 ·unfold zk at h0;rw[Ob]at h0;have:=h0 xs[j] (AD.2 ⟨j,by omega,rfl⟩);simpa using this
theorem JK (f:FsV) (n:Int) (hl:f.xs.length<=100000):Fun Tryz.prog G 30 [.agg (fsC f),.sc (.int .i64 n)] (.tup [.agg (Yf (zf n f.xs)),.sc (.bool (zk n f.xs))]) 0:=by
 have hll:(zx f.xs).length=f.xs.length:=We ..;refine fon Tryz.func30 ?_;dsimp only[Tryz.f30];push_cast;refine loop (fun i:Nat=>⟨[(1,.sc (.int .i64 n)),(2,.ptr 0 0),(4,.ptr 1 0),(6,.sc (.int .i64 i))],[fsC f,[.sc (.int .i64 0),.sc (.int .i64 0),.sc (.int .i64 0),.str [],.sc (.int .i64 0),.sc (.slice none 0 0)]],0,0⟩) (fun i=>i<=f.xs.length/\zk n (f.xs.take i)=false) (fun i=>f.xs.length-i) 0 ⟨Wd _,rfl⟩ ?_ ?_
 ·exact wk
 ·rintro i ⟨h1,h2⟩;by_cases h:i<f.xs.length
  ·have g1:=jt f.xs i h;by_cases he:f.xs[i].ino=n
   ·obtain ⟨q1,q2⟩:=zhp h h2 he;push_cast [hll,h,g1,he]
    repeat refine an ?_
    exact dn (by push_cast [ze,zd,CLe,zg,q1,q2,he])
   ·have q:=ziC (n:=n) h;rw[h2,show (f.xs[i].ino==n)=false from OU.2 he]at q;push_cast [hll,h,g1,he]
    repeat refine an ?_
    exact ⟨i+1,⟨h,q⟩,by omega,wk⟩
  ·rw[Wg (by omega)]at h2;have hg:zf n f.xs=Nt:=by unfold zf;rw[Gr h2];rfl
   push_cast [hll,h];exact dn (by push_cast [ze,zd,CLe,zg,hg,h2,Nt])
def qj (xs:List zl):Nat:=((xs.filter fun x=>decide (x.kind=1)).map fun x=>x.data.length).sum
theorem Mi:∀ {xs:List zl} {n:Nat},(∀ x∈xs,x.data.length<=n)->qj xs<=xs.length*n
 | [],n,_=>by simp[qj]
 | x :: r,n,h=>by
  have ih:=Mi (xs:=r) (n:=n) fun y hy=>h y (Wl _ hy);have hx:=h x Wi;unfold qj at ih ⊢;rw[O8];split
  ·simp only[WC,OS,Wr];rw[AQ];omega
  ·rw[Wr,AQ];omega
theorem FsS.bytes {f:FsV} (h:FsS f):qj f.xs<=100000000:=by
 have h1:=Mi (xs:=f.xs) (n:=10000) fun x hx=>(h.node x hx).2.1;have h2:=h.len;have:f.xs.length*10000<=10000*10000:=WO _ h2;omega
theorem zaQ (h:i<xs.length):qj (xs.take (i+1))=qj (xs.take i)+if xs[i].kind=1 then xs[i].data.length else 0:=by
 unfold qj;rw[WV,Wa h,O5,Oa,BI];by_cases hk:xs[i].kind=1<;>simp[hk]
theorem zgi (f:FsV) (hf:FsS f):Fun Tryz.prog G 173 [.agg (fsC f)] (.sc (.int .i64 (qj f.xs:Nat))) 0:=by
 have hll:(zx f.xs).length=f.xs.length:=We ..;have h40:=hf.len;have hb0:qj []=0:=rfl;refine fon Tryz.func173 ?_;dsimp only[Tryz.f173];push_cast;refine loop (fun i:Nat=>⟨[(1,.ptr 0 0),(3,.sc (.int .i64 (qj (f.xs.take i):Nat))),(4,.sc (.int .i64 i))],[fsC f],0,0⟩) (fun i=>i<=f.xs.length/\qj (f.xs.take i)<=i*10000) (fun i=>f.xs.length-i) 0 ⟨Wd _,Wd _⟩ ?_ ?_
 ·exact wk (by push_cast [ze,zd,CLe,zg,hb0,Oy])
 ·rintro i ⟨h1,h2⟩;by_cases h:i<f.xs.length
  ·have g1:=jt f.xs i h;have hd:=(hf.node _ (WB h)).2.1;have q:=zaQ h;by_cases hk:f.xs[i].kind=1
   ·rw[if_pos hk]at q;have q':((qj (f.xs.take (i+1)):Nat):Int)=(qj (f.xs.take i):Int)+(f.xs[i].data.length:Int):=by omega
    push_cast [hll,h,g1,hk]
    repeat refine an ?_
    exact ⟨i+1,⟨h,by omega⟩,by omega,wk (by push_cast [ze,zd,CLe,zg,q'])⟩
   ·rw[if_neg hk]at q;have q':qj (f.xs.take (i+1))=qj (f.xs.take i):=by omega
    push_cast [hll,h,g1,hk]
    repeat refine an ?_
    exact ⟨i+1,⟨h,by omega⟩,by omega,wk (by push_cast [ze,zd,CLe,zg,q'])⟩
  ·rw[Wg (by omega)];push_cast [hll,h];exact dn
end
end
section
open Go.RowKit
abbrev G0:zr:=fun _=>none
abbrev znC (l:Lz):List C:=[.str l]
def Z7 (s:List Lz×Lz) (b:UInt8):List Lz×Lz:=
 if b=47 then (if s.2 = [] then s.1 else s.1++[s.2],[]) else (s.1,s.2++[b])
def zkH (s:List Lz×Lz):List Lz:=if s.2 = [] then s.1 else s.1++[s.2]
def nst (l:Lz) (k:Nat):List Lz×Lz:=if k<=l.length then (l.take k).foldl Z7 ([],[]) else (zkH (l.foldl Z7 ([],[])),[])
def zn (l:Lz):List Lz:=zkH (l.foldl Z7 ([],[]))
theorem uL (l:Lz):nst l 0=([],[]):=by simp[nst]
theorem zav (l:Lz) (k:Nat) (b:UInt8) (h:l[k]?=some b):nst l (k+1)=Z7 (nst l k) b:=by
 have hk:k<l.length:=(Wc.1 h).1;unfold nst;rw[if_pos (by omega),if_pos (by omega),WV,h];simp
theorem zdh (l:Lz):nst l (l.length+1)=(zn l,[]):=by
 unfold nst zn;rw[if_neg (by omega)]
theorem zd3 (l:Lz):zkH (nst l l.length)=zn l:=by
 unfold nst zn;rw[if_pos (Wb _),Og]
theorem GT (l:Lz):∀ k,k<=l.length->(nst l k).1.length+(nst l k).2.length<=k
 | 0,_=>by simp[uL]
 | k+1,h=>by
  have hk:k<l.length:=by omega
  have ih:=GT l k (by omega);rw[zav l k l[k] (Wa hk)];unfold Z7;by_cases h47:l[k]=47
  ·rw[if_pos h47];by_cases h2:(nst l k).2 = []
   ·simp[h2];omega
   ·have:0<(nst l k).2.length:=WG.2 h2;simp[h2];omega
  ·rw[if_neg h47];simp;omega
theorem qJ (l:Lz):(zn l).length<=l.length:=by
 rw[←zd3];have:=GT l l.length (Wb _);unfold zkH;split
 ·omega
 ·rename_i h;have:0<(nst l l.length).2.length:=WG.2 h;simp;omega
theorem zgU {b c:UInt8} (h:b≠c):¬((b.toNat:Int)=(c.toNat:Int)):=fun e=>h (Bc.1 (by omega))
theorem zeS {α:Type} (l:List α) (k:Nat) (b:α) (h:l[k]?=some b):(l.take (k+1)).drop k = [b]:=by
 have hk:k<l.length:=(Wc.1 h).1;rw[WV,h,List.drop_append];simp[OA (by omega:k<=l.length)]
theorem kr (l:Lz) (h:l.length<=2000000):Fun Tryz.prog G0 52 [.str l] (.own 0 9 1 ((zn l).map znC)) 1:=by
 refine fon Tryz.func52 ?_;dsimp only[Tryz.f52];push_cast;refine loop (fun k:Nat=>⟨[(0,.str l),(3,.own 0 9 1 ((nst l k).1.map znC)),(4,.str (nst l k).2),(5,.sc (.int .i64 k))],[],1,0⟩) (fun k=>k<=l.length+1) (fun k=>l.length+1-k) 0 (Wd _) ?_ ?_
 ·refine JY.mk [.inr (9,1)] rfl rfl (Wb _) rfl ?_ trivial;push_cast [ze,zd,CLe,zg];simp[uL]
 ·intro k hk;push_cast;by_cases h1:k<=l.length
  ·have hs:=GT l k h1;by_cases h2:k<l.length
   ·obtain ⟨b,hb⟩:∃ b,l[k]?=some b:=⟨l[k],Wa h2⟩;have hn:=zav l k b hb;by_cases h3:b=47
    ·have h3':(b.toNat:Int)=47:=by subst h3;rfl
     by_cases h4:(nst l k).2 = []
     ·push_cast [h1,h2,h3',hb,h4]
      and_intros<;>try omega
      refine ⟨k+1,by omega,by omega,JY.mk [.inl 0] rfl rfl (Wb _) rfl ?_ trivial⟩;push_cast [ze,zd,CLe,zg];simp[hn,Z7,h3,h4]
     ·push_cast [h1,h2,h3',hb,h4];simp only[We,Wr,OC]
      and_intros<;>try omega
      refine ⟨k+1,by omega,by omega,JY.mk [.inl 0] rfl rfl (Wb _) rfl ?_ trivial⟩;push_cast [ze,zd,CLe,zg];simp[hn,Z7,h3,h4,znC]
    ·have h3':¬((b.toNat:Int)=47):=zgU h3;push_cast [h1,h2,h3',hb];rw[zeS l k b hb]
     and_intros<;>try omega
     ·simp;omega
     refine ⟨k+1,by omega,by omega,JY.mk [.inl 0] rfl rfl (Wb _) rfl ?_ trivial⟩;push_cast [ze,zd,CLe,zg];simp[hn,Z7,h3]
   ·obtain rfl:k=l.length:=by omega
    have hl:=zd3 l;have he:=zdh l;have hz:=qJ l;by_cases h4:(nst l l.length).2 = []
    ·push_cast [h1,h2,h4]
     and_intros<;>try omega
     refine ⟨l.length+1,by omega,by omega,JY.mk [.inl 0] rfl rfl (Wb _) rfl ?_ trivial⟩;push_cast [ze,zd,CLe,zg];simp[he,←hl,zkH,h4]
    ·push_cast [h1,h2,h4];simp only[We,Wr,OC]
     and_intros<;>try omega
     refine ⟨l.length+1,by omega,by omega,JY.mk [.inl 0] rfl rfl (Wb _) rfl ?_ trivial⟩;push_cast [ze,zd,CLe,zg];simp[he,←hl,zkH,h4,znC]
  ·obtain rfl:k=l.length+1:=by omega
   have he:=zdh l;push_cast [h1];exact ⟨[.inl 0],rfl,rfl,by push_cast [ze,zd,CLe,zg,he]⟩
end
section
open Go.RowKit
abbrev qg (xs:List Lz):List (List C):=xs.map znC
theorem yI (xs:List Lz):(qg xs).length=xs.length:=We _
theorem zeu (xs:List Lz) (x:Lz):qg xs++[[.str x]]=qg (xs++[x]):=by simp
theorem strs_get? (xs:List Lz) (k:Nat):(qg xs)[k]?=(xs[k]?).map znC:=Wv
theorem zey (xs:List Lz) (k:Nat):(qg xs).drop k=qg (xs.drop k):=List.map_drop.symm
theorem zdt (xs:List Lz) (k:Nat):(qg xs).take k=qg (xs.take k):=List.map_take.symm
theorem yb (xs ys:List Lz):qg xs++qg ys=qg (xs++ys):=Oa.symm
theorem Vf (xs:List Lz) (k:Nat) (h:k<xs.length):(qg xs)[k]?=some [.str (xs[k]'h)]:=by rw[strs_get?,Wa h];rfl
attribute [push_cast] yI zeu zey zdt yb
abbrev qZ (b:Bool):C:=.sc (.bool b)
theorem ub (a b:List Lz) (ha:a.length<=9223372036854775807):Fun Tryz.prog G0 16 [.sl 1 (qg a),.sl 1 (qg b)] (qZ (decide (a=b))) 0:=by
 by_cases hl:a.length=b.length
 ·refine fon Tryz.func16 ?_;dsimp only[Tryz.f16];push_cast [hl];refine loop (fun k:Nat=>⟨[(0,.sl 1 (qg a)),(1,.sl 1 (qg b)),(5,.sc (.int .i64 k))],[],0,0⟩) (fun k=>k<=a.length/\a.take k=b.take k) (fun k=>a.length-k) 0 ⟨Wd _,rfl⟩ ?_ ?_
  ·exact wk
  ·intro k hk;have hk1:=hk.1;have hk2:=hk.2;by_cases h:k<a.length
   ·have hga:=Vf a k h;have hgb:=Vf b k (by omega);by_cases he:a[k]'h=b[k]'(by omega)
    ·push_cast [h,hga,hgb,he];refine ⟨by omega,by omega,by omega,k+1,⟨by omega,?_⟩,by omega,wk⟩;rw[WV,WV,hk2,Wa h,Wa (by omega:k<b.length),he]
    ·push_cast [h,hga,hgb,he];refine ⟨by omega,by omega,[],rfl,rfl,?_⟩;push_cast [ze,zd,CLe,zg];have:a≠b:=fun e=>he (by subst e;rfl);simp[this]
   ·have hkl:k=a.length:=by omega
    push_cast [h];refine ⟨[],rfl,rfl,?_⟩;push_cast [ze,zd,CLe,zg];rw[hkl,Og,hl,Og]at hk2;simp[hk2]
 ·have hl':¬((a.length:Int)=(b.length:Int)):=by omega
  refine fon Tryz.func16 ?_;dsimp only[Tryz.f16];push_cast [hl];refine ⟨[],rfl,rfl,?_⟩;push_cast [ze,zd,CLe,zg];have:a≠b:=fun e=>hl (by rw[e]);simp[this]
def few (l:List Lz):Bool:=(l.take 100).all (fun x=>decide (x.length<=300))&&decide (l.length<=40)
end
section
open Go.RowKit
theorem Fun.wrap {P:Program} {G:zr} {r:C} (he:YO P f=true)
  (h:∀ (R:Env) (vs:List Value),zy R zI args vs->Calls P f vs.toArray R.w fun e w'=>∃ v,e = .returned v/\Below R.w.heap.size R.w w'/\∀ R',Ext R R'->Rep R' zI r v):Fun P G f args r 0:=by
 refine ⟨he,fun R vs hg ha=>(h R vs ha).mono ?_⟩;rintro e w' ⟨v,rfl,hb,hr⟩;have st:qB 0 0 R zI ⟨w',fun b o=>b<R.w.heap.size/\R.M b o,R.F⟩ zI:=qB.mem (nx:=0) hb;exact ⟨v,_,zI,rfl,rfl,st,hr _ st.ext⟩
def Jh:Lz->List Lz
 | []=>[[]]
 | b :: l=>if b=47 then [] :: Jh l else match Jh l with
  | []=>[[b]]
  | x :: r=>(b :: x) :: r
theorem NN (l:Lz):Jh l≠[]:=by
 cases l with
 | nil=>simp[Jh]
 | cons b l =>
  unfold Jh;split
  ·simp
  ·split<;>simp
theorem Gg:∀ l:Lz,Lib.indexByte l 47<0->Jh l = [l]
 | [],_=>rfl
 | b :: l,h=>by
  unfold Lib.indexByte at h;by_cases hb:b=47
  ·subst hb;simp at h
  ·have hb':(b==47)=false:=by simpa using hb
   rw[hb']at h;simp only[W7,Oe]at h;have hl:Lib.indexByte l 47<0:=by
    split at h
    ·rename_i g;have:=Ox.1 g;omega
    ·omega
   unfold Jh;rw[if_neg hb,Gg l hl]
theorem Na:∀ l:Lz,-1<=Lib.indexByte l 47
 | []=>Ak _
 | b :: l=>by
  have:=Na l;unfold Lib.indexByte;split
  ·decide
  ·split
   ·decide
   ·omega
theorem zam:∀ (l:Lz) (i:Nat),Lib.indexByte l 47=(i:Int)->i<l.length/\Jh l=l.take i :: Jh (l.drop (i+1))
 | [],i,h=>by
  have h:(-1:Int)=(i:Int):=h;omega
 | b :: l,i,h=>by
  unfold Lib.indexByte at h;by_cases hb:b=47
  ·subst hb;simp at h;obtain rfl:i=0:=by omega
   refine ⟨by simp,?_⟩
   conv=>lhs;unfold Jh
   simp
  ·have hb':(b==47)=false:=by simpa using hb
   rw[hb']at h;simp only[W7,Oe]at h;split at h
   ·omega
   ·rename_i g;have g':Lib.indexByte l 47≠-1:=by simpa using g
    have hg:=Na l;obtain ⟨j,rfl⟩:∃ j,i=j+1:=⟨i-1,by omega⟩;have hj:Lib.indexByte l 47=(j:Int):=by omega
    obtain ⟨h1,h2⟩:=zam l j hj;refine ⟨by simp;omega,?_⟩
    conv=>lhs;unfold Jh
    rw[if_neg hb,h2];simp
theorem U0:∀ (l:Lz) (a:List Lz) (cur:Lz),zkH (l.foldl Z7 (a,cur))=a++(match Jh l with | []=>[] | x :: r=>(cur++x) :: r).filter (fun x=>!decide (x = []))
 | [],a,cur=>by
  simp only[BS,zkH,Jh];by_cases h:cur = []<;>simp[h]
 | b :: l,a,cur=>by
  simp only[Bo];by_cases hb:b=47
  ·subst hb;have hn:Z7 (a,cur) 47=(if cur = [] then a else a++[cur],[]):=by simp[Z7]
   rw[hn,U0 l]
   conv=>rhs;unfold Jh
   simp only[if_true];have hne:=NN l;cases hs:Jh l with
   | nil=>exact absurd hs hne
   | cons x r=>by_cases h:cur = []<;>simp[h]
  ·have hn:Z7 (a,cur) b=(a,cur++[b]):=by simp[Z7,hb]
   rw[hn,U0 l]
   conv=>rhs;unfold Jh
   rw[if_neg hb];have hne:=NN l;cases hs:Jh l with
   | nil=>exact absurd hs hne
   | cons x r=>simp
theorem Yl (l:Lz):zn l=(Jh l).filter (fun x=>!decide (x = [])):=by
 unfold zn;rw[U0];cases hs:Jh l with
 | nil=>rfl
 | cons x r=>simp
theorem zfF (l:Lz):Fun Tryz.prog G0 192 [.str l,.str [47]] (.sc (.int .i64 (Lib.indexByte l 47))) 0:=by
 refine Fun.wrap (by kernel_rfl) fun R vs h=>?_;obtain ⟨v1,us1,rfl,h1,h⟩:=zh.1 h;obtain ⟨v2,us2,rfl,h2,h⟩:=zh.1 h;rw[zm]at h;subst h;rw[z8]at h1 h2;subst h1 h2;refine (Tryz.strings_Index_one ⟨l.toArray⟩ 47 R.w).mono ?_;rintro e w' ⟨rfl,rfl⟩;exact ⟨_,rfl,W9 _ _,fun R' _=>zq.2 (by simp)⟩
theorem Ho (s:Lz) (hs:s.length<=1000000):xE Tryz.prog G0 190 [] [.ptr 1 0,.ptr 0 0,.ptr 2 0] [[.str s],[.str [47]],[.sc (.int .i64 0)]] (qg (Jh s)):=by
 refine foI (fun _=>[]) Tryz.func190 ?_;dsimp only[Tryz.f190];intro l sf;push_cast;refine loop (fun x:Lz×Nat=>⟨[(0,.sc (.func (.yield l) #[] #[])),(1,.ptr 1 0),(2,.ptr 0 0),(3,.ptr 2 0)],[[.str x.1],[.str [47]],[.sc (.int .i64 0)]],0,x.2⟩)
  (fun x=>x.1.length<=1000000/\(∃ done,Jh s=done++Jh x.1/\done.length=x.2)/\∀ j,j<x.2->sf j=false) (fun x=>x.1.length) (s,0) ⟨hs,⟨[],rfl,rfl⟩,fun j hj=>by omega⟩ ?_ ?_
 ·refine JY.mk [] rfl rfl (Wd _) rfl ?_ ?_<;>push_cast [ze,zd,CLe,zg]<;>omega
 ·rintro ⟨r,k⟩ hx;simp only at hx ⊢;have hr:=hx.1;have hsf:=hx.2.2;obtain ⟨done,hd,hdl⟩:=hx.2.1;clear hx;push_cast;refine call (zfF r) ?_;push_cast;by_cases hi:Lib.indexByte r 47<0
  ·push_cast [hi];have hk:(qg (Jh s))[k]?=some [.str r]:=by
    rw[hd,Gg r hi];simp[←hdl]
   rw[hk];push_cast;refine ⟨by push_cast [ze,zd,CLe,zg],hsf,?_⟩;cases hk2:sf k with
   | true=>exact .inr ⟨A0 k,hk2⟩
   | false =>
    refine .inl ⟨?_,fun j (hj:j<k+1)=>?_⟩
    ·rw[hd,Gg r hi];simp[hdl]
    ·rcases Wq j k with g | g
     ·exact hsf j g
     ·rw[show j=k by omega];exact hk2
  ·have hg:=Na r;obtain ⟨i,hii⟩:∃ i:Nat,Lib.indexByte r 47=(i:Int):=⟨(Lib.indexByte r 47).toNat,by omega⟩;obtain ⟨hir,hsp⟩:=zam r i hii;have hk:(qg (Jh s))[k]?=some [.str (r.take i)]:=by
    rw[hd,hsp];simp[←hdl]
   rw[hii]at hi ⊢;push_cast [hi];rw[hk];push_cast;refine ⟨by omega,by omega,by push_cast [ze,zd,CLe,zg],hsf,br (fun hk2=>?_) (fun hk2=>?_)⟩
   ·push_cast;exact .inr ⟨A0 k,hk2⟩
   ·push_cast;refine ⟨by omega,by omega,(r.drop (i+1),k+1),⟨by simp;omega,⟨done++[r.take i],by rw[hd,hsp];simp,by simp[hdl]⟩,fun j (hj:j<k+1)=>?_⟩,by simp;omega,JY.mk [] rfl rfl (Wd _) rfl ?_ ?_⟩
    ·rcases Wq j k with g | g
     ·exact hsf j g
     ·rw[show j=k by omega];exact hk2
    ·push_cast [ze,zd,CLe,zg]
    ·push_cast [ze,zd,CLe,zg]
theorem Mf (s:Lz):Nr Tryz.prog G0 161 [.str s,.str [47],.sc (.int .i64 0)] [] 0 (.clo (.func 190) [] [.ptr 1 0,.ptr 0 0,.ptr 2 0]) [[.str s],[.str [47]],[.sc (.int .i64 0)]] 0:=by
 refine foB (fun _=>[]) Tryz.func161 ?_;dsimp only[Tryz.f161];push_cast;exact ⟨[],rfl,rfl,by push_cast [ze,zd,CLe,zg],by push_cast [ze,zd,CLe,zg]⟩
theorem NL (s:Lz):Nr Tryz.prog G0 119 [.str s,.str [47]] [] 0 (.clo (.func 190) [] [.ptr 1 0,.ptr 0 0,.ptr 2 0]) [[.str s],[.str [47]],[.sc (.int .i64 0)]] 0:=by
 refine foB (fun _=>[]) Tryz.func119 ?_;dsimp only[Tryz.f119];push_cast;refine VK [] [] (Mf s) rfl (by simp) (by simp) (fun i hi=>by cases hi) (by push_cast) rfl ?_;push_cast;exact ⟨[],rfl,rfl,by push_cast [ze,zd,CLe,zg],by push_cast [ze,zd,CLe,zg]⟩
end
section
open Go.RowKit
abbrev Hy (x:Lz):Bool:=!decide (x = [])
def cnt (xs:List Lz) (k:Nat):Nat:=((xs.take k).filter Hy).length
theorem uI (xs:List Lz) (k:Nat) (x:Lz) (h:xs[k]?=some x):cnt xs (k+1)=if x = [] then cnt xs k else cnt xs k+1:=by
 unfold cnt;rw[WV,h];by_cases hx:x = []<;>simp[hx]
theorem zkQ (xs:List Lz) (k:Nat) (x:Lz) (h:xs[k]?=some x) (hx:x≠[]):(xs.filter Hy)[cnt xs k]?=some x:=by
 have hk:k<xs.length:=(Wc.1 h).1;have e:xs=xs.take k++x :: xs.drop (k+1):=by
  have:=W2 k xs;rw[Of hk]at this;rw[Wa hk]at h;cases h;exact this.symm
 have e2:xs.filter Hy=(xs.take k).filter Hy++x :: (xs.drop (k+1)).filter Hy:=by
  conv=>lhs;rw[e]
  rw[O5,O8];simp[hx]
 rw[e2];unfold cnt;simp
theorem zk6 (xs:List Lz):cnt xs xs.length=(xs.filter Hy).length:=by unfold cnt;rw[Og]
theorem VJ {xs:List Lz} {sf:Nat->Bool}:∀ k,k<=xs.length->(∀ j,j<k->(Hy (xs.getD j [])&&sf (cnt xs j))=false)->∀ j,j<cnt xs k->sf j=false
 | 0,_,_,j,hj=>by simp[cnt]at hj
 | k+1,hk,h,j,hj=>by
  have ih:=VJ k (by omega) fun i hi=>h i (by omega);have hx:xs[k]?=some (xs.getD k []):=by rw[W4,Wa (by omega)];rfl
  rw[uI xs k _ hx]at hj;by_cases he:xs.getD k [] = []
  ·rw[if_pos he]at hj;exact ih j hj
  ·rw[if_neg he]at hj;rcases Wq j (cnt xs k) with g | g
   ·exact ih j g
   ·have h2:=h k (by omega);have h3:Hy (xs.getD k [])=true:=by simp only[Hy,Ab,Oc];exact he
    rw[h3,Or]at h2;rw[show j=cnt xs k by omega];exact h2
theorem QD {xs:List Lz} {it:List C} (h:(qg xs)[k]?=some it):∃ x,xs[k]?=some x/\it = [.str x]:=by
 rw[Wv]at h;cases hq:xs[k]? with
 | none=>rw[hq]at h;cases h
 | some x=>rw[hq]at h;cases h;exact ⟨x,rfl,rfl⟩
theorem Xo (p:Lz) (hs:p.length<=1000000):xE Tryz.prog G0 159 [] [.row [.str p]] [] (qg (zn p)):=by
 rw[Yl];refine foI (fun _=>[]) Tryz.func159 ?_;dsimp only[Tryz.f159];intro l sf;push_cast;refine VK [] [] (NL p) rfl (by simp) (by simp) (fun i hi=>by cases hi) (by push_cast) rfl ?_;push_cast;refine range (qg (Jh p)) (fun k=>Hy ((Jh p).getD k [])&&sf (cnt (Jh p) k)) 1 (fun k=>⟨[],[[.sc (.func (.yield l) #[] #[])]],0,cnt (Jh p) k⟩) (Ho p hs) (by push_cast) (by push_cast) (by push_cast) (Wd _) (by push_cast) (fun it hit=>?_) (fun k _=>rfl) ?_ (fun k it hk hsf=>?_) (fun hsf=>?_)
 ·obtain ⟨x,_,rfl⟩:=WP.1 hit;rfl
 ·exact wk
 ·obtain ⟨x,hx,rfl⟩:=QD hk;have hxd:(Jh p).getD k []=x:=by rw[W4,hx];rfl
  have hkl:k<(Jh p).length:=(Wc.1 hx).1;have hcs:=uI (Jh p) k x hx;have hbef:=VJ (xs:=Jh p) (sf:=sf) k (by omega) hsf;by_cases he:x = []
  ·push_cast [he];refine ⟨?_,JY.mk [] rfl rfl (Wb _) ?_ (by push_cast [ze,zd,CLe,zg]) (by push_cast [ze,zd,CLe,zg])⟩
   ·rw[hxd,he];rfl
   ·simp[hcs,he,St.wt]
  ·have hget:=zkQ (Jh p) k x hx he;have hg2:(qg ((Jh p).filter Hy))[cnt (Jh p) k]?=some [.str x]:=by rw[Wv,hget];rfl
   push_cast [he];rw[hg2];push_cast;refine ⟨by push_cast [ze,zd,CLe,zg],hbef,br (fun h2=>?_) (fun h2=>?_)⟩
   ·push_cast;refine ⟨by rw[hxd,h2];simp[Hy,he],⟨[],[[.sc (.func (.yield l) #[] #[])]],0,cnt (Jh p) k+1⟩,rfl,wk,?_⟩;push_cast;exact .inr ⟨A0 _,h2⟩
   ·push_cast;refine ⟨by rw[h2,O6],JY.mk [] rfl rfl (Wb _) ?_ (by push_cast [ze,zd,CLe,zg]) (by push_cast [ze,zd,CLe,zg])⟩;simp[hcs,he,St.wt]
 ·have hall:=zk6 (Jh p);have hbef:=VJ (xs:=Jh p) (sf:=sf) (Jh p).length (Wb _) fun j hj=>hsf j (by simpa using hj);push_cast;refine .inl ⟨?_,?_⟩
  ·simp[hall]
  ·simpa using hbef
end
section
open Go.RowKit
theorem Ya (p:Lz):Fun Tryz.prog G0 113 [.str p] (.clo (.func 159) [] [.row [.str p]]) 0:=by
 refine fon Tryz.func113 ?_;dsimp only[Tryz.f113];push_cast;exact dn
theorem GO (xs:List Lz) (f:FuncId) (cap:List C) (hsel:C.selL (YW 1) cap=cap) (hit:xE Tryz.prog G0 f [] cap [] (qg xs)) (hx:xs.length<=1000001):Fun Tryz.prog G0 201 [.sc (.slice none 0 0),.clo (.func f) [] cap] (.own 0 9 1 (qg xs)) 1:=by
 refine fon Tryz.func201 ?_;dsimp only[Tryz.f201];push_cast;refine range (qg xs) (fun _=>false) 1 (fun k=>⟨[],[[.own 0 9 1 (qg (xs.take k))]],1,0⟩) hit (by push_cast) hsel (by push_cast) (Wd _) (by push_cast) (fun it h=>?_) (fun k _=>rfl) ?_ (fun k it hk hsf=>?_) (fun hsf=>?_)
 ·obtain ⟨x,_,rfl⟩:=WP.1 h;rfl
 ·exact wks [.inr (9,1)]
 ·obtain ⟨x,hx2,rfl⟩:=QD hk;have hkl:k<xs.length:=(Wc.1 hx2).1;push_cast;simp only[W5];refine ⟨by omega,by omega,JY.mk [.inl 0] rfl rfl (Wb _) rfl (by push_cast [ze,zd,CLe,zg]) ?_⟩;push_cast [ze,zd,CLe,zg];rw[WV,hx2]
  rfl
 ·push_cast;refine ⟨[.inl 0],rfl,rfl,?_⟩;push_cast [ze,zd,CLe,zg];simp
theorem vP (xs:List Lz) (f:FuncId) (cap:List C) (hsel:C.selL (YW 1) cap=cap) (hfrz:C.frzL cap=cap) (hit:xE Tryz.prog G0 f [] cap [] (qg xs)) (hx:xs.length<=1000001):Fun Tryz.prog G0 168 [.clo (.func f) [] cap] (.own 0 9 1 (qg xs)) 1:=by
 refine fon Tryz.func168 ?_;dsimp only[Tryz.f168];push_cast [hfrz];refine call (GO xs f cap hsel hit hx) ?_;push_cast;exact ⟨[.inl 0],rfl,rfl,by push_cast [ze,zd,CLe,zg]⟩
theorem Qb (p:Lz) (hp:p.length<=1000000):Fun Tryz.prog G0 168 [.clo (.func 159) [] [.row [.str p]]] (.own 0 9 1 (qg (zn p))) 1:=
 vP (zn p) _ _ (by push_cast) (by push_cast) (Xo p hp) (by have:=qJ p;omega)
theorem XD (s p:Lz):Fun Tryz.prog G0 112 [.str s,.str p] (.sc (.bool (Lib.hasPrefix s p))) 0:=by
 refine Fun.wrap (by kernel_rfl) fun R vs h=>?_;obtain ⟨v1,us1,rfl,h1,h⟩:=zh.1 h;obtain ⟨v2,us2,rfl,h2,h⟩:=zh.1 h;rw[zm]at h;subst h;rw[z8]at h1 h2;subst h1 h2;refine (Tryz.strings_HasPrefix ⟨s.toArray⟩ ⟨p.toArray⟩ R.w).mono ?_;rintro e w' ⟨rfl,rfl⟩;exact ⟨_,rfl,W9 _ _,fun R' _=>zq.2 (by simp)⟩
theorem Zv (s p:Lz) (hs:s.length<=1000000):Fun Tryz.prog G0 115 [.str s,.str p] (.sc (.bool (Lib.hasSuffix s p))) 0:=by
 refine Fun.wrap (by kernel_rfl) fun R vs h=>?_;obtain ⟨v1,us1,rfl,h1,h⟩:=zh.1 h;obtain ⟨v2,us2,rfl,h2,h⟩:=zh.1 h;rw[zm]at h;subst h;rw[z8]at h1 h2;subst h1 h2;refine (Tryz.strings_HasSuffix ⟨s.toArray⟩ ⟨p.toArray⟩ R.w (by simp[ByteArray.size];omega)).mono ?_;rintro e w' ⟨rfl,rfl⟩;exact ⟨_,rfl,W9 _ _,fun R' _=>zq.2 (by simp)⟩
theorem GJ (xs:List Lz) (sep:Lz) (hx:xs.length<=1000001) (hl:(Lib.join xs sep).length<=100000000):Fun Tryz.prog G0 122 [.sl 1 (qg xs),.str sep] (.str (Lib.join xs sep)) 0:=by
 refine Fun.wrap (by kernel_rfl) fun R vs h=>?_;obtain ⟨v1,us1,rfl,h1,h⟩:=zh.1 h;obtain ⟨v2,us2,rfl,h2,h⟩:=zh.1 h;rw[zm]at h;subst h;rw[z8]at h2;subst h2;obtain ⟨a,cap,rfl,hc1,hc2,hr⟩:=HH.1 h1;have hlen:(qg xs).length=xs.length:=by simp
 have hmap:(xs.map fun x=>ByteArray.mk x.toArray).map (·.data.toList)=xs:=by
  rw[List.map_map]
  conv=>rhs;rw[←List.map_id xs]
  exact A5 fun x _=>by simp
 rcases hr with hr | ⟨b,o,rfl,hr⟩
 ·have:xs = []:=by simpa using hr
  subst this;refine (Tryz.strings_Join_none a cap ⟨sep.toArray⟩ R.w).mono ?_;rintro e w' ⟨rfl,rfl⟩;exact ⟨_,rfl,W9 _ _,fun R' _=>z8.2 (by simp[Lib.join])⟩
 ·by_cases hx0:xs = []
  ·subst hx0;refine (Tryz.strings_Join_none _ cap ⟨sep.toArray⟩ R.w).mono ?_;rintro e w' ⟨rfl,rfl⟩;exact ⟨_,rfl,W9 _ _,fun R' _=>z8.2 (by simp[Lib.join])⟩
  ·have hcells:∀ (j:Nat) x,(xs.map fun x=>ByteArray.mk x.toArray)[j]?=some x->R.w.cell? ⟨b,o+j,none⟩=some (.string x):=fun j x hj=>by
    rw[Wv]at hj;cases hq:xs[j]? with
    | none=>rw[hq]at hj;cases hj
    | some y =>
     rw[hq]at hj;cases hj;obtain ⟨_,g⟩:=ju hr j [.str y] (by rw[Wv,hq];rfl);obtain ⟨⟨v,g1,_,g2,_⟩,_⟩:=qo.1 g;rw[z8]at g2;subst g2;simpa using g1
   have hb:b<R.w.heap.size:=by
    cases xs with
    | nil=>exact absurd rfl hx0
    | cons x r =>
     exact yB (hcells 0 ⟨x.toArray⟩ rfl)
   have hj:=Tryz.strings_Join b o cap (xs.map fun x=>ByteArray.mk x.toArray) ⟨sep.toArray⟩ R.w hcells hb (by simp;omega) (by simpa using hc1) (by rw[hmap];simp;omega);rw[hmap]at hj;simp only[We]at hj;rw[hlen];refine hj.mono ?_;rintro e w' ⟨rfl,hbl⟩;exact ⟨_,rfl,hbl,fun R' _=>z8.2 (by simp)⟩
end
section
open Go.RowKit
def zj2 (p:Lz):C:=.agg [qZ (Lib.hasPrefix p [47]),.own 0 9 1 (qg (zn p)),qZ (!decide (zn p = [])&&Lib.hasSuffix p [47])]
theorem Uw (p:Lz) (hp:p.length<=1000000):Fun Tryz.prog G0 125 [.str p] (zj2 p) 1:=by
 refine fon Tryz.func125 ?_;dsimp only[Tryz.f125];push_cast;refine call (Ya p) ?_;push_cast;refine call (Qb p hp) ?_;push_cast;refine call (XD p [47]) ?_;push_cast;by_cases h:zn p = []
 ·push_cast [h];exact ⟨[.inl 0],rfl,rfl,by simp only[zj2];push_cast [ze,zd,CLe,zg,h];simp⟩
 ·have h':0<(zn p).length:=WG.2 h;push_cast [h'];refine call (Zv p [47] hp) ?_;push_cast;exact ⟨[.inl 0],rfl,rfl,by simp only[zj2];push_cast [ze,zd,CLe,zg,h]⟩
def put (a:Bool) (xs:List Lz) (s:Bool):Lz:=(if a then [47] else [])++Lib.join xs [47]++(if s&&!decide (xs = []) then [47] else [])
def qq (xs:List Lz):Lz:=if xs = [] then [47] else 47 :: Lib.join xs [47]
theorem XV (xs:List Lz) (hx:xs.length<=1000001) (hl:(Lib.join xs [47]).length<=100000000):Fun Tryz.prog G0 127 [.sl 1 (qg xs)] (.str (qq xs)) 0:=by
 refine fon Tryz.func127 ?_;dsimp only[Tryz.f127];push_cast;by_cases h:xs = []
 ·push_cast [h];exact ⟨[],rfl,rfl,by simp only[qq,h];push_cast [ze,zd,CLe,zg]⟩
 ·have h':¬((xs.length:Int)=0):=by have:=WG.2 h;omega
  push_cast [h'];refine call ((GJ xs [47] hx hl)) ?_;push_cast;exact ⟨by omega,[],rfl,rfl,by simp only[qq,if_neg h];push_cast [ze,zd,CLe,zg]⟩
def Zw (p:Lz):Bool:=(zn p).any (fun x=>decide (255<x.length))||decide (4095<p.length)
theorem uR (p:Lz) (hp:p.length<=1000000):Fun Tryz.prog G0 175 [.str p] (qZ (Zw p)) 0:=by
 refine fon Tryz.func175 ?_;dsimp only[Tryz.f175];push_cast;refine call (Ya p) ?_;push_cast;refine range (qg (zn p)) (fun k=>decide (255<((zn p).getD k []).length)) 1 (fun k=>⟨[],[[.sc (.bool false)]],0,0⟩) (Xo p hp) (by push_cast) (by push_cast) (by push_cast) (Wd _) (by push_cast) (fun it h=>?_) (fun k _=>rfl) ?_ (fun k it hk hsf=>?_) (fun hsf=>?_)
 ·obtain ⟨x,_,rfl⟩:=WP.1 h;rfl
 ·exact wk
 ·obtain ⟨x,hx,rfl⟩:=QD hk;have hxd:(zn p).getD k []=x:=by rw[W4,hx];rfl
  push_cast;rw[hxd];refine br (fun h=>?_) (fun h=>?_)
  ·have h':255<x.length:=by have:=WN h;omega
   push_cast;refine ⟨by simpa using h',⟨[],[[.sc (.bool true)]],0,0⟩,rfl,wk,?_⟩;push_cast;refine ⟨[],rfl,rfl,?_⟩;push_cast [ze,zd,CLe,zg];have:(zn p).any (fun x=>decide (255<x.length))=true:=Ou.2 ⟨x,Wf hx,by simpa using h'⟩;simp[Zw,this]
  ·have h':¬255<x.length:=by have:=OK h;omega
   push_cast;exact ⟨by simpa using h',wk⟩
 ·push_cast;refine ⟨[],rfl,rfl,?_⟩;push_cast [ze,zd,CLe,zg];have:(zn p).any (fun x=>decide (255<x.length))=false:=Ob.2 fun x hx=>by
   obtain ⟨k,hk,rfl⟩:=WD hx;have:=hsf k (by simpa using hk);rw[W4,Wa hk]at this;simpa using this
  simp[Zw,this];omega
def Z1 (p:Lz):Lz:=(zn p).getLastD (if Lib.hasPrefix p [47] then [47] else [])
theorem uy (p:Lz) (hp:p.length<=1000000):Fun Tryz.prog G0 67 [.str p] (.str (Z1 p)) 0:=by
 refine fon Tryz.func67 ?_;dsimp only[Tryz.f67];push_cast;refine call (XD p [47]) ?_;push_cast;have go:∀ b0:Lz,b0=(if Lib.hasPrefix p [47] then [47] else [])->Z1 p=((zn p).take (zn p).length).getLastD b0:=fun b0 hb=>by rw[Og,hb];rfl
 have main:∀ b0:Lz,b0=(if Lib.hasPrefix p [47] then [47] else [])->∀ k x,(zn p)[k]?=some x->((zn p).take (k+1)).getLastD b0=x:=fun b0 _ k x hx=>by
  rw[WV,hx];simp
 cases hpf:Lib.hasPrefix p [47] with
 | true =>
  rw[hpf]at go main;push_cast;refine call (Ya p) ?_;push_cast;refine range (qg (zn p)) (fun k=>false) 1 (fun k=>⟨[],[[.str (((zn p).take k).getLastD [47])]],0,0⟩) (Xo p hp) (by push_cast) (by push_cast) (by push_cast) (Wd _) (by push_cast) (fun it h=>?_) (fun k _=>rfl) ?_ (fun k it hk hsf=>?_) (fun hsf=>?_)
  ·obtain ⟨x,_,rfl⟩:=WP.1 h;rfl
  ·exact JY.mk [] rfl rfl (Wb _) rfl (by push_cast [ze,zd,CLe,zg]) (by push_cast [ze,zd,CLe,zg];rfl)
  ·obtain ⟨x,hx,rfl⟩:=QD hk;have:=main [47] rfl k x hx;push_cast;exact wk (h5:=by push_cast [ze,zd,CLe,zg,this])
  ·have:=go [47] rfl;push_cast;exact ⟨[],rfl,rfl,by push_cast [ze,zd,CLe,zg];exact this.symm⟩
 | false =>
  rw[hpf]at go main;push_cast;refine call (Ya p) ?_;push_cast;refine range (qg (zn p)) (fun k=>false) 1 (fun k=>⟨[],[[.str (((zn p).take k).getLastD [])]],0,0⟩) (Xo p hp) (by push_cast) (by push_cast) (by push_cast) (Wd _) (by push_cast) (fun it h=>?_) (fun k _=>rfl) ?_ (fun k it hk hsf=>?_) (fun hsf=>?_)
  ·obtain ⟨x,_,rfl⟩:=WP.1 h;rfl
  ·exact JY.mk [] rfl rfl (Wb _) rfl (by push_cast [ze,zd,CLe,zg]) (by push_cast [ze,zd,CLe,zg];rfl)
  ·obtain ⟨x,hx,rfl⟩:=QD hk;have:=main [] rfl k x hx;push_cast;exact wk (h5:=by push_cast [ze,zd,CLe,zg,this])
  ·have:=go [] rfl;push_cast;exact ⟨[],rfl,rfl,by push_cast [ze,zd,CLe,zg];exact this.symm⟩
def JM (p q:Lz):Bool:=decide (p=q)||decide (q = [47])||Lib.hasPrefix p (q++[47])
theorem HD (p q:Lz) (hq:q.length<=1000000):Fun Tryz.prog G0 205 [.str p,.str q] (qZ (JM p q)) 0:=by
 refine fon Tryz.func205 ?_;dsimp only[Tryz.f205];push_cast;by_cases h1:p=q
 ·push_cast [h1];exact ⟨[],rfl,rfl,by push_cast [ze,zd,CLe,zg];simp[JM]⟩
 ·by_cases h2:q = [47]
  ·subst h2;push_cast [h1];exact ⟨[],rfl,rfl,by push_cast [ze,zd,CLe,zg];simp[JM]⟩
  ·push_cast [h1,h2];refine ⟨by omega,?_⟩;refine call (XD p (q++[47])) ?_;push_cast;exact ⟨[],rfl,rfl,by push_cast [ze,zd,CLe,zg];simp[JM,h1,h2]⟩
end
section
open Go.RowKit
theorem Zb (l:Lz) (c:UInt8):Fun Tryz.prog G0 145 [.str l,.sc (.int .u8 (c.toNat:Int))] (.sc (.int .i64 (Lib.indexByte l c))) 0:=by
 refine Fun.wrap (by kernel_rfl) fun R vs h=>?_;obtain ⟨v1,us1,rfl,h1,h⟩:=zh.1 h;obtain ⟨v2,us2,rfl,h2,h⟩:=zh.1 h;rw[zm]at h;subst h;rw[z8]at h1;rw[zq]at h2;subst h1 h2;refine (Tryz.strings_IndexByte ⟨l.toArray⟩ (c.toNat:Int) R.w).mono ?_;rintro e w' ⟨rfl,rfl⟩;exact ⟨_,rfl,W9 _ _,fun R' _=>zq.2 (by simp)⟩
theorem Xl (r:Int):Fun Tryz.prog G0 265 [.sc (.int .i32 r)] (.sc (.bool (Lib.validRune r))) 0:=by
 refine Fun.wrap (by kernel_rfl) fun R vs h=>?_;obtain ⟨v1,us1,rfl,h1,h⟩:=zh.1 h;rw[zm]at h;subst h;rw[zq]at h1;subst h1;refine (Tryz.utf8_ValidRune r R.w).mono ?_;rintro e w' ⟨rfl,rfl⟩;exact ⟨_,rfl,W9 _ _,fun R' _=>zq.2 rfl⟩
theorem zka (r:Int) (hv:Utf8.valid r=true) (h128:128<=r):∃ l c,(Utf8.encode r).data.toList=l++[c]/\1<=l.length/\l.length<=3/\128<=c.toNat:=by
 obtain ⟨h1,h2,h3⟩:=encode_facts r hv h128;generalize Utf8.encode r=bs at h1 h2 h3 ⊢;have hs:bs.data.toList.length=bs.size:=WR;have h4:=h3 (by omega);have h5:bs.data.toList[bs.size-1]?=some (bs[bs.size-1]'(by omega)):=Lib.data_getElem? bs _ (by omega);generalize bs[bs.size-1]'(by omega)=c at h4 h5;generalize bs.data.toList=l at hs h5;refine ⟨l.take (bs.size-1),c,?_,by simp;omega,by simp;omega,h4⟩;have:=W2 (bs.size-1) l;have hd:l.drop (bs.size-1) = [c]:=by
  have hlt:bs.size-1<l.length:=by omega
  rw[Of hlt];rw[Wa hlt]at h5;cases h5;rw[AP (by omega)]
 rw[hd]at this;exact this.symm
theorem MN (r:Int) (h1:128<=r) (hv:Utf8.valid r=true) (h2:r≠65533):Fun Tryz.prog G0 234 [.str [47,0],.sc (.int .i32 r)] (.sc (.int .i64 (-1))) 0:=by
 have hlv:Lib.validRune r=true:=by
  have:=validRune_eq r;rw[hv]at this;exact this.symm
 obtain ⟨l,c,he,hl1,hl3,hc⟩:=zka r hv h1;have ha:0<=r:=by omega
 have hb:¬r<128:=by omega
 have hc0:¬((0:Int)=(c.toNat:Int)):=by omega
 have hix:=Zb [] c
 match l,hl1,hl3 with
 | [x],_,_ =>
  refine fon Tryz.func234 ?_;dsimp only[Tryz.f234];push_cast [ha,hb,h2];refine call (Xl r) ?_;push_cast [hlv,he];refine loop (fun k:Nat=>⟨[(0,.str [47,0]),(1,.sc (.int .i32 r)),(7,.str [x,c]),(8,.sc (.int .i64 1)),(9,.sc (.int .i64 1)),(10,.sc (.int .i64 0))],[],0,0⟩) (fun k=>True) (fun k=>0) 0 trivial ?_ ?_
  ·exact wk
  ·intro k _;push_cast [hc0];refine zaE hix ?_;have hi0:Lib.indexByte [] c = -1:=rfl;push_cast [hi0];exact dn
 | [x,y],_,_ =>
  refine fon Tryz.func234 ?_;dsimp only[Tryz.f234];push_cast [ha,hb,h2];refine call (Xl r) ?_;push_cast [hlv,he];refine loop (fun k:Nat=>⟨[(0,.str [47,0]),(9,.sc (.int .i64 2))],[],0,0⟩) (fun k=>True) (fun k=>0) 0 trivial ?_ ?_
  ·exact wk
  ·intro k _;push_cast;exact dn
 | [x,y,z],_,_ =>
  refine fon Tryz.func234 ?_;dsimp only[Tryz.f234];push_cast [ha,hb,h2];refine call (Xl r) ?_;push_cast [hlv,he];refine loop (fun k:Nat=>⟨[(0,.str [47,0]),(9,.sc (.int .i64 3))],[],0,0⟩) (fun k=>True) (fun k=>0) 0 trivial ?_ ?_
  ·exact wk
  ·intro k _;push_cast;exact dn
theorem Nk (w:World):Calls Tryz.prog 234 #[.string ⟨#[47,0]⟩,.int .i32 65533] w fun e w'=>e = .returned (.int .i64 (-1))/\Below w.heap.size w w':=by
 go_enter Tryz.func234,Tryz.ntmps234
 go_wp2
 go_loopg [5,6] 2 (fun g _ _ wx=>∃ i:Nat,i+g=2/\wx=w.iter ⟨#[47,0]⟩ i)
 case atStart=>exact ⟨0,by omega,rfl⟩
 case round =>
  obtain ⟨i,hig,rfl⟩:=hrel;cases gk with
  | zero =>
   obtain rfl:i=2:=by omega
   have hnx:=fun ty=>run_next_end (P:=Tryz.prog) w ⟨#[47,0]⟩ 2 ty (by decide)
   go_wp2
   go_ret
   exact ⟨rfl,(W9 _ _).alloc (Wb _) _⟩
  | succ g =>
   have hi:i<(ByteArray.mk #[47,0]).size:=by show i<2;omega
   have hx128:((ByteArray.mk #[47,0])[i]'hi).toNat<128:=by
    have:i=0∨i=1:=by omega
    rcases this with rfl | rfl
    ·exact (by decide:(47:UInt8).toNat<128)
    ·exact (by decide:(0:UInt8).toNat<128)
   have hnx:=fun ty=>run_next_ascii (P:=Tryz.prog) w ⟨#[47,0]⟩ i ty hi hx128;have hne:((((ByteArray.mk #[47,0])[i]'hi).toNat:Int)==65533)=false:=by
    rw[OU];omega
   go_wp2
   go_roundg g
   case measure=>omega
   case rel=>exact ⟨i+1,by omega,rfl⟩
end
section
open Go.RowKit Go.Shelf
def bad (b:UInt8):Bool:=decide (b=47)||decide (b=0)
theorem V0 (b:UInt8):[47,0].contains b=bad b:=by simp[bad,List.contains_iff_mem,Bool.eq_iff_iff]
theorem vt {P:Program} {s:ByteArray} {pos:Nat} (hb:W.heap[b]?=some (.stringIter s pos)) (h:pos<s.size) (ty:TypeId) :
  (Instr.next (.pointer (some ⟨b,0,none⟩)) true ty).run P W = .ok (.tuple #[.bool true,.int .i64 pos,.int .i32 (Utf8.decode s pos).1]) (W.putObj b (.stringIter s (pos+(Utf8.decode s pos).2))):=by
 simp only[Instr.next,getObj,setObj,Wm,Sem.run,hb,Result.andThen,h,if_true];simp[goInt,Sem.run,hb,World.putObj]
theorem kU {P:Program} {s:ByteArray} {pos:Nat} (hb:W.heap[b]?=some (.stringIter s pos)) (h:¬pos<s.size) (ty:TypeId) :
  (Instr.next (.pointer (some ⟨b,0,none⟩)) true ty).run P W = .ok (.tuple #[.bool false]) W:=by
 simp[Instr.next,getObj,Sem.run,hb,h]
theorem get!_eq (s:ByteArray) (k:Nat) (hk:k<s.size):s.get! k=s[k]'hk:=by
 simp[ByteArray.get!,BM,hk];rfl
theorem zi8 {c:Nat} (h:c<55296∨(57344<=c/\c<=1114111)):Utf8.valid (c:Int)=true:=by
 unfold Utf8.valid;rcases h with h | h
 ·have h1:((c:Int)<55296):=by omega
  simp;omega
 ·simp;omega
theorem yr (s:ByteArray) (i:Nat) (h:i<s.size):(((s[i]'h).toNat<128/\Utf8.decode s i=((s[i]'h).toNat,1))∨(128<=(Utf8.decode s i).1/\Utf8.valid ((Utf8.decode s i).1:Int)=true/\1<=(Utf8.decode s i).2/\i+(Utf8.decode s i).2<=s.size/\∀ j (hj:j<s.size),i<=j->j<i+(Utf8.decode s i).2->128<=(s[j]'hj).toNat)):=by
 by_cases ha:(s[i]'h).toNat<128
 ·exact .inl ⟨ha,decode_ascii s i h ha⟩
 ·refine .inr ?_;have hb0:¬(s.get! (i+0)).toNat<128:=by rw[Ag,get!_eq s i h];exact ha
  have hby:∀ n,(∀ k,k<n->128<=(s.get! (i+k)).toNat)->∀ j (hj:j<s.size),i<=j->j<i+n->128<=(s[j]'hj).toNat:=fun n hn j hj h1 h2=>by
   have:=hn (j-i) (by omega);rw[show i+(j-i)=j by omega,get!_eq s j hj]at this;exact this
  have hone:128<=65533/\Utf8.valid ((65533:Nat):Int)=true/\1<=1/\i+1<=s.size/\∀ j (hj:j<s.size),i<=j->j<i+1->128<=(s[j]'hj).toNat:=
   ⟨by omega,by decide,by omega,by omega,hby 1 fun k hk=>by rw[show k=0 by omega];omega⟩
  unfold Utf8.decode;simp only[if_neg hb0,Utf8.runeError];obtain ⟨b0,hg0⟩:∃ b,(s.get! (i+0)).toNat=b:=⟨_,rfl⟩;obtain ⟨b1,hg1⟩:∃ b,(s.get! (i+1)).toNat=b:=⟨_,rfl⟩;obtain ⟨b2,hg2⟩:∃ b,(s.get! (i+2)).toNat=b:=⟨_,rfl⟩;obtain ⟨b3,hg3⟩:∃ b,(s.get! (i+3)).toNat=b:=⟨_,rfl⟩;rw[hg0]at hb0;simp only[hg0,hg1,hg2,hg3];have hlt:b0<256:=by rw[←hg0];exact (s.get! (i+0)).toNat_lt
  split
  ·rename_i hc;simp only[Wp,Ox,WU]at hc;split
   ·rename_i hv;refine ⟨by show 128<=_;omega,zi8 (.inl (by omega)),by show 1<=2;omega,by show i+2<=_;omega,hby 2 fun k hk=>?_⟩;rcases (show k=0∨k=1 by omega) with rfl | rfl
    ·rw[hg0];omega
    ·rw[hg1];omega
   ·exact hone
  ·split
   ·rename_i hc;simp only[Wp,Ox,WU]at hc;split
    ·rename_i hv;simp only[Wp,WU]at hv;refine ⟨by show 128<=_;omega,hv.2,by show 1<=3;omega,by show i+3<=_;omega,hby 3 fun k hk=>?_⟩;rcases (show k=0∨k=1∨k=2 by omega) with rfl | rfl | rfl
     ·rw[hg0];omega
     ·rw[hg1];omega
     ·rw[hg2];omega
    ·exact hone
   ·split
    ·rename_i hc;simp only[Wp,Ox,WU]at hc;split
     ·rename_i hv;simp only[Wp,WU]at hv;refine ⟨by show 128<=_;omega,hv.2,by show 1<=4;omega,by show i+4<=_;omega,hby 4 fun k hk=>?_⟩;rcases (show k=0∨k=1∨k=2∨k=3 by omega) with rfl | rfl | rfl | rfl
      ·rw[hg0];omega
      ·rw[hg1];omega
      ·rw[hg2];omega
      ·rw[hg3];omega
     ·exact hone
    ·exact hone
theorem Nq (r:Int) (h1:128<=r) (hv:Utf8.valid r=true) (w:World):Calls Tryz.prog 234 #[.string ⟨#[47,0]⟩,.int .i32 r] w fun e w'=>e = .returned (.int .i64 (-1))/\Below w.heap.size w w':=by
 by_cases h2:r=65533
 ·subst h2;exact Nk w
 ·refine ((MN r h1 hv h2).2 ⟨w,fun _ _=>False,fun _=>False⟩ [.string ⟨#[47,0]⟩,.int .i32 r] (fun g cs h=>by cases h) ?_).mono ?_
  ·exact zh.2 ⟨_,_,rfl,z8.2 rfl,zh.2 ⟨_,_,rfl,zq.2 rfl,zm.2 rfl⟩⟩
  ·rintro e w' ⟨v,R',L',rfl,rfl,hst,hr⟩;rw[zq]at hr;exact ⟨by rw[hr],hst.below⟩
theorem zdD (w:World) (s:ByteArray):(w.iter s 0).heap[w.heap.size]?=some (.stringIter s 0):=World.iter_heap w s 0
theorem vq {w:World} {s:ByteArray} (hb:Below w.heap.size w W) (hs:W.heap[w.heap.size]?=some (.stringIter s p)) (p':Nat):Below w.heap.size w (W.putObj w.heap.size (.stringIter s p'))/\(W.putObj w.heap.size (.stringIter s p')).heap[w.heap.size]?=some (.stringIter s p'):=
 ⟨⟨hb.os,hb.tape,hb.output,by simpa using hb.size,fun k hk=>(WW (by omega)).trans (hb.block k hk)⟩,A9 (qe hs)⟩
theorem zbn {w W':World} {s:ByteArray} (hb:Below w.heap.size w W) (hs:W.heap[w.heap.size]?=some (.stringIter s p)) (h:Below W.heap.size W W'):Below w.heap.size w W'/\W'.heap[w.heap.size]?=some (.stringIter s p):=
 ⟨hb.trans (h.mono hb.size),(h.block _ (qe hs)).trans hs⟩
theorem Hn (s:ByteArray) (w:World) (h8:s.size<=8):Calls Tryz.prog 202 #[.string s,.string ⟨#[47,0]⟩] w fun e w'=>e = .returned (.int .i64 (Lib.indexAny s.data.toList [47,0]))/\Below w.heap.size w w':=by
 have h8z:decide ((8:Int)<(s.size:Int))=false:=Wj (by omega);have hsi:=zdD w s;have hbi:Below w.heap.size w (w.iter s 0):=(W9 _ _).alloc (Wb _) _;have HI:Aside ((w.iter s 0).heap[w.heap.size]?=some (.stringIter s 0)/\Below w.heap.size w (w.iter s 0)):=⟨hsi,hbi⟩;clear hsi hbi
 go_enter Tryz.func202,Tryz.ntmps202
 go_wp2_with (go_at_call 235;refine (Tryz.strings_shouldUseASCIISet _ _).mono ?_;rintro e w' ⟨rfl,hw⟩;rw[hw,h8z])
 go_loopg [9,10] s.size (fun g _ _ wx=>∃ i:Nat,i+g=s.size/\wx.heap[w.heap.size]?=some (.stringIter s i)/\Below w.heap.size w wx/\Lib.NoAny s.data.toList [47,0] i)
 case atStart=>exact ⟨0,by omega,HI.out.1,HI.out.2,Lib.NoAny.zero _ _⟩
 case round =>
  obtain ⟨i,hig,hs,hbl,hno⟩:=hrel;have HN:Aside (Lib.NoAny s.data.toList [47,0] i/\wr.heap[w.heap.size]?=some (.stringIter s i)/\Below w.heap.size w wr):=⟨hno,hs,hbl⟩;cases gk with
  | zero =>
   obtain rfl:i=s.size:=by omega
   have hnx:=fun ty=>kU (P:=Tryz.prog) hs (by omega) ty;clear hno hs hbl
   go_wp2
   go_ret
   exact ⟨by rw[Lib.indexAny_none (by rw[←Lib.size_eq];exact HN.out.1)];rfl,HN.out.2.2⟩
  | succ g =>
   have hi:i<s.size:=by omega
   have hnx:=fun ty=>vt (P:=Tryz.prog) hs hi ty;have hpi:=vq hbl hs (i+(Utf8.decode s i).2);have HP:Aside (Below w.heap.size w (wr.putObj w.heap.size (.stringIter s (i+(Utf8.decode s i).2)))/\(wr.putObj w.heap.size (.stringIter s (i+(Utf8.decode s i).2))).heap[w.heap.size]?=some (.stringIter s (i+(Utf8.decode s i).2))):=hpi;clear hno hs hbl hpi;obtain ⟨x,hx⟩:∃ x:UInt8,s[i]'hi=x:=⟨_,rfl⟩;have hxl:s.data.toList[i]?=some x:=by rw[←hx];exact Lib.data_getElem? s i hi
   rcases yr s i hi with ⟨hd1,hd2⟩ | ⟨hd1,hd2,hd3,hd4,hd5⟩
   ·rw[hx]at hd1 hd2;rw[hd2]at hnx HP;have Hx:Aside (s.data.toList[i]?=some x):=hxl;clear hxl hx hd2;have hcon:=Lib.contains_iff_indexByte [47,0] x;have hback:((x.toNat:Int)).toNat.toUInt8=x:=by simp
    cases hin:([47,0]:Lz).contains x
    ·rw[hin]at hcon;have hlt:¬((0:Int)<=Lib.indexByte [47,0] x):=OK hcon.symm;clear hcon
     go_wp2_with (go_at_call 234;refine (Tryz.strings_IndexRune_ascii _ _ _ (by omega) (by omega)).mono ?_;rintro e w' ⟨rfl,hw⟩;rw[hw,hback])
     go_roundg g
     case measure=>omega
     case rel=>exact ⟨i+1,by omega,HP.out.2,HP.out.1,HN.out.1.succ Hx.out hin⟩
    ·rw[hin]at hcon;have hge:(0:Int)<=Lib.indexByte [47,0] x:=WN hcon.symm;clear hcon
     go_wp2_with (go_at_call 234;refine (Tryz.strings_IndexRune_ascii _ _ _ (by omega) (by omega)).mono ?_;rintro e w' ⟨rfl,hw⟩;rw[hw,hback])
     go_ret
     exact ⟨by rw[Lib.indexAny_hit HN.out.1 Hx.out hin];rfl,HP.out.1⟩
   ·obtain ⟨c,hc⟩:∃ c,(Utf8.decode s i).1=c:=⟨_,rfl⟩;obtain ⟨n,hn⟩:∃ n,(Utf8.decode s i).2=n:=⟨_,rfl⟩;rw[hc,hn]at hnx;rw[hn]at HP hd3 hd4 hd5;rw[hc]at hd1 hd2;have H5:Aside (∀ j (hj:j<s.size),i<=j->j<i+n->128<=(s[j]'hj).toNat):=hd5;have H2:Aside (Utf8.valid (c:Int)=true):=hd2;clear hd5 hd2 hxl hx hc hn
    go_wp2_with (go_at_call 234;refine (Nq _ (by omega) H2.out _).mono ?_;rintro e w' ⟨rfl,hw⟩;have HW:=zbn HP.out.1 HP.out.2 hw)
    go_roundg (s.size-(i+n))
    case measure=>omega
    case rel =>
     refine ⟨i+n,by omega,HW.2,HW.1,fun j b hj hb=>?_⟩;rcases Wq j i with g | g
     ·exact HN.out.1 j b g hb
     ·have hjs:j<s.size:=by omega
      have:=H5.out j hjs g hj;have hb2:=Lib.data_getElem? s j hjs;rw[hb]at hb2;have hb3:b=s[j]'hjs:=Option.some.inj hb2;rw[V0,hb3];have h47:s[j]'hjs≠47:=fun e=>by rw[e]at this;revert this;decide
      have h00:s[j]'hjs≠0:=fun e=>by rw[e]at this;revert this;decide
      simp[bad,h47,h00]
end
section
open Go.RowKit Go.Shelf
theorem Hw (w:World):(zeroValue 254).run Tryz.prog w = .ok (.agg (Array.replicate 256 (.bool false))) w:=by kernel_rfl
theorem Uc:∀ l:Lz,decide (0<=Lib.indexAny l [47,0])=l.any bad
 | []=>rfl
 | b :: l=>by
  have ih:=Uc l;have hg:=Lib.indexAny_ge [47,0] l;unfold Lib.indexAny;rw[V0,AS];cases hb:bad b with
  | true=>simp
  | false =>
   simp only[W7,Oe,O0,←ih];split
   ·rename_i h;have:=Ox.1 h
    first | rw[this];done | (rw[this];rfl)
   ·rename_i h;have h':Lib.indexAny l [47,0]≠-1:=by simpa using h
    rw[A8];omega
theorem NF (l:Lz) (hl:l.length<=1000000):Fun Tryz.prog G0 202 [.str l,.str [47,0]] (.sc (.int .i64 (Lib.indexAny l [47,0]))) 0:=by
 refine Fun.wrap (by kernel_rfl) fun R vs h=>?_;obtain ⟨v1,us1,rfl,h1,h⟩:=zh.1 h;obtain ⟨v2,us2,rfl,h2,h⟩:=zh.1 h;rw[zm]at h;subst h;rw[z8]at h1 h2;subst h1 h2;have hsz:(ByteArray.mk l.toArray).size=l.length:=by simp[ByteArray.size]
 by_cases h8:l.length<=8
 ·refine (Hn ⟨l.toArray⟩ R.w (by omega)).mono ?_;rintro e w' ⟨rfl,hb⟩;exact ⟨_,rfl,hb,fun R' _=>zq.2 (by simp)⟩
 ·refine (Tryz.strings_IndexAny_long Hw ⟨l.toArray⟩ ⟨#[47,0]⟩ R.w (by decide) (by omega) (by omega) (by decide) ?_).mono ?_
  ·intro j b hb;have:b=47∨b=0:=by
    have:=Wf hb;simpa using this
   rcases this with rfl | rfl<;>decide
  ·rintro e w' ⟨rfl,rfl⟩;exact ⟨_,rfl,((W9 _ _).alloc (Wb _) _).alloc (by simp) _,fun R' _=>zq.2 (by simp)⟩
theorem Yo (l:Lz) (hl:l.length<=1000000):Fun Tryz.prog G0 169 [.str l,.str [47,0]] (qZ (l.any bad)) 0:=by
 have h:=Uc l;refine fon Tryz.func169 ?_;dsimp only[Tryz.f169];push_cast;refine call (NF l hl) ?_;push_cast;exact dn (by push_cast [ze,zd,CLe,zg,h])
def may (l:Lz):Bool:=!decide (l = [])&&decide (l.length<=255)&&!l.any bad&&!decide (l = [46])&&!decide (l = [46,46])
theorem zfq (l:Lz) (hl:l.length<=1000000):Fun Tryz.prog G0 126 [.str l] (qZ (may l)) 0:=by
 by_cases h1:l = []
 ·refine fon Tryz.func126 ?_;dsimp only[Tryz.f126];push_cast [h1];exact ⟨[],rfl,rfl,by push_cast [ze,zd,CLe,zg];simp[may]⟩
 ·by_cases h2:l.length<=255
  ·have h2':(l.length:Int)<=255:=by omega
   cases h3:l.any bad with
   | true =>
    refine fon Tryz.func126 ?_;dsimp only[Tryz.f126];push_cast [h1,h2'];refine call (Yo l hl) ?_;push_cast [h3];exact ⟨[],rfl,rfl,by push_cast [ze,zd,CLe,zg];simp[may,h3]⟩
   | false =>
    by_cases h4:l = [46]
    ·subst h4;refine fon Tryz.func126 ?_;dsimp only[Tryz.f126];push_cast [h2'];refine call (Yo _ hl) ?_;push_cast [h3];exact ⟨[],rfl,rfl,by push_cast [ze,zd,CLe,zg];simp[may]⟩
    ·refine fon Tryz.func126 ?_;dsimp only[Tryz.f126];push_cast [h1,h2'];refine call (Yo l hl) ?_;push_cast [h3,h4];exact ⟨[],rfl,rfl,by push_cast [ze,zd,CLe,zg];simp[may,h1,h2,h3,h4]⟩
  ·have h2':¬(l.length:Int)<=255:=by omega
   refine fon Tryz.func126 ?_;dsimp only[Tryz.f126];push_cast [h1,h2'];exact ⟨[],rfl,rfl,by push_cast [ze,zd,CLe,zg];simp[may,h2]⟩
theorem zaS (l:Lz) (hl:l.length<=1000000):Fun Tryz.prog G0 267 [.str l] (qZ (!may l)) 0:=by
 refine fon Tryz.func267 ?_;dsimp only[Tryz.f267];push_cast;refine call (zfq l hl) ?_;push_cast;exact dn
end
end Go.Proofs.YtnpdbhbmakdklaaGreatDoor.Vcg
