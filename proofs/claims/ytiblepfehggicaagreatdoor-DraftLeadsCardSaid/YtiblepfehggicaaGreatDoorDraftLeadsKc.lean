/- What the proof of DraftLeads leans on, part 3: Vcg18 Slc0 Slc1 TabV Tab1 OpenG OpenT Srt0 SlcE Shelf Tab2 TabR Snd1 PathN Ref1 Path1 Path2 Path3 Path4 May1 May2 May3. No condition beyond what each theorem states. -/
import Derived.Test.YtiblepfehggicaaGreatDoorDraftLeadsKb
import Derived.Lib.Overlaps
import Derived.Laws.Externs
import Derived.WalkKit
import Derived.ProofKit
import Derived.Deep.Slices
import Derived.Deep.Fields
import Derived.ChangeSame
import Derived.ChangeOld
import Derived.Lib.SmallJoins
import Derived.Test.YtiblepfehggicaaGreatDoorRows
import Derived.Lib.Bytealg
import Derived.Shelf.Strings.Builder1
import Derived.Shelf.Strings.Builder2
import Derived.Shelf.Strings.OnBuilder
import Derived.Shelf.Strings.Trim
import Derived.Shelf.Small.Utf8
import Derived.Shelf.Small.Strs
import Derived.Shelf.Small.Wraps
import Derived.Shelf.Strings.BuilderF
import Derived.Shelf.Strings.BuilderK
import Derived.Shelf.Strings.Search1
import Derived.Shelf.Strings.Search2
import Derived.Shelf.Strings.Search3
import Derived.Shelf.LaysM
import Derived.Shelf.Strings.Shaped
import Derived.Shelf.Strings.Prefix
import Derived.Shelf.Unicode.Decode
import Derived.Shelf.Strings.Runes
import Derived.Shelf.Strings.IndexAny
import Derived.Shelf.Strings.AsciiSet
import Derived.Shelf.Strings.IndexAnyAll
import Derived.Shelf.Unicode.DecodeSlow
import Derived.Shelf.Unicode.DecodeAny
import Derived.Test.YtiblepfehggicaaGreatDoorProg
import Derived.Laws.Runes
import Derived.Laws.RangeString
import Derived.Deep.LoopGhost
import Derived.Lib.QuoteLoop
import Derived.Lib.IndexAny
set_option linter.unusedVariables false
set_option linter.unusedSimpArgs false
set_option linter.unusedSectionVars false
set_option maxRecDepth 100000
set_option maxHeartbeats 4000000
namespace Go.Proofs.YtiblepfehggicaaGreatDoor.Vcg
section
open Go.RowKit
section
variable {P:Program} {G:zr} {σ σ':St} {N p lg m:Nat} {h:Hd} {yd:Option Yd} {brs:List Bool} {bf:Nat->List Bool} {bx bx':List (List C)} {ops:Array Oper} {c c' d d':C} {t t':TypeId} {K:C->Prop} {K2:C->Nat->Prop} {K3:C->St->Prop} {nx:Nat} {tm:List (Nat×C)} {x y z:Operand} {Q:Exit->St->Prop} {X Y:Prop}
def uq (P:Program) (G:zr) (f:FuncId) (args:List C) (nx:Nat) (K:C->Nat->Prop):Prop:=∃ r n,Fun P G f args r n/\K (r.sh nx) (nx+n)
theorem uq.mk {f:FuncId} {args:List C} {r:C} {n:Nat} (h:Fun P G f args r n) (hK:K2 (r.sh nx) (nx+n)):uq P G f args nx K2:=⟨r,n,h,hK⟩
def zoU (P:Program) (G:zr) (f:FuncId) (args fargs:List C) (σ:St) (K:C->St->Prop):Prop:=
 (∃ r n,Fun P G f fargs r n/\K (r.sh σ.nx) ⟨σ.tm,σ.bx,σ.nx+n,σ.lg⟩)∨yp P G f args σ K∨zkd P G f args σ K∨US P G f args σ K∨zdj P f args σ K
def aGd (d:Option Tmp) (tm:List (Nat×C)) (want:Bool) (X Y:Prop):Prop:=match d with
 | some d=>match want with
  | true=>zj8 (jQ tm d) Y X Y
  | false=>zj8 (jQ tm d) Y Y X
 | none=>False
def zo3 (L:Option Lay) (c:C) (bx:List (List C)) (K:C->Prop):Prop:=
 match L with
 | none=>False
 | some L=>match c with
  | .ptr i off=>match bx[i]? with
   | some cs=>Yj L (cs.drop off) K
   | none=>False
  | .row cs=>Yj L cs K
  | _=>False
def zns (cs:Option (List C)) (off:Nat) (L:Lay) (K:C->Prop):Prop:=match cs with | some cs=>Yj L (cs.drop off) K | none=>False
def zoB (L:Option Lay) (op:BinOp) (a b:Bool) (K:C->Prop):Prop:=match L with | some ⟨.bool,_,_,_⟩=>zjn op a b K | _=>False
def zp9 (x:Option C) (K:C->Prop):Prop:=match x with | some c=>K c | none=>False
def yA (L:Option Lay) (c:C) (f:Nat) (K:C->Prop):Prop:=
 match L with
 | some ⟨.struct fs,_,_,_⟩=>match fs[f]?,c with
  | some (off,size,agg),.agg cs =>
   if agg then off+size<=cs.length/\K (.agg ((cs.drop off).take size)) else match cs[off]? with
    | some c=>K c
    | none=>False
  | _,_=>False
 | _=>False
def kl (f:Option (Nat×Nat×Bool)) (cs:List C) (K:C->Prop):Prop:=
 match f with
 | some (off,size,agg)=>if agg then off+size<=cs.length/\K (.agg ((cs.drop off).take size)) else match cs[off]? with
    | some c=>K c
    | none=>False
 | none=>False
def zr3 (L:Option Lay) (c:C) (f:Nat) (K:C->Prop):Prop:=
 match L with
 | some ⟨.struct fs,_,_,_⟩=>match fs[f]?,c with
  | some (off,size,_),.ptr i o=>if size=0 then False else K (.ptr i (o+off))
  | some (off,size,_),.row cs=>if size=0 then False else K (.row (cs.drop off))
  | _,_=>False
 | _=>False
def zpj (f:Option (Nat×Nat×Bool)) (c:C) (K:C->Prop):Prop:=
 match f,c with
  | some (off,size,_),.ptr i o=>if size=0 then False else K (.ptr i (o+off))
  | some (off,size,_),.row cs=>if size=0 then False else K (.row (cs.drop off))
  | _,_=>False
def zrQ (P:Program) (L:Option Lay) (c:C) (i:C) (K:C->Prop):Prop:=
 match L,i with
 | some ⟨.slice e,_,_,_⟩,.sc (.int _ n)=>match lay P e with
  | some L=>match c with
   | .bs j off k m _=>k=L.size/\0<=n/\n<(m:Int)/\K (.ptr j (off+n.toNat*L.size))
   | c=>match c.rows? L.size with
    | some rows=>match rows[n.toNat]? with
     | some r=>0<=n/\K (.row r)
     | none=>False
    | none=>False
  | none=>False
 | some ⟨.array (m+1) e,_,_,_⟩,.sc (.int _ n)=>match lay P e with
  | some L=>match c with
   | .ptr j off=>0<=n/\n<((m+1:Nat):Int)/\K (.ptr j (off+n.toNat*L.size))
   | .row cs=>0<=n/\n<((m+1:Nat):Int)/\K (.row (cs.drop (n.toNat*L.size)))
   | _=>False
  | none=>False
 | _,_=>False
def zrE (L:Option Lay) (c:C) (n:Int) (K:C->Prop):Prop:=
 match L with
  | some L=>match c with
   | .bs j off k m _=>k=L.size/\0<=n/\n<(m:Int)/\K (.ptr j (off+n.toNat*L.size))
   | c=>match c.rows? L.size with
    | some rows=>match rows[n.toNat]? with
     | some r=>0<=n/\K (.row r)
     | none=>False
    | none=>False
  | none=>False
def zrT (rows:Option (List (List C))) (n:Int) (K:C->Prop):Prop:=
 match rows with
   | some rows=>match rows[n.toNat]? with
    | some r=>0<=n/\K (.row r)
    | none=>False
   | none=>False
def aAt (r:Option (List C)) (n:Int) (K:C->Prop):Prop:=match r with | some r=>0<=n/\K (.row r) | none=>False
def zr1 (L:Option Lay) (c:C) (m:Nat) (n:Int) (K:C->Prop):Prop:=
 match L with
  | some L=>match c with
   | .ptr j off=>0<=n/\n<((m+1:Nat):Int)/\K (.ptr j (off+n.toNat*L.size))
   | .row cs=>0<=n/\n<((m+1:Nat):Int)/\K (.row (cs.drop (n.toNat*L.size)))
   | _=>False
  | none=>False
def zp5 (L:Option Lay) (c i:C) (K:C->Prop):Prop:=
 match L,c,i with
 | some ⟨.str,_,_,_⟩,.str l,.sc (.int _ n)=>match l[n.toNat]? with
  | some b=>0<=n/\K (.sc (.int .u8 (b.toNat:Int)))
  | none=>False
 | _,_,_=>False
def zkA (b:Option UInt8) (n:Int) (K:C->Prop):Prop:=match b with | some b=>0<=n/\K (.sc (.int .u8 (b.toNat:Int))) | none=>False
def zrp (P:Program) (L:Option Lay) (c:C) (lo hi mx:Option Int) (K:C->Prop):Prop:=
   match L with
    | some ⟨.str,_,_,_⟩=>match c,mx with
      | .str l,none=>j5 l.length lo hi/\K (.str (cut l lo hi))
      | _,_=>False
    | some ⟨.slice e,_,_,_⟩=>match lay P e with
      | some L=>match c with
        | .bs i off k n cap=>zkz L.size i off k n cap lo hi mx K
        | .sc (.slice none 0 0)=>zor L.size lo hi mx K
        | c=>match c.rows? L.size with
          | some rows=>match mx,hi with
            | none,_=>j5 rows.length lo hi/\K (.sl L.size (cut rows lo hi))
            | some m,some h=>m=h/\j5 rows.length lo hi/\K (.tight L.size (cut rows lo hi))
            | some _,none=>False
          | none=>False
      | none=>False
    | _=>False
def zsa (P:Program) (t:TypeId) (c:C) (lo hi mx:Option (Option Int)) (K:C->Prop):Prop:=
 match lo,hi,mx with
 | some lo,some hi,some mx=>zrp P (lay P t) c lo hi mx K
 | _,_,_=>False
def zrF (L:Option Lay) (c:C) (lo hi mx:Option Int) (K:C->Prop):Prop:=
 match L with
   | some L=>match c with
    | .bs i off k n cap=>zkz L.size i off k n cap lo hi mx K
    | .sc (.slice none 0 0)=>zor L.size lo hi mx K
    | c=>match c.rows? L.size with
     | some rows=>match mx,hi with
      | none,_=>j5 rows.length lo hi/\K (.sl L.size (cut rows lo hi))
      | some m,some h=>m=h/\j5 rows.length lo hi/\K (.tight L.size (cut rows lo hi))
      | some _,none=>False
     | none=>False
   | none=>False
def zrJ (rows:Option (List (List C))) (k:Nat) (lo hi mx:Option Int) (K:C->Prop):Prop:=
 match rows with
    | some rows=>match mx,hi with
     | none,_=>j5 rows.length lo hi/\K (.sl k (cut rows lo hi))
     | some m,some h=>m=h/\j5 rows.length lo hi/\K (.tight k (cut rows lo hi))
     | some _,none=>False
    | none=>False
def zjQ (rows:Option (List (List C))) (K:C->Prop):Prop:=match rows with | some rows=>∃ l,rows=JX l/\K (.str l) | none=>False
theorem zjQ.mk {rows:List (List C)} (l:List UInt8) (h:rows=JX l) (hK:K (.str l)):zjQ (some rows) K:=⟨l,h,hK⟩
def zrN (P:Program) (D S:Option Lay) (c:C) (K:C->Prop):Prop:=
 match D with
 | some ⟨.int k,_,_,_⟩=>match c with
  | .sc (.int _ n)=>match S with | some _=>inR k n/\K (.sc (.int k n)) | none=>False
  | _=>False
 | some ⟨.str,_,_,_⟩=>match S with
  | some ⟨.str,_,_,_⟩=>match c with
   | .str l=>K (.str l)
   | _=>False
  | some ⟨.slice e,_,_,_⟩=>match lay P e with
   | some ⟨.int .u8,_,_,_⟩=>match c.rows? 1 with
    | some rows=>∃ l,rows=JX l/\K (.str l)
    | none=>False
   | _=>False
  | some ⟨.int _,_,_,_⟩=>match c with
   | .sc (.int _ n)=>K (.str (Utf8.encode n).data.toList)
   | _=>False
  | _=>False
 | some ⟨.slice e,_,_,_⟩=>match S,lay P e with
  | some ⟨.str,_,_,_⟩,some ⟨.int .u8,_,_,_⟩=>match c with
   | .str l=>((l.length:Nat):Int)<=9223372036854775807/\K (.sl 1 (JX l))
   | _=>False
  | _,_=>False
 | _=>False
def zqY (L:Option Lay) (c:C) (K:C->Prop):Prop:=
 match L,c with
 | some ⟨.slice _,_,_,_⟩,.bs _ _ _ _ c=>K (.sc (.int .i64 (c:Int)))
 | some ⟨.slice _,_,_,_⟩,.sc (.slice none 0 0)=>K (.sc (.int .i64 0))
 | _,_=>False
def zq3 (L:Option Lay) (n:Int) (K:C->Prop):Prop:=match L with | some ⟨.slice _,_,_,_⟩=>K (.sc (.int .i64 n)) | _=>False
def zp1 (L:Option Lay) (n:Int) (K:C->Prop):Prop:=match L with | some ⟨.str,_,_,_⟩=>K (.sc (.int .i64 n)) | _=>False
def zqJ (L:Option Lay) (parts:List (Nat×C)) (K:C->Prop):Prop:=
 match L with
 | some ⟨.struct fs,_,_,some z⟩=>(parts.all fun p=>p.2.partB)=true/\match YQ (fun i=>(fs[i]?).map fun f=>(f.1,f.2.1)) (z.map zE) parts with
  | some cs=>K (.agg cs)
  | none=>False
 | _=>False
def aFl (cs:Option (List C)) (K:C->Prop):Prop:=match cs with | some cs=>K (.agg cs) | none=>False
def plS (fs:List (Nat×Nat×Bool)) (i:Nat):Option (Nat×Nat):=(fs[i]?).map fun f=>(f.1,f.2.1)
def plA (k:Nat) (i:Nat):Option (Nat×Nat):=some (i*k,k)
def zkg (pl:Option (Nat×Nat)) (place:Nat->Option (Nat×Nat)) (cs:List C) (c:List C) (rest:List (Nat×C)):Option (List C):=
 match pl with
  | none=>none
  | some (off,size)=>if c.length=size/\off+size<=cs.length then YQ place (cs.take off++c++cs.drop (off+size)) rest else none
def zrO (P:Program) (L:Option Lay) (n:Nat) (parts:List (Nat×C)) (nx:Nat) (K:C->Nat->Prop):Prop:=
 match L with
 | some ⟨.slice e,_,_,_⟩=>match lay P e with
  | some ⟨_,k,_,some z⟩=>z.length=k/\0<k/\n*k<=16777216/\(parts.all fun p=>p.2.frz.partB)=true/\match YQ (fun i=>some (i*k,k)) (List.replicate n (z.map zE)).flatten (parts.map fun p=>(p.1,p.2.frz)) with
   | some cs=>(cs.all C.cellB)=true/\cs.length=n*k/\K (.own nx e k (Qw k n cs)) (nx+1)
   | none=>False
  | _=>False
 | _=>False
def zsg (L:Option Lay) (e:TypeId) (n:Nat) (parts:List (Nat×C)) (nx:Nat) (K:C->Nat->Prop):Prop:=
   match L with
    | some ⟨_,k,_,some z⟩=>z.length=k/\0<k/\n*k<=16777216/\(parts.all fun p=>p.2.frz.partB)=true/\match YQ (fun i=>some (i*k,k)) (List.replicate n (z.map zE)).flatten (parts.map fun p=>(p.1,p.2.frz)) with
      | some cs=>(cs.all C.cellB)=true/\cs.length=n*k/\K (.own nx e k (Qw k n cs)) (nx+1)
      | none=>False
    | _=>False
def zse (cs:Option (List C)) (e k n nx:Nat) (K:C->Nat->Prop):Prop:=
 match cs with
   | some cs=>(cs.all C.cellB)=true/\cs.length=n*k/\K (.own nx e k (Qw k n cs)) (nx+1)
   | none=>False
def zsc (P:Program) (L:Option Lay) (l c:C) (nx:Nat) (K:C->Nat->Prop):Prop:=
 match L,l,c with
 | some ⟨.slice e,_,_,_⟩,.sc (.int _ l),.sc (.int _ c)=>match lay P e with
  | some ⟨_,k,by',some z⟩=>z.length=k/\0<k/\(z.all Value.oneCell')=true/\0<=l/\l<=c/\(by':Int)*c<=281474976710656/\c<=9223372036854775807/\K (.own nx e k (List.replicate l.toNat (z.map zE))) (nx+1)
  | _=>False
 | _,_,_=>False
def zrM (L:Option Lay) (e:TypeId) (l c:Int) (nx:Nat) (K:C->Nat->Prop):Prop:=
 match L with
  | some ⟨_,k,by',some z⟩=>z.length=k/\0<k/\(z.all Value.oneCell')=true/\0<=l/\l<=c/\(by':Int)*c<=281474976710656/\c<=9223372036854775807/\K (.own nx e k (List.replicate l.toNat (z.map zE))) (nx+1)
  | _=>False
def zq1 (P:Program) (L:Option Lay) (l c:C) (σ:St) (K:C->St->Prop):Prop:=
 match L,l,c with
 | some ⟨.slice e,_,_,_⟩,.sc (.int _ l),.sc (.int _ c)=>match lay P e with
  | some ⟨_,k,by',some z⟩=>z.length=k/\0<k/\(z.all Value.oneCell')=true/\0<=l/\l<=c/\(by':Int)*c<=281474976710656/\c<=9223372036854775807/\K (.bs σ.bx.length 0 k l.toNat c.toNat) ⟨σ.tm,σ.bx++[(List.replicate c.toNat (z.map zE)).flatten],σ.nx,σ.lg⟩
  | _=>False
 | _,_,_=>False
def zqn (L:Option Lay) (l c:Int) (σ:St) (K:C->St->Prop):Prop:=
 match L with
  | some ⟨_,k,by',some z⟩=>z.length=k/\0<k/\(z.all Value.oneCell')=true/\0<=l/\l<=c/\(by':Int)*c<=281474976710656/\c<=9223372036854775807/\K (.bs σ.bx.length 0 k l.toNat c.toNat) ⟨σ.tm,σ.bx++[(List.replicate c.toNat (z.map zE)).flatten],σ.nx,σ.lg⟩
  | _=>False
def zrI (P:Program) (L:Option Lay) (s x:C) (nx:Nat) (K:C->Nat->Prop):Prop:=
 match L with
 | some ⟨.slice e,_,_,_⟩=>match lay P e with
  | some ⟨_,k,by',some z⟩=>match x.rows? k with
   | some xs=>match s with
    | .sc (.slice none 0 0)=>z.length=k/\0<k/\xs.length<=9223372036854775807/\xs.length*by'<=140737488355328/\K (.own nx e k xs) (nx+1)
    | .tight k' rows=>k'=k/\z.length=k/\0<k/\rows.length+xs.length<=9223372036854775807/\(rows.length+xs.length)*by'<=140737488355328/\(xs = []->K (.tight k' rows) nx)/\(xs≠[]->K (.own nx e k (rows++xs)) (nx+1))
    | _=>False
   | none=>False
  | _=>False
 | _=>False
def zrY (L:Option Lay) (e:TypeId) (s x:C) (nx:Nat) (K:C->Nat->Prop):Prop:=
  match L with
  | some ⟨_,k,by',some z⟩=>match x.rows? k with
   | some xs=>match s with
    | .sc (.slice none 0 0)=>z.length=k/\0<k/\xs.length<=9223372036854775807/\xs.length*by'<=140737488355328/\K (.own nx e k xs) (nx+1)
    | .tight k' rows=>k'=k/\z.length=k/\0<k/\rows.length+xs.length<=9223372036854775807/\(rows.length+xs.length)*by'<=140737488355328/\(xs = []->K (.tight k' rows) nx)/\(xs≠[]->K (.own nx e k (rows++xs)) (nx+1))
    | _=>False
   | none=>False
  | _=>False
def zr0 (xs:Option (List (List C))) (s:C) (e k by':Nat) (z:List Value) (nx:Nat) (K:C->Nat->Prop):Prop:=
 match xs with
   | some xs=>match s with
    | .sc (.slice none 0 0)=>z.length=k/\0<k/\xs.length<=9223372036854775807/\xs.length*by'<=140737488355328/\K (.own nx e k xs) (nx+1)
    | .tight k' rows=>k'=k/\z.length=k/\0<k/\rows.length+xs.length<=9223372036854775807/\(rows.length+xs.length)*by'<=140737488355328/\(xs = []->K (.tight k' rows) nx)/\(xs≠[]->K (.own nx e k (rows++xs)) (nx+1))
    | _=>False
   | none=>False
def zrz (P:Program) (L:Option Lay) (id e k:Nat) (rows:List (List C)) (x:C) (σ:St) (K:C->St->Prop):Prop:=
   match L with
    | some ⟨.slice e',_,_,_⟩=>match lay P e with
      | some ⟨_,k',by',some z⟩=>match x.rows? k with
        | some xs=>e'=e/\k'=k/\z.length=k/\0<k/\rows.length+xs.length<=9223372036854775807/\(rows.length+xs.length)*by'<=140737488355328/\K (.own id e k (rows++xs)) ⟨zbl id σ.tm,xw id σ.bx,σ.nx,σ.lg⟩
        | none=>False
      | _=>False
    | _=>False
def zqz (L:Option Lay) (e' id e k:Nat) (rows:List (List C)) (x:C) (σ:St) (K:C->St->Prop):Prop:=
  match L with
   | some ⟨_,k',by',some z⟩=>match x.rows? k with
    | some xs=>e'=e/\k'=k/\z.length=k/\0<k/\rows.length+xs.length<=9223372036854775807/\(rows.length+xs.length)*by'<=140737488355328/\K (.own id e k (rows++xs)) ⟨zbl id σ.tm,xw id σ.bx,σ.nx,σ.lg⟩
    | none=>False
   | _=>False
def zqk (xs:Option (List (List C))) (by' id e k:Nat) (rows:List (List C)) (σ:St) (K:C->St->Prop):Prop:=
   match xs with
        | some xs=>rows.length+xs.length<=9223372036854775807/\(rows.length+xs.length)*by'<=140737488355328/\K (.own id e k (rows++xs)) ⟨zbl id σ.tm,xw id σ.bx,σ.nx,σ.lg⟩
        | none=>False
def zrH (L:Option Lay) (σ:St) (K:C->St->Prop):Prop:=
 match L with
 | some ⟨_,_,_,some z⟩=>(z.all Value.oneCell')=true/\K (.ptr σ.bx.length 0) ⟨σ.tm,σ.bx++[z.map zE],σ.nx,σ.lg⟩
 | _=>False
def zrD (L:Option Lay) (p c:C) (σ:St) (K:C->St->Prop):Prop:=
 match L,p with
 | some L,.ptr i off=>match σ.bx[i]? with
  | some cs=>c.partB=true/\(c.cells.all C.cellB)=true/\c.cells.length=L.size/\off+L.size<=cs.length/\K .any ⟨σ.tm,σ.bx.set i (cs.take off++c.cells++cs.drop (off+L.size)),σ.nx,σ.lg⟩
  | none=>False
 | _,_=>False
def zr8 (cs:Option (List C)) (i off size:Nat) (c:C) (σ:St) (K:C->St->Prop):Prop:=
 match cs with
  | some cs=>c.partB=true/\(c.cells.all C.cellB)=true/\c.cells.length=size/\off+size<=cs.length/\K .any ⟨σ.tm,σ.bx.set i (cs.take off++c.cells++cs.drop (off+size)),σ.nx,σ.lg⟩
  | none=>False
def zdE (cs:Option (List C)) (off n:Nat) (K:C->Prop):Prop:=match cs with
   | some cs=>∃ l:List UInt8,l.length=n/\(cs.drop off).take n=l.map (fun b=>C.sc (.int .u8 (b.toNat:Int)))/\K (.str l)
   | none=>False
theorem zdE.mk {cs:List C} {off n:Nat} {K:C->Prop} (l:List UInt8) (hl:l.length=n) (h:(cs.drop off).take n=l.map (fun b=>C.sc (.int .u8 (b.toNat:Int)))) (hK:K (.str l)):zdE (some cs) off n K:=⟨l,hl,h,hK⟩
def zsd (P:Program) (L:Option Lay) (n:Nat) (parts:List (Nat×C)) (σ:St) (K:C->St->Prop):Prop:=
 match L with
 | some ⟨.slice e,_,_,_⟩=>match lay P e with
  | some ⟨_,k,_,some z⟩=>z.length=k/\0<k/\n*k<=16777216/\(parts.all fun p=>p.2.frz.partB)=true/\match YQ (fun i=>some (i*k,k)) (List.replicate n (z.map zE)).flatten (parts.map fun p=>(p.1,p.2.frz)) with
   | some cs=>(cs.all C.cellB)=true/\cs.length=n*k/\K (.bs σ.bx.length 0 k n n) ⟨σ.tm,σ.bx++[cs],σ.nx,σ.lg⟩
   | none=>False
  | _=>False
 | _=>False
def zr6 (L:Option Lay) (n:Nat) (parts:List (Nat×C)) (σ:St) (K:C->St->Prop):Prop:=
   match L with
    | some ⟨_,k,_,some z⟩=>z.length=k/\0<k/\n*k<=16777216/\(parts.all fun p=>p.2.frz.partB)=true/\match YQ (fun i=>some (i*k,k)) (List.replicate n (z.map zE)).flatten (parts.map fun p=>(p.1,p.2.frz)) with
      | some cs=>(cs.all C.cellB)=true/\cs.length=n*k/\K (.bs σ.bx.length 0 k n n) ⟨σ.tm,σ.bx++[cs],σ.nx,σ.lg⟩
      | none=>False
    | _=>False
def zrx (cs:Option (List C)) (k n:Nat) (σ:St) (K:C->St->Prop):Prop:=
 match cs with
   | some cs=>(cs.all C.cellB)=true/\cs.length=n*k/\K (.bs σ.bx.length 0 k n n) ⟨σ.tm,σ.bx++[cs],σ.nx,σ.lg⟩
   | none=>False
def zrG (P:Program) (L:Option Lay) (p:Nat) (s x:C) (σ:St) (K:C->St->Prop):Prop:=
 match L with
 | some ⟨.slice e,_,_,_⟩=>match lay P e with
  | some ⟨_,k,by',some z⟩=>match x.xs? k σ.bx with
   | some (m,xs)=>z.length=k/\0<k/\(z.all Value.oneCell')=true/\0<m/\match s with
    | .sc (.slice none 0 0)=>m<=9223372036854775807/\m*by'<=140737488355328/\∀ c,m<=c->c<=maxLen->K (.bs σ.bx.length 0 k m c) ⟨σ.tm,σ.bx++[xs++List.replicate ((c-m)*k) .any],σ.nx,σ.lg⟩
    | .bs i 0 k' n c=>match σ.bx[i]? with
     | some cs=>k'=k/\p<=i/\cs.length=c*k/\n<=c/\c<=9223372036854775807/\n+m<=9223372036854775807/\(n+m)*by'<=140737488355328 /\
       ∀ c',n+m<=c'->c'<=maxLen->K (.bs i 0 k (n+m) c') ⟨Hj (JZ i) some σ.tm,Zq i (C.reL (JZ i) some (cs.take (n*k)++xs)++List.replicate ((c'-(n+m))*k) .any) σ.bx,σ.nx,σ.lg⟩
     | none=>False
    | _=>False
   | none=>False
  | _=>False
 | _=>False
def zrA (L:Option Lay) (p:Nat) (s x:C) (σ:St) (K:C->St->Prop):Prop:=
  match L with
  | some ⟨_,k,by',some z⟩=>match x.xs? k σ.bx with
   | some (m,xs)=>z.length=k/\0<k/\(z.all Value.oneCell')=true/\0<m/\match s with
    | .sc (.slice none 0 0)=>m<=9223372036854775807/\m*by'<=140737488355328/\∀ c,m<=c->c<=maxLen->K (.bs σ.bx.length 0 k m c) ⟨σ.tm,σ.bx++[xs++List.replicate ((c-m)*k) .any],σ.nx,σ.lg⟩
    | .bs i 0 k' n c=>match σ.bx[i]? with
     | some cs=>k'=k/\p<=i/\cs.length=c*k/\n<=c/\c<=9223372036854775807/\n+m<=9223372036854775807/\(n+m)*by'<=140737488355328 /\
       ∀ c',n+m<=c'->c'<=maxLen->K (.bs i 0 k (n+m) c') ⟨Hj (JZ i) some σ.tm,Zq i (C.reL (JZ i) some (cs.take (n*k)++xs)++List.replicate ((c'-(n+m))*k) .any) σ.bx,σ.nx,σ.lg⟩
     | none=>False
    | _=>False
   | none=>False
  | _=>False
def zrt (X:Option (Nat×List C)) (p k by':Nat) (z:List Value) (s:C) (σ:St) (K:C->St->Prop):Prop:=
  match X with
   | some (m,xs)=>z.length=k/\0<k/\(z.all Value.oneCell')=true/\0<m/\match s with
    | .sc (.slice none 0 0)=>m<=9223372036854775807/\m*by'<=140737488355328/\∀ c,m<=c->c<=maxLen->K (.bs σ.bx.length 0 k m c) ⟨σ.tm,σ.bx++[xs++List.replicate ((c-m)*k) .any],σ.nx,σ.lg⟩
    | .bs i 0 k' n c=>match σ.bx[i]? with
     | some cs=>k'=k/\p<=i/\cs.length=c*k/\n<=c/\c<=9223372036854775807/\n+m<=9223372036854775807/\(n+m)*by'<=140737488355328 /\
       ∀ c',n+m<=c'->c'<=maxLen->K (.bs i 0 k (n+m) c') ⟨Hj (JZ i) some σ.tm,Zq i (C.reL (JZ i) some (cs.take (n*k)++xs)++List.replicate ((c'-(n+m))*k) .any) σ.bx,σ.nx,σ.lg⟩
     | none=>False
    | _=>False
   | none=>False
def bsO (j:Option Nat) (off k n c:Nat):C:=match j with | some j=>.bs j off k n c | none=>.any
def xsB (k' k off n:Nat) (cs:Option (List C)):Option (Nat×List C):=if k'=k then cs.bind fun cs=>if off+n*k<=cs.length then some (n,(cs.drop off).take (n*k)) else none else none
def zpY (j:Option Nat) (e k:Nat) (rows:List (List C)):C:=match j with | some j=>.own j e k rows | none=>.sl k rows
def zrj (cs:Option (List C)) (off:Nat):C:=match cs with | some cs=>.row ((C.frzL cs).drop off) | none=>.any
def zm9 (j:Option Nat) (off:Nat):C:=match j with | some j=>.ptr j off | none=>.any
def zlb (cs:Option (List C)) (p:Option Tmp) (σ:St) (K:St->Prop):Prop:=match cs,p with
  | some cs,some p=>K ⟨(p,.ptr σ.bx.length 0) :: σ.tm,σ.bx++[cs],σ.nx,σ.lg⟩
  | _,_=>False
def zrX (M:Option (MKd×C)) (t:TypeId) (r:Option C) (nx:Nat) (K:C->Nat->Prop):Prop:=
 match M with
 | some (kd,_)=>match r with
  | none=>K (.mo nx t kd.nil []) (nx+1)
  | some (.sc (.int _ _))=>K (.mo nx t kd.nil []) (nx+1)
  | _=>False
 | none=>False
def zsb (M:Option (MKd×C)) (t:TypeId) (m key:C) (ok:Bool) (K:C->Prop):Prop:=
 match M with
 | some (.int k,z)=>match m,key with
  | .mo _ t' (.int k' l) vs,.sc (.int q n)=>t'=t/\k'=k/\q=k/\HU (u9 n l vs) z ok K
  | _,_=>False
 | some (.str,z)=>match m,key with
  | .mo _ t' (.str l) vs,.str s=>t'=t/\HU (u9 s l vs) z ok K
  | _,_=>False
 | none=>False
def zrC (M:Option (MKd×C)) (t:TypeId) (m key x:C) (σ:St) (K:C->St->Prop):Prop:=
 match M with
 | some (.int k,_)=>match m,key with
  | .mo id t' (.int k' l) vs,.sc (.int q n)=>t'=t/\k'=k/\q=k/\Gk id (.int k (kR n x.frz l vs).1) (kR n x.frz l vs).2 σ K
  | _,_=>False
 | some (.str,_)=>match m,key with
  | .mo id t' (.str l) vs,.str s=>t'=t/\Gk id (.str (kR s x.frz l vs).1) (kR s x.frz l vs).2 σ K
  | _,_=>False
 | none=>False
def zro (x:Option (List C)):C:=match x with | some cs=>.row cs | none=>.any
structure Tag.{u} {α:Sort u} (a:α):Type where
def zne (M:Option (MKd×C)) (t:TypeId) (r:Option C) (nx:Nat) (K:C->Nat->Prop) (_:Tag K):Prop:=zrX M t r nx K
def zps (M:Option (MKd×C)) (t:TypeId) (m key:C) (ok:Bool) (K:C->Prop) (_:Tag K):Prop:=zsb M t m key ok K
def zfZ (r:Option C) (z:C) (ok:Bool) (K:C->Prop) (_:Tag K):Prop:=HU r z ok K
def zoC (M:Option (MKd×C)) (t:TypeId) (m key x:C) (σ:St) (K:C->St->Prop) (_:Tag K):Prop:=zrC M t m key x σ K
def zdD (sz i off k n cap:Nat) (lo hi mx:Option Int) (K:C->Prop) (_:Tag K):Prop:=zkz sz i off k n cap lo hi mx K
def yZ (P:Program) (t:TypeId) (s x:C) (σ:St) (K:C->St->Prop) (_:Tag K):Prop:=Yv P t s x σ K
def vN (P:Program) (t tn:TypeId) (s x:C) (σ:St) (K:C->St->Prop) (_:Tag K):Prop:=GU P t tn s x σ K
def NL (P:Program) (t:TypeId) (d x:C) (σ:St) (K:C->St->Prop) (_:Tag K):Prop:=QN P t d x σ K
def vo (P:Program) (t:TypeId) (x:C) (σ:St) (K:C->St->Prop) (_:Tag K):Prop:=kf P t x σ K
def zpq (x y:C) (K:C->Prop) (_:Tag K):Prop:=zpe x y K
def zng (P:Program) (t:TypeId) (c:C) (K:C->Prop) (_:Tag K):Prop:=zoX P t c K
def zei (L:Option Lay) (c:C) (K:C->Prop) (_:Tag K):Prop:=zqY L c K
def zfJ (P:Program) (bx:List (List C)) (s d:TypeId) (c:C) (K:C->Prop) (_:Tag K):Prop:=vY P bx s d c K
def Hi (P:Program) (t:TypeId) (n:Nat) (parts:List (Nat×C)) (σ:St) (K:C->St->Prop) (_:Tag K):Prop:=ZN P t n parts σ K
def zoK (P:Program) (L:Option Lay) (n:Nat) (parts:List (Nat×C)) (σ:St) (K:C->St->Prop) (_:Tag K):Prop:=zsd P L n parts σ K
def zpp (L:Option Lay) (n:Nat) (parts:List (Nat×C)) (σ:St) (K:C->St->Prop) (_:Tag K):Prop:=zr6 L n parts σ K
def zpF (cs:Option (List C)) (k n:Nat) (σ:St) (K:C->St->Prop) (_:Tag K):Prop:=zrx cs k n σ K
def un (P:Program) (p:Nat) (t:TypeId) (s x:C) (σ:St) (K:C->St->Prop) (_:Tag K):Prop:=UP P p t s x σ K
def zpJ (P:Program) (L:Option Lay) (p:Nat) (s x:C) (σ:St) (K:C->St->Prop) (_:Tag K):Prop:=zrG P L p s x σ K
def zoi (L:Option Lay) (p:Nat) (s x:C) (σ:St) (K:C->St->Prop) (_:Tag K):Prop:=zrA L p s x σ K
def zpk (X:Option (Nat×List C)) (p k by':Nat) (z:List Value) (s:C) (σ:St) (K:C->St->Prop) (_:Tag K):Prop:=zrt X p k by' z s σ K
def zlp (c:C) (X Y:Prop) (_:Tag X) (_:Tag Y):Prop:=ABr c X Y
def zgU (c:C) (U X Y:Prop) (_:Tag U) (_:Tag X) (_:Tag Y):Prop:=zj8 c U X Y
def Xm (ops:Array Oper) (tm:List (Nat×C)) (g:Option (Nat×Bool)) (X Y:Prop) (_:Tag ops) (_:Tag X) (_:Tag Y):Prop:=ju ops tm g X Y
def zq9 (d:Option Tmp) (tm:List (Nat×C)) (want:Bool) (X Y:Prop) (_:Tag X) (_:Tag Y):Prop:=aGd d tm want X Y
def Vc (P:Program) (G:zr) (h:Hd) (c:Code) (Q:Exit->St->Prop) (σ:St) (_:Tag c) (_:Tag Q):Prop:=awp P G h c Q σ
def zeH (P:Program) (G:zr) (h:Hd) (ops:Array Oper) (l:List Oper) (σ:St) (K:St->Prop) (_:Tag h) (_:Tag ops) (_:Tag l) (_:Tag K):Prop:=zot P G h ops l σ K
def XE (P:Program) (G:zr) (h:Hd) (ops:Array Oper) (l:List Oper) (br:List Bool) (σ:St) (K:St->Prop) (_:Tag h) (_:Tag ops) (_:Tag l) (_:Tag K):Prop:=ZD P G h ops l br σ K
def NA (P:Program) (G:zr) (h:Hd) (ops:Array Oper) (br:List Bool) (σ:St) (K:St->Prop) (_:Tag h) (_:Tag ops) (_:Tag K):Prop:=M1 P G h ops br σ K
def zm4 (P:Program) (G:zr) (Y:Hd) (ops:Array Oper) (rest:List (Nat×MFl)) (q:Nat) (H:List kH) (fl:MFl) (oo:Option Oper) (σ:St) (K:St->Prop):Prop:=match oo with
 | none=>False
 | some o=>match fl with
  | .pure=>ju ops σ.tm o.guard (Ju P G σ.bx (zC G σ.tm) o.op σ.nx fun c nx'=>mix P G Y ops rest (q+1) ((q,fun b=>Ju P G b (zC G σ.tm) o.op σ.nx fun c' n'=>c'=c/\n'=nx') :: H) ⟨Jx σ.tm o.dst c,σ.bx,nx',σ.lg⟩ K)
    (mix P G Y ops rest (q+1) H ⟨Jx σ.tm o.dst (.sc undef),σ.bx,σ.nx,σ.lg⟩ K)
  | .bar=>ju ops σ.tm o.guard (Ns P G Y o.op σ fun c σ'=>mix P G Y ops rest (q+1) [] (σ'.put o.dst c) K) (mix P G Y ops rest (q+1) [] (σ.put o.dst (.sc undef)) K)
  | .flt fr=>o.guard=none/\znr P G o.op σ fun c bx' nx'=>Y3 fr bx' H/\mix P G Y ops rest (q+1) H ⟨Jx σ.tm o.dst c,bx',nx',σ.lg⟩ K
def kO (P:Program) (G:zr) (h:Hd) (ops:Array Oper) (all:List Oper) (L:List (Nat×MFl)) (q:Nat) (H:List kH) (σ:St) (K:St->Prop) (_:Tag h) (_:Tag ops) (_:Tag all) (_:Tag H) (_:Tag K):Prop:=mix P G h ops L q H σ K
def MM (P:Program) (G:zr) (h:Hd) (ops:Array Oper) (all:List Oper) (L:List (Nat×MFl)) (q:Nat) (H:List kH) (fl:MFl) (i:Nat) (l:List Oper) (σ:St) (K:St->Prop) (_:Tag h) (_:Tag ops) (_:Tag all) (_:Tag H) (_:Tag l) (_:Tag K):Prop:=zm4 P G h ops L q H fl (l[i]?) σ K
def zm3 (fr:List Nat) (b:List (List C)) (H:List kH) (_:Tag H):Prop:=Y3 fr b H
def zdI (P:Program) (G:zr) (f:C) (args:List C) (σ:St) (K:C->List (List C)->Nat->Prop) (_:Tag K):Prop:=ux P G f args σ K
def zrq (P:Program) (G:zr) (f:FuncId) (args:List C) (σ:St) (K:C->List (List C)->Nat->Prop) (_:Tag K):Prop:=zj1 P G f args σ K
def Xi (P:Program) (G:zr) (ops:Array Oper) (a s:Nat) (l:List Oper) (i:Nat) (cs:Option (List C)) (σ:St) (K:St->Prop) (_:Tag ops) (_:Tag l) (_:Tag K):Prop:=jF P G ops a s l i cs σ K
def zjY (cs:Option (List C)) (p:Option Tmp) (σ:St) (K:St->Prop) (_:Tag K):Prop:=zlb cs p σ K
def zjZ (L:Option Lay) (K:Prop) (_:Tag K):Prop:=zir L K
def zj5 (L:Option Lay) (c:C) (K:C->Prop) (_:Tag K):Prop:=zik L c K
def jK (P:Program) (G:zr) (h:Hd) (op:Op) (σ:St) (K:C->St->Prop) (_:Tag h) (_:Tag op) (_:Tag K):Prop:=Ns P G h op σ K
def QT (P:Program) (G:zr) (f:FuncId) (args fargs:List C) (σ:St) (K:C->St->Prop) (_:Tag K):Prop:=zoU P G f args fargs σ K
def vk (P:Program) (G:zr) (h:Hd) (c:C) (args:List C) (σ:St) (K:C->St->Prop) (_:Tag h) (_:Tag K):Prop:=xm P G h c args σ K
def uV (y:Yd) (it:Option (List C)) (args:List C) (σ:St) (K:C->St->Prop) (_:Tag y) (_:Tag K):Prop:=GO y it args σ K
def zd5 (P:Program) (G:zr) (p:Nat) (A B:Nat->(Exit->St->Prop)->St->Prop) (Q:Exit->St->Prop) (ps:List Tmp) (c:C) (σ:St) (_:Tag A) (_:Tag B) (_:Tag Q):Prop:=uG P G p A B Q ps c σ
def jE (P:Program) (G:zr) (bx:List (List C)) (ev:Operand->C) (op:Op) (nx:Nat) (K:C->Nat->Prop) (_:Tag ev) (_:Tag op) (_:Tag K):Prop:=Ju P G bx ev op nx K
def zak (P:Program) (σ:St) (rs:List ResultVar) (K:C->Prop) (_:Tag K):Prop:=zm6 P σ rs K
def Yu (P:Program) (σ:St) (rv:ResultVar) (K:C->Prop) (_:Tag K):Prop:=JQ P σ rv K
def N1 (P:Program) (t:TypeId) (op:BinOp) (x y:C) (K:C->Prop) (_:Tag K):Prop:=zna P t op x y K
def UY (op:BinOp) (k:IntKind) (a b:Int) (K:C->Prop) (_:Tag K):Prop:=zpZ op k a b K
def uf (l:Option Lay) (op:BinOp) (x:C) (K:C->Prop) (_:Tag K):Prop:=zmr l op x K
def zf0 (op:BinOp) (b:Bool) (K:C->Prop) (_:Tag K):Prop:=Ng op b K
def zbp (op:BinOp) (a b:List UInt8) (K:C->Prop) (_:Tag K):Prop:=zqe op a b K
def zjO (op:BinOp) (a b:Bool) (K:C->Prop) (_:Tag K):Prop:=zjn op a b K
def zgo (L:Option Lay) (op:BinOp) (a b:Bool) (K:C->Prop) (_:Tag K):Prop:=zoB L op a b K
def zlQ (op:BinOp) (ks:Option (List LK)) (xs ys:List C) (K:C->Prop) (_:Tag K):Prop:=zrf op ks xs ys K
def zgC (n:Bool) (ks:List LK) (xs ys:List C) (e:Bool) (K:C->Prop) (_:Tag K):Prop:=aEq n ks xs ys e K
def zqS (op:UnOp) (x:C) (K:C->Prop) (_:Tag K):Prop:=aUn op x K
def uU (P:Program) (t:TypeId) (c:C) (bx:List (List C)) (K:C->Prop) (_:Tag K):Prop:=ya P t c bx K
def yF (L:Option Lay) (c:C) (bx:List (List C)) (K:C->Prop) (_:Tag K):Prop:=zo3 L c bx K
def zdg (cs:Option (List C)) (off:Nat) (L:Lay) (K:C->Prop) (_:Tag K):Prop:=zns cs off L K
def Vz (L:Lay) (cs:List C) (K:C->Prop) (_:Tag K):Prop:=Yj L cs K
def zmo (x:Option C) (K:C->Prop) (_:Tag K):Prop:=zp9 x K
def Uh (c:C) (i:Nat) (K:C->Prop) (_:Tag K):Prop:=V5 c i K
def zl0 (c:C) (K:C->Prop) (_:Tag K):Prop:=zpU c K
def vG (P:Program) (t:TypeId) (c:C) (f:Nat) (K:C->Prop) (_:Tag K):Prop:=uL P t c f K
def uD (L:Option Lay) (c:C) (f:Nat) (K:C->Prop) (_:Tag K):Prop:=yA L c f K
def ug (f:Option (Nat×Nat×Bool)) (cs:List C) (K:C->Prop) (_:Tag K):Prop:=kl f cs K
def QR (P:Program) (t:TypeId) (c:C) (f:Nat) (K:C->Prop) (_:Tag K):Prop:=Qr P t c f K
def zpC (L:Option Lay) (c:C) (f:Nat) (K:C->Prop) (_:Tag K):Prop:=zr3 L c f K
def zl1 (f:Option (Nat×Nat×Bool)) (c:C) (K:C->Prop) (_:Tag K):Prop:=zpj f c K
def QG (P:Program) (t:TypeId) (c:C) (i:C) (K:C->Prop) (_:Tag K):Prop:=Qd P t c i K
def zlG (P:Program) (L:Option Lay) (c:C) (i:C) (K:C->Prop) (_:Tag K):Prop:=zrQ P L c i K
def zgV (L:Option Lay) (c:C) (n:Int) (K:C->Prop) (_:Tag K):Prop:=zrE L c n K
def zkw (rows:Option (List (List C))) (n:Int) (K:C->Prop) (_:Tag K):Prop:=zrT rows n K
def zrr (r:Option (List C)) (n:Int) (K:C->Prop) (_:Tag K):Prop:=aAt r n K
def zod (L:Option Lay) (c:C) (m:Nat) (n:Int) (K:C->Prop) (_:Tag K):Prop:=zr1 L c m n K
def vB (P:Program) (t:TypeId) (c i:C) (K:C->Prop) (_:Tag K):Prop:=vS P t c i K
def zni (L:Option Lay) (c i:C) (K:C->Prop) (_:Tag K):Prop:=zp5 L c i K
def zkb (b:Option UInt8) (n:Int) (K:C->Prop) (_:Tag K):Prop:=zkA b n K
def vF (P:Program) (t:TypeId) (c:C) (lo hi mx:Option C) (K:C->Prop) (_:Tag K):Prop:=uB P t c lo hi mx K
def zoF (P:Program) (t:TypeId) (c:C) (lo hi mx:Option (Option Int)) (K:C->Prop) (_:Tag K):Prop:=zsa P t c lo hi mx K
def zmd (P:Program) (L:Option Lay) (c:C) (lo hi mx:Option Int) (K:C->Prop) (_:Tag K):Prop:=zrp P L c lo hi mx K
def zfb (L:Option Lay) (c:C) (lo hi mx:Option Int) (K:C->Prop) (_:Tag K):Prop:=zrF L c lo hi mx K
def znU (k:Nat) (lo hi mx:Option Int) (K:C->Prop) (_:Tag K):Prop:=zor k lo hi mx K
def zjd (rows:Option (List (List C))) (k:Nat) (lo hi mx:Option Int) (K:C->Prop) (_:Tag K):Prop:=zrJ rows k lo hi mx K
def zj3 (P:Program) (s d:TypeId) (c:C) (K:C->Prop) (_:Tag K):Prop:=ziI P s d c K
def zmx (P:Program) (D S:Option Lay) (c:C) (K:C->Prop) (_:Tag K):Prop:=zrN P D S c K
def yb (P:Program) (t:TypeId) (c:C) (K:C->Prop) (_:Tag K):Prop:=zpy P t c K
def N3 (L:Option Lay) (n:Int) (K:C->Prop) (_:Tag K):Prop:=zq3 L n K
def zj6 (L:Option Lay) (n:Int) (K:C->Prop) (_:Tag K):Prop:=zp1 L n K
def xY (P:Program) (t:TypeId) (parts:List (Nat×C)) (K:C->Prop) (_:Tag K):Prop:=vO P t parts K
def zoH (L:Option Lay) (parts:List (Nat×C)) (K:C->Prop) (_:Tag K):Prop:=zqJ L parts K
def zrn (cs:Option (List C)) (K:C->Prop) (_:Tag K):Prop:=aFl cs K
def X0 (P:Program) (t:TypeId) (n:Nat) (parts:List (Nat×C)) (nx:Nat) (K:C->Nat->Prop) (_:Tag K):Prop:=Yc P t n parts nx K
def Gw (P:Program) (t:TypeId) (n:Nat) (parts:List (Nat×C)) (nx:Nat) (K:C->Nat->Prop) (_:Tag K):Prop:=GZ P t n parts nx K
def zoq (P:Program) (L:Option Lay) (nx:Nat) (K:C->Nat->Prop) (_:Tag K):Prop:=match L with
 | some ⟨.slice e,_,_,_⟩=>match lay P e with
  | some ⟨_,k,_,some z⟩=>z.length=k/\0<k/\K (.tight k []) nx
  | _=>False
 | _=>False
def zox (L:Option Lay) (nx:Nat) (K:C->Nat->Prop) (_:Tag K):Prop:=match L with
  | some ⟨_,k,_,some z⟩=>z.length=k/\0<k/\K (.tight k []) nx
  | _=>False
def zpl (P:Program) (L:Option Lay) (n:Nat) (parts:List (Nat×C)) (nx:Nat) (K:C->Nat->Prop) (_:Tag K):Prop:=zrO P L n parts nx K
def znv (L:Option Lay) (e:TypeId) (n:Nat) (parts:List (Nat×C)) (nx:Nat) (K:C->Nat->Prop) (_:Tag K):Prop:=zsg L e n parts nx K
def zoy (cs:Option (List C)) (e k n nx:Nat) (K:C->Nat->Prop) (_:Tag K):Prop:=zse cs e k n nx K
def zki (P:Program) (t:TypeId) (l c:C) (nx:Nat) (K:C->Nat->Prop) (_:Tag K):Prop:=zeu P t l c nx K
def xg (P:Program) (t:TypeId) (l c:C) (σ:St) (K:C->St->Prop) (_:Tag K):Prop:=Ud P t l c σ K
def zkh (P:Program) (L:Option Lay) (l c:C) (σ:St) (K:C->St->Prop) (_:Tag K):Prop:=zq1 P L l c σ K
def zkk (L:Option Lay) (l c:Int) (σ:St) (K:C->St->Prop) (_:Tag K):Prop:=zqn L l c σ K
def zpS (P:Program) (L:Option Lay) (l c:C) (nx:Nat) (K:C->Nat->Prop) (_:Tag K):Prop:=zsc P L l c nx K
def znm (L:Option Lay) (e:TypeId) (l c:Int) (nx:Nat) (K:C->Nat->Prop) (_:Tag K):Prop:=zrM L e l c nx K
def HZ (P:Program) (t:TypeId) (s x:C) (σ:St) (K:C->St->Prop) (_:Tag K):Prop:=GP P t s x σ K
def GK (P:Program) (t:TypeId) (s x:C) (nx:Nat) (K:C->Nat->Prop) (_:Tag K):Prop:=ZV P t s x nx K
def zog (P:Program) (L:Option Lay) (s x:C) (nx:Nat) (K:C->Nat->Prop) (_:Tag K):Prop:=zrI P L s x nx K
def znF (L:Option Lay) (e:TypeId) (s x:C) (nx:Nat) (K:C->Nat->Prop) (_:Tag K):Prop:=zrY L e s x nx K
def zop (xs:Option (List (List C))) (s:C) (e k by':Nat) (z:List Value) (nx:Nat) (K:C->Nat->Prop) (_:Tag K):Prop:=zr0 xs s e k by' z nx K
def znt (P:Program) (L:Option Lay) (id e k:Nat) (rows:List (List C)) (x:C) (σ:St) (K:C->St->Prop) (_:Tag K):Prop:=zrz P L id e k rows x σ K
def zoZ (L:Option Lay) (e' id e k:Nat) (rows:List (List C)) (x:C) (σ:St) (K:C->St->Prop) (_:Tag K):Prop:=zqz L e' id e k rows x σ K
def znG (xs:Option (List (List C))) (by' id e k:Nat) (rows:List (List C)) (σ:St) (K:C->St->Prop) (_:Tag K):Prop:=zqk xs by' id e k rows σ K
def ze1 (P:Program) (G:zr) (callee:C) (args:List C) (nx:Nat) (K:C->Nat->Prop) (_:Tag K):Prop:=Md P G callee args nx K
def xJ (P:Program) (G:zr) (f:FuncId) (args:List C) (nx:Nat) (K:C->Nat->Prop) (_:Tag K):Prop:=uq P G f args nx K
def znp (c:C) (σ:St) (K:C->St->Prop) (_:Tag K):Prop:=zqv c σ K
def zom (L:Option Lay) (σ:St) (K:C->St->Prop) (_:Tag K):Prop:=zrH L σ K
def zol (L:Option Lay) (p c:C) (σ:St) (K:C->St->Prop) (_:Tag K):Prop:=zrD L p c σ K
def zoI (cs:Option (List C)) (i off size:Nat) (c:C) (σ:St) (K:C->St->Prop) (_:Tag K):Prop:=zr8 cs i off size c σ K
def zeL (p:Nat) (B:(Exit->St->Prop)->St->Prop) (Q:Exit->St->Prop) (σ:St) (_:Tag B) (_:Tag Q):Prop:=ziv p B Q σ
def uH (next:St->Prop) (Q:Exit->St->Prop) (_:Tag next) (_:Tag Q):Exit->St->Prop:=zpc next Q
def UJ (id:Nat) (Q:Exit->St->Prop) (_:Tag Q):Exit->St->Prop:=MS id Q
def H8 (Q:Exit->St->Prop) (_:Tag Q):Exit->St->Prop:=zfN Q
def uE (next:St->Prop) (Q:Exit->St->Prop) (_:Tag next) (_:Tag Q):Exit->St->Prop:=zl3 next Q
def zjW (K:St->Prop) (_:Tag K):Exit->St->Prop:=zmC K
def yg (m:Nat) (tm:List (Nat×C)) (st:Bool) (next:St) (Q:Exit->St->Prop) (_:Tag next) (_:Tag Q):Exit->St->Prop:=zdZ m tm st next Q
def Nz (P:Program) (rs:List ResultVar) (K:C->St->Prop) (_:Tag K):Exit->St->Prop:=zjR P rs K
theorem zpH:Vc P G h .skip Q σ ⟨⟩ ⟨⟩=Q .normal σ:=(rfl)
theorem zkq {l:Nat}:Vc P G h (.label l) Q σ ⟨⟩ ⟨⟩=Q .normal σ:=(rfl)
theorem zoD {id:Nat}:Vc P G h (.exit id) Q σ ⟨⟩ ⟨⟩=Q (.exit id) σ:=(rfl)
theorem zqA:Vc P G h .ret Q σ ⟨⟩ ⟨⟩=Q .ret σ:=(rfl)
theorem zqM {a b:Code}:Vc P G h (.seq a b) Q σ ⟨⟩ ⟨⟩=Vc P G h a (uH (fun σ=>Vc P G h b Q σ ⟨⟩ ⟨⟩) Q ⟨⟩ ⟨⟩) σ ⟨⟩ ⟨⟩:=(rfl)
theorem zpE {cc:Operand} {a b:Code}:Vc P G h (.cond cc a b) Q ⟨tm,bx,nx,lg⟩ ⟨⟩ ⟨⟩=zlp (zC G tm cc) (Vc P G h a Q ⟨tm,bx,nx,lg⟩ ⟨⟩ ⟨⟩) (Vc P G h b Q ⟨tm,bx,nx,lg⟩ ⟨⟩ ⟨⟩) ⟨⟩ ⟨⟩:=(rfl)
theorem zlg {id:Nat} {a:Code}:Vc P G h (.block id a) Q σ ⟨⟩ ⟨⟩=Vc P G h a (UJ id Q ⟨⟩) σ ⟨⟩ ⟨⟩:=(rfl)
theorem zn7 {a:Code}:Vc P G ⟨p,yd,bf⟩ (.loop a) Q σ ⟨⟩ ⟨⟩=zeL p (fun Q σ=>Vc P G ⟨p,yd,bf⟩ a Q σ ⟨⟩ ⟨⟩) Q σ ⟨⟩ ⟨⟩:=(rfl)
theorem zjM {a b:Code} {x:Operand} {ps:List Tmp}:Vc P G ⟨p,yd,bf⟩ (.rangeFunc x ps.toArray a b) Q ⟨tm,bx,nx,lg⟩ ⟨⟩ ⟨⟩=zd5 P G p (fun m=>fun Q σ=>Vc P G ⟨m,yd,bf⟩ a Q σ ⟨⟩ ⟨⟩) (fun m=>fun Q σ=>Vc P G ⟨m,yd,bf⟩ b Q σ ⟨⟩ ⟨⟩) Q ps (zC G tm x) ⟨tm,bx,nx,lg⟩ ⟨⟩ ⟨⟩ ⟨⟩:=(rfl)
theorem zkX {a:Code}:Vc P G h (.scope a) Q σ ⟨⟩ ⟨⟩=Vc P G h a (H8 Q ⟨⟩) σ ⟨⟩ ⟨⟩:=(rfl)
theorem zh4 {id:Nat} {l:List Oper}:Vc P G ⟨p,yd,bf⟩ (.region id l.toArray false) Q σ ⟨⟩ ⟨⟩=zeH P G ⟨p,yd,bf⟩ l.toArray l σ (Q .normal) ⟨⟩ ⟨⟩ ⟨⟩ ⟨⟩:=(rfl)
theorem zef {id:Nat} {l:List Oper}:Vc P G ⟨p,yd,bf⟩ (.region id l.toArray true) Q σ ⟨⟩ ⟨⟩=NA P G ⟨p,yd,bf⟩ l.toArray (bf id) σ (Q .normal) ⟨⟩ ⟨⟩ ⟨⟩:=(rfl)
theorem zhH {KS:St->Prop} {l:List Oper}:NA P G h l.toArray [] σ KS ⟨⟩ ⟨⟩ ⟨⟩=XE P G h l.toArray l [] σ KS ⟨⟩ ⟨⟩ ⟨⟩ ⟨⟩:=(rfl)
theorem zit {KS:St->Prop} {l:List Oper} {r:List Bool}:NA P G h l.toArray (false :: r) σ KS ⟨⟩ ⟨⟩ ⟨⟩=XE P G h l.toArray l (false :: r) σ KS ⟨⟩ ⟨⟩ ⟨⟩ ⟨⟩:=(rfl)
theorem zjF {KS:St->Prop} {l:List Oper} {L:List (Nat×MFl)}:NA P G h l.toArray (VQ L) σ KS ⟨⟩ ⟨⟩ ⟨⟩=kO P G h l.toArray l L 0 [] σ KS ⟨⟩ ⟨⟩ ⟨⟩ ⟨⟩ ⟨⟩:=(show M1 P G h l.toArray (VQ L) σ KS=mix P G h l.toArray L 0 [] σ KS from by
 unfold M1 VQ
 rw[show HF (zfe 199 (unR (zcs L)))=none from rfl,k9]
 simp only[zbo])
theorem zn0 {KS:St->Prop} {all:List Oper} {q:Nat} {H:List kH}:kO P G h ops all [] q H σ KS ⟨⟩ ⟨⟩ ⟨⟩ ⟨⟩ ⟨⟩=KS σ:=(rfl)
theorem zo6 {KS:St->Prop} {all:List Oper} {i q:Nat} {fl:MFl} {L:List (Nat×MFl)} {H:List kH}:kO P G h all.toArray all ((i,fl) :: L) q H σ KS ⟨⟩ ⟨⟩ ⟨⟩ ⟨⟩ ⟨⟩=MM P G h all.toArray all L q H fl i all σ KS ⟨⟩ ⟨⟩ ⟨⟩ ⟨⟩ ⟨⟩ ⟨⟩:=(show mix P G h all.toArray ((i,fl) :: L) q H σ KS=zm4 P G h all.toArray L q H fl (all[i]?) σ KS from rfl)
theorem znC {KS:St->Prop} {o:Oper} {all l:List Oper} {i q:Nat} {fl:MFl} {L:List (Nat×MFl)} {H:List kH}:MM P G h ops all L q H fl (i+1) (o :: l) σ KS ⟨⟩ ⟨⟩ ⟨⟩ ⟨⟩ ⟨⟩ ⟨⟩=MM P G h ops all L q H fl i l σ KS ⟨⟩ ⟨⟩ ⟨⟩ ⟨⟩ ⟨⟩ ⟨⟩:=(show zm4 P G h ops L q H fl ((o :: l)[i+1]?) σ KS=zm4 P G h ops L q H fl (l[i]?) σ KS from rfl)
theorem zpa {KS:St->Prop} {all rest:List Oper} {q:Nat} {L:List (Nat×MFl)} {H:List kH} {dst:Option Tmp} {op:Op} {ty:TypeId} {pos:String} {af:Array Edge} {g:Option (Nat×Bool)}:MM P G h ops all L q H .pure 0 (⟨dst,op,ty,pos,af,g⟩ :: rest) ⟨tm,bx,nx,lg⟩ KS ⟨⟩ ⟨⟩ ⟨⟩ ⟨⟩ ⟨⟩ ⟨⟩ =
  Xm ops tm g (jE P G bx (zC G tm) op nx (fun c nx'=>kO P G h ops all L (q+1) ((q,fun b=>jE P G b (zC G tm) op nx (fun c' n'=>c'=c/\n'=nx') ⟨⟩ ⟨⟩ ⟨⟩) :: H) ⟨Jx tm dst c,bx,nx',lg⟩ KS ⟨⟩ ⟨⟩ ⟨⟩ ⟨⟩ ⟨⟩) ⟨⟩ ⟨⟩ ⟨⟩) (kO P G h ops all L (q+1) H ⟨Jx tm dst (.sc undef),bx,nx,lg⟩ KS ⟨⟩ ⟨⟩ ⟨⟩ ⟨⟩ ⟨⟩) ⟨⟩ ⟨⟩ ⟨⟩:=
 (show zm4 P G h ops L q H .pure (some ⟨dst,op,ty,pos,af,g⟩) ⟨tm,bx,nx,lg⟩ KS=_ from rfl)
theorem znM {KS:St->Prop} {all rest:List Oper} {q:Nat} {L:List (Nat×MFl)} {H:List kH} {dst:Option Tmp} {op:Op} {ty:TypeId} {pos:String} {af:Array Edge} {g:Option (Nat×Bool)}:MM P G h ops all L q H .bar 0 (⟨dst,op,ty,pos,af,g⟩ :: rest) ⟨tm,bx,nx,lg⟩ KS ⟨⟩ ⟨⟩ ⟨⟩ ⟨⟩ ⟨⟩ ⟨⟩ =
  Xm ops tm g (jK P G h op ⟨tm,bx,nx,lg⟩ (fun c σ'=>kO P G h ops all L (q+1) [] (σ'.put dst c) KS ⟨⟩ ⟨⟩ ⟨⟩ ⟨⟩ ⟨⟩) ⟨⟩ ⟨⟩ ⟨⟩) (kO P G h ops all L (q+1) [] ((St.mk tm bx nx lg).put dst (.sc undef)) KS ⟨⟩ ⟨⟩ ⟨⟩ ⟨⟩ ⟨⟩) ⟨⟩ ⟨⟩ ⟨⟩:=
 (show zm4 P G h ops L q H .bar (some ⟨dst,op,ty,pos,af,g⟩) ⟨tm,bx,nx,lg⟩ KS=_ from rfl)
theorem zkH {KS:St->Prop} {all rest:List Oper} {q:Nat} {L:List (Nat×MFl)} {H:List kH} {fr:List Nat} {dst:Option Tmp} {ty:TypeId} {pos:String} {af:Array Edge}:MM P G h ops all L q H (.flt fr) 0 (⟨dst,.store t x y,ty,pos,af,none⟩ :: rest) ⟨tm,bx,nx,lg⟩ KS ⟨⟩ ⟨⟩ ⟨⟩ ⟨⟩ ⟨⟩ ⟨⟩ =
  jK P G h (.store t x y) ⟨tm,bx,nx,lg⟩ (fun c σ'=>zm3 fr σ'.bx H ⟨⟩/\kO P G h ops all L (q+1) H ⟨Jx tm dst c,σ'.bx,σ'.nx,lg⟩ KS ⟨⟩ ⟨⟩ ⟨⟩ ⟨⟩ ⟨⟩) ⟨⟩ ⟨⟩ ⟨⟩:=
 (show ((none:Option (Nat×Bool))=none/\ZM P t (zC G tm x) (zC G tm y) ⟨tm,bx,nx,lg⟩ fun c σ'=>Y3 fr σ'.bx H/\mix P G h ops L (q+1) H ⟨Jx tm dst c,σ'.bx,σ'.nx,lg⟩ KS)=_ from propext ⟨fun h=>h.2,fun h=>⟨rfl,h⟩⟩)
theorem zmq {KS:St->Prop} {all rest:List Oper} {q:Nat} {L:List (Nat×MFl)} {H:List kH} {fr:List Nat} {dst:Option Tmp} {ty:TypeId} {pos:String} {af:Array Edge}:MM P G h ops all L q H (.flt fr) 0 (⟨dst,.call ⟨.builtin .copy,#[x,y],#[t,t']⟩,ty,pos,af,none⟩ :: rest) ⟨tm,bx,nx,lg⟩ KS ⟨⟩ ⟨⟩ ⟨⟩ ⟨⟩ ⟨⟩ ⟨⟩ =
  NL P t (zC G tm x) (zC G tm y) ⟨tm,bx,nx,lg⟩ (fun c σ'=>zm3 fr σ'.bx H ⟨⟩/\kO P G h ops all L (q+1) H ⟨Jx tm dst c,σ'.bx,σ'.nx,lg⟩ KS ⟨⟩ ⟨⟩ ⟨⟩ ⟨⟩ ⟨⟩) ⟨⟩:=
 (show ((none:Option (Nat×Bool))=none/\QN P t (zC G tm x) (zC G tm y) ⟨tm,bx,nx,lg⟩ fun c σ'=>Y3 fr σ'.bx H/\mix P G h ops L (q+1) H ⟨Jx tm dst c,σ'.bx,σ'.nx,lg⟩ KS)=_ from propext ⟨fun h=>h.2,fun h=>⟨rfl,h⟩⟩)
theorem znV {KS:St->Prop} {all rest:List Oper} {q:Nat} {L:List (Nat×MFl)} {H:List kH} {fr:List Nat} {dst:Option Tmp} {ty:TypeId} {pos:String} {af:Array Edge} {us:List Operand} {tys:Array TypeId}:MM P G h ops all L q H (.flt fr) 0 (⟨dst,.call ⟨.value x,us.toArray,tys⟩,ty,pos,af,none⟩ :: rest) ⟨tm,bx,nx,lg⟩ KS ⟨⟩ ⟨⟩ ⟨⟩ ⟨⟩ ⟨⟩ ⟨⟩ =
  zdI P G (zC G tm x) (us.map (zC G tm)) ⟨tm,bx,nx,lg⟩ (fun c b' n'=>zm3 fr b' H ⟨⟩/\kO P G h ops all L (q+1) H ⟨Jx tm dst c,b',n',lg⟩ KS ⟨⟩ ⟨⟩ ⟨⟩ ⟨⟩ ⟨⟩) ⟨⟩:=
 (show ((none:Option (Nat×Bool))=none/\ux P G (zC G tm x) (us.map (zC G tm)) ⟨tm,bx,nx,lg⟩ fun c b' n'=>Y3 fr b' H/\mix P G h ops L (q+1) H ⟨Jx tm dst c,b',n',lg⟩ KS)=_ from propext ⟨fun h=>h.2,fun h=>⟨rfl,h⟩⟩)
theorem zlY {K4:C->List (List C)->Nat->Prop} {f:FuncId} {fs cs args:List C}:zdI P G (.clo (.func f) fs cs) args ⟨tm,bx,nx,lg⟩ K4 ⟨⟩=zrq P G f (fs++args++cs) ⟨tm,bx,nx,lg⟩ K4 ⟨⟩:=(rfl)
theorem zk9 {p:Prop} [Decidable p]:(if p then True else True)=True:=ite_self _
theorem znf {fr:List Nat} {b:List (List C)}:zm3 fr b [] ⟨⟩=True:=(rfl)
theorem zow {fr:List Nat} {b:List (List C)} {k:Nat} {f:List (List C)->Prop} {r:List kH}:zm3 fr b ((k,f) :: r) ⟨⟩=((if k∈fr then f b else True)/\zm3 fr b r ⟨⟩):=(show ((match fr.contains k with | true=>f b | false=>True)/\Y3 fr b r)=((if k∈fr then f b else True)/\Y3 fr b r) from by
 cases hq:fr.contains k with
 | true=>rw[if_pos (by simpa using hq)]
 | false=>rw[if_neg fun h=>by simp[h]at hq])
theorem zji {KS:St->Prop} {l:List Oper} {a s:Nat}:NA P G h l.toArray (Ut a s) σ KS ⟨⟩ ⟨⟩ ⟨⟩=Xi P G l.toArray a s l 0 none σ KS ⟨⟩ ⟨⟩ ⟨⟩:=(show M1 P G h l.toArray (Ut a s) σ KS=jF P G l.toArray a s l 0 none σ KS from by unfold M1;rw[Nx])
theorem zdM {KS:St->Prop} {a s i:Nat} {cs:Option (List C)} {l:List Oper}:Xi P G l.toArray a s [] i cs σ KS ⟨⟩ ⟨⟩ ⟨⟩=zjY cs ((l[a]?).bind (·.dst)) σ KS ⟨⟩:=(show jF P G l.toArray a s [] i cs σ KS=zlb cs ((l[a]?).bind (·.dst)) σ KS from by simp only[jF,zlb,List.getElem?_toArray];rfl)
theorem zc5 {KS:St->Prop} {a s:Nat} {cs:Option (List C)} {dst:Option Tmp} {ty:TypeId} {pos:String} {af:Array Edge} {g:Option (Nat×Bool)} {rest:List Oper}:Xi P G ops a s (⟨dst,.alloc t,ty,pos,af,g⟩ :: rest) a cs ⟨tm,bx,nx,lg⟩ KS ⟨⟩ ⟨⟩ ⟨⟩=zjZ (lay P t) (Xi P G ops a s rest (a+1) cs ⟨Jx tm dst .any,bx,nx,lg⟩ KS ⟨⟩ ⟨⟩ ⟨⟩) ⟨⟩:=(show jF P G ops a s (⟨dst,.alloc t,ty,pos,af,g⟩ :: rest) a cs ⟨tm,bx,nx,lg⟩ KS=zir (lay P t) (jF P G ops a s rest (a+1) cs ⟨Jx tm dst .any,bx,nx,lg⟩ KS) from by simp only[jF,if_true])
theorem zcJ {KS:St->Prop} {a s:Nat} {cs:Option (List C)} {dst:Option Tmp} {ty:TypeId} {pos:String} {af:Array Edge} {g:Option (Nat×Bool)} {rest:List Oper} (hsa:(s==a)=false):Xi P G ops a s (⟨dst,.store t y x,ty,pos,af,g⟩ :: rest) s cs ⟨tm,bx,nx,lg⟩ KS ⟨⟩ ⟨⟩ ⟨⟩=zj5 (lay P t) (zC G tm x) (fun c=>Xi P G ops a s rest (s+1) (some c.cells) ⟨Jx tm dst .any,bx,nx,lg⟩ KS ⟨⟩ ⟨⟩ ⟨⟩) ⟨⟩:=(show jF P G ops a s (⟨dst,.store t y x,ty,pos,af,g⟩ :: rest) s cs ⟨tm,bx,nx,lg⟩ KS=zik (lay P t) (zC G tm x) fun c=>jF P G ops a s rest (s+1) (some c.cells) ⟨Jx tm dst .any,bx,nx,lg⟩ KS from by simp only[beq_eq_false_iff_ne]at hsa;simp only[jF,if_neg hsa,if_true])
theorem zhX {KS:St->Prop} {a s i:Nat} {cs:Option (List C)} {dst:Option Tmp} {ty:TypeId} {pos:String} {af:Array Edge} {g:Option (Nat×Bool)} {rest:List Oper} {op:Op} (hia:(i==a)=false) (his:(i==s)=false):Xi P G ops a s (⟨dst,op,ty,pos,af,g⟩ :: rest) i cs ⟨tm,bx,nx,lg⟩ KS ⟨⟩ ⟨⟩ ⟨⟩=Xm ops tm g (jE P G bx (zC G tm) op nx (fun c nx'=>Xi P G ops a s rest (i+1) cs ⟨Jx tm dst c,bx,nx',lg⟩ KS ⟨⟩ ⟨⟩ ⟨⟩) ⟨⟩ ⟨⟩ ⟨⟩) (Xi P G ops a s rest (i+1) cs ⟨Jx tm dst (.sc undef),bx,nx,lg⟩ KS ⟨⟩ ⟨⟩ ⟨⟩) ⟨⟩ ⟨⟩ ⟨⟩:=(show jF P G ops a s (⟨dst,op,ty,pos,af,g⟩ :: rest) i cs ⟨tm,bx,nx,lg⟩ KS=ju ops tm g (Ju P G bx (zC G tm) op nx fun c nx'=>jF P G ops a s rest (i+1) cs ⟨Jx tm dst c,bx,nx',lg⟩ KS) (jF P G ops a s rest (i+1) cs ⟨Jx tm dst (.sc undef),bx,nx,lg⟩ KS) from by simp only[beq_eq_false_iff_ne]at hia his;simp only[jF,if_neg hia,if_neg his])
theorem znx {KS:St->Prop} {cs:List C} {u:Tmp}:zjY (some cs) (some u) ⟨tm,bx,nx,lg⟩ KS ⟨⟩=KS ⟨(u,.ptr bx.length 0) :: tm,bx++[cs],nx,lg⟩:=(rfl)
theorem zpn {kd:LK} {k b1:Nat} {z1:List Value}:zjZ (some ⟨kd,k,b1,some z1⟩) X ⟨⟩=(z1.length=k/\(z1.all Value.oneCell')=true/\X):=(rfl)
theorem znz {L:Lay}:zj5 (some L) c K ⟨⟩=(c.partB=true/\(c.cells.all C.cellB)=true/\c.cells.length=L.size/\K c):=(rfl)
theorem znL {KS:St->Prop}:zjW KS ⟨⟩ .normal σ=KS σ:=(rfl)
theorem zfO {next:St} {b:Bool}:yg m tm b next Q ⟨⟩ ⟨⟩ .normal σ=(b=false/\JP m ⟨[],σ.bx,σ.nx,σ.lg⟩ (next.wt [])):=(rfl)
theorem yW {next:St} {b:Bool}:yg m tm b next Q ⟨⟩ ⟨⟩ .ret σ=(b=true/\∃ σ':St,σ'.bx.length=m/\JP m ⟨[],σ.bx,σ.nx,σ.lg⟩ (σ'.wt [])/\Q .ret (σ'.wt tm)):=(rfl)
theorem zrP {tm2:List (Nat×C)}:St.wt ⟨tm,bx,nx,lg⟩ tm2=⟨tm2,bx,nx,lg⟩:=(rfl)
theorem zjz {cs:List C}:Z3 [] cs tm=tm:=(rfl)
theorem zkN {u:Nat} {ps:List Tmp} {cs:List C}:Z3 (u :: ps) (c :: cs) tm=Z3 ps cs ((u,c) :: tm):=(rfl)
theorem zkV:kJ m [] = []:=(rfl)
theorem znD {u:Nat} {r:List (Nat×C)}:kJ m ((u,c) :: r)=(u,c.sel (Hq m)) :: kJ m r:=(rfl)
theorem zoV {next:St->Prop}:uH next Q ⟨⟩ ⟨⟩ .normal σ=next σ:=(rfl)
theorem yj {next:St->Prop} {id:Nat}:uH next Q ⟨⟩ ⟨⟩ (.exit id) σ=Q (.exit id) σ:=(rfl)
theorem zbL {next:St->Prop}:uH next Q ⟨⟩ ⟨⟩ .ret σ=Q .ret σ:=(rfl)
theorem zfY {id:Nat}:UJ id Q ⟨⟩ .normal σ=Q .normal σ:=(rfl)
theorem MU {id:Nat}:UJ id Q ⟨⟩ (.exit id) σ=Q .normal σ:=(show MS id Q (.exit id) σ=Q .normal σ from if_pos rfl)
theorem MC {id id2:Nat} (h:(id2==id)=false):UJ id Q ⟨⟩ (.exit id2) σ=Q (.exit id2) σ:=(show MS id Q (.exit id2) σ=Q (.exit id2) σ from if_neg (by simpa using h))
theorem yI {id:Nat}:UJ id Q ⟨⟩ .ret σ=Q .ret σ:=(rfl)
theorem zaA:H8 Q ⟨⟩ .normal σ=Q .normal σ:=(rfl)
theorem Mw:H8 Q ⟨⟩ .ret σ=Q .ret σ:=(rfl)
theorem ziM {next:St->Prop}:uE next Q ⟨⟩ ⟨⟩ .normal σ=next σ:=(rfl)
theorem yv {next:St->Prop} {id:Nat}:uE next Q ⟨⟩ ⟨⟩ (.exit id) σ=Q (.exit id) σ:=(rfl)
theorem za7 {next:St->Prop}:uE next Q ⟨⟩ ⟨⟩ .ret σ=Q .ret σ:=(rfl)
theorem zlv {rs:List ResultVar}:Nz P rs K3 ⟨⟩ .normal σ=zak P σ rs (fun c=>K3 c σ) ⟨⟩:=(rfl)
theorem zmb {rs:List ResultVar}:Nz P rs K3 ⟨⟩ .ret σ=zak P σ rs (fun c=>K3 c σ) ⟨⟩:=(rfl)
theorem znl:zak P σ [] K ⟨⟩=K (.tup []):=(rfl)
theorem zoE {a:ResultVar}:zak P σ [a] K ⟨⟩=Yu P σ a K ⟨⟩:=(rfl)
theorem znJ {a b:ResultVar}:zak P σ [a,b] K ⟨⟩=Yu P σ a (fun c=>Yu P σ b (fun d=>K (.tup [c,d])) ⟨⟩) ⟨⟩:=(rfl)
theorem zoY {a b c1:ResultVar}:zak P σ [a,b,c1] K ⟨⟩=Yu P σ a (fun c=>Yu P σ b (fun d=>Yu P σ c1 (fun e=>K (.tup [c,d,e])) ⟨⟩) ⟨⟩) ⟨⟩:=(rfl)
theorem zoQ {u:Nat}:Yu P ⟨tm,bx,nx,lg⟩ (.tmp u) K ⟨⟩=K (jQ tm u):=(rfl)
theorem zpf {u:Nat}:Yu P ⟨tm,bx,nx,lg⟩ (.cell u t) K ⟨⟩=uU P t (jQ tm u) bx K ⟨⟩:=(rfl)
theorem zmS {KS:St->Prop}:zeH P G h ops [] σ KS ⟨⟩ ⟨⟩ ⟨⟩ ⟨⟩=KS σ:=(rfl)
theorem zok {KS:St->Prop} {dst:Option Tmp} {op:Op} {ty:TypeId} {pos:String} {af:Array Edge} {g:Option (Nat×Bool)} {rest:List Oper}:zeH P G h ops (⟨dst,op,ty,pos,af,g⟩ :: rest) ⟨tm,bx,nx,lg⟩ KS ⟨⟩ ⟨⟩ ⟨⟩ ⟨⟩=Xm ops tm g (jK P G h op ⟨tm,bx,nx,lg⟩ (fun c σ'=>zeH P G h ops rest (σ'.put dst c) KS ⟨⟩ ⟨⟩ ⟨⟩ ⟨⟩) ⟨⟩ ⟨⟩ ⟨⟩) (zeH P G h ops rest (St.put ⟨tm,bx,nx,lg⟩ dst (.sc undef)) KS ⟨⟩ ⟨⟩ ⟨⟩ ⟨⟩) ⟨⟩ ⟨⟩ ⟨⟩:=(rfl)
theorem zjI {KS:St->Prop}:XE P G h ops [] brs σ KS ⟨⟩ ⟨⟩ ⟨⟩ ⟨⟩=KS σ:=(rfl)
theorem zhe {KS:St->Prop} {dst:Option Tmp} {op:Op} {ty:TypeId} {pos:String} {af:Array Edge} {g:Option (Nat×Bool)} {rest:List Oper}:XE P G h ops (⟨dst,op,ty,pos,af,g⟩ :: rest) [] ⟨tm,bx,nx,lg⟩ KS ⟨⟩ ⟨⟩ ⟨⟩ ⟨⟩=Xm ops tm g (jE P G bx (zC G tm) op nx (fun c nx'=>XE P G h ops rest [] ⟨Jx tm dst c,bx,nx',lg⟩ KS ⟨⟩ ⟨⟩ ⟨⟩ ⟨⟩) ⟨⟩ ⟨⟩ ⟨⟩) (XE P G h ops rest [] ⟨Jx tm dst (.sc undef),bx,nx,lg⟩ KS ⟨⟩ ⟨⟩ ⟨⟩ ⟨⟩) ⟨⟩ ⟨⟩ ⟨⟩:=(rfl)
theorem zgW {KS:St->Prop} {dst:Option Tmp} {op:Op} {ty:TypeId} {pos:String} {af:Array Edge} {g:Option (Nat×Bool)} {rest:List Oper}:XE P G h ops (⟨dst,op,ty,pos,af,g⟩ :: rest) (false :: brs) ⟨tm,bx,nx,lg⟩ KS ⟨⟩ ⟨⟩ ⟨⟩ ⟨⟩=Xm ops tm g (jE P G bx (zC G tm) op nx (fun c nx'=>XE P G h ops rest brs ⟨Jx tm dst c,bx,nx',lg⟩ KS ⟨⟩ ⟨⟩ ⟨⟩ ⟨⟩) ⟨⟩ ⟨⟩ ⟨⟩) (XE P G h ops rest brs ⟨Jx tm dst (.sc undef),bx,nx,lg⟩ KS ⟨⟩ ⟨⟩ ⟨⟩ ⟨⟩) ⟨⟩ ⟨⟩ ⟨⟩:=(rfl)
theorem zi6 {KS:St->Prop} {dst:Option Tmp} {op:Op} {ty:TypeId} {pos:String} {af:Array Edge} {g:Option (Nat×Bool)} {rest:List Oper}:XE P G h ops (⟨dst,op,ty,pos,af,g⟩ :: rest) (true :: brs) ⟨tm,bx,nx,lg⟩ KS ⟨⟩ ⟨⟩ ⟨⟩ ⟨⟩=Xm ops tm g (jK P G h op ⟨tm,bx,nx,lg⟩ (fun c σ'=>XE P G h ops rest brs (σ'.put dst c) KS ⟨⟩ ⟨⟩ ⟨⟩ ⟨⟩) ⟨⟩ ⟨⟩ ⟨⟩) (XE P G h ops rest brs ⟨Jx tm dst (.sc undef),bx,nx,lg⟩ KS ⟨⟩ ⟨⟩ ⟨⟩ ⟨⟩) ⟨⟩ ⟨⟩ ⟨⟩:=(rfl)
theorem zgH:Xm ops tm none X Y ⟨⟩ ⟨⟩ ⟨⟩=X:=(rfl)
theorem zkr {l:List Oper} {j:Nat} {want:Bool}:Xm l.toArray tm (some (j,want)) X Y ⟨⟩ ⟨⟩ ⟨⟩=zq9 ((l[j]?).bind (·.dst)) tm want X Y ⟨⟩ ⟨⟩:=(show ju l.toArray tm (some (j,want)) X Y=aGd ((l[j]?).bind (·.dst)) tm want X Y from by simp only[ju,List.getElem?_toArray];rfl)
theorem znO {u:Tmp}:zq9 (some u) tm true X Y ⟨⟩ ⟨⟩=zgU (jQ tm u) Y X Y ⟨⟩ ⟨⟩ ⟨⟩:=(rfl)
theorem zoJ {u:Tmp}:zq9 (some u) tm false X Y ⟨⟩ ⟨⟩=zgU (jQ tm u) Y Y X ⟨⟩ ⟨⟩ ⟨⟩:=(rfl)
theorem zmw {U:Prop} {b:Bool}:zgU (.sc (.bool b)) U X Y ⟨⟩ ⟨⟩ ⟨⟩=zlp (.sc (.bool b)) X Y ⟨⟩ ⟨⟩:=(rfl)
theorem zl7 {U:Prop}:zgU (.sc undef) U X Y ⟨⟩ ⟨⟩ ⟨⟩=U:=(rfl)
theorem zaU {u:Tmp}:St.put ⟨tm,bx,nx,lg⟩ (some u) c=⟨(u,c) :: tm,bx,nx,lg⟩:=(rfl)
theorem zay:St.put ⟨tm,bx,nx,lg⟩ none c=⟨tm,bx,nx,lg⟩:=(rfl)
theorem x7 {u:Tmp}:Jx tm (some u) c=(u,c) :: tm:=(rfl)
theorem y8:Jx tm none c=tm:=(rfl)
theorem kV {n:Nat} {ps:List (Nat×Operand)}:jK P G h (.buildSlice t n ps.toArray) ⟨tm,bx,nx,lg⟩ K3 ⟨⟩ ⟨⟩ ⟨⟩=if h.bx t then Hi P t n (ps.map fun p=>(p.1,zC G tm p.2)) ⟨tm,bx,nx,lg⟩ K3 ⟨⟩ else X0 P t n (ps.map fun p=>(p.1,zC G tm p.2)) nx (fun c nx'=>K3 c ⟨tm,bx,nx',lg⟩) ⟨⟩:=(rfl)
theorem k8 {n:Nat} {ps:List (Nat×Operand)} {ev:Operand->C}:jE P G bx ev (.buildSlice t n ps.toArray) nx K2 ⟨⟩ ⟨⟩ ⟨⟩=Gw P t n (ps.map fun p=>(p.1,ev p.2)) nx K2 ⟨⟩:=(rfl)
theorem zqm:Gw P t 0 [] nx K2 ⟨⟩=zoq P (lay P t) nx K2 ⟨⟩:=(rfl)
theorem zqi {n:Nat} {ps:List (Nat×C)}:Gw P t (n+1) ps nx K2 ⟨⟩=X0 P t (n+1) ps nx K2 ⟨⟩:=(rfl)
theorem zqP {e s b:Nat} {z1:Option (List Value)}:zoq P (some ⟨.slice e,s,b,z1⟩) nx K2 ⟨⟩=zox (lay P e) nx K2 ⟨⟩:=(rfl)
theorem zqD {kd:LK} {k b:Nat} {z1:List Value}:zox (some ⟨kd,k,b,some z1⟩) nx K2 ⟨⟩=(z1.length=k/\0<k/\K2 (.tight k []) nx):=(rfl)
theorem GM:jK P G h (.makeSlice t x y) ⟨tm,bx,nx,lg⟩ K3 ⟨⟩ ⟨⟩ ⟨⟩=if h.bx t then xg P t (zC G tm x) (zC G tm y) ⟨tm,bx,nx,lg⟩ K3 ⟨⟩ else zki P t (zC G tm x) (zC G tm y) nx (fun c nx'=>K3 c ⟨tm,bx,nx',lg⟩) ⟨⟩:=(rfl)
theorem zpG:Hd.bx ⟨p,yd,bf⟩ t=(bf (1000000+t)).headD false:=(rfl)
theorem zlq:Hd.bx2 ⟨p,yd,bf⟩ t=((bf (1000000+t)).drop 1).headD false:=(rfl)
theorem zhc:jK P G h (.move x) ⟨tm,bx,nx,lg⟩ K3 ⟨⟩ ⟨⟩ ⟨⟩=K3 (zC G tm x) ⟨tm,bx,nx,lg⟩:=(rfl)
theorem zg4 {ev:Operand->C}:jE P G bx ev (.move x) nx K2 ⟨⟩ ⟨⟩ ⟨⟩=K2 (ev x) nx:=(rfl)
theorem zat:jK P G h (.assign x) ⟨tm,bx,nx,lg⟩ K3 ⟨⟩ ⟨⟩ ⟨⟩=K3 (zC G tm x) ⟨tm,bx,nx,lg⟩:=(rfl)
theorem zbZ {ev:Operand->C}:jE P G bx ev (.assign x) nx K2 ⟨⟩ ⟨⟩ ⟨⟩=K2 (ev x) nx:=(rfl)
theorem zju:jK P G h (.pick x y z) ⟨tm,bx,nx,lg⟩ K3 ⟨⟩ ⟨⟩ ⟨⟩=zlp (zC G tm x) (K3 (zC G tm y) ⟨tm,bx,nx,lg⟩) (K3 (zC G tm z) ⟨tm,bx,nx,lg⟩) ⟨⟩ ⟨⟩:=(rfl)
theorem zjJ {ev:Operand->C}:jE P G bx ev (.pick x y z) nx K2 ⟨⟩ ⟨⟩ ⟨⟩=zlp (ev x) (K2 (ev y) nx) (K2 (ev z) nx) ⟨⟩ ⟨⟩:=(rfl)
theorem zd7 {ps:List (Nat×Operand)}:jK P G h (.build t ps.toArray) ⟨tm,bx,nx,lg⟩ K3 ⟨⟩ ⟨⟩ ⟨⟩=xY P t (ps.map fun p=>(p.1,zC G tm p.2)) (fun c=>K3 c ⟨tm,bx,nx,lg⟩) ⟨⟩:=(rfl)
theorem zea {ps:List (Nat×Operand)} {ev:Operand->C}:jE P G bx ev (.build t ps.toArray) nx K2 ⟨⟩ ⟨⟩ ⟨⟩=xY P t (ps.map fun p=>(p.1,ev p.2)) (fun c=>K2 c nx) ⟨⟩:=(rfl)
theorem zhG:jK P G h (.load t x) ⟨tm,bx,nx,lg⟩ K3 ⟨⟩ ⟨⟩ ⟨⟩=uU P t (zC G tm x) bx (fun c=>K3 c ⟨tm,bx,nx,lg⟩) ⟨⟩:=(rfl)
theorem zjB {ev:Operand->C}:jE P G bx ev (.load t x) nx K2 ⟨⟩ ⟨⟩ ⟨⟩=uU P t (ev x) bx (fun c=>K2 c nx) ⟨⟩:=(rfl)
theorem MX:jK P G h (.nilCheck x) ⟨tm,bx,nx,lg⟩ K3 ⟨⟩ ⟨⟩ ⟨⟩=zl0 (zC G tm x) (fun c=>K3 c ⟨tm,bx,nx,lg⟩) ⟨⟩:=(rfl)
theorem M3 {ev:Operand->C}:jE P G bx ev (.nilCheck x) nx K2 ⟨⟩ ⟨⟩ ⟨⟩=zl0 (ev x) (fun c=>K2 c nx) ⟨⟩:=(rfl)
theorem zcQ {op:BinOp}:jK P G h (.binOp op t x y t') ⟨tm,bx,nx,lg⟩ K3 ⟨⟩ ⟨⟩ ⟨⟩=N1 P t op (zC G tm x) (zC G tm y) (fun c=>K3 c ⟨tm,bx,nx,lg⟩) ⟨⟩:=(rfl)
theorem zdi {op:BinOp} {ev:Operand->C}:jE P G bx ev (.binOp op t x y t') nx K2 ⟨⟩ ⟨⟩ ⟨⟩=N1 P t op (ev x) (ev y) (fun c=>K2 c nx) ⟨⟩:=(rfl)
theorem ziG {op:UnOp}:jK P G h (.unOp op t x) ⟨tm,bx,nx,lg⟩ K3 ⟨⟩ ⟨⟩ ⟨⟩=zqS op (zC G tm x) (fun c=>K3 c ⟨tm,bx,nx,lg⟩) ⟨⟩:=(rfl)
theorem zi1 {op:UnOp} {ev:Operand->C}:jE P G bx ev (.unOp op t x) nx K2 ⟨⟩ ⟨⟩ ⟨⟩=zqS op (ev x) (fun c=>K2 c nx) ⟨⟩:=(rfl)
theorem xP:jK P G h (.convert t t' x) ⟨tm,bx,nx,lg⟩ K3 ⟨⟩ ⟨⟩ ⟨⟩=zfJ P bx t t' (zC G tm x) (fun c=>K3 c ⟨tm,bx,nx,lg⟩) ⟨⟩:=(rfl)
theorem NQ {fn:Fn} {fs cs:List Operand}:jK P G h (.makeFunc fn fs.toArray cs.toArray) ⟨tm,bx,nx,lg⟩ K3 ⟨⟩ ⟨⟩ ⟨⟩=K3 (.clo fn (fs.map (zC G tm)) (cs.map (zC G tm))) ⟨tm,bx,nx,lg⟩:=(rfl)
theorem zd4 {lo hi mx:Option Operand}:jK P G h (.slice t x lo hi mx) ⟨tm,bx,nx,lg⟩ K3 ⟨⟩ ⟨⟩ ⟨⟩=vF P t (zC G tm x) (lo.map (zC G tm)) (hi.map (zC G tm)) (mx.map (zC G tm)) (fun c=>K3 c ⟨tm,bx,nx,lg⟩) ⟨⟩:=(rfl)
theorem zgh {lo hi mx:Option Operand} {ev:Operand->C}:jE P G bx ev (.slice t x lo hi mx) nx K2 ⟨⟩ ⟨⟩ ⟨⟩=vF P t (ev x) (lo.map ev) (hi.map ev) (mx.map ev) (fun c=>K2 c nx) ⟨⟩:=(rfl)
theorem GI {f:Nat}:jK P G h (.fieldAddr t x f) ⟨tm,bx,nx,lg⟩ K3 ⟨⟩ ⟨⟩ ⟨⟩=QR P t (zC G tm x) f (fun c=>K3 c ⟨tm,bx,nx,lg⟩) ⟨⟩:=(rfl)
theorem H9 {f:Nat} {ev:Operand->C}:jE P G bx ev (.fieldAddr t x f) nx K2 ⟨⟩ ⟨⟩ ⟨⟩=QR P t (ev x) f (fun c=>K2 c nx) ⟨⟩:=(rfl)
theorem zf3 {f:Nat}:jK P G h (.field t x f) ⟨tm,bx,nx,lg⟩ K3 ⟨⟩ ⟨⟩ ⟨⟩=vG P t (zC G tm x) f (fun c=>K3 c ⟨tm,bx,nx,lg⟩) ⟨⟩:=(rfl)
theorem zc0 {f:Nat} {ev:Operand->C}:jE P G bx ev (.field t x f) nx K2 ⟨⟩ ⟨⟩ ⟨⟩=vG P t (ev x) f (fun c=>K2 c nx) ⟨⟩:=(rfl)
theorem GW:jK P G h (.indexAddr t x y) ⟨tm,bx,nx,lg⟩ K3 ⟨⟩ ⟨⟩ ⟨⟩=QG P t (zC G tm x) (zC G tm y) (fun c=>K3 c ⟨tm,bx,nx,lg⟩) ⟨⟩:=(rfl)
theorem Nl {ev:Operand->C}:jE P G bx ev (.indexAddr t x y) nx K2 ⟨⟩ ⟨⟩ ⟨⟩=QG P t (ev x) (ev y) (fun c=>K2 c nx) ⟨⟩:=(rfl)
theorem zf5:jK P G h (.index t x y) ⟨tm,bx,nx,lg⟩ K3 ⟨⟩ ⟨⟩ ⟨⟩=vB P t (zC G tm x) (zC G tm y) (fun c=>K3 c ⟨tm,bx,nx,lg⟩) ⟨⟩:=(rfl)
theorem zfp {ev:Operand->C}:jE P G bx ev (.index t x y) nx K2 ⟨⟩ ⟨⟩ ⟨⟩=vB P t (ev x) (ev y) (fun c=>K2 c nx) ⟨⟩:=(rfl)
theorem xW {i:Nat}:jK P G h (.extract x i) ⟨tm,bx,nx,lg⟩ K3 ⟨⟩ ⟨⟩ ⟨⟩=Uh (zC G tm x) i (fun c=>K3 c ⟨tm,bx,nx,lg⟩) ⟨⟩:=(rfl)
theorem xT {i:Nat} {ev:Operand->C}:jE P G bx ev (.extract x i) nx K2 ⟨⟩ ⟨⟩ ⟨⟩=Uh (ev x) i (fun c=>K2 c nx) ⟨⟩:=(rfl)
theorem zdy {us:List Operand} {ts:List TypeId}:jK P G h (.call ⟨.value x,us.toArray,ts.toArray⟩) ⟨tm,bx,nx,lg⟩ K3 ⟨⟩ ⟨⟩ ⟨⟩=vk P G h (zC G tm x) (us.map (zC G tm)) ⟨tm,bx,nx,lg⟩ K3 ⟨⟩ ⟨⟩:=(rfl)
theorem zdH {us:List Operand} {ts:List TypeId} {ev:Operand->C}:jE P G bx ev (.call ⟨.value x,us.toArray,ts.toArray⟩) nx K2 ⟨⟩ ⟨⟩ ⟨⟩=ze1 P G (ev x) (us.map ev) nx K2 ⟨⟩:=(rfl)
theorem zmf:jK P G h (.call ⟨.builtin .len,#[x],#[t]⟩) ⟨tm,bx,nx,lg⟩ K3 ⟨⟩ ⟨⟩ ⟨⟩=yb P t (zC G tm x) (fun c=>K3 c ⟨tm,bx,nx,lg⟩) ⟨⟩:=(rfl)
theorem zmz {ev:Operand->C}:jE P G bx ev (.call ⟨.builtin .len,#[x],#[t]⟩) nx K2 ⟨⟩ ⟨⟩ ⟨⟩=yb P t (ev x) (fun c=>K2 c nx) ⟨⟩:=(rfl)
theorem xU {r:Option Operand}:jK P G h (.makeMap t r) ⟨tm,bx,nx,lg⟩ K3 ⟨⟩ ⟨⟩ ⟨⟩=zne (zgG P t) t (r.map (zC G tm)) nx (fun c nx'=>K3 c ⟨tm,bx,nx',lg⟩) ⟨⟩:=(rfl)
theorem zoN {kd:MKd} {z:C}:zne (some (kd,z)) t none nx K2 ⟨⟩=K2 (.mo nx t kd.nil []) (nx+1):=(rfl)
theorem zmm {k:IntKind}:MKd.nil (.int k) = .int k []:=(rfl)
theorem zbr {ok:Bool} {ev:Operand->C}:jE P G bx ev (.lookup t x y ok) nx K2 ⟨⟩ ⟨⟩ ⟨⟩=zps (zgG P t) t (ev x) (ev y) ok (fun c=>K2 c nx) ⟨⟩:=(rfl)
theorem znR {k k2 q:IntKind} {z:C} {id:Nat} {t2:TypeId} {l:List Int} {vs:List C} {n:Int} {ok:Bool}:zps (some (.int k,z)) t (.mo id t2 (.int k2 l) vs) (.sc (.int q n)) ok K ⟨⟩=(t2=t/\k2=k/\q=k/\zfZ (u9 n l vs) z ok K ⟨⟩):=(rfl)
theorem zjs {z:C}:zfZ (some c) z false K ⟨⟩=K c:=(rfl)
theorem zaE {w:Operand}:jK P G h (.insert t x y w) ⟨tm,bx,nx,lg⟩ K3 ⟨⟩ ⟨⟩ ⟨⟩=zoC (zgG P t) t (zC G tm x) (zC G tm y) (zC G tm w) ⟨tm,bx,nx,lg⟩ K3 ⟨⟩:=(rfl)
theorem zoO {k k2 q:IntKind} {z:C} {id:Nat} {t2:TypeId} {l:List Int} {vs:List C} {n:Int}:zoC (some (.int k,z)) t (.mo id t2 (.int k2 l) vs) (.sc (.int q n)) d ⟨tm,bx,nx,lg⟩ K3 ⟨⟩=(t2=t/\k2=k/\q=k/\K3 .any ⟨zgF id (.int k (kR n d.frz l vs).1) (kR n d.frz l vs).2 tm,zf6 id (.int k (kR n d.frz l vs).1) (kR n d.frz l vs).2 bx,nx,lg⟩):=(rfl)
theorem zbT:jK P G h (.call ⟨.builtin .append,#[x,y],#[t,t]⟩) ⟨tm,bx,nx,lg⟩ K3 ⟨⟩ ⟨⟩ ⟨⟩=if h.bx t then if h.bx2 t then yZ P t (zC G tm x) (zC G tm y) ⟨tm,bx,nx,lg⟩ K3 ⟨⟩ else un P h.p t (zC G tm x) (zC G tm y) ⟨tm,bx,nx,lg⟩ K3 ⟨⟩ else HZ P t (zC G tm x) (zC G tm y) ⟨tm,bx,nx,lg⟩ K3 ⟨⟩:=(show Ns P G h (.call ⟨.builtin .append,#[x,y],#[t,t]⟩) ⟨tm,bx,nx,lg⟩ K3=if h.bx t then if h.bx2 t then Yv P t (zC G tm x) (zC G tm y) ⟨tm,bx,nx,lg⟩ K3 else UP P h.p t (zC G tm x) (zC G tm y) ⟨tm,bx,nx,lg⟩ K3 else GP P t (zC G tm x) (zC G tm y) ⟨tm,bx,nx,lg⟩ K3 from by simp[Ns,xD])
theorem zhR (h0:(t'==t)=false):jK P G h (.call ⟨.builtin .append,#[x,y],#[t,t']⟩) ⟨tm,bx,nx,lg⟩ K3 ⟨⟩ ⟨⟩ ⟨⟩=vN P t t' (zC G tm x) (zC G tm y) ⟨tm,bx,nx,lg⟩ K3 ⟨⟩:=(show Ns P G h (.call ⟨.builtin .append,#[x,y],#[t,t']⟩) ⟨tm,bx,nx,lg⟩ K3=GU P t t' (zC G tm x) (zC G tm y) ⟨tm,bx,nx,lg⟩ K3 from by simp only[beq_eq_false_iff_ne]at h0;simp[Ns,xD,h0])
theorem ziL:jK P G h (.call ⟨.builtin .copy,#[x,y],#[t,t']⟩) ⟨tm,bx,nx,lg⟩ K3 ⟨⟩ ⟨⟩ ⟨⟩=NL P t (zC G tm x) (zC G tm y) ⟨tm,bx,nx,lg⟩ K3 ⟨⟩:=(show Ns P G h (.call ⟨.builtin .copy,#[x,y],#[t,t']⟩) ⟨tm,bx,nx,lg⟩ K3=QN P t (zC G tm x) (zC G tm y) ⟨tm,bx,nx,lg⟩ K3 from by simp[Ns,xD])
theorem zeM:jK P G h (.call ⟨.builtin .clear,#[x],#[t]⟩) ⟨tm,bx,nx,lg⟩ K3 ⟨⟩ ⟨⟩ ⟨⟩=vo P t (zC G tm x) ⟨tm,bx,nx,lg⟩ K3 ⟨⟩:=(show Ns P G h (.call ⟨.builtin .clear,#[x],#[t]⟩) ⟨tm,bx,nx,lg⟩ K3=kf P t (zC G tm x) ⟨tm,bx,nx,lg⟩ K3 from by simp[Ns,xD])
theorem zmX:jK P G h (.call ⟨.builtin .max,#[x,y],#[t,t']⟩) ⟨tm,bx,nx,lg⟩ K3 ⟨⟩ ⟨⟩ ⟨⟩=zpq (zC G tm x) (zC G tm y) (fun c=>K3 c ⟨tm,bx,nx,lg⟩) ⟨⟩:=(rfl)
theorem zrh {k k':IntKind} {n m:Int}:zpq (.sc (.int k n)) (.sc (.int k' m)) K ⟨⟩=K (.sc (.int k (if m>n then m else n))):=(rfl)
theorem zln:jK P G h (.call ⟨.builtin .cap,#[x],#[t]⟩) ⟨tm,bx,nx,lg⟩ K3 ⟨⟩ ⟨⟩ ⟨⟩=zng P t (zC G tm x) (fun c=>K3 c ⟨tm,bx,nx,lg⟩) ⟨⟩:=(show Ns P G h (.call ⟨.builtin .cap,#[x],#[t]⟩) ⟨tm,bx,nx,lg⟩ K3=zoX P t (zC G tm x) fun c=>K3 c ⟨tm,bx,nx,lg⟩ from by simp[Ns,xD])
theorem zp2:zng P t c K ⟨⟩=zei (lay P t) c K ⟨⟩:=(rfl)
theorem zgM {i off k n cap:Nat} {e s1 b1:Nat} {z1:Option (List Value)}:zei (some ⟨.slice e,s1,b1,z1⟩) (.bs i off k n cap) K ⟨⟩=K (.sc (.int .i64 (cap:Int))):=(rfl)
theorem zev {e s1 b1:Nat} {z1:Option (List Value)}:zei (some ⟨.slice e,s1,b1,z1⟩) (.sc (.slice none 0 0)) K ⟨⟩=K (.sc (.int .i64 0)):=(rfl)
theorem zam {ev:Operand->C}:jE P G bx ev (.call ⟨.builtin .append,#[x,y],#[t,t]⟩) nx K2 ⟨⟩ ⟨⟩ ⟨⟩=GK P t (ev x) (ev y) nx K2 ⟨⟩:=(show Ju P G bx ev (.call ⟨.builtin .append,#[x,y],#[t,t]⟩) nx K2=ZV P t (ev x) (ev y) nx K2 from by simp[Ju,NU,UM])
theorem zdQ:jK P G h (.alloc t) ⟨tm,bx,nx,lg⟩ K3 ⟨⟩ ⟨⟩ ⟨⟩=zom (lay P t) ⟨tm,bx,nx,lg⟩ K3 ⟨⟩:=(rfl)
theorem zkU:jK P G h (.box t x) ⟨tm,bx,nx,lg⟩ K3 ⟨⟩ ⟨⟩ ⟨⟩=znp (zC G tm x) ⟨tm,bx,nx,lg⟩ K3 ⟨⟩:=(rfl)
theorem zdK:jK P G h (.store t x y) ⟨tm,bx,nx,lg⟩ K3 ⟨⟩ ⟨⟩ ⟨⟩=zol (lay P t) (zC G tm x) (zC G tm y) ⟨tm,bx,nx,lg⟩ K3 ⟨⟩:=(rfl)
theorem zh8 {u:Tmp}:zC G tm (.tmp u)=jQ tm u:=(rfl)
theorem zaG {v:Value}:zC G tm (.const v)=zE v:=(rfl)
theorem zel {f:FuncId}:zC G tm (.func f) = .clo (.func f) [] []:=(rfl)
theorem vt {g:Nat}:zC G tm (.global g)=zro (G g):=(rfl)
theorem xK {cs:List C}:zro (some cs) = .row cs:=(rfl)
theorem zoj {u v:Nat} {r:List (Nat×C)}:jQ ((u,c) :: r) v=if v=u then c else jQ r v:=(rfl)
theorem vy {k:IntKind} {n:Int}:zE (.int k n) = .sc (.int k n):=(rfl)
theorem NR {b:Bool}:zE (.bool b) = .sc (.bool b):=(rfl)
theorem y5 {l:List UInt8}:zE (.string ⟨l.toArray⟩) = .str l:=(rfl)
theorem Gt {a:Option Addr} {n m:Nat}:zE (.slice a n m) = .sc (.slice a n m):=(rfl)
theorem ve {a:Option Nat}:zE (.map a) = .sc (.map a):=(rfl)
theorem NP:zE .nilFunc = .sc .nilFunc:=(rfl)
theorem zfo {op:BinOp} {k:IntKind} {a b:Int}:N1 P t op (.sc (.int k a)) (.sc (.int k b)) K ⟨⟩=UY op k a b K ⟨⟩:=(show zna P t op (.sc (.int k a)) (.sc (.int k b)) K=zpZ op k a b K from by simp[zna])
theorem zcY {op:BinOp} {a b:List UInt8}:N1 P t op (.str a) (.str b) K ⟨⟩=zbp op a b K ⟨⟩:=(rfl)
theorem zcg {op:BinOp} {a b:Bool}:N1 P t op (.sc (.bool a)) (.sc (.bool b)) K ⟨⟩=zgo (lay P t) op a b K ⟨⟩:=(rfl)
theorem zgz {op:BinOp} {cs ds:List C}:N1 P t op (.agg cs) (.agg ds) K ⟨⟩=zlQ op (kK P t) cs ds K ⟨⟩:=(rfl)
theorem N5 {op:BinOp} {k:Nat} {rows:List (List C)}:N1 P t op (.sl k rows) (.sc (.slice none 0 0)) K ⟨⟩=uf (lay P t) op (.sl k rows) K ⟨⟩:=(rfl)
theorem zfq {op:BinOp} {e0:TypeId} {k0 b0:Nat} {z0:Option (List Value)} {k:Nat} {rows:List (List C)}:uf (some ⟨.slice e0,k0,b0,z0⟩) op (.sl k rows) K ⟨⟩=(rows≠[]/\zf0 op false K ⟨⟩):=(rfl)
theorem M2 {op:BinOp} {a:Option Addr} {n cap:Nat}:N1 P t op (.sc (.slice a n cap)) (.sc (.slice none 0 0)) K ⟨⟩=uf (lay P t) op (.sc (.slice a n cap)) K ⟨⟩:=(rfl)
theorem zfh {op:BinOp} {e0:TypeId} {k0 b0:Nat} {z0:Option (List Value)} {a:Option Addr} {n cap:Nat}:uf (some ⟨.slice e0,k0,b0,z0⟩) op (.sc (.slice a n cap)) K ⟨⟩=zf0 op a.isNone K ⟨⟩:=(rfl)
theorem zbX {b:Bool}:zf0 .eql b K ⟨⟩=K (.sc (.bool b)):=(rfl)
theorem ze4 {lk:List LK} {cs ds:List C}:zlQ .eql (some lk) cs ds K ⟨⟩=zgC false lk cs ds true K ⟨⟩:=(rfl)
theorem zdc {lk:List LK} {cs ds:List C}:zlQ .neq (some lk) cs ds K ⟨⟩=zgC true lk cs ds true K ⟨⟩:=(rfl)
theorem zgX {e:Bool}:zgC false [] [] [] e K ⟨⟩=K (.sc (.bool e)):=(rfl)
theorem zbD {e:Bool}:zgC true [] [] [] e K ⟨⟩=K (.sc (.bool (!e))):=(rfl)
theorem zgZ {n e:Bool} {lk:List LK} {k k1 k2:IntKind} {a b:Int} {cs ds:List C}:zgC n (.int k :: lk) (.sc (.int k1 a) :: cs) (.sc (.int k2 b) :: ds) e K ⟨⟩=(k1=k/\k2=k/\zgC n lk cs ds (e&&decide (a=b)) K ⟨⟩):=(rfl)
theorem zgn {n e:Bool} {lk:List LK} {a b:Bool} {cs ds:List C}:zgC n (.bool :: lk) (.sc (.bool a) :: cs) (.sc (.bool b) :: ds) e K ⟨⟩=zgC n lk cs ds (e&&(a==b)) K ⟨⟩:=(rfl)
theorem ziw {n e:Bool} {lk:List LK} {a b:List UInt8} {cs ds:List C}:zgC n (.str :: lk) (.str a :: cs) (.str b :: ds) e K ⟨⟩=zgC n lk cs ds (e&&decide (a=b)) K ⟨⟩:=(rfl)
theorem zmI {op:BinOp} {a b:Bool} {s b1:Nat} {z1:Option (List Value)}:zgo (some ⟨.bool,s,b1,z1⟩) op a b K ⟨⟩=zjO op a b K ⟨⟩:=(rfl)
theorem zcx {k:IntKind} {a b:Int}:UY .add k a b K ⟨⟩=(inR k (a+b)/\K (.sc (.int k (a+b)))):=(rfl)
theorem zcy {k:IntKind} {a b:Int}:UY .sub k a b K ⟨⟩=(inR k (a-b)/\K (.sc (.int k (a-b)))):=(rfl)
theorem zdP {k:IntKind} {a b:Int}:UY .rem k a b K ⟨⟩=(0<=a/\0<b/\K (.sc (.int k (a % b)))):=(rfl)
theorem zgi {k:IntKind} {a b:Int}:UY .shr k a b K ⟨⟩=(b=1/\K (.sc (.int k (a / 2)))):=(rfl)
theorem zfu {k:IntKind} {a b:Int}:UY .eql k a b K ⟨⟩=(K (.sc (.bool (decide (a=b))))):=(rfl)
theorem zc8 {k:IntKind} {a b:Int}:UY .neq k a b K ⟨⟩=(K (.sc (.bool (!decide (a=b))))):=(rfl)
theorem zgs {k:IntKind} {a b:Int}:UY .lss k a b K ⟨⟩=(K (.sc (.bool (decide (a<b))))):=(rfl)
theorem zdt {k:IntKind} {a b:Int}:UY .leq k a b K ⟨⟩=(K (.sc (.bool (decide (a<=b))))):=(rfl)
theorem zfc {k:IntKind} {a b:Int}:UY .gtr k a b K ⟨⟩=(K (.sc (.bool (decide (b<a))))):=(rfl)
theorem zeY {k:IntKind} {a b:Int}:UY .geq k a b K ⟨⟩=(K (.sc (.bool (decide (b<=a))))):=(rfl)
theorem zeI {a b:List UInt8}:zbp .add a b K ⟨⟩=(((a.length+b.length:Nat):Int)<=9223372036854775807/\K (.str (a++b))):=(rfl)
theorem zd6 {a b:List UInt8}:zbp .eql a b K ⟨⟩=(K (.sc (.bool (decide (a=b))))):=(rfl)
theorem zeQ {a b:List UInt8}:zbp .neq a b K ⟨⟩=(K (.sc (.bool (!decide (a=b))))):=(rfl)
theorem zfv {a b:List UInt8}:zbp .geq a b K ⟨⟩=(K (.sc (.bool (!Op.bytesLess a b)))):=(rfl)
theorem zdl {a b:List UInt8}:zbp .gtr a b K ⟨⟩=(K (.sc (.bool (!(Op.bytesLess a b||decide (a=b)))))):=(rfl)
theorem zb0 {a b:Bool}:zjO .eql a b K ⟨⟩=K (.sc (.bool (a==b))):=(rfl)
theorem zgP {b:Bool}:zqS .not (.sc (.bool b)) K ⟨⟩=K (.sc (.bool (!b))):=(rfl)
theorem zeN {cs:List C} {i:Nat}:Uh (.tup cs) i K ⟨⟩=zmo (cs[i]?) K ⟨⟩:=(rfl)
theorem zqj:zmo (some c) K ⟨⟩=K c:=(rfl)
theorem zf9 {i off:Nat}:zl0 (.ptr i off) K ⟨⟩=K (.ptr i off):=(rfl)
theorem zo9:uU P t c bx K ⟨⟩=yF (lay P t) c bx K ⟨⟩:=(rfl)
theorem zch {L:Lay} {i off:Nat}:yF (some L) (.ptr i off) bx K ⟨⟩=zdg (bx[i]?) off L K ⟨⟩:=(rfl)
theorem zca {L:Lay} {cs:List C}:yF (some L) (.row cs) bx K ⟨⟩=Vz L cs K ⟨⟩:=(rfl)
theorem zl8 {L:Lay} {off:Nat} {cs:List C}:zdg (some cs) off L K ⟨⟩=Vz L (cs.drop off) K ⟨⟩:=(rfl)
theorem Ge {fs:List (Nat×Nat×Bool)} {s b:Nat} {z1:Option (List Value)} {cs:List C}:Vz ⟨.struct fs,s,b,z1⟩ cs K ⟨⟩=(s<=cs.length/\K (.agg (cs.take s))):=(show Yj ⟨.struct fs,s,b,z1⟩ cs K=(s<=cs.length/\K (.agg (cs.take s))) from by simp[Yj,LK.agg])
theorem za6 {ik:IntKind} {s b:Nat} {z1:Option (List Value)} {r:List C}:Vz ⟨.int ik,s,b,z1⟩ (c :: r) K ⟨⟩=K c:=(show Yj ⟨.int ik,s,b,z1⟩ (c :: r) K=K c from by simp[Yj,LK.agg])
theorem vg {s b:Nat} {z1:Option (List Value)} {r:List C}:Vz ⟨.bool,s,b,z1⟩ (c :: r) K ⟨⟩=K c:=(show Yj ⟨.bool,s,b,z1⟩ (c :: r) K=K c from by simp[Yj,LK.agg])
theorem zbm {s b:Nat} {z1:Option (List Value)} {r:List C}:Vz ⟨.str,s,b,z1⟩ (c :: r) K ⟨⟩=K c:=(show Yj ⟨.str,s,b,z1⟩ (c :: r) K=K c from by simp[Yj,LK.agg])
theorem NW {e:TypeId} {s b:Nat} {z1:Option (List Value)} {r:List C}:Vz ⟨.slice e,s,b,z1⟩ (c :: r) K ⟨⟩=K c:=(show Yj ⟨.slice e,s,b,z1⟩ (c :: r) K=K c from by simp[Yj,LK.agg])
theorem N7 {s b:Nat} {z1:Option (List Value)} {r:List C}:Vz ⟨.other,s,b,z1⟩ (c :: r) K ⟨⟩=K c:=(show Yj ⟨.other,s,b,z1⟩ (c :: r) K=K c from by simp[Yj,LK.agg])
theorem zmh {f:Nat}:vG P t c f K ⟨⟩=uD (lay P t) c f K ⟨⟩:=(rfl)
theorem zin {fs:List (Nat×Nat×Bool)} {s b:Nat} {z1:Option (List Value)} {cs:List C} {f:Nat}:uD (some ⟨.struct fs,s,b,z1⟩) (.agg cs) f K ⟨⟩=ug (fs[f]?) cs K ⟨⟩:=(show yA (some ⟨.struct fs,s,b,z1⟩) (.agg cs) f K=kl (fs[f]?) cs K from by unfold yA kl;simp only[];cases fs[f]?<;>simp)
theorem zgj {off size:Nat} {cs:List C}:ug (some (off,size,false)) cs K ⟨⟩=zmo (cs[off]?) K ⟨⟩:=(show kl (some (off,size,false)) cs K=zp9 (cs[off]?) K from by unfold kl zp9;simp)
theorem zrV {f:Nat}:QR P t c f K ⟨⟩=zpC (lay P t) c f K ⟨⟩:=(rfl)
theorem zp4 {fs:List (Nat×Nat×Bool)} {s b:Nat} {z1:Option (List Value)} {f:Nat}:zpC (some ⟨.struct fs,s,b,z1⟩) c f K ⟨⟩=zl1 (fs[f]?) c K ⟨⟩:=(rfl)
theorem zg7 {off size i q:Nat} {g:Bool}:zl1 (some (off,size+1,g)) (.ptr i q) K ⟨⟩=K (.ptr i (q+off)):=(show zpj (some (off,size+1,g)) (.ptr i q) K=K (.ptr i (q+off)) from by simp[zpj])
theorem zhl {off size:Nat} {g:Bool} {cs:List C}:zl1 (some (off,size+1,g)) (.row cs) K ⟨⟩=K (.row (cs.drop off)):=(show zpj (some (off,size+1,g)) (.row cs) K=K (.row (cs.drop off)) from by simp[zpj])
theorem zrv:QG P t c d K ⟨⟩=zlG P (lay P t) c d K ⟨⟩:=(rfl)
theorem zaz {e s b:Nat} {z1:Option (List Value)} {k:IntKind} {n:Int}:zlG P (some ⟨.slice e,s,b,z1⟩) c (.sc (.int k n)) K ⟨⟩=zgV (lay P e) c n K ⟨⟩:=(rfl)
theorem zap {m e s b:Nat} {z1:Option (List Value)} {k:IntKind} {n:Int}:zlG P (some ⟨.array (m+1) e,s,b,z1⟩) c (.sc (.int k n)) K ⟨⟩=zod (lay P e) c m n K ⟨⟩:=(rfl)
theorem zdN {k:Nat} {rows:List (List C)} {L:Lay} {n:Int}:zgV (some L) (.sl k rows) n K ⟨⟩=zkw (C.rows? L.size (.sl k rows)) n K ⟨⟩:=(rfl)
theorem zfA {k:Nat} {rows:List (List C)} {L:Lay} {lo hi mx:Option Int}:zfb (some L) (.sl k rows) lo hi mx K ⟨⟩=zjd (C.rows? L.size (.sl k rows)) L.size lo hi mx K ⟨⟩:=(rfl)
theorem zbt {id e k:Nat} {rows:List (List C)} {L:Lay} {n:Int}:zgV (some L) (.own id e k rows) n K ⟨⟩=zkw (C.rows? L.size (.own id e k rows)) n K ⟨⟩:=(rfl)
theorem za2 {id e k:Nat} {rows:List (List C)} {L:Lay} {lo hi mx:Option Int}:zfb (some L) (.own id e k rows) lo hi mx K ⟨⟩=zjd (C.rows? L.size (.own id e k rows)) L.size lo hi mx K ⟨⟩:=(rfl)
theorem zb4 {L:Lay} {lo hi mx:Option Int}:zfb (some L) (.sc (.slice none 0 0)) lo hi mx K ⟨⟩=znU L.size lo hi mx K ⟨⟩:=(rfl)
theorem zrb {k:Nat} {lo hi:Option Int}:znU k lo hi none K ⟨⟩=(j5 0 lo hi/\K (.sc (.slice none 0 0))):=(rfl)
theorem zaR {v:Value} :zfJ P bx t t' (.sc v) K ⟨⟩=zj3 P t t' (.sc v) K ⟨⟩:=(rfl)
theorem zey {L:Lay} {n:Int} {j off k m1 cap:Nat}:zgV (some L) (.bs j off k m1 cap) n K ⟨⟩=(k=L.size/\0<=n/\n<(m1:Int)/\K (.ptr j (off+n.toNat*L.size))):=(rfl)
theorem zdF {L:Lay} {lo hi mx:Option Int} {i off k n cap:Nat}:zfb (some L) (.bs i off k n cap) lo hi mx K ⟨⟩=zdD L.size i off k n cap lo hi mx K ⟨⟩:=(rfl)
theorem zgO {b:Int} {sz i off k n cap:Nat}:zdD sz i off k n cap none (some b) none K ⟨⟩=(n<=cap/\(0<=b/\b<=(cap:Int))/\K (.bs i off k b.toNat cap)):=(rfl)
theorem zi5 {a:Int} {sz i off k n cap:Nat}:zdD sz i off k n cap (some a) none none K ⟨⟩=(sz=k/\n<=cap/\(0<=a/\a<=(n:Int))/\K (.bs i (off+a.toNat*k) k (n-a.toNat) (cap-a.toNat))):=(rfl)
theorem zi0 {a b:Int} {sz i off k n cap:Nat}:zdD sz i off k n cap (some a) (some b) none K ⟨⟩=(sz=k/\(0<=a/\a<=b/\b<=(cap:Int))/\K (.bs i (off+a.toNat*k) k (b.toNat-a.toNat) (cap-a.toNat))):=(rfl)
theorem zjC {a b m1:Int} {sz i off k n cap:Nat}:zdD sz i off k n cap (some a) (some b) (some m1) K ⟨⟩=(sz=k/\(0<=a/\a<=b/\b<=m1/\m1<=(cap:Int))/\K (.bs i (off+a.toNat*k) k (b.toNat-a.toNat) (m1.toNat-a.toNat))):=(rfl)
theorem zhF {i off k n cap:Nat}:yb P t (.bs i off k n cap) K ⟨⟩=N3 (lay P t) (n:Int) K ⟨⟩:=(rfl)
theorem zrS {n:Nat} {ps:List (Nat×C)}:Hi P t n ps ⟨tm,bx,nx,lg⟩ K3 ⟨⟩=zoK P (lay P t) n ps ⟨tm,bx,nx,lg⟩ K3 ⟨⟩:=(rfl)
theorem zra {e s b n:Nat} {z1:Option (List Value)} {ps:List (Nat×C)}:zoK P (some ⟨.slice e,s,b,z1⟩) n ps σ K3 ⟨⟩=zpp (lay P e) n ps σ K3 ⟨⟩:=(rfl)
theorem zq0 {kd:LK} {k b n:Nat} {z1:List Value} {ps:List (Nat×C)}:zpp (some ⟨kd,k,b,some z1⟩) n ps σ K3 ⟨⟩=(z1.length=k/\0<k/\n*k<=16777216/\(ps.all fun p=>p.2.frz.partB)=true/\zpF (YQ (plA k) (List.replicate n (z1.map zE)).flatten (ps.map fun p=>(p.1,p.2.frz))) k n σ K3 ⟨⟩):=(rfl)
theorem zqX {cs:List C} {k n:Nat}:zpF (some cs) k n ⟨tm,bx,nx,lg⟩ K3 ⟨⟩=((cs.all C.cellB)=true/\cs.length=n*k/\K3 (.bs bx.length 0 k n n) ⟨tm,bx++[cs],nx,lg⟩):=(rfl)
theorem zr5:un P p t c d ⟨tm,bx,nx,lg⟩ K3 ⟨⟩=zpJ P (lay P t) p c d ⟨tm,bx,nx,lg⟩ K3 ⟨⟩:=(rfl)
theorem zqH {e s b:Nat} {z1:Option (List Value)}:zpJ P (some ⟨.slice e,s,b,z1⟩) p c d σ K3 ⟨⟩=zoi (lay P e) p c d σ K3 ⟨⟩:=(rfl)
theorem zqd {kd:LK} {k b:Nat} {z1:List Value}:zoi (some ⟨kd,k,b,some z1⟩) p c d ⟨tm,bx,nx,lg⟩ K3 ⟨⟩=zpk (d.xs? k bx) p k b z1 c ⟨tm,bx,nx,lg⟩ K3 ⟨⟩:=(rfl)
theorem zmM {i off k k2 n cap:Nat}:C.xs? k bx (.bs i off k2 n cap)=xsB k2 k off n (bx[i]?):=(rfl)
theorem zo7 {k off n:Nat} {cs:List C}:xsB k k off n (some cs)=if off+n*k<=cs.length then some (n,(cs.drop off).take (n*k)) else none:=(show xsB k k off n (some cs)=if off+n*k<=cs.length then some (n,(cs.drop off).take (n*k)) else none from by simp[xsB])
theorem zlF {i:Nat} {cs:List C}:Zq i cs bx=(Nu (JZ i) some bx).set i cs:=(rfl)
theorem zkE {i j:Nat}:JZ i j=if j=i then none else some j:=(rfl)
theorem zht {i off k n cap:Nat}:C.frz (.bs i off k n cap) = .any:=(show C.frz (.bs i off k n cap) = .any from by rw[C.frz])
theorem zk8 {i off k n cap:Nat} {fp fo:Nat->Option Nat}:C.re fp fo (.bs i off k n cap)=bsO (fp i) off k n cap:=(show C.re fp fo (.bs i off k n cap)=bsO (fp i) off k n cap from by rw[C.re];rfl)
theorem zoA {j off k n cap:Nat}:bsO (some j) off k n cap = .bs j off k n cap:=(rfl)
theorem zoa {off k n cap:Nat}:bsO none off k n cap = .any:=(rfl)
theorem zbH {i off k n cap:Nat}:C.cellB (.bs i off k n cap)=true:=(rfl)
theorem zce {i off k n cap:Nat}:C.partB (.bs i off k n cap)=true:=(rfl)
theorem zbe {i off k n cap:Nat}:C.cells (.bs i off k n cap) = [.bs i off k n cap]:=(rfl)
theorem zpz {rows:List (List C)} {n:Int}:zkw (some rows) n K ⟨⟩=zrr (rows[n.toNat]?) n K ⟨⟩:=(rfl)
theorem zrZ {r:List C} {n:Int}:zrr (some r) n K ⟨⟩=(0<=n/\K (.row r)):=(rfl)
theorem zmn {L:Lay} {m:Nat} {n:Int} {cs:List C}:zod (some L) (.row cs) m n K ⟨⟩=(0<=n/\n<((m+1:Nat):Int)/\K (.row (cs.drop (n.toNat*L.size)))):=(rfl)
theorem zr4:vB P t c d K ⟨⟩=zni (lay P t) c d K ⟨⟩:=(rfl)
theorem zqR {s b:Nat} {z1:Option (List Value)} {l:List UInt8} {k:IntKind} {n:Int}:zni (some ⟨.str,s,b,z1⟩) (.str l) (.sc (.int k n)) K ⟨⟩=zkb (l[n.toNat]?) n K ⟨⟩:=(show zp5 (some ⟨.str,s,b,z1⟩) (.str l) (.sc (.int k n)) K=zkA (l[n.toNat]?) n K from by unfold zp5 zkA;simp)
theorem znh {b:UInt8} {n:Int}:zkb (some b) n K ⟨⟩=(0<=n/\K (.sc (.int .u8 (b.toNat:Int)))):=(rfl)
theorem zrw {lo hi mx:Option C}:vF P t c lo hi mx K ⟨⟩=zoF P t c (zag lo) (zag hi) (zag mx) K ⟨⟩:=(rfl)
theorem zq4 {lo hi mx:Option Int}:zoF P t c (some lo) (some hi) (some mx) K ⟨⟩=zmd P (lay P t) c lo hi mx K ⟨⟩:=(rfl)
theorem zbM:zag none=some none:=(rfl)
theorem zgx {k:IntKind} {n:Int}:zag (some (.sc (.int k n)))=some (some n):=(rfl)
theorem zhk {s b:Nat} {z1:Option (List Value)} {l:List UInt8} {lo hi:Option Int}:zmd P (some ⟨.str,s,b,z1⟩) (.str l) lo hi none K ⟨⟩=(j5 l.length lo hi/\K (.str (cut l lo hi))):=(rfl)
theorem zaW {e s b:Nat} {z1:Option (List Value)} {lo hi mx:Option Int}:zmd P (some ⟨.slice e,s,b,z1⟩) c lo hi mx K ⟨⟩=zfb (lay P e) c lo hi mx K ⟨⟩:=(rfl)
theorem zn9 {rows:List (List C)} {k:Nat} {lo hi:Option Int}:zjd (some rows) k lo hi none K ⟨⟩=(j5 rows.length lo hi/\K (.sl k (cut rows lo hi))):=(rfl)
theorem zpI {rows:List (List C)} {k:Nat} {lo:Option Int} {h m:Int}:zjd (some rows) k lo (some h) (some m) K ⟨⟩=(m=h/\j5 rows.length lo (some h)/\K (.tight k (cut rows lo (some h)))):=(rfl)
theorem zjh {α:Type} {l:List α} {a:Int}:cut l (some a) none=l.drop a.toNat:=(rfl)
theorem zh5 {α:Type} {l:List α} {b:Int}:cut l none (some b)=l.take b.toNat:=(rfl)
theorem ziW {α:Type} {l:List α} {a b:Int}:cut l (some a) (some b)=(l.take b.toNat).drop a.toNat:=(rfl)
theorem zbf {n:Nat} {a:Int}:j5 n (some a) none=(0<=a/\a<=(n:Int)):=(rfl)
theorem zbJ {n:Nat} {b:Int}:j5 n none (some b)=(0<=b/\b<=(n:Int)):=(rfl)
theorem zbO {n:Nat} {a b:Int}:j5 n (some a) (some b)=(0<=a/\a<=b/\b<=(n:Int)):=(rfl)
theorem zdG {k:Nat} {rows:List (List C)}:C.rows? k (.sl k rows)=some rows:=(show C.rows? k (.sl k rows)=some rows from by simp[C.rows?])
theorem zbh {id e:Nat} {k:Nat} {rows:List (List C)}:C.rows? k (.own id e k rows)=some rows:=(show C.rows? k (.own id e k rows)=some rows from by simp[C.rows?])
theorem znT:zj3 P t t' c K ⟨⟩=zmx P (lay P t') (lay P t) c K ⟨⟩:=(rfl)
theorem zbB {k k0:IntKind} {n:Int} {s b:Nat} {z1:Option (List Value)} {L:Lay}:zmx P (some ⟨.int k,s,b,z1⟩) (some L) (.sc (.int k0 n)) K ⟨⟩=(inR k n/\K (.sc (.int k n))):=(rfl)
theorem zjK {s b s2 b2:Nat} {z1 z2:Option (List Value)} {k k0:IntKind} {n:Int}:zmx P (some ⟨.str,s,b,z1⟩) (some ⟨.int k,s2,b2,z2⟩) (.sc (.int k0 n)) K ⟨⟩=K (.str (Utf8.encode n).data.toList):=(rfl)
theorem zex {l:List UInt8}:yb P t (.str l) K ⟨⟩=zj6 (lay P t) (l.length:Int) K ⟨⟩:=(rfl)
theorem zgQ {k:Nat} {rows:List (List C)}:yb P t (.sl k rows) K ⟨⟩=N3 (lay P t) (rows.length:Int) K ⟨⟩:=(rfl)
theorem zf4 {id e:Nat} {k:Nat} {rows:List (List C)}:yb P t (.own id e k rows) K ⟨⟩=N3 (lay P t) (rows.length:Int) K ⟨⟩:=(rfl)
theorem zfa:yb P t (.sc (.slice none 0 0)) K ⟨⟩=N3 (lay P t) 0 K ⟨⟩:=(rfl)
theorem znN {e s b:Nat} {z1:Option (List Value)} {n:Int}:N3 (some ⟨.slice e,s,b,z1⟩) n K ⟨⟩=K (.sc (.int .i64 n)):=(rfl)
theorem zpm {s b:Nat} {z1:Option (List Value)} {n:Int}:zj6 (some ⟨.str,s,b,z1⟩) n K ⟨⟩=K (.sc (.int .i64 n)):=(rfl)
theorem zk6 {ps:List (Nat×C)}:xY P t ps K ⟨⟩=zoH (lay P t) ps K ⟨⟩:=(rfl)
theorem ziA {fs:List (Nat×Nat×Bool)} {s b:Nat} {z1:List Value} {ps:List (Nat×C)}:zoH (some ⟨.struct fs,s,b,some z1⟩) ps K ⟨⟩=((ps.all fun p=>p.2.partB)=true/\zrn (YQ (plS fs) (z1.map zE) ps) K ⟨⟩):=(show zqJ (some ⟨.struct fs,s,b,some z1⟩) ps K=((ps.all fun p=>p.2.partB)=true/\aFl (YQ (plS fs) (z1.map zE) ps) K) from by unfold zqJ aFl;simp only[];rfl)
theorem zrK {cs:List C}:zrn (some cs) K ⟨⟩=K (.agg cs):=(rfl)
theorem zmF {place:Nat->Option (Nat×Nat)} {cs:List C}:YQ place cs []=some cs:=(rfl)
theorem znI {place:Nat->Option (Nat×Nat)} {cs:List C} {i:Nat} {rest:List (Nat×C)}:YQ place cs ((i,c) :: rest)=zkg (place i) place cs c.cells rest:=(rfl)
theorem zmK {place:Nat->Option (Nat×Nat)} {cs l:List C} {off size:Nat} {rest:List (Nat×C)}:zkg (some (off,size)) place cs l rest=(if l.length=size/\off+size<=cs.length then YQ place (cs.take off++l++cs.drop (off+size)) rest else none):=(rfl)
theorem zqw {fs:List (Nat×Nat×Bool)} {i:Nat}:plS fs i=(fs[i]?).map fun f=>(f.1,f.2.1):=(rfl)
theorem zqL {k i:Nat}:plA k i=some (i*k,k):=(rfl)
theorem zrU {n:Nat} {ps:List (Nat×C)}:X0 P t n ps nx K2 ⟨⟩=zpl P (lay P t) n ps nx K2 ⟨⟩:=(rfl)
theorem zqU {e s b n:Nat} {z1:Option (List Value)} {ps:List (Nat×C)}:zpl P (some ⟨.slice e,s,b,z1⟩) n ps nx K2 ⟨⟩=znv (lay P e) e n ps nx K2 ⟨⟩:=(rfl)
theorem zqZ {kd:LK} {k b e n:Nat} {z1:List Value} {ps:List (Nat×C)}:znv (some ⟨kd,k,b,some z1⟩) e n ps nx K2 ⟨⟩=(z1.length=k/\0<k/\n*k<=16777216/\(ps.all fun p=>p.2.frz.partB)=true/\zoy (YQ (plA k) (List.replicate n (z1.map zE)).flatten (ps.map fun p=>(p.1,p.2.frz))) e k n nx K2 ⟨⟩):=(rfl)
theorem zqy {cs:List C} {e k n:Nat}:zoy (some cs) e k n nx K2 ⟨⟩=((cs.all C.cellB)=true/\cs.length=n*k/\K2 (.own nx e k (Qw k n cs)) (nx+1)):=(rfl)
theorem zqo:xg P t c d ⟨tm,bx,nx,lg⟩ K3 ⟨⟩=zkh P (lay P t) c d ⟨tm,bx,nx,lg⟩ K3 ⟨⟩:=(rfl)
theorem zpK {e s b:Nat} {z1:Option (List Value)} {k k2:IntKind} {l m:Int}:zkh P (some ⟨.slice e,s,b,z1⟩) (.sc (.int k l)) (.sc (.int k2 m)) ⟨tm,bx,nx,lg⟩ K3 ⟨⟩=zkk (lay P e) l m ⟨tm,bx,nx,lg⟩ K3 ⟨⟩:=(rfl)
theorem zn4 {kd:LK} {k b:Nat} {z1:List Value} {l m:Int}:zkk (some ⟨kd,k,b,some z1⟩) l m ⟨tm,bx,nx,lg⟩ K3 ⟨⟩=(z1.length=k/\0<k/\(z1.all Value.oneCell')=true/\0<=l/\l<=m/\(b:Int)*m<=281474976710656/\m<=9223372036854775807/\K3 (.bs bx.length 0 k l.toNat m.toNat) ⟨tm,bx++[(List.replicate m.toNat (z1.map zE)).flatten],nx,lg⟩):=(rfl)
theorem zrW:zki P t c d nx K2 ⟨⟩=zpS P (lay P t) c d nx K2 ⟨⟩:=(rfl)
theorem zqG {e s b:Nat} {z1:Option (List Value)} {k k2:IntKind} {l m:Int}:zpS P (some ⟨.slice e,s,b,z1⟩) (.sc (.int k l)) (.sc (.int k2 m)) nx K2 ⟨⟩=znm (lay P e) e l m nx K2 ⟨⟩:=(rfl)
theorem zp8 {kd:LK} {k b e:Nat} {z1:List Value} {l m:Int}:znm (some ⟨kd,k,b,some z1⟩) e l m nx K2 ⟨⟩=(z1.length=k/\0<k/\(z1.all Value.oneCell')=true/\0<=l/\l<=m/\(b:Int)*m<=281474976710656/\m<=9223372036854775807/\K2 (.own nx e k (List.replicate l.toNat (z1.map zE))) (nx+1)):=(rfl)
theorem ze9 {id e k:Nat} {rows:List (List C)}:HZ P t (.own id e k rows) d ⟨tm,bx,nx,lg⟩ K3 ⟨⟩=znt P (lay P t) id e k rows d ⟨tm,bx,nx,lg⟩ K3 ⟨⟩:=(rfl)
theorem yx {k:Nat} {rows:List (List C)}:HZ P t (.tight k rows) d ⟨tm,bx,nx,lg⟩ K3 ⟨⟩=GK P t (.tight k rows) d nx (fun c nx'=>K3 c ⟨tm,bx,nx',lg⟩) ⟨⟩:=(rfl)
theorem zpR:GK P t c d nx K2 ⟨⟩=zog P (lay P t) c d nx K2 ⟨⟩:=(rfl)
theorem zri {e s b:Nat} {z1:Option (List Value)}:zog P (some ⟨.slice e,s,b,z1⟩) c d nx K2 ⟨⟩=znF (lay P e) e c d nx K2 ⟨⟩:=(rfl)
theorem zrc {kd:LK} {k b e:Nat} {z1:List Value}:znF (some ⟨kd,k,b,some z1⟩) e c d nx K2 ⟨⟩=zop (d.rows? k) c e k b z1 nx K2 ⟨⟩:=(rfl)
theorem znH {k k0 b e:Nat} {z1:List Value} {xs rows:List (List C)}:zop (some xs) (.tight k0 rows) e k b z1 nx K2 ⟨⟩=(k0=k/\z1.length=k/\0<k/\rows.length+xs.length<=9223372036854775807/\(rows.length+xs.length)*b<=140737488355328/\(xs = []->K2 (.tight k0 rows) nx)/\(¬xs = []->K2 (.own nx e k (rows++xs)) (nx+1))):=(rfl)
theorem ziD {a b:Nat} (h:Nat.ble a b=true):a<=b:=Nat.le_of_ble_eq_true h
theorem lS:(∀ {α:Type} (a b:List α),(a++b).length=a.length+b.length)/\(∀ {α:Type} (a:α) (b:List α),(a :: b).length=b.length+1)/\(∀ {α:Type},([]:List α).length=0)/\(∀ {α β:Type} (f:α->β) (l:List α),(l.map f).length=l.length)/\(∀ {α:Type} (n:Nat) (l:List α),(l.take n).length=min n l.length)/\∀ {α:Type} (n:Nat) (l:List α),(l.drop n).length=l.length-n:=⟨fun _ _=>List.length_append,fun _ _=>List.length_cons,List.length_nil,fun _ _=>List.length_map _,fun _ _=>List.length_take,fun _ _=>List.length_drop⟩
theorem zqg {α:Type} {x:α} {l:List α}:((x :: l) = [])=False:=by simp
theorem zrR {p:Prop}:(True->p)=p:=by simp
theorem zr2 {p:Prop}:(False->p)=True:=by simp
theorem zr7:(¬True)=False:=by simp
theorem zru:(¬False)=True:=by simp
theorem zqO {e0 s b id e k:Nat} {z1:Option (List Value)} {rows:List (List C)}:znt P (some ⟨.slice e0,s,b,z1⟩) id e k rows c σ K3 ⟨⟩=zoZ (lay P e) e0 id e k rows c σ K3 ⟨⟩:=(rfl)
theorem zqs {kd:LK} {k0 b e0 id e k:Nat} {z1:List Value} {rows:List (List C)}:zoZ (some ⟨kd,k0,b,some z1⟩) e0 id e k rows c σ K3 ⟨⟩=(e0=e/\k0=k/\z1.length=k/\0<k/\znG (c.rows? k) b id e k rows σ K3 ⟨⟩):=(show zqz (some ⟨kd,k0,b,some z1⟩) e0 id e k rows c σ K3=(e0=e/\k0=k/\z1.length=k/\0<k/\zqk (c.rows? k) b id e k rows σ K3) from by unfold zqz zqk;simp only[];cases c.rows? k<;>simp)
theorem zp7 {xs rows:List (List C)} {b id e k:Nat}:znG (some xs) b id e k rows ⟨tm,bx,nx,lg⟩ K3 ⟨⟩=(rows.length+xs.length<=9223372036854775807/\(rows.length+xs.length)*b<=140737488355328/\K3 (.own id e k (rows++xs)) ⟨zbl id tm,xw id bx,nx,lg⟩):=(rfl)
theorem zl5 {f:FuncId} {fs cs args:List C}:vk P G h (.clo (.func f) fs cs) args ⟨tm,bx,nx,lg⟩ K3 ⟨⟩ ⟨⟩=QT P G f (fs++args++cs) (C.frzL (fs++args++cs)) ⟨tm,bx,nx,lg⟩ K3 ⟨⟩:=(rfl)
theorem zmN {l:Nat} {items:List (List C)} {sf:Nat->Bool} {args:List C}:vk P G ⟨p,some ⟨l,items,sf⟩,bf⟩ (.sc (.func (.yield l) #[] #[])) args ⟨tm,bx,nx,lg⟩ K3 ⟨⟩ ⟨⟩=uV ⟨l,items,sf⟩ (items[lg]?) args ⟨tm,bx,nx,lg⟩ K3 ⟨⟩ ⟨⟩:=(show xm P G ⟨p,some ⟨l,items,sf⟩,bf⟩ (.sc (.func (.yield l) #[] #[])) args ⟨tm,bx,nx,lg⟩ K3=GO ⟨l,items,sf⟩ (items[lg]?) args ⟨tm,bx,nx,lg⟩ K3 from by simp[xm,uv])
theorem zhs {l:Nat} {items:List (List C)} {sf:Nat->Bool} {args it:List C}:uV ⟨l,items,sf⟩ (some it) args ⟨tm,bx,nx,lg⟩ K3 ⟨⟩ ⟨⟩=(zg [] 0 args it/\(∀ j,j<lg->sf j=false)/\K3 (.sc (.bool (!sf lg))) ⟨tm,bx,nx,lg+1⟩):=(rfl)
theorem znj {ι:List Nat} {j:Nat}:upB ι m j=match ι[j]? with | some i=>some i | none=>some (m+(j-ι.length)):=(rfl)
theorem zq2 {i:Nat}:XD [] i=none:=(rfl)
theorem zqh {x1 i:Nat} {r:List Nat}:XD (x1 :: r) i=if i=x1 then some 0 else (XD r i).map (·+1):=(rfl)
theorem zkD {fp fo:Nat->Option Nat}:Hj fp fo [] = []:=(rfl)
theorem zn5 {fp fo:Nat->Option Nat} {u:Nat} {r:List (Nat×C)}:Hj fp fo ((u,c) :: r)=(u,c.re fp fo) :: Hj fp fo r:=(rfl)
theorem zlK {fp fo:Nat->Option Nat}:Nu fp fo [] = []:=(rfl)
theorem znK {fp fo:Nat->Option Nat} {cs:List C} {r:List (List C)}:Nu fp fo (cs :: r)=C.reL fp fo cs :: Nu fp fo r:=(rfl)
theorem zim {l:List (List C)}:Vm [] l bx=bx:=(rfl)
theorem zig {i:Nat} {ι:List Nat} {cs:List C} {r:List (List C)}:Vm (i :: ι) (cs :: r) bx=Vm ι r (bx.set i cs):=(rfl)
theorem zhn {ι κ:List Nat} {n:Nat}:Zu ι κ bx' n ⟨tm,bx,nx,lg⟩=⟨Hj some (ZO κ) tm,Vm ι (Nu (upB ι bx.length) (upO nx) bx') (Nu some (ZO κ) bx)++Nu (upB ι bx.length) (upO nx) (bx'.drop ι.length),nx+n,lg⟩:=(rfl)
theorem zmj {κ:List Nat} {i:Nat}:ZO κ i=if i∈κ then none else some i:=(rfl)
theorem ziX {i:Nat}:Hq m i=if i<m then some i else none:=(rfl)
theorem zil {i:Nat}:YU m i=if i<m then none else some (i-m):=(rfl)
theorem zkn {f:FuncId} {fs cs args:List C}:ze1 P G (.clo (.func f) fs cs) args nx K2 ⟨⟩=xJ P G f (C.frzL (fs++args++cs)) nx K2 ⟨⟩:=(rfl)
theorem zqx {kd:LK} {s b:Nat} {z1:List Value}:zom (some ⟨kd,s,b,some z1⟩) ⟨tm,bx,nx,lg⟩ K3 ⟨⟩=((z1.all Value.oneCell')=true/\K3 (.ptr bx.length 0) ⟨tm,bx++[z1.map zE],nx,lg⟩):=(rfl)
theorem zq6:znp c ⟨tm,bx,nx,lg⟩ K3 ⟨⟩=(c.partB=true/\(c.cells.all C.cellB)=true/\K3 (.ptr bx.length 0) ⟨tm,bx++[c.cells],nx,lg⟩):=(rfl)
theorem zqc {L:Lay} {i off:Nat}:zol (some L) (.ptr i off) c ⟨tm,bx,nx,lg⟩ K3 ⟨⟩=zoI (bx[i]?) i off L.size c ⟨tm,bx,nx,lg⟩ K3 ⟨⟩:=(rfl)
theorem zqK {cs:List C} {i off size:Nat}:zoI (some cs) i off size c ⟨tm,bx,nx,lg⟩ K3 ⟨⟩=(c.partB=true/\(c.cells.all C.cellB)=true/\c.cells.length=size/\off+size<=cs.length/\K3 .any ⟨tm,bx.set i (cs.take off++c.cells++cs.drop (off+size)),nx,lg⟩):=(rfl)
theorem ziu {v:Value}:C.frz (.sc v) = .sc v:=(show C.frz (.sc v) = .sc v from by rw[C.frz])
theorem zlk {v:Value} {id:Nat}:C.dg id (.sc v) = .sc v:=(show C.dg id (.sc v) = .sc v from by rw[C.dg])
theorem zmO {v:Value} {n:Nat}:C.sh n (.sc v) = .sc v:=(show C.sh n (.sc v) = .sc v from by rw[C.sh])
theorem zc4 {l:List UInt8}:C.frz (.str l) = .str l:=(show C.frz (.str l) = .str l from by rw[C.frz])
theorem zg0 {l:List UInt8} {id:Nat}:C.dg id (.str l) = .str l:=(show C.dg id (.str l) = .str l from by rw[C.dg])
theorem zh1 {l:List UInt8} {n:Nat}:C.sh n (.str l) = .str l:=(show C.sh n (.str l) = .str l from by rw[C.sh])
theorem zhY {k:Nat} {rows:List (List C)}:C.frz (.sl k rows) = .sl k rows:=(show C.frz (.sl k rows) = .sl k rows from by rw[C.frz])
theorem zkt {k:Nat} {rows:List (List C)} {id:Nat}:C.dg id (.sl k rows) = .sl k rows:=(show C.dg id (.sl k rows) = .sl k rows from by rw[C.dg])
theorem zkm {k:Nat} {rows:List (List C)} {n:Nat}:C.sh n (.sl k rows) = .sl k rows:=(show C.sh n (.sl k rows) = .sl k rows from by rw[C.sh])
theorem zcf {k:Nat} {rows:List (List C)} {id:Nat}:C.dg id (.tight k rows) = .tight k rows:=(show C.dg id (.tight k rows) = .tight k rows from by rw[C.dg])
theorem zfk {cs:List C}:C.frz (.row cs) = .row cs:=(show C.frz (.row cs) = .row cs from by rw[C.frz])
theorem ziC {cs:List C} {id:Nat}:C.dg id (.row cs) = .row cs:=(show C.dg id (.row cs) = .row cs from by rw[C.dg])
theorem zg3 {cs:List C} {n:Nat}:C.sh n (.row cs) = .row cs:=(show C.sh n (.row cs) = .row cs from by rw[C.sh])
theorem ziT {id:Nat}:C.dg id (.any) = .any:=(show C.dg id (.any) = .any from by rw[C.dg])
theorem zmW {i:Nat} {t2:TypeId} {ks:MK} {vs:List C} {n:Nat}:C.sh n (.mo i t2 ks vs) = .mo (n+i) t2 ks vs:=(show C.sh n (.mo i t2 ks vs) = .mo (n+i) t2 ks vs from by rw[C.sh])
theorem zlO {i:Nat} {t2:TypeId} {ks:MK} {vs:List C}:C.fz bx (.mo i t2 ks vs) = .mo i t2 ks vs:=(show C.fz bx (.mo i t2 ks vs) = .mo i t2 ks vs from by rw[C.fz])
theorem zkL {v:Value} {id:Nat} {ks1:MK} {vs1:List C}:C.up id ks1 vs1 (.sc v) = .sc v:=(show C.up id ks1 vs1 (.sc v) = .sc v from by rw[C.up])
theorem zlX {i:Nat} {t2:TypeId} {ks:MK} {vs:List C} {id:Nat} {ks1:MK} {vs1:List C}:C.up id ks1 vs1 (.mo i t2 ks vs)=if i=id then .mo i t2 ks1 vs1 else .mo i t2 ks vs:=(show C.up id ks1 vs1 (.mo i t2 ks vs)=if i=id then .mo i t2 ks1 vs1 else .mo i t2 ks vs from by rw[C.up])
theorem zaV {id:Nat} {ks1:MK} {vs1:List C}:zgF id ks1 vs1 [] = []:=(rfl)
theorem zn8 {u:Nat} {r:List (Nat×C)} {id:Nat} {ks1:MK} {vs1:List C}:zgF id ks1 vs1 ((u,c) :: r)=(u,c.up id ks1 vs1) :: zgF id ks1 vs1 r:=(rfl)
theorem zbA {id:Nat} {ks1:MK} {vs1:List C}:zf6 id ks1 vs1 [] = []:=(rfl)
theorem zdm {id e k:Nat} {rows:List (List C)}:C.frz (.own id e k rows) = .sl k rows:=(show C.frz (.own id e k rows) = .sl k rows from by rw[C.frz])
theorem zgl {i off:Nat}:C.frz (.ptr i off) = .any:=(show C.frz (.ptr i off) = .any from by rw[C.frz])
theorem zi3 {id i off:Nat}:C.dg id (.ptr i off) = .ptr i off:=(show C.dg id (.ptr i off) = .ptr i off from by rw[C.dg])
theorem ziP {id i e k:Nat} {rows:List (List C)}:C.dg id (.own i e k rows)=if i=id then .sl k rows else .own i e k rows:=(show C.dg id (.own i e k rows)=if i=id then .sl k rows else .own i e k rows from by rw[C.dg])
theorem ziK {n i e k:Nat} {rows:List (List C)}:C.sh n (.own i e k rows) = .own (n+i) e k rows:=(show C.sh n (.own i e k rows) = .own (n+i) e k rows from by rw[C.sh])
theorem zk1 {v:Value} {fp fo:Nat->Option Nat}:C.re fp fo (.sc v) = .sc v:=(show C.re fp fo (.sc v) = .sc v from by rw[C.re])
theorem zhW {v:Value} {fp:Nat->Option Nat}:C.sel fp (.sc v) = .sc v:=(show C.sel fp (.sc v) = .sc v from by rw[C.sel])
theorem zis {l:List UInt8} {fp fo:Nat->Option Nat}:C.re fp fo (.str l) = .str l:=(show C.re fp fo (.str l) = .str l from by rw[C.re])
theorem zdY {l:List UInt8} {fp:Nat->Option Nat}:C.sel fp (.str l) = .str l:=(show C.sel fp (.str l) = .str l from by rw[C.sel])
theorem zly {k:Nat} {rows:List (List C)} {fp fo:Nat->Option Nat}:C.re fp fo (.sl k rows) = .sl k rows:=(show C.re fp fo (.sl k rows) = .sl k rows from by rw[C.re])
theorem zhU {k:Nat} {rows:List (List C)} {fp:Nat->Option Nat}:C.sel fp (.sl k rows) = .sl k rows:=(show C.sel fp (.sl k rows) = .sl k rows from by rw[C.sel])
theorem zas {k:Nat} {rows:List (List C)} {fp fo:Nat->Option Nat}:C.re fp fo (.tight k rows) = .tight k rows:=(show C.re fp fo (.tight k rows) = .tight k rows from by rw[C.re])
theorem zhL {cs:List C} {fp fo:Nat->Option Nat}:C.re fp fo (.row cs) = .row cs:=(show C.re fp fo (.row cs) = .row cs from by rw[C.re])
theorem zfD {cs:List C} {fp:Nat->Option Nat}:C.sel fp (.row cs) = .row cs:=(show C.sel fp (.row cs) = .row cs from by rw[C.sel])
theorem zjN {fp fo:Nat->Option Nat}:C.re fp fo (.any) = .any:=(show C.re fp fo (.any) = .any from by rw[C.re])
theorem zlx {v:Value}:C.fz bx (.sc v) = .sc v:=(show C.fz bx (.sc v) = .sc v from by rw[C.fz])
theorem zi7 {l:List UInt8}:C.fz bx (.str l) = .str l:=(show C.fz bx (.str l) = .str l from by rw[C.fz])
theorem zks {k:Nat} {rows:List (List C)}:C.fz bx (.sl k rows) = .sl k rows:=(show C.fz bx (.sl k rows) = .sl k rows from by rw[C.fz])
theorem zbW {k:Nat} {rows:List (List C)}:C.fz bx (.tight k rows) = .tight k rows:=(show C.fz bx (.tight k rows) = .tight k rows from by rw[C.fz])
theorem zhZ {id e k:Nat} {rows:List (List C)}:C.fz bx (.own id e k rows) = .own id e k rows:=(show C.fz bx (.own id e k rows) = .own id e k rows from by rw[C.fz])
theorem zg1 {cs:List C}:C.fz bx (.row cs) = .row cs:=(show C.fz bx (.row cs) = .row cs from by rw[C.fz])
theorem zhr {i off:Nat}:C.fz bx (.ptr i off)=zrj (bx[i]?) off:=(show C.fz bx (.ptr i off)=zrj (bx[i]?) off from by rw[C.fz];rfl)
theorem zkG {off:Nat} {cs:List C}:zrj (some cs) off = .row ((C.frzL cs).drop off):=(rfl)
theorem zcd {f:Fn} {a b:Array Value}:Value.oneCell' (.func f a b)=true:=(rfl)
theorem zi2 {id e k:Nat} {rows:List (List C)} {fp fo:Nat->Option Nat}:C.re fp fo (.own id e k rows)=zpY (fo id) e k rows:=(show C.re fp fo (.own id e k rows)=zpY (fo id) e k rows from by rw[C.re];rfl)
theorem ziF {i off:Nat} {fp fo:Nat->Option Nat}:C.re fp fo (.ptr i off)=zm9 (fp i) off:=(show C.re fp fo (.ptr i off)=zm9 (fp i) off from by rw[C.re];rfl)
theorem zd0 {i off:Nat} {fp:Nat->Option Nat}:C.sel fp (.ptr i off)=zm9 (fp i) off:=(show C.sel fp (.ptr i off)=zm9 (fp i) off from by rw[C.sel];rfl)
theorem zmR {j e k:Nat} {rows:List (List C)}:zpY (some j) e k rows = .own j e k rows:=(rfl)
theorem zmZ {e k:Nat} {rows:List (List C)}:zpY none e k rows = .sl k rows:=(rfl)
theorem zkR {j off:Nat}:zm9 (some j) off = .ptr j off:=(rfl)
theorem zlt {off:Nat}:zm9 none off = .any:=(rfl)
theorem zlB {v:Value} {fr:Fr}:C.fy nx fr bx (.sc v) = .sc v:=(show C.fy nx fr bx (.sc v) = .sc v from by rw[C.fy])
theorem zl6 {k:Nat} {rows:List (List C)} {fr:Fr}:C.fy nx fr bx (.sl k rows) = .sl k rows:=(show C.fy nx fr bx (.sl k rows) = .sl k rows from by rw[C.fy])
theorem zkS {i off k n cap:Nat} {fr:Fr}:C.fy nx fr bx (.bs i off k n cap)=VW nx fr i off k n cap:=(show C.fy nx fr bx (.bs i off k n cap)=VW nx fr i off k n cap from by rw[C.fy])
theorem zia {i off k n cap i2 e k2 cap2:Nat} {rows:List (List C)} {r:Fr}:VW nx ((i2,e,k2,rows,cap2) :: r) i off k n cap=if i=i2/\off=0/\k=k2/\n=rows.length/\cap=cap2 then .own nx e k2 rows else VW (nx+1) r i off k n cap:=(show VW nx ((i2,e,k2,rows,cap2) :: r) i off k n cap=if i=i2/\off=0/\k=k2/\n=rows.length/\cap=cap2 then .own nx e k2 rows else VW (nx+1) r i off k n cap from by rw[VW])
theorem zhD {cs:List C} {fp fo:Nat->Option Nat}:C.re fp fo (.agg cs) = .agg (C.reL fp fo cs):=(show C.re fp fo (.agg cs) = .agg (C.reL fp fo cs) from by rw[C.re])
theorem zje {cs:List C} {fp fo:Nat->Option Nat}:C.re fp fo (.tup cs) = .tup (C.reL fp fo cs):=(show C.re fp fo (.tup cs) = .tup (C.reL fp fo cs) from by rw[C.re])
theorem zjc {fn:Fn} {fs cs:List C} {fp fo:Nat->Option Nat}:C.re fp fo (.clo fn fs cs) = .clo fn (C.reL fp fo fs) (C.reL fp fo cs):=(show C.re fp fo (.clo fn fs cs) = .clo fn (C.reL fp fo fs) (C.reL fp fo cs) from by rw[C.re])
theorem ze0 {fp fo:Nat->Option Nat}:C.reL fp fo [] = []:=(show C.reL fp fo [] = [] from by rw[C.reL])
theorem za5 {r:List C} {fp fo:Nat->Option Nat}:C.reL fp fo (c :: r)=C.re fp fo c :: C.reL fp fo r:=(show C.reL fp fo (c :: r)=C.re fp fo c :: C.reL fp fo r from by rw[C.reL])
theorem zeE {cs:List C} {fp:Nat->Option Nat}:C.sel fp (.agg cs) = .agg (C.selL fp cs):=(show C.sel fp (.agg cs) = .agg (C.selL fp cs) from by rw[C.sel])
theorem zdO {fn:Fn} {fs cs:List C} {fp:Nat->Option Nat}:C.sel fp (.clo fn fs cs) = .clo fn (C.selL fp fs) (C.selL fp cs):=(show C.sel fp (.clo fn fs cs) = .clo fn (C.selL fp fs) (C.selL fp cs) from by rw[C.sel])
theorem zb6 {fp:Nat->Option Nat}:C.selL fp [] = []:=(show C.selL fp [] = [] from by rw[C.selL])
theorem vd {r:List C} {fp:Nat->Option Nat}:C.selL fp (c :: r)=C.sel fp c :: C.selL fp r:=(show C.selL fp (c :: r)=C.sel fp c :: C.selL fp r from by rw[C.selL])
theorem zh2 {cs:List C} :C.fz bx (.agg cs) = .agg (C.fzL bx cs):=(show C.fz bx (.agg cs) = .agg (C.fzL bx cs) from by rw[C.fz])
theorem zjl {cs:List C} :C.fz bx (.tup cs) = .tup (C.fzL bx cs):=(show C.fz bx (.tup cs) = .tup (C.fzL bx cs) from by rw[C.fz])
theorem ziR {fn:Fn} {fs cs:List C} :C.fz bx (.clo fn fs cs) = .clo fn (C.fzL bx fs) (C.fzL bx cs):=(show C.fz bx (.clo fn fs cs) = .clo fn (C.fzL bx fs) (C.fzL bx cs) from by rw[C.fz])
theorem zgA:C.fzL bx [] = []:=(show C.fzL bx [] = [] from by rw[C.fzL])
theorem zbz {r:List C} :C.fzL bx (c :: r)=C.fz bx c :: C.fzL bx r:=(show C.fzL bx (c :: r)=C.fz bx c :: C.fzL bx r from by rw[C.fzL])
theorem zja {cs:List C} {fr:Fr}:C.fy nx fr bx (.agg cs) = .agg (C.fyL nx fr bx cs):=(show C.fy nx fr bx (.agg cs) = .agg (C.fyL nx fr bx cs) from by rw[C.fy])
theorem ziB {cs:List C} {fr:Fr}:C.fy nx fr bx (.tup cs) = .tup (C.fyL nx fr bx cs):=(show C.fy nx fr bx (.tup cs) = .tup (C.fyL nx fr bx cs) from by rw[C.fy])
theorem zgc {fr:Fr}:C.fyL nx fr bx [] = []:=(show C.fyL nx fr bx [] = [] from by rw[C.fyL])
theorem zba {r:List C} {fr:Fr}:C.fyL nx fr bx (c :: r)=C.fy nx fr bx c :: C.fyL nx fr bx r:=(show C.fyL nx fr bx (c :: r)=C.fy nx fr bx c :: C.fyL nx fr bx r from by rw[C.fyL])
theorem zcC {cs:List C}:C.frz (.agg cs) = .agg (C.frzL cs):=(show C.frz (.agg cs) = .agg (C.frzL cs) from by rw[C.frz])
theorem zc1 {fn:Fn} {fs cs:List C}:C.frz (.clo fn fs cs) = .clo fn (C.frzL fs) (C.frzL cs):=(show C.frz (.clo fn fs cs) = .clo fn (C.frzL fs) (C.frzL cs) from by rw[C.frz])
theorem zao:C.frzL [] = []:=(show C.frzL [] = [] from by rw[C.frzL])
theorem vh {r:List C}:C.frzL (c :: r)=C.frz c :: C.frzL r:=(show C.frzL (c :: r)=C.frz c :: C.frzL r from by rw[C.frzL])
theorem zhg {cs:List C} {id:Nat}:C.dg id (.agg cs) = .agg (C.dgL id cs):=(show C.dg id (.agg cs) = .agg (C.dgL id cs) from by rw[C.dg])
theorem zhE {cs:List C} {id:Nat}:C.dg id (.tup cs) = .tup (C.dgL id cs):=(show C.dg id (.tup cs) = .tup (C.dgL id cs) from by rw[C.dg])
theorem ziq {fn:Fn} {fs cs:List C} {id:Nat}:C.dg id (.clo fn fs cs) = .clo fn (C.dgL id fs) (C.dgL id cs):=(show C.dg id (.clo fn fs cs) = .clo fn (C.dgL id fs) (C.dgL id cs) from by rw[C.dg])
theorem zcB {id:Nat}:C.dgL id [] = []:=(show C.dgL id [] = [] from by rw[C.dgL])
theorem zaC {r:List C} {id:Nat}:C.dgL id (c :: r)=C.dg id c :: C.dgL id r:=(show C.dgL id (c :: r)=C.dg id c :: C.dgL id r from by rw[C.dgL])
theorem zh3 {cs:List C} {n:Nat}:C.sh n (.agg cs) = .agg (C.shL n cs):=(show C.sh n (.agg cs) = .agg (C.shL n cs) from by rw[C.sh])
theorem zif {cs:List C} {n:Nat}:C.sh n (.tup cs) = .tup (C.shL n cs):=(show C.sh n (.tup cs) = .tup (C.shL n cs) from by rw[C.sh])
theorem zih {fn:Fn} {fs cs:List C} {n:Nat}:C.sh n (.clo fn fs cs) = .clo fn (C.shL n fs) (C.shL n cs):=(show C.sh n (.clo fn fs cs) = .clo fn (C.shL n fs) (C.shL n cs) from by rw[C.sh])
theorem zdf {n:Nat}:C.shL n [] = []:=(show C.shL n [] = [] from by rw[C.shL])
theorem zax {r:List C} {n:Nat}:C.shL n (c :: r)=C.sh n c :: C.shL n r:=(show C.shL n (c :: r)=C.sh n c :: C.shL n r from by rw[C.shL])
theorem zbY {id:Nat}:zbl id [] = []:=(rfl)
theorem zoL {id u:Nat} {r:List (Nat×C)}:zbl id ((u,c) :: r)=(u,c.dg id) :: zbl id r:=(rfl)
theorem zcp {id:Nat}:xw id [] = []:=(rfl)
theorem zoR {id:Nat} {cs:List C} {r:List (List C)}:xw id (cs :: r)=C.dgL id cs :: xw id r:=(rfl)
theorem vl {l:List UInt8}:C.cellB (.str l)=true:=(rfl)
theorem vC {l:List UInt8}:C.partB (.str l)=true:=(rfl)
theorem vf {l:List UInt8}:C.cells (.str l) = [.str l]:=(rfl)
theorem zbg {k:Nat} {rows:List (List C)}:C.cellB (.sl k rows)=true:=(rfl)
theorem zbI {k:Nat} {rows:List (List C)}:C.partB (.sl k rows)=true:=(rfl)
theorem zcm {k:Nat} {rows:List (List C)}:C.cells (.sl k rows) = [.sl k rows]:=(rfl)
theorem Nj {k:Nat} {rows:List (List C)}:C.cellB (.tight k rows)=true:=(rfl)
theorem Ga {k:Nat} {rows:List (List C)}:C.partB (.tight k rows)=true:=(rfl)
theorem Gj {k:Nat} {rows:List (List C)}:C.cells (.tight k rows) = [.tight k rows]:=(rfl)
theorem vr {id e k:Nat} {rows:List (List C)}:C.cellB (.own id e k rows)=true:=(rfl)
theorem yr {id e k:Nat} {rows:List (List C)}:C.partB (.own id e k rows)=true:=(rfl)
theorem xM {id e k:Nat} {rows:List (List C)}:C.cells (.own id e k rows) = [.own id e k rows]:=(rfl)
theorem xG {fn:Fn} {fs cs:List C}:C.cellB (.clo fn fs cs)=true:=(rfl)
theorem yG {fn:Fn} {fs cs:List C}:C.partB (.clo fn fs cs)=true:=(rfl)
theorem yL {fn:Fn} {fs cs:List C}:C.cells (.clo fn fs cs) = [.clo fn fs cs]:=(rfl)
theorem zaS {v:Value}:C.cellB (.sc v)=v.oneCell':=(rfl)
theorem zbu {v:Value}:C.partB (.sc v)=v.oneCell':=(rfl)
theorem zaB {v:Value}:C.cells (.sc v) = [.sc v]:=(rfl)
theorem x8 {cs:List C}:C.partB (.agg cs)=true:=(rfl)
theorem vu {cs:List C}:C.cells (.agg cs)=cs:=(rfl)
theorem zdC {k:IntKind} {n:Int}:Value.oneCell' (.int k n)=true:=(rfl)
theorem zbN {b:Bool}:Value.oneCell' (.bool b)=true:=(rfl)
theorem vj {a:Option Addr} {n m:Nat}:Value.oneCell' (.slice a n m)=true:=(rfl)
theorem MD {s:ByteArray}:Value.oneCell' (.string s)=true:=(rfl)
theorem zlu {k:Nat} {cs:List C}:Qw k 0 cs = []:=(rfl)
theorem zlM {k n:Nat} {cs:List C}:Qw k (n+1) cs=cs.take k :: Qw k n (cs.drop k):=(rfl)
theorem zkJ {i:Nat}:V7 i [] = []:=(rfl)
theorem znX {i:Nat} {r:List C}:V7 i (c :: r)=(i,c) :: V7 (i+1) r:=(rfl)
theorem zeb:zlp (.sc (.bool true)) X Y ⟨⟩ ⟨⟩=X:=ziU
theorem za0:zlp (.sc (.bool false)) X Y ⟨⟩ ⟨⟩=Y:=zem
theorem br {b:Bool} (hx:b=true->X) (hy:b=false->Y):zlp (.sc (.bool b)) X Y ⟨⟩ ⟨⟩:=ABr.mk hx hy
theorem Jl {f:FuncId} {args fargs a1:List C} {fbx:List (List C)} {q:Nat} {post:C->List (List C)->Nat->Prop} (ι κ:List Nat) (hf:XG P G f a1 fbx q post) (hq:κ.length=q) (hι:ι.Nodup) (hκ:κ.Nodup) (hb:∀ i∈ι,i<bx.length)
  (ha:C.reL (XD ι) (XD κ) args=a1) (hx:(ι.map fun i=>C.reL (XD ι) (XD κ) (bx.getD i []))=fbx) (hK:∀ r fbx' n,post r fbx' n->K3 (r.re (upB ι bx.length) (upO nx)) (Zu ι κ fbx' n ⟨tm,bx,nx,lg⟩)):QT P G f args fargs ⟨tm,bx,nx,lg⟩ K3 ⟨⟩:=
 .inr <| .inr <| .inr <| .inl ⟨ι,κ,post,hι,hκ,hb,by rw[ha,hq];exact hx▸hf,hK⟩
theorem zmk {K4:C->List (List C)->Nat->Prop} {f:FuncId} {args a1:List C} {fbx:List (List C)} {post:C->List (List C)->Nat->Prop} (ι:List Nat) (hf:XG P G f a1 fbx 0 post) (hι:ι.Nodup) (hb:∀ i∈ι,i<bx.length)
  (ha:C.reL (XD ι) (XD []) args=a1) (hx:(ι.map fun i=>C.reL (XD ι) (XD []) (bx.getD i []))=fbx) (hK:∀ r fbx' n,post r fbx' n->K4 (r.re (upB ι bx.length) (upO nx)) (Zu ι [] fbx' n ⟨tm,bx,nx,lg⟩).bx (nx+n)):zrq P G f args ⟨tm,bx,nx,lg⟩ K4 ⟨⟩:=
 ⟨ι,post,hι,hb,by rw[ha];exact hx▸hf,hK⟩
theorem zlf {f:FuncId} {args fargs:List C} {r:C} (hf:zqp P f args bx r) (hK:K3 r ⟨tm,bx,nx,lg⟩):QT P G f args fargs ⟨tm,bx,nx,lg⟩ K3 ⟨⟩:=.inr <| .inr <| .inr <| .inr ⟨r,hf,hK⟩
theorem zkZ {e s1 b1 k by' m i off n cap:Nat} {kd:LK} {z1 z:Option (List Value)} {xs cs:List C} (hl:lay P t=some ⟨.slice e,s1,b1,z1⟩) (hle:lay P e=some ⟨kd,k,by',z⟩) (hx:d.xs? k bx=some (m,xs)) (hb:bx[i]?=some cs) (hxl:xs.length=m*k) (hfit:off+n*k<=cs.length)
  (hK:K3 (.sc (.int .i64 ((min m n:Nat):Int))) ⟨tm,bx.set i (spl cs off (xs.take (min m n*k))),nx,lg⟩):NL P t (.bs i off k n cap) d ⟨tm,bx,nx,lg⟩ K3 ⟨⟩:=by
 show QN P t _ _ _ _
 unfold QN
 simp only[hl,hle,hx,hb]
 exact ⟨trivial,hxl,hfit,hK⟩
theorem zpw {e s1 b1 k by' m:Nat} {c:C} {kd:LK} {z1 z:Option (List Value)} {xs:List C} (hl:lay P t=some ⟨.slice e,s1,b1,z1⟩) (hle:lay P e=some ⟨kd,k,by',z⟩) (hx:d.xs? k bx=some (m,xs)) (hc:c.rows? k=some []) (hb:∀ i off k n c',c≠.bs i off k n c') (hxl:xs.length=m*k)
  (hK:K3 (.sc (.int .i64 0)) ⟨tm,bx,nx,lg⟩):NL P t c d ⟨tm,bx,nx,lg⟩ K3 ⟨⟩:=by
 show QN P t _ _ _ _
 unfold QN
 simp only[hl,hle,hx]
 cases c<;>first
  | exact absurd rfl (hb _ _ _ _ _)
  | (simp only[hc];exact ⟨hxl,hK⟩)
theorem znW {e s1 b1 k by' i off n cap:Nat} {kd:LK} {z1:Option (List Value)} {z:List Value} {cs:List C} (hl:lay P t=some ⟨.slice e,s1,b1,z1⟩) (hle:lay P e=some ⟨kd,k,by',some z⟩) (hb:bx[i]?=some cs) (hz:z.length=k) (hk:0<k) (h1:(z.all Value.oneCell')=true) (hfit:off+n*k<=cs.length)
  (hK:K3 .any ⟨tm,bx.set i (spl cs off (List.replicate n (z.map zE)).flatten),nx,lg⟩):vo P t (.bs i off k n cap) ⟨tm,bx,nx,lg⟩ K3 ⟨⟩:=by
 show kf P t _ _ _
 unfold kf
 simp only[hl,hle,hb]
 exact ⟨trivial,hz,hk,h1,hfit,hK⟩
theorem Nq {e s1 b1 k by' m:Nat} {kd:LK} {z1:Option (List Value)} {z:List Value} {xs:List C} (hl:lay P t=some ⟨.slice e,s1,b1,z1⟩) (hle:lay P e=some ⟨kd,k,by',some z⟩) (hx:d.xs? k bx=some (m,xs)) (hz:z.length=k) (hk:0<k) (h1:(z.all Value.oneCell')=true) (hxl:xs.length=m*k) (hm:0<m) (h63:m<=9223372036854775807) (hby:m*by'<=140737488355328)
  (hK:∀ cap,m<=cap->cap<=9223372036854775807->K3 (.bs bx.length 0 k m cap) ⟨tm,bx++[xs++List.replicate ((cap-m)*k) .any],nx,lg⟩):yZ P t (.sc (.slice none 0 0)) d ⟨tm,bx,nx,lg⟩ K3 ⟨⟩:=by
 show Yv P t _ _ _ _
 unfold Yv
 simp only[hl,hle,hx]
 exact ⟨hz,hk,h1,hxl,hm,h63,hby,fun c h1 h2=>hK c h1 (by unfold maxLen at h2;omega)⟩
theorem Q6 {e s1 b1 k by' m i off n cap:Nat} {kd:LK} {z1:Option (List Value)} {z:List Value} {xs cs:List C} (hl:lay P t=some ⟨.slice e,s1,b1,z1⟩) (hle:lay P e=some ⟨kd,k,by',some z⟩) (hx:d.xs? k bx=some (m,xs)) (hz:z.length=k) (hk:0<k) (h1:(z.all Value.oneCell')=true) (hxl:xs.length=m*k)
  (hb:bx[i]?=some cs) (hfit:off+cap*k<=cs.length) (hn:n<=cap) (h63:n+m<=9223372036854775807) (hby:(n+m)*by'<=140737488355328)
  (hK1:n+m<=cap->K3 (.bs i off k (n+m) cap) ⟨tm,bx.set i (spl cs (off+n*k) xs),nx,lg⟩)
  (hK2:cap<n+m->∀ c',n+m<=c'->c'<=9223372036854775807->K3 (.bs bx.length 0 k (n+m) c') ⟨tm,bx++[(cs.drop off).take (n*k)++xs++List.replicate ((c'-(n+m))*k) .any],nx,lg⟩):yZ P t (.bs i off k n cap) d ⟨tm,bx,nx,lg⟩ K3 ⟨⟩:=by
 show Yv P t _ _ _ _
 unfold Yv
 simp only[hl,hle,hx,hb]
 exact ⟨hz,hk,h1,hxl,trivial,hfit,hn,h63,hby,hK1,fun h c h1 h2=>hK2 h c h1 (by unfold maxLen at h2;omega)⟩
theorem zdR {tn e s1 b1 s2 b2 k by':Nat} {kn kq:IntKind} {kd:LK} {z1 z2:Option (List Value)} {z:List Value} {q:Int} (hl:lay P t=some ⟨.slice e,s1,b1,z1⟩) (hln:lay P tn=some ⟨.int kn,s2,b2,z2⟩) (hle:lay P e=some ⟨kd,k,by',some z⟩) (hz:z.length=k) (hk:0<k) (h1:(z.all Value.oneCell')=true)
  (hq:0<q) (h63:q<=9223372036854775807) (hby:q*by'<=140737488355328) (hK:∀ c',q.toNat<=c'->c'<=maxLen->K3 (.bs bx.length 0 k q.toNat c') ⟨tm,bx++[(List.replicate q.toNat (z.map zE)).flatten++List.replicate ((c'-q.toNat)*k) .any],nx,lg⟩) :
  vN P t tn (.sc (.slice none 0 0)) (.sc (.int kq q)) ⟨tm,bx,nx,lg⟩ K3 ⟨⟩:=by
 show GU P t tn _ _ _ _
 unfold GU
 simp only[hl,hln,hle]
 exact ⟨hz,hk,h1,hq,h63,hby,hK⟩
theorem zsf {tn e s1 b1 s2 b2 k by' i off n cap:Nat} {kn kq:IntKind} {kd:LK} {z1 z2:Option (List Value)} {z:List Value} {cs:List C} {q:Int} (hl:lay P t=some ⟨.slice e,s1,b1,z1⟩) (hln:lay P tn=some ⟨.int kn,s2,b2,z2⟩) (hle:lay P e=some ⟨kd,k,by',some z⟩) (hz:z.length=k) (hk:0<k) (h1:(z.all Value.oneCell')=true)
  (hb:bx[i]?=some cs) (hfit:off+cap*k<=cs.length) (hn:n<=cap) (hq:0<q) (h63:(n:Int)+q<=9223372036854775807) (hby:((n:Int)+q)*by'<=140737488355328) (hg:(cap:Int)<n+q)
  (hK:∀ c',n+q.toNat<=c'->c'<=9223372036854775807->K3 (.bs bx.length 0 k (n+q.toNat) c') ⟨tm,bx++[(cs.drop off).take (n*k)++(List.replicate q.toNat (z.map zE)).flatten++List.replicate ((c'-(n+q.toNat))*k) .any],nx,lg⟩):vN P t tn (.bs i off k n cap) (.sc (.int kq q)) ⟨tm,bx,nx,lg⟩ K3 ⟨⟩:=by
 show GU P t tn _ _ _ _
 unfold GU
 simp only[hl,hln,hle,hb]
 exact ⟨hz,hk,h1,trivial,hfit,hn,hq,h63,hby,hg,fun c h1 h2=>hK c h1 (by unfold maxLen at h2;omega)⟩
def opB (P:Program) (fn:Func) (code:Code) (b:Nat->List Bool):Bool:=P.follows .mixedOrders&&(!(fn.name == "runtime.NumGoroutine")&&jI fn.ntmps b code)
theorem zn3 {fn:Func} {code:Code} {b:Nat->List Bool} (h:opB P fn code b=true):P.follows .mixedOrders=true:=(Bool.and_eq_true_iff.1 h).1
theorem zpx {fn:Func} {code:Code} {b:Nat->List Bool} (h:opB P fn code b=true):(fn.name == "runtime.NumGoroutine")=false:=by
 have:=(Bool.and_eq_true_iff.1 (Bool.and_eq_true_iff.1 h).2).1
 simpa using this
theorem zn6 {fn:Func} {code:Code} {b:Nat->List Bool} (h:opB P fn code b=true):jI fn.ntmps b code=true:=(Bool.and_eq_true_iff.1 (Bool.and_eq_true_iff.1 h).2).2
theorem foF {f:FuncId} {fn:Func} {code:Code} {args:List C} {r:C} {n:Nat} (b:Nat->List Bool) (hf:P.funcs[f]?=some fn)
  (h:Vc P G ⟨0,none,b⟩ code (Nz P fn.results.toList (fun c σ=>∃ (fr:Fr) (src:Src),zaq fr σ.bx/\Qu src=true/\src.length=n/\CLe src 0 (c.fy σ.nx fr σ.bx) r) ⟨⟩) ⟨V7 0 args,[],0,0⟩ ⟨⟩ ⟨⟩) (hb:fn.body=some code:=by rfl) (hN:args.length<=fn.ntmps:=by exact ziD rfl) (ho:opB P fn code b=true:=by kernel_rfl):Fun P G f args r n:=Fun.of_awpF b (zn3 ho) hf hb (zpx ho) hN (zn6 ho) h
theorem foX {f:FuncId} {fn:Func} {code:Code} {args:List C} {bx:List (List C)} {q:Nat} {post:C->List (List C)->Nat->Prop} (b:Nat->List Bool) (hf:P.funcs[f]?=some fn)
  (h:Vc P G ⟨bx.length,none,b⟩ code (Nz P fn.results.toList (fun c σ=>∃ r bx' n,(post r bx' n/\bx.length<=bx'.length)/\∃ src:Src,Qu src=true/\src.length=n/\zd src bx'.length σ.bx bx'/\CLe src bx'.length c r) ⟨⟩) ⟨V7 0 args,bx,q,0⟩ ⟨⟩ ⟨⟩) (hb:fn.body=some code:=by rfl) (hN:args.length<=fn.ntmps:=by exact ziD rfl) (ho:opB P fn code b=true:=by kernel_rfl):XG P G f args bx q post:=XG.of_awp b (zn3 ho) hf hb (zpx ho) hN (zn6 ho) h
theorem zov {f:FuncId} {args fargs:List C} {r:C} {n:Nat} (gargs:List C) (hf:Fun P G f gargs r n) (hr:r.freshB=true) (hl:XB bx args gargs) (hK:K3 (r.sh nx) ⟨tm,bx,nx+n,lg⟩):QT P G f args fargs ⟨tm,bx,nx,lg⟩ K3 ⟨⟩:=.inr <| .inr <| .inl ⟨gargs,r,n,hl,hf,hr,hK⟩
theorem call {f:FuncId} {args fargs:List C} {r:C} {n:Nat} (hf:Fun P G f fargs r n) (hK:K3 (r.sh nx) ⟨tm,bx,nx+n,lg⟩):QT P G f args fargs ⟨tm,bx,nx,lg⟩ K3 ⟨⟩:=.inl ⟨r,n,hf,hK⟩
theorem kU {f:FuncId} {args:List C} {r:C} {n:Nat} (hf:Fun P G f args r n) (hK:K2 (r.sh nx) (nx+n)):xJ P G f args nx K2 ⟨⟩:=uq.mk hf hK
theorem Fun.less {f:FuncId} {args args':List C} {r:C} {n:Nat} (hf:Fun P G f args' r n) (hl:zg [] 0 args args'):Fun P G f args r n:=⟨hf.1,fun R vs hg ha=>hf.2 R vs hg (by
 have:=zy.less _ _ _ hl ha
 refine zy.ext (Ext.refl R) ⟨fun i b hb=>?_,fun id x hx=>?_⟩ _ _ this
 ·simp at hb
 ·have hx:ZR [] zK.T id=some x:=hx
  simp[ZR]at hx)⟩
theorem yB {f:FuncId} {args fargs a1:List C} {fbx fbx':List (List C)} {r:C} {n q:Nat} (ι κ:List Nat) (hf:xA P G f a1 fbx q r fbx' n) (hq:κ.length=q) (hι:ι.Nodup) (hκ:κ.Nodup) (hb:∀ i∈ι,i<bx.length)
  (ha:C.reL (XD ι) (XD κ) args=a1) (hx:(ι.map fun i=>C.reL (XD ι) (XD κ) (bx.getD i []))=fbx) (hK:K3 (r.re (upB ι bx.length) (upO nx)) (Zu ι κ fbx' n ⟨tm,bx,nx,lg⟩)):QT P G f args fargs ⟨tm,bx,nx,lg⟩ K3 ⟨⟩:=
 .inr <| .inl ⟨ι,κ,r,fbx',n,hι,hκ,hb,by rw[ha,hq];exact hx▸hf,hK⟩
theorem range {A B:Nat->(Exit->St->Prop)->St->Prop} {ps:List Tmp} {f:FuncId} {first cap first' cap':List C} {bx':List (List C)} (items:List (List C)) (sf:Nat->Bool) (m:Nat) (I:Nat->St) (hit:xz P G f first' cap' bx' items) (e1:C.selL (YU m) first=first') (e2:C.selL (YU m) cap=cap') (e3:(bx.drop m).map (C.selL (YU m))=bx')
  (hp:p<=m) (hm:m<=bx.length) (hlen:∀ it∈items,it.length=ps.length) (hI:∀ k,k<=items.length->(I k).bx.length=m) (hw:JP m ⟨[],bx,nx,lg⟩ ((I 0).wt []))
  (hbody:∀ k it,items[k]?=some it->(∀ j,j<k->sf j=false)->A m (zjW (B m (yg m (kJ m tm) (sf k) (I (k+1)) Q ⟨⟩ ⟨⟩)) ⟨⟩) ((I k).wt (Z3 ps it (kJ m tm))))
  (hdone:(∀ j,j<items.length->sf j=false)->Q .normal ((I items.length).wt (kJ m tm))):zd5 P G p A B Q ps (.clo (.func f) first cap) ⟨tm,bx,nx,lg⟩ ⟨⟩ ⟨⟩ ⟨⟩:=
 ⟨items,sf,m,I,hp,hm,by rw[e1,e2];exact e3▸hit,hlen,hI,hw,hbody,hdone⟩
theorem loop {B:(Exit->St->Prop)->St->Prop} {ι:Type} (I:ι->St) (ok:ι->Prop) (μ:ι->Nat) (i0:ι) (h0:ok i0) (hw:JP p σ (I i0))
  (hr:∀ i,ok i->B (uE (fun σ'=>∃ j,ok j/\μ j<μ i/\JP p σ' (I j)) Q ⟨⟩ ⟨⟩) (I i)):zeL p B Q σ ⟨⟩ ⟨⟩:=⟨ι,I,ok,μ,i0,h0,hw,hr⟩
theorem fof {f:FuncId} {fn:Func} {code:Code} {args:List C} {r:C} {n:Nat} (b:Nat->List Bool) (hf:P.funcs[f]?=some fn)
  (h:Vc P G ⟨0,none,b⟩ code (Nz P fn.results.toList (fun c σ=>∃ src:Src,Qu src=true/\src.length=n/\CLe src 0 (c.fz σ.bx) r) ⟨⟩) ⟨V7 0 args,[],0,0⟩ ⟨⟩ ⟨⟩) (hb:fn.body=some code:=by rfl) (hN:args.length<=fn.ntmps:=by exact ziD rfl) (ho:opB P fn code b=true:=by kernel_rfl):Fun P G f args r n:=Fun.of_awp b (zn3 ho) hf hb (zpx ho) hN (zn6 ho) h
theorem fon {f:FuncId} {fn:Func} {code:Code} {args:List C} {r:C} {n:Nat} (hf:P.funcs[f]?=some fn)
  (h:Vc P G ⟨0,none,fun _=>[]⟩ code (Nz P fn.results.toList (fun c σ=>∃ src:Src,Qu src=true/\src.length=n/\CLe src 0 (c.fz σ.bx) r) ⟨⟩) ⟨V7 0 args,[],0,0⟩ ⟨⟩ ⟨⟩) (hb:fn.body=some code:=by rfl) (hN:args.length<=fn.ntmps:=by exact ziD rfl) (ho:opB P fn code (fun _=>[])=true:=by kernel_rfl):Fun P G f args r n:=fof _ hf h hb hN ho
theorem foB {f:FuncId} {fn:Func} {code:Code} {args:List C} {bx bx':List (List C)} {r:C} {q n:Nat} (b:Nat->List Bool) (hf:P.funcs[f]?=some fn)
  (h:Vc P G ⟨bx.length,none,b⟩ code (Nz P fn.results.toList (fun c σ=>∃ src:Src,Qu src=true/\src.length=n/\zd src bx'.length σ.bx bx'/\CLe src bx'.length c r) ⟨⟩) ⟨V7 0 args,bx,q,0⟩ ⟨⟩ ⟨⟩) (hb:fn.body=some code:=by rfl) (hN:args.length<=fn.ntmps:=by exact ziD rfl) (ho:opB P fn code b=true:=by kernel_rfl) (hlen:bx.length<=bx'.length:=by exact ziD rfl):xA P G f args bx q r bx' n:=xA.of_awp b (zn3 ho) hf hb (zpx ho) hN (zn6 ho) hlen h
theorem foI {f:FuncId} {fn:Func} {code:Code} {first cap:List C} {bx items:List (List C)} (b:Nat->List Bool) (hf:P.funcs[f]?=some fn)
  (h:∀ (l:Nat) (sf:Nat->Bool),Vc P G ⟨0,some ⟨l,items,sf⟩,b⟩ code (Nz P fn.results.toList (fun c σ=>zlm items sf σ.lg) ⟨⟩) ⟨V7 0 (first++[.sc (.func (.yield l) #[] #[])]++cap),bx,0,0⟩ ⟨⟩ ⟨⟩) (hb:fn.body=some code:=by rfl) (hN:first.length+1+cap.length<=fn.ntmps:=by exact ziD rfl) (ho:opB P fn code b=true:=by kernel_rfl):xz P G f first cap bx items:=xz.of_awp b (zn3 ho) hf hb (zpx ho) hN (zn6 ho) h
theorem zqQ {i m k n cap b:Nat} {cs xs:List C} {z1:List Value} (A:List C) (hbx:bx[i]?=some cs) (h1:z1.length=k) (h2:0<k) (h3:(z1.all Value.oneCell')=true) (h4:0<m) (hp:p<=i) (hl:cs.length=cap*k) (hn:n<=cap) (hc:cap<=9223372036854775807)
  (h5:n+m<=9223372036854775807) (h6:(n+m)*b<=140737488355328) (hA:C.reL (JZ i) some (cs.take (n*k)++xs)=A)
  (hK:∀ c',n+m<=c'->c'<=9223372036854775807->K3 (.bs i 0 k (n+m) c') ⟨Hj (JZ i) some tm,Zq i (A++List.replicate ((c'-(n+m))*k) .any) bx,nx,lg⟩):zpk (some (m,xs)) p k b z1 (.bs i 0 k n cap) ⟨tm,bx,nx,lg⟩ K3 ⟨⟩:=by
 refine ⟨h1,h2,h3,h4,?_⟩
 simp only[hbx]
 exact ⟨trivial,hp,hl,hn,hc,h5,h6,fun c' q1 q2=>by rw[hA];exact hK c' q1 (by unfold maxLen at q2;omega)⟩
theorem zar (k:Nat):((k:Int)+1).toNat=k+1:=by omega
theorem ziv.mk {B:(Exit->St->Prop)->St->Prop} {ι:Type} (I:ι->St) (ok:ι->Prop) (μ:ι->Nat) (i0:ι) (h0:ok i0) (hw:JP p σ (I i0))
  (hr:∀ i,ok i->B (zl3 (fun σ'=>∃ j,ok j/\μ j<μ i/\JP p σ' (I j)) Q) (I i)):ziv p B Q σ:=⟨ι,I,ok,μ,i0,h0,hw,hr⟩
end
attribute [push_cast] eq_self iff_self List.append_eq zqg zrR zr2 zr7 zru zqm zqi zqP zqD zb4 zrb zk9 zjF zn0 zo6 znC zpa znM zkH zmq znV zlY znf zow zmX zrh zpH zkq zoD zqA zqM zpE zlg zn7 zjM zkX zh4 zef zhH zit zji zdM zc5 zcJ zhX znx zpn znz znL zfO yW zrP zjz zkN zkV znD zoV yj zbL zfY MU MC yI zaA Mw ziM yv za7 zlv zmb znl zoE znJ zoY zoQ zpf zmS zok zjI zhe zgW zi6 zgH zkr znO zoJ zmw zl7 zaU zay x7 y8 kV k8 GM zpG zlq zhc zg4 zat zbZ zju zjJ zd7 zea zhG zjB MX M3 zcQ zdi ziG zi1 xP NQ zd4 zgh GI H9 zf3 zc0 GW Nl zf5 zfp xW xT zdy zdH zmf zmz xU zoN zmm zbr znR zjs zaE zoO zbT zhR ziL zeM zln zp2 zgM zev zam zdQ zkU zdK zh8 zaG zel vt xK zoj vy NR y5 Gt ve NP zfo zcY zcg zgz N5 zfq M2 zfh zbX ze4 zdc zgX zbD zgZ zgn ziw zmI zcx zcy zdP zgi zfu zc8 zgs zdt zfc zeY zeI zd6 zeQ zfv zdl zb0 zgP zeN zqj zf9 zo9 zch zca zl8 Ge za6 vg zbm NW N7 zmh zin zgj zrV zp4 zg7 zhl zrv zaz zap zdN zfA zbt za2 zaR zey zdF zgO zi5 zi0 zjC zhF zrS zra zq0 zqX zr5 zqH zqd zmM zo7 zlF zkE zht zk8 zoA zoa zbH zce zbe zpz zrZ zmn zr4 zqR znh zrw zq4 zbM zgx zhk zaW zn9 zpI zjh zh5 ziW zbf zbJ zbO zdG zbh znT zbB zjK zex zgQ zf4 zfa znN zpm zk6 ziA zrK zmF znI zmK zqw zqL zrU zqU zqZ zqy zqo zpK zn4 zrW zqG zp8 ze9 yx zpR zri zrc znH zqO zqs zp7 zl5 zmN zhs znj zq2 zqh zkD zn5 zlK znK zim zig zhn zmj ziX zil zkn zqx zq6 zqc zqK ziu zlk zmO zc4 zg0 zh1 zhY zkt zkm zcf zfk ziC zg3 ziT zmW zlO zkL zlX zaV zn8 zbA zdm zgl zi3 ziP ziK zk1 zhW zis zdY zly zhU zas zhL zfD zjN zlx zi7 zks zbW zhZ zg1 zhr zkG zcd zi2 ziF zd0 zmR zmZ zkR zlt zlB zl6 zkS zia zhD zje zjc ze0 za5 zeE zdO zb6 vd zh2 zjl ziR zgA zbz zja ziB zgc zba zcC zc1 zao vh zhg zhE ziq zcB zaC zh3 zif zih zdf zax zbY zoL zcp zoR vl vC vf zbg zbI zcm Nj Ga Gj vr yr xM xG yG yL zaS zbu zaB x8 vu zdC zbN vj MD zlu zlM zkJ znX zeb za0
attribute [push_cast] Int.ofNat_eq_natCast Bool.not_false Bool.not_true Bool.true_beq Bool.false_beq beq_self_eq_true Bool.true_and zk5 zkM zoM zlW zmv List.map_cons List.map_nil List.getElem?_cons_zero List.getElem?_cons_succ List.getElem?_toArray List.getElem?_nil List.drop_zero List.drop_succ_cons List.drop_nil List.take_succ_cons List.take_zero List.take_nil List.length_cons List.length_nil List.getD_cons_zero List.getD_cons_succ List.set_cons_zero List.set_cons_succ List.cons_append List.nil_append List.append_nil List.all_cons List.all_nil List.tail_cons List.tail_nil List.headD_cons List.headD_nil List.flatten_cons List.flatten_nil List.replicate_succ List.replicate_zero Bool.and_self Bool.and_true Bool.true_and Bool.not_true Bool.not_false Option.bind_some Option.map_some Option.map_none if_true if_false true_and and_true and_self decide_true decide_false Int.ofNat_le Int.ofNat_lt Int.natCast_inj zar Int.toNat_natCast Nat.zero_add Nat.add_zero List.toList_toArray Int.add_zero Int.zero_add Bool.not_not Int.sub_zero Int.natCast_pos Nat.sub_zero Int.cast_ofNat_Int Nat.one_mul Nat.mul_one
theorem dn {p q r:Src->Prop} (c:r []:=by push_cast -dsimp [ze,zd,CLe,zg]) (a:p []:=by rfl) (b:q []:=by rfl):∃ s,p s/\q s/\r s:=⟨[],a,b,c⟩
theorem wks {p:Nat} {σ σ':St} (src:Src) (h4:ze src σ'.bx.length σ.tm σ'.tm:=by push_cast -dsimp [ze,zd,CLe,zg]) (h5:zd src σ'.bx.length σ.bx σ'.bx:=by push_cast -dsimp [ze,zd,CLe,zg]) (h1:Qu src=true:=by rfl) (h2:src.length=σ'.nx:=by rfl)
  (h3:p<=σ'.bx.length:=by first | exact Nat.zero_le _ | exact Nat.le_refl _ | exact ziD rfl) (h0:σ'.lg=σ.lg:=by rfl):JP p σ σ':=⟨src,h1,h2,h3,h0,h4,h5⟩
theorem wk {p:Nat} {σ σ':St} (h4:ze [] σ'.bx.length σ.tm σ'.tm:=by push_cast -dsimp [ze,zd,CLe,zg]) (h5:zd [] σ'.bx.length σ.bx σ'.bx:=by push_cast -dsimp [ze,zd,CLe,zg]) (h2:([]:Src).length=σ'.nx:=by rfl)
  (h3:p<=σ'.bx.length:=by first | exact Nat.zero_le _ | exact Nat.le_refl _ | exact ziD rfl) (h0:σ'.lg=σ.lg:=by rfl):JP p σ σ':=⟨[],rfl,h2,h3,h0,h4,h5⟩
theorem an {a b:Prop} (k:b) (h:a:=by first | omega | (simp only[lS];omega)):a/\b:=⟨h,k⟩
namespace CA
theorem cl {P:Program} {G:zr} {f:FuncId} {args fargs:List C} {r:C} {n nx lg:Nat} {tm:List (Nat×C)} {bx:List (List C)} {K3:C->St->Prop} (hf:Fun P G f fargs r n) (hK:K3 (r.sh nx) ⟨tm,bx,nx+n,lg⟩):QT P G f args fargs ⟨tm,bx,nx,lg⟩ K3 ⟨⟩:=call hf hK
end CA
namespace CB
theorem cl {P:Program} {G:zr} {f:FuncId} {args:List C} {r:C} {n nx:Nat} {K2:C->Nat->Prop} (hf:Fun P G f args r n) (hK:K2 (r.sh nx) (nx+n)):xJ P G f args nx K2 ⟨⟩:=kU hf hK
end CB
end
section
open Go.RowKit
def C.stayB:C->Bool
 | .sc _ | .str _ | .sl _ _ | .tight _ _ | .row _ | .any=>true
 | _=>false
theorem zho {c:C} (h:c.stayB=true):c.frz=c:=by cases c<;>simp[C.stayB]at h<;>simp[C.frz]
theorem zku {c:C} {fp fo:Nat->Option Nat} (h:c.stayB=true):c.re fp fo=c:=by cases c<;>simp[C.stayB]at h<;>simp[C.re]
theorem zkv {c:C} {src:Src} {n:Nat} (h:c.stayB=true):CLe src n c c:=by cases c<;>simp[C.stayB]at h<;>simp[CLe]
theorem xa:∀ {cs:List C},(cs.all C.stayB)=true->C.frzL cs=cs
 | [],_=>by simp[C.frzL]
 | c :: r,h=>by
  simp only[List.all_cons,Bool.and_eq_true]at h
  rw[C.frzL,zho h.1,xa h.2]
theorem zB {fp fo:Nat->Option Nat}:∀ {cs:List C},(cs.all C.stayB)=true->C.reL fp fo cs=cs
 | [],_=>by simp[C.reL]
 | c :: r,h=>by
  simp only[List.all_cons,Bool.and_eq_true]at h
  rw[C.reL,zku h.1,zB h.2]
theorem zT {src:Src} {n:Nat}:∀ {cs:List C},(cs.all C.stayB)=true->zg src n cs cs
 | [],_=>by simp[zg]
 | c :: r,h=>by
  simp only[List.all_cons,Bool.and_eq_true]at h
  rw[zg]
  exact ⟨zkv h.1,zT h.2⟩
theorem zmD {src:Src} {n:Nat} (c:C):CLe src n c .any:=by cases c<;>simp[CLe]
theorem Xv {src:Src} {n:Nat}:∀ {cs:List C} {m:Nat},cs.length=m->zg src n cs (List.replicate m .any)
 | [],_,h=>by subst h;simp[zg]
 | c :: r,_,h=>by
  subst h
  rw[List.length_cons,List.replicate_succ,zg]
  exact ⟨zmD c,Xv rfl⟩
theorem zdx {src:Src} {n:Nat}:∀ {a b c d:List C},zg src n a c->zg src n b d->zg src n (a++b) (c++d)
 | [],b,[],d,_,h=>h
 | [],b,x :: c,d,h,_=>by simp[zg]at h
 | x :: a,b,[],d,h,_=>by simp[zg]at h
 | x :: a,b,y :: c,d,h,h'=>by
  rw[List.cons_append,List.cons_append,zg]
  rw[zg]at h
  exact ⟨h.1,zdx h.2 h'⟩
def qw (k:Nat) (rows:List (List C)) (c:Nat):List C:=rows.flatten++List.replicate ((c-rows.length)*k) .any
theorem qt {k:Nat}:∀ {rows:List (List C)},(∀ r∈rows,r.length=k)->rows.flatten.length=rows.length*k
 | [],_=>by simp
 | r :: rs,h=>by
  rw[List.flatten_cons,List.length_append,h r List.mem_cons_self,qt fun x hx=>h x (List.mem_cons_of_mem _ hx),List.length_cons,Nat.succ_mul,Nat.add_comm]
theorem JI {k c:Nat} {rows:List (List C)} (h:∀ r∈rows,r.length=k) (hc:rows.length<=c):(qw k rows c).length=c*k:=by
 unfold qw
 rw[List.length_append,qt h,List.length_replicate,←Nat.add_mul]
 congr 1;omega
abbrev jA (rows:List (List C)):Prop:=∀ r∈rows,(r.all C.stayB)=true
theorem Qe {rows:List (List C)} (h:jA rows):(rows.flatten.all C.stayB)=true:=by
 rw[List.all_eq_true]
 intro c hc
 obtain ⟨r,hr,hc⟩:=List.mem_flatten.1 hc
 exact List.all_eq_true.1 (h r hr) c hc
theorem zF {k c:Nat} {rows:List (List C)} (h:jA rows):((qw k rows c).all C.stayB)=true:=by
 unfold qw
 rw[List.all_append,Qe h,Bool.true_and,List.all_eq_true]
 intro c hc
 obtain ⟨_,rfl⟩:=List.mem_replicate.1 hc
 rfl
theorem ZJ {k n:Nat}:∀ {rows:List (List C)},(∀ r∈rows,r.length=k)->rows.flatten.take (n*k)=(rows.take n).flatten:=by
 induction n with
 | zero=>intro rows _;simp
 | succ n ih =>
  intro rows h
  cases rows with
  | nil=>simp
  | cons r rs =>
   have hr:=h r List.mem_cons_self
   rw[List.take_succ_cons,List.flatten_cons,List.flatten_cons,List.take_append,List.take_of_length_le (by rw[hr,Nat.succ_mul];omega),hr,show (n+1)*k-k=n*k by rw[Nat.succ_mul];omega,ih fun x hx=>h x (List.mem_cons_of_mem _ hx)]
theorem kC {k n:Nat}:∀ {rows:List (List C)},(∀ r∈rows,r.length=k)->rows.flatten.drop (n*k)=(rows.drop n).flatten:=by
 induction n with
 | zero=>intro rows _;simp
 | succ n ih =>
  intro rows h
  cases rows with
  | nil=>simp
  | cons r rs =>
   have hr:=h r List.mem_cons_self
   rw[List.drop_succ_cons,List.flatten_cons,List.drop_append,List.drop_of_length_le (by rw[hr,Nat.succ_mul];omega),hr,List.nil_append,show (n+1)*k-k=n*k by rw[Nat.succ_mul];omega,ih fun x hx=>h x (List.mem_cons_of_mem _ hx)]
theorem Jz {src:Src} {m k c:Nat} {rows:List (List C)} {cs:List C} (hk:∀ r∈rows,r.length=k) (hs:jA rows) (hc:rows.length<=c) (hl:cs.length=c*k) (ht:cs.take (rows.length*k)=rows.flatten):zg src m cs (qw k rows c):=by
 have h1:cs=rows.flatten++cs.drop (rows.length*k):=by rw[←ht,List.take_append_drop]
 rw[h1]
 unfold qw
 refine zdx (zT (Qe hs)) (Xv ?_)
 rw[List.length_drop,hl,←Nat.sub_mul]
theorem QW {cs xs:List C} {p:Nat} (h:p+xs.length<=cs.length):(spl cs p xs).length=cs.length:=by
 simp[spl];omega
theorem UE {cs L X:List C} {p q:Nat} (hp:p<=L.length) (hq:q=p+X.length) (hL:cs.take L.length=L) (hc:L.length+X.length<=cs.length) :
  (spl (spl cs q (L.drop p)) p X).take (L.length+X.length)=L.take p++(X++L.drop p):=by
 subst hq
 apply List.ext_getElem?
 intro j
 have hcur:∀ j,j<L.length->cs[j]?=L[j]?:=fun j hj=>by
  have h:=congrArg (fun l=>l[j]?) hL
  simp only[List.getElem?_take,if_pos hj]at h
  exact h
 simp only[spl,List.getElem?_take,List.getElem?_append,List.getElem?_drop,List.length_take,List.length_append,List.length_drop]
 repeat' (first | split | omega)
 all_goals (first | rfl | omega | exact (List.getElem?_eq_none (by omega)).symm | (congr 1;omega) | (rw[hcur _ (by omega)];first | done | (congr 1;omega)) | (symm;rw[List.getElem?_eq_none];simp;omega) | (rw[List.getElem?_eq_none];simp;omega) | skip)
theorem Gd {cs L X:List C} {p q:Nat} (hp:p<=L.length) (hq:q=p+X.length) (hL:cs.take p=L.take p) (hc:L.length+X.length<=cs.length) :
  (spl (spl cs p X) q (L.drop p)).take (L.length+X.length)=L.take p++(X++L.drop p):=by
 subst hq
 apply List.ext_getElem?
 intro j
 have hcur:∀ j,j<p->cs[j]?=L[j]?:=fun j hj=>by
  have h:=congrArg (fun l=>l[j]?) hL
  simp only[List.getElem?_take,if_pos hj]at h
  exact h
 simp only[spl,List.getElem?_take,List.getElem?_append,List.getElem?_drop,List.length_take,List.length_append,List.length_drop]
 repeat' (first | split | omega)
 all_goals (first | rfl | omega | exact (List.getElem?_eq_none (by omega)).symm | (congr 1;omega) | (rw[hcur _ (by omega)];first | done | (congr 1;omega)) | (symm;rw[List.getElem?_eq_none];simp;omega) | (rw[List.getElem?_eq_none];simp;omega) | skip)
theorem zms {cs L Z:List C} {p q n:Nat} (hq:q<=L.length) (hpq:p<=q) (hL:cs.take L.length=L) (hn:n=p+(L.length-q)) (hc:L.length<=cs.length) (hz:n+Z.length<=cs.length) :
  (spl (spl cs p (L.drop q)) n Z).take n=L.take p++L.drop q:=by
 subst hn
 apply List.ext_getElem?
 intro j
 have hcur:∀ j,j<L.length->cs[j]?=L[j]?:=fun j hj=>by
  have h:=congrArg (fun l=>l[j]?) hL
  simp only[List.getElem?_take,if_pos hj]at h
  exact h
 simp only[spl,List.getElem?_take,List.getElem?_append,List.getElem?_drop,List.length_take,List.length_append,List.length_drop]
 repeat' (first | split | omega)
 all_goals (first | rfl | omega | exact (List.getElem?_eq_none (by omega)).symm | (congr 1;omega) | (rw[hcur _ (by omega)];first | done | (congr 1;omega)) | (symm;rw[List.getElem?_eq_none];simp;omega) | (rw[List.getElem?_eq_none];simp;omega) | skip)
theorem yi {P:Program} {f:FuncId} {fn:Func} {t e tR:TypeId} {s1 b1 k by':Nat} {kd:LK} {z1 z:Option (List Value)} (hf:P.funcs[f]?=some fn) (hname:(fn.name == "runtime.NumGoroutine")=false) (hb:fn.body.isNone=true) (hn:Extern.findNext fn=none)
  (he:Extern.find fn=some (Extern.SlicesOverlaps.overlaps #[t,t] #[tR])) (hl:lay P t=some ⟨.slice e,s1,b1,z1⟩) (hle:lay P e=some ⟨kd,k,by',z⟩) {id e' k' i off n c:Nat} {rows bx:List (List C)} {cs:List C} (hbx:bx[i]?=some cs) (hcs:cs≠[]) (hrows:rows≠[]) (hn0:0<n) :
  zqp P f [.own id e' k' rows,.bs i off k n c] bx (.sc (.bool false)):=by
 intro B R L vs hB hO hr
 obtain ⟨v1,us,rfl,h1,hr⟩:=zf.1 hr
 obtain ⟨v2,us,rfl,h2,hr⟩:=zf.1 hr
 rw[zl]at hr
 subst hr
 refine ⟨.bool false,?_,zq.2 rfl⟩
 rw[run_callFunc_extern hf hname hb hn he]
 have ht:=qe hl rfl
 have hz:∀ w,(Go.sizeOf e).run P w = .ok k w:=fun w=>qK hle w
 obtain ⟨hT,a,cap,hv1,_⟩:=YL.1 h1
 obtain ⟨b,hbi,ad,rfl,had⟩:=jk.1 h2
 obtain ⟨us,ty,e1,e2,e3,e4⟩:=hB.box i b cs hbi hbx
 have hsz:us.size≠0:=by
  have:=zx e2
  simp only[Array.length_toList]at this
  rw[this]
  exact fun h=>hcs (List.eq_nil_of_length_eq_zero h)
 rcases hO.own id e' k' v1 hT with hnil | ⟨g,n',cap',cur,ty',q1,q2,q3,q4,q5,q6,q7,q8⟩ | ⟨_,_,_,_,hmap,_⟩
 rotate_right
 ·rw[hv1]at hmap;unfold Ur at hmap;cases hmap
 ·rw[hnil]at hv1
  obtain ⟨_,h0,_⟩:=Value.slice.inj hv1
  exact absurd (List.eq_nil_of_length_eq_zero h0.symm) hrows
 ·rw[q1]
  obtain rfl:=had (by omega)
  have hne:g≠b:=fun h=>q7 (h▸List.mem_of_getElem? hbi)
  rw[Lib.run_overlaps_apart R.w t tR e ht k hz ⟨g,0,none⟩ ⟨b,off,none⟩ n' cap' n c hne ty' ty cur.size us.size (by simp[World.shape?,q3]) (by simp[World.shape?,e1]) hsz (frozen_of_row R.w g 0 _ _ q3) (frozen_of_row R.w g _ _ _ q3)]
  rfl
theorem VP {m k:Nat} {z:List C} (hz:z.length=k):(List.replicate m z).flatten.length=m*k:=by
 have h:=qt (k:=k) (rows:=List.replicate m z) fun r hr=>by rw[(List.mem_replicate.1 hr).2];exact hz
 rw[h,List.length_replicate]
section
variable {P:Program} {t tn e s1 b1 s2 b2 k by' m i off n cap nx lg:Nat} {kd:LK} {kn kq:IntKind} {z1 z2 z3:Option (List Value)} {z:List Value} {cs xs:List C} {bx:List (List C)} {tm:List (Nat×C)} {d:C} {q:Int} {K3:C->St->Prop}
theorem zkP (hl:lay P t=some ⟨.slice e,s1,b1,z1⟩) (hln:lay P tn=some ⟨.int kn,s2,b2,z2⟩) (hle:lay P e=some ⟨kd,k,by',some z⟩) (hz:z.length=k) (hk:0<k) (h1:(z.all Value.oneCell')=true)
  (hb:bx[i]?=some cs) (hfit:off+cap*k<=cs.length) (hn:n<=cap) (hq:0<q) (h63:(n:Int)+q<=9223372036854775807) (hby:((n:Int)+q)*by'<=140737488355328) (hg:(cap:Int)<n+q)
  (hK:∀ c' B,n+q.toNat<=c'->c'<=9223372036854775807->B.length=c'*k->B.take (n*k)=(cs.drop off).take (n*k)->K3 (.bs bx.length 0 k (n+q.toNat) c') ⟨tm,bx++[B],nx,lg⟩):vN P t tn (.bs i off k n cap) (.sc (.int kq q)) ⟨tm,bx,nx,lg⟩ K3 ⟨⟩:=by
 have hnk:n*k<=cap*k:=Nat.mul_le_mul_right _ hn
 refine zsf hl hln hle hz hk h1 hb hfit hn hq h63 hby hg fun c' g1 g2=>hK c' _ g1 g2 ?_ ?_
 ·rw[List.length_append,List.length_append,VP (k:=k) (by simpa using hz),List.length_replicate,List.length_take,List.length_drop,Nat.min_eq_left (by omega),←Nat.add_mul,←Nat.add_mul]
  congr 1;omega
 ·rw[List.append_assoc,List.take_left' (by rw[List.length_take,List.length_drop];omega)]
theorem Xy (hl:lay P t=some ⟨.slice e,s1,b1,z1⟩) (hle:lay P e=some ⟨kd,k,by',z3⟩) (hx:d.xs? k bx=some (m,xs)) (hb:bx[i]?=some cs) (hxl:xs.length=m*k) (hfit:off+n*k<=cs.length)
  (hK:∀ B,B=spl cs off (xs.take (min m n*k))->B.length=cs.length->K3 (.sc (.int .i64 ((min m n:Nat):Int))) ⟨tm,bx.set i B,nx,lg⟩):NL P t (.bs i off k n cap) d ⟨tm,bx,nx,lg⟩ K3 ⟨⟩:=
 zkZ hl hle hx hb hxl hfit (hK _ rfl (by
  have h1:min m n*k<=n*k:=Nat.mul_le_mul_right _ (Nat.min_le_right _ _)
  exact QW (by rw[List.length_take];omega)))
theorem zmV (hl:lay P t=some ⟨.slice e,s1,b1,z1⟩) (hle:lay P e=some ⟨kd,k,by',some z⟩) (hb:bx[i]?=some cs) (hz:z.length=k) (hk:0<k) (h1:(z.all Value.oneCell')=true) (hfit:off+n*k<=cs.length)
  (hK:∀ B Z,B=spl cs off Z->Z.length=n*k->B.length=cs.length->K3 .any ⟨tm,bx.set i B,nx,lg⟩):vo P t (.bs i off k n cap) ⟨tm,bx,nx,lg⟩ K3 ⟨⟩:=by
 have hZ:(List.replicate n (z.map zE)).flatten.length=n*k:=VP (by simpa using hz)
 exact znW hl hle hb hz hk h1 hfit (hK _ _ rfl hZ (QW (by omega)))
end
theorem ku {k i off n c:Nat} {bx:List (List C)} {cs:List C} (hb:bx[i]?=some cs) (h:off+n*k<=cs.length):C.xs? k bx (.bs i off k n c)=some (n,(cs.drop off).take (n*k)):=by
 simp[C.xs?,hb,h]
theorem Xj {k c i:Nat} {rows:List (List C)} (hk:∀ r∈rows,r.length=k) (hi:i<=rows.length):((qw k rows c).drop (i*k)).take ((rows.length-i)*k)=rows.flatten.drop (i*k):=by
 have hf:=qt hk
 have h1:i*k<=rows.length*k:=Nat.mul_le_mul_right _ hi
 unfold qw
 rw[List.drop_append_of_le_length (by omega),List.take_left' (by rw[List.length_drop,hf,Nat.sub_mul])]
theorem Qt {k i:Nat} {rows:List (List C)} {x:List C} (hk:∀ r∈rows,r.length=k):rows.flatten.take (i*k)++(x++rows.flatten.drop (i*k))=(rows.take i++x :: rows.drop i).flatten:=by
 rw[ZJ hk,kC hk];simp
theorem vJ {bx:List (List C)} {i e k c:Nat} {rows:List (List C)} {cs:List C} (hb:bx[i]?=some cs) (hc:0<c) (h1:rows.length<=c) (h2:c<=9223372036854775807) (hl:cs.length=c*k) (hk:∀ r∈rows,r.length=k) (hs:(cs.all C.stayB)=true) (ht:cs.take (rows.length*k)=rows.flatten) :
  zaq [(i,e,k,rows,c)] bx:=by
 refine ⟨by simp,fun x hx=>?_⟩
 rw[List.mem_singleton]at hx
 subst hx
 exact ⟨cs,hb,hc,h1,by unfold maxLen;exact h2,hl,hk,by rw[xa hs];exact ht⟩
theorem zcD {k c:Nat} {rows:List (List C)} (hk:∀ r∈rows,r.length=k):(qw k rows c).take (rows.length*k)=rows.flatten:=by
 unfold qw;rw[List.take_left' (qt hk)]
theorem zA {bx:List (List C)} {i e k c:Nat} {rows:List (List C)} (hb:bx[i]?=some (qw k rows c)) (hc:0<c) (h1:rows.length<=c) (h2:c<=9223372036854775807) (hk:∀ r∈rows,r.length=k) (hs:jA rows):zaq [(i,e,k,rows,c)] bx:=
 vJ hb hc h1 h2 (JI hk h1) hk (zF hs) (zcD hk)
theorem uz {k c i:Nat} {rows:List (List C)} {row:List C} (hk:∀ r∈rows,r.length=k) (hr:row.length=k) (hi:i<rows.length):(qw k rows c).take (i*k)++row++(qw k rows c).drop (i*k+k)=qw k (rows.set i row) c:=by
 have hf:=qt hk
 have h1:(i+1)*k<=rows.length*k:=Nat.mul_le_mul_right _ hi
 rw[Nat.succ_mul]at h1
 unfold qw
 rw[List.take_append_of_le_length (by omega),List.drop_append_of_le_length (by omega),←Nat.succ_mul,ZJ hk,kC hk,List.length_set,←List.append_assoc]
 congr 1
 rw[List.set_eq_take_append_cons_drop,if_pos hi]
 simp
def RLe:List (List C)->List (List C)->Prop
 | [],[]=>True
 | a :: r,b :: s=>zg [] 0 a b/\RLe r s
 | _,_=>False
theorem RLe.len:∀ {a b:List (List C)},RLe a b->a.length=b.length
 | [],[],_=>rfl
 | _ :: r,_ :: s,h=>by rw[List.length_cons,List.length_cons,RLe.len h.2]
theorem zg.len {src:Src} {n:Nat}:∀ {a b:List C},zg src n a b->a.length=b.length
 | [],[],_=>rfl
 | [],_ :: _,h=>by simp[zg]at h
 | _ :: _,[],h=>by simp[zg]at h
 | _ :: r,_ :: s,h=>by
  rw[zg]at h
  rw[List.length_cons,List.length_cons,zg.len h.2]
theorem zdS {R:Env} {c d:C} {v:Value} (h:CLe [] 0 c d) (hr:Rep R zK c v):Rep R zK d v:=by
 refine Rep.ext (Ext.refl R) (T:=JB [] 0 zK) ⟨fun i b hb=>?_,fun id x hx=>?_⟩ _ _ (Rep.less _ _ _ h hr)
 ·simp at hb
 ·have hx:ZR [] zK.T id=some x:=hx
  simp[ZR]at hx
theorem UH {R:Env} {b:Nat}:∀ {cs ds:List C} {o:Nat},zg [] 0 cs ds->zQ R cs b o->zQ R ds b o
 | [],[],_,_,h=>h
 | [],_ :: _,_,h,_=>by simp[zg]at h
 | _ :: _,[],_,h,_=>by simp[zg]at h
 | c :: r,d :: s,o,h,hr=>by
  rw[zg]at h
  obtain ⟨⟨v,h1,h2,h3,h4⟩,h5⟩:=qn.1 hr
  exact qn.2 ⟨⟨v,h1,h2,zdS h.1 h3,h4⟩,UH h.2 h5⟩
theorem Hl {R:Env} {k b:Nat}:∀ {a c:List (List C)} {o:Nat},RLe a c->zW R a k b o->zW R c k b o
 | [],[],_,_,h=>h
 | x :: r,y :: s,o,h,hr=>by
  unfold zW at hr ⊢
  exact ⟨(zg.len h.1).symm.trans hr.1,UH h.1 hr.2.1,Hl h.2 hr.2.2⟩
theorem zav {R:Env} {L:Loc} {id e k:Nat} {a c:List (List C)} {v:Value} (h:RLe a c) (hr:Rep R L (.own id e k a) v):Rep R L (.own id e k c) v:=by
 obtain ⟨h1,ad,cap,h2,h3,h4,h5⟩:=YL.1 hr
 refine YL.2 ⟨h1,ad,cap,by rw[h2,h.len],by rw[←h.len];exact h3,h4,?_⟩
 rcases h5 with h5 | ⟨b,o,h5,h6⟩
 ·subst h5
  have:=h.len
  exact .inl (List.eq_nil_of_length_eq_zero (by simpa using this.symm))
 ·exact .inr ⟨b,o,h5,Hl h h6⟩
theorem Fun.resX {P:Program} {G:zr} {f:FuncId} {args:List C} {r r':C} {n:Nat} (hf:Fun P G f args r n) (h:∀ R L v,Rep R L r v->Rep R L r' v):Fun P G f args r' n:=
 ⟨hf.1,fun R vs hg ha=>(hf.2 R vs hg ha).mono fun e w' ⟨v,R',L',h1,h2,h3,h4⟩=>⟨v,R',L',h1,h2,h3,h _ _ _ h4⟩⟩
theorem zcn {R:Env} {L:Loc} {cs ds:List C} {v:Value} (h:∀ vs,zy R L cs vs->zy R L ds vs) (hr:Rep R L (.agg cs) v):Rep R L (.agg ds) v:=by
 obtain ⟨vs,h1,h2⟩:=jZ.1 hr
 exact jZ.2 ⟨vs,h1,h _ h2⟩
theorem Yz {R:Env} {L:Loc} {c d:C} {cs ds:List C} {vs:List Value} (h:∀ v,Rep R L c v->Rep R L d v) (h':∀ vs,zy R L cs vs->zy R L ds vs) (hr:zy R L (c :: cs) vs):zy R L (d :: ds) vs:=by
 obtain ⟨v,us,rfl,h1,h2⟩:=zf.1 hr
 exact zf.2 ⟨v,us,rfl,h _ h1,h' _ h2⟩
end
section
open Go.RowKit
def zeU (k:Nat) (rows:List (List C)) (r:C) (bx':List (List C)) (n:Nat):Prop:=
 n=0/\((rows≠[]/\∃ c,rows.length<=c/\c<=9223372036854775807/\r = .bs 1 0 k rows.length c/\bx' = [[],qw k rows c])∨(rows = []/\(r = .sc (.slice none 0 0)/\bx' = []∨r = .bs 0 0 k 0 0/\bx' = [[]])))
def zpW (k m:Nat) (ins:List (List C)) (r:C) (bx':List (List C)) (n:Nat):Prop:=
 n=0/\∃ c,ins.length<=c/\c<=9223372036854775807/\(r = .bs 0 0 k ins.length c/\bx' = [qw k ins c]∨r = .bs 1 0 k ins.length c/\bx' = [List.replicate m .any,qw k ins c])
section
variable {G:zr}
theorem Qo (rows:List (List C)) (hk:∀ r∈rows,r.length=6) (hs:jA rows) (hl:rows.length<=100000) :
  XG Tryz.prog G 178 [.sl 6 rows] [] 0 (zeU 6 rows):=by
 refine XG.bySlice (fun h=>?_) (fun h a cap hr=>?_)
 ·refine foX (fun i=>if i=1000000+22 then [true,true] else []) Tryz.func178 ?_;dsimp only[Tryz.f178]
  push_cast -dsimp
  refine ⟨h,Q6 Vi Vj rfl rfl (by decide) rfl (qt hk) rfl (Nat.le_refl _) (Nat.le_refl _) (by omega) (by omega) (fun hc=>absurd hc ?_) (fun _ c hc hm=>?_)⟩
  ·have:=List.length_pos_iff.2 h;omega
  ·push_cast -dsimp
   rw[Nat.zero_add]at hc
   refine ⟨_,_,_,⟨⟨rfl,.inl ⟨h,c,hc,hm,rfl,rfl⟩⟩,Nat.zero_le _⟩,[],rfl,rfl,?_,by push_cast -dsimp [ze,zd,CLe,zg]⟩
   push_cast -dsimp [ze,zd,CLe,zg]
   exact zT (zF hs)
 ·cases a with
  | none =>
   refine foX (fun i=>if i=1000000+22 then [true,true] else []) Tryz.func178 ?_;dsimp only[Tryz.f178]
   push_cast -dsimp [hr,Option.isNone_none]
   exact ⟨_,_,_,⟨⟨rfl,.inr ⟨h,.inl ⟨rfl,rfl⟩⟩⟩,Nat.zero_le _⟩,[],rfl,rfl,by push_cast -dsimp [ze,zd,CLe,zg],by push_cast -dsimp [ze,zd,CLe,zg]⟩
  | some a =>
   refine foX (fun i=>if i=1000000+22 then [true,true] else []) Tryz.func178 ?_;dsimp only[Tryz.f178]
   push_cast -dsimp [hr,Option.isNone_some]
   have hx:C.xs? 6 [[]] (C.sc (.slice (some a) 0 cap))=some (0,[]):=by simp[C.xs?,hr]
   refine Q6 Vi Vj hx rfl (by decide) rfl rfl rfl (Nat.le_refl _) (Nat.le_refl _) (by omega) (by omega) (fun _=>?_) (fun hc=>absurd hc (by omega))
   push_cast -dsimp
   exact ⟨_,_,_,⟨⟨rfl,.inr ⟨h,.inr ⟨rfl,rfl⟩⟩⟩,Nat.zero_le _⟩,[],rfl,rfl,by (push_cast -dsimp [ze,zd,CLe,zg];simp[spl,zg]),by push_cast -dsimp [ze,zd,CLe,zg]⟩
theorem V3 (rows:List (List C)) (x:List C) (i c e:Nat) (hk:∀ r∈rows,r.length=6) (hx:x.length=6) (hs:jA rows) (hsx:(x.all C.stayB)=true) (hl:rows.length<=100000) (hi:i<=rows.length) (hc:rows.length<=c) (hcm:c<=9223372036854775807) :
  XG Tryz.prog G 177 [.bs 0 0 6 rows.length c,.sc (.int .i64 i),.own 0 e 6 [x]] [qw 6 rows c] 1 (zpW 6 (c*6) (rows.take i++x :: rows.drop i)):=by
 refine foX (fun j=>if j=1000000+22 then [true,true] else if j=11 then [false,false,false,false,false,false,false,false,true] else if j=15 then [false,false,false,false,false,false,false,false,true] else []) Tryz.func177 ?_;dsimp only[Tryz.f177]
 push_cast -dsimp
 have hlen:(rows.take i++x :: rows.drop i).length=rows.length+1:=by simp;omega
 have hki:∀ r∈rows.take i++x :: rows.drop i,r.length=6:=fun r hr=>by
  rcases List.mem_append.1 hr with hr | hr
  ·exact hk r (List.mem_of_mem_take hr)
  ·rcases List.mem_cons.1 hr with rfl | hr
   ·exact hx
   ·exact hk r (List.mem_of_mem_drop hr)
 have hsi:jA (rows.take i++x :: rows.drop i):=fun r hr=>by
  rcases List.mem_append.1 hr with hr | hr
  ·exact hs r (List.mem_of_mem_take hr)
  ·rcases List.mem_cons.1 hr with rfl | hr
   ·exact hsx
   ·exact hs r (List.mem_of_mem_drop hr)
 have hbl:=JI hk hc
 have hfl:=qt hk
 have hxl:[x].flatten.length=1*6:=by simp[hx]
 have hpre:(qw 6 rows c).take rows.flatten.length=rows.flatten:=by unfold qw;rw[List.take_left]
 refine ⟨hc,⟨by omega,hi⟩,br (fun h=>?_) (fun h=>?_)⟩
 ·push_cast -dsimp
  refine Q6 Vi Vj rfl rfl (by decide) rfl hxl rfl (by rw[hbl];omega) hc (by simp;omega) (by simp;omega) (fun h1=>?_) (fun h1 c' h2 h3=>?_)
  ·push_cast -dsimp
   have hi':i=rows.length:=of_decide_eq_true h
   refine ⟨_,_,_,⟨⟨rfl,c,by rw[hlen];exact h1,hcm,.inl ⟨rfl,rfl⟩⟩,Nat.le_refl _⟩,[],rfl,rfl,?_,by push_cast -dsimp [ze,zd,CLe,zg,hlen]⟩
   push_cast -dsimp [ze,zd,CLe,zg]
   have h6:rows.length*6+6<=c*6:=by have:rows.length+1<=c:=h1;omega
   refine Jz hki hsi (by rw[hlen];exact h1) (by rw[QW (by rw[hbl,hx];exact h6),hbl]) ?_
   rw[hlen,hi',List.take_length,List.drop_length]
   unfold spl
   rw[←hfl,hpre,List.take_left' (by simp[hx,hfl];omega)]
   simp
  ·push_cast -dsimp
   have hi':i=rows.length:=of_decide_eq_true h
   have h2':rows.length+1<=c':=h2
   refine ⟨_,_,_,⟨⟨rfl,c',by rw[hlen];exact h2,h3,.inr ⟨rfl,rfl⟩⟩,Nat.le_of_ble_eq_true rfl⟩,[],rfl,rfl,?_,by push_cast -dsimp [ze,zd,CLe,zg,hlen]⟩
   push_cast -dsimp [ze,zd,CLe,zg]
   refine ⟨Xv hbl,Jz hki hsi (by rw[hlen];exact h2) (by simp[hx,hbl];omega) ?_⟩
   rw[hlen,hi',List.take_length,List.drop_length,←hfl,hpre,List.take_left' (by simp[hx,hfl];omega)]
   simp
 ·have hne:i≠rows.length:=of_decide_eq_false h
  push_cast -dsimp
  refine ⟨⟨by omega,by omega⟩,br (fun h1=>?_) (fun h1=>?_)⟩
  ·have h1':(c:Int)<(rows.length:Int)+1:=of_decide_eq_true h1
   push_cast -dsimp
   repeat refine an ?_
   refine zkP Vi znd Vj rfl (by decide) rfl rfl (by rw[hbl];omega) (by omega) (by omega) (by omega) (by omega) (by omega) (fun c' B h2 h3 hBl hBt=>?_)
   have e1:((rows.length:Int)+1-(i:Int)).toNat=rows.length+1-i:=by omega
   rw[e1]at h2 ⊢
   have e2:i+(rows.length+1-i)=rows.length+1:=by omega
   rw[e2]at h2 ⊢
   push_cast -dsimp
   repeat refine an ?_
   refine Xy Vi Vj rfl rfl hxl (by rw[hBl];omega) (fun B1 hB1 hl1=>?_)
   rw[hBl]at hl1
   push_cast -dsimp
   repeat refine an ?_
   have hbp:=Xj (c:=c) hk hi
   refine Xy Vi Vj (ku rfl (by rw[hbl];omega)) rfl (by rw[hbp,List.length_drop,hfl];omega) (by rw[hl1];omega) (fun B2 hB2 hl2=>?_)
   rw[hl1]at hl2
   have hX:[x].flatten.take (min [x].length (rows.length+1-i)*6)=x:=by
    rw[List.length_singleton,Nat.min_eq_left (by omega),List.take_of_length_le (by omega)];simp
   rw[hX]at hB1
   rw[hbp,show min (rows.length-i) (rows.length-i)*6=(rows.length-i)*6 by omega,List.take_of_length_le (by rw[List.length_drop,hfl];omega),hB1]at hB2
   push_cast -dsimp
   refine ⟨_,_,_,⟨⟨rfl,c',by rw[hlen];exact h2,h3,.inr ⟨rfl,rfl⟩⟩,Nat.le_of_ble_eq_true rfl⟩,[],rfl,rfl,?_,by push_cast -dsimp [ze,zd,CLe,zg,hlen]⟩
   push_cast -dsimp [ze,zd,CLe,zg]
   refine ⟨Xv hbl,Jz hki hsi (by rw[hlen];exact h2) hl2 ?_⟩
   rw[hlen,←Qt hk,hB2]
   have hg:=Gd (cs:=B) (L:=rows.flatten) (X:=x) (p:=i*6) (q:=(i+1)*6) (by omega) (by omega) (by
    rw[hBt,List.drop_zero];unfold qw;rw[List.take_append_of_le_length (by omega)]) (by omega)
   rw[hfl,hx]at hg
   rw[←hg]
   congr 1;omega
  ·have h1':¬(c:Int)<(rows.length:Int)+1:=of_decide_eq_false h1
   push_cast -dsimp
   repeat refine an ?_
   refine zlf (yi (P:=Tryz.prog) (tR:=4) Tryz.func211 (by kernel_rfl) (by kernel_rfl) (by kernel_rfl) (by kernel_rfl) Vi Vj rfl (List.ne_nil_of_length_pos (by rw[hbl];omega)) (by simp) (by omega)) ?_
   push_cast -dsimp
   repeat refine an ?_
   have hbp:=Xj (c:=c) hk hi
   refine Xy Vi Vj (ku rfl (by rw[hbl];omega)) rfl (by simp[hbl];omega) (by rw[hbl];omega) (fun B1 hB1 hl1=>?_)
   rw[hbl]at hl1
   rw[List.take_take,Nat.min_eq_left (by omega),show min (rows.length+1-i) (rows.length-i)*6=(rows.length-i)*6 by omega,hbp]at hB1
   push_cast -dsimp
   repeat refine an ?_
   refine Xy Vi Vj rfl rfl hxl (by rw[hl1];omega) (fun B2 hB2 hl2=>?_)
   rw[hl1]at hl2
   have hX:[x].flatten.take (min [x].length (rows.length+1-i)*6)=x:=by
    rw[List.length_singleton,Nat.min_eq_left (by omega),List.take_of_length_le (by omega)];simp
   rw[hX,hB1]at hB2
   push_cast -dsimp
   have hcc:rows.length+1<=c:=by omega
   refine ⟨_,_,_,⟨⟨rfl,c,by rw[hlen];exact hcc,hcm,.inl ⟨rfl,rfl⟩⟩,Nat.le_of_ble_eq_true rfl⟩,[],rfl,rfl,?_,by push_cast -dsimp [ze,zd,CLe,zg,hlen]⟩
   push_cast -dsimp [ze,zd,CLe,zg]
   refine Jz hki hsi (by rw[hlen];exact hcc) hl2 ?_
   rw[hlen,←Qt hk,hB2]
   have hg:=UE (cs:=qw 6 rows c) (L:=rows.flatten) (X:=x) (p:=i*6) (q:=(i+1)*6) (by omega) (by omega) hpre (by omega)
   rw[hfl,hx]at hg
   rw[←hg]
   congr 1;omega
theorem zad {e:Nat} (x:List C) (hx:x.length=6) (hsx:(x.all C.stayB)=true) :
  XG Tryz.prog G 177 [.sc (.slice none 0 0),.sc (.int .i64 0),.own 0 e 6 [x]] [] 1 (fun r bx' n=>n=0/\∃ c,1<=c/\c<=9223372036854775807/\r = .bs 0 0 6 1 c/\bx' = [qw 6 [x] c]):=by
 refine foX (fun j=>if j=1000000+22 then [true,true] else if j=11 then [false,false,false,false,false,false,false,false,true] else if j=15 then [false,false,false,false,false,false,false,false,true] else []) Tryz.func177 ?_;dsimp only[Tryz.f177]
 push_cast -dsimp
 refine Nq Vi Vj rfl rfl (by decide) rfl (by simp[hx]) (by simp) (by simp) (by simp) (fun c h1 h2=>?_)
 push_cast -dsimp
 refine ⟨_,_,_,⟨⟨rfl,c,h1,h2,rfl,rfl⟩,Nat.zero_le _⟩,[],rfl,rfl,?_,by push_cast -dsimp [ze,zd,CLe,zg]⟩
 push_cast -dsimp [ze,zd,CLe,zg]
 have:=zT (src:=[]) (n:=1) (zF (k:=6) (c:=c) (rows:=[x]) fun r hr=>by
  rw[List.mem_singleton.1 hr];exact hsx)
 unfold qw at this ⊢
 simpa using this
theorem zgY (rows:List (List C)) (i c:Nat) (hk:∀ r∈rows,r.length=6) (hs:jA rows) (hl:rows.length<=100000) (hi:i<rows.length) (hc:rows.length<=c) (hcm:c<=9223372036854775807) :
  xA Tryz.prog G 236 [.bs 0 0 6 rows.length c,.sc (.int .i64 i),.sc (.int .i64 ((i:Int)+1))] [qw 6 rows c] 0 (.bs 0 0 6 (rows.length-1) c) [qw 6 (rows.take i++rows.drop (i+1)) c] 0:=by
 refine foB (fun j=>if j=1000000+22 then [true,true] else if j=5 then [false,false,false,false,false,false,true,false] else []) Tryz.func236 ?_;dsimp only[Tryz.f236]
 have h1:((i:Int)=(i:Int)+1)=False:=eq_false (by omega)
 have hbl:=JI hk hc
 have hfl:=qt hk
 have hpre:(qw 6 rows c).take rows.flatten.length=rows.flatten:=by unfold qw;rw[List.take_left]
 have hlen:(rows.take i++rows.drop (i+1)).length=rows.length-1:=by simp;omega
 have hki:∀ r∈rows.take i++rows.drop (i+1),r.length=6:=fun r hr=>by
  rcases List.mem_append.1 hr with hr | hr
  ·exact hk r (List.mem_of_mem_take hr)
  ·exact hk r (List.mem_of_mem_drop hr)
 have hsi:jA (rows.take i++rows.drop (i+1)):=fun r hr=>by
  rcases List.mem_append.1 hr with hr | hr
  ·exact hs r (List.mem_of_mem_take hr)
  ·exact hs r (List.mem_of_mem_drop hr)
 have hbp:=Xj (c:=c) (i:=i+1) hk hi
 push_cast -dsimp [h1]
 repeat refine an ?_
 have hxl:(List.drop ((i+1)*6) rows.flatten).length=(rows.length-(i+1))*6:=by rw[List.length_drop,hfl];omega
 refine Q6 Vi Vj (ku rfl (by rw[hbl];omega)) rfl (by decide) rfl (by rw[hbp,hxl]) rfl (by rw[hbl];omega) (by omega) (by omega) (by omega) (fun _=>?_) (fun h=>absurd h (by omega))
 rw[hbp]
 have e1:i+(rows.length-(i+1))=rows.length-1:=by omega
 rw[e1]
 generalize hB1:spl (qw 6 rows c) (0+i*6) (List.drop ((i+1)*6) rows.flatten)=B1
 have hl1:B1.length=c*6:=by rw[←hB1,QW (by rw[hbl,hxl];omega),hbl]
 push_cast -dsimp
 repeat refine an ?_
 refine zmV Vi Vj rfl rfl (by decide) rfl (by rw[hl1];omega) (fun B2 Z hB2 hZ hl2=>?_)
 rw[hl1]at hl2
 push_cast -dsimp
 refine ⟨[],rfl,rfl,?_,by push_cast -dsimp [ze,zd,CLe,zg]⟩
 push_cast -dsimp [ze,zd,CLe,zg]
 refine Jz hki hsi (by rw[hlen];omega) hl2 ?_
 have hg:=zms (cs:=qw 6 rows c) (L:=rows.flatten) (Z:=Z) (p:=i*6) (q:=(i+1)*6) (n:=(rows.length-1)*6) (by omega) (by omega) hpre (by omega) (by omega) (by rw[hZ];omega)
 rw[hlen,hB2,←hB1,List.flatten_append,←ZJ hk,←kC hk,←hg,Nat.zero_add]
end
end
section
structure zZ where
 name:List UInt8
 ino:Int
deriving DecidableEq,Inhabited
structure zp where
 ino:Int
 kind:Int
 links:Int
 data:List UInt8
 parent:Int
 es:List zZ
deriving DecidableEq,Inhabited
def z7 (xs:List zp):Prop:=xs.Pairwise fun a b=>a.ino<b.ino
def zn (n:Int) (xs:List zp):Bool:=xs.any fun x=>x.ino==n
def js (n:Int) (xs:List zp):Nat:=(xs.filter fun x=>decide (x.ino<n)).length
def qj (n:Int) (xs:List zp):List zp:=xs.filter fun x=>x.ino != n
def Xb (n:Int) (xs:List zp):Option zp:=xs.find? fun x=>x.ino==n
def ZL (x:zp):List zp->List zp
 | []=>[x]
 | y :: r=>if x.ino<y.ino then x :: y :: r else y :: ZL x r
def qm (x:zp) (xs:List zp):List zp:=ZL x (qj x.ino xs)
theorem H7 (n:Int):∀ (xs:List zp) (i:Nat),i<=xs.length->(∀ t (h:t<xs.length),t<i->xs[t].ino<n)->(∀ t (h:t<xs.length),i<=t->n<=xs[t].ino)->js n xs=i
 | [],i,h,_,_=>by simp at h;simp[js,h]
 | x :: r,0,_,_,h2=>by
  have hx:n<=x.ino:=h2 0 (by simp) (Nat.le_refl _)
  have ih:=H7 n r 0 (Nat.zero_le _) (fun t h h'=>absurd h' (Nat.not_lt_zero _)) (fun t h _=>h2 (t+1) (by simp;omega) (Nat.zero_le _))
  unfold js at ih ⊢
  rw[List.filter_cons_of_neg (by simp;omega)]
  exact ih
 | x :: r,i+1,h,h1,h2=>by
  have hx:x.ino<n:=h1 0 (by simp) (Nat.succ_pos _)
  have ih:=H7 n r i (by simpa using h) (fun t h h'=>h1 (t+1) (by simp;omega) (by omega)) (fun t h h'=>h2 (t+1) (by simp;omega) (by omega))
  unfold js at ih ⊢
  rw[List.filter_cons_of_pos (by simp;omega),List.length_cons,ih]
theorem zkl (n:Int) (xs:List zp) (i:Nat) (hi:i<xs.length) (h1:∀ t (h:t<xs.length),t<i->xs[t].ino<n) (h2:n<=xs[i].ino) (hR:z7 xs):zn n xs=decide (xs[i].ino=n):=by
 by_cases h:xs[i].ino=n
 ·rw[decide_eq_true h]
  exact List.any_eq_true.2 ⟨xs[i],List.getElem_mem hi,by simp[h]⟩
 ·rw[decide_eq_false h]
  apply Bool.eq_false_iff.2
  intro hh
  obtain ⟨y,hy,e⟩:=List.any_eq_true.1 hh
  obtain ⟨t,ht,rfl⟩:=List.getElem_of_mem hy
  have e:xs[t].ino=n:=by simpa using e
  rcases Nat.lt_trichotomy t i with h3 | h3 | h3
  ·have:=h1 t ht h3;omega
  ·subst h3;exact h e
  ·have:=(List.pairwise_iff_getElem.1 hR) i t hi ht h3;omega
theorem zdk (n:Int) (xs:List zp) (h1:∀ t (h:t<xs.length),xs[t].ino<n):zn n xs=false:=by
 apply Bool.eq_false_iff.2
 intro hh
 obtain ⟨y,hy,e⟩:=List.any_eq_true.1 hh
 obtain ⟨t,ht,rfl⟩:=List.getElem_of_mem hy
 have e:xs[t].ino=n:=by simpa using e
 have:=h1 t ht
 omega
theorem Gl {n:Int} {xs:List zp} (h:zn n xs=false):Xb n xs=none:=by
 unfold Xb zn at *
 rw[List.find?_eq_none]
 intro x hx hh
 rw[List.any_eq_false]at h
 exact h x hx hh
theorem zbv (n:Int) (xs:List zp) (hR:z7 xs):∃ i,i<=xs.length/\(∀ t (h:t<xs.length),t<i->xs[t].ino<n)/\(∀ t (h:t<xs.length),i<=t->n<=xs[t].ino):=by
 induction xs with
 | nil=>exact ⟨0,Nat.le_refl _,fun t h=>absurd h (Nat.not_lt_zero _),fun t h=>absurd h (Nat.not_lt_zero _)⟩
 | cons x r ih =>
  by_cases hx:x.ino<n
  ·obtain ⟨i,h1,h2,h3⟩:=ih (List.pairwise_cons.1 hR).2
   refine ⟨i+1,by simp;omega,fun t h ht=>?_,fun t h ht=>?_⟩
   ·cases t with
    | zero=>exact hx
    | succ t=>exact h2 t (by simpa using h) (by omega)
   ·cases t with
    | zero=>omega
    | succ t=>exact h3 t (by simpa using h) (by omega)
  ·refine ⟨0,Nat.zero_le _,fun t h ht=>absurd ht (Nat.not_lt_zero _),fun t h _=>?_⟩
   cases t with
   | zero=>simp;omega
   | succ t =>
    have:=(List.pairwise_cons.1 hR).1 (r[t]'(by simpa using h)) (List.getElem_mem _)
    simp;omega
theorem zeS (n:Int) (xs:List zp):js n xs<=xs.length:=List.length_filter_le _ _
theorem zer {n:Int} {xs:List zp} (hR:z7 xs):(∀ t (h:t<xs.length),t<js n xs->xs[t].ino<n)/\(∀ t (h:t<xs.length),js n xs<=t->n<=xs[t].ino):=by
 obtain ⟨i,h1,h2,h3⟩:=zbv n xs hR
 rw[H7 n xs i h1 h2 h3]
 exact ⟨h2,h3⟩
theorem zjA {n:Int} {xs:List zp} (hR:z7 xs) (h:zn n xs=true):∃ hlt:js n xs<xs.length,xs[js n xs].ino=n:=by
 obtain ⟨h2,h3⟩:=zer (n:=n) hR
 by_cases hlt:js n xs<xs.length
 ·refine ⟨hlt,?_⟩
  have:=zkl n xs _ hlt h2 (h3 _ hlt (Nat.le_refl _)) hR
  rw[h]at this
  exact of_decide_eq_true this.symm
 ·have:=zdk n xs (fun t h=>h2 t h (by omega))
  rw[h]at this;cases this
theorem G9 {n:Int} {xs:List zp} (hR:z7 xs) (h:zn n xs=true):∃ hlt:js n xs<xs.length,Xb n xs=some xs[js n xs]:=by
 obtain ⟨hlt,he⟩:=zjA hR h
 refine ⟨hlt,?_⟩
 obtain ⟨h2,h3⟩:=zer (n:=n) hR
 unfold Xb
 rw[List.find?_eq_some_iff_getElem]
 exact ⟨by simp[he],_,hlt,rfl,fun j hj=>by have:=h2 j (by omega) hj;simp;omega⟩
theorem jW {y:zp} {r:List zp}:z7 (y :: r)↔(∀ z∈r,y.ino<z.ino)/\z7 r:=List.pairwise_cons
theorem X6 {n:Int} {y:zp} {r:List zp} (h:y.ino<n):js n (y :: r)=js n r+1:=by
 unfold js
 rw[List.filter_cons_of_pos (by simpa using h),List.length_cons]
theorem ki {n:Int} {xs:List zp} (h:∀ z∈xs,n<=z.ino):js n xs=0:=by
 unfold js
 rw[List.length_eq_zero_iff,List.filter_eq_nil_iff]
 intro z hz
 have:=h z hz
 simp;omega
theorem Qq {n:Int} {xs:List zp} (h:zn n xs=false):qj n xs=xs:=by
 unfold qj
 rw[List.filter_eq_self]
 intro z hz
 unfold zn at h
 rw[List.any_eq_false]at h
 have:=h z hz
 simpa using this
theorem QM {n:Int} {y:zp} {r:List zp} (h:y.ino<n):zn n (y :: r)=zn n r:=by
 unfold zn
 rw[List.any_cons,show (y.ino==n)=false by rw[beq_eq_false_iff_ne];omega,Bool.false_or]
theorem Vg {n:Int} {xs:List zp} (h:∀ z∈xs,n<z.ino):zn n xs=false:=by
 unfold zn
 rw[List.any_eq_false]
 intro z hz
 have:=h z hz
 simp;omega
theorem JM {n:Int} {y:zp} {r:List zp} (h:y.ino≠n):qj n (y :: r)=y :: qj n r:=by
 unfold qj
 rw[List.filter_cons_of_pos (by simpa using h)]
theorem Ji {n:Int} {y:zp} {r:List zp} (h:y.ino=n):qj n (y :: r)=qj n r:=by
 unfold qj
 rw[List.filter_cons_of_neg (by simpa using h)]
theorem ud {n:Int}:∀ {xs:List zp},z7 xs->zn n xs=true->xs.take (js n xs)++xs.drop (js n xs+1)=qj n xs
 | [],_,h=>by cases h
 | y :: r,hR,h=>by
  obtain ⟨h1,h2⟩:=jW.1 hR
  by_cases hy:y.ino<n
  ·rw[X6 hy,List.take_succ_cons,List.drop_succ_cons,List.cons_append,ud h2 (by rwa [QM hy]at h),JM (by omega)]
  ·have hr0:js n (y :: r)=0:=ki fun z hz=>by
    rcases List.mem_cons.1 hz with rfl | hz
    ·omega
    ·have:=h1 z hz;omega
   by_cases he:y.ino=n
   ·rw[hr0,Ji he,Qq (Vg fun z hz=>by have:=h1 z hz;omega)];rfl
   ·exfalso
    rw[Vg fun z hz=>by
     rcases List.mem_cons.1 hz with rfl | hz
     ·omega
     ·have:=h1 z hz;omega]at h
    cases h
theorem zo4 {x y:zp} {r:List zp} (h:y.ino<x.ino):ZL x (y :: r)=y :: ZL x r:=by
 rw[ZL,if_neg (by omega)]
theorem zdV {x:zp} {xs:List zp} (h:∀ z∈xs,x.ino<z.ino):ZL x xs=x :: xs:=by
 cases xs with
 | nil=>rfl
 | cons y r=>rw[ZL,if_pos (h y List.mem_cons_self)]
theorem QS {x y:zp} {r:List zp} (h:y.ino<x.ino):qm x (y :: r)=y :: qm x r:=by
 unfold qm
 rw[JM (by omega),zo4 h]
theorem ym {x:zp}:∀ {xs:List zp},z7 xs->zn x.ino xs=true->xs.set (js x.ino xs) x=qm x xs
 | [],_,h=>by cases h
 | y :: r,hR,h=>by
  obtain ⟨h1,h2⟩:=jW.1 hR
  by_cases hy:y.ino<x.ino
  ·rw[X6 hy,List.set_cons_succ,ym h2 (by rwa [QM hy]at h),QS hy]
  ·have hr0:js x.ino (y :: r)=0:=ki fun z hz=>by
    rcases List.mem_cons.1 hz with rfl | hz
    ·omega
    ·have:=h1 z hz;omega
   by_cases he:y.ino=x.ino
   ·unfold qm
    rw[hr0,Ji he,Qq (Vg fun z hz=>by have:=h1 z hz;omega),zdV fun z hz=>by have:=h1 z hz;omega];rfl
   ·exfalso
    rw[Vg fun z hz=>by
     rcases List.mem_cons.1 hz with rfl | hz
     ·omega
     ·have:=h1 z hz;omega]at h
    cases h
theorem vw {x:zp}:∀ {xs:List zp},z7 xs->zn x.ino xs=false->xs.take (js x.ino xs)++x :: xs.drop (js x.ino xs)=qm x xs
 | [],_,_=>rfl
 | y :: r,hR,h=>by
  obtain ⟨h1,h2⟩:=jW.1 hR
  by_cases hy:y.ino<x.ino
  ·rw[X6 hy,List.take_succ_cons,List.drop_succ_cons,List.cons_append,vw h2 (by rwa [QM hy]at h),QS hy]
  ·have hne:y.ino≠x.ino:=by
    intro e
    unfold zn at h
    rw[List.any_cons,e]at h
    simp at h
   have hr0:js x.ino (y :: r)=0:=ki fun z hz=>by
    rcases List.mem_cons.1 hz with rfl | hz
    ·omega
    ·have:=h1 z hz;omega
   unfold qm
   rw[hr0,Qq h,zdV fun z hz=>by
    rcases List.mem_cons.1 hz with rfl | hz
    ·omega
    ·have:=h1 z hz;omega]
   rfl
theorem xR {x:zp}:∀ {xs:List zp} {z:zp},z∈ZL x xs↔z=x∨z∈xs
 | [],z=>by simp[ZL]
 | y :: r,z=>by
  rw[ZL]
  split
  ·simp
  ·rw[List.mem_cons,xR,List.mem_cons]
   constructor
   ·rintro (h | h | h)<;>simp[h]
   ·rintro (h | h | h)<;>simp[h]
theorem Ha {n:Int} {xs:List zp} (h:z7 xs):z7 (qj n xs):=List.Pairwise.filter _ h
theorem Mx {x:zp}:∀ {xs:List zp},z7 xs->(∀ z∈xs,z.ino≠x.ino)->z7 (ZL x xs)
 | [],_,_=>by simp[ZL,z7]
 | y :: r,h,hne=>by
  obtain ⟨h1,h2⟩:=jW.1 h
  have hy:=hne y List.mem_cons_self
  rw[ZL]
  split
  ·next hlt =>
   refine jW.2 ⟨fun z hz=>?_,h⟩
   rcases List.mem_cons.1 hz with rfl | hz
   ·exact hlt
   ·have:=h1 z hz;omega
  ·next hlt =>
   refine jW.2 ⟨fun z hz=>?_,Mx h2 fun z hz=>hne z (List.mem_cons_of_mem _ hz)⟩
   rcases xR.1 hz with rfl | hz
   ·omega
   ·exact h1 z hz
theorem z6 {x:zp} {xs:List zp} (h:z7 xs):z7 (qm x xs):=Mx (Ha h) fun z hz=>by
 have:=(List.mem_filter.1 hz).2
 simpa using this
theorem zeP {x:zp}:∀ {xs:List zp},(ZL x xs).length=xs.length+1
 | []=>rfl
 | y :: r=>by
  rw[ZL]
  split
  ·rfl
  ·rw[List.length_cons,zeP,List.length_cons]
theorem Zb {n:Int} {xs:List zp}:(qj n xs).length<=xs.length:=List.length_filter_le _ _
theorem zge {x:zp} {xs:List zp}:(qm x xs).length<=xs.length+1:=by
 unfold qm
 rw[zeP]
 have:=Zb (n:=x.ino) (xs:=xs)
 omega
end
section
open CA CB
open Go.RowKit
abbrev Na (e:zZ):List C:=[.str e.name,.sc (.int .i64 e.ino)]
abbrev zJ (es:List zZ):List (List C):=es.map Na
abbrev J4 (x:zp):List C:=[.sc (.int .i64 x.ino),.sc (.int .i64 x.kind),.sc (.int .i64 x.links),.str x.data,.sc (.int .i64 x.parent),.sl 2 (zJ x.es)]
abbrev zt (xs:List zp):List (List C):=xs.map J4
structure FsV where
 maxI:Int
 maxB:Int
 next:Int
 xs:List zp
deriving DecidableEq,Inhabited
abbrev fsC (f:FsV):List C:=[.sc (.int .i64 f.maxI),.sc (.int .i64 f.maxB),.sc (.int .i64 f.next),.sl 6 (zt f.xs)]
theorem jb (xs:List zp) (i:Nat) (h:i<xs.length):(zt xs)[i]?=some (J4 xs[i]):=by simp[List.getElem?_map,List.getElem?_eq_getElem h]
theorem Ja (xs:List zZ) (i:Nat) (h:i<xs.length):(zJ xs)[i]?=some (Na xs[i]):=by simp[List.getElem?_map,List.getElem?_eq_getElem h]
def zmy:zp:=⟨0,0,0,[],0,[]⟩
def zh (n:Int) (xs:List zp):zp:=(Xb n xs).getD zmy
def V8 (a b:Int):Int:=if a<b then -1 else if b<a then 1 else 0
section
variable {G:zr}
theorem zfC (a:Int):Fun Tryz.prog G 237 [.sc (.int .i64 a)] (.sc (.bool false)) 0:=by
 refine fon Tryz.func237 ?_;dsimp only[Tryz.f237]
 push_cast -dsimp
 exact dn
theorem yq (a b:Int):Fun Tryz.prog G 210 [.sc (.int .i64 a),.sc (.int .i64 b)] (.sc (.int .i64 (V8 a b))) 0:=by
 refine fon Tryz.func210 ?_;dsimp only[Tryz.f210]
 push_cast -dsimp
 refine cl (zfC a) ?_;push_cast -dsimp
 refine cl (zfC b) ?_;push_cast -dsimp
 refine br (fun h=>?_) (fun h=>?_)
 ·have h:=of_decide_eq_true h
  push_cast -dsimp
  exact ⟨[],rfl,rfl,by (push_cast -dsimp [ze,zd,CLe,zg];simp[V8,h])⟩
 ·have h:=of_decide_eq_false h
  push_cast -dsimp
  refine br (fun h1=>?_) (fun h1=>?_)
  ·have h1:=of_decide_eq_true h1
   push_cast -dsimp
   exact ⟨[],rfl,rfl,by (push_cast -dsimp [ze,zd,CLe,zg];simp[V8,h,h1])⟩
  ·have h1:=of_decide_eq_false h1
   push_cast -dsimp
   exact ⟨[],rfl,rfl,by (push_cast -dsimp [ze,zd,CLe,zg];simp[V8,h,h1])⟩
theorem zcS (x:zp) (n:Int):Fun Tryz.prog G 225 [.agg (J4 x),.sc (.int .i64 n)] (.sc (.int .i64 (V8 x.ino n))) 0:=by
 refine fon Tryz.func225 ?_;dsimp only[Tryz.f225]
 push_cast -dsimp
 refine cl (yq x.ino n) ?_;push_cast -dsimp
 exact dn
theorem vb (xs:List zp) (n:Int) (hl:xs.length<=100000) (hR:z7 xs) :
  Fun Tryz.prog G 208 [.sl 6 (zt xs),.sc (.int .i64 n),.clo (.func 225) [] []] (.tup [.sc (.int .i64 (js n xs:Nat)),.sc (.bool (zn n xs))]) 0:=by
 refine fon Tryz.func208 ?_;dsimp only[Tryz.f208]
 push_cast -dsimp
 refine loop (fun p:Nat×Nat=>⟨[(0,.sl 6 (zt xs)),(1,.sc (.int .i64 n)),(2,.clo (.func 225) [] []),(8,.sc (.int .i64 (xs.length:Nat))),(9,.sc (.int .i64 p.1)),(10,.sc (.int .i64 p.2))],[],0,0⟩)
  (fun p=>p.1<=p.2/\p.2<=xs.length/\(∀ t (h:t<xs.length),t<p.1->xs[t].ino<n)/\∀ t (h:t<xs.length),p.2<=t->n<=xs[t].ino) (fun p=>p.2-p.1) (0,xs.length) ⟨Nat.zero_le _,Nat.le_refl _,fun t _ h=>by (simp at h),fun t h h'=>by (dsimp only at h';omega)⟩ ?_ ?_
 ·exact wk (by push_cast -dsimp [ze,zd,CLe,zg,List.length_map])
 ·rintro ⟨i,j⟩ ⟨h1,h2,h3,h4⟩
  dsimp only at h1 h2 h3 h4 ⊢
  by_cases h:i<j
  ·obtain ⟨m,hm⟩:∃ m,m=(i+j) / 2:=⟨_,rfl⟩
   have hmi:((i:Int)+(j:Int)) / 2=(m:Int):=by omega
   have hml:m<xs.length:=by omega
   have hat:=jb xs m hml
   push_cast -dsimp [h,hmi,hat]
   repeat refine an ?_
   refine cl (zcS xs[m] n) ?_;push_cast -dsimp
   by_cases hc:xs[m].ino<n
   ·have hcv:V8 xs[m].ino n = -1:=by simp[V8,hc]
    push_cast -dsimp [hcv]
    repeat refine an ?_
    refine ⟨(m+1,j),⟨by omega,h2,fun t ht hlt=>?_,h4⟩,by dsimp only;omega,wk⟩
    dsimp only at hlt
    rcases Nat.lt_or_ge t m with q | q
    ·have:=(List.pairwise_iff_getElem.1 hR) t m ht hml q;omega
    ·have:t=m:=by omega
     subst this;exact hc
   ·have hcv:(V8 xs[m].ino n<0)=False:=eq_false (by unfold V8;rw[if_neg hc];split<;>omega)
    push_cast -dsimp [hcv]
    repeat refine an ?_
    refine ⟨(i,m),⟨by omega,by omega,h3,fun t ht hge=>?_⟩,by dsimp only;omega,wk⟩
    dsimp only at hge
    rcases Nat.lt_or_ge m t with q | q
    ·have:=(List.pairwise_iff_getElem.1 hR) m t hml ht q;omega
    ·have:t=m:=by omega
     subst this;omega
  ·have hij:i=j:=by omega
   subst hij
   have hrk:=H7 n xs i h2 h3 h4
   push_cast -dsimp [h]
   refine br (fun hx=>?_) (fun hx=>?_)
   ·have hx:i<xs.length:=by simpa using hx
    have hat:=jb xs i hx
    have hh:=zkl n xs i hx h3 (h4 i hx (Nat.le_refl _)) hR
    push_cast -dsimp [hx,hat]
    repeat refine an ?_
    refine cl (zcS xs[i] n) ?_;push_cast -dsimp
    have hcv:decide (V8 xs[i].ino n=0)=zn n xs:=by
     rw[hh]
     have:=h4 i hx (Nat.le_refl _)
     unfold V8
     rw[if_neg (by omega)]
     split
     ·rw[decide_eq_false (by omega),decide_eq_false (by omega)]
     ·rw[decide_eq_true (by rfl),decide_eq_true (by omega)]
    push_cast -dsimp [hcv]
    exact dn (by push_cast -dsimp [ze,zd,CLe,zg,hrk])
   ·have hx:¬i<xs.length:=by simpa using hx
    have hh:=zdk n xs fun t ht=>h3 t ht (by omega)
    push_cast -dsimp [hx]
    exact dn (by push_cast -dsimp [ze,zd,CLe,zg,hrk,hh])
theorem zfP (f:FsV) (n:Int) (hl:f.xs.length<=100000) (hR:z7 f.xs):Fun Tryz.prog G 193 [.agg (fsC f),.sc (.int .i64 n)] (.tup [.sc (.int .i64 (js n f.xs:Nat)),.sc (.bool (zn n f.xs))]) 0:=by
 refine fon Tryz.func193 ?_;dsimp only[Tryz.f193]
 push_cast -dsimp
 refine cl (vb f.xs n hl hR) ?_;push_cast -dsimp
 exact dn
end
end
section
open Go.RowKit Go.ChangeMaps Go.ChangeShapes Go.WideShapes Go.Deep Go.Joins
def MN (W:World):Env:=⟨W,fun _ _=>False,fun _=>False⟩
theorem Fun.answers {P:Program} {G:zr} {f:FuncId} {args:List C} {u:Value} {n:Nat} (h:Fun P G f args (.sc u) n) {W:World} {vs:List Value} (hg:Xz G (MN W)) (ha:zy (MN W) zK args vs) :
  Calls P f vs.toArray W fun e w'=>e = .returned u/\Below W.heap.size W w':=by
 refine (h.2 (MN W) vs hg ha).mono ?_
 rintro e w' ⟨v,R',L',rfl,rfl,st,hr⟩
 rw[zq]at hr
 subst hr
 exact ⟨rfl,st.below⟩
section
variable {H:Type} {enc:TypeId×Value->H} {P:Program} {W:World}
def Opn (enc:TypeId×Value->H) (P:Program) (W:World) (t:TypeId) (Q:C->Prop):Prop:=
 ∀ (fuel:Nat) (cs:List Value) (x:DataW H×List MemPlace),DataW.trod enc P W 0 (fun _=>true) true fuel t cs=some x->∃ v c,cs = [v]/\Q c/\Rep (MN W) zK c v/\v.oneCell'=true
def jl (enc:TypeId×Value->H) (P:Program) (W:World) (t:TypeId) (k:Nat) (Q:List C->Prop):Prop:=
 ∀ (fuel:Nat) (cs:List Value) (x:DataW H×List MemPlace),DataW.trod enc P W 0 (fun _=>true) true fuel t cs=some x ->
  ∃ row,Q row/\row.length=k/\cs.length=k/\∀ (j:Nat) c v,row[j]?=some c->cs[j]?=some v->Rep (MN W) zK c v/\v.oneCell'=true
theorem Opn.int {t:TypeId} {k:IntKind} (ht:P.underlying t=some (.int k)):Opn enc P W t fun c=>∃ n,c = .sc (.int k n)/\(Lit.int k n).wf=true:=fun fuel cs x h=>by
 obtain ⟨n,rfl,_,hw⟩:=DataW.trod_int ht h
 exact ⟨_,_,rfl,⟨n,rfl,hw⟩,zq.2 rfl,rfl⟩
theorem Opn.bool {t:TypeId} (ht:P.underlying t=some .bool):Opn enc P W t fun c=>∃ b,c = .sc (.bool b):=fun fuel cs x h=>by
 obtain ⟨n,rfl,_⟩:=DataW.trod_bool ht h
 exact ⟨_,_,rfl,⟨n,rfl⟩,zq.2 rfl,rfl⟩
theorem Opn.str {t:TypeId} (ht:P.underlying t=some .string):Opn enc P W t fun c=>∃ l:List UInt8,c = .str l/\l.length<=maxLen:=fun fuel cs x h=>by
 obtain ⟨s,rfl,_,hs⟩:=DataW.trod_string ht h
 exact ⟨_,_,rfl,⟨s.data.toList,rfl,by rw[Array.length_toList];exact hs⟩,z8.2 (by cases s;simp),rfl⟩
theorem jl.one {t:TypeId} {Q:C->Prop} (h:Opn enc P W t Q):jl enc P W t 1 fun row=>∃ c,row = [c]/\Q c:=fun fuel cs x hx=>by
 obtain ⟨v,c,rfl,hq,hr,ho⟩:=h fuel cs x hx
 refine ⟨[c],⟨c,rfl,hq⟩,rfl,rfl,fun j c' v' h1 h2=>?_⟩
 cases j with
 | zero=>cases h1;cases h2;exact ⟨hr,ho⟩
 | succ j=>cases h1
theorem QZ {α:Type} {Q:Nat->α->Prop}:∀ n:Nat,(∀ i,i<n->∃ x,Q i x)->∃ l:List α,l.length=n/\∀ i (h:i<l.length),Q i l[i]
 | 0,_=>⟨[],rfl,fun i h=>absurd h (Nat.not_lt_zero _)⟩
 | n+1,h=>by
  obtain ⟨l,hl,hq⟩:=QZ n fun i hi=>h i (by omega)
  obtain ⟨x,hx⟩:=h n (by omega)
  refine ⟨l++[x],by simp[hl],fun i hi=>?_⟩
  rcases Nat.lt_or_ge i n with h1 | h1
  ·rw[List.getElem_append_left (by omega)];exact hq i (by omega)
  ·have:i=n:=by simp[hl]at hi;omega
   subst this
   rw[List.getElem_append_right (by omega)]
   simpa [hl] using hx
theorem jl.struct {t:TypeId} {fs:Array Field} {Qs:Nat->C->Prop} (hs:P.underlying t=some (.struct fs)) (hone:oneCellFields P fs=true) (hC:P.cellsOf t=fs.size)
  (h:∀ (j:Nat) f,fs[j]?=some f->Opn enc P W f.type (Qs j)):jl enc P W t fs.size fun row=>row.length=fs.size/\∀ (j:Nat) c,row[j]?=some c->Qs j c:=fun fuel cs x hx=>by
 obtain ⟨ys,n',hn',hy,hlen,hyl,hf⟩:=DataW.trod_struct hs hx
 rw[hC]at hlen
 obtain ⟨row,hl,hq⟩:=QZ (Q:=fun j (c:C)=>Qs j c/\∃ v,cs[j]?=some v/\Rep (MN W) zK c v/\v.oneCell'=true) fs.size (fun j hj=>by
  have hfj:fs[j]?=some fs[j]:=Array.getElem?_eq_getElem hj
  obtain ⟨ho,hk⟩:=hone_of hone j _ hfj
  have h1:=hf j _ hfj
  rw[ho,hk]at h1
  have hone':(cs.drop j).take 1 = [cs[j]'(by omega)]:=by
   rw[List.drop_eq_getElem_cons (by omega)]
   rfl
  rw[hone',List.getElem?_eq_getElem (by omega)]at h1
  obtain ⟨v,c,e,hq,hr,hoc⟩:=h j _ hfj _ _ _ h1
  cases e
  exact ⟨c,hq,_,List.getElem?_eq_getElem (by omega),hr,hoc⟩)
 refine ⟨row,⟨hl,fun j c hj=>?_⟩,hl,hlen,fun j c v h1 h2=>?_⟩
 ·obtain ⟨hj',rfl⟩:=List.getElem?_eq_some_iff.1 hj
  exact (hq j hj').1
 ·obtain ⟨hj',rfl⟩:=List.getElem?_eq_some_iff.1 h1
  obtain ⟨_,v',e,hr,ho⟩:=hq j hj'
  rw[h2]at e;cases e
  exact ⟨hr,ho⟩
theorem Opn.slice {t e:TypeId} {k:Nat} {Q:List C->Prop} (ht:P.underlying t=some (.slice e)) (hC:P.cellsOf e=k) (hk:0<k) (h:jl enc P W e k Q):Opn enc P W t fun c=>∃ rows,c = .sl k rows/\rows.length<=maxLen/\∀ r∈rows,Q r:=fun fuel cs x hx=>by
 rcases open_slice ht hx with h0 | ⟨a,len,cap,m,n,D,Pl,hcs,hb,hl,hm,hmm,hx,hi⟩
 ·exact ⟨_,.sl k [],h0.1,⟨[],rfl,Nat.zero_le _,fun r hr=>by cases hr⟩,HA.2 ⟨none,0,rfl,Nat.le_refl _,Nat.zero_le _,.inl rfl⟩,rfl⟩
 ·simp only[if_true]at hmm
  subst hmm
  obtain ⟨rows,hrl,hq⟩:=QZ (Q:=fun i (row:List C)=>Q row/\row.length=k/\∀ (j:Nat) c,row[j]?=some c->∃ v,W.cell? (a.add (i*k+j))=some v/\Rep (MN W) zK c v/\v.oneCell'=true) len (fun i hlt=>by
   obtain ⟨cs',hc,ht'⟩:=hi i (by omega)
   rw[hC]at hc
   obtain ⟨row,hq,hl1,hl2,hr⟩:=h _ _ _ ht'
   obtain ⟨_,hcl,hat⟩:=World.cells?_some hc
   refine ⟨row,hq,hl1,fun j c hj=>?_⟩
   have hjl:j<k:=by have:=(List.getElem?_eq_some_iff.1 hj).1;omega
   have hv:cs'[j]?=some (cs'[j]'(by omega)):=List.getElem?_eq_getElem (by omega)
   obtain ⟨hr1,hr2⟩:=hr j c _ hj hv
   refine ⟨_,?_,hr1,hr2⟩
   rw[←Go.Deep.add_add,hat j hjl,hv])
  refine ⟨_,.sl k rows,hcs,⟨rows,rfl,by omega,fun r hr=>?_⟩,?_,rfl⟩
  ·obtain ⟨i,hi',rfl⟩:=List.getElem_of_mem hr
   exact (hq i hi').1
  ·refine HA.2 ⟨some a,m,by rw[hrl],by omega,by omega,?_⟩
   by_cases h0:rows = []
   ·exact .inl h0
   ·have hpos:0<rows.length:=List.length_pos_iff.2 h0
    obtain ⟨b,off,spot⟩:=a
    obtain ⟨_,hl0,h00⟩:=hq 0 hpos
    obtain ⟨v0,hc0,_⟩:=h00 0 ((rows[0]'hpos)[0]'(by omega)) (List.getElem?_eq_getElem _)
    have hspot:spot=none:=by simpa [Addr.add] using World.cell?_spot hc0
    subst hspot
    refine .inr ⟨b,off,rfl,qW fun i row hrow=>?_⟩
    obtain ⟨hi',rfl⟩:=List.getElem?_eq_some_iff.1 hrow
    obtain ⟨_,hlr,hcr⟩:=hq i hi'
    refine ⟨hlr,qh fun j c hj=>?_⟩
    obtain ⟨v,h1,h2,h3⟩:=hcr j c hj
    rw[Addr.add_lit]at h1
    exact ⟨v,by rw[Nat.add_assoc];exact h1,fun hf=>hf,h2,h3⟩
theorem Opn.arg {r:Reach} {b0:Nat} {t:TypeId} {Q:C->Prop} {v:Value} {d:DataW H} {p:List MemPlace} (h:Opn enc P W t Q) (hv:v.cells = #[v]) (hd:DataW.Trod enc P W 0 (fun _=>true) true t v d p):∃ c,Q c/\Rep (MN W) zK c v:=by
 obtain ⟨fuel,hf⟩:=hd
 rw[hv]at hf
 obtain ⟨v',c,e,hq,hr,_⟩:=h _ _ _ hf
 cases e
 exact ⟨c,hq,hr⟩
theorem jl.arg {r:Reach} {b0:Nat} {t:TypeId} {fs:Array Field} {k:Nat} {Q:List C->Prop} {v:Value} {d:DataW H} {p:List MemPlace} (h:jl enc P W t k Q) (hs:P.underlying t=some (.struct fs)) (hval:Value.okWide P W r b0 t v)
  (hd:DataW.Trod enc P W 0 (fun _=>true) true t v d p):∃ row,Q row/\Rep (MN W) zK (.agg row) v:=by
 obtain ⟨cs,rfl,hsz⟩:=okWide_struct hs hval
 obtain ⟨fuel,hf⟩:=hd
 obtain ⟨row,hq,h1,h2,hr⟩:=h _ _ _ hf
 refine ⟨row,hq,jZ.2 ⟨cs,rfl,Yb ?_ fun i c v hc hv=>(hr i c v hc hv).1⟩⟩
 have:cs.toList.length=k:=h2
 omega
end
end
section
open Go.RowKit Go.ChangeMaps Go.ChangeShapes Go.WideShapes Go.Deep Go.Joins
theorem G5 {α:Type} {f:α->List C} {q:α->Prop}:∀ {rows:List (List C)},(∀ r∈rows,∃ a,r=f a/\q a)->∃ xs:List α,rows=xs.map f/\∀ x∈xs,q x
 | [],_=>⟨[],rfl,fun x h=>by cases h⟩
 | r :: rows,h=>by
  obtain ⟨xs,rfl,hq⟩:=G5 fun r' hr=>h r' (List.mem_cons_of_mem _ hr)
  obtain ⟨o,rfl,ho⟩:=h r List.mem_cons_self
  exact ⟨o :: xs,rfl,fun x hx=>by
   rcases List.mem_cons.1 hx with rfl | hx
   ·exact ho
   ·exact hq x hx⟩
section
variable {H:Type} {enc:TypeId×Value->H} {W:World}
theorem zmP:jl enc Tryz.prog W 108 2 fun row=>∃ o:zZ,row=Na o/\o.name.length<=maxLen:=fun fuel cs x hx=>by
 obtain ⟨row,⟨hl,hq⟩,h1,h2,h3⟩:=jl.struct (W:=W) (enc:=enc) (Qs:=fun j c=>match j with | 0=>∃ l:List UInt8,c = .str l/\l.length<=maxLen | 1=>∃ n,c = .sc (.int .i64 n)/\(Lit.int .i64 n).wf=true | _=>True) Tryz.underlying108 (by kernel_rfl) (by kernel_rfl) (fun j f hj=>by
  match j,hj with
  | 0,hj=>cases hj;exact Opn.str Tryz.underlying9
  | 1,hj=>cases hj;exact Opn.int Tryz.underlying3
  | j+2,hj=>simp at hj) fuel cs x hx
 match row,h1,hq,h3 with
 | [c0,c1],_,hq,h3 =>
  obtain ⟨a,rfl,ha⟩:=hq 0 c0 rfl
  obtain ⟨k,rfl,_⟩:=hq 1 c1 rfl
  exact ⟨_,⟨⟨a,k⟩,rfl,ha⟩,rfl,h2,h3⟩
theorem zh0:Opn enc Tryz.prog W 73 fun c=>∃ xs:List zZ,c = .sl 2 (zJ xs)/\xs.length<=maxLen/\∀ x∈xs,x.name.length<=maxLen:=fun fuel cs x hx=>by
 obtain ⟨v,c,rfl,⟨rows,rfl,hl,hr⟩,h1,h2⟩:=Opn.slice (W:=W) (enc:=enc) Tryz.underlying73 (show Tryz.prog.cellsOf 108=2 by kernel_rfl) (by decide) zmP fuel cs x hx
 obtain ⟨xs,rfl,hq⟩:=G5 hr
 exact ⟨v,_,rfl,⟨xs,rfl,by simpa using hl,hq⟩,h1,h2⟩
def zfQ (x:zp):Prop:=x.data.length<=maxLen/\x.es.length<=maxLen/\∀ e∈x.es,e.name.length<=maxLen
theorem zej:jl enc Tryz.prog W 75 6 fun row=>∃ o:zp,row=J4 o/\zfQ o:=fun fuel cs x hx=>by
 obtain ⟨row,⟨hl,hq⟩,h1,h2,h3⟩:=jl.struct (W:=W) (enc:=enc) (Qs:=fun j c=>match j with | 0=>∃ n,c = .sc (.int .i64 n)/\(Lit.int .i64 n).wf=true | 1=>∃ n,c = .sc (.int .i64 n)/\(Lit.int .i64 n).wf=true | 2=>∃ n,c = .sc (.int .i64 n)/\(Lit.int .i64 n).wf=true | 3=>∃ l:List UInt8,c = .str l/\l.length<=maxLen | 4=>∃ n,c = .sc (.int .i64 n)/\(Lit.int .i64 n).wf=true | 5=>∃ xs:List zZ,c = .sl 2 (zJ xs)/\xs.length<=maxLen/\∀ x∈xs,x.name.length<=maxLen | _=>True) Tryz.underlying75 (by kernel_rfl) (by kernel_rfl) (fun j f hj=>by
  match j,hj with
  | 0,hj=>cases hj;exact Opn.int Tryz.underlying3
  | 1,hj=>cases hj;exact Opn.int Tryz.underlying3
  | 2,hj=>cases hj;exact Opn.int Tryz.underlying3
  | 3,hj=>cases hj;exact Opn.str Tryz.underlying9
  | 4,hj=>cases hj;exact Opn.int Tryz.underlying3
  | 5,hj=>cases hj;exact zh0
  | j+6,hj=>simp at hj) fuel cs x hx
 match row,h1,hq,h3 with
 | [c0,c1,c2,c3,c4,c5],_,hq,h3 =>
  obtain ⟨a,rfl,_⟩:=hq 0 c0 rfl
  obtain ⟨b,rfl,_⟩:=hq 1 c1 rfl
  obtain ⟨c,rfl,_⟩:=hq 2 c2 rfl
  obtain ⟨d,rfl,hd⟩:=hq 3 c3 rfl
  obtain ⟨e,rfl,_⟩:=hq 4 c4 rfl
  obtain ⟨f,rfl,hf⟩:=hq 5 c5 rfl
  exact ⟨_,⟨⟨a,b,c,d,e,f⟩,rfl,hd,hf⟩,rfl,h2,h3⟩
theorem uJ:Opn enc Tryz.prog W 22 fun c=>∃ xs:List zp,c = .sl 6 (zt xs)/\xs.length<=maxLen/\∀ x∈xs,zfQ x:=fun fuel cs x hx=>by
 obtain ⟨v,c,rfl,⟨rows,rfl,hl,hr⟩,h1,h2⟩:=Opn.slice (W:=W) (enc:=enc) Tryz.underlying22 (show Tryz.prog.cellsOf 75=6 by kernel_rfl) (by decide) zej fuel cs x hx
 obtain ⟨xs,rfl,hq⟩:=G5 hr
 exact ⟨v,_,rfl,⟨xs,rfl,by simpa using hl,hq⟩,h1,h2⟩
theorem zpo:jl enc Tryz.prog W 24 4 fun row=>∃ f:FsV,row=fsC f/\f.xs.length<=maxLen/\∀ x∈f.xs,zfQ x:=fun fuel cs x hx=>by
 obtain ⟨row,⟨hl,hq⟩,h1,h2,h3⟩:=jl.struct (W:=W) (enc:=enc) (Qs:=fun j c=>match j with | 0=>∃ n,c = .sc (.int .i64 n)/\(Lit.int .i64 n).wf=true | 1=>∃ n,c = .sc (.int .i64 n)/\(Lit.int .i64 n).wf=true | 2=>∃ n,c = .sc (.int .i64 n)/\(Lit.int .i64 n).wf=true | 3=>∃ xs:List zp,c = .sl 6 (zt xs)/\xs.length<=maxLen/\∀ x∈xs,zfQ x | _=>True) Tryz.underlying24 (by kernel_rfl) (by kernel_rfl) (fun j f hj=>by
  match j,hj with
  | 0,hj=>cases hj;exact Opn.int Tryz.underlying3
  | 1,hj=>cases hj;exact Opn.int Tryz.underlying3
  | 2,hj=>cases hj;exact Opn.int Tryz.underlying3
  | 3,hj=>cases hj;exact uJ
  | j+4,hj=>simp at hj) fuel cs x hx
 match row,h1,hq,h3 with
 | [c0,c1,c2,c3],_,hq,h3 =>
  obtain ⟨a,rfl,_⟩:=hq 0 c0 rfl
  obtain ⟨b,rfl,_⟩:=hq 1 c1 rfl
  obtain ⟨c,rfl,_⟩:=hq 2 c2 rfl
  obtain ⟨d,rfl,hd⟩:=hq 3 c3 rfl
  exact ⟨_,⟨⟨a,b,c,d⟩,rfl,hd⟩,rfl,h2,h3⟩
end
end
section
open Go
structure zjS (κ:Type) where
 lt:κ->κ->Bool
 irr:∀ a,lt a a=false
 tr:∀ {a b c},lt a b=true->lt b c=true->lt a c=true
 tot:∀ {a b},lt a b=false->lt b a=false->a=b
theorem Up:∀ a:List UInt8,Op.bytesLess a a=false
 | []=>rfl
 | c :: a=>by
  have h:¬c<c:=by simp
  simp[Op.bytesLess,Up a]
theorem Gh:∀ {a b c:List UInt8},Op.bytesLess a b=true->Op.bytesLess b c=true->Op.bytesLess a c=true
 | _,[],_,h,_=>by unfold Op.bytesLess at h;cases h
 | [],y :: b,[],_,h2=>by unfold Op.bytesLess at h2;cases h2
 | [],y :: b,z :: c,_,_=>rfl
 | x :: a,y :: b,[],_,h2=>by unfold Op.bytesLess at h2;cases h2
 | x :: a,y :: b,z :: c,h1,h2=>by
  unfold Op.bytesLess at h1 h2 ⊢
  simp only[Bool.or_eq_true,Bool.and_eq_true,decide_eq_true_eq,beq_iff_eq]at h1 h2 ⊢
  rcases h1 with h1 | ⟨rfl,h1⟩
  ·rcases h2 with h2 | ⟨rfl,h2⟩
   ·exact .inl (UInt8.lt_trans h1 h2)
   ·exact .inl h1
  ·rcases h2 with h2 | ⟨rfl,h2⟩
   ·exact .inl h2
   ·exact .inr ⟨rfl,Gh h1 h2⟩
theorem UT:∀ {a b:List UInt8},Op.bytesLess a b=false->Op.bytesLess b a=false->a=b
 | [],[],_,_=>rfl
 | [],y :: b,h,_=>by unfold Op.bytesLess at h;cases h
 | x :: a,[],_,h=>by unfold Op.bytesLess at h;cases h
 | x :: a,y :: b,h1,h2=>by
  unfold Op.bytesLess at h1 h2
  simp only[Bool.or_eq_false_iff,decide_eq_false_iff_not,Bool.and_eq_false_iff,beq_eq_false_iff_ne]at h1 h2
  obtain ⟨g1,g2⟩:=h1
  obtain ⟨g3,g4⟩:=h2
  have hxy:x=y:=by
   apply UInt8.toNat_inj.1
   have e1:¬x.toNat<y.toNat:=fun h=>g1 (UInt8.lt_iff_toNat_lt.2 h)
   have e2:¬y.toNat<x.toNat:=fun h=>g3 (UInt8.lt_iff_toNat_lt.2 h)
   omega
  subst hxy
  have h3:Op.bytesLess a b=false:=by rcases g2 with g | g;exact absurd rfl g;exact g
  have h4:Op.bytesLess b a=false:=by rcases g4 with g | g;exact absurd rfl g;exact g
  rw[UT h3 h4]
theorem zcL:∀ a b:List UInt8,(Lib.compareBytes a b<0)=(Op.bytesLess a b=true)
 | [],[]=>by simp[Lib.compareBytes,Op.bytesLess]
 | [],_ :: _=>by simp[Lib.compareBytes,Op.bytesLess]
 | _ :: _,[]=>by simp[Lib.compareBytes,Op.bytesLess]
 | a :: x,b :: y=>by
  unfold Lib.compareBytes Op.bytesLess
  by_cases h1:a<b
  ·simp[h1]
  ·rw[if_neg h1]
   by_cases h2:b<a
   ·have:a≠b:=fun e=>by subst e;exact h1 h2
    simp[h1,h2,this]
   ·have e:a=b:=by
     apply UInt8.toNat_inj.1
     have e1:¬a.toNat<b.toNat:=fun h=>h1 (UInt8.lt_iff_toNat_lt.2 h)
     have e2:¬b.toNat<a.toNat:=fun h=>h2 (UInt8.lt_iff_toNat_lt.2 h)
     omega
    rw[if_neg h2,zcL x y]
    subst e
    simp[h1]
theorem zeC:∀ a b:List UInt8,(Lib.compareBytes a b=0)=(a=b)
 | [],[]=>by simp[Lib.compareBytes]
 | [],_ :: _=>by simp[Lib.compareBytes]
 | _ :: _,[]=>by simp[Lib.compareBytes]
 | a :: x,b :: y=>by
  unfold Lib.compareBytes
  by_cases h1:a<b
  ·have:a≠b:=fun e=>by subst e;simp at h1
   simp[h1,this]
  ·rw[if_neg h1]
   by_cases h2:b<a
   ·have:a≠b:=fun e=>by subst e;exact h1 h2
    simp[h2,this]
   ·have e:a=b:=by
     apply UInt8.toNat_inj.1
     have e1:¬a.toNat<b.toNat:=fun h=>h1 (UInt8.lt_iff_toNat_lt.2 h)
     have e2:¬b.toNat<a.toNat:=fun h=>h2 (UInt8.lt_iff_toNat_lt.2 h)
     omega
    rw[if_neg h2,zeC x y]
    subst e
    simp
def jC:zjS (List UInt8):=⟨Op.bytesLess,Up,Gh,UT⟩
def jP:zjS Int:=⟨fun a b=>decide (a<b),fun a=>by simp,fun h1 h2=>by simp at h1 h2 ⊢;omega,fun h1 h2=>by simp at h1 h2;omega⟩
section
variable {α κ:Type} [DecidableEq κ] (o:zjS κ) (key:α->κ)
def qI (xs:List α):Prop:=xs.Pairwise fun a b=>o.lt (key a) (key b)=true
def qq (n:κ) (xs:List α):Nat:=(xs.filter fun x=>o.lt (key x) n).length
def J3 (n:κ) (xs:List α):Bool:=xs.any fun x=>decide (key x=n)
def j7 (n:κ) (xs:List α):Option α:=xs.find? fun x=>decide (key x=n)
def JS (n:κ) (xs:List α):List α:=xs.filter fun x=>!decide (key x=n)
def Xr (x:α):List α->List α
 | []=>[x]
 | y :: r=>if o.lt (key x) (key y) then x :: y :: r else y :: Xr x r
variable {o:zjS κ} {key:α->κ}
theorem zjS.asym {a b:κ} (h:o.lt a b=true):o.lt b a=false:=by
 cases h':o.lt b a with
 | false=>rfl
 | true=>have:=o.tr h h';rw[o.irr]at this;cases this
theorem Zs (n:κ):∀ (xs:List α) (i:Nat),i<=xs.length->(∀ t (h:t<xs.length),t<i->o.lt (key xs[t]) n=true)->(∀ t (h:t<xs.length),i<=t->o.lt (key xs[t]) n=false)->qq o key n xs=i
 | [],i,h,_,_=>by simp at h;simp[qq,h]
 | x :: r,0,_,_,h2=>by
  have hx:o.lt (key x) n=false:=h2 0 (by simp) (Nat.le_refl _)
  have ih:=Zs n r 0 (Nat.zero_le _) (fun t h h'=>absurd h' (Nat.not_lt_zero _)) (fun t h _=>h2 (t+1) (by simp;omega) (Nat.zero_le _))
  unfold qq at ih ⊢
  rw[List.filter_cons_of_neg (by simp[hx])]
  exact ih
 | x :: r,i+1,h,h1,h2=>by
  have hx:o.lt (key x) n=true:=h1 0 (by simp) (Nat.succ_pos _)
  have ih:=Zs n r i (by simpa using h) (fun t h h'=>h1 (t+1) (by simp;omega) (by omega)) (fun t h h'=>h2 (t+1) (by simp;omega) (by omega))
  unfold qq at ih ⊢
  rw[List.filter_cons_of_pos (by simp[hx]),List.length_cons,ih]
theorem Zp (n:κ) (xs:List α):qq o key n xs<=xs.length:=List.length_filter_le _ _
theorem JD {y:α} {r:List α}:qI o key (y :: r)↔(∀ z∈r,o.lt (key y) (key z)=true)/\qI o key r:=List.pairwise_cons
theorem zaY {n:κ} {y:α} {r:List α} (h:o.lt (key y) n=true):qq o key n (y :: r)=qq o key n r+1:=by
 unfold qq
 rw[List.filter_cons_of_pos (by simpa using h),List.length_cons]
theorem zb9 {n:κ} {y:α} {r:List α} (hR:qI o key (y :: r)) (h:o.lt (key y) n=false):qq o key n (y :: r)=0:=by
 obtain ⟨h1,_⟩:=JD.1 hR
 unfold qq
 rw[List.length_eq_zero_iff,List.filter_eq_nil_iff]
 intro z hz
 rcases List.mem_cons.1 hz with rfl | hz
 ·simp[h]
 ·have h3:=h1 z hz
  cases h4:o.lt (key z) n with
  | false=>simp
  | true=>have:=o.tr h3 h4;rw[h]at this;cases this
theorem zdz {n:κ} {y:α} {r:List α} (hR:qI o key (y :: r)) (h:o.lt (key y) n=false):J3 key n (y :: r)=decide (key y=n):=by
 obtain ⟨h1,_⟩:=JD.1 hR
 unfold J3
 rw[List.any_cons]
 have:(r.any fun x=>decide (key x=n))=false:=List.any_eq_false.2 fun z hz=>by
  have h3:=h1 z hz
  simp only[decide_eq_true_eq]
  rintro rfl
  rw[h3]at h;cases h
 rw[this,Bool.or_false]
theorem VX (n:κ):∀ {xs:List α},qI o key xs->(∀ t (h:t<xs.length),t<qq o key n xs->o.lt (key xs[t]) n=true)/\(∀ t (h:t<xs.length),qq o key n xs<=t->o.lt (key xs[t]) n=false) /\
  (J3 key n xs=true->∃ h:qq o key n xs<xs.length,key xs[qq o key n xs]=n/\j7 key n xs=some xs[qq o key n xs]/\JS key n xs=xs.take (qq o key n xs)++xs.drop (qq o key n xs+1)/\∀ x,key x=n->Xr o key x (JS key n xs)=xs.set (qq o key n xs) x) /\
  (J3 key n xs=false->j7 key n xs=none/\JS key n xs=xs/\∀ x,key x=n->Xr o key x xs=xs.take (qq o key n xs)++x :: xs.drop (qq o key n xs))
 | [],_=>⟨fun t h=>absurd h (Nat.not_lt_zero _),fun t h=>absurd h (Nat.not_lt_zero _),fun h=>(by cases h),fun _=>⟨rfl,rfl,fun x _=>rfl⟩⟩
 | y :: r,hR=>by
  obtain ⟨h1,h2⟩:=JD.1 hR
  obtain ⟨i1,i2,i3,i4⟩:=VX n h2
  cases hy:o.lt (key y) n with
  | true =>
   have hne:key y≠n:=by rintro rfl;rw[o.irr]at hy;cases hy
   have hrk:=zaY (r:=r) hy
   have hhas:J3 key n (y :: r)=J3 key n r:=by unfold J3;rw[List.any_cons,decide_eq_false hne,Bool.false_or]
   have hfind:j7 key n (y :: r)=j7 key n r:=by unfold j7;rw[List.find?_cons_of_neg (by simpa using hne)]
   have hless:JS key n (y :: r)=y :: JS key n r:=by unfold JS;rw[List.filter_cons_of_pos (by simpa using hne)]
   have hput:∀ x q,key x=n->Xr o key x (y :: q)=y :: Xr o key x q:=fun x q hx=>by
    rw[Xr,hx,zjS.asym hy];rfl
   rw[hhas,hfind,hless,hrk]
   refine ⟨fun t h ht=>?_,fun t h ht=>?_,fun h=>?_,fun h=>?_⟩
   ·cases t with
    | zero=>exact hy
    | succ t=>exact i1 t (by simpa using h) (by omega)
   ·cases t with
    | zero=>omega
    | succ t=>exact i2 t (by simpa using h) (by omega)
   ·obtain ⟨g,g1,g2,g3,g4⟩:=i3 h
    refine ⟨by simp;omega,by simpa using g1,by simpa using g2,by rw[g3];simp,fun x hx=>?_⟩
    rw[hput x _ hx,g4 x hx];simp
   ·obtain ⟨g1,g2,g3⟩:=i4 h
    refine ⟨g1,by rw[g2],fun x hx=>?_⟩
    rw[hput x _ hx,g3 x hx];simp
  | false =>
   have hrk:=zb9 hR hy
   have hhas:=zdz hR hy
   rw[hrk,hhas]
   have hno:∀ z∈r,key z≠n:=fun z hz=>by
    have h3:=h1 z hz
    rintro rfl
    rw[h3]at hy;cases hy
   have hlr:JS key n r=r:=by
    unfold JS
    rw[List.filter_eq_self]
    intro z hz
    simpa using hno z hz
   refine ⟨fun t h ht=>absurd ht (Nat.not_lt_zero _),fun t h _=>?_,fun h=>?_,fun h=>?_⟩
   ·cases t with
    | zero=>exact hy
    | succ t =>
     have h3:=h1 (r[t]'(by simpa using h)) (List.getElem_mem _)
     show o.lt (key (r[t]'(by simpa using h))) n=false
     cases h4:o.lt (key (r[t]'(by simpa using h))) n with
     | false=>rfl
     | true=>have:=o.tr h3 h4;rw[hy]at this;cases this
   ·have hk:key y=n:=of_decide_eq_true h
    have hl:JS key n (y :: r)=r:=by
     show (y :: r).filter (fun x=>!decide (key x=n))=r
     rw[List.filter_cons_of_neg (by simpa using hk)];exact hlr
    refine ⟨by simp,hk,by unfold j7;rw[List.find?_cons_of_pos (by simpa using hk)];rfl,by rw[hl];simp,fun x hx=>?_⟩
    rw[hl]
    cases r with
    | nil=>rfl
    | cons z q =>
     have h3:=h1 z List.mem_cons_self
     rw[hk]at h3
     rw[Xr,hx,h3];rfl
   ·have hk:key y≠n:=of_decide_eq_false h
    have hny:o.lt n (key y)=true:=by
     cases h5:o.lt n (key y) with
     | true=>rfl
     | false=>exact absurd (o.tot hy h5) hk
    refine ⟨?_,?_,fun x hx=>?_⟩
    ·unfold j7
     rw[List.find?_eq_none]
     intro z hz
     rcases List.mem_cons.1 hz with rfl | hz
     ·simpa using hk
     ·simpa using hno z hz
    ·show (y :: r).filter (fun x=>!decide (key x=n))=y :: r
     rw[List.filter_cons_of_pos (by simpa using hk)]
     exact congrArg _ hlr
    ·rw[Xr,hx,hny];rfl
theorem vn (n:κ) {xs:List α} (hR:qI o key xs) {i:Nat} (hi:qq o key n xs=i) (h:i<xs.length):J3 key n xs=decide (key xs[i]=n):=by
 subst hi
 obtain ⟨_,_,h3,_⟩:=VX n hR
 cases hh:J3 key n xs with
 | true=>obtain ⟨_,g,_⟩:=h3 hh;rw[decide_eq_true g]
 | false =>
  symm
  rw[decide_eq_false_iff_not]
  intro e
  unfold J3 at hh
  rw[List.any_eq_false]at hh
  exact hh _ (List.getElem_mem h) (decide_eq_true e)
theorem GL (n:κ) {xs:List α} (hR:qI o key xs) (hi:qq o key n xs=xs.length):J3 key n xs=false:=by
 obtain ⟨_,_,h3,_⟩:=VX n hR
 cases hh:J3 key n xs with
 | false=>rfl
 | true=>obtain ⟨g,_⟩:=h3 hh;omega
theorem UA (n:κ) {xs:List α} (h:qI o key xs):qI o key (JS key n xs):=h.filter _
theorem Qm {x y:α}:∀ {xs:List α},y∈Xr o key x xs↔y=x∨y∈xs
 | []=>by simp[Xr]
 | z :: r=>by
  unfold Xr
  split
  ·simp
  ·rw[List.mem_cons,Qm,List.mem_cons]
   constructor
   ·rintro (h | h | h)
    ·exact .inr (.inl h)
    ·exact .inl h
    ·exact .inr (.inr h)
   ·rintro (h | h | h)
    ·exact .inr (.inl h)
    ·exact .inl h
    ·exact .inr (.inr h)
theorem ZA {n:κ} {y:α} {xs:List α}:y∈JS key n xs↔y∈xs/\key y≠n:=by unfold JS;simp
theorem Z6 {x:α}:∀ {xs:List α},qI o key xs->(∀ y∈xs,key y≠key x)->qI o key (Xr o key x xs)
 | [],_,_=>by unfold Xr qI;simp
 | y :: r,hR,hne=>by
  obtain ⟨h1,h2⟩:=JD.1 hR
  unfold Xr
  cases hxy:o.lt (key x) (key y) with
  | true =>
   rw[if_pos rfl,JD]
   refine ⟨fun z hz=>?_,hR⟩
   rcases List.mem_cons.1 hz with rfl | hz
   ·exact hxy
   ·exact o.tr hxy (h1 z hz)
  | false =>
   rw[if_neg (by simp),JD]
   have hyx:o.lt (key y) (key x)=true:=by
    cases h:o.lt (key y) (key x) with
    | true=>rfl
    | false=>exact absurd (o.tot h hxy) (hne y List.mem_cons_self)
   refine ⟨fun z hz=>?_,Z6 h2 fun z hz=>hne z (List.mem_cons_of_mem _ hz)⟩
   rcases Qm.1 hz with rfl | hz
   ·exact hyx
   ·exact h1 z hz
theorem Uk {x:α} {xs:List α} (h:qI o key xs):qI o key (Xr o key x (JS key (key x) xs)):=
 Z6 (UA _ h) fun y hy=>(ZA.1 hy).2
theorem Y9 (n:κ) (xs:List α):(JS key n xs).length<=xs.length:=List.length_filter_le _ _
theorem V0 (x:α):∀ xs:List α,(Xr o key x xs).length=xs.length+1
 | []=>rfl
 | y :: r=>by
  unfold Xr
  split
  ·rfl
  ·rw[List.length_cons,V0 x r];rfl
end
end
section
open Go.RowKit
section
variable {G:zr}
theorem zaT (rows:List (List C)) (hk:∀ r∈rows,r.length=2) (hs:jA rows) (hl:rows.length<=100000) :
  XG Tryz.prog G 232 [.sl 2 rows] [] 0 (zeU 2 rows):=by
 refine XG.bySlice (fun h=>?_) (fun h a cap hr=>?_)
 ·refine foX (fun i=>if i=1000000+73 then [true,true] else []) Tryz.func232 ?_;dsimp only[Tryz.f232]
  push_cast -dsimp
  refine ⟨h,Q6 QJ Ym rfl rfl (by decide) rfl (qt hk) rfl (Nat.le_refl _) (Nat.le_refl _) (by omega) (by omega) (fun hc=>absurd hc ?_) (fun _ c hc hm=>?_)⟩
  ·have:=List.length_pos_iff.2 h;omega
  ·push_cast -dsimp
   rw[Nat.zero_add]at hc
   refine ⟨_,_,_,⟨⟨rfl,.inl ⟨h,c,hc,hm,rfl,rfl⟩⟩,Nat.zero_le _⟩,[],rfl,rfl,?_,by push_cast -dsimp [ze,zd,CLe,zg]⟩
   push_cast -dsimp [ze,zd,CLe,zg]
   exact zT (zF hs)
 ·cases a with
  | none =>
   refine foX (fun i=>if i=1000000+73 then [true,true] else []) Tryz.func232 ?_;dsimp only[Tryz.f232]
   push_cast -dsimp [hr,Option.isNone_none]
   exact ⟨_,_,_,⟨⟨rfl,.inr ⟨h,.inl ⟨rfl,rfl⟩⟩⟩,Nat.zero_le _⟩,[],rfl,rfl,by push_cast -dsimp [ze,zd,CLe,zg],by push_cast -dsimp [ze,zd,CLe,zg]⟩
  | some a =>
   refine foX (fun i=>if i=1000000+73 then [true,true] else []) Tryz.func232 ?_;dsimp only[Tryz.f232]
   push_cast -dsimp [hr,Option.isNone_some]
   have hx:C.xs? 2 [[]] (C.sc (.slice (some a) 0 cap))=some (0,[]):=by simp[C.xs?,hr]
   refine Q6 QJ Ym hx rfl (by decide) rfl rfl rfl (Nat.le_refl _) (Nat.le_refl _) (by omega) (by omega) (fun _=>?_) (fun hc=>absurd hc (by omega))
   push_cast -dsimp
   exact ⟨_,_,_,⟨⟨rfl,.inr ⟨h,.inr ⟨rfl,rfl⟩⟩⟩,Nat.zero_le _⟩,[],rfl,rfl,by (push_cast -dsimp [ze,zd,CLe,zg];simp[spl,zg]),by push_cast -dsimp [ze,zd,CLe,zg]⟩
theorem uo (rows:List (List C)) (x:List C) (i c e:Nat) (hk:∀ r∈rows,r.length=2) (hx:x.length=2) (hs:jA rows) (hsx:(x.all C.stayB)=true) (hl:rows.length<=100000) (hi:i<=rows.length) (hc:rows.length<=c) (hcm:c<=9223372036854775807) :
  XG Tryz.prog G 233 [.bs 0 0 2 rows.length c,.sc (.int .i64 i),.own 0 e 2 [x]] [qw 2 rows c] 1 (zpW 2 (c*2) (rows.take i++x :: rows.drop i)):=by
 refine foX (fun j=>if j=1000000+73 then [true,true] else if j=11 then [false,false,false,false,false,false,false,false,true] else if j=15 then [false,false,false,false,false,false,false,false,true] else []) Tryz.func233 ?_;dsimp only[Tryz.f233]
 push_cast -dsimp
 have hlen:(rows.take i++x :: rows.drop i).length=rows.length+1:=by simp;omega
 have hki:∀ r∈rows.take i++x :: rows.drop i,r.length=2:=fun r hr=>by
  rcases List.mem_append.1 hr with hr | hr
  ·exact hk r (List.mem_of_mem_take hr)
  ·rcases List.mem_cons.1 hr with rfl | hr
   ·exact hx
   ·exact hk r (List.mem_of_mem_drop hr)
 have hsi:jA (rows.take i++x :: rows.drop i):=fun r hr=>by
  rcases List.mem_append.1 hr with hr | hr
  ·exact hs r (List.mem_of_mem_take hr)
  ·rcases List.mem_cons.1 hr with rfl | hr
   ·exact hsx
   ·exact hs r (List.mem_of_mem_drop hr)
 have hbl:=JI hk hc
 have hfl:=qt hk
 have hxl:[x].flatten.length=1*2:=by simp[hx]
 have hpre:(qw 2 rows c).take rows.flatten.length=rows.flatten:=by unfold qw;rw[List.take_left]
 refine ⟨hc,⟨by omega,hi⟩,br (fun h=>?_) (fun h=>?_)⟩
 ·push_cast -dsimp
  refine Q6 QJ Ym rfl rfl (by decide) rfl hxl rfl (by rw[hbl];omega) hc (by simp;omega) (by simp;omega) (fun h1=>?_) (fun h1 c' h2 h3=>?_)
  ·push_cast -dsimp
   have hi':i=rows.length:=of_decide_eq_true h
   refine ⟨_,_,_,⟨⟨rfl,c,by rw[hlen];exact h1,hcm,.inl ⟨rfl,rfl⟩⟩,Nat.le_refl _⟩,[],rfl,rfl,?_,by push_cast -dsimp [ze,zd,CLe,zg,hlen]⟩
   push_cast -dsimp [ze,zd,CLe,zg]
   have h6:rows.length*2+2<=c*2:=by have:rows.length+1<=c:=h1;omega
   refine Jz hki hsi (by rw[hlen];exact h1) (by rw[QW (by rw[hbl,hx];exact h6),hbl]) ?_
   rw[hlen,hi',List.take_length,List.drop_length]
   unfold spl
   rw[←hfl,hpre,List.take_left' (by simp[hx,hfl];omega)]
   simp
  ·push_cast -dsimp
   have hi':i=rows.length:=of_decide_eq_true h
   have h2':rows.length+1<=c':=h2
   refine ⟨_,_,_,⟨⟨rfl,c',by rw[hlen];exact h2,h3,.inr ⟨rfl,rfl⟩⟩,Nat.le_of_ble_eq_true rfl⟩,[],rfl,rfl,?_,by push_cast -dsimp [ze,zd,CLe,zg,hlen]⟩
   push_cast -dsimp [ze,zd,CLe,zg]
   refine ⟨Xv hbl,Jz hki hsi (by rw[hlen];exact h2) (by simp[hx,hbl];omega) ?_⟩
   rw[hlen,hi',List.take_length,List.drop_length,←hfl,hpre,List.take_left' (by simp[hx,hfl];omega)]
   simp
 ·have hne:i≠rows.length:=of_decide_eq_false h
  push_cast -dsimp
  refine ⟨⟨by omega,by omega⟩,br (fun h1=>?_) (fun h1=>?_)⟩
  ·have h1':(c:Int)<(rows.length:Int)+1:=of_decide_eq_true h1
   push_cast -dsimp
   repeat refine an ?_
   refine zkP QJ znd Ym rfl (by decide) rfl rfl (by rw[hbl];omega) (by omega) (by omega) (by omega) (by omega) (by omega) (fun c' B h2 h3 hBl hBt=>?_)
   have e1:((rows.length:Int)+1-(i:Int)).toNat=rows.length+1-i:=by omega
   rw[e1]at h2 ⊢
   have e2:i+(rows.length+1-i)=rows.length+1:=by omega
   rw[e2]at h2 ⊢
   push_cast -dsimp
   repeat refine an ?_
   refine Xy QJ Ym rfl rfl hxl (by rw[hBl];omega) (fun B1 hB1 hl1=>?_)
   rw[hBl]at hl1
   push_cast -dsimp
   repeat refine an ?_
   have hbp:=Xj (c:=c) hk hi
   refine Xy QJ Ym (ku rfl (by rw[hbl];omega)) rfl (by rw[hbp,List.length_drop,hfl];omega) (by rw[hl1];omega) (fun B2 hB2 hl2=>?_)
   rw[hl1]at hl2
   have hX:[x].flatten.take (min [x].length (rows.length+1-i)*2)=x:=by
    rw[List.length_singleton,Nat.min_eq_left (by omega),List.take_of_length_le (by omega)];simp
   rw[hX]at hB1
   rw[hbp,show min (rows.length-i) (rows.length-i)*2=(rows.length-i)*2 by omega,List.take_of_length_le (by rw[List.length_drop,hfl];omega),hB1]at hB2
   push_cast -dsimp
   refine ⟨_,_,_,⟨⟨rfl,c',by rw[hlen];exact h2,h3,.inr ⟨rfl,rfl⟩⟩,Nat.le_of_ble_eq_true rfl⟩,[],rfl,rfl,?_,by push_cast -dsimp [ze,zd,CLe,zg,hlen]⟩
   push_cast -dsimp [ze,zd,CLe,zg]
   refine ⟨Xv hbl,Jz hki hsi (by rw[hlen];exact h2) hl2 ?_⟩
   rw[hlen,←Qt hk,hB2]
   have hg:=Gd (cs:=B) (L:=rows.flatten) (X:=x) (p:=i*2) (q:=(i+1)*2) (by omega) (by omega) (by
    rw[hBt,List.drop_zero];unfold qw;rw[List.take_append_of_le_length (by omega)]) (by omega)
   rw[hfl,hx]at hg
   rw[←hg]
   congr 1;omega
  ·have h1':¬(c:Int)<(rows.length:Int)+1:=of_decide_eq_false h1
   push_cast -dsimp
   repeat refine an ?_
   refine zlf (yi (P:=Tryz.prog) (tR:=4) Tryz.func254 (by kernel_rfl) (by kernel_rfl) (by kernel_rfl) (by kernel_rfl) QJ Ym rfl (List.ne_nil_of_length_pos (by rw[hbl];omega)) (by simp) (by omega)) ?_
   push_cast -dsimp
   repeat refine an ?_
   have hbp:=Xj (c:=c) hk hi
   refine Xy QJ Ym (ku rfl (by rw[hbl];omega)) rfl (by simp[hbl];omega) (by rw[hbl];omega) (fun B1 hB1 hl1=>?_)
   rw[hbl]at hl1
   rw[List.take_take,Nat.min_eq_left (by omega),show min (rows.length+1-i) (rows.length-i)*2=(rows.length-i)*2 by omega,hbp]at hB1
   push_cast -dsimp
   repeat refine an ?_
   refine Xy QJ Ym rfl rfl hxl (by rw[hl1];omega) (fun B2 hB2 hl2=>?_)
   rw[hl1]at hl2
   have hX:[x].flatten.take (min [x].length (rows.length+1-i)*2)=x:=by
    rw[List.length_singleton,Nat.min_eq_left (by omega),List.take_of_length_le (by omega)];simp
   rw[hX,hB1]at hB2
   push_cast -dsimp
   have hcc:rows.length+1<=c:=by omega
   refine ⟨_,_,_,⟨⟨rfl,c,by rw[hlen];exact hcc,hcm,.inl ⟨rfl,rfl⟩⟩,Nat.le_of_ble_eq_true rfl⟩,[],rfl,rfl,?_,by push_cast -dsimp [ze,zd,CLe,zg,hlen]⟩
   push_cast -dsimp [ze,zd,CLe,zg]
   refine Jz hki hsi (by rw[hlen];exact hcc) hl2 ?_
   rw[hlen,←Qt hk,hB2]
   have hg:=UE (cs:=qw 2 rows c) (L:=rows.flatten) (X:=x) (p:=i*2) (q:=(i+1)*2) (by omega) (by omega) hpre (by omega)
   rw[hfl,hx]at hg
   rw[←hg]
   congr 1;omega
theorem zhB {e:Nat} (x:List C) (hx:x.length=2) (hsx:(x.all C.stayB)=true) :
  XG Tryz.prog G 233 [.sc (.slice none 0 0),.sc (.int .i64 0),.own 0 e 2 [x]] [] 1 (fun r bx' n=>n=0/\∃ c,1<=c/\c<=9223372036854775807/\r = .bs 0 0 2 1 c/\bx' = [qw 2 [x] c]):=by
 refine foX (fun j=>if j=1000000+73 then [true,true] else if j=11 then [false,false,false,false,false,false,false,false,true] else if j=15 then [false,false,false,false,false,false,false,false,true] else []) Tryz.func233 ?_;dsimp only[Tryz.f233]
 push_cast -dsimp
 refine Nq QJ Ym rfl rfl (by decide) rfl (by simp[hx]) (by simp) (by simp) (by simp) (fun c h1 h2=>?_)
 push_cast -dsimp
 refine ⟨_,_,_,⟨⟨rfl,c,h1,h2,rfl,rfl⟩,Nat.zero_le _⟩,[],rfl,rfl,?_,by push_cast -dsimp [ze,zd,CLe,zg]⟩
 push_cast -dsimp [ze,zd,CLe,zg]
 have:=zT (src:=[]) (n:=1) (zF (k:=2) (c:=c) (rows:=[x]) fun r hr=>by
  rw[List.mem_singleton.1 hr];exact hsx)
 unfold qw at this ⊢
 simpa using this
end
end
end Go.Proofs.YtiblepfehggicaaGreatDoor.Vcg
section
namespace Go.Proofs
open Go.Shelf
def Tryz.lays169_ren:Go.Shelf.Ren:=⟨fun | 169=>119 | n=>n,fun | 70=>156 | 9=>9 | 0=>0 | 72=>159 | 37=>157 | 127=>199 | 3=>3 | 5=>5 | n=>n,fun | n=>n⟩
theorem Tryz.lays169:Go.Proofs.Lays.n169 Tryz.prog Tryz.lays169_ren:={
 mixed:=by kernel_rfl
 f169:=Tryz.func119.trans (congrArg some (by kernel_rfl))
 t0:=Tryz.underlying0
 a0:=Tryz.isAgg0
 z0:=Tryz.sizeOf0
 v0:=Tryz.zeroValue0
 t3:=Tryz.underlying3
 a3:=Tryz.isAgg3
 z3:=Tryz.sizeOf3
 v3:=Tryz.zeroValue3
 t9:=Tryz.underlying9
 a9:=Tryz.isAgg9
 z9:=Tryz.sizeOf9
 v9:=Tryz.zeroValue9
 t37:=Tryz.underlying157
 a37:=Tryz.isAgg157
 z37:=Tryz.sizeOf157
 v37:=Tryz.zeroValue157
 t70:=Tryz.underlying156
 a70:=Tryz.isAgg156
 z70:=Tryz.sizeOf156
 v70:=Tryz.zeroValue156
 t72:=Tryz.underlying159
 a72:=Tryz.isAgg159
 z72:=Tryz.sizeOf159
 v72:=Tryz.zeroValue159
 t127:=Tryz.underlying199
 a127:=Tryz.isAgg199
 z127:=Tryz.sizeOf199
 v127:=Tryz.zeroValue199 }
theorem Tryz.Builder_Extra_169:Builder.Extra Tryz.prog Tryz.lays169_ren:={
 sizeBuilder:=by kernel_rfl
 liesBuilder:=by kernel_rfl
 t5:=Tryz.underlying5
 a5:=Tryz.isAgg5
 z5:=Tryz.sizeOf5
 v5:=Tryz.zeroValue5
 infoByte:=by kernel_rfl
 cellsByte:=by kernel_rfl
 sizeByte:=by kernel_rfl
 neB5:=by decide }
open Go.RowKit in
theorem Tryz.Builder_String_any (B b:Nat) (l:List UInt8) (w:World) (h:Lib.IsBuilder 159 5 B b (Lib.byteCells l) w) (hBw:B<=w.heap.size) :
  Calls Tryz.prog 119 #[.pointer (some ⟨b,0,none⟩)] w fun e w'=>e = .returned (.string ⟨l.toArray⟩)/\Below B w w':=Any.Builder_String_any Tryz.lays169 Tryz.Builder_Extra_169 B b l w h hBw
def Tryz.lays156_ren:Go.Shelf.Ren:=⟨fun | 156=>78 | 165=>117 | 166=>118 | 169=>119 | 240=>159 | 241=>160 | 276=>194 | 277=>195 | n=>n,fun | 31=>33 | 9=>9 | 3=>3 | 4=>4 | 0=>0 | 20=>20 | 72=>159 | 76=>163 | 70=>156 | 37=>157 | 75=>162 | 127=>199 | 164=>233 | 5=>5 | 80=>165 | n=>n,fun | n=>n⟩
theorem Tryz.lays156:Go.Proofs.Lays.n156 Tryz.prog Tryz.lays156_ren:={
 mixed:=by kernel_rfl
 f156:=Tryz.func78.trans (congrArg some (by kernel_rfl))
 f165:=Tryz.func117.trans (congrArg some (by kernel_rfl))
 f166:=Tryz.func118.trans (congrArg some (by kernel_rfl))
 f169:=Tryz.func119.trans (congrArg some (by kernel_rfl))
 f240:=Tryz.func159.trans (congrArg some (by kernel_rfl))
 f241:=Tryz.func160.trans (congrArg some (by kernel_rfl))
 f276:=Tryz.func194.trans (congrArg some (by kernel_rfl))
 f277:=Tryz.func195.trans (congrArg some (by kernel_rfl))
 t0:=Tryz.underlying0
 a0:=Tryz.isAgg0
 z0:=Tryz.sizeOf0
 v0:=Tryz.zeroValue0
 t3:=Tryz.underlying3
 a3:=Tryz.isAgg3
 z3:=Tryz.sizeOf3
 v3:=Tryz.zeroValue3
 t4:=Tryz.underlying4
 a4:=Tryz.isAgg4
 z4:=Tryz.sizeOf4
 v4:=Tryz.zeroValue4
 t9:=Tryz.underlying9
 a9:=Tryz.isAgg9
 z9:=Tryz.sizeOf9
 v9:=Tryz.zeroValue9
 t20:=Tryz.underlying20
 a20:=Tryz.isAgg20
 z20:=Tryz.sizeOf20
 v20:=Tryz.zeroValue20
 t31:=Tryz.underlying33
 a31:=Tryz.isAgg33
 z31:=Tryz.sizeOf33
 v31:=Tryz.zeroValue33
 t37:=Tryz.underlying157
 a37:=Tryz.isAgg157
 z37:=Tryz.sizeOf157
 v37:=Tryz.zeroValue157
 t70:=Tryz.underlying156
 a70:=Tryz.isAgg156
 z70:=Tryz.sizeOf156
 v70:=Tryz.zeroValue156
 t72:=Tryz.underlying159
 a72:=Tryz.isAgg159
 z72:=Tryz.sizeOf159
 v72:=Tryz.zeroValue159
 t75:=Tryz.underlying162
 a75:=Tryz.isAgg162
 z75:=Tryz.sizeOf162
 v75:=Tryz.zeroValue162
 t76:=Tryz.underlying163
 a76:=Tryz.isAgg163
 z76:=Tryz.sizeOf163
 v76:=Tryz.zeroValue163
 t127:=Tryz.underlying199
 a127:=Tryz.isAgg199
 z127:=Tryz.sizeOf199
 v127:=Tryz.zeroValue199
 t164:=Tryz.underlying233
 a164:=Tryz.isAgg233
 z164:=Tryz.sizeOf233
 v164:=Tryz.zeroValue233 }
theorem Tryz.Builder_Extra_156:Builder.Extra Tryz.prog Tryz.lays156_ren:={
 sizeBuilder:=by kernel_rfl
 liesBuilder:=by kernel_rfl
 t5:=Tryz.underlying5
 a5:=Tryz.isAgg5
 z5:=Tryz.sizeOf5
 v5:=Tryz.zeroValue5
 infoByte:=by kernel_rfl
 cellsByte:=by kernel_rfl
 sizeByte:=by kernel_rfl
 neB5:=by decide }
open Go.RowKit in
theorem Tryz.strings_Join_none (a:Option Addr) (c:Nat) (sep:ByteArray) (w:World) :
  Calls Tryz.prog 78 #[.slice a 0 c,.string sep] w fun e w'=>e = .returned (.string ⟨#[]⟩)/\w'=w:=Any.strings_Join_none Tryz.lays156 Tryz.Builder_Extra_156 a c sep w
open Go.RowKit in
theorem Tryz.strings_Join (bk o c:Nat) (xs:List ByteArray) (sep:ByteArray) (w:World) (hcells:∀ (j:Nat) x,xs[j]?=some x->w.cell? ⟨bk,o+j,none⟩=some (.string x)) (hbk:bk<w.heap.size) (hN:xs.length<=140737488355328) (hcap:xs.length<=c) (hlen:(Lib.join (xs.map (·.data.toList)) sep.data.toList).length<=140737488355328) :
  Calls Tryz.prog 78 #[.slice (some ⟨bk,o,none⟩) xs.length c,.string sep] w fun e w'=>e = .returned (.string ⟨(Lib.join (xs.map (·.data.toList)) sep.data.toList).toArray⟩)/\Below w.heap.size w w':=Any.strings_Join Tryz.lays156 Tryz.Builder_Extra_156 bk o c xs sep w hcells hbk hN hcap hlen
def Tryz.lays162_ren:Go.Shelf.Ren:=⟨fun | 162=>153 | 232=>187 | 227=>188 | 234=>189 | 236=>190 | 228=>222 | 271=>223 | 151=>224 | 120=>248 | 197=>185 | 152=>249 | 260=>220 | 137=>260 | 119=>261 | 224=>246 | 225=>245 | 217=>244 | 266=>258 | n=>n,fun | 9=>9 | 4=>4 | 3=>3 | 5=>5 | 117=>224 | 116=>223 | 0=>0 | 124=>227 | 21=>21 | 105=>218 | 46=>230 | 119=>261 | 139=>264 | 138=>263 | n=>n,fun | 3=>5 | 4=>6 | n=>n⟩
theorem Tryz.lays162:Go.Proofs.Lays.n162 Tryz.prog Tryz.lays162_ren:={
 mixed:=by kernel_rfl
 f119:=Tryz.func261.trans (congrArg some (by kernel_rfl))
 f120:=Tryz.func248.trans (congrArg some (by kernel_rfl))
 f137:=Tryz.func260.trans (congrArg some (by kernel_rfl))
 f151:=Tryz.func224.trans (congrArg some (by kernel_rfl))
 f152:=Tryz.func249.trans (congrArg some (by kernel_rfl))
 f162:=Tryz.func153.trans (congrArg some (by kernel_rfl))
 f197:=Tryz.func185.trans (congrArg some (by kernel_rfl))
 f217:=Tryz.func244.trans (congrArg some (by kernel_rfl))
 f224:=Tryz.func246.trans (congrArg some (by kernel_rfl))
 f225:=Tryz.func245.trans (congrArg some (by kernel_rfl))
 f227:=Tryz.func188.trans (congrArg some (by kernel_rfl))
 f228:=Tryz.func222.trans (congrArg some (by kernel_rfl))
 f232:=Tryz.func187.trans (congrArg some (by kernel_rfl))
 f234:=Tryz.func189.trans (congrArg some (by kernel_rfl))
 f236:=Tryz.func190.trans (congrArg some (by kernel_rfl))
 f260:=Tryz.func220.trans (congrArg some (by kernel_rfl))
 f266:=Tryz.func258.trans (congrArg some (by kernel_rfl))
 f271:=Tryz.func223.trans (congrArg some (by kernel_rfl))
 t0:=Tryz.underlying0
 a0:=Tryz.isAgg0
 z0:=Tryz.sizeOf0
 v0:=Tryz.zeroValue0
 t3:=Tryz.underlying3
 a3:=Tryz.isAgg3
 z3:=Tryz.sizeOf3
 v3:=Tryz.zeroValue3
 t4:=Tryz.underlying4
 a4:=Tryz.isAgg4
 z4:=Tryz.sizeOf4
 v4:=Tryz.zeroValue4
 t5:=Tryz.underlying5
 a5:=Tryz.isAgg5
 z5:=Tryz.sizeOf5
 v5:=Tryz.zeroValue5
 t9:=Tryz.underlying9
 a9:=Tryz.isAgg9
 z9:=Tryz.sizeOf9
 v9:=Tryz.zeroValue9
 t21:=Tryz.underlying21
 a21:=Tryz.isAgg21
 z21:=Tryz.sizeOf21
 v21:=Tryz.zeroValue21
 t46:=Tryz.underlying230
 a46:=Tryz.isAgg230
 z46:=Tryz.sizeOf230
 v46:=Tryz.zeroValue230
 t105:=Tryz.underlying218
 a105:=Tryz.isAgg218
 z105:=Tryz.sizeOf218
 v105:=Tryz.zeroValue218
 t116:=Tryz.underlying223
 a116:=Tryz.isAgg223
 z116:=Tryz.sizeOf223
 t117:=Tryz.underlying224
 a117:=Tryz.isAgg224
 z117:=Tryz.sizeOf224
 v117:=Tryz.zeroValue224
 t119:=Tryz.underlying261
 a119:=Tryz.isAgg261
 z119:=Tryz.sizeOf261
 t124:=Tryz.underlying227
 a124:=Tryz.isAgg227
 z124:=Tryz.sizeOf227
 v124:=Tryz.zeroValue227
 t138:=Tryz.underlying263
 a138:=Tryz.isAgg263
 z138:=Tryz.sizeOf263
 v138:=Tryz.zeroValue263
 t139:=Tryz.underlying264
 a139:=Tryz.isAgg264
 z139:=Tryz.sizeOf264
 v139:=Tryz.zeroValue264
 g3:=by kernel_rfl
 g4:=by kernel_rfl }
def Tryz.lays119_ren:Go.Shelf.Ren:=⟨fun | 119=>261 | n=>n,fun | 21=>21 | 4=>4 | n=>n,fun | n=>n⟩
theorem Tryz.lays119:Go.Proofs.Lays.n119 Tryz.prog Tryz.lays119_ren:={
 mixed:=by kernel_rfl
 f119:=Tryz.func261.trans (congrArg some (by kernel_rfl))
 t4:=Tryz.underlying4
 a4:=Tryz.isAgg4
 z4:=Tryz.sizeOf4
 v4:=Tryz.zeroValue4
 t21:=Tryz.underlying21
 a21:=Tryz.isAgg21
 z21:=Tryz.sizeOf21
 v21:=Tryz.zeroValue21 }
theorem Tryz.utf8_ValidRune (r:Int) (w:World) :
  Calls Tryz.prog 261 #[.int .i32 r] w fun e w'=>e = .returned (.bool (Lib.validRune r))/\w'=w:=Any.utf8_ValidRune Tryz.lays119 r w
def Tryz.lays106_ren:Go.Shelf.Ren:=⟨fun | 106=>253 | 213=>263 | 265=>266 | n=>n,fun | 9=>9 | 3=>3 | n=>n,fun | n=>n⟩
theorem Tryz.lays106:Go.Proofs.Lays.n106 Tryz.prog Tryz.lays106_ren:={
 mixed:=by kernel_rfl
 f106:=Tryz.func253.trans (congrArg some (by kernel_rfl))
 f213:=Tryz.func263.trans (congrArg some (by kernel_rfl))
 f265:=Tryz.func266.trans (congrArg some (by kernel_rfl))
 t3:=Tryz.underlying3
 a3:=Tryz.isAgg3
 z3:=Tryz.sizeOf3
 v3:=Tryz.zeroValue3
 t9:=Tryz.underlying9
 a9:=Tryz.isAgg9
 z9:=Tryz.sizeOf9
 v9:=Tryz.zeroValue9 }
open Go.RowKit in
theorem Tryz.strings_Compare (a b:ByteArray) (w:World) :
  Calls Tryz.prog 253 #[.string a,.string b] w fun e w'=>e = .returned (.int .i64 (Lib.compareBytes a.data.toList b.data.toList))/\w'=w:=Any.strings_Compare Tryz.lays106 a b w
def Tryz.lays137_ren:Go.Shelf.Ren:=⟨fun | 137=>260 | 217=>244 | 266=>258 | n=>n,fun | 9=>9 | 5=>5 | 3=>3 | n=>n,fun | n=>n⟩
theorem Tryz.lays137:Go.Proofs.Lays.n137 Tryz.prog Tryz.lays137_ren:={
 mixed:=by kernel_rfl
 f137:=Tryz.func260.trans (congrArg some (by kernel_rfl))
 f217:=Tryz.func244.trans (congrArg some (by kernel_rfl))
 f266:=Tryz.func258.trans (congrArg some (by kernel_rfl))
 t3:=Tryz.underlying3
 a3:=Tryz.isAgg3
 z3:=Tryz.sizeOf3
 v3:=Tryz.zeroValue3
 t5:=Tryz.underlying5
 a5:=Tryz.isAgg5
 z5:=Tryz.sizeOf5
 v5:=Tryz.zeroValue5
 t9:=Tryz.underlying9
 a9:=Tryz.isAgg9
 z9:=Tryz.sizeOf9
 v9:=Tryz.zeroValue9 }
open Go.RowKit in
theorem Tryz.strings_IndexByte (s:ByteArray) (c:Int) (w:World) :
  Calls Tryz.prog 260 #[.string s,.int .u8 c] w fun e w'=>e = .returned (.int .i64 (Lib.indexByte s.data.toList c.toNat.toUInt8))/\w'=w:=Any.strings_IndexByte Tryz.lays137 s c w
def Tryz.lays143_ren:Go.Shelf.Ren:=⟨fun | 143=>186 | 219=>221 | 217=>244 | 225=>245 | 224=>246 | 267=>247 | 266=>258 | 314=>259 | n=>n,fun | 9=>9 | 3=>3 | 4=>4 | 5=>5 | 46=>230 | 146=>273 | 51=>272 | n=>n,fun | 1=>4 | n=>n⟩
theorem Tryz.lays143:Go.Proofs.Lays.n143 Tryz.prog Tryz.lays143_ren:={
 mixed:=by kernel_rfl
 f143:=Tryz.func186.trans (congrArg some (by kernel_rfl))
 f217:=Tryz.func244.trans (congrArg some (by kernel_rfl))
 f219:=Tryz.func221.trans (congrArg some (by kernel_rfl))
 f224:=Tryz.func246.trans (congrArg some (by kernel_rfl))
 f225:=Tryz.func245.trans (congrArg some (by kernel_rfl))
 f266:=Tryz.func258.trans (congrArg some (by kernel_rfl))
 f267:=Tryz.func247.trans (congrArg some (by kernel_rfl))
 f314:=Tryz.func259.trans (congrArg some (by kernel_rfl))
 t3:=Tryz.underlying3
 a3:=Tryz.isAgg3
 z3:=Tryz.sizeOf3
 v3:=Tryz.zeroValue3
 t4:=Tryz.underlying4
 a4:=Tryz.isAgg4
 z4:=Tryz.sizeOf4
 v4:=Tryz.zeroValue4
 t5:=Tryz.underlying5
 a5:=Tryz.isAgg5
 z5:=Tryz.sizeOf5
 v5:=Tryz.zeroValue5
 t9:=Tryz.underlying9
 a9:=Tryz.isAgg9
 z9:=Tryz.sizeOf9
 v9:=Tryz.zeroValue9
 t46:=Tryz.underlying230
 a46:=Tryz.isAgg230
 z46:=Tryz.sizeOf230
 v46:=Tryz.zeroValue230
 t51:=Tryz.underlying272
 a51:=Tryz.isAgg272
 z51:=Tryz.sizeOf272
 v51:=Tryz.zeroValue272
 t146:=Tryz.underlying273
 a146:=Tryz.isAgg273
 z146:=Tryz.sizeOf273
 v146:=Tryz.zeroValue273
 g1:=by kernel_rfl }
open Go.RowKit Go.Lib in
theorem Tryz.strings_Index_one (s:ByteArray) (c:UInt8) (w:World) :
  Calls Tryz.prog 186 #[.string s,.string ⟨#[c]⟩] w fun e w'=>e = .returned (.int .i64 (Lib.indexByte s.data.toList c))/\w'=w:=Any.strings_Index_one Tryz.lays143 s c w
def Tryz.lays99_ren:Go.Shelf.Ren:=⟨fun | 99=>81 | 206=>122 | n=>n,fun | 9=>9 | 4=>4 | 3=>3 | n=>n,fun | n=>n⟩
theorem Tryz.lays99:Go.Proofs.Lays.n99 Tryz.prog Tryz.lays99_ren:={
 mixed:=by kernel_rfl
 f99:=Tryz.func81.trans (congrArg some (by kernel_rfl))
 f206:=Tryz.func122.trans (congrArg some (by kernel_rfl))
 t3:=Tryz.underlying3
 a3:=Tryz.isAgg3
 z3:=Tryz.sizeOf3
 v3:=Tryz.zeroValue3
 t4:=Tryz.underlying4
 a4:=Tryz.isAgg4
 z4:=Tryz.sizeOf4
 v4:=Tryz.zeroValue4
 t9:=Tryz.underlying9
 a9:=Tryz.isAgg9
 z9:=Tryz.sizeOf9
 v9:=Tryz.zeroValue9 }
open Go.RowKit Go.Lib in
theorem Tryz.strings_HasPrefix (s p:ByteArray) (w:World) :
  Calls Tryz.prog 81 #[.string s,.string p] w fun e w'=>e = .returned (.bool (Lib.hasPrefix s.data.toList p.data.toList))/\w'=w:=Any.strings_HasPrefix Tryz.lays99 s p w
def Tryz.lays100_ren:Go.Shelf.Ren:=⟨fun | 100=>38 | 207=>73 | n=>n,fun | 9=>9 | 4=>4 | 3=>3 | n=>n,fun | n=>n⟩
theorem Tryz.lays100:Go.Proofs.Lays.n100 Tryz.prog Tryz.lays100_ren:={
 mixed:=by kernel_rfl
 f100:=Tryz.func38.trans (congrArg some (by kernel_rfl))
 f207:=Tryz.func73.trans (congrArg some (by kernel_rfl))
 t3:=Tryz.underlying3
 a3:=Tryz.isAgg3
 z3:=Tryz.sizeOf3
 v3:=Tryz.zeroValue3
 t4:=Tryz.underlying4
 a4:=Tryz.isAgg4
 z4:=Tryz.sizeOf4
 v4:=Tryz.zeroValue4
 t9:=Tryz.underlying9
 a9:=Tryz.isAgg9
 z9:=Tryz.sizeOf9
 v9:=Tryz.zeroValue9 }
open Go.RowKit Go.Lib in
theorem Tryz.strings_HasSuffix (s p:ByteArray) (w:World) (hs:s.size<=9223372036854775807) :
  Calls Tryz.prog 38 #[.string s,.string p] w fun e w'=>e = .returned (.bool (Lib.hasSuffix s.data.toList p.data.toList))/\w'=w:=Any.strings_HasSuffix Tryz.lays100 s p w hs
def Tryz.lays152_ren:Go.Shelf.Ren:=⟨fun | 152=>249 | 137=>260 | 119=>261 | 224=>246 | 225=>245 | 217=>244 | 266=>258 | n=>n,fun | 9=>9 | 21=>21 | 3=>3 | 4=>4 | 5=>5 | 0=>0 | 46=>230 | n=>n,fun | n=>n⟩
theorem Tryz.lays152:Go.Proofs.Lays.n152 Tryz.prog Tryz.lays152_ren:={
 mixed:=by kernel_rfl
 f119:=Tryz.func261.trans (congrArg some (by kernel_rfl))
 f137:=Tryz.func260.trans (congrArg some (by kernel_rfl))
 f152:=Tryz.func249.trans (congrArg some (by kernel_rfl))
 f217:=Tryz.func244.trans (congrArg some (by kernel_rfl))
 f224:=Tryz.func246.trans (congrArg some (by kernel_rfl))
 f225:=Tryz.func245.trans (congrArg some (by kernel_rfl))
 f266:=Tryz.func258.trans (congrArg some (by kernel_rfl))
 t0:=Tryz.underlying0
 a0:=Tryz.isAgg0
 z0:=Tryz.sizeOf0
 v0:=Tryz.zeroValue0
 t3:=Tryz.underlying3
 a3:=Tryz.isAgg3
 z3:=Tryz.sizeOf3
 v3:=Tryz.zeroValue3
 t4:=Tryz.underlying4
 a4:=Tryz.isAgg4
 z4:=Tryz.sizeOf4
 v4:=Tryz.zeroValue4
 t5:=Tryz.underlying5
 a5:=Tryz.isAgg5
 z5:=Tryz.sizeOf5
 v5:=Tryz.zeroValue5
 t9:=Tryz.underlying9
 a9:=Tryz.isAgg9
 z9:=Tryz.sizeOf9
 v9:=Tryz.zeroValue9
 t21:=Tryz.underlying21
 a21:=Tryz.isAgg21
 z21:=Tryz.sizeOf21
 v21:=Tryz.zeroValue21
 t46:=Tryz.underlying230
 a46:=Tryz.isAgg230
 z46:=Tryz.sizeOf230
 v46:=Tryz.zeroValue230 }
open Go.RowKit Go.Lib in
theorem Tryz.strings_IndexRune_ascii (s:ByteArray) (r:Int) (w:World) (h0:0<=r) (h1:r<128) :
  Calls Tryz.prog 249 #[.string s,.int .i32 r] w fun e w'=>e = .returned (.int .i64 (Lib.indexByte s.data.toList r.toNat.toUInt8))/\w'=w:=Any.strings_IndexRune_ascii Tryz.lays152 s r w h0 h1
def Tryz.lays226_ren:Go.Shelf.Ren:=⟨fun | 226=>262 | n=>n,fun | 3=>3 | 4=>4 | n=>n,fun | n=>n⟩
theorem Tryz.lays226:Go.Proofs.Lays.n226 Tryz.prog Tryz.lays226_ren:={
 mixed:=by kernel_rfl
 f226:=Tryz.func262.trans (congrArg some (by kernel_rfl))
 t3:=Tryz.underlying3
 a3:=Tryz.isAgg3
 z3:=Tryz.sizeOf3
 v3:=Tryz.zeroValue3
 t4:=Tryz.underlying4
 a4:=Tryz.isAgg4
 z4:=Tryz.sizeOf4
 v4:=Tryz.zeroValue4 }
open Go.RowKit Go.Lib in
theorem Tryz.strings_shouldUseASCIISet (n:Int) (w:World) :
  Calls Tryz.prog 262 #[.int .i64 n] w fun e w'=>e = .returned (.bool (decide (8<n)))/\w'=w:=Any.strings_shouldUseASCIISet Tryz.lays226 n w
def Tryz.lays153_ren:Go.Shelf.Ren:=⟨fun | 153=>250 | 152=>249 | 226=>262 | 227=>188 | 228=>222 | 137=>260 | 119=>261 | 224=>246 | 225=>245 | 217=>244 | 266=>258 | n=>n,fun | 9=>9 | 3=>3 | 4=>4 | 5=>5 | 21=>21 | 117=>224 | 116=>223 | 0=>0 | 46=>230 | 124=>227 | n=>n,fun | n=>n⟩
theorem Tryz.lays153:Go.Proofs.Lays.n153 Tryz.prog Tryz.lays153_ren:={
 mixed:=by kernel_rfl
 f119:=Tryz.func261.trans (congrArg some (by kernel_rfl))
 f137:=Tryz.func260.trans (congrArg some (by kernel_rfl))
 f152:=Tryz.func249.trans (congrArg some (by kernel_rfl))
 f153:=Tryz.func250.trans (congrArg some (by kernel_rfl))
 f217:=Tryz.func244.trans (congrArg some (by kernel_rfl))
 f224:=Tryz.func246.trans (congrArg some (by kernel_rfl))
 f225:=Tryz.func245.trans (congrArg some (by kernel_rfl))
 f226:=Tryz.func262.trans (congrArg some (by kernel_rfl))
 f227:=Tryz.func188.trans (congrArg some (by kernel_rfl))
 f228:=Tryz.func222.trans (congrArg some (by kernel_rfl))
 f266:=Tryz.func258.trans (congrArg some (by kernel_rfl))
 t0:=Tryz.underlying0
 a0:=Tryz.isAgg0
 z0:=Tryz.sizeOf0
 v0:=Tryz.zeroValue0
 t3:=Tryz.underlying3
 a3:=Tryz.isAgg3
 z3:=Tryz.sizeOf3
 v3:=Tryz.zeroValue3
 t4:=Tryz.underlying4
 a4:=Tryz.isAgg4
 z4:=Tryz.sizeOf4
 v4:=Tryz.zeroValue4
 t5:=Tryz.underlying5
 a5:=Tryz.isAgg5
 z5:=Tryz.sizeOf5
 v5:=Tryz.zeroValue5
 t9:=Tryz.underlying9
 a9:=Tryz.isAgg9
 z9:=Tryz.sizeOf9
 v9:=Tryz.zeroValue9
 t21:=Tryz.underlying21
 a21:=Tryz.isAgg21
 z21:=Tryz.sizeOf21
 v21:=Tryz.zeroValue21
 t46:=Tryz.underlying230
 a46:=Tryz.isAgg230
 z46:=Tryz.sizeOf230
 v46:=Tryz.zeroValue230
 t116:=Tryz.underlying223
 a116:=Tryz.isAgg223
 z116:=Tryz.sizeOf223
 t117:=Tryz.underlying224
 a117:=Tryz.isAgg224
 z117:=Tryz.sizeOf224
 v117:=Tryz.zeroValue224
 t124:=Tryz.underlying227
 a124:=Tryz.isAgg227
 z124:=Tryz.sizeOf227
 v124:=Tryz.zeroValue227 }
open Go.RowKit Go.Lib in
theorem Tryz.strings_IndexAny_long (hv116:∀ w,(zeroValue 223).run Tryz.prog w = .ok (.agg (Array.replicate 256 (.bool false))) w) (s chars:ByteArray) (w:World) (h2:2<=chars.size) (h8:8<s.size) (hs:s.size<4294967281) (hcs:chars.size<4294967281) (hascii:∀ (j:Nat) b,chars.data.toList[j]?=some b->b.toNat<128) :
  Calls Tryz.prog 250 #[.string s,.string chars] w fun e w'=>e = .returned (.int .i64 (Lib.indexAny s.data.toList chars.data.toList))/\w'=((w.alloc (.cells (Lib.setCells chars.data.toList) 223)).alloc (.cells (Lib.setCells chars.data.toList) 223)):=Any.strings_IndexAny_long Tryz.lays153 hv116 (by kernel_rfl) s chars w h2 h8 hs hcs hascii
end Go.Proofs
end
namespace Go.Proofs.YtiblepfehggicaaGreatDoor.Vcg
section
open CA CB
open Go.RowKit
section
variable {G:zr}
theorem jY (f:FsV) (n:Int) (hl:f.xs.length<=100000) (hR:z7 f.xs):Fun Tryz.prog G 158 [.agg (fsC f),.sc (.int .i64 n)] (.tup [.agg (J4 (zh n f.xs)),.sc (.bool (zn n f.xs))]) 0:=by
 refine fon Tryz.func158 ?_;dsimp only[Tryz.f158]
 push_cast -dsimp
 refine cl (zfP f n hl hR) ?_;push_cast -dsimp
 cases hh:zn n f.xs with
 | false =>
  have hg:zh n f.xs=zmy:=by unfold zh;rw[Gl hh];rfl
  push_cast -dsimp [hh]
  exact dn (by push_cast -dsimp [ze,zd,CLe,zg,hg,zmy])
 | true =>
  obtain ⟨hlt,hg⟩:=G9 hR hh
  have hg:zh n f.xs=f.xs[js n f.xs]:=by unfold zh;rw[hg];rfl
  have hat:=jb f.xs _ hlt
  push_cast -dsimp [hh,hat]
  (try simp only[lS]);repeat refine an ?_
  exact dn (by push_cast -dsimp [ze,zd,CLe,zg,hg])
theorem zY {xs:List zp}:∀ r∈zt xs,r.length=6:=fun r hr=>by
 obtain ⟨x,_,rfl⟩:=List.mem_map.1 hr;rfl
theorem zu {xs:List zp}:jA (zt xs):=fun r hr=>by
 obtain ⟨x,_,rfl⟩:=List.mem_map.1 hr;rfl
theorem YP (f:FsV) (x:zp) (hl:f.xs.length<=90000) (hR:z7 f.xs) :
  Fun Tryz.prog G 203 [.agg (fsC f),.agg (J4 x)] (.agg [.sc (.int .i64 f.maxI),.sc (.int .i64 f.maxB),.sc (.int .i64 f.next),.own 0 75 6 (zt (qm x f.xs))]) 1:=by
 have hll:(zt f.xs).length=f.xs.length:=List.length_map ..
 refine foF (fun _=>[]) Tryz.func203 ?_;dsimp only[Tryz.f203]
 push_cast -dsimp
 refine cl (zfP f x.ino (by omega) hR) ?_;push_cast -dsimp
 refine Jl [] [] (Qo (zt f.xs) zY zu (by omega)) rfl (by decide) (by decide) (by simp) (by push_cast -dsimp) (by push_cast -dsimp) (fun r bx' m hp=>?_)
 obtain ⟨rfl,⟨hne,c,h1,h2,rfl,rfl⟩ | ⟨he,⟨rfl,rfl⟩ | ⟨rfl,rfl⟩⟩⟩:=hp
 ·have hbl:=JI zY h1
  have hre:∀ fp fo,C.reL fp fo (qw 6 (zt f.xs) c)=qw 6 (zt f.xs) c:=fun fp fo=>zB (zF zu)
  have hpos:=List.length_pos_iff.2 hne
  cases hh:zn x.ino f.xs with
  | true =>
   obtain ⟨hlt,_⟩:=G9 hR hh
   have hst:=uz (c:=c) (rows:=zt f.xs) (row:=J4 x) (i:=js x.ino f.xs) zY rfl (by omega)
   have hset:zt (qm x f.xs)=(zt f.xs).set (js x.ino f.xs) (J4 x):=by rw[←ym hR hh];simp[List.map_set]
   push_cast -dsimp [hh,hre,hst]
   refine ⟨by omega,by omega,by rw[hbl];omega,[(4,75,6,(zt f.xs).set (js x.ino f.xs) (J4 x),c)],[.inl 0],?_,rfl,rfl,by push_cast -dsimp [ze,zd,CLe,zg,hset,List.length_set]⟩
   rw[←hset]
   refine zA (by rw[hset];rfl) (by omega) (by rw[hset,List.length_set];exact h1) h2 zY zu
  | false =>
   have hset:zt (qm x f.xs)=(zt f.xs).take (js x.ino f.xs)++J4 x :: (zt f.xs).drop (js x.ino f.xs):=by rw[←vw hR hh];simp
   have hrl:=zeS x.ino f.xs
   have hsl:(zt (qm x f.xs)).length=(zt f.xs).length+1:=by rw[hset];simp;omega
   push_cast -dsimp [hh,hre]
   refine Jl [4] [0] (V3 (e:=75) (zt f.xs) (J4 x) (js x.ino f.xs) c zY rfl zu rfl (by omega) (by omega) h1 h2) rfl (by decide) (by decide) (by simp) (by push_cast -dsimp) (by push_cast -dsimp [hre]) (fun r bx' m hp=>?_)
   rw[←hset]at hp
   have hre2:∀ fp fo c,C.reL fp fo (qw 6 (zt (qm x f.xs)) c)=qw 6 (zt (qm x f.xs)) c:=fun fp fo c=>zB (zF zu)
   obtain ⟨rfl,c',g1,g2,⟨rfl,rfl⟩ | ⟨rfl,rfl⟩⟩:=hp
   ·push_cast -dsimp [hre2,hre]
    exact ⟨[(4,75,6,zt (qm x f.xs),c')],[.inl 1],zA rfl (by omega) g1 g2 zY zu,rfl,rfl,by push_cast -dsimp [ze,zd,CLe,zg]⟩
   ·have hra:∀ fp fo,C.reL fp fo (List.replicate (c*6) .any)=List.replicate (c*6) .any:=fun fp fo=>zB (by simp[List.all_replicate,C.stayB])
    push_cast -dsimp [hre2,hre,hra]
    exact ⟨[(5,75,6,zt (qm x f.xs),c')],[.inl 1],zA rfl (by omega) g1 g2 zY zu,rfl,rfl,by push_cast -dsimp [ze,zd,CLe,zg]⟩
 ·have he:f.xs = []:=by simpa using he
  have hh:zn x.ino f.xs=false:=by rw[he];rfl
  have hr0:js x.ino f.xs=0:=by rw[he];rfl
  have hset:qm x f.xs = [x]:=by rw[he];rfl
  push_cast -dsimp [hh,hr0]
  refine Jl [] [0] (zad (e:=75) (J4 x) rfl rfl) rfl (by decide) (by decide) (by simp) (by push_cast -dsimp) (by push_cast -dsimp) (fun r bx' m hp=>?_)
  obtain ⟨rfl,c,g1,g2,rfl,rfl⟩:=hp
  have hre:∀ fp fo,C.reL fp fo (qw 6 [J4 x] c)=qw 6 [J4 x] c:=fun fp fo=>zB (zF (zu (xs:=[x])))
  push_cast -dsimp [hre]
  exact ⟨[(3,75,6,zt [x],c)],[.inl 1],zA rfl (by omega) g1 g2 zY zu,rfl,rfl,by push_cast -dsimp [ze,zd,CLe,zg,hset]⟩
 ·have he:f.xs = []:=by simpa using he
  have hh:zn x.ino f.xs=false:=by rw[he];rfl
  have hr0:js x.ino f.xs=0:=by rw[he];rfl
  have hset:qm x f.xs = [x]:=by rw[he];rfl
  push_cast -dsimp [hh,hr0]
  refine Jl [3] [0] (V3 (e:=75) [] (J4 x) 0 0 (fun r hr=>by cases hr) rfl (fun r hr=>by cases hr) rfl (by simp) (by simp) (by simp) (by simp)) rfl (by decide) (by decide) (by simp) (by push_cast -dsimp) (by push_cast -dsimp [qw]) (fun r bx' m hp=>?_)
  obtain ⟨rfl,c,g1,g2,hp⟩:=hp
  have hre:∀ fp fo,C.reL fp fo (qw 6 [J4 x] c)=qw 6 [J4 x] c:=fun fp fo=>zB (zF (zu (xs:=[x])))
  rcases hp with ⟨rfl,rfl⟩ | ⟨rfl,rfl⟩
  ·push_cast -dsimp [hre]
   exact ⟨[(3,75,6,zt [x],c)],[.inl 1],zA rfl (Nat.lt_of_lt_of_le (Nat.zero_lt_succ _) g1) g1 g2 zY zu,rfl,rfl,by push_cast -dsimp [ze,zd,CLe,zg,hset]⟩
  ·push_cast -dsimp [hre]
   exact ⟨[(4,75,6,zt [x],c)],[.inl 1],zA rfl (Nat.lt_of_lt_of_le (Nat.zero_lt_succ _) g1) g1 g2 zY zu,rfl,rfl,by push_cast -dsimp [ze,zd,CLe,zg,hset]⟩
theorem zjo (f:FsV) (n:Int) (hl:f.xs.length<=90000) (hR:z7 f.xs) (h0:f.xs≠[]) :
  Fun Tryz.prog G 207 [.agg (fsC f),.sc (.int .i64 n)] (.agg [.sc (.int .i64 f.maxI),.sc (.int .i64 f.maxB),.sc (.int .i64 f.next),.own 0 75 6 (zt (qj n f.xs))]) 1:=by
 have hll:(zt f.xs).length=f.xs.length:=List.length_map ..
 refine foF (fun _=>[]) Tryz.func207 ?_;dsimp only[Tryz.f207]
 push_cast -dsimp
 refine cl (zfP f n (by omega) hR) ?_;push_cast -dsimp
 refine Jl [] [] (Qo (zt f.xs) zY zu (by omega)) rfl (by decide) (by decide) (by simp) (by push_cast -dsimp) (by push_cast -dsimp) (fun r bx' m hp=>?_)
 obtain ⟨rfl,⟨hne,c,h1,h2,rfl,rfl⟩ | ⟨he,_⟩⟩:=hp
 ·have hre:∀ fp fo,C.reL fp fo (qw 6 (zt f.xs) c)=qw 6 (zt f.xs) c:=fun fp fo=>zB (zF zu)
  have hpos:=List.length_pos_iff.2 hne
  cases hh:zn n f.xs with
  | true =>
   obtain ⟨hlt,_⟩:=G9 hR hh
   have hset:zt (qj n f.xs)=(zt f.xs).take (js n f.xs)++(zt f.xs).drop (js n f.xs+1):=by rw[←ud hR hh];simp
   have hsl:(zt (qj n f.xs)).length=(zt f.xs).length-1:=by rw[hset];simp;omega
   have hd:=zgY (G:=G) (zt f.xs) (js n f.xs) c zY zu (by omega) (by omega) h1 h2
   rw[←hset,←hsl]at hd
   have hre2:∀ fp fo,C.reL fp fo (qw 6 (zt (qj n f.xs)) c)=qw 6 (zt (qj n f.xs)) c:=fun fp fo=>zB (zF zu)
   push_cast -dsimp [hh,hre]
   (try simp only[lS]);repeat refine an ?_
   rw[hll]at hd
   refine yB [3] [] hd rfl (by decide) (by decide) (by simp) (by push_cast -dsimp) (by push_cast -dsimp [hre]) ?_
   push_cast -dsimp [hre,hre2]
   exact ⟨[(3,75,6,zt (qj n f.xs),c)],[.inl 0],zA rfl (by omega) (by omega) h2 zY zu,rfl,rfl,by push_cast -dsimp [ze,zd,CLe,zg]⟩
  | false =>
   push_cast -dsimp [hh,hre]
   exact ⟨[(3,75,6,zt f.xs,c)],[.inl 0],zA rfl (by omega) h1 h2 zY zu,rfl,rfl,by push_cast -dsimp [ze,zd,CLe,zg,Qq hh]⟩
 ·exact absurd (by simpa using he) h0
theorem zhK (f:FsV) (hl:f.xs.length<=90000) (h0:f.xs≠[]) (h1:-4611686018427387904<=f.next) (h2:f.next<=4611686018427387904) :
  Fun Tryz.prog G 201 [.agg (fsC f)] (.tup [.agg [.sc (.int .i64 f.maxI),.sc (.int .i64 f.maxB),.sc (.int .i64 (f.next+1)),.own 0 75 6 (zt f.xs)],.sc (.int .i64 f.next)]) 1:=by
 have hll:(zt f.xs).length=f.xs.length:=List.length_map ..
 refine foF (fun _=>[]) Tryz.func201 ?_;dsimp only[Tryz.f201]
 push_cast -dsimp
 (try simp only[lS]);repeat refine an ?_
 refine Jl [] [] (Qo (zt f.xs) zY zu (by omega)) rfl (by decide) (by decide) (by simp) (by push_cast -dsimp) (by push_cast -dsimp) (fun r bx' m hp=>?_)
 obtain ⟨rfl,⟨hne,c,h1,h2,rfl,rfl⟩ | ⟨he,_⟩⟩:=hp
 ·have hre:∀ fp fo,C.reL fp fo (qw 6 (zt f.xs) c)=qw 6 (zt f.xs) c:=fun fp fo=>zB (zF zu)
  have hpos:=List.length_pos_iff.2 hne
  push_cast -dsimp [hre]
  exact ⟨[(3,75,6,zt f.xs,c)],[.inl 0],zA rfl (by omega) h1 h2 zY zu,rfl,rfl,by push_cast -dsimp [ze,zd,CLe,zg]⟩
 ·exact absurd (by simpa using he) h0
theorem ziS {R:Env} {L:Loc} {id e:Nat} {v:Value} (h:Rep R L (.own id e 6 [[.sc (.int .i64 1),.sc (.int .i64 2),.sc (.int .i64 0),.str [],.sc (.int .i64 1),.sc (.slice none 0 0)]]) v):Rep R L (.own id e 6 (zt [⟨1,2,0,[],1,[]⟩])) v:=
 zav (by simp[RLe,zg,CLe]) h
theorem XM {α:Type} {a b:List α} {i:Nat} (ha:i<a.length) (hb:i<b.length) (h:a.take i=b.take i):(a.take (i+1)=b.take (i+1))↔a[i]=b[i]:=by
 rw[List.take_add_one,List.take_add_one,h,List.append_right_inj,List.getElem?_eq_getElem ha,List.getElem?_eq_getElem hb]
 simp
theorem zoh (a b:zZ):(decide (a.name=b.name)&&decide (a.ino=b.ino))=decide (a=b):=by
 cases a;cases b;simp
theorem znY (a b:zp):a=b↔a.ino=b.ino/\a.kind=b.kind/\a.links=b.links/\a.data=b.data/\a.parent=b.parent/\a.es=b.es:=by
 cases a;cases b;simp
theorem zq8 (a b:FsV):a=b↔a.maxI=b.maxI/\a.maxB=b.maxB/\a.next=b.next/\a.xs=b.xs:=by
 cases a;cases b;simp
end
end
section
open CA CB
open Go.RowKit
section
variable {G:zr}
theorem MH (a b:List zZ) (ha:a.length<=9223372036854775807):Fun Tryz.prog G 132 [.sl 2 (zJ a),.sl 2 (zJ b)] (.sc (.bool (decide (a=b)))) 0:=by
 refine fon Tryz.func132 ?_;dsimp only[Tryz.f132]
 have hla:(zJ a).length=a.length:=List.length_map ..
 have hlb:(zJ b).length=b.length:=List.length_map ..
 by_cases hab:a.length=b.length
 ·push_cast -dsimp [hla,hlb,hab]
  refine loop (fun i:Nat=>⟨[(0,.sl 2 (zJ a)),(1,.sl 2 (zJ b)),(5,.sc (.int .i64 i))],[],0,0⟩) (fun i=>i<=b.length/\a.take i=b.take i) (fun i=>b.length-i) 0 ⟨Nat.zero_le _,rfl⟩ ?_ ?_
  ·exact wk
  ·rintro i ⟨h1,h2⟩
   by_cases h:i<b.length
   ·have g1:=Ja a i (by omega)
    have g2:=Ja b i h
    push_cast -dsimp [hla,hab,h,g1,g2]
    repeat refine an ?_
    have hd:=zoh a[i] b[i]
    by_cases he:a[i]=b[i]
    ·have hd:(decide (a[i].name=b[i].name)&&decide (a[i].ino=b[i].ino))=true:=by rw[hd,decide_eq_true he]
     push_cast -dsimp [hd]
     repeat refine an ?_
     exact ⟨i+1,⟨h,(XM (by omega) h h2).2 he⟩,by omega,wk⟩
    ·have hd:(decide (a[i].name=b[i].name)&&decide (a[i].ino=b[i].ino))=false:=by rw[hd,decide_eq_false he]
     push_cast -dsimp [hd]
     have:a≠b:=fun h=>he (by subst h;rfl)
     exact dn (by push_cast -dsimp [ze,zd,CLe,zg,this])
   ·push_cast -dsimp [hla,hab,h]
    have:a=b:=by rw[←List.take_of_length_le (l:=a) (i:=i) (by omega),h2,List.take_of_length_le (by omega)]
    exact dn (by push_cast -dsimp [ze,zd,CLe,zg,this])
 ·push_cast -dsimp [hla,hlb,hab]
  have:a≠b:=fun h=>hab (by rw[h])
  exact dn (by push_cast -dsimp [ze,zd,CLe,zg,this])
theorem zmi (x y:zp) (hx:x.es.length<=9223372036854775807):Fun Tryz.prog G 97 [.agg (J4 x),.agg (J4 y)] (.sc (.bool (decide (x=y)))) 0:=by
 refine fon Tryz.func97 ?_;dsimp only[Tryz.f97]
 by_cases e0:x.ino=y.ino
 case neg =>
  have hn:¬x=y:=fun h=>e0 (by rw[h])
  push_cast -dsimp [e0]
  exact dn (by push_cast -dsimp [ze,zd,CLe,zg,hn])
 by_cases e1:x.kind=y.kind
 case neg =>
  have hn:¬x=y:=fun h=>e1 (by rw[h])
  push_cast -dsimp [e0,e1]
  exact dn (by push_cast -dsimp [ze,zd,CLe,zg,hn])
 by_cases e2:x.links=y.links
 case neg =>
  have hn:¬x=y:=fun h=>e2 (by rw[h])
  push_cast -dsimp [e0,e1,e2]
  exact dn (by push_cast -dsimp [ze,zd,CLe,zg,hn])
 by_cases e3:x.data=y.data
 case neg =>
  have hn:¬x=y:=fun h=>e3 (by rw[h])
  push_cast -dsimp [e0,e1,e2,e3]
  exact dn (by push_cast -dsimp [ze,zd,CLe,zg,hn])
 by_cases e4:x.parent=y.parent
 case neg =>
  have hn:¬x=y:=fun h=>e4 (by rw[h])
  push_cast -dsimp [e0,e1,e2,e3,e4]
  exact dn (by push_cast -dsimp [ze,zd,CLe,zg,hn])
 by_cases e5:x.es=y.es
 case neg =>
  have hn:¬x=y:=fun h=>e5 (by rw[h])
  push_cast -dsimp [e0,e1,e2,e3,e4]
  refine cl (MH x.es y.es hx) ?_;push_cast -dsimp [e5,hn]
  exact dn (by push_cast -dsimp [ze,zd,CLe,zg,hn])
 have hn:x=y:=(znY x y).2 ⟨e0,e1,e2,e3,e4,e5⟩
 push_cast -dsimp [e0,e1,e2,e3,e4]
 refine cl (MH x.es y.es hx) ?_;push_cast -dsimp [e5]
 exact dn (by push_cast -dsimp [ze,zd,CLe,zg,hn])
theorem H0 (a b:List zp) (ha:a.length<=100000) (he:∀ x∈a,x.es.length<=9223372036854775807):Fun Tryz.prog G 55 [.sl 6 (zt a),.sl 6 (zt b)] (.sc (.bool (decide (a=b)))) 0:=by
 refine fon Tryz.func55 ?_;dsimp only[Tryz.f55]
 have hla:(zt a).length=a.length:=List.length_map ..
 have hlb:(zt b).length=b.length:=List.length_map ..
 by_cases hab:a.length=b.length
 ·push_cast -dsimp [hla,hlb,hab]
  refine loop (fun i:Nat=>⟨[(0,.sl 6 (zt a)),(1,.sl 6 (zt b)),(5,.sc (.int .i64 i))],[],0,0⟩) (fun i=>i<=b.length/\a.take i=b.take i) (fun i=>b.length-i) 0 ⟨Nat.zero_le _,rfl⟩ ?_ ?_
  ·exact wk
  ·rintro i ⟨h1,h2⟩
   by_cases h:i<b.length
   ·have g1:=jb a i (by omega)
    have g2:=jb b i h
    push_cast -dsimp [hla,hab,h,g1,g2]
    repeat refine an ?_
    refine cl (zmi a[i] b[i] (he _ (List.getElem_mem _))) ?_;push_cast -dsimp
    by_cases he:a[i]=b[i]
    ·push_cast -dsimp [decide_eq_true he]
     repeat refine an ?_
     exact ⟨i+1,⟨h,(XM (by omega) h h2).2 he⟩,by omega,wk⟩
    ·push_cast -dsimp [decide_eq_false he]
     have:a≠b:=fun h=>he (by subst h;rfl)
     exact dn (by push_cast -dsimp [ze,zd,CLe,zg,this])
   ·push_cast -dsimp [hla,hab,h]
    have:a=b:=by rw[←List.take_of_length_le (l:=a) (i:=i) (by omega),h2,List.take_of_length_le (by omega)]
    exact dn (by push_cast -dsimp [ze,zd,CLe,zg,this])
 ·push_cast -dsimp [hla,hlb,hab]
  have:a≠b:=fun h=>hab (by rw[h])
  exact dn (by push_cast -dsimp [ze,zd,CLe,zg,this])
theorem zeG (x y:FsV) (ha:x.xs.length<=100000) (he:∀ z∈x.xs,z.es.length<=9223372036854775807):Fun Tryz.prog G 54 [.agg (fsC x),.agg (fsC y)] (.sc (.bool (decide (x=y)))) 0:=by
 refine fon Tryz.func54 ?_;dsimp only[Tryz.f54]
 by_cases e0:x.maxI=y.maxI
 case neg =>
  have hn:¬x=y:=fun h=>e0 (by rw[h])
  push_cast -dsimp [e0]
  exact dn (by push_cast -dsimp [ze,zd,CLe,zg,hn])
 by_cases e1:x.maxB=y.maxB
 case neg =>
  have hn:¬x=y:=fun h=>e1 (by rw[h])
  push_cast -dsimp [e0,e1]
  exact dn (by push_cast -dsimp [ze,zd,CLe,zg,hn])
 by_cases e2:x.next=y.next
 case neg =>
  have hn:¬x=y:=fun h=>e2 (by rw[h])
  push_cast -dsimp [e0,e1,e2]
  exact dn (by push_cast -dsimp [ze,zd,CLe,zg,hn])
 by_cases e3:x.xs=y.xs
 case neg =>
  have hn:¬x=y:=fun h=>e3 (by rw[h])
  push_cast -dsimp [e0,e1,e2]
  refine cl (H0 x.xs y.xs ha he) ?_;push_cast -dsimp [e3,hn]
  exact dn (by push_cast -dsimp [ze,zd,CLe,zg,hn])
 have hn:x=y:=(zq8 x y).2 ⟨e0,e1,e2,e3⟩
 push_cast -dsimp [e0,e1,e2]
 refine cl (H0 x.xs y.xs ha he) ?_;push_cast -dsimp [e3]
 exact dn (by push_cast -dsimp [ze,zd,CLe,zg,hn])
theorem zbk {xs:List zp} {i:Nat} (hi:i<xs.length) (h0:0<i):z7 (xs.take (i+1))↔z7 (xs.take i)/\xs[i-1].ino<xs[i].ino:=by
 rw[List.take_add_one,List.getElem?_eq_getElem hi]
 unfold z7
 rw[List.pairwise_append]
 simp only[Option.toList_some,List.pairwise_singleton,true_and,List.mem_singleton,forall_eq]
 constructor
 ·rintro ⟨h1,h2⟩
  exact ⟨h1,h2 _ (List.mem_take_iff_getElem.2 ⟨i-1,by omega,rfl⟩)⟩
 ·rintro ⟨h1,h2⟩
  refine ⟨h1,fun a ha=>?_⟩
  obtain ⟨j,hj,rfl⟩:=List.mem_take_iff_getElem.1 ha
  rcases Nat.lt_or_ge j (i-1) with q | q
  ·have:=(List.pairwise_iff_getElem.1 h1) j (i-1) (by simp;omega) (by simp;omega) q
   simp at this
   omega
  ·have:j=i-1:=by omega
   subst this;exact h2
instance (xs:List zp):Decidable (z7 xs):=by unfold z7;infer_instance
theorem Ua (f:FsV) (hl:f.xs.length<=100000):Fun Tryz.prog G 49 [.agg (fsC f)] (.sc (.bool (decide (z7 f.xs)))) 0:=by
 have hll:(zt f.xs).length=f.xs.length:=List.length_map ..
 refine fon Tryz.func49 ?_;dsimp only[Tryz.f49]
 push_cast -dsimp
 refine loop (fun i:Nat=>⟨[(1,.ptr 0 0),(3,.sc (.int .i64 i))],[fsC f],0,0⟩) (fun i=>1<=i/\z7 (f.xs.take i)) (fun i=>f.xs.length-i) 1 ⟨Nat.le_refl _,by
  cases f.xs with
  | nil=>exact List.Pairwise.nil
  | cons x r=>exact List.pairwise_singleton _ _⟩ ?_ ?_
 ·exact wk
 ·rintro i ⟨h1,h2⟩
  by_cases h:i<f.xs.length
  ·have g1:=jb f.xs i h
   have g2:=jb f.xs (i-1) (by omega)
   have e1:(i:Int)-1=((i-1:Nat):Int):=by omega
   push_cast -dsimp [hll,h,e1,g1,g2]
   by_cases hc:f.xs[i].ino<=f.xs[i-1].ino
   ·push_cast -dsimp [hc]
    repeat refine an ?_
    have hn:¬z7 f.xs:=fun hR=>by
     have:=(List.pairwise_iff_getElem.1 hR) (i-1) i (by omega) h (by omega)
     omega
    exact dn (by push_cast -dsimp [ze,zd,CLe,zg,hn])
   ·push_cast -dsimp [hc]
    repeat refine an ?_
    exact ⟨i+1,⟨by omega,(zbk h (by omega)).2 ⟨h2,by omega⟩⟩,by omega,wk⟩
  ·push_cast -dsimp [hll,h]
   rw[List.take_of_length_le (by omega)]at h2
   exact dn (by push_cast -dsimp [ze,zd,CLe,zg,h2])
def Mp (x:zp):Prop:=x.data.length<=5000/\x.es.length<=40/\∀ e∈x.es,e.name.length<=300
instance (x:zp):Decidable (Mp x):=by unfold Mp;infer_instance
def VS (xs:List zp):Prop:=xs.length<=40/\∀ x∈xs,Mp x
instance (xs:List zp):Decidable (VS xs):=by unfold VS;infer_instance
structure FsS (f:FsV):Prop where
 len:f.xs.length<=10000
 node:∀ x∈f.xs,x.es.length<=10000/\x.data.length<=10000/\∀ e∈x.es,e.name.length<=10000
theorem VS.fs {f:FsV} (h:VS f.xs):FsS f:=⟨by have:=h.1;omega,fun x hx=>by
 obtain ⟨h1,h2,h3⟩:=h.2 x hx
 exact ⟨by omega,by omega,fun e he=>by have:=h3 e he;omega⟩⟩
theorem zae (f:FsV):Fun Tryz.prog G 36 [.agg (fsC f)] (.sc (.bool (decide (VS f.xs)))) 0:=by
 have hll:(zt f.xs).length=f.xs.length:=List.length_map ..
 refine fon Tryz.func36 ?_;dsimp only[Tryz.f36]
 push_cast -dsimp
 refine loop (fun i:Nat=>⟨[(1,.ptr 0 0),(3,.sc (.int .i64 i))],[fsC f],0,0⟩) (fun i=>i<=100/\∀ t (h:t<f.xs.length),t<i->Mp f.xs[t]) (fun i=>100-i) 0 ⟨Nat.zero_le _,fun t h h'=>absurd h' (Nat.not_lt_zero _)⟩ ?_ ?_
 ·exact wk
 ·rintro i ⟨h1,h2⟩
  have hend:¬(i<f.xs.length/\i<100)->decide ((f.xs.length:Int)<=40)=decide (VS f.xs):=fun h=>by
   rw[decide_eq_decide]
   constructor
   ·intro hle
    refine ⟨by omega,fun x hx=>?_⟩
    obtain ⟨t,ht,rfl⟩:=List.getElem_of_mem hx
    exact h2 t ht (by omega)
   ·intro h;have:=h.1;omega
  by_cases h:i<f.xs.length
  ·by_cases h100:i<100
   ·have g1:=jb f.xs i h
    have h100':(i:Int)<100:=by omega
    have hbad:¬Mp f.xs[i]->¬VS f.xs:=fun hs hf=>hs (hf.2 _ (List.getElem_mem h))
    by_cases hd:5000<(f.xs[i].data.length:Int)
    ·have hn:=hbad fun hs=>by have:=hs.1;omega
     push_cast -dsimp [hll,h,h100',g1,hd]
     repeat refine an ?_
     exact dn (by push_cast -dsimp [ze,zd,CLe,zg,hn])
    ·by_cases he:40<(f.xs[i].es.length:Int)
     ·have hn:=hbad fun hs=>by have:=hs.2.1;omega
      push_cast -dsimp [hll,h,h100',g1,hd,List.length_map,he]
      repeat refine an ?_
      exact dn (by push_cast -dsimp [ze,zd,CLe,zg,hn])
     ·push_cast -dsimp [hll,h,h100',g1,hd,List.length_map,he]
      repeat refine an ?_
      refine loop (fun j:Nat=>⟨[(1,.ptr 0 0),(3,.sc (.int .i64 i)),(4,.ptr 1 0),(5,.sc (.int .i64 j))],[fsC f,J4 f.xs[i]],0,0⟩) (fun j=>j<=f.xs[i].es.length/\∀ t (h':t<f.xs[i].es.length),t<j->f.xs[i].es[t].name.length<=300) (fun j=>f.xs[i].es.length-j) 0 ⟨Nat.zero_le _,fun t h h'=>absurd h' (Nat.not_lt_zero _)⟩ ?_ ?_
      ·exact wk
      ·rintro j ⟨h3,h4⟩
       by_cases hj:j<f.xs[i].es.length
       ·have g2:=Ja f.xs[i].es j hj
        by_cases hs:300<(f.xs[i].es[j].name.length:Int)
        ·have hn:=hbad fun hs'=>by have:=hs'.2.2 _ (List.getElem_mem hj);omega
         push_cast -dsimp [List.length_map,hj,g2,hs]
         repeat refine an ?_
         exact dn (by push_cast -dsimp [ze,zd,CLe,zg,hn])
        ·push_cast -dsimp [List.length_map,hj,g2,hs]
         repeat refine an ?_
         refine ⟨j+1,⟨hj,fun t ht hlt=>?_⟩,by omega,wk⟩
         rcases Nat.lt_or_ge t j with q | q
         ·exact h4 t ht q
         ·have:t=j:=by omega
          subst this;omega
       ·push_cast -dsimp [List.length_map,hj]
        repeat refine an ?_
        refine ⟨i+1,⟨by omega,fun t ht hlt=>?_⟩,by omega,wk⟩
        rcases Nat.lt_or_ge t i with q | q
        ·exact h2 t ht q
        ·have:t=i:=by omega
         subst this
         refine ⟨by omega,by omega,fun e hee=>?_⟩
         obtain ⟨u,hu,rfl⟩:=List.getElem_of_mem hee
         exact h4 u hu (by omega)
   ·have h100':((i:Int)<100)=False:=eq_false (by omega)
    have:=hend (by omega)
    push_cast -dsimp [hll,h,h100']
    exact dn (by push_cast -dsimp [ze,zd,CLe,zg,this])
  ·have:=hend (by omega)
   push_cast -dsimp [hll,h]
   exact dn (by push_cast -dsimp [ze,zd,CLe,zg,this])
theorem Ma (f:FsV) (n:Int) (hl:f.xs.length<=90000) :
  Fun Tryz.prog G 107 [.agg (fsC f),.sc (.int .i64 n)] (.agg [.sc (.int .i64 f.maxI),.sc (.int .i64 f.maxB),.sc (.int .i64 f.next),.own 0 75 6 (zt (qj n f.xs))]) 1:=by
 have hll:(zt f.xs).length=f.xs.length:=List.length_map ..
 refine fon Tryz.func107 ?_;dsimp only[Tryz.f107]
 push_cast -dsimp
 refine loop (fun i:Nat=>⟨[(1,.sc (.int .i64 n)),(2,.ptr 0 0),(4,.ptr 1 0),(5,.own 0 75 6 (zt (qj n (f.xs.take i)))),(6,.sc (.int .i64 i))],[fsC f,[.sc (.int .i64 0),.sc (.int .i64 0),.sc (.int .i64 0),.sc (.slice none 0 0)]],1,0⟩) (fun i=>i<=f.xs.length) (fun i=>f.xs.length-i) 0 (Nat.zero_le _) ?_ ?_
 ·exact wks [.inr (75,6)] (by push_cast -dsimp [ze,zd,CLe,zg,qj,List.filter_nil])
 ·intro i h1
  by_cases h:i<f.xs.length
  ·have g1:=jb f.xs i h
   have ht:qj n (f.xs.take (i+1))=qj n (f.xs.take i)++qj n [f.xs[i]]:=by
    unfold qj;rw[List.take_add_one,List.getElem?_eq_getElem h,List.filter_append];rfl
   have hle:(qj n (f.xs.take i)).length<=i:=Nat.le_trans Zb (by simp;omega)
   by_cases hc:f.xs[i].ino=n
   ·have ht:qj n (f.xs.take (i+1))=qj n (f.xs.take i):=by rw[ht,Ji hc];simp[qj]
    push_cast -dsimp [hll,h,g1,hc]
    repeat refine an ?_
    exact ⟨i+1,h,by omega,wks [.inl 0] (by push_cast -dsimp [ze,zd,CLe,zg,ht])⟩
   ·have ht:qj n (f.xs.take (i+1))=qj n (f.xs.take i)++[f.xs[i]]:=by rw[ht,JM hc];simp[qj]
    push_cast -dsimp [hll,h,g1,hc]
    repeat refine an ?_
    exact ⟨i+1,h,by omega,wks [.inl 0] (by push_cast -dsimp [ze,zd,CLe,zg,ht,List.map_append])⟩
  ·rw[List.take_of_length_le (by omega)]
   push_cast -dsimp [hll,h]
   exact ⟨[.inl 0],rfl,rfl,by push_cast -dsimp [ze,zd,CLe,zg]⟩
theorem j9 (f:FsV) (x:zp) (hl:f.xs.length<=90000) :
  Fun Tryz.prog G 63 [.agg (fsC f),.agg (J4 x)] (.agg [.sc (.int .i64 f.maxI),.sc (.int .i64 f.maxB),.sc (.int .i64 f.next),.own 0 75 6 (zt (qm x f.xs))]) 1:=by
 have hdl:(qj x.ino f.xs).length<=90000:=Nat.le_trans Zb hl
 have hl2:(zt (qj x.ino f.xs)).length=(qj x.ino f.xs).length:=List.length_map ..
 refine fon Tryz.func63 ?_;dsimp only[Tryz.f63]
 push_cast -dsimp
 refine cl (Ma f x.ino hl) ?_;push_cast -dsimp
 unfold qm
 generalize qj x.ino f.xs=rest at hdl hl2
 refine loop (fun p:Nat×List zp×Bool=>⟨[(2,.ptr 0 0),(3,.ptr 1 0),(4,.ptr 2 0),(5,.sl 6 (zt rest)),(6,.own 0 75 6 (zt p.2.1)),(7,.sc (.bool p.2.2)),(8,.sc (.int .i64 p.1))],[fsC f,J4 x,[.sc (.int .i64 0),.sc (.int .i64 0),.sc (.int .i64 0),.sc (.slice none 0 0)]],1,0⟩)
  (fun p=>p.1<=rest.length/\p.2.1.length<=p.1+p.2.2.toNat/\ZL x rest=p.2.1++(if p.2.2 then rest.drop p.1 else ZL x (rest.drop p.1))) (fun p=>rest.length-p.1) (0,[],false) ⟨Nat.zero_le _,Nat.zero_le _,by simp⟩ ?_ ?_
 ·exact wks [.inr (75,6)]
 ·rintro ⟨i,out,d⟩ ⟨h1,h2,h3⟩
  dsimp only at h1 h2 h3 ⊢
  have hlo:(zt out).length=out.length:=List.length_map ..
  by_cases h:i<rest.length
  ·have g1:=jb rest i h
   rw[List.drop_eq_getElem_cons h]at h3
   cases d with
   | true =>
    simp only[Bool.toNat_true]at h2
    push_cast -dsimp [hl2,h,g1]
    repeat refine an ?_
    exact ⟨(i+1,out++[rest[i]],true),⟨h,by simp;omega,by rw[h3];simp⟩,by dsimp only;omega,wks [.inl 0] (by push_cast -dsimp [ze,zd,CLe,zg,List.map_append])⟩
   | false =>
    simp only[Bool.false_eq_true,if_false,ZL]at h3
    simp only[Bool.toNat_false]at h2
    by_cases hc:x.ino<rest[i].ino
    ·rw[if_pos hc]at h3
     push_cast -dsimp [hl2,h,g1,hc]
     repeat refine an ?_
     exact ⟨(i+1,out++[x]++[rest[i]],true),⟨h,by simp;omega,by rw[h3];simp⟩,by dsimp only;omega,wks [.inl 0] (by push_cast -dsimp [ze,zd,CLe,zg,List.map_append])⟩
    ·rw[if_neg hc]at h3
     push_cast -dsimp [hl2,h,g1,hc]
     repeat refine an ?_
     exact ⟨(i+1,out++[rest[i]],false),⟨h,by simp;omega,by rw[h3];simp⟩,by dsimp only;omega,wks [.inl 0] (by push_cast -dsimp [ze,zd,CLe,zg,List.map_append])⟩
  ·rw[List.drop_of_length_le (by omega)]at h3
   cases d with
   | true =>
    simp only[Bool.toNat_true]at h2
    have h3:ZL x rest=out:=by rw[h3];simp
    push_cast -dsimp [hl2,h]
    exact ⟨[.inl 0],rfl,rfl,by push_cast -dsimp [ze,zd,CLe,zg,h3]⟩
   | false =>
    simp only[Bool.toNat_false]at h2
    have h3:ZL x rest=out++[x]:=by rw[h3];simp[ZL]
    push_cast -dsimp [hl2,h]
    repeat refine an ?_
    exact ⟨[.inl 0],rfl,rfl,by push_cast -dsimp [ze,zd,CLe,zg,h3,List.map_append]⟩
theorem zhu (i b:Int):Fun Tryz.prog G 62 [.sc (.int .i64 i),.sc (.int .i64 b)] (.agg [.sc (.int .i64 i),.sc (.int .i64 b),.sc (.int .i64 2),.own 0 75 6 (zt [⟨1,2,0,[],1,[]⟩])]) 1:=by
 refine Fun.resX (r:=.agg [.sc (.int .i64 i),.sc (.int .i64 b),.sc (.int .i64 2),.own 0 75 6 [[.sc (.int .i64 1),.sc (.int .i64 2),.sc (.int .i64 0),.str [],.sc (.int .i64 1),.sc (.slice none 0 0)]]]) ?_ fun R L v h =>
  zcn (fun vs=>Yz (fun v h=>h) (fun vs=>Yz (fun v h=>h) fun vs=>Yz (fun v h=>h) fun vs=>Yz (fun v=>ziS) fun vs h=>h)) h
 refine fon Tryz.func62 ?_;dsimp only[Tryz.f62]
 push_cast -dsimp
 exact ⟨[.inl 0],rfl,rfl,by push_cast -dsimp [ze,zd,CLe,zg]⟩
end
end
section
open Go.RowKit
section
variable {G:zr}
theorem zjm {n:Int} {xs:List zp} {i:Nat} (h:i<xs.length):zn n (xs.take (i+1))=(zn n (xs.take i)||(xs[i].ino==n)):=by
 unfold zn
 rw[List.take_add_one,List.getElem?_eq_getElem h,List.any_append]
 simp
theorem zg9 {n:Int} {xs:List zp} {i:Nat} (h:i<xs.length) (h0:zn n (xs.take i)=false) (he:xs[i].ino=n):zn n xs=true/\zh n xs=xs[i]:=by
 refine ⟨List.any_eq_true.2 ⟨xs[i],List.getElem_mem h,by simp[he]⟩,?_⟩
 unfold zh Xb
 rw[List.find?_eq_some_iff_getElem (b:=xs[i]) |>.2 ⟨by simp[he],i,h,rfl,fun j hj=>?_⟩]
 ·rfl
 ·unfold zn at h0
  rw[List.any_eq_false]at h0
  have:=h0 xs[j] (List.mem_take_iff_getElem.2 ⟨j,by omega,rfl⟩)
  simpa using this
theorem qG (f:FsV) (n:Int) (hl:f.xs.length<=100000):Fun Tryz.prog G 52 [.agg (fsC f),.sc (.int .i64 n)] (.tup [.agg (J4 (zh n f.xs)),.sc (.bool (zn n f.xs))]) 0:=by
 have hll:(zt f.xs).length=f.xs.length:=List.length_map ..
 refine fon Tryz.func52 ?_;dsimp only[Tryz.f52]
 push_cast -dsimp
 refine loop (fun i:Nat=>⟨[(1,.sc (.int .i64 n)),(2,.ptr 0 0),(4,.ptr 1 0),(6,.sc (.int .i64 i))],[fsC f,[.sc (.int .i64 0),.sc (.int .i64 0),.sc (.int .i64 0),.str [],.sc (.int .i64 0),.sc (.slice none 0 0)]],0,0⟩) (fun i=>i<=f.xs.length/\zn n (f.xs.take i)=false) (fun i=>f.xs.length-i) 0 ⟨Nat.zero_le _,rfl⟩ ?_ ?_
 ·exact wk
 ·rintro i ⟨h1,h2⟩
  by_cases h:i<f.xs.length
  ·have g1:=jb f.xs i h
   by_cases he:f.xs[i].ino=n
   ·obtain ⟨q1,q2⟩:=zg9 h h2 he
    push_cast -dsimp [hll,h,g1,he]
    repeat refine an ?_
    exact dn (by push_cast -dsimp [ze,zd,CLe,zg,q1,q2,he])
   ·have q:=zjm (n:=n) h
    rw[h2,show (f.xs[i].ino==n)=false from beq_eq_false_iff_ne.2 he]at q
    push_cast -dsimp [hll,h,g1,he]
    repeat refine an ?_
    exact ⟨i+1,⟨h,q⟩,by omega,wk⟩
  ·rw[List.take_of_length_le (by omega)]at h2
   have hg:zh n f.xs=zmy:=by unfold zh;rw[Gl h2];rfl
   push_cast -dsimp [hll,h]
   exact dn (by push_cast -dsimp [ze,zd,CLe,zg,hg,h2,zmy])
def qd (xs:List zp):Nat:=((xs.filter fun x=>decide (x.kind=1)).map fun x=>x.data.length).sum
theorem kD:∀ {xs:List zp} {n:Nat},(∀ x∈xs,x.data.length<=n)->qd xs<=xs.length*n
 | [],n,_=>by simp[qd]
 | x :: r,n,h=>by
  have ih:=kD (xs:=r) (n:=n) fun y hy=>h y (List.mem_cons_of_mem _ hy)
  have hx:=h x List.mem_cons_self
  unfold qd at ih ⊢
  rw[List.filter_cons]
  split
  ·simp only[List.map_cons,List.sum_cons,List.length_cons]
   rw[Nat.succ_mul];omega
  ·rw[List.length_cons,Nat.succ_mul];omega
theorem FsS.bytes {f:FsV} (h:FsS f):qd f.xs<=100000000:=by
 have h1:=kD (xs:=f.xs) (n:=10000) fun x hx=>(h.node x hx).2.1
 have h2:=h.len
 have:f.xs.length*10000<=10000*10000:=Nat.mul_le_mul_right _ h2
 omega
theorem HC {xs:List zp} {i:Nat} (h:i<xs.length):qd (xs.take (i+1))=qd (xs.take i)+if xs[i].kind=1 then xs[i].data.length else 0:=by
 unfold qd
 rw[List.take_add_one,List.getElem?_eq_getElem h,List.filter_append,List.map_append,List.sum_append]
 by_cases hk:xs[i].kind=1<;>simp[hk]
theorem Ms (f:FsV) (hf:FsS f):Fun Tryz.prog G 114 [.agg (fsC f)] (.sc (.int .i64 (qd f.xs:Nat))) 0:=by
 have hll:(zt f.xs).length=f.xs.length:=List.length_map ..
 have h40:=hf.len
 have hb0:qd []=0:=rfl
 refine fon Tryz.func114 ?_;dsimp only[Tryz.f114]
 push_cast -dsimp
 refine loop (fun i:Nat=>⟨[(1,.ptr 0 0),(3,.sc (.int .i64 (qd (f.xs.take i):Nat))),(4,.sc (.int .i64 i))],[fsC f],0,0⟩) (fun i=>i<=f.xs.length/\qd (f.xs.take i)<=i*10000) (fun i=>f.xs.length-i) 0 ⟨Nat.zero_le _,Nat.zero_le _⟩ ?_ ?_
 ·exact wk (by push_cast -dsimp [ze,zd,CLe,zg,hb0,List.take_zero])
 ·rintro i ⟨h1,h2⟩
  by_cases h:i<f.xs.length
  ·have g1:=jb f.xs i h
   have hd:=(hf.node _ (List.getElem_mem h)).2.1
   have q:=HC h
   by_cases hk:f.xs[i].kind=1
   ·rw[if_pos hk]at q
    have q':((qd (f.xs.take (i+1)):Nat):Int)=(qd (f.xs.take i):Int)+(f.xs[i].data.length:Int):=by omega
    push_cast -dsimp [hll,h,g1,hk]
    repeat refine an ?_
    exact ⟨i+1,⟨h,by omega⟩,by omega,wk (by push_cast -dsimp [ze,zd,CLe,zg,q'])⟩
   ·rw[if_neg hk]at q
    have q':qd (f.xs.take (i+1))=qd (f.xs.take i):=by omega
    push_cast -dsimp [hll,h,g1,hk]
    repeat refine an ?_
    exact ⟨i+1,⟨h,by omega⟩,by omega,wk (by push_cast -dsimp [ze,zd,CLe,zg,q'])⟩
  ·rw[List.take_of_length_le (by omega)]
   push_cast -dsimp [hll,h]
   exact dn
end
end
section
open Go.RowKit
abbrev G0:zr:=fun _=>none
abbrev znc (l:List UInt8):List C:=[.str l]
def Va (s:List (List UInt8)×List UInt8) (b:UInt8):List (List UInt8)×List UInt8:=
 if b=47 then (if s.2 = [] then s.1 else s.1++[s.2],[]) else (s.1,s.2++[b])
def zjT (s:List (List UInt8)×List UInt8):List (List UInt8):=if s.2 = [] then s.1 else s.1++[s.2]
def nst (l:List UInt8) (k:Nat):List (List UInt8)×List UInt8:=if k<=l.length then (l.take k).foldl Va ([],[]) else (zjT (l.foldl Va ([],[])),[])
def zI (l:List UInt8):List (List UInt8):=zjT (l.foldl Va ([],[]))
theorem um (l:List UInt8):nst l 0=([],[]):=by simp[nst]
theorem uM (l:List UInt8) (k:Nat) (b:UInt8) (h:l[k]?=some b):nst l (k+1)=Va (nst l k) b:=by
 have hk:k<l.length:=(List.getElem?_eq_some_iff.1 h).1
 unfold nst
 rw[if_pos (by omega),if_pos (by omega),List.take_add_one,h]
 simp
theorem zcI (l:List UInt8):nst l (l.length+1)=(zI l,[]):=by
 unfold nst zI
 rw[if_neg (by omega)]
theorem zgu (l:List UInt8):zjT (nst l l.length)=zI l:=by
 unfold nst zI
 rw[if_pos (Nat.le_refl _),List.take_length]
theorem GN (l:List UInt8):∀ k,k<=l.length->(nst l k).1.length+(nst l k).2.length<=k
 | 0,_=>by simp[um]
 | k+1,h=>by
  have hk:k<l.length:=by omega
  have ih:=GN l k (by omega)
  rw[uM l k l[k] (List.getElem?_eq_getElem hk)]
  unfold Va
  by_cases h47:l[k]=47
  ·rw[if_pos h47]
   by_cases h2:(nst l k).2 = []
   ·simp[h2];omega
   ·have:0<(nst l k).2.length:=List.length_pos_iff.2 h2
    simp[h2];omega
  ·rw[if_neg h47];simp;omega
theorem Jc (l:List UInt8):(zI l).length<=l.length:=by
 rw[←zgu]
 have:=GN l l.length (Nat.le_refl _)
 unfold zjT
 split
 ·omega
 ·rename_i h
  have:0<(nst l l.length).2.length:=List.length_pos_iff.2 h
  simp;omega
theorem zjf {b c:UInt8} (h:b≠c):¬((b.toNat:Int)=(c.toNat:Int)):=fun e=>h (UInt8.toNat_inj.1 (by omega))
theorem zgf {α:Type} (l:List α) (k:Nat) (b:α) (h:l[k]?=some b):(l.take (k+1)).drop k = [b]:=by
 have hk:k<l.length:=(List.getElem?_eq_some_iff.1 h).1
 rw[List.take_add_one,h,List.drop_append]
 simp[Nat.min_eq_left (by omega:k<=l.length)]
theorem ky (l:List UInt8) (h:l.length<=100000):Fun Tryz.prog G0 74 [.str l] (.own 0 9 1 ((zI l).map znc)) 1:=by
 refine fon Tryz.func74 ?_;dsimp only[Tryz.f74]
 push_cast -dsimp
 refine loop (fun k:Nat=>⟨[(0,.str l),(3,.own 0 9 1 ((nst l k).1.map znc)),(4,.str (nst l k).2),(5,.sc (.int .i64 k))],[],1,0⟩) (fun k=>k<=l.length+1) (fun k=>l.length+1-k) 0 (Nat.zero_le _) ?_ ?_
 ·refine JP.mk [.inr (9,1)] rfl rfl (Nat.le_refl _) rfl ?_ trivial
  push_cast -dsimp [ze,zd,CLe,zg]
  simp[um]
 ·intro k hk
  push_cast -dsimp
  by_cases h1:k<=l.length
  ·have hs:=GN l k h1
   by_cases h2:k<l.length
   ·obtain ⟨b,hb⟩:∃ b,l[k]?=some b:=⟨l[k],List.getElem?_eq_getElem h2⟩
    have hn:=uM l k b hb
    by_cases h3:b=47
    ·have h3':(b.toNat:Int)=47:=by subst h3;rfl
     by_cases h4:(nst l k).2 = []
     ·push_cast -dsimp [h1,h2,h3',hb,h4]
      and_intros<;>try omega
      refine ⟨k+1,by omega,by omega,JP.mk [.inl 0] rfl rfl (Nat.le_refl _) rfl ?_ trivial⟩
      push_cast -dsimp [ze,zd,CLe,zg]
      simp[hn,Va,h3,h4]
     ·push_cast -dsimp [h1,h2,h3',hb,h4]
      simp only[List.length_map,List.length_cons,List.length_nil]
      and_intros<;>try omega
      refine ⟨k+1,by omega,by omega,JP.mk [.inl 0] rfl rfl (Nat.le_refl _) rfl ?_ trivial⟩
      push_cast -dsimp [ze,zd,CLe,zg]
      simp[hn,Va,h3,h4,znc]
    ·have h3':¬((b.toNat:Int)=47):=zjf h3
     push_cast -dsimp [h1,h2,h3',hb]
     rw[zgf l k b hb]
     and_intros<;>try omega
     ·simp;omega
     refine ⟨k+1,by omega,by omega,JP.mk [.inl 0] rfl rfl (Nat.le_refl _) rfl ?_ trivial⟩
     push_cast -dsimp [ze,zd,CLe,zg]
     simp[hn,Va,h3]
   ·obtain rfl:k=l.length:=by omega
    have hl:=zgu l
    have he:=zcI l
    have hz:=Jc l
    by_cases h4:(nst l l.length).2 = []
    ·push_cast -dsimp [h1,h2,h4]
     and_intros<;>try omega
     refine ⟨l.length+1,by omega,by omega,JP.mk [.inl 0] rfl rfl (Nat.le_refl _) rfl ?_ trivial⟩
     push_cast -dsimp [ze,zd,CLe,zg]
     simp[he,←hl,zjT,h4]
    ·push_cast -dsimp [h1,h2,h4]
     simp only[List.length_map,List.length_cons,List.length_nil]
     and_intros<;>try omega
     refine ⟨l.length+1,by omega,by omega,JP.mk [.inl 0] rfl rfl (Nat.le_refl _) rfl ?_ trivial⟩
     push_cast -dsimp [ze,zd,CLe,zg]
     simp[he,←hl,zjT,h4,znc]
  ·obtain rfl:k=l.length+1:=by omega
   have he:=zcI l
   push_cast -dsimp [h1]
   exact ⟨[.inl 0],rfl,rfl,by push_cast -dsimp [ze,zd,CLe,zg,he]⟩
end
section
open Go.RowKit
abbrev jq (xs:List (List UInt8)):List (List C):=xs.map znc
theorem yT (xs:List (List UInt8)):(jq xs).length=xs.length:=List.length_map _
theorem zcF (xs:List (List UInt8)) (x:List UInt8):jq xs++[[.str x]]=jq (xs++[x]):=by simp
theorem strs_get? (xs:List (List UInt8)) (k:Nat):(jq xs)[k]?=(xs[k]?).map znc:=List.getElem?_map
theorem zcG (xs:List (List UInt8)) (k:Nat):(jq xs).drop k=jq (xs.drop k):=List.map_drop.symm
theorem zgp (xs:List (List UInt8)) (k:Nat):(jq xs).take k=jq (xs.take k):=List.map_take.symm
theorem xB (xs ys:List (List UInt8)):jq xs++jq ys=jq (xs++ys):=List.map_append.symm
theorem H3 (xs:List (List UInt8)) (k:Nat) (h:k<xs.length):(jq xs)[k]?=some [.str (xs[k]'h)]:=by rw[strs_get?,List.getElem?_eq_getElem h];rfl
attribute [push_cast] yT zcF zcG zgp xB
abbrev qO (b:Bool):C:=.sc (.bool b)
def few (l:List (List UInt8)):Bool:=(l.take 100).all (fun x=>decide (x.length<=300))&&decide (l.length<=40)
end
section
open Go.RowKit
theorem Fun.wrap {P:Program} {G:zr} {f:FuncId} {args:List C} {r:C} (he:YE P f=true)
  (h:∀ (R:Env) (vs:List Value),zy R zK args vs->Calls P f vs.toArray R.w fun e w'=>∃ v,e = .returned v/\Below R.w.heap.size R.w w'/\∀ R',Ext R R'->Rep R' zK r v):Fun P G f args r 0:=by
 refine ⟨he,fun R vs hg ha=>(h R vs ha).mono ?_⟩
 rintro e w' ⟨v,rfl,hb,hr⟩
 have st:qB 0 0 R zK ⟨w',fun b o=>b<R.w.heap.size/\R.M b o,R.F⟩ zK:=qB.mem (nx:=0) hb
 exact ⟨v,_,zK,rfl,rfl,st,hr _ st.ext⟩
def Jj:List UInt8->List (List UInt8)
 | []=>[[]]
 | b :: l=>if b=47 then [] :: Jj l else match Jj l with
  | []=>[[b]]
  | x :: r=>(b :: x) :: r
theorem MQ (l:List UInt8):Jj l≠[]:=by
 cases l with
 | nil=>simp[Jj]
 | cons b l =>
  unfold Jj
  split
  ·simp
  ·split<;>simp
theorem Gu:∀ l:List UInt8,Lib.indexByte l 47<0->Jj l = [l]
 | [],_=>rfl
 | b :: l,h=>by
  unfold Lib.indexByte at h
  by_cases hb:b=47
  ·subst hb;simp at h
  ·have hb':(b==47)=false:=by simpa using hb
   rw[hb']at h
   simp only[Bool.false_eq_true,if_false]at h
   have hl:Lib.indexByte l 47<0:=by
    split at h
    ·rename_i g;have:=beq_iff_eq.1 g;omega
    ·omega
   unfold Jj
   rw[if_neg hb,Gu l hl]
theorem GQ:∀ l:List UInt8,-1<=Lib.indexByte l 47
 | []=>Int.le_refl _
 | b :: l=>by
  have:=GQ l
  unfold Lib.indexByte
  split
  ·decide
  ·split
   ·decide
   ·omega
theorem zaf:∀ (l:List UInt8) (i:Nat),Lib.indexByte l 47=(i:Int)->i<l.length/\Jj l=l.take i :: Jj (l.drop (i+1))
 | [],i,h=>by
  have h:(-1:Int)=(i:Int):=h
  omega
 | b :: l,i,h=>by
  unfold Lib.indexByte at h
  by_cases hb:b=47
  ·subst hb
   simp at h
   obtain rfl:i=0:=by omega
   refine ⟨by simp,?_⟩
   conv=>lhs;unfold Jj
   simp
  ·have hb':(b==47)=false:=by simpa using hb
   rw[hb']at h
   simp only[Bool.false_eq_true,if_false]at h
   split at h
   ·omega
   ·rename_i g
    have g':Lib.indexByte l 47≠-1:=by simpa using g
    have hg:=GQ l
    obtain ⟨j,rfl⟩:∃ j,i=j+1:=⟨i-1,by omega⟩
    have hj:Lib.indexByte l 47=(j:Int):=by omega
    obtain ⟨h1,h2⟩:=zaf l j hj
    refine ⟨by simp;omega,?_⟩
    conv=>lhs;unfold Jj
    rw[if_neg hb,h2]
    simp
theorem Um:∀ (l:List UInt8) (a:List (List UInt8)) (cur:List UInt8),zjT (l.foldl Va (a,cur))=a++(match Jj l with | []=>[] | x :: r=>(cur++x) :: r).filter (fun x=>!decide (x = []))
 | [],a,cur=>by
  simp only[List.foldl_nil,zjT,Jj]
  by_cases h:cur = []<;>simp[h]
 | b :: l,a,cur=>by
  simp only[List.foldl_cons]
  by_cases hb:b=47
  ·subst hb
   have hn:Va (a,cur) 47=(if cur = [] then a else a++[cur],[]):=by simp[Va]
   rw[hn,Um l]
   conv=>rhs;unfold Jj
   simp only[if_true]
   have hne:=MQ l
   cases hs:Jj l with
   | nil=>exact absurd hs hne
   | cons x r=>by_cases h:cur = []<;>simp[h]
  ·have hn:Va (a,cur) b=(a,cur++[b]):=by simp[Va,hb]
   rw[hn,Um l]
   conv=>rhs;unfold Jj
   rw[if_neg hb]
   have hne:=MQ l
   cases hs:Jj l with
   | nil=>exact absurd hs hne
   | cons x r=>simp
theorem Yh (l:List UInt8):zI l=(Jj l).filter (fun x=>!decide (x = [])):=by
 unfold zI
 rw[Um]
 cases hs:Jj l with
 | nil=>rfl
 | cons x r=>simp
theorem zcR (l:List UInt8):Fun Tryz.prog G0 186 [.str l,.str [47]] (.sc (.int .i64 (Lib.indexByte l 47))) 0:=by
 refine Fun.wrap (by kernel_rfl) fun R vs h=>?_
 obtain ⟨v1,us1,rfl,h1,h⟩:=zf.1 h
 obtain ⟨v2,us2,rfl,h2,h⟩:=zf.1 h
 rw[zl]at h
 subst h
 rw[z8]at h1 h2
 subst h1 h2
 refine (Tryz.strings_Index_one ⟨l.toArray⟩ 47 R.w).mono ?_
 rintro e w' ⟨rfl,rfl⟩
 exact ⟨_,rfl,Below.refl _ _,fun R' _=>zq.2 (by simp)⟩
theorem kP (s:List UInt8) (hs:s.length<=1000000):xz Tryz.prog G0 184 [] [.ptr 1 0,.ptr 0 0,.ptr 2 0] [[.str s],[.str [47]],[.sc (.int .i64 0)]] (jq (Jj s)):=by
 refine foI (fun _=>[]) Tryz.func184 ?_;dsimp only[Tryz.f184]
 intro l sf
 push_cast -dsimp
 refine loop (fun x:List UInt8×Nat=>⟨[(0,.sc (.func (.yield l) #[] #[])),(1,.ptr 1 0),(2,.ptr 0 0),(3,.ptr 2 0)],[[.str x.1],[.str [47]],[.sc (.int .i64 0)]],0,x.2⟩)
  (fun x=>x.1.length<=1000000/\(∃ done,Jj s=done++Jj x.1/\done.length=x.2)/\∀ j,j<x.2->sf j=false) (fun x=>x.1.length) (s,0) ⟨hs,⟨[],rfl,rfl⟩,fun j hj=>by omega⟩ ?_ ?_
 ·refine JP.mk [] rfl rfl (Nat.zero_le _) rfl ?_ ?_<;>push_cast -dsimp [ze,zd,CLe,zg]<;>omega
 ·rintro ⟨r,k⟩ hx
  simp only at hx ⊢
  have hr:=hx.1
  have hsf:=hx.2.2
  obtain ⟨done,hd,hdl⟩:=hx.2.1
  clear hx
  push_cast -dsimp
  refine call (zcR r) ?_
  push_cast -dsimp
  by_cases hi:Lib.indexByte r 47<0
  ·push_cast -dsimp [hi]
   have hk:(jq (Jj s))[k]?=some [.str r]:=by
    rw[hd,Gu r hi];simp[←hdl]
   rw[hk]
   push_cast -dsimp
   refine ⟨by push_cast -dsimp [ze,zd,CLe,zg],hsf,?_⟩
   cases hk2:sf k with
   | true=>exact .inr ⟨Nat.succ_pos k,hk2⟩
   | false =>
    refine .inl ⟨?_,fun j (hj:j<k+1)=>?_⟩
    ·rw[hd,Gu r hi];simp[hdl]
    ·rcases Nat.lt_or_ge j k with g | g
     ·exact hsf j g
     ·rw[show j=k by omega];exact hk2
  ·have hg:=GQ r
   obtain ⟨i,hii⟩:∃ i:Nat,Lib.indexByte r 47=(i:Int):=⟨(Lib.indexByte r 47).toNat,by omega⟩
   obtain ⟨hir,hsp⟩:=zaf r i hii
   have hk:(jq (Jj s))[k]?=some [.str (r.take i)]:=by
    rw[hd,hsp];simp[←hdl]
   rw[hii]at hi ⊢
   push_cast -dsimp [hi]
   rw[hk]
   push_cast -dsimp
   refine ⟨by omega,by omega,by push_cast -dsimp [ze,zd,CLe,zg],hsf,br (fun hk2=>?_) (fun hk2=>?_)⟩
   ·push_cast -dsimp
    exact .inr ⟨Nat.succ_pos k,hk2⟩
   ·push_cast -dsimp
    refine ⟨by omega,by omega,(r.drop (i+1),k+1),⟨by simp;omega,⟨done++[r.take i],by rw[hd,hsp];simp,by simp[hdl]⟩,fun j (hj:j<k+1)=>?_⟩,by simp;omega,JP.mk [] rfl rfl (Nat.zero_le _) rfl ?_ ?_⟩
    ·rcases Nat.lt_or_ge j k with g | g
     ·exact hsf j g
     ·rw[show j=k by omega];exact hk2
    ·push_cast -dsimp [ze,zd,CLe,zg]
    ·push_cast -dsimp [ze,zd,CLe,zg]
theorem Mr (s:List UInt8):xA Tryz.prog G0 152 [.str s,.str [47],.sc (.int .i64 0)] [] 0 (.clo (.func 184) [] [.ptr 1 0,.ptr 0 0,.ptr 2 0]) [[.str s],[.str [47]],[.sc (.int .i64 0)]] 0:=by
 refine foB (fun _=>[]) Tryz.func152 ?_;dsimp only[Tryz.f152]
 push_cast -dsimp
 exact ⟨[],rfl,rfl,by push_cast -dsimp [ze,zd,CLe,zg],by push_cast -dsimp [ze,zd,CLe,zg]⟩
theorem xb (s:List UInt8):xA Tryz.prog G0 104 [.str s,.str [47]] [] 0 (.clo (.func 184) [] [.ptr 1 0,.ptr 0 0,.ptr 2 0]) [[.str s],[.str [47]],[.sc (.int .i64 0)]] 0:=by
 refine foB (fun _=>[]) Tryz.func104 ?_;dsimp only[Tryz.f104]
 push_cast -dsimp
 refine yB [] [] (Mr s) rfl (by simp) (by simp) (fun i hi=>by cases hi) (by push_cast -dsimp) rfl ?_
 push_cast -dsimp
 exact ⟨[],rfl,rfl,by push_cast -dsimp [ze,zd,CLe,zg],by push_cast -dsimp [ze,zd,CLe,zg]⟩
end
section
open Go.RowKit
abbrev Hh (x:List UInt8):Bool:=!decide (x = [])
def cnt (xs:List (List UInt8)) (k:Nat):Nat:=((xs.take k).filter Hh).length
theorem zah (xs:List (List UInt8)) (k:Nat) (x:List UInt8) (h:xs[k]?=some x):cnt xs (k+1)=if x = [] then cnt xs k else cnt xs k+1:=by
 unfold cnt
 rw[List.take_add_one,h]
 by_cases hx:x = []<;>simp[hx]
theorem zlc (xs:List (List UInt8)) (k:Nat) (x:List UInt8) (h:xs[k]?=some x) (hx:x≠[]):(xs.filter Hh)[cnt xs k]?=some x:=by
 have hk:k<xs.length:=(List.getElem?_eq_some_iff.1 h).1
 have e:xs=xs.take k++x :: xs.drop (k+1):=by
  have:=List.take_append_drop k xs
  rw[List.drop_eq_getElem_cons hk]at this
  rw[List.getElem?_eq_getElem hk]at h
  cases h;exact this.symm
 have e2:xs.filter Hh=(xs.take k).filter Hh++x :: (xs.drop (k+1)).filter Hh:=by
  conv=>lhs;rw[e]
  rw[List.filter_append,List.filter_cons]
  simp[hx]
 rw[e2]
 unfold cnt
 simp
theorem zmg (xs:List (List UInt8)):cnt xs xs.length=(xs.filter Hh).length:=by unfold cnt;rw[List.take_length]
theorem ZY {xs:List (List UInt8)} {sf:Nat->Bool}:∀ k,k<=xs.length->(∀ j,j<k->(Hh (xs.getD j [])&&sf (cnt xs j))=false)->∀ j,j<cnt xs k->sf j=false
 | 0,_,_,j,hj=>by simp[cnt]at hj
 | k+1,hk,h,j,hj=>by
  have ih:=ZY k (by omega) fun i hi=>h i (by omega)
  have hx:xs[k]?=some (xs.getD k []):=by rw[List.getD_eq_getElem?_getD,List.getElem?_eq_getElem (by omega)];rfl
  rw[zah xs k _ hx]at hj
  by_cases he:xs.getD k [] = []
  ·rw[if_pos he]at hj;exact ih j hj
  ·rw[if_neg he]at hj
   rcases Nat.lt_or_ge j (cnt xs k) with g | g
   ·exact ih j g
   ·have h2:=h k (by omega)
    have h3:Hh (xs.getD k [])=true:=by simp only[Hh,Bool.not_eq_true',decide_eq_false_iff_not];exact he
    rw[h3,Bool.true_and]at h2
    rw[show j=cnt xs k by omega];exact h2
theorem Np {xs:List (List UInt8)} {k:Nat} {it:List C} (h:(jq xs)[k]?=some it):∃ x,xs[k]?=some x/\it = [.str x]:=by
 rw[List.getElem?_map]at h
 cases hq:xs[k]? with
 | none=>rw[hq]at h;cases h
 | some x=>rw[hq]at h;cases h;exact ⟨x,rfl,rfl⟩
theorem vA (p:List UInt8) (hs:p.length<=1000000):xz Tryz.prog G0 121 [] [.row [.str p]] [] (jq (zI p)):=by
 rw[Yh]
 refine foI (fun _=>[]) Tryz.func121 ?_;dsimp only[Tryz.f121]
 intro l sf
 push_cast -dsimp
 refine yB [] [] (xb p) rfl (by simp) (by simp) (fun i hi=>by cases hi) (by push_cast -dsimp) rfl ?_
 push_cast -dsimp
 refine range (jq (Jj p)) (fun k=>Hh ((Jj p).getD k [])&&sf (cnt (Jj p) k)) 1 (fun k=>⟨[],[[.sc (.func (.yield l) #[] #[])]],0,cnt (Jj p) k⟩) (kP p hs) (by push_cast -dsimp) (by push_cast -dsimp) (by push_cast -dsimp) (Nat.zero_le _) (by push_cast -dsimp) (fun it hit=>?_) (fun k _=>rfl) ?_ (fun k it hk hsf=>?_) (fun hsf=>?_)
 ·obtain ⟨x,_,rfl⟩:=List.mem_map.1 hit;rfl
 ·exact wk
 ·obtain ⟨x,hx,rfl⟩:=Np hk
  have hxd:(Jj p).getD k []=x:=by rw[List.getD_eq_getElem?_getD,hx];rfl
  have hkl:k<(Jj p).length:=(List.getElem?_eq_some_iff.1 hx).1
  have hcs:=zah (Jj p) k x hx
  have hbef:=ZY (xs:=Jj p) (sf:=sf) k (by omega) hsf
  by_cases he:x = []
  ·push_cast -dsimp [he]
   refine ⟨?_,JP.mk [] rfl rfl (Nat.le_refl _) ?_ (by push_cast -dsimp [ze,zd,CLe,zg]) (by push_cast -dsimp [ze,zd,CLe,zg])⟩
   ·rw[hxd,he];rfl
   ·simp[hcs,he,St.wt]
  ·have hget:=zlc (Jj p) k x hx he
   have hg2:(jq ((Jj p).filter Hh))[cnt (Jj p) k]?=some [.str x]:=by rw[List.getElem?_map,hget];rfl
   push_cast -dsimp [he]
   rw[hg2]
   push_cast -dsimp
   refine ⟨by push_cast -dsimp [ze,zd,CLe,zg],hbef,br (fun h2=>?_) (fun h2=>?_)⟩
   ·push_cast -dsimp
    refine ⟨by rw[hxd,h2];simp[Hh,he],⟨[],[[.sc (.func (.yield l) #[] #[])]],0,cnt (Jj p) k+1⟩,rfl,wk,?_⟩
    push_cast -dsimp
    exact .inr ⟨Nat.succ_pos _,h2⟩
   ·push_cast -dsimp
    refine ⟨by rw[h2,Bool.and_false],JP.mk [] rfl rfl (Nat.le_refl _) ?_ (by push_cast -dsimp [ze,zd,CLe,zg]) (by push_cast -dsimp [ze,zd,CLe,zg])⟩
    simp[hcs,he,St.wt]
 ·have hall:=zmg (Jj p)
  have hbef:=ZY (xs:=Jj p) (sf:=sf) (Jj p).length (Nat.le_refl _) fun j hj=>hsf j (by simpa using hj)
  push_cast -dsimp
  refine .inl ⟨?_,?_⟩
  ·simp[hall]
  ·simpa using hbef
end
section
open Go.RowKit
theorem ZT (p:List UInt8):Fun Tryz.prog G0 80 [.str p] (.clo (.func 121) [] [.row [.str p]]) 0:=by
 refine fon Tryz.func80 ?_;dsimp only[Tryz.f80]
 push_cast -dsimp
 exact dn
theorem G8 (xs:List (List UInt8)) (f:FuncId) (cap:List C) (hsel:C.selL (YU 1) cap=cap) (hit:xz Tryz.prog G0 f [] cap [] (jq xs)) (hx:xs.length<=1000001):Fun Tryz.prog G0 120 [.sc (.slice none 0 0),.clo (.func f) [] cap] (.own 0 9 1 (jq xs)) 1:=by
 refine fon Tryz.func120 ?_;dsimp only[Tryz.f120]
 push_cast -dsimp
 refine range (jq xs) (fun _=>false) 1 (fun k=>⟨[],[[.own 0 9 1 (jq (xs.take k))]],1,0⟩) hit (by push_cast -dsimp) hsel (by push_cast -dsimp) (Nat.zero_le _) (by push_cast -dsimp) (fun it h=>?_) (fun k _=>rfl) ?_ (fun k it hk hsf=>?_) (fun hsf=>?_)
 ·obtain ⟨x,_,rfl⟩:=List.mem_map.1 h;rfl
 ·exact wks [.inr (9,1)]
 ·obtain ⟨x,hx2,rfl⟩:=Np hk
  have hkl:k<xs.length:=(List.getElem?_eq_some_iff.1 hx2).1
  push_cast -dsimp
  simp only[List.length_take]
  refine ⟨by omega,by omega,JP.mk [.inl 0] rfl rfl (Nat.le_refl _) rfl (by push_cast -dsimp [ze,zd,CLe,zg]) ?_⟩
  push_cast -dsimp [ze,zd,CLe,zg]
  rw[List.take_add_one,hx2]
  rfl
 ·push_cast -dsimp
  refine ⟨[.inl 0],rfl,rfl,?_⟩
  push_cast -dsimp [ze,zd,CLe,zg]
  simp
theorem xN (xs:List (List UInt8)) (f:FuncId) (cap:List C) (hsel:C.selL (YU 1) cap=cap) (hfrz:C.frzL cap=cap) (hit:xz Tryz.prog G0 f [] cap [] (jq xs)) (hx:xs.length<=1000001):Fun Tryz.prog G0 79 [.clo (.func f) [] cap] (.own 0 9 1 (jq xs)) 1:=by
 refine fon Tryz.func79 ?_;dsimp only[Tryz.f79]
 push_cast -dsimp [hfrz]
 refine call (G8 xs f cap hsel hit hx) ?_
 push_cast -dsimp
 exact ⟨[.inl 0],rfl,rfl,by push_cast -dsimp [ze,zd,CLe,zg]⟩
theorem XV (p:List UInt8) (hp:p.length<=1000000):Fun Tryz.prog G0 79 [.clo (.func 121) [] [.row [.str p]]] (.own 0 9 1 (jq (zI p))) 1:=
 xN (zI p) _ _ (by push_cast -dsimp) (by push_cast -dsimp) (vA p hp) (by have:=Jc p;omega)
theorem Zf (s p:List UInt8):Fun Tryz.prog G0 81 [.str s,.str p] (.sc (.bool (Lib.hasPrefix s p))) 0:=by
 refine Fun.wrap (by kernel_rfl) fun R vs h=>?_
 obtain ⟨v1,us1,rfl,h1,h⟩:=zf.1 h
 obtain ⟨v2,us2,rfl,h2,h⟩:=zf.1 h
 rw[zl]at h
 subst h
 rw[z8]at h1 h2
 subst h1 h2
 refine (Tryz.strings_HasPrefix ⟨s.toArray⟩ ⟨p.toArray⟩ R.w).mono ?_
 rintro e w' ⟨rfl,rfl⟩
 exact ⟨_,rfl,Below.refl _ _,fun R' _=>zq.2 (by simp)⟩
theorem Zx (s p:List UInt8) (hs:s.length<=1000000):Fun Tryz.prog G0 38 [.str s,.str p] (.sc (.bool (Lib.hasSuffix s p))) 0:=by
 refine Fun.wrap (by kernel_rfl) fun R vs h=>?_
 obtain ⟨v1,us1,rfl,h1,h⟩:=zf.1 h
 obtain ⟨v2,us2,rfl,h2,h⟩:=zf.1 h
 rw[zl]at h
 subst h
 rw[z8]at h1 h2
 subst h1 h2
 refine (Tryz.strings_HasSuffix ⟨s.toArray⟩ ⟨p.toArray⟩ R.w (by simp[ByteArray.size];omega)).mono ?_
 rintro e w' ⟨rfl,rfl⟩
 exact ⟨_,rfl,Below.refl _ _,fun R' _=>zq.2 (by simp)⟩
theorem Gx (xs:List (List UInt8)) (sep:List UInt8) (hx:xs.length<=1000001) (hl:(Lib.join xs sep).length<=100000000):Fun Tryz.prog G0 78 [.sl 1 (jq xs),.str sep] (.str (Lib.join xs sep)) 0:=by
 refine Fun.wrap (by kernel_rfl) fun R vs h=>?_
 obtain ⟨v1,us1,rfl,h1,h⟩:=zf.1 h
 obtain ⟨v2,us2,rfl,h2,h⟩:=zf.1 h
 rw[zl]at h
 subst h
 rw[z8]at h2
 subst h2
 obtain ⟨a,cap,rfl,hc1,hc2,hr⟩:=HA.1 h1
 have hlen:(jq xs).length=xs.length:=by simp
 have hmap:(xs.map fun x=>ByteArray.mk x.toArray).map (·.data.toList)=xs:=by
  rw[List.map_map]
  conv=>rhs;rw[←List.map_id xs]
  exact List.map_congr_left fun x _=>by simp
 rcases hr with hr | ⟨b,o,rfl,hr⟩
 ·have:xs = []:=by simpa using hr
  subst this
  refine (Tryz.strings_Join_none a cap ⟨sep.toArray⟩ R.w).mono ?_
  rintro e w' ⟨rfl,rfl⟩
  exact ⟨_,rfl,Below.refl _ _,fun R' _=>z8.2 (by simp[Lib.join])⟩
 ·by_cases hx0:xs = []
  ·subst hx0
   refine (Tryz.strings_Join_none _ cap ⟨sep.toArray⟩ R.w).mono ?_
   rintro e w' ⟨rfl,rfl⟩
   exact ⟨_,rfl,Below.refl _ _,fun R' _=>z8.2 (by simp[Lib.join])⟩
  ·have hcells:∀ (j:Nat) x,(xs.map fun x=>ByteArray.mk x.toArray)[j]?=some x->R.w.cell? ⟨b,o+j,none⟩=some (.string x):=fun j x hj=>by
    rw[List.getElem?_map]at hj
    cases hq:xs[j]? with
    | none=>rw[hq]at hj;cases hj
    | some y =>
     rw[hq]at hj;cases hj
     obtain ⟨_,g⟩:=jm hr j [.str y] (by rw[List.getElem?_map,hq];rfl)
     obtain ⟨⟨v,g1,_,g2,_⟩,_⟩:=qn.1 g
     rw[z8]at g2
     subst g2
     simpa using g1
   have hb:b<R.w.heap.size:=by
    cases xs with
    | nil=>exact absurd rfl hx0
    | cons x r =>
     exact vm (hcells 0 ⟨x.toArray⟩ rfl)
   have hj:=Tryz.strings_Join b o cap (xs.map fun x=>ByteArray.mk x.toArray) ⟨sep.toArray⟩ R.w hcells hb (by simp;omega) (by simpa using hc1) (by rw[hmap];simp;omega)
   rw[hmap]at hj
   simp only[List.length_map]at hj
   rw[hlen]
   refine hj.mono ?_
   rintro e w' ⟨rfl,hbl⟩
   exact ⟨_,rfl,hbl,fun R' _=>z8.2 (by simp)⟩
end
section
open Go.RowKit
def zhP (p:List UInt8):C:=.agg [qO (Lib.hasPrefix p [47]),.own 0 9 1 (jq (zI p)),qO (!decide (zI p = [])&&Lib.hasSuffix p [47])]
theorem zh7 (p:List UInt8) (hp:p.length<=1000000):Fun Tryz.prog G0 45 [.str p] (zhP p) 1:=by
 refine fon Tryz.func45 ?_;dsimp only[Tryz.f45]
 push_cast -dsimp
 refine call (ZT p) ?_
 push_cast -dsimp
 refine call (XV p hp) ?_
 push_cast -dsimp
 refine call (Zf p [47]) ?_
 push_cast -dsimp
 by_cases h:zI p = []
 ·push_cast -dsimp [h]
  exact ⟨[.inl 0],rfl,rfl,by simp only[zhP];push_cast -dsimp [ze,zd,CLe,zg,h];simp⟩
 ·have h':0<(zI p).length:=List.length_pos_iff.2 h
  push_cast -dsimp [h']
  refine call (Zx p [47] hp) ?_
  push_cast -dsimp
  exact ⟨[.inl 0],rfl,rfl,by simp only[zhP];push_cast -dsimp [ze,zd,CLe,zg,h]⟩
def put (a:Bool) (xs:List (List UInt8)) (s:Bool):List UInt8:=(if a then [47] else [])++Lib.join xs [47]++(if s&&!decide (xs = []) then [47] else [])
def jh (xs:List (List UInt8)):List UInt8:=if xs = [] then [47] else 47 :: Lib.join xs [47]
theorem Qc (xs:List (List UInt8)) (hx:xs.length<=1000001) (hl:(Lib.join xs [47]).length<=100000000):Fun Tryz.prog G0 44 [.sl 1 (jq xs)] (.str (jh xs)) 0:=by
 refine fon Tryz.func44 ?_;dsimp only[Tryz.f44]
 push_cast -dsimp
 by_cases h:xs = []
 ·push_cast -dsimp [h]
  exact ⟨[],rfl,rfl,by simp only[jh,h];push_cast -dsimp [ze,zd,CLe,zg]⟩
 ·have h':¬((xs.length:Int)=0):=by have:=List.length_pos_iff.2 h;omega
  push_cast -dsimp [h']
  refine call ((Gx xs [47] hx hl)) ?_
  push_cast -dsimp
  exact ⟨by omega,[],rfl,rfl,by simp only[jh,if_neg h];push_cast -dsimp [ze,zd,CLe,zg]⟩
def Yy (p q:List UInt8):Bool:=decide (p=q)||decide (q = [47])||Lib.hasPrefix p (q++[47])
theorem HK (p q:List UInt8) (hq:q.length<=1000000):Fun Tryz.prog G0 135 [.str p,.str q] (qO (Yy p q)) 0:=by
 refine fon Tryz.func135 ?_;dsimp only[Tryz.f135]
 push_cast -dsimp
 by_cases h1:p=q
 ·push_cast -dsimp [h1]
  exact ⟨[],rfl,rfl,by push_cast -dsimp [ze,zd,CLe,zg];simp[Yy]⟩
 ·by_cases h2:q = [47]
  ·subst h2
   push_cast -dsimp [h1]
   exact ⟨[],rfl,rfl,by push_cast -dsimp [ze,zd,CLe,zg];simp[Yy]⟩
  ·push_cast -dsimp [h1,h2]
   refine ⟨by omega,?_⟩
   refine call (Zf p (q++[47])) ?_
   push_cast -dsimp
   exact ⟨[],rfl,rfl,by push_cast -dsimp [ze,zd,CLe,zg];simp[Yy,h1,h2]⟩
end
section
open Go.RowKit
theorem Gp (l:List UInt8) (c:UInt8):Fun Tryz.prog G0 260 [.str l,.sc (.int .u8 (c.toNat:Int))] (.sc (.int .i64 (Lib.indexByte l c))) 0:=by
 refine Fun.wrap (by kernel_rfl) fun R vs h=>?_
 obtain ⟨v1,us1,rfl,h1,h⟩:=zf.1 h
 obtain ⟨v2,us2,rfl,h2,h⟩:=zf.1 h
 rw[zl]at h
 subst h
 rw[z8]at h1
 rw[zq]at h2
 subst h1 h2
 refine (Tryz.strings_IndexByte ⟨l.toArray⟩ (c.toNat:Int) R.w).mono ?_
 rintro e w' ⟨rfl,rfl⟩
 exact ⟨_,rfl,Below.refl _ _,fun R' _=>zq.2 (by simp)⟩
theorem Xc (r:Int):Fun Tryz.prog G0 261 [.sc (.int .i32 r)] (.sc (.bool (Lib.validRune r))) 0:=by
 refine Fun.wrap (by kernel_rfl) fun R vs h=>?_
 obtain ⟨v1,us1,rfl,h1,h⟩:=zf.1 h
 rw[zl]at h
 subst h
 rw[zq]at h1
 subst h1
 refine (Tryz.utf8_ValidRune r R.w).mono ?_
 rintro e w' ⟨rfl,rfl⟩
 exact ⟨_,rfl,Below.refl _ _,fun R' _=>zq.2 rfl⟩
theorem zh6 (r:Int) (hv:Utf8.valid r=true) (h128:128<=r):∃ l c,(Utf8.encode r).data.toList=l++[c]/\1<=l.length/\l.length<=3/\128<=c.toNat:=by
 obtain ⟨h1,h2,h3⟩:=encode_facts r hv h128
 generalize Utf8.encode r=bs at h1 h2 h3 ⊢
 have hs:bs.data.toList.length=bs.size:=Array.length_toList
 have h4:=h3 (by omega)
 have h5:bs.data.toList[bs.size-1]?=some (bs[bs.size-1]'(by omega)):=Lib.data_getElem? bs _ (by omega)
 generalize bs[bs.size-1]'(by omega)=c at h4 h5
 generalize bs.data.toList=l at hs h5
 refine ⟨l.take (bs.size-1),c,?_,by simp;omega,by simp;omega,h4⟩
 have:=List.take_append_drop (bs.size-1) l
 have hd:l.drop (bs.size-1) = [c]:=by
  have hlt:bs.size-1<l.length:=by omega
  rw[List.drop_eq_getElem_cons hlt]
  rw[List.getElem?_eq_getElem hlt]at h5
  cases h5
  rw[List.drop_eq_nil_of_le (by omega)]
 rw[hd]at this
 exact this.symm
theorem NF (r:Int) (h1:128<=r) (hv:Utf8.valid r=true) (h2:r≠65533):Fun Tryz.prog G0 249 [.str [47,0],.sc (.int .i32 r)] (.sc (.int .i64 (-1))) 0:=by
 have hlv:Lib.validRune r=true:=by
  have:=validRune_eq r
  rw[hv]at this
  exact this.symm
 obtain ⟨l,c,he,hl1,hl3,hc⟩:=zh6 r hv h1
 have ha:0<=r:=by omega
 have hb:¬r<128:=by omega
 have hc0:¬((0:Int)=(c.toNat:Int)):=by omega
 have hix:=Gp [] c
 match l,hl1,hl3 with
 | [x],_,_ =>
  refine fon Tryz.func249 ?_;dsimp only[Tryz.f249]
  push_cast -dsimp [ha,hb,h2]
  refine call (Xc r) ?_
  push_cast -dsimp [hlv,he]
  refine loop (fun k:Nat=>⟨[(0,.str [47,0]),(1,.sc (.int .i32 r)),(7,.str [x,c]),(8,.sc (.int .i64 1)),(9,.sc (.int .i64 1)),(10,.sc (.int .i64 0))],[],0,0⟩) (fun k=>True) (fun k=>0) 0 trivial ?_ ?_
  ·exact wk
  ·intro k _
   push_cast -dsimp [hc0]
   refine kU hix ?_
   have hi0:Lib.indexByte [] c = -1:=rfl
   push_cast -dsimp [hi0]
   exact dn
 | [x,y],_,_ =>
  refine fon Tryz.func249 ?_;dsimp only[Tryz.f249]
  push_cast -dsimp [ha,hb,h2]
  refine call (Xc r) ?_
  push_cast -dsimp [hlv,he]
  refine loop (fun k:Nat=>⟨[(0,.str [47,0]),(9,.sc (.int .i64 2))],[],0,0⟩) (fun k=>True) (fun k=>0) 0 trivial ?_ ?_
  ·exact wk
  ·intro k _
   push_cast -dsimp
   exact dn
 | [x,y,z],_,_ =>
  refine fon Tryz.func249 ?_;dsimp only[Tryz.f249]
  push_cast -dsimp [ha,hb,h2]
  refine call (Xc r) ?_
  push_cast -dsimp [hlv,he]
  refine loop (fun k:Nat=>⟨[(0,.str [47,0]),(9,.sc (.int .i64 3))],[],0,0⟩) (fun k=>True) (fun k=>0) 0 trivial ?_ ?_
  ·exact wk
  ·intro k _
   push_cast -dsimp
   exact dn
theorem Nf (w:World):Calls Tryz.prog 249 #[.string ⟨#[47,0]⟩,.int .i32 65533] w fun e w'=>e = .returned (.int .i64 (-1))/\Below w.heap.size w w':=by
 go_enter Tryz.func249,Tryz.ntmps249
 go_wp2
 go_loopg [5,6] 2 (fun g _ _ wx=>∃ i:Nat,i+g=2/\wx=w.iter ⟨#[47,0]⟩ i)
 case atStart=>exact ⟨0,by omega,rfl⟩
 case round =>
  obtain ⟨i,hig,rfl⟩:=hrel
  cases gk with
  | zero =>
   obtain rfl:i=2:=by omega
   have hnx:=fun ty=>run_next_end (P:=Tryz.prog) w ⟨#[47,0]⟩ 2 ty (by decide)
   go_wp2
   go_ret
   exact ⟨rfl,(Below.refl _ _).alloc (Nat.le_refl _) _⟩
  | succ g =>
   have hi:i<(ByteArray.mk #[47,0]).size:=by show i<2;omega
   have hx128:((ByteArray.mk #[47,0])[i]'hi).toNat<128:=by
    have:i=0∨i=1:=by omega
    rcases this with rfl | rfl
    ·exact (by decide:(47:UInt8).toNat<128)
    ·exact (by decide:(0:UInt8).toNat<128)
   have hnx:=fun ty=>run_next_ascii (P:=Tryz.prog) w ⟨#[47,0]⟩ i ty hi hx128
   have hne:((((ByteArray.mk #[47,0])[i]'hi).toNat:Int)==65533)=false:=by
    rw[beq_eq_false_iff_ne];omega
   go_wp2
   go_roundg g
   case measure=>omega
   case rel=>exact ⟨i+1,by omega,rfl⟩
end
section
open Go.RowKit Go.Shelf
def bad (b:UInt8):Bool:=decide (b=47)||decide (b=0)
theorem VH (b:UInt8):[47,0].contains b=bad b:=by simp[bad,List.contains_iff_mem,Bool.eq_iff_iff]
theorem yo {P:Program} {W:World} {b:Nat} {s:ByteArray} {pos:Nat} (hb:W.heap[b]?=some (.stringIter s pos)) (h:pos<s.size) (ty:TypeId) :
  (Instr.next (.pointer (some ⟨b,0,none⟩)) true ty).run P W = .ok (.tuple #[.bool true,.int .i64 pos,.int .i32 (Utf8.decode s pos).1]) (W.putObj b (.stringIter s (pos+(Utf8.decode s pos).2))):=by
 simp only[Instr.next,getObj,setObj,Sem.run_bind,Sem.run,hb,Result.andThen,h,if_true]
 simp[goInt,Sem.run,hb,World.putObj]
theorem U7 {P:Program} {W:World} {b:Nat} {s:ByteArray} {pos:Nat} (hb:W.heap[b]?=some (.stringIter s pos)) (h:¬pos<s.size) (ty:TypeId) :
  (Instr.next (.pointer (some ⟨b,0,none⟩)) true ty).run P W = .ok (.tuple #[.bool false]) W:=by
 simp[Instr.next,getObj,Sem.run,hb,h]
theorem get!_eq (s:ByteArray) (k:Nat) (hk:k<s.size):s.get! k=s[k]'hk:=by
 simp[ByteArray.get!,getElem!_pos,hk];rfl
theorem zg2 {c:Nat} (h:c<55296∨(57344<=c/\c<=1114111)):Utf8.valid (c:Int)=true:=by
 unfold Utf8.valid
 rcases h with h | h
 ·have h1:((c:Int)<55296):=by omega
  simp;omega
 ·simp;omega
theorem xE (s:ByteArray) (i:Nat) (h:i<s.size):(((s[i]'h).toNat<128/\Utf8.decode s i=((s[i]'h).toNat,1))∨(128<=(Utf8.decode s i).1/\Utf8.valid ((Utf8.decode s i).1:Int)=true/\1<=(Utf8.decode s i).2/\i+(Utf8.decode s i).2<=s.size/\∀ j (hj:j<s.size),i<=j->j<i+(Utf8.decode s i).2->128<=(s[j]'hj).toNat)):=by
 by_cases ha:(s[i]'h).toNat<128
 ·exact .inl ⟨ha,decode_ascii s i h ha⟩
 ·refine .inr ?_
  have hb0:¬(s.get! (i+0)).toNat<128:=by rw[Nat.add_zero,get!_eq s i h];exact ha
  have hby:∀ n,(∀ k,k<n->128<=(s.get! (i+k)).toNat)->∀ j (hj:j<s.size),i<=j->j<i+n->128<=(s[j]'hj).toNat:=fun n hn j hj h1 h2=>by
   have:=hn (j-i) (by omega)
   rw[show i+(j-i)=j by omega,get!_eq s j hj]at this
   exact this
  have hone:128<=65533/\Utf8.valid ((65533:Nat):Int)=true/\1<=1/\i+1<=s.size/\∀ j (hj:j<s.size),i<=j->j<i+1->128<=(s[j]'hj).toNat:=
   ⟨by omega,by decide,by omega,by omega,hby 1 fun k hk=>by rw[show k=0 by omega];omega⟩
  unfold Utf8.decode
  simp only[if_neg hb0,Utf8.runeError]
  obtain ⟨b0,hg0⟩:∃ b,(s.get! (i+0)).toNat=b:=⟨_,rfl⟩
  obtain ⟨b1,hg1⟩:∃ b,(s.get! (i+1)).toNat=b:=⟨_,rfl⟩
  obtain ⟨b2,hg2⟩:∃ b,(s.get! (i+2)).toNat=b:=⟨_,rfl⟩
  obtain ⟨b3,hg3⟩:∃ b,(s.get! (i+3)).toNat=b:=⟨_,rfl⟩
  rw[hg0]at hb0
  simp only[hg0,hg1,hg2,hg3]
  have hlt:b0<256:=by rw[←hg0];exact (s.get! (i+0)).toNat_lt
  split
  ·rename_i hc
   simp only[Bool.and_eq_true,beq_iff_eq,decide_eq_true_eq]at hc
   split
   ·rename_i hv
    refine ⟨by show 128<=_;omega,zg2 (.inl (by omega)),by show 1<=2;omega,by show i+2<=_;omega,hby 2 fun k hk=>?_⟩
    rcases (show k=0∨k=1 by omega) with rfl | rfl
    ·rw[hg0];omega
    ·rw[hg1];omega
   ·exact hone
  ·split
   ·rename_i hc
    simp only[Bool.and_eq_true,beq_iff_eq,decide_eq_true_eq]at hc
    split
    ·rename_i hv
     simp only[Bool.and_eq_true,decide_eq_true_eq]at hv
     refine ⟨by show 128<=_;omega,hv.2,by show 1<=3;omega,by show i+3<=_;omega,hby 3 fun k hk=>?_⟩
     rcases (show k=0∨k=1∨k=2 by omega) with rfl | rfl | rfl
     ·rw[hg0];omega
     ·rw[hg1];omega
     ·rw[hg2];omega
    ·exact hone
   ·split
    ·rename_i hc
     simp only[Bool.and_eq_true,beq_iff_eq,decide_eq_true_eq]at hc
     split
     ·rename_i hv
      simp only[Bool.and_eq_true,decide_eq_true_eq]at hv
      refine ⟨by show 128<=_;omega,hv.2,by show 1<=4;omega,by show i+4<=_;omega,hby 4 fun k hk=>?_⟩
      rcases (show k=0∨k=1∨k=2∨k=3 by omega) with rfl | rfl | rfl | rfl
      ·rw[hg0];omega
      ·rw[hg1];omega
      ·rw[hg2];omega
      ·rw[hg3];omega
     ·exact hone
    ·exact hone
theorem Nm (r:Int) (h1:128<=r) (hv:Utf8.valid r=true) (w:World):Calls Tryz.prog 249 #[.string ⟨#[47,0]⟩,.int .i32 r] w fun e w'=>e = .returned (.int .i64 (-1))/\Below w.heap.size w w':=by
 by_cases h2:r=65533
 ·subst h2;exact Nf w
 ·refine ((NF r h1 hv h2).2 ⟨w,fun _ _=>False,fun _=>False⟩ [.string ⟨#[47,0]⟩,.int .i32 r] (fun g cs h=>by cases h) ?_).mono ?_
  ·exact zf.2 ⟨_,_,rfl,z8.2 rfl,zf.2 ⟨_,_,rfl,zq.2 rfl,zl.2 rfl⟩⟩
  ·rintro e w' ⟨v,R',L',rfl,rfl,hst,hr⟩
   rw[zq]at hr
   exact ⟨by rw[hr],hst.below⟩
theorem zdp (w:World) (s:ByteArray):(w.iter s 0).heap[w.heap.size]?=some (.stringIter s 0):=World.iter_heap w s 0
theorem x6 {w W:World} {s:ByteArray} {p:Nat} (hb:Below w.heap.size w W) (hs:W.heap[w.heap.size]?=some (.stringIter s p)) (p':Nat):Below w.heap.size w (W.putObj w.heap.size (.stringIter s p'))/\(W.putObj w.heap.size (.stringIter s p')).heap[w.heap.size]?=some (.stringIter s p'):=
 ⟨⟨hb.os,hb.tape,hb.output,by simpa using hb.size,fun k hk=>(World.putObj_heap_other (by omega)).trans (hb.block k hk)⟩,World.putObj_heap_same (qf hs)⟩
theorem zbj {w W W':World} {s:ByteArray} {p:Nat} (hb:Below w.heap.size w W) (hs:W.heap[w.heap.size]?=some (.stringIter s p)) (h:Below W.heap.size W W'):Below w.heap.size w W'/\W'.heap[w.heap.size]?=some (.stringIter s p):=
 ⟨hb.trans (h.mono hb.size),(h.block _ (qf hs)).trans hs⟩
theorem kX (s:ByteArray) (w:World) (h8:s.size<=8):Calls Tryz.prog 250 #[.string s,.string ⟨#[47,0]⟩] w fun e w'=>e = .returned (.int .i64 (Lib.indexAny s.data.toList [47,0]))/\Below w.heap.size w w':=by
 have h8z:decide ((8:Int)<(s.size:Int))=false:=decide_eq_false (by omega)
 have hsi:=zdp w s
 have hbi:Below w.heap.size w (w.iter s 0):=(Below.refl _ _).alloc (Nat.le_refl _) _
 have HI:Aside ((w.iter s 0).heap[w.heap.size]?=some (.stringIter s 0)/\Below w.heap.size w (w.iter s 0)):=⟨hsi,hbi⟩
 clear hsi hbi
 go_enter Tryz.func250,Tryz.ntmps250
 go_wp2_with (go_at_call 262;refine (Tryz.strings_shouldUseASCIISet _ _).mono ?_;rintro e w' ⟨rfl,hw⟩;rw[hw,h8z])
 go_loopg [9,10] s.size (fun g _ _ wx=>∃ i:Nat,i+g=s.size/\wx.heap[w.heap.size]?=some (.stringIter s i)/\Below w.heap.size w wx/\Lib.NoAny s.data.toList [47,0] i)
 case atStart=>exact ⟨0,by omega,HI.out.1,HI.out.2,Lib.NoAny.zero _ _⟩
 case round =>
  obtain ⟨i,hig,hs,hbl,hno⟩:=hrel
  have HN:Aside (Lib.NoAny s.data.toList [47,0] i/\wr.heap[w.heap.size]?=some (.stringIter s i)/\Below w.heap.size w wr):=⟨hno,hs,hbl⟩
  cases gk with
  | zero =>
   obtain rfl:i=s.size:=by omega
   have hnx:=fun ty=>U7 (P:=Tryz.prog) hs (by omega) ty
   clear hno hs hbl
   go_wp2
   go_ret
   exact ⟨by rw[Lib.indexAny_none (by rw[←Lib.size_eq];exact HN.out.1)];rfl,HN.out.2.2⟩
  | succ g =>
   have hi:i<s.size:=by omega
   have hnx:=fun ty=>yo (P:=Tryz.prog) hs hi ty
   have hpi:=x6 hbl hs (i+(Utf8.decode s i).2)
   have HP:Aside (Below w.heap.size w (wr.putObj w.heap.size (.stringIter s (i+(Utf8.decode s i).2)))/\(wr.putObj w.heap.size (.stringIter s (i+(Utf8.decode s i).2))).heap[w.heap.size]?=some (.stringIter s (i+(Utf8.decode s i).2))):=hpi
   clear hno hs hbl hpi
   obtain ⟨x,hx⟩:∃ x:UInt8,s[i]'hi=x:=⟨_,rfl⟩
   have hxl:s.data.toList[i]?=some x:=by rw[←hx];exact Lib.data_getElem? s i hi
   rcases xE s i hi with ⟨hd1,hd2⟩ | ⟨hd1,hd2,hd3,hd4,hd5⟩
   ·rw[hx]at hd1 hd2
    rw[hd2]at hnx HP
    have Hx:Aside (s.data.toList[i]?=some x):=hxl
    clear hxl hx hd2
    have hcon:=Lib.contains_iff_indexByte [47,0] x
    have hback:((x.toNat:Int)).toNat.toUInt8=x:=by simp
    cases hin:([47,0]:List UInt8).contains x
    ·rw[hin]at hcon
     have hlt:¬((0:Int)<=Lib.indexByte [47,0] x):=of_decide_eq_false hcon.symm
     clear hcon
     go_wp2_with (go_at_call 249;refine (Tryz.strings_IndexRune_ascii _ _ _ (by omega) (by omega)).mono ?_;rintro e w' ⟨rfl,hw⟩;rw[hw,hback])
     go_roundg g
     case measure=>omega
     case rel=>exact ⟨i+1,by omega,HP.out.2,HP.out.1,HN.out.1.succ Hx.out hin⟩
    ·rw[hin]at hcon
     have hge:(0:Int)<=Lib.indexByte [47,0] x:=of_decide_eq_true hcon.symm
     clear hcon
     go_wp2_with (go_at_call 249;refine (Tryz.strings_IndexRune_ascii _ _ _ (by omega) (by omega)).mono ?_;rintro e w' ⟨rfl,hw⟩;rw[hw,hback])
     go_ret
     exact ⟨by rw[Lib.indexAny_hit HN.out.1 Hx.out hin];rfl,HP.out.1⟩
   ·obtain ⟨c,hc⟩:∃ c,(Utf8.decode s i).1=c:=⟨_,rfl⟩
    obtain ⟨n,hn⟩:∃ n,(Utf8.decode s i).2=n:=⟨_,rfl⟩
    rw[hc,hn]at hnx
    rw[hn]at HP hd3 hd4 hd5
    rw[hc]at hd1 hd2
    have H5:Aside (∀ j (hj:j<s.size),i<=j->j<i+n->128<=(s[j]'hj).toNat):=hd5
    have H2:Aside (Utf8.valid (c:Int)=true):=hd2
    clear hd5 hd2 hxl hx hc hn
    go_wp2_with (go_at_call 249;refine (Nm _ (by omega) H2.out _).mono ?_;rintro e w' ⟨rfl,hw⟩;have HW:=zbj HP.out.1 HP.out.2 hw)
    go_roundg (s.size-(i+n))
    case measure=>omega
    case rel =>
     refine ⟨i+n,by omega,HW.2,HW.1,fun j b hj hb=>?_⟩
     rcases Nat.lt_or_ge j i with g | g
     ·exact HN.out.1 j b g hb
     ·have hjs:j<s.size:=by omega
      have:=H5.out j hjs g hj
      have hb2:=Lib.data_getElem? s j hjs
      rw[hb]at hb2
      have hb3:b=s[j]'hjs:=Option.some.inj hb2
      rw[VH,hb3]
      have h47:s[j]'hjs≠47:=fun e=>by rw[e]at this;revert this;decide
      have h00:s[j]'hjs≠0:=fun e=>by rw[e]at this;revert this;decide
      simp[bad,h47,h00]
end
section
open Go.RowKit Go.Shelf
theorem Hz (w:World):(zeroValue 223).run Tryz.prog w = .ok (.agg (Array.replicate 256 (.bool false))) w:=by kernel_rfl
theorem VE:∀ l:List UInt8,decide (0<=Lib.indexAny l [47,0])=l.any bad
 | []=>rfl
 | b :: l=>by
  have ih:=VE l
  have hg:=Lib.indexAny_ge [47,0] l
  unfold Lib.indexAny
  rw[VH,List.any_cons]
  cases hb:bad b with
  | true=>simp
  | false =>
   simp only[Bool.false_eq_true,if_false,Bool.false_or,←ih]
   split
   ·rename_i h
    have:=beq_iff_eq.1 h
    first | rw[this];done | (rw[this];rfl)
   ·rename_i h
    have h':Lib.indexAny l [47,0]≠-1:=by simpa using h
    rw[decide_eq_decide];omega
theorem xo (l:List UInt8) (hl:l.length<=1000000):Fun Tryz.prog G0 250 [.str l,.str [47,0]] (.sc (.int .i64 (Lib.indexAny l [47,0]))) 0:=by
 refine Fun.wrap (by kernel_rfl) fun R vs h=>?_
 obtain ⟨v1,us1,rfl,h1,h⟩:=zf.1 h
 obtain ⟨v2,us2,rfl,h2,h⟩:=zf.1 h
 rw[zl]at h
 subst h
 rw[z8]at h1 h2
 subst h1 h2
 have hsz:(ByteArray.mk l.toArray).size=l.length:=by simp[ByteArray.size]
 by_cases h8:l.length<=8
 ·refine (kX ⟨l.toArray⟩ R.w (by omega)).mono ?_
  rintro e w' ⟨rfl,hb⟩
  exact ⟨_,rfl,hb,fun R' _=>zq.2 (by simp)⟩
 ·refine (Tryz.strings_IndexAny_long Hz ⟨l.toArray⟩ ⟨#[47,0]⟩ R.w (by decide) (by omega) (by omega) (by decide) ?_).mono ?_
  ·intro j b hb
   have:b=47∨b=0:=by
    have:=List.mem_of_getElem? hb
    simpa using this
   rcases this with rfl | rfl<;>decide
  ·rintro e w' ⟨rfl,rfl⟩
   exact ⟨_,rfl,((Below.refl _ _).alloc (Nat.le_refl _) _).alloc (by simp) _,fun R' _=>zq.2 (by simp)⟩
theorem Ya (l:List UInt8) (hl:l.length<=1000000):Fun Tryz.prog G0 227 [.str l,.str [47,0]] (qO (l.any bad)) 0:=by
 have h:=VE l
 refine fon Tryz.func227 ?_;dsimp only[Tryz.f227]
 push_cast -dsimp
 refine call (xo l hl) ?_
 push_cast -dsimp
 exact dn (by push_cast -dsimp [ze,zd,CLe,zg,h])
def may (l:List UInt8):Bool:=!decide (l = [])&&decide (l.length<=255)&&!l.any bad&&!decide (l = [46])&&!decide (l = [46,46])
theorem zet (l:List UInt8) (hl:l.length<=1000000):Fun Tryz.prog G0 198 [.str l] (qO (may l)) 0:=by
 by_cases h1:l = []
 ·refine fon Tryz.func198 ?_;dsimp only[Tryz.f198]
  push_cast -dsimp [h1]
  exact ⟨[],rfl,rfl,by push_cast -dsimp [ze,zd,CLe,zg];simp[may]⟩
 ·by_cases h2:l.length<=255
  ·have h2':(l.length:Int)<=255:=by omega
   cases h3:l.any bad with
   | true =>
    refine fon Tryz.func198 ?_;dsimp only[Tryz.f198]
    push_cast -dsimp [h1,h2']
    refine call (Ya l hl) ?_
    push_cast -dsimp [h3]
    exact ⟨[],rfl,rfl,by push_cast -dsimp [ze,zd,CLe,zg];simp[may,h3]⟩
   | false =>
    by_cases h4:l = [46]
    ·subst h4
     refine fon Tryz.func198 ?_;dsimp only[Tryz.f198]
     push_cast -dsimp [h2']
     refine call (Ya _ hl) ?_
     push_cast -dsimp [h3]
     exact ⟨[],rfl,rfl,by push_cast -dsimp [ze,zd,CLe,zg];simp[may]⟩
    ·refine fon Tryz.func198 ?_;dsimp only[Tryz.f198]
     push_cast -dsimp [h1,h2']
     refine call (Ya l hl) ?_
     push_cast -dsimp [h3,h4]
     exact ⟨[],rfl,rfl,by push_cast -dsimp [ze,zd,CLe,zg];simp[may,h1,h2,h3,h4]⟩
  ·have h2':¬(l.length:Int)<=255:=by omega
   refine fon Tryz.func198 ?_;dsimp only[Tryz.f198]
   push_cast -dsimp [h1,h2']
   exact ⟨[],rfl,rfl,by push_cast -dsimp [ze,zd,CLe,zg];simp[may,h2]⟩
theorem zaP (l:List UInt8) (hl:l.length<=1000000):Fun Tryz.prog G0 197 [.str l] (qO (!may l)) 0:=by
 refine fon Tryz.func197 ?_;dsimp only[Tryz.f197]
 push_cast -dsimp
 refine call (zet l hl) ?_
 push_cast -dsimp
 exact dn
end
end Go.Proofs.YtiblepfehggicaaGreatDoor.Vcg
