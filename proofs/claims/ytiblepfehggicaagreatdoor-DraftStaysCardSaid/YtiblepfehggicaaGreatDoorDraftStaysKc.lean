/- What the proof of DraftStays leans on, part 3: Vcg18 Slc0 Slc1 TabV Tab1 OpenG OpenT Srt0 SlcE Shelf Tab2 TabR Snd1 PathN Ref1 Path1 Path2 Path3 Path4 May1 May2 May3. No condition beyond what each theorem states. -/
import Derived.Test.YtiblepfehggicaaGreatDoorDraftStaysKb
import Derived.Lib.Overlaps
import Derived.Laws.Externs
import Derived.WalkKit
import Derived.ProofKit
import Derived.Deep.Slices
import Derived.Deep.Fields
import Derived.ChangeSame
import Derived.ChangeOld
import Derived.Lib.SmallJoins
import Derived.Test.YtiblepfehggicaaGreatDoorRows
import Derived.Lib.Bytealg
import Derived.Shelf.Strings.Builder1
import Derived.Shelf.Strings.Builder2
import Derived.Shelf.Strings.OnBuilder
import Derived.Shelf.Strings.Trim
import Derived.Shelf.Small.Utf8
import Derived.Shelf.Small.Strs
import Derived.Shelf.Small.Wraps
import Derived.Shelf.Strings.BuilderF
import Derived.Shelf.Strings.BuilderK
import Derived.Shelf.Strings.Search1
import Derived.Shelf.Strings.Search2
import Derived.Shelf.Strings.Search3
import Derived.Shelf.LaysM
import Derived.Shelf.Strings.Shaped
import Derived.Shelf.Strings.Prefix
import Derived.Shelf.Unicode.Decode
import Derived.Shelf.Strings.Runes
import Derived.Shelf.Strings.IndexAny
import Derived.Shelf.Strings.AsciiSet
import Derived.Shelf.Strings.IndexAnyAll
import Derived.Shelf.Unicode.DecodeSlow
import Derived.Shelf.Unicode.DecodeAny
import Derived.Test.YtiblepfehggicaaGreatDoorProg
import Derived.Laws.Runes
import Derived.Laws.RangeString
import Derived.Deep.LoopGhost
import Derived.Lib.QuoteLoop
import Derived.Lib.IndexAny
set_option linter.unusedVariables false
set_option linter.unusedSimpArgs false
set_option linter.unusedSectionVars false
set_option maxRecDepth 100000
set_option maxHeartbeats 4000000
namespace Go.Proofs.YtiblepfehggicaaGreatDoor.Vcg
section
open Go.RowKit
section
variable {P:Program} {G:zq} {σ σ':St} {N p lg m:Nat} {h:Hd} {yd:Option Yd} {brs:List Bool} {bf:Nat->List Bool} {bx bx':List (List C)} {ops:Array Oper} {c c' d d':C} {t t':TypeId} {K:C->Prop} {K2:C->Nat->Prop} {K3:C->St->Prop} {nx:Nat} {tm:List (Nat×C)} {x y z:Operand} {Q:Exit->St->Prop} {X Y:Prop}
def uH (P:Program) (G:zq) (f:FuncId) (args:List C) (nx:Nat) (K:C->Nat->Prop):Prop:=∃ r n,Fun P G f args r n/\K (r.sh nx) (nx+n)
theorem uH.mk {f:FuncId} {args:List C} {r:C} {n:Nat} (h:Fun P G f args r n) (hK:K2 (r.sh nx) (nx+n)):uH P G f args nx K2:=⟨r,n,h,hK⟩
def znA (P:Program) (G:zq) (f:FuncId) (args fargs:List C) (σ:St) (K:C->St->Prop):Prop:=
 (∃ r n,Fun P G f fargs r n/\K (r.sh σ.nx) ⟨σ.tm,σ.bx,σ.nx+n,σ.lg⟩)∨xF P G f args σ K∨zjv P G f args σ K∨Ue P G f args σ K∨zd9 P f args σ K
def aGd (d:Option Tmp) (tm:List (Nat×C)) (want:Bool) (X Y:Prop):Prop:=match d with
 | some d=>match want with
  | true=>zi0 (jL tm d) Y X Y
  | false=>zi0 (jL tm d) Y Y X
 | none=>False
def zoF (L:Option Lay) (c:C) (bx:List (List C)) (K:C->Prop):Prop:=
 match L with
 | none=>False
 | some L=>match c with
  | .ptr i off=>match bx[i]? with
   | some cs=>J8 L (cs.drop off) K
   | none=>False
  | .row cs=>J8 L cs K
  | _=>False
def zmR (cs:Option (List C)) (off:Nat) (L:Lay) (K:C->Prop):Prop:=match cs with | some cs=>J8 L (cs.drop off) K | none=>False
def zpP (x:Option C) (K:C->Prop):Prop:=match x with | some c=>K c | none=>False
def yQ (L:Option Lay) (c:C) (f:Nat) (K:C->Prop):Prop:=
 match L with
 | some ⟨.struct fs,_,_,_⟩=>match fs[f]?,c with
  | some (off,size,agg),.agg cs =>
   if agg then off+size<=cs.length/\K (.agg ((cs.drop off).take size)) else match cs[off]? with
    | some c=>K c
    | none=>False
  | _,_=>False
 | _=>False
def Uz (f:Option (Nat×Nat×Bool)) (cs:List C) (K:C->Prop):Prop:=
 match f with
 | some (off,size,agg)=>if agg then off+size<=cs.length/\K (.agg ((cs.drop off).take size)) else match cs[off]? with
    | some c=>K c
    | none=>False
 | none=>False
def zqR (L:Option Lay) (c:C) (f:Nat) (K:C->Prop):Prop:=
 match L with
 | some ⟨.struct fs,_,_,_⟩=>match fs[f]?,c with
  | some (off,size,_),.ptr i o=>if size=0 then False else K (.ptr i (o+off))
  | some (off,size,_),.row cs=>if size=0 then False else K (.row (cs.drop off))
  | _,_=>False
 | _=>False
def znb (f:Option (Nat×Nat×Bool)) (c:C) (K:C->Prop):Prop:=
 match f,c with
  | some (off,size,_),.ptr i o=>if size=0 then False else K (.ptr i (o+off))
  | some (off,size,_),.row cs=>if size=0 then False else K (.row (cs.drop off))
  | _,_=>False
def zqY (P:Program) (L:Option Lay) (c:C) (i:C) (K:C->Prop):Prop:=
 match L,i with
 | some ⟨.slice e,_,_,_⟩,.sc (.int _ n)=>match lay P e with
  | some L=>match c with
   | .bs j off k m _=>k=L.size/\0<=n/\n<(m:Int)/\K (.ptr j (off+n.toNat*L.size))
   | c=>match c.rows? L.size with
    | some rows=>match rows[n.toNat]? with
     | some r=>0<=n/\K (.row r)
     | none=>False
    | none=>False
  | none=>False
 | some ⟨.array (m+1) e,_,_,_⟩,.sc (.int _ n)=>match lay P e with
  | some L=>match c with
   | .ptr j off=>0<=n/\n<((m+1:Nat):Int)/\K (.ptr j (off+n.toNat*L.size))
   | .row cs=>0<=n/\n<((m+1:Nat):Int)/\K (.row (cs.drop (n.toNat*L.size)))
   | _=>False
  | none=>False
 | _,_=>False
def zqJ (L:Option Lay) (c:C) (n:Int) (K:C->Prop):Prop:=
 match L with
  | some L=>match c with
   | .bs j off k m _=>k=L.size/\0<=n/\n<(m:Int)/\K (.ptr j (off+n.toNat*L.size))
   | c=>match c.rows? L.size with
    | some rows=>match rows[n.toNat]? with
     | some r=>0<=n/\K (.row r)
     | none=>False
    | none=>False
  | none=>False
def zqn (rows:Option (List (List C))) (n:Int) (K:C->Prop):Prop:=
 match rows with
   | some rows=>match rows[n.toNat]? with
    | some r=>0<=n/\K (.row r)
    | none=>False
   | none=>False
def aAt (r:Option (List C)) (n:Int) (K:C->Prop):Prop:=match r with | some r=>0<=n/\K (.row r) | none=>False
def zqC (L:Option Lay) (c:C) (m:Nat) (n:Int) (K:C->Prop):Prop:=
 match L with
  | some L=>match c with
   | .ptr j off=>0<=n/\n<((m+1:Nat):Int)/\K (.ptr j (off+n.toNat*L.size))
   | .row cs=>0<=n/\n<((m+1:Nat):Int)/\K (.row (cs.drop (n.toNat*L.size)))
   | _=>False
  | none=>False
def zo5 (L:Option Lay) (c i:C) (K:C->Prop):Prop:=
 match L,c,i with
 | some ⟨.str,_,_,_⟩,.str l,.sc (.int _ n)=>match l[n.toNat]? with
  | some b=>0<=n/\K (.sc (.int .u8 (b.toNat:Int)))
  | none=>False
 | _,_,_=>False
def zlo (b:Option UInt8) (n:Int) (K:C->Prop):Prop:=match b with | some b=>0<=n/\K (.sc (.int .u8 (b.toNat:Int))) | none=>False
def zqe (P:Program) (L:Option Lay) (c:C) (lo hi mx:Option Int) (K:C->Prop):Prop:=
   match L with
    | some ⟨.str,_,_,_⟩=>match c,mx with
      | .str l,none=>jS l.length lo hi/\K (.str (cut l lo hi))
      | _,_=>False
    | some ⟨.slice e,_,_,_⟩=>match lay P e with
      | some L=>match c with
        | .bs i off k n cap=>zkh L.size i off k n cap lo hi mx K
        | .sc (.slice none 0 0)=>zmv L.size lo hi mx K
        | c=>match c.rows? L.size with
          | some rows=>match mx,hi with
            | none,_=>jS rows.length lo hi/\K (.sl L.size (cut rows lo hi))
            | some m,some h=>m=h/\jS rows.length lo hi/\K (.tight L.size (cut rows lo hi))
            | some _,none=>False
          | none=>False
      | none=>False
    | _=>False
def zqv (P:Program) (t:TypeId) (c:C) (lo hi mx:Option (Option Int)) (K:C->Prop):Prop:=
 match lo,hi,mx with
 | some lo,some hi,some mx=>zqe P (lay P t) c lo hi mx K
 | _,_,_=>False
def zqu (L:Option Lay) (c:C) (lo hi mx:Option Int) (K:C->Prop):Prop:=
 match L with
   | some L=>match c with
    | .bs i off k n cap=>zkh L.size i off k n cap lo hi mx K
    | .sc (.slice none 0 0)=>zmv L.size lo hi mx K
    | c=>match c.rows? L.size with
     | some rows=>match mx,hi with
      | none,_=>jS rows.length lo hi/\K (.sl L.size (cut rows lo hi))
      | some m,some h=>m=h/\jS rows.length lo hi/\K (.tight L.size (cut rows lo hi))
      | some _,none=>False
     | none=>False
   | none=>False
def zqG (rows:Option (List (List C))) (k:Nat) (lo hi mx:Option Int) (K:C->Prop):Prop:=
 match rows with
    | some rows=>match mx,hi with
     | none,_=>jS rows.length lo hi/\K (.sl k (cut rows lo hi))
     | some m,some h=>m=h/\jS rows.length lo hi/\K (.tight k (cut rows lo hi))
     | some _,none=>False
    | none=>False
def zjj (rows:Option (List (List C))) (K:C->Prop):Prop:=match rows with | some rows=>∃ l,rows=JL l/\K (.str l) | none=>False
theorem zjj.mk {rows:List (List C)} (l:List UInt8) (h:rows=JL l) (hK:K (.str l)):zjj (some rows) K:=⟨l,h,hK⟩
def zq2 (P:Program) (D S:Option Lay) (c:C) (K:C->Prop):Prop:=
 match D with
 | some ⟨.int k,_,_,_⟩=>match c with
  | .sc (.int _ n)=>match S with | some _=>inR k n/\K (.sc (.int k n)) | none=>False
  | _=>False
 | some ⟨.str,_,_,_⟩=>match S with
  | some ⟨.str,_,_,_⟩=>match c with
   | .str l=>K (.str l)
   | _=>False
  | some ⟨.slice e,_,_,_⟩=>match lay P e with
   | some ⟨.int .u8,_,_,_⟩=>match c.rows? 1 with
    | some rows=>∃ l,rows=JL l/\K (.str l)
    | none=>False
   | _=>False
  | some ⟨.int _,_,_,_⟩=>match c with
   | .sc (.int _ n)=>K (.str (Utf8.encode n).data.toList)
   | _=>False
  | _=>False
 | some ⟨.slice e,_,_,_⟩=>match S,lay P e with
  | some ⟨.str,_,_,_⟩,some ⟨.int .u8,_,_,_⟩=>match c with
   | .str l=>((l.length:Nat):Int)<=9223372036854775807/\K (.sl 1 (JL l))
   | _=>False
  | _,_=>False
 | _=>False
def zpC (L:Option Lay) (c:C) (K:C->Prop):Prop:=
 match L,c with
 | some ⟨.slice _,_,_,_⟩,.bs _ _ _ _ c=>K (.sc (.int .i64 (c:Int)))
 | some ⟨.slice _,_,_,_⟩,.sc (.slice none 0 0)=>K (.sc (.int .i64 0))
 | _,_=>False
def zpl (L:Option Lay) (n:Int) (K:C->Prop):Prop:=match L with | some ⟨.slice _,_,_,_⟩=>K (.sc (.int .i64 n)) | _=>False
def zpc (L:Option Lay) (n:Int) (K:C->Prop):Prop:=match L with | some ⟨.str,_,_,_⟩=>K (.sc (.int .i64 n)) | _=>False
def zpv (L:Option Lay) (parts:List (Nat×C)) (K:C->Prop):Prop:=
 match L with
 | some ⟨.struct fs,_,_,some z⟩=>(parts.all fun p=>p.2.partB)=true/\match YM (fun i=>(fs[i]?).map fun f=>(f.1,f.2.1)) (z.map zC) parts with
  | some cs=>K (.agg cs)
  | none=>False
 | _=>False
def aFl (cs:Option (List C)) (K:C->Prop):Prop:=match cs with | some cs=>K (.agg cs) | none=>False
def plS (fs:List (Nat×Nat×Bool)) (i:Nat):Option (Nat×Nat):=(fs[i]?).map fun f=>(f.1,f.2.1)
def plA (k:Nat) (i:Nat):Option (Nat×Nat):=some (i*k,k)
def zjm (pl:Option (Nat×Nat)) (place:Nat->Option (Nat×Nat)) (cs:List C) (c:List C) (rest:List (Nat×C)):Option (List C):=
 match pl with
  | none=>none
  | some (off,size)=>if c.length=size/\off+size<=cs.length then YM place (cs.take off++c++cs.drop (off+size)) rest else none
def zqW (P:Program) (L:Option Lay) (n:Nat) (parts:List (Nat×C)) (nx:Nat) (K:C->Nat->Prop):Prop:=
 match L with
 | some ⟨.slice e,_,_,_⟩=>match lay P e with
  | some ⟨_,k,_,some z⟩=>z.length=k/\0<k/\n*k<=16777216/\(parts.all fun p=>p.2.frz.partB)=true/\match YM (fun i=>some (i*k,k)) (List.replicate n (z.map zC)).flatten (parts.map fun p=>(p.1,p.2.frz)) with
   | some cs=>(cs.all C.cellB)=true/\cs.length=n*k/\K (.own nx e k (X6 k n cs)) (nx+1)
   | none=>False
  | _=>False
 | _=>False
def zqV (L:Option Lay) (e:TypeId) (n:Nat) (parts:List (Nat×C)) (nx:Nat) (K:C->Nat->Prop):Prop:=
   match L with
    | some ⟨_,k,_,some z⟩=>z.length=k/\0<k/\n*k<=16777216/\(parts.all fun p=>p.2.frz.partB)=true/\match YM (fun i=>some (i*k,k)) (List.replicate n (z.map zC)).flatten (parts.map fun p=>(p.1,p.2.frz)) with
      | some cs=>(cs.all C.cellB)=true/\cs.length=n*k/\K (.own nx e k (X6 k n cs)) (nx+1)
      | none=>False
    | _=>False
def zqh (cs:Option (List C)) (e k n nx:Nat) (K:C->Nat->Prop):Prop:=
 match cs with
   | some cs=>(cs.all C.cellB)=true/\cs.length=n*k/\K (.own nx e k (X6 k n cs)) (nx+1)
   | none=>False
def zqm (P:Program) (L:Option Lay) (l c:C) (nx:Nat) (K:C->Nat->Prop):Prop:=
 match L,l,c with
 | some ⟨.slice e,_,_,_⟩,.sc (.int _ l),.sc (.int _ c)=>match lay P e with
  | some ⟨_,k,by',some z⟩=>z.length=k/\0<k/\(z.all Value.oneCell')=true/\0<=l/\l<=c/\(by':Int)*c<=281474976710656/\c<=9223372036854775807/\K (.own nx e k (List.replicate l.toNat (z.map zC))) (nx+1)
  | _=>False
 | _,_,_=>False
def zqM (L:Option Lay) (e:TypeId) (l c:Int) (nx:Nat) (K:C->Nat->Prop):Prop:=
 match L with
  | some ⟨_,k,by',some z⟩=>z.length=k/\0<k/\(z.all Value.oneCell')=true/\0<=l/\l<=c/\(by':Int)*c<=281474976710656/\c<=9223372036854775807/\K (.own nx e k (List.replicate l.toNat (z.map zC))) (nx+1)
  | _=>False
def zpn (P:Program) (L:Option Lay) (l c:C) (σ:St) (K:C->St->Prop):Prop:=
 match L,l,c with
 | some ⟨.slice e,_,_,_⟩,.sc (.int _ l),.sc (.int _ c)=>match lay P e with
  | some ⟨_,k,by',some z⟩=>z.length=k/\0<k/\(z.all Value.oneCell')=true/\0<=l/\l<=c/\(by':Int)*c<=281474976710656/\c<=9223372036854775807/\K (.bs σ.bx.length 0 k l.toNat c.toNat) ⟨σ.tm,σ.bx++[(List.replicate c.toNat (z.map zC)).flatten],σ.nx,σ.lg⟩
  | _=>False
 | _,_,_=>False
def zoS (L:Option Lay) (l c:Int) (σ:St) (K:C->St->Prop):Prop:=
 match L with
  | some ⟨_,k,by',some z⟩=>z.length=k/\0<k/\(z.all Value.oneCell')=true/\0<=l/\l<=c/\(by':Int)*c<=281474976710656/\c<=9223372036854775807/\K (.bs σ.bx.length 0 k l.toNat c.toNat) ⟨σ.tm,σ.bx++[(List.replicate c.toNat (z.map zC)).flatten],σ.nx,σ.lg⟩
  | _=>False
def zqA (P:Program) (L:Option Lay) (s x:C) (nx:Nat) (K:C->Nat->Prop):Prop:=
 match L with
 | some ⟨.slice e,_,_,_⟩=>match lay P e with
  | some ⟨_,k,by',some z⟩=>match x.rows? k with
   | some xs=>match s with
    | .sc (.slice none 0 0)=>z.length=k/\0<k/\xs.length<=9223372036854775807/\xs.length*by'<=140737488355328/\K (.own nx e k xs) (nx+1)
    | .tight k' rows=>k'=k/\z.length=k/\0<k/\rows.length+xs.length<=9223372036854775807/\(rows.length+xs.length)*by'<=140737488355328/\(xs = []->K (.tight k' rows) nx)/\(xs≠[]->K (.own nx e k (rows++xs)) (nx+1))
    | _=>False
   | none=>False
  | _=>False
 | _=>False
def zqU (L:Option Lay) (e:TypeId) (s x:C) (nx:Nat) (K:C->Nat->Prop):Prop:=
  match L with
  | some ⟨_,k,by',some z⟩=>match x.rows? k with
   | some xs=>match s with
    | .sc (.slice none 0 0)=>z.length=k/\0<k/\xs.length<=9223372036854775807/\xs.length*by'<=140737488355328/\K (.own nx e k xs) (nx+1)
    | .tight k' rows=>k'=k/\z.length=k/\0<k/\rows.length+xs.length<=9223372036854775807/\(rows.length+xs.length)*by'<=140737488355328/\(xs = []->K (.tight k' rows) nx)/\(xs≠[]->K (.own nx e k (rows++xs)) (nx+1))
    | _=>False
   | none=>False
  | _=>False
def zqt (xs:Option (List (List C))) (s:C) (e k by':Nat) (z:List Value) (nx:Nat) (K:C->Nat->Prop):Prop:=
 match xs with
   | some xs=>match s with
    | .sc (.slice none 0 0)=>z.length=k/\0<k/\xs.length<=9223372036854775807/\xs.length*by'<=140737488355328/\K (.own nx e k xs) (nx+1)
    | .tight k' rows=>k'=k/\z.length=k/\0<k/\rows.length+xs.length<=9223372036854775807/\(rows.length+xs.length)*by'<=140737488355328/\(xs = []->K (.tight k' rows) nx)/\(xs≠[]->K (.own nx e k (rows++xs)) (nx+1))
    | _=>False
   | none=>False
def zqx (P:Program) (L:Option Lay) (id e k:Nat) (rows:List (List C)) (x:C) (σ:St) (K:C->St->Prop):Prop:=
   match L with
    | some ⟨.slice e',_,_,_⟩=>match lay P e with
      | some ⟨_,k',by',some z⟩=>match x.rows? k with
        | some xs=>e'=e/\k'=k/\z.length=k/\0<k/\rows.length+xs.length<=9223372036854775807/\(rows.length+xs.length)*by'<=140737488355328/\K (.own id e k (rows++xs)) ⟨uT id σ.tm,MV id σ.bx,σ.nx,σ.lg⟩
        | none=>False
      | _=>False
    | _=>False
def zpy (L:Option Lay) (e' id e k:Nat) (rows:List (List C)) (x:C) (σ:St) (K:C->St->Prop):Prop:=
  match L with
   | some ⟨_,k',by',some z⟩=>match x.rows? k with
    | some xs=>e'=e/\k'=k/\z.length=k/\0<k/\rows.length+xs.length<=9223372036854775807/\(rows.length+xs.length)*by'<=140737488355328/\K (.own id e k (rows++xs)) ⟨uT id σ.tm,MV id σ.bx,σ.nx,σ.lg⟩
    | none=>False
   | _=>False
def zoZ (xs:Option (List (List C))) (by' id e k:Nat) (rows:List (List C)) (σ:St) (K:C->St->Prop):Prop:=
   match xs with
        | some xs=>rows.length+xs.length<=9223372036854775807/\(rows.length+xs.length)*by'<=140737488355328/\K (.own id e k (rows++xs)) ⟨uT id σ.tm,MV id σ.bx,σ.nx,σ.lg⟩
        | none=>False
def zqX (L:Option Lay) (σ:St) (K:C->St->Prop):Prop:=
 match L with
 | some ⟨_,_,_,some z⟩=>(z.all Value.oneCell')=true/\K (.ptr σ.bx.length 0) ⟨σ.tm,σ.bx++[z.map zC],σ.nx,σ.lg⟩
 | _=>False
def zqQ (L:Option Lay) (p c:C) (σ:St) (K:C->St->Prop):Prop:=
 match L,p with
 | some L,.ptr i off=>match σ.bx[i]? with
  | some cs=>c.partB=true/\(c.cells.all C.cellB)=true/\c.cells.length=L.size/\off+L.size<=cs.length/\K .any ⟨σ.tm,σ.bx.set i (cs.take off++c.cells++cs.drop (off+L.size)),σ.nx,σ.lg⟩
  | none=>False
 | _,_=>False
def zqP (cs:Option (List C)) (i off size:Nat) (c:C) (σ:St) (K:C->St->Prop):Prop:=
 match cs with
  | some cs=>c.partB=true/\(c.cells.all C.cellB)=true/\c.cells.length=size/\off+size<=cs.length/\K .any ⟨σ.tm,σ.bx.set i (cs.take off++c.cells++cs.drop (off+size)),σ.nx,σ.lg⟩
  | none=>False
def zfC (cs:Option (List C)) (off n:Nat) (K:C->Prop):Prop:=match cs with
   | some cs=>∃ l:List UInt8,l.length=n/\(cs.drop off).take n=l.map (fun b=>C.sc (.int .u8 (b.toNat:Int)))/\K (.str l)
   | none=>False
theorem zfC.mk {cs:List C} {off n:Nat} {K:C->Prop} (l:List UInt8) (hl:l.length=n) (h:(cs.drop off).take n=l.map (fun b=>C.sc (.int .u8 (b.toNat:Int)))) (hK:K (.str l)):zfC (some cs) off n K:=⟨l,hl,h,hK⟩
def zqg (P:Program) (L:Option Lay) (n:Nat) (parts:List (Nat×C)) (σ:St) (K:C->St->Prop):Prop:=
 match L with
 | some ⟨.slice e,_,_,_⟩=>match lay P e with
  | some ⟨_,k,_,some z⟩=>z.length=k/\0<k/\n*k<=16777216/\(parts.all fun p=>p.2.frz.partB)=true/\match YM (fun i=>some (i*k,k)) (List.replicate n (z.map zC)).flatten (parts.map fun p=>(p.1,p.2.frz)) with
   | some cs=>(cs.all C.cellB)=true/\cs.length=n*k/\K (.bs σ.bx.length 0 k n n) ⟨σ.tm,σ.bx++[cs],σ.nx,σ.lg⟩
   | none=>False
  | _=>False
 | _=>False
def zqL (L:Option Lay) (n:Nat) (parts:List (Nat×C)) (σ:St) (K:C->St->Prop):Prop:=
   match L with
    | some ⟨_,k,_,some z⟩=>z.length=k/\0<k/\n*k<=16777216/\(parts.all fun p=>p.2.frz.partB)=true/\match YM (fun i=>some (i*k,k)) (List.replicate n (z.map zC)).flatten (parts.map fun p=>(p.1,p.2.frz)) with
      | some cs=>(cs.all C.cellB)=true/\cs.length=n*k/\K (.bs σ.bx.length 0 k n n) ⟨σ.tm,σ.bx++[cs],σ.nx,σ.lg⟩
      | none=>False
    | _=>False
def zqi (cs:Option (List C)) (k n:Nat) (σ:St) (K:C->St->Prop):Prop:=
 match cs with
   | some cs=>(cs.all C.cellB)=true/\cs.length=n*k/\K (.bs σ.bx.length 0 k n n) ⟨σ.tm,σ.bx++[cs],σ.nx,σ.lg⟩
   | none=>False
def zqy (P:Program) (L:Option Lay) (p:Nat) (s x:C) (σ:St) (K:C->St->Prop):Prop:=
 match L with
 | some ⟨.slice e,_,_,_⟩=>match lay P e with
  | some ⟨_,k,by',some z⟩=>match x.xs? k σ.bx with
   | some (m,xs)=>z.length=k/\0<k/\(z.all Value.oneCell')=true/\0<m/\match s with
    | .sc (.slice none 0 0)=>m<=9223372036854775807/\m*by'<=140737488355328/\∀ c,m<=c->c<=maxLen->K (.bs σ.bx.length 0 k m c) ⟨σ.tm,σ.bx++[xs++List.replicate ((c-m)*k) .any],σ.nx,σ.lg⟩
    | .bs i 0 k' n c=>match σ.bx[i]? with
     | some cs=>k'=k/\p<=i/\cs.length=c*k/\n<=c/\c<=9223372036854775807/\n+m<=9223372036854775807/\(n+m)*by'<=140737488355328 /\
       ∀ c',n+m<=c'->c'<=maxLen->K (.bs i 0 k (n+m) c') ⟨kx (JR i) some σ.tm,Zf i (C.reL (JR i) some (cs.take (n*k)++xs)++List.replicate ((c'-(n+m))*k) .any) σ.bx,σ.nx,σ.lg⟩
     | none=>False
    | _=>False
   | none=>False
  | _=>False
 | _=>False
def zqH (L:Option Lay) (p:Nat) (s x:C) (σ:St) (K:C->St->Prop):Prop:=
  match L with
  | some ⟨_,k,by',some z⟩=>match x.xs? k σ.bx with
   | some (m,xs)=>z.length=k/\0<k/\(z.all Value.oneCell')=true/\0<m/\match s with
    | .sc (.slice none 0 0)=>m<=9223372036854775807/\m*by'<=140737488355328/\∀ c,m<=c->c<=maxLen->K (.bs σ.bx.length 0 k m c) ⟨σ.tm,σ.bx++[xs++List.replicate ((c-m)*k) .any],σ.nx,σ.lg⟩
    | .bs i 0 k' n c=>match σ.bx[i]? with
     | some cs=>k'=k/\p<=i/\cs.length=c*k/\n<=c/\c<=9223372036854775807/\n+m<=9223372036854775807/\(n+m)*by'<=140737488355328 /\
       ∀ c',n+m<=c'->c'<=maxLen->K (.bs i 0 k (n+m) c') ⟨kx (JR i) some σ.tm,Zf i (C.reL (JR i) some (cs.take (n*k)++xs)++List.replicate ((c'-(n+m))*k) .any) σ.bx,σ.nx,σ.lg⟩
     | none=>False
    | _=>False
   | none=>False
  | _=>False
def zqK (X:Option (Nat×List C)) (p k by':Nat) (z:List Value) (s:C) (σ:St) (K:C->St->Prop):Prop:=
  match X with
   | some (m,xs)=>z.length=k/\0<k/\(z.all Value.oneCell')=true/\0<m/\match s with
    | .sc (.slice none 0 0)=>m<=9223372036854775807/\m*by'<=140737488355328/\∀ c,m<=c->c<=maxLen->K (.bs σ.bx.length 0 k m c) ⟨σ.tm,σ.bx++[xs++List.replicate ((c-m)*k) .any],σ.nx,σ.lg⟩
    | .bs i 0 k' n c=>match σ.bx[i]? with
     | some cs=>k'=k/\p<=i/\cs.length=c*k/\n<=c/\c<=9223372036854775807/\n+m<=9223372036854775807/\(n+m)*by'<=140737488355328 /\
       ∀ c',n+m<=c'->c'<=maxLen->K (.bs i 0 k (n+m) c') ⟨kx (JR i) some σ.tm,Zf i (C.reL (JR i) some (cs.take (n*k)++xs)++List.replicate ((c'-(n+m))*k) .any) σ.bx,σ.nx,σ.lg⟩
     | none=>False
    | _=>False
   | none=>False
def bsO (j:Option Nat) (off k n c:Nat):C:=match j with | some j=>.bs j off k n c | none=>.any
def xsB (k' k off n:Nat) (cs:Option (List C)):Option (Nat×List C):=if k'=k then cs.bind fun cs=>if off+n*k<=cs.length then some (n,(cs.drop off).take (n*k)) else none else none
def zoL (j:Option Nat) (e k:Nat) (rows:List (List C)):C:=match j with | some j=>.own j e k rows | none=>.sl k rows
def zpR (cs:Option (List C)) (off:Nat):C:=match cs with | some cs=>.row ((C.frzL cs).drop off) | none=>.any
def zmd (j:Option Nat) (off:Nat):C:=match j with | some j=>.ptr j off | none=>.any
def zln (cs:Option (List C)) (p:Option Tmp) (σ:St) (K:St->Prop):Prop:=match cs,p with
  | some cs,some p=>K ⟨(p,.ptr σ.bx.length 0) :: σ.tm,σ.bx++[cs],σ.nx,σ.lg⟩
  | _,_=>False
def zqj (M:Option (MKd×C)) (t:TypeId) (r:Option C) (nx:Nat) (K:C->Nat->Prop):Prop:=
 match M with
 | some (kd,_)=>match r with
  | none=>K (.mo nx t kd.nil []) (nx+1)
  | some (.sc (.int _ _))=>K (.mo nx t kd.nil []) (nx+1)
  | _=>False
 | none=>False
def zqZ (M:Option (MKd×C)) (t:TypeId) (m key:C) (ok:Bool) (K:C->Prop):Prop:=
 match M with
 | some (.int k,z)=>match m,key with
  | .mo _ t' (.int k' l) vs,.sc (.int q n)=>t'=t/\k'=k/\q=k/\He (vV n l vs) z ok K
  | _,_=>False
 | some (.str,z)=>match m,key with
  | .mo _ t' (.str l) vs,.str s=>t'=t/\He (vV s l vs) z ok K
  | _,_=>False
 | none=>False
def zqN (M:Option (MKd×C)) (t:TypeId) (m key x:C) (σ:St) (K:C->St->Prop):Prop:=
 match M with
 | some (.int k,_)=>match m,key with
  | .mo id t' (.int k' l) vs,.sc (.int q n)=>t'=t/\k'=k/\q=k/\HB id (.int k (kf n x.frz l vs).1) (kf n x.frz l vs).2 σ K
  | _,_=>False
 | some (.str,_)=>match m,key with
  | .mo id t' (.str l) vs,.str s=>t'=t/\HB id (.str (kf s x.frz l vs).1) (kf s x.frz l vs).2 σ K
  | _,_=>False
 | none=>False
def zp6 (x:Option (List C)):C:=match x with | some cs=>.row cs | none=>.any
structure Tag.{u} {α:Sort u} (a:α):Type where
def zmX (M:Option (MKd×C)) (t:TypeId) (r:Option C) (nx:Nat) (K:C->Nat->Prop) (_:Tag K):Prop:=zqj M t r nx K
def zne (M:Option (MKd×C)) (t:TypeId) (m key:C) (ok:Bool) (K:C->Prop) (_:Tag K):Prop:=zqZ M t m key ok K
def zdz (r:Option C) (z:C) (ok:Bool) (K:C->Prop) (_:Tag K):Prop:=He r z ok K
def zmK (M:Option (MKd×C)) (t:TypeId) (m key x:C) (σ:St) (K:C->St->Prop) (_:Tag K):Prop:=zqN M t m key x σ K
def zdb (sz i off k n cap:Nat) (lo hi mx:Option Int) (K:C->Prop) (_:Tag K):Prop:=zkh sz i off k n cap lo hi mx K
def xX (P:Program) (t:TypeId) (s x:C) (σ:St) (K:C->St->Prop) (_:Tag K):Prop:=Yv P t s x σ K
def vD (P:Program) (t tn:TypeId) (s x:C) (σ:St) (K:C->St->Prop) (_:Tag K):Prop:=HZ P t tn s x σ K
def Ne (P:Program) (t:TypeId) (d x:C) (σ:St) (K:C->St->Prop) (_:Tag K):Prop:=Qu P t d x σ K
def xG (P:Program) (t:TypeId) (x:C) (σ:St) (K:C->St->Prop) (_:Tag K):Prop:=VZ P t x σ K
def znZ (x y:C) (K:C->Prop) (_:Tag K):Prop:=zow x y K
def zom (P:Program) (t:TypeId) (c:C) (K:C->Prop) (_:Tag K):Prop:=znW P t c K
def zfh (L:Option Lay) (c:C) (K:C->Prop) (_:Tag K):Prop:=zpC L c K
def zfy (P:Program) (bx:List (List C)) (s d:TypeId) (c:C) (K:C->Prop) (_:Tag K):Prop:=vE P bx s d c K
def ky (P:Program) (t:TypeId) (n:Nat) (parts:List (Nat×C)) (σ:St) (K:C->St->Prop) (_:Tag K):Prop:=QL P t n parts σ K
def zoD (P:Program) (L:Option Lay) (n:Nat) (parts:List (Nat×C)) (σ:St) (K:C->St->Prop) (_:Tag K):Prop:=zqg P L n parts σ K
def znG (L:Option Lay) (n:Nat) (parts:List (Nat×C)) (σ:St) (K:C->St->Prop) (_:Tag K):Prop:=zqL L n parts σ K
def zof (cs:Option (List C)) (k n:Nat) (σ:St) (K:C->St->Prop) (_:Tag K):Prop:=zqi cs k n σ K
def vY (P:Program) (p:Nat) (t:TypeId) (s x:C) (σ:St) (K:C->St->Prop) (_:Tag K):Prop:=VS P p t s x σ K
def zoc (P:Program) (L:Option Lay) (p:Nat) (s x:C) (σ:St) (K:C->St->Prop) (_:Tag K):Prop:=zqy P L p s x σ K
def znH (L:Option Lay) (p:Nat) (s x:C) (σ:St) (K:C->St->Prop) (_:Tag K):Prop:=zqH L p s x σ K
def zmH (X:Option (Nat×List C)) (p k by':Nat) (z:List Value) (s:C) (σ:St) (K:C->St->Prop) (_:Tag K):Prop:=zqK X p k by' z s σ K
def zj7 (c:C) (X Y:Prop) (_:Tag X) (_:Tag Y):Prop:=ABr c X Y
def zhu (c:C) (U X Y:Prop) (_:Tag U) (_:Tag X) (_:Tag Y):Prop:=zi0 c U X Y
def Y7 (ops:Array Oper) (tm:List (Nat×C)) (g:Option (Nat×Bool)) (X Y:Prop) (_:Tag ops) (_:Tag X) (_:Tag Y):Prop:=jm ops tm g X Y
def zpt (d:Option Tmp) (tm:List (Nat×C)) (want:Bool) (X Y:Prop) (_:Tag X) (_:Tag Y):Prop:=aGd d tm want X Y
def ZO (P:Program) (G:zq) (h:Hd) (c:Code) (Q:Exit->St->Prop) (σ:St) (_:Tag c) (_:Tag Q):Prop:=awp P G h c Q σ
def zej (P:Program) (G:zq) (h:Hd) (ops:Array Oper) (l:List Oper) (σ:St) (K:St->Prop) (_:Tag h) (_:Tag ops) (_:Tag l) (_:Tag K):Prop:=zon P G h ops l σ K
def Xj (P:Program) (G:zq) (h:Hd) (ops:Array Oper) (l:List Oper) (br:List Bool) (σ:St) (K:St->Prop) (_:Tag h) (_:Tag ops) (_:Tag l) (_:Tag K):Prop:=QT P G h ops l br σ K
def N8 (P:Program) (G:zq) (h:Hd) (ops:Array Oper) (br:List Bool) (σ:St) (K:St->Prop) (_:Tag h) (_:Tag ops) (_:Tag K):Prop:=Mt P G h ops br σ K
def zl6 (P:Program) (G:zq) (Y:Hd) (ops:Array Oper) (rest:List (Nat×MFl)) (q:Nat) (H:List U1) (fl:MFl) (oo:Option Oper) (σ:St) (K:St->Prop):Prop:=match oo with
 | none=>False
 | some o=>match fl with
  | .pure=>jm ops σ.tm o.guard (Jn P G σ.bx (zB G σ.tm) o.op σ.nx fun c nx'=>mix P G Y ops rest (q+1) ((q,fun b=>Jn P G b (zB G σ.tm) o.op σ.nx fun c' n'=>c'=c/\n'=nx') :: H) ⟨Jo σ.tm o.dst c,σ.bx,nx',σ.lg⟩ K)
    (mix P G Y ops rest (q+1) H ⟨Jo σ.tm o.dst (.sc undef),σ.bx,σ.nx,σ.lg⟩ K)
  | .bar=>jm ops σ.tm o.guard (GW P G Y o.op σ fun c σ'=>mix P G Y ops rest (q+1) [] (σ'.put o.dst c) K) (mix P G Y ops rest (q+1) [] (σ.put o.dst (.sc undef)) K)
  | .flt fr=>o.guard=none/\zmC P G o.op σ fun c bx' nx'=>YV fr bx' H/\mix P G Y ops rest (q+1) H ⟨Jo σ.tm o.dst c,bx',nx',σ.lg⟩ K
def kg (P:Program) (G:zq) (h:Hd) (ops:Array Oper) (all:List Oper) (L:List (Nat×MFl)) (q:Nat) (H:List U1) (σ:St) (K:St->Prop) (_:Tag h) (_:Tag ops) (_:Tag all) (_:Tag H) (_:Tag K):Prop:=mix P G h ops L q H σ K
def Mg (P:Program) (G:zq) (h:Hd) (ops:Array Oper) (all:List Oper) (L:List (Nat×MFl)) (q:Nat) (H:List U1) (fl:MFl) (i:Nat) (l:List Oper) (σ:St) (K:St->Prop) (_:Tag h) (_:Tag ops) (_:Tag all) (_:Tag H) (_:Tag l) (_:Tag K):Prop:=zl6 P G h ops L q H fl (l[i]?) σ K
def zmb (fr:List Nat) (b:List (List C)) (H:List U1) (_:Tag H):Prop:=YV fr b H
def zeX (P:Program) (G:zq) (f:C) (args:List C) (σ:St) (K:C->List (List C)->Nat->Prop) (_:Tag K):Prop:=vl P G f args σ K
def zp8 (P:Program) (G:zq) (f:FuncId) (args:List C) (σ:St) (K:C->List (List C)->Nat->Prop) (_:Tag K):Prop:=zi5 P G f args σ K
def Y8 (P:Program) (G:zq) (ops:Array Oper) (a s:Nat) (l:List Oper) (i:Nat) (cs:Option (List C)) (σ:St) (K:St->Prop) (_:Tag ops) (_:Tag l) (_:Tag K):Prop:=jr P G ops a s l i cs σ K
def zjg (cs:Option (List C)) (p:Option Tmp) (σ:St) (K:St->Prop) (_:Tag K):Prop:=zln cs p σ K
def zi9 (L:Option Lay) (K:Prop) (_:Tag K):Prop:=zio L K
def zjo (L:Option Lay) (c:C) (K:C->Prop) (_:Tag K):Prop:=zg9 L c K
def jv (P:Program) (G:zq) (h:Hd) (op:Op) (σ:St) (K:C->St->Prop) (_:Tag h) (_:Tag op) (_:Tag K):Prop:=GW P G h op σ K
def Qp (P:Program) (G:zq) (f:FuncId) (args fargs:List C) (σ:St) (K:C->St->Prop) (_:Tag K):Prop:=znA P G f args fargs σ K
def xe (P:Program) (G:zq) (h:Hd) (c:C) (args:List C) (σ:St) (K:C->St->Prop) (_:Tag h) (_:Tag K):Prop:=Nw P G h c args σ K
def uD (y:Yd) (it:Option (List C)) (args:List C) (σ:St) (K:C->St->Prop) (_:Tag y) (_:Tag K):Prop:=HR y it args σ K
def zeE (P:Program) (G:zq) (p:Nat) (A B:Nat->(Exit->St->Prop)->St->Prop) (Q:Exit->St->Prop) (ps:List Tmp) (c:C) (σ:St) (_:Tag A) (_:Tag B) (_:Tag Q):Prop:=vt P G p A B Q ps c σ
def jq (P:Program) (G:zq) (bx:List (List C)) (ev:Operand->C) (op:Op) (nx:Nat) (K:C->Nat->Prop) (_:Tag ev) (_:Tag op) (_:Tag K):Prop:=Jn P G bx ev op nx K
def zaG (P:Program) (σ:St) (rs:List ResultVar) (K:C->Prop) (_:Tag K):Prop:=zl9 P σ rs K
def Yu (P:Program) (σ:St) (rv:ResultVar) (K:C->Prop) (_:Tag K):Prop:=JI P σ rv K
def yH (P:Program) (t:TypeId) (op:BinOp) (x y:C) (K:C->Prop) (_:Tag K):Prop:=zmc P t op x y K
def UZ (op:BinOp) (k:IntKind) (a b:Int) (K:C->Prop) (_:Tag K):Prop:=zoM op k a b K
def ux (l:Option Lay) (op:BinOp) (x:C) (K:C->Prop) (_:Tag K):Prop:=zll l op x K
def zc0 (op:BinOp) (b:Bool) (K:C->Prop) (_:Tag K):Prop:=Gy op b K
def zaU (op:BinOp) (a b:List UInt8) (K:C->Prop) (_:Tag K):Prop:=zpr op a b K
def zkx (op:BinOp) (ks:Option (List LK)) (xs ys:List C) (K:C->Prop) (_:Tag K):Prop:=zo1 op ks xs ys K
def zji (n:Bool) (ks:List LK) (xs ys:List C) (e:Bool) (K:C->Prop) (_:Tag K):Prop:=aEq n ks xs ys e K
def zpm (op:UnOp) (x:C) (K:C->Prop) (_:Tag K):Prop:=aUn op x K
def ua (P:Program) (t:TypeId) (c:C) (bx:List (List C)) (K:C->Prop) (_:Tag K):Prop:=xC P t c bx K
def yW (L:Option Lay) (c:C) (bx:List (List C)) (K:C->Prop) (_:Tag K):Prop:=zoF L c bx K
def zeb (cs:Option (List C)) (off:Nat) (L:Lay) (K:C->Prop) (_:Tag K):Prop:=zmR cs off L K
def Vl (L:Lay) (cs:List C) (K:C->Prop) (_:Tag K):Prop:=J8 L cs K
def zjG (x:Option C) (K:C->Prop) (_:Tag K):Prop:=zpP x K
def Uk (c:C) (i:Nat) (K:C->Prop) (_:Tag K):Prop:=VN c i K
def zlI (c:C) (K:C->Prop) (_:Tag K):Prop:=zoN c K
def y0 (P:Program) (t:TypeId) (c:C) (f:Nat) (K:C->Prop) (_:Tag K):Prop:=vB P t c f K
def uo (L:Option Lay) (c:C) (f:Nat) (K:C->Prop) (_:Tag K):Prop:=yQ L c f K
def ui (f:Option (Nat×Nat×Bool)) (cs:List C) (K:C->Prop) (_:Tag K):Prop:=Uz f cs K
def Qt (P:Program) (t:TypeId) (c:C) (f:Nat) (K:C->Prop) (_:Tag K):Prop:=X0 P t c f K
def zm4 (L:Option Lay) (c:C) (f:Nat) (K:C->Prop) (_:Tag K):Prop:=zqR L c f K
def zjM (f:Option (Nat×Nat×Bool)) (c:C) (K:C->Prop) (_:Tag K):Prop:=znb f c K
def Qg (P:Program) (t:TypeId) (c:C) (i:C) (K:C->Prop) (_:Tag K):Prop:=XU P t c i K
def zk1 (P:Program) (L:Option Lay) (c:C) (i:C) (K:C->Prop) (_:Tag K):Prop:=zqY P L c i K
def zgX (L:Option Lay) (c:C) (n:Int) (K:C->Prop) (_:Tag K):Prop:=zqJ L c n K
def zl1 (rows:Option (List (List C))) (n:Int) (K:C->Prop) (_:Tag K):Prop:=zqn rows n K
def zp7 (r:Option (List C)) (n:Int) (K:C->Prop) (_:Tag K):Prop:=aAt r n K
def zm9 (L:Option Lay) (c:C) (m:Nat) (n:Int) (K:C->Prop) (_:Tag K):Prop:=zqC L c m n K
def yy (P:Program) (t:TypeId) (c i:C) (K:C->Prop) (_:Tag K):Prop:=vi P t c i K
def zmE (L:Option Lay) (c i:C) (K:C->Prop) (_:Tag K):Prop:=zo5 L c i K
def zjb (b:Option UInt8) (n:Int) (K:C->Prop) (_:Tag K):Prop:=zlo b n K
def M1 (P:Program) (t:TypeId) (c:C) (lo hi mx:Option C) (K:C->Prop) (_:Tag K):Prop:=vh P t c lo hi mx K
def znF (P:Program) (t:TypeId) (c:C) (lo hi mx:Option (Option Int)) (K:C->Prop) (_:Tag K):Prop:=zqv P t c lo hi mx K
def zlH (P:Program) (L:Option Lay) (c:C) (lo hi mx:Option Int) (K:C->Prop) (_:Tag K):Prop:=zqe P L c lo hi mx K
def zd4 (L:Option Lay) (c:C) (lo hi mx:Option Int) (K:C->Prop) (_:Tag K):Prop:=zqu L c lo hi mx K
def zmG (k:Nat) (lo hi mx:Option Int) (K:C->Prop) (_:Tag K):Prop:=zmv k lo hi mx K
def zim (rows:Option (List (List C))) (k:Nat) (lo hi mx:Option Int) (K:C->Prop) (_:Tag K):Prop:=zqG rows k lo hi mx K
def zi8 (P:Program) (s d:TypeId) (c:C) (K:C->Prop) (_:Tag K):Prop:=zg4 P s d c K
def zl3 (P:Program) (D S:Option Lay) (c:C) (K:C->Prop) (_:Tag K):Prop:=zq2 P D S c K
def ym (P:Program) (t:TypeId) (c:C) (K:C->Prop) (_:Tag K):Prop:=zmQ P t c K
def Mn (L:Option Lay) (n:Int) (K:C->Prop) (_:Tag K):Prop:=zpl L n K
def ziY (L:Option Lay) (n:Int) (K:C->Prop) (_:Tag K):Prop:=zpc L n K
def ya (P:Program) (t:TypeId) (parts:List (Nat×C)) (K:C->Prop) (_:Tag K):Prop:=uu P t parts K
def zmV (L:Option Lay) (parts:List (Nat×C)) (K:C->Prop) (_:Tag K):Prop:=zpv L parts K
def zp5 (cs:Option (List C)) (K:C->Prop) (_:Tag K):Prop:=aFl cs K
def XK (P:Program) (t:TypeId) (n:Nat) (parts:List (Nat×C)) (nx:Nat) (K:C->Nat->Prop) (_:Tag K):Prop:=Yb P t n parts nx K
def Gz (P:Program) (t:TypeId) (n:Nat) (parts:List (Nat×C)) (nx:Nat) (K:C->Nat->Prop) (_:Tag K):Prop:=GH P t n parts nx K
def znD (P:Program) (L:Option Lay) (nx:Nat) (K:C->Nat->Prop) (_:Tag K):Prop:=match L with
 | some ⟨.slice e,_,_,_⟩=>match lay P e with
  | some ⟨_,k,_,some z⟩=>z.length=k/\0<k/\K (.tight k []) nx
  | _=>False
 | _=>False
def znp (L:Option Lay) (nx:Nat) (K:C->Nat->Prop) (_:Tag K):Prop:=match L with
  | some ⟨_,k,_,some z⟩=>z.length=k/\0<k/\K (.tight k []) nx
  | _=>False
def zox (P:Program) (L:Option Lay) (n:Nat) (parts:List (Nat×C)) (nx:Nat) (K:C->Nat->Prop) (_:Tag K):Prop:=zqW P L n parts nx K
def zm0 (L:Option Lay) (e:TypeId) (n:Nat) (parts:List (Nat×C)) (nx:Nat) (K:C->Nat->Prop) (_:Tag K):Prop:=zqV L e n parts nx K
def zmt (cs:Option (List C)) (e k n nx:Nat) (K:C->Nat->Prop) (_:Tag K):Prop:=zqh cs e k n nx K
def zi7 (P:Program) (t:TypeId) (l c:C) (nx:Nat) (K:C->Nat->Prop) (_:Tag K):Prop:=zdt P t l c nx K
def Nh (P:Program) (t:TypeId) (l c:C) (σ:St) (K:C->St->Prop) (_:Tag K):Prop:=VE P t l c σ K
def ziZ (P:Program) (L:Option Lay) (l c:C) (σ:St) (K:C->St->Prop) (_:Tag K):Prop:=zpn P L l c σ K
def zje (L:Option Lay) (l c:Int) (σ:St) (K:C->St->Prop) (_:Tag K):Prop:=zoS L l c σ K
def zoC (P:Program) (L:Option Lay) (l c:C) (nx:Nat) (K:C->Nat->Prop) (_:Tag K):Prop:=zqm P L l c nx K
def zog (L:Option Lay) (e:TypeId) (l c:Int) (nx:Nat) (K:C->Nat->Prop) (_:Tag K):Prop:=zqM L e l c nx K
def Gn (P:Program) (t:TypeId) (s x:C) (σ:St) (K:C->St->Prop) (_:Tag K):Prop:=HY P t s x σ K
def Gj (P:Program) (t:TypeId) (s x:C) (nx:Nat) (K:C->Nat->Prop) (_:Tag K):Prop:=ZK P t s x nx K
def zoe (P:Program) (L:Option Lay) (s x:C) (nx:Nat) (K:C->Nat->Prop) (_:Tag K):Prop:=zqA P L s x nx K
def zoG (L:Option Lay) (e:TypeId) (s x:C) (nx:Nat) (K:C->Nat->Prop) (_:Tag K):Prop:=zqU L e s x nx K
def zn9 (xs:Option (List (List C))) (s:C) (e k by':Nat) (z:List Value) (nx:Nat) (K:C->Nat->Prop) (_:Tag K):Prop:=zqt xs s e k by' z nx K
def zou (P:Program) (L:Option Lay) (id e k:Nat) (rows:List (List C)) (x:C) (σ:St) (K:C->St->Prop) (_:Tag K):Prop:=zqx P L id e k rows x σ K
def zn1 (L:Option Lay) (e' id e k:Nat) (rows:List (List C)) (x:C) (σ:St) (K:C->St->Prop) (_:Tag K):Prop:=zpy L e' id e k rows x σ K
def zmT (xs:Option (List (List C))) (by' id e k:Nat) (rows:List (List C)) (σ:St) (K:C->St->Prop) (_:Tag K):Prop:=zoZ xs by' id e k rows σ K
def zcp (P:Program) (G:zq) (callee:C) (args:List C) (nx:Nat) (K:C->Nat->Prop) (_:Tag K):Prop:=N6 P G callee args nx K
def yI (P:Program) (G:zq) (f:FuncId) (args:List C) (nx:Nat) (K:C->Nat->Prop) (_:Tag K):Prop:=uH P G f args nx K
def znB (c:C) (σ:St) (K:C->St->Prop) (_:Tag K):Prop:=zoP c σ K
def zmz (L:Option Lay) (σ:St) (K:C->St->Prop) (_:Tag K):Prop:=zqX L σ K
def znz (L:Option Lay) (p c:C) (σ:St) (K:C->St->Prop) (_:Tag K):Prop:=zqQ L p c σ K
def zmF (cs:Option (List C)) (i off size:Nat) (c:C) (σ:St) (K:C->St->Prop) (_:Tag K):Prop:=zqP cs i off size c σ K
def zeC (p:Nat) (B:(Exit->St->Prop)->St->Prop) (Q:Exit->St->Prop) (σ:St) (_:Tag B) (_:Tag Q):Prop:=zin p B Q σ
def vd (next:St->Prop) (Q:Exit->St->Prop) (_:Tag next) (_:Tag Q):Exit->St->Prop:=znM next Q
def UK (id:Nat) (Q:Exit->St->Prop) (_:Tag Q):Exit->St->Prop:=G7 id Q
def Gl (Q:Exit->St->Prop) (_:Tag Q):Exit->St->Prop:=zek Q
def vz (next:St->Prop) (Q:Exit->St->Prop) (_:Tag next) (_:Tag Q):Exit->St->Prop:=zkZ next Q
def zi3 (K:St->Prop) (_:Tag K):Exit->St->Prop:=zkO K
def yD (m:Nat) (tm:List (Nat×C)) (st:Bool) (next:St) (Q:Exit->St->Prop) (_:Tag next) (_:Tag Q):Exit->St->Prop:=zdd m tm st next Q
def N4 (P:Program) (rs:List ResultVar) (K:C->St->Prop) (_:Tag K):Exit->St->Prop:=zjn P rs K
theorem zm2:ZO P G h .skip Q σ ⟨⟩ ⟨⟩=Q .normal σ:=(rfl)
theorem zjA {l:Nat}:ZO P G h (.label l) Q σ ⟨⟩ ⟨⟩=Q .normal σ:=(rfl)
theorem znh {id:Nat}:ZO P G h (.exit id) Q σ ⟨⟩ ⟨⟩=Q (.exit id) σ:=(rfl)
theorem zoW:ZO P G h .ret Q σ ⟨⟩ ⟨⟩=Q .ret σ:=(rfl)
theorem zoO {a b:Code}:ZO P G h (.seq a b) Q σ ⟨⟩ ⟨⟩=ZO P G h a (vd (fun σ=>ZO P G h b Q σ ⟨⟩ ⟨⟩) Q ⟨⟩ ⟨⟩) σ ⟨⟩ ⟨⟩:=(rfl)
theorem znJ {cc:Operand} {a b:Code}:ZO P G h (.cond cc a b) Q ⟨tm,bx,nx,lg⟩ ⟨⟩ ⟨⟩=zj7 (zB G tm cc) (ZO P G h a Q ⟨tm,bx,nx,lg⟩ ⟨⟩ ⟨⟩) (ZO P G h b Q ⟨tm,bx,nx,lg⟩ ⟨⟩ ⟨⟩) ⟨⟩ ⟨⟩:=(rfl)
theorem zjD {id:Nat} {a:Code}:ZO P G h (.block id a) Q σ ⟨⟩ ⟨⟩=ZO P G h a (UK id Q ⟨⟩) σ ⟨⟩ ⟨⟩:=(rfl)
theorem zmx {a:Code}:ZO P G ⟨p,yd,bf⟩ (.loop a) Q σ ⟨⟩ ⟨⟩=zeC p (fun Q σ=>ZO P G ⟨p,yd,bf⟩ a Q σ ⟨⟩ ⟨⟩) Q σ ⟨⟩ ⟨⟩:=(rfl)
theorem zg6 {a b:Code} {x:Operand} {ps:List Tmp}:ZO P G ⟨p,yd,bf⟩ (.rangeFunc x ps.toArray a b) Q ⟨tm,bx,nx,lg⟩ ⟨⟩ ⟨⟩=zeE P G p (fun m=>fun Q σ=>ZO P G ⟨m,yd,bf⟩ a Q σ ⟨⟩ ⟨⟩) (fun m=>fun Q σ=>ZO P G ⟨m,yd,bf⟩ b Q σ ⟨⟩ ⟨⟩) Q ps (zB G tm x) ⟨tm,bx,nx,lg⟩ ⟨⟩ ⟨⟩ ⟨⟩:=(rfl)
theorem zkE {a:Code}:ZO P G h (.scope a) Q σ ⟨⟩ ⟨⟩=ZO P G h a (Gl Q ⟨⟩) σ ⟨⟩ ⟨⟩:=(rfl)
theorem zgO {id:Nat} {l:List Oper}:ZO P G ⟨p,yd,bf⟩ (.region id l.toArray false) Q σ ⟨⟩ ⟨⟩=zej P G ⟨p,yd,bf⟩ l.toArray l σ (Q .normal) ⟨⟩ ⟨⟩ ⟨⟩ ⟨⟩:=(rfl)
theorem zfR {id:Nat} {l:List Oper}:ZO P G ⟨p,yd,bf⟩ (.region id l.toArray true) Q σ ⟨⟩ ⟨⟩=N8 P G ⟨p,yd,bf⟩ l.toArray (bf id) σ (Q .normal) ⟨⟩ ⟨⟩ ⟨⟩:=(rfl)
theorem zf9 {KS:St->Prop} {l:List Oper}:N8 P G h l.toArray [] σ KS ⟨⟩ ⟨⟩ ⟨⟩=Xj P G h l.toArray l [] σ KS ⟨⟩ ⟨⟩ ⟨⟩ ⟨⟩:=(rfl)
theorem zhj {KS:St->Prop} {l:List Oper} {r:List Bool}:N8 P G h l.toArray (false :: r) σ KS ⟨⟩ ⟨⟩ ⟨⟩=Xj P G h l.toArray l (false :: r) σ KS ⟨⟩ ⟨⟩ ⟨⟩ ⟨⟩:=(rfl)
theorem ziC {KS:St->Prop} {l:List Oper} {L:List (Nat×MFl)}:N8 P G h l.toArray (Vf L) σ KS ⟨⟩ ⟨⟩ ⟨⟩=kg P G h l.toArray l L 0 [] σ KS ⟨⟩ ⟨⟩ ⟨⟩ ⟨⟩ ⟨⟩:=(show Mt P G h l.toArray (Vf L) σ KS=mix P G h l.toArray L 0 [] σ KS from by
 unfold Mt Vf
 rw[show kQ (zbY 199 (unR (zbS L)))=none from rfl,ke]
 simp only[zbH])
theorem zmB {KS:St->Prop} {all:List Oper} {q:Nat} {H:List U1}:kg P G h ops all [] q H σ KS ⟨⟩ ⟨⟩ ⟨⟩ ⟨⟩ ⟨⟩=KS σ:=(rfl)
theorem zmU {KS:St->Prop} {all:List Oper} {i q:Nat} {fl:MFl} {L:List (Nat×MFl)} {H:List U1}:kg P G h all.toArray all ((i,fl) :: L) q H σ KS ⟨⟩ ⟨⟩ ⟨⟩ ⟨⟩ ⟨⟩=Mg P G h all.toArray all L q H fl i all σ KS ⟨⟩ ⟨⟩ ⟨⟩ ⟨⟩ ⟨⟩ ⟨⟩:=(show mix P G h all.toArray ((i,fl) :: L) q H σ KS=zl6 P G h all.toArray L q H fl (all[i]?) σ KS from rfl)
theorem zoz {KS:St->Prop} {o:Oper} {all l:List Oper} {i q:Nat} {fl:MFl} {L:List (Nat×MFl)} {H:List U1}:Mg P G h ops all L q H fl (i+1) (o :: l) σ KS ⟨⟩ ⟨⟩ ⟨⟩ ⟨⟩ ⟨⟩ ⟨⟩=Mg P G h ops all L q H fl i l σ KS ⟨⟩ ⟨⟩ ⟨⟩ ⟨⟩ ⟨⟩ ⟨⟩:=(show zl6 P G h ops L q H fl ((o :: l)[i+1]?) σ KS=zl6 P G h ops L q H fl (l[i]?) σ KS from rfl)
theorem zm1 {KS:St->Prop} {all rest:List Oper} {q:Nat} {L:List (Nat×MFl)} {H:List U1} {dst:Option Tmp} {op:Op} {ty:TypeId} {pos:String} {af:Array Edge} {g:Option (Nat×Bool)}:Mg P G h ops all L q H .pure 0 (⟨dst,op,ty,pos,af,g⟩ :: rest) ⟨tm,bx,nx,lg⟩ KS ⟨⟩ ⟨⟩ ⟨⟩ ⟨⟩ ⟨⟩ ⟨⟩ =
  Y7 ops tm g (jq P G bx (zB G tm) op nx (fun c nx'=>kg P G h ops all L (q+1) ((q,fun b=>jq P G b (zB G tm) op nx (fun c' n'=>c'=c/\n'=nx') ⟨⟩ ⟨⟩ ⟨⟩) :: H) ⟨Jo tm dst c,bx,nx',lg⟩ KS ⟨⟩ ⟨⟩ ⟨⟩ ⟨⟩ ⟨⟩) ⟨⟩ ⟨⟩ ⟨⟩) (kg P G h ops all L (q+1) H ⟨Jo tm dst (.sc undef),bx,nx,lg⟩ KS ⟨⟩ ⟨⟩ ⟨⟩ ⟨⟩ ⟨⟩) ⟨⟩ ⟨⟩ ⟨⟩:=
 (show zl6 P G h ops L q H .pure (some ⟨dst,op,ty,pos,af,g⟩) ⟨tm,bx,nx,lg⟩ KS=_ from rfl)
theorem znV {KS:St->Prop} {all rest:List Oper} {q:Nat} {L:List (Nat×MFl)} {H:List U1} {dst:Option Tmp} {op:Op} {ty:TypeId} {pos:String} {af:Array Edge} {g:Option (Nat×Bool)}:Mg P G h ops all L q H .bar 0 (⟨dst,op,ty,pos,af,g⟩ :: rest) ⟨tm,bx,nx,lg⟩ KS ⟨⟩ ⟨⟩ ⟨⟩ ⟨⟩ ⟨⟩ ⟨⟩ =
  Y7 ops tm g (jv P G h op ⟨tm,bx,nx,lg⟩ (fun c σ'=>kg P G h ops all L (q+1) [] (σ'.put dst c) KS ⟨⟩ ⟨⟩ ⟨⟩ ⟨⟩ ⟨⟩) ⟨⟩ ⟨⟩ ⟨⟩) (kg P G h ops all L (q+1) [] ((St.mk tm bx nx lg).put dst (.sc undef)) KS ⟨⟩ ⟨⟩ ⟨⟩ ⟨⟩ ⟨⟩) ⟨⟩ ⟨⟩ ⟨⟩:=
 (show zl6 P G h ops L q H .bar (some ⟨dst,op,ty,pos,af,g⟩) ⟨tm,bx,nx,lg⟩ KS=_ from rfl)
theorem zkU {KS:St->Prop} {all rest:List Oper} {q:Nat} {L:List (Nat×MFl)} {H:List U1} {fr:List Nat} {dst:Option Tmp} {ty:TypeId} {pos:String} {af:Array Edge}:Mg P G h ops all L q H (.flt fr) 0 (⟨dst,.store t x y,ty,pos,af,none⟩ :: rest) ⟨tm,bx,nx,lg⟩ KS ⟨⟩ ⟨⟩ ⟨⟩ ⟨⟩ ⟨⟩ ⟨⟩ =
  jv P G h (.store t x y) ⟨tm,bx,nx,lg⟩ (fun c σ'=>zmb fr σ'.bx H ⟨⟩/\kg P G h ops all L (q+1) H ⟨Jo tm dst c,σ'.bx,σ'.nx,lg⟩ KS ⟨⟩ ⟨⟩ ⟨⟩ ⟨⟩ ⟨⟩) ⟨⟩ ⟨⟩ ⟨⟩:=
 (show ((none:Option (Nat×Bool))=none/\QQ P t (zB G tm x) (zB G tm y) ⟨tm,bx,nx,lg⟩ fun c σ'=>YV fr σ'.bx H/\mix P G h ops L (q+1) H ⟨Jo tm dst c,σ'.bx,σ'.nx,lg⟩ KS)=_ from propext ⟨fun h=>h.2,fun h=>⟨rfl,h⟩⟩)
theorem zjy {KS:St->Prop} {all rest:List Oper} {q:Nat} {L:List (Nat×MFl)} {H:List U1} {fr:List Nat} {dst:Option Tmp} {ty:TypeId} {pos:String} {af:Array Edge}:Mg P G h ops all L q H (.flt fr) 0 (⟨dst,.call ⟨.builtin .copy,#[x,y],#[t,t']⟩,ty,pos,af,none⟩ :: rest) ⟨tm,bx,nx,lg⟩ KS ⟨⟩ ⟨⟩ ⟨⟩ ⟨⟩ ⟨⟩ ⟨⟩ =
  Ne P t (zB G tm x) (zB G tm y) ⟨tm,bx,nx,lg⟩ (fun c σ'=>zmb fr σ'.bx H ⟨⟩/\kg P G h ops all L (q+1) H ⟨Jo tm dst c,σ'.bx,σ'.nx,lg⟩ KS ⟨⟩ ⟨⟩ ⟨⟩ ⟨⟩ ⟨⟩) ⟨⟩:=
 (show ((none:Option (Nat×Bool))=none/\Qu P t (zB G tm x) (zB G tm y) ⟨tm,bx,nx,lg⟩ fun c σ'=>YV fr σ'.bx H/\mix P G h ops L (q+1) H ⟨Jo tm dst c,σ'.bx,σ'.nx,lg⟩ KS)=_ from propext ⟨fun h=>h.2,fun h=>⟨rfl,h⟩⟩)
theorem zoq {KS:St->Prop} {all rest:List Oper} {q:Nat} {L:List (Nat×MFl)} {H:List U1} {fr:List Nat} {dst:Option Tmp} {ty:TypeId} {pos:String} {af:Array Edge} {us:List Operand} {tys:Array TypeId}:Mg P G h ops all L q H (.flt fr) 0 (⟨dst,.call ⟨.value x,us.toArray,tys⟩,ty,pos,af,none⟩ :: rest) ⟨tm,bx,nx,lg⟩ KS ⟨⟩ ⟨⟩ ⟨⟩ ⟨⟩ ⟨⟩ ⟨⟩ =
  zeX P G (zB G tm x) (us.map (zB G tm)) ⟨tm,bx,nx,lg⟩ (fun c b' n'=>zmb fr b' H ⟨⟩/\kg P G h ops all L (q+1) H ⟨Jo tm dst c,b',n',lg⟩ KS ⟨⟩ ⟨⟩ ⟨⟩ ⟨⟩ ⟨⟩) ⟨⟩:=
 (show ((none:Option (Nat×Bool))=none/\vl P G (zB G tm x) (us.map (zB G tm)) ⟨tm,bx,nx,lg⟩ fun c b' n'=>YV fr b' H/\mix P G h ops L (q+1) H ⟨Jo tm dst c,b',n',lg⟩ KS)=_ from propext ⟨fun h=>h.2,fun h=>⟨rfl,h⟩⟩)
theorem zkB {K4:C->List (List C)->Nat->Prop} {f:FuncId} {fs cs args:List C}:zeX P G (.clo (.func f) fs cs) args ⟨tm,bx,nx,lg⟩ K4 ⟨⟩=zp8 P G f (fs++args++cs) ⟨tm,bx,nx,lg⟩ K4 ⟨⟩:=(rfl)
theorem zlt {p:Prop} [Decidable p]:(if p then True else True)=True:=ite_self _
theorem zmu {fr:List Nat} {b:List (List C)}:zmb fr b [] ⟨⟩=True:=(rfl)
theorem zoa {fr:List Nat} {b:List (List C)} {k:Nat} {f:List (List C)->Prop} {r:List U1}:zmb fr b ((k,f) :: r) ⟨⟩=((if k∈fr then f b else True)/\zmb fr b r ⟨⟩):=(show ((match fr.contains k with | true=>f b | false=>True)/\YV fr b r)=((if k∈fr then f b else True)/\YV fr b r) from by
 cases hq:fr.contains k with
 | true=>rw[if_pos (by simpa using hq)]
 | false=>rw[if_neg fun h=>by simp[h]at hq])
theorem zih {KS:St->Prop} {l:List Oper} {a s:Nat}:N8 P G h l.toArray (kj a s) σ KS ⟨⟩ ⟨⟩ ⟨⟩=Y8 P G l.toArray a s l 0 none σ KS ⟨⟩ ⟨⟩ ⟨⟩:=(show Mt P G h l.toArray (kj a s) σ KS=jr P G l.toArray a s l 0 none σ KS from by unfold Mt;rw[Ml])
theorem zec {KS:St->Prop} {a s i:Nat} {cs:Option (List C)} {l:List Oper}:Y8 P G l.toArray a s [] i cs σ KS ⟨⟩ ⟨⟩ ⟨⟩=zjg cs ((l[a]?).bind (·.dst)) σ KS ⟨⟩:=(show jr P G l.toArray a s [] i cs σ KS=zln cs ((l[a]?).bind (·.dst)) σ KS from by simp only[jr,zln,List.getElem?_toArray];rfl)
theorem ze1 {KS:St->Prop} {a s:Nat} {cs:Option (List C)} {dst:Option Tmp} {ty:TypeId} {pos:String} {af:Array Edge} {g:Option (Nat×Bool)} {rest:List Oper}:Y8 P G ops a s (⟨dst,.alloc t,ty,pos,af,g⟩ :: rest) a cs ⟨tm,bx,nx,lg⟩ KS ⟨⟩ ⟨⟩ ⟨⟩=zi9 (lay P t) (Y8 P G ops a s rest (a+1) cs ⟨Jo tm dst .any,bx,nx,lg⟩ KS ⟨⟩ ⟨⟩ ⟨⟩) ⟨⟩:=(show jr P G ops a s (⟨dst,.alloc t,ty,pos,af,g⟩ :: rest) a cs ⟨tm,bx,nx,lg⟩ KS=zio (lay P t) (jr P G ops a s rest (a+1) cs ⟨Jo tm dst .any,bx,nx,lg⟩ KS) from by simp only[jr,if_true])
theorem zfH {KS:St->Prop} {a s:Nat} {cs:Option (List C)} {dst:Option Tmp} {ty:TypeId} {pos:String} {af:Array Edge} {g:Option (Nat×Bool)} {rest:List Oper} (hsa:(s==a)=false):Y8 P G ops a s (⟨dst,.store t y x,ty,pos,af,g⟩ :: rest) s cs ⟨tm,bx,nx,lg⟩ KS ⟨⟩ ⟨⟩ ⟨⟩=zjo (lay P t) (zB G tm x) (fun c=>Y8 P G ops a s rest (s+1) (some c.cells) ⟨Jo tm dst .any,bx,nx,lg⟩ KS ⟨⟩ ⟨⟩ ⟨⟩) ⟨⟩:=(show jr P G ops a s (⟨dst,.store t y x,ty,pos,af,g⟩ :: rest) s cs ⟨tm,bx,nx,lg⟩ KS=zg9 (lay P t) (zB G tm x) fun c=>jr P G ops a s rest (s+1) (some c.cells) ⟨Jo tm dst .any,bx,nx,lg⟩ KS from by simp only[beq_eq_false_iff_ne]at hsa;simp only[jr,if_neg hsa,if_true])
theorem zgI {KS:St->Prop} {a s i:Nat} {cs:Option (List C)} {dst:Option Tmp} {ty:TypeId} {pos:String} {af:Array Edge} {g:Option (Nat×Bool)} {rest:List Oper} {op:Op} (hia:(i==a)=false) (his:(i==s)=false):Y8 P G ops a s (⟨dst,op,ty,pos,af,g⟩ :: rest) i cs ⟨tm,bx,nx,lg⟩ KS ⟨⟩ ⟨⟩ ⟨⟩=Y7 ops tm g (jq P G bx (zB G tm) op nx (fun c nx'=>Y8 P G ops a s rest (i+1) cs ⟨Jo tm dst c,bx,nx',lg⟩ KS ⟨⟩ ⟨⟩ ⟨⟩) ⟨⟩ ⟨⟩ ⟨⟩) (Y8 P G ops a s rest (i+1) cs ⟨Jo tm dst (.sc undef),bx,nx,lg⟩ KS ⟨⟩ ⟨⟩ ⟨⟩) ⟨⟩ ⟨⟩ ⟨⟩:=(show jr P G ops a s (⟨dst,op,ty,pos,af,g⟩ :: rest) i cs ⟨tm,bx,nx,lg⟩ KS=jm ops tm g (Jn P G bx (zB G tm) op nx fun c nx'=>jr P G ops a s rest (i+1) cs ⟨Jo tm dst c,bx,nx',lg⟩ KS) (jr P G ops a s rest (i+1) cs ⟨Jo tm dst (.sc undef),bx,nx,lg⟩ KS) from by simp only[beq_eq_false_iff_ne]at hia his;simp only[jr,if_neg hia,if_neg his])
theorem znw {KS:St->Prop} {cs:List C} {u:Tmp}:zjg (some cs) (some u) ⟨tm,bx,nx,lg⟩ KS ⟨⟩=KS ⟨(u,.ptr bx.length 0) :: tm,bx++[cs],nx,lg⟩:=(rfl)
theorem zoj {kd:LK} {k b1:Nat} {z1:List Value}:zi9 (some ⟨kd,k,b1,some z1⟩) X ⟨⟩=(z1.length=k/\(z1.all Value.oneCell')=true/\X):=(rfl)
theorem zod {L:Lay}:zjo (some L) c K ⟨⟩=(c.partB=true/\(c.cells.all C.cellB)=true/\c.cells.length=L.size/\K c):=(rfl)
theorem znn {KS:St->Prop}:zi3 KS ⟨⟩ .normal σ=KS σ:=(rfl)
theorem zc9 {next:St} {b:Bool}:yD m tm b next Q ⟨⟩ ⟨⟩ .normal σ=(b=false/\JS m ⟨[],σ.bx,σ.nx,σ.lg⟩ (next.wt [])):=(rfl)
theorem x0 {next:St} {b:Bool}:yD m tm b next Q ⟨⟩ ⟨⟩ .ret σ=(b=true/\∃ σ':St,σ'.bx.length=m/\JS m ⟨[],σ.bx,σ.nx,σ.lg⟩ (σ'.wt [])/\Q .ret (σ'.wt tm)):=(rfl)
theorem zqB {tm2:List (Nat×C)}:St.wt ⟨tm,bx,nx,lg⟩ tm2=⟨tm2,bx,nx,lg⟩:=(rfl)
theorem ziS {cs:List C}:ZM [] cs tm=tm:=(rfl)
theorem zkX {u:Nat} {ps:List Tmp} {cs:List C}:ZM (u :: ps) (c :: cs) tm=ZM ps cs ((u,c) :: tm):=(rfl)
theorem zlz:U0 m [] = []:=(rfl)
theorem zm8 {u:Nat} {r:List (Nat×C)}:U0 m ((u,c) :: r)=(u,c.sel (kJ m)) :: U0 m r:=(rfl)
theorem zm7 {next:St->Prop}:vd next Q ⟨⟩ ⟨⟩ .normal σ=next σ:=(rfl)
theorem M6 {next:St->Prop} {id:Nat}:vd next Q ⟨⟩ ⟨⟩ (.exit id) σ=Q (.exit id) σ:=(rfl)
theorem zad {next:St->Prop}:vd next Q ⟨⟩ ⟨⟩ .ret σ=Q .ret σ:=(rfl)
theorem zdr {id:Nat}:UK id Q ⟨⟩ .normal σ=Q .normal σ:=(rfl)
theorem Nb {id:Nat}:UK id Q ⟨⟩ (.exit id) σ=Q .normal σ:=(show G7 id Q (.exit id) σ=Q .normal σ from if_pos rfl)
theorem NL {id id2:Nat} (h:(id2==id)=false):UK id Q ⟨⟩ (.exit id2) σ=Q (.exit id2) σ:=(show G7 id Q (.exit id2) σ=Q (.exit id2) σ from if_neg (by simpa using h))
theorem yB {id:Nat}:UK id Q ⟨⟩ .ret σ=Q .ret σ:=(rfl)
theorem zbD:Gl Q ⟨⟩ .normal σ=Q .normal σ:=(rfl)
theorem Nn:Gl Q ⟨⟩ .ret σ=Q .ret σ:=(rfl)
theorem ziA {next:St->Prop}:vz next Q ⟨⟩ ⟨⟩ .normal σ=next σ:=(rfl)
theorem xL {next:St->Prop} {id:Nat}:vz next Q ⟨⟩ ⟨⟩ (.exit id) σ=Q (.exit id) σ:=(rfl)
theorem u7 {next:St->Prop}:vz next Q ⟨⟩ ⟨⟩ .ret σ=Q .ret σ:=(rfl)
theorem zke {rs:List ResultVar}:N4 P rs K3 ⟨⟩ .normal σ=zaG P σ rs (fun c=>K3 c σ) ⟨⟩:=(rfl)
theorem zj3 {rs:List ResultVar}:N4 P rs K3 ⟨⟩ .ret σ=zaG P σ rs (fun c=>K3 c σ) ⟨⟩:=(rfl)
theorem zn5:zaG P σ [] K ⟨⟩=K (.tup []):=(rfl)
theorem zmW {a:ResultVar}:zaG P σ [a] K ⟨⟩=Yu P σ a K ⟨⟩:=(rfl)
theorem znx {a b:ResultVar}:zaG P σ [a,b] K ⟨⟩=Yu P σ a (fun c=>Yu P σ b (fun d=>K (.tup [c,d])) ⟨⟩) ⟨⟩:=(rfl)
theorem zmN {a b c1:ResultVar}:zaG P σ [a,b,c1] K ⟨⟩=Yu P σ a (fun c=>Yu P σ b (fun d=>Yu P σ c1 (fun e=>K (.tup [c,d,e])) ⟨⟩) ⟨⟩) ⟨⟩:=(rfl)
theorem znk {u:Nat}:Yu P ⟨tm,bx,nx,lg⟩ (.tmp u) K ⟨⟩=K (jL tm u):=(rfl)
theorem znm {u:Nat}:Yu P ⟨tm,bx,nx,lg⟩ (.cell u t) K ⟨⟩=ua P t (jL tm u) bx K ⟨⟩:=(rfl)
theorem zj4 {KS:St->Prop}:zej P G h ops [] σ KS ⟨⟩ ⟨⟩ ⟨⟩ ⟨⟩=KS σ:=(rfl)
theorem zmi {KS:St->Prop} {dst:Option Tmp} {op:Op} {ty:TypeId} {pos:String} {af:Array Edge} {g:Option (Nat×Bool)} {rest:List Oper}:zej P G h ops (⟨dst,op,ty,pos,af,g⟩ :: rest) ⟨tm,bx,nx,lg⟩ KS ⟨⟩ ⟨⟩ ⟨⟩ ⟨⟩=Y7 ops tm g (jv P G h op ⟨tm,bx,nx,lg⟩ (fun c σ'=>zej P G h ops rest (σ'.put dst c) KS ⟨⟩ ⟨⟩ ⟨⟩ ⟨⟩) ⟨⟩ ⟨⟩ ⟨⟩) (zej P G h ops rest (St.put ⟨tm,bx,nx,lg⟩ dst (.sc undef)) KS ⟨⟩ ⟨⟩ ⟨⟩ ⟨⟩) ⟨⟩ ⟨⟩ ⟨⟩:=(rfl)
theorem zgK {KS:St->Prop}:Xj P G h ops [] brs σ KS ⟨⟩ ⟨⟩ ⟨⟩ ⟨⟩=KS σ:=(rfl)
theorem zhF {KS:St->Prop} {dst:Option Tmp} {op:Op} {ty:TypeId} {pos:String} {af:Array Edge} {g:Option (Nat×Bool)} {rest:List Oper}:Xj P G h ops (⟨dst,op,ty,pos,af,g⟩ :: rest) [] ⟨tm,bx,nx,lg⟩ KS ⟨⟩ ⟨⟩ ⟨⟩ ⟨⟩=Y7 ops tm g (jq P G bx (zB G tm) op nx (fun c nx'=>Xj P G h ops rest [] ⟨Jo tm dst c,bx,nx',lg⟩ KS ⟨⟩ ⟨⟩ ⟨⟩ ⟨⟩) ⟨⟩ ⟨⟩ ⟨⟩) (Xj P G h ops rest [] ⟨Jo tm dst (.sc undef),bx,nx,lg⟩ KS ⟨⟩ ⟨⟩ ⟨⟩ ⟨⟩) ⟨⟩ ⟨⟩ ⟨⟩:=(rfl)
theorem zhq {KS:St->Prop} {dst:Option Tmp} {op:Op} {ty:TypeId} {pos:String} {af:Array Edge} {g:Option (Nat×Bool)} {rest:List Oper}:Xj P G h ops (⟨dst,op,ty,pos,af,g⟩ :: rest) (false :: brs) ⟨tm,bx,nx,lg⟩ KS ⟨⟩ ⟨⟩ ⟨⟩ ⟨⟩=Y7 ops tm g (jq P G bx (zB G tm) op nx (fun c nx'=>Xj P G h ops rest brs ⟨Jo tm dst c,bx,nx',lg⟩ KS ⟨⟩ ⟨⟩ ⟨⟩ ⟨⟩) ⟨⟩ ⟨⟩ ⟨⟩) (Xj P G h ops rest brs ⟨Jo tm dst (.sc undef),bx,nx,lg⟩ KS ⟨⟩ ⟨⟩ ⟨⟩ ⟨⟩) ⟨⟩ ⟨⟩ ⟨⟩:=(rfl)
theorem zgF {KS:St->Prop} {dst:Option Tmp} {op:Op} {ty:TypeId} {pos:String} {af:Array Edge} {g:Option (Nat×Bool)} {rest:List Oper}:Xj P G h ops (⟨dst,op,ty,pos,af,g⟩ :: rest) (true :: brs) ⟨tm,bx,nx,lg⟩ KS ⟨⟩ ⟨⟩ ⟨⟩ ⟨⟩=Y7 ops tm g (jv P G h op ⟨tm,bx,nx,lg⟩ (fun c σ'=>Xj P G h ops rest brs (σ'.put dst c) KS ⟨⟩ ⟨⟩ ⟨⟩ ⟨⟩) ⟨⟩ ⟨⟩ ⟨⟩) (Xj P G h ops rest brs ⟨Jo tm dst (.sc undef),bx,nx,lg⟩ KS ⟨⟩ ⟨⟩ ⟨⟩ ⟨⟩) ⟨⟩ ⟨⟩ ⟨⟩:=(rfl)
theorem ziB:Y7 ops tm none X Y ⟨⟩ ⟨⟩ ⟨⟩=X:=(rfl)
theorem zlG {l:List Oper} {j:Nat} {want:Bool}:Y7 l.toArray tm (some (j,want)) X Y ⟨⟩ ⟨⟩ ⟨⟩=zpt ((l[j]?).bind (·.dst)) tm want X Y ⟨⟩ ⟨⟩:=(show jm l.toArray tm (some (j,want)) X Y=aGd ((l[j]?).bind (·.dst)) tm want X Y from by simp only[jm,List.getElem?_toArray];rfl)
theorem znt {u:Tmp}:zpt (some u) tm true X Y ⟨⟩ ⟨⟩=zhu (jL tm u) Y X Y ⟨⟩ ⟨⟩ ⟨⟩:=(rfl)
theorem zmM {u:Tmp}:zpt (some u) tm false X Y ⟨⟩ ⟨⟩=zhu (jL tm u) Y Y X ⟨⟩ ⟨⟩ ⟨⟩:=(rfl)
theorem zj8 {U:Prop} {b:Bool}:zhu (.sc (.bool b)) U X Y ⟨⟩ ⟨⟩ ⟨⟩=zj7 (.sc (.bool b)) X Y ⟨⟩ ⟨⟩:=(rfl)
theorem zjH {U:Prop}:zhu (.sc undef) U X Y ⟨⟩ ⟨⟩ ⟨⟩=U:=(rfl)
theorem zbh {u:Tmp}:St.put ⟨tm,bx,nx,lg⟩ (some u) c=⟨(u,c) :: tm,bx,nx,lg⟩:=(rfl)
theorem za6:St.put ⟨tm,bx,nx,lg⟩ none c=⟨tm,bx,nx,lg⟩:=(rfl)
theorem yT {u:Tmp}:Jo tm (some u) c=(u,c) :: tm:=(rfl)
theorem yM:Jo tm none c=tm:=(rfl)
theorem U5 {n:Nat} {ps:List (Nat×Operand)}:jv P G h (.buildSlice t n ps.toArray) ⟨tm,bx,nx,lg⟩ K3 ⟨⟩ ⟨⟩ ⟨⟩=if h.bx t then ky P t n (ps.map fun p=>(p.1,zB G tm p.2)) ⟨tm,bx,nx,lg⟩ K3 ⟨⟩ else XK P t n (ps.map fun p=>(p.1,zB G tm p.2)) nx (fun c nx'=>K3 c ⟨tm,bx,nx',lg⟩) ⟨⟩:=(rfl)
theorem kp {n:Nat} {ps:List (Nat×Operand)} {ev:Operand->C}:jq P G bx ev (.buildSlice t n ps.toArray) nx K2 ⟨⟩ ⟨⟩ ⟨⟩=Gz P t n (ps.map fun p=>(p.1,ev p.2)) nx K2 ⟨⟩:=(rfl)
theorem zpd:Gz P t 0 [] nx K2 ⟨⟩=znD P (lay P t) nx K2 ⟨⟩:=(rfl)
theorem zpF {n:Nat} {ps:List (Nat×C)}:Gz P t (n+1) ps nx K2 ⟨⟩=XK P t (n+1) ps nx K2 ⟨⟩:=(rfl)
theorem zph {e s b:Nat} {z1:Option (List Value)}:znD P (some ⟨.slice e,s,b,z1⟩) nx K2 ⟨⟩=znp (lay P e) nx K2 ⟨⟩:=(rfl)
theorem zpo {kd:LK} {k b:Nat} {z1:List Value}:znp (some ⟨kd,k,b,some z1⟩) nx K2 ⟨⟩=(z1.length=k/\0<k/\K2 (.tight k []) nx):=(rfl)
theorem HL:jv P G h (.makeSlice t x y) ⟨tm,bx,nx,lg⟩ K3 ⟨⟩ ⟨⟩ ⟨⟩=if h.bx t then Nh P t (zB G tm x) (zB G tm y) ⟨tm,bx,nx,lg⟩ K3 ⟨⟩ else zi7 P t (zB G tm x) (zB G tm y) nx (fun c nx'=>K3 c ⟨tm,bx,nx',lg⟩) ⟨⟩:=(rfl)
theorem zok:Hd.bx ⟨p,yd,bf⟩ t=(bf (1000000+t)).headD false:=(rfl)
theorem zlx:Hd.bx2 ⟨p,yd,bf⟩ t=((bf (1000000+t)).drop 1).headD false:=(rfl)
theorem zhg:jv P G h (.move x) ⟨tm,bx,nx,lg⟩ K3 ⟨⟩ ⟨⟩ ⟨⟩=K3 (zB G tm x) ⟨tm,bx,nx,lg⟩:=(rfl)
theorem ziN {ev:Operand->C}:jq P G bx ev (.move x) nx K2 ⟨⟩ ⟨⟩ ⟨⟩=K2 (ev x) nx:=(rfl)
theorem zaQ:jv P G h (.assign x) ⟨tm,bx,nx,lg⟩ K3 ⟨⟩ ⟨⟩ ⟨⟩=K3 (zB G tm x) ⟨tm,bx,nx,lg⟩:=(rfl)
theorem zao {ev:Operand->C}:jq P G bx ev (.assign x) nx K2 ⟨⟩ ⟨⟩ ⟨⟩=K2 (ev x) nx:=(rfl)
theorem zgV:jv P G h (.pick x y z) ⟨tm,bx,nx,lg⟩ K3 ⟨⟩ ⟨⟩ ⟨⟩=zj7 (zB G tm x) (K3 (zB G tm y) ⟨tm,bx,nx,lg⟩) (K3 (zB G tm z) ⟨tm,bx,nx,lg⟩) ⟨⟩ ⟨⟩:=(rfl)
theorem ziM {ev:Operand->C}:jq P G bx ev (.pick x y z) nx K2 ⟨⟩ ⟨⟩ ⟨⟩=zj7 (ev x) (K2 (ev y) nx) (K2 (ev z) nx) ⟨⟩ ⟨⟩:=(rfl)
theorem zdf {ps:List (Nat×Operand)}:jv P G h (.build t ps.toArray) ⟨tm,bx,nx,lg⟩ K3 ⟨⟩ ⟨⟩ ⟨⟩=ya P t (ps.map fun p=>(p.1,zB G tm p.2)) (fun c=>K3 c ⟨tm,bx,nx,lg⟩) ⟨⟩:=(rfl)
theorem zcW {ps:List (Nat×Operand)} {ev:Operand->C}:jq P G bx ev (.build t ps.toArray) nx K2 ⟨⟩ ⟨⟩ ⟨⟩=ya P t (ps.map fun p=>(p.1,ev p.2)) (fun c=>K2 c nx) ⟨⟩:=(rfl)
theorem ziX:jv P G h (.load t x) ⟨tm,bx,nx,lg⟩ K3 ⟨⟩ ⟨⟩ ⟨⟩=ua P t (zB G tm x) bx (fun c=>K3 c ⟨tm,bx,nx,lg⟩) ⟨⟩:=(rfl)
theorem ziy {ev:Operand->C}:jq P G bx ev (.load t x) nx K2 ⟨⟩ ⟨⟩ ⟨⟩=ua P t (ev x) bx (fun c=>K2 c nx) ⟨⟩:=(rfl)
theorem Mp:jv P G h (.nilCheck x) ⟨tm,bx,nx,lg⟩ K3 ⟨⟩ ⟨⟩ ⟨⟩=zlI (zB G tm x) (fun c=>K3 c ⟨tm,bx,nx,lg⟩) ⟨⟩:=(rfl)
theorem MO {ev:Operand->C}:jq P G bx ev (.nilCheck x) nx K2 ⟨⟩ ⟨⟩ ⟨⟩=zlI (ev x) (fun c=>K2 c nx) ⟨⟩:=(rfl)
theorem zfM {op:BinOp}:jv P G h (.binOp op t x y t') ⟨tm,bx,nx,lg⟩ K3 ⟨⟩ ⟨⟩ ⟨⟩=yH P t op (zB G tm x) (zB G tm y) (fun c=>K3 c ⟨tm,bx,nx,lg⟩) ⟨⟩:=(rfl)
theorem zfn {op:BinOp} {ev:Operand->C}:jq P G bx ev (.binOp op t x y t') nx K2 ⟨⟩ ⟨⟩ ⟨⟩=yH P t op (ev x) (ev y) (fun c=>K2 c nx) ⟨⟩:=(rfl)
theorem zgC {op:UnOp}:jv P G h (.unOp op t x) ⟨tm,bx,nx,lg⟩ K3 ⟨⟩ ⟨⟩ ⟨⟩=zpm op (zB G tm x) (fun c=>K3 c ⟨tm,bx,nx,lg⟩) ⟨⟩:=(rfl)
theorem zhO {op:UnOp} {ev:Operand->C}:jq P G bx ev (.unOp op t x) nx K2 ⟨⟩ ⟨⟩ ⟨⟩=zpm op (ev x) (fun c=>K2 c nx) ⟨⟩:=(rfl)
theorem yg:jv P G h (.convert t t' x) ⟨tm,bx,nx,lg⟩ K3 ⟨⟩ ⟨⟩ ⟨⟩=zfy P bx t t' (zB G tm x) (fun c=>K3 c ⟨tm,bx,nx,lg⟩) ⟨⟩:=(rfl)
theorem Mc {fn:Fn} {fs cs:List Operand}:jv P G h (.makeFunc fn fs.toArray cs.toArray) ⟨tm,bx,nx,lg⟩ K3 ⟨⟩ ⟨⟩ ⟨⟩=K3 (.clo fn (fs.map (zB G tm)) (cs.map (zB G tm))) ⟨tm,bx,nx,lg⟩:=(rfl)
theorem ze7 {lo hi mx:Option Operand}:jv P G h (.slice t x lo hi mx) ⟨tm,bx,nx,lg⟩ K3 ⟨⟩ ⟨⟩ ⟨⟩=M1 P t (zB G tm x) (lo.map (zB G tm)) (hi.map (zB G tm)) (mx.map (zB G tm)) (fun c=>K3 c ⟨tm,bx,nx,lg⟩) ⟨⟩:=(rfl)
theorem zcj {lo hi mx:Option Operand} {ev:Operand->C}:jq P G bx ev (.slice t x lo hi mx) nx K2 ⟨⟩ ⟨⟩ ⟨⟩=M1 P t (ev x) (lo.map ev) (hi.map ev) (mx.map ev) (fun c=>K2 c nx) ⟨⟩:=(rfl)
theorem GL {f:Nat}:jv P G h (.fieldAddr t x f) ⟨tm,bx,nx,lg⟩ K3 ⟨⟩ ⟨⟩ ⟨⟩=Qt P t (zB G tm x) f (fun c=>K3 c ⟨tm,bx,nx,lg⟩) ⟨⟩:=(rfl)
theorem H6 {f:Nat} {ev:Operand->C}:jq P G bx ev (.fieldAddr t x f) nx K2 ⟨⟩ ⟨⟩ ⟨⟩=Qt P t (ev x) f (fun c=>K2 c nx) ⟨⟩:=(rfl)
theorem zcw {f:Nat}:jv P G h (.field t x f) ⟨tm,bx,nx,lg⟩ K3 ⟨⟩ ⟨⟩ ⟨⟩=y0 P t (zB G tm x) f (fun c=>K3 c ⟨tm,bx,nx,lg⟩) ⟨⟩:=(rfl)
theorem zcb {f:Nat} {ev:Operand->C}:jq P G bx ev (.field t x f) nx K2 ⟨⟩ ⟨⟩ ⟨⟩=y0 P t (ev x) f (fun c=>K2 c nx) ⟨⟩:=(rfl)
theorem Gi:jv P G h (.indexAddr t x y) ⟨tm,bx,nx,lg⟩ K3 ⟨⟩ ⟨⟩ ⟨⟩=Qg P t (zB G tm x) (zB G tm y) (fun c=>K3 c ⟨tm,bx,nx,lg⟩) ⟨⟩:=(rfl)
theorem Hr {ev:Operand->C}:jq P G bx ev (.indexAddr t x y) nx K2 ⟨⟩ ⟨⟩ ⟨⟩=Qg P t (ev x) (ev y) (fun c=>K2 c nx) ⟨⟩:=(rfl)
theorem zc7:jv P G h (.index t x y) ⟨tm,bx,nx,lg⟩ K3 ⟨⟩ ⟨⟩ ⟨⟩=yy P t (zB G tm x) (zB G tm y) (fun c=>K3 c ⟨tm,bx,nx,lg⟩) ⟨⟩:=(rfl)
theorem zeq {ev:Operand->C}:jq P G bx ev (.index t x y) nx K2 ⟨⟩ ⟨⟩ ⟨⟩=yy P t (ev x) (ev y) (fun c=>K2 c nx) ⟨⟩:=(rfl)
theorem M3 {i:Nat}:jv P G h (.extract x i) ⟨tm,bx,nx,lg⟩ K3 ⟨⟩ ⟨⟩ ⟨⟩=Uk (zB G tm x) i (fun c=>K3 c ⟨tm,bx,nx,lg⟩) ⟨⟩:=(rfl)
theorem xl {i:Nat} {ev:Operand->C}:jq P G bx ev (.extract x i) nx K2 ⟨⟩ ⟨⟩ ⟨⟩=Uk (ev x) i (fun c=>K2 c nx) ⟨⟩:=(rfl)
theorem zea {us:List Operand} {ts:List TypeId}:jv P G h (.call ⟨.value x,us.toArray,ts.toArray⟩) ⟨tm,bx,nx,lg⟩ K3 ⟨⟩ ⟨⟩ ⟨⟩=xe P G h (zB G tm x) (us.map (zB G tm)) ⟨tm,bx,nx,lg⟩ K3 ⟨⟩ ⟨⟩:=(rfl)
theorem zcm {us:List Operand} {ts:List TypeId} {ev:Operand->C}:jq P G bx ev (.call ⟨.value x,us.toArray,ts.toArray⟩) nx K2 ⟨⟩ ⟨⟩ ⟨⟩=zcp P G (ev x) (us.map ev) nx K2 ⟨⟩:=(rfl)
theorem zkm:jv P G h (.call ⟨.builtin .len,#[x],#[t]⟩) ⟨tm,bx,nx,lg⟩ K3 ⟨⟩ ⟨⟩ ⟨⟩=ym P t (zB G tm x) (fun c=>K3 c ⟨tm,bx,nx,lg⟩) ⟨⟩:=(rfl)
theorem zjC {ev:Operand->C}:jq P G bx ev (.call ⟨.builtin .len,#[x],#[t]⟩) nx K2 ⟨⟩ ⟨⟩ ⟨⟩=ym P t (ev x) (fun c=>K2 c nx) ⟨⟩:=(rfl)
theorem xU {r:Option Operand}:jv P G h (.makeMap t r) ⟨tm,bx,nx,lg⟩ K3 ⟨⟩ ⟨⟩ ⟨⟩=zmX (zfX P t) t (r.map (zB G tm)) nx (fun c nx'=>K3 c ⟨tm,bx,nx',lg⟩) ⟨⟩:=(rfl)
theorem zoy {kd:MKd} {z:C}:zmX (some (kd,z)) t none nx K2 ⟨⟩=K2 (.mo nx t kd.nil []) (nx+1):=(rfl)
theorem zkf {k:IntKind}:MKd.nil (.int k) = .int k []:=(rfl)
theorem zaE {ok:Bool} {ev:Operand->C}:jq P G bx ev (.lookup t x y ok) nx K2 ⟨⟩ ⟨⟩ ⟨⟩=zne (zfX P t) t (ev x) (ev y) ok (fun c=>K2 c nx) ⟨⟩:=(rfl)
theorem znY {k k2 q:IntKind} {z:C} {id:Nat} {t2:TypeId} {l:List Int} {vs:List C} {n:Int} {ok:Bool}:zne (some (.int k,z)) t (.mo id t2 (.int k2 l) vs) (.sc (.int q n)) ok K ⟨⟩=(t2=t/\k2=k/\q=k/\zdz (vV n l vs) z ok K ⟨⟩):=(rfl)
theorem zhW {z:C}:zdz (some c) z false K ⟨⟩=K c:=(rfl)
theorem uO {w:Operand}:jv P G h (.insert t x y w) ⟨tm,bx,nx,lg⟩ K3 ⟨⟩ ⟨⟩ ⟨⟩=zmK (zfX P t) t (zB G tm x) (zB G tm y) (zB G tm w) ⟨tm,bx,nx,lg⟩ K3 ⟨⟩:=(rfl)
theorem zm3 {k k2 q:IntKind} {z:C} {id:Nat} {t2:TypeId} {l:List Int} {vs:List C} {n:Int}:zmK (some (.int k,z)) t (.mo id t2 (.int k2 l) vs) (.sc (.int q n)) d ⟨tm,bx,nx,lg⟩ K3 ⟨⟩=(t2=t/\k2=k/\q=k/\K3 .any ⟨zfU id (.int k (kf n d.frz l vs).1) (kf n d.frz l vs).2 tm,zcq id (.int k (kf n d.frz l vs).1) (kf n d.frz l vs).2 bx,nx,lg⟩):=(rfl)
theorem uI:jv P G h (.call ⟨.builtin .append,#[x,y],#[t,t]⟩) ⟨tm,bx,nx,lg⟩ K3 ⟨⟩ ⟨⟩ ⟨⟩=if h.bx t then if h.bx2 t then xX P t (zB G tm x) (zB G tm y) ⟨tm,bx,nx,lg⟩ K3 ⟨⟩ else vY P h.p t (zB G tm x) (zB G tm y) ⟨tm,bx,nx,lg⟩ K3 ⟨⟩ else Gn P t (zB G tm x) (zB G tm y) ⟨tm,bx,nx,lg⟩ K3 ⟨⟩:=(show GW P G h (.call ⟨.builtin .append,#[x,y],#[t,t]⟩) ⟨tm,bx,nx,lg⟩ K3=if h.bx t then if h.bx2 t then Yv P t (zB G tm x) (zB G tm y) ⟨tm,bx,nx,lg⟩ K3 else VS P h.p t (zB G tm x) (zB G tm y) ⟨tm,bx,nx,lg⟩ K3 else HY P t (zB G tm x) (zB G tm y) ⟨tm,bx,nx,lg⟩ K3 from by simp[GW,xj])
theorem zgS (h0:(t'==t)=false):jv P G h (.call ⟨.builtin .append,#[x,y],#[t,t']⟩) ⟨tm,bx,nx,lg⟩ K3 ⟨⟩ ⟨⟩ ⟨⟩=vD P t t' (zB G tm x) (zB G tm y) ⟨tm,bx,nx,lg⟩ K3 ⟨⟩:=(show GW P G h (.call ⟨.builtin .append,#[x,y],#[t,t']⟩) ⟨tm,bx,nx,lg⟩ K3=HZ P t t' (zB G tm x) (zB G tm y) ⟨tm,bx,nx,lg⟩ K3 from by simp only[beq_eq_false_iff_ne]at h0;simp[GW,xj,h0])
theorem ziH:jv P G h (.call ⟨.builtin .copy,#[x,y],#[t,t']⟩) ⟨tm,bx,nx,lg⟩ K3 ⟨⟩ ⟨⟩ ⟨⟩=Ne P t (zB G tm x) (zB G tm y) ⟨tm,bx,nx,lg⟩ K3 ⟨⟩:=(show GW P G h (.call ⟨.builtin .copy,#[x,y],#[t,t']⟩) ⟨tm,bx,nx,lg⟩ K3=Qu P t (zB G tm x) (zB G tm y) ⟨tm,bx,nx,lg⟩ K3 from by simp[GW,xj])
theorem zcL:jv P G h (.call ⟨.builtin .clear,#[x],#[t]⟩) ⟨tm,bx,nx,lg⟩ K3 ⟨⟩ ⟨⟩ ⟨⟩=xG P t (zB G tm x) ⟨tm,bx,nx,lg⟩ K3 ⟨⟩:=(show GW P G h (.call ⟨.builtin .clear,#[x],#[t]⟩) ⟨tm,bx,nx,lg⟩ K3=VZ P t (zB G tm x) ⟨tm,bx,nx,lg⟩ K3 from by simp[GW,xj])
theorem zjP:jv P G h (.call ⟨.builtin .max,#[x,y],#[t,t']⟩) ⟨tm,bx,nx,lg⟩ K3 ⟨⟩ ⟨⟩ ⟨⟩=znZ (zB G tm x) (zB G tm y) (fun c=>K3 c ⟨tm,bx,nx,lg⟩) ⟨⟩:=(rfl)
theorem zpW {k k':IntKind} {n m:Int}:znZ (.sc (.int k n)) (.sc (.int k' m)) K ⟨⟩=K (.sc (.int k (if m>n then m else n))):=(rfl)
theorem zl5:jv P G h (.call ⟨.builtin .cap,#[x],#[t]⟩) ⟨tm,bx,nx,lg⟩ K3 ⟨⟩ ⟨⟩ ⟨⟩=zom P t (zB G tm x) (fun c=>K3 c ⟨tm,bx,nx,lg⟩) ⟨⟩:=(show GW P G h (.call ⟨.builtin .cap,#[x],#[t]⟩) ⟨tm,bx,nx,lg⟩ K3=znW P t (zB G tm x) fun c=>K3 c ⟨tm,bx,nx,lg⟩ from by simp[GW,xj])
theorem zo0:zom P t c K ⟨⟩=zfh (lay P t) c K ⟨⟩:=(rfl)
theorem ziF {i off k n cap:Nat} {e s1 b1:Nat} {z1:Option (List Value)}:zfh (some ⟨.slice e,s1,b1,z1⟩) (.bs i off k n cap) K ⟨⟩=K (.sc (.int .i64 (cap:Int))):=(rfl)
theorem zcv {e s1 b1:Nat} {z1:Option (List Value)}:zfh (some ⟨.slice e,s1,b1,z1⟩) (.sc (.slice none 0 0)) K ⟨⟩=K (.sc (.int .i64 0)):=(rfl)
theorem zbr {ev:Operand->C}:jq P G bx ev (.call ⟨.builtin .append,#[x,y],#[t,t]⟩) nx K2 ⟨⟩ ⟨⟩ ⟨⟩=Gj P t (ev x) (ev y) nx K2 ⟨⟩:=(show Jn P G bx ev (.call ⟨.builtin .append,#[x,y],#[t,t]⟩) nx K2=ZK P t (ev x) (ev y) nx K2 from by simp[Jn,N0,Ui])
theorem zd8:jv P G h (.alloc t) ⟨tm,bx,nx,lg⟩ K3 ⟨⟩ ⟨⟩ ⟨⟩=zmz (lay P t) ⟨tm,bx,nx,lg⟩ K3 ⟨⟩:=(rfl)
theorem zlD:jv P G h (.box t x) ⟨tm,bx,nx,lg⟩ K3 ⟨⟩ ⟨⟩ ⟨⟩=znB (zB G tm x) ⟨tm,bx,nx,lg⟩ K3 ⟨⟩:=(rfl)
theorem zdv:jv P G h (.store t x y) ⟨tm,bx,nx,lg⟩ K3 ⟨⟩ ⟨⟩ ⟨⟩=znz (lay P t) (zB G tm x) (zB G tm y) ⟨tm,bx,nx,lg⟩ K3 ⟨⟩:=(rfl)
theorem zhX {u:Tmp}:zB G tm (.tmp u)=jL tm u:=(rfl)
theorem zas {v:Value}:zB G tm (.const v)=zC v:=(rfl)
theorem zb7 {f:FuncId}:zB G tm (.func f) = .clo (.func f) [] []:=(rfl)
theorem xT {g:Nat}:zB G tm (.global g)=zp6 (G g):=(rfl)
theorem yJ {cs:List C}:zp6 (some cs) = .row cs:=(rfl)
theorem zmS {u v:Nat} {r:List (Nat×C)}:jL ((u,c) :: r) v=if v=u then c else jL r v:=(rfl)
theorem xK {k:IntKind} {n:Int}:zC (.int k n) = .sc (.int k n):=(rfl)
theorem MP {b:Bool}:zC (.bool b) = .sc (.bool b):=(rfl)
theorem xq {l:List UInt8}:zC (.string ⟨l.toArray⟩) = .str l:=(rfl)
theorem Hz {a:Option Addr} {n m:Nat}:zC (.slice a n m) = .sc (.slice a n m):=(rfl)
theorem M8 {a:Option Nat}:zC (.map a) = .sc (.map a):=(rfl)
theorem Ng:zC .nilFunc = .sc .nilFunc:=(rfl)
theorem zew {op:BinOp} {k:IntKind} {a b:Int}:yH P t op (.sc (.int k a)) (.sc (.int k b)) K ⟨⟩=UZ op k a b K ⟨⟩:=(show zmc P t op (.sc (.int k a)) (.sc (.int k b)) K=zoM op k a b K from by simp[zmc])
theorem zfF {op:BinOp} {a b:List UInt8}:yH P t op (.str a) (.str b) K ⟨⟩=zaU op a b K ⟨⟩:=(rfl)
theorem zfs {op:BinOp} {cs ds:List C}:yH P t op (.agg cs) (.agg ds) K ⟨⟩=zkx op (U2 P t) cs ds K ⟨⟩:=(rfl)
theorem MU {op:BinOp} {k:Nat} {rows:List (List C)}:yH P t op (.sl k rows) (.sc (.slice none 0 0)) K ⟨⟩=ux (lay P t) op (.sl k rows) K ⟨⟩:=(rfl)
theorem zcF {op:BinOp} {e0:TypeId} {k0 b0:Nat} {z0:Option (List Value)} {k:Nat} {rows:List (List C)}:ux (some ⟨.slice e0,k0,b0,z0⟩) op (.sl k rows) K ⟨⟩=(rows≠[]/\zc0 op false K ⟨⟩):=(rfl)
theorem GZ {op:BinOp} {a:Option Addr} {n cap:Nat}:yH P t op (.sc (.slice a n cap)) (.sc (.slice none 0 0)) K ⟨⟩=ux (lay P t) op (.sc (.slice a n cap)) K ⟨⟩:=(rfl)
theorem zfl {op:BinOp} {e0:TypeId} {k0 b0:Nat} {z0:Option (List Value)} {a:Option Addr} {n cap:Nat}:ux (some ⟨.slice e0,k0,b0,z0⟩) op (.sc (.slice a n cap)) K ⟨⟩=zc0 op a.isNone K ⟨⟩:=(rfl)
theorem zbu {b:Bool}:zc0 .eql b K ⟨⟩=K (.sc (.bool b)):=(rfl)
theorem zdK {lk:List LK} {cs ds:List C}:zkx .eql (some lk) cs ds K ⟨⟩=zji false lk cs ds true K ⟨⟩:=(rfl)
theorem zcE {lk:List LK} {cs ds:List C}:zkx .neq (some lk) cs ds K ⟨⟩=zji true lk cs ds true K ⟨⟩:=(rfl)
theorem ziR {e:Bool}:zji false [] [] [] e K ⟨⟩=K (.sc (.bool e)):=(rfl)
theorem zaT {e:Bool}:zji true [] [] [] e K ⟨⟩=K (.sc (.bool (!e))):=(rfl)
theorem zgN {n e:Bool} {lk:List LK} {k k1 k2:IntKind} {a b:Int} {cs ds:List C}:zji n (.int k :: lk) (.sc (.int k1 a) :: cs) (.sc (.int k2 b) :: ds) e K ⟨⟩=(k1=k/\k2=k/\zji n lk cs ds (e&&decide (a=b)) K ⟨⟩):=(rfl)
theorem zhl {n e:Bool} {lk:List LK} {a b:List UInt8} {cs ds:List C}:zji n (.str :: lk) (.str a :: cs) (.str b :: ds) e K ⟨⟩=zji n lk cs ds (e&&decide (a=b)) K ⟨⟩:=(rfl)
theorem zeg {k:IntKind} {a b:Int}:UZ .add k a b K ⟨⟩=(inR k (a+b)/\K (.sc (.int k (a+b)))):=(rfl)
theorem zeH {k:IntKind} {a b:Int}:UZ .sub k a b K ⟨⟩=(inR k (a-b)/\K (.sc (.int k (a-b)))):=(rfl)
theorem zdB {k:IntKind} {a b:Int}:UZ .rem k a b K ⟨⟩=(0<=a/\0<b/\K (.sc (.int k (a % b)))):=(rfl)
theorem zeB {k:IntKind} {a b:Int}:UZ .shr k a b K ⟨⟩=(b=1/\K (.sc (.int k (a / 2)))):=(rfl)
theorem zd7 {k:IntKind} {a b:Int}:UZ .eql k a b K ⟨⟩=(K (.sc (.bool (decide (a=b))))):=(rfl)
theorem zb4 {k:IntKind} {a b:Int}:UZ .neq k a b K ⟨⟩=(K (.sc (.bool (!decide (a=b))))):=(rfl)
theorem zdw {k:IntKind} {a b:Int}:UZ .lss k a b K ⟨⟩=(K (.sc (.bool (decide (a<b))))):=(rfl)
theorem zdj {k:IntKind} {a b:Int}:UZ .leq k a b K ⟨⟩=(K (.sc (.bool (decide (a<=b))))):=(rfl)
theorem zbX {k:IntKind} {a b:Int}:UZ .gtr k a b K ⟨⟩=(K (.sc (.bool (decide (b<a))))):=(rfl)
theorem zd1 {k:IntKind} {a b:Int}:UZ .geq k a b K ⟨⟩=(K (.sc (.bool (decide (b<=a))))):=(rfl)
theorem zfe {a b:List UInt8}:zaU .add a b K ⟨⟩=(((a.length+b.length:Nat):Int)<=9223372036854775807/\K (.str (a++b))):=(rfl)
theorem zff {a b:List UInt8}:zaU .eql a b K ⟨⟩=(K (.sc (.bool (decide (a=b))))):=(rfl)
theorem zfp {a b:List UInt8}:zaU .neq a b K ⟨⟩=(K (.sc (.bool (!decide (a=b))))):=(rfl)
theorem ze0 {a b:List UInt8}:zaU .geq a b K ⟨⟩=(K (.sc (.bool (!Op.bytesLess a b)))):=(rfl)
theorem zfL {a b:List UInt8}:zaU .gtr a b K ⟨⟩=(K (.sc (.bool (!(Op.bytesLess a b||decide (a=b)))))):=(rfl)
theorem zhm {b:Bool}:zpm .not (.sc (.bool b)) K ⟨⟩=K (.sc (.bool (!b))):=(rfl)
theorem zc8 {cs:List C} {i:Nat}:Uk (.tup cs) i K ⟨⟩=zjG (cs[i]?) K ⟨⟩:=(rfl)
theorem zpu:zjG (some c) K ⟨⟩=K c:=(rfl)
theorem zdA {i off:Nat}:zlI (.ptr i off) K ⟨⟩=K (.ptr i off):=(rfl)
theorem zml:ua P t c bx K ⟨⟩=yW (lay P t) c bx K ⟨⟩:=(rfl)
theorem zag {L:Lay} {i off:Nat}:yW (some L) (.ptr i off) bx K ⟨⟩=zeb (bx[i]?) off L K ⟨⟩:=(rfl)
theorem zbK {L:Lay} {cs:List C}:yW (some L) (.row cs) bx K ⟨⟩=Vl L cs K ⟨⟩:=(rfl)
theorem zjV {L:Lay} {off:Nat} {cs:List C}:zeb (some cs) off L K ⟨⟩=Vl L (cs.drop off) K ⟨⟩:=(rfl)
theorem HT {fs:List (Nat×Nat×Bool)} {s b:Nat} {z1:Option (List Value)} {cs:List C}:Vl ⟨.struct fs,s,b,z1⟩ cs K ⟨⟩=(s<=cs.length/\K (.agg (cs.take s))):=(show J8 ⟨.struct fs,s,b,z1⟩ cs K=(s<=cs.length/\K (.agg (cs.take s))) from by simp[J8,LK.agg])
theorem zaM {ik:IntKind} {s b:Nat} {z1:Option (List Value)} {r:List C}:Vl ⟨.int ik,s,b,z1⟩ (c :: r) K ⟨⟩=K c:=(show J8 ⟨.int ik,s,b,z1⟩ (c :: r) K=K c from by simp[J8,LK.agg])
theorem xS {s b:Nat} {z1:Option (List Value)} {r:List C}:Vl ⟨.bool,s,b,z1⟩ (c :: r) K ⟨⟩=K c:=(show J8 ⟨.bool,s,b,z1⟩ (c :: r) K=K c from by simp[J8,LK.agg])
theorem za8 {s b:Nat} {z1:Option (List Value)} {r:List C}:Vl ⟨.str,s,b,z1⟩ (c :: r) K ⟨⟩=K c:=(show J8 ⟨.str,s,b,z1⟩ (c :: r) K=K c from by simp[J8,LK.agg])
theorem Ni {e:TypeId} {s b:Nat} {z1:Option (List Value)} {r:List C}:Vl ⟨.slice e,s,b,z1⟩ (c :: r) K ⟨⟩=K c:=(show J8 ⟨.slice e,s,b,z1⟩ (c :: r) K=K c from by simp[J8,LK.agg])
theorem MI {s b:Nat} {z1:Option (List Value)} {r:List C}:Vl ⟨.other,s,b,z1⟩ (c :: r) K ⟨⟩=K c:=(show J8 ⟨.other,s,b,z1⟩ (c :: r) K=K c from by simp[J8,LK.agg])
theorem zjW {f:Nat}:y0 P t c f K ⟨⟩=uo (lay P t) c f K ⟨⟩:=(rfl)
theorem zgy {fs:List (Nat×Nat×Bool)} {s b:Nat} {z1:Option (List Value)} {cs:List C} {f:Nat}:uo (some ⟨.struct fs,s,b,z1⟩) (.agg cs) f K ⟨⟩=ui (fs[f]?) cs K ⟨⟩:=(show yQ (some ⟨.struct fs,s,b,z1⟩) (.agg cs) f K=Uz (fs[f]?) cs K from by unfold yQ Uz;simp only[];cases fs[f]?<;>simp)
theorem zcz {off size:Nat} {cs:List C}:ui (some (off,size,false)) cs K ⟨⟩=zjG (cs[off]?) K ⟨⟩:=(show Uz (some (off,size,false)) cs K=zpP (cs[off]?) K from by unfold Uz zpP;simp)
theorem zqD {f:Nat}:Qt P t c f K ⟨⟩=zm4 (lay P t) c f K ⟨⟩:=(rfl)
theorem zpL {fs:List (Nat×Nat×Bool)} {s b:Nat} {z1:Option (List Value)} {f:Nat}:zm4 (some ⟨.struct fs,s,b,z1⟩) c f K ⟨⟩=zjM (fs[f]?) c K ⟨⟩:=(rfl)
theorem zhC {off size i q:Nat} {g:Bool}:zjM (some (off,size+1,g)) (.ptr i q) K ⟨⟩=K (.ptr i (q+off)):=(show znb (some (off,size+1,g)) (.ptr i q) K=K (.ptr i (q+off)) from by simp[znb])
theorem ziK {off size:Nat} {g:Bool} {cs:List C}:zjM (some (off,size+1,g)) (.row cs) K ⟨⟩=K (.row (cs.drop off)):=(show znb (some (off,size+1,g)) (.row cs) K=K (.row (cs.drop off)) from by simp[znb])
theorem zqT:Qg P t c d K ⟨⟩=zk1 P (lay P t) c d K ⟨⟩:=(rfl)
theorem zbP {e s b:Nat} {z1:Option (List Value)} {k:IntKind} {n:Int}:zk1 P (some ⟨.slice e,s,b,z1⟩) c (.sc (.int k n)) K ⟨⟩=zgX (lay P e) c n K ⟨⟩:=(rfl)
theorem u9 {m e s b:Nat} {z1:Option (List Value)} {k:IntKind} {n:Int}:zk1 P (some ⟨.array (m+1) e,s,b,z1⟩) c (.sc (.int k n)) K ⟨⟩=zm9 (lay P e) c m n K ⟨⟩:=(rfl)
theorem zci {k:Nat} {rows:List (List C)} {L:Lay} {n:Int}:zgX (some L) (.sl k rows) n K ⟨⟩=zl1 (C.rows? L.size (.sl k rows)) n K ⟨⟩:=(rfl)
theorem zey {k:Nat} {rows:List (List C)} {L:Lay} {lo hi mx:Option Int}:zd4 (some L) (.sl k rows) lo hi mx K ⟨⟩=zim (C.rows? L.size (.sl k rows)) L.size lo hi mx K ⟨⟩:=(rfl)
theorem zaz {id e k:Nat} {rows:List (List C)} {L:Lay} {n:Int}:zgX (some L) (.own id e k rows) n K ⟨⟩=zl1 (C.rows? L.size (.own id e k rows)) n K ⟨⟩:=(rfl)
theorem zbx {id e k:Nat} {rows:List (List C)} {L:Lay} {lo hi mx:Option Int}:zd4 (some L) (.own id e k rows) lo hi mx K ⟨⟩=zim (C.rows? L.size (.own id e k rows)) L.size lo hi mx K ⟨⟩:=(rfl)
theorem zbd {L:Lay} {lo hi mx:Option Int}:zd4 (some L) (.sc (.slice none 0 0)) lo hi mx K ⟨⟩=zmG L.size lo hi mx K ⟨⟩:=(rfl)
theorem zpj {k:Nat} {lo hi:Option Int}:zmG k lo hi none K ⟨⟩=(jS 0 lo hi/\K (.sc (.slice none 0 0))):=(rfl)
theorem zak {v:Value} :zfy P bx t t' (.sc v) K ⟨⟩=zi8 P t t' (.sc v) K ⟨⟩:=(rfl)
theorem zeA {L:Lay} {n:Int} {j off k m1 cap:Nat}:zgX (some L) (.bs j off k m1 cap) n K ⟨⟩=(k=L.size/\0<=n/\n<(m1:Int)/\K (.ptr j (off+n.toNat*L.size))):=(rfl)
theorem zcN {L:Lay} {lo hi mx:Option Int} {i off k n cap:Nat}:zd4 (some L) (.bs i off k n cap) lo hi mx K ⟨⟩=zdb L.size i off k n cap lo hi mx K ⟨⟩:=(rfl)
theorem ziV {b:Int} {sz i off k n cap:Nat}:zdb sz i off k n cap none (some b) none K ⟨⟩=(n<=cap/\(0<=b/\b<=(cap:Int))/\K (.bs i off k b.toNat cap)):=(rfl)
theorem zhi {a:Int} {sz i off k n cap:Nat}:zdb sz i off k n cap (some a) none none K ⟨⟩=(sz=k/\n<=cap/\(0<=a/\a<=(n:Int))/\K (.bs i (off+a.toNat*k) k (n-a.toNat) (cap-a.toNat))):=(rfl)
theorem zhV {a b:Int} {sz i off k n cap:Nat}:zdb sz i off k n cap (some a) (some b) none K ⟨⟩=(sz=k/\(0<=a/\a<=b/\b<=(cap:Int))/\K (.bs i (off+a.toNat*k) k (b.toNat-a.toNat) (cap-a.toNat))):=(rfl)
theorem zhc {a b m1:Int} {sz i off k n cap:Nat}:zdb sz i off k n cap (some a) (some b) (some m1) K ⟨⟩=(sz=k/\(0<=a/\a<=b/\b<=m1/\m1<=(cap:Int))/\K (.bs i (off+a.toNat*k) k (b.toNat-a.toNat) (m1.toNat-a.toNat))):=(rfl)
theorem zgD {i off k n cap:Nat}:ym P t (.bs i off k n cap) K ⟨⟩=Mn (lay P t) (n:Int) K ⟨⟩:=(rfl)
theorem zqE {n:Nat} {ps:List (Nat×C)}:ky P t n ps ⟨tm,bx,nx,lg⟩ K3 ⟨⟩=zoD P (lay P t) n ps ⟨tm,bx,nx,lg⟩ K3 ⟨⟩:=(rfl)
theorem zo8 {e s b n:Nat} {z1:Option (List Value)} {ps:List (Nat×C)}:zoD P (some ⟨.slice e,s,b,z1⟩) n ps σ K3 ⟨⟩=znG (lay P e) n ps σ K3 ⟨⟩:=(rfl)
theorem zpp {kd:LK} {k b n:Nat} {z1:List Value} {ps:List (Nat×C)}:znG (some ⟨kd,k,b,some z1⟩) n ps σ K3 ⟨⟩=(z1.length=k/\0<k/\n*k<=16777216/\(ps.all fun p=>p.2.frz.partB)=true/\zof (YM (plA k) (List.replicate n (z1.map zC)).flatten (ps.map fun p=>(p.1,p.2.frz))) k n σ K3 ⟨⟩):=(rfl)
theorem zp3 {cs:List C} {k n:Nat}:zof (some cs) k n ⟨tm,bx,nx,lg⟩ K3 ⟨⟩=((cs.all C.cellB)=true/\cs.length=n*k/\K3 (.bs bx.length 0 k n n) ⟨tm,bx++[cs],nx,lg⟩):=(rfl)
theorem zqk:vY P p t c d ⟨tm,bx,nx,lg⟩ K3 ⟨⟩=zoc P (lay P t) p c d ⟨tm,bx,nx,lg⟩ K3 ⟨⟩:=(rfl)
theorem zpT {e s b:Nat} {z1:Option (List Value)}:zoc P (some ⟨.slice e,s,b,z1⟩) p c d σ K3 ⟨⟩=znH (lay P e) p c d σ K3 ⟨⟩:=(rfl)
theorem zpe {kd:LK} {k b:Nat} {z1:List Value}:znH (some ⟨kd,k,b,some z1⟩) p c d ⟨tm,bx,nx,lg⟩ K3 ⟨⟩=zmH (d.xs? k bx) p k b z1 c ⟨tm,bx,nx,lg⟩ K3 ⟨⟩:=(rfl)
theorem zjw {i off k k2 n cap:Nat}:C.xs? k bx (.bs i off k2 n cap)=xsB k2 k off n (bx[i]?):=(rfl)
theorem znd {k off n:Nat} {cs:List C}:xsB k k off n (some cs)=if off+n*k<=cs.length then some (n,(cs.drop off).take (n*k)) else none:=(show xsB k k off n (some cs)=if off+n*k<=cs.length then some (n,(cs.drop off).take (n*k)) else none from by simp[xsB])
theorem zkP {i:Nat} {cs:List C}:Zf i cs bx=(GX (JR i) some bx).set i cs:=(rfl)
theorem zkJ {i j:Nat}:JR i j=if j=i then none else some j:=(rfl)
theorem zia {i off k n cap:Nat}:C.frz (.bs i off k n cap) = .any:=(show C.frz (.bs i off k n cap) = .any from by rw[C.frz])
theorem zjO {i off k n cap:Nat} {id:Nat}:C.dg id (.bs i off k n cap) = .bs i off k n cap:=(show C.dg id (.bs i off k n cap) = .bs i off k n cap from by rw[C.dg])
theorem zkp {i off k n cap:Nat} {fp fo:Nat->Option Nat}:C.re fp fo (.bs i off k n cap)=bsO (fp i) off k n cap:=(show C.re fp fo (.bs i off k n cap)=bsO (fp i) off k n cap from by rw[C.re];rfl)
theorem zmP {j off k n cap:Nat}:bsO (some j) off k n cap = .bs j off k n cap:=(rfl)
theorem zmI {off k n cap:Nat}:bsO none off k n cap = .any:=(rfl)
theorem zbF {i off k n cap:Nat}:C.cellB (.bs i off k n cap)=true:=(rfl)
theorem uJ {i off k n cap:Nat}:C.partB (.bs i off k n cap)=true:=(rfl)
theorem zay {i off k n cap:Nat}:C.cells (.bs i off k n cap) = [.bs i off k n cap]:=(rfl)
theorem zmO {rows:List (List C)} {n:Int}:zl1 (some rows) n K ⟨⟩=zp7 (rows[n.toNat]?) n K ⟨⟩:=(rfl)
theorem zql {r:List C} {n:Int}:zp7 (some r) n K ⟨⟩=(0<=n/\K (.row r)):=(rfl)
theorem zls {L:Lay} {m:Nat} {n:Int} {cs:List C}:zm9 (some L) (.row cs) m n K ⟨⟩=(0<=n/\n<((m+1:Nat):Int)/\K (.row (cs.drop (n.toNat*L.size)))):=(rfl)
theorem zqs:yy P t c d K ⟨⟩=zmE (lay P t) c d K ⟨⟩:=(rfl)
theorem zpQ {s b:Nat} {z1:Option (List Value)} {l:List UInt8} {k:IntKind} {n:Int}:zmE (some ⟨.str,s,b,z1⟩) (.str l) (.sc (.int k n)) K ⟨⟩=zjb (l[n.toNat]?) n K ⟨⟩:=(show zo5 (some ⟨.str,s,b,z1⟩) (.str l) (.sc (.int k n)) K=zlo (l[n.toNat]?) n K from by unfold zo5 zlo;simp)
theorem zmm {b:UInt8} {n:Int}:zjb (some b) n K ⟨⟩=(0<=n/\K (.sc (.int .u8 (b.toNat:Int)))):=(rfl)
theorem zqO {lo hi mx:Option C}:M1 P t c lo hi mx K ⟨⟩=znF P t c (vu lo) (vu hi) (vu mx) K ⟨⟩:=(rfl)
theorem zpV {lo hi mx:Option Int}:znF P t c (some lo) (some hi) (some mx) K ⟨⟩=zlH P (lay P t) c lo hi mx K ⟨⟩:=(rfl)
theorem zbQ:vu none=some none:=(rfl)
theorem zce {k:IntKind} {n:Int}:vu (some (.sc (.int k n)))=some (some n):=(rfl)
theorem ziO {s b:Nat} {z1:Option (List Value)} {l:List UInt8} {lo hi:Option Int}:zlH P (some ⟨.str,s,b,z1⟩) (.str l) lo hi none K ⟨⟩=(jS l.length lo hi/\K (.str (cut l lo hi))):=(rfl)
theorem zaA {e s b:Nat} {z1:Option (List Value)} {lo hi mx:Option Int}:zlH P (some ⟨.slice e,s,b,z1⟩) c lo hi mx K ⟨⟩=zd4 (lay P e) c lo hi mx K ⟨⟩:=(rfl)
theorem zn6 {rows:List (List C)} {k:Nat} {lo hi:Option Int}:zim (some rows) k lo hi none K ⟨⟩=(jS rows.length lo hi/\K (.sl k (cut rows lo hi))):=(rfl)
theorem zmL {rows:List (List C)} {k:Nat} {lo:Option Int} {h m:Int}:zim (some rows) k lo (some h) (some m) K ⟨⟩=(m=h/\jS rows.length lo (some h)/\K (.tight k (cut rows lo (some h)))):=(rfl)
theorem zhH {α:Type} {l:List α} {a:Int}:cut l (some a) none=l.drop a.toNat:=(rfl)
theorem zgA {α:Type} {l:List α} {b:Int}:cut l none (some b)=l.take b.toNat:=(rfl)
theorem ziv {α:Type} {l:List α} {a b:Int}:cut l (some a) (some b)=(l.take b.toNat).drop a.toNat:=(rfl)
theorem zbc {n:Nat} {a:Int}:jS n (some a) none=(0<=a/\a<=(n:Int)):=(rfl)
theorem zbL {n:Nat} {b:Int}:jS n none (some b)=(0<=b/\b<=(n:Int)):=(rfl)
theorem zab {n:Nat} {a b:Int}:jS n (some a) (some b)=(0<=a/\a<=b/\b<=(n:Int)):=(rfl)
theorem zdO {k:Nat} {rows:List (List C)}:C.rows? k (.sl k rows)=some rows:=(show C.rows? k (.sl k rows)=some rows from by simp[C.rows?])
theorem zaX {id e:Nat} {k:Nat} {rows:List (List C)}:C.rows? k (.own id e k rows)=some rows:=(show C.rows? k (.own id e k rows)=some rows from by simp[C.rows?])
theorem znq:zi8 P t t' c K ⟨⟩=zl3 P (lay P t') (lay P t) c K ⟨⟩:=(rfl)
theorem zat {k k0:IntKind} {n:Int} {s b:Nat} {z1:Option (List Value)} {L:Lay}:zl3 P (some ⟨.int k,s,b,z1⟩) (some L) (.sc (.int k0 n)) K ⟨⟩=(inR k n/\K (.sc (.int k n))):=(rfl)
theorem zhT {s b s2 b2:Nat} {z1 z2:Option (List Value)} {k k0:IntKind} {n:Int}:zl3 P (some ⟨.str,s,b,z1⟩) (some ⟨.int k,s2,b2,z2⟩) (.sc (.int k0 n)) K ⟨⟩=K (.str (Utf8.encode n).data.toList):=(rfl)
theorem zdn {l:List UInt8}:ym P t (.str l) K ⟨⟩=ziY (lay P t) (l.length:Int) K ⟨⟩:=(rfl)
theorem zgd {k:Nat} {rows:List (List C)}:ym P t (.sl k rows) K ⟨⟩=Mn (lay P t) (rows.length:Int) K ⟨⟩:=(rfl)
theorem zdF {id e:Nat} {k:Nat} {rows:List (List C)}:ym P t (.own id e k rows) K ⟨⟩=Mn (lay P t) (rows.length:Int) K ⟨⟩:=(rfl)
theorem zeO:ym P t (.sc (.slice none 0 0)) K ⟨⟩=Mn (lay P t) 0 K ⟨⟩:=(rfl)
theorem znI {e s b:Nat} {z1:Option (List Value)} {n:Int}:Mn (some ⟨.slice e,s,b,z1⟩) n K ⟨⟩=K (.sc (.int .i64 n)):=(rfl)
theorem znc {s b:Nat} {z1:Option (List Value)} {n:Int}:ziY (some ⟨.str,s,b,z1⟩) n K ⟨⟩=K (.sc (.int .i64 n)):=(rfl)
theorem zlO {ps:List (Nat×C)}:ya P t ps K ⟨⟩=zmV (lay P t) ps K ⟨⟩:=(rfl)
theorem zhw {fs:List (Nat×Nat×Bool)} {s b:Nat} {z1:List Value} {ps:List (Nat×C)}:zmV (some ⟨.struct fs,s,b,some z1⟩) ps K ⟨⟩=((ps.all fun p=>p.2.partB)=true/\zp5 (YM (plS fs) (z1.map zC) ps) K ⟨⟩):=(show zpv (some ⟨.struct fs,s,b,some z1⟩) ps K=((ps.all fun p=>p.2.partB)=true/\aFl (YM (plS fs) (z1.map zC) ps) K) from by unfold zpv aFl;simp only[];rfl)
theorem zqo {cs:List C}:zp5 (some cs) K ⟨⟩=K (.agg cs):=(rfl)
theorem zj2 {place:Nat->Option (Nat×Nat)} {cs:List C}:YM place cs []=some cs:=(rfl)
theorem zop {place:Nat->Option (Nat×Nat)} {cs:List C} {i:Nat} {rest:List (Nat×C)}:YM place cs ((i,c) :: rest)=zjm (place i) place cs c.cells rest:=(rfl)
theorem zj9 {place:Nat->Option (Nat×Nat)} {cs l:List C} {off size:Nat} {rest:List (Nat×C)}:zjm (some (off,size)) place cs l rest=(if l.length=size/\off+size<=cs.length then YM place (cs.take off++l++cs.drop (off+size)) rest else none):=(rfl)
theorem zoR {fs:List (Nat×Nat×Bool)} {i:Nat}:plS fs i=(fs[i]?).map fun f=>(f.1,f.2.1):=(rfl)
theorem zoQ {k i:Nat}:plA k i=some (i*k,k):=(rfl)
theorem zqz {n:Nat} {ps:List (Nat×C)}:XK P t n ps nx K2 ⟨⟩=zox P (lay P t) n ps nx K2 ⟨⟩:=(rfl)
theorem zoU {e s b n:Nat} {z1:Option (List Value)} {ps:List (Nat×C)}:zox P (some ⟨.slice e,s,b,z1⟩) n ps nx K2 ⟨⟩=zm0 (lay P e) e n ps nx K2 ⟨⟩:=(rfl)
theorem zpg {kd:LK} {k b e n:Nat} {z1:List Value} {ps:List (Nat×C)}:zm0 (some ⟨kd,k,b,some z1⟩) e n ps nx K2 ⟨⟩=(z1.length=k/\0<k/\n*k<=16777216/\(ps.all fun p=>p.2.frz.partB)=true/\zmt (YM (plA k) (List.replicate n (z1.map zC)).flatten (ps.map fun p=>(p.1,p.2.frz))) e k n nx K2 ⟨⟩):=(rfl)
theorem zpw {cs:List C} {e k n:Nat}:zmt (some cs) e k n nx K2 ⟨⟩=((cs.all C.cellB)=true/\cs.length=n*k/\K2 (.own nx e k (X6 k n cs)) (nx+1)):=(rfl)
theorem zpf:Nh P t c d ⟨tm,bx,nx,lg⟩ K3 ⟨⟩=ziZ P (lay P t) c d ⟨tm,bx,nx,lg⟩ K3 ⟨⟩:=(rfl)
theorem znC {e s b:Nat} {z1:Option (List Value)} {k k2:IntKind} {l m:Int}:ziZ P (some ⟨.slice e,s,b,z1⟩) (.sc (.int k l)) (.sc (.int k2 m)) ⟨tm,bx,nx,lg⟩ K3 ⟨⟩=zje (lay P e) l m ⟨tm,bx,nx,lg⟩ K3 ⟨⟩:=(rfl)
theorem zob {kd:LK} {k b:Nat} {z1:List Value} {l m:Int}:zje (some ⟨kd,k,b,some z1⟩) l m ⟨tm,bx,nx,lg⟩ K3 ⟨⟩=(z1.length=k/\0<k/\(z1.all Value.oneCell')=true/\0<=l/\l<=m/\(b:Int)*m<=281474976710656/\m<=9223372036854775807/\K3 (.bs bx.length 0 k l.toNat m.toNat) ⟨tm,bx++[(List.replicate m.toNat (z1.map zC)).flatten],nx,lg⟩):=(rfl)
theorem zq1:zi7 P t c d nx K2 ⟨⟩=zoC P (lay P t) c d nx K2 ⟨⟩:=(rfl)
theorem zp1 {e s b:Nat} {z1:Option (List Value)} {k k2:IntKind} {l m:Int}:zoC P (some ⟨.slice e,s,b,z1⟩) (.sc (.int k l)) (.sc (.int k2 m)) nx K2 ⟨⟩=zog (lay P e) e l m nx K2 ⟨⟩:=(rfl)
theorem zpz {kd:LK} {k b e:Nat} {z1:List Value} {l m:Int}:zog (some ⟨kd,k,b,some z1⟩) e l m nx K2 ⟨⟩=(z1.length=k/\0<k/\(z1.all Value.oneCell')=true/\0<=l/\l<=m/\(b:Int)*m<=281474976710656/\m<=9223372036854775807/\K2 (.own nx e k (List.replicate l.toNat (z1.map zC))) (nx+1)):=(rfl)
theorem zfk {id e k:Nat} {rows:List (List C)}:Gn P t (.own id e k rows) d ⟨tm,bx,nx,lg⟩ K3 ⟨⟩=zou P (lay P t) id e k rows d ⟨tm,bx,nx,lg⟩ K3 ⟨⟩:=(rfl)
theorem yE {k:Nat} {rows:List (List C)}:Gn P t (.tight k rows) d ⟨tm,bx,nx,lg⟩ K3 ⟨⟩=Gj P t (.tight k rows) d nx (fun c nx'=>K3 c ⟨tm,bx,nx',lg⟩) ⟨⟩:=(rfl)
theorem zoE:Gj P t c d nx K2 ⟨⟩=zoe P (lay P t) c d nx K2 ⟨⟩:=(rfl)
theorem zpX {e s b:Nat} {z1:Option (List Value)}:zoe P (some ⟨.slice e,s,b,z1⟩) c d nx K2 ⟨⟩=zoG (lay P e) e c d nx K2 ⟨⟩:=(rfl)
theorem zps {kd:LK} {k b e:Nat} {z1:List Value}:zoG (some ⟨kd,k,b,some z1⟩) e c d nx K2 ⟨⟩=zn9 (d.rows? k) c e k b z1 nx K2 ⟨⟩:=(rfl)
theorem zn4 {k k0 b e:Nat} {z1:List Value} {xs rows:List (List C)}:zn9 (some xs) (.tight k0 rows) e k b z1 nx K2 ⟨⟩=(k0=k/\z1.length=k/\0<k/\rows.length+xs.length<=9223372036854775807/\(rows.length+xs.length)*b<=140737488355328/\(xs = []->K2 (.tight k0 rows) nx)/\(¬xs = []->K2 (.own nx e k (rows++xs)) (nx+1))):=(rfl)
theorem zgZ {a b:Nat} (h:Nat.ble a b=true):a<=b:=Nat.le_of_ble_eq_true h
theorem lS:(∀ {α:Type} (a b:List α),(a++b).length=a.length+b.length)/\(∀ {α:Type} (a:α) (b:List α),(a :: b).length=b.length+1)/\(∀ {α:Type},([]:List α).length=0)/\(∀ {α β:Type} (f:α->β) (l:List α),(l.map f).length=l.length)/\(∀ {α:Type} (n:Nat) (l:List α),(l.take n).length=min n l.length)/\∀ {α:Type} (n:Nat) (l:List α),(l.drop n).length=l.length-n:=⟨fun _ _=>List.length_append,fun _ _=>List.length_cons,List.length_nil,fun _ _=>List.length_map _,fun _ _=>List.length_take,fun _ _=>List.length_drop⟩
theorem zpA {α:Type} {x:α} {l:List α}:((x :: l) = [])=False:=by simp
theorem zq0 {p:Prop}:(True->p)=p:=by simp
theorem zqI {p:Prop}:(False->p)=True:=by simp
theorem zqp:(¬True)=False:=by simp
theorem zqq:(¬False)=True:=by simp
theorem zpI {e0 s b id e k:Nat} {z1:Option (List Value)} {rows:List (List C)}:zou P (some ⟨.slice e0,s,b,z1⟩) id e k rows c σ K3 ⟨⟩=zn1 (lay P e) e0 id e k rows c σ K3 ⟨⟩:=(rfl)
theorem zo4 {kd:LK} {k0 b e0 id e k:Nat} {z1:List Value} {rows:List (List C)}:zn1 (some ⟨kd,k0,b,some z1⟩) e0 id e k rows c σ K3 ⟨⟩=(e0=e/\k0=k/\z1.length=k/\0<k/\zmT (c.rows? k) b id e k rows σ K3 ⟨⟩):=(show zpy (some ⟨kd,k0,b,some z1⟩) e0 id e k rows c σ K3=(e0=e/\k0=k/\z1.length=k/\0<k/\zoZ (c.rows? k) b id e k rows σ K3) from by unfold zpy zoZ;simp only[];cases c.rows? k<;>simp)
theorem zpq {xs rows:List (List C)} {b id e k:Nat}:zmT (some xs) b id e k rows ⟨tm,bx,nx,lg⟩ K3 ⟨⟩=(rows.length+xs.length<=9223372036854775807/\(rows.length+xs.length)*b<=140737488355328/\K3 (.own id e k (rows++xs)) ⟨uT id tm,MV id bx,nx,lg⟩):=(rfl)
theorem zlP {f:FuncId} {fs cs args:List C}:xe P G h (.clo (.func f) fs cs) args ⟨tm,bx,nx,lg⟩ K3 ⟨⟩ ⟨⟩=Qp P G f (fs++args++cs) (C.frzL (fs++args++cs)) ⟨tm,bx,nx,lg⟩ K3 ⟨⟩:=(rfl)
theorem zlY {l:Nat} {items:List (List C)} {sf:Nat->Bool} {args:List C}:xe P G ⟨p,some ⟨l,items,sf⟩,bf⟩ (.sc (.func (.yield l) #[] #[])) args ⟨tm,bx,nx,lg⟩ K3 ⟨⟩ ⟨⟩=uD ⟨l,items,sf⟩ (items[lg]?) args ⟨tm,bx,nx,lg⟩ K3 ⟨⟩ ⟨⟩:=(show Nw P G ⟨p,some ⟨l,items,sf⟩,bf⟩ (.sc (.func (.yield l) #[] #[])) args ⟨tm,bx,nx,lg⟩ K3=HR ⟨l,items,sf⟩ (items[lg]?) args ⟨tm,bx,nx,lg⟩ K3 from by simp[Nw,vb])
theorem zh6 {l:Nat} {items:List (List C)} {sf:Nat->Bool} {args it:List C}:uD ⟨l,items,sf⟩ (some it) args ⟨tm,bx,nx,lg⟩ K3 ⟨⟩ ⟨⟩=(ze [] 0 args it/\(∀ j,j<lg->sf j=false)/\K3 (.sc (.bool (!sf lg))) ⟨tm,bx,nx,lg+1⟩):=(rfl)
theorem zmy {ι:List Nat} {j:Nat}:upB ι m j=match ι[j]? with | some i=>some i | none=>some (m+(j-ι.length)):=(rfl)
theorem zoT {i:Nat}:Xr [] i=none:=(rfl)
theorem zpO {x1 i:Nat} {r:List Nat}:Xr (x1 :: r) i=if i=x1 then some 0 else (Xr r i).map (·+1):=(rfl)
theorem zjR {fp fo:Nat->Option Nat}:kx fp fo [] = []:=(rfl)
theorem zno {fp fo:Nat->Option Nat} {u:Nat} {r:List (Nat×C)}:kx fp fo ((u,c) :: r)=(u,c.re fp fo) :: kx fp fo r:=(rfl)
theorem zkA {fp fo:Nat->Option Nat}:GX fp fo [] = []:=(rfl)
theorem zor {fp fo:Nat->Option Nat} {cs:List C} {r:List (List C)}:GX fp fo (cs :: r)=C.reL fp fo cs :: GX fp fo r:=(rfl)
theorem zhp {l:List (List C)}:Zw [] l bx=bx:=(rfl)
theorem zhU {i:Nat} {ι:List Nat} {cs:List C} {r:List (List C)}:Zw (i :: ι) (cs :: r) bx=Zw ι r (bx.set i cs):=(rfl)
theorem ziu {ι κ:List Nat} {n:Nat}:QX ι κ bx' n ⟨tm,bx,nx,lg⟩=⟨kx some (Q5 κ) tm,Zw ι (GX (upB ι bx.length) (upO nx) bx') (GX some (Q5 κ) bx)++GX (upB ι bx.length) (upO nx) (bx'.drop ι.length),nx+n,lg⟩:=(rfl)
theorem zjZ {κ:List Nat} {i:Nat}:Q5 κ i=if i∈κ then none else some i:=(rfl)
theorem zig {i:Nat}:kJ m i=if i<m then some i else none:=(rfl)
theorem zgP {i:Nat}:YO m i=if i<m then none else some (i-m):=(rfl)
theorem zjK {f:FuncId} {fs cs args:List C}:zcp P G (.clo (.func f) fs cs) args nx K2 ⟨⟩=yI P G f (C.frzL (fs++args++cs)) nx K2 ⟨⟩:=(rfl)
theorem zoY {kd:LK} {s b:Nat} {z1:List Value}:zmz (some ⟨kd,s,b,some z1⟩) ⟨tm,bx,nx,lg⟩ K3 ⟨⟩=((z1.all Value.oneCell')=true/\K3 (.ptr bx.length 0) ⟨tm,bx++[z1.map zC],nx,lg⟩):=(rfl)
theorem zpk:znB c ⟨tm,bx,nx,lg⟩ K3 ⟨⟩=(c.partB=true/\(c.cells.all C.cellB)=true/\K3 (.ptr bx.length 0) ⟨tm,bx++[c.cells],nx,lg⟩):=(rfl)
theorem zpZ {L:Lay} {i off:Nat}:znz (some L) (.ptr i off) c ⟨tm,bx,nx,lg⟩ K3 ⟨⟩=zmF (bx[i]?) i off L.size c ⟨tm,bx,nx,lg⟩ K3 ⟨⟩:=(rfl)
theorem zpS {cs:List C} {i off size:Nat}:zmF (some cs) i off size c ⟨tm,bx,nx,lg⟩ K3 ⟨⟩=(c.partB=true/\(c.cells.all C.cellB)=true/\c.cells.length=size/\off+size<=cs.length/\K3 .any ⟨tm,bx.set i (cs.take off++c.cells++cs.drop (off+size)),nx,lg⟩):=(rfl)
theorem zhG {v:Value}:C.frz (.sc v) = .sc v:=(show C.frz (.sc v) = .sc v from by rw[C.frz])
theorem zlR {v:Value} {id:Nat}:C.dg id (.sc v) = .sc v:=(show C.dg id (.sc v) = .sc v from by rw[C.dg])
theorem zkI {v:Value} {n:Nat}:C.sh n (.sc v) = .sc v:=(show C.sh n (.sc v) = .sc v from by rw[C.sh])
theorem zcr {l:List UInt8}:C.frz (.str l) = .str l:=(show C.frz (.str l) = .str l from by rw[C.frz])
theorem zgg {l:List UInt8} {id:Nat}:C.dg id (.str l) = .str l:=(show C.dg id (.str l) = .str l from by rw[C.dg])
theorem zgi {l:List UInt8} {n:Nat}:C.sh n (.str l) = .str l:=(show C.sh n (.str l) = .str l from by rw[C.sh])
theorem zgb {k:Nat} {rows:List (List C)}:C.frz (.sl k rows) = .sl k rows:=(show C.frz (.sl k rows) = .sl k rows from by rw[C.frz])
theorem zks {k:Nat} {rows:List (List C)} {id:Nat}:C.dg id (.sl k rows) = .sl k rows:=(show C.dg id (.sl k rows) = .sl k rows from by rw[C.dg])
theorem zlE {k:Nat} {rows:List (List C)} {n:Nat}:C.sh n (.sl k rows) = .sl k rows:=(show C.sh n (.sl k rows) = .sl k rows from by rw[C.sh])
theorem zaj {k:Nat} {rows:List (List C)} {id:Nat}:C.dg id (.tight k rows) = .tight k rows:=(show C.dg id (.tight k rows) = .tight k rows from by rw[C.dg])
theorem zdI {cs:List C}:C.frz (.row cs) = .row cs:=(show C.frz (.row cs) = .row cs from by rw[C.frz])
theorem zhE {cs:List C} {id:Nat}:C.dg id (.row cs) = .row cs:=(show C.dg id (.row cs) = .row cs from by rw[C.dg])
theorem ziI {cs:List C} {n:Nat}:C.sh n (.row cs) = .row cs:=(show C.sh n (.row cs) = .row cs from by rw[C.sh])
theorem ziW {id:Nat}:C.dg id (.any) = .any:=(show C.dg id (.any) = .any from by rw[C.dg])
theorem zlT {i:Nat} {t2:TypeId} {ks:MK} {vs:List C} {n:Nat}:C.sh n (.mo i t2 ks vs) = .mo (n+i) t2 ks vs:=(show C.sh n (.mo i t2 ks vs) = .mo (n+i) t2 ks vs from by rw[C.sh])
theorem zlN {i:Nat} {t2:TypeId} {ks:MK} {vs:List C}:C.fz bx (.mo i t2 ks vs) = .mo i t2 ks vs:=(show C.fz bx (.mo i t2 ks vs) = .mo i t2 ks vs from by rw[C.fz])
theorem zjJ {v:Value} {id:Nat} {ks1:MK} {vs1:List C}:C.up id ks1 vs1 (.sc v) = .sc v:=(show C.up id ks1 vs1 (.sc v) = .sc v from by rw[C.up])
theorem zkk {i:Nat} {t2:TypeId} {ks:MK} {vs:List C} {id:Nat} {ks1:MK} {vs1:List C}:C.up id ks1 vs1 (.mo i t2 ks vs)=if i=id then .mo i t2 ks1 vs1 else .mo i t2 ks vs:=(show C.up id ks1 vs1 (.mo i t2 ks vs)=if i=id then .mo i t2 ks1 vs1 else .mo i t2 ks vs from by rw[C.up])
theorem uM {id:Nat} {ks1:MK} {vs1:List C}:zfU id ks1 vs1 [] = []:=(rfl)
theorem zmp {u:Nat} {r:List (Nat×C)} {id:Nat} {ks1:MK} {vs1:List C}:zfU id ks1 vs1 ((u,c) :: r)=(u,c.up id ks1 vs1) :: zfU id ks1 vs1 r:=(rfl)
theorem uW {id:Nat} {ks1:MK} {vs1:List C}:zcq id ks1 vs1 [] = []:=(rfl)
theorem zfI {id e k:Nat} {rows:List (List C)}:C.frz (.own id e k rows) = .sl k rows:=(show C.frz (.own id e k rows) = .sl k rows from by rw[C.frz])
theorem zed {i off:Nat}:C.frz (.ptr i off) = .any:=(show C.frz (.ptr i off) = .any from by rw[C.frz])
theorem zgH {id i off:Nat}:C.dg id (.ptr i off) = .ptr i off:=(show C.dg id (.ptr i off) = .ptr i off from by rw[C.dg])
theorem zgp {id i e k:Nat} {rows:List (List C)}:C.dg id (.own i e k rows)=if i=id then .sl k rows else .own i e k rows:=(show C.dg id (.own i e k rows)=if i=id then .sl k rows else .own i e k rows from by rw[C.dg])
theorem zgk {n i e k:Nat} {rows:List (List C)}:C.sh n (.own i e k rows) = .own (n+i) e k rows:=(show C.sh n (.own i e k rows) = .own (n+i) e k rows from by rw[C.sh])
theorem zlW {v:Value} {fp fo:Nat->Option Nat}:C.re fp fo (.sc v) = .sc v:=(show C.re fp fo (.sc v) = .sc v from by rw[C.re])
theorem zg0 {v:Value} {fp:Nat->Option Nat}:C.sel fp (.sc v) = .sc v:=(show C.sel fp (.sc v) = .sc v from by rw[C.sel])
theorem zhd {l:List UInt8} {fp fo:Nat->Option Nat}:C.re fp fo (.str l) = .str l:=(show C.re fp fo (.str l) = .str l from by rw[C.re])
theorem zcA {l:List UInt8} {fp:Nat->Option Nat}:C.sel fp (.str l) = .str l:=(show C.sel fp (.str l) = .str l from by rw[C.sel])
theorem zla {k:Nat} {rows:List (List C)} {fp fo:Nat->Option Nat}:C.re fp fo (.sl k rows) = .sl k rows:=(show C.re fp fo (.sl k rows) = .sl k rows from by rw[C.re])
theorem zgW {k:Nat} {rows:List (List C)} {fp:Nat->Option Nat}:C.sel fp (.sl k rows) = .sl k rows:=(show C.sel fp (.sl k rows) = .sl k rows from by rw[C.sel])
theorem zaV {k:Nat} {rows:List (List C)} {fp fo:Nat->Option Nat}:C.re fp fo (.tight k rows) = .tight k rows:=(show C.re fp fo (.tight k rows) = .tight k rows from by rw[C.re])
theorem ziT {cs:List C} {fp fo:Nat->Option Nat}:C.re fp fo (.row cs) = .row cs:=(show C.re fp fo (.row cs) = .row cs from by rw[C.re])
theorem zcC {cs:List C} {fp:Nat->Option Nat}:C.sel fp (.row cs) = .row cs:=(show C.sel fp (.row cs) = .row cs from by rw[C.sel])
theorem zh5 {fp fo:Nat->Option Nat}:C.re fp fo (.any) = .any:=(show C.re fp fo (.any) = .any from by rw[C.re])
theorem zjF {v:Value}:C.fz bx (.sc v) = .sc v:=(show C.fz bx (.sc v) = .sc v from by rw[C.fz])
theorem zii {l:List UInt8}:C.fz bx (.str l) = .str l:=(show C.fz bx (.str l) = .str l from by rw[C.fz])
theorem zkD {k:Nat} {rows:List (List C)}:C.fz bx (.sl k rows) = .sl k rows:=(show C.fz bx (.sl k rows) = .sl k rows from by rw[C.fz])
theorem zaf {k:Nat} {rows:List (List C)}:C.fz bx (.tight k rows) = .tight k rows:=(show C.fz bx (.tight k rows) = .tight k rows from by rw[C.fz])
theorem zh8 {id e k:Nat} {rows:List (List C)}:C.fz bx (.own id e k rows) = .own id e k rows:=(show C.fz bx (.own id e k rows) = .own id e k rows from by rw[C.fz])
theorem zf3 {cs:List C}:C.fz bx (.row cs) = .row cs:=(show C.fz bx (.row cs) = .row cs from by rw[C.fz])
theorem zgs {i off:Nat}:C.fz bx (.ptr i off)=zpR (bx[i]?) off:=(show C.fz bx (.ptr i off)=zpR (bx[i]?) off from by rw[C.fz];rfl)
theorem zlc {off:Nat} {cs:List C}:zpR (some cs) off = .row ((C.frzL cs).drop off):=(rfl)
theorem zbb {f:Fn} {a b:Array Value}:Value.oneCell' (.func f a b)=true:=(rfl)
theorem zhM {id e k:Nat} {rows:List (List C)} {fp fo:Nat->Option Nat}:C.re fp fo (.own id e k rows)=zoL (fo id) e k rows:=(show C.re fp fo (.own id e k rows)=zoL (fo id) e k rows from by rw[C.re];rfl)
theorem zh1 {i off:Nat} {fp fo:Nat->Option Nat}:C.re fp fo (.ptr i off)=zmd (fp i) off:=(show C.re fp fo (.ptr i off)=zmd (fp i) off from by rw[C.re];rfl)
theorem zdi {i off:Nat} {fp:Nat->Option Nat}:C.sel fp (.ptr i off)=zmd (fp i) off:=(show C.sel fp (.ptr i off)=zmd (fp i) off from by rw[C.sel];rfl)
theorem zlj {j e k:Nat} {rows:List (List C)}:zoL (some j) e k rows = .own j e k rows:=(rfl)
theorem zl2 {e k:Nat} {rows:List (List C)}:zoL none e k rows = .sl k rows:=(rfl)
theorem zkg {j off:Nat}:zmd (some j) off = .ptr j off:=(rfl)
theorem zlM {off:Nat}:zmd none off = .any:=(rfl)
theorem zjX {v:Value} {fr:Fr}:C.fy nx fr bx (.sc v) = .sc v:=(show C.fy nx fr bx (.sc v) = .sc v from by rw[C.fy])
theorem zlr {k:Nat} {rows:List (List C)} {fr:Fr}:C.fy nx fr bx (.sl k rows) = .sl k rows:=(show C.fy nx fr bx (.sl k rows) = .sl k rows from by rw[C.fy])
theorem zkr {i off k n cap:Nat} {fr:Fr}:C.fy nx fr bx (.bs i off k n cap)=Vw nx fr i off k n cap:=(show C.fy nx fr bx (.bs i off k n cap)=Vw nx fr i off k n cap from by rw[C.fy])
theorem zf6 {i off k n cap i2 e k2 cap2:Nat} {rows:List (List C)} {r:Fr}:Vw nx ((i2,e,k2,rows,cap2) :: r) i off k n cap=if i=i2/\off=0/\k=k2/\n=rows.length/\cap=cap2 then .own nx e k2 rows else Vw (nx+1) r i off k n cap:=(show Vw nx ((i2,e,k2,rows,cap2) :: r) i off k n cap=if i=i2/\off=0/\k=k2/\n=rows.length/\cap=cap2 then .own nx e k2 rows else Vw (nx+1) r i off k n cap from by rw[Vw])
theorem ziG {cs:List C} {fp fo:Nat->Option Nat}:C.re fp fo (.agg cs) = .agg (C.reL fp fo cs):=(show C.re fp fo (.agg cs) = .agg (C.reL fp fo cs) from by rw[C.re])
theorem ziw {cs:List C} {fp fo:Nat->Option Nat}:C.re fp fo (.tup cs) = .tup (C.reL fp fo cs):=(show C.re fp fo (.tup cs) = .tup (C.reL fp fo cs) from by rw[C.re])
theorem zgw {fn:Fn} {fs cs:List C} {fp fo:Nat->Option Nat}:C.re fp fo (.clo fn fs cs) = .clo fn (C.reL fp fo fs) (C.reL fp fo cs):=(show C.re fp fo (.clo fn fs cs) = .clo fn (C.reL fp fo fs) (C.reL fp fo cs) from by rw[C.re])
theorem zdE {fp fo:Nat->Option Nat}:C.reL fp fo [] = []:=(show C.reL fp fo [] = [] from by rw[C.reL])
theorem zaY {r:List C} {fp fo:Nat->Option Nat}:C.reL fp fo (c :: r)=C.re fp fo c :: C.reL fp fo r:=(show C.reL fp fo (c :: r)=C.re fp fo c :: C.reL fp fo r from by rw[C.reL])
theorem zdg {cs:List C} {fp:Nat->Option Nat}:C.sel fp (.agg cs) = .agg (C.selL fp cs):=(show C.sel fp (.agg cs) = .agg (C.selL fp cs) from by rw[C.sel])
theorem zeG {fn:Fn} {fs cs:List C} {fp:Nat->Option Nat}:C.sel fp (.clo fn fs cs) = .clo fn (C.selL fp fs) (C.selL fp cs):=(show C.sel fp (.clo fn fs cs) = .clo fn (C.selL fp fs) (C.selL fp cs) from by rw[C.sel])
theorem zal {fp:Nat->Option Nat}:C.selL fp [] = []:=(show C.selL fp [] = [] from by rw[C.selL])
theorem xg {r:List C} {fp:Nat->Option Nat}:C.selL fp (c :: r)=C.sel fp c :: C.selL fp r:=(show C.selL fp (c :: r)=C.sel fp c :: C.selL fp r from by rw[C.selL])
theorem zgL {cs:List C} :C.fz bx (.agg cs) = .agg (C.fzL bx cs):=(show C.fz bx (.agg cs) = .agg (C.fzL bx cs) from by rw[C.fz])
theorem zh0 {cs:List C} :C.fz bx (.tup cs) = .tup (C.fzL bx cs):=(show C.fz bx (.tup cs) = .tup (C.fzL bx cs) from by rw[C.fz])
theorem zf7 {fn:Fn} {fs cs:List C} :C.fz bx (.clo fn fs cs) = .clo fn (C.fzL bx fs) (C.fzL bx cs):=(show C.fz bx (.clo fn fs cs) = .clo fn (C.fzL bx fs) (C.fzL bx cs) from by rw[C.fz])
theorem zeW:C.fzL bx [] = []:=(show C.fzL bx [] = [] from by rw[C.fzL])
theorem za9 {r:List C} :C.fzL bx (c :: r)=C.fz bx c :: C.fzL bx r:=(show C.fzL bx (c :: r)=C.fz bx c :: C.fzL bx r from by rw[C.fzL])
theorem zgY {cs:List C} {fr:Fr}:C.fy nx fr bx (.agg cs) = .agg (C.fyL nx fr bx cs):=(show C.fy nx fr bx (.agg cs) = .agg (C.fyL nx fr bx cs) from by rw[C.fy])
theorem zhL {cs:List C} {fr:Fr}:C.fy nx fr bx (.tup cs) = .tup (C.fyL nx fr bx cs):=(show C.fy nx fr bx (.tup cs) = .tup (C.fyL nx fr bx cs) from by rw[C.fy])
theorem zfw {fr:Fr}:C.fyL nx fr bx [] = []:=(show C.fyL nx fr bx [] = [] from by rw[C.fyL])
theorem zaw {r:List C} {fr:Fr}:C.fyL nx fr bx (c :: r)=C.fy nx fr bx c :: C.fyL nx fr bx r:=(show C.fyL nx fr bx (c :: r)=C.fy nx fr bx c :: C.fyL nx fr bx r from by rw[C.fyL])
theorem zcH {cs:List C}:C.frz (.agg cs) = .agg (C.frzL cs):=(show C.frz (.agg cs) = .agg (C.frzL cs) from by rw[C.frz])
theorem ze5 {fn:Fn} {fs cs:List C}:C.frz (.clo fn fs cs) = .clo fn (C.frzL fs) (C.frzL cs):=(show C.frz (.clo fn fs cs) = .clo fn (C.frzL fs) (C.frzL cs) from by rw[C.frz])
theorem zbe:C.frzL [] = []:=(show C.frzL [] = [] from by rw[C.frzL])
theorem xD {r:List C}:C.frzL (c :: r)=C.frz c :: C.frzL r:=(show C.frzL (c :: r)=C.frz c :: C.frzL r from by rw[C.frzL])
theorem zgn {cs:List C} {id:Nat}:C.dg id (.agg cs) = .agg (C.dgL id cs):=(show C.dg id (.agg cs) = .agg (C.dgL id cs) from by rw[C.dg])
theorem ziP {cs:List C} {id:Nat}:C.dg id (.tup cs) = .tup (C.dgL id cs):=(show C.dg id (.tup cs) = .tup (C.dgL id cs) from by rw[C.dg])
theorem zgu {fn:Fn} {fs cs:List C} {id:Nat}:C.dg id (.clo fn fs cs) = .clo fn (C.dgL id fs) (C.dgL id cs):=(show C.dg id (.clo fn fs cs) = .clo fn (C.dgL id fs) (C.dgL id cs) from by rw[C.dg])
theorem zcB {id:Nat}:C.dgL id [] = []:=(show C.dgL id [] = [] from by rw[C.dgL])
theorem zbC {r:List C} {id:Nat}:C.dgL id (c :: r)=C.dg id c :: C.dgL id r:=(show C.dgL id (c :: r)=C.dg id c :: C.dgL id r from by rw[C.dgL])
theorem zhS {cs:List C} {n:Nat}:C.sh n (.agg cs) = .agg (C.shL n cs):=(show C.sh n (.agg cs) = .agg (C.shL n cs) from by rw[C.sh])
theorem zg5 {cs:List C} {n:Nat}:C.sh n (.tup cs) = .tup (C.shL n cs):=(show C.sh n (.tup cs) = .tup (C.shL n cs) from by rw[C.sh])
theorem zid {fn:Fn} {fs cs:List C} {n:Nat}:C.sh n (.clo fn fs cs) = .clo fn (C.shL n fs) (C.shL n cs):=(show C.sh n (.clo fn fs cs) = .clo fn (C.shL n fs) (C.shL n cs) from by rw[C.sh])
theorem zeM {n:Nat}:C.shL n [] = []:=(show C.shL n [] = [] from by rw[C.shL])
theorem zba {r:List C} {n:Nat}:C.shL n (c :: r)=C.sh n c :: C.shL n r:=(show C.shL n (c :: r)=C.sh n c :: C.shL n r from by rw[C.shL])
theorem zbz {id:Nat}:uT id [] = []:=(rfl)
theorem znP {id u:Nat} {r:List (Nat×C)}:uT id ((u,c) :: r)=(u,c.dg id) :: uT id r:=(rfl)
theorem za3 {id:Nat}:MV id [] = []:=(rfl)
theorem znS {id:Nat} {cs:List C} {r:List (List C)}:MV id (cs :: r)=C.dgL id cs :: MV id r:=(rfl)
theorem yn {l:List UInt8}:C.cellB (.str l)=true:=(rfl)
theorem yl {l:List UInt8}:C.partB (.str l)=true:=(rfl)
theorem yt {l:List UInt8}:C.cells (.str l) = [.str l]:=(rfl)
theorem za7 {k:Nat} {rows:List (List C)}:C.cellB (.sl k rows)=true:=(rfl)
theorem zaL {k:Nat} {rows:List (List C)}:C.partB (.sl k rows)=true:=(rfl)
theorem uV {k:Nat} {rows:List (List C)}:C.cells (.sl k rows) = [.sl k rows]:=(rfl)
theorem GA {k:Nat} {rows:List (List C)}:C.cellB (.tight k rows)=true:=(rfl)
theorem Ge {k:Nat} {rows:List (List C)}:C.partB (.tight k rows)=true:=(rfl)
theorem HS {k:Nat} {rows:List (List C)}:C.cells (.tight k rows) = [.tight k rows]:=(rfl)
theorem yo {id e k:Nat} {rows:List (List C)}:C.cellB (.own id e k rows)=true:=(rfl)
theorem xt {id e k:Nat} {rows:List (List C)}:C.partB (.own id e k rows)=true:=(rfl)
theorem yX {id e k:Nat} {rows:List (List C)}:C.cells (.own id e k rows) = [.own id e k rows]:=(rfl)
theorem y7 {fn:Fn} {fs cs:List C}:C.cellB (.clo fn fs cs)=true:=(rfl)
theorem yG {fn:Fn} {fs cs:List C}:C.partB (.clo fn fs cs)=true:=(rfl)
theorem xh {fn:Fn} {fs cs:List C}:C.cells (.clo fn fs cs) = [.clo fn fs cs]:=(rfl)
theorem uP {v:Value}:C.cellB (.sc v)=v.oneCell':=(rfl)
theorem zaP {v:Value}:C.partB (.sc v)=v.oneCell':=(rfl)
theorem zbp {v:Value}:C.cells (.sc v) = [.sc v]:=(rfl)
theorem xY {cs:List C}:C.partB (.agg cs)=true:=(rfl)
theorem M2 {cs:List C}:C.cells (.agg cs)=cs:=(rfl)
theorem zdZ {k:IntKind} {n:Int}:Value.oneCell' (.int k n)=true:=(rfl)
theorem zbJ {b:Bool}:Value.oneCell' (.bool b)=true:=(rfl)
theorem xw {a:Option Addr} {n m:Nat}:Value.oneCell' (.slice a n m)=true:=(rfl)
theorem Nv {s:ByteArray}:Value.oneCell' (.string s)=true:=(rfl)
theorem zkl {k:Nat} {cs:List C}:X6 k 0 cs = []:=(rfl)
theorem zlw {k n:Nat} {cs:List C}:X6 k (n+1) cs=cs.take k :: X6 k n (cs.drop k):=(rfl)
theorem zlV {i:Nat}:VF i [] = []:=(rfl)
theorem zmq {i:Nat} {r:List C}:VF i (c :: r)=(i,c) :: VF (i+1) r:=(rfl)
theorem zdy:zj7 (.sc (.bool true)) X Y ⟨⟩ ⟨⟩=X:=zgv
theorem uZ:zj7 (.sc (.bool false)) X Y ⟨⟩ ⟨⟩=Y:=zfP
theorem br {b:Bool} (hx:b=true->X) (hy:b=false->Y):zj7 (.sc (.bool b)) X Y ⟨⟩ ⟨⟩:=ABr.mk hx hy
theorem jo {f:FuncId} {args fargs a1:List C} {fbx:List (List C)} {q:Nat} {post:C->List (List C)->Nat->Prop} (ι κ:List Nat) (hf:JT P G f a1 fbx q post) (hq:κ.length=q) (hι:ι.Nodup) (hκ:κ.Nodup) (hb:∀ i∈ι,i<bx.length)
  (ha:C.reL (Xr ι) (Xr κ) args=a1) (hx:(ι.map fun i=>C.reL (Xr ι) (Xr κ) (bx.getD i []))=fbx) (hK:∀ r fbx' n,post r fbx' n->K3 (r.re (upB ι bx.length) (upO nx)) (QX ι κ fbx' n ⟨tm,bx,nx,lg⟩)):Qp P G f args fargs ⟨tm,bx,nx,lg⟩ K3 ⟨⟩:=
 .inr <| .inr <| .inr <| .inl ⟨ι,κ,post,hι,hκ,hb,by rw[ha,hq];exact hx▸hf,hK⟩
theorem zlf {K4:C->List (List C)->Nat->Prop} {f:FuncId} {args a1:List C} {fbx:List (List C)} {post:C->List (List C)->Nat->Prop} (ι:List Nat) (hf:JT P G f a1 fbx 0 post) (hι:ι.Nodup) (hb:∀ i∈ι,i<bx.length)
  (ha:C.reL (Xr ι) (Xr []) args=a1) (hx:(ι.map fun i=>C.reL (Xr ι) (Xr []) (bx.getD i []))=fbx) (hK:∀ r fbx' n,post r fbx' n->K4 (r.re (upB ι bx.length) (upO nx)) (QX ι [] fbx' n ⟨tm,bx,nx,lg⟩).bx (nx+n)):zp8 P G f args ⟨tm,bx,nx,lg⟩ K4 ⟨⟩:=
 ⟨ι,post,hι,hb,by rw[ha];exact hx▸hf,hK⟩
theorem zkn {f:FuncId} {args fargs:List C} {r:C} (hf:zpK P f args bx r) (hK:K3 r ⟨tm,bx,nx,lg⟩):Qp P G f args fargs ⟨tm,bx,nx,lg⟩ K3 ⟨⟩:=.inr <| .inr <| .inr <| .inr ⟨r,hf,hK⟩
theorem zb8 {e s1 b1 k by' m i off n cap:Nat} {kd:LK} {z1 z:Option (List Value)} {xs cs:List C} (hl:lay P t=some ⟨.slice e,s1,b1,z1⟩) (hle:lay P e=some ⟨kd,k,by',z⟩) (hx:d.xs? k bx=some (m,xs)) (hb:bx[i]?=some cs) (hxl:xs.length=m*k) (hfit:off+n*k<=cs.length)
  (hK:K3 (.sc (.int .i64 ((min m n:Nat):Int))) ⟨tm,bx.set i (spl cs off (xs.take (min m n*k))),nx,lg⟩):Ne P t (.bs i off k n cap) d ⟨tm,bx,nx,lg⟩ K3 ⟨⟩:=by
 show Qu P t _ _ _ _
 unfold Qu
 simp only[hl,hle,hx,hb]
 exact ⟨trivial,hxl,hfit,hK⟩
theorem znX {e s1 b1 k by' m:Nat} {c:C} {kd:LK} {z1 z:Option (List Value)} {xs:List C} (hl:lay P t=some ⟨.slice e,s1,b1,z1⟩) (hle:lay P e=some ⟨kd,k,by',z⟩) (hx:d.xs? k bx=some (m,xs)) (hc:c.rows? k=some []) (hb:∀ i off k n c',c≠.bs i off k n c') (hxl:xs.length=m*k)
  (hK:K3 (.sc (.int .i64 0)) ⟨tm,bx,nx,lg⟩):Ne P t c d ⟨tm,bx,nx,lg⟩ K3 ⟨⟩:=by
 show Qu P t _ _ _ _
 unfold Qu
 simp only[hl,hle,hx]
 cases c<;>first
  | exact absurd rfl (hb _ _ _ _ _)
  | (simp only[hc];exact ⟨hxl,hK⟩)
theorem zmJ {e s1 b1 k by' i off n cap:Nat} {kd:LK} {z1:Option (List Value)} {z:List Value} {cs:List C} (hl:lay P t=some ⟨.slice e,s1,b1,z1⟩) (hle:lay P e=some ⟨kd,k,by',some z⟩) (hb:bx[i]?=some cs) (hz:z.length=k) (hk:0<k) (h1:(z.all Value.oneCell')=true) (hfit:off+n*k<=cs.length)
  (hK:K3 .any ⟨tm,bx.set i (spl cs off (List.replicate n (z.map zC)).flatten),nx,lg⟩):xG P t (.bs i off k n cap) ⟨tm,bx,nx,lg⟩ K3 ⟨⟩:=by
 show VZ P t _ _ _
 unfold VZ
 simp only[hl,hle,hb]
 exact ⟨trivial,hz,hk,h1,hfit,hK⟩
theorem Gs {e s1 b1 k by' m:Nat} {kd:LK} {z1:Option (List Value)} {z:List Value} {xs:List C} (hl:lay P t=some ⟨.slice e,s1,b1,z1⟩) (hle:lay P e=some ⟨kd,k,by',some z⟩) (hx:d.xs? k bx=some (m,xs)) (hz:z.length=k) (hk:0<k) (h1:(z.all Value.oneCell')=true) (hxl:xs.length=m*k) (hm:0<m) (h63:m<=9223372036854775807) (hby:m*by'<=140737488355328)
  (hK:∀ cap,m<=cap->cap<=9223372036854775807->K3 (.bs bx.length 0 k m cap) ⟨tm,bx++[xs++List.replicate ((cap-m)*k) .any],nx,lg⟩):xX P t (.sc (.slice none 0 0)) d ⟨tm,bx,nx,lg⟩ K3 ⟨⟩:=by
 show Yv P t _ _ _ _
 unfold Yv
 simp only[hl,hle,hx]
 exact ⟨hz,hk,h1,hxl,hm,h63,hby,fun c h1 h2=>hK c h1 (by unfold maxLen at h2;omega)⟩
theorem Qq {e s1 b1 k by' m i off n cap:Nat} {kd:LK} {z1:Option (List Value)} {z:List Value} {xs cs:List C} (hl:lay P t=some ⟨.slice e,s1,b1,z1⟩) (hle:lay P e=some ⟨kd,k,by',some z⟩) (hx:d.xs? k bx=some (m,xs)) (hz:z.length=k) (hk:0<k) (h1:(z.all Value.oneCell')=true) (hxl:xs.length=m*k)
  (hb:bx[i]?=some cs) (hfit:off+cap*k<=cs.length) (hn:n<=cap) (h63:n+m<=9223372036854775807) (hby:(n+m)*by'<=140737488355328)
  (hK1:n+m<=cap->K3 (.bs i off k (n+m) cap) ⟨tm,bx.set i (spl cs (off+n*k) xs),nx,lg⟩)
  (hK2:cap<n+m->∀ c',n+m<=c'->c'<=9223372036854775807->K3 (.bs bx.length 0 k (n+m) c') ⟨tm,bx++[(cs.drop off).take (n*k)++xs++List.replicate ((c'-(n+m))*k) .any],nx,lg⟩):xX P t (.bs i off k n cap) d ⟨tm,bx,nx,lg⟩ K3 ⟨⟩:=by
 show Yv P t _ _ _ _
 unfold Yv
 simp only[hl,hle,hx,hb]
 exact ⟨hz,hk,h1,hxl,trivial,hfit,hn,h63,hby,hK1,fun h c h1 h2=>hK2 h c h1 (by unfold maxLen at h2;omega)⟩
theorem zfm {tn e s1 b1 s2 b2 k by':Nat} {kn kq:IntKind} {kd:LK} {z1 z2:Option (List Value)} {z:List Value} {q:Int} (hl:lay P t=some ⟨.slice e,s1,b1,z1⟩) (hln:lay P tn=some ⟨.int kn,s2,b2,z2⟩) (hle:lay P e=some ⟨kd,k,by',some z⟩) (hz:z.length=k) (hk:0<k) (h1:(z.all Value.oneCell')=true)
  (hq:0<q) (h63:q<=9223372036854775807) (hby:q*by'<=140737488355328) (hK:∀ c',q.toNat<=c'->c'<=maxLen->K3 (.bs bx.length 0 k q.toNat c') ⟨tm,bx++[(List.replicate q.toNat (z.map zC)).flatten++List.replicate ((c'-q.toNat)*k) .any],nx,lg⟩) :
  vD P t tn (.sc (.slice none 0 0)) (.sc (.int kq q)) ⟨tm,bx,nx,lg⟩ K3 ⟨⟩:=by
 show HZ P t tn _ _ _ _
 unfold HZ
 simp only[hl,hln,hle]
 exact ⟨hz,hk,h1,hq,h63,hby,hK⟩
theorem zqr {tn e s1 b1 s2 b2 k by' i off n cap:Nat} {kn kq:IntKind} {kd:LK} {z1 z2:Option (List Value)} {z:List Value} {cs:List C} {q:Int} (hl:lay P t=some ⟨.slice e,s1,b1,z1⟩) (hln:lay P tn=some ⟨.int kn,s2,b2,z2⟩) (hle:lay P e=some ⟨kd,k,by',some z⟩) (hz:z.length=k) (hk:0<k) (h1:(z.all Value.oneCell')=true)
  (hb:bx[i]?=some cs) (hfit:off+cap*k<=cs.length) (hn:n<=cap) (hq:0<q) (h63:(n:Int)+q<=9223372036854775807) (hby:((n:Int)+q)*by'<=140737488355328) (hg:(cap:Int)<n+q)
  (hK:∀ c',n+q.toNat<=c'->c'<=9223372036854775807->K3 (.bs bx.length 0 k (n+q.toNat) c') ⟨tm,bx++[(cs.drop off).take (n*k)++(List.replicate q.toNat (z.map zC)).flatten++List.replicate ((c'-(n+q.toNat))*k) .any],nx,lg⟩):vD P t tn (.bs i off k n cap) (.sc (.int kq q)) ⟨tm,bx,nx,lg⟩ K3 ⟨⟩:=by
 show HZ P t tn _ _ _ _
 unfold HZ
 simp only[hl,hln,hle,hb]
 exact ⟨hz,hk,h1,trivial,hfit,hn,hq,h63,hby,hg,fun c h1 h2=>hK c h1 (by unfold maxLen at h2;omega)⟩
def opB (P:Program) (fn:Func) (code:Code) (b:Nat->List Bool):Bool:=P.follows .mixedOrders&&(!(fn.name == "runtime.NumGoroutine")&&jt fn.ntmps b code)
theorem znl {fn:Func} {code:Code} {b:Nat->List Bool} (h:opB P fn code b=true):P.follows .mixedOrders=true:=(Bool.and_eq_true_iff.1 h).1
theorem zmA {fn:Func} {code:Code} {b:Nat->List Bool} (h:opB P fn code b=true):(fn.name == "runtime.NumGoroutine")=false:=by
 have:=(Bool.and_eq_true_iff.1 (Bool.and_eq_true_iff.1 h).2).1
 simpa using this
theorem znO {fn:Func} {code:Code} {b:Nat->List Bool} (h:opB P fn code b=true):jt fn.ntmps b code=true:=(Bool.and_eq_true_iff.1 (Bool.and_eq_true_iff.1 h).2).2
theorem foF {f:FuncId} {fn:Func} {code:Code} {args:List C} {r:C} {n:Nat} (b:Nat->List Bool) (hf:P.funcs[f]?=some fn)
  (h:ZO P G ⟨0,none,b⟩ code (N4 P fn.results.toList (fun c σ=>∃ (fr:Fr) (src:Src),zbl fr σ.bx/\X8 src=true/\src.length=n/\CLe src 0 (c.fy σ.nx fr σ.bx) r) ⟨⟩) ⟨VF 0 args,[],0,0⟩ ⟨⟩ ⟨⟩) (hb:fn.body=some code:=by rfl) (hN:args.length<=fn.ntmps:=by exact zgZ rfl) (ho:opB P fn code b=true:=by kernel_rfl):Fun P G f args r n:=Fun.of_awpF b (znl ho) hf hb (zmA ho) hN (znO ho) h
theorem foX {f:FuncId} {fn:Func} {code:Code} {args:List C} {bx:List (List C)} {q:Nat} {post:C->List (List C)->Nat->Prop} (b:Nat->List Bool) (hf:P.funcs[f]?=some fn)
  (h:ZO P G ⟨bx.length,none,b⟩ code (N4 P fn.results.toList (fun c σ=>∃ r bx' n,(post r bx' n/\bx.length<=bx'.length)/\∃ src:Src,X8 src=true/\src.length=n/\za src bx'.length σ.bx bx'/\CLe src bx'.length c r) ⟨⟩) ⟨VF 0 args,bx,q,0⟩ ⟨⟩ ⟨⟩) (hb:fn.body=some code:=by rfl) (hN:args.length<=fn.ntmps:=by exact zgZ rfl) (ho:opB P fn code b=true:=by kernel_rfl):JT P G f args bx q post:=JT.of_awp b (znl ho) hf hb (zmA ho) hN (znO ho) h
theorem kr {f:FuncId} {args fargs:List C} {r:C} {n:Nat} (gargs:List C) (hf:Fun P G f gargs r n) (hr:r.freshB=true) (hl:je bx args gargs) (hK:K3 (r.sh nx) ⟨tm,bx,nx+n,lg⟩):Qp P G f args fargs ⟨tm,bx,nx,lg⟩ K3 ⟨⟩:=.inr <| .inr <| .inl ⟨gargs,r,n,hl,hf,hr,hK⟩
theorem call {f:FuncId} {args fargs:List C} {r:C} {n:Nat} (hf:Fun P G f fargs r n) (hK:K3 (r.sh nx) ⟨tm,bx,nx+n,lg⟩):Qp P G f args fargs ⟨tm,bx,nx,lg⟩ K3 ⟨⟩:=.inl ⟨r,n,hf,hK⟩
theorem kl {f:FuncId} {args:List C} {r:C} {n:Nat} (hf:Fun P G f args r n) (hK:K2 (r.sh nx) (nx+n)):yI P G f args nx K2 ⟨⟩:=uH.mk hf hK
theorem Fun.less {f:FuncId} {args args':List C} {r:C} {n:Nat} (hf:Fun P G f args' r n) (hl:ze [] 0 args args'):Fun P G f args r n:=⟨hf.1,fun R vs hg ha=>hf.2 R vs hg (by
 have:=zw.less _ _ _ hl ha
 refine zw.ext (Ext.refl R) ⟨fun i b hb=>?_,fun id x hx=>?_⟩ _ _ this
 ·simp at hb
 ·have hx:Zr [] zH.T id=some x:=hx
  simp[Zr]at hx)⟩
theorem yY {f:FuncId} {args fargs a1:List C} {fbx fbx':List (List C)} {r:C} {n q:Nat} (ι κ:List Nat) (hf:MZ P G f a1 fbx q r fbx' n) (hq:κ.length=q) (hι:ι.Nodup) (hκ:κ.Nodup) (hb:∀ i∈ι,i<bx.length)
  (ha:C.reL (Xr ι) (Xr κ) args=a1) (hx:(ι.map fun i=>C.reL (Xr ι) (Xr κ) (bx.getD i []))=fbx) (hK:K3 (r.re (upB ι bx.length) (upO nx)) (QX ι κ fbx' n ⟨tm,bx,nx,lg⟩)):Qp P G f args fargs ⟨tm,bx,nx,lg⟩ K3 ⟨⟩:=
 .inr <| .inl ⟨ι,κ,r,fbx',n,hι,hκ,hb,by rw[ha,hq];exact hx▸hf,hK⟩
theorem range {A B:Nat->(Exit->St->Prop)->St->Prop} {ps:List Tmp} {f:FuncId} {first cap first' cap':List C} {bx':List (List C)} (items:List (List C)) (sf:Nat->Bool) (m:Nat) (I:Nat->St) (hit:MX P G f first' cap' bx' items) (e1:C.selL (YO m) first=first') (e2:C.selL (YO m) cap=cap') (e3:(bx.drop m).map (C.selL (YO m))=bx')
  (hp:p<=m) (hm:m<=bx.length) (hlen:∀ it∈items,it.length=ps.length) (hI:∀ k,k<=items.length->(I k).bx.length=m) (hw:JS m ⟨[],bx,nx,lg⟩ ((I 0).wt []))
  (hbody:∀ k it,items[k]?=some it->(∀ j,j<k->sf j=false)->A m (zi3 (B m (yD m (U0 m tm) (sf k) (I (k+1)) Q ⟨⟩ ⟨⟩)) ⟨⟩) ((I k).wt (ZM ps it (U0 m tm))))
  (hdone:(∀ j,j<items.length->sf j=false)->Q .normal ((I items.length).wt (U0 m tm))):zeE P G p A B Q ps (.clo (.func f) first cap) ⟨tm,bx,nx,lg⟩ ⟨⟩ ⟨⟩ ⟨⟩:=
 ⟨items,sf,m,I,hp,hm,by rw[e1,e2];exact e3▸hit,hlen,hI,hw,hbody,hdone⟩
theorem loop {B:(Exit->St->Prop)->St->Prop} {ι:Type} (I:ι->St) (ok:ι->Prop) (μ:ι->Nat) (i0:ι) (h0:ok i0) (hw:JS p σ (I i0))
  (hr:∀ i,ok i->B (vz (fun σ'=>∃ j,ok j/\μ j<μ i/\JS p σ' (I j)) Q ⟨⟩ ⟨⟩) (I i)):zeC p B Q σ ⟨⟩ ⟨⟩:=⟨ι,I,ok,μ,i0,h0,hw,hr⟩
theorem fof {f:FuncId} {fn:Func} {code:Code} {args:List C} {r:C} {n:Nat} (b:Nat->List Bool) (hf:P.funcs[f]?=some fn)
  (h:ZO P G ⟨0,none,b⟩ code (N4 P fn.results.toList (fun c σ=>∃ src:Src,X8 src=true/\src.length=n/\CLe src 0 (c.fz σ.bx) r) ⟨⟩) ⟨VF 0 args,[],0,0⟩ ⟨⟩ ⟨⟩) (hb:fn.body=some code:=by rfl) (hN:args.length<=fn.ntmps:=by exact zgZ rfl) (ho:opB P fn code b=true:=by kernel_rfl):Fun P G f args r n:=Fun.of_awp b (znl ho) hf hb (zmA ho) hN (znO ho) h
theorem fon {f:FuncId} {fn:Func} {code:Code} {args:List C} {r:C} {n:Nat} (hf:P.funcs[f]?=some fn)
  (h:ZO P G ⟨0,none,fun _=>[]⟩ code (N4 P fn.results.toList (fun c σ=>∃ src:Src,X8 src=true/\src.length=n/\CLe src 0 (c.fz σ.bx) r) ⟨⟩) ⟨VF 0 args,[],0,0⟩ ⟨⟩ ⟨⟩) (hb:fn.body=some code:=by rfl) (hN:args.length<=fn.ntmps:=by exact zgZ rfl) (ho:opB P fn code (fun _=>[])=true:=by kernel_rfl):Fun P G f args r n:=fof _ hf h hb hN ho
theorem foB {f:FuncId} {fn:Func} {code:Code} {args:List C} {bx bx':List (List C)} {r:C} {q n:Nat} (b:Nat->List Bool) (hf:P.funcs[f]?=some fn)
  (h:ZO P G ⟨bx.length,none,b⟩ code (N4 P fn.results.toList (fun c σ=>∃ src:Src,X8 src=true/\src.length=n/\za src bx'.length σ.bx bx'/\CLe src bx'.length c r) ⟨⟩) ⟨VF 0 args,bx,q,0⟩ ⟨⟩ ⟨⟩) (hb:fn.body=some code:=by rfl) (hN:args.length<=fn.ntmps:=by exact zgZ rfl) (ho:opB P fn code b=true:=by kernel_rfl) (hlen:bx.length<=bx'.length:=by exact zgZ rfl):MZ P G f args bx q r bx' n:=MZ.of_awp b (znl ho) hf hb (zmA ho) hN (znO ho) hlen h
theorem foI {f:FuncId} {fn:Func} {code:Code} {first cap:List C} {bx items:List (List C)} (b:Nat->List Bool) (hf:P.funcs[f]?=some fn)
  (h:∀ (l:Nat) (sf:Nat->Bool),ZO P G ⟨0,some ⟨l,items,sf⟩,b⟩ code (N4 P fn.results.toList (fun c σ=>zly items sf σ.lg) ⟨⟩) ⟨VF 0 (first++[.sc (.func (.yield l) #[] #[])]++cap),bx,0,0⟩ ⟨⟩ ⟨⟩) (hb:fn.body=some code:=by rfl) (hN:first.length+1+cap.length<=fn.ntmps:=by exact zgZ rfl) (ho:opB P fn code b=true:=by kernel_rfl):MX P G f first cap bx items:=MX.of_awp b (znl ho) hf hb (zmA ho) hN (znO ho) h
theorem zp2 {i m k n cap b:Nat} {cs xs:List C} {z1:List Value} (A:List C) (hbx:bx[i]?=some cs) (h1:z1.length=k) (h2:0<k) (h3:(z1.all Value.oneCell')=true) (h4:0<m) (hp:p<=i) (hl:cs.length=cap*k) (hn:n<=cap) (hc:cap<=9223372036854775807)
  (h5:n+m<=9223372036854775807) (h6:(n+m)*b<=140737488355328) (hA:C.reL (JR i) some (cs.take (n*k)++xs)=A)
  (hK:∀ c',n+m<=c'->c'<=9223372036854775807->K3 (.bs i 0 k (n+m) c') ⟨kx (JR i) some tm,Zf i (A++List.replicate ((c'-(n+m))*k) .any) bx,nx,lg⟩):zmH (some (m,xs)) p k b z1 (.bs i 0 k n cap) ⟨tm,bx,nx,lg⟩ K3 ⟨⟩:=by
 refine ⟨h1,h2,h3,h4,?_⟩
 simp only[hbx]
 exact ⟨trivial,hp,hl,hn,hc,h5,h6,fun c' q1 q2=>by rw[hA];exact hK c' q1 (by unfold maxLen at q2;omega)⟩
theorem zaJ (k:Nat):((k:Int)+1).toNat=k+1:=by omega
theorem zin.mk {B:(Exit->St->Prop)->St->Prop} {ι:Type} (I:ι->St) (ok:ι->Prop) (μ:ι->Nat) (i0:ι) (h0:ok i0) (hw:JS p σ (I i0))
  (hr:∀ i,ok i->B (zkZ (fun σ'=>∃ j,ok j/\μ j<μ i/\JS p σ' (I j)) Q) (I i)):zin p B Q σ:=⟨ι,I,ok,μ,i0,h0,hw,hr⟩
end
attribute [push_cast] eq_self iff_self List.append_eq zpA zq0 zqI zqp zqq zpd zpF zph zpo zbd zpj zlt ziC zmB zmU zoz zm1 znV zkU zjy zoq zkB zmu zoa zjP zpW zm2 zjA znh zoW zoO znJ zjD zmx zg6 zkE zgO zfR zf9 zhj zih zec ze1 zfH zgI znw zoj zod znn zc9 x0 zqB ziS zkX zlz zm8 zm7 M6 zad zdr Nb NL yB zbD Nn ziA xL u7 zke zj3 zn5 zmW znx zmN znk znm zj4 zmi zgK zhF zhq zgF ziB zlG znt zmM zj8 zjH zbh za6 yT yM U5 kp HL zok zlx zhg ziN zaQ zao zgV ziM zdf zcW ziX ziy Mp MO zfM zfn zgC zhO yg Mc ze7 zcj GL H6 zcw zcb Gi Hr zc7 zeq M3 xl zea zcm zkm zjC xU zoy zkf zaE znY zhW uO zm3 uI zgS ziH zcL zl5 zo0 ziF zcv zbr zd8 zlD zdv zhX zas zb7 xT yJ zmS xK MP xq Hz M8 Ng zew zfF zfs MU zcF GZ zfl zbu zdK zcE ziR zaT zgN zhl zeg zeH zdB zeB zd7 zb4 zdw zdj zbX zd1 zfe zff zfp ze0 zfL zhm zc8 zpu zdA zml zag zbK zjV HT zaM xS za8 Ni MI zjW zgy zcz zqD zpL zhC ziK zqT zbP u9 zci zey zaz zbx zak zeA zcN ziV zhi zhV zhc zgD zqE zo8 zpp zp3 zqk zpT zpe zjw znd zkP zkJ zia zjO zkp zmP zmI zbF uJ zay zmO zql zls zqs zpQ zmm zqO zpV zbQ zce ziO zaA zn6 zmL zhH zgA ziv zbc zbL zab zdO zaX znq zat zhT zdn zgd zdF zeO znI znc zlO zhw zqo zj2 zop zj9 zoR zoQ zqz zoU zpg zpw zpf znC zob zq1 zp1 zpz zfk yE zoE zpX zps zn4 zpI zo4 zpq zlP zlY zh6 zmy zoT zpO zjR zno zkA zor zhp zhU ziu zjZ zig zgP zjK zoY zpk zpZ zpS zhG zlR zkI zcr zgg zgi zgb zks zlE zaj zdI zhE ziI ziW zlT zlN zjJ zkk uM zmp uW zfI zed zgH zgp zgk zlW zg0 zhd zcA zla zgW zaV ziT zcC zh5 zjF zii zkD zaf zh8 zf3 zgs zlc zbb zhM zh1 zdi zlj zl2 zkg zlM zjX zlr zkr zf6 ziG ziw zgw zdE zaY zdg zeG zal xg zgL zh0 zf7 zeW za9 zgY zhL zfw zaw zcH ze5 zbe xD zgn ziP zgu zcB zbC zhS zg5 zid zeM zba zbz znP za3 znS yn yl yt za7 zaL uV GA Ge HS yo xt yX y7 yG xh uP zaP zbp xY M2 zdZ zbJ xw Nv zkl zlw zlV zmq zdy uZ
attribute [push_cast] Int.ofNat_eq_natCast Bool.not_false Bool.not_true Bool.true_beq Bool.false_beq beq_self_eq_true Bool.true_and zjz zlh zmj zjL zku List.map_cons List.map_nil List.getElem?_cons_zero List.getElem?_cons_succ List.getElem?_toArray List.getElem?_nil List.drop_zero List.drop_succ_cons List.drop_nil List.take_succ_cons List.take_zero List.take_nil List.length_cons List.length_nil List.getD_cons_zero List.getD_cons_succ List.set_cons_zero List.set_cons_succ List.cons_append List.nil_append List.append_nil List.all_cons List.all_nil List.tail_cons List.tail_nil List.headD_cons List.headD_nil List.flatten_cons List.flatten_nil List.replicate_succ List.replicate_zero Bool.and_self Bool.and_true Bool.true_and Bool.not_true Bool.not_false Option.bind_some Option.map_some Option.map_none if_true if_false true_and and_true and_self decide_true decide_false Int.ofNat_le Int.ofNat_lt Int.natCast_inj zaJ Int.toNat_natCast Nat.zero_add Nat.add_zero List.toList_toArray Int.add_zero Int.zero_add Bool.not_not Int.sub_zero Int.natCast_pos Nat.sub_zero Int.cast_ofNat_Int Nat.one_mul Nat.mul_one
theorem dn {p q r:Src->Prop} (c:r []:=by push_cast -dsimp [zb,za,CLe,ze]) (a:p []:=by rfl) (b:q []:=by rfl):∃ s,p s/\q s/\r s:=⟨[],a,b,c⟩
theorem wks {p:Nat} {σ σ':St} (src:Src) (h4:zb src σ'.bx.length σ.tm σ'.tm:=by push_cast -dsimp [zb,za,CLe,ze]) (h5:za src σ'.bx.length σ.bx σ'.bx:=by push_cast -dsimp [zb,za,CLe,ze]) (h1:X8 src=true:=by rfl) (h2:src.length=σ'.nx:=by rfl)
  (h3:p<=σ'.bx.length:=by first | exact Nat.zero_le _ | exact Nat.le_refl _ | exact zgZ rfl) (h0:σ'.lg=σ.lg:=by rfl):JS p σ σ':=⟨src,h1,h2,h3,h0,h4,h5⟩
theorem wk {p:Nat} {σ σ':St} (h4:zb [] σ'.bx.length σ.tm σ'.tm:=by push_cast -dsimp [zb,za,CLe,ze]) (h5:za [] σ'.bx.length σ.bx σ'.bx:=by push_cast -dsimp [zb,za,CLe,ze]) (h2:([]:Src).length=σ'.nx:=by rfl)
  (h3:p<=σ'.bx.length:=by first | exact Nat.zero_le _ | exact Nat.le_refl _ | exact zgZ rfl) (h0:σ'.lg=σ.lg:=by rfl):JS p σ σ':=⟨[],rfl,h2,h3,h0,h4,h5⟩
theorem an {a b:Prop} (k:b) (h:a:=by first | omega | (simp only[lS];omega)):a/\b:=⟨h,k⟩
namespace CA
theorem cl {P:Program} {G:zq} {f:FuncId} {args fargs:List C} {r:C} {n nx lg:Nat} {tm:List (Nat×C)} {bx:List (List C)} {K3:C->St->Prop} (hf:Fun P G f fargs r n) (hK:K3 (r.sh nx) ⟨tm,bx,nx+n,lg⟩):Qp P G f args fargs ⟨tm,bx,nx,lg⟩ K3 ⟨⟩:=call hf hK
end CA
namespace CB
theorem cl {P:Program} {G:zq} {f:FuncId} {args:List C} {r:C} {n nx:Nat} {K2:C->Nat->Prop} (hf:Fun P G f args r n) (hK:K2 (r.sh nx) (nx+n)):yI P G f args nx K2 ⟨⟩:=kl hf hK
end CB
end
section
open Go.RowKit
def C.stayB:C->Bool
 | .sc _ | .str _ | .sl _ _ | .tight _ _ | .row _ | .any=>true
 | _=>false
theorem zge {c:C} (h:c.stayB=true):c.frz=c:=by cases c<;>simp[C.stayB]at h<;>simp[C.frz]
theorem zj0 {c:C} {fp fo:Nat->Option Nat} (h:c.stayB=true):c.re fp fo=c:=by cases c<;>simp[C.stayB]at h<;>simp[C.re]
theorem zj1 {c:C} {id:Nat} (h:c.stayB=true):c.dg id=c:=by cases c<;>simp[C.stayB]at h<;>simp[C.dg]
theorem zkt {c:C} {src:Src} {n:Nat} (h:c.stayB=true):CLe src n c c:=by cases c<;>simp[C.stayB]at h<;>simp[CLe]
theorem V5:∀ {cs:List C},(cs.all C.stayB)=true->C.frzL cs=cs
 | [],_=>by simp[C.frzL]
 | c :: r,h=>by
  simp only[List.all_cons,Bool.and_eq_true]at h
  rw[C.frzL,zge h.1,V5 h.2]
theorem zl {fp fo:Nat->Option Nat}:∀ {cs:List C},(cs.all C.stayB)=true->C.reL fp fo cs=cs
 | [],_=>by simp[C.reL]
 | c :: r,h=>by
  simp only[List.all_cons,Bool.and_eq_true]at h
  rw[C.reL,zj0 h.1,zl h.2]
theorem Gt {id:Nat}:∀ {cs:List C},(cs.all C.stayB)=true->C.dgL id cs=cs
 | [],_=>by simp[C.dgL]
 | c :: r,h=>by
  simp only[List.all_cons,Bool.and_eq_true]at h
  rw[C.dgL,zj1 h.1,Gt h.2]
theorem zp {src:Src} {n:Nat}:∀ {cs:List C},(cs.all C.stayB)=true->ze src n cs cs
 | [],_=>by simp[ze]
 | c :: r,h=>by
  simp only[List.all_cons,Bool.and_eq_true]at h
  rw[ze]
  exact ⟨zkt h.1,zp h.2⟩
theorem zk3 {src:Src} {n:Nat} (c:C):CLe src n c .any:=by cases c<;>simp[CLe]
theorem Xa {src:Src} {n:Nat}:∀ {cs:List C} {m:Nat},cs.length=m->ze src n cs (List.replicate m .any)
 | [],_,h=>by subst h;simp[ze]
 | c :: r,_,h=>by
  subst h
  rw[List.length_cons,List.replicate_succ,ze]
  exact ⟨zk3 c,Xa rfl⟩
theorem zdc {src:Src} {n:Nat}:∀ {a b c d:List C},ze src n a c->ze src n b d->ze src n (a++b) (c++d)
 | [],b,[],d,_,h=>h
 | [],b,x :: c,d,h,_=>by simp[ze]at h
 | x :: a,b,[],d,h,_=>by simp[ze]at h
 | x :: a,b,y :: c,d,h,h'=>by
  rw[List.cons_append,List.cons_append,ze]
  rw[ze]at h
  exact ⟨h.1,zdc h.2 h'⟩
def qn (k:Nat) (rows:List (List C)) (c:Nat):List C:=rows.flatten++List.replicate ((c-rows.length)*k) .any
theorem qf {k:Nat}:∀ {rows:List (List C)},(∀ r∈rows,r.length=k)->rows.flatten.length=rows.length*k
 | [],_=>by simp
 | r :: rs,h=>by
  rw[List.flatten_cons,List.length_append,h r List.mem_cons_self,qf fun x hx=>h x (List.mem_cons_of_mem _ hx),List.length_cons,Nat.succ_mul,Nat.add_comm]
theorem Jv {k c:Nat} {rows:List (List C)} (h:∀ r∈rows,r.length=k) (hc:rows.length<=c):(qn k rows c).length=c*k:=by
 unfold qn
 rw[List.length_append,qf h,List.length_replicate,←Nat.add_mul]
 congr 1;omega
abbrev qV (rows:List (List C)):Prop:=∀ r∈rows,(r.all C.stayB)=true
theorem JZ {rows:List (List C)} (h:qV rows):(rows.flatten.all C.stayB)=true:=by
 rw[List.all_eq_true]
 intro c hc
 obtain ⟨r,hr,hc⟩:=List.mem_flatten.1 hc
 exact List.all_eq_true.1 (h r hr) c hc
theorem zD {k c:Nat} {rows:List (List C)} (h:qV rows):((qn k rows c).all C.stayB)=true:=by
 unfold qn
 rw[List.all_append,JZ h,Bool.true_and,List.all_eq_true]
 intro c hc
 obtain ⟨_,rfl⟩:=List.mem_replicate.1 hc
 rfl
theorem QZ {k n:Nat}:∀ {rows:List (List C)},(∀ r∈rows,r.length=k)->rows.flatten.take (n*k)=(rows.take n).flatten:=by
 induction n with
 | zero=>intro rows _;simp
 | succ n ih =>
  intro rows h
  cases rows with
  | nil=>simp
  | cons r rs =>
   have hr:=h r List.mem_cons_self
   rw[List.take_succ_cons,List.flatten_cons,List.flatten_cons,List.take_append,List.take_of_length_le (by rw[hr,Nat.succ_mul];omega),hr,show (n+1)*k-k=n*k by rw[Nat.succ_mul];omega,ih fun x hx=>h x (List.mem_cons_of_mem _ hx)]
theorem UT {k n:Nat}:∀ {rows:List (List C)},(∀ r∈rows,r.length=k)->rows.flatten.drop (n*k)=(rows.drop n).flatten:=by
 induction n with
 | zero=>intro rows _;simp
 | succ n ih =>
  intro rows h
  cases rows with
  | nil=>simp
  | cons r rs =>
   have hr:=h r List.mem_cons_self
   rw[List.drop_succ_cons,List.flatten_cons,List.drop_append,List.drop_of_length_le (by rw[hr,Nat.succ_mul];omega),hr,List.nil_append,show (n+1)*k-k=n*k by rw[Nat.succ_mul];omega,ih fun x hx=>h x (List.mem_cons_of_mem _ hx)]
theorem Jr {src:Src} {m k c:Nat} {rows:List (List C)} {cs:List C} (hk:∀ r∈rows,r.length=k) (hs:qV rows) (hc:rows.length<=c) (hl:cs.length=c*k) (ht:cs.take (rows.length*k)=rows.flatten):ze src m cs (qn k rows c):=by
 have h1:cs=rows.flatten++cs.drop (rows.length*k):=by rw[←ht,List.take_append_drop]
 rw[h1]
 unfold qn
 refine zdc (zp (JZ hs)) (Xa ?_)
 rw[List.length_drop,hl,←Nat.sub_mul]
theorem Qr {cs xs:List C} {p:Nat} (h:p+xs.length<=cs.length):(spl cs p xs).length=cs.length:=by
 simp[spl];omega
theorem VY {cs L X:List C} {p q:Nat} (hp:p<=L.length) (hq:q=p+X.length) (hL:cs.take L.length=L) (hc:L.length+X.length<=cs.length) :
  (spl (spl cs q (L.drop p)) p X).take (L.length+X.length)=L.take p++(X++L.drop p):=by
 subst hq
 apply List.ext_getElem?
 intro j
 have hcur:∀ j,j<L.length->cs[j]?=L[j]?:=fun j hj=>by
  have h:=congrArg (fun l=>l[j]?) hL
  simp only[List.getElem?_take,if_pos hj]at h
  exact h
 simp only[spl,List.getElem?_take,List.getElem?_append,List.getElem?_drop,List.length_take,List.length_append,List.length_drop]
 repeat' (first | split | omega)
 all_goals (first | rfl | omega | exact (List.getElem?_eq_none (by omega)).symm | (congr 1;omega) | (rw[hcur _ (by omega)];first | done | (congr 1;omega)) | (symm;rw[List.getElem?_eq_none];simp;omega) | (rw[List.getElem?_eq_none];simp;omega) | skip)
theorem Hq {cs L X:List C} {p q:Nat} (hp:p<=L.length) (hq:q=p+X.length) (hL:cs.take p=L.take p) (hc:L.length+X.length<=cs.length) :
  (spl (spl cs p X) q (L.drop p)).take (L.length+X.length)=L.take p++(X++L.drop p):=by
 subst hq
 apply List.ext_getElem?
 intro j
 have hcur:∀ j,j<p->cs[j]?=L[j]?:=fun j hj=>by
  have h:=congrArg (fun l=>l[j]?) hL
  simp only[List.getElem?_take,if_pos hj]at h
  exact h
 simp only[spl,List.getElem?_take,List.getElem?_append,List.getElem?_drop,List.length_take,List.length_append,List.length_drop]
 repeat' (first | split | omega)
 all_goals (first | rfl | omega | exact (List.getElem?_eq_none (by omega)).symm | (congr 1;omega) | (rw[hcur _ (by omega)];first | done | (congr 1;omega)) | (symm;rw[List.getElem?_eq_none];simp;omega) | (rw[List.getElem?_eq_none];simp;omega) | skip)
theorem zkj {cs L Z:List C} {p q n:Nat} (hq:q<=L.length) (hpq:p<=q) (hL:cs.take L.length=L) (hn:n=p+(L.length-q)) (hc:L.length<=cs.length) (hz:n+Z.length<=cs.length) :
  (spl (spl cs p (L.drop q)) n Z).take n=L.take p++L.drop q:=by
 subst hn
 apply List.ext_getElem?
 intro j
 have hcur:∀ j,j<L.length->cs[j]?=L[j]?:=fun j hj=>by
  have h:=congrArg (fun l=>l[j]?) hL
  simp only[List.getElem?_take,if_pos hj]at h
  exact h
 simp only[spl,List.getElem?_take,List.getElem?_append,List.getElem?_drop,List.length_take,List.length_append,List.length_drop]
 repeat' (first | split | omega)
 all_goals (first | rfl | omega | exact (List.getElem?_eq_none (by omega)).symm | (congr 1;omega) | (rw[hcur _ (by omega)];first | done | (congr 1;omega)) | (symm;rw[List.getElem?_eq_none];simp;omega) | (rw[List.getElem?_eq_none];simp;omega) | skip)
theorem x8 {P:Program} {f:FuncId} {fn:Func} {t e tR:TypeId} {s1 b1 k by':Nat} {kd:LK} {z1 z:Option (List Value)} (hf:P.funcs[f]?=some fn) (hname:(fn.name == "runtime.NumGoroutine")=false) (hb:fn.body.isNone=true) (hn:Extern.findNext fn=none)
  (he:Extern.find fn=some (Extern.SlicesOverlaps.overlaps #[t,t] #[tR])) (hl:lay P t=some ⟨.slice e,s1,b1,z1⟩) (hle:lay P e=some ⟨kd,k,by',z⟩) {id e' k' i off n c:Nat} {rows bx:List (List C)} {cs:List C} (hbx:bx[i]?=some cs) (hcs:cs≠[]) (hrows:rows≠[]) (hn0:0<n) :
  zpK P f [.own id e' k' rows,.bs i off k n c] bx (.sc (.bool false)):=by
 intro B R L vs hB hO hr
 obtain ⟨v1,us,rfl,h1,hr⟩:=zd.1 hr
 obtain ⟨v2,us,rfl,h2,hr⟩:=zd.1 hr
 rw[zj]at hr
 subst hr
 refine ⟨.bool false,?_,zo.2 rfl⟩
 rw[run_callFunc_extern hf hname hb hn he]
 have ht:=z7 hl rfl
 have hz:∀ w,(Go.sizeOf e).run P w = .ok k w:=fun w=>qD hle w
 obtain ⟨hT,a,cap,hv1,_⟩:=YA.1 h1
 obtain ⟨b,hbi,ad,rfl,had⟩:=qQ.1 h2
 obtain ⟨us,ty,e1,e2,e3,e4⟩:=hB.box i b cs hbi hbx
 have hsz:us.size≠0:=by
  have:=zx e2
  simp only[Array.length_toList]at this
  rw[this]
  exact fun h=>hcs (List.eq_nil_of_length_eq_zero h)
 rcases hO.own id e' k' v1 hT with hnil | ⟨g,n',cap',cur,ty',q1,q2,q3,q4,q5,q6,q7,q8⟩ | ⟨_,_,_,_,hmap,_⟩
 rotate_right
 ·rw[hv1]at hmap;unfold VV at hmap;cases hmap
 ·rw[hnil]at hv1
  obtain ⟨_,h0,_⟩:=Value.slice.inj hv1
  exact absurd (List.eq_nil_of_length_eq_zero h0.symm) hrows
 ·rw[q1]
  obtain rfl:=had (by omega)
  have hne:g≠b:=fun h=>q7 (h▸List.mem_of_getElem? hbi)
  rw[Lib.run_overlaps_apart R.w t tR e ht k hz ⟨g,0,none⟩ ⟨b,off,none⟩ n' cap' n c hne ty' ty cur.size us.size (by simp[World.shape?,q3]) (by simp[World.shape?,e1]) hsz (frozen_of_row R.w g 0 _ _ q3) (frozen_of_row R.w g _ _ _ q3)]
  rfl
theorem Vh {m k:Nat} {z:List C} (hz:z.length=k):(List.replicate m z).flatten.length=m*k:=by
 have h:=qf (k:=k) (rows:=List.replicate m z) fun r hr=>by rw[(List.mem_replicate.1 hr).2];exact hz
 rw[h,List.length_replicate]
section
variable {P:Program} {t tn e s1 b1 s2 b2 k by' m i off n cap nx lg:Nat} {kd:LK} {kn kq:IntKind} {z1 z2 z3:Option (List Value)} {z:List Value} {cs xs:List C} {bx:List (List C)} {tm:List (Nat×C)} {d:C} {q:Int} {K3:C->St->Prop}
theorem zkv (hl:lay P t=some ⟨.slice e,s1,b1,z1⟩) (hln:lay P tn=some ⟨.int kn,s2,b2,z2⟩) (hle:lay P e=some ⟨kd,k,by',some z⟩) (hz:z.length=k) (hk:0<k) (h1:(z.all Value.oneCell')=true)
  (hb:bx[i]?=some cs) (hfit:off+cap*k<=cs.length) (hn:n<=cap) (hq:0<q) (h63:(n:Int)+q<=9223372036854775807) (hby:((n:Int)+q)*by'<=140737488355328) (hg:(cap:Int)<n+q)
  (hK:∀ c' B,n+q.toNat<=c'->c'<=9223372036854775807->B.length=c'*k->B.take (n*k)=(cs.drop off).take (n*k)->K3 (.bs bx.length 0 k (n+q.toNat) c') ⟨tm,bx++[B],nx,lg⟩):vD P t tn (.bs i off k n cap) (.sc (.int kq q)) ⟨tm,bx,nx,lg⟩ K3 ⟨⟩:=by
 have hnk:n*k<=cap*k:=Nat.mul_le_mul_right _ hn
 refine zqr hl hln hle hz hk h1 hb hfit hn hq h63 hby hg fun c' g1 g2=>hK c' _ g1 g2 ?_ ?_
 ·rw[List.length_append,List.length_append,Vh (k:=k) (by simpa using hz),List.length_replicate,List.length_take,List.length_drop,Nat.min_eq_left (by omega),←Nat.add_mul,←Nat.add_mul]
  congr 1;omega
 ·rw[List.append_assoc,List.take_left' (by rw[List.length_take,List.length_drop];omega)]
theorem Xq (hl:lay P t=some ⟨.slice e,s1,b1,z1⟩) (hle:lay P e=some ⟨kd,k,by',z3⟩) (hx:d.xs? k bx=some (m,xs)) (hb:bx[i]?=some cs) (hxl:xs.length=m*k) (hfit:off+n*k<=cs.length)
  (hK:∀ B,B=spl cs off (xs.take (min m n*k))->B.length=cs.length->K3 (.sc (.int .i64 ((min m n:Nat):Int))) ⟨tm,bx.set i B,nx,lg⟩):Ne P t (.bs i off k n cap) d ⟨tm,bx,nx,lg⟩ K3 ⟨⟩:=
 zb8 hl hle hx hb hxl hfit (hK _ rfl (by
  have h1:min m n*k<=n*k:=Nat.mul_le_mul_right _ (Nat.min_le_right _ _)
  exact Qr (by rw[List.length_take];omega)))
theorem zkF (hl:lay P t=some ⟨.slice e,s1,b1,z1⟩) (hle:lay P e=some ⟨kd,k,by',some z⟩) (hb:bx[i]?=some cs) (hz:z.length=k) (hk:0<k) (h1:(z.all Value.oneCell')=true) (hfit:off+n*k<=cs.length)
  (hK:∀ B Z,B=spl cs off Z->Z.length=n*k->B.length=cs.length->K3 .any ⟨tm,bx.set i B,nx,lg⟩):xG P t (.bs i off k n cap) ⟨tm,bx,nx,lg⟩ K3 ⟨⟩:=by
 have hZ:(List.replicate n (z.map zC)).flatten.length=n*k:=Vh (by simpa using hz)
 exact zmJ hl hle hb hz hk h1 hfit (hK _ _ rfl hZ (Qr (by omega)))
end
theorem QJ {k i off n c:Nat} {bx:List (List C)} {cs:List C} (hb:bx[i]?=some cs) (h:off+n*k<=cs.length):C.xs? k bx (.bs i off k n c)=some (n,(cs.drop off).take (n*k)):=by
 simp[C.xs?,hb,h]
theorem Y4 {k c i:Nat} {rows:List (List C)} (hk:∀ r∈rows,r.length=k) (hi:i<=rows.length):((qn k rows c).drop (i*k)).take ((rows.length-i)*k)=rows.flatten.drop (i*k):=by
 have hf:=qf hk
 have h1:i*k<=rows.length*k:=Nat.mul_le_mul_right _ hi
 unfold qn
 rw[List.drop_append_of_le_length (by omega),List.take_left' (by rw[List.length_drop,hf,Nat.sub_mul])]
theorem X3 {k i:Nat} {rows:List (List C)} {x:List C} (hk:∀ r∈rows,r.length=k):rows.flatten.take (i*k)++(x++rows.flatten.drop (i*k))=(rows.take i++x :: rows.drop i).flatten:=by
 rw[QZ hk,UT hk];simp
theorem uF {bx:List (List C)} {i e k c:Nat} {rows:List (List C)} {cs:List C} (hb:bx[i]?=some cs) (hc:0<c) (h1:rows.length<=c) (h2:c<=9223372036854775807) (hl:cs.length=c*k) (hk:∀ r∈rows,r.length=k) (hs:(cs.all C.stayB)=true) (ht:cs.take (rows.length*k)=rows.flatten) :
  zbl [(i,e,k,rows,c)] bx:=by
 refine ⟨by simp,fun x hx=>?_⟩
 rw[List.mem_singleton]at hx
 subst hx
 exact ⟨cs,hb,hc,h1,by unfold maxLen;exact h2,hl,hk,by rw[V5 hs];exact ht⟩
theorem zbZ {k c:Nat} {rows:List (List C)} (hk:∀ r∈rows,r.length=k):(qn k rows c).take (rows.length*k)=rows.flatten:=by
 unfold qn;rw[List.take_left' (qf hk)]
theorem zy {bx:List (List C)} {i e k c:Nat} {rows:List (List C)} (hb:bx[i]?=some (qn k rows c)) (hc:0<c) (h1:rows.length<=c) (h2:c<=9223372036854775807) (hk:∀ r∈rows,r.length=k) (hs:qV rows):zbl [(i,e,k,rows,c)] bx:=
 uF hb hc h1 h2 (Jv hk h1) hk (zD hs) (zbZ hk)
theorem ug {k c i:Nat} {rows:List (List C)} {row:List C} (hk:∀ r∈rows,r.length=k) (hr:row.length=k) (hi:i<rows.length):(qn k rows c).take (i*k)++row++(qn k rows c).drop (i*k+k)=qn k (rows.set i row) c:=by
 have hf:=qf hk
 have h1:(i+1)*k<=rows.length*k:=Nat.mul_le_mul_right _ hi
 rw[Nat.succ_mul]at h1
 unfold qn
 rw[List.take_append_of_le_length (by omega),List.drop_append_of_le_length (by omega),←Nat.succ_mul,QZ hk,UT hk,List.length_set,←List.append_assoc]
 congr 1
 rw[List.set_eq_take_append_cons_drop,if_pos hi]
 simp
def RLe:List (List C)->List (List C)->Prop
 | [],[]=>True
 | a :: r,b :: s=>ze [] 0 a b/\RLe r s
 | _,_=>False
theorem RLe.len:∀ {a b:List (List C)},RLe a b->a.length=b.length
 | [],[],_=>rfl
 | _ :: r,_ :: s,h=>by rw[List.length_cons,List.length_cons,RLe.len h.2]
theorem ze.len {src:Src} {n:Nat}:∀ {a b:List C},ze src n a b->a.length=b.length
 | [],[],_=>rfl
 | [],_ :: _,h=>by simp[ze]at h
 | _ :: _,[],h=>by simp[ze]at h
 | _ :: r,_ :: s,h=>by
  rw[ze]at h
  rw[List.length_cons,List.length_cons,ze.len h.2]
theorem zcZ {R:Env} {c d:C} {v:Value} (h:CLe [] 0 c d) (hr:Rep R zH c v):Rep R zH d v:=by
 refine Rep.ext (Ext.refl R) (T:=Jp [] 0 zH) ⟨fun i b hb=>?_,fun id x hx=>?_⟩ _ _ (Rep.less _ _ _ h hr)
 ·simp at hb
 ·have hx:Zr [] zH.T id=some x:=hx
  simp[Zr]at hx
theorem UX {R:Env} {b:Nat}:∀ {cs ds:List C} {o:Nat},ze [] 0 cs ds->zL R cs b o->zL R ds b o
 | [],[],_,_,h=>h
 | [],_ :: _,_,h,_=>by simp[ze]at h
 | _ :: _,[],_,h,_=>by simp[ze]at h
 | c :: r,d :: s,o,h,hr=>by
  rw[ze]at h
  obtain ⟨⟨v,h1,h2,h3,h4⟩,h5⟩:=qj.1 hr
  exact qj.2 ⟨⟨v,h1,h2,zcZ h.1 h3,h4⟩,UX h.2 h5⟩
theorem Ha {R:Env} {k b:Nat}:∀ {a c:List (List C)} {o:Nat},RLe a c->zQ R a k b o->zQ R c k b o
 | [],[],_,_,h=>h
 | x :: r,y :: s,o,h,hr=>by
  unfold zQ at hr ⊢
  exact ⟨(ze.len h.1).symm.trans hr.1,UX h.1 hr.2.1,Ha h.2 hr.2.2⟩
theorem zae {R:Env} {L:Loc} {id e k:Nat} {a c:List (List C)} {v:Value} (h:RLe a c) (hr:Rep R L (.own id e k a) v):Rep R L (.own id e k c) v:=by
 obtain ⟨h1,ad,cap,h2,h3,h4,h5⟩:=YA.1 hr
 refine YA.2 ⟨h1,ad,cap,by rw[h2,h.len],by rw[←h.len];exact h3,h4,?_⟩
 rcases h5 with h5 | ⟨b,o,h5,h6⟩
 ·subst h5
  have:=h.len
  exact .inl (List.eq_nil_of_length_eq_zero (by simpa using this.symm))
 ·exact .inr ⟨b,o,h5,Ha h h6⟩
theorem Fun.resX {P:Program} {G:zq} {f:FuncId} {args:List C} {r r':C} {n:Nat} (hf:Fun P G f args r n) (h:∀ R L v,Rep R L r v->Rep R L r' v):Fun P G f args r' n:=
 ⟨hf.1,fun R vs hg ha=>(hf.2 R vs hg ha).mono fun e w' ⟨v,R',L',h1,h2,h3,h4⟩=>⟨v,R',L',h1,h2,h3,h _ _ _ h4⟩⟩
theorem za0 {R:Env} {L:Loc} {cs ds:List C} {v:Value} (h:∀ vs,zw R L cs vs->zw R L ds vs) (hr:Rep R L (.agg cs) v):Rep R L (.agg ds) v:=by
 obtain ⟨vs,h1,h2⟩:=jN.1 hr
 exact jN.2 ⟨vs,h1,h _ h2⟩
theorem Yq {R:Env} {L:Loc} {c d:C} {cs ds:List C} {vs:List Value} (h:∀ v,Rep R L c v->Rep R L d v) (h':∀ vs,zw R L cs vs->zw R L ds vs) (hr:zw R L (c :: cs) vs):zw R L (d :: ds) vs:=by
 obtain ⟨v,us,rfl,h1,h2⟩:=zd.1 hr
 exact zd.2 ⟨v,us,rfl,h _ h1,h' _ h2⟩
end
section
open Go.RowKit
def zcy (k:Nat) (rows:List (List C)) (r:C) (bx':List (List C)) (n:Nat):Prop:=
 n=0/\((rows≠[]/\∃ c,rows.length<=c/\c<=9223372036854775807/\r = .bs 1 0 k rows.length c/\bx' = [[],qn k rows c])∨(rows = []/\(r = .sc (.slice none 0 0)/\bx' = []∨r = .bs 0 0 k 0 0/\bx' = [[]])))
def zoI (k m:Nat) (ins:List (List C)) (r:C) (bx':List (List C)) (n:Nat):Prop:=
 n=0/\∃ c,ins.length<=c/\c<=9223372036854775807/\(r = .bs 0 0 k ins.length c/\bx' = [qn k ins c]∨r = .bs 1 0 k ins.length c/\bx' = [List.replicate m .any,qn k ins c])
section
variable {G:zq}
theorem X1 (rows:List (List C)) (hk:∀ r∈rows,r.length=6) (hs:qV rows) (hl:rows.length<=100000) :
  JT Tryz.prog G 178 [.sl 6 rows] [] 0 (zcy 6 rows):=by
 refine JT.bySlice (fun h=>?_) (fun h a cap hr=>?_)
 ·refine foX (fun i=>if i=1000000+22 then [true,true] else []) Tryz.func178 ?_;dsimp only[Tryz.f178]
  push_cast -dsimp
  refine ⟨h,Qq Zz ZG rfl rfl (by decide) rfl (qf hk) rfl (Nat.le_refl _) (Nat.le_refl _) (by omega) (by omega) (fun hc=>absurd hc ?_) (fun _ c hc hm=>?_)⟩
  ·have:=List.length_pos_iff.2 h;omega
  ·push_cast -dsimp
   rw[Nat.zero_add]at hc
   refine ⟨_,_,_,⟨⟨rfl,.inl ⟨h,c,hc,hm,rfl,rfl⟩⟩,Nat.zero_le _⟩,[],rfl,rfl,?_,by push_cast -dsimp [zb,za,CLe,ze]⟩
   push_cast -dsimp [zb,za,CLe,ze]
   exact zp (zD hs)
 ·cases a with
  | none =>
   refine foX (fun i=>if i=1000000+22 then [true,true] else []) Tryz.func178 ?_;dsimp only[Tryz.f178]
   push_cast -dsimp [hr,Option.isNone_none]
   exact ⟨_,_,_,⟨⟨rfl,.inr ⟨h,.inl ⟨rfl,rfl⟩⟩⟩,Nat.zero_le _⟩,[],rfl,rfl,by push_cast -dsimp [zb,za,CLe,ze],by push_cast -dsimp [zb,za,CLe,ze]⟩
  | some a =>
   refine foX (fun i=>if i=1000000+22 then [true,true] else []) Tryz.func178 ?_;dsimp only[Tryz.f178]
   push_cast -dsimp [hr,Option.isNone_some]
   have hx:C.xs? 6 [[]] (C.sc (.slice (some a) 0 cap))=some (0,[]):=by simp[C.xs?,hr]
   refine Qq Zz ZG hx rfl (by decide) rfl rfl rfl (Nat.le_refl _) (Nat.le_refl _) (by omega) (by omega) (fun _=>?_) (fun hc=>absurd hc (by omega))
   push_cast -dsimp
   exact ⟨_,_,_,⟨⟨rfl,.inr ⟨h,.inr ⟨rfl,rfl⟩⟩⟩,Nat.zero_le _⟩,[],rfl,rfl,by (push_cast -dsimp [zb,za,CLe,ze];simp[spl,ze]),by push_cast -dsimp [zb,za,CLe,ze]⟩
theorem VO (rows:List (List C)) (x:List C) (i c e:Nat) (hk:∀ r∈rows,r.length=6) (hx:x.length=6) (hs:qV rows) (hsx:(x.all C.stayB)=true) (hl:rows.length<=100000) (hi:i<=rows.length) (hc:rows.length<=c) (hcm:c<=9223372036854775807) :
  JT Tryz.prog G 177 [.bs 0 0 6 rows.length c,.sc (.int .i64 i),.own 0 e 6 [x]] [qn 6 rows c] 1 (zoI 6 (c*6) (rows.take i++x :: rows.drop i)):=by
 refine foX (fun j=>if j=1000000+22 then [true,true] else if j=11 then [false,false,false,false,false,false,false,false,true] else if j=15 then [false,false,false,false,false,false,false,false,true] else []) Tryz.func177 ?_;dsimp only[Tryz.f177]
 push_cast -dsimp
 have hlen:(rows.take i++x :: rows.drop i).length=rows.length+1:=by simp;omega
 have hki:∀ r∈rows.take i++x :: rows.drop i,r.length=6:=fun r hr=>by
  rcases List.mem_append.1 hr with hr | hr
  ·exact hk r (List.mem_of_mem_take hr)
  ·rcases List.mem_cons.1 hr with rfl | hr
   ·exact hx
   ·exact hk r (List.mem_of_mem_drop hr)
 have hsi:qV (rows.take i++x :: rows.drop i):=fun r hr=>by
  rcases List.mem_append.1 hr with hr | hr
  ·exact hs r (List.mem_of_mem_take hr)
  ·rcases List.mem_cons.1 hr with rfl | hr
   ·exact hsx
   ·exact hs r (List.mem_of_mem_drop hr)
 have hbl:=Jv hk hc
 have hfl:=qf hk
 have hxl:[x].flatten.length=1*6:=by simp[hx]
 have hpre:(qn 6 rows c).take rows.flatten.length=rows.flatten:=by unfold qn;rw[List.take_left]
 refine ⟨hc,⟨by omega,hi⟩,br (fun h=>?_) (fun h=>?_)⟩
 ·push_cast -dsimp
  refine Qq Zz ZG rfl rfl (by decide) rfl hxl rfl (by rw[hbl];omega) hc (by simp;omega) (by simp;omega) (fun h1=>?_) (fun h1 c' h2 h3=>?_)
  ·push_cast -dsimp
   have hi':i=rows.length:=of_decide_eq_true h
   refine ⟨_,_,_,⟨⟨rfl,c,by rw[hlen];exact h1,hcm,.inl ⟨rfl,rfl⟩⟩,Nat.le_refl _⟩,[],rfl,rfl,?_,by push_cast -dsimp [zb,za,CLe,ze,hlen]⟩
   push_cast -dsimp [zb,za,CLe,ze]
   have h6:rows.length*6+6<=c*6:=by have:rows.length+1<=c:=h1;omega
   refine Jr hki hsi (by rw[hlen];exact h1) (by rw[Qr (by rw[hbl,hx];exact h6),hbl]) ?_
   rw[hlen,hi',List.take_length,List.drop_length]
   unfold spl
   rw[←hfl,hpre,List.take_left' (by simp[hx,hfl];omega)]
   simp
  ·push_cast -dsimp
   have hi':i=rows.length:=of_decide_eq_true h
   have h2':rows.length+1<=c':=h2
   refine ⟨_,_,_,⟨⟨rfl,c',by rw[hlen];exact h2,h3,.inr ⟨rfl,rfl⟩⟩,Nat.le_of_ble_eq_true rfl⟩,[],rfl,rfl,?_,by push_cast -dsimp [zb,za,CLe,ze,hlen]⟩
   push_cast -dsimp [zb,za,CLe,ze]
   refine ⟨Xa hbl,Jr hki hsi (by rw[hlen];exact h2) (by simp[hx,hbl];omega) ?_⟩
   rw[hlen,hi',List.take_length,List.drop_length,←hfl,hpre,List.take_left' (by simp[hx,hfl];omega)]
   simp
 ·have hne:i≠rows.length:=of_decide_eq_false h
  push_cast -dsimp
  refine ⟨⟨by omega,by omega⟩,br (fun h1=>?_) (fun h1=>?_)⟩
  ·have h1':(c:Int)<(rows.length:Int)+1:=of_decide_eq_true h1
   push_cast -dsimp
   repeat refine an ?_
   refine zkv Zz zl7 ZG rfl (by decide) rfl rfl (by rw[hbl];omega) (by omega) (by omega) (by omega) (by omega) (by omega) (fun c' B h2 h3 hBl hBt=>?_)
   have e1:((rows.length:Int)+1-(i:Int)).toNat=rows.length+1-i:=by omega
   rw[e1]at h2 ⊢
   have e2:i+(rows.length+1-i)=rows.length+1:=by omega
   rw[e2]at h2 ⊢
   push_cast -dsimp
   repeat refine an ?_
   refine Xq Zz ZG rfl rfl hxl (by rw[hBl];omega) (fun B1 hB1 hl1=>?_)
   rw[hBl]at hl1
   push_cast -dsimp
   repeat refine an ?_
   have hbp:=Y4 (c:=c) hk hi
   refine Xq Zz ZG (QJ rfl (by rw[hbl];omega)) rfl (by rw[hbp,List.length_drop,hfl];omega) (by rw[hl1];omega) (fun B2 hB2 hl2=>?_)
   rw[hl1]at hl2
   have hX:[x].flatten.take (min [x].length (rows.length+1-i)*6)=x:=by
    rw[List.length_singleton,Nat.min_eq_left (by omega),List.take_of_length_le (by omega)];simp
   rw[hX]at hB1
   rw[hbp,show min (rows.length-i) (rows.length-i)*6=(rows.length-i)*6 by omega,List.take_of_length_le (by rw[List.length_drop,hfl];omega),hB1]at hB2
   push_cast -dsimp
   refine ⟨_,_,_,⟨⟨rfl,c',by rw[hlen];exact h2,h3,.inr ⟨rfl,rfl⟩⟩,Nat.le_of_ble_eq_true rfl⟩,[],rfl,rfl,?_,by push_cast -dsimp [zb,za,CLe,ze,hlen]⟩
   push_cast -dsimp [zb,za,CLe,ze]
   refine ⟨Xa hbl,Jr hki hsi (by rw[hlen];exact h2) hl2 ?_⟩
   rw[hlen,←X3 hk,hB2]
   have hg:=Hq (cs:=B) (L:=rows.flatten) (X:=x) (p:=i*6) (q:=(i+1)*6) (by omega) (by omega) (by
    rw[hBt,List.drop_zero];unfold qn;rw[List.take_append_of_le_length (by omega)]) (by omega)
   rw[hfl,hx]at hg
   rw[←hg]
   congr 1;omega
  ·have h1':¬(c:Int)<(rows.length:Int)+1:=of_decide_eq_false h1
   push_cast -dsimp
   repeat refine an ?_
   refine zkn (x8 (P:=Tryz.prog) (tR:=4) Tryz.func211 (by kernel_rfl) (by kernel_rfl) (by kernel_rfl) (by kernel_rfl) Zz ZG rfl (List.ne_nil_of_length_pos (by rw[hbl];omega)) (by simp) (by omega)) ?_
   push_cast -dsimp
   repeat refine an ?_
   have hbp:=Y4 (c:=c) hk hi
   refine Xq Zz ZG (QJ rfl (by rw[hbl];omega)) rfl (by simp[hbl];omega) (by rw[hbl];omega) (fun B1 hB1 hl1=>?_)
   rw[hbl]at hl1
   rw[List.take_take,Nat.min_eq_left (by omega),show min (rows.length+1-i) (rows.length-i)*6=(rows.length-i)*6 by omega,hbp]at hB1
   push_cast -dsimp
   repeat refine an ?_
   refine Xq Zz ZG rfl rfl hxl (by rw[hl1];omega) (fun B2 hB2 hl2=>?_)
   rw[hl1]at hl2
   have hX:[x].flatten.take (min [x].length (rows.length+1-i)*6)=x:=by
    rw[List.length_singleton,Nat.min_eq_left (by omega),List.take_of_length_le (by omega)];simp
   rw[hX,hB1]at hB2
   push_cast -dsimp
   have hcc:rows.length+1<=c:=by omega
   refine ⟨_,_,_,⟨⟨rfl,c,by rw[hlen];exact hcc,hcm,.inl ⟨rfl,rfl⟩⟩,Nat.le_of_ble_eq_true rfl⟩,[],rfl,rfl,?_,by push_cast -dsimp [zb,za,CLe,ze,hlen]⟩
   push_cast -dsimp [zb,za,CLe,ze]
   refine Jr hki hsi (by rw[hlen];exact hcc) hl2 ?_
   rw[hlen,←X3 hk,hB2]
   have hg:=VY (cs:=qn 6 rows c) (L:=rows.flatten) (X:=x) (p:=i*6) (q:=(i+1)*6) (by omega) (by omega) hpre (by omega)
   rw[hfl,hx]at hg
   rw[←hg]
   congr 1;omega
theorem vo {e:Nat} (x:List C) (hx:x.length=6) (hsx:(x.all C.stayB)=true) :
  JT Tryz.prog G 177 [.sc (.slice none 0 0),.sc (.int .i64 0),.own 0 e 6 [x]] [] 1 (fun r bx' n=>n=0/\∃ c,1<=c/\c<=9223372036854775807/\r = .bs 0 0 6 1 c/\bx' = [qn 6 [x] c]):=by
 refine foX (fun j=>if j=1000000+22 then [true,true] else if j=11 then [false,false,false,false,false,false,false,false,true] else if j=15 then [false,false,false,false,false,false,false,false,true] else []) Tryz.func177 ?_;dsimp only[Tryz.f177]
 push_cast -dsimp
 refine Gs Zz ZG rfl rfl (by decide) rfl (by simp[hx]) (by simp) (by simp) (by simp) (fun c h1 h2=>?_)
 push_cast -dsimp
 refine ⟨_,_,_,⟨⟨rfl,c,h1,h2,rfl,rfl⟩,Nat.zero_le _⟩,[],rfl,rfl,?_,by push_cast -dsimp [zb,za,CLe,ze]⟩
 push_cast -dsimp [zb,za,CLe,ze]
 have:=zp (src:=[]) (n:=1) (zD (k:=6) (c:=c) (rows:=[x]) fun r hr=>by
  rw[List.mem_singleton.1 hr];exact hsx)
 unfold qn at this ⊢
 simpa using this
theorem zie (rows:List (List C)) (i c:Nat) (hk:∀ r∈rows,r.length=6) (hs:qV rows) (hl:rows.length<=100000) (hi:i<rows.length) (hc:rows.length<=c) (hcm:c<=9223372036854775807) :
  MZ Tryz.prog G 236 [.bs 0 0 6 rows.length c,.sc (.int .i64 i),.sc (.int .i64 ((i:Int)+1))] [qn 6 rows c] 0 (.bs 0 0 6 (rows.length-1) c) [qn 6 (rows.take i++rows.drop (i+1)) c] 0:=by
 refine foB (fun j=>if j=1000000+22 then [true,true] else if j=5 then [false,false,false,false,false,false,true,false] else []) Tryz.func236 ?_;dsimp only[Tryz.f236]
 have h1:((i:Int)=(i:Int)+1)=False:=eq_false (by omega)
 have hbl:=Jv hk hc
 have hfl:=qf hk
 have hpre:(qn 6 rows c).take rows.flatten.length=rows.flatten:=by unfold qn;rw[List.take_left]
 have hlen:(rows.take i++rows.drop (i+1)).length=rows.length-1:=by simp;omega
 have hki:∀ r∈rows.take i++rows.drop (i+1),r.length=6:=fun r hr=>by
  rcases List.mem_append.1 hr with hr | hr
  ·exact hk r (List.mem_of_mem_take hr)
  ·exact hk r (List.mem_of_mem_drop hr)
 have hsi:qV (rows.take i++rows.drop (i+1)):=fun r hr=>by
  rcases List.mem_append.1 hr with hr | hr
  ·exact hs r (List.mem_of_mem_take hr)
  ·exact hs r (List.mem_of_mem_drop hr)
 have hbp:=Y4 (c:=c) (i:=i+1) hk hi
 push_cast -dsimp [h1]
 repeat refine an ?_
 have hxl:(List.drop ((i+1)*6) rows.flatten).length=(rows.length-(i+1))*6:=by rw[List.length_drop,hfl];omega
 refine Qq Zz ZG (QJ rfl (by rw[hbl];omega)) rfl (by decide) rfl (by rw[hbp,hxl]) rfl (by rw[hbl];omega) (by omega) (by omega) (by omega) (fun _=>?_) (fun h=>absurd h (by omega))
 rw[hbp]
 have e1:i+(rows.length-(i+1))=rows.length-1:=by omega
 rw[e1]
 generalize hB1:spl (qn 6 rows c) (0+i*6) (List.drop ((i+1)*6) rows.flatten)=B1
 have hl1:B1.length=c*6:=by rw[←hB1,Qr (by rw[hbl,hxl];omega),hbl]
 push_cast -dsimp
 repeat refine an ?_
 refine zkF Zz ZG rfl rfl (by decide) rfl (by rw[hl1];omega) (fun B2 Z hB2 hZ hl2=>?_)
 rw[hl1]at hl2
 push_cast -dsimp
 refine ⟨[],rfl,rfl,?_,by push_cast -dsimp [zb,za,CLe,ze]⟩
 push_cast -dsimp [zb,za,CLe,ze]
 refine Jr hki hsi (by rw[hlen];omega) hl2 ?_
 have hg:=zkj (cs:=qn 6 rows c) (L:=rows.flatten) (Z:=Z) (p:=i*6) (q:=(i+1)*6) (n:=(rows.length-1)*6) (by omega) (by omega) hpre (by omega) (by omega) (by rw[hZ];omega)
 rw[hlen,hB2,←hB1,List.flatten_append,←QZ hk,←UT hk,←hg,Nat.zero_add]
end
end
section
structure z6 where
 name:List UInt8
 ino:Int
deriving DecidableEq,Inhabited
structure zA where
 ino:Int
 kind:Int
 links:Int
 data:List UInt8
 parent:Int
 es:List z6
deriving DecidableEq,Inhabited
def qc (xs:List zA):Prop:=xs.Pairwise fun a b=>a.ino<b.ino
def zG (n:Int) (xs:List zA):Bool:=xs.any fun x=>x.ino==n
def ji (n:Int) (xs:List zA):Nat:=(xs.filter fun x=>decide (x.ino<n)).length
def qk (n:Int) (xs:List zA):List zA:=xs.filter fun x=>x.ino != n
def YX (n:Int) (xs:List zA):Option zA:=xs.find? fun x=>x.ino==n
def Zp (x:zA):List zA->List zA
 | []=>[x]
 | y :: r=>if x.ino<y.ino then x :: y :: r else y :: Zp x r
def qF (x:zA) (xs:List zA):List zA:=Zp x (qk x.ino xs)
theorem HG (n:Int):∀ (xs:List zA) (i:Nat),i<=xs.length->(∀ t (h:t<xs.length),t<i->xs[t].ino<n)->(∀ t (h:t<xs.length),i<=t->n<=xs[t].ino)->ji n xs=i
 | [],i,h,_,_=>by simp at h;simp[ji,h]
 | x :: r,0,_,_,h2=>by
  have hx:n<=x.ino:=h2 0 (by simp) (Nat.le_refl _)
  have ih:=HG n r 0 (Nat.zero_le _) (fun t h h'=>absurd h' (Nat.not_lt_zero _)) (fun t h _=>h2 (t+1) (by simp;omega) (Nat.zero_le _))
  unfold ji at ih ⊢
  rw[List.filter_cons_of_neg (by simp;omega)]
  exact ih
 | x :: r,i+1,h,h1,h2=>by
  have hx:x.ino<n:=h1 0 (by simp) (Nat.succ_pos _)
  have ih:=HG n r i (by simpa using h) (fun t h h'=>h1 (t+1) (by simp;omega) (by omega)) (fun t h h'=>h2 (t+1) (by simp;omega) (by omega))
  unfold ji at ih ⊢
  rw[List.filter_cons_of_pos (by simp;omega),List.length_cons,ih]
theorem zjk (n:Int) (xs:List zA) (i:Nat) (hi:i<xs.length) (h1:∀ t (h:t<xs.length),t<i->xs[t].ino<n) (h2:n<=xs[i].ino) (hR:qc xs):zG n xs=decide (xs[i].ino=n):=by
 by_cases h:xs[i].ino=n
 ·rw[decide_eq_true h]
  exact List.any_eq_true.2 ⟨xs[i],List.getElem_mem hi,by simp[h]⟩
 ·rw[decide_eq_false h]
  apply Bool.eq_false_iff.2
  intro hh
  obtain ⟨y,hy,e⟩:=List.any_eq_true.1 hh
  obtain ⟨t,ht,rfl⟩:=List.getElem_of_mem hy
  have e:xs[t].ino=n:=by simpa using e
  rcases Nat.lt_trichotomy t i with h3 | h3 | h3
  ·have:=h1 t ht h3;omega
  ·subst h3;exact h e
  ·have:=(List.pairwise_iff_getElem.1 hR) i t hi ht h3;omega
theorem zeZ (n:Int) (xs:List zA) (h1:∀ t (h:t<xs.length),xs[t].ino<n):zG n xs=false:=by
 apply Bool.eq_false_iff.2
 intro hh
 obtain ⟨y,hy,e⟩:=List.any_eq_true.1 hh
 obtain ⟨t,ht,rfl⟩:=List.getElem_of_mem hy
 have e:xs[t].ino=n:=by simpa using e
 have:=h1 t ht
 omega
theorem Gm {n:Int} {xs:List zA} (h:zG n xs=false):YX n xs=none:=by
 unfold YX zG at *
 rw[List.find?_eq_none]
 intro x hx hh
 rw[List.any_eq_false]at h
 exact h x hx hh
theorem zbs (n:Int) (xs:List zA) (hR:qc xs):∃ i,i<=xs.length/\(∀ t (h:t<xs.length),t<i->xs[t].ino<n)/\(∀ t (h:t<xs.length),i<=t->n<=xs[t].ino):=by
 induction xs with
 | nil=>exact ⟨0,Nat.le_refl _,fun t h=>absurd h (Nat.not_lt_zero _),fun t h=>absurd h (Nat.not_lt_zero _)⟩
 | cons x r ih =>
  by_cases hx:x.ino<n
  ·obtain ⟨i,h1,h2,h3⟩:=ih (List.pairwise_cons.1 hR).2
   refine ⟨i+1,by simp;omega,fun t h ht=>?_,fun t h ht=>?_⟩
   ·cases t with
    | zero=>exact hx
    | succ t=>exact h2 t (by simpa using h) (by omega)
   ·cases t with
    | zero=>omega
    | succ t=>exact h3 t (by simpa using h) (by omega)
  ·refine ⟨0,Nat.zero_le _,fun t h ht=>absurd ht (Nat.not_lt_zero _),fun t h _=>?_⟩
   cases t with
   | zero=>simp;omega
   | succ t =>
    have:=(List.pairwise_cons.1 hR).1 (r[t]'(by simpa using h)) (List.getElem_mem _)
    simp;omega
theorem zjB (n:Int) (xs:List zA):ji n xs<=xs.length:=List.length_filter_le _ _
theorem zeK {n:Int} {xs:List zA} (hR:qc xs):(∀ t (h:t<xs.length),t<ji n xs->xs[t].ino<n)/\(∀ t (h:t<xs.length),ji n xs<=t->n<=xs[t].ino):=by
 obtain ⟨i,h1,h2,h3⟩:=zbs n xs hR
 rw[HG n xs i h1 h2 h3]
 exact ⟨h2,h3⟩
theorem zho {n:Int} {xs:List zA} (hR:qc xs) (h:zG n xs=true):∃ hlt:ji n xs<xs.length,xs[ji n xs].ino=n:=by
 obtain ⟨h2,h3⟩:=zeK (n:=n) hR
 by_cases hlt:ji n xs<xs.length
 ·refine ⟨hlt,?_⟩
  have:=zjk n xs _ hlt h2 (h3 _ hlt (Nat.le_refl _)) hR
  rw[h]at this
  exact of_decide_eq_true this.symm
 ·have:=zeZ n xs (fun t h=>h2 t h (by omega))
  rw[h]at this;cases this
theorem Gv {n:Int} {xs:List zA} (hR:qc xs) (h:zG n xs=true):∃ hlt:ji n xs<xs.length,YX n xs=some xs[ji n xs]:=by
 obtain ⟨hlt,he⟩:=zho hR h
 refine ⟨hlt,?_⟩
 obtain ⟨h2,h3⟩:=zeK (n:=n) hR
 unfold YX
 rw[List.find?_eq_some_iff_getElem]
 exact ⟨by simp[he],_,hlt,rfl,fun j hj=>by have:=h2 j (by omega) hj;simp;omega⟩
theorem jI {y:zA} {r:List zA}:qc (y :: r)↔(∀ z∈r,y.ino<z.ino)/\qc r:=List.pairwise_cons
theorem XM {n:Int} {y:zA} {r:List zA} (h:y.ino<n):ji n (y :: r)=ji n r+1:=by
 unfold ji
 rw[List.filter_cons_of_pos (by simpa using h),List.length_cons]
theorem UL {n:Int} {xs:List zA} (h:∀ z∈xs,n<=z.ino):ji n xs=0:=by
 unfold ji
 rw[List.length_eq_zero_iff,List.filter_eq_nil_iff]
 intro z hz
 have:=h z hz
 simp;omega
theorem XZ {n:Int} {xs:List zA} (h:zG n xs=false):qk n xs=xs:=by
 unfold qk
 rw[List.filter_eq_self]
 intro z hz
 unfold zG at h
 rw[List.any_eq_false]at h
 have:=h z hz
 simpa using this
theorem Qv {n:Int} {y:zA} {r:List zA} (h:y.ino<n):zG n (y :: r)=zG n r:=by
 unfold zG
 rw[List.any_cons,show (y.ino==n)=false by rw[beq_eq_false_iff_ne];omega,Bool.false_or]
theorem ZQ {n:Int} {xs:List zA} (h:∀ z∈xs,n<z.ino):zG n xs=false:=by
 unfold zG
 rw[List.any_eq_false]
 intro z hz
 have:=h z hz
 simp;omega
theorem JD {n:Int} {y:zA} {r:List zA} (h:y.ino≠n):qk n (y :: r)=y :: qk n r:=by
 unfold qk
 rw[List.filter_cons_of_pos (by simpa using h)]
theorem Jb {n:Int} {y:zA} {r:List zA} (h:y.ino=n):qk n (y :: r)=qk n r:=by
 unfold qk
 rw[List.filter_cons_of_neg (by simpa using h)]
theorem vp {n:Int}:∀ {xs:List zA},qc xs->zG n xs=true->xs.take (ji n xs)++xs.drop (ji n xs+1)=qk n xs
 | [],_,h=>by cases h
 | y :: r,hR,h=>by
  obtain ⟨h1,h2⟩:=jI.1 hR
  by_cases hy:y.ino<n
  ·rw[XM hy,List.take_succ_cons,List.drop_succ_cons,List.cons_append,vp h2 (by rwa [Qv hy]at h),JD (by omega)]
  ·have hr0:ji n (y :: r)=0:=UL fun z hz=>by
    rcases List.mem_cons.1 hz with rfl | hz
    ·omega
    ·have:=h1 z hz;omega
   by_cases he:y.ino=n
   ·rw[hr0,Jb he,XZ (ZQ fun z hz=>by have:=h1 z hz;omega)];rfl
   ·exfalso
    rw[ZQ fun z hz=>by
     rcases List.mem_cons.1 hz with rfl | hz
     ·omega
     ·have:=h1 z hz;omega]at h
    cases h
theorem zmZ {x y:zA} {r:List zA} (h:y.ino<x.ino):Zp x (y :: r)=y :: Zp x r:=by
 rw[Zp,if_neg (by omega)]
theorem zc2 {x:zA} {xs:List zA} (h:∀ z∈xs,x.ino<z.ino):Zp x xs=x :: xs:=by
 cases xs with
 | nil=>rfl
 | cons y r=>rw[Zp,if_pos (h y List.mem_cons_self)]
theorem QA {x y:zA} {r:List zA} (h:y.ino<x.ino):qF x (y :: r)=y :: qF x r:=by
 unfold qF
 rw[JD (by omega),zmZ h]
theorem xd {x:zA}:∀ {xs:List zA},qc xs->zG x.ino xs=true->xs.set (ji x.ino xs) x=qF x xs
 | [],_,h=>by cases h
 | y :: r,hR,h=>by
  obtain ⟨h1,h2⟩:=jI.1 hR
  by_cases hy:y.ino<x.ino
  ·rw[XM hy,List.set_cons_succ,xd h2 (by rwa [Qv hy]at h),QA hy]
  ·have hr0:ji x.ino (y :: r)=0:=UL fun z hz=>by
    rcases List.mem_cons.1 hz with rfl | hz
    ·omega
    ·have:=h1 z hz;omega
   by_cases he:y.ino=x.ino
   ·unfold qF
    rw[hr0,Jb he,XZ (ZQ fun z hz=>by have:=h1 z hz;omega),zc2 fun z hz=>by have:=h1 z hz;omega];rfl
   ·exfalso
    rw[ZQ fun z hz=>by
     rcases List.mem_cons.1 hz with rfl | hz
     ·omega
     ·have:=h1 z hz;omega]at h
    cases h
theorem zdl {x:zA}:∀ {xs:List zA},qc xs->zG x.ino xs=false->xs.take (ji x.ino xs)++x :: xs.drop (ji x.ino xs)=qF x xs
 | [],_,_=>rfl
 | y :: r,hR,h=>by
  obtain ⟨h1,h2⟩:=jI.1 hR
  by_cases hy:y.ino<x.ino
  ·rw[XM hy,List.take_succ_cons,List.drop_succ_cons,List.cons_append,zdl h2 (by rwa [Qv hy]at h),QA hy]
  ·have hne:y.ino≠x.ino:=by
    intro e
    unfold zG at h
    rw[List.any_cons,e]at h
    simp at h
   have hr0:ji x.ino (y :: r)=0:=UL fun z hz=>by
    rcases List.mem_cons.1 hz with rfl | hz
    ·omega
    ·have:=h1 z hz;omega
   unfold qF
   rw[hr0,XZ h,zc2 fun z hz=>by
    rcases List.mem_cons.1 hz with rfl | hz
    ·omega
    ·have:=h1 z hz;omega]
   rfl
theorem yK {x:zA}:∀ {xs:List zA} {z:zA},z∈Zp x xs↔z=x∨z∈xs
 | [],z=>by simp[Zp]
 | y :: r,z=>by
  rw[Zp]
  split
  ·simp
  ·rw[List.mem_cons,yK,List.mem_cons]
   constructor
   ·rintro (h | h | h)<;>simp[h]
   ·rintro (h | h | h)<;>simp[h]
theorem kR {n:Int} {xs:List zA} (h:qc xs):qc (qk n xs):=List.Pairwise.filter _ h
theorem Md {x:zA}:∀ {xs:List zA},qc xs->(∀ z∈xs,z.ino≠x.ino)->qc (Zp x xs)
 | [],_,_=>by simp[Zp,qc]
 | y :: r,h,hne=>by
  obtain ⟨h1,h2⟩:=jI.1 h
  have hy:=hne y List.mem_cons_self
  rw[Zp]
  split
  ·next hlt =>
   refine jI.2 ⟨fun z hz=>?_,h⟩
   rcases List.mem_cons.1 hz with rfl | hz
   ·exact hlt
   ·have:=h1 z hz;omega
  ·next hlt =>
   refine jI.2 ⟨fun z hz=>?_,Md h2 fun z hz=>hne z (List.mem_cons_of_mem _ hz)⟩
   rcases yK.1 hz with rfl | hz
   ·omega
   ·exact h1 z hz
theorem qd {x:zA} {xs:List zA} (h:qc xs):qc (qF x xs):=Md (kR h) fun z hz=>by
 have:=(List.mem_filter.1 hz).2
 simpa using this
theorem zcP {x:zA}:∀ {xs:List zA},(Zp x xs).length=xs.length+1
 | []=>rfl
 | y :: r=>by
  rw[Zp]
  split
  ·rfl
  ·rw[List.length_cons,zcP,List.length_cons]
theorem Q6 {n:Int} {xs:List zA}:(qk n xs).length<=xs.length:=List.length_filter_le _ _
theorem zdN {x:zA} {xs:List zA}:(qF x xs).length<=xs.length+1:=by
 unfold qF
 rw[zcP]
 have:=Q6 (n:=x.ino) (xs:=xs)
 omega
end
section
open CA CB
open Go.RowKit
abbrev GP (e:z6):List C:=[.str e.name,.sc (.int .i64 e.ino)]
abbrev zI (es:List z6):List (List C):=es.map GP
abbrev Yi (x:zA):List C:=[.sc (.int .i64 x.ino),.sc (.int .i64 x.kind),.sc (.int .i64 x.links),.str x.data,.sc (.int .i64 x.parent),.sl 2 (zI x.es)]
abbrev zr (xs:List zA):List (List C):=xs.map Yi
structure FsV where
 maxI:Int
 maxB:Int
 next:Int
 xs:List zA
deriving DecidableEq,Inhabited
abbrev fsC (f:FsV):List C:=[.sc (.int .i64 f.maxI),.sc (.int .i64 f.maxB),.sc (.int .i64 f.next),.sl 6 (zr f.xs)]
theorem jg (xs:List zA) (i:Nat) (h:i<xs.length):(zr xs)[i]?=some (Yi xs[i]):=by simp[List.getElem?_map,List.getElem?_eq_getElem h]
theorem Jt (xs:List z6) (i:Nat) (h:i<xs.length):(zI xs)[i]?=some (GP xs[i]):=by simp[List.getElem?_map,List.getElem?_eq_getElem h]
def zki:zA:=⟨0,0,0,[],0,[]⟩
def zg (n:Int) (xs:List zA):zA:=(YX n xs).getD zki
def VG (a b:Int):Int:=if a<b then -1 else if b<a then 1 else 0
section
variable {G:zq}
theorem zdX (a:Int):Fun Tryz.prog G 237 [.sc (.int .i64 a)] (.sc (.bool false)) 0:=by
 refine fon Tryz.func237 ?_;dsimp only[Tryz.f237]
 push_cast -dsimp
 exact dn
theorem xJ (a b:Int):Fun Tryz.prog G 210 [.sc (.int .i64 a),.sc (.int .i64 b)] (.sc (.int .i64 (VG a b))) 0:=by
 refine fon Tryz.func210 ?_;dsimp only[Tryz.f210]
 push_cast -dsimp
 refine cl (zdX a) ?_;push_cast -dsimp
 refine cl (zdX b) ?_;push_cast -dsimp
 refine br (fun h=>?_) (fun h=>?_)
 ·have h:=of_decide_eq_true h
  push_cast -dsimp
  exact ⟨[],rfl,rfl,by (push_cast -dsimp [zb,za,CLe,ze];simp[VG,h])⟩
 ·have h:=of_decide_eq_false h
  push_cast -dsimp
  refine br (fun h1=>?_) (fun h1=>?_)
  ·have h1:=of_decide_eq_true h1
   push_cast -dsimp
   exact ⟨[],rfl,rfl,by (push_cast -dsimp [zb,za,CLe,ze];simp[VG,h,h1])⟩
  ·have h1:=of_decide_eq_false h1
   push_cast -dsimp
   exact ⟨[],rfl,rfl,by (push_cast -dsimp [zb,za,CLe,ze];simp[VG,h,h1])⟩
theorem zez (x:zA) (n:Int):Fun Tryz.prog G 225 [.agg (Yi x),.sc (.int .i64 n)] (.sc (.int .i64 (VG x.ino n))) 0:=by
 refine fon Tryz.func225 ?_;dsimp only[Tryz.f225]
 push_cast -dsimp
 refine cl (xJ x.ino n) ?_;push_cast -dsimp
 exact dn
theorem xk (xs:List zA) (n:Int) (hl:xs.length<=100000) (hR:qc xs) :
  Fun Tryz.prog G 208 [.sl 6 (zr xs),.sc (.int .i64 n),.clo (.func 225) [] []] (.tup [.sc (.int .i64 (ji n xs:Nat)),.sc (.bool (zG n xs))]) 0:=by
 refine fon Tryz.func208 ?_;dsimp only[Tryz.f208]
 push_cast -dsimp
 refine loop (fun p:Nat×Nat=>⟨[(0,.sl 6 (zr xs)),(1,.sc (.int .i64 n)),(2,.clo (.func 225) [] []),(8,.sc (.int .i64 (xs.length:Nat))),(9,.sc (.int .i64 p.1)),(10,.sc (.int .i64 p.2))],[],0,0⟩)
  (fun p=>p.1<=p.2/\p.2<=xs.length/\(∀ t (h:t<xs.length),t<p.1->xs[t].ino<n)/\∀ t (h:t<xs.length),p.2<=t->n<=xs[t].ino) (fun p=>p.2-p.1) (0,xs.length) ⟨Nat.zero_le _,Nat.le_refl _,fun t _ h=>by (simp at h),fun t h h'=>by (dsimp only at h';omega)⟩ ?_ ?_
 ·exact wk (by push_cast -dsimp [zb,za,CLe,ze,List.length_map])
 ·rintro ⟨i,j⟩ ⟨h1,h2,h3,h4⟩
  dsimp only at h1 h2 h3 h4 ⊢
  by_cases h:i<j
  ·obtain ⟨m,hm⟩:∃ m,m=(i+j) / 2:=⟨_,rfl⟩
   have hmi:((i:Int)+(j:Int)) / 2=(m:Int):=by omega
   have hml:m<xs.length:=by omega
   have hat:=jg xs m hml
   push_cast -dsimp [h,hmi,hat]
   repeat refine an ?_
   refine cl (zez xs[m] n) ?_;push_cast -dsimp
   by_cases hc:xs[m].ino<n
   ·have hcv:VG xs[m].ino n = -1:=by simp[VG,hc]
    push_cast -dsimp [hcv]
    repeat refine an ?_
    refine ⟨(m+1,j),⟨by omega,h2,fun t ht hlt=>?_,h4⟩,by dsimp only;omega,wk⟩
    dsimp only at hlt
    rcases Nat.lt_or_ge t m with q | q
    ·have:=(List.pairwise_iff_getElem.1 hR) t m ht hml q;omega
    ·have:t=m:=by omega
     subst this;exact hc
   ·have hcv:(VG xs[m].ino n<0)=False:=eq_false (by unfold VG;rw[if_neg hc];split<;>omega)
    push_cast -dsimp [hcv]
    repeat refine an ?_
    refine ⟨(i,m),⟨by omega,by omega,h3,fun t ht hge=>?_⟩,by dsimp only;omega,wk⟩
    dsimp only at hge
    rcases Nat.lt_or_ge m t with q | q
    ·have:=(List.pairwise_iff_getElem.1 hR) m t hml ht q;omega
    ·have:t=m:=by omega
     subst this;omega
  ·have hij:i=j:=by omega
   subst hij
   have hrk:=HG n xs i h2 h3 h4
   push_cast -dsimp [h]
   refine br (fun hx=>?_) (fun hx=>?_)
   ·have hx:i<xs.length:=by simpa using hx
    have hat:=jg xs i hx
    have hh:=zjk n xs i hx h3 (h4 i hx (Nat.le_refl _)) hR
    push_cast -dsimp [hx,hat]
    repeat refine an ?_
    refine cl (zez xs[i] n) ?_;push_cast -dsimp
    have hcv:decide (VG xs[i].ino n=0)=zG n xs:=by
     rw[hh]
     have:=h4 i hx (Nat.le_refl _)
     unfold VG
     rw[if_neg (by omega)]
     split
     ·rw[decide_eq_false (by omega),decide_eq_false (by omega)]
     ·rw[decide_eq_true (by rfl),decide_eq_true (by omega)]
    push_cast -dsimp [hcv]
    exact dn (by push_cast -dsimp [zb,za,CLe,ze,hrk])
   ·have hx:¬i<xs.length:=by simpa using hx
    have hh:=zeZ n xs fun t ht=>h3 t ht (by omega)
    push_cast -dsimp [hx]
    exact dn (by push_cast -dsimp [zb,za,CLe,ze,hrk,hh])
theorem ze4 (f:FsV) (n:Int) (hl:f.xs.length<=100000) (hR:qc f.xs):Fun Tryz.prog G 193 [.agg (fsC f),.sc (.int .i64 n)] (.tup [.sc (.int .i64 (ji n f.xs:Nat)),.sc (.bool (zG n f.xs))]) 0:=by
 refine fon Tryz.func193 ?_;dsimp only[Tryz.f193]
 push_cast -dsimp
 refine cl (xk f.xs n hl hR) ?_;push_cast -dsimp
 exact dn
end
end
section
open Go.RowKit Go.ChangeMaps Go.ChangeShapes Go.WideShapes Go.Deep Go.Joins
def Nx (W:World):Env:=⟨W,fun _ _=>False,fun _=>False⟩
theorem Fun.answers {P:Program} {G:zq} {f:FuncId} {args:List C} {u:Value} {n:Nat} (h:Fun P G f args (.sc u) n) {W:World} {vs:List Value} (hg:Xm G (Nx W)) (ha:zw (Nx W) zH args vs) :
  Calls P f vs.toArray W fun e w'=>e = .returned u/\Below W.heap.size W w':=by
 refine (h.2 (Nx W) vs hg ha).mono ?_
 rintro e w' ⟨v,R',L',rfl,rfl,st,hr⟩
 rw[zo]at hr
 subst hr
 exact ⟨rfl,st.below⟩
section
variable {H:Type} {enc:TypeId×Value->H} {P:Program} {W:World}
def Opn (enc:TypeId×Value->H) (P:Program) (W:World) (t:TypeId) (Q:C->Prop):Prop:=
 ∀ (fuel:Nat) (cs:List Value) (x:DataW H×List MemPlace),DataW.trod enc P W 0 (fun _=>true) true fuel t cs=some x->∃ v c,cs = [v]/\Q c/\Rep (Nx W) zH c v/\v.oneCell'=true
def jb (enc:TypeId×Value->H) (P:Program) (W:World) (t:TypeId) (k:Nat) (Q:List C->Prop):Prop:=
 ∀ (fuel:Nat) (cs:List Value) (x:DataW H×List MemPlace),DataW.trod enc P W 0 (fun _=>true) true fuel t cs=some x ->
  ∃ row,Q row/\row.length=k/\cs.length=k/\∀ (j:Nat) c v,row[j]?=some c->cs[j]?=some v->Rep (Nx W) zH c v/\v.oneCell'=true
theorem Opn.int {t:TypeId} {k:IntKind} (ht:P.underlying t=some (.int k)):Opn enc P W t fun c=>∃ n,c = .sc (.int k n)/\(Lit.int k n).wf=true:=fun fuel cs x h=>by
 obtain ⟨n,rfl,_,hw⟩:=DataW.trod_int ht h
 exact ⟨_,_,rfl,⟨n,rfl,hw⟩,zo.2 rfl,rfl⟩
theorem Opn.bool {t:TypeId} (ht:P.underlying t=some .bool):Opn enc P W t fun c=>∃ b,c = .sc (.bool b):=fun fuel cs x h=>by
 obtain ⟨n,rfl,_⟩:=DataW.trod_bool ht h
 exact ⟨_,_,rfl,⟨n,rfl⟩,zo.2 rfl,rfl⟩
theorem Opn.str {t:TypeId} (ht:P.underlying t=some .string):Opn enc P W t fun c=>∃ l:List UInt8,c = .str l/\l.length<=maxLen:=fun fuel cs x h=>by
 obtain ⟨s,rfl,_,hs⟩:=DataW.trod_string ht h
 exact ⟨_,_,rfl,⟨s.data.toList,rfl,by rw[Array.length_toList];exact hs⟩,zV.2 (by cases s;simp),rfl⟩
theorem jb.one {t:TypeId} {Q:C->Prop} (h:Opn enc P W t Q):jb enc P W t 1 fun row=>∃ c,row = [c]/\Q c:=fun fuel cs x hx=>by
 obtain ⟨v,c,rfl,hq,hr,ho⟩:=h fuel cs x hx
 refine ⟨[c],⟨c,rfl,hq⟩,rfl,rfl,fun j c' v' h1 h2=>?_⟩
 cases j with
 | zero=>cases h1;cases h2;exact ⟨hr,ho⟩
 | succ j=>cases h1
theorem Qo {α:Type} {Q:Nat->α->Prop}:∀ n:Nat,(∀ i,i<n->∃ x,Q i x)->∃ l:List α,l.length=n/\∀ i (h:i<l.length),Q i l[i]
 | 0,_=>⟨[],rfl,fun i h=>absurd h (Nat.not_lt_zero _)⟩
 | n+1,h=>by
  obtain ⟨l,hl,hq⟩:=Qo n fun i hi=>h i (by omega)
  obtain ⟨x,hx⟩:=h n (by omega)
  refine ⟨l++[x],by simp[hl],fun i hi=>?_⟩
  rcases Nat.lt_or_ge i n with h1 | h1
  ·rw[List.getElem_append_left (by omega)];exact hq i (by omega)
  ·have:i=n:=by simp[hl]at hi;omega
   subst this
   rw[List.getElem_append_right (by omega)]
   simpa [hl] using hx
theorem jb.struct {t:TypeId} {fs:Array Field} {Qs:Nat->C->Prop} (hs:P.underlying t=some (.struct fs)) (hone:oneCellFields P fs=true) (hC:P.cellsOf t=fs.size)
  (h:∀ (j:Nat) f,fs[j]?=some f->Opn enc P W f.type (Qs j)):jb enc P W t fs.size fun row=>row.length=fs.size/\∀ (j:Nat) c,row[j]?=some c->Qs j c:=fun fuel cs x hx=>by
 obtain ⟨ys,n',hn',hy,hlen,hyl,hf⟩:=DataW.trod_struct hs hx
 rw[hC]at hlen
 obtain ⟨row,hl,hq⟩:=Qo (Q:=fun j (c:C)=>Qs j c/\∃ v,cs[j]?=some v/\Rep (Nx W) zH c v/\v.oneCell'=true) fs.size (fun j hj=>by
  have hfj:fs[j]?=some fs[j]:=Array.getElem?_eq_getElem hj
  obtain ⟨ho,hk⟩:=hone_of hone j _ hfj
  have h1:=hf j _ hfj
  rw[ho,hk]at h1
  have hone':(cs.drop j).take 1 = [cs[j]'(by omega)]:=by
   rw[List.drop_eq_getElem_cons (by omega)]
   rfl
  rw[hone',List.getElem?_eq_getElem (by omega)]at h1
  obtain ⟨v,c,e,hq,hr,hoc⟩:=h j _ hfj _ _ _ h1
  cases e
  exact ⟨c,hq,_,List.getElem?_eq_getElem (by omega),hr,hoc⟩)
 refine ⟨row,⟨hl,fun j c hj=>?_⟩,hl,hlen,fun j c v h1 h2=>?_⟩
 ·obtain ⟨hj',rfl⟩:=List.getElem?_eq_some_iff.1 hj
  exact (hq j hj').1
 ·obtain ⟨hj',rfl⟩:=List.getElem?_eq_some_iff.1 h1
  obtain ⟨_,v',e,hr,ho⟩:=hq j hj'
  rw[h2]at e;cases e
  exact ⟨hr,ho⟩
theorem Opn.slice {t e:TypeId} {k:Nat} {Q:List C->Prop} (ht:P.underlying t=some (.slice e)) (hC:P.cellsOf e=k) (hk:0<k) (h:jb enc P W e k Q):Opn enc P W t fun c=>∃ rows,c = .sl k rows/\rows.length<=maxLen/\∀ r∈rows,Q r:=fun fuel cs x hx=>by
 rcases open_slice ht hx with h0 | ⟨a,len,cap,m,n,D,Pl,hcs,hb,hl,hm,hmm,hx,hi⟩
 ·exact ⟨_,.sl k [],h0.1,⟨[],rfl,Nat.zero_le _,fun r hr=>by cases hr⟩,kH.2 ⟨none,0,rfl,Nat.le_refl _,Nat.zero_le _,.inl rfl⟩,rfl⟩
 ·simp only[if_true]at hmm
  subst hmm
  obtain ⟨rows,hrl,hq⟩:=Qo (Q:=fun i (row:List C)=>Q row/\row.length=k/\∀ (j:Nat) c,row[j]?=some c->∃ v,W.cell? (a.add (i*k+j))=some v/\Rep (Nx W) zH c v/\v.oneCell'=true) len (fun i hlt=>by
   obtain ⟨cs',hc,ht'⟩:=hi i (by omega)
   rw[hC]at hc
   obtain ⟨row,hq,hl1,hl2,hr⟩:=h _ _ _ ht'
   obtain ⟨_,hcl,hat⟩:=World.cells?_some hc
   refine ⟨row,hq,hl1,fun j c hj=>?_⟩
   have hjl:j<k:=by have:=(List.getElem?_eq_some_iff.1 hj).1;omega
   have hv:cs'[j]?=some (cs'[j]'(by omega)):=List.getElem?_eq_getElem (by omega)
   obtain ⟨hr1,hr2⟩:=hr j c _ hj hv
   refine ⟨_,?_,hr1,hr2⟩
   rw[←Go.Deep.add_add,hat j hjl,hv])
  refine ⟨_,.sl k rows,hcs,⟨rows,rfl,by omega,fun r hr=>?_⟩,?_,rfl⟩
  ·obtain ⟨i,hi',rfl⟩:=List.getElem_of_mem hr
   exact (hq i hi').1
  ·refine kH.2 ⟨some a,m,by rw[hrl],by omega,by omega,?_⟩
   by_cases h0:rows = []
   ·exact .inl h0
   ·have hpos:0<rows.length:=List.length_pos_iff.2 h0
    obtain ⟨b,off,spot⟩:=a
    obtain ⟨_,hl0,h00⟩:=hq 0 hpos
    obtain ⟨v0,hc0,_⟩:=h00 0 ((rows[0]'hpos)[0]'(by omega)) (List.getElem?_eq_getElem _)
    have hspot:spot=none:=by simpa [Addr.add] using World.cell?_spot hc0
    subst hspot
    refine .inr ⟨b,off,rfl,qP fun i row hrow=>?_⟩
    obtain ⟨hi',rfl⟩:=List.getElem?_eq_some_iff.1 hrow
    obtain ⟨_,hlr,hcr⟩:=hq i hi'
    refine ⟨hlr,z8 fun j c hj=>?_⟩
    obtain ⟨v,h1,h2,h3⟩:=hcr j c hj
    rw[Addr.add_lit]at h1
    exact ⟨v,by rw[Nat.add_assoc];exact h1,fun hf=>hf,h2,h3⟩
theorem Opn.arg {r:Reach} {b0:Nat} {t:TypeId} {Q:C->Prop} {v:Value} {d:DataW H} {p:List MemPlace} (h:Opn enc P W t Q) (hv:v.cells = #[v]) (hd:DataW.Trod enc P W 0 (fun _=>true) true t v d p):∃ c,Q c/\Rep (Nx W) zH c v:=by
 obtain ⟨fuel,hf⟩:=hd
 rw[hv]at hf
 obtain ⟨v',c,e,hq,hr,_⟩:=h _ _ _ hf
 cases e
 exact ⟨c,hq,hr⟩
theorem jb.arg {r:Reach} {b0:Nat} {t:TypeId} {fs:Array Field} {k:Nat} {Q:List C->Prop} {v:Value} {d:DataW H} {p:List MemPlace} (h:jb enc P W t k Q) (hs:P.underlying t=some (.struct fs)) (hval:Value.okWide P W r b0 t v)
  (hd:DataW.Trod enc P W 0 (fun _=>true) true t v d p):∃ row,Q row/\Rep (Nx W) zH (.agg row) v:=by
 obtain ⟨cs,rfl,hsz⟩:=okWide_struct hs hval
 obtain ⟨fuel,hf⟩:=hd
 obtain ⟨row,hq,h1,h2,hr⟩:=h _ _ _ hf
 refine ⟨row,hq,jN.2 ⟨cs,rfl,Ye ?_ fun i c v hc hv=>(hr i c v hc hv).1⟩⟩
 have:cs.toList.length=k:=h2
 omega
end
end
section
open Go.RowKit Go.ChangeMaps Go.ChangeShapes Go.WideShapes Go.Deep Go.Joins
theorem GJ {α:Type} {f:α->List C} {q:α->Prop}:∀ {rows:List (List C)},(∀ r∈rows,∃ a,r=f a/\q a)->∃ xs:List α,rows=xs.map f/\∀ x∈xs,q x
 | [],_=>⟨[],rfl,fun x h=>by cases h⟩
 | r :: rows,h=>by
  obtain ⟨xs,rfl,hq⟩:=GJ fun r' hr=>h r' (List.mem_cons_of_mem _ hr)
  obtain ⟨o,rfl,ho⟩:=h r List.mem_cons_self
  exact ⟨o :: xs,rfl,fun x hx=>by
   rcases List.mem_cons.1 hx with rfl | hx
   ·exact ho
   ·exact hq x hx⟩
section
variable {H:Type} {enc:TypeId×Value->H} {W:World}
theorem zjE:jb enc Tryz.prog W 108 2 fun row=>∃ o:z6,row=GP o/\o.name.length<=maxLen:=fun fuel cs x hx=>by
 obtain ⟨row,⟨hl,hq⟩,h1,h2,h3⟩:=jb.struct (W:=W) (enc:=enc) (Qs:=fun j c=>match j with | 0=>∃ l:List UInt8,c = .str l/\l.length<=maxLen | 1=>∃ n,c = .sc (.int .i64 n)/\(Lit.int .i64 n).wf=true | _=>True) Tryz.underlying108 (by kernel_rfl) (by kernel_rfl) (fun j f hj=>by
  match j,hj with
  | 0,hj=>cases hj;exact Opn.str Tryz.underlying9
  | 1,hj=>cases hj;exact Opn.int Tryz.underlying3
  | j+2,hj=>simp at hj) fuel cs x hx
 match row,h1,hq,h3 with
 | [c0,c1],_,hq,h3 =>
  obtain ⟨a,rfl,ha⟩:=hq 0 c0 rfl
  obtain ⟨k,rfl,_⟩:=hq 1 c1 rfl
  exact ⟨_,⟨⟨a,k⟩,rfl,ha⟩,rfl,h2,h3⟩
theorem zir:Opn enc Tryz.prog W 73 fun c=>∃ xs:List z6,c = .sl 2 (zI xs)/\xs.length<=maxLen/\∀ x∈xs,x.name.length<=maxLen:=fun fuel cs x hx=>by
 obtain ⟨v,c,rfl,⟨rows,rfl,hl,hr⟩,h1,h2⟩:=Opn.slice (W:=W) (enc:=enc) Tryz.underlying73 (show Tryz.prog.cellsOf 108=2 by kernel_rfl) (by decide) zjE fuel cs x hx
 obtain ⟨xs,rfl,hq⟩:=GJ hr
 exact ⟨v,_,rfl,⟨xs,rfl,by simpa using hl,hq⟩,h1,h2⟩
def zcY (x:zA):Prop:=x.data.length<=maxLen/\x.es.length<=maxLen/\∀ e∈x.es,e.name.length<=maxLen
theorem zb3:jb enc Tryz.prog W 75 6 fun row=>∃ o:zA,row=Yi o/\zcY o:=fun fuel cs x hx=>by
 obtain ⟨row,⟨hl,hq⟩,h1,h2,h3⟩:=jb.struct (W:=W) (enc:=enc) (Qs:=fun j c=>match j with | 0=>∃ n,c = .sc (.int .i64 n)/\(Lit.int .i64 n).wf=true | 1=>∃ n,c = .sc (.int .i64 n)/\(Lit.int .i64 n).wf=true | 2=>∃ n,c = .sc (.int .i64 n)/\(Lit.int .i64 n).wf=true | 3=>∃ l:List UInt8,c = .str l/\l.length<=maxLen | 4=>∃ n,c = .sc (.int .i64 n)/\(Lit.int .i64 n).wf=true | 5=>∃ xs:List z6,c = .sl 2 (zI xs)/\xs.length<=maxLen/\∀ x∈xs,x.name.length<=maxLen | _=>True) Tryz.underlying75 (by kernel_rfl) (by kernel_rfl) (fun j f hj=>by
  match j,hj with
  | 0,hj=>cases hj;exact Opn.int Tryz.underlying3
  | 1,hj=>cases hj;exact Opn.int Tryz.underlying3
  | 2,hj=>cases hj;exact Opn.int Tryz.underlying3
  | 3,hj=>cases hj;exact Opn.str Tryz.underlying9
  | 4,hj=>cases hj;exact Opn.int Tryz.underlying3
  | 5,hj=>cases hj;exact zir
  | j+6,hj=>simp at hj) fuel cs x hx
 match row,h1,hq,h3 with
 | [c0,c1,c2,c3,c4,c5],_,hq,h3 =>
  obtain ⟨a,rfl,_⟩:=hq 0 c0 rfl
  obtain ⟨b,rfl,_⟩:=hq 1 c1 rfl
  obtain ⟨c,rfl,_⟩:=hq 2 c2 rfl
  obtain ⟨d,rfl,hd⟩:=hq 3 c3 rfl
  obtain ⟨e,rfl,_⟩:=hq 4 c4 rfl
  obtain ⟨f,rfl,hf⟩:=hq 5 c5 rfl
  exact ⟨_,⟨⟨a,b,c,d,e,f⟩,rfl,hd,hf⟩,rfl,h2,h3⟩
theorem uA:Opn enc Tryz.prog W 22 fun c=>∃ xs:List zA,c = .sl 6 (zr xs)/\xs.length<=maxLen/\∀ x∈xs,zcY x:=fun fuel cs x hx=>by
 obtain ⟨v,c,rfl,⟨rows,rfl,hl,hr⟩,h1,h2⟩:=Opn.slice (W:=W) (enc:=enc) Tryz.underlying22 (show Tryz.prog.cellsOf 75=6 by kernel_rfl) (by decide) zb3 fuel cs x hx
 obtain ⟨xs,rfl,hq⟩:=GJ hr
 exact ⟨v,_,rfl,⟨xs,rfl,by simpa using hl,hq⟩,h1,h2⟩
theorem zmn:jb enc Tryz.prog W 24 4 fun row=>∃ f:FsV,row=fsC f/\f.xs.length<=maxLen/\∀ x∈f.xs,zcY x:=fun fuel cs x hx=>by
 obtain ⟨row,⟨hl,hq⟩,h1,h2,h3⟩:=jb.struct (W:=W) (enc:=enc) (Qs:=fun j c=>match j with | 0=>∃ n,c = .sc (.int .i64 n)/\(Lit.int .i64 n).wf=true | 1=>∃ n,c = .sc (.int .i64 n)/\(Lit.int .i64 n).wf=true | 2=>∃ n,c = .sc (.int .i64 n)/\(Lit.int .i64 n).wf=true | 3=>∃ xs:List zA,c = .sl 6 (zr xs)/\xs.length<=maxLen/\∀ x∈xs,zcY x | _=>True) Tryz.underlying24 (by kernel_rfl) (by kernel_rfl) (fun j f hj=>by
  match j,hj with
  | 0,hj=>cases hj;exact Opn.int Tryz.underlying3
  | 1,hj=>cases hj;exact Opn.int Tryz.underlying3
  | 2,hj=>cases hj;exact Opn.int Tryz.underlying3
  | 3,hj=>cases hj;exact uA
  | j+4,hj=>simp at hj) fuel cs x hx
 match row,h1,hq,h3 with
 | [c0,c1,c2,c3],_,hq,h3 =>
  obtain ⟨a,rfl,_⟩:=hq 0 c0 rfl
  obtain ⟨b,rfl,_⟩:=hq 1 c1 rfl
  obtain ⟨c,rfl,_⟩:=hq 2 c2 rfl
  obtain ⟨d,rfl,hd⟩:=hq 3 c3 rfl
  exact ⟨_,⟨⟨a,b,c,d⟩,rfl,hd⟩,rfl,h2,h3⟩
end
end
section
open Go
structure zju (κ:Type) where
 lt:κ->κ->Bool
 irr:∀ a,lt a a=false
 tr:∀ {a b c},lt a b=true->lt b c=true->lt a c=true
 tot:∀ {a b},lt a b=false->lt b a=false->a=b
theorem Um:∀ a:List UInt8,Op.bytesLess a a=false
 | []=>rfl
 | c :: a=>by
  have h:¬c<c:=by simp
  simp[Op.bytesLess,Um a]
theorem GE:∀ {a b c:List UInt8},Op.bytesLess a b=true->Op.bytesLess b c=true->Op.bytesLess a c=true
 | _,[],_,h,_=>by unfold Op.bytesLess at h;cases h
 | [],y :: b,[],_,h2=>by unfold Op.bytesLess at h2;cases h2
 | [],y :: b,z :: c,_,_=>rfl
 | x :: a,y :: b,[],_,h2=>by unfold Op.bytesLess at h2;cases h2
 | x :: a,y :: b,z :: c,h1,h2=>by
  unfold Op.bytesLess at h1 h2 ⊢
  simp only[Bool.or_eq_true,Bool.and_eq_true,decide_eq_true_eq,beq_iff_eq]at h1 h2 ⊢
  rcases h1 with h1 | ⟨rfl,h1⟩
  ·rcases h2 with h2 | ⟨rfl,h2⟩
   ·exact .inl (UInt8.lt_trans h1 h2)
   ·exact .inl h1
  ·rcases h2 with h2 | ⟨rfl,h2⟩
   ·exact .inl h2
   ·exact .inr ⟨rfl,GE h1 h2⟩
theorem V9:∀ {a b:List UInt8},Op.bytesLess a b=false->Op.bytesLess b a=false->a=b
 | [],[],_,_=>rfl
 | [],y :: b,h,_=>by unfold Op.bytesLess at h;cases h
 | x :: a,[],_,h=>by unfold Op.bytesLess at h;cases h
 | x :: a,y :: b,h1,h2=>by
  unfold Op.bytesLess at h1 h2
  simp only[Bool.or_eq_false_iff,decide_eq_false_iff_not,Bool.and_eq_false_iff,beq_eq_false_iff_ne]at h1 h2
  obtain ⟨g1,g2⟩:=h1
  obtain ⟨g3,g4⟩:=h2
  have hxy:x=y:=by
   apply UInt8.toNat_inj.1
   have e1:¬x.toNat<y.toNat:=fun h=>g1 (UInt8.lt_iff_toNat_lt.2 h)
   have e2:¬y.toNat<x.toNat:=fun h=>g3 (UInt8.lt_iff_toNat_lt.2 h)
   omega
  subst hxy
  have h3:Op.bytesLess a b=false:=by rcases g2 with g | g;exact absurd rfl g;exact g
  have h4:Op.bytesLess b a=false:=by rcases g4 with g | g;exact absurd rfl g;exact g
  rw[V9 h3 h4]
theorem zcO:∀ a b:List UInt8,(Lib.compareBytes a b<0)=(Op.bytesLess a b=true)
 | [],[]=>by simp[Lib.compareBytes,Op.bytesLess]
 | [],_ :: _=>by simp[Lib.compareBytes,Op.bytesLess]
 | _ :: _,[]=>by simp[Lib.compareBytes,Op.bytesLess]
 | a :: x,b :: y=>by
  unfold Lib.compareBytes Op.bytesLess
  by_cases h1:a<b
  ·simp[h1]
  ·rw[if_neg h1]
   by_cases h2:b<a
   ·have:a≠b:=fun e=>by subst e;exact h1 h2
    simp[h1,h2,this]
   ·have e:a=b:=by
     apply UInt8.toNat_inj.1
     have e1:¬a.toNat<b.toNat:=fun h=>h1 (UInt8.lt_iff_toNat_lt.2 h)
     have e2:¬b.toNat<a.toNat:=fun h=>h2 (UInt8.lt_iff_toNat_lt.2 h)
     omega
    rw[if_neg h2,zcO x y]
    subst e
    simp[h1]
theorem zfG:∀ a b:List UInt8,(Lib.compareBytes a b=0)=(a=b)
 | [],[]=>by simp[Lib.compareBytes]
 | [],_ :: _=>by simp[Lib.compareBytes]
 | _ :: _,[]=>by simp[Lib.compareBytes]
 | a :: x,b :: y=>by
  unfold Lib.compareBytes
  by_cases h1:a<b
  ·have:a≠b:=fun e=>by subst e;simp at h1
   simp[h1,this]
  ·rw[if_neg h1]
   by_cases h2:b<a
   ·have:a≠b:=fun e=>by subst e;exact h1 h2
    simp[h2,this]
   ·have e:a=b:=by
     apply UInt8.toNat_inj.1
     have e1:¬a.toNat<b.toNat:=fun h=>h1 (UInt8.lt_iff_toNat_lt.2 h)
     have e2:¬b.toNat<a.toNat:=fun h=>h2 (UInt8.lt_iff_toNat_lt.2 h)
     omega
    rw[if_neg h2,zfG x y]
    subst e
    simp
def jp:zju (List UInt8):=⟨Op.bytesLess,Um,GE,V9⟩
def jC:zju Int:=⟨fun a b=>decide (a<b),fun a=>by simp,fun h1 h2=>by simp at h1 h2 ⊢;omega,fun h1 h2=>by simp at h1 h2;omega⟩
section
variable {α κ:Type} [DecidableEq κ] (o:zju κ) (key:α->κ)
def qA (xs:List α):Prop:=xs.Pairwise fun a b=>o.lt (key a) (key b)=true
def ql (n:κ) (xs:List α):Nat:=(xs.filter fun x=>o.lt (key x) n).length
def JQ (n:κ) (xs:List α):Bool:=xs.any fun x=>decide (key x=n)
def Jm (n:κ) (xs:List α):Option α:=xs.find? fun x=>decide (key x=n)
def JJ (n:κ) (xs:List α):List α:=xs.filter fun x=>!decide (key x=n)
def Xc (x:α):List α->List α
 | []=>[x]
 | y :: r=>if o.lt (key x) (key y) then x :: y :: r else y :: Xc x r
variable {o:zju κ} {key:α->κ}
theorem zju.asym {a b:κ} (h:o.lt a b=true):o.lt b a=false:=by
 cases h':o.lt b a with
 | false=>rfl
 | true=>have:=o.tr h h';rw[o.irr]at this;cases this
theorem QO (n:κ):∀ (xs:List α) (i:Nat),i<=xs.length->(∀ t (h:t<xs.length),t<i->o.lt (key xs[t]) n=true)->(∀ t (h:t<xs.length),i<=t->o.lt (key xs[t]) n=false)->ql o key n xs=i
 | [],i,h,_,_=>by simp at h;simp[ql,h]
 | x :: r,0,_,_,h2=>by
  have hx:o.lt (key x) n=false:=h2 0 (by simp) (Nat.le_refl _)
  have ih:=QO n r 0 (Nat.zero_le _) (fun t h h'=>absurd h' (Nat.not_lt_zero _)) (fun t h _=>h2 (t+1) (by simp;omega) (Nat.zero_le _))
  unfold ql at ih ⊢
  rw[List.filter_cons_of_neg (by simp[hx])]
  exact ih
 | x :: r,i+1,h,h1,h2=>by
  have hx:o.lt (key x) n=true:=h1 0 (by simp) (Nat.succ_pos _)
  have ih:=QO n r i (by simpa using h) (fun t h h'=>h1 (t+1) (by simp;omega) (by omega)) (fun t h h'=>h2 (t+1) (by simp;omega) (by omega))
  unfold ql at ih ⊢
  rw[List.filter_cons_of_pos (by simp[hx]),List.length_cons,ih]
theorem QV (n:κ) (xs:List α):ql o key n xs<=xs.length:=List.length_filter_le _ _
theorem Js {y:α} {r:List α}:qA o key (y :: r)↔(∀ z∈r,o.lt (key y) (key z)=true)/\qA o key r:=List.pairwise_cons
theorem uR {n:κ} {y:α} {r:List α} (h:o.lt (key y) n=true):ql o key n (y :: r)=ql o key n r+1:=by
 unfold ql
 rw[List.filter_cons_of_pos (by simpa using h),List.length_cons]
theorem zaa {n:κ} {y:α} {r:List α} (hR:qA o key (y :: r)) (h:o.lt (key y) n=false):ql o key n (y :: r)=0:=by
 obtain ⟨h1,_⟩:=Js.1 hR
 unfold ql
 rw[List.length_eq_zero_iff,List.filter_eq_nil_iff]
 intro z hz
 rcases List.mem_cons.1 hz with rfl | hz
 ·simp[h]
 ·have h3:=h1 z hz
  cases h4:o.lt (key z) n with
  | false=>simp
  | true=>have:=o.tr h3 h4;rw[h]at this;cases this
theorem ze6 {n:κ} {y:α} {r:List α} (hR:qA o key (y :: r)) (h:o.lt (key y) n=false):JQ key n (y :: r)=decide (key y=n):=by
 obtain ⟨h1,_⟩:=Js.1 hR
 unfold JQ
 rw[List.any_cons]
 have:(r.any fun x=>decide (key x=n))=false:=List.any_eq_false.2 fun z hz=>by
  have h3:=h1 z hz
  simp only[decide_eq_true_eq]
  rintro rfl
  rw[h3]at h;cases h
 rw[this,Bool.or_false]
theorem Vu (n:κ):∀ {xs:List α},qA o key xs->(∀ t (h:t<xs.length),t<ql o key n xs->o.lt (key xs[t]) n=true)/\(∀ t (h:t<xs.length),ql o key n xs<=t->o.lt (key xs[t]) n=false) /\
  (JQ key n xs=true->∃ h:ql o key n xs<xs.length,key xs[ql o key n xs]=n/\Jm key n xs=some xs[ql o key n xs]/\JJ key n xs=xs.take (ql o key n xs)++xs.drop (ql o key n xs+1)/\∀ x,key x=n->Xc o key x (JJ key n xs)=xs.set (ql o key n xs) x) /\
  (JQ key n xs=false->Jm key n xs=none/\JJ key n xs=xs/\∀ x,key x=n->Xc o key x xs=xs.take (ql o key n xs)++x :: xs.drop (ql o key n xs))
 | [],_=>⟨fun t h=>absurd h (Nat.not_lt_zero _),fun t h=>absurd h (Nat.not_lt_zero _),fun h=>(by cases h),fun _=>⟨rfl,rfl,fun x _=>rfl⟩⟩
 | y :: r,hR=>by
  obtain ⟨h1,h2⟩:=Js.1 hR
  obtain ⟨i1,i2,i3,i4⟩:=Vu n h2
  cases hy:o.lt (key y) n with
  | true =>
   have hne:key y≠n:=by rintro rfl;rw[o.irr]at hy;cases hy
   have hrk:=uR (r:=r) hy
   have hhas:JQ key n (y :: r)=JQ key n r:=by unfold JQ;rw[List.any_cons,decide_eq_false hne,Bool.false_or]
   have hfind:Jm key n (y :: r)=Jm key n r:=by unfold Jm;rw[List.find?_cons_of_neg (by simpa using hne)]
   have hless:JJ key n (y :: r)=y :: JJ key n r:=by unfold JJ;rw[List.filter_cons_of_pos (by simpa using hne)]
   have hput:∀ x q,key x=n->Xc o key x (y :: q)=y :: Xc o key x q:=fun x q hx=>by
    rw[Xc,hx,zju.asym hy];rfl
   rw[hhas,hfind,hless,hrk]
   refine ⟨fun t h ht=>?_,fun t h ht=>?_,fun h=>?_,fun h=>?_⟩
   ·cases t with
    | zero=>exact hy
    | succ t=>exact i1 t (by simpa using h) (by omega)
   ·cases t with
    | zero=>omega
    | succ t=>exact i2 t (by simpa using h) (by omega)
   ·obtain ⟨g,g1,g2,g3,g4⟩:=i3 h
    refine ⟨by simp;omega,by simpa using g1,by simpa using g2,by rw[g3];simp,fun x hx=>?_⟩
    rw[hput x _ hx,g4 x hx];simp
   ·obtain ⟨g1,g2,g3⟩:=i4 h
    refine ⟨g1,by rw[g2],fun x hx=>?_⟩
    rw[hput x _ hx,g3 x hx];simp
  | false =>
   have hrk:=zaa hR hy
   have hhas:=ze6 hR hy
   rw[hrk,hhas]
   have hno:∀ z∈r,key z≠n:=fun z hz=>by
    have h3:=h1 z hz
    rintro rfl
    rw[h3]at hy;cases hy
   have hlr:JJ key n r=r:=by
    unfold JJ
    rw[List.filter_eq_self]
    intro z hz
    simpa using hno z hz
   refine ⟨fun t h ht=>absurd ht (Nat.not_lt_zero _),fun t h _=>?_,fun h=>?_,fun h=>?_⟩
   ·cases t with
    | zero=>exact hy
    | succ t =>
     have h3:=h1 (r[t]'(by simpa using h)) (List.getElem_mem _)
     show o.lt (key (r[t]'(by simpa using h))) n=false
     cases h4:o.lt (key (r[t]'(by simpa using h))) n with
     | false=>rfl
     | true=>have:=o.tr h3 h4;rw[hy]at this;cases this
   ·have hk:key y=n:=of_decide_eq_true h
    have hl:JJ key n (y :: r)=r:=by
     show (y :: r).filter (fun x=>!decide (key x=n))=r
     rw[List.filter_cons_of_neg (by simpa using hk)];exact hlr
    refine ⟨by simp,hk,by unfold Jm;rw[List.find?_cons_of_pos (by simpa using hk)];rfl,by rw[hl];simp,fun x hx=>?_⟩
    rw[hl]
    cases r with
    | nil=>rfl
    | cons z q =>
     have h3:=h1 z List.mem_cons_self
     rw[hk]at h3
     rw[Xc,hx,h3];rfl
   ·have hk:key y≠n:=of_decide_eq_false h
    have hny:o.lt n (key y)=true:=by
     cases h5:o.lt n (key y) with
     | true=>rfl
     | false=>exact absurd (o.tot hy h5) hk
    refine ⟨?_,?_,fun x hx=>?_⟩
    ·unfold Jm
     rw[List.find?_eq_none]
     intro z hz
     rcases List.mem_cons.1 hz with rfl | hz
     ·simpa using hk
     ·simpa using hno z hz
    ·show (y :: r).filter (fun x=>!decide (key x=n))=y :: r
     rw[List.filter_cons_of_pos (by simpa using hk)]
     exact congrArg _ hlr
    ·rw[Xc,hx,hny];rfl
theorem xn (n:κ) {xs:List α} (hR:qA o key xs) {i:Nat} (hi:ql o key n xs=i) (h:i<xs.length):JQ key n xs=decide (key xs[i]=n):=by
 subst hi
 obtain ⟨_,_,h3,_⟩:=Vu n hR
 cases hh:JQ key n xs with
 | true=>obtain ⟨_,g,_⟩:=h3 hh;rw[decide_eq_true g]
 | false =>
  symm
  rw[decide_eq_false_iff_not]
  intro e
  unfold JQ at hh
  rw[List.any_eq_false]at hh
  exact hh _ (List.getElem_mem h) (decide_eq_true e)
theorem GF (n:κ) {xs:List α} (hR:qA o key xs) (hi:ql o key n xs=xs.length):JQ key n xs=false:=by
 obtain ⟨_,_,h3,_⟩:=Vu n hR
 cases hh:JQ key n xs with
 | false=>rfl
 | true=>obtain ⟨g,_⟩:=h3 hh;omega
theorem Un (n:κ) {xs:List α} (h:qA o key xs):qA o key (JJ key n xs):=h.filter _
theorem Zm {x y:α}:∀ {xs:List α},y∈Xc o key x xs↔y=x∨y∈xs
 | []=>by simp[Xc]
 | z :: r=>by
  unfold Xc
  split
  ·simp
  ·rw[List.mem_cons,Zm,List.mem_cons]
   constructor
   ·rintro (h | h | h)
    ·exact .inr (.inl h)
    ·exact .inl h
    ·exact .inr (.inr h)
   ·rintro (h | h | h)
    ·exact .inr (.inl h)
    ·exact .inl h
    ·exact .inr (.inr h)
theorem UU {n:κ} {y:α} {xs:List α}:y∈JJ key n xs↔y∈xs/\key y≠n:=by unfold JJ;simp
theorem ZY {x:α}:∀ {xs:List α},qA o key xs->(∀ y∈xs,key y≠key x)->qA o key (Xc o key x xs)
 | [],_,_=>by unfold Xc qA;simp
 | y :: r,hR,hne=>by
  obtain ⟨h1,h2⟩:=Js.1 hR
  unfold Xc
  cases hxy:o.lt (key x) (key y) with
  | true =>
   rw[if_pos rfl,Js]
   refine ⟨fun z hz=>?_,hR⟩
   rcases List.mem_cons.1 hz with rfl | hz
   ·exact hxy
   ·exact o.tr hxy (h1 z hz)
  | false =>
   rw[if_neg (by simp),Js]
   have hyx:o.lt (key y) (key x)=true:=by
    cases h:o.lt (key y) (key x) with
    | true=>rfl
    | false=>exact absurd (o.tot h hxy) (hne y List.mem_cons_self)
   refine ⟨fun z hz=>?_,ZY h2 fun z hz=>hne z (List.mem_cons_of_mem _ hz)⟩
   rcases Zm.1 hz with rfl | hz
   ·exact hyx
   ·exact h1 z hz
theorem UW {x:α} {xs:List α} (h:qA o key xs):qA o key (Xc o key x (JJ key (key x) xs)):=
 ZY (Un _ h) fun y hy=>(UU.1 hy).2
theorem YJ (n:κ) (xs:List α):(JJ key n xs).length<=xs.length:=List.length_filter_le _ _
theorem VA (x:α):∀ xs:List α,(Xc o key x xs).length=xs.length+1
 | []=>rfl
 | y :: r=>by
  unfold Xc
  split
  ·rfl
  ·rw[List.length_cons,VA x r];rfl
end
end
section
open Go.RowKit
section
variable {G:zq}
theorem zaR (rows:List (List C)) (hk:∀ r∈rows,r.length=2) (hs:qV rows) (hl:rows.length<=100000) :
  JT Tryz.prog G 232 [.sl 2 rows] [] 0 (zcy 2 rows):=by
 refine JT.bySlice (fun h=>?_) (fun h a cap hr=>?_)
 ·refine foX (fun i=>if i=1000000+73 then [true,true] else []) Tryz.func232 ?_;dsimp only[Tryz.f232]
  push_cast -dsimp
  refine ⟨h,Qq Qi J9 rfl rfl (by decide) rfl (qf hk) rfl (Nat.le_refl _) (Nat.le_refl _) (by omega) (by omega) (fun hc=>absurd hc ?_) (fun _ c hc hm=>?_)⟩
  ·have:=List.length_pos_iff.2 h;omega
  ·push_cast -dsimp
   rw[Nat.zero_add]at hc
   refine ⟨_,_,_,⟨⟨rfl,.inl ⟨h,c,hc,hm,rfl,rfl⟩⟩,Nat.zero_le _⟩,[],rfl,rfl,?_,by push_cast -dsimp [zb,za,CLe,ze]⟩
   push_cast -dsimp [zb,za,CLe,ze]
   exact zp (zD hs)
 ·cases a with
  | none =>
   refine foX (fun i=>if i=1000000+73 then [true,true] else []) Tryz.func232 ?_;dsimp only[Tryz.f232]
   push_cast -dsimp [hr,Option.isNone_none]
   exact ⟨_,_,_,⟨⟨rfl,.inr ⟨h,.inl ⟨rfl,rfl⟩⟩⟩,Nat.zero_le _⟩,[],rfl,rfl,by push_cast -dsimp [zb,za,CLe,ze],by push_cast -dsimp [zb,za,CLe,ze]⟩
  | some a =>
   refine foX (fun i=>if i=1000000+73 then [true,true] else []) Tryz.func232 ?_;dsimp only[Tryz.f232]
   push_cast -dsimp [hr,Option.isNone_some]
   have hx:C.xs? 2 [[]] (C.sc (.slice (some a) 0 cap))=some (0,[]):=by simp[C.xs?,hr]
   refine Qq Qi J9 hx rfl (by decide) rfl rfl rfl (Nat.le_refl _) (Nat.le_refl _) (by omega) (by omega) (fun _=>?_) (fun hc=>absurd hc (by omega))
   push_cast -dsimp
   exact ⟨_,_,_,⟨⟨rfl,.inr ⟨h,.inr ⟨rfl,rfl⟩⟩⟩,Nat.zero_le _⟩,[],rfl,rfl,by (push_cast -dsimp [zb,za,CLe,ze];simp[spl,ze]),by push_cast -dsimp [zb,za,CLe,ze]⟩
theorem vk (rows:List (List C)) (x:List C) (i c e:Nat) (hk:∀ r∈rows,r.length=2) (hx:x.length=2) (hs:qV rows) (hsx:(x.all C.stayB)=true) (hl:rows.length<=100000) (hi:i<=rows.length) (hc:rows.length<=c) (hcm:c<=9223372036854775807) :
  JT Tryz.prog G 233 [.bs 0 0 2 rows.length c,.sc (.int .i64 i),.own 0 e 2 [x]] [qn 2 rows c] 1 (zoI 2 (c*2) (rows.take i++x :: rows.drop i)):=by
 refine foX (fun j=>if j=1000000+73 then [true,true] else if j=11 then [false,false,false,false,false,false,false,false,true] else if j=15 then [false,false,false,false,false,false,false,false,true] else []) Tryz.func233 ?_;dsimp only[Tryz.f233]
 push_cast -dsimp
 have hlen:(rows.take i++x :: rows.drop i).length=rows.length+1:=by simp;omega
 have hki:∀ r∈rows.take i++x :: rows.drop i,r.length=2:=fun r hr=>by
  rcases List.mem_append.1 hr with hr | hr
  ·exact hk r (List.mem_of_mem_take hr)
  ·rcases List.mem_cons.1 hr with rfl | hr
   ·exact hx
   ·exact hk r (List.mem_of_mem_drop hr)
 have hsi:qV (rows.take i++x :: rows.drop i):=fun r hr=>by
  rcases List.mem_append.1 hr with hr | hr
  ·exact hs r (List.mem_of_mem_take hr)
  ·rcases List.mem_cons.1 hr with rfl | hr
   ·exact hsx
   ·exact hs r (List.mem_of_mem_drop hr)
 have hbl:=Jv hk hc
 have hfl:=qf hk
 have hxl:[x].flatten.length=1*2:=by simp[hx]
 have hpre:(qn 2 rows c).take rows.flatten.length=rows.flatten:=by unfold qn;rw[List.take_left]
 refine ⟨hc,⟨by omega,hi⟩,br (fun h=>?_) (fun h=>?_)⟩
 ·push_cast -dsimp
  refine Qq Qi J9 rfl rfl (by decide) rfl hxl rfl (by rw[hbl];omega) hc (by simp;omega) (by simp;omega) (fun h1=>?_) (fun h1 c' h2 h3=>?_)
  ·push_cast -dsimp
   have hi':i=rows.length:=of_decide_eq_true h
   refine ⟨_,_,_,⟨⟨rfl,c,by rw[hlen];exact h1,hcm,.inl ⟨rfl,rfl⟩⟩,Nat.le_refl _⟩,[],rfl,rfl,?_,by push_cast -dsimp [zb,za,CLe,ze,hlen]⟩
   push_cast -dsimp [zb,za,CLe,ze]
   have h6:rows.length*2+2<=c*2:=by have:rows.length+1<=c:=h1;omega
   refine Jr hki hsi (by rw[hlen];exact h1) (by rw[Qr (by rw[hbl,hx];exact h6),hbl]) ?_
   rw[hlen,hi',List.take_length,List.drop_length]
   unfold spl
   rw[←hfl,hpre,List.take_left' (by simp[hx,hfl];omega)]
   simp
  ·push_cast -dsimp
   have hi':i=rows.length:=of_decide_eq_true h
   have h2':rows.length+1<=c':=h2
   refine ⟨_,_,_,⟨⟨rfl,c',by rw[hlen];exact h2,h3,.inr ⟨rfl,rfl⟩⟩,Nat.le_of_ble_eq_true rfl⟩,[],rfl,rfl,?_,by push_cast -dsimp [zb,za,CLe,ze,hlen]⟩
   push_cast -dsimp [zb,za,CLe,ze]
   refine ⟨Xa hbl,Jr hki hsi (by rw[hlen];exact h2) (by simp[hx,hbl];omega) ?_⟩
   rw[hlen,hi',List.take_length,List.drop_length,←hfl,hpre,List.take_left' (by simp[hx,hfl];omega)]
   simp
 ·have hne:i≠rows.length:=of_decide_eq_false h
  push_cast -dsimp
  refine ⟨⟨by omega,by omega⟩,br (fun h1=>?_) (fun h1=>?_)⟩
  ·have h1':(c:Int)<(rows.length:Int)+1:=of_decide_eq_true h1
   push_cast -dsimp
   repeat refine an ?_
   refine zkv Qi zl7 J9 rfl (by decide) rfl rfl (by rw[hbl];omega) (by omega) (by omega) (by omega) (by omega) (by omega) (fun c' B h2 h3 hBl hBt=>?_)
   have e1:((rows.length:Int)+1-(i:Int)).toNat=rows.length+1-i:=by omega
   rw[e1]at h2 ⊢
   have e2:i+(rows.length+1-i)=rows.length+1:=by omega
   rw[e2]at h2 ⊢
   push_cast -dsimp
   repeat refine an ?_
   refine Xq Qi J9 rfl rfl hxl (by rw[hBl];omega) (fun B1 hB1 hl1=>?_)
   rw[hBl]at hl1
   push_cast -dsimp
   repeat refine an ?_
   have hbp:=Y4 (c:=c) hk hi
   refine Xq Qi J9 (QJ rfl (by rw[hbl];omega)) rfl (by rw[hbp,List.length_drop,hfl];omega) (by rw[hl1];omega) (fun B2 hB2 hl2=>?_)
   rw[hl1]at hl2
   have hX:[x].flatten.take (min [x].length (rows.length+1-i)*2)=x:=by
    rw[List.length_singleton,Nat.min_eq_left (by omega),List.take_of_length_le (by omega)];simp
   rw[hX]at hB1
   rw[hbp,show min (rows.length-i) (rows.length-i)*2=(rows.length-i)*2 by omega,List.take_of_length_le (by rw[List.length_drop,hfl];omega),hB1]at hB2
   push_cast -dsimp
   refine ⟨_,_,_,⟨⟨rfl,c',by rw[hlen];exact h2,h3,.inr ⟨rfl,rfl⟩⟩,Nat.le_of_ble_eq_true rfl⟩,[],rfl,rfl,?_,by push_cast -dsimp [zb,za,CLe,ze,hlen]⟩
   push_cast -dsimp [zb,za,CLe,ze]
   refine ⟨Xa hbl,Jr hki hsi (by rw[hlen];exact h2) hl2 ?_⟩
   rw[hlen,←X3 hk,hB2]
   have hg:=Hq (cs:=B) (L:=rows.flatten) (X:=x) (p:=i*2) (q:=(i+1)*2) (by omega) (by omega) (by
    rw[hBt,List.drop_zero];unfold qn;rw[List.take_append_of_le_length (by omega)]) (by omega)
   rw[hfl,hx]at hg
   rw[←hg]
   congr 1;omega
  ·have h1':¬(c:Int)<(rows.length:Int)+1:=of_decide_eq_false h1
   push_cast -dsimp
   repeat refine an ?_
   refine zkn (x8 (P:=Tryz.prog) (tR:=4) Tryz.func254 (by kernel_rfl) (by kernel_rfl) (by kernel_rfl) (by kernel_rfl) Qi J9 rfl (List.ne_nil_of_length_pos (by rw[hbl];omega)) (by simp) (by omega)) ?_
   push_cast -dsimp
   repeat refine an ?_
   have hbp:=Y4 (c:=c) hk hi
   refine Xq Qi J9 (QJ rfl (by rw[hbl];omega)) rfl (by simp[hbl];omega) (by rw[hbl];omega) (fun B1 hB1 hl1=>?_)
   rw[hbl]at hl1
   rw[List.take_take,Nat.min_eq_left (by omega),show min (rows.length+1-i) (rows.length-i)*2=(rows.length-i)*2 by omega,hbp]at hB1
   push_cast -dsimp
   repeat refine an ?_
   refine Xq Qi J9 rfl rfl hxl (by rw[hl1];omega) (fun B2 hB2 hl2=>?_)
   rw[hl1]at hl2
   have hX:[x].flatten.take (min [x].length (rows.length+1-i)*2)=x:=by
    rw[List.length_singleton,Nat.min_eq_left (by omega),List.take_of_length_le (by omega)];simp
   rw[hX,hB1]at hB2
   push_cast -dsimp
   have hcc:rows.length+1<=c:=by omega
   refine ⟨_,_,_,⟨⟨rfl,c,by rw[hlen];exact hcc,hcm,.inl ⟨rfl,rfl⟩⟩,Nat.le_of_ble_eq_true rfl⟩,[],rfl,rfl,?_,by push_cast -dsimp [zb,za,CLe,ze,hlen]⟩
   push_cast -dsimp [zb,za,CLe,ze]
   refine Jr hki hsi (by rw[hlen];exact hcc) hl2 ?_
   rw[hlen,←X3 hk,hB2]
   have hg:=VY (cs:=qn 2 rows c) (L:=rows.flatten) (X:=x) (p:=i*2) (q:=(i+1)*2) (by omega) (by omega) hpre (by omega)
   rw[hfl,hx]at hg
   rw[←hg]
   congr 1;omega
theorem zhr {e:Nat} (x:List C) (hx:x.length=2) (hsx:(x.all C.stayB)=true) :
  JT Tryz.prog G 233 [.sc (.slice none 0 0),.sc (.int .i64 0),.own 0 e 2 [x]] [] 1 (fun r bx' n=>n=0/\∃ c,1<=c/\c<=9223372036854775807/\r = .bs 0 0 2 1 c/\bx' = [qn 2 [x] c]):=by
 refine foX (fun j=>if j=1000000+73 then [true,true] else if j=11 then [false,false,false,false,false,false,false,false,true] else if j=15 then [false,false,false,false,false,false,false,false,true] else []) Tryz.func233 ?_;dsimp only[Tryz.f233]
 push_cast -dsimp
 refine Gs Qi J9 rfl rfl (by decide) rfl (by simp[hx]) (by simp) (by simp) (by simp) (fun c h1 h2=>?_)
 push_cast -dsimp
 refine ⟨_,_,_,⟨⟨rfl,c,h1,h2,rfl,rfl⟩,Nat.zero_le _⟩,[],rfl,rfl,?_,by push_cast -dsimp [zb,za,CLe,ze]⟩
 push_cast -dsimp [zb,za,CLe,ze]
 have:=zp (src:=[]) (n:=1) (zD (k:=2) (c:=c) (rows:=[x]) fun r hr=>by
  rw[List.mem_singleton.1 hr];exact hsx)
 unfold qn at this ⊢
 simpa using this
end
end
end Go.Proofs.YtiblepfehggicaaGreatDoor.Vcg
section
namespace Go.Proofs
open Go.Shelf
def Tryz.lays169_ren:Go.Shelf.Ren:=⟨fun | 169=>119 | n=>n,fun | 70=>156 | 9=>9 | 0=>0 | 72=>159 | 37=>157 | 127=>199 | 3=>3 | 5=>5 | n=>n,fun | n=>n⟩
theorem Tryz.lays169:Go.Proofs.Lays.n169 Tryz.prog Tryz.lays169_ren:={
 mixed:=by kernel_rfl
 f169:=Tryz.func119.trans (congrArg some (by kernel_rfl))
 t0:=Tryz.underlying0
 a0:=Tryz.isAgg0
 z0:=Tryz.sizeOf0
 v0:=Tryz.zeroValue0
 t3:=Tryz.underlying3
 a3:=Tryz.isAgg3
 z3:=Tryz.sizeOf3
 v3:=Tryz.zeroValue3
 t9:=Tryz.underlying9
 a9:=Tryz.isAgg9
 z9:=Tryz.sizeOf9
 v9:=Tryz.zeroValue9
 t37:=Tryz.underlying157
 a37:=Tryz.isAgg157
 z37:=Tryz.sizeOf157
 v37:=Tryz.zeroValue157
 t70:=Tryz.underlying156
 a70:=Tryz.isAgg156
 z70:=Tryz.sizeOf156
 v70:=Tryz.zeroValue156
 t72:=Tryz.underlying159
 a72:=Tryz.isAgg159
 z72:=Tryz.sizeOf159
 v72:=Tryz.zeroValue159
 t127:=Tryz.underlying199
 a127:=Tryz.isAgg199
 z127:=Tryz.sizeOf199
 v127:=Tryz.zeroValue199 }
theorem Tryz.Builder_Extra_169:Builder.Extra Tryz.prog Tryz.lays169_ren:={
 sizeBuilder:=by kernel_rfl
 liesBuilder:=by kernel_rfl
 t5:=Tryz.underlying5
 a5:=Tryz.isAgg5
 z5:=Tryz.sizeOf5
 v5:=Tryz.zeroValue5
 infoByte:=by kernel_rfl
 cellsByte:=by kernel_rfl
 sizeByte:=by kernel_rfl
 neB5:=by decide }
open Go.RowKit in
theorem Tryz.Builder_String_any (B b:Nat) (l:List UInt8) (w:World) (h:Lib.IsBuilder 159 5 B b (Lib.byteCells l) w) (hBw:B<=w.heap.size) :
  Calls Tryz.prog 119 #[.pointer (some ⟨b,0,none⟩)] w fun e w'=>e = .returned (.string ⟨l.toArray⟩)/\Below B w w':=Any.Builder_String_any Tryz.lays169 Tryz.Builder_Extra_169 B b l w h hBw
def Tryz.lays156_ren:Go.Shelf.Ren:=⟨fun | 156=>78 | 165=>117 | 166=>118 | 169=>119 | 240=>159 | 241=>160 | 276=>194 | 277=>195 | n=>n,fun | 31=>33 | 9=>9 | 3=>3 | 4=>4 | 0=>0 | 20=>20 | 72=>159 | 76=>163 | 70=>156 | 37=>157 | 75=>162 | 127=>199 | 164=>233 | 5=>5 | 80=>165 | n=>n,fun | n=>n⟩
theorem Tryz.lays156:Go.Proofs.Lays.n156 Tryz.prog Tryz.lays156_ren:={
 mixed:=by kernel_rfl
 f156:=Tryz.func78.trans (congrArg some (by kernel_rfl))
 f165:=Tryz.func117.trans (congrArg some (by kernel_rfl))
 f166:=Tryz.func118.trans (congrArg some (by kernel_rfl))
 f169:=Tryz.func119.trans (congrArg some (by kernel_rfl))
 f240:=Tryz.func159.trans (congrArg some (by kernel_rfl))
 f241:=Tryz.func160.trans (congrArg some (by kernel_rfl))
 f276:=Tryz.func194.trans (congrArg some (by kernel_rfl))
 f277:=Tryz.func195.trans (congrArg some (by kernel_rfl))
 t0:=Tryz.underlying0
 a0:=Tryz.isAgg0
 z0:=Tryz.sizeOf0
 v0:=Tryz.zeroValue0
 t3:=Tryz.underlying3
 a3:=Tryz.isAgg3
 z3:=Tryz.sizeOf3
 v3:=Tryz.zeroValue3
 t4:=Tryz.underlying4
 a4:=Tryz.isAgg4
 z4:=Tryz.sizeOf4
 v4:=Tryz.zeroValue4
 t9:=Tryz.underlying9
 a9:=Tryz.isAgg9
 z9:=Tryz.sizeOf9
 v9:=Tryz.zeroValue9
 t20:=Tryz.underlying20
 a20:=Tryz.isAgg20
 z20:=Tryz.sizeOf20
 v20:=Tryz.zeroValue20
 t31:=Tryz.underlying33
 a31:=Tryz.isAgg33
 z31:=Tryz.sizeOf33
 v31:=Tryz.zeroValue33
 t37:=Tryz.underlying157
 a37:=Tryz.isAgg157
 z37:=Tryz.sizeOf157
 v37:=Tryz.zeroValue157
 t70:=Tryz.underlying156
 a70:=Tryz.isAgg156
 z70:=Tryz.sizeOf156
 v70:=Tryz.zeroValue156
 t72:=Tryz.underlying159
 a72:=Tryz.isAgg159
 z72:=Tryz.sizeOf159
 v72:=Tryz.zeroValue159
 t75:=Tryz.underlying162
 a75:=Tryz.isAgg162
 z75:=Tryz.sizeOf162
 v75:=Tryz.zeroValue162
 t76:=Tryz.underlying163
 a76:=Tryz.isAgg163
 z76:=Tryz.sizeOf163
 v76:=Tryz.zeroValue163
 t127:=Tryz.underlying199
 a127:=Tryz.isAgg199
 z127:=Tryz.sizeOf199
 v127:=Tryz.zeroValue199
 t164:=Tryz.underlying233
 a164:=Tryz.isAgg233
 z164:=Tryz.sizeOf233
 v164:=Tryz.zeroValue233 }
theorem Tryz.Builder_Extra_156:Builder.Extra Tryz.prog Tryz.lays156_ren:={
 sizeBuilder:=by kernel_rfl
 liesBuilder:=by kernel_rfl
 t5:=Tryz.underlying5
 a5:=Tryz.isAgg5
 z5:=Tryz.sizeOf5
 v5:=Tryz.zeroValue5
 infoByte:=by kernel_rfl
 cellsByte:=by kernel_rfl
 sizeByte:=by kernel_rfl
 neB5:=by decide }
open Go.RowKit in
theorem Tryz.strings_Join_none (a:Option Addr) (c:Nat) (sep:ByteArray) (w:World) :
  Calls Tryz.prog 78 #[.slice a 0 c,.string sep] w fun e w'=>e = .returned (.string ⟨#[]⟩)/\w'=w:=Any.strings_Join_none Tryz.lays156 Tryz.Builder_Extra_156 a c sep w
open Go.RowKit in
theorem Tryz.strings_Join (bk o c:Nat) (xs:List ByteArray) (sep:ByteArray) (w:World) (hcells:∀ (j:Nat) x,xs[j]?=some x->w.cell? ⟨bk,o+j,none⟩=some (.string x)) (hbk:bk<w.heap.size) (hN:xs.length<=140737488355328) (hcap:xs.length<=c) (hlen:(Lib.join (xs.map (·.data.toList)) sep.data.toList).length<=140737488355328) :
  Calls Tryz.prog 78 #[.slice (some ⟨bk,o,none⟩) xs.length c,.string sep] w fun e w'=>e = .returned (.string ⟨(Lib.join (xs.map (·.data.toList)) sep.data.toList).toArray⟩)/\Below w.heap.size w w':=Any.strings_Join Tryz.lays156 Tryz.Builder_Extra_156 bk o c xs sep w hcells hbk hN hcap hlen
def Tryz.lays162_ren:Go.Shelf.Ren:=⟨fun | 162=>153 | 232=>187 | 227=>188 | 234=>189 | 236=>190 | 228=>222 | 271=>223 | 151=>224 | 120=>248 | 197=>185 | 152=>249 | 260=>220 | 137=>260 | 119=>261 | 224=>246 | 225=>245 | 217=>244 | 266=>258 | n=>n,fun | 9=>9 | 4=>4 | 3=>3 | 5=>5 | 117=>224 | 116=>223 | 0=>0 | 124=>227 | 21=>21 | 105=>218 | 46=>230 | 119=>261 | 139=>264 | 138=>263 | n=>n,fun | 3=>5 | 4=>6 | n=>n⟩
theorem Tryz.lays162:Go.Proofs.Lays.n162 Tryz.prog Tryz.lays162_ren:={
 mixed:=by kernel_rfl
 f119:=Tryz.func261.trans (congrArg some (by kernel_rfl))
 f120:=Tryz.func248.trans (congrArg some (by kernel_rfl))
 f137:=Tryz.func260.trans (congrArg some (by kernel_rfl))
 f151:=Tryz.func224.trans (congrArg some (by kernel_rfl))
 f152:=Tryz.func249.trans (congrArg some (by kernel_rfl))
 f162:=Tryz.func153.trans (congrArg some (by kernel_rfl))
 f197:=Tryz.func185.trans (congrArg some (by kernel_rfl))
 f217:=Tryz.func244.trans (congrArg some (by kernel_rfl))
 f224:=Tryz.func246.trans (congrArg some (by kernel_rfl))
 f225:=Tryz.func245.trans (congrArg some (by kernel_rfl))
 f227:=Tryz.func188.trans (congrArg some (by kernel_rfl))
 f228:=Tryz.func222.trans (congrArg some (by kernel_rfl))
 f232:=Tryz.func187.trans (congrArg some (by kernel_rfl))
 f234:=Tryz.func189.trans (congrArg some (by kernel_rfl))
 f236:=Tryz.func190.trans (congrArg some (by kernel_rfl))
 f260:=Tryz.func220.trans (congrArg some (by kernel_rfl))
 f266:=Tryz.func258.trans (congrArg some (by kernel_rfl))
 f271:=Tryz.func223.trans (congrArg some (by kernel_rfl))
 t0:=Tryz.underlying0
 a0:=Tryz.isAgg0
 z0:=Tryz.sizeOf0
 v0:=Tryz.zeroValue0
 t3:=Tryz.underlying3
 a3:=Tryz.isAgg3
 z3:=Tryz.sizeOf3
 v3:=Tryz.zeroValue3
 t4:=Tryz.underlying4
 a4:=Tryz.isAgg4
 z4:=Tryz.sizeOf4
 v4:=Tryz.zeroValue4
 t5:=Tryz.underlying5
 a5:=Tryz.isAgg5
 z5:=Tryz.sizeOf5
 v5:=Tryz.zeroValue5
 t9:=Tryz.underlying9
 a9:=Tryz.isAgg9
 z9:=Tryz.sizeOf9
 v9:=Tryz.zeroValue9
 t21:=Tryz.underlying21
 a21:=Tryz.isAgg21
 z21:=Tryz.sizeOf21
 v21:=Tryz.zeroValue21
 t46:=Tryz.underlying230
 a46:=Tryz.isAgg230
 z46:=Tryz.sizeOf230
 v46:=Tryz.zeroValue230
 t105:=Tryz.underlying218
 a105:=Tryz.isAgg218
 z105:=Tryz.sizeOf218
 v105:=Tryz.zeroValue218
 t116:=Tryz.underlying223
 a116:=Tryz.isAgg223
 z116:=Tryz.sizeOf223
 t117:=Tryz.underlying224
 a117:=Tryz.isAgg224
 z117:=Tryz.sizeOf224
 v117:=Tryz.zeroValue224
 t119:=Tryz.underlying261
 a119:=Tryz.isAgg261
 z119:=Tryz.sizeOf261
 t124:=Tryz.underlying227
 a124:=Tryz.isAgg227
 z124:=Tryz.sizeOf227
 v124:=Tryz.zeroValue227
 t138:=Tryz.underlying263
 a138:=Tryz.isAgg263
 z138:=Tryz.sizeOf263
 v138:=Tryz.zeroValue263
 t139:=Tryz.underlying264
 a139:=Tryz.isAgg264
 z139:=Tryz.sizeOf264
 v139:=Tryz.zeroValue264
 g3:=by kernel_rfl
 g4:=by kernel_rfl }
def Tryz.lays119_ren:Go.Shelf.Ren:=⟨fun | 119=>261 | n=>n,fun | 21=>21 | 4=>4 | n=>n,fun | n=>n⟩
theorem Tryz.lays119:Go.Proofs.Lays.n119 Tryz.prog Tryz.lays119_ren:={
 mixed:=by kernel_rfl
 f119:=Tryz.func261.trans (congrArg some (by kernel_rfl))
 t4:=Tryz.underlying4
 a4:=Tryz.isAgg4
 z4:=Tryz.sizeOf4
 v4:=Tryz.zeroValue4
 t21:=Tryz.underlying21
 a21:=Tryz.isAgg21
 z21:=Tryz.sizeOf21
 v21:=Tryz.zeroValue21 }
theorem Tryz.utf8_ValidRune (r:Int) (w:World) :
  Calls Tryz.prog 261 #[.int .i32 r] w fun e w'=>e = .returned (.bool (Lib.validRune r))/\w'=w:=Any.utf8_ValidRune Tryz.lays119 r w
def Tryz.lays106_ren:Go.Shelf.Ren:=⟨fun | 106=>253 | 213=>263 | 265=>266 | n=>n,fun | 9=>9 | 3=>3 | n=>n,fun | n=>n⟩
theorem Tryz.lays106:Go.Proofs.Lays.n106 Tryz.prog Tryz.lays106_ren:={
 mixed:=by kernel_rfl
 f106:=Tryz.func253.trans (congrArg some (by kernel_rfl))
 f213:=Tryz.func263.trans (congrArg some (by kernel_rfl))
 f265:=Tryz.func266.trans (congrArg some (by kernel_rfl))
 t3:=Tryz.underlying3
 a3:=Tryz.isAgg3
 z3:=Tryz.sizeOf3
 v3:=Tryz.zeroValue3
 t9:=Tryz.underlying9
 a9:=Tryz.isAgg9
 z9:=Tryz.sizeOf9
 v9:=Tryz.zeroValue9 }
open Go.RowKit in
theorem Tryz.strings_Compare (a b:ByteArray) (w:World) :
  Calls Tryz.prog 253 #[.string a,.string b] w fun e w'=>e = .returned (.int .i64 (Lib.compareBytes a.data.toList b.data.toList))/\w'=w:=Any.strings_Compare Tryz.lays106 a b w
def Tryz.lays137_ren:Go.Shelf.Ren:=⟨fun | 137=>260 | 217=>244 | 266=>258 | n=>n,fun | 9=>9 | 5=>5 | 3=>3 | n=>n,fun | n=>n⟩
theorem Tryz.lays137:Go.Proofs.Lays.n137 Tryz.prog Tryz.lays137_ren:={
 mixed:=by kernel_rfl
 f137:=Tryz.func260.trans (congrArg some (by kernel_rfl))
 f217:=Tryz.func244.trans (congrArg some (by kernel_rfl))
 f266:=Tryz.func258.trans (congrArg some (by kernel_rfl))
 t3:=Tryz.underlying3
 a3:=Tryz.isAgg3
 z3:=Tryz.sizeOf3
 v3:=Tryz.zeroValue3
 t5:=Tryz.underlying5
 a5:=Tryz.isAgg5
 z5:=Tryz.sizeOf5
 v5:=Tryz.zeroValue5
 t9:=Tryz.underlying9
 a9:=Tryz.isAgg9
 z9:=Tryz.sizeOf9
 v9:=Tryz.zeroValue9 }
open Go.RowKit in
theorem Tryz.strings_IndexByte (s:ByteArray) (c:Int) (w:World) :
  Calls Tryz.prog 260 #[.string s,.int .u8 c] w fun e w'=>e = .returned (.int .i64 (Lib.indexByte s.data.toList c.toNat.toUInt8))/\w'=w:=Any.strings_IndexByte Tryz.lays137 s c w
def Tryz.lays143_ren:Go.Shelf.Ren:=⟨fun | 143=>186 | 219=>221 | 217=>244 | 225=>245 | 224=>246 | 267=>247 | 266=>258 | 314=>259 | n=>n,fun | 9=>9 | 3=>3 | 4=>4 | 5=>5 | 46=>230 | 146=>273 | 51=>272 | n=>n,fun | 1=>4 | n=>n⟩
theorem Tryz.lays143:Go.Proofs.Lays.n143 Tryz.prog Tryz.lays143_ren:={
 mixed:=by kernel_rfl
 f143:=Tryz.func186.trans (congrArg some (by kernel_rfl))
 f217:=Tryz.func244.trans (congrArg some (by kernel_rfl))
 f219:=Tryz.func221.trans (congrArg some (by kernel_rfl))
 f224:=Tryz.func246.trans (congrArg some (by kernel_rfl))
 f225:=Tryz.func245.trans (congrArg some (by kernel_rfl))
 f266:=Tryz.func258.trans (congrArg some (by kernel_rfl))
 f267:=Tryz.func247.trans (congrArg some (by kernel_rfl))
 f314:=Tryz.func259.trans (congrArg some (by kernel_rfl))
 t3:=Tryz.underlying3
 a3:=Tryz.isAgg3
 z3:=Tryz.sizeOf3
 v3:=Tryz.zeroValue3
 t4:=Tryz.underlying4
 a4:=Tryz.isAgg4
 z4:=Tryz.sizeOf4
 v4:=Tryz.zeroValue4
 t5:=Tryz.underlying5
 a5:=Tryz.isAgg5
 z5:=Tryz.sizeOf5
 v5:=Tryz.zeroValue5
 t9:=Tryz.underlying9
 a9:=Tryz.isAgg9
 z9:=Tryz.sizeOf9
 v9:=Tryz.zeroValue9
 t46:=Tryz.underlying230
 a46:=Tryz.isAgg230
 z46:=Tryz.sizeOf230
 v46:=Tryz.zeroValue230
 t51:=Tryz.underlying272
 a51:=Tryz.isAgg272
 z51:=Tryz.sizeOf272
 v51:=Tryz.zeroValue272
 t146:=Tryz.underlying273
 a146:=Tryz.isAgg273
 z146:=Tryz.sizeOf273
 v146:=Tryz.zeroValue273
 g1:=by kernel_rfl }
open Go.RowKit Go.Lib in
theorem Tryz.strings_Index_one (s:ByteArray) (c:UInt8) (w:World) :
  Calls Tryz.prog 186 #[.string s,.string ⟨#[c]⟩] w fun e w'=>e = .returned (.int .i64 (Lib.indexByte s.data.toList c))/\w'=w:=Any.strings_Index_one Tryz.lays143 s c w
def Tryz.lays99_ren:Go.Shelf.Ren:=⟨fun | 99=>81 | 206=>122 | n=>n,fun | 9=>9 | 4=>4 | 3=>3 | n=>n,fun | n=>n⟩
theorem Tryz.lays99:Go.Proofs.Lays.n99 Tryz.prog Tryz.lays99_ren:={
 mixed:=by kernel_rfl
 f99:=Tryz.func81.trans (congrArg some (by kernel_rfl))
 f206:=Tryz.func122.trans (congrArg some (by kernel_rfl))
 t3:=Tryz.underlying3
 a3:=Tryz.isAgg3
 z3:=Tryz.sizeOf3
 v3:=Tryz.zeroValue3
 t4:=Tryz.underlying4
 a4:=Tryz.isAgg4
 z4:=Tryz.sizeOf4
 v4:=Tryz.zeroValue4
 t9:=Tryz.underlying9
 a9:=Tryz.isAgg9
 z9:=Tryz.sizeOf9
 v9:=Tryz.zeroValue9 }
open Go.RowKit Go.Lib in
theorem Tryz.strings_HasPrefix (s p:ByteArray) (w:World) :
  Calls Tryz.prog 81 #[.string s,.string p] w fun e w'=>e = .returned (.bool (Lib.hasPrefix s.data.toList p.data.toList))/\w'=w:=Any.strings_HasPrefix Tryz.lays99 s p w
def Tryz.lays100_ren:Go.Shelf.Ren:=⟨fun | 100=>38 | 207=>73 | n=>n,fun | 9=>9 | 4=>4 | 3=>3 | n=>n,fun | n=>n⟩
theorem Tryz.lays100:Go.Proofs.Lays.n100 Tryz.prog Tryz.lays100_ren:={
 mixed:=by kernel_rfl
 f100:=Tryz.func38.trans (congrArg some (by kernel_rfl))
 f207:=Tryz.func73.trans (congrArg some (by kernel_rfl))
 t3:=Tryz.underlying3
 a3:=Tryz.isAgg3
 z3:=Tryz.sizeOf3
 v3:=Tryz.zeroValue3
 t4:=Tryz.underlying4
 a4:=Tryz.isAgg4
 z4:=Tryz.sizeOf4
 v4:=Tryz.zeroValue4
 t9:=Tryz.underlying9
 a9:=Tryz.isAgg9
 z9:=Tryz.sizeOf9
 v9:=Tryz.zeroValue9 }
open Go.RowKit Go.Lib in
theorem Tryz.strings_HasSuffix (s p:ByteArray) (w:World) (hs:s.size<=9223372036854775807) :
  Calls Tryz.prog 38 #[.string s,.string p] w fun e w'=>e = .returned (.bool (Lib.hasSuffix s.data.toList p.data.toList))/\w'=w:=Any.strings_HasSuffix Tryz.lays100 s p w hs
def Tryz.lays152_ren:Go.Shelf.Ren:=⟨fun | 152=>249 | 137=>260 | 119=>261 | 224=>246 | 225=>245 | 217=>244 | 266=>258 | n=>n,fun | 9=>9 | 21=>21 | 3=>3 | 4=>4 | 5=>5 | 0=>0 | 46=>230 | n=>n,fun | n=>n⟩
theorem Tryz.lays152:Go.Proofs.Lays.n152 Tryz.prog Tryz.lays152_ren:={
 mixed:=by kernel_rfl
 f119:=Tryz.func261.trans (congrArg some (by kernel_rfl))
 f137:=Tryz.func260.trans (congrArg some (by kernel_rfl))
 f152:=Tryz.func249.trans (congrArg some (by kernel_rfl))
 f217:=Tryz.func244.trans (congrArg some (by kernel_rfl))
 f224:=Tryz.func246.trans (congrArg some (by kernel_rfl))
 f225:=Tryz.func245.trans (congrArg some (by kernel_rfl))
 f266:=Tryz.func258.trans (congrArg some (by kernel_rfl))
 t0:=Tryz.underlying0
 a0:=Tryz.isAgg0
 z0:=Tryz.sizeOf0
 v0:=Tryz.zeroValue0
 t3:=Tryz.underlying3
 a3:=Tryz.isAgg3
 z3:=Tryz.sizeOf3
 v3:=Tryz.zeroValue3
 t4:=Tryz.underlying4
 a4:=Tryz.isAgg4
 z4:=Tryz.sizeOf4
 v4:=Tryz.zeroValue4
 t5:=Tryz.underlying5
 a5:=Tryz.isAgg5
 z5:=Tryz.sizeOf5
 v5:=Tryz.zeroValue5
 t9:=Tryz.underlying9
 a9:=Tryz.isAgg9
 z9:=Tryz.sizeOf9
 v9:=Tryz.zeroValue9
 t21:=Tryz.underlying21
 a21:=Tryz.isAgg21
 z21:=Tryz.sizeOf21
 v21:=Tryz.zeroValue21
 t46:=Tryz.underlying230
 a46:=Tryz.isAgg230
 z46:=Tryz.sizeOf230
 v46:=Tryz.zeroValue230 }
open Go.RowKit Go.Lib in
theorem Tryz.strings_IndexRune_ascii (s:ByteArray) (r:Int) (w:World) (h0:0<=r) (h1:r<128) :
  Calls Tryz.prog 249 #[.string s,.int .i32 r] w fun e w'=>e = .returned (.int .i64 (Lib.indexByte s.data.toList r.toNat.toUInt8))/\w'=w:=Any.strings_IndexRune_ascii Tryz.lays152 s r w h0 h1
def Tryz.lays226_ren:Go.Shelf.Ren:=⟨fun | 226=>262 | n=>n,fun | 3=>3 | 4=>4 | n=>n,fun | n=>n⟩
theorem Tryz.lays226:Go.Proofs.Lays.n226 Tryz.prog Tryz.lays226_ren:={
 mixed:=by kernel_rfl
 f226:=Tryz.func262.trans (congrArg some (by kernel_rfl))
 t3:=Tryz.underlying3
 a3:=Tryz.isAgg3
 z3:=Tryz.sizeOf3
 v3:=Tryz.zeroValue3
 t4:=Tryz.underlying4
 a4:=Tryz.isAgg4
 z4:=Tryz.sizeOf4
 v4:=Tryz.zeroValue4 }
open Go.RowKit Go.Lib in
theorem Tryz.strings_shouldUseASCIISet (n:Int) (w:World) :
  Calls Tryz.prog 262 #[.int .i64 n] w fun e w'=>e = .returned (.bool (decide (8<n)))/\w'=w:=Any.strings_shouldUseASCIISet Tryz.lays226 n w
def Tryz.lays153_ren:Go.Shelf.Ren:=⟨fun | 153=>250 | 152=>249 | 226=>262 | 227=>188 | 228=>222 | 137=>260 | 119=>261 | 224=>246 | 225=>245 | 217=>244 | 266=>258 | n=>n,fun | 9=>9 | 3=>3 | 4=>4 | 5=>5 | 21=>21 | 117=>224 | 116=>223 | 0=>0 | 46=>230 | 124=>227 | n=>n,fun | n=>n⟩
theorem Tryz.lays153:Go.Proofs.Lays.n153 Tryz.prog Tryz.lays153_ren:={
 mixed:=by kernel_rfl
 f119:=Tryz.func261.trans (congrArg some (by kernel_rfl))
 f137:=Tryz.func260.trans (congrArg some (by kernel_rfl))
 f152:=Tryz.func249.trans (congrArg some (by kernel_rfl))
 f153:=Tryz.func250.trans (congrArg some (by kernel_rfl))
 f217:=Tryz.func244.trans (congrArg some (by kernel_rfl))
 f224:=Tryz.func246.trans (congrArg some (by kernel_rfl))
 f225:=Tryz.func245.trans (congrArg some (by kernel_rfl))
 f226:=Tryz.func262.trans (congrArg some (by kernel_rfl))
 f227:=Tryz.func188.trans (congrArg some (by kernel_rfl))
 f228:=Tryz.func222.trans (congrArg some (by kernel_rfl))
 f266:=Tryz.func258.trans (congrArg some (by kernel_rfl))
 t0:=Tryz.underlying0
 a0:=Tryz.isAgg0
 z0:=Tryz.sizeOf0
 v0:=Tryz.zeroValue0
 t3:=Tryz.underlying3
 a3:=Tryz.isAgg3
 z3:=Tryz.sizeOf3
 v3:=Tryz.zeroValue3
 t4:=Tryz.underlying4
 a4:=Tryz.isAgg4
 z4:=Tryz.sizeOf4
 v4:=Tryz.zeroValue4
 t5:=Tryz.underlying5
 a5:=Tryz.isAgg5
 z5:=Tryz.sizeOf5
 v5:=Tryz.zeroValue5
 t9:=Tryz.underlying9
 a9:=Tryz.isAgg9
 z9:=Tryz.sizeOf9
 v9:=Tryz.zeroValue9
 t21:=Tryz.underlying21
 a21:=Tryz.isAgg21
 z21:=Tryz.sizeOf21
 v21:=Tryz.zeroValue21
 t46:=Tryz.underlying230
 a46:=Tryz.isAgg230
 z46:=Tryz.sizeOf230
 v46:=Tryz.zeroValue230
 t116:=Tryz.underlying223
 a116:=Tryz.isAgg223
 z116:=Tryz.sizeOf223
 t117:=Tryz.underlying224
 a117:=Tryz.isAgg224
 z117:=Tryz.sizeOf224
 v117:=Tryz.zeroValue224
 t124:=Tryz.underlying227
 a124:=Tryz.isAgg227
 z124:=Tryz.sizeOf227
 v124:=Tryz.zeroValue227 }
open Go.RowKit Go.Lib in
theorem Tryz.strings_IndexAny_long (hv116:∀ w,(zeroValue 223).run Tryz.prog w = .ok (.agg (Array.replicate 256 (.bool false))) w) (s chars:ByteArray) (w:World) (h2:2<=chars.size) (h8:8<s.size) (hs:s.size<4294967281) (hcs:chars.size<4294967281) (hascii:∀ (j:Nat) b,chars.data.toList[j]?=some b->b.toNat<128) :
  Calls Tryz.prog 250 #[.string s,.string chars] w fun e w'=>e = .returned (.int .i64 (Lib.indexAny s.data.toList chars.data.toList))/\w'=((w.alloc (.cells (Lib.setCells chars.data.toList) 223)).alloc (.cells (Lib.setCells chars.data.toList) 223)):=Any.strings_IndexAny_long Tryz.lays153 hv116 (by kernel_rfl) s chars w h2 h8 hs hcs hascii
end Go.Proofs
end
namespace Go.Proofs.YtiblepfehggicaaGreatDoor.Vcg
section
open CA CB
open Go.RowKit
section
variable {G:zq}
theorem jO (f:FsV) (n:Int) (hl:f.xs.length<=100000) (hR:qc f.xs):Fun Tryz.prog G 158 [.agg (fsC f),.sc (.int .i64 n)] (.tup [.agg (Yi (zg n f.xs)),.sc (.bool (zG n f.xs))]) 0:=by
 refine fon Tryz.func158 ?_;dsimp only[Tryz.f158]
 push_cast -dsimp
 refine cl (ze4 f n hl hR) ?_;push_cast -dsimp
 cases hh:zG n f.xs with
 | false =>
  have hg:zg n f.xs=zki:=by unfold zg;rw[Gm hh];rfl
  push_cast -dsimp [hh]
  exact dn (by push_cast -dsimp [zb,za,CLe,ze,hg,zki])
 | true =>
  obtain ⟨hlt,hg⟩:=Gv hR hh
  have hg:zg n f.xs=f.xs[ji n f.xs]:=by unfold zg;rw[hg];rfl
  have hat:=jg f.xs _ hlt
  push_cast -dsimp [hh,hat]
  (try simp only[lS]);repeat refine an ?_
  exact dn (by push_cast -dsimp [zb,za,CLe,ze,hg])
theorem zT {xs:List zA}:∀ r∈zr xs,r.length=6:=fun r hr=>by
 obtain ⟨x,_,rfl⟩:=List.mem_map.1 hr;rfl
theorem zt {xs:List zA}:qV (zr xs):=fun r hr=>by
 obtain ⟨x,_,rfl⟩:=List.mem_map.1 hr;rfl
theorem YH (f:FsV) (x:zA) (hl:f.xs.length<=90000) (hR:qc f.xs) :
  Fun Tryz.prog G 203 [.agg (fsC f),.agg (Yi x)] (.agg [.sc (.int .i64 f.maxI),.sc (.int .i64 f.maxB),.sc (.int .i64 f.next),.own 0 75 6 (zr (qF x f.xs))]) 1:=by
 have hll:(zr f.xs).length=f.xs.length:=List.length_map ..
 refine foF (fun _=>[]) Tryz.func203 ?_;dsimp only[Tryz.f203]
 push_cast -dsimp
 refine cl (ze4 f x.ino (by omega) hR) ?_;push_cast -dsimp
 refine jo [] [] (X1 (zr f.xs) zT zt (by omega)) rfl (by decide) (by decide) (by simp) (by push_cast -dsimp) (by push_cast -dsimp) (fun r bx' m hp=>?_)
 obtain ⟨rfl,⟨hne,c,h1,h2,rfl,rfl⟩ | ⟨he,⟨rfl,rfl⟩ | ⟨rfl,rfl⟩⟩⟩:=hp
 ·have hbl:=Jv zT h1
  have hre:∀ fp fo,C.reL fp fo (qn 6 (zr f.xs) c)=qn 6 (zr f.xs) c:=fun fp fo=>zl (zD zt)
  have hpos:=List.length_pos_iff.2 hne
  cases hh:zG x.ino f.xs with
  | true =>
   obtain ⟨hlt,_⟩:=Gv hR hh
   have hst:=ug (c:=c) (rows:=zr f.xs) (row:=Yi x) (i:=ji x.ino f.xs) zT rfl (by omega)
   have hset:zr (qF x f.xs)=(zr f.xs).set (ji x.ino f.xs) (Yi x):=by rw[←xd hR hh];simp[List.map_set]
   push_cast -dsimp [hh,hre,hst]
   refine ⟨by omega,by omega,by rw[hbl];omega,[(4,75,6,(zr f.xs).set (ji x.ino f.xs) (Yi x),c)],[.inl 0],?_,rfl,rfl,by push_cast -dsimp [zb,za,CLe,ze,hset,List.length_set]⟩
   rw[←hset]
   refine zy (by rw[hset];rfl) (by omega) (by rw[hset,List.length_set];exact h1) h2 zT zt
  | false =>
   have hset:zr (qF x f.xs)=(zr f.xs).take (ji x.ino f.xs)++Yi x :: (zr f.xs).drop (ji x.ino f.xs):=by rw[←zdl hR hh];simp
   have hrl:=zjB x.ino f.xs
   have hsl:(zr (qF x f.xs)).length=(zr f.xs).length+1:=by rw[hset];simp;omega
   push_cast -dsimp [hh,hre]
   refine jo [4] [0] (VO (e:=75) (zr f.xs) (Yi x) (ji x.ino f.xs) c zT rfl zt rfl (by omega) (by omega) h1 h2) rfl (by decide) (by decide) (by simp) (by push_cast -dsimp) (by push_cast -dsimp [hre]) (fun r bx' m hp=>?_)
   rw[←hset]at hp
   have hre2:∀ fp fo c,C.reL fp fo (qn 6 (zr (qF x f.xs)) c)=qn 6 (zr (qF x f.xs)) c:=fun fp fo c=>zl (zD zt)
   obtain ⟨rfl,c',g1,g2,⟨rfl,rfl⟩ | ⟨rfl,rfl⟩⟩:=hp
   ·push_cast -dsimp [hre2,hre]
    exact ⟨[(4,75,6,zr (qF x f.xs),c')],[.inl 1],zy rfl (by omega) g1 g2 zT zt,rfl,rfl,by push_cast -dsimp [zb,za,CLe,ze]⟩
   ·have hra:∀ fp fo,C.reL fp fo (List.replicate (c*6) .any)=List.replicate (c*6) .any:=fun fp fo=>zl (by simp[List.all_replicate,C.stayB])
    push_cast -dsimp [hre2,hre,hra]
    exact ⟨[(5,75,6,zr (qF x f.xs),c')],[.inl 1],zy rfl (by omega) g1 g2 zT zt,rfl,rfl,by push_cast -dsimp [zb,za,CLe,ze]⟩
 ·have he:f.xs = []:=by simpa using he
  have hh:zG x.ino f.xs=false:=by rw[he];rfl
  have hr0:ji x.ino f.xs=0:=by rw[he];rfl
  have hset:qF x f.xs = [x]:=by rw[he];rfl
  push_cast -dsimp [hh,hr0]
  refine jo [] [0] (vo (e:=75) (Yi x) rfl rfl) rfl (by decide) (by decide) (by simp) (by push_cast -dsimp) (by push_cast -dsimp) (fun r bx' m hp=>?_)
  obtain ⟨rfl,c,g1,g2,rfl,rfl⟩:=hp
  have hre:∀ fp fo,C.reL fp fo (qn 6 [Yi x] c)=qn 6 [Yi x] c:=fun fp fo=>zl (zD (zt (xs:=[x])))
  push_cast -dsimp [hre]
  exact ⟨[(3,75,6,zr [x],c)],[.inl 1],zy rfl (by omega) g1 g2 zT zt,rfl,rfl,by push_cast -dsimp [zb,za,CLe,ze,hset]⟩
 ·have he:f.xs = []:=by simpa using he
  have hh:zG x.ino f.xs=false:=by rw[he];rfl
  have hr0:ji x.ino f.xs=0:=by rw[he];rfl
  have hset:qF x f.xs = [x]:=by rw[he];rfl
  push_cast -dsimp [hh,hr0]
  refine jo [3] [0] (VO (e:=75) [] (Yi x) 0 0 (fun r hr=>by cases hr) rfl (fun r hr=>by cases hr) rfl (by simp) (by simp) (by simp) (by simp)) rfl (by decide) (by decide) (by simp) (by push_cast -dsimp) (by push_cast -dsimp [qn]) (fun r bx' m hp=>?_)
  obtain ⟨rfl,c,g1,g2,hp⟩:=hp
  have hre:∀ fp fo,C.reL fp fo (qn 6 [Yi x] c)=qn 6 [Yi x] c:=fun fp fo=>zl (zD (zt (xs:=[x])))
  rcases hp with ⟨rfl,rfl⟩ | ⟨rfl,rfl⟩
  ·push_cast -dsimp [hre]
   exact ⟨[(3,75,6,zr [x],c)],[.inl 1],zy rfl (Nat.lt_of_lt_of_le (Nat.zero_lt_succ _) g1) g1 g2 zT zt,rfl,rfl,by push_cast -dsimp [zb,za,CLe,ze,hset]⟩
  ·push_cast -dsimp [hre]
   exact ⟨[(4,75,6,zr [x],c)],[.inl 1],zy rfl (Nat.lt_of_lt_of_le (Nat.zero_lt_succ _) g1) g1 g2 zT zt,rfl,rfl,by push_cast -dsimp [zb,za,CLe,ze,hset]⟩
theorem zf1 (f:FsV) (n:Int) (hl:f.xs.length<=90000) (hR:qc f.xs) (h0:f.xs≠[]) :
  Fun Tryz.prog G 207 [.agg (fsC f),.sc (.int .i64 n)] (.agg [.sc (.int .i64 f.maxI),.sc (.int .i64 f.maxB),.sc (.int .i64 f.next),.own 0 75 6 (zr (qk n f.xs))]) 1:=by
 have hll:(zr f.xs).length=f.xs.length:=List.length_map ..
 refine foF (fun _=>[]) Tryz.func207 ?_;dsimp only[Tryz.f207]
 push_cast -dsimp
 refine cl (ze4 f n (by omega) hR) ?_;push_cast -dsimp
 refine jo [] [] (X1 (zr f.xs) zT zt (by omega)) rfl (by decide) (by decide) (by simp) (by push_cast -dsimp) (by push_cast -dsimp) (fun r bx' m hp=>?_)
 obtain ⟨rfl,⟨hne,c,h1,h2,rfl,rfl⟩ | ⟨he,_⟩⟩:=hp
 ·have hre:∀ fp fo,C.reL fp fo (qn 6 (zr f.xs) c)=qn 6 (zr f.xs) c:=fun fp fo=>zl (zD zt)
  have hpos:=List.length_pos_iff.2 hne
  cases hh:zG n f.xs with
  | true =>
   obtain ⟨hlt,_⟩:=Gv hR hh
   have hset:zr (qk n f.xs)=(zr f.xs).take (ji n f.xs)++(zr f.xs).drop (ji n f.xs+1):=by rw[←vp hR hh];simp
   have hsl:(zr (qk n f.xs)).length=(zr f.xs).length-1:=by rw[hset];simp;omega
   have hd:=zie (G:=G) (zr f.xs) (ji n f.xs) c zT zt (by omega) (by omega) h1 h2
   rw[←hset,←hsl]at hd
   have hre2:∀ fp fo,C.reL fp fo (qn 6 (zr (qk n f.xs)) c)=qn 6 (zr (qk n f.xs)) c:=fun fp fo=>zl (zD zt)
   push_cast -dsimp [hh,hre]
   (try simp only[lS]);repeat refine an ?_
   rw[hll]at hd
   refine yY [3] [] hd rfl (by decide) (by decide) (by simp) (by push_cast -dsimp) (by push_cast -dsimp [hre]) ?_
   push_cast -dsimp [hre,hre2]
   exact ⟨[(3,75,6,zr (qk n f.xs),c)],[.inl 0],zy rfl (by omega) (by omega) h2 zT zt,rfl,rfl,by push_cast -dsimp [zb,za,CLe,ze]⟩
  | false =>
   push_cast -dsimp [hh,hre]
   exact ⟨[(3,75,6,zr f.xs,c)],[.inl 0],zy rfl (by omega) h1 h2 zT zt,rfl,rfl,by push_cast -dsimp [zb,za,CLe,ze,XZ hh]⟩
 ·exact absurd (by simpa using he) h0
theorem zic (f:FsV) (hl:f.xs.length<=90000) (h0:f.xs≠[]) (h1:-4611686018427387904<=f.next) (h2:f.next<=4611686018427387904) :
  Fun Tryz.prog G 201 [.agg (fsC f)] (.tup [.agg [.sc (.int .i64 f.maxI),.sc (.int .i64 f.maxB),.sc (.int .i64 (f.next+1)),.own 0 75 6 (zr f.xs)],.sc (.int .i64 f.next)]) 1:=by
 have hll:(zr f.xs).length=f.xs.length:=List.length_map ..
 refine foF (fun _=>[]) Tryz.func201 ?_;dsimp only[Tryz.f201]
 push_cast -dsimp
 (try simp only[lS]);repeat refine an ?_
 refine jo [] [] (X1 (zr f.xs) zT zt (by omega)) rfl (by decide) (by decide) (by simp) (by push_cast -dsimp) (by push_cast -dsimp) (fun r bx' m hp=>?_)
 obtain ⟨rfl,⟨hne,c,h1,h2,rfl,rfl⟩ | ⟨he,_⟩⟩:=hp
 ·have hre:∀ fp fo,C.reL fp fo (qn 6 (zr f.xs) c)=qn 6 (zr f.xs) c:=fun fp fo=>zl (zD zt)
  have hpos:=List.length_pos_iff.2 hne
  push_cast -dsimp [hre]
  exact ⟨[(3,75,6,zr f.xs,c)],[.inl 0],zy rfl (by omega) h1 h2 zT zt,rfl,rfl,by push_cast -dsimp [zb,za,CLe,ze]⟩
 ·exact absurd (by simpa using he) h0
theorem zix {R:Env} {L:Loc} {id e:Nat} {v:Value} (h:Rep R L (.own id e 6 [[.sc (.int .i64 1),.sc (.int .i64 2),.sc (.int .i64 0),.str [],.sc (.int .i64 1),.sc (.slice none 0 0)]]) v):Rep R L (.own id e 6 (zr [⟨1,2,0,[],1,[]⟩])) v:=
 zae (by simp[RLe,ze,CLe]) h
end
end
section
open CA CB
open Go.RowKit
section
variable {G:zq}
theorem zaS {xs:List zA} {i:Nat} (hi:i<xs.length) (h0:0<i):qc (xs.take (i+1))↔qc (xs.take i)/\xs[i-1].ino<xs[i].ino:=by
 rw[List.take_add_one,List.getElem?_eq_getElem hi]
 unfold qc
 rw[List.pairwise_append]
 simp only[Option.toList_some,List.pairwise_singleton,true_and,List.mem_singleton,forall_eq]
 constructor
 ·rintro ⟨h1,h2⟩
  exact ⟨h1,h2 _ (List.mem_take_iff_getElem.2 ⟨i-1,by omega,rfl⟩)⟩
 ·rintro ⟨h1,h2⟩
  refine ⟨h1,fun a ha=>?_⟩
  obtain ⟨j,hj,rfl⟩:=List.mem_take_iff_getElem.1 ha
  rcases Nat.lt_or_ge j (i-1) with q | q
  ·have:=(List.pairwise_iff_getElem.1 h1) j (i-1) (by simp;omega) (by simp;omega) q
   simp at this
   omega
  ·have:j=i-1:=by omega
   subst this;exact h2
instance (xs:List zA):Decidable (qc xs):=by unfold qc;infer_instance
theorem Vz (f:FsV) (hl:f.xs.length<=100000):Fun Tryz.prog G 49 [.agg (fsC f)] (.sc (.bool (decide (qc f.xs)))) 0:=by
 have hll:(zr f.xs).length=f.xs.length:=List.length_map ..
 refine fon Tryz.func49 ?_;dsimp only[Tryz.f49]
 push_cast -dsimp
 refine loop (fun i:Nat=>⟨[(1,.ptr 0 0),(3,.sc (.int .i64 i))],[fsC f],0,0⟩) (fun i=>1<=i/\qc (f.xs.take i)) (fun i=>f.xs.length-i) 1 ⟨Nat.le_refl _,by
  cases f.xs with
  | nil=>exact List.Pairwise.nil
  | cons x r=>exact List.pairwise_singleton _ _⟩ ?_ ?_
 ·exact wk
 ·rintro i ⟨h1,h2⟩
  by_cases h:i<f.xs.length
  ·have g1:=jg f.xs i h
   have g2:=jg f.xs (i-1) (by omega)
   have e1:(i:Int)-1=((i-1:Nat):Int):=by omega
   push_cast -dsimp [hll,h,e1,g1,g2]
   by_cases hc:f.xs[i].ino<=f.xs[i-1].ino
   ·push_cast -dsimp [hc]
    repeat refine an ?_
    have hn:¬qc f.xs:=fun hR=>by
     have:=(List.pairwise_iff_getElem.1 hR) (i-1) i (by omega) h (by omega)
     omega
    exact dn (by push_cast -dsimp [zb,za,CLe,ze,hn])
   ·push_cast -dsimp [hc]
    repeat refine an ?_
    exact ⟨i+1,⟨by omega,(zaS h (by omega)).2 ⟨h2,by omega⟩⟩,by omega,wk⟩
  ·push_cast -dsimp [hll,h]
   rw[List.take_of_length_le (by omega)]at h2
   exact dn (by push_cast -dsimp [zb,za,CLe,ze,h2])
def Mr (x:zA):Prop:=x.data.length<=5000/\x.es.length<=40/\∀ e∈x.es,e.name.length<=300
instance (x:zA):Decidable (Mr x):=by unfold Mr;infer_instance
def Vk (xs:List zA):Prop:=xs.length<=40/\∀ x∈xs,Mr x
instance (xs:List zA):Decidable (Vk xs):=by unfold Vk;infer_instance
structure FsS (f:FsV):Prop where
 len:f.xs.length<=10000
 node:∀ x∈f.xs,x.es.length<=10000/\x.data.length<=10000/\∀ e∈x.es,e.name.length<=10000
theorem Vk.fs {f:FsV} (h:Vk f.xs):FsS f:=⟨by have:=h.1;omega,fun x hx=>by
 obtain ⟨h1,h2,h3⟩:=h.2 x hx
 exact ⟨by omega,by omega,fun e he=>by have:=h3 e he;omega⟩⟩
theorem uh (f:FsV):Fun Tryz.prog G 36 [.agg (fsC f)] (.sc (.bool (decide (Vk f.xs)))) 0:=by
 have hll:(zr f.xs).length=f.xs.length:=List.length_map ..
 refine fon Tryz.func36 ?_;dsimp only[Tryz.f36]
 push_cast -dsimp
 refine loop (fun i:Nat=>⟨[(1,.ptr 0 0),(3,.sc (.int .i64 i))],[fsC f],0,0⟩) (fun i=>i<=100/\∀ t (h:t<f.xs.length),t<i->Mr f.xs[t]) (fun i=>100-i) 0 ⟨Nat.zero_le _,fun t h h'=>absurd h' (Nat.not_lt_zero _)⟩ ?_ ?_
 ·exact wk
 ·rintro i ⟨h1,h2⟩
  have hend:¬(i<f.xs.length/\i<100)->decide ((f.xs.length:Int)<=40)=decide (Vk f.xs):=fun h=>by
   rw[decide_eq_decide]
   constructor
   ·intro hle
    refine ⟨by omega,fun x hx=>?_⟩
    obtain ⟨t,ht,rfl⟩:=List.getElem_of_mem hx
    exact h2 t ht (by omega)
   ·intro h;have:=h.1;omega
  by_cases h:i<f.xs.length
  ·by_cases h100:i<100
   ·have g1:=jg f.xs i h
    have h100':(i:Int)<100:=by omega
    have hbad:¬Mr f.xs[i]->¬Vk f.xs:=fun hs hf=>hs (hf.2 _ (List.getElem_mem h))
    by_cases hd:5000<(f.xs[i].data.length:Int)
    ·have hn:=hbad fun hs=>by have:=hs.1;omega
     push_cast -dsimp [hll,h,h100',g1,hd]
     repeat refine an ?_
     exact dn (by push_cast -dsimp [zb,za,CLe,ze,hn])
    ·by_cases he:40<(f.xs[i].es.length:Int)
     ·have hn:=hbad fun hs=>by have:=hs.2.1;omega
      push_cast -dsimp [hll,h,h100',g1,hd,List.length_map,he]
      repeat refine an ?_
      exact dn (by push_cast -dsimp [zb,za,CLe,ze,hn])
     ·push_cast -dsimp [hll,h,h100',g1,hd,List.length_map,he]
      repeat refine an ?_
      refine loop (fun j:Nat=>⟨[(1,.ptr 0 0),(3,.sc (.int .i64 i)),(4,.ptr 1 0),(5,.sc (.int .i64 j))],[fsC f,Yi f.xs[i]],0,0⟩) (fun j=>j<=f.xs[i].es.length/\∀ t (h':t<f.xs[i].es.length),t<j->f.xs[i].es[t].name.length<=300) (fun j=>f.xs[i].es.length-j) 0 ⟨Nat.zero_le _,fun t h h'=>absurd h' (Nat.not_lt_zero _)⟩ ?_ ?_
      ·exact wk
      ·rintro j ⟨h3,h4⟩
       by_cases hj:j<f.xs[i].es.length
       ·have g2:=Jt f.xs[i].es j hj
        by_cases hs:300<(f.xs[i].es[j].name.length:Int)
        ·have hn:=hbad fun hs'=>by have:=hs'.2.2 _ (List.getElem_mem hj);omega
         push_cast -dsimp [List.length_map,hj,g2,hs]
         repeat refine an ?_
         exact dn (by push_cast -dsimp [zb,za,CLe,ze,hn])
        ·push_cast -dsimp [List.length_map,hj,g2,hs]
         repeat refine an ?_
         refine ⟨j+1,⟨hj,fun t ht hlt=>?_⟩,by omega,wk⟩
         rcases Nat.lt_or_ge t j with q | q
         ·exact h4 t ht q
         ·have:t=j:=by omega
          subst this;omega
       ·push_cast -dsimp [List.length_map,hj]
        repeat refine an ?_
        refine ⟨i+1,⟨by omega,fun t ht hlt=>?_⟩,by omega,wk⟩
        rcases Nat.lt_or_ge t i with q | q
        ·exact h2 t ht q
        ·have:t=i:=by omega
         subst this
         refine ⟨by omega,by omega,fun e hee=>?_⟩
         obtain ⟨u,hu,rfl⟩:=List.getElem_of_mem hee
         exact h4 u hu (by omega)
   ·have h100':((i:Int)<100)=False:=eq_false (by omega)
    have:=hend (by omega)
    push_cast -dsimp [hll,h,h100']
    exact dn (by push_cast -dsimp [zb,za,CLe,ze,this])
  ·have:=hend (by omega)
   push_cast -dsimp [hll,h]
   exact dn (by push_cast -dsimp [zb,za,CLe,ze,this])
theorem N7 (f:FsV) (n:Int) (hl:f.xs.length<=90000) :
  Fun Tryz.prog G 107 [.agg (fsC f),.sc (.int .i64 n)] (.agg [.sc (.int .i64 f.maxI),.sc (.int .i64 f.maxB),.sc (.int .i64 f.next),.own 0 75 6 (zr (qk n f.xs))]) 1:=by
 have hll:(zr f.xs).length=f.xs.length:=List.length_map ..
 refine fon Tryz.func107 ?_;dsimp only[Tryz.f107]
 push_cast -dsimp
 refine loop (fun i:Nat=>⟨[(1,.sc (.int .i64 n)),(2,.ptr 0 0),(4,.ptr 1 0),(5,.own 0 75 6 (zr (qk n (f.xs.take i)))),(6,.sc (.int .i64 i))],[fsC f,[.sc (.int .i64 0),.sc (.int .i64 0),.sc (.int .i64 0),.sc (.slice none 0 0)]],1,0⟩) (fun i=>i<=f.xs.length) (fun i=>f.xs.length-i) 0 (Nat.zero_le _) ?_ ?_
 ·exact wks [.inr (75,6)] (by push_cast -dsimp [zb,za,CLe,ze,qk,List.filter_nil])
 ·intro i h1
  by_cases h:i<f.xs.length
  ·have g1:=jg f.xs i h
   have ht:qk n (f.xs.take (i+1))=qk n (f.xs.take i)++qk n [f.xs[i]]:=by
    unfold qk;rw[List.take_add_one,List.getElem?_eq_getElem h,List.filter_append];rfl
   have hle:(qk n (f.xs.take i)).length<=i:=Nat.le_trans Q6 (by simp;omega)
   by_cases hc:f.xs[i].ino=n
   ·have ht:qk n (f.xs.take (i+1))=qk n (f.xs.take i):=by rw[ht,Jb hc];simp[qk]
    push_cast -dsimp [hll,h,g1,hc]
    repeat refine an ?_
    exact ⟨i+1,h,by omega,wks [.inl 0] (by push_cast -dsimp [zb,za,CLe,ze,ht])⟩
   ·have ht:qk n (f.xs.take (i+1))=qk n (f.xs.take i)++[f.xs[i]]:=by rw[ht,JD hc];simp[qk]
    push_cast -dsimp [hll,h,g1,hc]
    repeat refine an ?_
    exact ⟨i+1,h,by omega,wks [.inl 0] (by push_cast -dsimp [zb,za,CLe,ze,ht,List.map_append])⟩
  ·rw[List.take_of_length_le (by omega)]
   push_cast -dsimp [hll,h]
   exact ⟨[.inl 0],rfl,rfl,by push_cast -dsimp [zb,za,CLe,ze]⟩
theorem jY (f:FsV) (x:zA) (hl:f.xs.length<=90000) :
  Fun Tryz.prog G 63 [.agg (fsC f),.agg (Yi x)] (.agg [.sc (.int .i64 f.maxI),.sc (.int .i64 f.maxB),.sc (.int .i64 f.next),.own 0 75 6 (zr (qF x f.xs))]) 1:=by
 have hdl:(qk x.ino f.xs).length<=90000:=Nat.le_trans Q6 hl
 have hl2:(zr (qk x.ino f.xs)).length=(qk x.ino f.xs).length:=List.length_map ..
 refine fon Tryz.func63 ?_;dsimp only[Tryz.f63]
 push_cast -dsimp
 refine cl (N7 f x.ino hl) ?_;push_cast -dsimp
 unfold qF
 generalize qk x.ino f.xs=rest at hdl hl2
 refine loop (fun p:Nat×List zA×Bool=>⟨[(2,.ptr 0 0),(3,.ptr 1 0),(4,.ptr 2 0),(5,.sl 6 (zr rest)),(6,.own 0 75 6 (zr p.2.1)),(7,.sc (.bool p.2.2)),(8,.sc (.int .i64 p.1))],[fsC f,Yi x,[.sc (.int .i64 0),.sc (.int .i64 0),.sc (.int .i64 0),.sc (.slice none 0 0)]],1,0⟩)
  (fun p=>p.1<=rest.length/\p.2.1.length<=p.1+p.2.2.toNat/\Zp x rest=p.2.1++(if p.2.2 then rest.drop p.1 else Zp x (rest.drop p.1))) (fun p=>rest.length-p.1) (0,[],false) ⟨Nat.zero_le _,Nat.zero_le _,by simp⟩ ?_ ?_
 ·exact wks [.inr (75,6)]
 ·rintro ⟨i,out,d⟩ ⟨h1,h2,h3⟩
  dsimp only at h1 h2 h3 ⊢
  have hlo:(zr out).length=out.length:=List.length_map ..
  by_cases h:i<rest.length
  ·have g1:=jg rest i h
   rw[List.drop_eq_getElem_cons h]at h3
   cases d with
   | true =>
    simp only[Bool.toNat_true]at h2
    push_cast -dsimp [hl2,h,g1]
    repeat refine an ?_
    exact ⟨(i+1,out++[rest[i]],true),⟨h,by simp;omega,by rw[h3];simp⟩,by dsimp only;omega,wks [.inl 0] (by push_cast -dsimp [zb,za,CLe,ze,List.map_append])⟩
   | false =>
    simp only[Bool.false_eq_true,if_false,Zp]at h3
    simp only[Bool.toNat_false]at h2
    by_cases hc:x.ino<rest[i].ino
    ·rw[if_pos hc]at h3
     push_cast -dsimp [hl2,h,g1,hc]
     repeat refine an ?_
     exact ⟨(i+1,out++[x]++[rest[i]],true),⟨h,by simp;omega,by rw[h3];simp⟩,by dsimp only;omega,wks [.inl 0] (by push_cast -dsimp [zb,za,CLe,ze,List.map_append])⟩
    ·rw[if_neg hc]at h3
     push_cast -dsimp [hl2,h,g1,hc]
     repeat refine an ?_
     exact ⟨(i+1,out++[rest[i]],false),⟨h,by simp;omega,by rw[h3];simp⟩,by dsimp only;omega,wks [.inl 0] (by push_cast -dsimp [zb,za,CLe,ze,List.map_append])⟩
  ·rw[List.drop_of_length_le (by omega)]at h3
   cases d with
   | true =>
    simp only[Bool.toNat_true]at h2
    have h3:Zp x rest=out:=by rw[h3];simp
    push_cast -dsimp [hl2,h]
    exact ⟨[.inl 0],rfl,rfl,by push_cast -dsimp [zb,za,CLe,ze,h3]⟩
   | false =>
    simp only[Bool.toNat_false]at h2
    have h3:Zp x rest=out++[x]:=by rw[h3];simp[Zp]
    push_cast -dsimp [hl2,h]
    repeat refine an ?_
    exact ⟨[.inl 0],rfl,rfl,by push_cast -dsimp [zb,za,CLe,ze,h3,List.map_append]⟩
theorem zhs (i b:Int):Fun Tryz.prog G 62 [.sc (.int .i64 i),.sc (.int .i64 b)] (.agg [.sc (.int .i64 i),.sc (.int .i64 b),.sc (.int .i64 2),.own 0 75 6 (zr [⟨1,2,0,[],1,[]⟩])]) 1:=by
 refine Fun.resX (r:=.agg [.sc (.int .i64 i),.sc (.int .i64 b),.sc (.int .i64 2),.own 0 75 6 [[.sc (.int .i64 1),.sc (.int .i64 2),.sc (.int .i64 0),.str [],.sc (.int .i64 1),.sc (.slice none 0 0)]]]) ?_ fun R L v h =>
  za0 (fun vs=>Yq (fun v h=>h) (fun vs=>Yq (fun v h=>h) fun vs=>Yq (fun v h=>h) fun vs=>Yq (fun v=>zix) fun vs h=>h)) h
 refine fon Tryz.func62 ?_;dsimp only[Tryz.f62]
 push_cast -dsimp
 exact ⟨[.inl 0],rfl,rfl,by push_cast -dsimp [zb,za,CLe,ze]⟩
end
end
section
open Go.RowKit
section
variable {G:zq}
theorem zhP {n:Int} {xs:List zA} {i:Nat} (h:i<xs.length):zG n (xs.take (i+1))=(zG n (xs.take i)||(xs[i].ino==n)):=by
 unfold zG
 rw[List.take_add_one,List.getElem?_eq_getElem h,List.any_append]
 simp
theorem zg7 {n:Int} {xs:List zA} {i:Nat} (h:i<xs.length) (h0:zG n (xs.take i)=false) (he:xs[i].ino=n):zG n xs=true/\zg n xs=xs[i]:=by
 refine ⟨List.any_eq_true.2 ⟨xs[i],List.getElem_mem h,by simp[he]⟩,?_⟩
 unfold zg YX
 rw[List.find?_eq_some_iff_getElem (b:=xs[i]) |>.2 ⟨by simp[he],i,h,rfl,fun j hj=>?_⟩]
 ·rfl
 ·unfold zG at h0
  rw[List.any_eq_false]at h0
  have:=h0 xs[j] (List.mem_take_iff_getElem.2 ⟨j,by omega,rfl⟩)
  simpa using this
theorem qz (f:FsV) (n:Int) (hl:f.xs.length<=100000):Fun Tryz.prog G 52 [.agg (fsC f),.sc (.int .i64 n)] (.tup [.agg (Yi (zg n f.xs)),.sc (.bool (zG n f.xs))]) 0:=by
 have hll:(zr f.xs).length=f.xs.length:=List.length_map ..
 refine fon Tryz.func52 ?_;dsimp only[Tryz.f52]
 push_cast -dsimp
 refine loop (fun i:Nat=>⟨[(1,.sc (.int .i64 n)),(2,.ptr 0 0),(4,.ptr 1 0),(6,.sc (.int .i64 i))],[fsC f,[.sc (.int .i64 0),.sc (.int .i64 0),.sc (.int .i64 0),.str [],.sc (.int .i64 0),.sc (.slice none 0 0)]],0,0⟩) (fun i=>i<=f.xs.length/\zG n (f.xs.take i)=false) (fun i=>f.xs.length-i) 0 ⟨Nat.zero_le _,rfl⟩ ?_ ?_
 ·exact wk
 ·rintro i ⟨h1,h2⟩
  by_cases h:i<f.xs.length
  ·have g1:=jg f.xs i h
   by_cases he:f.xs[i].ino=n
   ·obtain ⟨q1,q2⟩:=zg7 h h2 he
    push_cast -dsimp [hll,h,g1,he]
    repeat refine an ?_
    exact dn (by push_cast -dsimp [zb,za,CLe,ze,q1,q2,he])
   ·have q:=zhP (n:=n) h
    rw[h2,show (f.xs[i].ino==n)=false from beq_eq_false_iff_ne.2 he]at q
    push_cast -dsimp [hll,h,g1,he]
    repeat refine an ?_
    exact ⟨i+1,⟨h,q⟩,by omega,wk⟩
  ·rw[List.take_of_length_le (by omega)]at h2
   have hg:zg n f.xs=zki:=by unfold zg;rw[Gm h2];rfl
   push_cast -dsimp [hll,h]
   exact dn (by push_cast -dsimp [zb,za,CLe,ze,hg,h2,zki])
def jd (xs:List zA):Nat:=((xs.filter fun x=>decide (x.kind=1)).map fun x=>x.data.length).sum
theorem UA:∀ {xs:List zA} {n:Nat},(∀ x∈xs,x.data.length<=n)->jd xs<=xs.length*n
 | [],n,_=>by simp[jd]
 | x :: r,n,h=>by
  have ih:=UA (xs:=r) (n:=n) fun y hy=>h y (List.mem_cons_of_mem _ hy)
  have hx:=h x List.mem_cons_self
  unfold jd at ih ⊢
  rw[List.filter_cons]
  split
  ·simp only[List.map_cons,List.sum_cons,List.length_cons]
   rw[Nat.succ_mul];omega
  ·rw[List.length_cons,Nat.succ_mul];omega
theorem FsS.bytes {f:FsV} (h:FsS f):jd f.xs<=100000000:=by
 have h1:=UA (xs:=f.xs) (n:=10000) fun x hx=>(h.node x hx).2.1
 have h2:=h.len
 have:f.xs.length*10000<=10000*10000:=Nat.mul_le_mul_right _ h2
 omega
theorem kZ {xs:List zA} {i:Nat} (h:i<xs.length):jd (xs.take (i+1))=jd (xs.take i)+if xs[i].kind=1 then xs[i].data.length else 0:=by
 unfold jd
 rw[List.take_add_one,List.getElem?_eq_getElem h,List.filter_append,List.map_append,List.sum_append]
 by_cases hk:xs[i].kind=1<;>simp[hk]
theorem Nc (f:FsV) (hf:FsS f):Fun Tryz.prog G 114 [.agg (fsC f)] (.sc (.int .i64 (jd f.xs:Nat))) 0:=by
 have hll:(zr f.xs).length=f.xs.length:=List.length_map ..
 have h40:=hf.len
 have hb0:jd []=0:=rfl
 refine fon Tryz.func114 ?_;dsimp only[Tryz.f114]
 push_cast -dsimp
 refine loop (fun i:Nat=>⟨[(1,.ptr 0 0),(3,.sc (.int .i64 (jd (f.xs.take i):Nat))),(4,.sc (.int .i64 i))],[fsC f],0,0⟩) (fun i=>i<=f.xs.length/\jd (f.xs.take i)<=i*10000) (fun i=>f.xs.length-i) 0 ⟨Nat.zero_le _,Nat.zero_le _⟩ ?_ ?_
 ·exact wk (by push_cast -dsimp [zb,za,CLe,ze,hb0,List.take_zero])
 ·rintro i ⟨h1,h2⟩
  by_cases h:i<f.xs.length
  ·have g1:=jg f.xs i h
   have hd:=(hf.node _ (List.getElem_mem h)).2.1
   have q:=kZ h
   by_cases hk:f.xs[i].kind=1
   ·rw[if_pos hk]at q
    have q':((jd (f.xs.take (i+1)):Nat):Int)=(jd (f.xs.take i):Int)+(f.xs[i].data.length:Int):=by omega
    push_cast -dsimp [hll,h,g1,hk]
    repeat refine an ?_
    exact ⟨i+1,⟨h,by omega⟩,by omega,wk (by push_cast -dsimp [zb,za,CLe,ze,q'])⟩
   ·rw[if_neg hk]at q
    have q':jd (f.xs.take (i+1))=jd (f.xs.take i):=by omega
    push_cast -dsimp [hll,h,g1,hk]
    repeat refine an ?_
    exact ⟨i+1,⟨h,by omega⟩,by omega,wk (by push_cast -dsimp [zb,za,CLe,ze,q'])⟩
  ·rw[List.take_of_length_le (by omega)]
   push_cast -dsimp [hll,h]
   exact dn
end
end
section
open Go.RowKit
abbrev G0:zq:=fun _=>none
abbrev zme (l:List UInt8):List C:=[.str l]
def ZD (s:List (List UInt8)×List UInt8) (b:UInt8):List (List UInt8)×List UInt8:=
 if b=47 then (if s.2 = [] then s.1 else s.1++[s.2],[]) else (s.1,s.2++[b])
def zjt (s:List (List UInt8)×List UInt8):List (List UInt8):=if s.2 = [] then s.1 else s.1++[s.2]
def nst (l:List UInt8) (k:Nat):List (List UInt8)×List UInt8:=if k<=l.length then (l.take k).foldl ZD ([],[]) else (zjt (l.foldl ZD ([],[])),[])
def zJ (l:List UInt8):List (List UInt8):=zjt (l.foldl ZD ([],[]))
theorem ul (l:List UInt8):nst l 0=([],[]):=by simp[nst]
theorem uf (l:List UInt8) (k:Nat) (b:UInt8) (h:l[k]?=some b):nst l (k+1)=ZD (nst l k) b:=by
 have hk:k<l.length:=(List.getElem?_eq_some_iff.1 h).1
 unfold nst
 rw[if_pos (by omega),if_pos (by omega),List.take_add_one,h]
 simp
theorem zd6 (l:List UInt8):nst l (l.length+1)=(zJ l,[]):=by
 unfold nst zJ
 rw[if_neg (by omega)]
theorem zdp (l:List UInt8):zjt (nst l l.length)=zJ l:=by
 unfold nst zJ
 rw[if_pos (Nat.le_refl _),List.take_length]
theorem HA (l:List UInt8):∀ k,k<=l.length->(nst l k).1.length+(nst l k).2.length<=k
 | 0,_=>by simp[ul]
 | k+1,h=>by
  have hk:k<l.length:=by omega
  have ih:=HA l k (by omega)
  rw[uf l k l[k] (List.getElem?_eq_getElem hk)]
  unfold ZD
  by_cases h47:l[k]=47
  ·rw[if_pos h47]
   by_cases h2:(nst l k).2 = []
   ·simp[h2];omega
   ·have:0<(nst l k).2.length:=List.length_pos_iff.2 h2
    simp[h2];omega
  ·rw[if_neg h47];simp;omega
theorem Jc (l:List UInt8):(zJ l).length<=l.length:=by
 rw[←zdp]
 have:=HA l l.length (Nat.le_refl _)
 unfold zjt
 split
 ·omega
 ·rename_i h
  have:0<(nst l l.length).2.length:=List.length_pos_iff.2 h
  simp;omega
theorem zgm {b c:UInt8} (h:b≠c):¬((b.toNat:Int)=(c.toNat:Int)):=fun e=>h (UInt8.toNat_inj.1 (by omega))
theorem zfN {α:Type} (l:List α) (k:Nat) (b:α) (h:l[k]?=some b):(l.take (k+1)).drop k = [b]:=by
 have hk:k<l.length:=(List.getElem?_eq_some_iff.1 h).1
 rw[List.take_add_one,h,List.drop_append]
 simp[Nat.min_eq_left (by omega:k<=l.length)]
theorem Ug (l:List UInt8) (h:l.length<=100000):Fun Tryz.prog G0 74 [.str l] (.own 0 9 1 ((zJ l).map zme)) 1:=by
 refine fon Tryz.func74 ?_;dsimp only[Tryz.f74]
 push_cast -dsimp
 refine loop (fun k:Nat=>⟨[(0,.str l),(3,.own 0 9 1 ((nst l k).1.map zme)),(4,.str (nst l k).2),(5,.sc (.int .i64 k))],[],1,0⟩) (fun k=>k<=l.length+1) (fun k=>l.length+1-k) 0 (Nat.zero_le _) ?_ ?_
 ·refine JS.mk [.inr (9,1)] rfl rfl (Nat.le_refl _) rfl ?_ trivial
  push_cast -dsimp [zb,za,CLe,ze]
  simp[ul]
 ·intro k hk
  push_cast -dsimp
  by_cases h1:k<=l.length
  ·have hs:=HA l k h1
   by_cases h2:k<l.length
   ·obtain ⟨b,hb⟩:∃ b,l[k]?=some b:=⟨l[k],List.getElem?_eq_getElem h2⟩
    have hn:=uf l k b hb
    by_cases h3:b=47
    ·have h3':(b.toNat:Int)=47:=by subst h3;rfl
     by_cases h4:(nst l k).2 = []
     ·push_cast -dsimp [h1,h2,h3',hb,h4]
      and_intros<;>try omega
      refine ⟨k+1,by omega,by omega,JS.mk [.inl 0] rfl rfl (Nat.le_refl _) rfl ?_ trivial⟩
      push_cast -dsimp [zb,za,CLe,ze]
      simp[hn,ZD,h3,h4]
     ·push_cast -dsimp [h1,h2,h3',hb,h4]
      simp only[List.length_map,List.length_cons,List.length_nil]
      and_intros<;>try omega
      refine ⟨k+1,by omega,by omega,JS.mk [.inl 0] rfl rfl (Nat.le_refl _) rfl ?_ trivial⟩
      push_cast -dsimp [zb,za,CLe,ze]
      simp[hn,ZD,h3,h4,zme]
    ·have h3':¬((b.toNat:Int)=47):=zgm h3
     push_cast -dsimp [h1,h2,h3',hb]
     rw[zfN l k b hb]
     and_intros<;>try omega
     ·simp;omega
     refine ⟨k+1,by omega,by omega,JS.mk [.inl 0] rfl rfl (Nat.le_refl _) rfl ?_ trivial⟩
     push_cast -dsimp [zb,za,CLe,ze]
     simp[hn,ZD,h3]
   ·obtain rfl:k=l.length:=by omega
    have hl:=zdp l
    have he:=zd6 l
    have hz:=Jc l
    by_cases h4:(nst l l.length).2 = []
    ·push_cast -dsimp [h1,h2,h4]
     and_intros<;>try omega
     refine ⟨l.length+1,by omega,by omega,JS.mk [.inl 0] rfl rfl (Nat.le_refl _) rfl ?_ trivial⟩
     push_cast -dsimp [zb,za,CLe,ze]
     simp[he,←hl,zjt,h4]
    ·push_cast -dsimp [h1,h2,h4]
     simp only[List.length_map,List.length_cons,List.length_nil]
     and_intros<;>try omega
     refine ⟨l.length+1,by omega,by omega,JS.mk [.inl 0] rfl rfl (Nat.le_refl _) rfl ?_ trivial⟩
     push_cast -dsimp [zb,za,CLe,ze]
     simp[he,←hl,zjt,h4,zme]
  ·obtain rfl:k=l.length+1:=by omega
   have he:=zd6 l
   push_cast -dsimp [h1]
   exact ⟨[.inl 0],rfl,rfl,by push_cast -dsimp [zb,za,CLe,ze,he]⟩
end
section
open Go.RowKit
abbrev qv (xs:List (List UInt8)):List (List C):=xs.map zme
theorem xA (xs:List (List UInt8)):(qv xs).length=xs.length:=List.length_map _
theorem zdh (xs:List (List UInt8)) (x:List UInt8):qv xs++[[.str x]]=qv (xs++[x]):=by simp
theorem strs_get? (xs:List (List UInt8)) (k:Nat):(qv xs)[k]?=(xs[k]?).map zme:=List.getElem?_map
theorem zfQ (xs:List (List UInt8)) (k:Nat):(qv xs).drop k=qv (xs.drop k):=List.map_drop.symm
theorem zck (xs:List (List UInt8)) (k:Nat):(qv xs).take k=qv (xs.take k):=List.map_take.symm
theorem yN (xs ys:List (List UInt8)):qv xs++qv ys=qv (xs++ys):=List.map_append.symm
theorem ZL (xs:List (List UInt8)) (k:Nat) (h:k<xs.length):(qv xs)[k]?=some [.str (xs[k]'h)]:=by rw[strs_get?,List.getElem?_eq_getElem h];rfl
attribute [push_cast] xA zdh zfQ zck yN
abbrev qG (b:Bool):C:=.sc (.bool b)
theorem zgt (a b:List (List UInt8)) (ha:a.length<=9223372036854775807):Fun Tryz.prog G0 61 [.sl 1 (qv a),.sl 1 (qv b)] (qG (decide (a=b))) 0:=by
 by_cases hl:a.length=b.length
 ·refine fon Tryz.func61 ?_;dsimp only[Tryz.f61]
  push_cast -dsimp [hl]
  refine loop (fun k:Nat=>⟨[(0,.sl 1 (qv a)),(1,.sl 1 (qv b)),(5,.sc (.int .i64 k))],[],0,0⟩) (fun k=>k<=a.length/\a.take k=b.take k) (fun k=>a.length-k) 0 ⟨Nat.zero_le _,rfl⟩ ?_ ?_
  ·exact wk
  ·intro k hk
   have hk1:=hk.1
   have hk2:=hk.2
   by_cases h:k<a.length
   ·have hga:=ZL a k h
    have hgb:=ZL b k (by omega)
    by_cases he:a[k]'h=b[k]'(by omega)
    ·push_cast -dsimp [h,hga,hgb,he]
     refine ⟨by omega,by omega,by omega,k+1,⟨by omega,?_⟩,by omega,wk⟩
     rw[List.take_add_one,List.take_add_one,hk2,List.getElem?_eq_getElem h,List.getElem?_eq_getElem (by omega:k<b.length),he]
    ·push_cast -dsimp [h,hga,hgb,he]
     refine ⟨by omega,by omega,[],rfl,rfl,?_⟩
     push_cast -dsimp [zb,za,CLe,ze]
     have:a≠b:=fun e=>he (by subst e;rfl)
     simp[this]
   ·have hkl:k=a.length:=by omega
    push_cast -dsimp [h]
    refine ⟨[],rfl,rfl,?_⟩
    push_cast -dsimp [zb,za,CLe,ze]
    rw[hkl,List.take_length,hl,List.take_length]at hk2
    simp[hk2]
 ·have hl':¬((a.length:Int)=(b.length:Int)):=by omega
  refine fon Tryz.func61 ?_;dsimp only[Tryz.f61]
  push_cast -dsimp [hl]
  refine ⟨[],rfl,rfl,?_⟩
  push_cast -dsimp [zb,za,CLe,ze]
  have:a≠b:=fun e=>hl (by rw[e])
  simp[this]
def few (l:List (List UInt8)):Bool:=(l.take 100).all (fun x=>decide (x.length<=300))&&decide (l.length<=40)
end
section
open Go.RowKit
theorem Fun.wrap {P:Program} {G:zq} {f:FuncId} {args:List C} {r:C} (he:YC P f=true)
  (h:∀ (R:Env) (vs:List Value),zw R zH args vs->Calls P f vs.toArray R.w fun e w'=>∃ v,e = .returned v/\Below R.w.heap.size R.w w'/\∀ R',Ext R R'->Rep R' zH r v):Fun P G f args r 0:=by
 refine ⟨he,fun R vs hg ha=>(h R vs ha).mono ?_⟩
 rintro e w' ⟨v,rfl,hb,hr⟩
 have st:qt 0 0 R zH ⟨w',fun b o=>b<R.w.heap.size/\R.M b o,R.F⟩ zH:=qt.mem (nx:=0) hb
 exact ⟨v,_,zH,rfl,rfl,st,hr _ st.ext⟩
def Jd:List UInt8->List (List UInt8)
 | []=>[[]]
 | b :: l=>if b=47 then [] :: Jd l else match Jd l with
  | []=>[[b]]
  | x :: r=>(b :: x) :: r
theorem MG (l:List UInt8):Jd l≠[]:=by
 cases l with
 | nil=>simp[Jd]
 | cons b l =>
  unfold Jd
  split
  ·simp
  ·split<;>simp
theorem HK:∀ l:List UInt8,Lib.indexByte l 47<0->Jd l = [l]
 | [],_=>rfl
 | b :: l,h=>by
  unfold Lib.indexByte at h
  by_cases hb:b=47
  ·subst hb;simp at h
  ·have hb':(b==47)=false:=by simpa using hb
   rw[hb']at h
   simp only[Bool.false_eq_true,if_false]at h
   have hl:Lib.indexByte l 47<0:=by
    split at h
    ·rename_i g;have:=beq_iff_eq.1 g;omega
    ·omega
   unfold Jd
   rw[if_neg hb,HK l hl]
theorem GK:∀ l:List UInt8,-1<=Lib.indexByte l 47
 | []=>Int.le_refl _
 | b :: l=>by
  have:=GK l
  unfold Lib.indexByte
  split
  ·decide
  ·split
   ·decide
   ·omega
theorem vq:∀ (l:List UInt8) (i:Nat),Lib.indexByte l 47=(i:Int)->i<l.length/\Jd l=l.take i :: Jd (l.drop (i+1))
 | [],i,h=>by
  have h:(-1:Int)=(i:Int):=h
  omega
 | b :: l,i,h=>by
  unfold Lib.indexByte at h
  by_cases hb:b=47
  ·subst hb
   simp at h
   obtain rfl:i=0:=by omega
   refine ⟨by simp,?_⟩
   conv=>lhs;unfold Jd
   simp
  ·have hb':(b==47)=false:=by simpa using hb
   rw[hb']at h
   simp only[Bool.false_eq_true,if_false]at h
   split at h
   ·omega
   ·rename_i g
    have g':Lib.indexByte l 47≠-1:=by simpa using g
    have hg:=GK l
    obtain ⟨j,rfl⟩:∃ j,i=j+1:=⟨i-1,by omega⟩
    have hj:Lib.indexByte l 47=(j:Int):=by omega
    obtain ⟨h1,h2⟩:=vq l j hj
    refine ⟨by simp;omega,?_⟩
    conv=>lhs;unfold Jd
    rw[if_neg hb,h2]
    simp
theorem UN:∀ (l:List UInt8) (a:List (List UInt8)) (cur:List UInt8),zjt (l.foldl ZD (a,cur))=a++(match Jd l with | []=>[] | x :: r=>(cur++x) :: r).filter (fun x=>!decide (x = []))
 | [],a,cur=>by
  simp only[List.foldl_nil,zjt,Jd]
  by_cases h:cur = []<;>simp[h]
 | b :: l,a,cur=>by
  simp only[List.foldl_cons]
  by_cases hb:b=47
  ·subst hb
   have hn:ZD (a,cur) 47=(if cur = [] then a else a++[cur],[]):=by simp[ZD]
   rw[hn,UN l]
   conv=>rhs;unfold Jd
   simp only[if_true]
   have hne:=MG l
   cases hs:Jd l with
   | nil=>exact absurd hs hne
   | cons x r=>by_cases h:cur = []<;>simp[h]
  ·have hn:ZD (a,cur) b=(a,cur++[b]):=by simp[ZD,hb]
   rw[hn,UN l]
   conv=>rhs;unfold Jd
   rw[if_neg hb]
   have hne:=MG l
   cases hs:Jd l with
   | nil=>exact absurd hs hne
   | cons x r=>simp
theorem Yg (l:List UInt8):zJ l=(Jd l).filter (fun x=>!decide (x = [])):=by
 unfold zJ
 rw[UN]
 cases hs:Jd l with
 | nil=>rfl
 | cons x r=>simp
theorem zdo (l:List UInt8):Fun Tryz.prog G0 186 [.str l,.str [47]] (.sc (.int .i64 (Lib.indexByte l 47))) 0:=by
 refine Fun.wrap (by kernel_rfl) fun R vs h=>?_
 obtain ⟨v1,us1,rfl,h1,h⟩:=zd.1 h
 obtain ⟨v2,us2,rfl,h2,h⟩:=zd.1 h
 rw[zj]at h
 subst h
 rw[zV]at h1 h2
 subst h1 h2
 refine (Tryz.strings_Index_one ⟨l.toArray⟩ 47 R.w).mono ?_
 rintro e w' ⟨rfl,rfl⟩
 exact ⟨_,rfl,Below.refl _ _,fun R' _=>zo.2 (by simp)⟩
theorem km (s:List UInt8) (hs:s.length<=1000000):MX Tryz.prog G0 184 [] [.ptr 1 0,.ptr 0 0,.ptr 2 0] [[.str s],[.str [47]],[.sc (.int .i64 0)]] (qv (Jd s)):=by
 refine foI (fun _=>[]) Tryz.func184 ?_;dsimp only[Tryz.f184]
 intro l sf
 push_cast -dsimp
 refine loop (fun x:List UInt8×Nat=>⟨[(0,.sc (.func (.yield l) #[] #[])),(1,.ptr 1 0),(2,.ptr 0 0),(3,.ptr 2 0)],[[.str x.1],[.str [47]],[.sc (.int .i64 0)]],0,x.2⟩)
  (fun x=>x.1.length<=1000000/\(∃ done,Jd s=done++Jd x.1/\done.length=x.2)/\∀ j,j<x.2->sf j=false) (fun x=>x.1.length) (s,0) ⟨hs,⟨[],rfl,rfl⟩,fun j hj=>by omega⟩ ?_ ?_
 ·refine JS.mk [] rfl rfl (Nat.zero_le _) rfl ?_ ?_<;>push_cast -dsimp [zb,za,CLe,ze]<;>omega
 ·rintro ⟨r,k⟩ hx
  simp only at hx ⊢
  have hr:=hx.1
  have hsf:=hx.2.2
  obtain ⟨done,hd,hdl⟩:=hx.2.1
  clear hx
  push_cast -dsimp
  refine call (zdo r) ?_
  push_cast -dsimp
  by_cases hi:Lib.indexByte r 47<0
  ·push_cast -dsimp [hi]
   have hk:(qv (Jd s))[k]?=some [.str r]:=by
    rw[hd,HK r hi];simp[←hdl]
   rw[hk]
   push_cast -dsimp
   refine ⟨by push_cast -dsimp [zb,za,CLe,ze],hsf,?_⟩
   cases hk2:sf k with
   | true=>exact .inr ⟨Nat.succ_pos k,hk2⟩
   | false =>
    refine .inl ⟨?_,fun j (hj:j<k+1)=>?_⟩
    ·rw[hd,HK r hi];simp[hdl]
    ·rcases Nat.lt_or_ge j k with g | g
     ·exact hsf j g
     ·rw[show j=k by omega];exact hk2
  ·have hg:=GK r
   obtain ⟨i,hii⟩:∃ i:Nat,Lib.indexByte r 47=(i:Int):=⟨(Lib.indexByte r 47).toNat,by omega⟩
   obtain ⟨hir,hsp⟩:=vq r i hii
   have hk:(qv (Jd s))[k]?=some [.str (r.take i)]:=by
    rw[hd,hsp];simp[←hdl]
   rw[hii]at hi ⊢
   push_cast -dsimp [hi]
   rw[hk]
   push_cast -dsimp
   refine ⟨by omega,by omega,by push_cast -dsimp [zb,za,CLe,ze],hsf,br (fun hk2=>?_) (fun hk2=>?_)⟩
   ·push_cast -dsimp
    exact .inr ⟨Nat.succ_pos k,hk2⟩
   ·push_cast -dsimp
    refine ⟨by omega,by omega,(r.drop (i+1),k+1),⟨by simp;omega,⟨done++[r.take i],by rw[hd,hsp];simp,by simp[hdl]⟩,fun j (hj:j<k+1)=>?_⟩,by simp;omega,JS.mk [] rfl rfl (Nat.zero_le _) rfl ?_ ?_⟩
    ·rcases Nat.lt_or_ge j k with g | g
     ·exact hsf j g
     ·rw[show j=k by omega];exact hk2
    ·push_cast -dsimp [zb,za,CLe,ze]
    ·push_cast -dsimp [zb,za,CLe,ze]
theorem G9 (s:List UInt8):MZ Tryz.prog G0 152 [.str s,.str [47],.sc (.int .i64 0)] [] 0 (.clo (.func 184) [] [.ptr 1 0,.ptr 0 0,.ptr 2 0]) [[.str s],[.str [47]],[.sc (.int .i64 0)]] 0:=by
 refine foB (fun _=>[]) Tryz.func152 ?_;dsimp only[Tryz.f152]
 push_cast -dsimp
 exact ⟨[],rfl,rfl,by push_cast -dsimp [zb,za,CLe,ze],by push_cast -dsimp [zb,za,CLe,ze]⟩
theorem Mu (s:List UInt8):MZ Tryz.prog G0 104 [.str s,.str [47]] [] 0 (.clo (.func 184) [] [.ptr 1 0,.ptr 0 0,.ptr 2 0]) [[.str s],[.str [47]],[.sc (.int .i64 0)]] 0:=by
 refine foB (fun _=>[]) Tryz.func104 ?_;dsimp only[Tryz.f104]
 push_cast -dsimp
 refine yY [] [] (G9 s) rfl (by simp) (by simp) (fun i hi=>by cases hi) (by push_cast -dsimp) rfl ?_
 push_cast -dsimp
 exact ⟨[],rfl,rfl,by push_cast -dsimp [zb,za,CLe,ze],by push_cast -dsimp [zb,za,CLe,ze]⟩
end
section
open Go.RowKit
abbrev kT (x:List UInt8):Bool:=!decide (x = [])
def cnt (xs:List (List UInt8)) (k:Nat):Nat:=((xs.take k).filter kT).length
theorem vg (xs:List (List UInt8)) (k:Nat) (x:List UInt8) (h:xs[k]?=some x):cnt xs (k+1)=if x = [] then cnt xs k else cnt xs k+1:=by
 unfold cnt
 rw[List.take_add_one,h]
 by_cases hx:x = []<;>simp[hx]
theorem zlC (xs:List (List UInt8)) (k:Nat) (x:List UInt8) (h:xs[k]?=some x) (hx:x≠[]):(xs.filter kT)[cnt xs k]?=some x:=by
 have hk:k<xs.length:=(List.getElem?_eq_some_iff.1 h).1
 have e:xs=xs.take k++x :: xs.drop (k+1):=by
  have:=List.take_append_drop k xs
  rw[List.drop_eq_getElem_cons hk]at this
  rw[List.getElem?_eq_getElem hk]at h
  cases h;exact this.symm
 have e2:xs.filter kT=(xs.take k).filter kT++x :: (xs.drop (k+1)).filter kT:=by
  conv=>lhs;rw[e]
  rw[List.filter_append,List.filter_cons]
  simp[hx]
 rw[e2]
 unfold cnt
 simp
theorem zlq (xs:List (List UInt8)):cnt xs xs.length=(xs.filter kT).length:=by unfold cnt;rw[List.take_length]
theorem Z1 {xs:List (List UInt8)} {sf:Nat->Bool}:∀ k,k<=xs.length->(∀ j,j<k->(kT (xs.getD j [])&&sf (cnt xs j))=false)->∀ j,j<cnt xs k->sf j=false
 | 0,_,_,j,hj=>by simp[cnt]at hj
 | k+1,hk,h,j,hj=>by
  have ih:=Z1 k (by omega) fun i hi=>h i (by omega)
  have hx:xs[k]?=some (xs.getD k []):=by rw[List.getD_eq_getElem?_getD,List.getElem?_eq_getElem (by omega)];rfl
  rw[vg xs k _ hx]at hj
  by_cases he:xs.getD k [] = []
  ·rw[if_pos he]at hj;exact ih j hj
  ·rw[if_neg he]at hj
   rcases Nat.lt_or_ge j (cnt xs k) with g | g
   ·exact ih j g
   ·have h2:=h k (by omega)
    have h3:kT (xs.getD k [])=true:=by simp only[kT,Bool.not_eq_true',decide_eq_false_iff_not];exact he
    rw[h3,Bool.true_and]at h2
    rw[show j=cnt xs k by omega];exact h2
theorem Ht {xs:List (List UInt8)} {k:Nat} {it:List C} (h:(qv xs)[k]?=some it):∃ x,xs[k]?=some x/\it = [.str x]:=by
 rw[List.getElem?_map]at h
 cases hq:xs[k]? with
 | none=>rw[hq]at h;cases h
 | some x=>rw[hq]at h;cases h;exact ⟨x,rfl,rfl⟩
theorem M5 (p:List UInt8) (hs:p.length<=1000000):MX Tryz.prog G0 121 [] [.row [.str p]] [] (qv (zJ p)):=by
 rw[Yg]
 refine foI (fun _=>[]) Tryz.func121 ?_;dsimp only[Tryz.f121]
 intro l sf
 push_cast -dsimp
 refine yY [] [] (Mu p) rfl (by simp) (by simp) (fun i hi=>by cases hi) (by push_cast -dsimp) rfl ?_
 push_cast -dsimp
 refine range (qv (Jd p)) (fun k=>kT ((Jd p).getD k [])&&sf (cnt (Jd p) k)) 1 (fun k=>⟨[],[[.sc (.func (.yield l) #[] #[])]],0,cnt (Jd p) k⟩) (km p hs) (by push_cast -dsimp) (by push_cast -dsimp) (by push_cast -dsimp) (Nat.zero_le _) (by push_cast -dsimp) (fun it hit=>?_) (fun k _=>rfl) ?_ (fun k it hk hsf=>?_) (fun hsf=>?_)
 ·obtain ⟨x,_,rfl⟩:=List.mem_map.1 hit;rfl
 ·exact wk
 ·obtain ⟨x,hx,rfl⟩:=Ht hk
  have hxd:(Jd p).getD k []=x:=by rw[List.getD_eq_getElem?_getD,hx];rfl
  have hkl:k<(Jd p).length:=(List.getElem?_eq_some_iff.1 hx).1
  have hcs:=vg (Jd p) k x hx
  have hbef:=Z1 (xs:=Jd p) (sf:=sf) k (by omega) hsf
  by_cases he:x = []
  ·push_cast -dsimp [he]
   refine ⟨?_,JS.mk [] rfl rfl (Nat.le_refl _) ?_ (by push_cast -dsimp [zb,za,CLe,ze]) (by push_cast -dsimp [zb,za,CLe,ze])⟩
   ·rw[hxd,he];rfl
   ·simp[hcs,he,St.wt]
  ·have hget:=zlC (Jd p) k x hx he
   have hg2:(qv ((Jd p).filter kT))[cnt (Jd p) k]?=some [.str x]:=by rw[List.getElem?_map,hget];rfl
   push_cast -dsimp [he]
   rw[hg2]
   push_cast -dsimp
   refine ⟨by push_cast -dsimp [zb,za,CLe,ze],hbef,br (fun h2=>?_) (fun h2=>?_)⟩
   ·push_cast -dsimp
    refine ⟨by rw[hxd,h2];simp[kT,he],⟨[],[[.sc (.func (.yield l) #[] #[])]],0,cnt (Jd p) k+1⟩,rfl,wk,?_⟩
    push_cast -dsimp
    exact .inr ⟨Nat.succ_pos _,h2⟩
   ·push_cast -dsimp
    refine ⟨by rw[h2,Bool.and_false],JS.mk [] rfl rfl (Nat.le_refl _) ?_ (by push_cast -dsimp [zb,za,CLe,ze]) (by push_cast -dsimp [zb,za,CLe,ze])⟩
    simp[hcs,he,St.wt]
 ·have hall:=zlq (Jd p)
  have hbef:=Z1 (xs:=Jd p) (sf:=sf) (Jd p).length (Nat.le_refl _) fun j hj=>hsf j (by simpa using hj)
  push_cast -dsimp
  refine .inl ⟨?_,?_⟩
  ·simp[hall]
  ·simpa using hbef
end
section
open Go.RowKit
theorem ZB (p:List UInt8):Fun Tryz.prog G0 80 [.str p] (.clo (.func 121) [] [.row [.str p]]) 0:=by
 refine fon Tryz.func80 ?_;dsimp only[Tryz.f80]
 push_cast -dsimp
 exact dn
theorem GC (xs:List (List UInt8)) (f:FuncId) (cap:List C) (hsel:C.selL (YO 1) cap=cap) (hit:MX Tryz.prog G0 f [] cap [] (qv xs)) (hx:xs.length<=1000001):Fun Tryz.prog G0 120 [.sc (.slice none 0 0),.clo (.func f) [] cap] (.own 0 9 1 (qv xs)) 1:=by
 refine fon Tryz.func120 ?_;dsimp only[Tryz.f120]
 push_cast -dsimp
 refine range (qv xs) (fun _=>false) 1 (fun k=>⟨[],[[.own 0 9 1 (qv (xs.take k))]],1,0⟩) hit (by push_cast -dsimp) hsel (by push_cast -dsimp) (Nat.zero_le _) (by push_cast -dsimp) (fun it h=>?_) (fun k _=>rfl) ?_ (fun k it hk hsf=>?_) (fun hsf=>?_)
 ·obtain ⟨x,_,rfl⟩:=List.mem_map.1 h;rfl
 ·exact wks [.inr (9,1)]
 ·obtain ⟨x,hx2,rfl⟩:=Ht hk
  have hkl:k<xs.length:=(List.getElem?_eq_some_iff.1 hx2).1
  push_cast -dsimp
  simp only[List.length_take]
  refine ⟨by omega,by omega,JS.mk [.inl 0] rfl rfl (Nat.le_refl _) rfl (by push_cast -dsimp [zb,za,CLe,ze]) ?_⟩
  push_cast -dsimp [zb,za,CLe,ze]
  rw[List.take_add_one,hx2]
  rfl
 ·push_cast -dsimp
  refine ⟨[.inl 0],rfl,rfl,?_⟩
  push_cast -dsimp [zb,za,CLe,ze]
  simp
theorem xy (xs:List (List UInt8)) (f:FuncId) (cap:List C) (hsel:C.selL (YO 1) cap=cap) (hfrz:C.frzL cap=cap) (hit:MX Tryz.prog G0 f [] cap [] (qv xs)) (hx:xs.length<=1000001):Fun Tryz.prog G0 79 [.clo (.func f) [] cap] (.own 0 9 1 (qv xs)) 1:=by
 refine fon Tryz.func79 ?_;dsimp only[Tryz.f79]
 push_cast -dsimp [hfrz]
 refine call (GC xs f cap hsel hit hx) ?_
 push_cast -dsimp
 exact ⟨[.inl 0],rfl,rfl,by push_cast -dsimp [zb,za,CLe,ze]⟩
theorem Xz (p:List UInt8) (hp:p.length<=1000000):Fun Tryz.prog G0 79 [.clo (.func 121) [] [.row [.str p]]] (.own 0 9 1 (qv (zJ p))) 1:=
 xy (zJ p) _ _ (by push_cast -dsimp) (by push_cast -dsimp) (M5 p hp) (by have:=Jc p;omega)
theorem QE (s p:List UInt8):Fun Tryz.prog G0 81 [.str s,.str p] (.sc (.bool (Lib.hasPrefix s p))) 0:=by
 refine Fun.wrap (by kernel_rfl) fun R vs h=>?_
 obtain ⟨v1,us1,rfl,h1,h⟩:=zd.1 h
 obtain ⟨v2,us2,rfl,h2,h⟩:=zd.1 h
 rw[zj]at h
 subst h
 rw[zV]at h1 h2
 subst h1 h2
 refine (Tryz.strings_HasPrefix ⟨s.toArray⟩ ⟨p.toArray⟩ R.w).mono ?_
 rintro e w' ⟨rfl,rfl⟩
 exact ⟨_,rfl,Below.refl _ _,fun R' _=>zo.2 (by simp)⟩
theorem QK (s p:List UInt8) (hs:s.length<=1000000):Fun Tryz.prog G0 38 [.str s,.str p] (.sc (.bool (Lib.hasSuffix s p))) 0:=by
 refine Fun.wrap (by kernel_rfl) fun R vs h=>?_
 obtain ⟨v1,us1,rfl,h1,h⟩:=zd.1 h
 obtain ⟨v2,us2,rfl,h2,h⟩:=zd.1 h
 rw[zj]at h
 subst h
 rw[zV]at h1 h2
 subst h1 h2
 refine (Tryz.strings_HasSuffix ⟨s.toArray⟩ ⟨p.toArray⟩ R.w (by simp[ByteArray.size];omega)).mono ?_
 rintro e w' ⟨rfl,rfl⟩
 exact ⟨_,rfl,Below.refl _ _,fun R' _=>zo.2 (by simp)⟩
theorem GN (xs:List (List UInt8)) (sep:List UInt8) (hx:xs.length<=1000001) (hl:(Lib.join xs sep).length<=100000000):Fun Tryz.prog G0 78 [.sl 1 (qv xs),.str sep] (.str (Lib.join xs sep)) 0:=by
 refine Fun.wrap (by kernel_rfl) fun R vs h=>?_
 obtain ⟨v1,us1,rfl,h1,h⟩:=zd.1 h
 obtain ⟨v2,us2,rfl,h2,h⟩:=zd.1 h
 rw[zj]at h
 subst h
 rw[zV]at h2
 subst h2
 obtain ⟨a,cap,rfl,hc1,hc2,hr⟩:=kH.1 h1
 have hlen:(qv xs).length=xs.length:=by simp
 have hmap:(xs.map fun x=>ByteArray.mk x.toArray).map (·.data.toList)=xs:=by
  rw[List.map_map]
  conv=>rhs;rw[←List.map_id xs]
  exact List.map_congr_left fun x _=>by simp
 rcases hr with hr | ⟨b,o,rfl,hr⟩
 ·have:xs = []:=by simpa using hr
  subst this
  refine (Tryz.strings_Join_none a cap ⟨sep.toArray⟩ R.w).mono ?_
  rintro e w' ⟨rfl,rfl⟩
  exact ⟨_,rfl,Below.refl _ _,fun R' _=>zV.2 (by simp[Lib.join])⟩
 ·by_cases hx0:xs = []
  ·subst hx0
   refine (Tryz.strings_Join_none _ cap ⟨sep.toArray⟩ R.w).mono ?_
   rintro e w' ⟨rfl,rfl⟩
   exact ⟨_,rfl,Below.refl _ _,fun R' _=>zV.2 (by simp[Lib.join])⟩
  ·have hcells:∀ (j:Nat) x,(xs.map fun x=>ByteArray.mk x.toArray)[j]?=some x->R.w.cell? ⟨b,o+j,none⟩=some (.string x):=fun j x hj=>by
    rw[List.getElem?_map]at hj
    cases hq:xs[j]? with
    | none=>rw[hq]at hj;cases hj
    | some y =>
     rw[hq]at hj;cases hj
     obtain ⟨_,g⟩:=jk hr j [.str y] (by rw[List.getElem?_map,hq];rfl)
     obtain ⟨⟨v,g1,_,g2,_⟩,_⟩:=qj.1 g
     rw[zV]at g2
     subst g2
     simpa using g1
   have hb:b<R.w.heap.size:=by
    cases xs with
    | nil=>exact absurd rfl hx0
    | cons x r =>
     exact ye (hcells 0 ⟨x.toArray⟩ rfl)
   have hj:=Tryz.strings_Join b o cap (xs.map fun x=>ByteArray.mk x.toArray) ⟨sep.toArray⟩ R.w hcells hb (by simp;omega) (by simpa using hc1) (by rw[hmap];simp;omega)
   rw[hmap]at hj
   simp only[List.length_map]at hj
   rw[hlen]
   refine hj.mono ?_
   rintro e w' ⟨rfl,hbl⟩
   exact ⟨_,rfl,hbl,fun R' _=>zV.2 (by simp)⟩
end
section
open Go.RowKit
def zgq (p:List UInt8):C:=.agg [qG (Lib.hasPrefix p [47]),.own 0 9 1 (qv (zJ p)),qG (!decide (zJ p = [])&&Lib.hasSuffix p [47])]
theorem zij (p:List UInt8) (hp:p.length<=1000000):Fun Tryz.prog G0 45 [.str p] (zgq p) 1:=by
 refine fon Tryz.func45 ?_;dsimp only[Tryz.f45]
 push_cast -dsimp
 refine call (ZB p) ?_
 push_cast -dsimp
 refine call (Xz p hp) ?_
 push_cast -dsimp
 refine call (QE p [47]) ?_
 push_cast -dsimp
 by_cases h:zJ p = []
 ·push_cast -dsimp [h]
  exact ⟨[.inl 0],rfl,rfl,by simp only[zgq];push_cast -dsimp [zb,za,CLe,ze,h];simp⟩
 ·have h':0<(zJ p).length:=List.length_pos_iff.2 h
  push_cast -dsimp [h']
  refine call (QK p [47] hp) ?_
  push_cast -dsimp
  exact ⟨[.inl 0],rfl,rfl,by simp only[zgq];push_cast -dsimp [zb,za,CLe,ze,h]⟩
def put (a:Bool) (xs:List (List UInt8)) (s:Bool):List UInt8:=(if a then [47] else [])++Lib.join xs [47]++(if s&&!decide (xs = []) then [47] else [])
def qY (xs:List (List UInt8)):List UInt8:=if xs = [] then [47] else 47 :: Lib.join xs [47]
theorem XQ (xs:List (List UInt8)) (hx:xs.length<=1000001) (hl:(Lib.join xs [47]).length<=100000000):Fun Tryz.prog G0 44 [.sl 1 (qv xs)] (.str (qY xs)) 0:=by
 refine fon Tryz.func44 ?_;dsimp only[Tryz.f44]
 push_cast -dsimp
 by_cases h:xs = []
 ·push_cast -dsimp [h]
  exact ⟨[],rfl,rfl,by simp only[qY,h];push_cast -dsimp [zb,za,CLe,ze]⟩
 ·have h':¬((xs.length:Int)=0):=by have:=List.length_pos_iff.2 h;omega
  push_cast -dsimp [h']
  refine call ((GN xs [47] hx hl)) ?_
  push_cast -dsimp
  exact ⟨by omega,[],rfl,rfl,by simp only[qY,if_neg h];push_cast -dsimp [zb,za,CLe,ze]⟩
def Xo (p q:List UInt8):Bool:=decide (p=q)||decide (q = [47])||Lib.hasPrefix p (q++[47])
theorem Hi (p q:List UInt8) (hq:q.length<=1000000):Fun Tryz.prog G0 135 [.str p,.str q] (qG (Xo p q)) 0:=by
 refine fon Tryz.func135 ?_;dsimp only[Tryz.f135]
 push_cast -dsimp
 by_cases h1:p=q
 ·push_cast -dsimp [h1]
  exact ⟨[],rfl,rfl,by push_cast -dsimp [zb,za,CLe,ze];simp[Xo]⟩
 ·by_cases h2:q = [47]
  ·subst h2
   push_cast -dsimp [h1]
   exact ⟨[],rfl,rfl,by push_cast -dsimp [zb,za,CLe,ze];simp[Xo]⟩
  ·push_cast -dsimp [h1,h2]
   refine ⟨by omega,?_⟩
   refine call (QE p (q++[47])) ?_
   push_cast -dsimp
   exact ⟨[],rfl,rfl,by push_cast -dsimp [zb,za,CLe,ze];simp[Xo,h1,h2]⟩
end
section
open Go.RowKit
theorem H9 (l:List UInt8) (c:UInt8):Fun Tryz.prog G0 260 [.str l,.sc (.int .u8 (c.toNat:Int))] (.sc (.int .i64 (Lib.indexByte l c))) 0:=by
 refine Fun.wrap (by kernel_rfl) fun R vs h=>?_
 obtain ⟨v1,us1,rfl,h1,h⟩:=zd.1 h
 obtain ⟨v2,us2,rfl,h2,h⟩:=zd.1 h
 rw[zj]at h
 subst h
 rw[zV]at h1
 rw[zo]at h2
 subst h1 h2
 refine (Tryz.strings_IndexByte ⟨l.toArray⟩ (c.toNat:Int) R.w).mono ?_
 rintro e w' ⟨rfl,rfl⟩
 exact ⟨_,rfl,Below.refl _ _,fun R' _=>zo.2 (by simp)⟩
theorem Y3 (r:Int):Fun Tryz.prog G0 261 [.sc (.int .i32 r)] (.sc (.bool (Lib.validRune r))) 0:=by
 refine Fun.wrap (by kernel_rfl) fun R vs h=>?_
 obtain ⟨v1,us1,rfl,h1,h⟩:=zd.1 h
 rw[zj]at h
 subst h
 rw[zo]at h1
 subst h1
 refine (Tryz.utf8_ValidRune r R.w).mono ?_
 rintro e w' ⟨rfl,rfl⟩
 exact ⟨_,rfl,Below.refl _ _,fun R' _=>zo.2 rfl⟩
theorem zhe (r:Int) (hv:Utf8.valid r=true) (h128:128<=r):∃ l c,(Utf8.encode r).data.toList=l++[c]/\1<=l.length/\l.length<=3/\128<=c.toNat:=by
 obtain ⟨h1,h2,h3⟩:=encode_facts r hv h128
 generalize Utf8.encode r=bs at h1 h2 h3 ⊢
 have hs:bs.data.toList.length=bs.size:=Array.length_toList
 have h4:=h3 (by omega)
 have h5:bs.data.toList[bs.size-1]?=some (bs[bs.size-1]'(by omega)):=Lib.data_getElem? bs _ (by omega)
 generalize bs[bs.size-1]'(by omega)=c at h4 h5
 generalize bs.data.toList=l at hs h5
 refine ⟨l.take (bs.size-1),c,?_,by simp;omega,by simp;omega,h4⟩
 have:=List.take_append_drop (bs.size-1) l
 have hd:l.drop (bs.size-1) = [c]:=by
  have hlt:bs.size-1<l.length:=by omega
  rw[List.drop_eq_getElem_cons hlt]
  rw[List.getElem?_eq_getElem hlt]at h5
  cases h5
  rw[List.drop_eq_nil_of_le (by omega)]
 rw[hd]at this
 exact this.symm
theorem Ns (r:Int) (h1:128<=r) (hv:Utf8.valid r=true) (h2:r≠65533):Fun Tryz.prog G0 249 [.str [47,0],.sc (.int .i32 r)] (.sc (.int .i64 (-1))) 0:=by
 have hlv:Lib.validRune r=true:=by
  have:=validRune_eq r
  rw[hv]at this
  exact this.symm
 obtain ⟨l,c,he,hl1,hl3,hc⟩:=zhe r hv h1
 have ha:0<=r:=by omega
 have hb:¬r<128:=by omega
 have hc0:¬((0:Int)=(c.toNat:Int)):=by omega
 have hix:=H9 [] c
 match l,hl1,hl3 with
 | [x],_,_ =>
  refine fon Tryz.func249 ?_;dsimp only[Tryz.f249]
  push_cast -dsimp [ha,hb,h2]
  refine call (Y3 r) ?_
  push_cast -dsimp [hlv,he]
  refine loop (fun k:Nat=>⟨[(0,.str [47,0]),(1,.sc (.int .i32 r)),(7,.str [x,c]),(8,.sc (.int .i64 1)),(9,.sc (.int .i64 1)),(10,.sc (.int .i64 0))],[],0,0⟩) (fun k=>True) (fun k=>0) 0 trivial ?_ ?_
  ·exact wk
  ·intro k _
   push_cast -dsimp [hc0]
   refine kl hix ?_
   have hi0:Lib.indexByte [] c = -1:=rfl
   push_cast -dsimp [hi0]
   exact dn
 | [x,y],_,_ =>
  refine fon Tryz.func249 ?_;dsimp only[Tryz.f249]
  push_cast -dsimp [ha,hb,h2]
  refine call (Y3 r) ?_
  push_cast -dsimp [hlv,he]
  refine loop (fun k:Nat=>⟨[(0,.str [47,0]),(9,.sc (.int .i64 2))],[],0,0⟩) (fun k=>True) (fun k=>0) 0 trivial ?_ ?_
  ·exact wk
  ·intro k _
   push_cast -dsimp
   exact dn
 | [x,y,z],_,_ =>
  refine fon Tryz.func249 ?_;dsimp only[Tryz.f249]
  push_cast -dsimp [ha,hb,h2]
  refine call (Y3 r) ?_
  push_cast -dsimp [hlv,he]
  refine loop (fun k:Nat=>⟨[(0,.str [47,0]),(9,.sc (.int .i64 3))],[],0,0⟩) (fun k=>True) (fun k=>0) 0 trivial ?_ ?_
  ·exact wk
  ·intro k _
   push_cast -dsimp
   exact dn
theorem Gd (w:World):Calls Tryz.prog 249 #[.string ⟨#[47,0]⟩,.int .i32 65533] w fun e w'=>e = .returned (.int .i64 (-1))/\Below w.heap.size w w':=by
 go_enter Tryz.func249,Tryz.ntmps249
 go_wp2
 go_loopg [5,6] 2 (fun g _ _ wx=>∃ i:Nat,i+g=2/\wx=w.iter ⟨#[47,0]⟩ i)
 case atStart=>exact ⟨0,by omega,rfl⟩
 case round =>
  obtain ⟨i,hig,rfl⟩:=hrel
  cases gk with
  | zero =>
   obtain rfl:i=2:=by omega
   have hnx:=fun ty=>run_next_end (P:=Tryz.prog) w ⟨#[47,0]⟩ 2 ty (by decide)
   go_wp2
   go_ret
   exact ⟨rfl,(Below.refl _ _).alloc (Nat.le_refl _) _⟩
  | succ g =>
   have hi:i<(ByteArray.mk #[47,0]).size:=by show i<2;omega
   have hx128:((ByteArray.mk #[47,0])[i]'hi).toNat<128:=by
    have:i=0∨i=1:=by omega
    rcases this with rfl | rfl
    ·exact (by decide:(47:UInt8).toNat<128)
    ·exact (by decide:(0:UInt8).toNat<128)
   have hnx:=fun ty=>run_next_ascii (P:=Tryz.prog) w ⟨#[47,0]⟩ i ty hi hx128
   have hne:((((ByteArray.mk #[47,0])[i]'hi).toNat:Int)==65533)=false:=by
    rw[beq_eq_false_iff_ne];omega
   go_wp2
   go_roundg g
   case measure=>omega
   case rel=>exact ⟨i+1,by omega,rfl⟩
end
section
open Go.RowKit Go.Shelf
def bad (b:UInt8):Bool:=decide (b=47)||decide (b=0)
theorem Z8 (b:UInt8):[47,0].contains b=bad b:=by simp[bad,List.contains_iff_mem,Bool.eq_iff_iff]
theorem xW {P:Program} {W:World} {b:Nat} {s:ByteArray} {pos:Nat} (hb:W.heap[b]?=some (.stringIter s pos)) (h:pos<s.size) (ty:TypeId) :
  (Instr.next (.pointer (some ⟨b,0,none⟩)) true ty).run P W = .ok (.tuple #[.bool true,.int .i64 pos,.int .i32 (Utf8.decode s pos).1]) (W.putObj b (.stringIter s (pos+(Utf8.decode s pos).2))):=by
 simp only[Instr.next,getObj,setObj,Sem.run_bind,Sem.run,hb,Result.andThen,h,if_true]
 simp[goInt,Sem.run,hb,World.putObj]
theorem Uo {P:Program} {W:World} {b:Nat} {s:ByteArray} {pos:Nat} (hb:W.heap[b]?=some (.stringIter s pos)) (h:¬pos<s.size) (ty:TypeId) :
  (Instr.next (.pointer (some ⟨b,0,none⟩)) true ty).run P W = .ok (.tuple #[.bool false]) W:=by
 simp[Instr.next,getObj,Sem.run,hb,h]
theorem get!_eq (s:ByteArray) (k:Nat) (hk:k<s.size):s.get! k=s[k]'hk:=by
 simp[ByteArray.get!,getElem!_pos,hk];rfl
theorem zg1 {c:Nat} (h:c<55296∨(57344<=c/\c<=1114111)):Utf8.valid (c:Int)=true:=by
 unfold Utf8.valid
 rcases h with h | h
 ·have h1:((c:Int)<55296):=by omega
  simp;omega
 ·simp;omega
theorem yj (s:ByteArray) (i:Nat) (h:i<s.size):(((s[i]'h).toNat<128/\Utf8.decode s i=((s[i]'h).toNat,1))∨(128<=(Utf8.decode s i).1/\Utf8.valid ((Utf8.decode s i).1:Int)=true/\1<=(Utf8.decode s i).2/\i+(Utf8.decode s i).2<=s.size/\∀ j (hj:j<s.size),i<=j->j<i+(Utf8.decode s i).2->128<=(s[j]'hj).toNat)):=by
 by_cases ha:(s[i]'h).toNat<128
 ·exact .inl ⟨ha,decode_ascii s i h ha⟩
 ·refine .inr ?_
  have hb0:¬(s.get! (i+0)).toNat<128:=by rw[Nat.add_zero,get!_eq s i h];exact ha
  have hby:∀ n,(∀ k,k<n->128<=(s.get! (i+k)).toNat)->∀ j (hj:j<s.size),i<=j->j<i+n->128<=(s[j]'hj).toNat:=fun n hn j hj h1 h2=>by
   have:=hn (j-i) (by omega)
   rw[show i+(j-i)=j by omega,get!_eq s j hj]at this
   exact this
  have hone:128<=65533/\Utf8.valid ((65533:Nat):Int)=true/\1<=1/\i+1<=s.size/\∀ j (hj:j<s.size),i<=j->j<i+1->128<=(s[j]'hj).toNat:=
   ⟨by omega,by decide,by omega,by omega,hby 1 fun k hk=>by rw[show k=0 by omega];omega⟩
  unfold Utf8.decode
  simp only[if_neg hb0,Utf8.runeError]
  obtain ⟨b0,hg0⟩:∃ b,(s.get! (i+0)).toNat=b:=⟨_,rfl⟩
  obtain ⟨b1,hg1⟩:∃ b,(s.get! (i+1)).toNat=b:=⟨_,rfl⟩
  obtain ⟨b2,hg2⟩:∃ b,(s.get! (i+2)).toNat=b:=⟨_,rfl⟩
  obtain ⟨b3,hg3⟩:∃ b,(s.get! (i+3)).toNat=b:=⟨_,rfl⟩
  rw[hg0]at hb0
  simp only[hg0,hg1,hg2,hg3]
  have hlt:b0<256:=by rw[←hg0];exact (s.get! (i+0)).toNat_lt
  split
  ·rename_i hc
   simp only[Bool.and_eq_true,beq_iff_eq,decide_eq_true_eq]at hc
   split
   ·rename_i hv
    refine ⟨by show 128<=_;omega,zg1 (.inl (by omega)),by show 1<=2;omega,by show i+2<=_;omega,hby 2 fun k hk=>?_⟩
    rcases (show k=0∨k=1 by omega) with rfl | rfl
    ·rw[hg0];omega
    ·rw[hg1];omega
   ·exact hone
  ·split
   ·rename_i hc
    simp only[Bool.and_eq_true,beq_iff_eq,decide_eq_true_eq]at hc
    split
    ·rename_i hv
     simp only[Bool.and_eq_true,decide_eq_true_eq]at hv
     refine ⟨by show 128<=_;omega,hv.2,by show 1<=3;omega,by show i+3<=_;omega,hby 3 fun k hk=>?_⟩
     rcases (show k=0∨k=1∨k=2 by omega) with rfl | rfl | rfl
     ·rw[hg0];omega
     ·rw[hg1];omega
     ·rw[hg2];omega
    ·exact hone
   ·split
    ·rename_i hc
     simp only[Bool.and_eq_true,beq_iff_eq,decide_eq_true_eq]at hc
     split
     ·rename_i hv
      simp only[Bool.and_eq_true,decide_eq_true_eq]at hv
      refine ⟨by show 128<=_;omega,hv.2,by show 1<=4;omega,by show i+4<=_;omega,hby 4 fun k hk=>?_⟩
      rcases (show k=0∨k=1∨k=2∨k=3 by omega) with rfl | rfl | rfl | rfl
      ·rw[hg0];omega
      ·rw[hg1];omega
      ·rw[hg2];omega
      ·rw[hg3];omega
     ·exact hone
    ·exact hone
theorem HD (r:Int) (h1:128<=r) (hv:Utf8.valid r=true) (w:World):Calls Tryz.prog 249 #[.string ⟨#[47,0]⟩,.int .i32 r] w fun e w'=>e = .returned (.int .i64 (-1))/\Below w.heap.size w w':=by
 by_cases h2:r=65533
 ·subst h2;exact Gd w
 ·refine ((Ns r h1 hv h2).2 ⟨w,fun _ _=>False,fun _=>False⟩ [.string ⟨#[47,0]⟩,.int .i32 r] (fun g cs h=>by cases h) ?_).mono ?_
  ·exact zd.2 ⟨_,_,rfl,zV.2 rfl,zd.2 ⟨_,_,rfl,zo.2 rfl,zj.2 rfl⟩⟩
  ·rintro e w' ⟨v,R',L',rfl,rfl,hst,hr⟩
   rw[zo]at hr
   exact ⟨by rw[hr],hst.below⟩
theorem zel (w:World) (s:ByteArray):(w.iter s 0).heap[w.heap.size]?=some (.stringIter s 0):=World.iter_heap w s 0
theorem xV {w W:World} {s:ByteArray} {p:Nat} (hb:Below w.heap.size w W) (hs:W.heap[w.heap.size]?=some (.stringIter s p)) (p':Nat):Below w.heap.size w (W.putObj w.heap.size (.stringIter s p'))/\(W.putObj w.heap.size (.stringIter s p')).heap[w.heap.size]?=some (.stringIter s p'):=
 ⟨⟨hb.os,hb.tape,hb.output,by simpa using hb.size,fun k hk=>(World.putObj_heap_other (by omega)).trans (hb.block k hk)⟩,World.putObj_heap_same (zZ hs)⟩
theorem zax {w W W':World} {s:ByteArray} {p:Nat} (hb:Below w.heap.size w W) (hs:W.heap[w.heap.size]?=some (.stringIter s p)) (h:Below W.heap.size W W'):Below w.heap.size w W'/\W'.heap[w.heap.size]?=some (.stringIter s p):=
 ⟨hb.trans (h.mono hb.size),(h.block _ (zZ hs)).trans hs⟩
theorem ki (s:ByteArray) (w:World) (h8:s.size<=8):Calls Tryz.prog 250 #[.string s,.string ⟨#[47,0]⟩] w fun e w'=>e = .returned (.int .i64 (Lib.indexAny s.data.toList [47,0]))/\Below w.heap.size w w':=by
 have h8z:decide ((8:Int)<(s.size:Int))=false:=decide_eq_false (by omega)
 have hsi:=zel w s
 have hbi:Below w.heap.size w (w.iter s 0):=(Below.refl _ _).alloc (Nat.le_refl _) _
 have HI:Aside ((w.iter s 0).heap[w.heap.size]?=some (.stringIter s 0)/\Below w.heap.size w (w.iter s 0)):=⟨hsi,hbi⟩
 clear hsi hbi
 go_enter Tryz.func250,Tryz.ntmps250
 go_wp2_with (go_at_call 262;refine (Tryz.strings_shouldUseASCIISet _ _).mono ?_;rintro e w' ⟨rfl,hw⟩;rw[hw,h8z])
 go_loopg [9,10] s.size (fun g _ _ wx=>∃ i:Nat,i+g=s.size/\wx.heap[w.heap.size]?=some (.stringIter s i)/\Below w.heap.size w wx/\Lib.NoAny s.data.toList [47,0] i)
 case atStart=>exact ⟨0,by omega,HI.out.1,HI.out.2,Lib.NoAny.zero _ _⟩
 case round =>
  obtain ⟨i,hig,hs,hbl,hno⟩:=hrel
  have HN:Aside (Lib.NoAny s.data.toList [47,0] i/\wr.heap[w.heap.size]?=some (.stringIter s i)/\Below w.heap.size w wr):=⟨hno,hs,hbl⟩
  cases gk with
  | zero =>
   obtain rfl:i=s.size:=by omega
   have hnx:=fun ty=>Uo (P:=Tryz.prog) hs (by omega) ty
   clear hno hs hbl
   go_wp2
   go_ret
   exact ⟨by rw[Lib.indexAny_none (by rw[←Lib.size_eq];exact HN.out.1)];rfl,HN.out.2.2⟩
  | succ g =>
   have hi:i<s.size:=by omega
   have hnx:=fun ty=>xW (P:=Tryz.prog) hs hi ty
   have hpi:=xV hbl hs (i+(Utf8.decode s i).2)
   have HP:Aside (Below w.heap.size w (wr.putObj w.heap.size (.stringIter s (i+(Utf8.decode s i).2)))/\(wr.putObj w.heap.size (.stringIter s (i+(Utf8.decode s i).2))).heap[w.heap.size]?=some (.stringIter s (i+(Utf8.decode s i).2))):=hpi
   clear hno hs hbl hpi
   obtain ⟨x,hx⟩:∃ x:UInt8,s[i]'hi=x:=⟨_,rfl⟩
   have hxl:s.data.toList[i]?=some x:=by rw[←hx];exact Lib.data_getElem? s i hi
   rcases yj s i hi with ⟨hd1,hd2⟩ | ⟨hd1,hd2,hd3,hd4,hd5⟩
   ·rw[hx]at hd1 hd2
    rw[hd2]at hnx HP
    have Hx:Aside (s.data.toList[i]?=some x):=hxl
    clear hxl hx hd2
    have hcon:=Lib.contains_iff_indexByte [47,0] x
    have hback:((x.toNat:Int)).toNat.toUInt8=x:=by simp
    cases hin:([47,0]:List UInt8).contains x
    ·rw[hin]at hcon
     have hlt:¬((0:Int)<=Lib.indexByte [47,0] x):=of_decide_eq_false hcon.symm
     clear hcon
     go_wp2_with (go_at_call 249;refine (Tryz.strings_IndexRune_ascii _ _ _ (by omega) (by omega)).mono ?_;rintro e w' ⟨rfl,hw⟩;rw[hw,hback])
     go_roundg g
     case measure=>omega
     case rel=>exact ⟨i+1,by omega,HP.out.2,HP.out.1,HN.out.1.succ Hx.out hin⟩
    ·rw[hin]at hcon
     have hge:(0:Int)<=Lib.indexByte [47,0] x:=of_decide_eq_true hcon.symm
     clear hcon
     go_wp2_with (go_at_call 249;refine (Tryz.strings_IndexRune_ascii _ _ _ (by omega) (by omega)).mono ?_;rintro e w' ⟨rfl,hw⟩;rw[hw,hback])
     go_ret
     exact ⟨by rw[Lib.indexAny_hit HN.out.1 Hx.out hin];rfl,HP.out.1⟩
   ·obtain ⟨c,hc⟩:∃ c,(Utf8.decode s i).1=c:=⟨_,rfl⟩
    obtain ⟨n,hn⟩:∃ n,(Utf8.decode s i).2=n:=⟨_,rfl⟩
    rw[hc,hn]at hnx
    rw[hn]at HP hd3 hd4 hd5
    rw[hc]at hd1 hd2
    have H5:Aside (∀ j (hj:j<s.size),i<=j->j<i+n->128<=(s[j]'hj).toNat):=hd5
    have H2:Aside (Utf8.valid (c:Int)=true):=hd2
    clear hd5 hd2 hxl hx hc hn
    go_wp2_with (go_at_call 249;refine (HD _ (by omega) H2.out _).mono ?_;rintro e w' ⟨rfl,hw⟩;have HW:=zax HP.out.1 HP.out.2 hw)
    go_roundg (s.size-(i+n))
    case measure=>omega
    case rel =>
     refine ⟨i+n,by omega,HW.2,HW.1,fun j b hj hb=>?_⟩
     rcases Nat.lt_or_ge j i with g | g
     ·exact HN.out.1 j b g hb
     ·have hjs:j<s.size:=by omega
      have:=H5.out j hjs g hj
      have hb2:=Lib.data_getElem? s j hjs
      rw[hb]at hb2
      have hb3:b=s[j]'hjs:=Option.some.inj hb2
      rw[Z8,hb3]
      have h47:s[j]'hjs≠47:=fun e=>by rw[e]at this;revert this;decide
      have h00:s[j]'hjs≠0:=fun e=>by rw[e]at this;revert this;decide
      simp[bad,h47,h00]
end
section
open Go.RowKit Go.Shelf
theorem k6 (w:World):(zeroValue 223).run Tryz.prog w = .ok (.agg (Array.replicate 256 (.bool false))) w:=by kernel_rfl
theorem Vn:∀ l:List UInt8,decide (0<=Lib.indexAny l [47,0])=l.any bad
 | []=>rfl
 | b :: l=>by
  have ih:=Vn l
  have hg:=Lib.indexAny_ge [47,0] l
  unfold Lib.indexAny
  rw[Z8,List.any_cons]
  cases hb:bad b with
  | true=>simp
  | false =>
   simp only[Bool.false_eq_true,if_false,Bool.false_or,←ih]
   split
   ·rename_i h
    have:=beq_iff_eq.1 h
    first | rw[this];done | (rw[this];rfl)
   ·rename_i h
    have h':Lib.indexAny l [47,0]≠-1:=by simpa using h
    rw[decide_eq_decide];omega
theorem MB (l:List UInt8) (hl:l.length<=1000000):Fun Tryz.prog G0 250 [.str l,.str [47,0]] (.sc (.int .i64 (Lib.indexAny l [47,0]))) 0:=by
 refine Fun.wrap (by kernel_rfl) fun R vs h=>?_
 obtain ⟨v1,us1,rfl,h1,h⟩:=zd.1 h
 obtain ⟨v2,us2,rfl,h2,h⟩:=zd.1 h
 rw[zj]at h
 subst h
 rw[zV]at h1 h2
 subst h1 h2
 have hsz:(ByteArray.mk l.toArray).size=l.length:=by simp[ByteArray.size]
 by_cases h8:l.length<=8
 ·refine (ki ⟨l.toArray⟩ R.w (by omega)).mono ?_
  rintro e w' ⟨rfl,hb⟩
  exact ⟨_,rfl,hb,fun R' _=>zo.2 (by simp)⟩
 ·refine (Tryz.strings_IndexAny_long k6 ⟨l.toArray⟩ ⟨#[47,0]⟩ R.w (by decide) (by omega) (by omega) (by decide) ?_).mono ?_
  ·intro j b hb
   have:b=47∨b=0:=by
    have:=List.mem_of_getElem? hb
    simpa using this
   rcases this with rfl | rfl<;>decide
  ·rintro e w' ⟨rfl,rfl⟩
   exact ⟨_,rfl,((Below.refl _ _).alloc (Nat.le_refl _) _).alloc (by simp) _,fun R' _=>zo.2 (by simp)⟩
theorem Yc (l:List UInt8) (hl:l.length<=1000000):Fun Tryz.prog G0 227 [.str l,.str [47,0]] (qG (l.any bad)) 0:=by
 have h:=Vn l
 refine fon Tryz.func227 ?_;dsimp only[Tryz.f227]
 push_cast -dsimp
 refine call (MB l hl) ?_
 push_cast -dsimp
 exact dn (by push_cast -dsimp [zb,za,CLe,ze,h])
def may (l:List UInt8):Bool:=!decide (l = [])&&decide (l.length<=255)&&!l.any bad&&!decide (l = [46])&&!decide (l = [46,46])
theorem ze2 (l:List UInt8) (hl:l.length<=1000000):Fun Tryz.prog G0 198 [.str l] (qG (may l)) 0:=by
 by_cases h1:l = []
 ·refine fon Tryz.func198 ?_;dsimp only[Tryz.f198]
  push_cast -dsimp [h1]
  exact ⟨[],rfl,rfl,by push_cast -dsimp [zb,za,CLe,ze];simp[may]⟩
 ·by_cases h2:l.length<=255
  ·have h2':(l.length:Int)<=255:=by omega
   cases h3:l.any bad with
   | true =>
    refine fon Tryz.func198 ?_;dsimp only[Tryz.f198]
    push_cast -dsimp [h1,h2']
    refine call (Yc l hl) ?_
    push_cast -dsimp [h3]
    exact ⟨[],rfl,rfl,by push_cast -dsimp [zb,za,CLe,ze];simp[may,h3]⟩
   | false =>
    by_cases h4:l = [46]
    ·subst h4
     refine fon Tryz.func198 ?_;dsimp only[Tryz.f198]
     push_cast -dsimp [h2']
     refine call (Yc _ hl) ?_
     push_cast -dsimp [h3]
     exact ⟨[],rfl,rfl,by push_cast -dsimp [zb,za,CLe,ze];simp[may]⟩
    ·refine fon Tryz.func198 ?_;dsimp only[Tryz.f198]
     push_cast -dsimp [h1,h2']
     refine call (Yc l hl) ?_
     push_cast -dsimp [h3,h4]
     exact ⟨[],rfl,rfl,by push_cast -dsimp [zb,za,CLe,ze];simp[may,h1,h2,h3,h4]⟩
  ·have h2':¬(l.length:Int)<=255:=by omega
   refine fon Tryz.func198 ?_;dsimp only[Tryz.f198]
   push_cast -dsimp [h1,h2']
   exact ⟨[],rfl,rfl,by push_cast -dsimp [zb,za,CLe,ze];simp[may,h2]⟩
theorem zac (l:List UInt8) (hl:l.length<=1000000):Fun Tryz.prog G0 197 [.str l] (qG (!may l)) 0:=by
 refine fon Tryz.func197 ?_;dsimp only[Tryz.f197]
 push_cast -dsimp
 refine call (ze2 l hl) ?_
 push_cast -dsimp
 exact dn
end
end Go.Proofs.YtiblepfehggicaaGreatDoor.Vcg
