/- What the proof of MkdirsLeads leans on, part 3: Vcg18 Slc0 Slc1 TabV Tab1 OpenG OpenT Srt0 SlcE Shelf Tab2 TabR Snd1 PathN Ref1 Path1 Path2 Path3 Path4 May1 May2 May3 Path5. No condition beyond what each theorem states. -/
import Derived.Test.YtaipngaejfndgaaGreatDoorMkdirsLeadsKb
import Derived.Lib.Overlaps
import Derived.Laws.Externs
import Derived.WalkKit
import Derived.ProofKit
import Derived.Deep.Slices
import Derived.Deep.Fields
import Derived.ChangeSame
import Derived.ChangeOld
import Derived.Lib.SmallJoins
import Derived.Test.YtaipngaejfndgaaGreatDoorRows
import Derived.Lib.Bytealg
import Derived.Shelf.Strings.Builder1
import Derived.Shelf.Strings.Builder2
import Derived.Shelf.Strings.OnBuilder
import Derived.Shelf.Strings.Trim
import Derived.Shelf.Small.Utf8
import Derived.Shelf.Small.Strs
import Derived.Shelf.Small.Wraps
import Derived.Shelf.Strings.BuilderF
import Derived.Shelf.Strings.BuilderK
import Derived.Shelf.Strings.Search1
import Derived.Shelf.Strings.Search2
import Derived.Shelf.Strings.Search3
import Derived.Shelf.LaysM
import Derived.Shelf.Strings.Shaped
import Derived.Shelf.Strings.Prefix
import Derived.Shelf.Unicode.Decode
import Derived.Shelf.Strings.Runes
import Derived.Shelf.Strings.IndexAny
import Derived.Shelf.Strings.AsciiSet
import Derived.Shelf.Strings.IndexAnyAll
import Derived.Shelf.Unicode.DecodeSlow
import Derived.Shelf.Unicode.DecodeAny
import Derived.Shelf.Unicode.DecodeLast
import Derived.Ground.Names2Prog
import Derived.Shelf.Slices.SearchI
import Derived.Test.YtaipngaejfndgaaGreatDoorProg
import Derived.Laws.Runes
import Derived.Laws.RangeString
import Derived.Deep.LoopGhost
import Derived.Lib.QuoteLoop
import Derived.Lib.IndexAny
set_option linter.unusedVariables false
set_option linter.unusedSimpArgs false
set_option linter.unusedSectionVars false
set_option maxRecDepth 100000
set_option maxHeartbeats 4000000
namespace Go.Proofs.YtaipngaejfndgaaGreatDoor.Vcg
section
open Go.RowKit
section
variable {P:Program} {G:zk} {σ σ':St} {N p lg m:Nat} {h:Hd} {yd:Option Yd} {brs:List Bool} {bf:Nat->List Bool} {bx bx':List (List C)} {ops:Array Oper} {c c' d d':C} {t t':TypeId} {K:C->Prop} {K2:C->Nat->Prop} {K3:C->St->Prop} {nx:Nat} {tm:List (Nat×C)} {x y z:Operand} {Q:Exit->St->Prop} {X Y:Prop}
def yD (P:Program) (G:zk) (f:FuncId) (args:List C) (nx:Nat) (K:C->Nat->Prop):Prop:=∃ r n,Fun P G f args r n/\K (r.sh nx) (nx+n)
theorem yD.mk {f:FuncId} {args:List C} {r:C} {n:Nat} (h:Fun P G f args r n) (hK:K2 (r.sh nx) (nx+n)):yD P G f args nx K2:=⟨r,n,h,hK⟩
def zoJ (P:Program) (G:zk) (f:FuncId) (args fargs:List C) (σ:St) (K:C->St->Prop):Prop:=
 (∃ r n,Fun P G f fargs r n/\K (r.sh σ.nx) ⟨σ.tm,σ.bx,σ.nx+n,σ.lg⟩)∨MC P G f args σ K∨zi8 P G f args σ K∨V9 P G f args σ K∨zby P f args σ K
def aGd (d:Option Tmp) (tm:List (Nat×C)) (want:Bool) (X Y:Prop):Prop:=match d with
 | some d=>match want with
  | true=>zi2 (q9 tm d) Y X Y
  | false=>zi2 (q9 tm d) Y Y X
 | none=>False
def zni (L:Option Lay) (c:C) (bx:List (List C)) (K:C->Prop):Prop:=
 match L with
 | none=>False
 | some L=>match c with
  | .ptr i off=>match bx[i]? with
   | some cs=>Jw L (cs.drop off) K
   | none=>False
  | .row cs=>Jw L cs K
  | _=>False
def zn8 (cs:Option (List C)) (off:Nat) (L:Lay) (K:C->Prop):Prop:=match cs with | some cs=>Jw L (cs.drop off) K | none=>False
def zqh (x:Option C) (K:C->Prop):Prop:=match x with | some c=>K c | none=>False
def yp (L:Option Lay) (c:C) (f:Nat) (K:C->Prop):Prop:=
 match L with
 | some ⟨.struct fs,_,_,_⟩=>match fs[f]?,c with
  | some (off,size,agg),.agg cs =>
   if agg then off+size<=cs.length/\K (.agg ((cs.drop off).take size)) else match cs[off]? with
    | some c=>K c
    | none=>False
  | _,_=>False
 | _=>False
def VU (f:Option (Nat×Nat×Bool)) (cs:List C) (K:C->Prop):Prop:=
 match f with
 | some (off,size,agg)=>if agg then off+size<=cs.length/\K (.agg ((cs.drop off).take size)) else match cs[off]? with
    | some c=>K c
    | none=>False
 | none=>False
def zrg (L:Option Lay) (c:C) (f:Nat) (K:C->Prop):Prop:=
 match L with
 | some ⟨.struct fs,_,_,_⟩=>match fs[f]?,c with
  | some (off,size,_),.ptr i o=>if size=0 then False else K (.ptr i (o+off))
  | some (off,size,_),.row cs=>if size=0 then False else K (.row (cs.drop off))
  | _,_=>False
 | _=>False
def zoW (f:Option (Nat×Nat×Bool)) (c:C) (K:C->Prop):Prop:=
 match f,c with
  | some (off,size,_),.ptr i o=>if size=0 then False else K (.ptr i (o+off))
  | some (off,size,_),.row cs=>if size=0 then False else K (.row (cs.drop off))
  | _,_=>False
def zro (P:Program) (L:Option Lay) (c:C) (i:C) (K:C->Prop):Prop:=
 match L,i with
 | some ⟨.slice e,_,_,_⟩,.sc (.int _ n)=>match lay P e with
  | some L=>match c with
   | .bs j off k m _=>k=L.size/\0<=n/\n<(m:Int)/\K (.ptr j (off+n.toNat*L.size))
   | c=>match c.rows? L.size with
    | some rows=>match rows[n.toNat]? with
     | some r=>0<=n/\K (.row r)
     | none=>False
    | none=>False
  | none=>False
 | some ⟨.array (m+1) e,_,_,_⟩,.sc (.int _ n)=>match lay P e with
  | some L=>match c with
   | .ptr j off=>0<=n/\n<((m+1:Nat):Int)/\K (.ptr j (off+n.toNat*L.size))
   | .row cs=>0<=n/\n<((m+1:Nat):Int)/\K (.row (cs.drop (n.toNat*L.size)))
   | _=>False
  | none=>False
 | _,_=>False
def zrp (L:Option Lay) (c:C) (n:Int) (K:C->Prop):Prop:=
 match L with
  | some L=>match c with
   | .bs j off k m _=>k=L.size/\0<=n/\n<(m:Int)/\K (.ptr j (off+n.toNat*L.size))
   | c=>match c.rows? L.size with
    | some rows=>match rows[n.toNat]? with
     | some r=>0<=n/\K (.row r)
     | none=>False
    | none=>False
  | none=>False
def zqN (rows:Option (List (List C))) (n:Int) (K:C->Prop):Prop:=
 match rows with
   | some rows=>match rows[n.toNat]? with
    | some r=>0<=n/\K (.row r)
    | none=>False
   | none=>False
def aAt (r:Option (List C)) (n:Int) (K:C->Prop):Prop:=match r with | some r=>0<=n/\K (.row r) | none=>False
def zrb (L:Option Lay) (c:C) (m:Nat) (n:Int) (K:C->Prop):Prop:=
 match L with
  | some L=>match c with
   | .ptr j off=>0<=n/\n<((m+1:Nat):Int)/\K (.ptr j (off+n.toNat*L.size))
   | .row cs=>0<=n/\n<((m+1:Nat):Int)/\K (.row (cs.drop (n.toNat*L.size)))
   | _=>False
  | none=>False
def zp9 (L:Option Lay) (c i:C) (K:C->Prop):Prop:=
 match L,c,i with
 | some ⟨.str,_,_,_⟩,.str l,.sc (.int _ n)=>match l[n.toNat]? with
  | some b=>0<=n/\K (.sc (.int .u8 (b.toNat:Int)))
  | none=>False
 | _,_,_=>False
def zkD (b:Option UInt8) (n:Int) (K:C->Prop):Prop:=match b with | some b=>0<=n/\K (.sc (.int .u8 (b.toNat:Int))) | none=>False
def zqJ (P:Program) (L:Option Lay) (c:C) (lo hi mx:Option Int) (K:C->Prop):Prop:=
   match L with
    | some ⟨.str,_,_,_⟩=>match c,mx with
      | .str l,none=>jj l.length lo hi/\K (.str (cut l lo hi))
      | _,_=>False
    | some ⟨.slice e,_,_,_⟩=>match lay P e with
      | some L=>match c with
        | .bs i off k n cap=>zkL L.size i off k n cap lo hi mx K
        | .sc (.slice none 0 0)=>zmX L.size lo hi mx K
        | c=>match c.rows? L.size with
          | some rows=>match mx,hi with
            | none,_=>jj rows.length lo hi/\K (.sl L.size (cut rows lo hi))
            | some m,some h=>m=h/\jj rows.length lo hi/\K (.tight L.size (cut rows lo hi))
            | some _,none=>False
          | none=>False
      | none=>False
    | _=>False
def zry (P:Program) (t:TypeId) (c:C) (lo hi mx:Option (Option Int)) (K:C->Prop):Prop:=
 match lo,hi,mx with
 | some lo,some hi,some mx=>zqJ P (lay P t) c lo hi mx K
 | _,_,_=>False
def zq3 (L:Option Lay) (c:C) (lo hi mx:Option Int) (K:C->Prop):Prop:=
 match L with
   | some L=>match c with
    | .bs i off k n cap=>zkL L.size i off k n cap lo hi mx K
    | .sc (.slice none 0 0)=>zmX L.size lo hi mx K
    | c=>match c.rows? L.size with
     | some rows=>match mx,hi with
      | none,_=>jj rows.length lo hi/\K (.sl L.size (cut rows lo hi))
      | some m,some h=>m=h/\jj rows.length lo hi/\K (.tight L.size (cut rows lo hi))
      | some _,none=>False
     | none=>False
   | none=>False
def zri (rows:Option (List (List C))) (k:Nat) (lo hi mx:Option Int) (K:C->Prop):Prop:=
 match rows with
    | some rows=>match mx,hi with
     | none,_=>jj rows.length lo hi/\K (.sl k (cut rows lo hi))
     | some m,some h=>m=h/\jj rows.length lo hi/\K (.tight k (cut rows lo hi))
     | some _,none=>False
    | none=>False
def zew (rows:Option (List (List C))) (K:C->Prop):Prop:=match rows with | some rows=>∃ l,rows=j5 l/\K (.str l) | none=>False
theorem zew.mk {rows:List (List C)} (l:List UInt8) (h:rows=j5 l) (hK:K (.str l)):zew (some rows) K:=⟨l,h,hK⟩
def zqU (P:Program) (D S:Option Lay) (c:C) (K:C->Prop):Prop:=
 match D with
 | some ⟨.int k,_,_,_⟩=>match c with
  | .sc (.int _ n)=>match S with | some _=>inR k n/\K (.sc (.int k n)) | none=>False
  | _=>False
 | some ⟨.str,_,_,_⟩=>match S with
  | some ⟨.str,_,_,_⟩=>match c with
   | .str l=>K (.str l)
   | _=>False
  | some ⟨.slice e,_,_,_⟩=>match lay P e with
   | some ⟨.int .u8,_,_,_⟩=>match c.rows? 1 with
    | some rows=>∃ l,rows=j5 l/\K (.str l)
    | none=>False
   | _=>False
  | some ⟨.int _,_,_,_⟩=>match c with
   | .sc (.int _ n)=>K (.str (Utf8.encode n).data.toList)
   | _=>False
  | _=>False
 | some ⟨.slice e,_,_,_⟩=>match S,lay P e with
  | some ⟨.str,_,_,_⟩,some ⟨.int .u8,_,_,_⟩=>match c with
   | .str l=>((l.length:Nat):Int)<=9223372036854775807/\K (.sl 1 (j5 l))
   | _=>False
  | _,_=>False
 | _=>False
def zrd (L:Option Lay) (c:C) (K:C->Prop):Prop:=
 match L with
   | some ⟨.int .u8,_,_,_⟩=>match c.rows? 1 with
    | some rows=>∃ l,rows=j5 l/\K (.str l)
    | none=>False
   | _=>False
def zp7 (L:Option Lay) (c:C) (K:C->Prop):Prop:=
 match L,c with
 | some ⟨.slice _,_,_,_⟩,.bs _ _ _ _ c=>K (.sc (.int .i64 (c:Int)))
 | some ⟨.slice _,_,_,_⟩,.sc (.slice none 0 0)=>K (.sc (.int .i64 0))
 | _,_=>False
def zqm (L:Option Lay) (n:Int) (K:C->Prop):Prop:=match L with | some ⟨.slice _,_,_,_⟩=>K (.sc (.int .i64 n)) | _=>False
def zqo (L:Option Lay) (n:Int) (K:C->Prop):Prop:=match L with | some ⟨.str,_,_,_⟩=>K (.sc (.int .i64 n)) | _=>False
def zps (L:Option Lay) (parts:List (Nat×C)) (K:C->Prop):Prop:=
 match L with
 | some ⟨.struct fs,_,_,some z⟩=>(parts.all fun p=>p.2.partB)=true/\match Yb (fun i=>(fs[i]?).map fun f=>(f.1,f.2.1)) (z.map zt) parts with
  | some cs=>K (.agg cs)
  | none=>False
 | _=>False
def aFl (cs:Option (List C)) (K:C->Prop):Prop:=match cs with | some cs=>K (.agg cs) | none=>False
def plS (fs:List (Nat×Nat×Bool)) (i:Nat):Option (Nat×Nat):=(fs[i]?).map fun f=>(f.1,f.2.1)
def plA (k:Nat) (i:Nat):Option (Nat×Nat):=some (i*k,k)
def ziV (pl:Option (Nat×Nat)) (place:Nat->Option (Nat×Nat)) (cs:List C) (c:List C) (rest:List (Nat×C)):Option (List C):=
 match pl with
  | none=>none
  | some (off,size)=>if c.length=size/\off+size<=cs.length then Yb place (cs.take off++c++cs.drop (off+size)) rest else none
def zq7 (P:Program) (L:Option Lay) (n:Nat) (parts:List (Nat×C)) (nx:Nat) (K:C->Nat->Prop):Prop:=
 match L with
 | some ⟨.slice e,_,_,_⟩=>match lay P e with
  | some ⟨_,k,_,some z⟩=>z.length=k/\0<k/\n*k<=16777216/\(parts.all fun p=>p.2.frz.partB)=true/\match Yb (fun i=>some (i*k,k)) (List.replicate n (z.map zt)).flatten (parts.map fun p=>(p.1,p.2.frz)) with
   | some cs=>(cs.all C.cellB)=true/\cs.length=n*k/\K (.own nx e k (XJ k n cs)) (nx+1)
   | none=>False
  | _=>False
 | _=>False
def zrt (L:Option Lay) (e:TypeId) (n:Nat) (parts:List (Nat×C)) (nx:Nat) (K:C->Nat->Prop):Prop:=
   match L with
    | some ⟨_,k,_,some z⟩=>z.length=k/\0<k/\n*k<=16777216/\(parts.all fun p=>p.2.frz.partB)=true/\match Yb (fun i=>some (i*k,k)) (List.replicate n (z.map zt)).flatten (parts.map fun p=>(p.1,p.2.frz)) with
      | some cs=>(cs.all C.cellB)=true/\cs.length=n*k/\K (.own nx e k (XJ k n cs)) (nx+1)
      | none=>False
    | _=>False
def zqO (cs:Option (List C)) (e k n nx:Nat) (K:C->Nat->Prop):Prop:=
 match cs with
   | some cs=>(cs.all C.cellB)=true/\cs.length=n*k/\K (.own nx e k (XJ k n cs)) (nx+1)
   | none=>False
def zrr (P:Program) (L:Option Lay) (s x:C) (nx:Nat) (K:C->Nat->Prop):Prop:=
 match L with
 | some ⟨.slice e,_,_,_⟩=>match lay P e with
  | some ⟨_,k,by',some z⟩=>match x.rows? k with
   | some xs=>match s with
    | .sc (.slice none 0 0)=>z.length=k/\0<k/\xs.length<=9223372036854775807/\xs.length*by'<=140737488355328/\K (.own nx e k xs) (nx+1)
    | .tight k' rows=>k'=k/\z.length=k/\0<k/\rows.length+xs.length<=9223372036854775807/\(rows.length+xs.length)*by'<=140737488355328/\(xs = []->K (.tight k' rows) nx)/\(xs≠[]->K (.own nx e k (rows++xs)) (nx+1))
    | _=>False
   | none=>False
  | _=>False
 | _=>False
def zrw (L:Option Lay) (e:TypeId) (s x:C) (nx:Nat) (K:C->Nat->Prop):Prop:=
  match L with
  | some ⟨_,k,by',some z⟩=>match x.rows? k with
   | some xs=>match s with
    | .sc (.slice none 0 0)=>z.length=k/\0<k/\xs.length<=9223372036854775807/\xs.length*by'<=140737488355328/\K (.own nx e k xs) (nx+1)
    | .tight k' rows=>k'=k/\z.length=k/\0<k/\rows.length+xs.length<=9223372036854775807/\(rows.length+xs.length)*by'<=140737488355328/\(xs = []->K (.tight k' rows) nx)/\(xs≠[]->K (.own nx e k (rows++xs)) (nx+1))
    | _=>False
   | none=>False
  | _=>False
def zrA (xs:Option (List (List C))) (s:C) (e k by':Nat) (z:List Value) (nx:Nat) (K:C->Nat->Prop):Prop:=
 match xs with
   | some xs=>match s with
    | .sc (.slice none 0 0)=>z.length=k/\0<k/\xs.length<=9223372036854775807/\xs.length*by'<=140737488355328/\K (.own nx e k xs) (nx+1)
    | .tight k' rows=>k'=k/\z.length=k/\0<k/\rows.length+xs.length<=9223372036854775807/\(rows.length+xs.length)*by'<=140737488355328/\(xs = []->K (.tight k' rows) nx)/\(xs≠[]->K (.own nx e k (rows++xs)) (nx+1))
    | _=>False
   | none=>False
def zrx (P:Program) (L:Option Lay) (id e k:Nat) (rows:List (List C)) (x:C) (σ:St) (K:C->St->Prop):Prop:=
   match L with
    | some ⟨.slice e',_,_,_⟩=>match lay P e with
      | some ⟨_,k',by',some z⟩=>match x.rows? k with
        | some xs=>e'=e/\k'=k/\z.length=k/\0<k/\rows.length+xs.length<=9223372036854775807/\(rows.length+xs.length)*by'<=140737488355328/\K (.own id e k (rows++xs)) ⟨zbg id σ.tm,Mp id σ.bx,σ.nx,σ.lg⟩
        | none=>False
      | _=>False
    | _=>False
def zpo (L:Option Lay) (e' id e k:Nat) (rows:List (List C)) (x:C) (σ:St) (K:C->St->Prop):Prop:=
  match L with
   | some ⟨_,k',by',some z⟩=>match x.rows? k with
    | some xs=>e'=e/\k'=k/\z.length=k/\0<k/\rows.length+xs.length<=9223372036854775807/\(rows.length+xs.length)*by'<=140737488355328/\K (.own id e k (rows++xs)) ⟨zbg id σ.tm,Mp id σ.bx,σ.nx,σ.lg⟩
    | none=>False
   | _=>False
def zqs (xs:Option (List (List C))) (by' id e k:Nat) (rows:List (List C)) (σ:St) (K:C->St->Prop):Prop:=
   match xs with
        | some xs=>rows.length+xs.length<=9223372036854775807/\(rows.length+xs.length)*by'<=140737488355328/\K (.own id e k (rows++xs)) ⟨zbg id σ.tm,Mp id σ.bx,σ.nx,σ.lg⟩
        | none=>False
def zrv (L:Option Lay) (σ:St) (K:C->St->Prop):Prop:=
 match L with
 | some ⟨_,_,_,some z⟩=>(z.all Value.oneCell')=true/\K (.ptr σ.bx.length 0) ⟨σ.tm,σ.bx++[z.map zt],σ.nx,σ.lg⟩
 | _=>False
def zrm (L:Option Lay) (p c:C) (bx:List (List C)) (K:C->Prop):Prop:=
 match L,p with
 | some L,.ptr i off=>match bx[i]? with
  | some cs=>c.partB=true/\(c.cells.all C.cellB)=true/\c.cells.length=L.size/\off+L.size<=cs.length/\ZW ((cs.drop off).take L.size) c.cells/\K .any
  | none=>False
 | _,_=>False
def zqL (cs:Option (List C)) (off size:Nat) (c:C) (K:C->Prop):Prop:=
 match cs with
  | some cs=>c.partB=true/\(c.cells.all C.cellB)=true/\c.cells.length=size/\off+size<=cs.length/\ZW ((cs.drop off).take size) c.cells/\K .any
  | none=>False
def zqT (L:Option Lay) (p c:C) (σ:St) (K:C->St->Prop):Prop:=
 match L,p with
 | some L,.ptr i off=>match σ.bx[i]? with
  | some cs=>c.partB=true/\(c.cells.all C.cellB)=true/\c.cells.length=L.size/\off+L.size<=cs.length/\K .any ⟨σ.tm,σ.bx.set i (cs.take off++c.cells++cs.drop (off+L.size)),σ.nx,σ.lg⟩
  | none=>False
 | _,_=>False
def zq2 (cs:Option (List C)) (i off size:Nat) (c:C) (σ:St) (K:C->St->Prop):Prop:=
 match cs with
  | some cs=>c.partB=true/\(c.cells.all C.cellB)=true/\c.cells.length=size/\off+size<=cs.length/\K .any ⟨σ.tm,σ.bx.set i (cs.take off++c.cells++cs.drop (off+size)),σ.nx,σ.lg⟩
  | none=>False
def zei (cs:Option (List C)) (off n:Nat) (K:C->Prop):Prop:=match cs with
   | some cs=>∃ l:List UInt8,l.length=n/\(cs.drop off).take n=l.map (fun b=>C.sc (.int .u8 (b.toNat:Int)))/\K (.str l)
   | none=>False
theorem zei.mk {cs:List C} {off n:Nat} {K:C->Prop} (l:List UInt8) (hl:l.length=n) (h:(cs.drop off).take n=l.map (fun b=>C.sc (.int .u8 (b.toNat:Int)))) (hK:K (.str l)):zei (some cs) off n K:=⟨l,hl,h,hK⟩
def zqQ (P:Program) (L:Option Lay) (n:Nat) (parts:List (Nat×C)) (σ:St) (K:C->St->Prop):Prop:=
 match L with
 | some ⟨.slice e,_,_,_⟩=>match lay P e with
  | some ⟨_,k,_,some z⟩=>z.length=k/\0<k/\n*k<=16777216/\(parts.all fun p=>p.2.frz.partB)=true/\match Yb (fun i=>some (i*k,k)) (List.replicate n (z.map zt)).flatten (parts.map fun p=>(p.1,p.2.frz)) with
   | some cs=>(cs.all C.cellB)=true/\cs.length=n*k/\K (.bs σ.bx.length 0 k n n) ⟨σ.tm,σ.bx++[cs],σ.nx,σ.lg⟩
   | none=>False
  | _=>False
 | _=>False
def zqW (L:Option Lay) (n:Nat) (parts:List (Nat×C)) (σ:St) (K:C->St->Prop):Prop:=
   match L with
    | some ⟨_,k,_,some z⟩=>z.length=k/\0<k/\n*k<=16777216/\(parts.all fun p=>p.2.frz.partB)=true/\match Yb (fun i=>some (i*k,k)) (List.replicate n (z.map zt)).flatten (parts.map fun p=>(p.1,p.2.frz)) with
      | some cs=>(cs.all C.cellB)=true/\cs.length=n*k/\K (.bs σ.bx.length 0 k n n) ⟨σ.tm,σ.bx++[cs],σ.nx,σ.lg⟩
      | none=>False
    | _=>False
def zrc (cs:Option (List C)) (k n:Nat) (σ:St) (K:C->St->Prop):Prop:=
 match cs with
   | some cs=>(cs.all C.cellB)=true/\cs.length=n*k/\K (.bs σ.bx.length 0 k n n) ⟨σ.tm,σ.bx++[cs],σ.nx,σ.lg⟩
   | none=>False
def zq6 (P:Program) (L:Option Lay) (p:Nat) (s x:C) (σ:St) (K:C->St->Prop):Prop:=
 match L with
 | some ⟨.slice e,_,_,_⟩=>match lay P e with
  | some ⟨_,k,by',some z⟩=>match x.xs? k σ.bx with
   | some (m,xs)=>z.length=k/\0<k/\(z.all Value.oneCell')=true/\0<m/\match s with
    | .sc (.slice none 0 0)=>m<=9223372036854775807/\m*by'<=140737488355328/\∀ c,m<=c->c<=maxLen->K (.bs σ.bx.length 0 k m c) ⟨σ.tm,σ.bx++[xs++List.replicate ((c-m)*k) .any],σ.nx,σ.lg⟩
    | .bs i 0 k' n c=>match σ.bx[i]? with
     | some cs=>k'=k/\p<=i/\cs.length=c*k/\n<=c/\c<=9223372036854775807/\n+m<=9223372036854775807/\(n+m)*by'<=140737488355328 /\
       ∀ c',n+m<=c'->c'<=maxLen->K (.bs i 0 k (n+m) c') ⟨U8 (Ji i) some σ.tm,QI i (C.reL (Ji i) some (cs.take (n*k)++xs)++List.replicate ((c'-(n+m))*k) .any) σ.bx,σ.nx,σ.lg⟩
     | none=>False
    | _=>False
   | none=>False
  | _=>False
 | _=>False
def zqX (L:Option Lay) (p:Nat) (s x:C) (σ:St) (K:C->St->Prop):Prop:=
  match L with
  | some ⟨_,k,by',some z⟩=>match x.xs? k σ.bx with
   | some (m,xs)=>z.length=k/\0<k/\(z.all Value.oneCell')=true/\0<m/\match s with
    | .sc (.slice none 0 0)=>m<=9223372036854775807/\m*by'<=140737488355328/\∀ c,m<=c->c<=maxLen->K (.bs σ.bx.length 0 k m c) ⟨σ.tm,σ.bx++[xs++List.replicate ((c-m)*k) .any],σ.nx,σ.lg⟩
    | .bs i 0 k' n c=>match σ.bx[i]? with
     | some cs=>k'=k/\p<=i/\cs.length=c*k/\n<=c/\c<=9223372036854775807/\n+m<=9223372036854775807/\(n+m)*by'<=140737488355328 /\
       ∀ c',n+m<=c'->c'<=maxLen->K (.bs i 0 k (n+m) c') ⟨U8 (Ji i) some σ.tm,QI i (C.reL (Ji i) some (cs.take (n*k)++xs)++List.replicate ((c'-(n+m))*k) .any) σ.bx,σ.nx,σ.lg⟩
     | none=>False
    | _=>False
   | none=>False
  | _=>False
def zq1 (X:Option (Nat×List C)) (p k by':Nat) (z:List Value) (s:C) (σ:St) (K:C->St->Prop):Prop:=
  match X with
   | some (m,xs)=>z.length=k/\0<k/\(z.all Value.oneCell')=true/\0<m/\match s with
    | .sc (.slice none 0 0)=>m<=9223372036854775807/\m*by'<=140737488355328/\∀ c,m<=c->c<=maxLen->K (.bs σ.bx.length 0 k m c) ⟨σ.tm,σ.bx++[xs++List.replicate ((c-m)*k) .any],σ.nx,σ.lg⟩
    | .bs i 0 k' n c=>match σ.bx[i]? with
     | some cs=>k'=k/\p<=i/\cs.length=c*k/\n<=c/\c<=9223372036854775807/\n+m<=9223372036854775807/\(n+m)*by'<=140737488355328 /\
       ∀ c',n+m<=c'->c'<=maxLen->K (.bs i 0 k (n+m) c') ⟨U8 (Ji i) some σ.tm,QI i (C.reL (Ji i) some (cs.take (n*k)++xs)++List.replicate ((c'-(n+m))*k) .any) σ.bx,σ.nx,σ.lg⟩
     | none=>False
    | _=>False
   | none=>False
def bsO (j:Option Nat) (off k n c:Nat):C:=match j with | some j=>.bs j off k n c | none=>.any
def xsB (k' k off n:Nat) (cs:Option (List C)):Option (Nat×List C):=if k'=k then cs.bind fun cs=>if off+n*k<=cs.length then some (n,(cs.drop off).take (n*k)) else none else none
def zo6 (j:Option Nat) (e k:Nat) (rows:List (List C)):C:=match j with | some j=>.own j e k rows | none=>.sl k rows
def zpD (cs:Option (List C)) (off:Nat):C:=match cs with | some cs=>.row ((C.frzL cs).drop off) | none=>.any
def zmj (j:Option Nat) (off:Nat):C:=match j with | some j=>.ptr j off | none=>.any
def zkQ (cs:Option (List C)) (p:Option Tmp) (σ:St) (K:St->Prop):Prop:=match cs,p with
  | some cs,some p=>K ⟨(p,.ptr σ.bx.length 0) :: σ.tm,σ.bx++[cs],σ.nx,σ.lg⟩
  | _,_=>False
def zq5 (M:Option (MKd×C)) (t:TypeId) (r:Option C) (nx:Nat) (K:C->Nat->Prop):Prop:=
 match M with
 | some (kd,_)=>match r with
  | none=>K (.mo nx t kd.nil []) (nx+1)
  | some (.sc (.int _ _))=>K (.mo nx t kd.nil []) (nx+1)
  | _=>False
 | none=>False
def zq8 (M:Option (MKd×C)) (t:TypeId) (m key:C) (ok:Bool) (K:C->Prop):Prop:=
 match M with
 | some (.int k,z)=>match m,key with
  | .mo _ t' (.int k' l) vs,.sc (.int q n)=>t'=t/\k'=k/\q=k/\UX (ziZ n l vs) z ok K
  | _,_=>False
 | some (.str,z)=>match m,key with
  | .mo _ t' (.str l) vs,.str s=>t'=t/\UX (ziZ s l vs) z ok K
  | _,_=>False
 | none=>False
def zrz (M:Option (MKd×C)) (t:TypeId) (m key x:C) (σ:St) (K:C->St->Prop):Prop:=
 match M with
 | some (.int k,_)=>match m,key with
  | .mo id t' (.int k' l) vs,.sc (.int q n)=>t'=t/\k'=k/\q=k/\HA id (.int k (UG n x.frz l vs).1) (UG n x.frz l vs).2 σ K
  | _,_=>False
 | some (.str,_)=>match m,key with
  | .mo id t' (.str l) vs,.str s=>t'=t/\HA id (.str (UG s x.frz l vs).1) (UG s x.frz l vs).2 σ K
  | _,_=>False
 | none=>False
def zqD (x:Option (List C)):C:=match x with | some cs=>.row cs | none=>.any
structure Tag.{u} {α:Sort u} (a:α):Type where
def zoj (M:Option (MKd×C)) (t:TypeId) (r:Option C) (nx:Nat) (K:C->Nat->Prop) (_:Tag K):Prop:=zq5 M t r nx K
def zmm (M:Option (MKd×C)) (t:TypeId) (m key:C) (ok:Bool) (K:C->Prop) (_:Tag K):Prop:=zq8 M t m key ok K
def zde (r:Option C) (z:C) (ok:Bool) (K:C->Prop) (_:Tag K):Prop:=UX r z ok K
def zou (M:Option (MKd×C)) (t:TypeId) (m key x:C) (σ:St) (K:C->St->Prop) (_:Tag K):Prop:=zrz M t m key x σ K
def zkG (sz i off k n cap:Nat) (lo hi mx:Option Int) (K:C->Prop) (_:Tag K):Prop:=zkL sz i off k n cap lo hi mx K
def xd (P:Program) (t:TypeId) (s x:C) (σ:St) (K:C->St->Prop) (_:Tag K):Prop:=JJ P t s x σ K
def vl (P:Program) (t tn:TypeId) (s x:C) (σ:St) (K:C->St->Prop) (_:Tag K):Prop:=kZ P t tn s x σ K
def zey (P:Program) (t:TypeId) (d x:C) (σ:St) (K:C->St->Prop) (_:Tag K):Prop:=ZX P t d x σ K
def znh (x y:C) (K:C->Prop) (_:Tag K):Prop:=zmU x y K
def zn6 (P:Program) (t:TypeId) (c:C) (K:C->Prop) (_:Tag K):Prop:=zmY P t c K
def zfq (L:Option Lay) (c:C) (K:C->Prop) (_:Tag K):Prop:=zp7 L c K
def xR (P:Program) (bx:List (List C)) (s d:TypeId) (c:C) (K:C->Prop) (_:Tag K):Prop:=yF P bx s d c K
def kr (P:Program) (t:TypeId) (n:Nat) (parts:List (Nat×C)) (σ:St) (K:C->St->Prop) (_:Tag K):Prop:=QP P t n parts σ K
def zm6 (P:Program) (L:Option Lay) (n:Nat) (parts:List (Nat×C)) (σ:St) (K:C->St->Prop) (_:Tag K):Prop:=zqQ P L n parts σ K
def znY (L:Option Lay) (n:Nat) (parts:List (Nat×C)) (σ:St) (K:C->St->Prop) (_:Tag K):Prop:=zqW L n parts σ K
def znH (cs:Option (List C)) (k n:Nat) (σ:St) (K:C->St->Prop) (_:Tag K):Prop:=zrc cs k n σ K
def vI (P:Program) (p:Nat) (t:TypeId) (s x:C) (σ:St) (K:C->St->Prop) (_:Tag K):Prop:=VB P p t s x σ K
def znr (P:Program) (L:Option Lay) (p:Nat) (s x:C) (σ:St) (K:C->St->Prop) (_:Tag K):Prop:=zq6 P L p s x σ K
def znZ (L:Option Lay) (p:Nat) (s x:C) (σ:St) (K:C->St->Prop) (_:Tag K):Prop:=zqX L p s x σ K
def zm7 (X:Option (Nat×List C)) (p k by':Nat) (z:List Value) (s:C) (σ:St) (K:C->St->Prop) (_:Tag K):Prop:=zq1 X p k by' z s σ K
def zjS (c:C) (X Y:Prop) (_:Tag X) (_:Tag Y):Prop:=ABr c X Y
def zhT (c:C) (U X Y:Prop) (_:Tag U) (_:Tag X) (_:Tag Y):Prop:=zi2 c U X Y
def Y7 (ops:Array Oper) (tm:List (Nat×C)) (g:Option (Nat×Bool)) (X Y:Prop) (_:Tag ops) (_:Tag X) (_:Tag Y):Prop:=qL ops tm g X Y
def zpG (d:Option Tmp) (tm:List (Nat×C)) (want:Bool) (X Y:Prop) (_:Tag X) (_:Tag Y):Prop:=aGd d tm want X Y
def Q9 (P:Program) (G:zk) (h:Hd) (c:Code) (Q:Exit->St->Prop) (σ:St) (_:Tag c) (_:Tag Q):Prop:=awp P G h c Q σ
def zdr (P:Program) (G:zk) (h:Hd) (ops:Array Oper) (l:List Oper) (σ:St) (K:St->Prop) (_:Tag h) (_:Tag ops) (_:Tag l) (_:Tag K):Prop:=zom P G h ops l σ K
def YM (P:Program) (G:zk) (h:Hd) (ops:Array Oper) (l:List Oper) (br:List Bool) (σ:St) (K:St->Prop) (_:Tag h) (_:Tag ops) (_:Tag l) (_:Tag K):Prop:=Qp P G h ops l br σ K
def Nz (P:Program) (G:zk) (h:Hd) (ops:Array Oper) (br:List Bool) (σ:St) (K:St->Prop) (_:Tag h) (_:Tag ops) (_:Tag K):Prop:=Ns P G h ops br σ K
def znx (P:Program) (G:zk) (Y:Hd) (ops:Array Oper) (rest:List (Nat×MFl)) (q:Nat) (H:List HQ) (fl:MFl) (oo:Option Oper) (σ:St) (K:St->Prop):Prop:=match oo with
 | none=>False
 | some o=>match fl with
  | .pure=>qL ops σ.tm o.guard (jO P G σ.bx (zp G σ.tm) o.op σ.nx fun c nx'=>mix P G Y ops rest (q+1) ((q,fun b=>jO P G b (zp G σ.tm) o.op σ.nx fun c' n'=>c'=c/\n'=nx') :: H) ⟨Ja σ.tm o.dst c,σ.bx,nx',σ.lg⟩ K)
    (mix P G Y ops rest (q+1) H ⟨Ja σ.tm o.dst (.sc undef),σ.bx,σ.nx,σ.lg⟩ K)
  | .bar=>qL ops σ.tm o.guard (Mr P G Y o.op σ fun c σ'=>mix P G Y ops rest (q+1) [] (σ'.put o.dst c) K) (mix P G Y ops rest (q+1) [] (σ.put o.dst (.sc undef)) K)
  | .flt fr=>o.guard=none/\zoM P G o.op σ fun c bx' nx'=>Xf fr bx' H/\mix P G Y ops rest (q+1) H ⟨Ja σ.tm o.dst c,bx',nx',σ.lg⟩ K
def zam (P:Program) (G:zk) (h:Hd) (ops:Array Oper) (all:List Oper) (L:List (Nat×MFl)) (q:Nat) (H:List HQ) (σ:St) (K:St->Prop) (_:Tag h) (_:Tag ops) (_:Tag all) (_:Tag H) (_:Tag K):Prop:=mix P G h ops L q H σ K
def ze8 (P:Program) (G:zk) (h:Hd) (ops:Array Oper) (all:List Oper) (L:List (Nat×MFl)) (q:Nat) (H:List HQ) (fl:MFl) (i:Nat) (l:List Oper) (σ:St) (K:St->Prop) (_:Tag h) (_:Tag ops) (_:Tag all) (_:Tag H) (_:Tag l) (_:Tag K):Prop:=znx P G h ops L q H fl (l[i]?) σ K
def zo8 (fr:List Nat) (b:List (List C)) (H:List HQ) (_:Tag H):Prop:=Xf fr b H
def YH (P:Program) (G:zk) (ops:Array Oper) (a s:Nat) (l:List Oper) (i:Nat) (cs:Option (List C)) (σ:St) (K:St->Prop) (_:Tag ops) (_:Tag l) (_:Tag K):Prop:=qO P G ops a s l i cs σ K
def zjl (cs:Option (List C)) (p:Option Tmp) (σ:St) (K:St->Prop) (_:Tag K):Prop:=zkQ cs p σ K
def zi7 (L:Option Lay) (K:Prop) (_:Tag K):Prop:=ziF L K
def zja (L:Option Lay) (c:C) (K:C->Prop) (_:Tag K):Prop:=ziS L c K
def ji (P:Program) (G:zk) (h:Hd) (op:Op) (σ:St) (K:C->St->Prop) (_:Tag h) (_:Tag op) (_:Tag K):Prop:=Mr P G h op σ K
def QW (P:Program) (G:zk) (f:FuncId) (args fargs:List C) (σ:St) (K:C->St->Prop) (_:Tag K):Prop:=zoJ P G f args fargs σ K
def xG (P:Program) (G:zk) (h:Hd) (c:C) (args:List C) (σ:St) (K:C->St->Prop) (_:Tag h) (_:Tag K):Prop:=GN P G h c args σ K
def yK (y:Yd) (it:Option (List C)) (args:List C) (σ:St) (K:C->St->Prop) (_:Tag y) (_:Tag K):Prop:=H1 y it args σ K
def zeY (P:Program) (G:zk) (p:Nat) (A B:Nat->(Exit->St->Prop)->St->Prop) (Q:Exit->St->Prop) (ps:List Tmp) (c:C) (σ:St) (_:Tag A) (_:Tag B) (_:Tag Q):Prop:=yL P G p A B Q ps c σ
def qI (P:Program) (G:zk) (bx:List (List C)) (ev:Operand->C) (op:Op) (nx:Nat) (K:C->Nat->Prop) (_:Tag ev) (_:Tag op) (_:Tag K):Prop:=jO P G bx ev op nx K
def zbk (P:Program) (σ:St) (rs:List ResultVar) (K:C->Prop) (_:Tag K):Prop:=zmb P σ rs K
def JO (P:Program) (σ:St) (rv:ResultVar) (K:C->Prop) (_:Tag K):Prop:=Jb P σ rv K
def xk (P:Program) (t:TypeId) (op:BinOp) (x y:C) (K:C->Prop) (_:Tag K):Prop:=zme P t op x y K
def UD (op:BinOp) (k:IntKind) (a b:Int) (K:C->Prop) (_:Tag K):Prop:=zo7 op k a b K
def vJ (l:Option Lay) (op:BinOp) (x:C) (K:C->Prop) (_:Tag K):Prop:=zl2 l op x K
def zeT (op:BinOp) (b:Bool) (K:C->Prop) (_:Tag K):Prop:=Gd op b K
def zaj (op:BinOp) (a b:List UInt8) (K:C->Prop) (_:Tag K):Prop:=zpT op a b K
def znT (op:BinOp) (ks:Option (List LK)) (xs ys:List C) (K:C->Prop) (_:Tag K):Prop:=zqg op ks xs ys K
def zjd (n:Bool) (ks:List LK) (xs ys:List C) (e:Bool) (K:C->Prop) (_:Tag K):Prop:=aEq n ks xs ys e K
def zpI (op:UnOp) (x:C) (K:C->Prop) (_:Tag K):Prop:=aUn op x K
def yA (P:Program) (t:TypeId) (c:C) (bx:List (List C)) (K:C->Prop) (_:Tag K):Prop:=ye P t c bx K
def xC (L:Option Lay) (c:C) (bx:List (List C)) (K:C->Prop) (_:Tag K):Prop:=zni L c bx K
def zdI (cs:Option (List C)) (off:Nat) (L:Lay) (K:C->Prop) (_:Tag K):Prop:=zn8 cs off L K
def ZM (L:Lay) (cs:List C) (K:C->Prop) (_:Tag K):Prop:=Jw L cs K
def zjE (x:Option C) (K:C->Prop) (_:Tag K):Prop:=zqh x K
def V3 (c:C) (i:Nat) (K:C->Prop) (_:Tag K):Prop:=Z2 c i K
def zj7 (c:C) (K:C->Prop) (_:Tag K):Prop:=zo4 c K
def xX (P:Program) (t:TypeId) (c:C) (f:Nat) (K:C->Prop) (_:Tag K):Prop:=vy P t c f K
def y9 (L:Option Lay) (c:C) (f:Nat) (K:C->Prop) (_:Tag K):Prop:=yp L c f K
def y4 (f:Option (Nat×Nat×Bool)) (cs:List C) (K:C->Prop) (_:Tag K):Prop:=VU f cs K
def XU (P:Program) (t:TypeId) (c:C) (f:Nat) (K:C->Prop) (_:Tag K):Prop:=Xz P t c f K
def znp (L:Option Lay) (c:C) (f:Nat) (K:C->Prop) (_:Tag K):Prop:=zrg L c f K
def zkU (f:Option (Nat×Nat×Bool)) (c:C) (K:C->Prop) (_:Tag K):Prop:=zoW f c K
def XS (P:Program) (t:TypeId) (c:C) (i:C) (K:C->Prop) (_:Tag K):Prop:=Xw P t c i K
def zly (P:Program) (L:Option Lay) (c:C) (i:C) (K:C->Prop) (_:Tag K):Prop:=zro P L c i K
def zfR (L:Option Lay) (c:C) (n:Int) (K:C->Prop) (_:Tag K):Prop:=zrp L c n K
def zlH (rows:Option (List (List C))) (n:Int) (K:C->Prop) (_:Tag K):Prop:=zqN rows n K
def zqz (r:Option (List C)) (n:Int) (K:C->Prop) (_:Tag K):Prop:=aAt r n K
def zms (L:Option Lay) (c:C) (m:Nat) (n:Int) (K:C->Prop) (_:Tag K):Prop:=zrb L c m n K
def My (P:Program) (t:TypeId) (c i:C) (K:C->Prop) (_:Tag K):Prop:=yC P t c i K
def znA (L:Option Lay) (c i:C) (K:C->Prop) (_:Tag K):Prop:=zp9 L c i K
def zjc (b:Option UInt8) (n:Int) (K:C->Prop) (_:Tag K):Prop:=zkD b n K
def M7 (P:Program) (t:TypeId) (c:C) (lo hi mx:Option C) (K:C->Prop) (_:Tag K):Prop:=yV P t c lo hi mx K
def zop (P:Program) (t:TypeId) (c:C) (lo hi mx:Option (Option Int)) (K:C->Prop) (_:Tag K):Prop:=zry P t c lo hi mx K
def zkr (P:Program) (L:Option Lay) (c:C) (lo hi mx:Option Int) (K:C->Prop) (_:Tag K):Prop:=zqJ P L c lo hi mx K
def zhu (L:Option Lay) (c:C) (lo hi mx:Option Int) (K:C->Prop) (_:Tag K):Prop:=zq3 L c lo hi mx K
def zok (k:Nat) (lo hi mx:Option Int) (K:C->Prop) (_:Tag K):Prop:=zmX k lo hi mx K
def zjY (rows:Option (List (List C))) (k:Nat) (lo hi mx:Option Int) (K:C->Prop) (_:Tag K):Prop:=zri rows k lo hi mx K
def zlw (rows:Option (List (List C))) (K:C->Prop) (_:Tag K):Prop:=zew rows K
def zeD (P:Program) (s d:TypeId) (c:C) (K:C->Prop) (_:Tag K):Prop:=ziO P s d c K
def zh4 (P:Program) (D S:Option Lay) (c:C) (K:C->Prop) (_:Tag K):Prop:=zqU P D S c K
def zoD (L:Option Lay) (c:C) (K:C->Prop) (_:Tag K):Prop:=zrd L c K
def xW (P:Program) (t:TypeId) (c:C) (K:C->Prop) (_:Tag K):Prop:=zoB P t c K
def Gk (L:Option Lay) (n:Int) (K:C->Prop) (_:Tag K):Prop:=zqm L n K
def ziW (L:Option Lay) (n:Int) (K:C->Prop) (_:Tag K):Prop:=zqo L n K
def yv (P:Program) (t:TypeId) (parts:List (Nat×C)) (K:C->Prop) (_:Tag K):Prop:=vh P t parts K
def zmW (L:Option Lay) (parts:List (Nat×C)) (K:C->Prop) (_:Tag K):Prop:=zps L parts K
def zqE (cs:Option (List C)) (K:C->Prop) (_:Tag K):Prop:=aFl cs K
def Xr (P:Program) (t:TypeId) (n:Nat) (parts:List (Nat×C)) (nx:Nat) (K:C->Nat->Prop) (_:Tag K):Prop:=Jt P t n parts nx K
def ve (P:Program) (t:TypeId) (n:Nat) (parts:List (Nat×C)) (nx:Nat) (K:C->Nat->Prop) (_:Tag K):Prop:=kQ P t n parts nx K
def znm (P:Program) (L:Option Lay) (n:Nat) (parts:List (Nat×C)) (nx:Nat) (K:C->Nat->Prop) (_:Tag K):Prop:=zq7 P L n parts nx K
def zmS (L:Option Lay) (e:TypeId) (n:Nat) (parts:List (Nat×C)) (nx:Nat) (K:C->Nat->Prop) (_:Tag K):Prop:=zrt L e n parts nx K
def znv (cs:Option (List C)) (e k n nx:Nat) (K:C->Nat->Prop) (_:Tag K):Prop:=zqO cs e k n nx K
def Hb (P:Program) (t:TypeId) (s x:C) (σ:St) (K:C->St->Prop) (_:Tag K):Prop:=HB P t s x σ K
def H4 (P:Program) (t:TypeId) (s x:C) (nx:Nat) (K:C->Nat->Prop) (_:Tag K):Prop:=Za P t s x nx K
def zm2 (P:Program) (L:Option Lay) (s x:C) (nx:Nat) (K:C->Nat->Prop) (_:Tag K):Prop:=zrr P L s x nx K
def zn7 (L:Option Lay) (e:TypeId) (s x:C) (nx:Nat) (K:C->Nat->Prop) (_:Tag K):Prop:=zrw L e s x nx K
def zjU (xs:Option (List (List C))) (s:C) (e k by':Nat) (z:List Value) (nx:Nat) (K:C->Nat->Prop) (_:Tag K):Prop:=zrA xs s e k by' z nx K
def zoK (P:Program) (L:Option Lay) (id e k:Nat) (rows:List (List C)) (x:C) (σ:St) (K:C->St->Prop) (_:Tag K):Prop:=zrx P L id e k rows x σ K
def znG (L:Option Lay) (e' id e k:Nat) (rows:List (List C)) (x:C) (σ:St) (K:C->St->Prop) (_:Tag K):Prop:=zpo L e' id e k rows x σ K
def zmz (xs:Option (List (List C))) (by' id e k:Nat) (rows:List (List C)) (σ:St) (K:C->St->Prop) (_:Tag K):Prop:=zqs xs by' id e k rows σ K
def ze0 (P:Program) (G:zk) (callee:C) (args:List C) (nx:Nat) (K:C->Nat->Prop) (_:Tag K):Prop:=NO P G callee args nx K
def M5 (P:Program) (G:zk) (f:FuncId) (args:List C) (nx:Nat) (K:C->Nat->Prop) (_:Tag K):Prop:=yD P G f args nx K
def zmk (c:C) (σ:St) (K:C->St->Prop) (_:Tag K):Prop:=zqn c σ K
def zn2 (L:Option Lay) (σ:St) (K:C->St->Prop) (_:Tag K):Prop:=zrv L σ K
def znD (L:Option Lay) (p c:C) (σ:St) (K:C->St->Prop) (_:Tag K):Prop:=zqT L p c σ K
def zoc (L:Option Lay) (p c:C) (bx:List (List C)) (K:C->Prop) (_:Tag K):Prop:=zrm L p c bx K
def zoh (cs:Option (List C)) (off size:Nat) (c:C) (K:C->Prop) (_:Tag K):Prop:=zqL cs off size c K
def znb (cs:Option (List C)) (i off size:Nat) (c:C) (σ:St) (K:C->St->Prop) (_:Tag K):Prop:=zq2 cs i off size c σ K
def zdf (p:Nat) (B:(Exit->St->Prop)->St->Prop) (Q:Exit->St->Prop) (σ:St) (_:Tag B) (_:Tag Q):Prop:=zhg p B Q σ
def vd (next:St->Prop) (Q:Exit->St->Prop) (_:Tag next) (_:Tag Q):Exit->St->Prop:=znU next Q
def Ua (id:Nat) (Q:Exit->St->Prop) (_:Tag Q):Exit->St->Prop:=NW id Q
def Gf (Q:Exit->St->Prop) (_:Tag Q):Exit->St->Prop:=zdE Q
def yz (next:St->Prop) (Q:Exit->St->Prop) (_:Tag next) (_:Tag Q):Exit->St->Prop:=zjT next Q
def zi6 (K:St->Prop) (_:Tag K):Exit->St->Prop:=zlZ K
def xj (m:Nat) (tm:List (Nat×C)) (st:Bool) (next:St) (Q:Exit->St->Prop) (_:Tag next) (_:Tag Q):Exit->St->Prop:=zb3 m tm st next Q
def Ne (P:Program) (rs:List ResultVar) (K:C->St->Prop) (_:Tag K):Exit->St->Prop:=zjn P rs K
theorem zoo:Q9 P G h .skip Q σ ⟨⟩ ⟨⟩=Q .normal σ:=(rfl)
theorem zl7 {l:Nat}:Q9 P G h (.label l) Q σ ⟨⟩ ⟨⟩=Q .normal σ:=(rfl)
theorem zo1 {id:Nat}:Q9 P G h (.exit id) Q σ ⟨⟩ ⟨⟩=Q (.exit id) σ:=(rfl)
theorem zpZ:Q9 P G h .ret Q σ ⟨⟩ ⟨⟩=Q .ret σ:=(rfl)
theorem zqf {a b:Code}:Q9 P G h (.seq a b) Q σ ⟨⟩ ⟨⟩=Q9 P G h a (vd (fun σ=>Q9 P G h b Q σ ⟨⟩ ⟨⟩) Q ⟨⟩ ⟨⟩) σ ⟨⟩ ⟨⟩:=(rfl)
theorem znF {cc:Operand} {a b:Code}:Q9 P G h (.cond cc a b) Q ⟨tm,bx,nx,lg⟩ ⟨⟩ ⟨⟩=zjS (zp G tm cc) (Q9 P G h a Q ⟨tm,bx,nx,lg⟩ ⟨⟩ ⟨⟩) (Q9 P G h b Q ⟨tm,bx,nx,lg⟩ ⟨⟩ ⟨⟩) ⟨⟩ ⟨⟩:=(rfl)
theorem zlK {id:Nat} {a:Code}:Q9 P G h (.block id a) Q σ ⟨⟩ ⟨⟩=Q9 P G h a (Ua id Q ⟨⟩) σ ⟨⟩ ⟨⟩:=(rfl)
theorem znE {a:Code}:Q9 P G ⟨p,yd,bf⟩ (.loop a) Q σ ⟨⟩ ⟨⟩=zdf p (fun Q σ=>Q9 P G ⟨p,yd,bf⟩ a Q σ ⟨⟩ ⟨⟩) Q σ ⟨⟩ ⟨⟩:=(rfl)
theorem zis {a b:Code} {x:Operand} {ps:List Tmp}:Q9 P G ⟨p,yd,bf⟩ (.rangeFunc x ps.toArray a b) Q ⟨tm,bx,nx,lg⟩ ⟨⟩ ⟨⟩=zeY P G p (fun m=>fun Q σ=>Q9 P G ⟨m,yd,bf⟩ a Q σ ⟨⟩ ⟨⟩) (fun m=>fun Q σ=>Q9 P G ⟨m,yd,bf⟩ b Q σ ⟨⟩ ⟨⟩) Q ps (zp G tm x) ⟨tm,bx,nx,lg⟩ ⟨⟩ ⟨⟩ ⟨⟩:=(rfl)
theorem zko {a:Code}:Q9 P G h (.scope a) Q σ ⟨⟩ ⟨⟩=Q9 P G h a (Gf Q ⟨⟩) σ ⟨⟩ ⟨⟩:=(rfl)
theorem zhd {id:Nat} {l:List Oper}:Q9 P G ⟨p,yd,bf⟩ (.region id l.toArray false) Q σ ⟨⟩ ⟨⟩=zdr P G ⟨p,yd,bf⟩ l.toArray l σ (Q .normal) ⟨⟩ ⟨⟩ ⟨⟩ ⟨⟩:=(rfl)
theorem zb0 {id:Nat} {l:List Oper}:Q9 P G ⟨p,yd,bf⟩ (.region id l.toArray true) Q σ ⟨⟩ ⟨⟩=Nz P G ⟨p,yd,bf⟩ l.toArray (bf id) σ (Q .normal) ⟨⟩ ⟨⟩ ⟨⟩:=(rfl)
theorem zir {KS:St->Prop} {l:List Oper}:Nz P G h l.toArray [] σ KS ⟨⟩ ⟨⟩ ⟨⟩=YM P G h l.toArray l [] σ KS ⟨⟩ ⟨⟩ ⟨⟩ ⟨⟩:=(rfl)
theorem ziP {KS:St->Prop} {l:List Oper} {r:List Bool}:Nz P G h l.toArray (false :: r) σ KS ⟨⟩ ⟨⟩ ⟨⟩=YM P G h l.toArray l (false :: r) σ KS ⟨⟩ ⟨⟩ ⟨⟩ ⟨⟩:=(rfl)
theorem zha {KS:St->Prop} {l:List Oper} {L:List (Nat×MFl)}:Nz P G h l.toArray (zjh L) σ KS ⟨⟩ ⟨⟩ ⟨⟩=zam P G h l.toArray l L 0 [] σ KS ⟨⟩ ⟨⟩ ⟨⟩ ⟨⟩ ⟨⟩:=(show Ns P G h l.toArray (zjh L) σ KS=mix P G h l.toArray L 0 [] σ KS from by
 unfold Ns zjh
 rw[show kp (zeR 199 (unR (zbm L)))=none from rfl,UB]
 simp only[zbf])
theorem znJ {KS:St->Prop} {all:List Oper} {q:Nat} {H:List HQ}:zam P G h ops all [] q H σ KS ⟨⟩ ⟨⟩ ⟨⟩ ⟨⟩ ⟨⟩=KS σ:=(rfl)
theorem zn1 {KS:St->Prop} {all:List Oper} {i q:Nat} {fl:MFl} {L:List (Nat×MFl)} {H:List HQ}:zam P G h all.toArray all ((i,fl) :: L) q H σ KS ⟨⟩ ⟨⟩ ⟨⟩ ⟨⟩ ⟨⟩=ze8 P G h all.toArray all L q H fl i all σ KS ⟨⟩ ⟨⟩ ⟨⟩ ⟨⟩ ⟨⟩ ⟨⟩:=(show mix P G h all.toArray ((i,fl) :: L) q H σ KS=znx P G h all.toArray L q H fl (all[i]?) σ KS from rfl)
theorem zns {KS:St->Prop} {o:Oper} {all l:List Oper} {i q:Nat} {fl:MFl} {L:List (Nat×MFl)} {H:List HQ}:ze8 P G h ops all L q H fl (i+1) (o :: l) σ KS ⟨⟩ ⟨⟩ ⟨⟩ ⟨⟩ ⟨⟩ ⟨⟩=ze8 P G h ops all L q H fl i l σ KS ⟨⟩ ⟨⟩ ⟨⟩ ⟨⟩ ⟨⟩ ⟨⟩:=(show znx P G h ops L q H fl ((o :: l)[i+1]?) σ KS=znx P G h ops L q H fl (l[i]?) σ KS from rfl)
theorem znj {KS:St->Prop} {all rest:List Oper} {q:Nat} {L:List (Nat×MFl)} {H:List HQ} {dst:Option Tmp} {op:Op} {ty:TypeId} {pos:String} {af:Array Edge} {g:Option (Nat×Bool)}:ze8 P G h ops all L q H .pure 0 (⟨dst,op,ty,pos,af,g⟩ :: rest) ⟨tm,bx,nx,lg⟩ KS ⟨⟩ ⟨⟩ ⟨⟩ ⟨⟩ ⟨⟩ ⟨⟩ =
  Y7 ops tm g (qI P G bx (zp G tm) op nx (fun c nx'=>zam P G h ops all L (q+1) ((q,fun b=>qI P G b (zp G tm) op nx (fun c' n'=>c'=c/\n'=nx') ⟨⟩ ⟨⟩ ⟨⟩) :: H) ⟨Ja tm dst c,bx,nx',lg⟩ KS ⟨⟩ ⟨⟩ ⟨⟩ ⟨⟩ ⟨⟩) ⟨⟩ ⟨⟩ ⟨⟩) (zam P G h ops all L (q+1) H ⟨Ja tm dst (.sc undef),bx,nx,lg⟩ KS ⟨⟩ ⟨⟩ ⟨⟩ ⟨⟩ ⟨⟩) ⟨⟩ ⟨⟩ ⟨⟩:=
 (show znx P G h ops L q H .pure (some ⟨dst,op,ty,pos,af,g⟩) ⟨tm,bx,nx,lg⟩ KS=_ from rfl)
theorem zlr {KS:St->Prop} {all rest:List Oper} {q:Nat} {L:List (Nat×MFl)} {H:List HQ} {fr:List Nat} {dst:Option Tmp} {ty:TypeId} {pos:String} {af:Array Edge}:ze8 P G h ops all L q H (.flt fr) 0 (⟨dst,.store t x y,ty,pos,af,none⟩ :: rest) ⟨tm,bx,nx,lg⟩ KS ⟨⟩ ⟨⟩ ⟨⟩ ⟨⟩ ⟨⟩ ⟨⟩ =
  ji P G h (.store t x y) ⟨tm,bx,nx,lg⟩ (fun c σ'=>zo8 fr σ'.bx H ⟨⟩/\zam P G h ops all L (q+1) H ⟨Ja tm dst c,σ'.bx,σ'.nx,lg⟩ KS ⟨⟩ ⟨⟩ ⟨⟩ ⟨⟩ ⟨⟩) ⟨⟩ ⟨⟩ ⟨⟩:=
 (show ((none:Option (Nat×Bool))=none/\Qz P t (zp G tm x) (zp G tm y) ⟨tm,bx,nx,lg⟩ fun c σ'=>Xf fr σ'.bx H/\mix P G h ops L (q+1) H ⟨Ja tm dst c,σ'.bx,σ'.nx,lg⟩ KS)=_ from propext ⟨fun h=>h.2,fun h=>⟨rfl,h⟩⟩)
theorem zli {p:Prop} [Decidable p]:(if p then True else True)=True:=ite_self _
theorem zmB {fr:List Nat} {b:List (List C)}:zo8 fr b [] ⟨⟩=True:=(rfl)
theorem znI {fr:List Nat} {b:List (List C)} {k:Nat} {f:List (List C)->Prop} {r:List HQ}:zo8 fr b ((k,f) :: r) ⟨⟩=((if k∈fr then f b else True)/\zo8 fr b r ⟨⟩):=(show ((match fr.contains k with | true=>f b | false=>True)/\Xf fr b r)=((if k∈fr then f b else True)/\Xf fr b r) from by
 cases hq:fr.contains k with
 | true=>rw[if_pos (by simpa using hq)]
 | false=>rw[if_neg fun h=>by simp[h]at hq])
theorem zgU {KS:St->Prop} {l:List Oper} {a s:Nat}:Nz P G h l.toArray (YU a s) σ KS ⟨⟩ ⟨⟩ ⟨⟩=YH P G l.toArray a s l 0 none σ KS ⟨⟩ ⟨⟩ ⟨⟩:=(show Ns P G h l.toArray (YU a s) σ KS=qO P G l.toArray a s l 0 none σ KS from by unfold Ns;rw[Gr])
theorem zfy {KS:St->Prop} {a s i:Nat} {cs:Option (List C)} {l:List Oper}:YH P G l.toArray a s [] i cs σ KS ⟨⟩ ⟨⟩ ⟨⟩=zjl cs ((l[a]?).bind (·.dst)) σ KS ⟨⟩:=(show qO P G l.toArray a s [] i cs σ KS=zkQ cs ((l[a]?).bind (·.dst)) σ KS from by simp only[qO,zkQ,List.getElem?_toArray];rfl)
theorem zef {KS:St->Prop} {a s:Nat} {cs:Option (List C)} {dst:Option Tmp} {ty:TypeId} {pos:String} {af:Array Edge} {g:Option (Nat×Bool)} {rest:List Oper}:YH P G ops a s (⟨dst,.alloc t,ty,pos,af,g⟩ :: rest) a cs ⟨tm,bx,nx,lg⟩ KS ⟨⟩ ⟨⟩ ⟨⟩=zi7 (lay P t) (YH P G ops a s rest (a+1) cs ⟨Ja tm dst .any,bx,nx,lg⟩ KS ⟨⟩ ⟨⟩ ⟨⟩) ⟨⟩:=(show qO P G ops a s (⟨dst,.alloc t,ty,pos,af,g⟩ :: rest) a cs ⟨tm,bx,nx,lg⟩ KS=ziF (lay P t) (qO P G ops a s rest (a+1) cs ⟨Ja tm dst .any,bx,nx,lg⟩ KS) from by simp only[qO,if_true])
theorem zdO {KS:St->Prop} {a s:Nat} {cs:Option (List C)} {dst:Option Tmp} {ty:TypeId} {pos:String} {af:Array Edge} {g:Option (Nat×Bool)} {rest:List Oper} (hsa:(s==a)=false):YH P G ops a s (⟨dst,.store t y x,ty,pos,af,g⟩ :: rest) s cs ⟨tm,bx,nx,lg⟩ KS ⟨⟩ ⟨⟩ ⟨⟩=zja (lay P t) (zp G tm x) (fun c=>YH P G ops a s rest (s+1) (some c.cells) ⟨Ja tm dst .any,bx,nx,lg⟩ KS ⟨⟩ ⟨⟩ ⟨⟩) ⟨⟩:=(show qO P G ops a s (⟨dst,.store t y x,ty,pos,af,g⟩ :: rest) s cs ⟨tm,bx,nx,lg⟩ KS=ziS (lay P t) (zp G tm x) fun c=>qO P G ops a s rest (s+1) (some c.cells) ⟨Ja tm dst .any,bx,nx,lg⟩ KS from by simp only[beq_eq_false_iff_ne]at hsa;simp only[qO,if_neg hsa,if_true])
theorem zhf {KS:St->Prop} {a s i:Nat} {cs:Option (List C)} {dst:Option Tmp} {ty:TypeId} {pos:String} {af:Array Edge} {g:Option (Nat×Bool)} {rest:List Oper} {op:Op} (hia:(i==a)=false) (his:(i==s)=false):YH P G ops a s (⟨dst,op,ty,pos,af,g⟩ :: rest) i cs ⟨tm,bx,nx,lg⟩ KS ⟨⟩ ⟨⟩ ⟨⟩=Y7 ops tm g (qI P G bx (zp G tm) op nx (fun c nx'=>YH P G ops a s rest (i+1) cs ⟨Ja tm dst c,bx,nx',lg⟩ KS ⟨⟩ ⟨⟩ ⟨⟩) ⟨⟩ ⟨⟩ ⟨⟩) (YH P G ops a s rest (i+1) cs ⟨Ja tm dst (.sc undef),bx,nx,lg⟩ KS ⟨⟩ ⟨⟩ ⟨⟩) ⟨⟩ ⟨⟩ ⟨⟩:=(show qO P G ops a s (⟨dst,op,ty,pos,af,g⟩ :: rest) i cs ⟨tm,bx,nx,lg⟩ KS=qL ops tm g (jO P G bx (zp G tm) op nx fun c nx'=>qO P G ops a s rest (i+1) cs ⟨Ja tm dst c,bx,nx',lg⟩ KS) (qO P G ops a s rest (i+1) cs ⟨Ja tm dst (.sc undef),bx,nx,lg⟩ KS) from by simp only[beq_eq_false_iff_ne]at hia his;simp only[qO,if_neg hia,if_neg his])
theorem znt {KS:St->Prop} {cs:List C} {u:Tmp}:zjl (some cs) (some u) ⟨tm,bx,nx,lg⟩ KS ⟨⟩=KS ⟨(u,.ptr bx.length 0) :: tm,bx++[cs],nx,lg⟩:=(rfl)
theorem zoP {kd:LK} {k b1:Nat} {z1:List Value}:zi7 (some ⟨kd,k,b1,some z1⟩) X ⟨⟩=(z1.length=k/\(z1.all Value.oneCell')=true/\X):=(rfl)
theorem zm0 {L:Lay}:zja (some L) c K ⟨⟩=(c.partB=true/\(c.cells.all C.cellB)=true/\c.cells.length=L.size/\K c):=(rfl)
theorem zmo {KS:St->Prop}:zi6 KS ⟨⟩ .normal σ=KS σ:=(rfl)
theorem zd2 {next:St} {b:Bool}:xj m tm b next Q ⟨⟩ ⟨⟩ .normal σ=(b=false/\j9 m ⟨[],σ.bx,σ.nx,σ.lg⟩ (next.wt [])):=(rfl)
theorem xM {next:St} {b:Bool}:xj m tm b next Q ⟨⟩ ⟨⟩ .ret σ=(b=true/\∃ σ':St,σ'.bx.length=m/\j9 m ⟨[],σ.bx,σ.nx,σ.lg⟩ (σ'.wt [])/\Q .ret (σ'.wt tm)):=(rfl)
theorem zqM {tm2:List (Nat×C)}:St.wt ⟨tm,bx,nx,lg⟩ tm2=⟨tm2,bx,nx,lg⟩:=(rfl)
theorem zgz {cs:List C}:Ze [] cs tm=tm:=(rfl)
theorem zkZ {u:Nat} {ps:List Tmp} {cs:List C}:Ze (u :: ps) (c :: cs) tm=Ze ps cs ((u,c) :: tm):=(rfl)
theorem zk1:Ux m [] = []:=(rfl)
theorem zml {u:Nat} {r:List (Nat×C)}:Ux m ((u,c) :: r)=(u,c.sel (kz m)) :: Ux m r:=(rfl)
theorem zon {next:St->Prop}:vd next Q ⟨⟩ ⟨⟩ .normal σ=next σ:=(rfl)
theorem xY {next:St->Prop} {id:Nat}:vd next Q ⟨⟩ ⟨⟩ (.exit id) σ=Q (.exit id) σ:=(rfl)
theorem ud {next:St->Prop}:vd next Q ⟨⟩ ⟨⟩ .ret σ=Q .ret σ:=(rfl)
theorem zbs {id:Nat}:Ua id Q ⟨⟩ .normal σ=Q .normal σ:=(rfl)
theorem NS {id:Nat}:Ua id Q ⟨⟩ (.exit id) σ=Q .normal σ:=(show NW id Q (.exit id) σ=Q .normal σ from if_pos rfl)
theorem Nh {id id2:Nat} (h:(id2==id)=false):Ua id Q ⟨⟩ (.exit id2) σ=Q (.exit id2) σ:=(show NW id Q (.exit id2) σ=Q (.exit id2) σ from if_neg (by simpa using h))
theorem xZ {id:Nat}:Ua id Q ⟨⟩ .ret σ=Q .ret σ:=(rfl)
theorem zbi:Gf Q ⟨⟩ .normal σ=Q .normal σ:=(rfl)
theorem Nm:Gf Q ⟨⟩ .ret σ=Q .ret σ:=(rfl)
theorem zgH {next:St->Prop}:yz next Q ⟨⟩ ⟨⟩ .normal σ=next σ:=(rfl)
theorem xm {next:St->Prop} {id:Nat}:yz next Q ⟨⟩ ⟨⟩ (.exit id) σ=Q (.exit id) σ:=(rfl)
theorem zai {next:St->Prop}:yz next Q ⟨⟩ ⟨⟩ .ret σ=Q .ret σ:=(rfl)
theorem zlN {rs:List ResultVar}:Ne P rs K3 ⟨⟩ .normal σ=zbk P σ rs (fun c=>K3 c σ) ⟨⟩:=(rfl)
theorem zkN {rs:List ResultVar}:Ne P rs K3 ⟨⟩ .ret σ=zbk P σ rs (fun c=>K3 c σ) ⟨⟩:=(rfl)
theorem zoO:zbk P σ [] K ⟨⟩=K (.tup []):=(rfl)
theorem znQ {a:ResultVar}:zbk P σ [a] K ⟨⟩=JO P σ a K ⟨⟩:=(rfl)
theorem zmr {a b:ResultVar}:zbk P σ [a,b] K ⟨⟩=JO P σ a (fun c=>JO P σ b (fun d=>K (.tup [c,d])) ⟨⟩) ⟨⟩:=(rfl)
theorem zmE {a b c1:ResultVar}:zbk P σ [a,b,c1] K ⟨⟩=JO P σ a (fun c=>JO P σ b (fun d=>JO P σ c1 (fun e=>K (.tup [c,d,e])) ⟨⟩) ⟨⟩) ⟨⟩:=(rfl)
theorem znP {u:Nat}:JO P ⟨tm,bx,nx,lg⟩ (.tmp u) K ⟨⟩=K (q9 tm u):=(rfl)
theorem zoS {u:Nat}:JO P ⟨tm,bx,nx,lg⟩ (.cell u t) K ⟨⟩=yA P t (q9 tm u) bx K ⟨⟩:=(rfl)
theorem zjH {KS:St->Prop}:zdr P G h ops [] σ KS ⟨⟩ ⟨⟩ ⟨⟩ ⟨⟩=KS σ:=(rfl)
theorem zmM {KS:St->Prop} {dst:Option Tmp} {op:Op} {ty:TypeId} {pos:String} {af:Array Edge} {g:Option (Nat×Bool)} {rest:List Oper}:zdr P G h ops (⟨dst,op,ty,pos,af,g⟩ :: rest) ⟨tm,bx,nx,lg⟩ KS ⟨⟩ ⟨⟩ ⟨⟩ ⟨⟩=Y7 ops tm g (ji P G h op ⟨tm,bx,nx,lg⟩ (fun c σ'=>zdr P G h ops rest (σ'.put dst c) KS ⟨⟩ ⟨⟩ ⟨⟩ ⟨⟩) ⟨⟩ ⟨⟩ ⟨⟩) (zdr P G h ops rest (St.put ⟨tm,bx,nx,lg⟩ dst (.sc undef)) KS ⟨⟩ ⟨⟩ ⟨⟩ ⟨⟩) ⟨⟩ ⟨⟩ ⟨⟩:=(rfl)
theorem zhF {KS:St->Prop}:YM P G h ops [] brs σ KS ⟨⟩ ⟨⟩ ⟨⟩ ⟨⟩=KS σ:=(rfl)
theorem ziq {KS:St->Prop} {dst:Option Tmp} {op:Op} {ty:TypeId} {pos:String} {af:Array Edge} {g:Option (Nat×Bool)} {rest:List Oper}:YM P G h ops (⟨dst,op,ty,pos,af,g⟩ :: rest) [] ⟨tm,bx,nx,lg⟩ KS ⟨⟩ ⟨⟩ ⟨⟩ ⟨⟩=Y7 ops tm g (qI P G bx (zp G tm) op nx (fun c nx'=>YM P G h ops rest [] ⟨Ja tm dst c,bx,nx',lg⟩ KS ⟨⟩ ⟨⟩ ⟨⟩ ⟨⟩) ⟨⟩ ⟨⟩ ⟨⟩) (YM P G h ops rest [] ⟨Ja tm dst (.sc undef),bx,nx,lg⟩ KS ⟨⟩ ⟨⟩ ⟨⟩ ⟨⟩) ⟨⟩ ⟨⟩ ⟨⟩:=(rfl)
theorem zgl {KS:St->Prop} {dst:Option Tmp} {op:Op} {ty:TypeId} {pos:String} {af:Array Edge} {g:Option (Nat×Bool)} {rest:List Oper}:YM P G h ops (⟨dst,op,ty,pos,af,g⟩ :: rest) (false :: brs) ⟨tm,bx,nx,lg⟩ KS ⟨⟩ ⟨⟩ ⟨⟩ ⟨⟩=Y7 ops tm g (qI P G bx (zp G tm) op nx (fun c nx'=>YM P G h ops rest brs ⟨Ja tm dst c,bx,nx',lg⟩ KS ⟨⟩ ⟨⟩ ⟨⟩ ⟨⟩) ⟨⟩ ⟨⟩ ⟨⟩) (YM P G h ops rest brs ⟨Ja tm dst (.sc undef),bx,nx,lg⟩ KS ⟨⟩ ⟨⟩ ⟨⟩ ⟨⟩) ⟨⟩ ⟨⟩ ⟨⟩:=(rfl)
theorem zgE {KS:St->Prop} {dst:Option Tmp} {op:Op} {ty:TypeId} {pos:String} {af:Array Edge} {g:Option (Nat×Bool)} {rest:List Oper}:YM P G h ops (⟨dst,op,ty,pos,af,g⟩ :: rest) (true :: brs) ⟨tm,bx,nx,lg⟩ KS ⟨⟩ ⟨⟩ ⟨⟩ ⟨⟩=Y7 ops tm g (ji P G h op ⟨tm,bx,nx,lg⟩ (fun c σ'=>YM P G h ops rest brs (σ'.put dst c) KS ⟨⟩ ⟨⟩ ⟨⟩ ⟨⟩) ⟨⟩ ⟨⟩ ⟨⟩) (YM P G h ops rest brs ⟨Ja tm dst (.sc undef),bx,nx,lg⟩ KS ⟨⟩ ⟨⟩ ⟨⟩ ⟨⟩) ⟨⟩ ⟨⟩ ⟨⟩:=(rfl)
theorem zgW:Y7 ops tm none X Y ⟨⟩ ⟨⟩ ⟨⟩=X:=(rfl)
theorem zkC {l:List Oper} {j:Nat} {want:Bool}:Y7 l.toArray tm (some (j,want)) X Y ⟨⟩ ⟨⟩ ⟨⟩=zpG ((l[j]?).bind (·.dst)) tm want X Y ⟨⟩ ⟨⟩:=(show qL l.toArray tm (some (j,want)) X Y=aGd ((l[j]?).bind (·.dst)) tm want X Y from by simp only[qL,List.getElem?_toArray];rfl)
theorem zoz {u:Tmp}:zpG (some u) tm true X Y ⟨⟩ ⟨⟩=zhT (q9 tm u) Y X Y ⟨⟩ ⟨⟩ ⟨⟩:=(rfl)
theorem znk {u:Tmp}:zpG (some u) tm false X Y ⟨⟩ ⟨⟩=zhT (q9 tm u) Y Y X ⟨⟩ ⟨⟩ ⟨⟩:=(rfl)
theorem zlQ {U:Prop} {b:Bool}:zhT (.sc (.bool b)) U X Y ⟨⟩ ⟨⟩ ⟨⟩=zjS (.sc (.bool b)) X Y ⟨⟩ ⟨⟩:=(rfl)
theorem zl9 {U:Prop}:zhT (.sc undef) U X Y ⟨⟩ ⟨⟩ ⟨⟩=U:=(rfl)
theorem zbe {u:Tmp}:St.put ⟨tm,bx,nx,lg⟩ (some u) c=⟨(u,c) :: tm,bx,nx,lg⟩:=(rfl)
theorem za0:St.put ⟨tm,bx,nx,lg⟩ none c=⟨tm,bx,nx,lg⟩:=(rfl)
theorem yx {u:Tmp}:Ja tm (some u) c=(u,c) :: tm:=(rfl)
theorem MV:Ja tm none c=tm:=(rfl)
theorem UN {n:Nat} {ps:List (Nat×Operand)}:ji P G h (.buildSlice t n ps.toArray) ⟨tm,bx,nx,lg⟩ K3 ⟨⟩ ⟨⟩ ⟨⟩=if h.bx t then kr P t n (ps.map fun p=>(p.1,zp G tm p.2)) ⟨tm,bx,nx,lg⟩ K3 ⟨⟩ else Xr P t n (ps.map fun p=>(p.1,zp G tm p.2)) nx (fun c nx'=>K3 c ⟨tm,bx,nx',lg⟩) ⟨⟩:=(rfl)
theorem UL {n:Nat} {ps:List (Nat×Operand)} {ev:Operand->C}:qI P G bx ev (.buildSlice t n ps.toArray) nx K2 ⟨⟩ ⟨⟩ ⟨⟩=ve P t n (ps.map fun p=>(p.1,ev p.2)) nx K2 ⟨⟩:=(rfl)
theorem zpF {n:Nat} {ps:List (Nat×C)}:ve P t (n+1) ps nx K2 ⟨⟩=Xr P t (n+1) ps nx K2 ⟨⟩:=(rfl)
theorem zm3:Hd.bx ⟨p,yd,bf⟩ t=(bf (1000000+t)).headD false:=(rfl)
theorem zl1:Hd.bx2 ⟨p,yd,bf⟩ t=((bf (1000000+t)).drop 1).headD false:=(rfl)
theorem zhR:ji P G h (.move x) ⟨tm,bx,nx,lg⟩ K3 ⟨⟩ ⟨⟩ ⟨⟩=K3 (zp G tm x) ⟨tm,bx,nx,lg⟩:=(rfl)
theorem zhG {ev:Operand->C}:qI P G bx ev (.move x) nx K2 ⟨⟩ ⟨⟩ ⟨⟩=K2 (ev x) nx:=(rfl)
theorem zaN:ji P G h (.assign x) ⟨tm,bx,nx,lg⟩ K3 ⟨⟩ ⟨⟩ ⟨⟩=K3 (zp G tm x) ⟨tm,bx,nx,lg⟩:=(rfl)
theorem zaP {ev:Operand->C}:qI P G bx ev (.assign x) nx K2 ⟨⟩ ⟨⟩ ⟨⟩=K2 (ev x) nx:=(rfl)
theorem zhi:ji P G h (.pick x y z) ⟨tm,bx,nx,lg⟩ K3 ⟨⟩ ⟨⟩ ⟨⟩=zjS (zp G tm x) (K3 (zp G tm y) ⟨tm,bx,nx,lg⟩) (K3 (zp G tm z) ⟨tm,bx,nx,lg⟩) ⟨⟩ ⟨⟩:=(rfl)
theorem zfQ {ev:Operand->C}:qI P G bx ev (.pick x y z) nx K2 ⟨⟩ ⟨⟩ ⟨⟩=zjS (ev x) (K2 (ev y) nx) (K2 (ev z) nx) ⟨⟩ ⟨⟩:=(rfl)
theorem zfk {ps:List (Nat×Operand)}:ji P G h (.build t ps.toArray) ⟨tm,bx,nx,lg⟩ K3 ⟨⟩ ⟨⟩ ⟨⟩=yv P t (ps.map fun p=>(p.1,zp G tm p.2)) (fun c=>K3 c ⟨tm,bx,nx,lg⟩) ⟨⟩:=(rfl)
theorem zdw {ps:List (Nat×Operand)} {ev:Operand->C}:qI P G bx ev (.build t ps.toArray) nx K2 ⟨⟩ ⟨⟩ ⟨⟩=yv P t (ps.map fun p=>(p.1,ev p.2)) (fun c=>K2 c nx) ⟨⟩:=(rfl)
theorem zgj:ji P G h (.load t x) ⟨tm,bx,nx,lg⟩ K3 ⟨⟩ ⟨⟩ ⟨⟩=yA P t (zp G tm x) bx (fun c=>K3 c ⟨tm,bx,nx,lg⟩) ⟨⟩:=(rfl)
theorem zgq {ev:Operand->C}:qI P G bx ev (.load t x) nx K2 ⟨⟩ ⟨⟩ ⟨⟩=yA P t (ev x) bx (fun c=>K2 c nx) ⟨⟩:=(rfl)
theorem GB:ji P G h (.nilCheck x) ⟨tm,bx,nx,lg⟩ K3 ⟨⟩ ⟨⟩ ⟨⟩=zj7 (zp G tm x) (fun c=>K3 c ⟨tm,bx,nx,lg⟩) ⟨⟩:=(rfl)
theorem Nn {ev:Operand->C}:qI P G bx ev (.nilCheck x) nx K2 ⟨⟩ ⟨⟩ ⟨⟩=zj7 (ev x) (fun c=>K2 c nx) ⟨⟩:=(rfl)
theorem zcA {op:BinOp}:ji P G h (.binOp op t x y t') ⟨tm,bx,nx,lg⟩ K3 ⟨⟩ ⟨⟩ ⟨⟩=xk P t op (zp G tm x) (zp G tm y) (fun c=>K3 c ⟨tm,bx,nx,lg⟩) ⟨⟩:=(rfl)
theorem zc5 {op:BinOp} {ev:Operand->C}:qI P G bx ev (.binOp op t x y t') nx K2 ⟨⟩ ⟨⟩ ⟨⟩=xk P t op (ev x) (ev y) (fun c=>K2 c nx) ⟨⟩:=(rfl)
theorem zgF {op:UnOp}:ji P G h (.unOp op t x) ⟨tm,bx,nx,lg⟩ K3 ⟨⟩ ⟨⟩ ⟨⟩=zpI op (zp G tm x) (fun c=>K3 c ⟨tm,bx,nx,lg⟩) ⟨⟩:=(rfl)
theorem zfT {op:UnOp} {ev:Operand->C}:qI P G bx ev (.unOp op t x) nx K2 ⟨⟩ ⟨⟩ ⟨⟩=zpI op (ev x) (fun c=>K2 c nx) ⟨⟩:=(rfl)
theorem MW:ji P G h (.convert t t' x) ⟨tm,bx,nx,lg⟩ K3 ⟨⟩ ⟨⟩ ⟨⟩=xR P bx t t' (zp G tm x) (fun c=>K3 c ⟨tm,bx,nx,lg⟩) ⟨⟩:=(rfl)
theorem Ma {fn:Fn} {fs cs:List Operand}:ji P G h (.makeFunc fn fs.toArray cs.toArray) ⟨tm,bx,nx,lg⟩ K3 ⟨⟩ ⟨⟩ ⟨⟩=K3 (.clo fn (fs.map (zp G tm)) (cs.map (zp G tm))) ⟨tm,bx,nx,lg⟩:=(rfl)
theorem zbS {lo hi mx:Option Operand}:ji P G h (.slice t x lo hi mx) ⟨tm,bx,nx,lg⟩ K3 ⟨⟩ ⟨⟩ ⟨⟩=M7 P t (zp G tm x) (lo.map (zp G tm)) (hi.map (zp G tm)) (mx.map (zp G tm)) (fun c=>K3 c ⟨tm,bx,nx,lg⟩) ⟨⟩:=(rfl)
theorem zd0 {lo hi mx:Option Operand} {ev:Operand->C}:qI P G bx ev (.slice t x lo hi mx) nx K2 ⟨⟩ ⟨⟩ ⟨⟩=M7 P t (ev x) (lo.map ev) (hi.map ev) (mx.map ev) (fun c=>K2 c nx) ⟨⟩:=(rfl)
theorem HO {f:Nat}:ji P G h (.fieldAddr t x f) ⟨tm,bx,nx,lg⟩ K3 ⟨⟩ ⟨⟩ ⟨⟩=XU P t (zp G tm x) f (fun c=>K3 c ⟨tm,bx,nx,lg⟩) ⟨⟩:=(rfl)
theorem Hj {f:Nat} {ev:Operand->C}:qI P G bx ev (.fieldAddr t x f) nx K2 ⟨⟩ ⟨⟩ ⟨⟩=XU P t (ev x) f (fun c=>K2 c nx) ⟨⟩:=(rfl)
theorem zdl {f:Nat}:ji P G h (.field t x f) ⟨tm,bx,nx,lg⟩ K3 ⟨⟩ ⟨⟩ ⟨⟩=xX P t (zp G tm x) f (fun c=>K3 c ⟨tm,bx,nx,lg⟩) ⟨⟩:=(rfl)
theorem zcr {f:Nat} {ev:Operand->C}:qI P G bx ev (.field t x f) nx K2 ⟨⟩ ⟨⟩ ⟨⟩=xX P t (ev x) f (fun c=>K2 c nx) ⟨⟩:=(rfl)
theorem kR:ji P G h (.indexAddr t x y) ⟨tm,bx,nx,lg⟩ K3 ⟨⟩ ⟨⟩ ⟨⟩=XS P t (zp G tm x) (zp G tm y) (fun c=>K3 c ⟨tm,bx,nx,lg⟩) ⟨⟩:=(rfl)
theorem He {ev:Operand->C}:qI P G bx ev (.indexAddr t x y) nx K2 ⟨⟩ ⟨⟩ ⟨⟩=XS P t (ev x) (ev y) (fun c=>K2 c nx) ⟨⟩:=(rfl)
theorem zdt:ji P G h (.index t x y) ⟨tm,bx,nx,lg⟩ K3 ⟨⟩ ⟨⟩ ⟨⟩=My P t (zp G tm x) (zp G tm y) (fun c=>K3 c ⟨tm,bx,nx,lg⟩) ⟨⟩:=(rfl)
theorem ze3 {ev:Operand->C}:qI P G bx ev (.index t x y) nx K2 ⟨⟩ ⟨⟩ ⟨⟩=My P t (ev x) (ev y) (fun c=>K2 c nx) ⟨⟩:=(rfl)
theorem yc {i:Nat}:ji P G h (.extract x i) ⟨tm,bx,nx,lg⟩ K3 ⟨⟩ ⟨⟩ ⟨⟩=V3 (zp G tm x) i (fun c=>K3 c ⟨tm,bx,nx,lg⟩) ⟨⟩:=(rfl)
theorem xu {i:Nat} {ev:Operand->C}:qI P G bx ev (.extract x i) nx K2 ⟨⟩ ⟨⟩ ⟨⟩=V3 (ev x) i (fun c=>K2 c nx) ⟨⟩:=(rfl)
theorem zcM {us:List Operand} {ts:List TypeId}:ji P G h (.call ⟨.value x,us.toArray,ts.toArray⟩) ⟨tm,bx,nx,lg⟩ K3 ⟨⟩ ⟨⟩ ⟨⟩=xG P G h (zp G tm x) (us.map (zp G tm)) ⟨tm,bx,nx,lg⟩ K3 ⟨⟩ ⟨⟩:=(rfl)
theorem zb4 {us:List Operand} {ts:List TypeId} {ev:Operand->C}:qI P G bx ev (.call ⟨.value x,us.toArray,ts.toArray⟩) nx K2 ⟨⟩ ⟨⟩ ⟨⟩=ze0 P G (ev x) (us.map ev) nx K2 ⟨⟩:=(rfl)
theorem zlc:ji P G h (.call ⟨.builtin .len,#[x],#[t]⟩) ⟨tm,bx,nx,lg⟩ K3 ⟨⟩ ⟨⟩ ⟨⟩=xW P t (zp G tm x) (fun c=>K3 c ⟨tm,bx,nx,lg⟩) ⟨⟩:=(rfl)
theorem zll {ev:Operand->C}:qI P G bx ev (.call ⟨.builtin .len,#[x],#[t]⟩) nx K2 ⟨⟩ ⟨⟩ ⟨⟩=xW P t (ev x) (fun c=>K2 c nx) ⟨⟩:=(rfl)
theorem MH {r:Option Operand}:ji P G h (.makeMap t r) ⟨tm,bx,nx,lg⟩ K3 ⟨⟩ ⟨⟩ ⟨⟩=zoj (zfF P t) t (r.map (zp G tm)) nx (fun c nx'=>K3 c ⟨tm,bx,nx',lg⟩) ⟨⟩:=(rfl)
theorem zmp {kd:MKd} {z:C}:zoj (some (kd,z)) t none nx K2 ⟨⟩=K2 (.mo nx t kd.nil []) (nx+1):=(rfl)
theorem zj5 {k:IntKind}:MKd.nil (.int k) = .int k []:=(rfl)
theorem zaL {ok:Bool} {ev:Operand->C}:qI P G bx ev (.lookup t x y ok) nx K2 ⟨⟩ ⟨⟩ ⟨⟩=zmm (zfF P t) t (ev x) (ev y) ok (fun c=>K2 c nx) ⟨⟩:=(rfl)
theorem zne {k k2 q:IntKind} {z:C} {id:Nat} {t2:TypeId} {l:List Int} {vs:List C} {n:Int} {ok:Bool}:zmm (some (.int k,z)) t (.mo id t2 (.int k2 l) vs) (.sc (.int q n)) ok K ⟨⟩=(t2=t/\k2=k/\q=k/\zde (ziZ n l vs) z ok K ⟨⟩):=(rfl)
theorem zit {z:C}:zde (some c) z false K ⟨⟩=K c:=(rfl)
theorem zaR {w:Operand}:ji P G h (.insert t x y w) ⟨tm,bx,nx,lg⟩ K3 ⟨⟩ ⟨⟩ ⟨⟩=zou (zfF P t) t (zp G tm x) (zp G tm y) (zp G tm w) ⟨tm,bx,nx,lg⟩ K3 ⟨⟩:=(rfl)
theorem zmD {k k2 q:IntKind} {z:C} {id:Nat} {t2:TypeId} {l:List Int} {vs:List C} {n:Int}:zou (some (.int k,z)) t (.mo id t2 (.int k2 l) vs) (.sc (.int q n)) d ⟨tm,bx,nx,lg⟩ K3 ⟨⟩=(t2=t/\k2=k/\q=k/\K3 .any ⟨zfD id (.int k (UG n d.frz l vs).1) (UG n d.frz l vs).2 tm,zed id (.int k (UG n d.frz l vs).1) (UG n d.frz l vs).2 bx,nx,lg⟩):=(rfl)
theorem zaQ:ji P G h (.call ⟨.builtin .append,#[x,y],#[t,t]⟩) ⟨tm,bx,nx,lg⟩ K3 ⟨⟩ ⟨⟩ ⟨⟩=if h.bx t then if h.bx2 t then xd P t (zp G tm x) (zp G tm y) ⟨tm,bx,nx,lg⟩ K3 ⟨⟩ else vI P h.p t (zp G tm x) (zp G tm y) ⟨tm,bx,nx,lg⟩ K3 ⟨⟩ else Hb P t (zp G tm x) (zp G tm y) ⟨tm,bx,nx,lg⟩ K3 ⟨⟩:=(show Mr P G h (.call ⟨.builtin .append,#[x,y],#[t,t]⟩) ⟨tm,bx,nx,lg⟩ K3=if h.bx t then if h.bx2 t then JJ P t (zp G tm x) (zp G tm y) ⟨tm,bx,nx,lg⟩ K3 else VB P h.p t (zp G tm x) (zp G tm y) ⟨tm,bx,nx,lg⟩ K3 else HB P t (zp G tm x) (zp G tm y) ⟨tm,bx,nx,lg⟩ K3 from by simp[Mr,uk])
theorem zhC (h0:(t'==t)=false):ji P G h (.call ⟨.builtin .append,#[x,y],#[t,t']⟩) ⟨tm,bx,nx,lg⟩ K3 ⟨⟩ ⟨⟩ ⟨⟩=vl P t t' (zp G tm x) (zp G tm y) ⟨tm,bx,nx,lg⟩ K3 ⟨⟩:=(show Mr P G h (.call ⟨.builtin .append,#[x,y],#[t,t']⟩) ⟨tm,bx,nx,lg⟩ K3=kZ P t t' (zp G tm x) (zp G tm y) ⟨tm,bx,nx,lg⟩ K3 from by simp only[beq_eq_false_iff_ne]at h0;simp[Mr,uk,h0])
theorem zfX:ji P G h (.call ⟨.builtin .copy,#[x,y],#[t,t']⟩) ⟨tm,bx,nx,lg⟩ K3 ⟨⟩ ⟨⟩ ⟨⟩=zey P t (zp G tm x) (zp G tm y) ⟨tm,bx,nx,lg⟩ K3 ⟨⟩:=(show Mr P G h (.call ⟨.builtin .copy,#[x,y],#[t,t']⟩) ⟨tm,bx,nx,lg⟩ K3=ZX P t (zp G tm x) (zp G tm y) ⟨tm,bx,nx,lg⟩ K3 from by simp[Mr,uk])
theorem zlM:ji P G h (.call ⟨.builtin .max,#[x,y],#[t,t']⟩) ⟨tm,bx,nx,lg⟩ K3 ⟨⟩ ⟨⟩ ⟨⟩=znh (zp G tm x) (zp G tm y) (fun c=>K3 c ⟨tm,bx,nx,lg⟩) ⟨⟩:=(rfl)
theorem zpC {k k':IntKind} {n m:Int}:znh (.sc (.int k n)) (.sc (.int k' m)) K ⟨⟩=K (.sc (.int k (if m>n then m else n))):=(rfl)
theorem zjO:ji P G h (.call ⟨.builtin .cap,#[x],#[t]⟩) ⟨tm,bx,nx,lg⟩ K3 ⟨⟩ ⟨⟩ ⟨⟩=zn6 P t (zp G tm x) (fun c=>K3 c ⟨tm,bx,nx,lg⟩) ⟨⟩:=(show Mr P G h (.call ⟨.builtin .cap,#[x],#[t]⟩) ⟨tm,bx,nx,lg⟩ K3=zmY P t (zp G tm x) fun c=>K3 c ⟨tm,bx,nx,lg⟩ from by simp[Mr,uk])
theorem zpW:zn6 P t c K ⟨⟩=zfq (lay P t) c K ⟨⟩:=(rfl)
theorem zio {i off k n cap:Nat} {e s1 b1:Nat} {z1:Option (List Value)}:zfq (some ⟨.slice e,s1,b1,z1⟩) (.bs i off k n cap) K ⟨⟩=K (.sc (.int .i64 (cap:Int))):=(rfl)
theorem zcs {e s1 b1:Nat} {z1:Option (List Value)}:zfq (some ⟨.slice e,s1,b1,z1⟩) (.sc (.slice none 0 0)) K ⟨⟩=K (.sc (.int .i64 0)):=(rfl)
theorem zaH {ev:Operand->C}:qI P G bx ev (.call ⟨.builtin .append,#[x,y],#[t,t]⟩) nx K2 ⟨⟩ ⟨⟩ ⟨⟩=H4 P t (ev x) (ev y) nx K2 ⟨⟩:=(show jO P G bx ev (.call ⟨.builtin .append,#[x,y],#[t,t]⟩) nx K2=Za P t (ev x) (ev y) nx K2 from by simp[jO,Gl,Vu])
theorem zcu:ji P G h (.alloc t) ⟨tm,bx,nx,lg⟩ K3 ⟨⟩ ⟨⟩ ⟨⟩=zn2 (lay P t) ⟨tm,bx,nx,lg⟩ K3 ⟨⟩:=(rfl)
theorem zl4:ji P G h (.box t x) ⟨tm,bx,nx,lg⟩ K3 ⟨⟩ ⟨⟩ ⟨⟩=zmk (zp G tm x) ⟨tm,bx,nx,lg⟩ K3 ⟨⟩:=(rfl)
theorem zdy:ji P G h (.store t x y) ⟨tm,bx,nx,lg⟩ K3 ⟨⟩ ⟨⟩ ⟨⟩=znD (lay P t) (zp G tm x) (zp G tm y) ⟨tm,bx,nx,lg⟩ K3 ⟨⟩:=(rfl)
theorem zf2 {u:Tmp}:zp G tm (.tmp u)=q9 tm u:=(rfl)
theorem v6 {v:Value}:zp G tm (.const v)=zt v:=(rfl)
theorem zcX {f:FuncId}:zp G tm (.func f) = .clo (.func f) [] []:=(rfl)
theorem MG {g:Nat}:zp G tm (.global g)=zqD (G g):=(rfl)
theorem ym {cs:List C}:zqD (some cs) = .row cs:=(rfl)
theorem zmG {u v:Nat} {r:List (Nat×C)}:q9 ((u,c) :: r) v=if v=u then c else q9 r v:=(rfl)
theorem xt {k:IntKind} {n:Int}:zt (.int k n) = .sc (.int k n):=(rfl)
theorem Gn {b:Bool}:zt (.bool b) = .sc (.bool b):=(rfl)
theorem yl {l:List UInt8}:zt (.string ⟨l.toArray⟩) = .str l:=(rfl)
theorem kW {a:Option Addr} {n m:Nat}:zt (.slice a n m) = .sc (.slice a n m):=(rfl)
theorem xF {a:Option Addr}:zt (.pointer a) = .sc (.pointer a):=(rfl)
theorem MQ {a:Option Nat}:zt (.map a) = .sc (.map a):=(rfl)
theorem Nj:zt .nilFunc = .sc .nilFunc:=(rfl)
theorem zcP {op:BinOp} {k:IntKind} {a b:Int}:xk P t op (.sc (.int k a)) (.sc (.int k b)) K ⟨⟩=UD op k a b K ⟨⟩:=(show zme P t op (.sc (.int k a)) (.sc (.int k b)) K=zo7 op k a b K from by simp[zme])
theorem zeF {op:BinOp} {a b:List UInt8}:xk P t op (.str a) (.str b) K ⟨⟩=zaj op a b K ⟨⟩:=(rfl)
theorem zcn {op:BinOp} {cs ds:List C}:xk P t op (.agg cs) (.agg ds) K ⟨⟩=znT op (U6 P t) cs ds K ⟨⟩:=(rfl)
theorem GY {op:BinOp} {k:Nat} {rows:List (List C)}:xk P t op (.sl k rows) (.sc (.slice none 0 0)) K ⟨⟩=vJ (lay P t) op (.sl k rows) K ⟨⟩:=(rfl)
theorem zft {op:BinOp} {e0:TypeId} {k0 b0:Nat} {z0:Option (List Value)} {k:Nat} {rows:List (List C)}:vJ (some ⟨.slice e0,k0,b0,z0⟩) op (.sl k rows) K ⟨⟩=(rows≠[]/\zeT op false K ⟨⟩):=(rfl)
theorem G4 {op:BinOp} {a:Option Addr} {n cap:Nat}:xk P t op (.sc (.slice a n cap)) (.sc (.slice none 0 0)) K ⟨⟩=vJ (lay P t) op (.sc (.slice a n cap)) K ⟨⟩:=(rfl)
theorem zcv {op:BinOp} {e0:TypeId} {k0 b0:Nat} {z0:Option (List Value)} {a:Option Addr} {n cap:Nat}:vJ (some ⟨.slice e0,k0,b0,z0⟩) op (.sc (.slice a n cap)) K ⟨⟩=zeT op a.isNone K ⟨⟩:=(rfl)
theorem zaw {b:Bool}:zeT .eql b K ⟨⟩=K (.sc (.bool b)):=(rfl)
theorem zeI {lk:List LK} {cs ds:List C}:znT .neq (some lk) cs ds K ⟨⟩=zjd true lk cs ds true K ⟨⟩:=(rfl)
theorem za5 {e:Bool}:zjd true [] [] [] e K ⟨⟩=K (.sc (.bool (!e))):=(rfl)
theorem zgd {n e:Bool} {lk:List LK} {k k1 k2:IntKind} {a b:Int} {cs ds:List C}:zjd n (.int k :: lk) (.sc (.int k1 a) :: cs) (.sc (.int k2 b) :: ds) e K ⟨⟩=(k1=k/\k2=k/\zjd n lk cs ds (e&&decide (a=b)) K ⟨⟩):=(rfl)
theorem zeV {n e:Bool} {lk:List LK} {a b:Bool} {cs ds:List C}:zjd n (.bool :: lk) (.sc (.bool a) :: cs) (.sc (.bool b) :: ds) e K ⟨⟩=zjd n lk cs ds (e&&(a==b)) K ⟨⟩:=(rfl)
theorem zg0 {n e:Bool} {lk:List LK} {a b:List UInt8} {cs ds:List C}:zjd n (.str :: lk) (.str a :: cs) (.str b :: ds) e K ⟨⟩=zjd n lk cs ds (e&&decide (a=b)) K ⟨⟩:=(rfl)
theorem zeM {k:IntKind} {a b:Int}:UD .add k a b K ⟨⟩=(inR k (a+b)/\K (.sc (.int k (a+b)))):=(rfl)
theorem zbI {k:IntKind} {a b:Int}:UD .sub k a b K ⟨⟩=(inR k (a-b)/\K (.sc (.int k (a-b)))):=(rfl)
theorem zdH {k:IntKind} {a b:Int}:UD .shr k a b K ⟨⟩=(b=1/\K (.sc (.int k (a / 2)))):=(rfl)
theorem zcj {k:IntKind} {a b:Int}:UD .eql k a b K ⟨⟩=(K (.sc (.bool (decide (a=b))))):=(rfl)
theorem zen {k:IntKind} {a b:Int}:UD .neq k a b K ⟨⟩=(K (.sc (.bool (!decide (a=b))))):=(rfl)
theorem zeS {k:IntKind} {a b:Int}:UD .lss k a b K ⟨⟩=(K (.sc (.bool (decide (a<b))))):=(rfl)
theorem zer {k:IntKind} {a b:Int}:UD .leq k a b K ⟨⟩=(K (.sc (.bool (decide (a<=b))))):=(rfl)
theorem ze7 {k:IntKind} {a b:Int}:UD .gtr k a b K ⟨⟩=(K (.sc (.bool (decide (b<a))))):=(rfl)
theorem zdo {k:IntKind} {a b:Int}:UD .geq k a b K ⟨⟩=(K (.sc (.bool (decide (b<=a))))):=(rfl)
theorem zdA {a b:List UInt8}:zaj .add a b K ⟨⟩=(((a.length+b.length:Nat):Int)<=9223372036854775807/\K (.str (a++b))):=(rfl)
theorem zcO {a b:List UInt8}:zaj .eql a b K ⟨⟩=(K (.sc (.bool (decide (a=b))))):=(rfl)
theorem zdL {a b:List UInt8}:zaj .neq a b K ⟨⟩=(K (.sc (.bool (!decide (a=b))))):=(rfl)
theorem zec {a b:List UInt8}:zaj .geq a b K ⟨⟩=(K (.sc (.bool (!Op.bytesLess a b)))):=(rfl)
theorem zda {a b:List UInt8}:zaj .gtr a b K ⟨⟩=(K (.sc (.bool (!(Op.bytesLess a b||decide (a=b)))))):=(rfl)
theorem zhZ {b:Bool}:zpI .not (.sc (.bool b)) K ⟨⟩=K (.sc (.bool (!b))):=(rfl)
theorem zcB {cs:List C} {i:Nat}:V3 (.tup cs) i K ⟨⟩=zjE (cs[i]?) K ⟨⟩:=(rfl)
theorem zpx:zjE (some c) K ⟨⟩=K c:=(rfl)
theorem zbR {i off:Nat}:zj7 (.ptr i off) K ⟨⟩=K (.ptr i off):=(rfl)
theorem zoZ:yA P t c bx K ⟨⟩=xC (lay P t) c bx K ⟨⟩:=(rfl)
theorem zea {ev:Operand->C}:qI P G bx ev (.store t x y) nx K2 ⟨⟩ ⟨⟩ ⟨⟩=zoc (lay P t) (ev x) (ev y) bx (fun c=>K2 c nx) ⟨⟩:=(rfl)
theorem zqw {L:Lay} {i off:Nat}:zoc (some L) (.ptr i off) c bx K ⟨⟩=zoh (bx[i]?) off L.size c K ⟨⟩:=(rfl)
theorem zpg {cs:List C} {off size:Nat}:zoh (some cs) off size c K ⟨⟩=(c.partB=true/\(c.cells.all C.cellB)=true/\c.cells.length=size/\off+size<=cs.length/\ZW ((cs.drop off).take size) c.cells/\K .any):=(rfl)
theorem u9:ZW [] []=True:=(rfl)
theorem zeN {u v:Value} {r s:List C}:ZW (.sc u :: r) (.sc v :: s)=(u=v/\ZW r s):=(rfl)
theorem uX {u v:List UInt8} {r s:List C}:ZW (.str u :: r) (.str v :: s)=(u=v/\ZW r s):=(rfl)
theorem uq {L:Lay} {i off:Nat}:xC (some L) (.ptr i off) bx K ⟨⟩=zdI (bx[i]?) off L K ⟨⟩:=(rfl)
theorem uP {L:Lay} {cs:List C}:xC (some L) (.row cs) bx K ⟨⟩=ZM L cs K ⟨⟩:=(rfl)
theorem zla {L:Lay} {off:Nat} {cs:List C}:zdI (some cs) off L K ⟨⟩=ZM L (cs.drop off) K ⟨⟩:=(rfl)
theorem Ht {fs:List (Nat×Nat×Bool)} {s b:Nat} {z1:Option (List Value)} {cs:List C}:ZM ⟨.struct fs,s,b,z1⟩ cs K ⟨⟩=(s<=cs.length/\K (.agg (cs.take s))):=(show Jw ⟨.struct fs,s,b,z1⟩ cs K=(s<=cs.length/\K (.agg (cs.take s))) from by simp[Jw,LK.agg])
theorem zaY {ik:IntKind} {s b:Nat} {z1:Option (List Value)} {r:List C}:ZM ⟨.int ik,s,b,z1⟩ (c :: r) K ⟨⟩=K c:=(show Jw ⟨.int ik,s,b,z1⟩ (c :: r) K=K c from by simp[Jw,LK.agg])
theorem MS {s b:Nat} {z1:Option (List Value)} {r:List C}:ZM ⟨.bool,s,b,z1⟩ (c :: r) K ⟨⟩=K c:=(show Jw ⟨.bool,s,b,z1⟩ (c :: r) K=K c from by simp[Jw,LK.agg])
theorem zaF {s b:Nat} {z1:Option (List Value)} {r:List C}:ZM ⟨.str,s,b,z1⟩ (c :: r) K ⟨⟩=K c:=(show Jw ⟨.str,s,b,z1⟩ (c :: r) K=K c from by simp[Jw,LK.agg])
theorem G6 {e:TypeId} {s b:Nat} {z1:Option (List Value)} {r:List C}:ZM ⟨.slice e,s,b,z1⟩ (c :: r) K ⟨⟩=K c:=(show Jw ⟨.slice e,s,b,z1⟩ (c :: r) K=K c from by simp[Jw,LK.agg])
theorem NE {s b:Nat} {z1:Option (List Value)} {r:List C}:ZM ⟨.other,s,b,z1⟩ (c :: r) K ⟨⟩=K c:=(show Jw ⟨.other,s,b,z1⟩ (c :: r) K=K c from by simp[Jw,LK.agg])
theorem zkT {f:Nat}:xX P t c f K ⟨⟩=y9 (lay P t) c f K ⟨⟩:=(rfl)
theorem zfJ {fs:List (Nat×Nat×Bool)} {s b:Nat} {z1:Option (List Value)} {cs:List C} {f:Nat}:y9 (some ⟨.struct fs,s,b,z1⟩) (.agg cs) f K ⟨⟩=y4 (fs[f]?) cs K ⟨⟩:=(show yp (some ⟨.struct fs,s,b,z1⟩) (.agg cs) f K=VU (fs[f]?) cs K from by unfold yp VU;simp only[];cases fs[f]?<;>simp)
theorem zeP {off size:Nat} {cs:List C}:y4 (some (off,size,false)) cs K ⟨⟩=zjE (cs[off]?) K ⟨⟩:=(show VU (some (off,size,false)) cs K=zqh (cs[off]?) K from by unfold VU zqh;simp)
theorem zqS {f:Nat}:XU P t c f K ⟨⟩=znp (lay P t) c f K ⟨⟩:=(rfl)
theorem zpR {fs:List (Nat×Nat×Bool)} {s b:Nat} {z1:Option (List Value)} {f:Nat}:znp (some ⟨.struct fs,s,b,z1⟩) c f K ⟨⟩=zkU (fs[f]?) c K ⟨⟩:=(rfl)
theorem zfV {off size i q:Nat} {g:Bool}:zkU (some (off,size+1,g)) (.ptr i q) K ⟨⟩=K (.ptr i (q+off)):=(show zoW (some (off,size+1,g)) (.ptr i q) K=K (.ptr i (q+off)) from by simp[zoW])
theorem zhS {off size:Nat} {g:Bool} {cs:List C}:zkU (some (off,size+1,g)) (.row cs) K ⟨⟩=K (.row (cs.drop off)):=(show zoW (some (off,size+1,g)) (.row cs) K=K (.row (cs.drop off)) from by simp[zoW])
theorem zrl:XS P t c d K ⟨⟩=zly P (lay P t) c d K ⟨⟩:=(rfl)
theorem zak {e s b:Nat} {z1:Option (List Value)} {k:IntKind} {n:Int}:zly P (some ⟨.slice e,s,b,z1⟩) c (.sc (.int k n)) K ⟨⟩=zfR (lay P e) c n K ⟨⟩:=(rfl)
theorem za2 {m e s b:Nat} {z1:Option (List Value)} {k:IntKind} {n:Int}:zly P (some ⟨.array (m+1) e,s,b,z1⟩) c (.sc (.int k n)) K ⟨⟩=zms (lay P e) c m n K ⟨⟩:=(rfl)
theorem zex {k:Nat} {rows:List (List C)} {L:Lay} {n:Int}:zfR (some L) (.sl k rows) n K ⟨⟩=zlH (C.rows? L.size (.sl k rows)) n K ⟨⟩:=(rfl)
theorem zbY {k:Nat} {rows:List (List C)} {L:Lay} {lo hi mx:Option Int}:zhu (some L) (.sl k rows) lo hi mx K ⟨⟩=zjY (C.rows? L.size (.sl k rows)) L.size lo hi mx K ⟨⟩:=(rfl)
theorem uI {id e k:Nat} {rows:List (List C)} {L:Lay} {n:Int}:zfR (some L) (.own id e k rows) n K ⟨⟩=zlH (C.rows? L.size (.own id e k rows)) n K ⟨⟩:=(rfl)
theorem MJ {id e k:Nat} {rows:List (List C)} :xR P bx t t' (.own id e k rows) K ⟨⟩=zeD P t t' (.own id e k rows) K ⟨⟩:=(rfl)
theorem zaO {L:Lay} {lo hi mx:Option Int}:zhu (some L) (.sc (.slice none 0 0)) lo hi mx K ⟨⟩=zok L.size lo hi mx K ⟨⟩:=(rfl)
theorem zpY {k:Nat} {lo hi:Option Int}:zok k lo hi none K ⟨⟩=(jj 0 lo hi/\K (.sc (.slice none 0 0))):=(rfl)
theorem zaC {v:Value} :xR P bx t t' (.sc v) K ⟨⟩=zeD P t t' (.sc v) K ⟨⟩:=(rfl)
theorem zc8 {L:Lay} {n:Int} {j off k m1 cap:Nat}:zfR (some L) (.bs j off k m1 cap) n K ⟨⟩=(k=L.size/\0<=n/\n<(m1:Int)/\K (.ptr j (off+n.toNat*L.size))):=(rfl)
theorem zbU {L:Lay} {lo hi mx:Option Int} {i off k n cap:Nat}:zhu (some L) (.bs i off k n cap) lo hi mx K ⟨⟩=zkG L.size i off k n cap lo hi mx K ⟨⟩:=(rfl)
theorem ziI {b:Int} {sz i off k n cap:Nat}:zkG sz i off k n cap none (some b) none K ⟨⟩=(n<=cap/\(0<=b/\b<=(cap:Int))/\K (.bs i off k b.toNat cap)):=(rfl)
theorem zfK {a:Int} {sz i off k n cap:Nat}:zkG sz i off k n cap (some a) none none K ⟨⟩=(sz=k/\n<=cap/\(0<=a/\a<=(n:Int))/\K (.bs i (off+a.toNat*k) k (n-a.toNat) (cap-a.toNat))):=(rfl)
theorem zgw {i off k n cap:Nat}:xW P t (.bs i off k n cap) K ⟨⟩=Gk (lay P t) (n:Int) K ⟨⟩:=(rfl)
theorem zru {n:Nat} {ps:List (Nat×C)}:kr P t n ps ⟨tm,bx,nx,lg⟩ K3 ⟨⟩=zm6 P (lay P t) n ps ⟨tm,bx,nx,lg⟩ K3 ⟨⟩:=(rfl)
theorem zqu {e s b n:Nat} {z1:Option (List Value)} {ps:List (Nat×C)}:zm6 P (some ⟨.slice e,s,b,z1⟩) n ps σ K3 ⟨⟩=znY (lay P e) n ps σ K3 ⟨⟩:=(rfl)
theorem zp2 {kd:LK} {k b n:Nat} {z1:List Value} {ps:List (Nat×C)}:znY (some ⟨kd,k,b,some z1⟩) n ps σ K3 ⟨⟩=(z1.length=k/\0<k/\n*k<=16777216/\(ps.all fun p=>p.2.frz.partB)=true/\znH (Yb (plA k) (List.replicate n (z1.map zt)).flatten (ps.map fun p=>(p.1,p.2.frz))) k n σ K3 ⟨⟩):=(rfl)
theorem zpv {cs:List C} {k n:Nat}:znH (some cs) k n ⟨tm,bx,nx,lg⟩ K3 ⟨⟩=((cs.all C.cellB)=true/\cs.length=n*k/\K3 (.bs bx.length 0 k n n) ⟨tm,bx++[cs],nx,lg⟩):=(rfl)
theorem zra:vI P p t c d ⟨tm,bx,nx,lg⟩ K3 ⟨⟩=znr P (lay P t) p c d ⟨tm,bx,nx,lg⟩ K3 ⟨⟩:=(rfl)
theorem zpn {e s b:Nat} {z1:Option (List Value)}:znr P (some ⟨.slice e,s,b,z1⟩) p c d σ K3 ⟨⟩=znZ (lay P e) p c d σ K3 ⟨⟩:=(rfl)
theorem zpz {kd:LK} {k b:Nat} {z1:List Value}:znZ (some ⟨kd,k,b,some z1⟩) p c d ⟨tm,bx,nx,lg⟩ K3 ⟨⟩=zm7 (d.xs? k bx) p k b z1 c ⟨tm,bx,nx,lg⟩ K3 ⟨⟩:=(rfl)
theorem zkB {i off k k2 n cap:Nat}:C.xs? k bx (.bs i off k2 n cap)=xsB k2 k off n (bx[i]?):=(rfl)
theorem znW {k off n:Nat} {cs:List C}:xsB k k off n (some cs)=if off+n*k<=cs.length then some (n,(cs.drop off).take (n*k)) else none:=(show xsB k k off n (some cs)=if off+n*k<=cs.length then some (n,(cs.drop off).take (n*k)) else none from by simp[xsB])
theorem zkX {i:Nat} {cs:List C}:QI i cs bx=(Gi (Ji i) some bx).set i cs:=(rfl)
theorem zjQ {i j:Nat}:Ji i j=if j=i then none else some j:=(rfl)
theorem zfM {i off k n cap:Nat}:C.frz (.bs i off k n cap) = .any:=(show C.frz (.bs i off k n cap) = .any from by rw[C.frz])
theorem zkA {i off k n cap:Nat} {fp fo:Nat->Option Nat}:C.re fp fo (.bs i off k n cap)=bsO (fp i) off k n cap:=(show C.re fp fo (.bs i off k n cap)=bsO (fp i) off k n cap from by rw[C.re];rfl)
theorem zmO {j off k n cap:Nat}:bsO (some j) off k n cap = .bs j off k n cap:=(rfl)
theorem znn {off k n cap:Nat}:bsO none off k n cap = .any:=(rfl)
theorem zau {i off k n cap:Nat}:C.cellB (.bs i off k n cap)=true:=(rfl)
theorem uY {i off k n cap:Nat}:C.partB (.bs i off k n cap)=true:=(rfl)
theorem uR {i off k n cap:Nat}:C.cells (.bs i off k n cap) = [.bs i off k n cap]:=(rfl)
theorem zos {rows:List (List C)} {n:Int}:zlH (some rows) n K ⟨⟩=zqz (rows[n.toNat]?) n K ⟨⟩:=(rfl)
theorem zrq {r:List C} {n:Int}:zqz (some r) n K ⟨⟩=(0<=n/\K (.row r)):=(rfl)
theorem zke {L:Lay} {m:Nat} {n:Int} {cs:List C}:zms (some L) (.row cs) m n K ⟨⟩=(0<=n/\n<((m+1:Nat):Int)/\K (.row (cs.drop (n.toNat*L.size)))):=(rfl)
theorem zq4:My P t c d K ⟨⟩=znA (lay P t) c d K ⟨⟩:=(rfl)
theorem zp5 {s b:Nat} {z1:Option (List Value)} {l:List UInt8} {k:IntKind} {n:Int}:znA (some ⟨.str,s,b,z1⟩) (.str l) (.sc (.int k n)) K ⟨⟩=zjc (l[n.toNat]?) n K ⟨⟩:=(show zp9 (some ⟨.str,s,b,z1⟩) (.str l) (.sc (.int k n)) K=zkD (l[n.toNat]?) n K from by unfold zp9 zkD;simp)
theorem zn9 {b:UInt8} {n:Int}:zjc (some b) n K ⟨⟩=(0<=n/\K (.sc (.int .u8 (b.toNat:Int)))):=(rfl)
theorem zqR {lo hi mx:Option C}:M7 P t c lo hi mx K ⟨⟩=zop P t c (vb lo) (vb hi) (vb mx) K ⟨⟩:=(rfl)
theorem zph {lo hi mx:Option Int}:zop P t c (some lo) (some hi) (some mx) K ⟨⟩=zkr P (lay P t) c lo hi mx K ⟨⟩:=(rfl)
theorem zas:vb none=some none:=(rfl)
theorem zfz {k:IntKind} {n:Int}:vb (some (.sc (.int k n)))=some (some n):=(rfl)
theorem zgn {s b:Nat} {z1:Option (List Value)} {l:List UInt8} {lo hi:Option Int}:zkr P (some ⟨.str,s,b,z1⟩) (.str l) lo hi none K ⟨⟩=(jj l.length lo hi/\K (.str (cut l lo hi))):=(rfl)
theorem uO {e s b:Nat} {z1:Option (List Value)} {lo hi mx:Option Int}:zkr P (some ⟨.slice e,s,b,z1⟩) c lo hi mx K ⟨⟩=zhu (lay P e) c lo hi mx K ⟨⟩:=(rfl)
theorem zmq {rows:List (List C)} {k:Nat} {lo hi:Option Int}:zjY (some rows) k lo hi none K ⟨⟩=(jj rows.length lo hi/\K (.sl k (cut rows lo hi))):=(rfl)
theorem zmV {rows:List (List C)} {k:Nat} {lo:Option Int} {h m:Int}:zjY (some rows) k lo (some h) (some m) K ⟨⟩=(m=h/\jj rows.length lo (some h)/\K (.tight k (cut rows lo (some h)))):=(rfl)
theorem zgv {α:Type} {l:List α} {a:Int}:cut l (some a) none=l.drop a.toNat:=(rfl)
theorem zgb {α:Type} {l:List α} {b:Int}:cut l none (some b)=l.take b.toNat:=(rfl)
theorem zhQ {α:Type} {l:List α} {a b:Int}:cut l (some a) (some b)=(l.take b.toNat).drop a.toNat:=(rfl)
theorem zaA {n:Nat} {a:Int}:jj n (some a) none=(0<=a/\a<=(n:Int)):=(rfl)
theorem zag {n:Nat} {b:Int}:jj n none (some b)=(0<=b/\b<=(n:Int)):=(rfl)
theorem uu {n:Nat} {a b:Int}:jj n (some a) (some b)=(0<=a/\a<=b/\b<=(n:Int)):=(rfl)
theorem zbw {k:Nat} {rows:List (List C)}:C.rows? k (.sl k rows)=some rows:=(show C.rows? k (.sl k rows)=some rows from by simp[C.rows?])
theorem uS {id e:Nat} {k:Nat} {rows:List (List C)}:C.rows? k (.own id e k rows)=some rows:=(show C.rows? k (.own id e k rows)=some rows from by simp[C.rows?])
theorem zmy:zeD P t t' c K ⟨⟩=zh4 P (lay P t') (lay P t) c K ⟨⟩:=(rfl)
theorem zaJ {k k0:IntKind} {n:Int} {s b:Nat} {z1:Option (List Value)} {L:Lay}:zh4 P (some ⟨.int k,s,b,z1⟩) (some L) (.sc (.int k0 n)) K ⟨⟩=(inR k n/\K (.sc (.int k n))):=(rfl)
theorem zhO {s b s2 b2:Nat} {z1 z2:Option (List Value)} {k k0:IntKind} {n:Int}:zh4 P (some ⟨.str,s,b,z1⟩) (some ⟨.int k,s2,b2,z2⟩) (.sc (.int k0 n)) K ⟨⟩=K (.str (Utf8.encode n).data.toList):=(rfl)
theorem ziQ {e s b s2 b2:Nat} {z1 z2:Option (List Value)}:zh4 P (some ⟨.str,s,b,z1⟩) (some ⟨.slice e,s2,b2,z2⟩) c K ⟨⟩=zoD (lay P e) c K ⟨⟩:=(rfl)
theorem zfn {s b:Nat} {z1:Option (List Value)}:zoD (some ⟨.int .u8,s,b,z1⟩) c K ⟨⟩=zlw (c.rows? 1) K ⟨⟩:=(rfl)
theorem zes {l:List UInt8}:xW P t (.str l) K ⟨⟩=ziW (lay P t) (l.length:Int) K ⟨⟩:=(rfl)
theorem ziC {k:Nat} {rows:List (List C)}:xW P t (.sl k rows) K ⟨⟩=Gk (lay P t) (rows.length:Int) K ⟨⟩:=(rfl)
theorem zfA {id e:Nat} {k:Nat} {rows:List (List C)}:xW P t (.own id e k rows) K ⟨⟩=Gk (lay P t) (rows.length:Int) K ⟨⟩:=(rfl)
theorem zbN:xW P t (.sc (.slice none 0 0)) K ⟨⟩=Gk (lay P t) 0 K ⟨⟩:=(rfl)
theorem znu {e s b:Nat} {z1:Option (List Value)} {n:Int}:Gk (some ⟨.slice e,s,b,z1⟩) n K ⟨⟩=K (.sc (.int .i64 n)):=(rfl)
theorem zmw {s b:Nat} {z1:Option (List Value)} {n:Int}:ziW (some ⟨.str,s,b,z1⟩) n K ⟨⟩=K (.sc (.int .i64 n)):=(rfl)
theorem zka {ps:List (Nat×C)}:yv P t ps K ⟨⟩=zmW (lay P t) ps K ⟨⟩:=(rfl)
theorem zim {fs:List (Nat×Nat×Bool)} {s b:Nat} {z1:List Value} {ps:List (Nat×C)}:zmW (some ⟨.struct fs,s,b,some z1⟩) ps K ⟨⟩=((ps.all fun p=>p.2.partB)=true/\zqE (Yb (plS fs) (z1.map zt) ps) K ⟨⟩):=(show zps (some ⟨.struct fs,s,b,some z1⟩) ps K=((ps.all fun p=>p.2.partB)=true/\aFl (Yb (plS fs) (z1.map zt) ps) K) from by unfold zps aFl;simp only[];rfl)
theorem zq0 {cs:List C}:zqE (some cs) K ⟨⟩=K (.agg cs):=(rfl)
theorem zlI {place:Nat->Option (Nat×Nat)} {cs:List C}:Yb place cs []=some cs:=(rfl)
theorem znf {place:Nat->Option (Nat×Nat)} {cs:List C} {i:Nat} {rest:List (Nat×C)}:Yb place cs ((i,c) :: rest)=ziV (place i) place cs c.cells rest:=(rfl)
theorem zlD {place:Nat->Option (Nat×Nat)} {cs l:List C} {off size:Nat} {rest:List (Nat×C)}:ziV (some (off,size)) place cs l rest=(if l.length=size/\off+size<=cs.length then Yb place (cs.take off++l++cs.drop (off+size)) rest else none):=(rfl)
theorem zpJ {fs:List (Nat×Nat×Bool)} {i:Nat}:plS fs i=(fs[i]?).map fun f=>(f.1,f.2.1):=(rfl)
theorem zqj {k i:Nat}:plA k i=some (i*k,k):=(rfl)
theorem zrj {n:Nat} {ps:List (Nat×C)}:Xr P t n ps nx K2 ⟨⟩=znm P (lay P t) n ps nx K2 ⟨⟩:=(rfl)
theorem zpN {e s b n:Nat} {z1:Option (List Value)} {ps:List (Nat×C)}:znm P (some ⟨.slice e,s,b,z1⟩) n ps nx K2 ⟨⟩=zmS (lay P e) e n ps nx K2 ⟨⟩:=(rfl)
theorem zpu {kd:LK} {k b e n:Nat} {z1:List Value} {ps:List (Nat×C)}:zmS (some ⟨kd,k,b,some z1⟩) e n ps nx K2 ⟨⟩=(z1.length=k/\0<k/\n*k<=16777216/\(ps.all fun p=>p.2.frz.partB)=true/\znv (Yb (plA k) (List.replicate n (z1.map zt)).flatten (ps.map fun p=>(p.1,p.2.frz))) e k n nx K2 ⟨⟩):=(rfl)
theorem zpS {cs:List C} {e k n:Nat}:znv (some cs) e k n nx K2 ⟨⟩=((cs.all C.cellB)=true/\cs.length=n*k/\K2 (.own nx e k (XJ k n cs)) (nx+1)):=(rfl)
theorem zc1 {id e k:Nat} {rows:List (List C)}:Hb P t (.own id e k rows) d ⟨tm,bx,nx,lg⟩ K3 ⟨⟩=zoK P (lay P t) id e k rows d ⟨tm,bx,nx,lg⟩ K3 ⟨⟩:=(rfl)
theorem zcZ:Hb P t (.sc (.slice none 0 0)) d ⟨tm,bx,nx,lg⟩ K3 ⟨⟩=H4 P t (.sc (.slice none 0 0)) d nx (fun c nx'=>K3 c ⟨tm,bx,nx',lg⟩) ⟨⟩:=(rfl)
theorem zna:H4 P t c d nx K2 ⟨⟩=zm2 P (lay P t) c d nx K2 ⟨⟩:=(rfl)
theorem zpL {e s b:Nat} {z1:Option (List Value)}:zm2 P (some ⟨.slice e,s,b,z1⟩) c d nx K2 ⟨⟩=zn7 (lay P e) e c d nx K2 ⟨⟩:=(rfl)
theorem zp6 {kd:LK} {k b e:Nat} {z1:List Value}:zn7 (some ⟨kd,k,b,some z1⟩) e c d nx K2 ⟨⟩=zjU (d.rows? k) c e k b z1 nx K2 ⟨⟩:=(rfl)
theorem znL {k b e:Nat} {z1:List Value} {xs:List (List C)}:zjU (some xs) (.sc (.slice none 0 0)) e k b z1 nx K2 ⟨⟩=(z1.length=k/\0<k/\xs.length<=9223372036854775807/\xs.length*b<=140737488355328/\K2 (.own nx e k xs) (nx+1)):=(rfl)
theorem zob {k k0 b e:Nat} {z1:List Value} {xs rows:List (List C)}:zjU (some xs) (.tight k0 rows) e k b z1 nx K2 ⟨⟩=(k0=k/\z1.length=k/\0<k/\rows.length+xs.length<=9223372036854775807/\(rows.length+xs.length)*b<=140737488355328/\(xs = []->K2 (.tight k0 rows) nx)/\(¬xs = []->K2 (.own nx e k (rows++xs)) (nx+1))):=(rfl)
theorem zg9 {a b:Nat} (h:Nat.ble a b=true):a<=b:=Nat.le_of_ble_eq_true h
theorem lS:(∀ {α:Type} (a b:List α),(a++b).length=a.length+b.length)/\(∀ {α:Type} (a:α) (b:List α),(a :: b).length=b.length+1)/\(∀ {α:Type},([]:List α).length=0)/\(∀ {α β:Type} (f:α->β) (l:List α),(l.map f).length=l.length)/\(∀ {α:Type} (n:Nat) (l:List α),(l.take n).length=min n l.length)/\∀ {α:Type} (n:Nat) (l:List α),(l.drop n).length=l.length-n:=⟨fun _ _=>List.length_append,fun _ _=>List.length_cons,List.length_nil,fun _ _=>List.length_map _,fun _ _=>List.length_take,fun _ _=>List.length_drop⟩
theorem zqr {α:Type} {x:α} {l:List α}:((x :: l) = [])=False:=by simp
theorem zrn {p:Prop}:(True->p)=p:=by simp
theorem zrk {p:Prop}:(False->p)=True:=by simp
theorem zrs:(¬False)=True:=by simp
theorem zqk {e0 s b id e k:Nat} {z1:Option (List Value)} {rows:List (List C)}:zoK P (some ⟨.slice e0,s,b,z1⟩) id e k rows c σ K3 ⟨⟩=znG (lay P e) e0 id e k rows c σ K3 ⟨⟩:=(rfl)
theorem zqp {kd:LK} {k0 b e0 id e k:Nat} {z1:List Value} {rows:List (List C)}:znG (some ⟨kd,k0,b,some z1⟩) e0 id e k rows c σ K3 ⟨⟩=(e0=e/\k0=k/\z1.length=k/\0<k/\zmz (c.rows? k) b id e k rows σ K3 ⟨⟩):=(show zpo (some ⟨kd,k0,b,some z1⟩) e0 id e k rows c σ K3=(e0=e/\k0=k/\z1.length=k/\0<k/\zqs (c.rows? k) b id e k rows σ K3) from by unfold zpo zqs;simp only[];cases c.rows? k<;>simp)
theorem zpf {xs rows:List (List C)} {b id e k:Nat}:zmz (some xs) b id e k rows ⟨tm,bx,nx,lg⟩ K3 ⟨⟩=(rows.length+xs.length<=9223372036854775807/\(rows.length+xs.length)*b<=140737488355328/\K3 (.own id e k (rows++xs)) ⟨zbg id tm,Mp id bx,nx,lg⟩):=(rfl)
theorem zk2 {f:FuncId} {fs cs args:List C}:xG P G h (.clo (.func f) fs cs) args ⟨tm,bx,nx,lg⟩ K3 ⟨⟩ ⟨⟩=QW P G f (fs++args++cs) (C.frzL (fs++args++cs)) ⟨tm,bx,nx,lg⟩ K3 ⟨⟩:=(rfl)
theorem zlx {l:Nat} {items:List (List C)} {sf:Nat->Bool} {args:List C}:xG P G ⟨p,some ⟨l,items,sf⟩,bf⟩ (.sc (.func (.yield l) #[] #[])) args ⟨tm,bx,nx,lg⟩ K3 ⟨⟩ ⟨⟩=yK ⟨l,items,sf⟩ (items[lg]?) args ⟨tm,bx,nx,lg⟩ K3 ⟨⟩ ⟨⟩:=(show GN P G ⟨p,some ⟨l,items,sf⟩,bf⟩ (.sc (.func (.yield l) #[] #[])) args ⟨tm,bx,nx,lg⟩ K3=H1 ⟨l,items,sf⟩ (items[lg]?) args ⟨tm,bx,nx,lg⟩ K3 from by simp[GN,yU])
theorem zg3 {l:Nat} {items:List (List C)} {sf:Nat->Bool} {args it:List C}:yK ⟨l,items,sf⟩ (some it) args ⟨tm,bx,nx,lg⟩ K3 ⟨⟩ ⟨⟩=(ze [] 0 args it/\(∀ j,j<lg->sf j=false)/\K3 (.sc (.bool (!sf lg))) ⟨tm,bx,nx,lg+1⟩):=(rfl)
theorem zoi {ι:List Nat} {j:Nat}:upB ι m j=match ι[j]? with | some i=>some i | none=>some (m+(j-ι.length)):=(rfl)
theorem zpl {i:Nat}:XE [] i=none:=(rfl)
theorem zqb {x1 i:Nat} {r:List Nat}:XE (x1 :: r) i=if i=x1 then some 0 else (XE r i).map (·+1):=(rfl)
theorem zkM {fp fo:Nat->Option Nat}:U8 fp fo [] = []:=(rfl)
theorem znO {fp fo:Nat->Option Nat} {u:Nat} {r:List (Nat×C)}:U8 fp fo ((u,c) :: r)=(u,c.re fp fo) :: U8 fp fo r:=(rfl)
theorem zlA {fp fo:Nat->Option Nat}:Gi fp fo [] = []:=(rfl)
theorem zmT {fp fo:Nat->Option Nat} {cs:List C} {r:List (List C)}:Gi fp fo (cs :: r)=C.reL fp fo cs :: Gi fp fo r:=(rfl)
theorem zig {l:List (List C)}:Zs [] l bx=bx:=(rfl)
theorem zg8 {i:Nat} {ι:List Nat} {cs:List C} {r:List (List C)}:Zs (i :: ι) (cs :: r) bx=Zs ι r (bx.set i cs):=(rfl)
theorem zhe {ι κ:List Nat} {n:Nat}:ZC ι κ bx' n ⟨tm,bx,nx,lg⟩=⟨U8 some (Qg κ) tm,Zs ι (Gi (upB ι bx.length) (upO nx) bx') (Gi some (Qg κ) bx)++Gi (upB ι bx.length) (upO nx) (bx'.drop ι.length),nx+n,lg⟩:=(rfl)
theorem zkd {κ:List Nat} {i:Nat}:Qg κ i=if i∈κ then none else some i:=(rfl)
theorem zf3 {i:Nat}:kz m i=if i<m then some i else none:=(rfl)
theorem zhV {i:Nat}:Yh m i=if i<m then none else some (i-m):=(rfl)
theorem zk8 {f:FuncId} {fs cs args:List C}:ze0 P G (.clo (.func f) fs cs) args nx K2 ⟨⟩=M5 P G f (C.frzL (fs++args++cs)) nx K2 ⟨⟩:=(rfl)
theorem zpU {kd:LK} {s b:Nat} {z1:List Value}:zn2 (some ⟨kd,s,b,some z1⟩) ⟨tm,bx,nx,lg⟩ K3 ⟨⟩=((z1.all Value.oneCell')=true/\K3 (.ptr bx.length 0) ⟨tm,bx++[z1.map zt],nx,lg⟩):=(rfl)
theorem zp1:zmk c ⟨tm,bx,nx,lg⟩ K3 ⟨⟩=(c.partB=true/\(c.cells.all C.cellB)=true/\K3 (.ptr bx.length 0) ⟨tm,bx++[c.cells],nx,lg⟩):=(rfl)
theorem zqd {L:Lay} {i off:Nat}:znD (some L) (.ptr i off) c ⟨tm,bx,nx,lg⟩ K3 ⟨⟩=znb (bx[i]?) i off L.size c ⟨tm,bx,nx,lg⟩ K3 ⟨⟩:=(rfl)
theorem zpO {cs:List C} {i off size:Nat}:znb (some cs) i off size c ⟨tm,bx,nx,lg⟩ K3 ⟨⟩=(c.partB=true/\(c.cells.all C.cellB)=true/\c.cells.length=size/\off+size<=cs.length/\K3 .any ⟨tm,bx.set i (cs.take off++c.cells++cs.drop (off+size)),nx,lg⟩):=(rfl)
theorem zhP {v:Value}:C.frz (.sc v) = .sc v:=(show C.frz (.sc v) = .sc v from by rw[C.frz])
theorem zls {v:Value} {id:Nat}:C.dg id (.sc v) = .sc v:=(show C.dg id (.sc v) = .sc v from by rw[C.dg])
theorem zk5 {v:Value} {n:Nat}:C.sh n (.sc v) = .sc v:=(show C.sh n (.sc v) = .sc v from by rw[C.sh])
theorem zfg {l:List UInt8}:C.frz (.str l) = .str l:=(show C.frz (.str l) = .str l from by rw[C.frz])
theorem zhL {l:List UInt8} {id:Nat}:C.dg id (.str l) = .str l:=(show C.dg id (.str l) = .str l from by rw[C.dg])
theorem zhW {l:List UInt8} {n:Nat}:C.sh n (.str l) = .str l:=(show C.sh n (.str l) = .str l from by rw[C.sh])
theorem zga {k:Nat} {rows:List (List C)}:C.frz (.sl k rows) = .sl k rows:=(show C.frz (.sl k rows) = .sl k rows from by rw[C.frz])
theorem zky {k:Nat} {rows:List (List C)} {id:Nat}:C.dg id (.sl k rows) = .sl k rows:=(show C.dg id (.sl k rows) = .sl k rows from by rw[C.dg])
theorem zk4 {k:Nat} {rows:List (List C)} {n:Nat}:C.sh n (.sl k rows) = .sl k rows:=(show C.sh n (.sl k rows) = .sl k rows from by rw[C.sh])
theorem zdN {cs:List C}:C.frz (.row cs) = .row cs:=(show C.frz (.row cs) = .row cs from by rw[C.frz])
theorem zgo {cs:List C} {id:Nat}:C.dg id (.row cs) = .row cs:=(show C.dg id (.row cs) = .row cs from by rw[C.dg])
theorem ziR {cs:List C} {n:Nat}:C.sh n (.row cs) = .row cs:=(show C.sh n (.row cs) = .row cs from by rw[C.sh])
theorem zhN {id:Nat}:C.dg id (.any) = .any:=(show C.dg id (.any) = .any from by rw[C.dg])
theorem zgK {n:Nat}:C.sh n (.any) = .any:=(show C.sh n (.any) = .any from by rw[C.sh])
theorem zj2 {i:Nat} {t2:TypeId} {ks:MK} {vs:List C} {n:Nat}:C.sh n (.mo i t2 ks vs) = .mo (n+i) t2 ks vs:=(show C.sh n (.mo i t2 ks vs) = .mo (n+i) t2 ks vs from by rw[C.sh])
theorem zkx {i:Nat} {t2:TypeId} {ks:MK} {vs:List C}:C.fz bx (.mo i t2 ks vs) = .mo i t2 ks vs:=(show C.fz bx (.mo i t2 ks vs) = .mo i t2 ks vs from by rw[C.fz])
theorem zjD {v:Value} {id:Nat} {ks1:MK} {vs1:List C}:C.up id ks1 vs1 (.sc v) = .sc v:=(show C.up id ks1 vs1 (.sc v) = .sc v from by rw[C.up])
theorem zjM {i:Nat} {t2:TypeId} {ks:MK} {vs:List C} {id:Nat} {ks1:MK} {vs1:List C}:C.up id ks1 vs1 (.mo i t2 ks vs)=if i=id then .mo i t2 ks1 vs1 else .mo i t2 ks vs:=(show C.up id ks1 vs1 (.mo i t2 ks vs)=if i=id then .mo i t2 ks1 vs1 else .mo i t2 ks vs from by rw[C.up])
theorem ub {id:Nat} {ks1:MK} {vs1:List C}:zfD id ks1 vs1 [] = []:=(rfl)
theorem zoe {u:Nat} {r:List (Nat×C)} {id:Nat} {ks1:MK} {vs1:List C}:zfD id ks1 vs1 ((u,c) :: r)=(u,c.up id ks1 vs1) :: zfD id ks1 vs1 r:=(rfl)
theorem uh {id:Nat} {ks1:MK} {vs1:List C}:zed id ks1 vs1 [] = []:=(rfl)
theorem zdP {id e k:Nat} {rows:List (List C)}:C.frz (.own id e k rows) = .sl k rows:=(show C.frz (.own id e k rows) = .sl k rows from by rw[C.frz])
theorem zc9 {i off:Nat}:C.frz (.ptr i off) = .any:=(show C.frz (.ptr i off) = .any from by rw[C.frz])
theorem ziw {id i off:Nat}:C.dg id (.ptr i off) = .ptr i off:=(show C.dg id (.ptr i off) = .ptr i off from by rw[C.dg])
theorem zhA {id i e k:Nat} {rows:List (List C)}:C.dg id (.own i e k rows)=if i=id then .sl k rows else .own i e k rows:=(show C.dg id (.own i e k rows)=if i=id then .sl k rows else .own i e k rows from by rw[C.dg])
theorem zgm {n i e k:Nat} {rows:List (List C)}:C.sh n (.own i e k rows) = .own (n+i) e k rows:=(show C.sh n (.own i e k rows) = .own (n+i) e k rows from by rw[C.sh])
theorem zkt {v:Value} {fp fo:Nat->Option Nat}:C.re fp fo (.sc v) = .sc v:=(show C.re fp fo (.sc v) = .sc v from by rw[C.re])
theorem zh6 {v:Value} {fp:Nat->Option Nat}:C.sel fp (.sc v) = .sc v:=(show C.sel fp (.sc v) = .sc v from by rw[C.sel])
theorem zg6 {l:List UInt8} {fp fo:Nat->Option Nat}:C.re fp fo (.str l) = .str l:=(show C.re fp fo (.str l) = .str l from by rw[C.re])
theorem zem {l:List UInt8} {fp:Nat->Option Nat}:C.sel fp (.str l) = .str l:=(show C.sel fp (.str l) = .str l from by rw[C.sel])
theorem zjB {k:Nat} {rows:List (List C)} {fp fo:Nat->Option Nat}:C.re fp fo (.sl k rows) = .sl k rows:=(show C.re fp fo (.sl k rows) = .sl k rows from by rw[C.re])
theorem zhn {k:Nat} {rows:List (List C)} {fp:Nat->Option Nat}:C.sel fp (.sl k rows) = .sl k rows:=(show C.sel fp (.sl k rows) = .sl k rows from by rw[C.sel])
theorem uG {k:Nat} {rows:List (List C)} {fp fo:Nat->Option Nat}:C.re fp fo (.tight k rows) = .tight k rows:=(show C.re fp fo (.tight k rows) = .tight k rows from by rw[C.re])
theorem zhy {cs:List C} {fp fo:Nat->Option Nat}:C.re fp fo (.row cs) = .row cs:=(show C.re fp fo (.row cs) = .row cs from by rw[C.re])
theorem zeW {cs:List C} {fp:Nat->Option Nat}:C.sel fp (.row cs) = .row cs:=(show C.sel fp (.row cs) = .row cs from by rw[C.sel])
theorem ziU {fp fo:Nat->Option Nat}:C.re fp fo (.any) = .any:=(show C.re fp fo (.any) = .any from by rw[C.re])
theorem zjy {v:Value}:C.fz bx (.sc v) = .sc v:=(show C.fz bx (.sc v) = .sc v from by rw[C.fz])
theorem zhz {l:List UInt8}:C.fz bx (.str l) = .str l:=(show C.fz bx (.str l) = .str l from by rw[C.fz])
theorem zj3 {k:Nat} {rows:List (List C)}:C.fz bx (.sl k rows) = .sl k rows:=(show C.fz bx (.sl k rows) = .sl k rows from by rw[C.fz])
theorem ziD {id e k:Nat} {rows:List (List C)}:C.fz bx (.own id e k rows) = .own id e k rows:=(show C.fz bx (.own id e k rows) = .own id e k rows from by rw[C.fz])
theorem zhb {cs:List C}:C.fz bx (.row cs) = .row cs:=(show C.fz bx (.row cs) = .row cs from by rw[C.fz])
theorem zgp {i off:Nat}:C.fz bx (.ptr i off)=zpD (bx[i]?) off:=(show C.fz bx (.ptr i off)=zpD (bx[i]?) off from by rw[C.fz];rfl)
theorem zk7 {off:Nat} {cs:List C}:zpD (some cs) off = .row ((C.frzL cs).drop off):=(rfl)
theorem zat {f:Fn} {a b:Array Value}:Value.oneCell' (.func f a b)=true:=(rfl)
theorem zhj {id e k:Nat} {rows:List (List C)} {fp fo:Nat->Option Nat}:C.re fp fo (.own id e k rows)=zo6 (fo id) e k rows:=(show C.re fp fo (.own id e k rows)=zo6 (fo id) e k rows from by rw[C.re];rfl)
theorem zge {i off:Nat} {fp fo:Nat->Option Nat}:C.re fp fo (.ptr i off)=zmj (fp i) off:=(show C.re fp fo (.ptr i off)=zmj (fp i) off from by rw[C.re];rfl)
theorem zeU {i off:Nat} {fp:Nat->Option Nat}:C.sel fp (.ptr i off)=zmj (fp i) off:=(show C.sel fp (.ptr i off)=zmj (fp i) off from by rw[C.sel];rfl)
theorem zjF {j e k:Nat} {rows:List (List C)}:zo6 (some j) e k rows = .own j e k rows:=(rfl)
theorem zkF {e k:Nat} {rows:List (List C)}:zo6 none e k rows = .sl k rows:=(rfl)
theorem zlO {j off:Nat}:zmj (some j) off = .ptr j off:=(rfl)
theorem zlF {off:Nat}:zmj none off = .any:=(rfl)
theorem zlh {v:Value} {fr:Fr}:C.fy nx fr bx (.sc v) = .sc v:=(show C.fy nx fr bx (.sc v) = .sc v from by rw[C.fy])
theorem zjI {k:Nat} {rows:List (List C)} {fr:Fr}:C.fy nx fr bx (.sl k rows) = .sl k rows:=(show C.fy nx fr bx (.sl k rows) = .sl k rows from by rw[C.fy])
theorem zma {i off k n cap:Nat} {fr:Fr}:C.fy nx fr bx (.bs i off k n cap)=ZY nx fr i off k n cap:=(show C.fy nx fr bx (.bs i off k n cap)=ZY nx fr i off k n cap from by rw[C.fy])
theorem zgT {i off k n cap i2 e k2 cap2:Nat} {rows:List (List C)} {r:Fr}:ZY nx ((i2,e,k2,rows,cap2) :: r) i off k n cap=if i=i2/\off=0/\k=k2/\n=rows.length/\cap=cap2 then .own nx e k2 rows else ZY (nx+1) r i off k n cap:=(show ZY nx ((i2,e,k2,rows,cap2) :: r) i off k n cap=if i=i2/\off=0/\k=k2/\n=rows.length/\cap=cap2 then .own nx e k2 rows else ZY (nx+1) r i off k n cap from by rw[ZY])
theorem zf8 {cs:List C} {fp fo:Nat->Option Nat}:C.re fp fo (.agg cs) = .agg (C.reL fp fo cs):=(show C.re fp fo (.agg cs) = .agg (C.reL fp fo cs) from by rw[C.re])
theorem zgQ {cs:List C} {fp fo:Nat->Option Nat}:C.re fp fo (.tup cs) = .tup (C.reL fp fo cs):=(show C.re fp fo (.tup cs) = .tup (C.reL fp fo cs) from by rw[C.re])
theorem zfP {fn:Fn} {fs cs:List C} {fp fo:Nat->Option Nat}:C.re fp fo (.clo fn fs cs) = .clo fn (C.reL fp fo fs) (C.reL fp fo cs):=(show C.re fp fo (.clo fn fs cs) = .clo fn (C.reL fp fo fs) (C.reL fp fo cs) from by rw[C.re])
theorem zd3 {fp fo:Nat->Option Nat}:C.reL fp fo [] = []:=(show C.reL fp fo [] = [] from by rw[C.reL])
theorem zba {r:List C} {fp fo:Nat->Option Nat}:C.reL fp fo (c :: r)=C.re fp fo c :: C.reL fp fo r:=(show C.reL fp fo (c :: r)=C.re fp fo c :: C.reL fp fo r from by rw[C.reL])
theorem zeB {cs:List C} {fp:Nat->Option Nat}:C.sel fp (.agg cs) = .agg (C.selL fp cs):=(show C.sel fp (.agg cs) = .agg (C.selL fp cs) from by rw[C.sel])
theorem zdj {fn:Fn} {fs cs:List C} {fp:Nat->Option Nat}:C.sel fp (.clo fn fs cs) = .clo fn (C.selL fp fs) (C.selL fp cs):=(show C.sel fp (.clo fn fs cs) = .clo fn (C.selL fp fs) (C.selL fp cs) from by rw[C.sel])
theorem za4 {fp:Nat->Option Nat}:C.selL fp [] = []:=(show C.selL fp [] = [] from by rw[C.selL])
theorem yn {r:List C} {fp:Nat->Option Nat}:C.selL fp (c :: r)=C.sel fp c :: C.selL fp r:=(show C.selL fp (c :: r)=C.sel fp c :: C.selL fp r from by rw[C.selL])
theorem zht {cs:List C} :C.fz bx (.agg cs) = .agg (C.fzL bx cs):=(show C.fz bx (.agg cs) = .agg (C.fzL bx cs) from by rw[C.fz])
theorem zgP {cs:List C} :C.fz bx (.tup cs) = .tup (C.fzL bx cs):=(show C.fz bx (.tup cs) = .tup (C.fzL bx cs) from by rw[C.fz])
theorem zgM {fn:Fn} {fs cs:List C} :C.fz bx (.clo fn fs cs) = .clo fn (C.fzL bx fs) (C.fzL bx cs):=(show C.fz bx (.clo fn fs cs) = .clo fn (C.fzL bx fs) (C.fzL bx cs) from by rw[C.fz])
theorem zeg:C.fzL bx [] = []:=(show C.fzL bx [] = [] from by rw[C.fzL])
theorem uy {r:List C} :C.fzL bx (c :: r)=C.fz bx c :: C.fzL bx r:=(show C.fzL bx (c :: r)=C.fz bx c :: C.fzL bx r from by rw[C.fzL])
theorem zgh {cs:List C} {fr:Fr}:C.fy nx fr bx (.agg cs) = .agg (C.fyL nx fr bx cs):=(show C.fy nx fr bx (.agg cs) = .agg (C.fyL nx fr bx cs) from by rw[C.fy])
theorem zgI {cs:List C} {fr:Fr}:C.fy nx fr bx (.tup cs) = .tup (C.fyL nx fr bx cs):=(show C.fy nx fr bx (.tup cs) = .tup (C.fyL nx fr bx cs) from by rw[C.fy])
theorem zeH {fr:Fr}:C.fyL nx fr bx [] = []:=(show C.fyL nx fr bx [] = [] from by rw[C.fyL])
theorem uK {r:List C} {fr:Fr}:C.fyL nx fr bx (c :: r)=C.fy nx fr bx c :: C.fyL nx fr bx r:=(show C.fyL nx fr bx (c :: r)=C.fy nx fr bx c :: C.fyL nx fr bx r from by rw[C.fyL])
theorem zff {cs:List C}:C.frz (.agg cs) = .agg (C.frzL cs):=(show C.frz (.agg cs) = .agg (C.frzL cs) from by rw[C.frz])
theorem zej {fn:Fn} {fs cs:List C}:C.frz (.clo fn fs cs) = .clo fn (C.frzL fs) (C.frzL cs):=(show C.frz (.clo fn fs cs) = .clo fn (C.frzL fs) (C.frzL cs) from by rw[C.frz])
theorem zaK:C.frzL [] = []:=(show C.frzL [] = [] from by rw[C.frzL])
theorem ML {r:List C}:C.frzL (c :: r)=C.frz c :: C.frzL r:=(show C.frzL (c :: r)=C.frz c :: C.frzL r from by rw[C.frzL])
theorem zhh {cs:List C} {id:Nat}:C.dg id (.agg cs) = .agg (C.dgL id cs):=(show C.dg id (.agg cs) = .agg (C.dgL id cs) from by rw[C.dg])
theorem zgu {cs:List C} {id:Nat}:C.dg id (.tup cs) = .tup (C.dgL id cs):=(show C.dg id (.tup cs) = .tup (C.dgL id cs) from by rw[C.dg])
theorem zhs {fn:Fn} {fs cs:List C} {id:Nat}:C.dg id (.clo fn fs cs) = .clo fn (C.dgL id fs) (C.dgL id cs):=(show C.dg id (.clo fn fs cs) = .clo fn (C.dgL id fs) (C.dgL id cs) from by rw[C.dg])
theorem zfj {id:Nat}:C.dgL id [] = []:=(show C.dgL id [] = [] from by rw[C.dgL])
theorem zad {r:List C} {id:Nat}:C.dgL id (c :: r)=C.dg id c :: C.dgL id r:=(show C.dgL id (c :: r)=C.dg id c :: C.dgL id r from by rw[C.dgL])
theorem ziG {cs:List C} {n:Nat}:C.sh n (.agg cs) = .agg (C.shL n cs):=(show C.sh n (.agg cs) = .agg (C.shL n cs) from by rw[C.sh])
theorem zf5 {cs:List C} {n:Nat}:C.sh n (.tup cs) = .tup (C.shL n cs):=(show C.sh n (.tup cs) = .tup (C.shL n cs) from by rw[C.sh])
theorem zil {fn:Fn} {fs cs:List C} {n:Nat}:C.sh n (.clo fn fs cs) = .clo fn (C.shL n fs) (C.shL n cs):=(show C.sh n (.clo fn fs cs) = .clo fn (C.shL n fs) (C.shL n cs) from by rw[C.sh])
theorem zeZ {n:Nat}:C.shL n [] = []:=(show C.shL n [] = [] from by rw[C.shL])
theorem uE {r:List C} {n:Nat}:C.shL n (c :: r)=C.sh n c :: C.shL n r:=(show C.shL n (c :: r)=C.sh n c :: C.shL n r from by rw[C.shL])
theorem uQ {id:Nat}:zbg id [] = []:=(rfl)
theorem zmK {id u:Nat} {r:List (Nat×C)}:zbg id ((u,c) :: r)=(u,c.dg id) :: zbg id r:=(rfl)
theorem zal {id:Nat}:Mp id [] = []:=(rfl)
theorem zoq {id:Nat} {cs:List C} {r:List (List C)}:Mp id (cs :: r)=C.dgL id cs :: Mp id r:=(rfl)
theorem M6 {l:List UInt8}:C.cellB (.str l)=true:=(rfl)
theorem xB {l:List UInt8}:C.partB (.str l)=true:=(rfl)
theorem ME {l:List UInt8}:C.cells (.str l) = [.str l]:=(rfl)
theorem um {k:Nat} {rows:List (List C)}:C.cellB (.sl k rows)=true:=(rfl)
theorem uV {k:Nat} {rows:List (List C)}:C.partB (.sl k rows)=true:=(rfl)
theorem uB {k:Nat} {rows:List (List C)}:C.cells (.sl k rows) = [.sl k rows]:=(rfl)
theorem Mu {id e k:Nat} {rows:List (List C)}:C.cellB (.own id e k rows)=true:=(rfl)
theorem M3 {id e k:Nat} {rows:List (List C)}:C.partB (.own id e k rows)=true:=(rfl)
theorem MP {id e k:Nat} {rows:List (List C)}:C.cells (.own id e k rows) = [.own id e k rows]:=(rfl)
theorem zaZ {v:Value}:C.cellB (.sc v)=v.oneCell':=(rfl)
theorem u7 {v:Value}:C.partB (.sc v)=v.oneCell':=(rfl)
theorem uH {v:Value}:C.cells (.sc v) = [.sc v]:=(rfl)
theorem MN {cs:List C}:C.partB (.agg cs)=true:=(rfl)
theorem x9 {cs:List C}:C.cells (.agg cs)=cs:=(rfl)
theorem zeu {k:IntKind} {n:Int}:Value.oneCell' (.int k n)=true:=(rfl)
theorem uC {b:Bool}:Value.oneCell' (.bool b)=true:=(rfl)
theorem MZ {a:Option Addr} {n m:Nat}:Value.oneCell' (.slice a n m)=true:=(rfl)
theorem Nd {s:ByteArray}:Value.oneCell' (.string s)=true:=(rfl)
theorem zjR {k:Nat} {cs:List C}:XJ k 0 cs = []:=(rfl)
theorem zkI {k n:Nat} {cs:List C}:XJ k (n+1) cs=cs.take k :: XJ k n (cs.drop k):=(rfl)
theorem zjZ {i:Nat}:Va i [] = []:=(rfl)
theorem zmH {i:Nat} {r:List C}:Va i (c :: r)=(i,c) :: Va (i+1) r:=(rfl)
theorem zcc:zjS (.sc (.bool true)) X Y ⟨⟩ ⟨⟩=X:=zfN
theorem zbb:zjS (.sc (.bool false)) X Y ⟨⟩ ⟨⟩=Y:=zeb
theorem br {b:Bool} (hx:b=true->X) (hy:b=false->Y):zjS (.sc (.bool b)) X Y ⟨⟩ ⟨⟩:=ABr.mk hx hy
theorem YR {f:FuncId} {args fargs a1:List C} {fbx:List (List C)} {q:Nat} {post:C->List (List C)->Nat->Prop} (ι κ:List Nat) (hf:YX P G f a1 fbx q post) (hq:κ.length=q) (hι:ι.Nodup) (hκ:κ.Nodup) (hb:∀ i∈ι,i<bx.length)
  (ha:C.reL (XE ι) (XE κ) args=a1) (hx:(ι.map fun i=>C.reL (XE ι) (XE κ) (bx.getD i []))=fbx) (hK:∀ r fbx' n,post r fbx' n->K3 (r.re (upB ι bx.length) (upO nx)) (ZC ι κ fbx' n ⟨tm,bx,nx,lg⟩)):QW P G f args fargs ⟨tm,bx,nx,lg⟩ K3 ⟨⟩:=
 .inr <| .inr <| .inr <| .inl ⟨ι,κ,post,hι,hκ,hb,by rw[ha,hq];exact hx▸hf,hK⟩
theorem zmx {f:FuncId} {args fargs:List C} {r:C} (hf:zqe P f args bx r) (hK:K3 r ⟨tm,bx,nx,lg⟩):QW P G f args fargs ⟨tm,bx,nx,lg⟩ K3 ⟨⟩:=.inr <| .inr <| .inr <| .inr ⟨r,hf,hK⟩
theorem zpw {e s1 b1 k by' m i off n cap:Nat} {kd:LK} {z1 z:Option (List Value)} {xs cs:List C} (hl:lay P t=some ⟨.slice e,s1,b1,z1⟩) (hle:lay P e=some ⟨kd,k,by',z⟩) (hx:d.xs? k bx=some (m,xs)) (hb:bx[i]?=some cs) (hxl:xs.length=m*k) (hfit:off+n*k<=cs.length)
  (hK:K3 (.sc (.int .i64 ((min m n:Nat):Int))) ⟨tm,bx.set i (spl cs off (xs.take (min m n*k))),nx,lg⟩):zey P t (.bs i off k n cap) d ⟨tm,bx,nx,lg⟩ K3 ⟨⟩:=by
 show ZX P t _ _ _ _
 unfold ZX
 simp only[hl,hle,hx,hb]
 exact ⟨trivial,hxl,hfit,hK⟩
theorem vi {e s1 b1 k by' m:Nat} {kd:LK} {z1:Option (List Value)} {z:List Value} {xs:List C} (hl:lay P t=some ⟨.slice e,s1,b1,z1⟩) (hle:lay P e=some ⟨kd,k,by',some z⟩) (hx:d.xs? k bx=some (m,xs)) (hz:z.length=k) (hk:0<k) (h1:(z.all Value.oneCell')=true) (hxl:xs.length=m*k) (hm:0<m) (h63:m<=9223372036854775807) (hby:m*by'<=140737488355328)
  (hK:∀ cap,m<=cap->cap<=9223372036854775807->K3 (.bs bx.length 0 k m cap) ⟨tm,bx++[xs++List.replicate ((cap-m)*k) .any],nx,lg⟩):xd P t (.sc (.slice none 0 0)) d ⟨tm,bx,nx,lg⟩ K3 ⟨⟩:=by
 show JJ P t _ _ _ _
 unfold JJ
 simp only[hl,hle,hx]
 exact ⟨hz,hk,h1,hxl,hm,h63,hby,fun c h1 h2=>hK c h1 (by unfold maxLen at h2;omega)⟩
theorem UI {e s1 b1 k by' m i off n cap:Nat} {kd:LK} {z1:Option (List Value)} {z:List Value} {xs cs:List C} (hl:lay P t=some ⟨.slice e,s1,b1,z1⟩) (hle:lay P e=some ⟨kd,k,by',some z⟩) (hx:d.xs? k bx=some (m,xs)) (hz:z.length=k) (hk:0<k) (h1:(z.all Value.oneCell')=true) (hxl:xs.length=m*k)
  (hb:bx[i]?=some cs) (hfit:off+cap*k<=cs.length) (hn:n<=cap) (h63:n+m<=9223372036854775807) (hby:(n+m)*by'<=140737488355328)
  (hK1:n+m<=cap->K3 (.bs i off k (n+m) cap) ⟨tm,bx.set i (spl cs (off+n*k) xs),nx,lg⟩)
  (hK2:cap<n+m->∀ c',n+m<=c'->c'<=9223372036854775807->K3 (.bs bx.length 0 k (n+m) c') ⟨tm,bx++[(cs.drop off).take (n*k)++xs++List.replicate ((c'-(n+m))*k) .any],nx,lg⟩):xd P t (.bs i off k n cap) d ⟨tm,bx,nx,lg⟩ K3 ⟨⟩:=by
 show JJ P t _ _ _ _
 unfold JJ
 simp only[hl,hle,hx,hb]
 exact ⟨hz,hk,h1,hxl,trivial,hfit,hn,h63,hby,hK1,fun h c h1 h2=>hK2 h c h1 (by unfold maxLen at h2;omega)⟩
theorem zfl {tn e s1 b1 s2 b2 k by':Nat} {kn kq:IntKind} {kd:LK} {z1 z2:Option (List Value)} {z:List Value} {q:Int} (hl:lay P t=some ⟨.slice e,s1,b1,z1⟩) (hln:lay P tn=some ⟨.int kn,s2,b2,z2⟩) (hle:lay P e=some ⟨kd,k,by',some z⟩) (hz:z.length=k) (hk:0<k) (h1:(z.all Value.oneCell')=true)
  (hq:0<q) (h63:q<=9223372036854775807) (hby:q*by'<=140737488355328) (hK:∀ c',q.toNat<=c'->c'<=maxLen->K3 (.bs bx.length 0 k q.toNat c') ⟨tm,bx++[(List.replicate q.toNat (z.map zt)).flatten++List.replicate ((c'-q.toNat)*k) .any],nx,lg⟩) :
  vl P t tn (.sc (.slice none 0 0)) (.sc (.int kq q)) ⟨tm,bx,nx,lg⟩ K3 ⟨⟩:=by
 show kZ P t tn _ _ _ _
 unfold kZ
 simp only[hl,hln,hle]
 exact ⟨hz,hk,h1,hq,h63,hby,hK⟩
theorem zrf {tn e s1 b1 s2 b2 k by' i off n cap:Nat} {kn kq:IntKind} {kd:LK} {z1 z2:Option (List Value)} {z:List Value} {cs:List C} {q:Int} (hl:lay P t=some ⟨.slice e,s1,b1,z1⟩) (hln:lay P tn=some ⟨.int kn,s2,b2,z2⟩) (hle:lay P e=some ⟨kd,k,by',some z⟩) (hz:z.length=k) (hk:0<k) (h1:(z.all Value.oneCell')=true)
  (hb:bx[i]?=some cs) (hfit:off+cap*k<=cs.length) (hn:n<=cap) (hq:0<q) (h63:(n:Int)+q<=9223372036854775807) (hby:((n:Int)+q)*by'<=140737488355328) (hg:(cap:Int)<n+q)
  (hK:∀ c',n+q.toNat<=c'->c'<=9223372036854775807->K3 (.bs bx.length 0 k (n+q.toNat) c') ⟨tm,bx++[(cs.drop off).take (n*k)++(List.replicate q.toNat (z.map zt)).flatten++List.replicate ((c'-(n+q.toNat))*k) .any],nx,lg⟩):vl P t tn (.bs i off k n cap) (.sc (.int kq q)) ⟨tm,bx,nx,lg⟩ K3 ⟨⟩:=by
 show kZ P t tn _ _ _ _
 unfold kZ
 simp only[hl,hln,hle,hb]
 exact ⟨hz,hk,h1,trivial,hfit,hn,hq,h63,hby,hg,fun c h1 h2=>hK c h1 (by unfold maxLen at h2;omega)⟩
def opB (P:Program) (fn:Func) (code:Code) (b:Nat->List Bool):Bool:=P.follows .mixedOrders&&(!(fn.name == "runtime.NumGoroutine")&&qU fn.ntmps b code)
theorem znX {fn:Func} {code:Code} {b:Nat->List Bool} (h:opB P fn code b=true):P.follows .mixedOrders=true:=(Bool.and_eq_true_iff.1 h).1
theorem zmt {fn:Func} {code:Code} {b:Nat->List Bool} (h:opB P fn code b=true):(fn.name == "runtime.NumGoroutine")=false:=by
 have:=(Bool.and_eq_true_iff.1 (Bool.and_eq_true_iff.1 h).2).1
 simpa using this
theorem zno {fn:Func} {code:Code} {b:Nat->List Bool} (h:opB P fn code b=true):qU fn.ntmps b code=true:=(Bool.and_eq_true_iff.1 (Bool.and_eq_true_iff.1 h).2).2
theorem foF {f:FuncId} {fn:Func} {code:Code} {args:List C} {r:C} {n:Nat} (b:Nat->List Bool) (hf:P.funcs[f]?=some fn)
  (h:Q9 P G ⟨0,none,b⟩ code (Ne P fn.results.toList (fun c σ=>∃ (fr:Fr) (src:Src),zfE fr σ.bx/\XK src=true/\src.length=n/\CLe src 0 (c.fy σ.nx fr σ.bx) r) ⟨⟩) ⟨Va 0 args,[],0,0⟩ ⟨⟩ ⟨⟩) (hb:fn.body=some code:=by rfl) (hN:args.length<=fn.ntmps:=by exact zg9 rfl) (ho:opB P fn code b=true:=by kernel_rfl):Fun P G f args r n:=Fun.of_awpF b (znX ho) hf hb (zmt ho) hN (zno ho) h
theorem foX {f:FuncId} {fn:Func} {code:Code} {args:List C} {bx:List (List C)} {q:Nat} {post:C->List (List C)->Nat->Prop} (b:Nat->List Bool) (hf:P.funcs[f]?=some fn)
  (h:Q9 P G ⟨bx.length,none,b⟩ code (Ne P fn.results.toList (fun c σ=>∃ r bx' n,(post r bx' n/\bx.length<=bx'.length)/\∃ src:Src,XK src=true/\src.length=n/\za src bx'.length σ.bx bx'/\CLe src bx'.length c r) ⟨⟩) ⟨Va 0 args,bx,q,0⟩ ⟨⟩ ⟨⟩) (hb:fn.body=some code:=by rfl) (hN:args.length<=fn.ntmps:=by exact zg9 rfl) (ho:opB P fn code b=true:=by kernel_rfl):YX P G f args bx q post:=YX.of_awp b (znX ho) hf hb (zmt ho) hN (zno ho) h
theorem call {f:FuncId} {args fargs:List C} {r:C} {n:Nat} (hf:Fun P G f fargs r n) (hK:K3 (r.sh nx) ⟨tm,bx,nx+n,lg⟩):QW P G f args fargs ⟨tm,bx,nx,lg⟩ K3 ⟨⟩:=.inl ⟨r,n,hf,hK⟩
theorem UM {f:FuncId} {args:List C} {r:C} {n:Nat} (hf:Fun P G f args r n) (hK:K2 (r.sh nx) (nx+n)):M5 P G f args nx K2 ⟨⟩:=yD.mk hf hK
theorem Fun.less {f:FuncId} {args args':List C} {r:C} {n:Nat} (hf:Fun P G f args' r n) (hl:ze [] 0 args args'):Fun P G f args r n:=⟨hf.1,fun R vs hg ha=>hf.2 R vs hg (by
 have:=zm.less _ _ _ hl ha
 refine zm.ext (Ext.refl R) ⟨fun i b hb=>?_,fun id x hx=>?_⟩ _ _ this
 ·simp at hb
 ·have hx:QU [] zu.T id=some x:=hx
  simp[QU]at hx)⟩
theorem zhc {f:FuncId} {args fargs a1:List C} {fbx fbx':List (List C)} {r:C} {n q:Nat} (ι κ:List Nat) (hf:zaW P G f a1 fbx q r fbx' n) (hq:κ.length=q) (hι:ι.Nodup) (hκ:κ.Nodup) (hb:∀ i∈ι,i<bx.length)
  (ha:C.reL (XE ι) (XE κ) args=a1) (hx:(ι.map fun i=>C.reL (XE ι) (XE κ) (bx.getD i []))=fbx) (hK:K3 (r.re (upB ι bx.length) (upO nx)) (ZC ι κ fbx' n ⟨tm,bx,nx,lg⟩)):QW P G f args fargs ⟨tm,bx,nx,lg⟩ K3 ⟨⟩:=
 .inr <| .inl ⟨ι,κ,r,fbx',n,hι,hκ,hb,by rw[ha,hq];exact hx▸hf,hK⟩
theorem range {A B:Nat->(Exit->St->Prop)->St->Prop} {ps:List Tmp} {f:FuncId} {first cap first' cap':List C} {bx':List (List C)} (items:List (List C)) (sf:Nat->Bool) (m:Nat) (I:Nat->St) (hit:Mc P G f first' cap' bx' items) (e1:C.selL (Yh m) first=first') (e2:C.selL (Yh m) cap=cap') (e3:(bx.drop m).map (C.selL (Yh m))=bx')
  (hp:p<=m) (hm:m<=bx.length) (hlen:∀ it∈items,it.length=ps.length) (hI:∀ k,k<=items.length->(I k).bx.length=m) (hw:j9 m ⟨[],bx,nx,lg⟩ ((I 0).wt []))
  (hbody:∀ k it,items[k]?=some it->(∀ j,j<k->sf j=false)->A m (zi6 (B m (xj m (Ux m tm) (sf k) (I (k+1)) Q ⟨⟩ ⟨⟩)) ⟨⟩) ((I k).wt (Ze ps it (Ux m tm))))
  (hdone:(∀ j,j<items.length->sf j=false)->Q .normal ((I items.length).wt (Ux m tm))):zeY P G p A B Q ps (.clo (.func f) first cap) ⟨tm,bx,nx,lg⟩ ⟨⟩ ⟨⟩ ⟨⟩:=
 ⟨items,sf,m,I,hp,hm,by rw[e1,e2];exact e3▸hit,hlen,hI,hw,hbody,hdone⟩
theorem loop {B:(Exit->St->Prop)->St->Prop} {ι:Type} (I:ι->St) (ok:ι->Prop) (μ:ι->Nat) (i0:ι) (h0:ok i0) (hw:j9 p σ (I i0))
  (hr:∀ i,ok i->B (yz (fun σ'=>∃ j,ok j/\μ j<μ i/\j9 p σ' (I j)) Q ⟨⟩ ⟨⟩) (I i)):zdf p B Q σ ⟨⟩ ⟨⟩:=⟨ι,I,ok,μ,i0,h0,hw,hr⟩
theorem fof {f:FuncId} {fn:Func} {code:Code} {args:List C} {r:C} {n:Nat} (b:Nat->List Bool) (hf:P.funcs[f]?=some fn)
  (h:Q9 P G ⟨0,none,b⟩ code (Ne P fn.results.toList (fun c σ=>∃ src:Src,XK src=true/\src.length=n/\CLe src 0 (c.fz σ.bx) r) ⟨⟩) ⟨Va 0 args,[],0,0⟩ ⟨⟩ ⟨⟩) (hb:fn.body=some code:=by rfl) (hN:args.length<=fn.ntmps:=by exact zg9 rfl) (ho:opB P fn code b=true:=by kernel_rfl):Fun P G f args r n:=Fun.of_awp b (znX ho) hf hb (zmt ho) hN (zno ho) h
theorem fon {f:FuncId} {fn:Func} {code:Code} {args:List C} {r:C} {n:Nat} (hf:P.funcs[f]?=some fn)
  (h:Q9 P G ⟨0,none,fun _=>[]⟩ code (Ne P fn.results.toList (fun c σ=>∃ src:Src,XK src=true/\src.length=n/\CLe src 0 (c.fz σ.bx) r) ⟨⟩) ⟨Va 0 args,[],0,0⟩ ⟨⟩ ⟨⟩) (hb:fn.body=some code:=by rfl) (hN:args.length<=fn.ntmps:=by exact zg9 rfl) (ho:opB P fn code (fun _=>[])=true:=by kernel_rfl):Fun P G f args r n:=fof _ hf h hb hN ho
theorem foB {f:FuncId} {fn:Func} {code:Code} {args:List C} {bx bx':List (List C)} {r:C} {q n:Nat} (b:Nat->List Bool) (hf:P.funcs[f]?=some fn)
  (h:Q9 P G ⟨bx.length,none,b⟩ code (Ne P fn.results.toList (fun c σ=>∃ src:Src,XK src=true/\src.length=n/\za src bx'.length σ.bx bx'/\CLe src bx'.length c r) ⟨⟩) ⟨Va 0 args,bx,q,0⟩ ⟨⟩ ⟨⟩) (hb:fn.body=some code:=by rfl) (hN:args.length<=fn.ntmps:=by exact zg9 rfl) (ho:opB P fn code b=true:=by kernel_rfl) (hlen:bx.length<=bx'.length:=by exact zg9 rfl):zaW P G f args bx q r bx' n:=zaW.of_awp b (znX ho) hf hb (zmt ho) hN (zno ho) hlen h
theorem foI {f:FuncId} {fn:Func} {code:Code} {first cap:List C} {bx items:List (List C)} (b:Nat->List Bool) (hf:P.funcs[f]?=some fn)
  (h:∀ (l:Nat) (sf:Nat->Bool),Q9 P G ⟨0,some ⟨l,items,sf⟩,b⟩ code (Ne P fn.results.toList (fun c σ=>zj8 items sf σ.lg) ⟨⟩) ⟨Va 0 (first++[.sc (.func (.yield l) #[] #[])]++cap),bx,0,0⟩ ⟨⟩ ⟨⟩) (hb:fn.body=some code:=by rfl) (hN:first.length+1+cap.length<=fn.ntmps:=by exact zg9 rfl) (ho:opB P fn code b=true:=by kernel_rfl):Mc P G f first cap bx items:=Mc.of_awp b (znX ho) hf hb (zmt ho) hN (zno ho) h
theorem zqt {i m k n cap b:Nat} {cs xs:List C} {z1:List Value} (A:List C) (hbx:bx[i]?=some cs) (h1:z1.length=k) (h2:0<k) (h3:(z1.all Value.oneCell')=true) (h4:0<m) (hp:p<=i) (hl:cs.length=cap*k) (hn:n<=cap) (hc:cap<=9223372036854775807)
  (h5:n+m<=9223372036854775807) (h6:(n+m)*b<=140737488355328) (hA:C.reL (Ji i) some (cs.take (n*k)++xs)=A)
  (hK:∀ c',n+m<=c'->c'<=9223372036854775807->K3 (.bs i 0 k (n+m) c') ⟨U8 (Ji i) some tm,QI i (A++List.replicate ((c'-(n+m))*k) .any) bx,nx,lg⟩):zm7 (some (m,xs)) p k b z1 (.bs i 0 k n cap) ⟨tm,bx,nx,lg⟩ K3 ⟨⟩:=by
 refine ⟨h1,h2,h3,h4,?_⟩
 simp only[hbx]
 exact ⟨trivial,hp,hl,hn,hc,h5,h6,fun c' q1 q2=>by rw[hA];exact hK c' q1 (by unfold maxLen at q2;omega)⟩
theorem vZ (k:Nat):((k:Int)+1).toNat=k+1:=by omega
theorem zhg.mk {B:(Exit->St->Prop)->St->Prop} {ι:Type} (I:ι->St) (ok:ι->Prop) (μ:ι->Nat) (i0:ι) (h0:ok i0) (hw:j9 p σ (I i0))
  (hr:∀ i,ok i->B (zjT (fun σ'=>∃ j,ok j/\μ j<μ i/\j9 p σ' (I j)) Q) (I i)):zhg p B Q σ:=⟨ι,I,ok,μ,i0,h0,hw,hr⟩
end
attribute [push_cast] eq_self iff_self List.append_eq zqr zrn zrk zrs zpF zaO zpY zli zha znJ zn1 zns znj zlr zmB znI zlM zpC zoo zl7 zo1 zpZ zqf znF zlK znE zis zko zhd zb0 zir ziP zgU zfy zef zdO zhf znt zoP zm0 zmo zd2 xM zqM zgz zkZ zk1 zml zon xY ud zbs NS Nh xZ zbi Nm zgH xm zai zlN zkN zoO znQ zmr zmE znP zoS zjH zmM zhF ziq zgl zgE zgW zkC zoz znk zlQ zl9 zbe za0 yx MV UN UL zm3 zl1 zhR zhG zaN zaP zhi zfQ zfk zdw zgj zgq GB Nn zcA zc5 zgF zfT MW Ma zbS zd0 HO Hj zdl zcr kR He zdt ze3 yc xu zcM zb4 zlc zll MH zmp zj5 zaL zne zit zaR zmD zaQ zhC zfX zjO zpW zio zcs zaH zcu zl4 zdy zf2 v6 zcX MG ym zmG xt Gn yl kW xF MQ Nj zcP zeF zcn GY zft G4 zcv zaw zeI za5 zgd zeV zg0 zeM zbI zdH zcj zen zeS zer ze7 zdo zdA zcO zdL zec zda zhZ zcB zpx zbR zoZ zea zqw zpg u9 zeN uX uq uP zla Ht zaY MS zaF G6 NE zkT zfJ zeP zqS zpR zfV zhS zrl zak za2 zex zbY uI MJ zaC zc8 zbU ziI zfK zgw zru zqu zp2 zpv zra zpn zpz zkB znW zkX zjQ zfM zkA zmO znn zau uY uR zos zrq zke zq4 zp5 zn9 zqR zph zas zfz zgn uO zmq zmV zgv zgb zhQ zaA zag uu zbw uS zmy zaJ zhO ziQ zfn zes ziC zfA zbN znu zmw zka zim zq0 zlI znf zlD zpJ zqj zrj zpN zpu zpS zc1 zcZ zna zpL zp6 znL zob zqk zqp zpf zk2 zlx zg3 zoi zpl zqb zkM znO zlA zmT zig zg8 zhe zkd zf3 zhV zk8 zpU zp1 zqd zpO zhP zls zk5 zfg zhL zhW zga zky zk4 zdN zgo ziR zhN zgK zj2 zkx zjD zjM ub zoe uh zdP zc9 ziw zhA zgm zkt zh6 zg6 zem zjB zhn uG zhy zeW ziU zjy zhz zj3 ziD zhb zgp zk7 zat zhj zge zeU zjF zkF zlO zlF zlh zjI zma zgT zf8 zgQ zfP zd3 zba zeB zdj za4 yn zht zgP zgM zeg uy zgh zgI zeH uK zff zej zaK ML zhh zgu zhs zfj zad ziG zf5 zil zeZ uE uQ zmK zal zoq M6 xB ME um uV uB Mu M3 MP zaZ u7 uH MN x9 zeu uC MZ Nd zjR zkI zjZ zmH zcc zbb
attribute [push_cast] Int.ofNat_eq_natCast Bool.not_false Bool.not_true Bool.true_beq Bool.false_beq beq_self_eq_true Bool.true_and zj1 zkg zov zj6 zk3 List.map_cons List.map_nil List.getElem?_cons_zero List.getElem?_cons_succ List.getElem?_toArray List.getElem?_nil List.drop_zero List.drop_succ_cons List.drop_nil List.take_succ_cons List.take_zero List.take_nil List.length_cons List.length_nil List.getD_cons_zero List.getD_cons_succ List.set_cons_zero List.set_cons_succ List.cons_append List.nil_append List.append_nil List.all_cons List.all_nil List.tail_cons List.tail_nil List.headD_cons List.headD_nil List.flatten_cons List.flatten_nil List.replicate_succ List.replicate_zero Bool.and_self Bool.and_true Bool.true_and Bool.not_true Bool.not_false Option.bind_some Option.map_some Option.map_none if_true if_false true_and and_true and_self decide_true decide_false Int.ofNat_le Int.ofNat_lt Int.natCast_inj vZ Int.toNat_natCast Nat.zero_add Nat.add_zero List.toList_toArray Int.add_zero Int.zero_add Bool.not_not Int.sub_zero Int.natCast_pos Nat.sub_zero Int.cast_ofNat_Int Nat.one_mul Nat.mul_one
theorem dn {p q r:Src->Prop} (c:r []:=by push_cast -dsimp [zb,za,CLe,ze]) (a:p []:=by rfl) (b:q []:=by rfl):∃ s,p s/\q s/\r s:=⟨[],a,b,c⟩
theorem wks {p:Nat} {σ σ':St} (src:Src) (h4:zb src σ'.bx.length σ.tm σ'.tm:=by push_cast -dsimp [zb,za,CLe,ze]) (h5:za src σ'.bx.length σ.bx σ'.bx:=by push_cast -dsimp [zb,za,CLe,ze]) (h1:XK src=true:=by rfl) (h2:src.length=σ'.nx:=by rfl)
  (h3:p<=σ'.bx.length:=by first | exact Nat.zero_le _ | exact Nat.le_refl _ | exact zg9 rfl) (h0:σ'.lg=σ.lg:=by rfl):j9 p σ σ':=⟨src,h1,h2,h3,h0,h4,h5⟩
theorem wk {p:Nat} {σ σ':St} (h4:zb [] σ'.bx.length σ.tm σ'.tm:=by push_cast -dsimp [zb,za,CLe,ze]) (h5:za [] σ'.bx.length σ.bx σ'.bx:=by push_cast -dsimp [zb,za,CLe,ze]) (h2:([]:Src).length=σ'.nx:=by rfl)
  (h3:p<=σ'.bx.length:=by first | exact Nat.zero_le _ | exact Nat.le_refl _ | exact zg9 rfl) (h0:σ'.lg=σ.lg:=by rfl):j9 p σ σ':=⟨[],rfl,h2,h3,h0,h4,h5⟩
theorem an {a b:Prop} (k:b) (h:a:=by first | omega | (simp only[lS];omega)):a/\b:=⟨h,k⟩
namespace CA
theorem cl {P:Program} {G:zk} {f:FuncId} {args fargs:List C} {r:C} {n nx lg:Nat} {tm:List (Nat×C)} {bx:List (List C)} {K3:C->St->Prop} (hf:Fun P G f fargs r n) (hK:K3 (r.sh nx) ⟨tm,bx,nx+n,lg⟩):QW P G f args fargs ⟨tm,bx,nx,lg⟩ K3 ⟨⟩:=call hf hK
end CA
namespace CB
theorem cl {P:Program} {G:zk} {f:FuncId} {args:List C} {r:C} {n nx:Nat} {K2:C->Nat->Prop} (hf:Fun P G f args r n) (hK:K2 (r.sh nx) (nx+n)):M5 P G f args nx K2 ⟨⟩:=UM hf hK
end CB
end
section
open Go.RowKit
def C.stayB:C->Bool
 | .sc _ | .str _ | .sl _ _ | .tight _ _ | .row _ | .any=>true
 | _=>false
theorem zh8 {c:C} (h:c.stayB=true):c.frz=c:=by cases c<;>simp[C.stayB]at h<;>simp[C.frz]
theorem zkO {c:C} {fp fo:Nat->Option Nat} (h:c.stayB=true):c.re fp fo=c:=by cases c<;>simp[C.stayB]at h<;>simp[C.re]
theorem zjG {c:C} {src:Src} {n:Nat} (h:c.stayB=true):CLe src n c c:=by cases c<;>simp[C.stayB]at h<;>simp[CLe]
theorem Gz:∀ {cs:List C},(cs.all C.stayB)=true->C.frzL cs=cs
 | [],_=>by simp[C.frzL]
 | c :: r,h=>by
  simp only[List.all_cons,Bool.and_eq_true]at h
  rw[C.frzL,zh8 h.1,Gz h.2]
theorem qw {fp fo:Nat->Option Nat}:∀ {cs:List C},(cs.all C.stayB)=true->C.reL fp fo cs=cs
 | [],_=>by simp[C.reL]
 | c :: r,h=>by
  simp only[List.all_cons,Bool.and_eq_true]at h
  rw[C.reL,zkO h.1,qw h.2]
theorem zX {src:Src} {n:Nat}:∀ {cs:List C},(cs.all C.stayB)=true->ze src n cs cs
 | [],_=>by simp[ze]
 | c :: r,h=>by
  simp only[List.all_cons,Bool.and_eq_true]at h
  rw[ze]
  exact ⟨zjG h.1,zX h.2⟩
theorem zkv {src:Src} {n:Nat} (c:C):CLe src n c .any:=by cases c<;>simp[CLe]
theorem X5 {src:Src} {n:Nat}:∀ {cs:List C} {m:Nat},cs.length=m->ze src n cs (List.replicate m .any)
 | [],_,h=>by subst h;simp[ze]
 | c :: r,_,h=>by
  subst h
  rw[List.length_cons,List.replicate_succ,ze]
  exact ⟨zkv c,X5 rfl⟩
theorem zc3 {src:Src} {n:Nat}:∀ {a b c d:List C},ze src n a c->ze src n b d->ze src n (a++b) (c++d)
 | [],b,[],d,_,h=>h
 | [],b,x :: c,d,h,_=>by simp[ze]at h
 | x :: a,b,[],d,h,_=>by simp[ze]at h
 | x :: a,b,y :: c,d,h,h'=>by
  rw[List.cons_append,List.cons_append,ze]
  rw[ze]at h
  exact ⟨h.1,zc3 h.2 h'⟩
def jy (k:Nat) (rows:List (List C)) (c:Nat):List C:=rows.flatten++List.replicate ((c-rows.length)*k) .any
theorem qk {k:Nat}:∀ {rows:List (List C)},(∀ r∈rows,r.length=k)->rows.flatten.length=rows.length*k
 | [],_=>by simp
 | r :: rs,h=>by
  rw[List.flatten_cons,List.length_append,h r List.mem_cons_self,qk fun x hx=>h x (List.mem_cons_of_mem _ hx),List.length_cons,Nat.succ_mul,Nat.add_comm]
theorem Qu {k c:Nat} {rows:List (List C)} (h:∀ r∈rows,r.length=k) (hc:rows.length<=c):(jy k rows c).length=c*k:=by
 unfold jy
 rw[List.length_append,qk h,List.length_replicate,←Nat.add_mul]
 congr 1;omega
abbrev jI (rows:List (List C)):Prop:=∀ r∈rows,(r.all C.stayB)=true
theorem XC {rows:List (List C)} (h:jI rows):(rows.flatten.all C.stayB)=true:=by
 rw[List.all_eq_true]
 intro c hc
 obtain ⟨r,hr,hc⟩:=List.mem_flatten.1 hc
 exact List.all_eq_true.1 (h r hr) c hc
theorem qn {k c:Nat} {rows:List (List C)} (h:jI rows):((jy k rows c).all C.stayB)=true:=by
 unfold jy
 rw[List.all_append,XC h,Bool.true_and,List.all_eq_true]
 intro c hc
 obtain ⟨_,rfl⟩:=List.mem_replicate.1 hc
 rfl
theorem V1 {k n:Nat}:∀ {rows:List (List C)},(∀ r∈rows,r.length=k)->rows.flatten.take (n*k)=(rows.take n).flatten:=by
 induction n with
 | zero=>intro rows _;simp
 | succ n ih =>
  intro rows h
  cases rows with
  | nil=>simp
  | cons r rs =>
   have hr:=h r List.mem_cons_self
   rw[List.take_succ_cons,List.flatten_cons,List.flatten_cons,List.take_append,List.take_of_length_le (by rw[hr,Nat.succ_mul];omega),hr,show (n+1)*k-k=n*k by rw[Nat.succ_mul];omega,ih fun x hx=>h x (List.mem_cons_of_mem _ hx)]
theorem Gp {k n:Nat}:∀ {rows:List (List C)},(∀ r∈rows,r.length=k)->rows.flatten.drop (n*k)=(rows.drop n).flatten:=by
 induction n with
 | zero=>intro rows _;simp
 | succ n ih =>
  intro rows h
  cases rows with
  | nil=>simp
  | cons r rs =>
   have hr:=h r List.mem_cons_self
   rw[List.drop_succ_cons,List.flatten_cons,List.drop_append,List.drop_of_length_le (by rw[hr,Nat.succ_mul];omega),hr,List.nil_append,show (n+1)*k-k=n*k by rw[Nat.succ_mul];omega,ih fun x hx=>h x (List.mem_cons_of_mem _ hx)]
theorem Xn {src:Src} {m k c:Nat} {rows:List (List C)} {cs:List C} (hk:∀ r∈rows,r.length=k) (hs:jI rows) (hc:rows.length<=c) (hl:cs.length=c*k) (ht:cs.take (rows.length*k)=rows.flatten):ze src m cs (jy k rows c):=by
 have h1:cs=rows.flatten++cs.drop (rows.length*k):=by rw[←ht,List.take_append_drop]
 rw[h1]
 unfold jy
 refine zc3 (zX (XC hs)) (X5 ?_)
 rw[List.length_drop,hl,←Nat.sub_mul]
theorem HJ {cs xs:List C} {p:Nat} (h:p+xs.length<=cs.length):(spl cs p xs).length=cs.length:=by
 simp[spl];omega
theorem GJ {cs L X:List C} {p q:Nat} (hp:p<=L.length) (hq:q=p+X.length) (hL:cs.take L.length=L) (hc:L.length+X.length<=cs.length) :
  (spl (spl cs q (L.drop p)) p X).take (L.length+X.length)=L.take p++(X++L.drop p):=by
 subst hq
 apply List.ext_getElem?
 intro j
 have hcur:∀ j,j<L.length->cs[j]?=L[j]?:=fun j hj=>by
  have h:=congrArg (fun l=>l[j]?) hL
  simp only[List.getElem?_take,if_pos hj]at h
  exact h
 simp only[spl,List.getElem?_take,List.getElem?_append,List.getElem?_drop,List.length_take,List.length_append,List.length_drop]
 repeat' (first | split | omega)
 all_goals (first | rfl | omega | exact (List.getElem?_eq_none (by omega)).symm | (congr 1;omega) | (rw[hcur _ (by omega)];first | done | (congr 1;omega)) | (symm;rw[List.getElem?_eq_none];simp;omega) | (rw[List.getElem?_eq_none];simp;omega) | skip)
theorem vK {cs L X:List C} {p q:Nat} (hp:p<=L.length) (hq:q=p+X.length) (hL:cs.take p=L.take p) (hc:L.length+X.length<=cs.length) :
  (spl (spl cs p X) q (L.drop p)).take (L.length+X.length)=L.take p++(X++L.drop p):=by
 subst hq
 apply List.ext_getElem?
 intro j
 have hcur:∀ j,j<p->cs[j]?=L[j]?:=fun j hj=>by
  have h:=congrArg (fun l=>l[j]?) hL
  simp only[List.getElem?_take,if_pos hj]at h
  exact h
 simp only[spl,List.getElem?_take,List.getElem?_append,List.getElem?_drop,List.length_take,List.length_append,List.length_drop]
 repeat' (first | split | omega)
 all_goals (first | rfl | omega | exact (List.getElem?_eq_none (by omega)).symm | (congr 1;omega) | (rw[hcur _ (by omega)];first | done | (congr 1;omega)) | (symm;rw[List.getElem?_eq_none];simp;omega) | (rw[List.getElem?_eq_none];simp;omega) | skip)
theorem zdc {P:Program} {f:FuncId} {fn:Func} {t e tR:TypeId} {s1 b1 k by':Nat} {kd:LK} {z1 z:Option (List Value)} (hf:P.funcs[f]?=some fn) (hname:(fn.name == "runtime.NumGoroutine")=false) (hb:fn.body.isNone=true) (hn:Extern.findNext fn=none)
  (he:Extern.find fn=some (Extern.SlicesOverlaps.overlaps #[t,t] #[tR])) (hl:lay P t=some ⟨.slice e,s1,b1,z1⟩) (hle:lay P e=some ⟨kd,k,by',z⟩) {id e' k' i off n c:Nat} {rows bx:List (List C)} {cs:List C} (hbx:bx[i]?=some cs) (hcs:cs≠[]) (hrows:rows≠[]) (hn0:0<n) :
  zqe P f [.own id e' k' rows,.bs i off k n c] bx (.sc (.bool false)):=by
 intro B R L vs hB hO hr
 obtain ⟨v1,us,rfl,h1,hr⟩:=zd.1 hr
 obtain ⟨v2,us,rfl,h2,hr⟩:=zd.1 hr
 rw[zg]at hr
 subst hr
 refine ⟨.bool false,?_,zj.2 rfl⟩
 rw[run_callFunc_extern hf hname hb hn he]
 have ht:=zG hl rfl
 have hz:∀ w,(Go.sizeOf e).run P w = .ok k w:=fun w=>qg hle w
 obtain ⟨hT,a,cap,hv1,_⟩:=JY.1 h1
 obtain ⟨b,hbi,ad,rfl,had⟩:=qB.1 h2
 obtain ⟨us,ty,e1,e2,e3,e4⟩:=hB.box i b cs hbi hbx
 have hsz:us.size≠0:=by
  have:=zl e2
  simp only[Array.length_toList]at this
  rw[this]
  exact fun h=>hcs (List.eq_nil_of_length_eq_zero h)
 rcases hO.own id e' k' v1 hT with hnil | ⟨g,n',cap',cur,ty',q1,q2,q3,q4,q5,q6,q7,q8⟩ | ⟨_,_,_,_,hmap,_⟩
 rotate_right
 ·rw[hv1]at hmap;unfold Um at hmap;cases hmap
 ·rw[hnil]at hv1
  obtain ⟨_,h0,_⟩:=Value.slice.inj hv1
  exact absurd (List.eq_nil_of_length_eq_zero h0.symm) hrows
 ·rw[q1]
  obtain rfl:=had (by omega)
  have hne:g≠b:=fun h=>q7 (h▸List.mem_of_getElem? hbi)
  rw[Lib.run_overlaps_apart R.w t tR e ht k hz ⟨g,0,none⟩ ⟨b,off,none⟩ n' cap' n c hne ty' ty cur.size us.size (by simp[World.shape?,q3]) (by simp[World.shape?,e1]) hsz (frozen_of_row R.w g 0 _ _ q3) (frozen_of_row R.w g _ _ _ q3)]
  rfl
theorem Gm {m k:Nat} {z:List C} (hz:z.length=k):(List.replicate m z).flatten.length=m*k:=by
 have h:=qk (k:=k) (rows:=List.replicate m z) fun r hr=>by rw[(List.mem_replicate.1 hr).2];exact hz
 rw[h,List.length_replicate]
section
variable {P:Program} {t tn e s1 b1 s2 b2 k by' m i off n cap nx lg:Nat} {kd:LK} {kn kq:IntKind} {z1 z2 z3:Option (List Value)} {z:List Value} {cs xs:List C} {bx:List (List C)} {tm:List (Nat×C)} {d:C} {q:Int} {K3:C->St->Prop}
theorem zoL (hl:lay P t=some ⟨.slice e,s1,b1,z1⟩) (hln:lay P tn=some ⟨.int kn,s2,b2,z2⟩) (hle:lay P e=some ⟨kd,k,by',some z⟩) (hz:z.length=k) (hk:0<k) (h1:(z.all Value.oneCell')=true)
  (hb:bx[i]?=some cs) (hfit:off+cap*k<=cs.length) (hn:n<=cap) (hq:0<q) (h63:(n:Int)+q<=9223372036854775807) (hby:((n:Int)+q)*by'<=140737488355328) (hg:(cap:Int)<n+q)
  (hK:∀ c' B,n+q.toNat<=c'->c'<=9223372036854775807->B.length=c'*k->B.take (n*k)=(cs.drop off).take (n*k)->K3 (.bs bx.length 0 k (n+q.toNat) c') ⟨tm,bx++[B],nx,lg⟩):vl P t tn (.bs i off k n cap) (.sc (.int kq q)) ⟨tm,bx,nx,lg⟩ K3 ⟨⟩:=by
 have hnk:n*k<=cap*k:=Nat.mul_le_mul_right _ hn
 refine zrf hl hln hle hz hk h1 hb hfit hn hq h63 hby hg fun c' g1 g2=>hK c' _ g1 g2 ?_ ?_
 ·rw[List.length_append,List.length_append,Gm (k:=k) (by simpa using hz),List.length_replicate,List.length_take,List.length_drop,Nat.min_eq_left (by omega),←Nat.add_mul,←Nat.add_mul]
  congr 1;omega
 ·rw[List.append_assoc,List.take_left' (by rw[List.length_take,List.length_drop];omega)]
theorem ZO (hl:lay P t=some ⟨.slice e,s1,b1,z1⟩) (hle:lay P e=some ⟨kd,k,by',z3⟩) (hx:d.xs? k bx=some (m,xs)) (hb:bx[i]?=some cs) (hxl:xs.length=m*k) (hfit:off+n*k<=cs.length)
  (hK:∀ B,B=spl cs off (xs.take (min m n*k))->B.length=cs.length->K3 (.sc (.int .i64 ((min m n:Nat):Int))) ⟨tm,bx.set i B,nx,lg⟩):zey P t (.bs i off k n cap) d ⟨tm,bx,nx,lg⟩ K3 ⟨⟩:=
 zpw hl hle hx hb hxl hfit (hK _ rfl (by
  have h1:min m n*k<=n*k:=Nat.mul_le_mul_right _ (Nat.min_le_right _ _)
  exact HJ (by rw[List.length_take];omega)))
end
theorem yN {k i off n c:Nat} {bx:List (List C)} {cs:List C} (hb:bx[i]?=some cs) (h:off+n*k<=cs.length):C.xs? k bx (.bs i off k n c)=some (n,(cs.drop off).take (n*k)):=by
 simp[C.xs?,hb,h]
theorem Z4 {k c i:Nat} {rows:List (List C)} (hk:∀ r∈rows,r.length=k) (hi:i<=rows.length):((jy k rows c).drop (i*k)).take ((rows.length-i)*k)=rows.flatten.drop (i*k):=by
 have hf:=qk hk
 have h1:i*k<=rows.length*k:=Nat.mul_le_mul_right _ hi
 unfold jy
 rw[List.drop_append_of_le_length (by omega),List.take_left' (by rw[List.length_drop,hf,Nat.sub_mul])]
theorem Vb {k i:Nat} {rows:List (List C)} {x:List C} (hk:∀ r∈rows,r.length=k):rows.flatten.take (i*k)++(x++rows.flatten.drop (i*k))=(rows.take i++x :: rows.drop i).flatten:=by
 rw[V1 hk,Gp hk];simp
theorem vL {bx:List (List C)} {i e k c:Nat} {rows:List (List C)} {cs:List C} (hb:bx[i]?=some cs) (hc:0<c) (h1:rows.length<=c) (h2:c<=9223372036854775807) (hl:cs.length=c*k) (hk:∀ r∈rows,r.length=k) (hs:(cs.all C.stayB)=true) (ht:cs.take (rows.length*k)=rows.flatten) :
  zfE [(i,e,k,rows,c)] bx:=by
 refine ⟨by simp,fun x hx=>?_⟩
 rw[List.mem_singleton]at hx
 subst hx
 exact ⟨cs,hb,hc,h1,by unfold maxLen;exact h2,hl,hk,by rw[Gz hs];exact ht⟩
theorem zfo {k c:Nat} {rows:List (List C)} (hk:∀ r∈rows,r.length=k):(jy k rows c).take (rows.length*k)=rows.flatten:=by
 unfold jy;rw[List.take_left' (qk hk)]
theorem ja {bx:List (List C)} {i e k c:Nat} {rows:List (List C)} (hb:bx[i]?=some (jy k rows c)) (hc:0<c) (h1:rows.length<=c) (h2:c<=9223372036854775807) (hk:∀ r∈rows,r.length=k) (hs:jI rows):zfE [(i,e,k,rows,c)] bx:=
 vL hb hc h1 h2 (Qu hk h1) hk (qn hs) (zfo hk)
theorem vS {k c i:Nat} {rows:List (List C)} {row:List C} (hk:∀ r∈rows,r.length=k) (hr:row.length=k) (hi:i<rows.length):(jy k rows c).take (i*k)++row++(jy k rows c).drop (i*k+k)=jy k (rows.set i row) c:=by
 have hf:=qk hk
 have h1:(i+1)*k<=rows.length*k:=Nat.mul_le_mul_right _ hi
 rw[Nat.succ_mul]at h1
 unfold jy
 rw[List.take_append_of_le_length (by omega),List.drop_append_of_le_length (by omega),←Nat.succ_mul,V1 hk,Gp hk,List.length_set,←List.append_assoc]
 congr 1
 rw[List.set_eq_take_append_cons_drop,if_pos hi]
 simp
def RLe:List (List C)->List (List C)->Prop
 | [],[]=>True
 | a :: r,b :: s=>ze [] 0 a b/\RLe r s
 | _,_=>False
theorem RLe.len:∀ {a b:List (List C)},RLe a b->a.length=b.length
 | [],[],_=>rfl
 | _ :: r,_ :: s,h=>by rw[List.length_cons,List.length_cons,RLe.len h.2]
theorem ze.len {src:Src} {n:Nat}:∀ {a b:List C},ze src n a b->a.length=b.length
 | [],[],_=>rfl
 | [],_ :: _,h=>by simp[ze]at h
 | _ :: _,[],h=>by simp[ze]at h
 | _ :: r,_ :: s,h=>by
  rw[ze]at h
  rw[List.length_cons,List.length_cons,ze.len h.2]
theorem zcW {R:Env} {c d:C} {v:Value} (h:CLe [] 0 c d) (hr:Rep R zu c v):Rep R zu d v:=by
 refine Rep.ext (Ext.refl R) (T:=jE [] 0 zu) ⟨fun i b hb=>?_,fun id x hx=>?_⟩ _ _ (Rep.less _ _ _ h hr)
 ·simp at hb
 ·have hx:QU [] zu.T id=some x:=hx
  simp[QU]at hx
theorem VH {R:Env} {b:Nat}:∀ {cs ds:List C} {o:Nat},ze [] 0 cs ds->zy R cs b o->zy R ds b o
 | [],[],_,_,h=>h
 | [],_ :: _,_,h,_=>by simp[ze]at h
 | _ :: _,[],_,h,_=>by simp[ze]at h
 | c :: r,d :: s,o,h,hr=>by
  rw[ze]at h
  obtain ⟨⟨v,h1,h2,h3,h4⟩,h5⟩:=zN.1 hr
  exact zN.2 ⟨⟨v,h1,h2,zcW h.1 h3,h4⟩,VH h.2 h5⟩
theorem U0 {R:Env} {k b:Nat}:∀ {a c:List (List C)} {o:Nat},RLe a c->zA R a k b o->zA R c k b o
 | [],[],_,_,h=>h
 | x :: r,y :: s,o,h,hr=>by
  unfold zA at hr ⊢
  exact ⟨(ze.len h.1).symm.trans hr.1,VH h.1 hr.2.1,U0 h.2 hr.2.2⟩
theorem zaB {R:Env} {L:Loc} {id e k:Nat} {a c:List (List C)} {v:Value} (h:RLe a c) (hr:Rep R L (.own id e k a) v):Rep R L (.own id e k c) v:=by
 obtain ⟨h1,ad,cap,h2,h3,h4,h5⟩:=JY.1 hr
 refine JY.2 ⟨h1,ad,cap,by rw[h2,h.len],by rw[←h.len];exact h3,h4,?_⟩
 rcases h5 with h5 | ⟨b,o,h5,h6⟩
 ·subst h5
  have:=h.len
  exact .inl (List.eq_nil_of_length_eq_zero (by simpa using this.symm))
 ·exact .inr ⟨b,o,h5,U0 h h6⟩
theorem Fun.resX {P:Program} {G:zk} {f:FuncId} {args:List C} {r r':C} {n:Nat} (hf:Fun P G f args r n) (h:∀ R L v,Rep R L r v->Rep R L r' v):Fun P G f args r' n:=
 ⟨hf.1,fun R vs hg ha=>(hf.2 R vs hg ha).mono fun e w' ⟨v,R',L',h1,h2,h3,h4⟩=>⟨v,R',L',h1,h2,h3,h _ _ _ h4⟩⟩
theorem u0 {R:Env} {L:Loc} {cs ds:List C} {v:Value} (h:∀ vs,zm R L cs vs->zm R L ds vs) (hr:Rep R L (.agg cs) v):Rep R L (.agg ds) v:=by
 obtain ⟨vs,h1,h2⟩:=jd.1 hr
 exact jd.2 ⟨vs,h1,h _ h2⟩
theorem JT {R:Env} {L:Loc} {c d:C} {cs ds:List C} {vs:List Value} (h:∀ v,Rep R L c v->Rep R L d v) (h':∀ vs,zm R L cs vs->zm R L ds vs) (hr:zm R L (c :: cs) vs):zm R L (d :: ds) vs:=by
 obtain ⟨v,us,rfl,h1,h2⟩:=zd.1 hr
 exact zd.2 ⟨v,us,rfl,h _ h1,h' _ h2⟩
end
section
open Go.RowKit
def zjk (k:Nat) (rows:List (List C)) (r:C) (bx':List (List C)) (n:Nat):Prop:=
 n=0/\((rows≠[]/\∃ c,rows.length<=c/\c<=9223372036854775807/\r = .bs 1 0 k rows.length c/\bx' = [[],jy k rows c])∨(rows = []/\(r = .sc (.slice none 0 0)/\bx' = []∨r = .bs 0 0 k 0 0/\bx' = [[]])))
def zqy (k m:Nat) (ins:List (List C)) (r:C) (bx':List (List C)) (n:Nat):Prop:=
 n=0/\∃ c,ins.length<=c/\c<=9223372036854775807/\(r = .bs 0 0 k ins.length c/\bx' = [jy k ins c]∨r = .bs 1 0 k ins.length c/\bx' = [List.replicate m .any,jy k ins c])
section
variable {G:zk}
theorem kj (rows:List (List C)) (hk:∀ r∈rows,r.length=6) (hs:jI rows) (hl:rows.length<=100000) :
  YX Tryz.prog G 237 [.sl 6 rows] [] 0 (zjk 6 rows):=by
 refine YX.bySlice (fun h=>?_) (fun h a cap hr=>?_)
 ·refine foX (fun i=>if i=1000000+22 then [true,true] else []) Tryz.func237 ?_;dsimp only[Tryz.f237]
  push_cast -dsimp
  refine ⟨h,UI Ud VZ rfl rfl (by decide) rfl (qk hk) rfl (Nat.le_refl _) (Nat.le_refl _) (by omega) (by omega) (fun hc=>absurd hc ?_) (fun _ c hc hm=>?_)⟩
  ·have:=List.length_pos_iff.2 h;omega
  ·push_cast -dsimp
   rw[Nat.zero_add]at hc
   refine ⟨_,_,_,⟨⟨rfl,.inl ⟨h,c,hc,hm,rfl,rfl⟩⟩,Nat.zero_le _⟩,[],rfl,rfl,?_,by push_cast -dsimp [zb,za,CLe,ze]⟩
   push_cast -dsimp [zb,za,CLe,ze]
   exact zX (qn hs)
 ·cases a with
  | none =>
   refine foX (fun i=>if i=1000000+22 then [true,true] else []) Tryz.func237 ?_;dsimp only[Tryz.f237]
   push_cast -dsimp [hr,Option.isNone_none]
   exact ⟨_,_,_,⟨⟨rfl,.inr ⟨h,.inl ⟨rfl,rfl⟩⟩⟩,Nat.zero_le _⟩,[],rfl,rfl,by push_cast -dsimp [zb,za,CLe,ze],by push_cast -dsimp [zb,za,CLe,ze]⟩
  | some a =>
   refine foX (fun i=>if i=1000000+22 then [true,true] else []) Tryz.func237 ?_;dsimp only[Tryz.f237]
   push_cast -dsimp [hr,Option.isNone_some]
   have hx:C.xs? 6 [[]] (C.sc (.slice (some a) 0 cap))=some (0,[]):=by simp[C.xs?,hr]
   refine UI Ud VZ hx rfl (by decide) rfl rfl rfl (Nat.le_refl _) (Nat.le_refl _) (by omega) (by omega) (fun _=>?_) (fun hc=>absurd hc (by omega))
   push_cast -dsimp
   exact ⟨_,_,_,⟨⟨rfl,.inr ⟨h,.inr ⟨rfl,rfl⟩⟩⟩,Nat.zero_le _⟩,[],rfl,rfl,by (push_cast -dsimp [zb,za,CLe,ze];simp[spl,ze]),by push_cast -dsimp [zb,za,CLe,ze]⟩
theorem yX (rows:List (List C)) (x:List C) (i c e:Nat) (hk:∀ r∈rows,r.length=6) (hx:x.length=6) (hs:jI rows) (hsx:(x.all C.stayB)=true) (hl:rows.length<=100000) (hi:i<=rows.length) (hc:rows.length<=c) (hcm:c<=9223372036854775807) :
  YX Tryz.prog G 236 [.bs 0 0 6 rows.length c,.sc (.int .i64 i),.own 0 e 6 [x]] [jy 6 rows c] 1 (zqy 6 (c*6) (rows.take i++x :: rows.drop i)):=by
 refine foX (fun j=>if j=1000000+22 then [true,true] else if j=11 then [false,false,false,false,false,false,false,false,true] else if j=15 then [false,false,false,false,false,false,false,false,true] else []) Tryz.func236 ?_;dsimp only[Tryz.f236]
 push_cast -dsimp
 have hlen:(rows.take i++x :: rows.drop i).length=rows.length+1:=by simp;omega
 have hki:∀ r∈rows.take i++x :: rows.drop i,r.length=6:=fun r hr=>by
  rcases List.mem_append.1 hr with hr | hr
  ·exact hk r (List.mem_of_mem_take hr)
  ·rcases List.mem_cons.1 hr with rfl | hr
   ·exact hx
   ·exact hk r (List.mem_of_mem_drop hr)
 have hsi:jI (rows.take i++x :: rows.drop i):=fun r hr=>by
  rcases List.mem_append.1 hr with hr | hr
  ·exact hs r (List.mem_of_mem_take hr)
  ·rcases List.mem_cons.1 hr with rfl | hr
   ·exact hsx
   ·exact hs r (List.mem_of_mem_drop hr)
 have hbl:=Qu hk hc
 have hfl:=qk hk
 have hxl:[x].flatten.length=1*6:=by simp[hx]
 have hpre:(jy 6 rows c).take rows.flatten.length=rows.flatten:=by unfold jy;rw[List.take_left]
 refine ⟨hc,⟨by omega,hi⟩,br (fun h=>?_) (fun h=>?_)⟩
 ·push_cast -dsimp
  refine UI Ud VZ rfl rfl (by decide) rfl hxl rfl (by rw[hbl];omega) hc (by simp;omega) (by simp;omega) (fun h1=>?_) (fun h1 c' h2 h3=>?_)
  ·push_cast -dsimp
   have hi':i=rows.length:=of_decide_eq_true h
   refine ⟨_,_,_,⟨⟨rfl,c,by rw[hlen];exact h1,hcm,.inl ⟨rfl,rfl⟩⟩,Nat.le_refl _⟩,[],rfl,rfl,?_,by push_cast -dsimp [zb,za,CLe,ze,hlen]⟩
   push_cast -dsimp [zb,za,CLe,ze]
   have h6:rows.length*6+6<=c*6:=by have:rows.length+1<=c:=h1;omega
   refine Xn hki hsi (by rw[hlen];exact h1) (by rw[HJ (by rw[hbl,hx];exact h6),hbl]) ?_
   rw[hlen,hi',List.take_length,List.drop_length]
   unfold spl
   rw[←hfl,hpre,List.take_left' (by simp[hx,hfl];omega)]
   simp
  ·push_cast -dsimp
   have hi':i=rows.length:=of_decide_eq_true h
   have h2':rows.length+1<=c':=h2
   refine ⟨_,_,_,⟨⟨rfl,c',by rw[hlen];exact h2,h3,.inr ⟨rfl,rfl⟩⟩,Nat.le_of_ble_eq_true rfl⟩,[],rfl,rfl,?_,by push_cast -dsimp [zb,za,CLe,ze,hlen]⟩
   push_cast -dsimp [zb,za,CLe,ze]
   refine ⟨X5 hbl,Xn hki hsi (by rw[hlen];exact h2) (by simp[hx,hbl];omega) ?_⟩
   rw[hlen,hi',List.take_length,List.drop_length,←hfl,hpre,List.take_left' (by simp[hx,hfl];omega)]
   simp
 ·have hne:i≠rows.length:=of_decide_eq_false h
  push_cast -dsimp
  refine ⟨⟨by omega,by omega⟩,br (fun h1=>?_) (fun h1=>?_)⟩
  ·have h1':(c:Int)<(rows.length:Int)+1:=of_decide_eq_true h1
   push_cast -dsimp
   repeat refine an ?_
   refine zoL Ud znw VZ rfl (by decide) rfl rfl (by rw[hbl];omega) (by omega) (by omega) (by omega) (by omega) (by omega) (fun c' B h2 h3 hBl hBt=>?_)
   have e1:((rows.length:Int)+1-(i:Int)).toNat=rows.length+1-i:=by omega
   rw[e1]at h2 ⊢
   have e2:i+(rows.length+1-i)=rows.length+1:=by omega
   rw[e2]at h2 ⊢
   push_cast -dsimp
   repeat refine an ?_
   refine ZO Ud VZ rfl rfl hxl (by rw[hBl];omega) (fun B1 hB1 hl1=>?_)
   rw[hBl]at hl1
   push_cast -dsimp
   repeat refine an ?_
   have hbp:=Z4 (c:=c) hk hi
   refine ZO Ud VZ (yN rfl (by rw[hbl];omega)) rfl (by rw[hbp,List.length_drop,hfl];omega) (by rw[hl1];omega) (fun B2 hB2 hl2=>?_)
   rw[hl1]at hl2
   have hX:[x].flatten.take (min [x].length (rows.length+1-i)*6)=x:=by
    rw[List.length_singleton,Nat.min_eq_left (by omega),List.take_of_length_le (by omega)];simp
   rw[hX]at hB1
   rw[hbp,show min (rows.length-i) (rows.length-i)*6=(rows.length-i)*6 by omega,List.take_of_length_le (by rw[List.length_drop,hfl];omega),hB1]at hB2
   push_cast -dsimp
   refine ⟨_,_,_,⟨⟨rfl,c',by rw[hlen];exact h2,h3,.inr ⟨rfl,rfl⟩⟩,Nat.le_of_ble_eq_true rfl⟩,[],rfl,rfl,?_,by push_cast -dsimp [zb,za,CLe,ze,hlen]⟩
   push_cast -dsimp [zb,za,CLe,ze]
   refine ⟨X5 hbl,Xn hki hsi (by rw[hlen];exact h2) hl2 ?_⟩
   rw[hlen,←Vb hk,hB2]
   have hg:=vK (cs:=B) (L:=rows.flatten) (X:=x) (p:=i*6) (q:=(i+1)*6) (by omega) (by omega) (by
    rw[hBt,List.drop_zero];unfold jy;rw[List.take_append_of_le_length (by omega)]) (by omega)
   rw[hfl,hx]at hg
   rw[←hg]
   congr 1;omega
  ·have h1':¬(c:Int)<(rows.length:Int)+1:=of_decide_eq_false h1
   push_cast -dsimp
   repeat refine an ?_
   refine zmx (zdc (P:=Tryz.prog) (tR:=4) Tryz.func264 (by kernel_rfl) (by kernel_rfl) (by kernel_rfl) (by kernel_rfl) Ud VZ rfl (List.ne_nil_of_length_pos (by rw[hbl];omega)) (by simp) (by omega)) ?_
   push_cast -dsimp
   repeat refine an ?_
   have hbp:=Z4 (c:=c) hk hi
   refine ZO Ud VZ (yN rfl (by rw[hbl];omega)) rfl (by simp[hbl];omega) (by rw[hbl];omega) (fun B1 hB1 hl1=>?_)
   rw[hbl]at hl1
   rw[List.take_take,Nat.min_eq_left (by omega),show min (rows.length+1-i) (rows.length-i)*6=(rows.length-i)*6 by omega,hbp]at hB1
   push_cast -dsimp
   repeat refine an ?_
   refine ZO Ud VZ rfl rfl hxl (by rw[hl1];omega) (fun B2 hB2 hl2=>?_)
   rw[hl1]at hl2
   have hX:[x].flatten.take (min [x].length (rows.length+1-i)*6)=x:=by
    rw[List.length_singleton,Nat.min_eq_left (by omega),List.take_of_length_le (by omega)];simp
   rw[hX,hB1]at hB2
   push_cast -dsimp
   have hcc:rows.length+1<=c:=by omega
   refine ⟨_,_,_,⟨⟨rfl,c,by rw[hlen];exact hcc,hcm,.inl ⟨rfl,rfl⟩⟩,Nat.le_of_ble_eq_true rfl⟩,[],rfl,rfl,?_,by push_cast -dsimp [zb,za,CLe,ze,hlen]⟩
   push_cast -dsimp [zb,za,CLe,ze]
   refine Xn hki hsi (by rw[hlen];exact hcc) hl2 ?_
   rw[hlen,←Vb hk,hB2]
   have hg:=GJ (cs:=jy 6 rows c) (L:=rows.flatten) (X:=x) (p:=i*6) (q:=(i+1)*6) (by omega) (by omega) hpre (by omega)
   rw[hfl,hx]at hg
   rw[←hg]
   congr 1;omega
theorem zfO {e:Nat} (x:List C) (hx:x.length=6) (hsx:(x.all C.stayB)=true) :
  YX Tryz.prog G 236 [.sc (.slice none 0 0),.sc (.int .i64 0),.own 0 e 6 [x]] [] 1 (fun r bx' n=>n=0/\∃ c,1<=c/\c<=9223372036854775807/\r = .bs 0 0 6 1 c/\bx' = [jy 6 [x] c]):=by
 refine foX (fun j=>if j=1000000+22 then [true,true] else if j=11 then [false,false,false,false,false,false,false,false,true] else if j=15 then [false,false,false,false,false,false,false,false,true] else []) Tryz.func236 ?_;dsimp only[Tryz.f236]
 push_cast -dsimp
 refine vi Ud VZ rfl rfl (by decide) rfl (by simp[hx]) (by simp) (by simp) (by simp) (fun c h1 h2=>?_)
 push_cast -dsimp
 refine ⟨_,_,_,⟨⟨rfl,c,h1,h2,rfl,rfl⟩,Nat.zero_le _⟩,[],rfl,rfl,?_,by push_cast -dsimp [zb,za,CLe,ze]⟩
 push_cast -dsimp [zb,za,CLe,ze]
 have:=zX (src:=[]) (n:=1) (qn (k:=6) (c:=c) (rows:=[x]) fun r hr=>by
  rw[List.mem_singleton.1 hr];exact hsx)
 unfold jy at this ⊢
 simpa using this
end
end
section
structure zH where
 name:List UInt8
 ino:Int
deriving DecidableEq,Inhabited
structure zn where
 ino:Int
 kind:Int
 links:Int
 data:List UInt8
 parent:Int
 es:List zH
deriving DecidableEq,Inhabited
def zZ (xs:List zn):Prop:=xs.Pairwise fun a b=>a.ino<b.ino
def zw (n:Int) (xs:List zn):Bool:=xs.any fun x=>x.ino==n
def je (n:Int) (xs:List zn):Nat:=(xs.filter fun x=>decide (x.ino<n)).length
def qN (n:Int) (xs:List zn):List zn:=xs.filter fun x=>x.ino != n
def X1 (n:Int) (xs:List zn):Option zn:=xs.find? fun x=>x.ino==n
def Q5 (x:zn):List zn->List zn
 | []=>[x]
 | y :: r=>if x.ino<y.ino then x :: y :: r else y :: Q5 x r
def jk (x:zn) (xs:List zn):List zn:=Q5 x (qN x.ino xs)
theorem Hi (n:Int):∀ (xs:List zn) (i:Nat),i<=xs.length->(∀ t (h:t<xs.length),t<i->xs[t].ino<n)->(∀ t (h:t<xs.length),i<=t->n<=xs[t].ino)->je n xs=i
 | [],i,h,_,_=>by simp at h;simp[je,h]
 | x :: r,0,_,_,h2=>by
  have hx:n<=x.ino:=h2 0 (by simp) (Nat.le_refl _)
  have ih:=Hi n r 0 (Nat.zero_le _) (fun t h h'=>absurd h' (Nat.not_lt_zero _)) (fun t h _=>h2 (t+1) (by simp;omega) (Nat.zero_le _))
  unfold je at ih ⊢
  rw[List.filter_cons_of_neg (by simp;omega)]
  exact ih
 | x :: r,i+1,h,h1,h2=>by
  have hx:x.ino<n:=h1 0 (by simp) (Nat.succ_pos _)
  have ih:=Hi n r i (by simpa using h) (fun t h h'=>h1 (t+1) (by simp;omega) (by omega)) (fun t h h'=>h2 (t+1) (by simp;omega) (by omega))
  unfold je at ih ⊢
  rw[List.filter_cons_of_pos (by simp;omega),List.length_cons,ih]
theorem zi1 (n:Int) (xs:List zn) (i:Nat) (hi:i<xs.length) (h1:∀ t (h:t<xs.length),t<i->xs[t].ino<n) (h2:n<=xs[i].ino) (hR:zZ xs):zw n xs=decide (xs[i].ino=n):=by
 by_cases h:xs[i].ino=n
 ·rw[decide_eq_true h]
  exact List.any_eq_true.2 ⟨xs[i],List.getElem_mem hi,by simp[h]⟩
 ·rw[decide_eq_false h]
  apply Bool.eq_false_iff.2
  intro hh
  obtain ⟨y,hy,e⟩:=List.any_eq_true.1 hh
  obtain ⟨t,ht,rfl⟩:=List.getElem_of_mem hy
  have e:xs[t].ino=n:=by simpa using e
  rcases Nat.lt_trichotomy t i with h3 | h3 | h3
  ·have:=h1 t ht h3;omega
  ·subst h3;exact h e
  ·have:=(List.pairwise_iff_getElem.1 hR) i t hi ht h3;omega
theorem zbK (n:Int) (xs:List zn) (h1:∀ t (h:t<xs.length),xs[t].ino<n):zw n xs=false:=by
 apply Bool.eq_false_iff.2
 intro hh
 obtain ⟨y,hy,e⟩:=List.any_eq_true.1 hh
 obtain ⟨t,ht,rfl⟩:=List.getElem_of_mem hy
 have e:xs[t].ino=n:=by simpa using e
 have:=h1 t ht
 omega
theorem kT {n:Int} {xs:List zn} (h:zw n xs=false):X1 n xs=none:=by
 unfold X1 zw at *
 rw[List.find?_eq_none]
 intro x hx hh
 rw[List.any_eq_false]at h
 exact h x hx hh
theorem za3 (n:Int) (xs:List zn) (hR:zZ xs):∃ i,i<=xs.length/\(∀ t (h:t<xs.length),t<i->xs[t].ino<n)/\(∀ t (h:t<xs.length),i<=t->n<=xs[t].ino):=by
 induction xs with
 | nil=>exact ⟨0,Nat.le_refl _,fun t h=>absurd h (Nat.not_lt_zero _),fun t h=>absurd h (Nat.not_lt_zero _)⟩
 | cons x r ih =>
  by_cases hx:x.ino<n
  ·obtain ⟨i,h1,h2,h3⟩:=ih (List.pairwise_cons.1 hR).2
   refine ⟨i+1,by simp;omega,fun t h ht=>?_,fun t h ht=>?_⟩
   ·cases t with
    | zero=>exact hx
    | succ t=>exact h2 t (by simpa using h) (by omega)
   ·cases t with
    | zero=>omega
    | succ t=>exact h3 t (by simpa using h) (by omega)
  ·refine ⟨0,Nat.zero_le _,fun t h ht=>absurd ht (Nat.not_lt_zero _),fun t h _=>?_⟩
   cases t with
   | zero=>simp;omega
   | succ t =>
    have:=(List.pairwise_cons.1 hR).1 (r[t]'(by simpa using h)) (List.getElem_mem _)
    simp;omega
theorem zbH (n:Int) (xs:List zn):je n xs<=xs.length:=List.length_filter_le _ _
theorem zdi {n:Int} {xs:List zn} (hR:zZ xs):(∀ t (h:t<xs.length),t<je n xs->xs[t].ino<n)/\(∀ t (h:t<xs.length),je n xs<=t->n<=xs[t].ino):=by
 obtain ⟨i,h1,h2,h3⟩:=za3 n xs hR
 rw[Hi n xs i h1 h2 h3]
 exact ⟨h2,h3⟩
theorem zf9 {n:Int} {xs:List zn} (hR:zZ xs) (h:zw n xs=true):∃ hlt:je n xs<xs.length,xs[je n xs].ino=n:=by
 obtain ⟨h2,h3⟩:=zdi (n:=n) hR
 by_cases hlt:je n xs<xs.length
 ·refine ⟨hlt,?_⟩
  have:=zi1 n xs _ hlt h2 (h3 _ hlt (Nat.le_refl _)) hR
  rw[h]at this
  exact of_decide_eq_true this.symm
 ·have:=zbK n xs (fun t h=>h2 t h (by omega))
  rw[h]at this;cases this
theorem vp {n:Int} {xs:List zn} (hR:zZ xs) (h:zw n xs=true):∃ hlt:je n xs<xs.length,X1 n xs=some xs[je n xs]:=by
 obtain ⟨hlt,he⟩:=zf9 hR h
 refine ⟨hlt,?_⟩
 obtain ⟨h2,h3⟩:=zdi (n:=n) hR
 unfold X1
 rw[List.find?_eq_some_iff_getElem]
 exact ⟨by simp[he],_,hlt,rfl,fun j hj=>by have:=h2 j (by omega) hj;simp;omega⟩
theorem Jn {y:zn} {r:List zn}:zZ (y :: r)↔(∀ z∈r,y.ino<z.ino)/\zZ r:=List.pairwise_cons
theorem ZK {n:Int} {y:zn} {r:List zn} (h:y.ino<n):je n (y :: r)=je n r+1:=by
 unfold je
 rw[List.filter_cons_of_pos (by simpa using h),List.length_cons]
theorem GE {n:Int} {xs:List zn} (h:∀ z∈xs,n<=z.ino):je n xs=0:=by
 unfold je
 rw[List.length_eq_zero_iff,List.filter_eq_nil_iff]
 intro z hz
 have:=h z hz
 simp;omega
theorem Hq {n:Int} {xs:List zn} (h:zw n xs=false):qN n xs=xs:=by
 unfold qN
 rw[List.filter_eq_self]
 intro z hz
 unfold zw at h
 rw[List.any_eq_false]at h
 have:=h z hz
 simpa using this
theorem VQ {n:Int} {y:zn} {r:List zn} (h:y.ino<n):zw n (y :: r)=zw n r:=by
 unfold zw
 rw[List.any_cons,show (y.ino==n)=false by rw[beq_eq_false_iff_ne];omega,Bool.false_or]
theorem yi {n:Int} {xs:List zn} (h:∀ z∈xs,n<z.ino):zw n xs=false:=by
 unfold zw
 rw[List.any_eq_false]
 intro z hz
 have:=h z hz
 simp;omega
theorem JN {n:Int} {y:zn} {r:List zn} (h:y.ino≠n):qN n (y :: r)=y :: qN n r:=by
 unfold qN
 rw[List.filter_cons_of_pos (by simpa using h)]
theorem JH {n:Int} {y:zn} {r:List zn} (h:y.ino=n):qN n (y :: r)=qN n r:=by
 unfold qN
 rw[List.filter_cons_of_neg (by simpa using h)]
theorem zoC {x y:zn} {r:List zn} (h:y.ino<x.ino):Q5 x (y :: r)=y :: Q5 x r:=by
 rw[Q5,if_neg (by omega)]
theorem zjg {x:zn} {xs:List zn} (h:∀ z∈xs,x.ino<z.ino):Q5 x xs=x :: xs:=by
 cases xs with
 | nil=>rfl
 | cons y r=>rw[Q5,if_pos (h y List.mem_cons_self)]
theorem Vs {x y:zn} {r:List zn} (h:y.ino<x.ino):jk x (y :: r)=y :: jk x r:=by
 unfold jk
 rw[JN (by omega),zoC h]
theorem MR {x:zn}:∀ {xs:List zn},zZ xs->zw x.ino xs=true->xs.set (je x.ino xs) x=jk x xs
 | [],_,h=>by cases h
 | y :: r,hR,h=>by
  obtain ⟨h1,h2⟩:=Jn.1 hR
  by_cases hy:y.ino<x.ino
  ·rw[ZK hy,List.set_cons_succ,MR h2 (by rwa [VQ hy]at h),Vs hy]
  ·have hr0:je x.ino (y :: r)=0:=GE fun z hz=>by
    rcases List.mem_cons.1 hz with rfl | hz
    ·omega
    ·have:=h1 z hz;omega
   by_cases he:y.ino=x.ino
   ·unfold jk
    rw[hr0,JH he,Hq (yi fun z hz=>by have:=h1 z hz;omega),zjg fun z hz=>by have:=h1 z hz;omega];rfl
   ·exfalso
    rw[yi fun z hz=>by
     rcases List.mem_cons.1 hz with rfl | hz
     ·omega
     ·have:=h1 z hz;omega]at h
    cases h
theorem MY {x:zn}:∀ {xs:List zn},zZ xs->zw x.ino xs=false->xs.take (je x.ino xs)++x :: xs.drop (je x.ino xs)=jk x xs
 | [],_,_=>rfl
 | y :: r,hR,h=>by
  obtain ⟨h1,h2⟩:=Jn.1 hR
  by_cases hy:y.ino<x.ino
  ·rw[ZK hy,List.take_succ_cons,List.drop_succ_cons,List.cons_append,MY h2 (by rwa [VQ hy]at h),Vs hy]
  ·have hne:y.ino≠x.ino:=by
    intro e
    unfold zw at h
    rw[List.any_cons,e]at h
    simp at h
   have hr0:je x.ino (y :: r)=0:=GE fun z hz=>by
    rcases List.mem_cons.1 hz with rfl | hz
    ·omega
    ·have:=h1 z hz;omega
   unfold jk
   rw[hr0,Hq h,zjg fun z hz=>by
    rcases List.mem_cons.1 hz with rfl | hz
    ·omega
    ·have:=h1 z hz;omega]
   rfl
theorem zh5 {n:Int} {xs:List zn}:∀ x∈qN n xs,x∈xs:=fun x h=>(List.mem_filter.1 h).1
theorem kS {x:zn}:∀ {xs:List zn} {z:zn},z∈Q5 x xs↔z=x∨z∈xs
 | [],z=>by simp[Q5]
 | y :: r,z=>by
  rw[Q5]
  split
  ·simp
  ·rw[List.mem_cons,kS,List.mem_cons]
   constructor
   ·rintro (h | h | h)<;>simp[h]
   ·rintro (h | h | h)<;>simp[h]
theorem zkE {x:zn} {xs:List zn} {z:zn} (h:z∈jk x xs):z=x∨z∈xs:=by
 rcases kS.1 h with h | h
 ·exact .inl h
 ·exact .inr (zh5 _ h)
theorem zaD {n:Int} {xs:List zn} (h:zZ xs):zZ (qN n xs):=List.Pairwise.filter _ h
theorem N9 {x:zn}:∀ {xs:List zn},zZ xs->(∀ z∈xs,z.ino≠x.ino)->zZ (Q5 x xs)
 | [],_,_=>by simp[Q5,zZ]
 | y :: r,h,hne=>by
  obtain ⟨h1,h2⟩:=Jn.1 h
  have hy:=hne y List.mem_cons_self
  rw[Q5]
  split
  ·next hlt =>
   refine Jn.2 ⟨fun z hz=>?_,h⟩
   rcases List.mem_cons.1 hz with rfl | hz
   ·exact hlt
   ·have:=h1 z hz;omega
  ·next hlt =>
   refine Jn.2 ⟨fun z hz=>?_,N9 h2 fun z hz=>hne z (List.mem_cons_of_mem _ hz)⟩
   rcases kS.1 hz with rfl | hz
   ·omega
   ·exact h1 z hz
theorem QM {x:zn} {xs:List zn} (h:zZ xs):zZ (jk x xs):=N9 (zaD h) fun z hz=>by
 have:=(List.mem_filter.1 hz).2
 simpa using this
theorem zdZ {x:zn}:∀ {xs:List zn},(Q5 x xs).length=xs.length+1
 | []=>rfl
 | y :: r=>by
  rw[Q5]
  split
  ·rfl
  ·rw[List.length_cons,zdZ,List.length_cons]
theorem k9 {n:Int} {xs:List zn}:(qN n xs).length<=xs.length:=List.length_filter_le _ _
theorem zk6 {x:zn} {xs:List zn}:(jk x xs).length<=xs.length+1:=by
 unfold jk
 rw[zdZ]
 have:=k9 (n:=x.ino) (xs:=xs)
 omega
end
section
open CA CB
open Go.RowKit
abbrev H0 (e:zH):List C:=[.str e.name,.sc (.int .i64 e.ino)]
abbrev zE (es:List zH):List (List C):=es.map H0
abbrev JD (x:zn):List C:=[.sc (.int .i64 x.ino),.sc (.int .i64 x.kind),.sc (.int .i64 x.links),.str x.data,.sc (.int .i64 x.parent),.sl 2 (zE x.es)]
abbrev zD (xs:List zn):List (List C):=xs.map JD
structure FsV where
 maxI:Int
 maxB:Int
 next:Int
 xs:List zn
deriving DecidableEq,Inhabited
abbrev fsC (f:FsV):List C:=[.sc (.int .i64 f.maxI),.sc (.int .i64 f.maxB),.sc (.int .i64 f.next),.sl 6 (zD f.xs)]
theorem qx (xs:List zn) (i:Nat) (h:i<xs.length):(zD xs)[i]?=some (JD xs[i]):=by simp[List.getElem?_map,List.getElem?_eq_getElem h]
theorem jn (xs:List zH) (i:Nat) (h:i<xs.length):(zE xs)[i]?=some (H0 xs[i]):=by simp[List.getElem?_map,List.getElem?_eq_getElem h]
def zaU:zn:=⟨0,0,0,[],0,[]⟩
def zf (n:Int) (xs:List zn):zn:=(X1 n xs).getD zaU
def zd9 (a b:Int):Int:=if a<b then -1 else if b<a then 1 else 0
section
variable {G:zk}
theorem zd8 (a:Int):Fun Tryz.prog G 180 [.sc (.int .i64 a)] (.sc (.bool false)) 0:=by
 refine fon Tryz.func180 ?_;dsimp only[Tryz.f180]
 push_cast -dsimp
 exact dn
theorem zlv (a b:Int):Fun Tryz.prog G 156 [.sc (.int .i64 a),.sc (.int .i64 b)] (.sc (.int .i64 (zd9 a b))) 0:=by
 refine fon Tryz.func156 ?_;dsimp only[Tryz.f156]
 push_cast -dsimp
 refine cl (zd8 a) ?_;push_cast -dsimp
 refine cl (zd8 b) ?_;push_cast -dsimp
 refine br (fun h=>?_) (fun h=>?_)
 ·have h:=of_decide_eq_true h
  push_cast -dsimp
  exact ⟨[],rfl,rfl,by (push_cast -dsimp [zb,za,CLe,ze];simp[zd9,h])⟩
 ·have h:=of_decide_eq_false h
  push_cast -dsimp
  refine br (fun h1=>?_) (fun h1=>?_)
  ·have h1:=of_decide_eq_true h1
   push_cast -dsimp
   exact ⟨[],rfl,rfl,by (push_cast -dsimp [zb,za,CLe,ze];simp[zd9,h,h1])⟩
  ·have h1:=of_decide_eq_false h1
   push_cast -dsimp
   exact ⟨[],rfl,rfl,by (push_cast -dsimp [zb,za,CLe,ze];simp[zd9,h,h1])⟩
theorem zbJ (x:zn) (n:Int):Fun Tryz.prog G 155 [.agg (JD x),.sc (.int .i64 n)] (.sc (.int .i64 (zd9 x.ino n))) 0:=by
 refine fon Tryz.func155 ?_;dsimp only[Tryz.f155]
 push_cast -dsimp
 refine cl (zlv x.ino n) ?_;push_cast -dsimp
 exact dn
theorem xI (xs:List zn) (n:Int) (hl:xs.length<=100000) (hR:zZ xs) :
  Fun Tryz.prog G 154 [.sl 6 (zD xs),.sc (.int .i64 n),.clo (.func 155) [] []] (.tup [.sc (.int .i64 (je n xs:Nat)),.sc (.bool (zw n xs))]) 0:=by
 refine fon Tryz.func154 ?_;dsimp only[Tryz.f154]
 push_cast -dsimp
 refine loop (fun p:Nat×Nat=>⟨[(0,.sl 6 (zD xs)),(1,.sc (.int .i64 n)),(2,.clo (.func 155) [] []),(8,.sc (.int .i64 (xs.length:Nat))),(9,.sc (.int .i64 p.1)),(10,.sc (.int .i64 p.2))],[],0,0⟩)
  (fun p=>p.1<=p.2/\p.2<=xs.length/\(∀ t (h:t<xs.length),t<p.1->xs[t].ino<n)/\∀ t (h:t<xs.length),p.2<=t->n<=xs[t].ino) (fun p=>p.2-p.1) (0,xs.length) ⟨Nat.zero_le _,Nat.le_refl _,fun t _ h=>by (simp at h),fun t h h'=>by (dsimp only at h';omega)⟩ ?_ ?_
 ·exact wk (by push_cast -dsimp [zb,za,CLe,ze,List.length_map])
 ·rintro ⟨i,j⟩ ⟨h1,h2,h3,h4⟩
  dsimp only at h1 h2 h3 h4 ⊢
  by_cases h:i<j
  ·obtain ⟨m,hm⟩:∃ m,m=(i+j) / 2:=⟨_,rfl⟩
   have hmi:((i:Int)+(j:Int)) / 2=(m:Int):=by omega
   have hml:m<xs.length:=by omega
   have hat:=qx xs m hml
   push_cast -dsimp [h,hmi,hat]
   repeat refine an ?_
   refine cl (zbJ xs[m] n) ?_;push_cast -dsimp
   by_cases hc:xs[m].ino<n
   ·have hcv:zd9 xs[m].ino n = -1:=by simp[zd9,hc]
    push_cast -dsimp [hcv]
    repeat refine an ?_
    refine ⟨(m+1,j),⟨by omega,h2,fun t ht hlt=>?_,h4⟩,by dsimp only;omega,wk⟩
    dsimp only at hlt
    rcases Nat.lt_or_ge t m with q | q
    ·have:=(List.pairwise_iff_getElem.1 hR) t m ht hml q;omega
    ·have:t=m:=by omega
     subst this;exact hc
   ·have hcv:(zd9 xs[m].ino n<0)=False:=eq_false (by unfold zd9;rw[if_neg hc];split<;>omega)
    push_cast -dsimp [hcv]
    repeat refine an ?_
    refine ⟨(i,m),⟨by omega,by omega,h3,fun t ht hge=>?_⟩,by dsimp only;omega,wk⟩
    dsimp only at hge
    rcases Nat.lt_or_ge m t with q | q
    ·have:=(List.pairwise_iff_getElem.1 hR) m t hml ht q;omega
    ·have:t=m:=by omega
     subst this;omega
  ·have hij:i=j:=by omega
   subst hij
   have hrk:=Hi n xs i h2 h3 h4
   push_cast -dsimp [h]
   refine br (fun hx=>?_) (fun hx=>?_)
   ·have hx:i<xs.length:=by simpa using hx
    have hat:=qx xs i hx
    have hh:=zi1 n xs i hx h3 (h4 i hx (Nat.le_refl _)) hR
    push_cast -dsimp [hx,hat]
    repeat refine an ?_
    refine cl (zbJ xs[i] n) ?_;push_cast -dsimp
    have hcv:decide (zd9 xs[i].ino n=0)=zw n xs:=by
     rw[hh]
     have:=h4 i hx (Nat.le_refl _)
     unfold zd9
     rw[if_neg (by omega)]
     split
     ·rw[decide_eq_false (by omega),decide_eq_false (by omega)]
     ·rw[decide_eq_true (by rfl),decide_eq_true (by omega)]
    push_cast -dsimp [hcv]
    exact dn (by push_cast -dsimp [zb,za,CLe,ze,hrk])
   ·have hx:¬i<xs.length:=by simpa using hx
    have hh:=zbK n xs fun t ht=>h3 t ht (by omega)
    push_cast -dsimp [hx]
    exact dn (by push_cast -dsimp [zb,za,CLe,ze,hrk,hh])
theorem zjf (f:FsV) (n:Int) (hl:f.xs.length<=100000) (hR:zZ f.xs):Fun Tryz.prog G 106 [.agg (fsC f),.sc (.int .i64 n)] (.tup [.sc (.int .i64 (je n f.xs:Nat)),.sc (.bool (zw n f.xs))]) 0:=by
 refine fon Tryz.func106 ?_;dsimp only[Tryz.f106]
 push_cast -dsimp
 refine cl (xI f.xs n hl hR) ?_;push_cast -dsimp
 exact dn
end
end
section
open Go.RowKit Go.ChangeMaps Go.ChangeShapes Go.WideShapes Go.Deep Go.Joins
def G9 (W:World):Env:=⟨W,fun _ _=>False,fun _=>False⟩
theorem Fun.answers {P:Program} {G:zk} {f:FuncId} {args:List C} {u:Value} {n:Nat} (h:Fun P G f args (.sc u) n) {W:World} {vs:List Value} (hg:YN G (G9 W)) (ha:zm (G9 W) zu args vs) :
  Calls P f vs.toArray W fun e w'=>e = .returned u/\Below W.heap.size W w':=by
 refine (h.2 (G9 W) vs hg ha).mono ?_
 rintro e w' ⟨v,R',L',rfl,rfl,st,hr⟩
 rw[zj]at hr
 subst hr
 exact ⟨rfl,st.below⟩
section
variable {H:Type} {enc:TypeId×Value->H} {P:Program} {W:World}
def Opn (enc:TypeId×Value->H) (P:Program) (W:World) (t:TypeId) (Q:C->Prop):Prop:=
 ∀ (fuel:Nat) (cs:List Value) (x:DataW H×List MemPlace),DataW.trod enc P W 0 (fun _=>true) true fuel t cs=some x->∃ v c,cs = [v]/\Q c/\Rep (G9 W) zu c v/\v.oneCell'=true
def qJ (enc:TypeId×Value->H) (P:Program) (W:World) (t:TypeId) (k:Nat) (Q:List C->Prop):Prop:=
 ∀ (fuel:Nat) (cs:List Value) (x:DataW H×List MemPlace),DataW.trod enc P W 0 (fun _=>true) true fuel t cs=some x ->
  ∃ row,Q row/\row.length=k/\cs.length=k/\∀ (j:Nat) c v,row[j]?=some c->cs[j]?=some v->Rep (G9 W) zu c v/\v.oneCell'=true
theorem Opn.int {t:TypeId} {k:IntKind} (ht:P.underlying t=some (.int k)):Opn enc P W t fun c=>∃ n,c = .sc (.int k n)/\(Lit.int k n).wf=true:=fun fuel cs x h=>by
 obtain ⟨n,rfl,_,hw⟩:=DataW.trod_int ht h
 exact ⟨_,_,rfl,⟨n,rfl,hw⟩,zj.2 rfl,rfl⟩
theorem Opn.bool {t:TypeId} (ht:P.underlying t=some .bool):Opn enc P W t fun c=>∃ b,c = .sc (.bool b):=fun fuel cs x h=>by
 obtain ⟨n,rfl,_⟩:=DataW.trod_bool ht h
 exact ⟨_,_,rfl,⟨n,rfl⟩,zj.2 rfl,rfl⟩
theorem Opn.str {t:TypeId} (ht:P.underlying t=some .string):Opn enc P W t fun c=>∃ l:List UInt8,c = .str l/\l.length<=maxLen:=fun fuel cs x h=>by
 obtain ⟨s,rfl,_,hs⟩:=DataW.trod_string ht h
 exact ⟨_,_,rfl,⟨s.data.toList,rfl,by rw[Array.length_toList];exact hs⟩,zC.2 (by cases s;simp),rfl⟩
theorem qJ.one {t:TypeId} {Q:C->Prop} (h:Opn enc P W t Q):qJ enc P W t 1 fun row=>∃ c,row = [c]/\Q c:=fun fuel cs x hx=>by
 obtain ⟨v,c,rfl,hq,hr,ho⟩:=h fuel cs x hx
 refine ⟨[c],⟨c,rfl,hq⟩,rfl,rfl,fun j c' v' h1 h2=>?_⟩
 cases j with
 | zero=>cases h1;cases h2;exact ⟨hr,ho⟩
 | succ j=>cases h1
theorem X2 {α:Type} {Q:Nat->α->Prop}:∀ n:Nat,(∀ i,i<n->∃ x,Q i x)->∃ l:List α,l.length=n/\∀ i (h:i<l.length),Q i l[i]
 | 0,_=>⟨[],rfl,fun i h=>absurd h (Nat.not_lt_zero _)⟩
 | n+1,h=>by
  obtain ⟨l,hl,hq⟩:=X2 n fun i hi=>h i (by omega)
  obtain ⟨x,hx⟩:=h n (by omega)
  refine ⟨l++[x],by simp[hl],fun i hi=>?_⟩
  rcases Nat.lt_or_ge i n with h1 | h1
  ·rw[List.getElem_append_left (by omega)];exact hq i (by omega)
  ·have:i=n:=by simp[hl]at hi;omega
   subst this
   rw[List.getElem_append_right (by omega)]
   simpa [hl] using hx
theorem qJ.struct {t:TypeId} {fs:Array Field} {Qs:Nat->C->Prop} (hs:P.underlying t=some (.struct fs)) (hone:oneCellFields P fs=true) (hC:P.cellsOf t=fs.size)
  (h:∀ (j:Nat) f,fs[j]?=some f->Opn enc P W f.type (Qs j)):qJ enc P W t fs.size fun row=>row.length=fs.size/\∀ (j:Nat) c,row[j]?=some c->Qs j c:=fun fuel cs x hx=>by
 obtain ⟨ys,n',hn',hy,hlen,hyl,hf⟩:=DataW.trod_struct hs hx
 rw[hC]at hlen
 obtain ⟨row,hl,hq⟩:=X2 (Q:=fun j (c:C)=>Qs j c/\∃ v,cs[j]?=some v/\Rep (G9 W) zu c v/\v.oneCell'=true) fs.size (fun j hj=>by
  have hfj:fs[j]?=some fs[j]:=Array.getElem?_eq_getElem hj
  obtain ⟨ho,hk⟩:=hone_of hone j _ hfj
  have h1:=hf j _ hfj
  rw[ho,hk]at h1
  have hone':(cs.drop j).take 1 = [cs[j]'(by omega)]:=by
   rw[List.drop_eq_getElem_cons (by omega)]
   rfl
  rw[hone',List.getElem?_eq_getElem (by omega)]at h1
  obtain ⟨v,c,e,hq,hr,hoc⟩:=h j _ hfj _ _ _ h1
  cases e
  exact ⟨c,hq,_,List.getElem?_eq_getElem (by omega),hr,hoc⟩)
 refine ⟨row,⟨hl,fun j c hj=>?_⟩,hl,hlen,fun j c v h1 h2=>?_⟩
 ·obtain ⟨hj',rfl⟩:=List.getElem?_eq_some_iff.1 hj
  exact (hq j hj').1
 ·obtain ⟨hj',rfl⟩:=List.getElem?_eq_some_iff.1 h1
  obtain ⟨_,v',e,hr,ho⟩:=hq j hj'
  rw[h2]at e;cases e
  exact ⟨hr,ho⟩
theorem Opn.slice {t e:TypeId} {k:Nat} {Q:List C->Prop} (ht:P.underlying t=some (.slice e)) (hC:P.cellsOf e=k) (hk:0<k) (h:qJ enc P W e k Q):Opn enc P W t fun c=>∃ rows,c = .sl k rows/\rows.length<=maxLen/\∀ r∈rows,Q r:=fun fuel cs x hx=>by
 rcases open_slice ht hx with h0 | ⟨a,len,cap,m,n,D,Pl,hcs,hb,hl,hm,hmm,hx,hi⟩
 ·exact ⟨_,.sl k [],h0.1,⟨[],rfl,Nat.zero_le _,fun r hr=>by cases hr⟩,U9.2 ⟨none,0,rfl,Nat.le_refl _,Nat.zero_le _,.inl rfl⟩,rfl⟩
 ·simp only[if_true]at hmm
  subst hmm
  obtain ⟨rows,hrl,hq⟩:=X2 (Q:=fun i (row:List C)=>Q row/\row.length=k/\∀ (j:Nat) c,row[j]?=some c->∃ v,W.cell? (a.add (i*k+j))=some v/\Rep (G9 W) zu c v/\v.oneCell'=true) len (fun i hlt=>by
   obtain ⟨cs',hc,ht'⟩:=hi i (by omega)
   rw[hC]at hc
   obtain ⟨row,hq,hl1,hl2,hr⟩:=h _ _ _ ht'
   obtain ⟨_,hcl,hat⟩:=World.cells?_some hc
   refine ⟨row,hq,hl1,fun j c hj=>?_⟩
   have hjl:j<k:=by have:=(List.getElem?_eq_some_iff.1 hj).1;omega
   have hv:cs'[j]?=some (cs'[j]'(by omega)):=List.getElem?_eq_getElem (by omega)
   obtain ⟨hr1,hr2⟩:=hr j c _ hj hv
   refine ⟨_,?_,hr1,hr2⟩
   rw[←Go.Deep.add_add,hat j hjl,hv])
  refine ⟨_,.sl k rows,hcs,⟨rows,rfl,by omega,fun r hr=>?_⟩,?_,rfl⟩
  ·obtain ⟨i,hi',rfl⟩:=List.getElem_of_mem hr
   exact (hq i hi').1
  ·refine U9.2 ⟨some a,m,by rw[hrl],by omega,by omega,?_⟩
   by_cases h0:rows = []
   ·exact .inl h0
   ·have hpos:0<rows.length:=List.length_pos_iff.2 h0
    obtain ⟨b,off,spot⟩:=a
    obtain ⟨_,hl0,h00⟩:=hq 0 hpos
    obtain ⟨v0,hc0,_⟩:=h00 0 ((rows[0]'hpos)[0]'(by omega)) (List.getElem?_eq_getElem _)
    have hspot:spot=none:=by simpa [Addr.add] using World.cell?_spot hc0
    subst hspot
    refine .inr ⟨b,off,rfl,qr fun i row hrow=>?_⟩
    obtain ⟨hi',rfl⟩:=List.getElem?_eq_some_iff.1 hrow
    obtain ⟨_,hlr,hcr⟩:=hq i hi'
    refine ⟨hlr,zK fun j c hj=>?_⟩
    obtain ⟨v,h1,h2,h3⟩:=hcr j c hj
    rw[Addr.add_lit]at h1
    exact ⟨v,by rw[Nat.add_assoc];exact h1,fun hf=>hf,h2,h3⟩
theorem Opn.arg {r:Reach} {b0:Nat} {t:TypeId} {Q:C->Prop} {v:Value} {d:DataW H} {p:List MemPlace} (h:Opn enc P W t Q) (hv:v.cells = #[v]) (hd:DataW.Trod enc P W 0 (fun _=>true) true t v d p):∃ c,Q c/\Rep (G9 W) zu c v:=by
 obtain ⟨fuel,hf⟩:=hd
 rw[hv]at hf
 obtain ⟨v',c,e,hq,hr,_⟩:=h _ _ _ hf
 cases e
 exact ⟨c,hq,hr⟩
theorem qJ.arg {r:Reach} {b0:Nat} {t:TypeId} {fs:Array Field} {k:Nat} {Q:List C->Prop} {v:Value} {d:DataW H} {p:List MemPlace} (h:qJ enc P W t k Q) (hs:P.underlying t=some (.struct fs)) (hval:Value.okWide P W r b0 t v)
  (hd:DataW.Trod enc P W 0 (fun _=>true) true t v d p):∃ row,Q row/\Rep (G9 W) zu (.agg row) v:=by
 obtain ⟨cs,rfl,hsz⟩:=okWide_struct hs hval
 obtain ⟨fuel,hf⟩:=hd
 obtain ⟨row,hq,h1,h2,hr⟩:=h _ _ _ hf
 refine ⟨row,hq,jd.2 ⟨cs,rfl,Jq ?_ fun i c v hc hv=>(hr i c v hc hv).1⟩⟩
 have:cs.toList.length=k:=h2
 omega
end
end
section
open Go.RowKit Go.ChangeMaps Go.ChangeShapes Go.WideShapes Go.Deep Go.Joins
theorem HE {α:Type} {f:α->List C} {q:α->Prop}:∀ {rows:List (List C)},(∀ r∈rows,∃ a,r=f a/\q a)->∃ xs:List α,rows=xs.map f/\∀ x∈xs,q x
 | [],_=>⟨[],rfl,fun x h=>by cases h⟩
 | r :: rows,h=>by
  obtain ⟨xs,rfl,hq⟩:=HE fun r' hr=>h r' (List.mem_cons_of_mem _ hr)
  obtain ⟨o,rfl,ho⟩:=h r List.mem_cons_self
  exact ⟨o :: xs,rfl,fun x hx=>by
   rcases List.mem_cons.1 hx with rfl | hx
   ·exact ho
   ·exact hq x hx⟩
section
variable {H:Type} {enc:TypeId×Value->H} {W:World}
theorem zk0:qJ enc Tryz.prog W 141 2 fun row=>∃ o:zH,row=H0 o/\o.name.length<=maxLen:=fun fuel cs x hx=>by
 obtain ⟨row,⟨hl,hq⟩,h1,h2,h3⟩:=qJ.struct (W:=W) (enc:=enc) (Qs:=fun j c=>match j with | 0=>∃ l:List UInt8,c = .str l/\l.length<=maxLen | 1=>∃ n,c = .sc (.int .i64 n)/\(Lit.int .i64 n).wf=true | _=>True) Tryz.underlying141 (by kernel_rfl) (by kernel_rfl) (fun j f hj=>by
  match j,hj with
  | 0,hj=>cases hj;exact Opn.str Tryz.underlying9
  | 1,hj=>cases hj;exact Opn.int Tryz.underlying3
  | j+2,hj=>simp at hj) fuel cs x hx
 match row,h1,hq,h3 with
 | [c0,c1],_,hq,h3 =>
  obtain ⟨a,rfl,ha⟩:=hq 0 c0 rfl
  obtain ⟨k,rfl,_⟩:=hq 1 c1 rfl
  exact ⟨_,⟨⟨a,k⟩,rfl,ha⟩,rfl,h2,h3⟩
theorem zfS:Opn enc Tryz.prog W 94 fun c=>∃ xs:List zH,c = .sl 2 (zE xs)/\xs.length<=maxLen/\∀ x∈xs,x.name.length<=maxLen:=fun fuel cs x hx=>by
 obtain ⟨v,c,rfl,⟨rows,rfl,hl,hr⟩,h1,h2⟩:=Opn.slice (W:=W) (enc:=enc) Tryz.underlying94 (show Tryz.prog.cellsOf 141=2 by kernel_rfl) (by decide) zk0 fuel cs x hx
 obtain ⟨xs,rfl,hq⟩:=HE hr
 exact ⟨v,_,rfl,⟨xs,rfl,by simpa using hl,hq⟩,h1,h2⟩
def zcq (x:zn):Prop:=x.data.length<=maxLen/\x.es.length<=maxLen/\∀ e∈x.es,e.name.length<=maxLen
theorem zeK:qJ enc Tryz.prog W 96 6 fun row=>∃ o:zn,row=JD o/\zcq o:=fun fuel cs x hx=>by
 obtain ⟨row,⟨hl,hq⟩,h1,h2,h3⟩:=qJ.struct (W:=W) (enc:=enc) (Qs:=fun j c=>match j with | 0=>∃ n,c = .sc (.int .i64 n)/\(Lit.int .i64 n).wf=true | 1=>∃ n,c = .sc (.int .i64 n)/\(Lit.int .i64 n).wf=true | 2=>∃ n,c = .sc (.int .i64 n)/\(Lit.int .i64 n).wf=true | 3=>∃ l:List UInt8,c = .str l/\l.length<=maxLen | 4=>∃ n,c = .sc (.int .i64 n)/\(Lit.int .i64 n).wf=true | 5=>∃ xs:List zH,c = .sl 2 (zE xs)/\xs.length<=maxLen/\∀ x∈xs,x.name.length<=maxLen | _=>True) Tryz.underlying96 (by kernel_rfl) (by kernel_rfl) (fun j f hj=>by
  match j,hj with
  | 0,hj=>cases hj;exact Opn.int Tryz.underlying3
  | 1,hj=>cases hj;exact Opn.int Tryz.underlying3
  | 2,hj=>cases hj;exact Opn.int Tryz.underlying3
  | 3,hj=>cases hj;exact Opn.str Tryz.underlying9
  | 4,hj=>cases hj;exact Opn.int Tryz.underlying3
  | 5,hj=>cases hj;exact zfS
  | j+6,hj=>simp at hj) fuel cs x hx
 match row,h1,hq,h3 with
 | [c0,c1,c2,c3,c4,c5],_,hq,h3 =>
  obtain ⟨a,rfl,_⟩:=hq 0 c0 rfl
  obtain ⟨b,rfl,_⟩:=hq 1 c1 rfl
  obtain ⟨c,rfl,_⟩:=hq 2 c2 rfl
  obtain ⟨d,rfl,hd⟩:=hq 3 c3 rfl
  obtain ⟨e,rfl,_⟩:=hq 4 c4 rfl
  obtain ⟨f,rfl,hf⟩:=hq 5 c5 rfl
  exact ⟨_,⟨⟨a,b,c,d,e,f⟩,rfl,hd,hf⟩,rfl,h2,h3⟩
theorem yG:Opn enc Tryz.prog W 22 fun c=>∃ xs:List zn,c = .sl 6 (zD xs)/\xs.length<=maxLen/\∀ x∈xs,zcq x:=fun fuel cs x hx=>by
 obtain ⟨v,c,rfl,⟨rows,rfl,hl,hr⟩,h1,h2⟩:=Opn.slice (W:=W) (enc:=enc) Tryz.underlying22 (show Tryz.prog.cellsOf 96=6 by kernel_rfl) (by decide) zeK fuel cs x hx
 obtain ⟨xs,rfl,hq⟩:=HE hr
 exact ⟨v,_,rfl,⟨xs,rfl,by simpa using hl,hq⟩,h1,h2⟩
theorem zoG:qJ enc Tryz.prog W 24 4 fun row=>∃ f:FsV,row=fsC f/\f.xs.length<=maxLen/\∀ x∈f.xs,zcq x:=fun fuel cs x hx=>by
 obtain ⟨row,⟨hl,hq⟩,h1,h2,h3⟩:=qJ.struct (W:=W) (enc:=enc) (Qs:=fun j c=>match j with | 0=>∃ n,c = .sc (.int .i64 n)/\(Lit.int .i64 n).wf=true | 1=>∃ n,c = .sc (.int .i64 n)/\(Lit.int .i64 n).wf=true | 2=>∃ n,c = .sc (.int .i64 n)/\(Lit.int .i64 n).wf=true | 3=>∃ xs:List zn,c = .sl 6 (zD xs)/\xs.length<=maxLen/\∀ x∈xs,zcq x | _=>True) Tryz.underlying24 (by kernel_rfl) (by kernel_rfl) (fun j f hj=>by
  match j,hj with
  | 0,hj=>cases hj;exact Opn.int Tryz.underlying3
  | 1,hj=>cases hj;exact Opn.int Tryz.underlying3
  | 2,hj=>cases hj;exact Opn.int Tryz.underlying3
  | 3,hj=>cases hj;exact yG
  | j+4,hj=>simp at hj) fuel cs x hx
 match row,h1,hq,h3 with
 | [c0,c1,c2,c3],_,hq,h3 =>
  obtain ⟨a,rfl,_⟩:=hq 0 c0 rfl
  obtain ⟨b,rfl,_⟩:=hq 1 c1 rfl
  obtain ⟨c,rfl,_⟩:=hq 2 c2 rfl
  obtain ⟨d,rfl,hd⟩:=hq 3 c3 rfl
  exact ⟨_,⟨⟨a,b,c,d⟩,rfl,hd⟩,rfl,h2,h3⟩
end
end
section
open Go
structure zld (κ:Type) where
 lt:κ->κ->Bool
 irr:∀ a,lt a a=false
 tr:∀ {a b c},lt a b=true->lt b c=true->lt a c=true
 tot:∀ {a b},lt a b=false->lt b a=false->a=b
theorem Xb:∀ a:List UInt8,Op.bytesLess a a=false
 | []=>rfl
 | c :: a=>by
  have h:¬c<c:=by simp
  simp[Op.bytesLess,Xb a]
theorem kU:∀ {a b c:List UInt8},Op.bytesLess a b=true->Op.bytesLess b c=true->Op.bytesLess a c=true
 | _,[],_,h,_=>by unfold Op.bytesLess at h;cases h
 | [],y :: b,[],_,h2=>by unfold Op.bytesLess at h2;cases h2
 | [],y :: b,z :: c,_,_=>rfl
 | x :: a,y :: b,[],_,h2=>by unfold Op.bytesLess at h2;cases h2
 | x :: a,y :: b,z :: c,h1,h2=>by
  unfold Op.bytesLess at h1 h2 ⊢
  simp only[Bool.or_eq_true,Bool.and_eq_true,decide_eq_true_eq,beq_iff_eq]at h1 h2 ⊢
  rcases h1 with h1 | ⟨rfl,h1⟩
  ·rcases h2 with h2 | ⟨rfl,h2⟩
   ·exact .inl (UInt8.lt_trans h1 h2)
   ·exact .inl h1
  ·rcases h2 with h2 | ⟨rfl,h2⟩
   ·exact .inl h2
   ·exact .inr ⟨rfl,kU h1 h2⟩
theorem Ut:∀ {a b:List UInt8},Op.bytesLess a b=false->Op.bytesLess b a=false->a=b
 | [],[],_,_=>rfl
 | [],y :: b,h,_=>by unfold Op.bytesLess at h;cases h
 | x :: a,[],_,h=>by unfold Op.bytesLess at h;cases h
 | x :: a,y :: b,h1,h2=>by
  unfold Op.bytesLess at h1 h2
  simp only[Bool.or_eq_false_iff,decide_eq_false_iff_not,Bool.and_eq_false_iff,beq_eq_false_iff_ne]at h1 h2
  obtain ⟨g1,g2⟩:=h1
  obtain ⟨g3,g4⟩:=h2
  have hxy:x=y:=by
   apply UInt8.toNat_inj.1
   have e1:¬x.toNat<y.toNat:=fun h=>g1 (UInt8.lt_iff_toNat_lt.2 h)
   have e2:¬y.toNat<x.toNat:=fun h=>g3 (UInt8.lt_iff_toNat_lt.2 h)
   omega
  subst hxy
  have h3:Op.bytesLess a b=false:=by rcases g2 with g | g;exact absurd rfl g;exact g
  have h4:Op.bytesLess b a=false:=by rcases g4 with g | g;exact absurd rfl g;exact g
  rw[Ut h3 h4]
theorem zeQ:∀ a b:List UInt8,(Lib.compareBytes a b<0)=(Op.bytesLess a b=true)
 | [],[]=>by simp[Lib.compareBytes,Op.bytesLess]
 | [],_ :: _=>by simp[Lib.compareBytes,Op.bytesLess]
 | _ :: _,[]=>by simp[Lib.compareBytes,Op.bytesLess]
 | a :: x,b :: y=>by
  unfold Lib.compareBytes Op.bytesLess
  by_cases h1:a<b
  ·simp[h1]
  ·rw[if_neg h1]
   by_cases h2:b<a
   ·have:a≠b:=fun e=>by subst e;exact h1 h2
    simp[h1,h2,this]
   ·have e:a=b:=by
     apply UInt8.toNat_inj.1
     have e1:¬a.toNat<b.toNat:=fun h=>h1 (UInt8.lt_iff_toNat_lt.2 h)
     have e2:¬b.toNat<a.toNat:=fun h=>h2 (UInt8.lt_iff_toNat_lt.2 h)
     omega
    rw[if_neg h2,zeQ x y]
    subst e
    simp[h1]
theorem zfd:∀ a b:List UInt8,(Lib.compareBytes a b=0)=(a=b)
 | [],[]=>by simp[Lib.compareBytes]
 | [],_ :: _=>by simp[Lib.compareBytes]
 | _ :: _,[]=>by simp[Lib.compareBytes]
 | a :: x,b :: y=>by
  unfold Lib.compareBytes
  by_cases h1:a<b
  ·have:a≠b:=fun e=>by subst e;simp at h1
   simp[h1,this]
  ·rw[if_neg h1]
   by_cases h2:b<a
   ·have:a≠b:=fun e=>by subst e;exact h1 h2
    simp[h2,this]
   ·have e:a=b:=by
     apply UInt8.toNat_inj.1
     have e1:¬a.toNat<b.toNat:=fun h=>h1 (UInt8.lt_iff_toNat_lt.2 h)
     have e2:¬b.toNat<a.toNat:=fun h=>h2 (UInt8.lt_iff_toNat_lt.2 h)
     omega
    rw[if_neg h2,zfd x y]
    subst e
    simp
def jb:zld (List UInt8):=⟨Op.bytesLess,Xb,kU,Ut⟩
def zo5:zld Int:=⟨fun a b=>decide (a<b),fun a=>by simp,fun h1 h2=>by simp at h1 h2 ⊢;omega,fun h1 h2=>by simp at h1 h2;omega⟩
section
variable {α κ:Type} [DecidableEq κ] (o:zld κ) (key:α->κ)
def jt (xs:List α):Prop:=xs.Pairwise fun a b=>o.lt (key a) (key b)=true
def jf (n:κ) (xs:List α):Nat:=(xs.filter fun x=>o.lt (key x) n).length
def Qa (n:κ) (xs:List α):Bool:=xs.any fun x=>decide (key x=n)
def jM (n:κ) (xs:List α):Option α:=xs.find? fun x=>decide (key x=n)
def JU (n:κ) (xs:List α):List α:=xs.filter fun x=>!decide (key x=n)
def X8 (x:α):List α->List α
 | []=>[x]
 | y :: r=>if o.lt (key x) (key y) then x :: y :: r else y :: X8 x r
variable {o:zld κ} {key:α->κ}
theorem zld.asym {a b:κ} (h:o.lt a b=true):o.lt b a=false:=by
 cases h':o.lt b a with
 | false=>rfl
 | true=>have:=o.tr h h';rw[o.irr]at this;cases this
theorem Hp (n:κ):∀ (xs:List α) (i:Nat),i<=xs.length->(∀ t (h:t<xs.length),t<i->o.lt (key xs[t]) n=true)->(∀ t (h:t<xs.length),i<=t->o.lt (key xs[t]) n=false)->jf o key n xs=i
 | [],i,h,_,_=>by simp at h;simp[jf,h]
 | x :: r,0,_,_,h2=>by
  have hx:o.lt (key x) n=false:=h2 0 (by simp) (Nat.le_refl _)
  have ih:=Hp n r 0 (Nat.zero_le _) (fun t h h'=>absurd h' (Nat.not_lt_zero _)) (fun t h _=>h2 (t+1) (by simp;omega) (Nat.zero_le _))
  unfold jf at ih ⊢
  rw[List.filter_cons_of_neg (by simp[hx])]
  exact ih
 | x :: r,i+1,h,h1,h2=>by
  have hx:o.lt (key x) n=true:=h1 0 (by simp) (Nat.succ_pos _)
  have ih:=Hp n r i (by simpa using h) (fun t h h'=>h1 (t+1) (by simp;omega) (by omega)) (fun t h h'=>h2 (t+1) (by simp;omega) (by omega))
  unfold jf at ih ⊢
  rw[List.filter_cons_of_pos (by simp[hx]),List.length_cons,ih]
theorem zgr (n:κ) (xs:List α):jf o key n xs<=xs.length:=List.length_filter_le _ _
theorem jV {y:α} {r:List α}:jt o key (y :: r)↔(∀ z∈r,o.lt (key y) (key z)=true)/\jt o key r:=List.pairwise_cons
theorem zap {n:κ} {y:α} {r:List α} (h:o.lt (key y) n=true):jf o key n (y :: r)=jf o key n r+1:=by
 unfold jf
 rw[List.filter_cons_of_pos (by simpa using h),List.length_cons]
theorem zah {n:κ} {y:α} {r:List α} (hR:jt o key (y :: r)) (h:o.lt (key y) n=false):jf o key n (y :: r)=0:=by
 obtain ⟨h1,_⟩:=jV.1 hR
 unfold jf
 rw[List.length_eq_zero_iff,List.filter_eq_nil_iff]
 intro z hz
 rcases List.mem_cons.1 hz with rfl | hz
 ·simp[h]
 ·have h3:=h1 z hz
  cases h4:o.lt (key z) n with
  | false=>simp
  | true=>have:=o.tr h3 h4;rw[h]at this;cases this
theorem zek {n:κ} {y:α} {r:List α} (hR:jt o key (y :: r)) (h:o.lt (key y) n=false):Qa key n (y :: r)=decide (key y=n):=by
 obtain ⟨h1,_⟩:=jV.1 hR
 unfold Qa
 rw[List.any_cons]
 have:(r.any fun x=>decide (key x=n))=false:=List.any_eq_false.2 fun z hz=>by
  have h3:=h1 z hz
  simp only[decide_eq_true_eq]
  rintro rfl
  rw[h3]at h;cases h
 rw[this,Bool.or_false]
theorem ui (n:κ):∀ {xs:List α},jt o key xs->(∀ t (h:t<xs.length),t<jf o key n xs->o.lt (key xs[t]) n=true)/\(∀ t (h:t<xs.length),jf o key n xs<=t->o.lt (key xs[t]) n=false) /\
  (Qa key n xs=true->∃ h:jf o key n xs<xs.length,key xs[jf o key n xs]=n/\jM key n xs=some xs[jf o key n xs]/\JU key n xs=xs.take (jf o key n xs)++xs.drop (jf o key n xs+1)/\∀ x,key x=n->X8 o key x (JU key n xs)=xs.set (jf o key n xs) x) /\
  (Qa key n xs=false->jM key n xs=none/\JU key n xs=xs/\∀ x,key x=n->X8 o key x xs=xs.take (jf o key n xs)++x :: xs.drop (jf o key n xs))
 | [],_=>⟨fun t h=>absurd h (Nat.not_lt_zero _),fun t h=>absurd h (Nat.not_lt_zero _),fun h=>(by cases h),fun _=>⟨rfl,rfl,fun x _=>rfl⟩⟩
 | y :: r,hR=>by
  obtain ⟨h1,h2⟩:=jV.1 hR
  obtain ⟨i1,i2,i3,i4⟩:=ui n h2
  cases hy:o.lt (key y) n with
  | true =>
   have hne:key y≠n:=by rintro rfl;rw[o.irr]at hy;cases hy
   have hrk:=zap (r:=r) hy
   have hhas:Qa key n (y :: r)=Qa key n r:=by unfold Qa;rw[List.any_cons,decide_eq_false hne,Bool.false_or]
   have hfind:jM key n (y :: r)=jM key n r:=by unfold jM;rw[List.find?_cons_of_neg (by simpa using hne)]
   have hless:JU key n (y :: r)=y :: JU key n r:=by unfold JU;rw[List.filter_cons_of_pos (by simpa using hne)]
   have hput:∀ x q,key x=n->X8 o key x (y :: q)=y :: X8 o key x q:=fun x q hx=>by
    rw[X8,hx,zld.asym hy];rfl
   rw[hhas,hfind,hless,hrk]
   refine ⟨fun t h ht=>?_,fun t h ht=>?_,fun h=>?_,fun h=>?_⟩
   ·cases t with
    | zero=>exact hy
    | succ t=>exact i1 t (by simpa using h) (by omega)
   ·cases t with
    | zero=>omega
    | succ t=>exact i2 t (by simpa using h) (by omega)
   ·obtain ⟨g,g1,g2,g3,g4⟩:=i3 h
    refine ⟨by simp;omega,by simpa using g1,by simpa using g2,by rw[g3];simp,fun x hx=>?_⟩
    rw[hput x _ hx,g4 x hx];simp
   ·obtain ⟨g1,g2,g3⟩:=i4 h
    refine ⟨g1,by rw[g2],fun x hx=>?_⟩
    rw[hput x _ hx,g3 x hx];simp
  | false =>
   have hrk:=zah hR hy
   have hhas:=zek hR hy
   rw[hrk,hhas]
   have hno:∀ z∈r,key z≠n:=fun z hz=>by
    have h3:=h1 z hz
    rintro rfl
    rw[h3]at hy;cases hy
   have hlr:JU key n r=r:=by
    unfold JU
    rw[List.filter_eq_self]
    intro z hz
    simpa using hno z hz
   refine ⟨fun t h ht=>absurd ht (Nat.not_lt_zero _),fun t h _=>?_,fun h=>?_,fun h=>?_⟩
   ·cases t with
    | zero=>exact hy
    | succ t =>
     have h3:=h1 (r[t]'(by simpa using h)) (List.getElem_mem _)
     show o.lt (key (r[t]'(by simpa using h))) n=false
     cases h4:o.lt (key (r[t]'(by simpa using h))) n with
     | false=>rfl
     | true=>have:=o.tr h3 h4;rw[hy]at this;cases this
   ·have hk:key y=n:=of_decide_eq_true h
    have hl:JU key n (y :: r)=r:=by
     show (y :: r).filter (fun x=>!decide (key x=n))=r
     rw[List.filter_cons_of_neg (by simpa using hk)];exact hlr
    refine ⟨by simp,hk,by unfold jM;rw[List.find?_cons_of_pos (by simpa using hk)];rfl,by rw[hl];simp,fun x hx=>?_⟩
    rw[hl]
    cases r with
    | nil=>rfl
    | cons z q =>
     have h3:=h1 z List.mem_cons_self
     rw[hk]at h3
     rw[X8,hx,h3];rfl
   ·have hk:key y≠n:=of_decide_eq_false h
    have hny:o.lt n (key y)=true:=by
     cases h5:o.lt n (key y) with
     | true=>rfl
     | false=>exact absurd (o.tot hy h5) hk
    refine ⟨?_,?_,fun x hx=>?_⟩
    ·unfold jM
     rw[List.find?_eq_none]
     intro z hz
     rcases List.mem_cons.1 hz with rfl | hz
     ·simpa using hk
     ·simpa using hno z hz
    ·show (y :: r).filter (fun x=>!decide (key x=n))=y :: r
     rw[List.filter_cons_of_pos (by simpa using hk)]
     exact congrArg _ hlr
    ·rw[X8,hx,hny];rfl
theorem zlR (n:κ) {xs:List α} (hR:jt o key xs) {i:Nat} (hi:jf o key n xs=i) (h:i<xs.length):Qa key n xs=decide (key xs[i]=n):=by
 subst hi
 obtain ⟨_,_,h3,_⟩:=ui n hR
 cases hh:Qa key n xs with
 | true=>obtain ⟨_,g,_⟩:=h3 hh;rw[decide_eq_true g]
 | false =>
  symm
  rw[decide_eq_false_iff_not]
  intro e
  unfold Qa at hh
  rw[List.any_eq_false]at hh
  exact hh _ (List.getElem_mem h) (decide_eq_true e)
theorem ziB (n:κ) {xs:List α} (hR:jt o key xs) (hi:jf o key n xs=xs.length):Qa key n xs=false:=by
 obtain ⟨_,_,h3,_⟩:=ui n hR
 cases hh:Qa key n xs with
 | false=>rfl
 | true=>obtain ⟨g,_⟩:=h3 hh;omega
theorem Mv (n:κ) {xs:List α} (h:jt o key xs):jt o key (JU key n xs):=h.filter _
theorem HK {x y:α}:∀ {xs:List α},y∈X8 o key x xs↔y=x∨y∈xs
 | []=>by simp[X8]
 | z :: r=>by
  unfold X8
  split
  ·simp
  ·rw[List.mem_cons,HK,List.mem_cons]
   constructor
   ·rintro (h | h | h)
    ·exact .inr (.inl h)
    ·exact .inl h
    ·exact .inr (.inr h)
   ·rintro (h | h | h)
    ·exact .inr (.inl h)
    ·exact .inl h
    ·exact .inr (.inr h)
theorem Gw {n:κ} {y:α} {xs:List α}:y∈JU key n xs↔y∈xs/\key y≠n:=by unfold JU;simp
theorem kA {x:α}:∀ {xs:List α},jt o key xs->(∀ y∈xs,key y≠key x)->jt o key (X8 o key x xs)
 | [],_,_=>by unfold X8 jt;simp
 | y :: r,hR,hne=>by
  obtain ⟨h1,h2⟩:=jV.1 hR
  unfold X8
  cases hxy:o.lt (key x) (key y) with
  | true =>
   rw[if_pos rfl,jV]
   refine ⟨fun z hz=>?_,hR⟩
   rcases List.mem_cons.1 hz with rfl | hz
   ·exact hxy
   ·exact o.tr hxy (h1 z hz)
  | false =>
   rw[if_neg (by simp),jV]
   have hyx:o.lt (key y) (key x)=true:=by
    cases h:o.lt (key y) (key x) with
    | true=>rfl
    | false=>exact absurd (o.tot h hxy) (hne y List.mem_cons_self)
   refine ⟨fun z hz=>?_,kA h2 fun z hz=>hne z (List.mem_cons_of_mem _ hz)⟩
   rcases HK.1 hz with rfl | hz
   ·exact hyx
   ·exact h1 z hz
theorem VL {x:α} {xs:List α} (h:jt o key xs):jt o key (X8 o key x (JU key (key x) xs)):=
 kA (Mv _ h) fun y hy=>(Gw.1 hy).2
theorem VJ (n:κ) (xs:List α):(JU key n xs).length<=xs.length:=List.length_filter_le _ _
theorem vX (x:α):∀ xs:List α,(X8 o key x xs).length=xs.length+1
 | []=>rfl
 | y :: r=>by
  unfold X8
  split
  ·rfl
  ·rw[List.length_cons,vX x r];rfl
end
end
section
open Go.RowKit
section
variable {G:zk}
theorem ur (rows:List (List C)) (hk:∀ r∈rows,r.length=2) (hs:jI rows) (hl:rows.length<=100000) :
  YX Tryz.prog G 279 [.sl 2 rows] [] 0 (zjk 2 rows):=by
 refine YX.bySlice (fun h=>?_) (fun h a cap hr=>?_)
 ·refine foX (fun i=>if i=1000000+94 then [true,true] else []) Tryz.func279 ?_;dsimp only[Tryz.f279]
  push_cast -dsimp
  refine ⟨h,UI VP Xo rfl rfl (by decide) rfl (qk hk) rfl (Nat.le_refl _) (Nat.le_refl _) (by omega) (by omega) (fun hc=>absurd hc ?_) (fun _ c hc hm=>?_)⟩
  ·have:=List.length_pos_iff.2 h;omega
  ·push_cast -dsimp
   rw[Nat.zero_add]at hc
   refine ⟨_,_,_,⟨⟨rfl,.inl ⟨h,c,hc,hm,rfl,rfl⟩⟩,Nat.zero_le _⟩,[],rfl,rfl,?_,by push_cast -dsimp [zb,za,CLe,ze]⟩
   push_cast -dsimp [zb,za,CLe,ze]
   exact zX (qn hs)
 ·cases a with
  | none =>
   refine foX (fun i=>if i=1000000+94 then [true,true] else []) Tryz.func279 ?_;dsimp only[Tryz.f279]
   push_cast -dsimp [hr,Option.isNone_none]
   exact ⟨_,_,_,⟨⟨rfl,.inr ⟨h,.inl ⟨rfl,rfl⟩⟩⟩,Nat.zero_le _⟩,[],rfl,rfl,by push_cast -dsimp [zb,za,CLe,ze],by push_cast -dsimp [zb,za,CLe,ze]⟩
  | some a =>
   refine foX (fun i=>if i=1000000+94 then [true,true] else []) Tryz.func279 ?_;dsimp only[Tryz.f279]
   push_cast -dsimp [hr,Option.isNone_some]
   have hx:C.xs? 2 [[]] (C.sc (.slice (some a) 0 cap))=some (0,[]):=by simp[C.xs?,hr]
   refine UI VP Xo hx rfl (by decide) rfl rfl rfl (Nat.le_refl _) (Nat.le_refl _) (by omega) (by omega) (fun _=>?_) (fun hc=>absurd hc (by omega))
   push_cast -dsimp
   exact ⟨_,_,_,⟨⟨rfl,.inr ⟨h,.inr ⟨rfl,rfl⟩⟩⟩,Nat.zero_le _⟩,[],rfl,rfl,by (push_cast -dsimp [zb,za,CLe,ze];simp[spl,ze]),by push_cast -dsimp [zb,za,CLe,ze]⟩
theorem y7 (rows:List (List C)) (x:List C) (i c e:Nat) (hk:∀ r∈rows,r.length=2) (hx:x.length=2) (hs:jI rows) (hsx:(x.all C.stayB)=true) (hl:rows.length<=100000) (hi:i<=rows.length) (hc:rows.length<=c) (hcm:c<=9223372036854775807) :
  YX Tryz.prog G 280 [.bs 0 0 2 rows.length c,.sc (.int .i64 i),.own 0 e 2 [x]] [jy 2 rows c] 1 (zqy 2 (c*2) (rows.take i++x :: rows.drop i)):=by
 refine foX (fun j=>if j=1000000+94 then [true,true] else if j=11 then [false,false,false,false,false,false,false,false,true] else if j=15 then [false,false,false,false,false,false,false,false,true] else []) Tryz.func280 ?_;dsimp only[Tryz.f280]
 push_cast -dsimp
 have hlen:(rows.take i++x :: rows.drop i).length=rows.length+1:=by simp;omega
 have hki:∀ r∈rows.take i++x :: rows.drop i,r.length=2:=fun r hr=>by
  rcases List.mem_append.1 hr with hr | hr
  ·exact hk r (List.mem_of_mem_take hr)
  ·rcases List.mem_cons.1 hr with rfl | hr
   ·exact hx
   ·exact hk r (List.mem_of_mem_drop hr)
 have hsi:jI (rows.take i++x :: rows.drop i):=fun r hr=>by
  rcases List.mem_append.1 hr with hr | hr
  ·exact hs r (List.mem_of_mem_take hr)
  ·rcases List.mem_cons.1 hr with rfl | hr
   ·exact hsx
   ·exact hs r (List.mem_of_mem_drop hr)
 have hbl:=Qu hk hc
 have hfl:=qk hk
 have hxl:[x].flatten.length=1*2:=by simp[hx]
 have hpre:(jy 2 rows c).take rows.flatten.length=rows.flatten:=by unfold jy;rw[List.take_left]
 refine ⟨hc,⟨by omega,hi⟩,br (fun h=>?_) (fun h=>?_)⟩
 ·push_cast -dsimp
  refine UI VP Xo rfl rfl (by decide) rfl hxl rfl (by rw[hbl];omega) hc (by simp;omega) (by simp;omega) (fun h1=>?_) (fun h1 c' h2 h3=>?_)
  ·push_cast -dsimp
   have hi':i=rows.length:=of_decide_eq_true h
   refine ⟨_,_,_,⟨⟨rfl,c,by rw[hlen];exact h1,hcm,.inl ⟨rfl,rfl⟩⟩,Nat.le_refl _⟩,[],rfl,rfl,?_,by push_cast -dsimp [zb,za,CLe,ze,hlen]⟩
   push_cast -dsimp [zb,za,CLe,ze]
   have h6:rows.length*2+2<=c*2:=by have:rows.length+1<=c:=h1;omega
   refine Xn hki hsi (by rw[hlen];exact h1) (by rw[HJ (by rw[hbl,hx];exact h6),hbl]) ?_
   rw[hlen,hi',List.take_length,List.drop_length]
   unfold spl
   rw[←hfl,hpre,List.take_left' (by simp[hx,hfl];omega)]
   simp
  ·push_cast -dsimp
   have hi':i=rows.length:=of_decide_eq_true h
   have h2':rows.length+1<=c':=h2
   refine ⟨_,_,_,⟨⟨rfl,c',by rw[hlen];exact h2,h3,.inr ⟨rfl,rfl⟩⟩,Nat.le_of_ble_eq_true rfl⟩,[],rfl,rfl,?_,by push_cast -dsimp [zb,za,CLe,ze,hlen]⟩
   push_cast -dsimp [zb,za,CLe,ze]
   refine ⟨X5 hbl,Xn hki hsi (by rw[hlen];exact h2) (by simp[hx,hbl];omega) ?_⟩
   rw[hlen,hi',List.take_length,List.drop_length,←hfl,hpre,List.take_left' (by simp[hx,hfl];omega)]
   simp
 ·have hne:i≠rows.length:=of_decide_eq_false h
  push_cast -dsimp
  refine ⟨⟨by omega,by omega⟩,br (fun h1=>?_) (fun h1=>?_)⟩
  ·have h1':(c:Int)<(rows.length:Int)+1:=of_decide_eq_true h1
   push_cast -dsimp
   repeat refine an ?_
   refine zoL VP znw Xo rfl (by decide) rfl rfl (by rw[hbl];omega) (by omega) (by omega) (by omega) (by omega) (by omega) (fun c' B h2 h3 hBl hBt=>?_)
   have e1:((rows.length:Int)+1-(i:Int)).toNat=rows.length+1-i:=by omega
   rw[e1]at h2 ⊢
   have e2:i+(rows.length+1-i)=rows.length+1:=by omega
   rw[e2]at h2 ⊢
   push_cast -dsimp
   repeat refine an ?_
   refine ZO VP Xo rfl rfl hxl (by rw[hBl];omega) (fun B1 hB1 hl1=>?_)
   rw[hBl]at hl1
   push_cast -dsimp
   repeat refine an ?_
   have hbp:=Z4 (c:=c) hk hi
   refine ZO VP Xo (yN rfl (by rw[hbl];omega)) rfl (by rw[hbp,List.length_drop,hfl];omega) (by rw[hl1];omega) (fun B2 hB2 hl2=>?_)
   rw[hl1]at hl2
   have hX:[x].flatten.take (min [x].length (rows.length+1-i)*2)=x:=by
    rw[List.length_singleton,Nat.min_eq_left (by omega),List.take_of_length_le (by omega)];simp
   rw[hX]at hB1
   rw[hbp,show min (rows.length-i) (rows.length-i)*2=(rows.length-i)*2 by omega,List.take_of_length_le (by rw[List.length_drop,hfl];omega),hB1]at hB2
   push_cast -dsimp
   refine ⟨_,_,_,⟨⟨rfl,c',by rw[hlen];exact h2,h3,.inr ⟨rfl,rfl⟩⟩,Nat.le_of_ble_eq_true rfl⟩,[],rfl,rfl,?_,by push_cast -dsimp [zb,za,CLe,ze,hlen]⟩
   push_cast -dsimp [zb,za,CLe,ze]
   refine ⟨X5 hbl,Xn hki hsi (by rw[hlen];exact h2) hl2 ?_⟩
   rw[hlen,←Vb hk,hB2]
   have hg:=vK (cs:=B) (L:=rows.flatten) (X:=x) (p:=i*2) (q:=(i+1)*2) (by omega) (by omega) (by
    rw[hBt,List.drop_zero];unfold jy;rw[List.take_append_of_le_length (by omega)]) (by omega)
   rw[hfl,hx]at hg
   rw[←hg]
   congr 1;omega
  ·have h1':¬(c:Int)<(rows.length:Int)+1:=of_decide_eq_false h1
   push_cast -dsimp
   repeat refine an ?_
   refine zmx (zdc (P:=Tryz.prog) (tR:=4) Tryz.func290 (by kernel_rfl) (by kernel_rfl) (by kernel_rfl) (by kernel_rfl) VP Xo rfl (List.ne_nil_of_length_pos (by rw[hbl];omega)) (by simp) (by omega)) ?_
   push_cast -dsimp
   repeat refine an ?_
   have hbp:=Z4 (c:=c) hk hi
   refine ZO VP Xo (yN rfl (by rw[hbl];omega)) rfl (by simp[hbl];omega) (by rw[hbl];omega) (fun B1 hB1 hl1=>?_)
   rw[hbl]at hl1
   rw[List.take_take,Nat.min_eq_left (by omega),show min (rows.length+1-i) (rows.length-i)*2=(rows.length-i)*2 by omega,hbp]at hB1
   push_cast -dsimp
   repeat refine an ?_
   refine ZO VP Xo rfl rfl hxl (by rw[hl1];omega) (fun B2 hB2 hl2=>?_)
   rw[hl1]at hl2
   have hX:[x].flatten.take (min [x].length (rows.length+1-i)*2)=x:=by
    rw[List.length_singleton,Nat.min_eq_left (by omega),List.take_of_length_le (by omega)];simp
   rw[hX,hB1]at hB2
   push_cast -dsimp
   have hcc:rows.length+1<=c:=by omega
   refine ⟨_,_,_,⟨⟨rfl,c,by rw[hlen];exact hcc,hcm,.inl ⟨rfl,rfl⟩⟩,Nat.le_of_ble_eq_true rfl⟩,[],rfl,rfl,?_,by push_cast -dsimp [zb,za,CLe,ze,hlen]⟩
   push_cast -dsimp [zb,za,CLe,ze]
   refine Xn hki hsi (by rw[hlen];exact hcc) hl2 ?_
   rw[hlen,←Vb hk,hB2]
   have hg:=GJ (cs:=jy 2 rows c) (L:=rows.flatten) (X:=x) (p:=i*2) (q:=(i+1)*2) (by omega) (by omega) hpre (by omega)
   rw[hfl,hx]at hg
   rw[←hg]
   congr 1;omega
theorem zh0 {e:Nat} (x:List C) (hx:x.length=2) (hsx:(x.all C.stayB)=true) :
  YX Tryz.prog G 280 [.sc (.slice none 0 0),.sc (.int .i64 0),.own 0 e 2 [x]] [] 1 (fun r bx' n=>n=0/\∃ c,1<=c/\c<=9223372036854775807/\r = .bs 0 0 2 1 c/\bx' = [jy 2 [x] c]):=by
 refine foX (fun j=>if j=1000000+94 then [true,true] else if j=11 then [false,false,false,false,false,false,false,false,true] else if j=15 then [false,false,false,false,false,false,false,false,true] else []) Tryz.func280 ?_;dsimp only[Tryz.f280]
 push_cast -dsimp
 refine vi VP Xo rfl rfl (by decide) rfl (by simp[hx]) (by simp) (by simp) (by simp) (fun c h1 h2=>?_)
 push_cast -dsimp
 refine ⟨_,_,_,⟨⟨rfl,c,h1,h2,rfl,rfl⟩,Nat.zero_le _⟩,[],rfl,rfl,?_,by push_cast -dsimp [zb,za,CLe,ze]⟩
 push_cast -dsimp [zb,za,CLe,ze]
 have:=zX (src:=[]) (n:=1) (qn (k:=2) (c:=c) (rows:=[x]) fun r hr=>by
  rw[List.mem_singleton.1 hr];exact hsx)
 unfold jy at this ⊢
 simpa using this
end
end
end Go.Proofs.YtaipngaejfndgaaGreatDoor.Vcg
section
namespace Go.Proofs
open Go.Shelf
def Tryz.lays169_ren:Go.Shelf.Ren:=⟨fun | 169=>175 | n=>n,fun | 70=>207 | 9=>9 | 0=>0 | 72=>209 | 37=>164 | 127=>245 | 3=>3 | 5=>5 | n=>n,fun | n=>n⟩
theorem Tryz.lays169:Go.Proofs.Lays.n169 Tryz.prog Tryz.lays169_ren:={
 mixed:=by kernel_rfl
 f169:=Tryz.func175.trans (congrArg some (by kernel_rfl))
 t0:=Tryz.underlying0
 a0:=Tryz.isAgg0
 z0:=Tryz.sizeOf0
 v0:=Tryz.zeroValue0
 t3:=Tryz.underlying3
 a3:=Tryz.isAgg3
 z3:=Tryz.sizeOf3
 v3:=Tryz.zeroValue3
 t9:=Tryz.underlying9
 a9:=Tryz.isAgg9
 z9:=Tryz.sizeOf9
 v9:=Tryz.zeroValue9
 t37:=Tryz.underlying164
 a37:=Tryz.isAgg164
 z37:=Tryz.sizeOf164
 v37:=Tryz.zeroValue164
 t70:=Tryz.underlying207
 a70:=Tryz.isAgg207
 z70:=Tryz.sizeOf207
 v70:=Tryz.zeroValue207
 t72:=Tryz.underlying209
 a72:=Tryz.isAgg209
 z72:=Tryz.sizeOf209
 v72:=Tryz.zeroValue209
 t127:=Tryz.underlying245
 a127:=Tryz.isAgg245
 z127:=Tryz.sizeOf245
 v127:=Tryz.zeroValue245 }
theorem Tryz.Builder_Extra_169:Builder.Extra Tryz.prog Tryz.lays169_ren:={
 sizeBuilder:=by kernel_rfl
 liesBuilder:=by kernel_rfl
 t5:=Tryz.underlying5
 a5:=Tryz.isAgg5
 z5:=Tryz.sizeOf5
 v5:=Tryz.zeroValue5
 infoByte:=by kernel_rfl
 cellsByte:=by kernel_rfl
 sizeByte:=by kernel_rfl
 neB5:=by decide }
open Go.RowKit in
theorem Tryz.Builder_String_any (B b:Nat) (l:List UInt8) (w:World) (h:Lib.IsBuilder 209 5 B b (Lib.byteCells l) w) (hBw:B<=w.heap.size) :
  Calls Tryz.prog 175 #[.pointer (some ⟨b,0,none⟩)] w fun e w'=>e = .returned (.string ⟨l.toArray⟩)/\Below B w w':=Any.Builder_String_any Tryz.lays169 Tryz.Builder_Extra_169 B b l w h hBw
def Tryz.lays156_ren:Go.Shelf.Ren:=⟨fun | 156=>130 | 165=>173 | 166=>174 | 169=>175 | 240=>215 | 241=>216 | 276=>249 | 277=>250 | n=>n,fun | 31=>30 | 9=>9 | 3=>3 | 4=>4 | 0=>0 | 20=>20 | 72=>209 | 76=>213 | 70=>207 | 37=>164 | 75=>212 | 127=>245 | 164=>270 | 5=>5 | 80=>215 | n=>n,fun | n=>n⟩
theorem Tryz.lays156:Go.Proofs.Lays.n156 Tryz.prog Tryz.lays156_ren:={
 mixed:=by kernel_rfl
 f156:=Tryz.func130.trans (congrArg some (by kernel_rfl))
 f165:=Tryz.func173.trans (congrArg some (by kernel_rfl))
 f166:=Tryz.func174.trans (congrArg some (by kernel_rfl))
 f169:=Tryz.func175.trans (congrArg some (by kernel_rfl))
 f240:=Tryz.func215.trans (congrArg some (by kernel_rfl))
 f241:=Tryz.func216.trans (congrArg some (by kernel_rfl))
 f276:=Tryz.func249.trans (congrArg some (by kernel_rfl))
 f277:=Tryz.func250.trans (congrArg some (by kernel_rfl))
 t0:=Tryz.underlying0
 a0:=Tryz.isAgg0
 z0:=Tryz.sizeOf0
 v0:=Tryz.zeroValue0
 t3:=Tryz.underlying3
 a3:=Tryz.isAgg3
 z3:=Tryz.sizeOf3
 v3:=Tryz.zeroValue3
 t4:=Tryz.underlying4
 a4:=Tryz.isAgg4
 z4:=Tryz.sizeOf4
 v4:=Tryz.zeroValue4
 t9:=Tryz.underlying9
 a9:=Tryz.isAgg9
 z9:=Tryz.sizeOf9
 v9:=Tryz.zeroValue9
 t20:=Tryz.underlying20
 a20:=Tryz.isAgg20
 z20:=Tryz.sizeOf20
 v20:=Tryz.zeroValue20
 t31:=Tryz.underlying30
 a31:=Tryz.isAgg30
 z31:=Tryz.sizeOf30
 v31:=Tryz.zeroValue30
 t37:=Tryz.underlying164
 a37:=Tryz.isAgg164
 z37:=Tryz.sizeOf164
 v37:=Tryz.zeroValue164
 t70:=Tryz.underlying207
 a70:=Tryz.isAgg207
 z70:=Tryz.sizeOf207
 v70:=Tryz.zeroValue207
 t72:=Tryz.underlying209
 a72:=Tryz.isAgg209
 z72:=Tryz.sizeOf209
 v72:=Tryz.zeroValue209
 t75:=Tryz.underlying212
 a75:=Tryz.isAgg212
 z75:=Tryz.sizeOf212
 v75:=Tryz.zeroValue212
 t76:=Tryz.underlying213
 a76:=Tryz.isAgg213
 z76:=Tryz.sizeOf213
 v76:=Tryz.zeroValue213
 t127:=Tryz.underlying245
 a127:=Tryz.isAgg245
 z127:=Tryz.sizeOf245
 v127:=Tryz.zeroValue245
 t164:=Tryz.underlying270
 a164:=Tryz.isAgg270
 z164:=Tryz.sizeOf270
 v164:=Tryz.zeroValue270 }
theorem Tryz.Builder_Extra_156:Builder.Extra Tryz.prog Tryz.lays156_ren:={
 sizeBuilder:=by kernel_rfl
 liesBuilder:=by kernel_rfl
 t5:=Tryz.underlying5
 a5:=Tryz.isAgg5
 z5:=Tryz.sizeOf5
 v5:=Tryz.zeroValue5
 infoByte:=by kernel_rfl
 cellsByte:=by kernel_rfl
 sizeByte:=by kernel_rfl
 neB5:=by decide }
open Go.RowKit in
theorem Tryz.strings_Join_none (a:Option Addr) (c:Nat) (sep:ByteArray) (w:World) :
  Calls Tryz.prog 130 #[.slice a 0 c,.string sep] w fun e w'=>e = .returned (.string ⟨#[]⟩)/\w'=w:=Any.strings_Join_none Tryz.lays156 Tryz.Builder_Extra_156 a c sep w
open Go.RowKit in
theorem Tryz.strings_Join (bk o c:Nat) (xs:List ByteArray) (sep:ByteArray) (w:World) (hcells:∀ (j:Nat) x,xs[j]?=some x->w.cell? ⟨bk,o+j,none⟩=some (.string x)) (hbk:bk<w.heap.size) (hN:xs.length<=140737488355328) (hcap:xs.length<=c) (hlen:(Lib.join (xs.map (·.data.toList)) sep.data.toList).length<=140737488355328) :
  Calls Tryz.prog 130 #[.slice (some ⟨bk,o,none⟩) xs.length c,.string sep] w fun e w'=>e = .returned (.string ⟨(Lib.join (xs.map (·.data.toList)) sep.data.toList).toArray⟩)/\Below w.heap.size w w':=Any.strings_Join Tryz.lays156 Tryz.Builder_Extra_156 bk o c xs sep w hcells hbk hN hcap hlen
def Tryz.lays162_ren:Go.Shelf.Ren:=⟨fun | 162=>170 | 232=>210 | 227=>206 | 234=>211 | 236=>212 | 228=>207 | 271=>247 | 151=>248 | 120=>273 | 197=>209 | 152=>204 | 260=>246 | 137=>71 | 119=>243 | 224=>244 | 225=>245 | 217=>121 | 266=>168 | n=>n,fun | 9=>9 | 4=>4 | 3=>3 | 5=>5 | 117=>235 | 116=>234 | 0=>0 | 124=>242 | 21=>21 | 105=>238 | 46=>218 | 119=>284 | 139=>287 | 138=>286 | n=>n,fun | 3=>5 | 4=>6 | n=>n⟩
theorem Tryz.lays162:Go.Proofs.Lays.n162 Tryz.prog Tryz.lays162_ren:={
 mixed:=by kernel_rfl
 f119:=Tryz.func243.trans (congrArg some (by kernel_rfl))
 f120:=Tryz.func273.trans (congrArg some (by kernel_rfl))
 f137:=Tryz.func71.trans (congrArg some (by kernel_rfl))
 f151:=Tryz.func248.trans (congrArg some (by kernel_rfl))
 f152:=Tryz.func204.trans (congrArg some (by kernel_rfl))
 f162:=Tryz.func170.trans (congrArg some (by kernel_rfl))
 f197:=Tryz.func209.trans (congrArg some (by kernel_rfl))
 f217:=Tryz.func121.trans (congrArg some (by kernel_rfl))
 f224:=Tryz.func244.trans (congrArg some (by kernel_rfl))
 f225:=Tryz.func245.trans (congrArg some (by kernel_rfl))
 f227:=Tryz.func206.trans (congrArg some (by kernel_rfl))
 f228:=Tryz.func207.trans (congrArg some (by kernel_rfl))
 f232:=Tryz.func210.trans (congrArg some (by kernel_rfl))
 f234:=Tryz.func211.trans (congrArg some (by kernel_rfl))
 f236:=Tryz.func212.trans (congrArg some (by kernel_rfl))
 f260:=Tryz.func246.trans (congrArg some (by kernel_rfl))
 f266:=Tryz.func168.trans (congrArg some (by kernel_rfl))
 f271:=Tryz.func247.trans (congrArg some (by kernel_rfl))
 t0:=Tryz.underlying0
 a0:=Tryz.isAgg0
 z0:=Tryz.sizeOf0
 v0:=Tryz.zeroValue0
 t3:=Tryz.underlying3
 a3:=Tryz.isAgg3
 z3:=Tryz.sizeOf3
 v3:=Tryz.zeroValue3
 t4:=Tryz.underlying4
 a4:=Tryz.isAgg4
 z4:=Tryz.sizeOf4
 v4:=Tryz.zeroValue4
 t5:=Tryz.underlying5
 a5:=Tryz.isAgg5
 z5:=Tryz.sizeOf5
 v5:=Tryz.zeroValue5
 t9:=Tryz.underlying9
 a9:=Tryz.isAgg9
 z9:=Tryz.sizeOf9
 v9:=Tryz.zeroValue9
 t21:=Tryz.underlying21
 a21:=Tryz.isAgg21
 z21:=Tryz.sizeOf21
 v21:=Tryz.zeroValue21
 t46:=Tryz.underlying218
 a46:=Tryz.isAgg218
 z46:=Tryz.sizeOf218
 v46:=Tryz.zeroValue218
 t105:=Tryz.underlying238
 a105:=Tryz.isAgg238
 z105:=Tryz.sizeOf238
 v105:=Tryz.zeroValue238
 t116:=Tryz.underlying234
 a116:=Tryz.isAgg234
 z116:=Tryz.sizeOf234
 t117:=Tryz.underlying235
 a117:=Tryz.isAgg235
 z117:=Tryz.sizeOf235
 v117:=Tryz.zeroValue235
 t119:=Tryz.underlying284
 a119:=Tryz.isAgg284
 z119:=Tryz.sizeOf284
 t124:=Tryz.underlying242
 a124:=Tryz.isAgg242
 z124:=Tryz.sizeOf242
 v124:=Tryz.zeroValue242
 t138:=Tryz.underlying286
 a138:=Tryz.isAgg286
 z138:=Tryz.sizeOf286
 v138:=Tryz.zeroValue286
 t139:=Tryz.underlying287
 a139:=Tryz.isAgg287
 z139:=Tryz.sizeOf287
 v139:=Tryz.zeroValue287
 g3:=by kernel_rfl
 g4:=by kernel_rfl }
def Tryz.lays119_ren:Go.Shelf.Ren:=⟨fun | 119=>243 | n=>n,fun | 21=>21 | 4=>4 | n=>n,fun | n=>n⟩
theorem Tryz.lays119:Go.Proofs.Lays.n119 Tryz.prog Tryz.lays119_ren:={
 mixed:=by kernel_rfl
 f119:=Tryz.func243.trans (congrArg some (by kernel_rfl))
 t4:=Tryz.underlying4
 a4:=Tryz.isAgg4
 z4:=Tryz.sizeOf4
 v4:=Tryz.zeroValue4
 t21:=Tryz.underlying21
 a21:=Tryz.isAgg21
 z21:=Tryz.sizeOf21
 v21:=Tryz.zeroValue21 }
theorem Tryz.utf8_ValidRune (r:Int) (w:World) :
  Calls Tryz.prog 243 #[.int .i32 r] w fun e w'=>e = .returned (.bool (Lib.validRune r))/\w'=w:=Any.utf8_ValidRune Tryz.lays119 r w
def Tryz.lays106_ren:Go.Shelf.Ren:=⟨fun | 106=>221 | 213=>252 | 265=>275 | n=>n,fun | 9=>9 | 3=>3 | n=>n,fun | n=>n⟩
theorem Tryz.lays106:Go.Proofs.Lays.n106 Tryz.prog Tryz.lays106_ren:={
 mixed:=by kernel_rfl
 f106:=Tryz.func221.trans (congrArg some (by kernel_rfl))
 f213:=Tryz.func252.trans (congrArg some (by kernel_rfl))
 f265:=Tryz.func275.trans (congrArg some (by kernel_rfl))
 t3:=Tryz.underlying3
 a3:=Tryz.isAgg3
 z3:=Tryz.sizeOf3
 v3:=Tryz.zeroValue3
 t9:=Tryz.underlying9
 a9:=Tryz.isAgg9
 z9:=Tryz.sizeOf9
 v9:=Tryz.zeroValue9 }
open Go.RowKit in
theorem Tryz.strings_Compare (a b:ByteArray) (w:World) :
  Calls Tryz.prog 221 #[.string a,.string b] w fun e w'=>e = .returned (.int .i64 (Lib.compareBytes a.data.toList b.data.toList))/\w'=w:=Any.strings_Compare Tryz.lays106 a b w
def Tryz.lays137_ren:Go.Shelf.Ren:=⟨fun | 137=>71 | 217=>121 | 266=>168 | n=>n,fun | 9=>9 | 5=>5 | 3=>3 | n=>n,fun | n=>n⟩
theorem Tryz.lays137:Go.Proofs.Lays.n137 Tryz.prog Tryz.lays137_ren:={
 mixed:=by kernel_rfl
 f137:=Tryz.func71.trans (congrArg some (by kernel_rfl))
 f217:=Tryz.func121.trans (congrArg some (by kernel_rfl))
 f266:=Tryz.func168.trans (congrArg some (by kernel_rfl))
 t3:=Tryz.underlying3
 a3:=Tryz.isAgg3
 z3:=Tryz.sizeOf3
 v3:=Tryz.zeroValue3
 t5:=Tryz.underlying5
 a5:=Tryz.isAgg5
 z5:=Tryz.sizeOf5
 v5:=Tryz.zeroValue5
 t9:=Tryz.underlying9
 a9:=Tryz.isAgg9
 z9:=Tryz.sizeOf9
 v9:=Tryz.zeroValue9 }
open Go.RowKit in
theorem Tryz.strings_IndexByte (s:ByteArray) (c:Int) (w:World) :
  Calls Tryz.prog 71 #[.string s,.int .u8 c] w fun e w'=>e = .returned (.int .i64 (Lib.indexByte s.data.toList c.toNat.toUInt8))/\w'=w:=Any.strings_IndexByte Tryz.lays137 s c w
def Tryz.lays143_ren:Go.Shelf.Ren:=⟨fun | 143=>177 | 219=>217 | 217=>121 | 225=>245 | 224=>244 | 267=>251 | 266=>168 | 314=>274 | n=>n,fun | 9=>9 | 3=>3 | 4=>4 | 5=>5 | 46=>218 | 146=>289 | 51=>288 | n=>n,fun | 1=>3 | n=>n⟩
theorem Tryz.lays143:Go.Proofs.Lays.n143 Tryz.prog Tryz.lays143_ren:={
 mixed:=by kernel_rfl
 f143:=Tryz.func177.trans (congrArg some (by kernel_rfl))
 f217:=Tryz.func121.trans (congrArg some (by kernel_rfl))
 f219:=Tryz.func217.trans (congrArg some (by kernel_rfl))
 f224:=Tryz.func244.trans (congrArg some (by kernel_rfl))
 f225:=Tryz.func245.trans (congrArg some (by kernel_rfl))
 f266:=Tryz.func168.trans (congrArg some (by kernel_rfl))
 f267:=Tryz.func251.trans (congrArg some (by kernel_rfl))
 f314:=Tryz.func274.trans (congrArg some (by kernel_rfl))
 t3:=Tryz.underlying3
 a3:=Tryz.isAgg3
 z3:=Tryz.sizeOf3
 v3:=Tryz.zeroValue3
 t4:=Tryz.underlying4
 a4:=Tryz.isAgg4
 z4:=Tryz.sizeOf4
 v4:=Tryz.zeroValue4
 t5:=Tryz.underlying5
 a5:=Tryz.isAgg5
 z5:=Tryz.sizeOf5
 v5:=Tryz.zeroValue5
 t9:=Tryz.underlying9
 a9:=Tryz.isAgg9
 z9:=Tryz.sizeOf9
 v9:=Tryz.zeroValue9
 t46:=Tryz.underlying218
 a46:=Tryz.isAgg218
 z46:=Tryz.sizeOf218
 v46:=Tryz.zeroValue218
 t51:=Tryz.underlying288
 a51:=Tryz.isAgg288
 z51:=Tryz.sizeOf288
 v51:=Tryz.zeroValue288
 t146:=Tryz.underlying289
 a146:=Tryz.isAgg289
 z146:=Tryz.sizeOf289
 v146:=Tryz.zeroValue289
 g1:=by kernel_rfl }
open Go.RowKit Go.Lib in
theorem Tryz.strings_Index_one (s:ByteArray) (c:UInt8) (w:World) :
  Calls Tryz.prog 177 #[.string s,.string ⟨#[c]⟩] w fun e w'=>e = .returned (.int .i64 (Lib.indexByte s.data.toList c))/\w'=w:=Any.strings_Index_one Tryz.lays143 s c w
def Tryz.lays99_ren:Go.Shelf.Ren:=⟨fun | 99=>98 | 206=>144 | n=>n,fun | 9=>9 | 4=>4 | 3=>3 | n=>n,fun | n=>n⟩
theorem Tryz.lays99:Go.Proofs.Lays.n99 Tryz.prog Tryz.lays99_ren:={
 mixed:=by kernel_rfl
 f99:=Tryz.func98.trans (congrArg some (by kernel_rfl))
 f206:=Tryz.func144.trans (congrArg some (by kernel_rfl))
 t3:=Tryz.underlying3
 a3:=Tryz.isAgg3
 z3:=Tryz.sizeOf3
 v3:=Tryz.zeroValue3
 t4:=Tryz.underlying4
 a4:=Tryz.isAgg4
 z4:=Tryz.sizeOf4
 v4:=Tryz.zeroValue4
 t9:=Tryz.underlying9
 a9:=Tryz.isAgg9
 z9:=Tryz.sizeOf9
 v9:=Tryz.zeroValue9 }
open Go.RowKit Go.Lib in
theorem Tryz.strings_HasPrefix (s p:ByteArray) (w:World) :
  Calls Tryz.prog 98 #[.string s,.string p] w fun e w'=>e = .returned (.bool (Lib.hasPrefix s.data.toList p.data.toList))/\w'=w:=Any.strings_HasPrefix Tryz.lays99 s p w
def Tryz.lays100_ren:Go.Shelf.Ren:=⟨fun | 100=>100 | 207=>146 | n=>n,fun | 9=>9 | 4=>4 | 3=>3 | n=>n,fun | n=>n⟩
theorem Tryz.lays100:Go.Proofs.Lays.n100 Tryz.prog Tryz.lays100_ren:={
 mixed:=by kernel_rfl
 f100:=Tryz.func100.trans (congrArg some (by kernel_rfl))
 f207:=Tryz.func146.trans (congrArg some (by kernel_rfl))
 t3:=Tryz.underlying3
 a3:=Tryz.isAgg3
 z3:=Tryz.sizeOf3
 v3:=Tryz.zeroValue3
 t4:=Tryz.underlying4
 a4:=Tryz.isAgg4
 z4:=Tryz.sizeOf4
 v4:=Tryz.zeroValue4
 t9:=Tryz.underlying9
 a9:=Tryz.isAgg9
 z9:=Tryz.sizeOf9
 v9:=Tryz.zeroValue9 }
open Go.RowKit Go.Lib in
theorem Tryz.strings_HasSuffix (s p:ByteArray) (w:World) (hs:s.size<=9223372036854775807) :
  Calls Tryz.prog 100 #[.string s,.string p] w fun e w'=>e = .returned (.bool (Lib.hasSuffix s.data.toList p.data.toList))/\w'=w:=Any.strings_HasSuffix Tryz.lays100 s p w hs
def Tryz.lays152_ren:Go.Shelf.Ren:=⟨fun | 152=>204 | 137=>71 | 119=>243 | 224=>244 | 225=>245 | 217=>121 | 266=>168 | n=>n,fun | 9=>9 | 21=>21 | 3=>3 | 4=>4 | 5=>5 | 0=>0 | 46=>218 | n=>n,fun | n=>n⟩
theorem Tryz.lays152:Go.Proofs.Lays.n152 Tryz.prog Tryz.lays152_ren:={
 mixed:=by kernel_rfl
 f119:=Tryz.func243.trans (congrArg some (by kernel_rfl))
 f137:=Tryz.func71.trans (congrArg some (by kernel_rfl))
 f152:=Tryz.func204.trans (congrArg some (by kernel_rfl))
 f217:=Tryz.func121.trans (congrArg some (by kernel_rfl))
 f224:=Tryz.func244.trans (congrArg some (by kernel_rfl))
 f225:=Tryz.func245.trans (congrArg some (by kernel_rfl))
 f266:=Tryz.func168.trans (congrArg some (by kernel_rfl))
 t0:=Tryz.underlying0
 a0:=Tryz.isAgg0
 z0:=Tryz.sizeOf0
 v0:=Tryz.zeroValue0
 t3:=Tryz.underlying3
 a3:=Tryz.isAgg3
 z3:=Tryz.sizeOf3
 v3:=Tryz.zeroValue3
 t4:=Tryz.underlying4
 a4:=Tryz.isAgg4
 z4:=Tryz.sizeOf4
 v4:=Tryz.zeroValue4
 t5:=Tryz.underlying5
 a5:=Tryz.isAgg5
 z5:=Tryz.sizeOf5
 v5:=Tryz.zeroValue5
 t9:=Tryz.underlying9
 a9:=Tryz.isAgg9
 z9:=Tryz.sizeOf9
 v9:=Tryz.zeroValue9
 t21:=Tryz.underlying21
 a21:=Tryz.isAgg21
 z21:=Tryz.sizeOf21
 v21:=Tryz.zeroValue21
 t46:=Tryz.underlying218
 a46:=Tryz.isAgg218
 z46:=Tryz.sizeOf218
 v46:=Tryz.zeroValue218 }
open Go.RowKit Go.Lib in
theorem Tryz.strings_IndexRune_ascii (s:ByteArray) (r:Int) (w:World) (h0:0<=r) (h1:r<128) :
  Calls Tryz.prog 204 #[.string s,.int .i32 r] w fun e w'=>e = .returned (.int .i64 (Lib.indexByte s.data.toList r.toNat.toUInt8))/\w'=w:=Any.strings_IndexRune_ascii Tryz.lays152 s r w h0 h1
def Tryz.lays226_ren:Go.Shelf.Ren:=⟨fun | 226=>205 | n=>n,fun | 3=>3 | 4=>4 | n=>n,fun | n=>n⟩
theorem Tryz.lays226:Go.Proofs.Lays.n226 Tryz.prog Tryz.lays226_ren:={
 mixed:=by kernel_rfl
 f226:=Tryz.func205.trans (congrArg some (by kernel_rfl))
 t3:=Tryz.underlying3
 a3:=Tryz.isAgg3
 z3:=Tryz.sizeOf3
 v3:=Tryz.zeroValue3
 t4:=Tryz.underlying4
 a4:=Tryz.isAgg4
 z4:=Tryz.sizeOf4
 v4:=Tryz.zeroValue4 }
open Go.RowKit Go.Lib in
theorem Tryz.strings_shouldUseASCIISet (n:Int) (w:World) :
  Calls Tryz.prog 205 #[.int .i64 n] w fun e w'=>e = .returned (.bool (decide (8<n)))/\w'=w:=Any.strings_shouldUseASCIISet Tryz.lays226 n w
def Tryz.lays153_ren:Go.Shelf.Ren:=⟨fun | 153=>167 | 152=>204 | 226=>205 | 227=>206 | 228=>207 | 137=>71 | 119=>243 | 224=>244 | 225=>245 | 217=>121 | 266=>168 | n=>n,fun | 9=>9 | 3=>3 | 4=>4 | 5=>5 | 21=>21 | 117=>235 | 116=>234 | 0=>0 | 46=>218 | 124=>242 | n=>n,fun | n=>n⟩
theorem Tryz.lays153:Go.Proofs.Lays.n153 Tryz.prog Tryz.lays153_ren:={
 mixed:=by kernel_rfl
 f119:=Tryz.func243.trans (congrArg some (by kernel_rfl))
 f137:=Tryz.func71.trans (congrArg some (by kernel_rfl))
 f152:=Tryz.func204.trans (congrArg some (by kernel_rfl))
 f153:=Tryz.func167.trans (congrArg some (by kernel_rfl))
 f217:=Tryz.func121.trans (congrArg some (by kernel_rfl))
 f224:=Tryz.func244.trans (congrArg some (by kernel_rfl))
 f225:=Tryz.func245.trans (congrArg some (by kernel_rfl))
 f226:=Tryz.func205.trans (congrArg some (by kernel_rfl))
 f227:=Tryz.func206.trans (congrArg some (by kernel_rfl))
 f228:=Tryz.func207.trans (congrArg some (by kernel_rfl))
 f266:=Tryz.func168.trans (congrArg some (by kernel_rfl))
 t0:=Tryz.underlying0
 a0:=Tryz.isAgg0
 z0:=Tryz.sizeOf0
 v0:=Tryz.zeroValue0
 t3:=Tryz.underlying3
 a3:=Tryz.isAgg3
 z3:=Tryz.sizeOf3
 v3:=Tryz.zeroValue3
 t4:=Tryz.underlying4
 a4:=Tryz.isAgg4
 z4:=Tryz.sizeOf4
 v4:=Tryz.zeroValue4
 t5:=Tryz.underlying5
 a5:=Tryz.isAgg5
 z5:=Tryz.sizeOf5
 v5:=Tryz.zeroValue5
 t9:=Tryz.underlying9
 a9:=Tryz.isAgg9
 z9:=Tryz.sizeOf9
 v9:=Tryz.zeroValue9
 t21:=Tryz.underlying21
 a21:=Tryz.isAgg21
 z21:=Tryz.sizeOf21
 v21:=Tryz.zeroValue21
 t46:=Tryz.underlying218
 a46:=Tryz.isAgg218
 z46:=Tryz.sizeOf218
 v46:=Tryz.zeroValue218
 t116:=Tryz.underlying234
 a116:=Tryz.isAgg234
 z116:=Tryz.sizeOf234
 t117:=Tryz.underlying235
 a117:=Tryz.isAgg235
 z117:=Tryz.sizeOf235
 v117:=Tryz.zeroValue235
 t124:=Tryz.underlying242
 a124:=Tryz.isAgg242
 z124:=Tryz.sizeOf242
 v124:=Tryz.zeroValue242 }
open Go.RowKit Go.Lib in
theorem Tryz.strings_IndexAny_long (hv116:∀ w,(zeroValue 234).run Tryz.prog w = .ok (.agg (Array.replicate 256 (.bool false))) w) (s chars:ByteArray) (w:World) (h2:2<=chars.size) (h8:8<s.size) (hs:s.size<4294967281) (hcs:chars.size<4294967281) (hascii:∀ (j:Nat) b,chars.data.toList[j]?=some b->b.toNat<128) :
  Calls Tryz.prog 167 #[.string s,.string chars] w fun e w'=>e = .returned (.int .i64 (Lib.indexAny s.data.toList chars.data.toList))/\w'=((w.alloc (.cells (Lib.setCells chars.data.toList) 234)).alloc (.cells (Lib.setCells chars.data.toList) 234)):=Any.strings_IndexAny_long Tryz.lays153 hv116 (by kernel_rfl) s chars w h2 h8 hs hcs hascii
end Go.Proofs
end
namespace Go.Proofs.YtaipngaejfndgaaGreatDoor.Vcg
section
open CA CB
open Go.RowKit
section
variable {G:zk}
theorem Yy (f:FsV) (n:Int) (hl:f.xs.length<=100000) (hR:zZ f.xs):Fun Tryz.prog G 58 [.agg (fsC f),.sc (.int .i64 n)] (.tup [.agg (JD (zf n f.xs)),.sc (.bool (zw n f.xs))]) 0:=by
 refine fon Tryz.func58 ?_;dsimp only[Tryz.f58]
 push_cast -dsimp
 refine cl (zjf f n hl hR) ?_;push_cast -dsimp
 cases hh:zw n f.xs with
 | false =>
  have hg:zf n f.xs=zaU:=by unfold zf;rw[kT hh];rfl
  push_cast -dsimp [hh]
  exact dn (by push_cast -dsimp [zb,za,CLe,ze,hg,zaU])
 | true =>
  obtain ⟨hlt,hg⟩:=vp hR hh
  have hg:zf n f.xs=f.xs[je n f.xs]:=by unfold zf;rw[hg];rfl
  have hat:=qx f.xs _ hlt
  push_cast -dsimp [hh,hat]
  (try simp only[lS]);repeat refine an ?_
  exact dn (by push_cast -dsimp [zb,za,CLe,ze,hg])
theorem jm {xs:List zn}:∀ r∈zD xs,r.length=6:=fun r hr=>by
 obtain ⟨x,_,rfl⟩:=List.mem_map.1 hr;rfl
theorem qj {xs:List zn}:jI (zD xs):=fun r hr=>by
 obtain ⟨x,_,rfl⟩:=List.mem_map.1 hr;rfl
theorem zbT (f:FsV) (x:zn) (hl:f.xs.length<=90000) (hR:zZ f.xs) :
  Fun Tryz.prog G 258 [.agg (fsC f),.agg (JD x)] (.agg [.sc (.int .i64 f.maxI),.sc (.int .i64 f.maxB),.sc (.int .i64 f.next),.own 0 96 6 (zD (jk x f.xs))]) 1:=by
 have hll:(zD f.xs).length=f.xs.length:=List.length_map ..
 refine foF (fun _=>[]) Tryz.func258 ?_;dsimp only[Tryz.f258]
 push_cast -dsimp
 refine cl (zjf f x.ino (by omega) hR) ?_;push_cast -dsimp
 refine YR [] [] (kj (zD f.xs) jm qj (by omega)) rfl (by decide) (by decide) (by simp) (by push_cast -dsimp) (by push_cast -dsimp) (fun r bx' m hp=>?_)
 obtain ⟨rfl,⟨hne,c,h1,h2,rfl,rfl⟩ | ⟨he,⟨rfl,rfl⟩ | ⟨rfl,rfl⟩⟩⟩:=hp
 ·have hbl:=Qu jm h1
  have hre:∀ fp fo,C.reL fp fo (jy 6 (zD f.xs) c)=jy 6 (zD f.xs) c:=fun fp fo=>qw (qn qj)
  have hpos:=List.length_pos_iff.2 hne
  cases hh:zw x.ino f.xs with
  | true =>
   obtain ⟨hlt,_⟩:=vp hR hh
   have hst:=vS (c:=c) (rows:=zD f.xs) (row:=JD x) (i:=je x.ino f.xs) jm rfl (by omega)
   have hset:zD (jk x f.xs)=(zD f.xs).set (je x.ino f.xs) (JD x):=by rw[←MR hR hh];simp[List.map_set]
   push_cast -dsimp [hh,hre,hst]
   refine ⟨by omega,by omega,by rw[hbl];omega,[(4,96,6,(zD f.xs).set (je x.ino f.xs) (JD x),c)],[.inl 0],?_,rfl,rfl,by push_cast -dsimp [zb,za,CLe,ze,hset,List.length_set]⟩
   rw[←hset]
   refine ja (by rw[hset];rfl) (by omega) (by rw[hset,List.length_set];exact h1) h2 jm qj
  | false =>
   have hset:zD (jk x f.xs)=(zD f.xs).take (je x.ino f.xs)++JD x :: (zD f.xs).drop (je x.ino f.xs):=by rw[←MY hR hh];simp
   have hrl:=zbH x.ino f.xs
   have hsl:(zD (jk x f.xs)).length=(zD f.xs).length+1:=by rw[hset];simp;omega
   push_cast -dsimp [hh,hre]
   refine YR [4] [0] (yX (e:=96) (zD f.xs) (JD x) (je x.ino f.xs) c jm rfl qj rfl (by omega) (by omega) h1 h2) rfl (by decide) (by decide) (by simp) (by push_cast -dsimp) (by push_cast -dsimp [hre]) (fun r bx' m hp=>?_)
   rw[←hset]at hp
   have hre2:∀ fp fo c,C.reL fp fo (jy 6 (zD (jk x f.xs)) c)=jy 6 (zD (jk x f.xs)) c:=fun fp fo c=>qw (qn qj)
   obtain ⟨rfl,c',g1,g2,⟨rfl,rfl⟩ | ⟨rfl,rfl⟩⟩:=hp
   ·push_cast -dsimp [hre2,hre]
    exact ⟨[(4,96,6,zD (jk x f.xs),c')],[.inl 1],ja rfl (by omega) g1 g2 jm qj,rfl,rfl,by push_cast -dsimp [zb,za,CLe,ze]⟩
   ·have hra:∀ fp fo,C.reL fp fo (List.replicate (c*6) .any)=List.replicate (c*6) .any:=fun fp fo=>qw (by simp[List.all_replicate,C.stayB])
    push_cast -dsimp [hre2,hre,hra]
    exact ⟨[(5,96,6,zD (jk x f.xs),c')],[.inl 1],ja rfl (by omega) g1 g2 jm qj,rfl,rfl,by push_cast -dsimp [zb,za,CLe,ze]⟩
 ·have he:f.xs = []:=by simpa using he
  have hh:zw x.ino f.xs=false:=by rw[he];rfl
  have hr0:je x.ino f.xs=0:=by rw[he];rfl
  have hset:jk x f.xs = [x]:=by rw[he];rfl
  push_cast -dsimp [hh,hr0]
  refine YR [] [0] (zfO (e:=96) (JD x) rfl rfl) rfl (by decide) (by decide) (by simp) (by push_cast -dsimp) (by push_cast -dsimp) (fun r bx' m hp=>?_)
  obtain ⟨rfl,c,g1,g2,rfl,rfl⟩:=hp
  have hre:∀ fp fo,C.reL fp fo (jy 6 [JD x] c)=jy 6 [JD x] c:=fun fp fo=>qw (qn (qj (xs:=[x])))
  push_cast -dsimp [hre]
  exact ⟨[(3,96,6,zD [x],c)],[.inl 1],ja rfl (by omega) g1 g2 jm qj,rfl,rfl,by push_cast -dsimp [zb,za,CLe,ze,hset]⟩
 ·have he:f.xs = []:=by simpa using he
  have hh:zw x.ino f.xs=false:=by rw[he];rfl
  have hr0:je x.ino f.xs=0:=by rw[he];rfl
  have hset:jk x f.xs = [x]:=by rw[he];rfl
  push_cast -dsimp [hh,hr0]
  refine YR [3] [0] (yX (e:=96) [] (JD x) 0 0 (fun r hr=>by cases hr) rfl (fun r hr=>by cases hr) rfl (by simp) (by simp) (by simp) (by simp)) rfl (by decide) (by decide) (by simp) (by push_cast -dsimp) (by push_cast -dsimp [jy]) (fun r bx' m hp=>?_)
  obtain ⟨rfl,c,g1,g2,hp⟩:=hp
  have hre:∀ fp fo,C.reL fp fo (jy 6 [JD x] c)=jy 6 [JD x] c:=fun fp fo=>qw (qn (qj (xs:=[x])))
  rcases hp with ⟨rfl,rfl⟩ | ⟨rfl,rfl⟩
  ·push_cast -dsimp [hre]
   exact ⟨[(3,96,6,zD [x],c)],[.inl 1],ja rfl (Nat.lt_of_lt_of_le (Nat.zero_lt_succ _) g1) g1 g2 jm qj,rfl,rfl,by push_cast -dsimp [zb,za,CLe,ze,hset]⟩
  ·push_cast -dsimp [hre]
   exact ⟨[(4,96,6,zD [x],c)],[.inl 1],ja rfl (Nat.lt_of_lt_of_le (Nat.zero_lt_succ _) g1) g1 g2 jm qj,rfl,rfl,by push_cast -dsimp [zb,za,CLe,ze,hset]⟩
theorem zg5 (f:FsV) (hl:f.xs.length<=90000) (h0:f.xs≠[]) (h1:-4611686018427387904<=f.next) (h2:f.next<=4611686018427387904) :
  Fun Tryz.prog G 256 [.agg (fsC f)] (.tup [.agg [.sc (.int .i64 f.maxI),.sc (.int .i64 f.maxB),.sc (.int .i64 (f.next+1)),.own 0 96 6 (zD f.xs)],.sc (.int .i64 f.next)]) 1:=by
 have hll:(zD f.xs).length=f.xs.length:=List.length_map ..
 refine foF (fun _=>[]) Tryz.func256 ?_;dsimp only[Tryz.f256]
 push_cast -dsimp
 (try simp only[lS]);repeat refine an ?_
 refine YR [] [] (kj (zD f.xs) jm qj (by omega)) rfl (by decide) (by decide) (by simp) (by push_cast -dsimp) (by push_cast -dsimp) (fun r bx' m hp=>?_)
 obtain ⟨rfl,⟨hne,c,h1,h2,rfl,rfl⟩ | ⟨he,_⟩⟩:=hp
 ·have hre:∀ fp fo,C.reL fp fo (jy 6 (zD f.xs) c)=jy 6 (zD f.xs) c:=fun fp fo=>qw (qn qj)
  have hpos:=List.length_pos_iff.2 hne
  push_cast -dsimp [hre]
  exact ⟨[(3,96,6,zD f.xs,c)],[.inl 0],ja rfl (by omega) h1 h2 jm qj,rfl,rfl,by push_cast -dsimp [zb,za,CLe,ze]⟩
 ·exact absurd (by simpa using he) h0
theorem zgx {R:Env} {L:Loc} {id e:Nat} {v:Value} (h:Rep R L (.own id e 6 [[.sc (.int .i64 1),.sc (.int .i64 2),.sc (.int .i64 0),.str [],.sc (.int .i64 1),.sc (.slice none 0 0)]]) v):Rep R L (.own id e 6 (zD [⟨1,2,0,[],1,[]⟩])) v:=
 zaB (by simp[RLe,ze,CLe]) h
theorem Xc {α:Type} {a b:List α} {i:Nat} (ha:i<a.length) (hb:i<b.length) (h:a.take i=b.take i):(a.take (i+1)=b.take (i+1))↔a[i]=b[i]:=by
 rw[List.take_add_one,List.take_add_one,h,List.append_right_inj,List.getElem?_eq_getElem ha,List.getElem?_eq_getElem hb]
 simp
theorem zmP (a b:zH):(decide (a.name=b.name)&&decide (a.ino=b.ino))=decide (a=b):=by
 cases a;cases b;simp
theorem zmv (a b:zn):a=b↔a.ino=b.ino/\a.kind=b.kind/\a.links=b.links/\a.data=b.data/\a.parent=b.parent/\a.es=b.es:=by
 cases a;cases b;simp
theorem zqv (a b:FsV):a=b↔a.maxI=b.maxI/\a.maxB=b.maxB/\a.next=b.next/\a.xs=b.xs:=by
 cases a;cases b;simp
end
end
section
open CA CB
open Go.RowKit
section
variable {G:zk}
theorem NT (a b:List zH) (ha:a.length<=9223372036854775807):Fun Tryz.prog G 134 [.sl 2 (zE a),.sl 2 (zE b)] (.sc (.bool (decide (a=b)))) 0:=by
 refine fon Tryz.func134 ?_;dsimp only[Tryz.f134]
 have hla:(zE a).length=a.length:=List.length_map ..
 have hlb:(zE b).length=b.length:=List.length_map ..
 by_cases hab:a.length=b.length
 ·push_cast -dsimp [hla,hlb,hab]
  refine loop (fun i:Nat=>⟨[(0,.sl 2 (zE a)),(1,.sl 2 (zE b)),(5,.sc (.int .i64 i))],[],0,0⟩) (fun i=>i<=b.length/\a.take i=b.take i) (fun i=>b.length-i) 0 ⟨Nat.zero_le _,rfl⟩ ?_ ?_
  ·exact wk
  ·rintro i ⟨h1,h2⟩
   by_cases h:i<b.length
   ·have g1:=jn a i (by omega)
    have g2:=jn b i h
    push_cast -dsimp [hla,hab,h,g1,g2]
    repeat refine an ?_
    have hd:=zmP a[i] b[i]
    by_cases he:a[i]=b[i]
    ·have hd:(decide (a[i].name=b[i].name)&&decide (a[i].ino=b[i].ino))=true:=by rw[hd,decide_eq_true he]
     push_cast -dsimp [hd]
     repeat refine an ?_
     exact ⟨i+1,⟨h,(Xc (by omega) h h2).2 he⟩,by omega,wk⟩
    ·have hd:(decide (a[i].name=b[i].name)&&decide (a[i].ino=b[i].ino))=false:=by rw[hd,decide_eq_false he]
     push_cast -dsimp [hd]
     have:a≠b:=fun h=>he (by subst h;rfl)
     exact dn (by push_cast -dsimp [zb,za,CLe,ze,this])
   ·push_cast -dsimp [hla,hab,h]
    have:a=b:=by rw[←List.take_of_length_le (l:=a) (i:=i) (by omega),h2,List.take_of_length_le (by omega)]
    exact dn (by push_cast -dsimp [zb,za,CLe,ze,this])
 ·push_cast -dsimp [hla,hlb,hab]
  have:a≠b:=fun h=>hab (by rw[h])
  exact dn (by push_cast -dsimp [zb,za,CLe,ze,this])
theorem zk9 (x y:zn) (hx:x.es.length<=9223372036854775807):Fun Tryz.prog G 82 [.agg (JD x),.agg (JD y)] (.sc (.bool (decide (x=y)))) 0:=by
 refine fon Tryz.func82 ?_;dsimp only[Tryz.f82]
 by_cases e0:x.ino=y.ino
 case neg =>
  have hn:¬x=y:=fun h=>e0 (by rw[h])
  push_cast -dsimp [e0]
  exact dn (by push_cast -dsimp [zb,za,CLe,ze,hn])
 by_cases e1:x.kind=y.kind
 case neg =>
  have hn:¬x=y:=fun h=>e1 (by rw[h])
  push_cast -dsimp [e0,e1]
  exact dn (by push_cast -dsimp [zb,za,CLe,ze,hn])
 by_cases e2:x.links=y.links
 case neg =>
  have hn:¬x=y:=fun h=>e2 (by rw[h])
  push_cast -dsimp [e0,e1,e2]
  exact dn (by push_cast -dsimp [zb,za,CLe,ze,hn])
 by_cases e3:x.data=y.data
 case neg =>
  have hn:¬x=y:=fun h=>e3 (by rw[h])
  push_cast -dsimp [e0,e1,e2,e3]
  exact dn (by push_cast -dsimp [zb,za,CLe,ze,hn])
 by_cases e4:x.parent=y.parent
 case neg =>
  have hn:¬x=y:=fun h=>e4 (by rw[h])
  push_cast -dsimp [e0,e1,e2,e3,e4]
  exact dn (by push_cast -dsimp [zb,za,CLe,ze,hn])
 by_cases e5:x.es=y.es
 case neg =>
  have hn:¬x=y:=fun h=>e5 (by rw[h])
  push_cast -dsimp [e0,e1,e2,e3,e4]
  refine cl (NT x.es y.es hx) ?_;push_cast -dsimp [e5,hn]
  exact dn (by push_cast -dsimp [zb,za,CLe,ze,hn])
 have hn:x=y:=(zmv x y).2 ⟨e0,e1,e2,e3,e4,e5⟩
 push_cast -dsimp [e0,e1,e2,e3,e4]
 refine cl (NT x.es y.es hx) ?_;push_cast -dsimp [e5]
 exact dn (by push_cast -dsimp [zb,za,CLe,ze,hn])
theorem Hs (a b:List zn) (ha:a.length<=100000) (he:∀ x∈a,x.es.length<=9223372036854775807):Fun Tryz.prog G 41 [.sl 6 (zD a),.sl 6 (zD b)] (.sc (.bool (decide (a=b)))) 0:=by
 refine fon Tryz.func41 ?_;dsimp only[Tryz.f41]
 have hla:(zD a).length=a.length:=List.length_map ..
 have hlb:(zD b).length=b.length:=List.length_map ..
 by_cases hab:a.length=b.length
 ·push_cast -dsimp [hla,hlb,hab]
  refine loop (fun i:Nat=>⟨[(0,.sl 6 (zD a)),(1,.sl 6 (zD b)),(5,.sc (.int .i64 i))],[],0,0⟩) (fun i=>i<=b.length/\a.take i=b.take i) (fun i=>b.length-i) 0 ⟨Nat.zero_le _,rfl⟩ ?_ ?_
  ·exact wk
  ·rintro i ⟨h1,h2⟩
   by_cases h:i<b.length
   ·have g1:=qx a i (by omega)
    have g2:=qx b i h
    push_cast -dsimp [hla,hab,h,g1,g2]
    repeat refine an ?_
    refine cl (zk9 a[i] b[i] (he _ (List.getElem_mem _))) ?_;push_cast -dsimp
    by_cases he:a[i]=b[i]
    ·push_cast -dsimp [decide_eq_true he]
     repeat refine an ?_
     exact ⟨i+1,⟨h,(Xc (by omega) h h2).2 he⟩,by omega,wk⟩
    ·push_cast -dsimp [decide_eq_false he]
     have:a≠b:=fun h=>he (by subst h;rfl)
     exact dn (by push_cast -dsimp [zb,za,CLe,ze,this])
   ·push_cast -dsimp [hla,hab,h]
    have:a=b:=by rw[←List.take_of_length_le (l:=a) (i:=i) (by omega),h2,List.take_of_length_le (by omega)]
    exact dn (by push_cast -dsimp [zb,za,CLe,ze,this])
 ·push_cast -dsimp [hla,hlb,hab]
  have:a≠b:=fun h=>hab (by rw[h])
  exact dn (by push_cast -dsimp [zb,za,CLe,ze,this])
theorem zdT (x y:FsV) (ha:x.xs.length<=100000) (he:∀ z∈x.xs,z.es.length<=9223372036854775807):Fun Tryz.prog G 14 [.agg (fsC x),.agg (fsC y)] (.sc (.bool (decide (x=y)))) 0:=by
 refine fon Tryz.func14 ?_;dsimp only[Tryz.f14]
 by_cases e0:x.maxI=y.maxI
 case neg =>
  have hn:¬x=y:=fun h=>e0 (by rw[h])
  push_cast -dsimp [e0]
  exact dn (by push_cast -dsimp [zb,za,CLe,ze,hn])
 by_cases e1:x.maxB=y.maxB
 case neg =>
  have hn:¬x=y:=fun h=>e1 (by rw[h])
  push_cast -dsimp [e0,e1]
  exact dn (by push_cast -dsimp [zb,za,CLe,ze,hn])
 by_cases e2:x.next=y.next
 case neg =>
  have hn:¬x=y:=fun h=>e2 (by rw[h])
  push_cast -dsimp [e0,e1,e2]
  exact dn (by push_cast -dsimp [zb,za,CLe,ze,hn])
 by_cases e3:x.xs=y.xs
 case neg =>
  have hn:¬x=y:=fun h=>e3 (by rw[h])
  push_cast -dsimp [e0,e1,e2]
  refine cl (Hs x.xs y.xs ha he) ?_;push_cast -dsimp [e3,hn]
  exact dn (by push_cast -dsimp [zb,za,CLe,ze,hn])
 have hn:x=y:=(zqv x y).2 ⟨e0,e1,e2,e3⟩
 push_cast -dsimp [e0,e1,e2]
 refine cl (Hs x.xs y.xs ha he) ?_;push_cast -dsimp [e3]
 exact dn (by push_cast -dsimp [zb,za,CLe,ze,hn])
theorem uc {xs:List zn} {i:Nat} (hi:i<xs.length) (h0:0<i):zZ (xs.take (i+1))↔zZ (xs.take i)/\xs[i-1].ino<xs[i].ino:=by
 rw[List.take_add_one,List.getElem?_eq_getElem hi]
 unfold zZ
 rw[List.pairwise_append]
 simp only[Option.toList_some,List.pairwise_singleton,true_and,List.mem_singleton,forall_eq]
 constructor
 ·rintro ⟨h1,h2⟩
  exact ⟨h1,h2 _ (List.mem_take_iff_getElem.2 ⟨i-1,by omega,rfl⟩)⟩
 ·rintro ⟨h1,h2⟩
  refine ⟨h1,fun a ha=>?_⟩
  obtain ⟨j,hj,rfl⟩:=List.mem_take_iff_getElem.1 ha
  rcases Nat.lt_or_ge j (i-1) with q | q
  ·have:=(List.pairwise_iff_getElem.1 h1) j (i-1) (by simp;omega) (by simp;omega) q
   simp at this
   omega
  ·have:j=i-1:=by omega
   subst this;exact h2
instance (xs:List zn):Decidable (zZ xs):=by unfold zZ;infer_instance
theorem Ve (f:FsV) (hl:f.xs.length<=100000):Fun Tryz.prog G 116 [.agg (fsC f)] (.sc (.bool (decide (zZ f.xs)))) 0:=by
 have hll:(zD f.xs).length=f.xs.length:=List.length_map ..
 refine fon Tryz.func116 ?_;dsimp only[Tryz.f116]
 push_cast -dsimp
 refine loop (fun i:Nat=>⟨[(1,.ptr 0 0),(3,.sc (.int .i64 i))],[fsC f],0,0⟩) (fun i=>1<=i/\zZ (f.xs.take i)) (fun i=>f.xs.length-i) 1 ⟨Nat.le_refl _,by
  cases f.xs with
  | nil=>exact List.Pairwise.nil
  | cons x r=>exact List.pairwise_singleton _ _⟩ ?_ ?_
 ·exact wk
 ·rintro i ⟨h1,h2⟩
  by_cases h:i<f.xs.length
  ·have g1:=qx f.xs i h
   have g2:=qx f.xs (i-1) (by omega)
   have e1:(i:Int)-1=((i-1:Nat):Int):=by omega
   push_cast -dsimp [hll,h,e1,g1,g2]
   by_cases hc:f.xs[i].ino<=f.xs[i-1].ino
   ·push_cast -dsimp [hc]
    repeat refine an ?_
    have hn:¬zZ f.xs:=fun hR=>by
     have:=(List.pairwise_iff_getElem.1 hR) (i-1) i (by omega) h (by omega)
     omega
    exact dn (by push_cast -dsimp [zb,za,CLe,ze,hn])
   ·push_cast -dsimp [hc]
    repeat refine an ?_
    exact ⟨i+1,⟨by omega,(uc h (by omega)).2 ⟨h2,by omega⟩⟩,by omega,wk⟩
  ·push_cast -dsimp [hll,h]
   rw[List.take_of_length_le (by omega)]at h2
   exact dn (by push_cast -dsimp [zb,za,CLe,ze,h2])
def Ni (x:zn):Prop:=x.data.length<=5000/\x.es.length<=40/\∀ e∈x.es,e.name.length<=300
instance (x:zn):Decidable (Ni x):=by unfold Ni;infer_instance
def UO (xs:List zn):Prop:=xs.length<=40/\∀ x∈xs,Ni x
instance (xs:List zn):Decidable (UO xs):=by unfold UO;infer_instance
structure FsS (f:FsV):Prop where
 len:f.xs.length<=10000
 node:∀ x∈f.xs,x.es.length<=10000/\x.data.length<=10000/\∀ e∈x.es,e.name.length<=10000
theorem UO.fs {f:FsV} (h:UO f.xs):FsS f:=⟨by have:=h.1;omega,fun x hx=>by
 obtain ⟨h1,h2,h3⟩:=h.2 x hx
 exact ⟨by omega,by omega,fun e he=>by have:=h3 e he;omega⟩⟩
theorem vN (f:FsV):Fun Tryz.prog G 113 [.agg (fsC f)] (.sc (.bool (decide (UO f.xs)))) 0:=by
 have hll:(zD f.xs).length=f.xs.length:=List.length_map ..
 refine fon Tryz.func113 ?_;dsimp only[Tryz.f113]
 push_cast -dsimp
 refine loop (fun i:Nat=>⟨[(1,.ptr 0 0),(3,.sc (.int .i64 i))],[fsC f],0,0⟩) (fun i=>i<=100/\∀ t (h:t<f.xs.length),t<i->Ni f.xs[t]) (fun i=>100-i) 0 ⟨Nat.zero_le _,fun t h h'=>absurd h' (Nat.not_lt_zero _)⟩ ?_ ?_
 ·exact wk
 ·rintro i ⟨h1,h2⟩
  have hend:¬(i<f.xs.length/\i<100)->decide ((f.xs.length:Int)<=40)=decide (UO f.xs):=fun h=>by
   rw[decide_eq_decide]
   constructor
   ·intro hle
    refine ⟨by omega,fun x hx=>?_⟩
    obtain ⟨t,ht,rfl⟩:=List.getElem_of_mem hx
    exact h2 t ht (by omega)
   ·intro h;have:=h.1;omega
  by_cases h:i<f.xs.length
  ·by_cases h100:i<100
   ·have g1:=qx f.xs i h
    have h100':(i:Int)<100:=by omega
    have hbad:¬Ni f.xs[i]->¬UO f.xs:=fun hs hf=>hs (hf.2 _ (List.getElem_mem h))
    by_cases hd:5000<(f.xs[i].data.length:Int)
    ·have hn:=hbad fun hs=>by have:=hs.1;omega
     push_cast -dsimp [hll,h,h100',g1,hd]
     repeat refine an ?_
     exact dn (by push_cast -dsimp [zb,za,CLe,ze,hn])
    ·by_cases he:40<(f.xs[i].es.length:Int)
     ·have hn:=hbad fun hs=>by have:=hs.2.1;omega
      push_cast -dsimp [hll,h,h100',g1,hd,List.length_map,he]
      repeat refine an ?_
      exact dn (by push_cast -dsimp [zb,za,CLe,ze,hn])
     ·push_cast -dsimp [hll,h,h100',g1,hd,List.length_map,he]
      repeat refine an ?_
      refine loop (fun j:Nat=>⟨[(1,.ptr 0 0),(3,.sc (.int .i64 i)),(4,.ptr 1 0),(5,.sc (.int .i64 j))],[fsC f,JD f.xs[i]],0,0⟩) (fun j=>j<=f.xs[i].es.length/\∀ t (h':t<f.xs[i].es.length),t<j->f.xs[i].es[t].name.length<=300) (fun j=>f.xs[i].es.length-j) 0 ⟨Nat.zero_le _,fun t h h'=>absurd h' (Nat.not_lt_zero _)⟩ ?_ ?_
      ·exact wk
      ·rintro j ⟨h3,h4⟩
       by_cases hj:j<f.xs[i].es.length
       ·have g2:=jn f.xs[i].es j hj
        by_cases hs:300<(f.xs[i].es[j].name.length:Int)
        ·have hn:=hbad fun hs'=>by have:=hs'.2.2 _ (List.getElem_mem hj);omega
         push_cast -dsimp [List.length_map,hj,g2,hs]
         repeat refine an ?_
         exact dn (by push_cast -dsimp [zb,za,CLe,ze,hn])
        ·push_cast -dsimp [List.length_map,hj,g2,hs]
         repeat refine an ?_
         refine ⟨j+1,⟨hj,fun t ht hlt=>?_⟩,by omega,wk⟩
         rcases Nat.lt_or_ge t j with q | q
         ·exact h4 t ht q
         ·have:t=j:=by omega
          subst this;omega
       ·push_cast -dsimp [List.length_map,hj]
        repeat refine an ?_
        refine ⟨i+1,⟨by omega,fun t ht hlt=>?_⟩,by omega,wk⟩
        rcases Nat.lt_or_ge t i with q | q
        ·exact h2 t ht q
        ·have:t=i:=by omega
         subst this
         refine ⟨by omega,by omega,fun e hee=>?_⟩
         obtain ⟨u,hu,rfl⟩:=List.getElem_of_mem hee
         exact h4 u hu (by omega)
   ·have h100':((i:Int)<100)=False:=eq_false (by omega)
    have:=hend (by omega)
    push_cast -dsimp [hll,h,h100']
    exact dn (by push_cast -dsimp [zb,za,CLe,ze,this])
  ·have:=hend (by omega)
   push_cast -dsimp [hll,h]
   exact dn (by push_cast -dsimp [zb,za,CLe,ze,this])
theorem zcl (f:FsV) (n:Int) (hl:f.xs.length<=90000) :
  Fun Tryz.prog G 141 [.agg (fsC f),.sc (.int .i64 n)] (.agg [.sc (.int .i64 f.maxI),.sc (.int .i64 f.maxB),.sc (.int .i64 f.next),.own 0 96 6 (zD (qN n f.xs))]) 1:=by
 have hll:(zD f.xs).length=f.xs.length:=List.length_map ..
 refine fon Tryz.func141 ?_;dsimp only[Tryz.f141]
 push_cast -dsimp
 refine loop (fun i:Nat=>⟨[(1,.sc (.int .i64 n)),(2,.ptr 0 0),(4,.ptr 1 0),(5,.own 0 96 6 (zD (qN n (f.xs.take i)))),(6,.sc (.int .i64 i))],[fsC f,[.sc (.int .i64 0),.sc (.int .i64 0),.sc (.int .i64 0),.sc (.slice none 0 0)]],1,0⟩) (fun i=>i<=f.xs.length) (fun i=>f.xs.length-i) 0 (Nat.zero_le _) ?_ ?_
 ·exact wks [.inr (96,6)] (by push_cast -dsimp [zb,za,CLe,ze,qN,List.filter_nil])
 ·intro i h1
  by_cases h:i<f.xs.length
  ·have g1:=qx f.xs i h
   have ht:qN n (f.xs.take (i+1))=qN n (f.xs.take i)++qN n [f.xs[i]]:=by
    unfold qN;rw[List.take_add_one,List.getElem?_eq_getElem h,List.filter_append];rfl
   have hle:(qN n (f.xs.take i)).length<=i:=Nat.le_trans k9 (by simp;omega)
   by_cases hc:f.xs[i].ino=n
   ·have ht:qN n (f.xs.take (i+1))=qN n (f.xs.take i):=by rw[ht,JH hc];simp[qN]
    push_cast -dsimp [hll,h,g1,hc]
    repeat refine an ?_
    exact ⟨i+1,h,by omega,wks [.inl 0] (by push_cast -dsimp [zb,za,CLe,ze,ht])⟩
   ·have ht:qN n (f.xs.take (i+1))=qN n (f.xs.take i)++[f.xs[i]]:=by rw[ht,JN hc];simp[qN]
    push_cast -dsimp [hll,h,g1,hc]
    repeat refine an ?_
    exact ⟨i+1,h,by omega,wks [.inl 0] (by push_cast -dsimp [zb,za,CLe,ze,ht,List.map_append])⟩
  ·rw[List.take_of_length_le (by omega)]
   push_cast -dsimp [hll,h]
   exact ⟨[.inl 0],rfl,rfl,by push_cast -dsimp [zb,za,CLe,ze]⟩
theorem yP (f:FsV) (x:zn) (hl:f.xs.length<=90000) :
  Fun Tryz.prog G 97 [.agg (fsC f),.agg (JD x)] (.agg [.sc (.int .i64 f.maxI),.sc (.int .i64 f.maxB),.sc (.int .i64 f.next),.own 0 96 6 (zD (jk x f.xs))]) 1:=by
 have hdl:(qN x.ino f.xs).length<=90000:=Nat.le_trans k9 hl
 have hl2:(zD (qN x.ino f.xs)).length=(qN x.ino f.xs).length:=List.length_map ..
 refine fon Tryz.func97 ?_;dsimp only[Tryz.f97]
 push_cast -dsimp
 refine cl (zcl f x.ino hl) ?_;push_cast -dsimp
 unfold jk
 generalize qN x.ino f.xs=rest at hdl hl2
 refine loop (fun p:Nat×List zn×Bool=>⟨[(2,.ptr 0 0),(3,.ptr 1 0),(4,.ptr 2 0),(5,.sl 6 (zD rest)),(6,.own 0 96 6 (zD p.2.1)),(7,.sc (.bool p.2.2)),(8,.sc (.int .i64 p.1))],[fsC f,JD x,[.sc (.int .i64 0),.sc (.int .i64 0),.sc (.int .i64 0),.sc (.slice none 0 0)]],1,0⟩)
  (fun p=>p.1<=rest.length/\p.2.1.length<=p.1+p.2.2.toNat/\Q5 x rest=p.2.1++(if p.2.2 then rest.drop p.1 else Q5 x (rest.drop p.1))) (fun p=>rest.length-p.1) (0,[],false) ⟨Nat.zero_le _,Nat.zero_le _,by simp⟩ ?_ ?_
 ·exact wks [.inr (96,6)]
 ·rintro ⟨i,out,d⟩ ⟨h1,h2,h3⟩
  dsimp only at h1 h2 h3 ⊢
  have hlo:(zD out).length=out.length:=List.length_map ..
  by_cases h:i<rest.length
  ·have g1:=qx rest i h
   rw[List.drop_eq_getElem_cons h]at h3
   cases d with
   | true =>
    simp only[Bool.toNat_true]at h2
    push_cast -dsimp [hl2,h,g1]
    repeat refine an ?_
    exact ⟨(i+1,out++[rest[i]],true),⟨h,by simp;omega,by rw[h3];simp⟩,by dsimp only;omega,wks [.inl 0] (by push_cast -dsimp [zb,za,CLe,ze,List.map_append])⟩
   | false =>
    simp only[Bool.false_eq_true,if_false,Q5]at h3
    simp only[Bool.toNat_false]at h2
    by_cases hc:x.ino<rest[i].ino
    ·rw[if_pos hc]at h3
     push_cast -dsimp [hl2,h,g1,hc]
     repeat refine an ?_
     exact ⟨(i+1,out++[x]++[rest[i]],true),⟨h,by simp;omega,by rw[h3];simp⟩,by dsimp only;omega,wks [.inl 0] (by push_cast -dsimp [zb,za,CLe,ze,List.map_append])⟩
    ·rw[if_neg hc]at h3
     push_cast -dsimp [hl2,h,g1,hc]
     repeat refine an ?_
     exact ⟨(i+1,out++[rest[i]],false),⟨h,by simp;omega,by rw[h3];simp⟩,by dsimp only;omega,wks [.inl 0] (by push_cast -dsimp [zb,za,CLe,ze,List.map_append])⟩
  ·rw[List.drop_of_length_le (by omega)]at h3
   cases d with
   | true =>
    simp only[Bool.toNat_true]at h2
    have h3:Q5 x rest=out:=by rw[h3];simp
    push_cast -dsimp [hl2,h]
    exact ⟨[.inl 0],rfl,rfl,by push_cast -dsimp [zb,za,CLe,ze,h3]⟩
   | false =>
    simp only[Bool.toNat_false]at h2
    have h3:Q5 x rest=out++[x]:=by rw[h3];simp[Q5]
    push_cast -dsimp [hl2,h]
    repeat refine an ?_
    exact ⟨[.inl 0],rfl,rfl,by push_cast -dsimp [zb,za,CLe,ze,h3,List.map_append]⟩
theorem zg4 (i b:Int):Fun Tryz.prog G 25 [.sc (.int .i64 i),.sc (.int .i64 b)] (.agg [.sc (.int .i64 i),.sc (.int .i64 b),.sc (.int .i64 2),.own 0 96 6 (zD [⟨1,2,0,[],1,[]⟩])]) 1:=by
 refine Fun.resX (r:=.agg [.sc (.int .i64 i),.sc (.int .i64 b),.sc (.int .i64 2),.own 0 96 6 [[.sc (.int .i64 1),.sc (.int .i64 2),.sc (.int .i64 0),.str [],.sc (.int .i64 1),.sc (.slice none 0 0)]]]) ?_ fun R L v h =>
  u0 (fun vs=>JT (fun v h=>h) (fun vs=>JT (fun v h=>h) fun vs=>JT (fun v h=>h) fun vs=>JT (fun v=>zgx) fun vs h=>h)) h
 refine fon Tryz.func25 ?_;dsimp only[Tryz.f25]
 push_cast -dsimp
 exact ⟨[.inl 0],rfl,rfl,by push_cast -dsimp [zb,za,CLe,ze]⟩
end
end
section
open Go.RowKit
section
variable {G:zk}
theorem zhl {n:Int} {xs:List zn} {i:Nat} (h:i<xs.length):zw n (xs.take (i+1))=(zw n (xs.take i)||(xs[i].ino==n)):=by
 unfold zw
 rw[List.take_add_one,List.getElem?_eq_getElem h,List.any_append]
 simp
theorem ziJ {n:Int} {xs:List zn} {i:Nat} (h:i<xs.length) (h0:zw n (xs.take i)=false) (he:xs[i].ino=n):zw n xs=true/\zf n xs=xs[i]:=by
 refine ⟨List.any_eq_true.2 ⟨xs[i],List.getElem_mem h,by simp[he]⟩,?_⟩
 unfold zf X1
 rw[List.find?_eq_some_iff_getElem (b:=xs[i]) |>.2 ⟨by simp[he],i,h,rfl,fun j hj=>?_⟩]
 ·rfl
 ·unfold zw at h0
  rw[List.any_eq_false]at h0
  have:=h0 xs[j] (List.mem_take_iff_getElem.2 ⟨j,by omega,rfl⟩)
  simpa using this
theorem Jg (f:FsV) (n:Int) (hl:f.xs.length<=100000):Fun Tryz.prog G 53 [.agg (fsC f),.sc (.int .i64 n)] (.tup [.agg (JD (zf n f.xs)),.sc (.bool (zw n f.xs))]) 0:=by
 have hll:(zD f.xs).length=f.xs.length:=List.length_map ..
 refine fon Tryz.func53 ?_;dsimp only[Tryz.f53]
 push_cast -dsimp
 refine loop (fun i:Nat=>⟨[(1,.sc (.int .i64 n)),(2,.ptr 0 0),(4,.ptr 1 0),(6,.sc (.int .i64 i))],[fsC f,[.sc (.int .i64 0),.sc (.int .i64 0),.sc (.int .i64 0),.str [],.sc (.int .i64 0),.sc (.slice none 0 0)]],0,0⟩) (fun i=>i<=f.xs.length/\zw n (f.xs.take i)=false) (fun i=>f.xs.length-i) 0 ⟨Nat.zero_le _,rfl⟩ ?_ ?_
 ·exact wk
 ·rintro i ⟨h1,h2⟩
  by_cases h:i<f.xs.length
  ·have g1:=qx f.xs i h
   by_cases he:f.xs[i].ino=n
   ·obtain ⟨q1,q2⟩:=ziJ h h2 he
    push_cast -dsimp [hll,h,g1,he]
    repeat refine an ?_
    exact dn (by push_cast -dsimp [zb,za,CLe,ze,q1,q2,he])
   ·have q:=zhl (n:=n) h
    rw[h2,show (f.xs[i].ino==n)=false from beq_eq_false_iff_ne.2 he]at q
    push_cast -dsimp [hll,h,g1,he]
    repeat refine an ?_
    exact ⟨i+1,⟨h,q⟩,by omega,wk⟩
  ·rw[List.take_of_length_le (by omega)]at h2
   have hg:zf n f.xs=zaU:=by unfold zf;rw[kT h2];rfl
   push_cast -dsimp [hll,h]
   exact dn (by push_cast -dsimp [zb,za,CLe,ze,hg,h2,zaU])
def zQ (xs:List zn):Nat:=((xs.filter fun x=>decide (x.kind=1)).map fun x=>x.data.length).sum
theorem Uh:∀ {xs:List zn} {n:Nat},(∀ x∈xs,x.data.length<=n)->zQ xs<=xs.length*n
 | [],n,_=>by simp[zQ]
 | x :: r,n,h=>by
  have ih:=Uh (xs:=r) (n:=n) fun y hy=>h y (List.mem_cons_of_mem _ hy)
  have hx:=h x List.mem_cons_self
  unfold zQ at ih ⊢
  rw[List.filter_cons]
  split
  ·simp only[List.map_cons,List.sum_cons,List.length_cons]
   rw[Nat.succ_mul];omega
  ·rw[List.length_cons,Nat.succ_mul];omega
theorem FsS.bytes {f:FsV} (h:FsS f):zQ f.xs<=100000000:=by
 have h1:=Uh (xs:=f.xs) (n:=10000) fun x hx=>(h.node x hx).2.1
 have h2:=h.len
 have:f.xs.length*10000<=10000*10000:=Nat.mul_le_mul_right _ h2
 omega
theorem kl {xs:List zn} {i:Nat} (h:i<xs.length):zQ (xs.take (i+1))=zQ (xs.take i)+if xs[i].kind=1 then xs[i].data.length else 0:=by
 unfold zQ
 rw[List.take_add_one,List.getElem?_eq_getElem h,List.filter_append,List.map_append,List.sum_append]
 by_cases hk:xs[i].kind=1<;>simp[hk]
theorem N4 (f:FsV) (hf:FsS f):Fun Tryz.prog G 176 [.agg (fsC f)] (.sc (.int .i64 (zQ f.xs:Nat))) 0:=by
 have hll:(zD f.xs).length=f.xs.length:=List.length_map ..
 have h40:=hf.len
 have hb0:zQ []=0:=rfl
 refine fon Tryz.func176 ?_;dsimp only[Tryz.f176]
 push_cast -dsimp
 refine loop (fun i:Nat=>⟨[(1,.ptr 0 0),(3,.sc (.int .i64 (zQ (f.xs.take i):Nat))),(4,.sc (.int .i64 i))],[fsC f],0,0⟩) (fun i=>i<=f.xs.length/\zQ (f.xs.take i)<=i*10000) (fun i=>f.xs.length-i) 0 ⟨Nat.zero_le _,Nat.zero_le _⟩ ?_ ?_
 ·exact wk (by push_cast -dsimp [zb,za,CLe,ze,hb0,List.take_zero])
 ·rintro i ⟨h1,h2⟩
  by_cases h:i<f.xs.length
  ·have g1:=qx f.xs i h
   have hd:=(hf.node _ (List.getElem_mem h)).2.1
   have q:=kl h
   by_cases hk:f.xs[i].kind=1
   ·rw[if_pos hk]at q
    have q':((zQ (f.xs.take (i+1)):Nat):Int)=(zQ (f.xs.take i):Int)+(f.xs[i].data.length:Int):=by omega
    push_cast -dsimp [hll,h,g1,hk]
    repeat refine an ?_
    exact ⟨i+1,⟨h,by omega⟩,by omega,wk (by push_cast -dsimp [zb,za,CLe,ze,q'])⟩
   ·rw[if_neg hk]at q
    have q':zQ (f.xs.take (i+1))=zQ (f.xs.take i):=by omega
    push_cast -dsimp [hll,h,g1,hk]
    repeat refine an ?_
    exact ⟨i+1,⟨h,by omega⟩,by omega,wk (by push_cast -dsimp [zb,za,CLe,ze,q'])⟩
  ·rw[List.take_of_length_le (by omega)]
   push_cast -dsimp [hll,h]
   exact dn
end
end
section
open Go.RowKit
abbrev G0:zk:=fun _=>none
abbrev zmd (l:List UInt8):List C:=[.str l]
def Zj (s:List (List UInt8)×List UInt8) (b:UInt8):List (List UInt8)×List UInt8:=
 if b=47 then (if s.2 = [] then s.1 else s.1++[s.2],[]) else (s.1,s.2++[b])
def zju (s:List (List UInt8)×List UInt8):List (List UInt8):=if s.2 = [] then s.1 else s.1++[s.2]
def nst (l:List UInt8) (k:Nat):List (List UInt8)×List UInt8:=if k<=l.length then (l.take k).foldl Zj ([],[]) else (zju (l.foldl Zj ([],[])),[])
def zh (l:List UInt8):List (List UInt8):=zju (l.foldl Zj ([],[]))
theorem vc (l:List UInt8):nst l 0=([],[]):=by simp[nst]
theorem vv (l:List UInt8) (k:Nat) (b:UInt8) (h:l[k]?=some b):nst l (k+1)=Zj (nst l k) b:=by
 have hk:k<l.length:=(List.getElem?_eq_some_iff.1 h).1
 unfold nst
 rw[if_pos (by omega),if_pos (by omega),List.take_add_one,h]
 simp
theorem zd5 (l:List UInt8):nst l (l.length+1)=(zh l,[]):=by
 unfold nst zh
 rw[if_neg (by omega)]
theorem zd4 (l:List UInt8):zju (nst l l.length)=zh l:=by
 unfold nst zh
 rw[if_pos (Nat.le_refl _),List.take_length]
theorem Hz (l:List UInt8):∀ k,k<=l.length->(nst l k).1.length+(nst l k).2.length<=k
 | 0,_=>by simp[vc]
 | k+1,h=>by
  have hk:k<l.length:=by omega
  have ih:=Hz l k (by omega)
  rw[vv l k l[k] (List.getElem?_eq_getElem hk)]
  unfold Zj
  by_cases h47:l[k]=47
  ·rw[if_pos h47]
   by_cases h2:(nst l k).2 = []
   ·simp[h2];omega
   ·have:0<(nst l k).2.length:=List.length_pos_iff.2 h2
    simp[h2];omega
  ·rw[if_neg h47];simp;omega
theorem z7 (l:List UInt8):(zh l).length<=l.length:=by
 rw[←zd4]
 have:=Hz l l.length (Nat.le_refl _)
 unfold zju
 split
 ·omega
 ·rename_i h
  have:0<(nst l l.length).2.length:=List.length_pos_iff.2 h
  simp;omega
theorem zix {b c:UInt8} (h:b≠c):¬((b.toNat:Int)=(c.toNat:Int)):=fun e=>h (UInt8.toNat_inj.1 (by omega))
theorem zdb {α:Type} (l:List α) (k:Nat) (b:α) (h:l[k]?=some b):(l.take (k+1)).drop k = [b]:=by
 have hk:k<l.length:=(List.getElem?_eq_some_iff.1 h).1
 rw[List.take_add_one,h,List.drop_append]
 simp[Nat.min_eq_left (by omega:k<=l.length)]
theorem Qh (l:List UInt8) (h:l.length<=2000000):Fun Tryz.prog G0 17 [.str l] (.own 0 9 1 ((zh l).map zmd)) 1:=by
 refine fon Tryz.func17 ?_;dsimp only[Tryz.f17]
 push_cast -dsimp
 refine loop (fun k:Nat=>⟨[(0,.str l),(3,.own 0 9 1 ((nst l k).1.map zmd)),(4,.str (nst l k).2),(5,.sc (.int .i64 k))],[],1,0⟩) (fun k=>k<=l.length+1) (fun k=>l.length+1-k) 0 (Nat.zero_le _) ?_ ?_
 ·refine j9.mk [.inr (9,1)] rfl rfl (Nat.le_refl _) rfl ?_ trivial
  push_cast -dsimp [zb,za,CLe,ze]
  simp[vc]
 ·intro k hk
  push_cast -dsimp
  by_cases h1:k<=l.length
  ·have hs:=Hz l k h1
   by_cases h2:k<l.length
   ·obtain ⟨b,hb⟩:∃ b,l[k]?=some b:=⟨l[k],List.getElem?_eq_getElem h2⟩
    have hn:=vv l k b hb
    by_cases h3:b=47
    ·have h3':(b.toNat:Int)=47:=by subst h3;rfl
     by_cases h4:(nst l k).2 = []
     ·push_cast -dsimp [h1,h2,h3',hb,h4]
      and_intros<;>try omega
      refine ⟨k+1,by omega,by omega,j9.mk [.inl 0] rfl rfl (Nat.le_refl _) rfl ?_ trivial⟩
      push_cast -dsimp [zb,za,CLe,ze]
      simp[hn,Zj,h3,h4]
     ·push_cast -dsimp [h1,h2,h3',hb,h4]
      simp only[List.length_map,List.length_cons,List.length_nil]
      and_intros<;>try omega
      refine ⟨k+1,by omega,by omega,j9.mk [.inl 0] rfl rfl (Nat.le_refl _) rfl ?_ trivial⟩
      push_cast -dsimp [zb,za,CLe,ze]
      simp[hn,Zj,h3,h4,zmd]
    ·have h3':¬((b.toNat:Int)=47):=zix h3
     push_cast -dsimp [h1,h2,h3',hb]
     rw[zdb l k b hb]
     and_intros<;>try omega
     ·simp;omega
     refine ⟨k+1,by omega,by omega,j9.mk [.inl 0] rfl rfl (Nat.le_refl _) rfl ?_ trivial⟩
     push_cast -dsimp [zb,za,CLe,ze]
     simp[hn,Zj,h3]
   ·obtain rfl:k=l.length:=by omega
    have hl:=zd4 l
    have he:=zd5 l
    have hz:=z7 l
    by_cases h4:(nst l l.length).2 = []
    ·push_cast -dsimp [h1,h2,h4]
     and_intros<;>try omega
     refine ⟨l.length+1,by omega,by omega,j9.mk [.inl 0] rfl rfl (Nat.le_refl _) rfl ?_ trivial⟩
     push_cast -dsimp [zb,za,CLe,ze]
     simp[he,←hl,zju,h4]
    ·push_cast -dsimp [h1,h2,h4]
     simp only[List.length_map,List.length_cons,List.length_nil]
     and_intros<;>try omega
     refine ⟨l.length+1,by omega,by omega,j9.mk [.inl 0] rfl rfl (Nat.le_refl _) rfl ?_ trivial⟩
     push_cast -dsimp [zb,za,CLe,ze]
     simp[he,←hl,zju,h4,zmd]
  ·obtain rfl:k=l.length+1:=by omega
   have he:=zd5 l
   push_cast -dsimp [h1]
   exact ⟨[.inl 0],rfl,rfl,by push_cast -dsimp [zb,za,CLe,ze,he]⟩
end
section
open Go.RowKit
abbrev zB (xs:List (List UInt8)):List (List C):=xs.map zmd
theorem xz (xs:List (List UInt8)):(zB xs).length=xs.length:=List.length_map _
theorem zbF (xs:List (List UInt8)) (x:List UInt8):zB xs++[[.str x]]=zB (xs++[x]):=by simp
theorem strs_get? (xs:List (List UInt8)) (k:Nat):(zB xs)[k]?=(xs[k]?).map zmd:=List.getElem?_map
theorem zch (xs:List (List UInt8)) (k:Nat):(zB xs).drop k=zB (xs.drop k):=List.map_drop.symm
theorem zdd (xs:List (List UInt8)) (k:Nat):(zB xs).take k=zB (xs.take k):=List.map_take.symm
theorem xy (xs ys:List (List UInt8)):zB xs++zB ys=zB (xs++ys):=List.map_append.symm
theorem XT (xs:List (List UInt8)) (k:Nat) (h:k<xs.length):(zB xs)[k]?=some [.str (xs[k]'h)]:=by rw[strs_get?,List.getElem?_eq_getElem h];rfl
attribute [push_cast] xz zbF zch zdd xy
abbrev qh (b:Bool):C:=.sc (.bool b)
theorem zhr (a b:List (List UInt8)) (ha:a.length<=9223372036854775807):Fun Tryz.prog G0 15 [.sl 1 (zB a),.sl 1 (zB b)] (qh (decide (a=b))) 0:=by
 by_cases hl:a.length=b.length
 ·refine fon Tryz.func15 ?_;dsimp only[Tryz.f15]
  push_cast -dsimp [hl]
  refine loop (fun k:Nat=>⟨[(0,.sl 1 (zB a)),(1,.sl 1 (zB b)),(5,.sc (.int .i64 k))],[],0,0⟩) (fun k=>k<=a.length/\a.take k=b.take k) (fun k=>a.length-k) 0 ⟨Nat.zero_le _,rfl⟩ ?_ ?_
  ·exact wk
  ·intro k hk
   have hk1:=hk.1
   have hk2:=hk.2
   by_cases h:k<a.length
   ·have hga:=XT a k h
    have hgb:=XT b k (by omega)
    by_cases he:a[k]'h=b[k]'(by omega)
    ·push_cast -dsimp [h,hga,hgb,he]
     refine ⟨by omega,by omega,by omega,k+1,⟨by omega,?_⟩,by omega,wk⟩
     rw[List.take_add_one,List.take_add_one,hk2,List.getElem?_eq_getElem h,List.getElem?_eq_getElem (by omega:k<b.length),he]
    ·push_cast -dsimp [h,hga,hgb,he]
     refine ⟨by omega,by omega,[],rfl,rfl,?_⟩
     push_cast -dsimp [zb,za,CLe,ze]
     have:a≠b:=fun e=>he (by subst e;rfl)
     simp[this]
   ·have hkl:k=a.length:=by omega
    push_cast -dsimp [h]
    refine ⟨[],rfl,rfl,?_⟩
    push_cast -dsimp [zb,za,CLe,ze]
    rw[hkl,List.take_length,hl,List.take_length]at hk2
    simp[hk2]
 ·have hl':¬((a.length:Int)=(b.length:Int)):=by omega
  refine fon Tryz.func15 ?_;dsimp only[Tryz.f15]
  push_cast -dsimp [hl]
  refine ⟨[],rfl,rfl,?_⟩
  push_cast -dsimp [zb,za,CLe,ze]
  have:a≠b:=fun e=>hl (by rw[e])
  simp[this]
def few (l:List (List UInt8)):Bool:=(l.take 100).all (fun x=>decide (x.length<=300))&&decide (l.length<=40)
end
section
open Go.RowKit
theorem Fun.wrap {P:Program} {G:zk} {f:FuncId} {args:List C} {r:C} (he:JW P f=true)
  (h:∀ (R:Env) (vs:List Value),zm R zu args vs->Calls P f vs.toArray R.w fun e w'=>∃ v,e = .returned v/\Below R.w.heap.size R.w w'/\∀ R',Ext R R'->Rep R' zu r v):Fun P G f args r 0:=by
 refine ⟨he,fun R vs hg ha=>(h R vs ha).mono ?_⟩
 rintro e w' ⟨v,rfl,hb,hr⟩
 have st:zW 0 0 R zu ⟨w',fun b o=>b<R.w.heap.size/\R.M b o,R.F⟩ zu:=zW.mem (nx:=0) hb
 exact ⟨v,_,zu,rfl,rfl,st,hr _ st.ext⟩
def jx:List UInt8->List (List UInt8)
 | []=>[[]]
 | b :: l=>if b=47 then [] :: jx l else match jx l with
  | []=>[[b]]
  | x :: r=>(b :: x) :: r
theorem Nr (l:List UInt8):jx l≠[]:=by
 cases l with
 | nil=>simp[jx]
 | cons b l =>
  unfold jx
  split
  ·simp
  ·split<;>simp
theorem Ga:∀ l:List UInt8,Lib.indexByte l 47<0->jx l = [l]
 | [],_=>rfl
 | b :: l,h=>by
  unfold Lib.indexByte at h
  by_cases hb:b=47
  ·subst hb;simp at h
  ·have hb':(b==47)=false:=by simpa using hb
   rw[hb']at h
   simp only[Bool.false_eq_true,if_false]at h
   have hl:Lib.indexByte l 47<0:=by
    split at h
    ·rename_i g;have:=beq_iff_eq.1 g;omega
    ·omega
   unfold jx
   rw[if_neg hb,Ga l hl]
theorem kP:∀ l:List UInt8,-1<=Lib.indexByte l 47
 | []=>Int.le_refl _
 | b :: l=>by
  have:=kP l
  unfold Lib.indexByte
  split
  ·decide
  ·split
   ·decide
   ·omega
theorem vQ:∀ (l:List UInt8) (i:Nat),Lib.indexByte l 47=(i:Int)->i<l.length/\jx l=l.take i :: jx (l.drop (i+1))
 | [],i,h=>by
  have h:(-1:Int)=(i:Int):=h
  omega
 | b :: l,i,h=>by
  unfold Lib.indexByte at h
  by_cases hb:b=47
  ·subst hb
   simp at h
   obtain rfl:i=0:=by omega
   refine ⟨by simp,?_⟩
   conv=>lhs;unfold jx
   simp
  ·have hb':(b==47)=false:=by simpa using hb
   rw[hb']at h
   simp only[Bool.false_eq_true,if_false]at h
   split at h
   ·omega
   ·rename_i g
    have g':Lib.indexByte l 47≠-1:=by simpa using g
    have hg:=kP l
    obtain ⟨j,rfl⟩:∃ j,i=j+1:=⟨i-1,by omega⟩
    have hj:Lib.indexByte l 47=(j:Int):=by omega
    obtain ⟨h1,h2⟩:=vQ l j hj
    refine ⟨by simp;omega,?_⟩
    conv=>lhs;unfold jx
    rw[if_neg hb,h2]
    simp
theorem Uo:∀ (l:List UInt8) (a:List (List UInt8)) (cur:List UInt8),zju (l.foldl Zj (a,cur))=a++(match jx l with | []=>[] | x :: r=>(cur++x) :: r).filter (fun x=>!decide (x = []))
 | [],a,cur=>by
  simp only[List.foldl_nil,zju,jx]
  by_cases h:cur = []<;>simp[h]
 | b :: l,a,cur=>by
  simp only[List.foldl_cons]
  by_cases hb:b=47
  ·subst hb
   have hn:Zj (a,cur) 47=(if cur = [] then a else a++[cur],[]):=by simp[Zj]
   rw[hn,Uo l]
   conv=>rhs;unfold jx
   simp only[if_true]
   have hne:=Nr l
   cases hs:jx l with
   | nil=>exact absurd hs hne
   | cons x r=>by_cases h:cur = []<;>simp[h]
  ·have hn:Zj (a,cur) b=(a,cur++[b]):=by simp[Zj,hb]
   rw[hn,Uo l]
   conv=>rhs;unfold jx
   rw[if_neg hb]
   have hne:=Nr l
   cases hs:jx l with
   | nil=>exact absurd hs hne
   | cons x r=>simp
theorem j8 (l:List UInt8):zh l=(jx l).filter (fun x=>!decide (x = [])):=by
 unfold zh
 rw[Uo]
 cases hs:jx l with
 | nil=>rfl
 | cons x r=>simp
theorem zdg (l:List UInt8):Fun Tryz.prog G0 177 [.str l,.str [47]] (.sc (.int .i64 (Lib.indexByte l 47))) 0:=by
 refine Fun.wrap (by kernel_rfl) fun R vs h=>?_
 obtain ⟨v1,us1,rfl,h1,h⟩:=zd.1 h
 obtain ⟨v2,us2,rfl,h2,h⟩:=zd.1 h
 rw[zg]at h
 subst h
 rw[zC]at h1 h2
 subst h1 h2
 refine (Tryz.strings_Index_one ⟨l.toArray⟩ 47 R.w).mono ?_
 rintro e w' ⟨rfl,rfl⟩
 exact ⟨_,rfl,Below.refl _ _,fun R' _=>zj.2 (by simp)⟩
theorem UE (s:List UInt8) (hs:s.length<=1000000):Mc Tryz.prog G0 208 [] [.ptr 1 0,.ptr 0 0,.ptr 2 0] [[.str s],[.str [47]],[.sc (.int .i64 0)]] (zB (jx s)):=by
 refine foI (fun _=>[]) Tryz.func208 ?_;dsimp only[Tryz.f208]
 intro l sf
 push_cast -dsimp
 refine loop (fun x:List UInt8×Nat=>⟨[(0,.sc (.func (.yield l) #[] #[])),(1,.ptr 1 0),(2,.ptr 0 0),(3,.ptr 2 0)],[[.str x.1],[.str [47]],[.sc (.int .i64 0)]],0,x.2⟩)
  (fun x=>x.1.length<=1000000/\(∃ done,jx s=done++jx x.1/\done.length=x.2)/\∀ j,j<x.2->sf j=false) (fun x=>x.1.length) (s,0) ⟨hs,⟨[],rfl,rfl⟩,fun j hj=>by omega⟩ ?_ ?_
 ·refine j9.mk [] rfl rfl (Nat.zero_le _) rfl ?_ ?_<;>push_cast -dsimp [zb,za,CLe,ze]<;>omega
 ·rintro ⟨r,k⟩ hx
  simp only at hx ⊢
  have hr:=hx.1
  have hsf:=hx.2.2
  obtain ⟨done,hd,hdl⟩:=hx.2.1
  clear hx
  push_cast -dsimp
  refine call (zdg r) ?_
  push_cast -dsimp
  by_cases hi:Lib.indexByte r 47<0
  ·push_cast -dsimp [hi]
   have hk:(zB (jx s))[k]?=some [.str r]:=by
    rw[hd,Ga r hi];simp[←hdl]
   rw[hk]
   push_cast -dsimp
   refine ⟨by push_cast -dsimp [zb,za,CLe,ze],hsf,?_⟩
   cases hk2:sf k with
   | true=>exact .inr ⟨Nat.succ_pos k,hk2⟩
   | false =>
    refine .inl ⟨?_,fun j (hj:j<k+1)=>?_⟩
    ·rw[hd,Ga r hi];simp[hdl]
    ·rcases Nat.lt_or_ge j k with g | g
     ·exact hsf j g
     ·rw[show j=k by omega];exact hk2
  ·have hg:=kP r
   obtain ⟨i,hii⟩:∃ i:Nat,Lib.indexByte r 47=(i:Int):=⟨(Lib.indexByte r 47).toNat,by omega⟩
   obtain ⟨hir,hsp⟩:=vQ r i hii
   have hk:(zB (jx s))[k]?=some [.str (r.take i)]:=by
    rw[hd,hsp];simp[←hdl]
   rw[hii]at hi ⊢
   push_cast -dsimp [hi]
   rw[hk]
   push_cast -dsimp
   refine ⟨by omega,by omega,by push_cast -dsimp [zb,za,CLe,ze],hsf,br (fun hk2=>?_) (fun hk2=>?_)⟩
   ·push_cast -dsimp
    exact .inr ⟨Nat.succ_pos k,hk2⟩
   ·push_cast -dsimp
    refine ⟨by omega,by omega,(r.drop (i+1),k+1),⟨by simp;omega,⟨done++[r.take i],by rw[hd,hsp];simp,by simp[hdl]⟩,fun j (hj:j<k+1)=>?_⟩,by simp;omega,j9.mk [] rfl rfl (Nat.zero_le _) rfl ?_ ?_⟩
    ·rcases Nat.lt_or_ge j k with g | g
     ·exact hsf j g
     ·rw[show j=k by omega];exact hk2
    ·push_cast -dsimp [zb,za,CLe,ze]
    ·push_cast -dsimp [zb,za,CLe,ze]
theorem Ng (s:List UInt8):zaW Tryz.prog G0 169 [.str s,.str [47],.sc (.int .i64 0)] [] 0 (.clo (.func 208) [] [.ptr 1 0,.ptr 0 0,.ptr 2 0]) [[.str s],[.str [47]],[.sc (.int .i64 0)]] 0:=by
 refine foB (fun _=>[]) Tryz.func169 ?_;dsimp only[Tryz.f169]
 push_cast -dsimp
 exact ⟨[],rfl,rfl,by push_cast -dsimp [zb,za,CLe,ze],by push_cast -dsimp [zb,za,CLe,ze]⟩
theorem GA (s:List UInt8):zaW Tryz.prog G0 127 [.str s,.str [47]] [] 0 (.clo (.func 208) [] [.ptr 1 0,.ptr 0 0,.ptr 2 0]) [[.str s],[.str [47]],[.sc (.int .i64 0)]] 0:=by
 refine foB (fun _=>[]) Tryz.func127 ?_;dsimp only[Tryz.f127]
 push_cast -dsimp
 refine zhc [] [] (Ng s) rfl (by simp) (by simp) (fun i hi=>by cases hi) (by push_cast -dsimp) rfl ?_
 push_cast -dsimp
 exact ⟨[],rfl,rfl,by push_cast -dsimp [zb,za,CLe,ze],by push_cast -dsimp [zb,za,CLe,ze]⟩
end
section
open Go.RowKit
abbrev U7 (x:List UInt8):Bool:=!decide (x = [])
def cnt (xs:List (List UInt8)) (k:Nat):Nat:=((xs.take k).filter U7).length
theorem yY (xs:List (List UInt8)) (k:Nat) (x:List UInt8) (h:xs[k]?=some x):cnt xs (k+1)=if x = [] then cnt xs k else cnt xs k+1:=by
 unfold cnt
 rw[List.take_add_one,h]
 by_cases hx:x = []<;>simp[hx]
theorem zkb (xs:List (List UInt8)) (k:Nat) (x:List UInt8) (h:xs[k]?=some x) (hx:x≠[]):(xs.filter U7)[cnt xs k]?=some x:=by
 have hk:k<xs.length:=(List.getElem?_eq_some_iff.1 h).1
 have e:xs=xs.take k++x :: xs.drop (k+1):=by
  have:=List.take_append_drop k xs
  rw[List.drop_eq_getElem_cons hk]at this
  rw[List.getElem?_eq_getElem hk]at h
  cases h;exact this.symm
 have e2:xs.filter U7=(xs.take k).filter U7++x :: (xs.drop (k+1)).filter U7:=by
  conv=>lhs;rw[e]
  rw[List.filter_append,List.filter_cons]
  simp[hx]
 rw[e2]
 unfold cnt
 simp
theorem zlV (xs:List (List UInt8)):cnt xs xs.length=(xs.filter U7).length:=by unfold cnt;rw[List.take_length]
theorem Q8 {xs:List (List UInt8)} {sf:Nat->Bool}:∀ k,k<=xs.length->(∀ j,j<k->(U7 (xs.getD j [])&&sf (cnt xs j))=false)->∀ j,j<cnt xs k->sf j=false
 | 0,_,_,j,hj=>by simp[cnt]at hj
 | k+1,hk,h,j,hj=>by
  have ih:=Q8 k (by omega) fun i hi=>h i (by omega)
  have hx:xs[k]?=some (xs.getD k []):=by rw[List.getD_eq_getElem?_getD,List.getElem?_eq_getElem (by omega)];rfl
  rw[yY xs k _ hx]at hj
  by_cases he:xs.getD k [] = []
  ·rw[if_pos he]at hj;exact ih j hj
  ·rw[if_neg he]at hj
   rcases Nat.lt_or_ge j (cnt xs k) with g | g
   ·exact ih j g
   ·have h2:=h k (by omega)
    have h3:U7 (xs.getD k [])=true:=by simp only[U7,Bool.not_eq_true',decide_eq_false_iff_not];exact he
    rw[h3,Bool.true_and]at h2
    rw[show j=cnt xs k by omega];exact h2
theorem Vh {xs:List (List UInt8)} {k:Nat} {it:List C} (h:(zB xs)[k]?=some it):∃ x,xs[k]?=some x/\it = [.str x]:=by
 rw[List.getElem?_map]at h
 cases hq:xs[k]? with
 | none=>rw[hq]at h;cases h
 | some x=>rw[hq]at h;cases h;exact ⟨x,rfl,rfl⟩
theorem Uq (p:List UInt8) (hs:p.length<=1000000):Mc Tryz.prog G0 145 [] [.row [.str p]] [] (zB (zh p)):=by
 rw[j8]
 refine foI (fun _=>[]) Tryz.func145 ?_;dsimp only[Tryz.f145]
 intro l sf
 push_cast -dsimp
 refine zhc [] [] (GA p) rfl (by simp) (by simp) (fun i hi=>by cases hi) (by push_cast -dsimp) rfl ?_
 push_cast -dsimp
 refine range (zB (jx p)) (fun k=>U7 ((jx p).getD k [])&&sf (cnt (jx p) k)) 1 (fun k=>⟨[],[[.sc (.func (.yield l) #[] #[])]],0,cnt (jx p) k⟩) (UE p hs) (by push_cast -dsimp) (by push_cast -dsimp) (by push_cast -dsimp) (Nat.zero_le _) (by push_cast -dsimp) (fun it hit=>?_) (fun k _=>rfl) ?_ (fun k it hk hsf=>?_) (fun hsf=>?_)
 ·obtain ⟨x,_,rfl⟩:=List.mem_map.1 hit;rfl
 ·exact wk
 ·obtain ⟨x,hx,rfl⟩:=Vh hk
  have hxd:(jx p).getD k []=x:=by rw[List.getD_eq_getElem?_getD,hx];rfl
  have hkl:k<(jx p).length:=(List.getElem?_eq_some_iff.1 hx).1
  have hcs:=yY (jx p) k x hx
  have hbef:=Q8 (xs:=jx p) (sf:=sf) k (by omega) hsf
  by_cases he:x = []
  ·push_cast -dsimp [he]
   refine ⟨?_,j9.mk [] rfl rfl (Nat.le_refl _) ?_ (by push_cast -dsimp [zb,za,CLe,ze]) (by push_cast -dsimp [zb,za,CLe,ze])⟩
   ·rw[hxd,he];rfl
   ·simp[hcs,he,St.wt]
  ·have hget:=zkb (jx p) k x hx he
   have hg2:(zB ((jx p).filter U7))[cnt (jx p) k]?=some [.str x]:=by rw[List.getElem?_map,hget];rfl
   push_cast -dsimp [he]
   rw[hg2]
   push_cast -dsimp
   refine ⟨by push_cast -dsimp [zb,za,CLe,ze],hbef,br (fun h2=>?_) (fun h2=>?_)⟩
   ·push_cast -dsimp
    refine ⟨by rw[hxd,h2];simp[U7,he],⟨[],[[.sc (.func (.yield l) #[] #[])]],0,cnt (jx p) k+1⟩,rfl,wk,?_⟩
    push_cast -dsimp
    exact .inr ⟨Nat.succ_pos _,h2⟩
   ·push_cast -dsimp
    refine ⟨by rw[h2,Bool.and_false],j9.mk [] rfl rfl (Nat.le_refl _) ?_ (by push_cast -dsimp [zb,za,CLe,ze]) (by push_cast -dsimp [zb,za,CLe,ze])⟩
    simp[hcs,he,St.wt]
 ·have hall:=zlV (jx p)
  have hbef:=Q8 (xs:=jx p) (sf:=sf) (jx p).length (Nat.le_refl _) fun j hj=>hsf j (by simpa using hj)
  push_cast -dsimp
  refine .inl ⟨?_,?_⟩
  ·simp[hall]
  ·simpa using hbef
end
section
open Go.RowKit
theorem Xy (p:List UInt8):Fun Tryz.prog G0 99 [.str p] (.clo (.func 145) [] [.row [.str p]]) 0:=by
 refine fon Tryz.func99 ?_;dsimp only[Tryz.f99]
 push_cast -dsimp
 exact dn
theorem Hh (xs:List (List UInt8)) (f:FuncId) (cap:List C) (hsel:C.selL (Yh 1) cap=cap) (hit:Mc Tryz.prog G0 f [] cap [] (zB xs)) (hx:xs.length<=1000001):Fun Tryz.prog G0 181 [.sc (.slice none 0 0),.clo (.func f) [] cap] (.own 0 9 1 (zB xs)) 1:=by
 refine fon Tryz.func181 ?_;dsimp only[Tryz.f181]
 push_cast -dsimp
 refine range (zB xs) (fun _=>false) 1 (fun k=>⟨[],[[.own 0 9 1 (zB (xs.take k))]],1,0⟩) hit (by push_cast -dsimp) hsel (by push_cast -dsimp) (Nat.zero_le _) (by push_cast -dsimp) (fun it h=>?_) (fun k _=>rfl) ?_ (fun k it hk hsf=>?_) (fun hsf=>?_)
 ·obtain ⟨x,_,rfl⟩:=List.mem_map.1 h;rfl
 ·exact wks [.inr (9,1)]
 ·obtain ⟨x,hx2,rfl⟩:=Vh hk
  have hkl:k<xs.length:=(List.getElem?_eq_some_iff.1 hx2).1
  push_cast -dsimp
  simp only[List.length_take]
  refine ⟨by omega,by omega,j9.mk [.inl 0] rfl rfl (Nat.le_refl _) rfl (by push_cast -dsimp [zb,za,CLe,ze]) ?_⟩
  push_cast -dsimp [zb,za,CLe,ze]
  rw[List.take_add_one,hx2]
  rfl
 ·push_cast -dsimp
  refine ⟨[.inl 0],rfl,rfl,?_⟩
  push_cast -dsimp [zb,za,CLe,ze]
  simp
theorem xA (xs:List (List UInt8)) (f:FuncId) (cap:List C) (hsel:C.selL (Yh 1) cap=cap) (hfrz:C.frzL cap=cap) (hit:Mc Tryz.prog G0 f [] cap [] (zB xs)) (hx:xs.length<=1000001):Fun Tryz.prog G0 157 [.clo (.func f) [] cap] (.own 0 9 1 (zB xs)) 1:=by
 refine fon Tryz.func157 ?_;dsimp only[Tryz.f157]
 push_cast -dsimp [hfrz]
 refine call (Hh xs f cap hsel hit hx) ?_
 push_cast -dsimp
 exact ⟨[.inl 0],rfl,rfl,by push_cast -dsimp [zb,za,CLe,ze]⟩
theorem Xq (p:List UInt8) (hp:p.length<=1000000):Fun Tryz.prog G0 157 [.clo (.func 145) [] [.row [.str p]]] (.own 0 9 1 (zB (zh p))) 1:=
 xA (zh p) _ _ (by push_cast -dsimp) (by push_cast -dsimp) (Uq p hp) (by have:=z7 p;omega)
theorem QF (s p:List UInt8):Fun Tryz.prog G0 98 [.str s,.str p] (.sc (.bool (Lib.hasPrefix s p))) 0:=by
 refine Fun.wrap (by kernel_rfl) fun R vs h=>?_
 obtain ⟨v1,us1,rfl,h1,h⟩:=zd.1 h
 obtain ⟨v2,us2,rfl,h2,h⟩:=zd.1 h
 rw[zg]at h
 subst h
 rw[zC]at h1 h2
 subst h1 h2
 refine (Tryz.strings_HasPrefix ⟨s.toArray⟩ ⟨p.toArray⟩ R.w).mono ?_
 rintro e w' ⟨rfl,rfl⟩
 exact ⟨_,rfl,Below.refl _ _,fun R' _=>zj.2 (by simp)⟩
theorem H9 (s p:List UInt8) (hs:s.length<=1000000):Fun Tryz.prog G0 100 [.str s,.str p] (.sc (.bool (Lib.hasSuffix s p))) 0:=by
 refine Fun.wrap (by kernel_rfl) fun R vs h=>?_
 obtain ⟨v1,us1,rfl,h1,h⟩:=zd.1 h
 obtain ⟨v2,us2,rfl,h2,h⟩:=zd.1 h
 rw[zg]at h
 subst h
 rw[zC]at h1 h2
 subst h1 h2
 refine (Tryz.strings_HasSuffix ⟨s.toArray⟩ ⟨p.toArray⟩ R.w (by simp[ByteArray.size];omega)).mono ?_
 rintro e w' ⟨rfl,rfl⟩
 exact ⟨_,rfl,Below.refl _ _,fun R' _=>zj.2 (by simp)⟩
theorem Vd (xs:List (List UInt8)) (sep:List UInt8) (hx:xs.length<=1000001) (hl:(Lib.join xs sep).length<=100000000):Fun Tryz.prog G0 130 [.sl 1 (zB xs),.str sep] (.str (Lib.join xs sep)) 0:=by
 refine Fun.wrap (by kernel_rfl) fun R vs h=>?_
 obtain ⟨v1,us1,rfl,h1,h⟩:=zd.1 h
 obtain ⟨v2,us2,rfl,h2,h⟩:=zd.1 h
 rw[zg]at h
 subst h
 rw[zC]at h2
 subst h2
 obtain ⟨a,cap,rfl,hc1,hc2,hr⟩:=U9.1 h1
 have hlen:(zB xs).length=xs.length:=by simp
 have hmap:(xs.map fun x=>ByteArray.mk x.toArray).map (·.data.toList)=xs:=by
  rw[List.map_map]
  conv=>rhs;rw[←List.map_id xs]
  exact List.map_congr_left fun x _=>by simp
 rcases hr with hr | ⟨b,o,rfl,hr⟩
 ·have:xs = []:=by simpa using hr
  subst this
  refine (Tryz.strings_Join_none a cap ⟨sep.toArray⟩ R.w).mono ?_
  rintro e w' ⟨rfl,rfl⟩
  exact ⟨_,rfl,Below.refl _ _,fun R' _=>zC.2 (by simp[Lib.join])⟩
 ·by_cases hx0:xs = []
  ·subst hx0
   refine (Tryz.strings_Join_none _ cap ⟨sep.toArray⟩ R.w).mono ?_
   rintro e w' ⟨rfl,rfl⟩
   exact ⟨_,rfl,Below.refl _ _,fun R' _=>zC.2 (by simp[Lib.join])⟩
  ·have hcells:∀ (j:Nat) x,(xs.map fun x=>ByteArray.mk x.toArray)[j]?=some x->R.w.cell? ⟨b,o+j,none⟩=some (.string x):=fun j x hj=>by
    rw[List.getElem?_map]at hj
    cases hq:xs[j]? with
    | none=>rw[hq]at hj;cases hj
    | some y =>
     rw[hq]at hj;cases hj
     obtain ⟨_,g⟩:=qE hr j [.str y] (by rw[List.getElem?_map,hq];rfl)
     obtain ⟨⟨v,g1,_,g2,_⟩,_⟩:=zN.1 g
     rw[zC]at g2
     subst g2
     simpa using g1
   have hb:b<R.w.heap.size:=by
    cases xs with
    | nil=>exact absurd rfl hx0
    | cons x r =>
     exact MU (hcells 0 ⟨x.toArray⟩ rfl)
   have hj:=Tryz.strings_Join b o cap (xs.map fun x=>ByteArray.mk x.toArray) ⟨sep.toArray⟩ R.w hcells hb (by simp;omega) (by simpa using hc1) (by rw[hmap];simp;omega)
   rw[hmap]at hj
   simp only[List.length_map]at hj
   rw[hlen]
   refine hj.mono ?_
   rintro e w' ⟨rfl,hbl⟩
   exact ⟨_,rfl,hbl,fun R' _=>zC.2 (by simp)⟩
end
section
open Go.RowKit
def zg1 (p:List UInt8):C:=.agg [qh (Lib.hasPrefix p [47]),.own 0 9 1 (zB (zh p)),qh (!decide (zh p = [])&&Lib.hasSuffix p [47])]
theorem Vc (p:List UInt8) (hp:p.length<=1000000):Fun Tryz.prog G0 107 [.str p] (zg1 p) 1:=by
 refine fon Tryz.func107 ?_;dsimp only[Tryz.f107]
 push_cast -dsimp
 refine call (Xy p) ?_
 push_cast -dsimp
 refine call (Xq p hp) ?_
 push_cast -dsimp
 refine call (QF p [47]) ?_
 push_cast -dsimp
 by_cases h:zh p = []
 ·push_cast -dsimp [h]
  exact ⟨[.inl 0],rfl,rfl,by simp only[zg1];push_cast -dsimp [zb,za,CLe,ze,h];simp⟩
 ·have h':0<(zh p).length:=List.length_pos_iff.2 h
  push_cast -dsimp [h']
  refine call (H9 p [47] hp) ?_
  push_cast -dsimp
  exact ⟨[.inl 0],rfl,rfl,by simp only[zg1];push_cast -dsimp [zb,za,CLe,ze,h]⟩
def zkk (a:Bool) (xs:List (List UInt8)) (s:Bool):C:=.agg [qh a,.sl 1 (zB xs),qh s]
def put (a:Bool) (xs:List (List UInt8)) (s:Bool):List UInt8:=(if a then [47] else [])++Lib.join xs [47]++(if s&&!decide (xs = []) then [47] else [])
theorem zlC (a:Bool) (xs:List (List UInt8)) (s:Bool) (hx:xs.length<=1000001) (hl:(Lib.join xs [47]).length<=100000000):Fun Tryz.prog G0 123 [zkk a xs s] (.str (put a xs s)) 0:=by
 unfold zkk
 refine fon Tryz.func123 ?_;dsimp only[Tryz.f123]
 push_cast -dsimp
 refine call (Vd xs [47] hx hl) ?_
 push_cast -dsimp
 by_cases h:xs = []
 ·subst h
  cases a<;>cases s<;>push_cast -dsimp
  ·exact ⟨[],rfl,rfl,by push_cast -dsimp [zb,za,CLe,ze];simp[put]⟩
  ·exact ⟨[],rfl,rfl,by push_cast -dsimp [zb,za,CLe,ze];simp[put]⟩
  ·exact ⟨by omega,[],rfl,rfl,by push_cast -dsimp [zb,za,CLe,ze];simp[put]⟩
  ·exact ⟨by omega,[],rfl,rfl,by push_cast -dsimp [zb,za,CLe,ze];simp[put]⟩
 ·have h':0<xs.length:=List.length_pos_iff.2 h
  cases a<;>cases s<;>push_cast -dsimp [h']
  ·exact ⟨[],rfl,rfl,by push_cast -dsimp [zb,za,CLe,ze];simp[put]⟩
  ·exact ⟨by omega,[],rfl,rfl,by push_cast -dsimp [zb,za,CLe,ze];simp[put,h]⟩
  ·exact ⟨by omega,[],rfl,rfl,by push_cast -dsimp [zb,za,CLe,ze];simp[put]⟩
  ·exact ⟨by omega,by omega,[],rfl,rfl,by push_cast -dsimp [zb,za,CLe,ze];simp[put,h]⟩
def z8 (xs:List (List UInt8)):List UInt8:=if xs = [] then [47] else 47 :: Lib.join xs [47]
theorem YY (xs:List (List UInt8)) (hx:xs.length<=1000001) (hl:(Lib.join xs [47]).length<=100000000):Fun Tryz.prog G0 109 [.sl 1 (zB xs)] (.str (z8 xs)) 0:=by
 refine fon Tryz.func109 ?_;dsimp only[Tryz.f109]
 push_cast -dsimp
 by_cases h:xs = []
 ·push_cast -dsimp [h]
  exact ⟨[],rfl,rfl,by simp only[z8,h];push_cast -dsimp [zb,za,CLe,ze]⟩
 ·have h':¬((xs.length:Int)=0):=by have:=List.length_pos_iff.2 h;omega
  push_cast -dsimp [h']
  refine call ((Vd xs [47] hx hl)) ?_
  push_cast -dsimp
  exact ⟨by omega,[],rfl,rfl,by simp only[z8,if_neg h];push_cast -dsimp [zb,za,CLe,ze]⟩
def QB (p:List UInt8):Bool:=(zh p).any (fun x=>decide (255<x.length))||decide (4095<p.length)
theorem Hn (p:List UInt8) (hp:p.length<=1000000):Fun Tryz.prog G0 72 [.str p] (qh (QB p)) 0:=by
 refine fon Tryz.func72 ?_;dsimp only[Tryz.f72]
 push_cast -dsimp
 refine call (Xy p) ?_
 push_cast -dsimp
 refine range (zB (zh p)) (fun k=>decide (255<((zh p).getD k []).length)) 1 (fun k=>⟨[],[[.sc (.bool false)]],0,0⟩) (Uq p hp) (by push_cast -dsimp) (by push_cast -dsimp) (by push_cast -dsimp) (Nat.zero_le _) (by push_cast -dsimp) (fun it h=>?_) (fun k _=>rfl) ?_ (fun k it hk hsf=>?_) (fun hsf=>?_)
 ·obtain ⟨x,_,rfl⟩:=List.mem_map.1 h;rfl
 ·exact wk
 ·obtain ⟨x,hx,rfl⟩:=Vh hk
  have hxd:(zh p).getD k []=x:=by rw[List.getD_eq_getElem?_getD,hx];rfl
  push_cast -dsimp
  rw[hxd]
  refine br (fun h=>?_) (fun h=>?_)
  ·have h':255<x.length:=by have:=of_decide_eq_true h;omega
   push_cast -dsimp
   refine ⟨by simpa using h',⟨[],[[.sc (.bool true)]],0,0⟩,rfl,wk,?_⟩
   push_cast -dsimp
   refine ⟨[],rfl,rfl,?_⟩
   push_cast -dsimp [zb,za,CLe,ze]
   have:(zh p).any (fun x=>decide (255<x.length))=true:=List.any_eq_true.2 ⟨x,List.mem_of_getElem? hx,by simpa using h'⟩
   simp[QB,this]
  ·have h':¬255<x.length:=by have:=of_decide_eq_false h;omega
   push_cast -dsimp
   exact ⟨by simpa using h',wk⟩
 ·push_cast -dsimp
  refine ⟨[],rfl,rfl,?_⟩
  push_cast -dsimp [zb,za,CLe,ze]
  have:(zh p).any (fun x=>decide (255<x.length))=false:=List.any_eq_false.2 fun x hx=>by
   obtain ⟨k,hk,rfl⟩:=List.getElem_of_mem hx
   have:=hsf k (by simpa using hk)
   rw[List.getD_eq_getElem?_getD,List.getElem?_eq_getElem hk]at this
   simpa using this
  simp[QB,this]
  omega
def YK (p q:List UInt8):Bool:=decide (p=q)||decide (q = [47])||Lib.hasPrefix p (q++[47])
theorem U2 (p q:List UInt8) (hq:q.length<=1000000):Fun Tryz.prog G0 185 [.str p,.str q] (qh (YK p q)) 0:=by
 refine fon Tryz.func185 ?_;dsimp only[Tryz.f185]
 push_cast -dsimp
 by_cases h1:p=q
 ·push_cast -dsimp [h1]
  exact ⟨[],rfl,rfl,by push_cast -dsimp [zb,za,CLe,ze];simp[YK]⟩
 ·by_cases h2:q = [47]
  ·subst h2
   push_cast -dsimp [h1]
   exact ⟨[],rfl,rfl,by push_cast -dsimp [zb,za,CLe,ze];simp[YK]⟩
  ·push_cast -dsimp [h1,h2]
   refine ⟨by omega,?_⟩
   refine call (QF p (q++[47])) ?_
   push_cast -dsimp
   exact ⟨[],rfl,rfl,by push_cast -dsimp [zb,za,CLe,ze];simp[YK,h1,h2]⟩
end
section
open Go.RowKit
theorem Qv (l:List UInt8) (c:UInt8):Fun Tryz.prog G0 71 [.str l,.sc (.int .u8 (c.toNat:Int))] (.sc (.int .i64 (Lib.indexByte l c))) 0:=by
 refine Fun.wrap (by kernel_rfl) fun R vs h=>?_
 obtain ⟨v1,us1,rfl,h1,h⟩:=zd.1 h
 obtain ⟨v2,us2,rfl,h2,h⟩:=zd.1 h
 rw[zg]at h
 subst h
 rw[zC]at h1
 rw[zj]at h2
 subst h1 h2
 refine (Tryz.strings_IndexByte ⟨l.toArray⟩ (c.toNat:Int) R.w).mono ?_
 rintro e w' ⟨rfl,rfl⟩
 exact ⟨_,rfl,Below.refl _ _,fun R' _=>zj.2 (by simp)⟩
theorem Yu (r:Int):Fun Tryz.prog G0 243 [.sc (.int .i32 r)] (.sc (.bool (Lib.validRune r))) 0:=by
 refine Fun.wrap (by kernel_rfl) fun R vs h=>?_
 obtain ⟨v1,us1,rfl,h1,h⟩:=zd.1 h
 rw[zg]at h
 subst h
 rw[zj]at h1
 subst h1
 refine (Tryz.utf8_ValidRune r R.w).mono ?_
 rintro e w' ⟨rfl,rfl⟩
 exact ⟨_,rfl,Below.refl _ _,fun R' _=>zj.2 rfl⟩
theorem zgs (r:Int) (hv:Utf8.valid r=true) (h128:128<=r):∃ l c,(Utf8.encode r).data.toList=l++[c]/\1<=l.length/\l.length<=3/\128<=c.toNat:=by
 obtain ⟨h1,h2,h3⟩:=encode_facts r hv h128
 generalize Utf8.encode r=bs at h1 h2 h3 ⊢
 have hs:bs.data.toList.length=bs.size:=Array.length_toList
 have h4:=h3 (by omega)
 have h5:bs.data.toList[bs.size-1]?=some (bs[bs.size-1]'(by omega)):=Lib.data_getElem? bs _ (by omega)
 generalize bs[bs.size-1]'(by omega)=c at h4 h5
 generalize bs.data.toList=l at hs h5
 refine ⟨l.take (bs.size-1),c,?_,by simp;omega,by simp;omega,h4⟩
 have:=List.take_append_drop (bs.size-1) l
 have hd:l.drop (bs.size-1) = [c]:=by
  have hlt:bs.size-1<l.length:=by omega
  rw[List.drop_eq_getElem_cons hlt]
  rw[List.getElem?_eq_getElem hlt]at h5
  cases h5
  rw[List.drop_eq_nil_of_le (by omega)]
 rw[hd]at this
 exact this.symm
theorem Md (r:Int) (h1:128<=r) (hv:Utf8.valid r=true) (h2:r≠65533):Fun Tryz.prog G0 204 [.str [47,0],.sc (.int .i32 r)] (.sc (.int .i64 (-1))) 0:=by
 have hlv:Lib.validRune r=true:=by
  have:=validRune_eq r
  rw[hv]at this
  exact this.symm
 obtain ⟨l,c,he,hl1,hl3,hc⟩:=zgs r hv h1
 have ha:0<=r:=by omega
 have hb:¬r<128:=by omega
 have hc0:¬((0:Int)=(c.toNat:Int)):=by omega
 have hix:=Qv [] c
 match l,hl1,hl3 with
 | [x],_,_ =>
  refine fon Tryz.func204 ?_;dsimp only[Tryz.f204]
  push_cast -dsimp [ha,hb,h2]
  refine call (Yu r) ?_
  push_cast -dsimp [hlv,he]
  refine loop (fun k:Nat=>⟨[(0,.str [47,0]),(1,.sc (.int .i32 r)),(7,.str [x,c]),(8,.sc (.int .i64 1)),(9,.sc (.int .i64 1)),(10,.sc (.int .i64 0))],[],0,0⟩) (fun k=>True) (fun k=>0) 0 trivial ?_ ?_
  ·exact wk
  ·intro k _
   push_cast -dsimp [hc0]
   refine UM hix ?_
   have hi0:Lib.indexByte [] c = -1:=rfl
   push_cast -dsimp [hi0]
   exact dn
 | [x,y],_,_ =>
  refine fon Tryz.func204 ?_;dsimp only[Tryz.f204]
  push_cast -dsimp [ha,hb,h2]
  refine call (Yu r) ?_
  push_cast -dsimp [hlv,he]
  refine loop (fun k:Nat=>⟨[(0,.str [47,0]),(9,.sc (.int .i64 2))],[],0,0⟩) (fun k=>True) (fun k=>0) 0 trivial ?_ ?_
  ·exact wk
  ·intro k _
   push_cast -dsimp
   exact dn
 | [x,y,z],_,_ =>
  refine fon Tryz.func204 ?_;dsimp only[Tryz.f204]
  push_cast -dsimp [ha,hb,h2]
  refine call (Yu r) ?_
  push_cast -dsimp [hlv,he]
  refine loop (fun k:Nat=>⟨[(0,.str [47,0]),(9,.sc (.int .i64 3))],[],0,0⟩) (fun k=>True) (fun k=>0) 0 trivial ?_ ?_
  ·exact wk
  ·intro k _
   push_cast -dsimp
   exact dn
theorem H8 (w:World):Calls Tryz.prog 204 #[.string ⟨#[47,0]⟩,.int .i32 65533] w fun e w'=>e = .returned (.int .i64 (-1))/\Below w.heap.size w w':=by
 go_enter Tryz.func204,Tryz.ntmps204
 go_wp2
 go_loopg [5,6] 2 (fun g _ _ wx=>∃ i:Nat,i+g=2/\wx=w.iter ⟨#[47,0]⟩ i)
 case atStart=>exact ⟨0,by omega,rfl⟩
 case round =>
  obtain ⟨i,hig,rfl⟩:=hrel
  cases gk with
  | zero =>
   obtain rfl:i=2:=by omega
   have hnx:=fun ty=>run_next_end (P:=Tryz.prog) w ⟨#[47,0]⟩ 2 ty (by decide)
   go_wp2
   go_ret
   exact ⟨rfl,(Below.refl _ _).alloc (Nat.le_refl _) _⟩
  | succ g =>
   have hi:i<(ByteArray.mk #[47,0]).size:=by show i<2;omega
   have hx128:((ByteArray.mk #[47,0])[i]'hi).toNat<128:=by
    have:i=0∨i=1:=by omega
    rcases this with rfl | rfl
    ·exact (by decide:(47:UInt8).toNat<128)
    ·exact (by decide:(0:UInt8).toNat<128)
   have hnx:=fun ty=>run_next_ascii (P:=Tryz.prog) w ⟨#[47,0]⟩ i ty hi hx128
   have hne:((((ByteArray.mk #[47,0])[i]'hi).toNat:Int)==65533)=false:=by
    rw[beq_eq_false_iff_ne];omega
   go_wp2
   go_roundg g
   case measure=>omega
   case rel=>exact ⟨i+1,by omega,rfl⟩
end
section
open Go.RowKit Go.Shelf
def bad (b:UInt8):Bool:=decide (b=47)||decide (b=0)
theorem Zz (b:UInt8):[47,0].contains b=bad b:=by simp[bad,List.contains_iff_mem,Bool.eq_iff_iff]
theorem xv {P:Program} {W:World} {b:Nat} {s:ByteArray} {pos:Nat} (hb:W.heap[b]?=some (.stringIter s pos)) (h:pos<s.size) (ty:TypeId) :
  (Instr.next (.pointer (some ⟨b,0,none⟩)) true ty).run P W = .ok (.tuple #[.bool true,.int .i64 pos,.int .i32 (Utf8.decode s pos).1]) (W.putObj b (.stringIter s (pos+(Utf8.decode s pos).2))):=by
 simp only[Instr.next,getObj,setObj,Sem.run_bind,Sem.run,hb,Result.andThen,h,if_true]
 simp[goInt,Sem.run,hb,World.putObj]
theorem Vr {P:Program} {W:World} {b:Nat} {s:ByteArray} {pos:Nat} (hb:W.heap[b]?=some (.stringIter s pos)) (h:¬pos<s.size) (ty:TypeId) :
  (Instr.next (.pointer (some ⟨b,0,none⟩)) true ty).run P W = .ok (.tuple #[.bool false]) W:=by
 simp[Instr.next,getObj,Sem.run,hb,h]
theorem get!_eq (s:ByteArray) (k:Nat) (hk:k<s.size):s.get! k=s[k]'hk:=by
 simp[ByteArray.get!,getElem!_pos,hk];rfl
theorem zgC {c:Nat} (h:c<55296∨(57344<=c/\c<=1114111)):Utf8.valid (c:Int)=true:=by
 unfold Utf8.valid
 rcases h with h | h
 ·have h1:((c:Int)<55296):=by omega
  simp;omega
 ·simp;omega
theorem xn (s:ByteArray) (i:Nat) (h:i<s.size):(((s[i]'h).toNat<128/\Utf8.decode s i=((s[i]'h).toNat,1))∨(128<=(Utf8.decode s i).1/\Utf8.valid ((Utf8.decode s i).1:Int)=true/\1<=(Utf8.decode s i).2/\i+(Utf8.decode s i).2<=s.size/\∀ j (hj:j<s.size),i<=j->j<i+(Utf8.decode s i).2->128<=(s[j]'hj).toNat)):=by
 by_cases ha:(s[i]'h).toNat<128
 ·exact .inl ⟨ha,decode_ascii s i h ha⟩
 ·refine .inr ?_
  have hb0:¬(s.get! (i+0)).toNat<128:=by rw[Nat.add_zero,get!_eq s i h];exact ha
  have hby:∀ n,(∀ k,k<n->128<=(s.get! (i+k)).toNat)->∀ j (hj:j<s.size),i<=j->j<i+n->128<=(s[j]'hj).toNat:=fun n hn j hj h1 h2=>by
   have:=hn (j-i) (by omega)
   rw[show i+(j-i)=j by omega,get!_eq s j hj]at this
   exact this
  have hone:128<=65533/\Utf8.valid ((65533:Nat):Int)=true/\1<=1/\i+1<=s.size/\∀ j (hj:j<s.size),i<=j->j<i+1->128<=(s[j]'hj).toNat:=
   ⟨by omega,by decide,by omega,by omega,hby 1 fun k hk=>by rw[show k=0 by omega];omega⟩
  unfold Utf8.decode
  simp only[if_neg hb0,Utf8.runeError]
  obtain ⟨b0,hg0⟩:∃ b,(s.get! (i+0)).toNat=b:=⟨_,rfl⟩
  obtain ⟨b1,hg1⟩:∃ b,(s.get! (i+1)).toNat=b:=⟨_,rfl⟩
  obtain ⟨b2,hg2⟩:∃ b,(s.get! (i+2)).toNat=b:=⟨_,rfl⟩
  obtain ⟨b3,hg3⟩:∃ b,(s.get! (i+3)).toNat=b:=⟨_,rfl⟩
  rw[hg0]at hb0
  simp only[hg0,hg1,hg2,hg3]
  have hlt:b0<256:=by rw[←hg0];exact (s.get! (i+0)).toNat_lt
  split
  ·rename_i hc
   simp only[Bool.and_eq_true,beq_iff_eq,decide_eq_true_eq]at hc
   split
   ·rename_i hv
    refine ⟨by show 128<=_;omega,zgC (.inl (by omega)),by show 1<=2;omega,by show i+2<=_;omega,hby 2 fun k hk=>?_⟩
    rcases (show k=0∨k=1 by omega) with rfl | rfl
    ·rw[hg0];omega
    ·rw[hg1];omega
   ·exact hone
  ·split
   ·rename_i hc
    simp only[Bool.and_eq_true,beq_iff_eq,decide_eq_true_eq]at hc
    split
    ·rename_i hv
     simp only[Bool.and_eq_true,decide_eq_true_eq]at hv
     refine ⟨by show 128<=_;omega,hv.2,by show 1<=3;omega,by show i+3<=_;omega,hby 3 fun k hk=>?_⟩
     rcases (show k=0∨k=1∨k=2 by omega) with rfl | rfl | rfl
     ·rw[hg0];omega
     ·rw[hg1];omega
     ·rw[hg2];omega
    ·exact hone
   ·split
    ·rename_i hc
     simp only[Bool.and_eq_true,beq_iff_eq,decide_eq_true_eq]at hc
     split
     ·rename_i hv
      simp only[Bool.and_eq_true,decide_eq_true_eq]at hv
      refine ⟨by show 128<=_;omega,hv.2,by show 1<=4;omega,by show i+4<=_;omega,hby 4 fun k hk=>?_⟩
      rcases (show k=0∨k=1∨k=2∨k=3 by omega) with rfl | rfl | rfl | rfl
      ·rw[hg0];omega
      ·rw[hg1];omega
      ·rw[hg2];omega
      ·rw[hg3];omega
     ·exact hone
    ·exact hone
theorem Hg (r:Int) (h1:128<=r) (hv:Utf8.valid r=true) (w:World):Calls Tryz.prog 204 #[.string ⟨#[47,0]⟩,.int .i32 r] w fun e w'=>e = .returned (.int .i64 (-1))/\Below w.heap.size w w':=by
 by_cases h2:r=65533
 ·subst h2;exact H8 w
 ·refine ((Md r h1 hv h2).2 ⟨w,fun _ _=>False,fun _=>False⟩ [.string ⟨#[47,0]⟩,.int .i32 r] (fun g cs h=>by cases h) ?_).mono ?_
  ·exact zd.2 ⟨_,_,rfl,zC.2 rfl,zd.2 ⟨_,_,rfl,zj.2 rfl,zg.2 rfl⟩⟩
  ·rintro e w' ⟨v,R',L',rfl,rfl,hst,hr⟩
   rw[zj]at hr
   exact ⟨by rw[hr],hst.below⟩
theorem zc4 (w:World) (s:ByteArray):(w.iter s 0).heap[w.heap.size]?=some (.stringIter s 0):=World.iter_heap w s 0
theorem M1 {w W:World} {s:ByteArray} {p:Nat} (hb:Below w.heap.size w W) (hs:W.heap[w.heap.size]?=some (.stringIter s p)) (p':Nat):Below w.heap.size w (W.putObj w.heap.size (.stringIter s p'))/\(W.putObj w.heap.size (.stringIter s p')).heap[w.heap.size]?=some (.stringIter s p'):=
 ⟨⟨hb.os,hb.tape,hb.output,by simpa using hb.size,fun k hk=>(World.putObj_heap_other (by omega)).trans (hb.block k hk)⟩,World.putObj_heap_same (zI hs)⟩
theorem uF {w W W':World} {s:ByteArray} {p:Nat} (hb:Below w.heap.size w W) (hs:W.heap[w.heap.size]?=some (.stringIter s p)) (h:Below W.heap.size W W'):Below w.heap.size w W'/\W'.heap[w.heap.size]?=some (.stringIter s p):=
 ⟨hb.trans (h.mono hb.size),(h.block _ (zI hs)).trans hs⟩
theorem UC (s:ByteArray) (w:World) (h8:s.size<=8):Calls Tryz.prog 167 #[.string s,.string ⟨#[47,0]⟩] w fun e w'=>e = .returned (.int .i64 (Lib.indexAny s.data.toList [47,0]))/\Below w.heap.size w w':=by
 have h8z:decide ((8:Int)<(s.size:Int))=false:=decide_eq_false (by omega)
 have hsi:=zc4 w s
 have hbi:Below w.heap.size w (w.iter s 0):=(Below.refl _ _).alloc (Nat.le_refl _) _
 have HI:Aside ((w.iter s 0).heap[w.heap.size]?=some (.stringIter s 0)/\Below w.heap.size w (w.iter s 0)):=⟨hsi,hbi⟩
 clear hsi hbi
 go_enter Tryz.func167,Tryz.ntmps167
 go_wp2_with (go_at_call 205;refine (Tryz.strings_shouldUseASCIISet _ _).mono ?_;rintro e w' ⟨rfl,hw⟩;rw[hw,h8z])
 go_loopg [9,10] s.size (fun g _ _ wx=>∃ i:Nat,i+g=s.size/\wx.heap[w.heap.size]?=some (.stringIter s i)/\Below w.heap.size w wx/\Lib.NoAny s.data.toList [47,0] i)
 case atStart=>exact ⟨0,by omega,HI.out.1,HI.out.2,Lib.NoAny.zero _ _⟩
 case round =>
  obtain ⟨i,hig,hs,hbl,hno⟩:=hrel
  have HN:Aside (Lib.NoAny s.data.toList [47,0] i/\wr.heap[w.heap.size]?=some (.stringIter s i)/\Below w.heap.size w wr):=⟨hno,hs,hbl⟩
  cases gk with
  | zero =>
   obtain rfl:i=s.size:=by omega
   have hnx:=fun ty=>Vr (P:=Tryz.prog) hs (by omega) ty
   clear hno hs hbl
   go_wp2
   go_ret
   exact ⟨by rw[Lib.indexAny_none (by rw[←Lib.size_eq];exact HN.out.1)];rfl,HN.out.2.2⟩
  | succ g =>
   have hi:i<s.size:=by omega
   have hnx:=fun ty=>xv (P:=Tryz.prog) hs hi ty
   have hpi:=M1 hbl hs (i+(Utf8.decode s i).2)
   have HP:Aside (Below w.heap.size w (wr.putObj w.heap.size (.stringIter s (i+(Utf8.decode s i).2)))/\(wr.putObj w.heap.size (.stringIter s (i+(Utf8.decode s i).2))).heap[w.heap.size]?=some (.stringIter s (i+(Utf8.decode s i).2))):=hpi
   clear hno hs hbl hpi
   obtain ⟨x,hx⟩:∃ x:UInt8,s[i]'hi=x:=⟨_,rfl⟩
   have hxl:s.data.toList[i]?=some x:=by rw[←hx];exact Lib.data_getElem? s i hi
   rcases xn s i hi with ⟨hd1,hd2⟩ | ⟨hd1,hd2,hd3,hd4,hd5⟩
   ·rw[hx]at hd1 hd2
    rw[hd2]at hnx HP
    have Hx:Aside (s.data.toList[i]?=some x):=hxl
    clear hxl hx hd2
    have hcon:=Lib.contains_iff_indexByte [47,0] x
    have hback:((x.toNat:Int)).toNat.toUInt8=x:=by simp
    cases hin:([47,0]:List UInt8).contains x
    ·rw[hin]at hcon
     have hlt:¬((0:Int)<=Lib.indexByte [47,0] x):=of_decide_eq_false hcon.symm
     clear hcon
     go_wp2_with (go_at_call 204;refine (Tryz.strings_IndexRune_ascii _ _ _ (by omega) (by omega)).mono ?_;rintro e w' ⟨rfl,hw⟩;rw[hw,hback])
     go_roundg g
     case measure=>omega
     case rel=>exact ⟨i+1,by omega,HP.out.2,HP.out.1,HN.out.1.succ Hx.out hin⟩
    ·rw[hin]at hcon
     have hge:(0:Int)<=Lib.indexByte [47,0] x:=of_decide_eq_true hcon.symm
     clear hcon
     go_wp2_with (go_at_call 204;refine (Tryz.strings_IndexRune_ascii _ _ _ (by omega) (by omega)).mono ?_;rintro e w' ⟨rfl,hw⟩;rw[hw,hback])
     go_ret
     exact ⟨by rw[Lib.indexAny_hit HN.out.1 Hx.out hin];rfl,HP.out.1⟩
   ·obtain ⟨c,hc⟩:∃ c,(Utf8.decode s i).1=c:=⟨_,rfl⟩
    obtain ⟨n,hn⟩:∃ n,(Utf8.decode s i).2=n:=⟨_,rfl⟩
    rw[hc,hn]at hnx
    rw[hn]at HP hd3 hd4 hd5
    rw[hc]at hd1 hd2
    have H5:Aside (∀ j (hj:j<s.size),i<=j->j<i+n->128<=(s[j]'hj).toNat):=hd5
    have H2:Aside (Utf8.valid (c:Int)=true):=hd2
    clear hd5 hd2 hxl hx hc hn
    go_wp2_with (go_at_call 204;refine (Hg _ (by omega) H2.out _).mono ?_;rintro e w' ⟨rfl,hw⟩;have HW:=uF HP.out.1 HP.out.2 hw)
    go_roundg (s.size-(i+n))
    case measure=>omega
    case rel =>
     refine ⟨i+n,by omega,HW.2,HW.1,fun j b hj hb=>?_⟩
     rcases Nat.lt_or_ge j i with g | g
     ·exact HN.out.1 j b g hb
     ·have hjs:j<s.size:=by omega
      have:=H5.out j hjs g hj
      have hb2:=Lib.data_getElem? s j hjs
      rw[hb]at hb2
      have hb3:b=s[j]'hjs:=Option.some.inj hb2
      rw[Zz,hb3]
      have h47:s[j]'hjs≠47:=fun e=>by rw[e]at this;revert this;decide
      have h00:s[j]'hjs≠0:=fun e=>by rw[e]at this;revert this;decide
      simp[bad,h47,h00]
end
section
open Go.RowKit Go.Shelf
theorem UY (w:World):(zeroValue 234).run Tryz.prog w = .ok (.agg (Array.replicate 256 (.bool false))) w:=by kernel_rfl
theorem ZF:∀ l:List UInt8,decide (0<=Lib.indexAny l [47,0])=l.any bad
 | []=>rfl
 | b :: l=>by
  have ih:=ZF l
  have hg:=Lib.indexAny_ge [47,0] l
  unfold Lib.indexAny
  rw[Zz,List.any_cons]
  cases hb:bad b with
  | true=>simp
  | false =>
   simp only[Bool.false_eq_true,if_false,Bool.false_or,←ih]
   split
   ·rename_i h
    have:=beq_iff_eq.1 h
    first | rw[this];done | (rw[this];rfl)
   ·rename_i h
    have h':Lib.indexAny l [47,0]≠-1:=by simpa using h
    rw[decide_eq_decide];omega
theorem NH (l:List UInt8) (hl:l.length<=1000000):Fun Tryz.prog G0 167 [.str l,.str [47,0]] (.sc (.int .i64 (Lib.indexAny l [47,0]))) 0:=by
 refine Fun.wrap (by kernel_rfl) fun R vs h=>?_
 obtain ⟨v1,us1,rfl,h1,h⟩:=zd.1 h
 obtain ⟨v2,us2,rfl,h2,h⟩:=zd.1 h
 rw[zg]at h
 subst h
 rw[zC]at h1 h2
 subst h1 h2
 have hsz:(ByteArray.mk l.toArray).size=l.length:=by simp[ByteArray.size]
 by_cases h8:l.length<=8
 ·refine (UC ⟨l.toArray⟩ R.w (by omega)).mono ?_
  rintro e w' ⟨rfl,hb⟩
  exact ⟨_,rfl,hb,fun R' _=>zj.2 (by simp)⟩
 ·refine (Tryz.strings_IndexAny_long UY ⟨l.toArray⟩ ⟨#[47,0]⟩ R.w (by decide) (by omega) (by omega) (by decide) ?_).mono ?_
  ·intro j b hb
   have:b=47∨b=0:=by
    have:=List.mem_of_getElem? hb
    simpa using this
   rcases this with rfl | rfl<;>decide
  ·rintro e w' ⟨rfl,rfl⟩
   exact ⟨_,rfl,((Below.refl _ _).alloc (Nat.le_refl _) _).alloc (by simp) _,fun R' _=>zj.2 (by simp)⟩
theorem Js (l:List UInt8) (hl:l.length<=1000000):Fun Tryz.prog G0 120 [.str l,.str [47,0]] (qh (l.any bad)) 0:=by
 have h:=ZF l
 refine fon Tryz.func120 ?_;dsimp only[Tryz.f120]
 push_cast -dsimp
 refine call (NH l hl) ?_
 push_cast -dsimp
 exact dn (by push_cast -dsimp [zb,za,CLe,ze,h])
def may (l:List UInt8):Bool:=!decide (l = [])&&decide (l.length<=255)&&!l.any bad&&!decide (l = [46])&&!decide (l = [46,46])
theorem xe (l:List UInt8) (hl:l.length<=1000000):Fun Tryz.prog G0 70 [.str l] (qh (may l)) 0:=by
 by_cases h1:l = []
 ·refine fon Tryz.func70 ?_;dsimp only[Tryz.f70]
  push_cast -dsimp [h1]
  exact ⟨[],rfl,rfl,by push_cast -dsimp [zb,za,CLe,ze];simp[may]⟩
 ·by_cases h2:l.length<=255
  ·have h2':(l.length:Int)<=255:=by omega
   cases h3:l.any bad with
   | true =>
    refine fon Tryz.func70 ?_;dsimp only[Tryz.f70]
    push_cast -dsimp [h1,h2']
    refine call (Js l hl) ?_
    push_cast -dsimp [h3]
    exact ⟨[],rfl,rfl,by push_cast -dsimp [zb,za,CLe,ze];simp[may,h3]⟩
   | false =>
    by_cases h4:l = [46]
    ·subst h4
     refine fon Tryz.func70 ?_;dsimp only[Tryz.f70]
     push_cast -dsimp [h2']
     refine call (Js _ hl) ?_
     push_cast -dsimp [h3]
     exact ⟨[],rfl,rfl,by push_cast -dsimp [zb,za,CLe,ze];simp[may]⟩
    ·refine fon Tryz.func70 ?_;dsimp only[Tryz.f70]
     push_cast -dsimp [h1,h2']
     refine call (Js l hl) ?_
     push_cast -dsimp [h3,h4]
     exact ⟨[],rfl,rfl,by push_cast -dsimp [zb,za,CLe,ze];simp[may,h1,h2,h3,h4]⟩
  ·have h2':¬(l.length:Int)<=255:=by omega
   refine fon Tryz.func70 ?_;dsimp only[Tryz.f70]
   push_cast -dsimp [h1,h2']
   exact ⟨[],rfl,rfl,by push_cast -dsimp [zb,za,CLe,ze];simp[may,h2]⟩
theorem uv (l:List UInt8) (hl:l.length<=1000000):Fun Tryz.prog G0 254 [.str l] (qh (!may l)) 0:=by
 refine fon Tryz.func254 ?_;dsimp only[Tryz.f254]
 push_cast -dsimp
 refine call (xe l hl) ?_
 push_cast -dsimp
 exact dn
end
section
open Go.RowKit
def zfr (xs:List (List UInt8)):Int:=match xs.findIdx? (fun x=>!may x) with | some i=>(i:Int) | none=>-1
theorem ziz (xs:List (List UInt8)):decide (0<=zfr xs) = !xs.all may:=by
 unfold zfr
 cases h:xs.findIdx? (fun x=>!may x) with
 | none =>
  have:=List.findIdx?_eq_none_iff.1 h
  have h2:xs.all may=true:=List.all_eq_true.2 fun x hx=>by simpa using this x hx
  rw[h2];rfl
 | some i =>
  have h1:=List.findIdx?_eq_some_iff_getElem.1 h
  obtain ⟨hi,hp,_⟩:=h1
  have h2:xs.all may=false:=List.all_eq_false.2 ⟨xs[i],List.getElem_mem hi,by simpa using hp⟩
  rw[h2];simp
theorem HV (xs:List (List UInt8)) (hx:xs.length<=1000001) (hl:∀ x∈xs,x.length<=1000000):Fun Tryz.prog G0 276 [.sl 1 (zB xs),.clo (.func 254) [] []] (.sc (.int .i64 (zfr xs))) 0:=by
 refine fon Tryz.func276 ?_;dsimp only[Tryz.f276]
 push_cast -dsimp
 refine loop (fun k:Nat=>⟨[(0,.sl 1 (zB xs)),(1,.clo (.func 254) [] []),(7,.sc (.int .i64 (xs.length:Int))),(8,.sc (.int .i64 k))],[],0,0⟩) (fun k=>k<=xs.length/\∀ j (hj:j<xs.length),j<k->may (xs[j]'hj)=true) (fun k=>xs.length-k) 0 ⟨Nat.zero_le _,fun j _ hj=>by omega⟩ ?_ ?_
 ·exact wk
 ·intro k hk
  have hk1:=hk.1
  have hk2:=hk.2
  by_cases h:k<xs.length
  ·have hg:(zB xs)[k]?=some [.str (xs[k]'h)]:=by rw[strs_get?,List.getElem?_eq_getElem h];rfl
   push_cast -dsimp [h,hg]
   refine ⟨by omega,?_⟩
   refine call (uv (xs[k]'h) (hl _ (List.getElem_mem h))) ?_
   push_cast -dsimp
   cases hm:may (xs[k]'h) with
   | true =>
    push_cast -dsimp
    refine ⟨by omega,k+1,⟨by omega,fun j hj hjk=>?_⟩,by omega,wk⟩
    rcases Nat.lt_or_ge j k with g | g
    ·exact hk2 j hj g
    ·have:j=k:=by omega
     subst this;exact hm
   | false =>
    push_cast -dsimp
    refine ⟨[],rfl,rfl,?_⟩
    push_cast -dsimp [zb,za,CLe,ze]
    have:xs.findIdx? (fun x=>!may x)=some k:=List.findIdx?_eq_some_iff_getElem.2 ⟨h,by simp[hm],fun j hj=>by simp[hk2 j (by omega) hj]⟩
    simp[zfr,this]
  ·push_cast -dsimp [h]
   refine ⟨[],rfl,rfl,?_⟩
   push_cast -dsimp [zb,za,CLe,ze]
   have:xs.findIdx? (fun x=>!may x)=none:=List.findIdx?_eq_none_iff.2 fun x hx=>by
    obtain ⟨j,hj,rfl⟩:=List.getElem_of_mem hx
    simp[hk2 j hj (by omega)]
   simp[zfr,this]
theorem Z1 (xs:List (List UInt8)) (hx:xs.length<=1000001) (hl:∀ x∈xs,x.length<=1000000):Fun Tryz.prog G0 253 [.sl 1 (zB xs),.clo (.func 254) [] []] (qh (!xs.all may)) 0:=by
 have h:=ziz xs
 refine fon Tryz.func253 ?_;dsimp only[Tryz.f253]
 push_cast -dsimp
 refine call (HV xs hx hl) ?_
 push_cast -dsimp
 exact dn (by push_cast -dsimp [zb,za,CLe,ze,h])
def jN (p:List UInt8):Bool:=decide (z8 (zh p)=p)&&(zh p).all may
def Jz (p:List UInt8):C:=.tup [.own 0 9 1 (zB (if jN p then zh p else [])),qh (jN p)]
theorem js (x y:List UInt8) (r:List (List UInt8)) (sep:List UInt8):Lib.join (x :: y :: r) sep=x++sep++Lib.join (y :: r) sep:=by
 simp[Lib.join,List.intercalate,List.intersperse]
theorem Xt:∀ xs:List (List UInt8),xs≠[]->(Lib.join xs [47]).length+1=(xs.map fun x=>x.length+1).sum
 | [],h=>absurd rfl h
 | [x],_=>by simp[Lib.join]
 | x :: y :: r,_=>by
  have ih:=Xt (y :: r) (by simp)
  rw[js]
  simp only[List.length_append,List.length_cons,List.length_nil,List.map_cons,List.sum_cons]at ih ⊢
  omega
theorem MB:∀ l:List UInt8,((jx l).map fun x=>x.length+1).sum=l.length+1
 | []=>rfl
 | b :: l=>by
  have ih:=MB l
  unfold jx
  split
  ·simp only[List.map_cons,List.sum_cons,List.length_nil,List.length_cons,ih];omega
  ·cases h:jx l with
   | nil=>exact absurd h (Nr l)
   | cons x r =>
    rw[h]at ih
    simp only[List.map_cons,List.sum_cons,List.length_cons]at ih ⊢
    omega
theorem Q0 (f:List UInt8->Bool):∀ xs:List (List UInt8),((xs.filter f).map fun x=>x.length+1).sum<=(xs.map fun x=>x.length+1).sum
 | []=>by simp
 | x :: r=>by
  have ih:=Q0 f r
  rw[List.filter_cons]
  split
  ·simp only[List.map_cons,List.sum_cons];omega
  ·simp only[List.map_cons,List.sum_cons];omega
theorem zfi:∀ (xs:List (List UInt8)) (x:List UInt8),x∈xs->x.length+1<=(xs.map fun x=>x.length+1).sum
 | y :: r,x,h=>by
  simp only[List.map_cons,List.sum_cons]
  rcases List.mem_cons.1 h with rfl | h
  ·omega
  ·have:=zfi r x h;omega
theorem Qb (l:List UInt8):(Lib.join (zh l) [47]).length<=l.length/\∀ x∈zh l,x.length<=l.length:=by
 have h1:=MB l
 have h2:=Q0 (fun x=>!decide (x = [])) (jx l)
 rw[←j8]at h2
 refine ⟨?_,fun x hx=>?_⟩
 ·by_cases h:zh l = []
  ·rw[h];simp[Lib.join]
  ·have:=Xt (zh l) h;omega
 ·have:=zfi (zh l) x hx;omega
theorem Mg (p:List UInt8) (hp:p.length<=1000000):Fun Tryz.prog G0 223 [.str p] (Jz p) 1:=by
 have hz:=z7 p
 have hj:=Qb p
 by_cases h1:z8 (zh p)=p
 ·have h1':(p=z8 (zh p)):=h1.symm
  refine fon Tryz.func223 ?_;dsimp only[Tryz.f223]
  push_cast -dsimp
  refine call (Xy p) ?_
  push_cast -dsimp
  refine call (Xq p hp) ?_
  push_cast -dsimp
  refine call (YY (zh p) (by omega) (by omega)) ?_
  push_cast -dsimp [h1]
  refine call (Z1 (zh p) (by omega) fun x hx=>by have:=hj.2 x hx;omega) ?_
  push_cast -dsimp
  cases hm:(zh p).all may with
  | true =>
   push_cast -dsimp
   exact ⟨[.inl 0],rfl,rfl,by simp only[Jz,jN,h1,hm];push_cast -dsimp [zb,za,CLe,ze]<;>simp⟩
  | false =>
   push_cast -dsimp
   exact ⟨[.inr (9,1)],rfl,rfl,by simp only[Jz,jN,h1,hm];push_cast -dsimp [zb,za,CLe,ze]<;>simp⟩
 ·refine fon Tryz.func223 ?_;dsimp only[Tryz.f223]
  push_cast -dsimp
  refine call (Xy p) ?_
  push_cast -dsimp
  refine call (Xq p hp) ?_
  push_cast -dsimp
  refine call (YY (zh p) (by omega) (by omega)) ?_
  push_cast -dsimp [h1]
  exact ⟨[.inr (9,1)],rfl,rfl,by simp only[Jz,jN,h1];push_cast -dsimp [zb,za,CLe,ze]<;>simp⟩
end
end Go.Proofs.YtaipngaejfndgaaGreatDoor.Vcg
