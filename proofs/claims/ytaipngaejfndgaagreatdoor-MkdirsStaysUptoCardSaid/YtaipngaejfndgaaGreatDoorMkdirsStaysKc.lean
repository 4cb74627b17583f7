/- What the proof of MkdirsStays leans on, part 3: Vcg18 Slc0 Slc1 TabV Tab1 OpenG OpenT Srt0 SlcE Shelf Tab2 TabR Snd1 PathN Ref1 Path1 Path2 Path3 Path4 May1 May2 May3 Path5 Ref3 PathLaw Open. No condition beyond what each theorem states. -/
import Derived.Test.YtaipngaejfndgaaGreatDoorMkdirsStaysKb
import Derived.Lib.Overlaps
import Derived.Laws.Externs
import Derived.WalkKit
import Derived.ProofKit
import Derived.Deep.Slices
import Derived.Deep.Fields
import Derived.ChangeSame
import Derived.ChangeOld
import Derived.Lib.SmallJoins
import Derived.Test.YtaipngaejfndgaaGreatDoorRows
import Derived.Lib.Bytealg
import Derived.Shelf.Strings.Builder1
import Derived.Shelf.Strings.Builder2
import Derived.Shelf.Strings.OnBuilder
import Derived.Shelf.Strings.Trim
import Derived.Shelf.Small.Utf8
import Derived.Shelf.Small.Strs
import Derived.Shelf.Small.Wraps
import Derived.Shelf.Strings.BuilderF
import Derived.Shelf.Strings.BuilderK
import Derived.Shelf.Strings.Search1
import Derived.Shelf.Strings.Search2
import Derived.Shelf.Strings.Search3
import Derived.Shelf.LaysM
import Derived.Shelf.Strings.Shaped
import Derived.Shelf.Strings.Prefix
import Derived.Shelf.Unicode.Decode
import Derived.Shelf.Strings.Runes
import Derived.Shelf.Strings.IndexAny
import Derived.Shelf.Strings.AsciiSet
import Derived.Shelf.Strings.IndexAnyAll
import Derived.Shelf.Unicode.DecodeSlow
import Derived.Shelf.Unicode.DecodeAny
import Derived.Shelf.Unicode.DecodeLast
import Derived.Ground.Names2Prog
import Derived.Shelf.Slices.SearchI
import Derived.Test.YtaipngaejfndgaaGreatDoorProg
import Derived.Laws.Runes
import Derived.Laws.RangeString
import Derived.Deep.LoopGhost
import Derived.Lib.QuoteLoop
import Derived.Lib.IndexAny
set_option linter.unusedVariables false
set_option linter.unusedSimpArgs false
set_option linter.unusedSectionVars false
set_option maxRecDepth 100000
set_option maxHeartbeats 4000000
namespace Go.Proofs.YtaipngaejfndgaaGreatDoor.Vcg
section
open Go.RowKit
section
variable {P:Program} {G:zj} {σ σ':St} {N p lg m:Nat} {h:Hd} {yd:Option Yd} {brs:List Bool} {bf:Nat->List Bool} {bx bx':List (List C)} {ops:Array Oper} {c c' d d':C} {t t':TypeId} {K:C->Prop} {K2:C->Nat->Prop} {K3:C->St->Prop} {nx:Nat} {tm:List (Nat×C)} {x y z:Operand} {Q:Exit->St->Prop} {X Y:Prop}
def ya (P:Program) (G:zj) (f:FuncId) (args:List C) (nx:Nat) (K:C->Nat->Prop):Prop:=∃ r n,Fun P G f args r n/\K (r.sh nx) (nx+n)
theorem ya.mk {f:FuncId} {args:List C} {r:C} {n:Nat} (h:Fun P G f args r n) (hK:K2 (r.sh nx) (nx+n)):ya P G f args nx K2:=⟨r,n,h,hK⟩
def zmH (P:Program) (G:zj) (f:FuncId) (args fargs:List C) (σ:St) (K:C->St->Prop):Prop:=
 (∃ r n,Fun P G f fargs r n/\K (r.sh σ.nx) ⟨σ.tm,σ.bx,σ.nx+n,σ.lg⟩)∨NX P G f args σ K∨zil P G f args σ K∨Vr P G f args σ K∨zc7 P f args σ K
def aGd (d:Option Tmp) (tm:List (Nat×C)) (want:Bool) (X Y:Prop):Prop:=match d with
 | some d=>match want with
  | true=>zh8 (qW tm d) Y X Y
  | false=>zh8 (qW tm d) Y Y X
 | none=>False
def zm3 (L:Option Lay) (c:C) (bx:List (List C)) (K:C->Prop):Prop:=
 match L with
 | none=>False
 | some L=>match c with
  | .ptr i off=>match bx[i]? with
   | some cs=>Jh L (cs.drop off) K
   | none=>False
  | .row cs=>Jh L cs K
  | _=>False
def zlP (cs:Option (List C)) (off:Nat) (L:Lay) (K:C->Prop):Prop:=match cs with | some cs=>Jh L (cs.drop off) K | none=>False
def zor (x:Option C) (K:C->Prop):Prop:=match x with | some c=>K c | none=>False
def xI (L:Option Lay) (c:C) (f:Nat) (K:C->Prop):Prop:=
 match L with
 | some ⟨.struct fs,_,_,_⟩=>match fs[f]?,c with
  | some (off,size,agg),.agg cs =>
   if agg then off+size<=cs.length/\K (.agg ((cs.drop off).take size)) else match cs[off]? with
    | some c=>K c
    | none=>False
  | _,_=>False
 | _=>False
def ZZ (f:Option (Nat×Nat×Bool)) (cs:List C) (K:C->Prop):Prop:=
 match f with
 | some (off,size,agg)=>if agg then off+size<=cs.length/\K (.agg ((cs.drop off).take size)) else match cs[off]? with
    | some c=>K c
    | none=>False
 | none=>False
def zpB (L:Option Lay) (c:C) (f:Nat) (K:C->Prop):Prop:=
 match L with
 | some ⟨.struct fs,_,_,_⟩=>match fs[f]?,c with
  | some (off,size,_),.ptr i o=>if size=0 then False else K (.ptr i (o+off))
  | some (off,size,_),.row cs=>if size=0 then False else K (.row (cs.drop off))
  | _,_=>False
 | _=>False
def zmz (f:Option (Nat×Nat×Bool)) (c:C) (K:C->Prop):Prop:=
 match f,c with
  | some (off,size,_),.ptr i o=>if size=0 then False else K (.ptr i (o+off))
  | some (off,size,_),.row cs=>if size=0 then False else K (.row (cs.drop off))
  | _,_=>False
def zp1 (P:Program) (L:Option Lay) (c:C) (i:C) (K:C->Prop):Prop:=
 match L,i with
 | some ⟨.slice e,_,_,_⟩,.sc (.int _ n)=>match lay P e with
  | some L=>match c with
   | .bs j off k m _=>k=L.size/\0<=n/\n<(m:Int)/\K (.ptr j (off+n.toNat*L.size))
   | c=>match c.rows? L.size with
    | some rows=>match rows[n.toNat]? with
     | some r=>0<=n/\K (.row r)
     | none=>False
    | none=>False
  | none=>False
 | some ⟨.array (m+1) e,_,_,_⟩,.sc (.int _ n)=>match lay P e with
  | some L=>match c with
   | .ptr j off=>0<=n/\n<((m+1:Nat):Int)/\K (.ptr j (off+n.toNat*L.size))
   | .row cs=>0<=n/\n<((m+1:Nat):Int)/\K (.row (cs.drop (n.toNat*L.size)))
   | _=>False
  | none=>False
 | _,_=>False
def zp3 (L:Option Lay) (c:C) (n:Int) (K:C->Prop):Prop:=
 match L with
  | some L=>match c with
   | .bs j off k m _=>k=L.size/\0<=n/\n<(m:Int)/\K (.ptr j (off+n.toNat*L.size))
   | c=>match c.rows? L.size with
    | some rows=>match rows[n.toNat]? with
     | some r=>0<=n/\K (.row r)
     | none=>False
    | none=>False
  | none=>False
def zqj (rows:Option (List (List C))) (n:Int) (K:C->Prop):Prop:=
 match rows with
   | some rows=>match rows[n.toNat]? with
    | some r=>0<=n/\K (.row r)
    | none=>False
   | none=>False
def aAt (r:Option (List C)) (n:Int) (K:C->Prop):Prop:=match r with | some r=>0<=n/\K (.row r) | none=>False
def zpw (L:Option Lay) (c:C) (m:Nat) (n:Int) (K:C->Prop):Prop:=
 match L with
  | some L=>match c with
   | .ptr j off=>0<=n/\n<((m+1:Nat):Int)/\K (.ptr j (off+n.toNat*L.size))
   | .row cs=>0<=n/\n<((m+1:Nat):Int)/\K (.row (cs.drop (n.toNat*L.size)))
   | _=>False
  | none=>False
def zn7 (L:Option Lay) (c i:C) (K:C->Prop):Prop:=
 match L,c,i with
 | some ⟨.str,_,_,_⟩,.str l,.sc (.int _ n)=>match l[n.toNat]? with
  | some b=>0<=n/\K (.sc (.int .u8 (b.toNat:Int)))
  | none=>False
 | _,_,_=>False
def zjn (b:Option UInt8) (n:Int) (K:C->Prop):Prop:=match b with | some b=>0<=n/\K (.sc (.int .u8 (b.toNat:Int))) | none=>False
def zpn (P:Program) (L:Option Lay) (c:C) (lo hi mx:Option Int) (K:C->Prop):Prop:=
   match L with
    | some ⟨.str,_,_,_⟩=>match c,mx with
      | .str l,none=>ja l.length lo hi/\K (.str (cut l lo hi))
      | _,_=>False
    | some ⟨.slice e,_,_,_⟩=>match lay P e with
      | some L=>match c with
        | .bs i off k n cap=>zjG L.size i off k n cap lo hi mx K
        | .sc (.slice none 0 0)=>zmB L.size lo hi mx K
        | c=>match c.rows? L.size with
          | some rows=>match mx,hi with
            | none,_=>ja rows.length lo hi/\K (.sl L.size (cut rows lo hi))
            | some m,some h=>m=h/\ja rows.length lo hi/\K (.tight L.size (cut rows lo hi))
            | some _,none=>False
          | none=>False
      | none=>False
    | _=>False
def zpP (P:Program) (t:TypeId) (c:C) (lo hi mx:Option (Option Int)) (K:C->Prop):Prop:=
 match lo,hi,mx with
 | some lo,some hi,some mx=>zpn P (lay P t) c lo hi mx K
 | _,_,_=>False
def zpz (L:Option Lay) (c:C) (lo hi mx:Option Int) (K:C->Prop):Prop:=
 match L with
   | some L=>match c with
    | .bs i off k n cap=>zjG L.size i off k n cap lo hi mx K
    | .sc (.slice none 0 0)=>zmB L.size lo hi mx K
    | c=>match c.rows? L.size with
     | some rows=>match mx,hi with
      | none,_=>ja rows.length lo hi/\K (.sl L.size (cut rows lo hi))
      | some m,some h=>m=h/\ja rows.length lo hi/\K (.tight L.size (cut rows lo hi))
      | some _,none=>False
     | none=>False
   | none=>False
def zpK (rows:Option (List (List C))) (k:Nat) (lo hi mx:Option Int) (K:C->Prop):Prop:=
 match rows with
    | some rows=>match mx,hi with
     | none,_=>ja rows.length lo hi/\K (.sl k (cut rows lo hi))
     | some m,some h=>m=h/\ja rows.length lo hi/\K (.tight k (cut rows lo hi))
     | some _,none=>False
    | none=>False
def zch (rows:Option (List (List C))) (K:C->Prop):Prop:=match rows with | some rows=>∃ l,rows=jO l/\K (.str l) | none=>False
theorem zch.mk {rows:List (List C)} (l:List UInt8) (h:rows=jO l) (hK:K (.str l)):zch (some rows) K:=⟨l,h,hK⟩
def zpE (P:Program) (D S:Option Lay) (c:C) (K:C->Prop):Prop:=
 match D with
 | some ⟨.int k,_,_,_⟩=>match c with
  | .sc (.int _ n)=>match S with | some _=>inR k n/\K (.sc (.int k n)) | none=>False
  | _=>False
 | some ⟨.str,_,_,_⟩=>match S with
  | some ⟨.str,_,_,_⟩=>match c with
   | .str l=>K (.str l)
   | _=>False
  | some ⟨.slice e,_,_,_⟩=>match lay P e with
   | some ⟨.int .u8,_,_,_⟩=>match c.rows? 1 with
    | some rows=>∃ l,rows=jO l/\K (.str l)
    | none=>False
   | _=>False
  | some ⟨.int _,_,_,_⟩=>match c with
   | .sc (.int _ n)=>K (.str (Utf8.encode n).data.toList)
   | _=>False
  | _=>False
 | some ⟨.slice e,_,_,_⟩=>match S,lay P e with
  | some ⟨.str,_,_,_⟩,some ⟨.int .u8,_,_,_⟩=>match c with
   | .str l=>((l.length:Nat):Int)<=9223372036854775807/\K (.sl 1 (jO l))
   | _=>False
  | _,_=>False
 | _=>False
def zqe (L:Option Lay) (c:C) (K:C->Prop):Prop:=
 match L with
   | some ⟨.int .u8,_,_,_⟩=>match c.rows? 1 with
    | some rows=>∃ l,rows=jO l/\K (.str l)
    | none=>False
   | _=>False
def zo4 (L:Option Lay) (c:C) (K:C->Prop):Prop:=
 match L,c with
 | some ⟨.slice _,_,_,_⟩,.bs _ _ _ _ c=>K (.sc (.int .i64 (c:Int)))
 | some ⟨.slice _,_,_,_⟩,.sc (.slice none 0 0)=>K (.sc (.int .i64 0))
 | _,_=>False
def zo6 (L:Option Lay) (n:Int) (K:C->Prop):Prop:=match L with | some ⟨.slice _,_,_,_⟩=>K (.sc (.int .i64 n)) | _=>False
def zpb (L:Option Lay) (n:Int) (K:C->Prop):Prop:=match L with | some ⟨.str,_,_,_⟩=>K (.sc (.int .i64 n)) | _=>False
def zok (L:Option Lay) (parts:List (Nat×C)) (K:C->Prop):Prop:=
 match L with
 | some ⟨.struct fs,_,_,some z⟩=>(parts.all fun p=>p.2.partB)=true/\match J0 (fun i=>(fs[i]?).map fun f=>(f.1,f.2.1)) (z.map zr) parts with
  | some cs=>K (.agg cs)
  | none=>False
 | _=>False
def aFl (cs:Option (List C)) (K:C->Prop):Prop:=match cs with | some cs=>K (.agg cs) | none=>False
def plS (fs:List (Nat×Nat×Bool)) (i:Nat):Option (Nat×Nat):=(fs[i]?).map fun f=>(f.1,f.2.1)
def plA (k:Nat) (i:Nat):Option (Nat×Nat):=some (i*k,k)
def zh4 (pl:Option (Nat×Nat)) (place:Nat->Option (Nat×Nat)) (cs:List C) (c:List C) (rest:List (Nat×C)):Option (List C):=
 match pl with
  | none=>none
  | some (off,size)=>if c.length=size/\off+size<=cs.length then J0 place (cs.take off++c++cs.drop (off+size)) rest else none
def zpA (P:Program) (L:Option Lay) (n:Nat) (parts:List (Nat×C)) (nx:Nat) (K:C->Nat->Prop):Prop:=
 match L with
 | some ⟨.slice e,_,_,_⟩=>match lay P e with
  | some ⟨_,k,_,some z⟩=>z.length=k/\0<k/\n*k<=16777216/\(parts.all fun p=>p.2.frz.partB)=true/\match J0 (fun i=>some (i*k,k)) (List.replicate n (z.map zr)).flatten (parts.map fun p=>(p.1,p.2.frz)) with
   | some cs=>(cs.all C.cellB)=true/\cs.length=n*k/\K (.own nx e k (Xq k n cs)) (nx+1)
   | none=>False
  | _=>False
 | _=>False
def zqa (L:Option Lay) (e:TypeId) (n:Nat) (parts:List (Nat×C)) (nx:Nat) (K:C->Nat->Prop):Prop:=
   match L with
    | some ⟨_,k,_,some z⟩=>z.length=k/\0<k/\n*k<=16777216/\(parts.all fun p=>p.2.frz.partB)=true/\match J0 (fun i=>some (i*k,k)) (List.replicate n (z.map zr)).flatten (parts.map fun p=>(p.1,p.2.frz)) with
      | some cs=>(cs.all C.cellB)=true/\cs.length=n*k/\K (.own nx e k (Xq k n cs)) (nx+1)
      | none=>False
    | _=>False
def zp5 (cs:Option (List C)) (e k n nx:Nat) (K:C->Nat->Prop):Prop:=
 match cs with
   | some cs=>(cs.all C.cellB)=true/\cs.length=n*k/\K (.own nx e k (Xq k n cs)) (nx+1)
   | none=>False
def zp0 (P:Program) (L:Option Lay) (s x:C) (nx:Nat) (K:C->Nat->Prop):Prop:=
 match L with
 | some ⟨.slice e,_,_,_⟩=>match lay P e with
  | some ⟨_,k,by',some z⟩=>match x.rows? k with
   | some xs=>match s with
    | .sc (.slice none 0 0)=>z.length=k/\0<k/\xs.length<=9223372036854775807/\xs.length*by'<=140737488355328/\K (.own nx e k xs) (nx+1)
    | .tight k' rows=>k'=k/\z.length=k/\0<k/\rows.length+xs.length<=9223372036854775807/\(rows.length+xs.length)*by'<=140737488355328/\(xs = []->K (.tight k' rows) nx)/\(xs≠[]->K (.own nx e k (rows++xs)) (nx+1))
    | _=>False
   | none=>False
  | _=>False
 | _=>False
def zpN (L:Option Lay) (e:TypeId) (s x:C) (nx:Nat) (K:C->Nat->Prop):Prop:=
  match L with
  | some ⟨_,k,by',some z⟩=>match x.rows? k with
   | some xs=>match s with
    | .sc (.slice none 0 0)=>z.length=k/\0<k/\xs.length<=9223372036854775807/\xs.length*by'<=140737488355328/\K (.own nx e k xs) (nx+1)
    | .tight k' rows=>k'=k/\z.length=k/\0<k/\rows.length+xs.length<=9223372036854775807/\(rows.length+xs.length)*by'<=140737488355328/\(xs = []->K (.tight k' rows) nx)/\(xs≠[]->K (.own nx e k (rows++xs)) (nx+1))
    | _=>False
   | none=>False
  | _=>False
def zpV (xs:Option (List (List C))) (s:C) (e k by':Nat) (z:List Value) (nx:Nat) (K:C->Nat->Prop):Prop:=
 match xs with
   | some xs=>match s with
    | .sc (.slice none 0 0)=>z.length=k/\0<k/\xs.length<=9223372036854775807/\xs.length*by'<=140737488355328/\K (.own nx e k xs) (nx+1)
    | .tight k' rows=>k'=k/\z.length=k/\0<k/\rows.length+xs.length<=9223372036854775807/\(rows.length+xs.length)*by'<=140737488355328/\(xs = []->K (.tight k' rows) nx)/\(xs≠[]->K (.own nx e k (rows++xs)) (nx+1))
    | _=>False
   | none=>False
def zqc (P:Program) (L:Option Lay) (id e k:Nat) (rows:List (List C)) (x:C) (σ:St) (K:C->St->Prop):Prop:=
   match L with
    | some ⟨.slice e',_,_,_⟩=>match lay P e with
      | some ⟨_,k',by',some z⟩=>match x.rows? k with
        | some xs=>e'=e/\k'=k/\z.length=k/\0<k/\rows.length+xs.length<=9223372036854775807/\(rows.length+xs.length)*by'<=140737488355328/\K (.own id e k (rows++xs)) ⟨uu id σ.tm,NQ id σ.bx,σ.nx,σ.lg⟩
        | none=>False
      | _=>False
    | _=>False
def zof (L:Option Lay) (e' id e k:Nat) (rows:List (List C)) (x:C) (σ:St) (K:C->St->Prop):Prop:=
  match L with
   | some ⟨_,k',by',some z⟩=>match x.rows? k with
    | some xs=>e'=e/\k'=k/\z.length=k/\0<k/\rows.length+xs.length<=9223372036854775807/\(rows.length+xs.length)*by'<=140737488355328/\K (.own id e k (rows++xs)) ⟨uu id σ.tm,NQ id σ.bx,σ.nx,σ.lg⟩
    | none=>False
   | _=>False
def zo8 (xs:Option (List (List C))) (by' id e k:Nat) (rows:List (List C)) (σ:St) (K:C->St->Prop):Prop:=
   match xs with
        | some xs=>rows.length+xs.length<=9223372036854775807/\(rows.length+xs.length)*by'<=140737488355328/\K (.own id e k (rows++xs)) ⟨uu id σ.tm,NQ id σ.bx,σ.nx,σ.lg⟩
        | none=>False
def zpM (L:Option Lay) (σ:St) (K:C->St->Prop):Prop:=
 match L with
 | some ⟨_,_,_,some z⟩=>(z.all Value.oneCell')=true/\K (.ptr σ.bx.length 0) ⟨σ.tm,σ.bx++[z.map zr],σ.nx,σ.lg⟩
 | _=>False
def zpI (L:Option Lay) (p c:C) (bx:List (List C)) (K:C->Prop):Prop:=
 match L,p with
 | some L,.ptr i off=>match bx[i]? with
  | some cs=>c.partB=true/\(c.cells.all C.cellB)=true/\c.cells.length=L.size/\off+L.size<=cs.length/\Zy ((cs.drop off).take L.size) c.cells/\K .any
  | none=>False
 | _,_=>False
def zqb (cs:Option (List C)) (off size:Nat) (c:C) (K:C->Prop):Prop:=
 match cs with
  | some cs=>c.partB=true/\(c.cells.all C.cellB)=true/\c.cells.length=size/\off+size<=cs.length/\Zy ((cs.drop off).take size) c.cells/\K .any
  | none=>False
def zqi (L:Option Lay) (p c:C) (σ:St) (K:C->St->Prop):Prop:=
 match L,p with
 | some L,.ptr i off=>match σ.bx[i]? with
  | some cs=>c.partB=true/\(c.cells.all C.cellB)=true/\c.cells.length=L.size/\off+L.size<=cs.length/\K .any ⟨σ.tm,σ.bx.set i (cs.take off++c.cells++cs.drop (off+L.size)),σ.nx,σ.lg⟩
  | none=>False
 | _,_=>False
def zqd (cs:Option (List C)) (i off size:Nat) (c:C) (σ:St) (K:C->St->Prop):Prop:=
 match cs with
  | some cs=>c.partB=true/\(c.cells.all C.cellB)=true/\c.cells.length=size/\off+size<=cs.length/\K .any ⟨σ.tm,σ.bx.set i (cs.take off++c.cells++cs.drop (off+size)),σ.nx,σ.lg⟩
  | none=>False
def zbv (cs:Option (List C)) (off n:Nat) (K:C->Prop):Prop:=match cs with
   | some cs=>∃ l:List UInt8,l.length=n/\(cs.drop off).take n=l.map (fun b=>C.sc (.int .u8 (b.toNat:Int)))/\K (.str l)
   | none=>False
theorem zbv.mk {cs:List C} {off n:Nat} {K:C->Prop} (l:List UInt8) (hl:l.length=n) (h:(cs.drop off).take n=l.map (fun b=>C.sc (.int .u8 (b.toNat:Int)))) (hK:K (.str l)):zbv (some cs) off n K:=⟨l,hl,h,hK⟩
def zpT (P:Program) (L:Option Lay) (n:Nat) (parts:List (Nat×C)) (σ:St) (K:C->St->Prop):Prop:=
 match L with
 | some ⟨.slice e,_,_,_⟩=>match lay P e with
  | some ⟨_,k,_,some z⟩=>z.length=k/\0<k/\n*k<=16777216/\(parts.all fun p=>p.2.frz.partB)=true/\match J0 (fun i=>some (i*k,k)) (List.replicate n (z.map zr)).flatten (parts.map fun p=>(p.1,p.2.frz)) with
   | some cs=>(cs.all C.cellB)=true/\cs.length=n*k/\K (.bs σ.bx.length 0 k n n) ⟨σ.tm,σ.bx++[cs],σ.nx,σ.lg⟩
   | none=>False
  | _=>False
 | _=>False
def zp2 (L:Option Lay) (n:Nat) (parts:List (Nat×C)) (σ:St) (K:C->St->Prop):Prop:=
   match L with
    | some ⟨_,k,_,some z⟩=>z.length=k/\0<k/\n*k<=16777216/\(parts.all fun p=>p.2.frz.partB)=true/\match J0 (fun i=>some (i*k,k)) (List.replicate n (z.map zr)).flatten (parts.map fun p=>(p.1,p.2.frz)) with
      | some cs=>(cs.all C.cellB)=true/\cs.length=n*k/\K (.bs σ.bx.length 0 k n n) ⟨σ.tm,σ.bx++[cs],σ.nx,σ.lg⟩
      | none=>False
    | _=>False
def zpZ (cs:Option (List C)) (k n:Nat) (σ:St) (K:C->St->Prop):Prop:=
 match cs with
   | some cs=>(cs.all C.cellB)=true/\cs.length=n*k/\K (.bs σ.bx.length 0 k n n) ⟨σ.tm,σ.bx++[cs],σ.nx,σ.lg⟩
   | none=>False
def zqf (P:Program) (L:Option Lay) (p:Nat) (s x:C) (σ:St) (K:C->St->Prop):Prop:=
 match L with
 | some ⟨.slice e,_,_,_⟩=>match lay P e with
  | some ⟨_,k,by',some z⟩=>match x.xs? k σ.bx with
   | some (m,xs)=>z.length=k/\0<k/\(z.all Value.oneCell')=true/\0<m/\match s with
    | .sc (.slice none 0 0)=>m<=9223372036854775807/\m*by'<=140737488355328/\∀ c,m<=c->c<=maxLen->K (.bs σ.bx.length 0 k m c) ⟨σ.tm,σ.bx++[xs++List.replicate ((c-m)*k) .any],σ.nx,σ.lg⟩
    | .bs i 0 k' n c=>match σ.bx[i]? with
     | some cs=>k'=k/\p<=i/\cs.length=c*k/\n<=c/\c<=9223372036854775807/\n+m<=9223372036854775807/\(n+m)*by'<=140737488355328 /\
       ∀ c',n+m<=c'->c'<=maxLen->K (.bs i 0 k (n+m) c') ⟨Ul (j6 i) some σ.tm,X6 i (C.reL (j6 i) some (cs.take (n*k)++xs)++List.replicate ((c'-(n+m))*k) .any) σ.bx,σ.nx,σ.lg⟩
     | none=>False
    | _=>False
   | none=>False
  | _=>False
 | _=>False
def zpW (L:Option Lay) (p:Nat) (s x:C) (σ:St) (K:C->St->Prop):Prop:=
  match L with
  | some ⟨_,k,by',some z⟩=>match x.xs? k σ.bx with
   | some (m,xs)=>z.length=k/\0<k/\(z.all Value.oneCell')=true/\0<m/\match s with
    | .sc (.slice none 0 0)=>m<=9223372036854775807/\m*by'<=140737488355328/\∀ c,m<=c->c<=maxLen->K (.bs σ.bx.length 0 k m c) ⟨σ.tm,σ.bx++[xs++List.replicate ((c-m)*k) .any],σ.nx,σ.lg⟩
    | .bs i 0 k' n c=>match σ.bx[i]? with
     | some cs=>k'=k/\p<=i/\cs.length=c*k/\n<=c/\c<=9223372036854775807/\n+m<=9223372036854775807/\(n+m)*by'<=140737488355328 /\
       ∀ c',n+m<=c'->c'<=maxLen->K (.bs i 0 k (n+m) c') ⟨Ul (j6 i) some σ.tm,X6 i (C.reL (j6 i) some (cs.take (n*k)++xs)++List.replicate ((c'-(n+m))*k) .any) σ.bx,σ.nx,σ.lg⟩
     | none=>False
    | _=>False
   | none=>False
  | _=>False
def zpy (X:Option (Nat×List C)) (p k by':Nat) (z:List Value) (s:C) (σ:St) (K:C->St->Prop):Prop:=
  match X with
   | some (m,xs)=>z.length=k/\0<k/\(z.all Value.oneCell')=true/\0<m/\match s with
    | .sc (.slice none 0 0)=>m<=9223372036854775807/\m*by'<=140737488355328/\∀ c,m<=c->c<=maxLen->K (.bs σ.bx.length 0 k m c) ⟨σ.tm,σ.bx++[xs++List.replicate ((c-m)*k) .any],σ.nx,σ.lg⟩
    | .bs i 0 k' n c=>match σ.bx[i]? with
     | some cs=>k'=k/\p<=i/\cs.length=c*k/\n<=c/\c<=9223372036854775807/\n+m<=9223372036854775807/\(n+m)*by'<=140737488355328 /\
       ∀ c',n+m<=c'->c'<=maxLen->K (.bs i 0 k (n+m) c') ⟨Ul (j6 i) some σ.tm,X6 i (C.reL (j6 i) some (cs.take (n*k)++xs)++List.replicate ((c'-(n+m))*k) .any) σ.bx,σ.nx,σ.lg⟩
     | none=>False
    | _=>False
   | none=>False
def bsO (j:Option Nat) (off k n c:Nat):C:=match j with | some j=>.bs j off k n c | none=>.any
def xsB (k' k off n:Nat) (cs:Option (List C)):Option (Nat×List C):=if k'=k then cs.bind fun cs=>if off+n*k<=cs.length then some (n,(cs.drop off).take (n*k)) else none else none
def znO (j:Option Nat) (e k:Nat) (rows:List (List C)):C:=match j with | some j=>.own j e k rows | none=>.sl k rows
def zoO (cs:Option (List C)) (off:Nat):C:=match cs with | some cs=>.row ((C.frzL cs).drop off) | none=>.any
def zk6 (j:Option Nat) (off:Nat):C:=match j with | some j=>.ptr j off | none=>.any
def zkq (cs:Option (List C)) (p:Option Tmp) (σ:St) (K:St->Prop):Prop:=match cs,p with
  | some cs,some p=>K ⟨(p,.ptr σ.bx.length 0) :: σ.tm,σ.bx++[cs],σ.nx,σ.lg⟩
  | _,_=>False
def zpv (M:Option (MKd×C)) (t:TypeId) (r:Option C) (nx:Nat) (K:C->Nat->Prop):Prop:=
 match M with
 | some (kd,_)=>match r with
  | none=>K (.mo nx t kd.nil []) (nx+1)
  | some (.sc (.int _ _))=>K (.mo nx t kd.nil []) (nx+1)
  | _=>False
 | none=>False
def zp6 (M:Option (MKd×C)) (t:TypeId) (m key:C) (ok:Bool) (K:C->Prop):Prop:=
 match M with
 | some (.int k,z)=>match m,key with
  | .mo _ t' (.int k' l) vs,.sc (.int q n)=>t'=t/\k'=k/\q=k/\Uh (zhS n l vs) z ok K
  | _,_=>False
 | some (.str,z)=>match m,key with
  | .mo _ t' (.str l) vs,.str s=>t'=t/\Uh (zhS s l vs) z ok K
  | _,_=>False
 | none=>False
def zpX (M:Option (MKd×C)) (t:TypeId) (m key x:C) (σ:St) (K:C->St->Prop):Prop:=
 match M with
 | some (.int k,_)=>match m,key with
  | .mo id t' (.int k' l) vs,.sc (.int q n)=>t'=t/\k'=k/\q=k/\U4 id (.int k (V8 n x.frz l vs).1) (V8 n x.frz l vs).2 σ K
  | _,_=>False
 | some (.str,_)=>match m,key with
  | .mo id t' (.str l) vs,.str s=>t'=t/\U4 id (.str (V8 s x.frz l vs).1) (V8 s x.frz l vs).2 σ K
  | _,_=>False
 | none=>False
def zpr (x:Option (List C)):C:=match x with | some cs=>.row cs | none=>.any
structure Tag.{u} {α:Sort u} (a:α):Type where
def zmY (M:Option (MKd×C)) (t:TypeId) (r:Option C) (nx:Nat) (K:C->Nat->Prop) (_:Tag K):Prop:=zpv M t r nx K
def zle (M:Option (MKd×C)) (t:TypeId) (m key:C) (ok:Bool) (K:C->Prop) (_:Tag K):Prop:=zp6 M t m key ok K
def zcI (r:Option C) (z:C) (ok:Bool) (K:C->Prop) (_:Tag K):Prop:=Uh r z ok K
def zla (M:Option (MKd×C)) (t:TypeId) (m key x:C) (σ:St) (K:C->St->Prop) (_:Tag K):Prop:=zpX M t m key x σ K
def zjI (sz i off k n cap:Nat) (lo hi mx:Option Int) (K:C->Prop) (_:Tag K):Prop:=zjG sz i off k n cap lo hi mx K
def xc (P:Program) (t:TypeId) (s x:C) (σ:St) (K:C->St->Prop) (_:Tag K):Prop:=JD P t s x σ K
def yK (P:Program) (t tn:TypeId) (s x:C) (σ:St) (K:C->St->Prop) (_:Tag K):Prop:=kU P t tn s x σ K
def zcs (P:Program) (t:TypeId) (d x:C) (σ:St) (K:C->St->Prop) (_:Tag K):Prop:=ZB P t d x σ K
def zlp (x y:C) (K:C->Prop) (_:Tag K):Prop:=znu x y K
def zl2 (P:Program) (t:TypeId) (c:C) (K:C->Prop) (_:Tag K):Prop:=znB P t c K
def zee (L:Option Lay) (c:C) (K:C->Prop) (_:Tag K):Prop:=zo4 L c K
def M9 (P:Program) (bx:List (List C)) (s d:TypeId) (c:C) (K:C->Prop) (_:Tag K):Prop:=yH P bx s d c K
def Um (P:Program) (t:TypeId) (n:Nat) (parts:List (Nat×C)) (σ:St) (K:C->St->Prop) (_:Tag K):Prop:=Qg P t n parts σ K
def zlk (P:Program) (L:Option Lay) (n:Nat) (parts:List (Nat×C)) (σ:St) (K:C->St->Prop) (_:Tag K):Prop:=zpT P L n parts σ K
def zlD (L:Option Lay) (n:Nat) (parts:List (Nat×C)) (σ:St) (K:C->St->Prop) (_:Tag K):Prop:=zp2 L n parts σ K
def zmq (cs:Option (List C)) (k n:Nat) (σ:St) (K:C->St->Prop) (_:Tag K):Prop:=zpZ cs k n σ K
def xT (P:Program) (p:Nat) (t:TypeId) (s x:C) (σ:St) (K:C->St->Prop) (_:Tag K):Prop:=Vg P p t s x σ K
def zmR (P:Program) (L:Option Lay) (p:Nat) (s x:C) (σ:St) (K:C->St->Prop) (_:Tag K):Prop:=zqf P L p s x σ K
def zlS (L:Option Lay) (p:Nat) (s x:C) (σ:St) (K:C->St->Prop) (_:Tag K):Prop:=zpW L p s x σ K
def zmx (X:Option (Nat×List C)) (p k by':Nat) (z:List Value) (s:C) (σ:St) (K:C->St->Prop) (_:Tag K):Prop:=zpy X p k by' z s σ K
def zjJ (c:C) (X Y:Prop) (_:Tag X) (_:Tag Y):Prop:=ABr c X Y
def zfr (c:C) (U X Y:Prop) (_:Tag U) (_:Tag X) (_:Tag Y):Prop:=zh8 c U X Y
def XP (ops:Array Oper) (tm:List (Nat×C)) (g:Option (Nat×Bool)) (X Y:Prop) (_:Tag ops) (_:Tag X) (_:Tag Y):Prop:=qQ ops tm g X Y
def zo0 (d:Option Tmp) (tm:List (Nat×C)) (want:Bool) (X Y:Prop) (_:Tag X) (_:Tag Y):Prop:=aGd d tm want X Y
def QY (P:Program) (G:zj) (h:Hd) (c:Code) (Q:Exit->St->Prop) (σ:St) (_:Tag c) (_:Tag Q):Prop:=awp P G h c Q σ
def zd2 (P:Program) (G:zj) (h:Hd) (ops:Array Oper) (l:List Oper) (σ:St) (K:St->Prop) (_:Tag h) (_:Tag ops) (_:Tag l) (_:Tag K):Prop:=zna P G h ops l σ K
def Yw (P:Program) (G:zj) (h:Hd) (ops:Array Oper) (l:List Oper) (br:List Bool) (σ:St) (K:St->Prop) (_:Tag h) (_:Tag ops) (_:Tag l) (_:Tag K):Prop:=X7 P G h ops l br σ K
def y9 (P:Program) (G:zj) (h:Hd) (ops:Array Oper) (br:List Bool) (σ:St) (K:St->Prop) (_:Tag h) (_:Tag ops) (_:Tag K):Prop:=zad P G h ops br σ K
def Yq (P:Program) (G:zj) (ops:Array Oper) (a s:Nat) (l:List Oper) (i:Nat) (cs:Option (List C)) (σ:St) (K:St->Prop) (_:Tag ops) (_:Tag l) (_:Tag K):Prop:=qJ P G ops a s l i cs σ K
def zik (cs:Option (List C)) (p:Option Tmp) (σ:St) (K:St->Prop) (_:Tag K):Prop:=zkq cs p σ K
def zhY (L:Option Lay) (K:Prop) (_:Tag K):Prop:=zfy L K
def zhR (L:Option Lay) (c:C) (K:C->Prop) (_:Tag K):Prop:=zgx L c K
def jn (P:Program) (G:zj) (h:Hd) (op:Op) (σ:St) (K:C->St->Prop) (_:Tag h) (_:Tag op) (_:Tag K):Prop:=MI P G h op σ K
def Q0 (P:Program) (G:zj) (f:FuncId) (args fargs:List C) (σ:St) (K:C->St->Prop) (_:Tag K):Prop:=zmH P G f args fargs σ K
def N7 (P:Program) (G:zj) (h:Hd) (c:C) (args:List C) (σ:St) (K:C->St->Prop) (_:Tag h) (_:Tag K):Prop:=Ns P G h c args σ K
def yO (y:Yd) (it:Option (List C)) (args:List C) (σ:St) (K:C->St->Prop) (_:Tag y) (_:Tag K):Prop:=kH y it args σ K
def za0 (P:Program) (G:zj) (p:Nat) (A B:Nat->(Exit->St->Prop)->St->Prop) (Q:Exit->St->Prop) (ps:List Tmp) (c:C) (σ:St) (_:Tag A) (_:Tag B) (_:Tag Q):Prop:=yc P G p A B Q ps c σ
def qR (P:Program) (G:zj) (bx:List (List C)) (ev:Operand->C) (op:Op) (nx:Nat) (K:C->Nat->Prop) (_:Tag ev) (_:Tag op) (_:Tag K):Prop:=jT P G bx ev op nx K
def zag (P:Program) (σ:St) (rs:List ResultVar) (K:C->Prop) (_:Tag K):Prop:=zk1 P σ rs K
def Jy (P:Program) (σ:St) (rv:ResultVar) (K:C->Prop) (_:Tag K):Prop:=jU P σ rv K
def MT (P:Program) (t:TypeId) (op:BinOp) (x y:C) (K:C->Prop) (_:Tag K):Prop:=zkY P t op x y K
def V7 (op:BinOp) (k:IntKind) (a b:Int) (K:C->Prop) (_:Tag K):Prop:=znJ op k a b K
def yk (l:Option Lay) (op:BinOp) (x:C) (K:C->Prop) (_:Tag K):Prop:=zjP l op x K
def zdx (op:BinOp) (b:Bool) (K:C->Prop) (_:Tag K):Prop:=ko op b K
def zdM (op:BinOp) (a b:List UInt8) (K:C->Prop) (_:Tag K):Prop:=zoA op a b K
def zmj (op:BinOp) (ks:Option (List LK)) (xs ys:List C) (K:C->Prop) (_:Tag K):Prop:=zom op ks xs ys K
def zid (n:Bool) (ks:List LK) (xs ys:List C) (e:Bool) (K:C->Prop) (_:Tag K):Prop:=aEq n ks xs ys e K
def zo3 (op:UnOp) (x:C) (K:C->Prop) (_:Tag K):Prop:=aUn op x K
def xR (P:Program) (t:TypeId) (c:C) (bx:List (List C)) (K:C->Prop) (_:Tag K):Prop:=NT P t c bx K
def M4 (L:Option Lay) (c:C) (bx:List (List C)) (K:C->Prop) (_:Tag K):Prop:=zm3 L c bx K
def zen (cs:Option (List C)) (off:Nat) (L:Lay) (K:C->Prop) (_:Tag K):Prop:=zlP cs off L K
def Zn (L:Lay) (cs:List C) (K:C->Prop) (_:Tag K):Prop:=Jh L cs K
def zj7 (x:Option C) (K:C->Prop) (_:Tag K):Prop:=zor x K
def Z7 (c:C) (i:Nat) (K:C->Prop) (_:Tag K):Prop:=ZM c i K
def zjm (c:C) (K:C->Prop) (_:Tag K):Prop:=znN c K
def zcz (P:Program) (t:TypeId) (c:C) (f:Nat) (K:C->Prop) (_:Tag K):Prop:=ym P t c f K
def y8 (L:Option Lay) (c:C) (f:Nat) (K:C->Prop) (_:Tag K):Prop:=xI L c f K
def yV (f:Option (Nat×Nat×Bool)) (cs:List C) (K:C->Prop) (_:Tag K):Prop:=ZZ f cs K
def XH (P:Program) (t:TypeId) (c:C) (f:Nat) (K:C->Prop) (_:Tag K):Prop:=Xl P t c f K
def zk8 (L:Option Lay) (c:C) (f:Nat) (K:C->Prop) (_:Tag K):Prop:=zpB L c f K
def zkO (f:Option (Nat×Nat×Bool)) (c:C) (K:C->Prop) (_:Tag K):Prop:=zmz f c K
def XD (P:Program) (t:TypeId) (c:C) (i:C) (K:C->Prop) (_:Tag K):Prop:=Y9 P t c i K
def zit (P:Program) (L:Option Lay) (c:C) (i:C) (K:C->Prop) (_:Tag K):Prop:=zp1 P L c i K
def zfm (L:Option Lay) (c:C) (n:Int) (K:C->Prop) (_:Tag K):Prop:=zp3 L c n K
def zke (rows:Option (List (List C))) (n:Int) (K:C->Prop) (_:Tag K):Prop:=zqj rows n K
def zpt (r:Option (List C)) (n:Int) (K:C->Prop) (_:Tag K):Prop:=aAt r n K
def zlY (L:Option Lay) (c:C) (m:Nat) (n:Int) (K:C->Prop) (_:Tag K):Prop:=zpw L c m n K
def M5 (P:Program) (t:TypeId) (c i:C) (K:C->Prop) (_:Tag K):Prop:=yy P t c i K
def zlL (L:Option Lay) (c i:C) (K:C->Prop) (_:Tag K):Prop:=zn7 L c i K
def zhU (b:Option UInt8) (n:Int) (K:C->Prop) (_:Tag K):Prop:=zjn b n K
def xF (P:Program) (t:TypeId) (c:C) (lo hi mx:Option C) (K:C->Prop) (_:Tag K):Prop:=yF P t c lo hi mx K
def zmK (P:Program) (t:TypeId) (c:C) (lo hi mx:Option (Option Int)) (K:C->Prop) (_:Tag K):Prop:=zpP P t c lo hi mx K
def zi5 (P:Program) (L:Option Lay) (c:C) (lo hi mx:Option Int) (K:C->Prop) (_:Tag K):Prop:=zpn P L c lo hi mx K
def zfK (L:Option Lay) (c:C) (lo hi mx:Option Int) (K:C->Prop) (_:Tag K):Prop:=zpz L c lo hi mx K
def zmo (k:Nat) (lo hi mx:Option Int) (K:C->Prop) (_:Tag K):Prop:=zmB k lo hi mx K
def ziR (rows:Option (List (List C))) (k:Nat) (lo hi mx:Option Int) (K:C->Prop) (_:Tag K):Prop:=zpK rows k lo hi mx K
def zjC (rows:Option (List (List C))) (K:C->Prop) (_:Tag K):Prop:=zch rows K
def zdc (P:Program) (s d:TypeId) (c:C) (K:C->Prop) (_:Tag K):Prop:=zfY P s d c K
def zhC (P:Program) (D S:Option Lay) (c:C) (K:C->Prop) (_:Tag K):Prop:=zpE P D S c K
def zmv (L:Option Lay) (c:C) (K:C->Prop) (_:Tag K):Prop:=zqe L c K
def xe (P:Program) (t:TypeId) (c:C) (K:C->Prop) (_:Tag K):Prop:=zlv P t c K
def GH (L:Option Lay) (n:Int) (K:C->Prop) (_:Tag K):Prop:=zo6 L n K
def zia (L:Option Lay) (n:Int) (K:C->Prop) (_:Tag K):Prop:=zpb L n K
def xN (P:Program) (t:TypeId) (parts:List (Nat×C)) (K:C->Prop) (_:Tag K):Prop:=yz P t parts K
def znt (L:Option Lay) (parts:List (Nat×C)) (K:C->Prop) (_:Tag K):Prop:=zok L parts K
def zpp (cs:Option (List C)) (K:C->Prop) (_:Tag K):Prop:=aFl cs K
def Y7 (P:Program) (t:TypeId) (n:Nat) (parts:List (Nat×C)) (nx:Nat) (K:C->Nat->Prop) (_:Tag K):Prop:=Ji P t n parts nx K
def x4 (P:Program) (t:TypeId) (n:Nat) (parts:List (Nat×C)) (nx:Nat) (K:C->Nat->Prop) (_:Tag K):Prop:=kT P t n parts nx K
def zm9 (P:Program) (L:Option Lay) (n:Nat) (parts:List (Nat×C)) (nx:Nat) (K:C->Nat->Prop) (_:Tag K):Prop:=zpA P L n parts nx K
def znb (L:Option Lay) (e:TypeId) (n:Nat) (parts:List (Nat×C)) (nx:Nat) (K:C->Nat->Prop) (_:Tag K):Prop:=zqa L e n parts nx K
def zmu (cs:Option (List C)) (e k n nx:Nat) (K:C->Nat->Prop) (_:Tag K):Prop:=zp5 cs e k n nx K
def kz (P:Program) (t:TypeId) (s x:C) (σ:St) (K:C->St->Prop) (_:Tag K):Prop:=Ho P t s x σ K
def kj (P:Program) (t:TypeId) (s x:C) (nx:Nat) (K:C->Nat->Prop) (_:Tag K):Prop:=Q3 P t s x nx K
def zny (P:Program) (L:Option Lay) (s x:C) (nx:Nat) (K:C->Nat->Prop) (_:Tag K):Prop:=zp0 P L s x nx K
def zlH (L:Option Lay) (e:TypeId) (s x:C) (nx:Nat) (K:C->Nat->Prop) (_:Tag K):Prop:=zpN L e s x nx K
def ziv (xs:Option (List (List C))) (s:C) (e k by':Nat) (z:List Value) (nx:Nat) (K:C->Nat->Prop) (_:Tag K):Prop:=zpV xs s e k by' z nx K
def znj (P:Program) (L:Option Lay) (id e k:Nat) (rows:List (List C)) (x:C) (σ:St) (K:C->St->Prop) (_:Tag K):Prop:=zqc P L id e k rows x σ K
def zll (L:Option Lay) (e' id e k:Nat) (rows:List (List C)) (x:C) (σ:St) (K:C->St->Prop) (_:Tag K):Prop:=zof L e' id e k rows x σ K
def zlV (xs:Option (List (List C))) (by' id e k:Nat) (rows:List (List C)) (σ:St) (K:C->St->Prop) (_:Tag K):Prop:=zo8 xs by' id e k rows σ K
def zdr (P:Program) (G:zj) (callee:C) (args:List C) (nx:Nat) (K:C->Nat->Prop) (_:Tag K):Prop:=GW P G callee args nx K
def ME (P:Program) (G:zj) (f:FuncId) (args:List C) (nx:Nat) (K:C->Nat->Prop) (_:Tag K):Prop:=ya P G f args nx K
def znf (c:C) (σ:St) (K:C->St->Prop) (_:Tag K):Prop:=znU c σ K
def zmI (L:Option Lay) (σ:St) (K:C->St->Prop) (_:Tag K):Prop:=zpM L σ K
def zlW (L:Option Lay) (p c:C) (σ:St) (K:C->St->Prop) (_:Tag K):Prop:=zqi L p c σ K
def zm2 (L:Option Lay) (p c:C) (bx:List (List C)) (K:C->Prop) (_:Tag K):Prop:=zpI L p c bx K
def zls (cs:Option (List C)) (off size:Nat) (c:C) (K:C->Prop) (_:Tag K):Prop:=zqb cs off size c K
def zmW (cs:Option (List C)) (i off size:Nat) (c:C) (σ:St) (K:C->St->Prop) (_:Tag K):Prop:=zqd cs i off size c σ K
def zif (p:Nat) (B:(Exit->St->Prop)->St->Prop) (Q:Exit->St->Prop) (σ:St) (_:Tag B) (_:Tag Q):Prop:=zf0 p B Q σ
def yb (next:St->Prop) (Q:Exit->St->Prop) (_:Tag next) (_:Tag Q):Exit->St->Prop:=zmN next Q
def VU (id:Nat) (Q:Exit->St->Prop) (_:Tag Q):Exit->St->Prop:=Gv id Q
def Hb (Q:Exit->St->Prop) (_:Tag Q):Exit->St->Prop:=zel Q
def x5 (next:St->Prop) (Q:Exit->St->Prop) (_:Tag next) (_:Tag Q):Exit->St->Prop:=zio next Q
def zib (K:St->Prop) (_:Tag K):Exit->St->Prop:=zj2 K
def xP (m:Nat) (tm:List (Nat×C)) (st:Bool) (next:St) (Q:Exit->St->Prop) (_:Tag next) (_:Tag Q):Exit->St->Prop:=zcD m tm st next Q
def G5 (P:Program) (rs:List ResultVar) (K:C->St->Prop) (_:Tag K):Exit->St->Prop:=zhX P rs K
theorem zml:QY P G h .skip Q σ ⟨⟩ ⟨⟩=Q .normal σ:=(rfl)
theorem ziD {l:Nat}:QY P G h (.label l) Q σ ⟨⟩ ⟨⟩=Q .normal σ:=(rfl)
theorem zm5 {id:Nat}:QY P G h (.exit id) Q σ ⟨⟩ ⟨⟩=Q (.exit id) σ:=(rfl)
theorem zoM:QY P G h .ret Q σ ⟨⟩ ⟨⟩=Q .ret σ:=(rfl)
theorem zn5 {a b:Code}:QY P G h (.seq a b) Q σ ⟨⟩ ⟨⟩=QY P G h a (yb (fun σ=>QY P G h b Q σ ⟨⟩ ⟨⟩) Q ⟨⟩ ⟨⟩) σ ⟨⟩ ⟨⟩:=(rfl)
theorem zlu {cc:Operand} {a b:Code}:QY P G h (.cond cc a b) Q ⟨tm,bx,nx,lg⟩ ⟨⟩ ⟨⟩=zjJ (zp G tm cc) (QY P G h a Q ⟨tm,bx,nx,lg⟩ ⟨⟩ ⟨⟩) (QY P G h b Q ⟨tm,bx,nx,lg⟩ ⟨⟩ ⟨⟩) ⟨⟩ ⟨⟩:=(rfl)
theorem zjz {id:Nat} {a:Code}:QY P G h (.block id a) Q σ ⟨⟩ ⟨⟩=QY P G h a (VU id Q ⟨⟩) σ ⟨⟩ ⟨⟩:=(rfl)
theorem zlo {a:Code}:QY P G ⟨p,yd,bf⟩ (.loop a) Q σ ⟨⟩ ⟨⟩=zif p (fun Q σ=>QY P G ⟨p,yd,bf⟩ a Q σ ⟨⟩ ⟨⟩) Q σ ⟨⟩ ⟨⟩:=(rfl)
theorem zeX {a b:Code} {x:Operand} {ps:List Tmp}:QY P G ⟨p,yd,bf⟩ (.rangeFunc x ps.toArray a b) Q ⟨tm,bx,nx,lg⟩ ⟨⟩ ⟨⟩=za0 P G p (fun m=>fun Q σ=>QY P G ⟨m,yd,bf⟩ a Q σ ⟨⟩ ⟨⟩) (fun m=>fun Q σ=>QY P G ⟨m,yd,bf⟩ b Q σ ⟨⟩ ⟨⟩) Q ps (zp G tm x) ⟨tm,bx,nx,lg⟩ ⟨⟩ ⟨⟩ ⟨⟩:=(rfl)
theorem zi1 {a:Code}:QY P G h (.scope a) Q σ ⟨⟩ ⟨⟩=QY P G h a (Hb Q ⟨⟩) σ ⟨⟩ ⟨⟩:=(rfl)
theorem zgC {id:Nat} {l:List Oper}:QY P G ⟨p,yd,bf⟩ (.region id l.toArray false) Q σ ⟨⟩ ⟨⟩=zd2 P G ⟨p,yd,bf⟩ l.toArray l σ (Q .normal) ⟨⟩ ⟨⟩ ⟨⟩ ⟨⟩:=(rfl)
theorem zbX {id:Nat} {l:List Oper}:QY P G ⟨p,yd,bf⟩ (.region id l.toArray true) Q σ ⟨⟩ ⟨⟩=y9 P G ⟨p,yd,bf⟩ l.toArray (bf id) σ (Q .normal) ⟨⟩ ⟨⟩ ⟨⟩:=(rfl)
theorem zfZ {KS:St->Prop} {l:List Oper}:y9 P G h l.toArray [] σ KS ⟨⟩ ⟨⟩ ⟨⟩=Yw P G h l.toArray l [] σ KS ⟨⟩ ⟨⟩ ⟨⟩ ⟨⟩:=(rfl)
theorem zf2 {KS:St->Prop} {l:List Oper} {r:List Bool}:y9 P G h l.toArray (false :: r) σ KS ⟨⟩ ⟨⟩ ⟨⟩=Yw P G h l.toArray l (false :: r) σ KS ⟨⟩ ⟨⟩ ⟨⟩ ⟨⟩:=(rfl)
theorem zhj {KS:St->Prop} {l:List Oper} {a s:Nat}:y9 P G h l.toArray (XT a s) σ KS ⟨⟩ ⟨⟩ ⟨⟩=Yq P G l.toArray a s l 0 none σ KS ⟨⟩ ⟨⟩ ⟨⟩:=(show zad P G h l.toArray (XT a s) σ KS=qJ P G l.toArray a s l 0 none σ KS from by unfold zad;rw[Gm])
theorem zdJ {KS:St->Prop} {a s i:Nat} {cs:Option (List C)} {l:List Oper}:Yq P G l.toArray a s [] i cs σ KS ⟨⟩ ⟨⟩ ⟨⟩=zik cs ((l[a]?).bind (·.dst)) σ KS ⟨⟩:=(show qJ P G l.toArray a s [] i cs σ KS=zkq cs ((l[a]?).bind (·.dst)) σ KS from by simp only[qJ,zkq,List.getElem?_toArray];rfl)
theorem zaO {KS:St->Prop} {a s:Nat} {cs:Option (List C)} {dst:Option Tmp} {ty:TypeId} {pos:String} {af:Array Edge} {g:Option (Nat×Bool)} {rest:List Oper}:Yq P G ops a s (⟨dst,.alloc t,ty,pos,af,g⟩ :: rest) a cs ⟨tm,bx,nx,lg⟩ KS ⟨⟩ ⟨⟩ ⟨⟩=zhY (lay P t) (Yq P G ops a s rest (a+1) cs ⟨Ju tm dst .any,bx,nx,lg⟩ KS ⟨⟩ ⟨⟩ ⟨⟩) ⟨⟩:=(show qJ P G ops a s (⟨dst,.alloc t,ty,pos,af,g⟩ :: rest) a cs ⟨tm,bx,nx,lg⟩ KS=zfy (lay P t) (qJ P G ops a s rest (a+1) cs ⟨Ju tm dst .any,bx,nx,lg⟩ KS) from by simp only[qJ,if_true])
theorem zaR {KS:St->Prop} {a s:Nat} {cs:Option (List C)} {dst:Option Tmp} {ty:TypeId} {pos:String} {af:Array Edge} {g:Option (Nat×Bool)} {rest:List Oper} (hsa:(s==a)=false):Yq P G ops a s (⟨dst,.store t y x,ty,pos,af,g⟩ :: rest) s cs ⟨tm,bx,nx,lg⟩ KS ⟨⟩ ⟨⟩ ⟨⟩=zhR (lay P t) (zp G tm x) (fun c=>Yq P G ops a s rest (s+1) (some c.cells) ⟨Ju tm dst .any,bx,nx,lg⟩ KS ⟨⟩ ⟨⟩ ⟨⟩) ⟨⟩:=(show qJ P G ops a s (⟨dst,.store t y x,ty,pos,af,g⟩ :: rest) s cs ⟨tm,bx,nx,lg⟩ KS=zgx (lay P t) (zp G tm x) fun c=>qJ P G ops a s rest (s+1) (some c.cells) ⟨Ju tm dst .any,bx,nx,lg⟩ KS from by simp only[beq_eq_false_iff_ne]at hsa;simp only[qJ,if_neg hsa,if_true])
theorem zfL {KS:St->Prop} {a s i:Nat} {cs:Option (List C)} {dst:Option Tmp} {ty:TypeId} {pos:String} {af:Array Edge} {g:Option (Nat×Bool)} {rest:List Oper} {op:Op} (hia:(i==a)=false) (his:(i==s)=false):Yq P G ops a s (⟨dst,op,ty,pos,af,g⟩ :: rest) i cs ⟨tm,bx,nx,lg⟩ KS ⟨⟩ ⟨⟩ ⟨⟩=XP ops tm g (qR P G bx (zp G tm) op nx (fun c nx'=>Yq P G ops a s rest (i+1) cs ⟨Ju tm dst c,bx,nx',lg⟩ KS ⟨⟩ ⟨⟩ ⟨⟩) ⟨⟩ ⟨⟩ ⟨⟩) (Yq P G ops a s rest (i+1) cs ⟨Ju tm dst (.sc undef),bx,nx,lg⟩ KS ⟨⟩ ⟨⟩ ⟨⟩) ⟨⟩ ⟨⟩ ⟨⟩:=(show qJ P G ops a s (⟨dst,op,ty,pos,af,g⟩ :: rest) i cs ⟨tm,bx,nx,lg⟩ KS=qQ ops tm g (jT P G bx (zp G tm) op nx fun c nx'=>qJ P G ops a s rest (i+1) cs ⟨Ju tm dst c,bx,nx',lg⟩ KS) (qJ P G ops a s rest (i+1) cs ⟨Ju tm dst (.sc undef),bx,nx,lg⟩ KS) from by simp only[beq_eq_false_iff_ne]at hia his;simp only[qJ,if_neg hia,if_neg his])
theorem zmy {KS:St->Prop} {cs:List C} {u:Tmp}:zik (some cs) (some u) ⟨tm,bx,nx,lg⟩ KS ⟨⟩=KS ⟨(u,.ptr bx.length 0) :: tm,bx++[cs],nx,lg⟩:=(rfl)
theorem zlc {kd:LK} {k b1:Nat} {z1:List Value}:zhY (some ⟨kd,k,b1,some z1⟩) X ⟨⟩=(z1.length=k/\(z1.all Value.oneCell')=true/\X):=(rfl)
theorem zmd {L:Lay}:zhR (some L) c K ⟨⟩=(c.partB=true/\(c.cells.all C.cellB)=true/\c.cells.length=L.size/\K c):=(rfl)
theorem zlC {KS:St->Prop}:zib KS ⟨⟩ .normal σ=KS σ:=(rfl)
theorem zec {next:St} {b:Bool}:xP m tm b next Q ⟨⟩ ⟨⟩ .normal σ=(b=false/\jW m ⟨[],σ.bx,σ.nx,σ.lg⟩ (next.wt [])):=(rfl)
theorem MR {next:St} {b:Bool}:xP m tm b next Q ⟨⟩ ⟨⟩ .ret σ=(b=true/\∃ σ':St,σ'.bx.length=m/\jW m ⟨[],σ.bx,σ.nx,σ.lg⟩ (σ'.wt [])/\Q .ret (σ'.wt tm)):=(rfl)
theorem zpO {tm2:List (Nat×C)}:St.wt ⟨tm,bx,nx,lg⟩ tm2=⟨tm2,bx,nx,lg⟩:=(rfl)
theorem zg2 {cs:List C}:QO [] cs tm=tm:=(rfl)
theorem zjv {u:Nat} {ps:List Tmp} {cs:List C}:QO (u :: ps) (c :: cs) tm=QO ps cs ((u,c) :: tm):=(rfl)
theorem zjN:VY m [] = []:=(rfl)
theorem znq {u:Nat} {r:List (Nat×C)}:VY m ((u,c) :: r)=(u,c.sel (US m)) :: VY m r:=(rfl)
theorem zl4 {next:St->Prop}:yb next Q ⟨⟩ ⟨⟩ .normal σ=next σ:=(rfl)
theorem xp {next:St->Prop} {id:Nat}:yb next Q ⟨⟩ ⟨⟩ (.exit id) σ=Q (.exit id) σ:=(rfl)
theorem ub {next:St->Prop}:yb next Q ⟨⟩ ⟨⟩ .ret σ=Q .ret σ:=(rfl)
theorem zcP {id:Nat}:VU id Q ⟨⟩ .normal σ=Q .normal σ:=(rfl)
theorem Gs {id:Nat}:VU id Q ⟨⟩ (.exit id) σ=Q .normal σ:=(show Gv id Q (.exit id) σ=Q .normal σ from if_pos rfl)
theorem GV {id id2:Nat} (h:(id2==id)=false):VU id Q ⟨⟩ (.exit id2) σ=Q (.exit id2) σ:=(show Gv id Q (.exit id2) σ=Q (.exit id2) σ from if_neg (by simpa using h))
theorem xH {id:Nat}:VU id Q ⟨⟩ .ret σ=Q .ret σ:=(rfl)
theorem uN:Hb Q ⟨⟩ .normal σ=Q .normal σ:=(rfl)
theorem Gx:Hb Q ⟨⟩ .ret σ=Q .ret σ:=(rfl)
theorem zfE {next:St->Prop}:x5 next Q ⟨⟩ ⟨⟩ .normal σ=next σ:=(rfl)
theorem xi {next:St->Prop} {id:Nat}:x5 next Q ⟨⟩ ⟨⟩ (.exit id) σ=Q (.exit id) σ:=(rfl)
theorem ud {next:St->Prop}:x5 next Q ⟨⟩ ⟨⟩ .ret σ=Q .ret σ:=(rfl)
theorem zjZ {rs:List ResultVar}:G5 P rs K3 ⟨⟩ .normal σ=zag P σ rs (fun c=>K3 c σ) ⟨⟩:=(rfl)
theorem zjs {rs:List ResultVar}:G5 P rs K3 ⟨⟩ .ret σ=zag P σ rs (fun c=>K3 c σ) ⟨⟩:=(rfl)
theorem znE:zag P σ [] K ⟨⟩=K (.tup []):=(rfl)
theorem zmb {a:ResultVar}:zag P σ [a] K ⟨⟩=Jy P σ a K ⟨⟩:=(rfl)
theorem zl0 {a b:ResultVar}:zag P σ [a,b] K ⟨⟩=Jy P σ a (fun c=>Jy P σ b (fun d=>K (.tup [c,d])) ⟨⟩) ⟨⟩:=(rfl)
theorem zmT {a b c1:ResultVar}:zag P σ [a,b,c1] K ⟨⟩=Jy P σ a (fun c=>Jy P σ b (fun d=>Jy P σ c1 (fun e=>K (.tup [c,d,e])) ⟨⟩) ⟨⟩) ⟨⟩:=(rfl)
theorem zlN {u:Nat}:Jy P ⟨tm,bx,nx,lg⟩ (.tmp u) K ⟨⟩=K (qW tm u):=(rfl)
theorem zli {u:Nat}:Jy P ⟨tm,bx,nx,lg⟩ (.cell u t) K ⟨⟩=xR P t (qW tm u) bx K ⟨⟩:=(rfl)
theorem ziH {KS:St->Prop}:zd2 P G h ops [] σ KS ⟨⟩ ⟨⟩ ⟨⟩ ⟨⟩=KS σ:=(rfl)
theorem zmG {KS:St->Prop} {dst:Option Tmp} {op:Op} {ty:TypeId} {pos:String} {af:Array Edge} {g:Option (Nat×Bool)} {rest:List Oper}:zd2 P G h ops (⟨dst,op,ty,pos,af,g⟩ :: rest) ⟨tm,bx,nx,lg⟩ KS ⟨⟩ ⟨⟩ ⟨⟩ ⟨⟩=XP ops tm g (jn P G h op ⟨tm,bx,nx,lg⟩ (fun c σ'=>zd2 P G h ops rest (σ'.put dst c) KS ⟨⟩ ⟨⟩ ⟨⟩ ⟨⟩) ⟨⟩ ⟨⟩ ⟨⟩) (zd2 P G h ops rest (St.put ⟨tm,bx,nx,lg⟩ dst (.sc undef)) KS ⟨⟩ ⟨⟩ ⟨⟩ ⟨⟩) ⟨⟩ ⟨⟩ ⟨⟩:=(rfl)
theorem zgI {KS:St->Prop}:Yw P G h ops [] brs σ KS ⟨⟩ ⟨⟩ ⟨⟩ ⟨⟩=KS σ:=(rfl)
theorem zhk {KS:St->Prop} {dst:Option Tmp} {op:Op} {ty:TypeId} {pos:String} {af:Array Edge} {g:Option (Nat×Bool)} {rest:List Oper}:Yw P G h ops (⟨dst,op,ty,pos,af,g⟩ :: rest) [] ⟨tm,bx,nx,lg⟩ KS ⟨⟩ ⟨⟩ ⟨⟩ ⟨⟩=XP ops tm g (qR P G bx (zp G tm) op nx (fun c nx'=>Yw P G h ops rest [] ⟨Ju tm dst c,bx,nx',lg⟩ KS ⟨⟩ ⟨⟩ ⟨⟩ ⟨⟩) ⟨⟩ ⟨⟩ ⟨⟩) (Yw P G h ops rest [] ⟨Ju tm dst (.sc undef),bx,nx,lg⟩ KS ⟨⟩ ⟨⟩ ⟨⟩ ⟨⟩) ⟨⟩ ⟨⟩ ⟨⟩:=(rfl)
theorem zfx {KS:St->Prop} {dst:Option Tmp} {op:Op} {ty:TypeId} {pos:String} {af:Array Edge} {g:Option (Nat×Bool)} {rest:List Oper}:Yw P G h ops (⟨dst,op,ty,pos,af,g⟩ :: rest) (false :: brs) ⟨tm,bx,nx,lg⟩ KS ⟨⟩ ⟨⟩ ⟨⟩ ⟨⟩=XP ops tm g (qR P G bx (zp G tm) op nx (fun c nx'=>Yw P G h ops rest brs ⟨Ju tm dst c,bx,nx',lg⟩ KS ⟨⟩ ⟨⟩ ⟨⟩ ⟨⟩) ⟨⟩ ⟨⟩ ⟨⟩) (Yw P G h ops rest brs ⟨Ju tm dst (.sc undef),bx,nx,lg⟩ KS ⟨⟩ ⟨⟩ ⟨⟩ ⟨⟩) ⟨⟩ ⟨⟩ ⟨⟩:=(rfl)
theorem zho {KS:St->Prop} {dst:Option Tmp} {op:Op} {ty:TypeId} {pos:String} {af:Array Edge} {g:Option (Nat×Bool)} {rest:List Oper}:Yw P G h ops (⟨dst,op,ty,pos,af,g⟩ :: rest) (true :: brs) ⟨tm,bx,nx,lg⟩ KS ⟨⟩ ⟨⟩ ⟨⟩ ⟨⟩=XP ops tm g (jn P G h op ⟨tm,bx,nx,lg⟩ (fun c σ'=>Yw P G h ops rest brs (σ'.put dst c) KS ⟨⟩ ⟨⟩ ⟨⟩ ⟨⟩) ⟨⟩ ⟨⟩ ⟨⟩) (Yw P G h ops rest brs ⟨Ju tm dst (.sc undef),bx,nx,lg⟩ KS ⟨⟩ ⟨⟩ ⟨⟩ ⟨⟩) ⟨⟩ ⟨⟩ ⟨⟩:=(rfl)
theorem zgg:XP ops tm none X Y ⟨⟩ ⟨⟩ ⟨⟩=X:=(rfl)
theorem zjp {l:List Oper} {j:Nat} {want:Bool}:XP l.toArray tm (some (j,want)) X Y ⟨⟩ ⟨⟩ ⟨⟩=zo0 ((l[j]?).bind (·.dst)) tm want X Y ⟨⟩ ⟨⟩:=(show qQ l.toArray tm (some (j,want)) X Y=aGd ((l[j]?).bind (·.dst)) tm want X Y from by simp only[qQ,List.getElem?_toArray];rfl)
theorem znd {u:Tmp}:zo0 (some u) tm true X Y ⟨⟩ ⟨⟩=zfr (qW tm u) Y X Y ⟨⟩ ⟨⟩ ⟨⟩:=(rfl)
theorem zmp {u:Tmp}:zo0 (some u) tm false X Y ⟨⟩ ⟨⟩=zfr (qW tm u) Y Y X ⟨⟩ ⟨⟩ ⟨⟩:=(rfl)
theorem ziw {U:Prop} {b:Bool}:zfr (.sc (.bool b)) U X Y ⟨⟩ ⟨⟩ ⟨⟩=zjJ (.sc (.bool b)) X Y ⟨⟩ ⟨⟩:=(rfl)
theorem zj9 {U:Prop}:zfr (.sc undef) U X Y ⟨⟩ ⟨⟩ ⟨⟩=U:=(rfl)
theorem uC {u:Tmp}:St.put ⟨tm,bx,nx,lg⟩ (some u) c=⟨(u,c) :: tm,bx,nx,lg⟩:=(rfl)
theorem vj:St.put ⟨tm,bx,nx,lg⟩ none c=⟨tm,bx,nx,lg⟩:=(rfl)
theorem xJ {u:Tmp}:Ju tm (some u) c=(u,c) :: tm:=(rfl)
theorem N3:Ju tm none c=tm:=(rfl)
theorem Ua {n:Nat} {ps:List (Nat×Operand)}:jn P G h (.buildSlice t n ps.toArray) ⟨tm,bx,nx,lg⟩ K3 ⟨⟩ ⟨⟩ ⟨⟩=if h.bx t then Um P t n (ps.map fun p=>(p.1,zp G tm p.2)) ⟨tm,bx,nx,lg⟩ K3 ⟨⟩ else Y7 P t n (ps.map fun p=>(p.1,zp G tm p.2)) nx (fun c nx'=>K3 c ⟨tm,bx,nx',lg⟩) ⟨⟩:=(rfl)
theorem Ug {n:Nat} {ps:List (Nat×Operand)} {ev:Operand->C}:qR P G bx ev (.buildSlice t n ps.toArray) nx K2 ⟨⟩ ⟨⟩ ⟨⟩=x4 P t n (ps.map fun p=>(p.1,ev p.2)) nx K2 ⟨⟩:=(rfl)
theorem zn8 {n:Nat} {ps:List (Nat×C)}:x4 P t (n+1) ps nx K2 ⟨⟩=Y7 P t (n+1) ps nx K2 ⟨⟩:=(rfl)
theorem zne:Hd.bx ⟨p,yd,bf⟩ t=(bf (1000000+t)).headD false:=(rfl)
theorem zkN:Hd.bx2 ⟨p,yd,bf⟩ t=((bf (1000000+t)).drop 1).headD false:=(rfl)
theorem zf1:jn P G h (.move x) ⟨tm,bx,nx,lg⟩ K3 ⟨⟩ ⟨⟩ ⟨⟩=K3 (zp G tm x) ⟨tm,bx,nx,lg⟩:=(rfl)
theorem ze9 {ev:Operand->C}:qR P G bx ev (.move x) nx K2 ⟨⟩ ⟨⟩ ⟨⟩=K2 (ev x) nx:=(rfl)
theorem ui:jn P G h (.assign x) ⟨tm,bx,nx,lg⟩ K3 ⟨⟩ ⟨⟩ ⟨⟩=K3 (zp G tm x) ⟨tm,bx,nx,lg⟩:=(rfl)
theorem uw {ev:Operand->C}:qR P G bx ev (.assign x) nx K2 ⟨⟩ ⟨⟩ ⟨⟩=K2 (ev x) nx:=(rfl)
theorem zeJ:jn P G h (.pick x y z) ⟨tm,bx,nx,lg⟩ K3 ⟨⟩ ⟨⟩ ⟨⟩=zjJ (zp G tm x) (K3 (zp G tm y) ⟨tm,bx,nx,lg⟩) (K3 (zp G tm z) ⟨tm,bx,nx,lg⟩) ⟨⟩ ⟨⟩:=(rfl)
theorem zg6 {ev:Operand->C}:qR P G bx ev (.pick x y z) nx K2 ⟨⟩ ⟨⟩ ⟨⟩=zjJ (ev x) (K2 (ev y) nx) (K2 (ev z) nx) ⟨⟩ ⟨⟩:=(rfl)
theorem zbn {ps:List (Nat×Operand)}:jn P G h (.build t ps.toArray) ⟨tm,bx,nx,lg⟩ K3 ⟨⟩ ⟨⟩ ⟨⟩=xN P t (ps.map fun p=>(p.1,zp G tm p.2)) (fun c=>K3 c ⟨tm,bx,nx,lg⟩) ⟨⟩:=(rfl)
theorem zaX {ps:List (Nat×Operand)} {ev:Operand->C}:qR P G bx ev (.build t ps.toArray) nx K2 ⟨⟩ ⟨⟩ ⟨⟩=xN P t (ps.map fun p=>(p.1,ev p.2)) (fun c=>K2 c nx) ⟨⟩:=(rfl)
theorem zgV:jn P G h (.load t x) ⟨tm,bx,nx,lg⟩ K3 ⟨⟩ ⟨⟩ ⟨⟩=xR P t (zp G tm x) bx (fun c=>K3 c ⟨tm,bx,nx,lg⟩) ⟨⟩:=(rfl)
theorem zgF {ev:Operand->C}:qR P G bx ev (.load t x) nx K2 ⟨⟩ ⟨⟩ ⟨⟩=xR P t (ev x) bx (fun c=>K2 c nx) ⟨⟩:=(rfl)
theorem Gw:jn P G h (.nilCheck x) ⟨tm,bx,nx,lg⟩ K3 ⟨⟩ ⟨⟩ ⟨⟩=zjm (zp G tm x) (fun c=>K3 c ⟨tm,bx,nx,lg⟩) ⟨⟩:=(rfl)
theorem Nf {ev:Operand->C}:qR P G bx ev (.nilCheck x) nx K2 ⟨⟩ ⟨⟩ ⟨⟩=zjm (ev x) (fun c=>K2 c nx) ⟨⟩:=(rfl)
theorem zeh {op:BinOp}:jn P G h (.binOp op t x y t') ⟨tm,bx,nx,lg⟩ K3 ⟨⟩ ⟨⟩ ⟨⟩=MT P t op (zp G tm x) (zp G tm y) (fun c=>K3 c ⟨tm,bx,nx,lg⟩) ⟨⟩:=(rfl)
theorem za1 {op:BinOp} {ev:Operand->C}:qR P G bx ev (.binOp op t x y t') nx K2 ⟨⟩ ⟨⟩ ⟨⟩=MT P t op (ev x) (ev y) (fun c=>K2 c nx) ⟨⟩:=(rfl)
theorem zhB {op:UnOp}:jn P G h (.unOp op t x) ⟨tm,bx,nx,lg⟩ K3 ⟨⟩ ⟨⟩ ⟨⟩=zo3 op (zp G tm x) (fun c=>K3 c ⟨tm,bx,nx,lg⟩) ⟨⟩:=(rfl)
theorem zhz {op:UnOp} {ev:Operand->C}:qR P G bx ev (.unOp op t x) nx K2 ⟨⟩ ⟨⟩ ⟨⟩=zo3 op (ev x) (fun c=>K2 c nx) ⟨⟩:=(rfl)
theorem xj:jn P G h (.convert t t' x) ⟨tm,bx,nx,lg⟩ K3 ⟨⟩ ⟨⟩ ⟨⟩=M9 P bx t t' (zp G tm x) (fun c=>K3 c ⟨tm,bx,nx,lg⟩) ⟨⟩:=(rfl)
theorem GG {fn:Fn} {fs cs:List Operand}:jn P G h (.makeFunc fn fs.toArray cs.toArray) ⟨tm,bx,nx,lg⟩ K3 ⟨⟩ ⟨⟩ ⟨⟩=K3 (.clo fn (fs.map (zp G tm)) (cs.map (zp G tm))) ⟨tm,bx,nx,lg⟩:=(rfl)
theorem zdS {lo hi mx:Option Operand}:jn P G h (.slice t x lo hi mx) ⟨tm,bx,nx,lg⟩ K3 ⟨⟩ ⟨⟩ ⟨⟩=xF P t (zp G tm x) (lo.map (zp G tm)) (hi.map (zp G tm)) (mx.map (zp G tm)) (fun c=>K3 c ⟨tm,bx,nx,lg⟩) ⟨⟩:=(rfl)
theorem zde {lo hi mx:Option Operand} {ev:Operand->C}:qR P G bx ev (.slice t x lo hi mx) nx K2 ⟨⟩ ⟨⟩ ⟨⟩=xF P t (ev x) (lo.map ev) (hi.map ev) (mx.map ev) (fun c=>K2 c nx) ⟨⟩:=(rfl)
theorem kN {f:Nat}:jn P G h (.fieldAddr t x f) ⟨tm,bx,nx,lg⟩ K3 ⟨⟩ ⟨⟩ ⟨⟩=XH P t (zp G tm x) f (fun c=>K3 c ⟨tm,bx,nx,lg⟩) ⟨⟩:=(rfl)
theorem Hz {f:Nat} {ev:Operand->C}:qR P G bx ev (.fieldAddr t x f) nx K2 ⟨⟩ ⟨⟩ ⟨⟩=XH P t (ev x) f (fun c=>K2 c nx) ⟨⟩:=(rfl)
theorem zc2 {f:Nat} {ev:Operand->C}:qR P G bx ev (.field t x f) nx K2 ⟨⟩ ⟨⟩ ⟨⟩=zcz P t (ev x) f (fun c=>K2 c nx) ⟨⟩:=(rfl)
theorem U1:jn P G h (.indexAddr t x y) ⟨tm,bx,nx,lg⟩ K3 ⟨⟩ ⟨⟩ ⟨⟩=XD P t (zp G tm x) (zp G tm y) (fun c=>K3 c ⟨tm,bx,nx,lg⟩) ⟨⟩:=(rfl)
theorem He {ev:Operand->C}:qR P G bx ev (.indexAddr t x y) nx K2 ⟨⟩ ⟨⟩ ⟨⟩=XD P t (ev x) (ev y) (fun c=>K2 c nx) ⟨⟩:=(rfl)
theorem zdT:jn P G h (.index t x y) ⟨tm,bx,nx,lg⟩ K3 ⟨⟩ ⟨⟩ ⟨⟩=M5 P t (zp G tm x) (zp G tm y) (fun c=>K3 c ⟨tm,bx,nx,lg⟩) ⟨⟩:=(rfl)
theorem zcA {ev:Operand->C}:qR P G bx ev (.index t x y) nx K2 ⟨⟩ ⟨⟩ ⟨⟩=M5 P t (ev x) (ev y) (fun c=>K2 c nx) ⟨⟩:=(rfl)
theorem xx {i:Nat}:jn P G h (.extract x i) ⟨tm,bx,nx,lg⟩ K3 ⟨⟩ ⟨⟩ ⟨⟩=Z7 (zp G tm x) i (fun c=>K3 c ⟨tm,bx,nx,lg⟩) ⟨⟩:=(rfl)
theorem MU {i:Nat} {ev:Operand->C}:qR P G bx ev (.extract x i) nx K2 ⟨⟩ ⟨⟩ ⟨⟩=Z7 (ev x) i (fun c=>K2 c nx) ⟨⟩:=(rfl)
theorem zdv {us:List Operand} {ts:List TypeId}:jn P G h (.call ⟨.value x,us.toArray,ts.toArray⟩) ⟨tm,bx,nx,lg⟩ K3 ⟨⟩ ⟨⟩ ⟨⟩=N7 P G h (zp G tm x) (us.map (zp G tm)) ⟨tm,bx,nx,lg⟩ K3 ⟨⟩ ⟨⟩:=(rfl)
theorem za4 {us:List Operand} {ts:List TypeId} {ev:Operand->C}:qR P G bx ev (.call ⟨.value x,us.toArray,ts.toArray⟩) nx K2 ⟨⟩ ⟨⟩ ⟨⟩=zdr P G (ev x) (us.map ev) nx K2 ⟨⟩:=(rfl)
theorem zkB:jn P G h (.call ⟨.builtin .len,#[x],#[t]⟩) ⟨tm,bx,nx,lg⟩ K3 ⟨⟩ ⟨⟩ ⟨⟩=xe P t (zp G tm x) (fun c=>K3 c ⟨tm,bx,nx,lg⟩) ⟨⟩:=(rfl)
theorem zkE {ev:Operand->C}:qR P G bx ev (.call ⟨.builtin .len,#[x],#[t]⟩) nx K2 ⟨⟩ ⟨⟩ ⟨⟩=xe P t (ev x) (fun c=>K2 c nx) ⟨⟩:=(rfl)
theorem MB {r:Option Operand}:jn P G h (.makeMap t r) ⟨tm,bx,nx,lg⟩ K3 ⟨⟩ ⟨⟩ ⟨⟩=zmY (zeA P t) t (r.map (zp G tm)) nx (fun c nx'=>K3 c ⟨tm,bx,nx',lg⟩) ⟨⟩:=(rfl)
theorem zmV {kd:MKd} {z:C}:zmY (some (kd,z)) t none nx K2 ⟨⟩=K2 (.mo nx t kd.nil []) (nx+1):=(rfl)
theorem ziS {k:IntKind}:MKd.nil (.int k) = .int k []:=(rfl)
theorem zaw {ok:Bool} {ev:Operand->C}:qR P G bx ev (.lookup t x y ok) nx K2 ⟨⟩ ⟨⟩ ⟨⟩=zle (zeA P t) t (ev x) (ev y) ok (fun c=>K2 c nx) ⟨⟩:=(rfl)
theorem zmZ {k k2 q:IntKind} {z:C} {id:Nat} {t2:TypeId} {l:List Int} {vs:List C} {n:Int} {ok:Bool}:zle (some (.int k,z)) t (.mo id t2 (.int k2 l) vs) (.sc (.int q n)) ok K ⟨⟩=(t2=t/\k2=k/\q=k/\zcI (zhS n l vs) z ok K ⟨⟩):=(rfl)
theorem ze3 {z:C}:zcI (some c) z false K ⟨⟩=K c:=(rfl)
theorem uo {w:Operand}:jn P G h (.insert t x y w) ⟨tm,bx,nx,lg⟩ K3 ⟨⟩ ⟨⟩ ⟨⟩=zla (zeA P t) t (zp G tm x) (zp G tm y) (zp G tm w) ⟨tm,bx,nx,lg⟩ K3 ⟨⟩:=(rfl)
theorem znD {k k2 q:IntKind} {z:C} {id:Nat} {t2:TypeId} {l:List Int} {vs:List C} {n:Int}:zla (some (.int k,z)) t (.mo id t2 (.int k2 l) vs) (.sc (.int q n)) d ⟨tm,bx,nx,lg⟩ K3 ⟨⟩=(t2=t/\k2=k/\q=k/\K3 .any ⟨zeB id (.int k (V8 n d.frz l vs).1) (V8 n d.frz l vs).2 tm,zdp id (.int k (V8 n d.frz l vs).1) (V8 n d.frz l vs).2 bx,nx,lg⟩):=(rfl)
theorem u5:jn P G h (.call ⟨.builtin .append,#[x,y],#[t,t]⟩) ⟨tm,bx,nx,lg⟩ K3 ⟨⟩ ⟨⟩ ⟨⟩=if h.bx t then if h.bx2 t then xc P t (zp G tm x) (zp G tm y) ⟨tm,bx,nx,lg⟩ K3 ⟨⟩ else xT P h.p t (zp G tm x) (zp G tm y) ⟨tm,bx,nx,lg⟩ K3 ⟨⟩ else kz P t (zp G tm x) (zp G tm y) ⟨tm,bx,nx,lg⟩ K3 ⟨⟩:=(show MI P G h (.call ⟨.builtin .append,#[x,y],#[t,t]⟩) ⟨tm,bx,nx,lg⟩ K3=if h.bx t then if h.bx2 t then JD P t (zp G tm x) (zp G tm y) ⟨tm,bx,nx,lg⟩ K3 else Vg P h.p t (zp G tm x) (zp G tm y) ⟨tm,bx,nx,lg⟩ K3 else Ho P t (zp G tm x) (zp G tm y) ⟨tm,bx,nx,lg⟩ K3 from by simp[MI,uZ])
theorem zgB (h0:(t'==t)=false):jn P G h (.call ⟨.builtin .append,#[x,y],#[t,t']⟩) ⟨tm,bx,nx,lg⟩ K3 ⟨⟩ ⟨⟩ ⟨⟩=yK P t t' (zp G tm x) (zp G tm y) ⟨tm,bx,nx,lg⟩ K3 ⟨⟩:=(show MI P G h (.call ⟨.builtin .append,#[x,y],#[t,t']⟩) ⟨tm,bx,nx,lg⟩ K3=kU P t t' (zp G tm x) (zp G tm y) ⟨tm,bx,nx,lg⟩ K3 from by simp only[beq_eq_false_iff_ne]at h0;simp[MI,uZ,h0])
theorem zhq:jn P G h (.call ⟨.builtin .copy,#[x,y],#[t,t']⟩) ⟨tm,bx,nx,lg⟩ K3 ⟨⟩ ⟨⟩ ⟨⟩=zcs P t (zp G tm x) (zp G tm y) ⟨tm,bx,nx,lg⟩ K3 ⟨⟩:=(show MI P G h (.call ⟨.builtin .copy,#[x,y],#[t,t']⟩) ⟨tm,bx,nx,lg⟩ K3=ZB P t (zp G tm x) (zp G tm y) ⟨tm,bx,nx,lg⟩ K3 from by simp[MI,uZ])
theorem zjb:jn P G h (.call ⟨.builtin .max,#[x,y],#[t,t']⟩) ⟨tm,bx,nx,lg⟩ K3 ⟨⟩ ⟨⟩ ⟨⟩=zlp (zp G tm x) (zp G tm y) (fun c=>K3 c ⟨tm,bx,nx,lg⟩) ⟨⟩:=(rfl)
theorem zoY {k k':IntKind} {n m:Int}:zlp (.sc (.int k n)) (.sc (.int k' m)) K ⟨⟩=K (.sc (.int k (if m>n then m else n))):=(rfl)
theorem zi8:jn P G h (.call ⟨.builtin .cap,#[x],#[t]⟩) ⟨tm,bx,nx,lg⟩ K3 ⟨⟩ ⟨⟩ ⟨⟩=zl2 P t (zp G tm x) (fun c=>K3 c ⟨tm,bx,nx,lg⟩) ⟨⟩:=(show MI P G h (.call ⟨.builtin .cap,#[x],#[t]⟩) ⟨tm,bx,nx,lg⟩ K3=znB P t (zp G tm x) fun c=>K3 c ⟨tm,bx,nx,lg⟩ from by simp[MI,uZ])
theorem zoG:zl2 P t c K ⟨⟩=zee (lay P t) c K ⟨⟩:=(rfl)
theorem zfc {i off k n cap:Nat} {e s1 b1:Nat} {z1:Option (List Value)}:zee (some ⟨.slice e,s1,b1,z1⟩) (.bs i off k n cap) K ⟨⟩=K (.sc (.int .i64 (cap:Int))):=(rfl)
theorem zbH {e s1 b1:Nat} {z1:Option (List Value)}:zee (some ⟨.slice e,s1,b1,z1⟩) (.sc (.slice none 0 0)) K ⟨⟩=K (.sc (.int .i64 0)):=(rfl)
theorem vQ {ev:Operand->C}:qR P G bx ev (.call ⟨.builtin .append,#[x,y],#[t,t]⟩) nx K2 ⟨⟩ ⟨⟩ ⟨⟩=kj P t (ev x) (ev y) nx K2 ⟨⟩:=(show jT P G bx ev (.call ⟨.builtin .append,#[x,y],#[t,t]⟩) nx K2=Q3 P t (ev x) (ev y) nx K2 from by simp[jT,GE,Vv])
theorem zem:jn P G h (.alloc t) ⟨tm,bx,nx,lg⟩ K3 ⟨⟩ ⟨⟩ ⟨⟩=zmI (lay P t) ⟨tm,bx,nx,lg⟩ K3 ⟨⟩:=(rfl)
theorem zkk:jn P G h (.box t x) ⟨tm,bx,nx,lg⟩ K3 ⟨⟩ ⟨⟩ ⟨⟩=znf (zp G tm x) ⟨tm,bx,nx,lg⟩ K3 ⟨⟩:=(rfl)
theorem zcg:jn P G h (.store t x y) ⟨tm,bx,nx,lg⟩ K3 ⟨⟩ ⟨⟩ ⟨⟩=zlW (lay P t) (zp G tm x) (zp G tm y) ⟨tm,bx,nx,lg⟩ K3 ⟨⟩:=(rfl)
theorem zgr {u:Tmp}:zp G tm (.tmp u)=qW tm u:=(rfl)
theorem vo {v:Value}:zp G tm (.const v)=zr v:=(rfl)
theorem zdd {f:FuncId}:zp G tm (.func f) = .clo (.func f) [] []:=(rfl)
theorem Mc {g:Nat}:zp G tm (.global g)=zpr (G g):=(rfl)
theorem xM {cs:List C}:zpr (some cs) = .row cs:=(rfl)
theorem zlb {u v:Nat} {r:List (Nat×C)}:qW ((u,c) :: r) v=if v=u then c else qW r v:=(rfl)
theorem xl {k:IntKind} {n:Int}:zr (.int k n) = .sc (.int k n):=(rfl)
theorem Nh {b:Bool}:zr (.bool b) = .sc (.bool b):=(rfl)
theorem Mf {l:List UInt8}:zr (.string ⟨l.toArray⟩) = .str l:=(rfl)
theorem kO {a:Option Addr} {n m:Nat}:zr (.slice a n m) = .sc (.slice a n m):=(rfl)
theorem Mb {a:Option Addr}:zr (.pointer a) = .sc (.pointer a):=(rfl)
theorem xm {a:Option Nat}:zr (.map a) = .sc (.map a):=(rfl)
theorem Gr:zr .nilFunc = .sc .nilFunc:=(rfl)
theorem zbx {op:BinOp} {k:IntKind} {a b:Int}:MT P t op (.sc (.int k a)) (.sc (.int k b)) K ⟨⟩=V7 op k a b K ⟨⟩:=(show zkY P t op (.sc (.int k a)) (.sc (.int k b)) K=znJ op k a b K from by simp[zkY])
theorem zbz {op:BinOp} {a b:List UInt8}:MT P t op (.str a) (.str b) K ⟨⟩=zdM op a b K ⟨⟩:=(rfl)
theorem zdk {op:BinOp} {cs ds:List C}:MT P t op (.agg cs) (.agg ds) K ⟨⟩=zmj op (UG P t) cs ds K ⟨⟩:=(rfl)
theorem GF {op:BinOp} {k:Nat} {rows:List (List C)}:MT P t op (.sl k rows) (.sc (.slice none 0 0)) K ⟨⟩=yk (lay P t) op (.sl k rows) K ⟨⟩:=(rfl)
theorem zej {op:BinOp} {e0:TypeId} {k0 b0:Nat} {z0:Option (List Value)} {k:Nat} {rows:List (List C)}:yk (some ⟨.slice e0,k0,b0,z0⟩) op (.sl k rows) K ⟨⟩=(rows≠[]/\zdx op false K ⟨⟩):=(rfl)
theorem G8 {op:BinOp} {a:Option Addr} {n cap:Nat}:MT P t op (.sc (.slice a n cap)) (.sc (.slice none 0 0)) K ⟨⟩=yk (lay P t) op (.sc (.slice a n cap)) K ⟨⟩:=(rfl)
theorem zd7 {op:BinOp} {e0:TypeId} {k0 b0:Nat} {z0:Option (List Value)} {a:Option Addr} {n cap:Nat}:yk (some ⟨.slice e0,k0,b0,z0⟩) op (.sc (.slice a n cap)) K ⟨⟩=zdx op a.isNone K ⟨⟩:=(rfl)
theorem zah {b:Bool}:zdx .eql b K ⟨⟩=K (.sc (.bool b)):=(rfl)
theorem zbJ {lk:List LK} {cs ds:List C}:zmj .neq (some lk) cs ds K ⟨⟩=zid true lk cs ds true K ⟨⟩:=(rfl)
theorem zap {e:Bool}:zid true [] [] [] e K ⟨⟩=K (.sc (.bool (!e))):=(rfl)
theorem zfQ {n e:Bool} {lk:List LK} {k k1 k2:IntKind} {a b:Int} {cs ds:List C}:zid n (.int k :: lk) (.sc (.int k1 a) :: cs) (.sc (.int k2 b) :: ds) e K ⟨⟩=(k1=k/\k2=k/\zid n lk cs ds (e&&decide (a=b)) K ⟨⟩):=(rfl)
theorem zbl {n e:Bool} {lk:List LK} {a b:Bool} {cs ds:List C}:zid n (.bool :: lk) (.sc (.bool a) :: cs) (.sc (.bool b) :: ds) e K ⟨⟩=zid n lk cs ds (e&&(a==b)) K ⟨⟩:=(rfl)
theorem zfi {n e:Bool} {lk:List LK} {a b:List UInt8} {cs ds:List C}:zid n (.str :: lk) (.str a :: cs) (.str b :: ds) e K ⟨⟩=zid n lk cs ds (e&&decide (a=b)) K ⟨⟩:=(rfl)
theorem zdV {k:IntKind} {a b:Int}:V7 .add k a b K ⟨⟩=(inR k (a+b)/\K (.sc (.int k (a+b)))):=(rfl)
theorem zer {k:IntKind} {a b:Int}:V7 .sub k a b K ⟨⟩=(inR k (a-b)/\K (.sc (.int k (a-b)))):=(rfl)
theorem zcJ {k:IntKind} {a b:Int}:V7 .shr k a b K ⟨⟩=(b=1/\K (.sc (.int k (a / 2)))):=(rfl)
theorem za6 {k:IntKind} {a b:Int}:V7 .eql k a b K ⟨⟩=(K (.sc (.bool (decide (a=b))))):=(rfl)
theorem zcR {k:IntKind} {a b:Int}:V7 .neq k a b K ⟨⟩=(K (.sc (.bool (!decide (a=b))))):=(rfl)
theorem zdA {k:IntKind} {a b:Int}:V7 .lss k a b K ⟨⟩=(K (.sc (.bool (decide (a<b))))):=(rfl)
theorem zbo {k:IntKind} {a b:Int}:V7 .leq k a b K ⟨⟩=(K (.sc (.bool (decide (a<=b))))):=(rfl)
theorem zcV {k:IntKind} {a b:Int}:V7 .gtr k a b K ⟨⟩=(K (.sc (.bool (decide (b<a))))):=(rfl)
theorem zdt {k:IntKind} {a b:Int}:V7 .geq k a b K ⟨⟩=(K (.sc (.bool (decide (b<=a))))):=(rfl)
theorem zdB {a b:List UInt8}:zdM .add a b K ⟨⟩=(((a.length+b.length:Nat):Int)<=9223372036854775807/\K (.str (a++b))):=(rfl)
theorem zb9 {a b:List UInt8}:zdM .eql a b K ⟨⟩=(K (.sc (.bool (decide (a=b))))):=(rfl)
theorem zbQ {a b:List UInt8}:zdM .neq a b K ⟨⟩=(K (.sc (.bool (!decide (a=b))))):=(rfl)
theorem za3 {a b:List UInt8}:zdM .geq a b K ⟨⟩=(K (.sc (.bool (!Op.bytesLess a b)))):=(rfl)
theorem zgR {b:Bool}:zo3 .not (.sc (.bool b)) K ⟨⟩=K (.sc (.bool (!b))):=(rfl)
theorem zbB {cs:List C} {i:Nat}:Z7 (.tup cs) i K ⟨⟩=zj7 (cs[i]?) K ⟨⟩:=(rfl)
theorem zoI:zj7 (some c) K ⟨⟩=K c:=(rfl)
theorem zbO {i off:Nat}:zjm (.ptr i off) K ⟨⟩=K (.ptr i off):=(rfl)
theorem zmc:xR P t c bx K ⟨⟩=M4 (lay P t) c bx K ⟨⟩:=(rfl)
theorem zd9 {ev:Operand->C}:qR P G bx ev (.store t x y) nx K2 ⟨⟩ ⟨⟩ ⟨⟩=zm2 (lay P t) (ev x) (ev y) bx (fun c=>K2 c nx) ⟨⟩:=(rfl)
theorem zo1 {L:Lay} {i off:Nat}:zm2 (some L) (.ptr i off) c bx K ⟨⟩=zls (bx[i]?) off L.size c K ⟨⟩:=(rfl)
theorem zoW {cs:List C} {off size:Nat}:zls (some cs) off size c K ⟨⟩=(c.partB=true/\(c.cells.all C.cellB)=true/\c.cells.length=size/\off+size<=cs.length/\Zy ((cs.drop off).take size) c.cells/\K .any):=(rfl)
theorem vC:Zy [] []=True:=(rfl)
theorem zb4 {u v:Value} {r s:List C}:Zy (.sc u :: r) (.sc v :: s)=(u=v/\Zy r s):=(rfl)
theorem vp {u v:List UInt8} {r s:List C}:Zy (.str u :: r) (.str v :: s)=(u=v/\Zy r s):=(rfl)
theorem uv {L:Lay} {i off:Nat}:M4 (some L) (.ptr i off) bx K ⟨⟩=zen (bx[i]?) off L K ⟨⟩:=(rfl)
theorem uy {L:Lay} {cs:List C}:M4 (some L) (.row cs) bx K ⟨⟩=Zn L cs K ⟨⟩:=(rfl)
theorem zjD {L:Lay} {off:Nat} {cs:List C}:zen (some cs) off L K ⟨⟩=Zn L (cs.drop off) K ⟨⟩:=(rfl)
theorem U5 {fs:List (Nat×Nat×Bool)} {s b:Nat} {z1:Option (List Value)} {cs:List C}:Zn ⟨.struct fs,s,b,z1⟩ cs K ⟨⟩=(s<=cs.length/\K (.agg (cs.take s))):=(show Jh ⟨.struct fs,s,b,z1⟩ cs K=(s<=cs.length/\K (.agg (cs.take s))) from by simp[Jh,LK.agg])
theorem zaa {ik:IntKind} {s b:Nat} {z1:Option (List Value)} {r:List C}:Zn ⟨.int ik,s,b,z1⟩ (c :: r) K ⟨⟩=K c:=(show Jh ⟨.int ik,s,b,z1⟩ (c :: r) K=K c from by simp[Jh,LK.agg])
theorem NY {s b:Nat} {z1:Option (List Value)} {r:List C}:Zn ⟨.bool,s,b,z1⟩ (c :: r) K ⟨⟩=K c:=(show Jh ⟨.bool,s,b,z1⟩ (c :: r) K=K c from by simp[Jh,LK.agg])
theorem vV {s b:Nat} {z1:Option (List Value)} {r:List C}:Zn ⟨.str,s,b,z1⟩ (c :: r) K ⟨⟩=K c:=(show Jh ⟨.str,s,b,z1⟩ (c :: r) K=K c from by simp[Jh,LK.agg])
theorem GU {e:TypeId} {s b:Nat} {z1:Option (List Value)} {r:List C}:Zn ⟨.slice e,s,b,z1⟩ (c :: r) K ⟨⟩=K c:=(show Jh ⟨.slice e,s,b,z1⟩ (c :: r) K=K c from by simp[Jh,LK.agg])
theorem HH {s b:Nat} {z1:Option (List Value)} {r:List C}:Zn ⟨.other,s,b,z1⟩ (c :: r) K ⟨⟩=K c:=(show Jh ⟨.other,s,b,z1⟩ (c :: r) K=K c from by simp[Jh,LK.agg])
theorem zkH {f:Nat}:zcz P t c f K ⟨⟩=y8 (lay P t) c f K ⟨⟩:=(rfl)
theorem zgv {fs:List (Nat×Nat×Bool)} {s b:Nat} {z1:Option (List Value)} {cs:List C} {f:Nat}:y8 (some ⟨.struct fs,s,b,z1⟩) (.agg cs) f K ⟨⟩=yV (fs[f]?) cs K ⟨⟩:=(show xI (some ⟨.struct fs,s,b,z1⟩) (.agg cs) f K=ZZ (fs[f]?) cs K from by unfold xI ZZ;simp only[];cases fs[f]?<;>simp)
theorem zba {off size:Nat} {cs:List C}:yV (some (off,size,false)) cs K ⟨⟩=zj7 (cs[off]?) K ⟨⟩:=(show ZZ (some (off,size,false)) cs K=zor (cs[off]?) K from by unfold ZZ zor;simp)
theorem zpJ {f:Nat}:XH P t c f K ⟨⟩=zk8 (lay P t) c f K ⟨⟩:=(rfl)
theorem zop {fs:List (Nat×Nat×Bool)} {s b:Nat} {z1:Option (List Value)} {f:Nat}:zk8 (some ⟨.struct fs,s,b,z1⟩) c f K ⟨⟩=zkO (fs[f]?) c K ⟨⟩:=(rfl)
theorem zhJ {off size i q:Nat} {g:Bool}:zkO (some (off,size+1,g)) (.ptr i q) K ⟨⟩=K (.ptr i (q+off)):=(show zmz (some (off,size+1,g)) (.ptr i q) K=K (.ptr i (q+off)) from by simp[zmz])
theorem zgW {off size:Nat} {g:Bool} {cs:List C}:zkO (some (off,size+1,g)) (.row cs) K ⟨⟩=K (.row (cs.drop off)):=(show zmz (some (off,size+1,g)) (.row cs) K=K (.row (cs.drop off)) from by simp[zmz])
theorem zpD:XD P t c d K ⟨⟩=zit P (lay P t) c d K ⟨⟩:=(rfl)
theorem zal {e s b:Nat} {z1:Option (List Value)} {k:IntKind} {n:Int}:zit P (some ⟨.slice e,s,b,z1⟩) c (.sc (.int k n)) K ⟨⟩=zfm (lay P e) c n K ⟨⟩:=(rfl)
theorem um {m e s b:Nat} {z1:Option (List Value)} {k:IntKind} {n:Int}:zit P (some ⟨.array (m+1) e,s,b,z1⟩) c (.sc (.int k n)) K ⟨⟩=zlY (lay P e) c m n K ⟨⟩:=(rfl)
theorem zbr {k:Nat} {rows:List (List C)} {L:Lay} {n:Int}:zfm (some L) (.sl k rows) n K ⟨⟩=zke (C.rows? L.size (.sl k rows)) n K ⟨⟩:=(rfl)
theorem zbs {k:Nat} {rows:List (List C)} {L:Lay} {lo hi mx:Option Int}:zfK (some L) (.sl k rows) lo hi mx K ⟨⟩=ziR (C.rows? L.size (.sl k rows)) L.size lo hi mx K ⟨⟩:=(rfl)
theorem uS {id e k:Nat} {rows:List (List C)} {L:Lay} {n:Int}:zfm (some L) (.own id e k rows) n K ⟨⟩=zke (C.rows? L.size (.own id e k rows)) n K ⟨⟩:=(rfl)
theorem MO {id e k:Nat} {rows:List (List C)} :M9 P bx t t' (.own id e k rows) K ⟨⟩=zdc P t t' (.own id e k rows) K ⟨⟩:=(rfl)
theorem vD {L:Lay} {lo hi mx:Option Int}:zfK (some L) (.sc (.slice none 0 0)) lo hi mx K ⟨⟩=zmo L.size lo hi mx K ⟨⟩:=(rfl)
theorem zo5 {k:Nat} {lo hi:Option Int}:zmo k lo hi none K ⟨⟩=(ja 0 lo hi/\K (.sc (.slice none 0 0))):=(rfl)
theorem vW {v:Value} :M9 P bx t t' (.sc v) K ⟨⟩=zdc P t t' (.sc v) K ⟨⟩:=(rfl)
theorem zb7 {L:Lay} {n:Int} {j off k m1 cap:Nat}:zfm (some L) (.bs j off k m1 cap) n K ⟨⟩=(k=L.size/\0<=n/\n<(m1:Int)/\K (.ptr j (off+n.toNat*L.size))):=(rfl)
theorem zdm {L:Lay} {lo hi mx:Option Int} {i off k n cap:Nat}:zfK (some L) (.bs i off k n cap) lo hi mx K ⟨⟩=zjI L.size i off k n cap lo hi mx K ⟨⟩:=(rfl)
theorem zfB {b:Int} {sz i off k n cap:Nat}:zjI sz i off k n cap none (some b) none K ⟨⟩=(n<=cap/\(0<=b/\b<=(cap:Int))/\K (.bs i off k b.toNat cap)):=(rfl)
theorem zfv {a:Int} {sz i off k n cap:Nat}:zjI sz i off k n cap (some a) none none K ⟨⟩=(sz=k/\n<=cap/\(0<=a/\a<=(n:Int))/\K (.bs i (off+a.toNat*k) k (n-a.toNat) (cap-a.toNat))):=(rfl)
theorem zgn {i off k n cap:Nat}:xe P t (.bs i off k n cap) K ⟨⟩=GH (lay P t) (n:Int) K ⟨⟩:=(rfl)
theorem zpG {n:Nat} {ps:List (Nat×C)}:Um P t n ps ⟨tm,bx,nx,lg⟩ K3 ⟨⟩=zlk P (lay P t) n ps ⟨tm,bx,nx,lg⟩ K3 ⟨⟩:=(rfl)
theorem zoE {e s b n:Nat} {z1:Option (List Value)} {ps:List (Nat×C)}:zlk P (some ⟨.slice e,s,b,z1⟩) n ps σ K3 ⟨⟩=zlD (lay P e) n ps σ K3 ⟨⟩:=(rfl)
theorem zoP {kd:LK} {k b n:Nat} {z1:List Value} {ps:List (Nat×C)}:zlD (some ⟨kd,k,b,some z1⟩) n ps σ K3 ⟨⟩=(z1.length=k/\0<k/\n*k<=16777216/\(ps.all fun p=>p.2.frz.partB)=true/\zmq (J0 (plA k) (List.replicate n (z1.map zr)).flatten (ps.map fun p=>(p.1,p.2.frz))) k n σ K3 ⟨⟩):=(rfl)
theorem zod {cs:List C} {k n:Nat}:zmq (some cs) k n ⟨tm,bx,nx,lg⟩ K3 ⟨⟩=((cs.all C.cellB)=true/\cs.length=n*k/\K3 (.bs bx.length 0 k n n) ⟨tm,bx++[cs],nx,lg⟩):=(rfl)
theorem zpU:xT P p t c d ⟨tm,bx,nx,lg⟩ K3 ⟨⟩=zmR P (lay P t) p c d ⟨tm,bx,nx,lg⟩ K3 ⟨⟩:=(rfl)
theorem zou {e s b:Nat} {z1:Option (List Value)}:zmR P (some ⟨.slice e,s,b,z1⟩) p c d σ K3 ⟨⟩=zlS (lay P e) p c d σ K3 ⟨⟩:=(rfl)
theorem zoi {kd:LK} {k b:Nat} {z1:List Value}:zlS (some ⟨kd,k,b,some z1⟩) p c d ⟨tm,bx,nx,lg⟩ K3 ⟨⟩=zmx (d.xs? k bx) p k b z1 c ⟨tm,bx,nx,lg⟩ K3 ⟨⟩:=(rfl)
theorem zj4 {i off k k2 n cap:Nat}:C.xs? k bx (.bs i off k2 n cap)=xsB k2 k off n (bx[i]?):=(rfl)
theorem zlQ {k off n:Nat} {cs:List C}:xsB k k off n (some cs)=if off+n*k<=cs.length then some (n,(cs.drop off).take (n*k)) else none:=(show xsB k k off n (some cs)=if off+n*k<=cs.length then some (n,(cs.drop off).take (n*k)) else none from by simp[xsB])
theorem zkb {i:Nat} {cs:List C}:X6 i cs bx=(HF (j6 i) some bx).set i cs:=(rfl)
theorem zjK {i j:Nat}:j6 i j=if j=i then none else some j:=(rfl)
theorem zgT {i off k n cap:Nat}:C.frz (.bs i off k n cap) = .any:=(show C.frz (.bs i off k n cap) = .any from by rw[C.frz])
theorem zi6 {i off k n cap:Nat} {fp fo:Nat->Option Nat}:C.re fp fo (.bs i off k n cap)=bsO (fp i) off k n cap:=(show C.re fp fo (.bs i off k n cap)=bsO (fp i) off k n cap from by rw[C.re];rfl)
theorem zlx {j off k n cap:Nat}:bsO (some j) off k n cap = .bs j off k n cap:=(rfl)
theorem znv {off k n cap:Nat}:bsO none off k n cap = .any:=(rfl)
theorem uc {i off k n cap:Nat}:C.cellB (.bs i off k n cap)=true:=(rfl)
theorem vS {i off k n cap:Nat}:C.partB (.bs i off k n cap)=true:=(rfl)
theorem uE {i off k n cap:Nat}:C.cells (.bs i off k n cap) = [.bs i off k n cap]:=(rfl)
theorem zlO {rows:List (List C)} {n:Int}:zke (some rows) n K ⟨⟩=zpt (rows[n.toNat]?) n K ⟨⟩:=(rfl)
theorem zqg {r:List C} {n:Int}:zpt (some r) n K ⟨⟩=(0<=n/\K (.row r)):=(rfl)
theorem ziT {L:Lay} {m:Nat} {n:Int} {cs:List C}:zlY (some L) (.row cs) m n K ⟨⟩=(0<=n/\n<((m+1:Nat):Int)/\K (.row (cs.drop (n.toNat*L.size)))):=(rfl)
theorem zpC:M5 P t c d K ⟨⟩=zlL (lay P t) c d K ⟨⟩:=(rfl)
theorem znT {s b:Nat} {z1:Option (List Value)} {l:List UInt8} {k:IntKind} {n:Int}:zlL (some ⟨.str,s,b,z1⟩) (.str l) (.sc (.int k n)) K ⟨⟩=zhU (l[n.toNat]?) n K ⟨⟩:=(show zn7 (some ⟨.str,s,b,z1⟩) (.str l) (.sc (.int k n)) K=zjn (l[n.toNat]?) n K from by unfold zn7 zjn;simp)
theorem zmC {b:UInt8} {n:Int}:zhU (some b) n K ⟨⟩=(0<=n/\K (.sc (.int .u8 (b.toNat:Int)))):=(rfl)
theorem zpY {lo hi mx:Option C}:xF P t c lo hi mx K ⟨⟩=zmK P t c (y5 lo) (y5 hi) (y5 mx) K ⟨⟩:=(rfl)
theorem zoB {lo hi mx:Option Int}:zmK P t c (some lo) (some hi) (some mx) K ⟨⟩=zi5 P (lay P t) c lo hi mx K ⟨⟩:=(rfl)
theorem vn:y5 none=some none:=(rfl)
theorem zbe {k:IntKind} {n:Int}:y5 (some (.sc (.int k n)))=some (some n):=(rfl)
theorem zhb {s b:Nat} {z1:Option (List Value)} {l:List UInt8} {lo hi:Option Int}:zi5 P (some ⟨.str,s,b,z1⟩) (.str l) lo hi none K ⟨⟩=(ja l.length lo hi/\K (.str (cut l lo hi))):=(rfl)
theorem uz {e s b:Nat} {z1:Option (List Value)} {lo hi mx:Option Int}:zi5 P (some ⟨.slice e,s,b,z1⟩) c lo hi mx K ⟨⟩=zfK (lay P e) c lo hi mx K ⟨⟩:=(rfl)
theorem znk {rows:List (List C)} {k:Nat} {lo hi:Option Int}:ziR (some rows) k lo hi none K ⟨⟩=(ja rows.length lo hi/\K (.sl k (cut rows lo hi))):=(rfl)
theorem zl1 {rows:List (List C)} {k:Nat} {lo:Option Int} {h m:Int}:ziR (some rows) k lo (some h) (some m) K ⟨⟩=(m=h/\ja rows.length lo (some h)/\K (.tight k (cut rows lo (some h)))):=(rfl)
theorem zgd {α:Type} {l:List α} {a:Int}:cut l (some a) none=l.drop a.toNat:=(rfl)
theorem zfI {α:Type} {l:List α} {b:Int}:cut l none (some b)=l.take b.toNat:=(rfl)
theorem zgt {α:Type} {l:List α} {a b:Int}:cut l (some a) (some b)=(l.take b.toNat).drop a.toNat:=(rfl)
theorem vF {n:Nat} {a:Int}:ja n (some a) none=(0<=a/\a<=(n:Int)):=(rfl)
theorem zab {n:Nat} {b:Int}:ja n none (some b)=(0<=b/\b<=(n:Int)):=(rfl)
theorem uh {n:Nat} {a b:Int}:ja n (some a) (some b)=(0<=a/\a<=b/\b<=(n:Int)):=(rfl)
theorem zda {k:Nat} {rows:List (List C)}:C.rows? k (.sl k rows)=some rows:=(show C.rows? k (.sl k rows)=some rows from by simp[C.rows?])
theorem vR {id e:Nat} {k:Nat} {rows:List (List C)}:C.rows? k (.own id e k rows)=some rows:=(show C.rows? k (.own id e k rows)=some rows from by simp[C.rows?])
theorem zlq:zdc P t t' c K ⟨⟩=zhC P (lay P t') (lay P t) c K ⟨⟩:=(rfl)
theorem vw {k k0:IntKind} {n:Int} {s b:Nat} {z1:Option (List Value)} {L:Lay}:zhC P (some ⟨.int k,s,b,z1⟩) (some L) (.sc (.int k0 n)) K ⟨⟩=(inR k n/\K (.sc (.int k n))):=(rfl)
theorem zfA {s b s2 b2:Nat} {z1 z2:Option (List Value)} {k k0:IntKind} {n:Int}:zhC P (some ⟨.str,s,b,z1⟩) (some ⟨.int k,s2,b2,z2⟩) (.sc (.int k0 n)) K ⟨⟩=K (.str (Utf8.encode n).data.toList):=(rfl)
theorem zhy {e s b s2 b2:Nat} {z1 z2:Option (List Value)}:zhC P (some ⟨.str,s,b,z1⟩) (some ⟨.slice e,s2,b2,z2⟩) c K ⟨⟩=zmv (lay P e) c K ⟨⟩:=(rfl)
theorem zcn {s b:Nat} {z1:Option (List Value)}:zmv (some ⟨.int .u8,s,b,z1⟩) c K ⟨⟩=zjC (c.rows? 1) K ⟨⟩:=(rfl)
theorem zcF {l:List UInt8}:xe P t (.str l) K ⟨⟩=zia (lay P t) (l.length:Int) K ⟨⟩:=(rfl)
theorem zeS {k:Nat} {rows:List (List C)}:xe P t (.sl k rows) K ⟨⟩=GH (lay P t) (rows.length:Int) K ⟨⟩:=(rfl)
theorem zce {id e:Nat} {k:Nat} {rows:List (List C)}:xe P t (.own id e k rows) K ⟨⟩=GH (lay P t) (rows.length:Int) K ⟨⟩:=(rfl)
theorem zaY:xe P t (.sc (.slice none 0 0)) K ⟨⟩=GH (lay P t) 0 K ⟨⟩:=(rfl)
theorem zmF {e s b:Nat} {z1:Option (List Value)} {n:Int}:GH (some ⟨.slice e,s,b,z1⟩) n K ⟨⟩=K (.sc (.int .i64 n)):=(rfl)
theorem zlw {s b:Nat} {z1:Option (List Value)} {n:Int}:zia (some ⟨.str,s,b,z1⟩) n K ⟨⟩=K (.sc (.int .i64 n)):=(rfl)
theorem ziC {ps:List (Nat×C)}:xN P t ps K ⟨⟩=znt (lay P t) ps K ⟨⟩:=(rfl)
theorem zf8 {fs:List (Nat×Nat×Bool)} {s b:Nat} {z1:List Value} {ps:List (Nat×C)}:znt (some ⟨.struct fs,s,b,some z1⟩) ps K ⟨⟩=((ps.all fun p=>p.2.partB)=true/\zpp (J0 (plS fs) (z1.map zr) ps) K ⟨⟩):=(show zok (some ⟨.struct fs,s,b,some z1⟩) ps K=((ps.all fun p=>p.2.partB)=true/\aFl (J0 (plS fs) (z1.map zr) ps) K) from by unfold zok aFl;simp only[];rfl)
theorem zpQ {cs:List C}:zpp (some cs) K ⟨⟩=K (.agg cs):=(rfl)
theorem zi7 {place:Nat->Option (Nat×Nat)} {cs:List C}:J0 place cs []=some cs:=(rfl)
theorem zms {place:Nat->Option (Nat×Nat)} {cs:List C} {i:Nat} {rest:List (Nat×C)}:J0 place cs ((i,c) :: rest)=zh4 (place i) place cs c.cells rest:=(rfl)
theorem zkw {place:Nat->Option (Nat×Nat)} {cs l:List C} {off size:Nat} {rest:List (Nat×C)}:zh4 (some (off,size)) place cs l rest=(if l.length=size/\off+size<=cs.length then J0 place (cs.take off++l++cs.drop (off+size)) rest else none):=(rfl)
theorem zoj {fs:List (Nat×Nat×Bool)} {i:Nat}:plS fs i=(fs[i]?).map fun f=>(f.1,f.2.1):=(rfl)
theorem zoK {k i:Nat}:plA k i=some (i*k,k):=(rfl)
theorem zp9 {n:Nat} {ps:List (Nat×C)}:Y7 P t n ps nx K2 ⟨⟩=zm9 P (lay P t) n ps nx K2 ⟨⟩:=(rfl)
theorem zo7 {e s b n:Nat} {z1:Option (List Value)} {ps:List (Nat×C)}:zm9 P (some ⟨.slice e,s,b,z1⟩) n ps nx K2 ⟨⟩=znb (lay P e) e n ps nx K2 ⟨⟩:=(rfl)
theorem zoC {kd:LK} {k b e n:Nat} {z1:List Value} {ps:List (Nat×C)}:znb (some ⟨kd,k,b,some z1⟩) e n ps nx K2 ⟨⟩=(z1.length=k/\0<k/\n*k<=16777216/\(ps.all fun p=>p.2.frz.partB)=true/\zmu (J0 (plA k) (List.replicate n (z1.map zr)).flatten (ps.map fun p=>(p.1,p.2.frz))) e k n nx K2 ⟨⟩):=(rfl)
theorem zpe {cs:List C} {e k n:Nat}:zmu (some cs) e k n nx K2 ⟨⟩=((cs.all C.cellB)=true/\cs.length=n*k/\K2 (.own nx e k (Xq k n cs)) (nx+1)):=(rfl)
theorem zdy {id e k:Nat} {rows:List (List C)}:kz P t (.own id e k rows) d ⟨tm,bx,nx,lg⟩ K3 ⟨⟩=znj P (lay P t) id e k rows d ⟨tm,bx,nx,lg⟩ K3 ⟨⟩:=(rfl)
theorem zbq:kz P t (.sc (.slice none 0 0)) d ⟨tm,bx,nx,lg⟩ K3 ⟨⟩=kj P t (.sc (.slice none 0 0)) d nx (fun c nx'=>K3 c ⟨tm,bx,nx',lg⟩) ⟨⟩:=(rfl)
theorem zl9:kj P t c d nx K2 ⟨⟩=zny P (lay P t) c d nx K2 ⟨⟩:=(rfl)
theorem zot {e s b:Nat} {z1:Option (List Value)}:zny P (some ⟨.slice e,s,b,z1⟩) c d nx K2 ⟨⟩=zlH (lay P e) e c d nx K2 ⟨⟩:=(rfl)
theorem zoZ {kd:LK} {k b e:Nat} {z1:List Value}:zlH (some ⟨kd,k,b,some z1⟩) e c d nx K2 ⟨⟩=ziv (d.rows? k) c e k b z1 nx K2 ⟨⟩:=(rfl)
theorem zlF {k b e:Nat} {z1:List Value} {xs:List (List C)}:ziv (some xs) (.sc (.slice none 0 0)) e k b z1 nx K2 ⟨⟩=(z1.length=k/\0<k/\xs.length<=9223372036854775807/\xs.length*b<=140737488355328/\K2 (.own nx e k xs) (nx+1)):=(rfl)
theorem zl8 {k k0 b e:Nat} {z1:List Value} {xs rows:List (List C)}:ziv (some xs) (.tight k0 rows) e k b z1 nx K2 ⟨⟩=(k0=k/\z1.length=k/\0<k/\rows.length+xs.length<=9223372036854775807/\(rows.length+xs.length)*b<=140737488355328/\(xs = []->K2 (.tight k0 rows) nx)/\(¬xs = []->K2 (.own nx e k (rows++xs)) (nx+1))):=(rfl)
theorem zfR {a b:Nat} (h:Nat.ble a b=true):a<=b:=Nat.le_of_ble_eq_true h
theorem lS:(∀ {α:Type} (a b:List α),(a++b).length=a.length+b.length)/\(∀ {α:Type} (a:α) (b:List α),(a :: b).length=b.length+1)/\(∀ {α:Type},([]:List α).length=0)/\(∀ {α β:Type} (f:α->β) (l:List α),(l.map f).length=l.length)/\(∀ {α:Type} (n:Nat) (l:List α),(l.take n).length=min n l.length)/\∀ {α:Type} (n:Nat) (l:List α),(l.drop n).length=l.length-n:=⟨fun _ _=>List.length_append,fun _ _=>List.length_cons,List.length_nil,fun _ _=>List.length_map _,fun _ _=>List.length_take,fun _ _=>List.length_drop⟩
theorem zox {α:Type} {x:α} {l:List α}:((x :: l) = [])=False:=by simp
theorem zpu {p:Prop}:(True->p)=p:=by simp
theorem zp4 {p:Prop}:(False->p)=True:=by simp
theorem zpx:(¬False)=True:=by simp
theorem zn0 {e0 s b id e k:Nat} {z1:Option (List Value)} {rows:List (List C)}:znj P (some ⟨.slice e0,s,b,z1⟩) id e k rows c σ K3 ⟨⟩=zll (lay P e) e0 id e k rows c σ K3 ⟨⟩:=(rfl)
theorem zn4 {kd:LK} {k0 b e0 id e k:Nat} {z1:List Value} {rows:List (List C)}:zll (some ⟨kd,k0,b,some z1⟩) e0 id e k rows c σ K3 ⟨⟩=(e0=e/\k0=k/\z1.length=k/\0<k/\zlV (c.rows? k) b id e k rows σ K3 ⟨⟩):=(show zof (some ⟨kd,k0,b,some z1⟩) e0 id e k rows c σ K3=(e0=e/\k0=k/\z1.length=k/\0<k/\zo8 (c.rows? k) b id e k rows σ K3) from by unfold zof zo8;simp only[];cases c.rows? k<;>simp)
theorem zn9 {xs rows:List (List C)} {b id e k:Nat}:zlV (some xs) b id e k rows ⟨tm,bx,nx,lg⟩ K3 ⟨⟩=(rows.length+xs.length<=9223372036854775807/\(rows.length+xs.length)*b<=140737488355328/\K3 (.own id e k (rows++xs)) ⟨uu id tm,NQ id bx,nx,lg⟩):=(rfl)
theorem zjq {f:FuncId} {fs cs args:List C}:N7 P G h (.clo (.func f) fs cs) args ⟨tm,bx,nx,lg⟩ K3 ⟨⟩ ⟨⟩=Q0 P G f (fs++args++cs) (C.frzL (fs++args++cs)) ⟨tm,bx,nx,lg⟩ K3 ⟨⟩:=(rfl)
theorem zkT {l:Nat} {items:List (List C)} {sf:Nat->Bool} {args:List C}:N7 P G ⟨p,some ⟨l,items,sf⟩,bf⟩ (.sc (.func (.yield l) #[] #[])) args ⟨tm,bx,nx,lg⟩ K3 ⟨⟩ ⟨⟩=yO ⟨l,items,sf⟩ (items[lg]?) args ⟨tm,bx,nx,lg⟩ K3 ⟨⟩ ⟨⟩:=(show Ns P G ⟨p,some ⟨l,items,sf⟩,bf⟩ (.sc (.func (.yield l) #[] #[])) args ⟨tm,bx,nx,lg⟩ K3=kH ⟨l,items,sf⟩ (items[lg]?) args ⟨tm,bx,nx,lg⟩ K3 from by simp[Ns,x8])
theorem zfd {l:Nat} {items:List (List C)} {sf:Nat->Bool} {args it:List C}:yO ⟨l,items,sf⟩ (some it) args ⟨tm,bx,nx,lg⟩ K3 ⟨⟩ ⟨⟩=(ze [] 0 args it/\(∀ j,j<lg->sf j=false)/\K3 (.sc (.bool (!sf lg))) ⟨tm,bx,nx,lg+1⟩):=(rfl)
theorem zk7 {ι:List Nat} {j:Nat}:upB ι m j=match ι[j]? with | some i=>some i | none=>some (m+(j-ι.length)):=(rfl)
theorem zog {i:Nat}:Xk [] i=none:=(rfl)
theorem zn6 {x1 i:Nat} {r:List Nat}:Xk (x1 :: r) i=if i=x1 then some 0 else (Xk r i).map (·+1):=(rfl)
theorem zkt {fp fo:Nat->Option Nat}:Ul fp fo [] = []:=(rfl)
theorem znh {fp fo:Nat->Option Nat} {u:Nat} {r:List (Nat×C)}:Ul fp fo ((u,c) :: r)=(u,c.re fp fo) :: Ul fp fo r:=(rfl)
theorem zix {fp fo:Nat->Option Nat}:HF fp fo [] = []:=(rfl)
theorem znn {fp fo:Nat->Option Nat} {cs:List C} {r:List (List C)}:HF fp fo (cs :: r)=C.reL fp fo cs :: HF fp fo r:=(rfl)
theorem zff {l:List (List C)}:QI [] l bx=bx:=(rfl)
theorem zfD {i:Nat} {ι:List Nat} {cs:List C} {r:List (List C)}:QI (i :: ι) (cs :: r) bx=QI ι r (bx.set i cs):=(rfl)
theorem zfa {ι κ:List Nat} {n:Nat}:Zl ι κ bx' n ⟨tm,bx,nx,lg⟩=⟨Ul some (X9 κ) tm,QI ι (HF (upB ι bx.length) (upO nx) bx') (HF some (X9 κ) bx)++HF (upB ι bx.length) (upO nx) (bx'.drop ι.length),nx+n,lg⟩:=(rfl)
theorem zjT {κ:List Nat} {i:Nat}:X9 κ i=if i∈κ then none else some i:=(rfl)
theorem zgi {i:Nat}:US m i=if i<m then some i else none:=(rfl)
theorem zfH {i:Nat}:JT m i=if i<m then none else some (i-m):=(rfl)
theorem zkm {f:FuncId} {fs cs args:List C}:zdr P G (.clo (.func f) fs cs) args nx K2 ⟨⟩=ME P G f (C.frzL (fs++args++cs)) nx K2 ⟨⟩:=(rfl)
theorem znS {kd:LK} {s b:Nat} {z1:List Value}:zmI (some ⟨kd,s,b,some z1⟩) ⟨tm,bx,nx,lg⟩ K3 ⟨⟩=((z1.all Value.oneCell')=true/\K3 (.ptr bx.length 0) ⟨tm,bx++[z1.map zr],nx,lg⟩):=(rfl)
theorem zoN:znf c ⟨tm,bx,nx,lg⟩ K3 ⟨⟩=(c.partB=true/\(c.cells.all C.cellB)=true/\K3 (.ptr bx.length 0) ⟨tm,bx++[c.cells],nx,lg⟩):=(rfl)
theorem zoh {L:Lay} {i off:Nat}:zlW (some L) (.ptr i off) c ⟨tm,bx,nx,lg⟩ K3 ⟨⟩=zmW (bx[i]?) i off L.size c ⟨tm,bx,nx,lg⟩ K3 ⟨⟩:=(rfl)
theorem zoX {cs:List C} {i off size:Nat}:zmW (some cs) i off size c ⟨tm,bx,nx,lg⟩ K3 ⟨⟩=(c.partB=true/\(c.cells.all C.cellB)=true/\c.cells.length=size/\off+size<=cs.length/\K3 .any ⟨tm,bx.set i (cs.take off++c.cells++cs.drop (off+size)),nx,lg⟩):=(rfl)
theorem zfW {v:Value}:C.frz (.sc v) = .sc v:=(show C.frz (.sc v) = .sc v from by rw[C.frz])
theorem zjW {v:Value} {id:Nat}:C.dg id (.sc v) = .sc v:=(show C.dg id (.sc v) = .sc v from by rw[C.dg])
theorem zkD {v:Value} {n:Nat}:C.sh n (.sc v) = .sc v:=(show C.sh n (.sc v) = .sc v from by rw[C.sh])
theorem zcC {l:List UInt8}:C.frz (.str l) = .str l:=(show C.frz (.str l) = .str l from by rw[C.frz])
theorem zgj {l:List UInt8} {id:Nat}:C.dg id (.str l) = .str l:=(show C.dg id (.str l) = .str l from by rw[C.dg])
theorem zgy {l:List UInt8} {n:Nat}:C.sh n (.str l) = .str l:=(show C.sh n (.str l) = .str l from by rw[C.sh])
theorem zgE {k:Nat} {rows:List (List C)}:C.frz (.sl k rows) = .sl k rows:=(show C.frz (.sl k rows) = .sl k rows from by rw[C.frz])
theorem zjR {k:Nat} {rows:List (List C)} {id:Nat}:C.dg id (.sl k rows) = .sl k rows:=(show C.dg id (.sl k rows) = .sl k rows from by rw[C.dg])
theorem zjl {k:Nat} {rows:List (List C)} {n:Nat}:C.sh n (.sl k rows) = .sl k rows:=(show C.sh n (.sl k rows) = .sl k rows from by rw[C.sh])
theorem za9 {cs:List C}:C.frz (.row cs) = .row cs:=(show C.frz (.row cs) = .row cs from by rw[C.frz])
theorem zhl {cs:List C} {id:Nat}:C.dg id (.row cs) = .row cs:=(show C.dg id (.row cs) = .row cs from by rw[C.dg])
theorem ze0 {cs:List C} {n:Nat}:C.sh n (.row cs) = .row cs:=(show C.sh n (.row cs) = .row cs from by rw[C.sh])
theorem zhr {id:Nat}:C.dg id (.any) = .any:=(show C.dg id (.any) = .any from by rw[C.dg])
theorem zfM {n:Nat}:C.sh n (.any) = .any:=(show C.sh n (.any) = .any from by rw[C.sh])
theorem zjw {i:Nat} {t2:TypeId} {ks:MK} {vs:List C} {n:Nat}:C.sh n (.mo i t2 ks vs) = .mo (n+i) t2 ks vs:=(show C.sh n (.mo i t2 ks vs) = .mo (n+i) t2 ks vs from by rw[C.sh])
theorem zin {i:Nat} {t2:TypeId} {ks:MK} {vs:List C}:C.fz bx (.mo i t2 ks vs) = .mo i t2 ks vs:=(show C.fz bx (.mo i t2 ks vs) = .mo i t2 ks vs from by rw[C.fz])
theorem ziu {v:Value} {id:Nat} {ks1:MK} {vs1:List C}:C.up id ks1 vs1 (.sc v) = .sc v:=(show C.up id ks1 vs1 (.sc v) = .sc v from by rw[C.up])
theorem zi2 {i:Nat} {t2:TypeId} {ks:MK} {vs:List C} {id:Nat} {ks1:MK} {vs1:List C}:C.up id ks1 vs1 (.mo i t2 ks vs)=if i=id then .mo i t2 ks1 vs1 else .mo i t2 ks vs:=(show C.up id ks1 vs1 (.mo i t2 ks vs)=if i=id then .mo i t2 ks1 vs1 else .mo i t2 ks vs from by rw[C.up])
theorem ul {id:Nat} {ks1:MK} {vs1:List C}:zeB id ks1 vs1 [] = []:=(rfl)
theorem zlR {u:Nat} {r:List (Nat×C)} {id:Nat} {ks1:MK} {vs1:List C}:zeB id ks1 vs1 ((u,c) :: r)=(u,c.up id ks1 vs1) :: zeB id ks1 vs1 r:=(rfl)
theorem vZ {id:Nat} {ks1:MK} {vs1:List C}:zdp id ks1 vs1 [] = []:=(rfl)
theorem zdF {id e k:Nat} {rows:List (List C)}:C.frz (.own id e k rows) = .sl k rows:=(show C.frz (.own id e k rows) = .sl k rows from by rw[C.frz])
theorem zaP {i off:Nat}:C.frz (.ptr i off) = .any:=(show C.frz (.ptr i off) = .any from by rw[C.frz])
theorem zhu {id i off:Nat}:C.dg id (.ptr i off) = .ptr i off:=(show C.dg id (.ptr i off) = .ptr i off from by rw[C.dg])
theorem zhm {id i e k:Nat} {rows:List (List C)}:C.dg id (.own i e k rows)=if i=id then .sl k rows else .own i e k rows:=(show C.dg id (.own i e k rows)=if i=id then .sl k rows else .own i e k rows from by rw[C.dg])
theorem ze8 {n i e k:Nat} {rows:List (List C)}:C.sh n (.own i e k rows) = .own (n+i) e k rows:=(show C.sh n (.own i e k rows) = .own (n+i) e k rows from by rw[C.sh])
theorem zkW {v:Value} {fp fo:Nat->Option Nat}:C.re fp fo (.sc v) = .sc v:=(show C.re fp fo (.sc v) = .sc v from by rw[C.re])
theorem zeY {v:Value} {fp:Nat->Option Nat}:C.sel fp (.sc v) = .sc v:=(show C.sel fp (.sc v) = .sc v from by rw[C.sel])
theorem zhG {l:List UInt8} {fp fo:Nat->Option Nat}:C.re fp fo (.str l) = .str l:=(show C.re fp fo (.str l) = .str l from by rw[C.re])
theorem zcM {l:List UInt8} {fp:Nat->Option Nat}:C.sel fp (.str l) = .str l:=(show C.sel fp (.str l) = .str l from by rw[C.sel])
theorem zkV {k:Nat} {rows:List (List C)} {fp fo:Nat->Option Nat}:C.re fp fo (.sl k rows) = .sl k rows:=(show C.re fp fo (.sl k rows) = .sl k rows from by rw[C.re])
theorem zgG {k:Nat} {rows:List (List C)} {fp:Nat->Option Nat}:C.sel fp (.sl k rows) = .sl k rows:=(show C.sel fp (.sl k rows) = .sl k rows from by rw[C.sel])
theorem vB {k:Nat} {rows:List (List C)} {fp fo:Nat->Option Nat}:C.re fp fo (.tight k rows) = .tight k rows:=(show C.re fp fo (.tight k rows) = .tight k rows from by rw[C.re])
theorem zgH {cs:List C} {fp fo:Nat->Option Nat}:C.re fp fo (.row cs) = .row cs:=(show C.re fp fo (.row cs) = .row cs from by rw[C.re])
theorem za2 {cs:List C} {fp:Nat->Option Nat}:C.sel fp (.row cs) = .row cs:=(show C.sel fp (.row cs) = .row cs from by rw[C.sel])
theorem zeZ {fp fo:Nat->Option Nat}:C.re fp fo (.any) = .any:=(show C.re fp fo (.any) = .any from by rw[C.re])
theorem zjE {v:Value}:C.fz bx (.sc v) = .sc v:=(show C.fz bx (.sc v) = .sc v from by rw[C.fz])
theorem zgb {l:List UInt8}:C.fz bx (.str l) = .str l:=(show C.fz bx (.str l) = .str l from by rw[C.fz])
theorem zkl {k:Nat} {rows:List (List C)}:C.fz bx (.sl k rows) = .sl k rows:=(show C.fz bx (.sl k rows) = .sl k rows from by rw[C.fz])
theorem zeP {id e k:Nat} {rows:List (List C)}:C.fz bx (.own id e k rows) = .own id e k rows:=(show C.fz bx (.own id e k rows) = .own id e k rows from by rw[C.fz])
theorem zfU {cs:List C}:C.fz bx (.row cs) = .row cs:=(show C.fz bx (.row cs) = .row cs from by rw[C.fz])
theorem zfq {i off:Nat}:C.fz bx (.ptr i off)=zoO (bx[i]?) off:=(show C.fz bx (.ptr i off)=zoO (bx[i]?) off from by rw[C.fz];rfl)
theorem ziA {off:Nat} {cs:List C}:zoO (some cs) off = .row ((C.frzL cs).drop off):=(rfl)
theorem vf {f:Fn} {a b:Array Value}:Value.oneCell' (.func f a b)=true:=(rfl)
theorem zhA {id e k:Nat} {rows:List (List C)} {fp fo:Nat->Option Nat}:C.re fp fo (.own id e k rows)=znO (fo id) e k rows:=(show C.re fp fo (.own id e k rows)=znO (fo id) e k rows from by rw[C.re];rfl)
theorem zhn {i off:Nat} {fp fo:Nat->Option Nat}:C.re fp fo (.ptr i off)=zk6 (fp i) off:=(show C.re fp fo (.ptr i off)=zk6 (fp i) off from by rw[C.re];rfl)
theorem zcp {i off:Nat} {fp:Nat->Option Nat}:C.sel fp (.ptr i off)=zk6 (fp i) off:=(show C.sel fp (.ptr i off)=zk6 (fp i) off from by rw[C.sel];rfl)
theorem ziq {j e k:Nat} {rows:List (List C)}:znO (some j) e k rows = .own j e k rows:=(rfl)
theorem zkS {e k:Nat} {rows:List (List C)}:znO none e k rows = .sl k rows:=(rfl)
theorem zjO {j off:Nat}:zk6 (some j) off = .ptr j off:=(rfl)
theorem zkz {off:Nat}:zk6 none off = .any:=(rfl)
theorem zjS {v:Value} {fr:Fr}:C.fy nx fr bx (.sc v) = .sc v:=(show C.fy nx fr bx (.sc v) = .sc v from by rw[C.fy])
theorem zjM {k:Nat} {rows:List (List C)} {fr:Fr}:C.fy nx fr bx (.sl k rows) = .sl k rows:=(show C.fy nx fr bx (.sl k rows) = .sl k rows from by rw[C.fy])
theorem zi0 {i off k n cap:Nat} {fr:Fr}:C.fy nx fr bx (.bs i off k n cap)=ZA nx fr i off k n cap:=(show C.fy nx fr bx (.bs i off k n cap)=ZA nx fr i off k n cap from by rw[C.fy])
theorem zfl {i off k n cap i2 e k2 cap2:Nat} {rows:List (List C)} {r:Fr}:ZA nx ((i2,e,k2,rows,cap2) :: r) i off k n cap=if i=i2/\off=0/\k=k2/\n=rows.length/\cap=cap2 then .own nx e k2 rows else ZA (nx+1) r i off k n cap:=(show ZA nx ((i2,e,k2,rows,cap2) :: r) i off k n cap=if i=i2/\off=0/\k=k2/\n=rows.length/\cap=cap2 then .own nx e k2 rows else ZA (nx+1) r i off k n cap from by rw[ZA])
theorem zfb {cs:List C} {fp fo:Nat->Option Nat}:C.re fp fo (.agg cs) = .agg (C.reL fp fo cs):=(show C.re fp fo (.agg cs) = .agg (C.reL fp fo cs) from by rw[C.re])
theorem zfu {cs:List C} {fp fo:Nat->Option Nat}:C.re fp fo (.tup cs) = .tup (C.reL fp fo cs):=(show C.re fp fo (.tup cs) = .tup (C.reL fp fo cs) from by rw[C.re])
theorem zhc {fn:Fn} {fs cs:List C} {fp fo:Nat->Option Nat}:C.re fp fo (.clo fn fs cs) = .clo fn (C.reL fp fo fs) (C.reL fp fo cs):=(show C.re fp fo (.clo fn fs cs) = .clo fn (C.reL fp fo fs) (C.reL fp fo cs) from by rw[C.re])
theorem zdj {fp fo:Nat->Option Nat}:C.reL fp fo [] = []:=(show C.reL fp fo [] = [] from by rw[C.reL])
theorem vx {r:List C} {fp fo:Nat->Option Nat}:C.reL fp fo (c :: r)=C.re fp fo c :: C.reL fp fo r:=(show C.reL fp fo (c :: r)=C.re fp fo c :: C.reL fp fo r from by rw[C.reL])
theorem zcZ {cs:List C} {fp:Nat->Option Nat}:C.sel fp (.agg cs) = .agg (C.selL fp cs):=(show C.sel fp (.agg cs) = .agg (C.selL fp cs) from by rw[C.sel])
theorem zdh {fn:Fn} {fs cs:List C} {fp:Nat->Option Nat}:C.sel fp (.clo fn fs cs) = .clo fn (C.selL fp fs) (C.selL fp cs):=(show C.sel fp (.clo fn fs cs) = .clo fn (C.selL fp fs) (C.selL fp cs) from by rw[C.sel])
theorem uB {fp:Nat->Option Nat}:C.selL fp [] = []:=(show C.selL fp [] = [] from by rw[C.selL])
theorem MS {r:List C} {fp:Nat->Option Nat}:C.selL fp (c :: r)=C.sel fp c :: C.selL fp r:=(show C.selL fp (c :: r)=C.sel fp c :: C.selL fp r from by rw[C.selL])
theorem zgp {cs:List C} :C.fz bx (.agg cs) = .agg (C.fzL bx cs):=(show C.fz bx (.agg cs) = .agg (C.fzL bx cs) from by rw[C.fz])
theorem zgL {cs:List C} :C.fz bx (.tup cs) = .tup (C.fzL bx cs):=(show C.fz bx (.tup cs) = .tup (C.fzL bx cs) from by rw[C.fz])
theorem zhg {fn:Fn} {fs cs:List C} :C.fz bx (.clo fn fs cs) = .clo fn (C.fzL bx fs) (C.fzL bx cs):=(show C.fz bx (.clo fn fs cs) = .clo fn (C.fzL bx fs) (C.fzL bx cs) from by rw[C.fz])
theorem zb1:C.fzL bx [] = []:=(show C.fzL bx [] = [] from by rw[C.fzL])
theorem vl {r:List C} :C.fzL bx (c :: r)=C.fz bx c :: C.fzL bx r:=(show C.fzL bx (c :: r)=C.fz bx c :: C.fzL bx r from by rw[C.fzL])
theorem zhv {cs:List C} {fr:Fr}:C.fy nx fr bx (.agg cs) = .agg (C.fyL nx fr bx cs):=(show C.fy nx fr bx (.agg cs) = .agg (C.fyL nx fr bx cs) from by rw[C.fy])
theorem zfO {cs:List C} {fr:Fr}:C.fy nx fr bx (.tup cs) = .tup (C.fyL nx fr bx cs):=(show C.fy nx fr bx (.tup cs) = .tup (C.fyL nx fr bx cs) from by rw[C.fy])
theorem zc6 {fr:Fr}:C.fyL nx fr bx [] = []:=(show C.fyL nx fr bx [] = [] from by rw[C.fyL])
theorem uJ {r:List C} {fr:Fr}:C.fyL nx fr bx (c :: r)=C.fy nx fr bx c :: C.fyL nx fr bx r:=(show C.fyL nx fr bx (c :: r)=C.fy nx fr bx c :: C.fyL nx fr bx r from by rw[C.fyL])
theorem zaU {cs:List C}:C.frz (.agg cs) = .agg (C.frzL cs):=(show C.frz (.agg cs) = .agg (C.frzL cs) from by rw[C.frz])
theorem zcS {fn:Fn} {fs cs:List C}:C.frz (.clo fn fs cs) = .clo fn (C.frzL fs) (C.frzL cs):=(show C.frz (.clo fn fs cs) = .clo fn (C.frzL fs) (C.frzL cs) from by rw[C.frz])
theorem v6:C.frzL [] = []:=(show C.frzL [] = [] from by rw[C.frzL])
theorem xb {r:List C}:C.frzL (c :: r)=C.frz c :: C.frzL r:=(show C.frzL (c :: r)=C.frz c :: C.frzL r from by rw[C.frzL])
theorem zhL {cs:List C} {id:Nat}:C.dg id (.agg cs) = .agg (C.dgL id cs):=(show C.dg id (.agg cs) = .agg (C.dgL id cs) from by rw[C.dg])
theorem zhh {cs:List C} {id:Nat}:C.dg id (.tup cs) = .tup (C.dgL id cs):=(show C.dg id (.tup cs) = .tup (C.dgL id cs) from by rw[C.dg])
theorem zgX {fn:Fn} {fs cs:List C} {id:Nat}:C.dg id (.clo fn fs cs) = .clo fn (C.dgL id fs) (C.dgL id cs):=(show C.dg id (.clo fn fs cs) = .clo fn (C.dgL id fs) (C.dgL id cs) from by rw[C.dg])
theorem zea {id:Nat}:C.dgL id [] = []:=(show C.dgL id [] = [] from by rw[C.dgL])
theorem vL {r:List C} {id:Nat}:C.dgL id (c :: r)=C.dg id c :: C.dgL id r:=(show C.dgL id (c :: r)=C.dg id c :: C.dgL id r from by rw[C.dgL])
theorem zfz {cs:List C} {n:Nat}:C.sh n (.agg cs) = .agg (C.shL n cs):=(show C.sh n (.agg cs) = .agg (C.shL n cs) from by rw[C.sh])
theorem zgZ {cs:List C} {n:Nat}:C.sh n (.tup cs) = .tup (C.shL n cs):=(show C.sh n (.tup cs) = .tup (C.shL n cs) from by rw[C.sh])
theorem zfn {fn:Fn} {fs cs:List C} {n:Nat}:C.sh n (.clo fn fs cs) = .clo fn (C.shL n fs) (C.shL n cs):=(show C.sh n (.clo fn fs cs) = .clo fn (C.shL n fs) (C.shL n cs) from by rw[C.sh])
theorem zaW {n:Nat}:C.shL n [] = []:=(show C.shL n [] = [] from by rw[C.shL])
theorem zak {r:List C} {n:Nat}:C.shL n (c :: r)=C.sh n c :: C.shL n r:=(show C.shL n (c :: r)=C.sh n c :: C.shL n r from by rw[C.shL])
theorem vz {id:Nat}:uu id [] = []:=(rfl)
theorem zns {id u:Nat} {r:List (Nat×C)}:uu id ((u,c) :: r)=(u,c.dg id) :: uu id r:=(rfl)
theorem zai {id:Nat}:NQ id [] = []:=(rfl)
theorem zmm {id:Nat} {cs:List C} {r:List (List C)}:NQ id (cs :: r)=C.dgL id cs :: NQ id r:=(rfl)
theorem N9 {l:List UInt8}:C.cellB (.str l)=true:=(rfl)
theorem Mm {l:List UInt8}:C.partB (.str l)=true:=(rfl)
theorem Mu {l:List UInt8}:C.cells (.str l) = [.str l]:=(rfl)
theorem vh {k:Nat} {rows:List (List C)}:C.cellB (.sl k rows)=true:=(rfl)
theorem vu {k:Nat} {rows:List (List C)}:C.partB (.sl k rows)=true:=(rfl)
theorem uH {k:Nat} {rows:List (List C)}:C.cells (.sl k rows) = [.sl k rows]:=(rfl)
theorem xt {id e k:Nat} {rows:List (List C)}:C.cellB (.own id e k rows)=true:=(rfl)
theorem xn {id e k:Nat} {rows:List (List C)}:C.partB (.own id e k rows)=true:=(rfl)
theorem xC {id e k:Nat} {rows:List (List C)}:C.cells (.own id e k rows) = [.own id e k rows]:=(rfl)
theorem vU {v:Value}:C.cellB (.sc v)=v.oneCell':=(rfl)
theorem ux {v:Value}:C.partB (.sc v)=v.oneCell':=(rfl)
theorem zan {v:Value}:C.cells (.sc v) = [.sc v]:=(rfl)
theorem xh {cs:List C}:C.partB (.agg cs)=true:=(rfl)
theorem MF {cs:List C}:C.cells (.agg cs)=cs:=(rfl)
theorem zew {k:IntKind} {n:Int}:Value.oneCell' (.int k n)=true:=(rfl)
theorem uQ {b:Bool}:Value.oneCell' (.bool b)=true:=(rfl)
theorem xa {a:Option Addr} {n m:Nat}:Value.oneCell' (.slice a n m)=true:=(rfl)
theorem H1 {s:ByteArray}:Value.oneCell' (.string s)=true:=(rfl)
theorem ziI {k:Nat} {cs:List C}:Xq k 0 cs = []:=(rfl)
theorem ziX {k n:Nat} {cs:List C}:Xq k (n+1) cs=cs.take k :: Xq k n (cs.drop k):=(rfl)
theorem zkj {i:Nat}:ZT i [] = []:=(rfl)
theorem zmE {i:Nat} {r:List C}:ZT i (c :: r)=(i,c) :: ZT (i+1) r:=(rfl)
theorem zbZ:zjJ (.sc (.bool true)) X Y ⟨⟩ ⟨⟩=X:=zf6
theorem vq:zjJ (.sc (.bool false)) X Y ⟨⟩ ⟨⟩=Y:=zcW
theorem br {b:Bool} (hx:b=true->X) (hy:b=false->Y):zjJ (.sc (.bool b)) X Y ⟨⟩ ⟨⟩:=ABr.mk hx hy
theorem YF {f:FuncId} {args fargs a1:List C} {fbx:List (List C)} {q:Nat} {post:C->List (List C)->Nat->Prop} (ι κ:List Nat) (hf:YI P G f a1 fbx q post) (hq:κ.length=q) (hι:ι.Nodup) (hκ:κ.Nodup) (hb:∀ i∈ι,i<bx.length)
  (ha:C.reL (Xk ι) (Xk κ) args=a1) (hx:(ι.map fun i=>C.reL (Xk ι) (Xk κ) (bx.getD i []))=fbx) (hK:∀ r fbx' n,post r fbx' n->K3 (r.re (upB ι bx.length) (upO nx)) (Zl ι κ fbx' n ⟨tm,bx,nx,lg⟩)):Q0 P G f args fargs ⟨tm,bx,nx,lg⟩ K3 ⟨⟩:=
 .inr <| .inr <| .inr <| .inl ⟨ι,κ,post,hι,hκ,hb,by rw[ha,hq];exact hx▸hf,hK⟩
theorem zlU {f:FuncId} {args fargs:List C} {r:C} (hf:zoR P f args bx r) (hK:K3 r ⟨tm,bx,nx,lg⟩):Q0 P G f args fargs ⟨tm,bx,nx,lg⟩ K3 ⟨⟩:=.inr <| .inr <| .inr <| .inr ⟨r,hf,hK⟩
theorem zoy {e s1 b1 k by' m i off n cap:Nat} {kd:LK} {z1 z:Option (List Value)} {xs cs:List C} (hl:lay P t=some ⟨.slice e,s1,b1,z1⟩) (hle:lay P e=some ⟨kd,k,by',z⟩) (hx:d.xs? k bx=some (m,xs)) (hb:bx[i]?=some cs) (hxl:xs.length=m*k) (hfit:off+n*k<=cs.length)
  (hK:K3 (.sc (.int .i64 ((min m n:Nat):Int))) ⟨tm,bx.set i (spl cs off (xs.take (min m n*k))),nx,lg⟩):zcs P t (.bs i off k n cap) d ⟨tm,bx,nx,lg⟩ K3 ⟨⟩:=by
 show ZB P t _ _ _ _
 unfold ZB
 simp only[hl,hle,hx,hb]
 exact ⟨trivial,hxl,hfit,hK⟩
theorem yD {e s1 b1 k by' m:Nat} {kd:LK} {z1:Option (List Value)} {z:List Value} {xs:List C} (hl:lay P t=some ⟨.slice e,s1,b1,z1⟩) (hle:lay P e=some ⟨kd,k,by',some z⟩) (hx:d.xs? k bx=some (m,xs)) (hz:z.length=k) (hk:0<k) (h1:(z.all Value.oneCell')=true) (hxl:xs.length=m*k) (hm:0<m) (h63:m<=9223372036854775807) (hby:m*by'<=140737488355328)
  (hK:∀ cap,m<=cap->cap<=9223372036854775807->K3 (.bs bx.length 0 k m cap) ⟨tm,bx++[xs++List.replicate ((cap-m)*k) .any],nx,lg⟩):xc P t (.sc (.slice none 0 0)) d ⟨tm,bx,nx,lg⟩ K3 ⟨⟩:=by
 show JD P t _ _ _ _
 unfold JD
 simp only[hl,hle,hx]
 exact ⟨hz,hk,h1,hxl,hm,h63,hby,fun c h1 h2=>hK c h1 (by unfold maxLen at h2;omega)⟩
theorem Uf {e s1 b1 k by' m i off n cap:Nat} {kd:LK} {z1:Option (List Value)} {z:List Value} {xs cs:List C} (hl:lay P t=some ⟨.slice e,s1,b1,z1⟩) (hle:lay P e=some ⟨kd,k,by',some z⟩) (hx:d.xs? k bx=some (m,xs)) (hz:z.length=k) (hk:0<k) (h1:(z.all Value.oneCell')=true) (hxl:xs.length=m*k)
  (hb:bx[i]?=some cs) (hfit:off+cap*k<=cs.length) (hn:n<=cap) (h63:n+m<=9223372036854775807) (hby:(n+m)*by'<=140737488355328)
  (hK1:n+m<=cap->K3 (.bs i off k (n+m) cap) ⟨tm,bx.set i (spl cs (off+n*k) xs),nx,lg⟩)
  (hK2:cap<n+m->∀ c',n+m<=c'->c'<=9223372036854775807->K3 (.bs bx.length 0 k (n+m) c') ⟨tm,bx++[(cs.drop off).take (n*k)++xs++List.replicate ((c'-(n+m))*k) .any],nx,lg⟩):xc P t (.bs i off k n cap) d ⟨tm,bx,nx,lg⟩ K3 ⟨⟩:=by
 show JD P t _ _ _ _
 unfold JD
 simp only[hl,hle,hx,hb]
 exact ⟨hz,hk,h1,hxl,trivial,hfit,hn,h63,hby,hK1,fun h c h1 h2=>hK2 h c h1 (by unfold maxLen at h2;omega)⟩
theorem zdH {tn e s1 b1 s2 b2 k by':Nat} {kn kq:IntKind} {kd:LK} {z1 z2:Option (List Value)} {z:List Value} {q:Int} (hl:lay P t=some ⟨.slice e,s1,b1,z1⟩) (hln:lay P tn=some ⟨.int kn,s2,b2,z2⟩) (hle:lay P e=some ⟨kd,k,by',some z⟩) (hz:z.length=k) (hk:0<k) (h1:(z.all Value.oneCell')=true)
  (hq:0<q) (h63:q<=9223372036854775807) (hby:q*by'<=140737488355328) (hK:∀ c',q.toNat<=c'->c'<=maxLen->K3 (.bs bx.length 0 k q.toNat c') ⟨tm,bx++[(List.replicate q.toNat (z.map zr)).flatten++List.replicate ((c'-q.toNat)*k) .any],nx,lg⟩) :
  yK P t tn (.sc (.slice none 0 0)) (.sc (.int kq q)) ⟨tm,bx,nx,lg⟩ K3 ⟨⟩:=by
 show kU P t tn _ _ _ _
 unfold kU
 simp only[hl,hln,hle]
 exact ⟨hz,hk,h1,hq,h63,hby,hK⟩
theorem zpL {tn e s1 b1 s2 b2 k by' i off n cap:Nat} {kn kq:IntKind} {kd:LK} {z1 z2:Option (List Value)} {z:List Value} {cs:List C} {q:Int} (hl:lay P t=some ⟨.slice e,s1,b1,z1⟩) (hln:lay P tn=some ⟨.int kn,s2,b2,z2⟩) (hle:lay P e=some ⟨kd,k,by',some z⟩) (hz:z.length=k) (hk:0<k) (h1:(z.all Value.oneCell')=true)
  (hb:bx[i]?=some cs) (hfit:off+cap*k<=cs.length) (hn:n<=cap) (hq:0<q) (h63:(n:Int)+q<=9223372036854775807) (hby:((n:Int)+q)*by'<=140737488355328) (hg:(cap:Int)<n+q)
  (hK:∀ c',n+q.toNat<=c'->c'<=9223372036854775807->K3 (.bs bx.length 0 k (n+q.toNat) c') ⟨tm,bx++[(cs.drop off).take (n*k)++(List.replicate q.toNat (z.map zr)).flatten++List.replicate ((c'-(n+q.toNat))*k) .any],nx,lg⟩):yK P t tn (.bs i off k n cap) (.sc (.int kq q)) ⟨tm,bx,nx,lg⟩ K3 ⟨⟩:=by
 show kU P t tn _ _ _ _
 unfold kU
 simp only[hl,hln,hle,hb]
 exact ⟨hz,hk,h1,trivial,hfit,hn,hq,h63,hby,hg,fun c h1 h2=>hK c h1 (by unfold maxLen at h2;omega)⟩
def opB (P:Program) (fn:Func) (code:Code) (b:Nat->List Bool):Bool:=P.follows .mixedOrders&&(!(fn.name == "runtime.NumGoroutine")&&qS fn.ntmps b code)
theorem zl3 {fn:Func} {code:Code} {b:Nat->List Bool} (h:opB P fn code b=true):P.follows .mixedOrders=true:=(Bool.and_eq_true_iff.1 h).1
theorem zmA {fn:Func} {code:Code} {b:Nat->List Bool} (h:opB P fn code b=true):(fn.name == "runtime.NumGoroutine")=false:=by
 have:=(Bool.and_eq_true_iff.1 (Bool.and_eq_true_iff.1 h).2).1
 simpa using this
theorem zm4 {fn:Func} {code:Code} {b:Nat->List Bool} (h:opB P fn code b=true):qS fn.ntmps b code=true:=(Bool.and_eq_true_iff.1 (Bool.and_eq_true_iff.1 h).2).2
theorem foF {f:FuncId} {fn:Func} {code:Code} {args:List C} {r:C} {n:Nat} (b:Nat->List Bool) (hf:P.funcs[f]?=some fn)
  (h:QY P G ⟨0,none,b⟩ code (G5 P fn.results.toList (fun c σ=>∃ (fr:Fr) (src:Src),zeF fr σ.bx/\Xt src=true/\src.length=n/\CLe src 0 (c.fy σ.nx fr σ.bx) r) ⟨⟩) ⟨ZT 0 args,[],0,0⟩ ⟨⟩ ⟨⟩) (hb:fn.body=some code:=by rfl) (hN:args.length<=fn.ntmps:=by exact zfR rfl) (ho:opB P fn code b=true:=by kernel_rfl):Fun P G f args r n:=Fun.of_awpF b (zl3 ho) hf hb (zmA ho) hN (zm4 ho) h
theorem foX {f:FuncId} {fn:Func} {code:Code} {args:List C} {bx:List (List C)} {q:Nat} {post:C->List (List C)->Nat->Prop} (b:Nat->List Bool) (hf:P.funcs[f]?=some fn)
  (h:QY P G ⟨bx.length,none,b⟩ code (G5 P fn.results.toList (fun c σ=>∃ r bx' n,(post r bx' n/\bx.length<=bx'.length)/\∃ src:Src,Xt src=true/\src.length=n/\za src bx'.length σ.bx bx'/\CLe src bx'.length c r) ⟨⟩) ⟨ZT 0 args,bx,q,0⟩ ⟨⟩ ⟨⟩) (hb:fn.body=some code:=by rfl) (hN:args.length<=fn.ntmps:=by exact zfR rfl) (ho:opB P fn code b=true:=by kernel_rfl):YI P G f args bx q post:=YI.of_awp b (zl3 ho) hf hb (zmA ho) hN (zm4 ho) h
theorem call {f:FuncId} {args fargs:List C} {r:C} {n:Nat} (hf:Fun P G f fargs r n) (hK:K3 (r.sh nx) ⟨tm,bx,nx+n,lg⟩):Q0 P G f args fargs ⟨tm,bx,nx,lg⟩ K3 ⟨⟩:=.inl ⟨r,n,hf,hK⟩
theorem vY {f:FuncId} {args:List C} {r:C} {n:Nat} (hf:Fun P G f args r n) (hK:K2 (r.sh nx) (nx+n)):ME P G f args nx K2 ⟨⟩:=ya.mk hf hK
theorem Fun.less {f:FuncId} {args args':List C} {r:C} {n:Nat} (hf:Fun P G f args' r n) (hl:ze [] 0 args args'):Fun P G f args r n:=⟨hf.1,fun R vs hg ha=>hf.2 R vs hg (by
 have:=zm.less _ _ _ hl ha
 refine zm.ext (Ext.refl R) ⟨fun i b hb=>?_,fun id x hx=>?_⟩ _ _ this
 ·simp at hb
 ·have hx:QA [] zu.T id=some x:=hx
  simp[QA]at hx)⟩
theorem zgK {f:FuncId} {args fargs a1:List C} {fbx fbx':List (List C)} {r:C} {n q:Nat} (ι κ:List Nat) (hf:ua P G f a1 fbx q r fbx' n) (hq:κ.length=q) (hι:ι.Nodup) (hκ:κ.Nodup) (hb:∀ i∈ι,i<bx.length)
  (ha:C.reL (Xk ι) (Xk κ) args=a1) (hx:(ι.map fun i=>C.reL (Xk ι) (Xk κ) (bx.getD i []))=fbx) (hK:K3 (r.re (upB ι bx.length) (upO nx)) (Zl ι κ fbx' n ⟨tm,bx,nx,lg⟩)):Q0 P G f args fargs ⟨tm,bx,nx,lg⟩ K3 ⟨⟩:=
 .inr <| .inl ⟨ι,κ,r,fbx',n,hι,hκ,hb,by rw[ha,hq];exact hx▸hf,hK⟩
theorem range {A B:Nat->(Exit->St->Prop)->St->Prop} {ps:List Tmp} {f:FuncId} {first cap first' cap':List C} {bx':List (List C)} (items:List (List C)) (sf:Nat->Bool) (m:Nat) (I:Nat->St) (hit:HK P G f first' cap' bx' items) (e1:C.selL (JT m) first=first') (e2:C.selL (JT m) cap=cap') (e3:(bx.drop m).map (C.selL (JT m))=bx')
  (hp:p<=m) (hm:m<=bx.length) (hlen:∀ it∈items,it.length=ps.length) (hI:∀ k,k<=items.length->(I k).bx.length=m) (hw:jW m ⟨[],bx,nx,lg⟩ ((I 0).wt []))
  (hbody:∀ k it,items[k]?=some it->(∀ j,j<k->sf j=false)->A m (zib (B m (xP m (VY m tm) (sf k) (I (k+1)) Q ⟨⟩ ⟨⟩)) ⟨⟩) ((I k).wt (QO ps it (VY m tm))))
  (hdone:(∀ j,j<items.length->sf j=false)->Q .normal ((I items.length).wt (VY m tm))):za0 P G p A B Q ps (.clo (.func f) first cap) ⟨tm,bx,nx,lg⟩ ⟨⟩ ⟨⟩ ⟨⟩:=
 ⟨items,sf,m,I,hp,hm,by rw[e1,e2];exact e3▸hit,hlen,hI,hw,hbody,hdone⟩
theorem loop {B:(Exit->St->Prop)->St->Prop} {ι:Type} (I:ι->St) (ok:ι->Prop) (μ:ι->Nat) (i0:ι) (h0:ok i0) (hw:jW p σ (I i0))
  (hr:∀ i,ok i->B (x5 (fun σ'=>∃ j,ok j/\μ j<μ i/\jW p σ' (I j)) Q ⟨⟩ ⟨⟩) (I i)):zif p B Q σ ⟨⟩ ⟨⟩:=⟨ι,I,ok,μ,i0,h0,hw,hr⟩
theorem fof {f:FuncId} {fn:Func} {code:Code} {args:List C} {r:C} {n:Nat} (b:Nat->List Bool) (hf:P.funcs[f]?=some fn)
  (h:QY P G ⟨0,none,b⟩ code (G5 P fn.results.toList (fun c σ=>∃ src:Src,Xt src=true/\src.length=n/\CLe src 0 (c.fz σ.bx) r) ⟨⟩) ⟨ZT 0 args,[],0,0⟩ ⟨⟩ ⟨⟩) (hb:fn.body=some code:=by rfl) (hN:args.length<=fn.ntmps:=by exact zfR rfl) (ho:opB P fn code b=true:=by kernel_rfl):Fun P G f args r n:=Fun.of_awp b (zl3 ho) hf hb (zmA ho) hN (zm4 ho) h
theorem fon {f:FuncId} {fn:Func} {code:Code} {args:List C} {r:C} {n:Nat} (hf:P.funcs[f]?=some fn)
  (h:QY P G ⟨0,none,fun _=>[]⟩ code (G5 P fn.results.toList (fun c σ=>∃ src:Src,Xt src=true/\src.length=n/\CLe src 0 (c.fz σ.bx) r) ⟨⟩) ⟨ZT 0 args,[],0,0⟩ ⟨⟩ ⟨⟩) (hb:fn.body=some code:=by rfl) (hN:args.length<=fn.ntmps:=by exact zfR rfl) (ho:opB P fn code (fun _=>[])=true:=by kernel_rfl):Fun P G f args r n:=fof _ hf h hb hN ho
theorem foB {f:FuncId} {fn:Func} {code:Code} {args:List C} {bx bx':List (List C)} {r:C} {q n:Nat} (b:Nat->List Bool) (hf:P.funcs[f]?=some fn)
  (h:QY P G ⟨bx.length,none,b⟩ code (G5 P fn.results.toList (fun c σ=>∃ src:Src,Xt src=true/\src.length=n/\za src bx'.length σ.bx bx'/\CLe src bx'.length c r) ⟨⟩) ⟨ZT 0 args,bx,q,0⟩ ⟨⟩ ⟨⟩) (hb:fn.body=some code:=by rfl) (hN:args.length<=fn.ntmps:=by exact zfR rfl) (ho:opB P fn code b=true:=by kernel_rfl) (hlen:bx.length<=bx'.length:=by exact zfR rfl):ua P G f args bx q r bx' n:=ua.of_awp b (zl3 ho) hf hb (zmA ho) hN (zm4 ho) hlen h
theorem foI {f:FuncId} {fn:Func} {code:Code} {first cap:List C} {bx items:List (List C)} (b:Nat->List Bool) (hf:P.funcs[f]?=some fn)
  (h:∀ (l:Nat) (sf:Nat->Bool),QY P G ⟨0,some ⟨l,items,sf⟩,b⟩ code (G5 P fn.results.toList (fun c σ=>ziQ items sf σ.lg) ⟨⟩) ⟨ZT 0 (first++[.sc (.func (.yield l) #[] #[])]++cap),bx,0,0⟩ ⟨⟩ ⟨⟩) (hb:fn.body=some code:=by rfl) (hN:first.length+1+cap.length<=fn.ntmps:=by exact zfR rfl) (ho:opB P fn code b=true:=by kernel_rfl):HK P G f first cap bx items:=HK.of_awp b (zl3 ho) hf hb (zmA ho) hN (zm4 ho) h
theorem zoL {i m k n cap b:Nat} {cs xs:List C} {z1:List Value} (A:List C) (hbx:bx[i]?=some cs) (h1:z1.length=k) (h2:0<k) (h3:(z1.all Value.oneCell')=true) (h4:0<m) (hp:p<=i) (hl:cs.length=cap*k) (hn:n<=cap) (hc:cap<=9223372036854775807)
  (h5:n+m<=9223372036854775807) (h6:(n+m)*b<=140737488355328) (hA:C.reL (j6 i) some (cs.take (n*k)++xs)=A)
  (hK:∀ c',n+m<=c'->c'<=9223372036854775807->K3 (.bs i 0 k (n+m) c') ⟨Ul (j6 i) some tm,X6 i (A++List.replicate ((c'-(n+m))*k) .any) bx,nx,lg⟩):zmx (some (m,xs)) p k b z1 (.bs i 0 k n cap) ⟨tm,bx,nx,lg⟩ K3 ⟨⟩:=by
 refine ⟨h1,h2,h3,h4,?_⟩
 simp only[hbx]
 exact ⟨trivial,hp,hl,hn,hc,h5,h6,fun c' q1 q2=>by rw[hA];exact hK c' q1 (by unfold maxLen at q2;omega)⟩
theorem vJ (k:Nat):((k:Int)+1).toNat=k+1:=by omega
theorem zf0.mk {B:(Exit->St->Prop)->St->Prop} {ι:Type} (I:ι->St) (ok:ι->Prop) (μ:ι->Nat) (i0:ι) (h0:ok i0) (hw:jW p σ (I i0))
  (hr:∀ i,ok i->B (zio (fun σ'=>∃ j,ok j/\μ j<μ i/\jW p σ' (I j)) Q) (I i)):zf0 p B Q σ:=⟨ι,I,ok,μ,i0,h0,hw,hr⟩
end
attribute [push_cast] eq_self iff_self List.append_eq zox zpu zp4 zpx zn8 vD zo5 zjb zoY zml ziD zm5 zoM zn5 zlu zjz zlo zeX zi1 zgC zbX zfZ zf2 zhj zdJ zaO zaR zfL zmy zlc zmd zlC zec MR zpO zg2 zjv zjN znq zl4 xp ub zcP Gs GV xH uN Gx zfE xi ud zjZ zjs znE zmb zl0 zmT zlN zli ziH zmG zgI zhk zfx zho zgg zjp znd zmp ziw zj9 uC vj xJ N3 Ua Ug zne zkN zf1 ze9 ui uw zeJ zg6 zbn zaX zgV zgF Gw Nf zeh za1 zhB zhz xj GG zdS zde kN Hz zc2 U1 He zdT zcA xx MU zdv za4 zkB zkE MB zmV ziS zaw zmZ ze3 uo znD u5 zgB zhq zi8 zoG zfc zbH vQ zem zkk zcg zgr vo zdd Mc xM zlb xl Nh Mf kO Mb xm Gr zbx zbz zdk GF zej G8 zd7 zah zbJ zap zfQ zbl zfi zdV zer zcJ za6 zcR zdA zbo zcV zdt zdB zb9 zbQ za3 zgR zbB zoI zbO zmc zd9 zo1 zoW vC zb4 vp uv uy zjD U5 zaa NY vV GU HH zkH zgv zba zpJ zop zhJ zgW zpD zal um zbr zbs uS MO vW zb7 zdm zfB zfv zgn zpG zoE zoP zod zpU zou zoi zj4 zlQ zkb zjK zgT zi6 zlx znv uc vS uE zlO zqg ziT zpC znT zmC zpY zoB vn zbe zhb uz znk zl1 zgd zfI zgt vF zab uh zda vR zlq vw zfA zhy zcn zcF zeS zce zaY zmF zlw ziC zf8 zpQ zi7 zms zkw zoj zoK zp9 zo7 zoC zpe zdy zbq zl9 zot zoZ zlF zl8 zn0 zn4 zn9 zjq zkT zfd zk7 zog zn6 zkt znh zix znn zff zfD zfa zjT zgi zfH zkm znS zoN zoh zoX zfW zjW zkD zcC zgj zgy zgE zjR zjl za9 zhl ze0 zhr zfM zjw zin ziu zi2 ul zlR vZ zdF zaP zhu zhm ze8 zkW zeY zhG zcM zkV zgG vB zgH za2 zeZ zjE zgb zkl zeP zfU zfq ziA vf zhA zhn zcp ziq zkS zjO zkz zjS zjM zi0 zfl zfb zfu zhc zdj vx zcZ zdh uB MS zgp zgL zhg zb1 vl zhv zfO zc6 uJ zaU zcS v6 xb zhL zhh zgX zea vL zfz zgZ zfn zaW zak vz zns zai zmm N9 Mm Mu vh vu uH xt xn xC vU ux zan xh MF zew uQ xa H1 ziI ziX zkj zmE zbZ vq
attribute [push_cast] Int.ofNat_eq_natCast Bool.not_false Bool.not_true Bool.true_beq Bool.false_beq beq_self_eq_true Bool.true_and ziy zjo zmh zjH zkF List.map_cons List.map_nil List.getElem?_cons_zero List.getElem?_cons_succ List.getElem?_toArray List.getElem?_nil List.drop_zero List.drop_succ_cons List.drop_nil List.take_succ_cons List.take_zero List.take_nil List.length_cons List.length_nil List.getD_cons_zero List.getD_cons_succ List.set_cons_zero List.set_cons_succ List.cons_append List.nil_append List.append_nil List.all_cons List.all_nil List.tail_cons List.tail_nil List.headD_cons List.headD_nil List.flatten_cons List.flatten_nil List.replicate_succ List.replicate_zero Bool.and_self Bool.and_true Bool.true_and Bool.not_true Bool.not_false Option.bind_some Option.map_some Option.map_none if_true if_false true_and and_true and_self decide_true decide_false Int.ofNat_le Int.ofNat_lt Int.natCast_inj vJ Int.toNat_natCast Nat.zero_add Nat.add_zero List.toList_toArray Int.add_zero Int.zero_add Bool.not_not Int.sub_zero Int.natCast_pos Nat.sub_zero Int.cast_ofNat_Int Nat.one_mul Nat.mul_one
theorem dn {p q r:Src->Prop} (c:r []:=by push_cast -dsimp [zb,za,CLe,ze]) (a:p []:=by rfl) (b:q []:=by rfl):∃ s,p s/\q s/\r s:=⟨[],a,b,c⟩
theorem wks {p:Nat} {σ σ':St} (src:Src) (h4:zb src σ'.bx.length σ.tm σ'.tm:=by push_cast -dsimp [zb,za,CLe,ze]) (h5:za src σ'.bx.length σ.bx σ'.bx:=by push_cast -dsimp [zb,za,CLe,ze]) (h1:Xt src=true:=by rfl) (h2:src.length=σ'.nx:=by rfl)
  (h3:p<=σ'.bx.length:=by first | exact Nat.zero_le _ | exact Nat.le_refl _ | exact zfR rfl) (h0:σ'.lg=σ.lg:=by rfl):jW p σ σ':=⟨src,h1,h2,h3,h0,h4,h5⟩
theorem wk {p:Nat} {σ σ':St} (h4:zb [] σ'.bx.length σ.tm σ'.tm:=by push_cast -dsimp [zb,za,CLe,ze]) (h5:za [] σ'.bx.length σ.bx σ'.bx:=by push_cast -dsimp [zb,za,CLe,ze]) (h2:([]:Src).length=σ'.nx:=by rfl)
  (h3:p<=σ'.bx.length:=by first | exact Nat.zero_le _ | exact Nat.le_refl _ | exact zfR rfl) (h0:σ'.lg=σ.lg:=by rfl):jW p σ σ':=⟨[],rfl,h2,h3,h0,h4,h5⟩
theorem an {a b:Prop} (k:b) (h:a:=by first | omega | (simp only[lS];omega)):a/\b:=⟨h,k⟩
namespace CA
theorem cl {P:Program} {G:zj} {f:FuncId} {args fargs:List C} {r:C} {n nx lg:Nat} {tm:List (Nat×C)} {bx:List (List C)} {K3:C->St->Prop} (hf:Fun P G f fargs r n) (hK:K3 (r.sh nx) ⟨tm,bx,nx+n,lg⟩):Q0 P G f args fargs ⟨tm,bx,nx,lg⟩ K3 ⟨⟩:=call hf hK
end CA
namespace CB
theorem cl {P:Program} {G:zj} {f:FuncId} {args:List C} {r:C} {n nx:Nat} {K2:C->Nat->Prop} (hf:Fun P G f args r n) (hK:K2 (r.sh nx) (nx+n)):ME P G f args nx K2 ⟨⟩:=vY hf hK
end CB
end
section
open Go.RowKit
def C.stayB:C->Bool
 | .sc _ | .str _ | .sl _ _ | .tight _ _ | .row _ | .any=>true
 | _=>false
theorem zeL {c:C} (h:c.stayB=true):c.frz=c:=by cases c<;>simp[C.stayB]at h<;>simp[C.frz]
theorem ziF {c:C} {fp fo:Nat->Option Nat} (h:c.stayB=true):c.re fp fo=c:=by cases c<;>simp[C.stayB]at h<;>simp[C.re]
theorem zkM {c:C} {src:Src} {n:Nat} (h:c.stayB=true):CLe src n c c:=by cases c<;>simp[C.stayB]at h<;>simp[CLe]
theorem Gg:∀ {cs:List C},(cs.all C.stayB)=true->C.frzL cs=cs
 | [],_=>by simp[C.frzL]
 | c :: r,h=>by
  simp only[List.all_cons,Bool.and_eq_true]at h
  rw[C.frzL,zeL h.1,Gg h.2]
theorem qu {fp fo:Nat->Option Nat}:∀ {cs:List C},(cs.all C.stayB)=true->C.reL fp fo cs=cs
 | [],_=>by simp[C.reL]
 | c :: r,h=>by
  simp only[List.all_cons,Bool.and_eq_true]at h
  rw[C.reL,ziF h.1,qu h.2]
theorem zS {src:Src} {n:Nat}:∀ {cs:List C},(cs.all C.stayB)=true->ze src n cs cs
 | [],_=>by simp[ze]
 | c :: r,h=>by
  simp only[List.all_cons,Bool.and_eq_true]at h
  rw[ze]
  exact ⟨zkM h.1,zS h.2⟩
theorem zjA {src:Src} {n:Nat} (c:C):CLe src n c .any:=by cases c<;>simp[CLe]
theorem XI {src:Src} {n:Nat}:∀ {cs:List C} {m:Nat},cs.length=m->ze src n cs (List.replicate m .any)
 | [],_,h=>by subst h;simp[ze]
 | c :: r,_,h=>by
  subst h
  rw[List.length_cons,List.replicate_succ,ze]
  exact ⟨zjA c,XI rfl⟩
theorem zd0 {src:Src} {n:Nat}:∀ {a b c d:List C},ze src n a c->ze src n b d->ze src n (a++b) (c++d)
 | [],b,[],d,_,h=>h
 | [],b,x :: c,d,h,_=>by simp[ze]at h
 | x :: a,b,[],d,h,_=>by simp[ze]at h
 | x :: a,b,y :: c,d,h,h'=>by
  rw[List.cons_append,List.cons_append,ze]
  rw[ze]at h
  exact ⟨h.1,zd0 h.2 h'⟩
def jm (k:Nat) (rows:List (List C)) (c:Nat):List C:=rows.flatten++List.replicate ((c-rows.length)*k) .any
theorem qg {k:Nat}:∀ {rows:List (List C)},(∀ r∈rows,r.length=k)->rows.flatten.length=rows.length*k
 | [],_=>by simp
 | r :: rs,h=>by
  rw[List.flatten_cons,List.length_append,h r List.mem_cons_self,qg fun x hx=>h x (List.mem_cons_of_mem _ hx),List.length_cons,Nat.succ_mul,Nat.add_comm]
theorem XZ {k c:Nat} {rows:List (List C)} (h:∀ r∈rows,r.length=k) (hc:rows.length<=c):(jm k rows c).length=c*k:=by
 unfold jm
 rw[List.length_append,qg h,List.length_replicate,←Nat.add_mul]
 congr 1;omega
abbrev js (rows:List (List C)):Prop:=∀ r∈rows,(r.all C.stayB)=true
theorem Xm {rows:List (List C)} (h:js rows):(rows.flatten.all C.stayB)=true:=by
 rw[List.all_eq_true]
 intro c hc
 obtain ⟨r,hr,hc⟩:=List.mem_flatten.1 hc
 exact List.all_eq_true.1 (h r hr) c hc
theorem qm {k c:Nat} {rows:List (List C)} (h:js rows):((jm k rows c).all C.stayB)=true:=by
 unfold jm
 rw[List.all_append,Xm h,Bool.true_and,List.all_eq_true]
 intro c hc
 obtain ⟨_,rfl⟩:=List.mem_replicate.1 hc
 rfl
theorem Vc {k n:Nat}:∀ {rows:List (List C)},(∀ r∈rows,r.length=k)->rows.flatten.take (n*k)=(rows.take n).flatten:=by
 induction n with
 | zero=>intro rows _;simp
 | succ n ih =>
  intro rows h
  cases rows with
  | nil=>simp
  | cons r rs =>
   have hr:=h r List.mem_cons_self
   rw[List.take_succ_cons,List.flatten_cons,List.flatten_cons,List.take_append,List.take_of_length_le (by rw[hr,Nat.succ_mul];omega),hr,show (n+1)*k-k=n*k by rw[Nat.succ_mul];omega,ih fun x hx=>h x (List.mem_cons_of_mem _ hx)]
theorem HV {k n:Nat}:∀ {rows:List (List C)},(∀ r∈rows,r.length=k)->rows.flatten.drop (n*k)=(rows.drop n).flatten:=by
 induction n with
 | zero=>intro rows _;simp
 | succ n ih =>
  intro rows h
  cases rows with
  | nil=>simp
  | cons r rs =>
   have hr:=h r List.mem_cons_self
   rw[List.drop_succ_cons,List.flatten_cons,List.drop_append,List.drop_of_length_le (by rw[hr,Nat.succ_mul];omega),hr,List.nil_append,show (n+1)*k-k=n*k by rw[Nat.succ_mul];omega,ih fun x hx=>h x (List.mem_cons_of_mem _ hx)]
theorem YL {src:Src} {m k c:Nat} {rows:List (List C)} {cs:List C} (hk:∀ r∈rows,r.length=k) (hs:js rows) (hc:rows.length<=c) (hl:cs.length=c*k) (ht:cs.take (rows.length*k)=rows.flatten):ze src m cs (jm k rows c):=by
 have h1:cs=rows.flatten++cs.drop (rows.length*k):=by rw[←ht,List.take_append_drop]
 rw[h1]
 unfold jm
 refine zd0 (zS (Xm hs)) (XI ?_)
 rw[List.length_drop,hl,←Nat.sub_mul]
theorem Hy {cs xs:List C} {p:Nat} (h:p+xs.length<=cs.length):(spl cs p xs).length=cs.length:=by
 simp[spl];omega
theorem HL {cs L X:List C} {p q:Nat} (hp:p<=L.length) (hq:q=p+X.length) (hL:cs.take L.length=L) (hc:L.length+X.length<=cs.length) :
  (spl (spl cs q (L.drop p)) p X).take (L.length+X.length)=L.take p++(X++L.drop p):=by
 subst hq
 apply List.ext_getElem?
 intro j
 have hcur:∀ j,j<L.length->cs[j]?=L[j]?:=fun j hj=>by
  have h:=congrArg (fun l=>l[j]?) hL
  simp only[List.getElem?_take,if_pos hj]at h
  exact h
 simp only[spl,List.getElem?_take,List.getElem?_append,List.getElem?_drop,List.length_take,List.length_append,List.length_drop]
 repeat' (first | split | omega)
 all_goals (first | rfl | omega | exact (List.getElem?_eq_none (by omega)).symm | (congr 1;omega) | (rw[hcur _ (by omega)];first | done | (congr 1;omega)) | (symm;rw[List.getElem?_eq_none];simp;omega) | (rw[List.getElem?_eq_none];simp;omega) | skip)
theorem yl {cs L X:List C} {p q:Nat} (hp:p<=L.length) (hq:q=p+X.length) (hL:cs.take p=L.take p) (hc:L.length+X.length<=cs.length) :
  (spl (spl cs p X) q (L.drop p)).take (L.length+X.length)=L.take p++(X++L.drop p):=by
 subst hq
 apply List.ext_getElem?
 intro j
 have hcur:∀ j,j<p->cs[j]?=L[j]?:=fun j hj=>by
  have h:=congrArg (fun l=>l[j]?) hL
  simp only[List.getElem?_take,if_pos hj]at h
  exact h
 simp only[spl,List.getElem?_take,List.getElem?_append,List.getElem?_drop,List.length_take,List.length_append,List.length_drop]
 repeat' (first | split | omega)
 all_goals (first | rfl | omega | exact (List.getElem?_eq_none (by omega)).symm | (congr 1;omega) | (rw[hcur _ (by omega)];first | done | (congr 1;omega)) | (symm;rw[List.getElem?_eq_none];simp;omega) | (rw[List.getElem?_eq_none];simp;omega) | skip)
theorem zbG {P:Program} {f:FuncId} {fn:Func} {t e tR:TypeId} {s1 b1 k by':Nat} {kd:LK} {z1 z:Option (List Value)} (hf:P.funcs[f]?=some fn) (hname:(fn.name == "runtime.NumGoroutine")=false) (hb:fn.body.isNone=true) (hn:Extern.findNext fn=none)
  (he:Extern.find fn=some (Extern.SlicesOverlaps.overlaps #[t,t] #[tR])) (hl:lay P t=some ⟨.slice e,s1,b1,z1⟩) (hle:lay P e=some ⟨kd,k,by',z⟩) {id e' k' i off n c:Nat} {rows bx:List (List C)} {cs:List C} (hbx:bx[i]?=some cs) (hcs:cs≠[]) (hrows:rows≠[]) (hn0:0<n) :
  zoR P f [.own id e' k' rows,.bs i off k n c] bx (.sc (.bool false)):=by
 intro B R L vs hB hO hr
 obtain ⟨v1,us,rfl,h1,hr⟩:=zd.1 hr
 obtain ⟨v2,us,rfl,h2,hr⟩:=zd.1 hr
 rw[zg]at hr
 subst hr
 refine ⟨.bool false,?_,zi.2 rfl⟩
 rw[run_callFunc_extern hf hname hb hn he]
 have ht:=zD hl rfl
 have hz:∀ w,(Go.sizeOf e).run P w = .ok k w:=fun w=>qc hle w
 obtain ⟨hT,a,cap,hv1,_⟩:=JH.1 h1
 obtain ⟨b,hbi,ad,rfl,had⟩:=qB.1 h2
 obtain ⟨us,ty,e1,e2,e3,e4⟩:=hB.box i b cs hbi hbx
 have hsz:us.size≠0:=by
  have:=zl e2
  simp only[Array.length_toList]at this
  rw[this]
  exact fun h=>hcs (List.eq_nil_of_length_eq_zero h)
 rcases hO.own id e' k' v1 hT with hnil | ⟨g,n',cap',cur,ty',q1,q2,q3,q4,q5,q6,q7,q8⟩ | ⟨_,_,_,_,hmap,_⟩
 rotate_right
 ·rw[hv1]at hmap;unfold Z2 at hmap;cases hmap
 ·rw[hnil]at hv1
  obtain ⟨_,h0,_⟩:=Value.slice.inj hv1
  exact absurd (List.eq_nil_of_length_eq_zero h0.symm) hrows
 ·rw[q1]
  obtain rfl:=had (by omega)
  have hne:g≠b:=fun h=>q7 (h▸List.mem_of_getElem? hbi)
  rw[Lib.run_overlaps_apart R.w t tR e ht k hz ⟨g,0,none⟩ ⟨b,off,none⟩ n' cap' n c hne ty' ty cur.size us.size (by simp[World.shape?,q3]) (by simp[World.shape?,e1]) hsz (frozen_of_row R.w g 0 _ _ q3) (frozen_of_row R.w g _ _ _ q3)]
  rfl
theorem GP {m k:Nat} {z:List C} (hz:z.length=k):(List.replicate m z).flatten.length=m*k:=by
 have h:=qg (k:=k) (rows:=List.replicate m z) fun r hr=>by rw[(List.mem_replicate.1 hr).2];exact hz
 rw[h,List.length_replicate]
section
variable {P:Program} {t tn e s1 b1 s2 b2 k by' m i off n cap nx lg:Nat} {kd:LK} {kn kq:IntKind} {z1 z2 z3:Option (List Value)} {z:List Value} {cs xs:List C} {bx:List (List C)} {tm:List (Nat×C)} {d:C} {q:Int} {K3:C->St->Prop}
theorem znG (hl:lay P t=some ⟨.slice e,s1,b1,z1⟩) (hln:lay P tn=some ⟨.int kn,s2,b2,z2⟩) (hle:lay P e=some ⟨kd,k,by',some z⟩) (hz:z.length=k) (hk:0<k) (h1:(z.all Value.oneCell')=true)
  (hb:bx[i]?=some cs) (hfit:off+cap*k<=cs.length) (hn:n<=cap) (hq:0<q) (h63:(n:Int)+q<=9223372036854775807) (hby:((n:Int)+q)*by'<=140737488355328) (hg:(cap:Int)<n+q)
  (hK:∀ c' B,n+q.toNat<=c'->c'<=9223372036854775807->B.length=c'*k->B.take (n*k)=(cs.drop off).take (n*k)->K3 (.bs bx.length 0 k (n+q.toNat) c') ⟨tm,bx++[B],nx,lg⟩):yK P t tn (.bs i off k n cap) (.sc (.int kq q)) ⟨tm,bx,nx,lg⟩ K3 ⟨⟩:=by
 have hnk:n*k<=cap*k:=Nat.mul_le_mul_right _ hn
 refine zpL hl hln hle hz hk h1 hb hfit hn hq h63 hby hg fun c' g1 g2=>hK c' _ g1 g2 ?_ ?_
 ·rw[List.length_append,List.length_append,GP (k:=k) (by simpa using hz),List.length_replicate,List.length_take,List.length_drop,Nat.min_eq_left (by omega),←Nat.add_mul,←Nat.add_mul]
  congr 1;omega
 ·rw[List.append_assoc,List.take_left' (by rw[List.length_take,List.length_drop];omega)]
theorem Zc (hl:lay P t=some ⟨.slice e,s1,b1,z1⟩) (hle:lay P e=some ⟨kd,k,by',z3⟩) (hx:d.xs? k bx=some (m,xs)) (hb:bx[i]?=some cs) (hxl:xs.length=m*k) (hfit:off+n*k<=cs.length)
  (hK:∀ B,B=spl cs off (xs.take (min m n*k))->B.length=cs.length->K3 (.sc (.int .i64 ((min m n:Nat):Int))) ⟨tm,bx.set i B,nx,lg⟩):zcs P t (.bs i off k n cap) d ⟨tm,bx,nx,lg⟩ K3 ⟨⟩:=
 zoy hl hle hx hb hxl hfit (hK _ rfl (by
  have h1:min m n*k<=n*k:=Nat.mul_le_mul_right _ (Nat.min_le_right _ _)
  exact Hy (by rw[List.length_take];omega)))
end
theorem yv {k i off n c:Nat} {bx:List (List C)} {cs:List C} (hb:bx[i]?=some cs) (h:off+n*k<=cs.length):C.xs? k bx (.bs i off k n c)=some (n,(cs.drop off).take (n*k)):=by
 simp[C.xs?,hb,h]
theorem ZE {k c i:Nat} {rows:List (List C)} (hk:∀ r∈rows,r.length=k) (hi:i<=rows.length):((jm k rows c).drop (i*k)).take ((rows.length-i)*k)=rows.flatten.drop (i*k):=by
 have hf:=qg hk
 have h1:i*k<=rows.length*k:=Nat.mul_le_mul_right _ hi
 unfold jm
 rw[List.drop_append_of_le_length (by omega),List.take_left' (by rw[List.length_drop,hf,Nat.sub_mul])]
theorem ZK {k i:Nat} {rows:List (List C)} {x:List C} (hk:∀ r∈rows,r.length=k):rows.flatten.take (i*k)++(x++rows.flatten.drop (i*k))=(rows.take i++x :: rows.drop i).flatten:=by
 rw[Vc hk,HV hk];simp
theorem xV {bx:List (List C)} {i e k c:Nat} {rows:List (List C)} {cs:List C} (hb:bx[i]?=some cs) (hc:0<c) (h1:rows.length<=c) (h2:c<=9223372036854775807) (hl:cs.length=c*k) (hk:∀ r∈rows,r.length=k) (hs:(cs.all C.stayB)=true) (ht:cs.take (rows.length*k)=rows.flatten) :
  zeF [(i,e,k,rows,c)] bx:=by
 refine ⟨by simp,fun x hx=>?_⟩
 rw[List.mem_singleton]at hx
 subst hx
 exact ⟨cs,hb,hc,h1,by unfold maxLen;exact h2,hl,hk,by rw[Gg hs];exact ht⟩
theorem zcf {k c:Nat} {rows:List (List C)} (hk:∀ r∈rows,r.length=k):(jm k rows c).take (rows.length*k)=rows.flatten:=by
 unfold jm;rw[List.take_left' (qg hk)]
theorem qT {bx:List (List C)} {i e k c:Nat} {rows:List (List C)} (hb:bx[i]?=some (jm k rows c)) (hc:0<c) (h1:rows.length<=c) (h2:c<=9223372036854775807) (hk:∀ r∈rows,r.length=k) (hs:js rows):zeF [(i,e,k,rows,c)] bx:=
 xV hb hc h1 h2 (XZ hk h1) hk (qm hs) (zcf hk)
theorem yt {k c i:Nat} {rows:List (List C)} {row:List C} (hk:∀ r∈rows,r.length=k) (hr:row.length=k) (hi:i<rows.length):(jm k rows c).take (i*k)++row++(jm k rows c).drop (i*k+k)=jm k (rows.set i row) c:=by
 have hf:=qg hk
 have h1:(i+1)*k<=rows.length*k:=Nat.mul_le_mul_right _ hi
 rw[Nat.succ_mul]at h1
 unfold jm
 rw[List.take_append_of_le_length (by omega),List.drop_append_of_le_length (by omega),←Nat.succ_mul,Vc hk,HV hk,List.length_set,←List.append_assoc]
 congr 1
 rw[List.set_eq_take_append_cons_drop,if_pos hi]
 simp
def RLe:List (List C)->List (List C)->Prop
 | [],[]=>True
 | a :: r,b :: s=>ze [] 0 a b/\RLe r s
 | _,_=>False
theorem RLe.len:∀ {a b:List (List C)},RLe a b->a.length=b.length
 | [],[],_=>rfl
 | _ :: r,_ :: s,h=>by rw[List.length_cons,List.length_cons,RLe.len h.2]
theorem ze.len {src:Src} {n:Nat}:∀ {a b:List C},ze src n a b->a.length=b.length
 | [],[],_=>rfl
 | [],_ :: _,h=>by simp[ze]at h
 | _ :: _,[],h=>by simp[ze]at h
 | _ :: r,_ :: s,h=>by
  rw[ze]at h
  rw[List.length_cons,List.length_cons,ze.len h.2]
theorem zdN {R:Env} {c d:C} {v:Value} (h:CLe [] 0 c d) (hr:Rep R zu c v):Rep R zu d v:=by
 refine Rep.ext (Ext.refl R) (T:=jv [] 0 zu) ⟨fun i b hb=>?_,fun id x hx=>?_⟩ _ _ (Rep.less _ _ _ h hr)
 ·simp at hb
 ·have hx:QA [] zu.T id=some x:=hx
  simp[QA]at hx
theorem VM {R:Env} {b:Nat}:∀ {cs ds:List C} {o:Nat},ze [] 0 cs ds->zy R cs b o->zy R ds b o
 | [],[],_,_,h=>h
 | [],_ :: _,_,h,_=>by simp[ze]at h
 | _ :: _,[],_,h,_=>by simp[ze]at h
 | c :: r,d :: s,o,h,hr=>by
  rw[ze]at h
  obtain ⟨⟨v,h1,h2,h3,h4⟩,h5⟩:=zM.1 hr
  exact zM.2 ⟨⟨v,h1,h2,zdN h.1 h3,h4⟩,VM h.2 h5⟩
theorem UO {R:Env} {k b:Nat}:∀ {a c:List (List C)} {o:Nat},RLe a c->zA R a k b o->zA R c k b o
 | [],[],_,_,h=>h
 | x :: r,y :: s,o,h,hr=>by
  unfold zA at hr ⊢
  exact ⟨(ze.len h.1).symm.trans hr.1,VM h.1 hr.2.1,UO h.2 hr.2.2⟩
theorem zae {R:Env} {L:Loc} {id e k:Nat} {a c:List (List C)} {v:Value} (h:RLe a c) (hr:Rep R L (.own id e k a) v):Rep R L (.own id e k c) v:=by
 obtain ⟨h1,ad,cap,h2,h3,h4,h5⟩:=JH.1 hr
 refine JH.2 ⟨h1,ad,cap,by rw[h2,h.len],by rw[←h.len];exact h3,h4,?_⟩
 rcases h5 with h5 | ⟨b,o,h5,h6⟩
 ·subst h5
  have:=h.len
  exact .inl (List.eq_nil_of_length_eq_zero (by simpa using this.symm))
 ·exact .inr ⟨b,o,h5,UO h h6⟩
theorem Fun.resX {P:Program} {G:zj} {f:FuncId} {args:List C} {r r':C} {n:Nat} (hf:Fun P G f args r n) (h:∀ R L v,Rep R L r v->Rep R L r' v):Fun P G f args r' n:=
 ⟨hf.1,fun R vs hg ha=>(hf.2 R vs hg ha).mono fun e w' ⟨v,R',L',h1,h2,h3,h4⟩=>⟨v,R',L',h1,h2,h3,h _ _ _ h4⟩⟩
theorem zaq {R:Env} {L:Loc} {cs ds:List C} {v:Value} (h:∀ vs,zm R L cs vs->zm R L ds vs) (hr:Rep R L (.agg cs) v):Rep R L (.agg ds) v:=by
 obtain ⟨vs,h1,h2⟩:=jA.1 hr
 exact jA.2 ⟨vs,h1,h _ h2⟩
theorem JB {R:Env} {L:Loc} {c d:C} {cs ds:List C} {vs:List Value} (h:∀ v,Rep R L c v->Rep R L d v) (h':∀ vs,zm R L cs vs->zm R L ds vs) (hr:zm R L (c :: cs) vs):zm R L (d :: ds) vs:=by
 obtain ⟨v,us,rfl,h1,h2⟩:=zd.1 hr
 exact zd.2 ⟨v,us,rfl,h _ h1,h' _ h2⟩
end
section
open Go.RowKit
def zij (k:Nat) (rows:List (List C)) (r:C) (bx':List (List C)) (n:Nat):Prop:=
 n=0/\((rows≠[]/\∃ c,rows.length<=c/\c<=9223372036854775807/\r = .bs 1 0 k rows.length c/\bx' = [[],jm k rows c])∨(rows = []/\(r = .sc (.slice none 0 0)/\bx' = []∨r = .bs 0 0 k 0 0/\bx' = [[]])))
def zpm (k m:Nat) (ins:List (List C)) (r:C) (bx':List (List C)) (n:Nat):Prop:=
 n=0/\∃ c,ins.length<=c/\c<=9223372036854775807/\(r = .bs 0 0 k ins.length c/\bx' = [jm k ins c]∨r = .bs 1 0 k ins.length c/\bx' = [List.replicate m .any,jm k ins c])
section
variable {G:zj}
theorem UV (rows:List (List C)) (hk:∀ r∈rows,r.length=6) (hs:js rows) (hl:rows.length<=100000) :
  YI Tryz.prog G 237 [.sl 6 rows] [] 0 (zij 6 rows):=by
 refine YI.bySlice (fun h=>?_) (fun h a cap hr=>?_)
 ·refine foX (fun i=>if i=1000000+22 then [true,true] else []) Tryz.func237 ?_;dsimp only[Tryz.f237]
  push_cast -dsimp
  refine ⟨h,Uf Vk VK rfl rfl (by decide) rfl (qg hk) rfl (Nat.le_refl _) (Nat.le_refl _) (by omega) (by omega) (fun hc=>absurd hc ?_) (fun _ c hc hm=>?_)⟩
  ·have:=List.length_pos_iff.2 h;omega
  ·push_cast -dsimp
   rw[Nat.zero_add]at hc
   refine ⟨_,_,_,⟨⟨rfl,.inl ⟨h,c,hc,hm,rfl,rfl⟩⟩,Nat.zero_le _⟩,[],rfl,rfl,?_,by push_cast -dsimp [zb,za,CLe,ze]⟩
   push_cast -dsimp [zb,za,CLe,ze]
   exact zS (qm hs)
 ·cases a with
  | none =>
   refine foX (fun i=>if i=1000000+22 then [true,true] else []) Tryz.func237 ?_;dsimp only[Tryz.f237]
   push_cast -dsimp [hr,Option.isNone_none]
   exact ⟨_,_,_,⟨⟨rfl,.inr ⟨h,.inl ⟨rfl,rfl⟩⟩⟩,Nat.zero_le _⟩,[],rfl,rfl,by push_cast -dsimp [zb,za,CLe,ze],by push_cast -dsimp [zb,za,CLe,ze]⟩
  | some a =>
   refine foX (fun i=>if i=1000000+22 then [true,true] else []) Tryz.func237 ?_;dsimp only[Tryz.f237]
   push_cast -dsimp [hr,Option.isNone_some]
   have hx:C.xs? 6 [[]] (C.sc (.slice (some a) 0 cap))=some (0,[]):=by simp[C.xs?,hr]
   refine Uf Vk VK hx rfl (by decide) rfl rfl rfl (Nat.le_refl _) (Nat.le_refl _) (by omega) (by omega) (fun _=>?_) (fun hc=>absurd hc (by omega))
   push_cast -dsimp
   exact ⟨_,_,_,⟨⟨rfl,.inr ⟨h,.inr ⟨rfl,rfl⟩⟩⟩,Nat.zero_le _⟩,[],rfl,rfl,by (push_cast -dsimp [zb,za,CLe,ze];simp[spl,ze]),by push_cast -dsimp [zb,za,CLe,ze]⟩
theorem vd (rows:List (List C)) (x:List C) (i c e:Nat) (hk:∀ r∈rows,r.length=6) (hx:x.length=6) (hs:js rows) (hsx:(x.all C.stayB)=true) (hl:rows.length<=100000) (hi:i<=rows.length) (hc:rows.length<=c) (hcm:c<=9223372036854775807) :
  YI Tryz.prog G 236 [.bs 0 0 6 rows.length c,.sc (.int .i64 i),.own 0 e 6 [x]] [jm 6 rows c] 1 (zpm 6 (c*6) (rows.take i++x :: rows.drop i)):=by
 refine foX (fun j=>if j=1000000+22 then [true,true] else if j=11 then [false,false,false,false,false,false,false,false,true] else if j=15 then [false,false,false,false,false,false,false,false,true] else []) Tryz.func236 ?_;dsimp only[Tryz.f236]
 push_cast -dsimp
 have hlen:(rows.take i++x :: rows.drop i).length=rows.length+1:=by simp;omega
 have hki:∀ r∈rows.take i++x :: rows.drop i,r.length=6:=fun r hr=>by
  rcases List.mem_append.1 hr with hr | hr
  ·exact hk r (List.mem_of_mem_take hr)
  ·rcases List.mem_cons.1 hr with rfl | hr
   ·exact hx
   ·exact hk r (List.mem_of_mem_drop hr)
 have hsi:js (rows.take i++x :: rows.drop i):=fun r hr=>by
  rcases List.mem_append.1 hr with hr | hr
  ·exact hs r (List.mem_of_mem_take hr)
  ·rcases List.mem_cons.1 hr with rfl | hr
   ·exact hsx
   ·exact hs r (List.mem_of_mem_drop hr)
 have hbl:=XZ hk hc
 have hfl:=qg hk
 have hxl:[x].flatten.length=1*6:=by simp[hx]
 have hpre:(jm 6 rows c).take rows.flatten.length=rows.flatten:=by unfold jm;rw[List.take_left]
 refine ⟨hc,⟨by omega,hi⟩,br (fun h=>?_) (fun h=>?_)⟩
 ·push_cast -dsimp
  refine Uf Vk VK rfl rfl (by decide) rfl hxl rfl (by rw[hbl];omega) hc (by simp;omega) (by simp;omega) (fun h1=>?_) (fun h1 c' h2 h3=>?_)
  ·push_cast -dsimp
   have hi':i=rows.length:=of_decide_eq_true h
   refine ⟨_,_,_,⟨⟨rfl,c,by rw[hlen];exact h1,hcm,.inl ⟨rfl,rfl⟩⟩,Nat.le_refl _⟩,[],rfl,rfl,?_,by push_cast -dsimp [zb,za,CLe,ze,hlen]⟩
   push_cast -dsimp [zb,za,CLe,ze]
   have h6:rows.length*6+6<=c*6:=by have:rows.length+1<=c:=h1;omega
   refine YL hki hsi (by rw[hlen];exact h1) (by rw[Hy (by rw[hbl,hx];exact h6),hbl]) ?_
   rw[hlen,hi',List.take_length,List.drop_length]
   unfold spl
   rw[←hfl,hpre,List.take_left' (by simp[hx,hfl];omega)]
   simp
  ·push_cast -dsimp
   have hi':i=rows.length:=of_decide_eq_true h
   have h2':rows.length+1<=c':=h2
   refine ⟨_,_,_,⟨⟨rfl,c',by rw[hlen];exact h2,h3,.inr ⟨rfl,rfl⟩⟩,Nat.le_of_ble_eq_true rfl⟩,[],rfl,rfl,?_,by push_cast -dsimp [zb,za,CLe,ze,hlen]⟩
   push_cast -dsimp [zb,za,CLe,ze]
   refine ⟨XI hbl,YL hki hsi (by rw[hlen];exact h2) (by simp[hx,hbl];omega) ?_⟩
   rw[hlen,hi',List.take_length,List.drop_length,←hfl,hpre,List.take_left' (by simp[hx,hfl];omega)]
   simp
 ·have hne:i≠rows.length:=of_decide_eq_false h
  push_cast -dsimp
  refine ⟨⟨by omega,by omega⟩,br (fun h1=>?_) (fun h1=>?_)⟩
  ·have h1':(c:Int)<(rows.length:Int)+1:=of_decide_eq_true h1
   push_cast -dsimp
   repeat refine an ?_
   refine znG Vk zlI VK rfl (by decide) rfl rfl (by rw[hbl];omega) (by omega) (by omega) (by omega) (by omega) (by omega) (fun c' B h2 h3 hBl hBt=>?_)
   have e1:((rows.length:Int)+1-(i:Int)).toNat=rows.length+1-i:=by omega
   rw[e1]at h2 ⊢
   have e2:i+(rows.length+1-i)=rows.length+1:=by omega
   rw[e2]at h2 ⊢
   push_cast -dsimp
   repeat refine an ?_
   refine Zc Vk VK rfl rfl hxl (by rw[hBl];omega) (fun B1 hB1 hl1=>?_)
   rw[hBl]at hl1
   push_cast -dsimp
   repeat refine an ?_
   have hbp:=ZE (c:=c) hk hi
   refine Zc Vk VK (yv rfl (by rw[hbl];omega)) rfl (by rw[hbp,List.length_drop,hfl];omega) (by rw[hl1];omega) (fun B2 hB2 hl2=>?_)
   rw[hl1]at hl2
   have hX:[x].flatten.take (min [x].length (rows.length+1-i)*6)=x:=by
    rw[List.length_singleton,Nat.min_eq_left (by omega),List.take_of_length_le (by omega)];simp
   rw[hX]at hB1
   rw[hbp,show min (rows.length-i) (rows.length-i)*6=(rows.length-i)*6 by omega,List.take_of_length_le (by rw[List.length_drop,hfl];omega),hB1]at hB2
   push_cast -dsimp
   refine ⟨_,_,_,⟨⟨rfl,c',by rw[hlen];exact h2,h3,.inr ⟨rfl,rfl⟩⟩,Nat.le_of_ble_eq_true rfl⟩,[],rfl,rfl,?_,by push_cast -dsimp [zb,za,CLe,ze,hlen]⟩
   push_cast -dsimp [zb,za,CLe,ze]
   refine ⟨XI hbl,YL hki hsi (by rw[hlen];exact h2) hl2 ?_⟩
   rw[hlen,←ZK hk,hB2]
   have hg:=yl (cs:=B) (L:=rows.flatten) (X:=x) (p:=i*6) (q:=(i+1)*6) (by omega) (by omega) (by
    rw[hBt,List.drop_zero];unfold jm;rw[List.take_append_of_le_length (by omega)]) (by omega)
   rw[hfl,hx]at hg
   rw[←hg]
   congr 1;omega
  ·have h1':¬(c:Int)<(rows.length:Int)+1:=of_decide_eq_false h1
   push_cast -dsimp
   repeat refine an ?_
   refine zlU (zbG (P:=Tryz.prog) (tR:=4) Tryz.func264 (by kernel_rfl) (by kernel_rfl) (by kernel_rfl) (by kernel_rfl) Vk VK rfl (List.ne_nil_of_length_pos (by rw[hbl];omega)) (by simp) (by omega)) ?_
   push_cast -dsimp
   repeat refine an ?_
   have hbp:=ZE (c:=c) hk hi
   refine Zc Vk VK (yv rfl (by rw[hbl];omega)) rfl (by simp[hbl];omega) (by rw[hbl];omega) (fun B1 hB1 hl1=>?_)
   rw[hbl]at hl1
   rw[List.take_take,Nat.min_eq_left (by omega),show min (rows.length+1-i) (rows.length-i)*6=(rows.length-i)*6 by omega,hbp]at hB1
   push_cast -dsimp
   repeat refine an ?_
   refine Zc Vk VK rfl rfl hxl (by rw[hl1];omega) (fun B2 hB2 hl2=>?_)
   rw[hl1]at hl2
   have hX:[x].flatten.take (min [x].length (rows.length+1-i)*6)=x:=by
    rw[List.length_singleton,Nat.min_eq_left (by omega),List.take_of_length_le (by omega)];simp
   rw[hX,hB1]at hB2
   push_cast -dsimp
   have hcc:rows.length+1<=c:=by omega
   refine ⟨_,_,_,⟨⟨rfl,c,by rw[hlen];exact hcc,hcm,.inl ⟨rfl,rfl⟩⟩,Nat.le_of_ble_eq_true rfl⟩,[],rfl,rfl,?_,by push_cast -dsimp [zb,za,CLe,ze,hlen]⟩
   push_cast -dsimp [zb,za,CLe,ze]
   refine YL hki hsi (by rw[hlen];exact hcc) hl2 ?_
   rw[hlen,←ZK hk,hB2]
   have hg:=HL (cs:=jm 6 rows c) (L:=rows.flatten) (X:=x) (p:=i*6) (q:=(i+1)*6) (by omega) (by omega) hpre (by omega)
   rw[hfl,hx]at hg
   rw[←hg]
   congr 1;omega
theorem zeM {e:Nat} (x:List C) (hx:x.length=6) (hsx:(x.all C.stayB)=true) :
  YI Tryz.prog G 236 [.sc (.slice none 0 0),.sc (.int .i64 0),.own 0 e 6 [x]] [] 1 (fun r bx' n=>n=0/\∃ c,1<=c/\c<=9223372036854775807/\r = .bs 0 0 6 1 c/\bx' = [jm 6 [x] c]):=by
 refine foX (fun j=>if j=1000000+22 then [true,true] else if j=11 then [false,false,false,false,false,false,false,false,true] else if j=15 then [false,false,false,false,false,false,false,false,true] else []) Tryz.func236 ?_;dsimp only[Tryz.f236]
 push_cast -dsimp
 refine yD Vk VK rfl rfl (by decide) rfl (by simp[hx]) (by simp) (by simp) (by simp) (fun c h1 h2=>?_)
 push_cast -dsimp
 refine ⟨_,_,_,⟨⟨rfl,c,h1,h2,rfl,rfl⟩,Nat.zero_le _⟩,[],rfl,rfl,?_,by push_cast -dsimp [zb,za,CLe,ze]⟩
 push_cast -dsimp [zb,za,CLe,ze]
 have:=zS (src:=[]) (n:=1) (qm (k:=6) (c:=c) (rows:=[x]) fun r hr=>by
  rw[List.mem_singleton.1 hr];exact hsx)
 unfold jm at this ⊢
 simpa using this
end
end
section
structure zH where
 name:List UInt8
 ino:Int
deriving DecidableEq,Inhabited
structure zn where
 ino:Int
 kind:Int
 links:Int
 data:List UInt8
 parent:Int
 es:List zH
deriving DecidableEq,Inhabited
def zW (xs:List zn):Prop:=xs.Pairwise fun a b=>a.ino<b.ino
def zw (n:Int) (xs:List zn):Bool:=xs.any fun x=>x.ino==n
def q9 (n:Int) (xs:List zn):Nat:=(xs.filter fun x=>decide (x.ino<n)).length
def Yp (n:Int) (xs:List zn):List zn:=xs.filter fun x=>x.ino != n
def XO (n:Int) (xs:List zn):Option zn:=xs.find? fun x=>x.ino==n
def V1 (x:zn):List zn->List zn
 | []=>[x]
 | y :: r=>if x.ino<y.ino then x :: y :: r else y :: V1 x r
def jp (x:zn) (xs:List zn):List zn:=V1 x (Yp x.ino xs)
theorem ku (n:Int):∀ (xs:List zn) (i:Nat),i<=xs.length->(∀ t (h:t<xs.length),t<i->xs[t].ino<n)->(∀ t (h:t<xs.length),i<=t->n<=xs[t].ino)->q9 n xs=i
 | [],i,h,_,_=>by simp at h;simp[q9,h]
 | x :: r,0,_,_,h2=>by
  have hx:n<=x.ino:=h2 0 (by simp) (Nat.le_refl _)
  have ih:=ku n r 0 (Nat.zero_le _) (fun t h h'=>absurd h' (Nat.not_lt_zero _)) (fun t h _=>h2 (t+1) (by simp;omega) (Nat.zero_le _))
  unfold q9 at ih ⊢
  rw[List.filter_cons_of_neg (by simp;omega)]
  exact ih
 | x :: r,i+1,h,h1,h2=>by
  have hx:x.ino<n:=h1 0 (by simp) (Nat.succ_pos _)
  have ih:=ku n r i (by simpa using h) (fun t h h'=>h1 (t+1) (by simp;omega) (by omega)) (fun t h h'=>h2 (t+1) (by simp;omega) (by omega))
  unfold q9 at ih ⊢
  rw[List.filter_cons_of_pos (by simp;omega),List.length_cons,ih]
theorem zhQ (n:Int) (xs:List zn) (i:Nat) (hi:i<xs.length) (h1:∀ t (h:t<xs.length),t<i->xs[t].ino<n) (h2:n<=xs[i].ino) (hR:zW xs):zw n xs=decide (xs[i].ino=n):=by
 by_cases h:xs[i].ino=n
 ·rw[decide_eq_true h]
  exact List.any_eq_true.2 ⟨xs[i],List.getElem_mem hi,by simp[h]⟩
 ·rw[decide_eq_false h]
  apply Bool.eq_false_iff.2
  intro hh
  obtain ⟨y,hy,e⟩:=List.any_eq_true.1 hh
  obtain ⟨t,ht,rfl⟩:=List.getElem_of_mem hy
  have e:xs[t].ino=n:=by simpa using e
  rcases Nat.lt_trichotomy t i with h3 | h3 | h3
  ·have:=h1 t ht h3;omega
  ·subst h3;exact h e
  ·have:=(List.pairwise_iff_getElem.1 hR) i t hi ht h3;omega
theorem zaF (n:Int) (xs:List zn) (h1:∀ t (h:t<xs.length),xs[t].ino<n):zw n xs=false:=by
 apply Bool.eq_false_iff.2
 intro hh
 obtain ⟨y,hy,e⟩:=List.any_eq_true.1 hh
 obtain ⟨t,ht,rfl⟩:=List.getElem_of_mem hy
 have e:xs[t].ino=n:=by simpa using e
 have:=h1 t ht
 omega
theorem k8 {n:Int} {xs:List zn} (h:zw n xs=false):XO n xs=none:=by
 unfold XO zw at *
 rw[List.find?_eq_none]
 intro x hx hh
 rw[List.any_eq_false]at h
 exact h x hx hh
theorem u6 (n:Int) (xs:List zn) (hR:zW xs):∃ i,i<=xs.length/\(∀ t (h:t<xs.length),t<i->xs[t].ino<n)/\(∀ t (h:t<xs.length),i<=t->n<=xs[t].ino):=by
 induction xs with
 | nil=>exact ⟨0,Nat.le_refl _,fun t h=>absurd h (Nat.not_lt_zero _),fun t h=>absurd h (Nat.not_lt_zero _)⟩
 | cons x r ih =>
  by_cases hx:x.ino<n
  ·obtain ⟨i,h1,h2,h3⟩:=ih (List.pairwise_cons.1 hR).2
   refine ⟨i+1,by simp;omega,fun t h ht=>?_,fun t h ht=>?_⟩
   ·cases t with
    | zero=>exact hx
    | succ t=>exact h2 t (by simpa using h) (by omega)
   ·cases t with
    | zero=>omega
    | succ t=>exact h3 t (by simpa using h) (by omega)
  ·refine ⟨0,Nat.zero_le _,fun t h ht=>absurd ht (Nat.not_lt_zero _),fun t h _=>?_⟩
   cases t with
   | zero=>simp;omega
   | succ t =>
    have:=(List.pairwise_cons.1 hR).1 (r[t]'(by simpa using h)) (List.getElem_mem _)
    simp;omega
theorem zcy (n:Int) (xs:List zn):q9 n xs<=xs.length:=List.length_filter_le _ _
theorem zbC {n:Int} {xs:List zn} (hR:zW xs):(∀ t (h:t<xs.length),t<q9 n xs->xs[t].ino<n)/\(∀ t (h:t<xs.length),q9 n xs<=t->n<=xs[t].ino):=by
 obtain ⟨i,h1,h2,h3⟩:=u6 n xs hR
 rw[ku n xs i h1 h2 h3]
 exact ⟨h2,h3⟩
theorem zfo {n:Int} {xs:List zn} (hR:zW xs) (h:zw n xs=true):∃ hlt:q9 n xs<xs.length,xs[q9 n xs].ino=n:=by
 obtain ⟨h2,h3⟩:=zbC (n:=n) hR
 by_cases hlt:q9 n xs<xs.length
 ·refine ⟨hlt,?_⟩
  have:=zhQ n xs _ hlt h2 (h3 _ hlt (Nat.le_refl _)) hR
  rw[h]at this
  exact of_decide_eq_true this.symm
 ·have:=zaF n xs (fun t h=>h2 t h (by omega))
  rw[h]at this;cases this
theorem yw {n:Int} {xs:List zn} (hR:zW xs) (h:zw n xs=true):∃ hlt:q9 n xs<xs.length,XO n xs=some xs[q9 n xs]:=by
 obtain ⟨hlt,he⟩:=zfo hR h
 refine ⟨hlt,?_⟩
 obtain ⟨h2,h3⟩:=zbC (n:=n) hR
 unfold XO
 rw[List.find?_eq_some_iff_getElem]
 exact ⟨by simp[he],_,hlt,rfl,fun j hj=>by have:=h2 j (by omega) hj;simp;omega⟩
theorem j9 {y:zn} {r:List zn}:zW (y :: r)↔(∀ z∈r,y.ino<z.ino)/\zW r:=List.pairwise_cons
theorem Ze {n:Int} {y:zn} {r:List zn} (h:y.ino<n):q9 n (y :: r)=q9 n r+1:=by
 unfold q9
 rw[List.filter_cons_of_pos (by simpa using h),List.length_cons]
theorem HQ {n:Int} {xs:List zn} (h:∀ z∈xs,n<=z.ino):q9 n xs=0:=by
 unfold q9
 rw[List.length_eq_zero_iff,List.filter_eq_nil_iff]
 intro z hz
 have:=h z hz
 simp;omega
theorem k7 {n:Int} {xs:List zn} (h:zw n xs=false):Yp n xs=xs:=by
 unfold Yp
 rw[List.filter_eq_self]
 intro z hz
 unfold zw at h
 rw[List.any_eq_false]at h
 have:=h z hz
 simpa using this
theorem Vt {n:Int} {y:zn} {r:List zn} (h:y.ino<n):zw n (y :: r)=zw n r:=by
 unfold zw
 rw[List.any_cons,show (y.ino==n)=false by rw[beq_eq_false_iff_ne];omega,Bool.false_or]
theorem Mr {n:Int} {xs:List zn} (h:∀ z∈xs,n<z.ino):zw n xs=false:=by
 unfold zw
 rw[List.any_eq_false]
 intro z hz
 have:=h z hz
 simp;omega
theorem Y1 {n:Int} {y:zn} {r:List zn} (h:y.ino≠n):Yp n (y :: r)=y :: Yp n r:=by
 unfold Yp
 rw[List.filter_cons_of_pos (by simpa using h)]
theorem Y8 {n:Int} {y:zn} {r:List zn} (h:y.ino=n):Yp n (y :: r)=Yp n r:=by
 unfold Yp
 rw[List.filter_cons_of_neg (by simpa using h)]
theorem zlJ {x y:zn} {r:List zn} (h:y.ino<x.ino):V1 x (y :: r)=y :: V1 x r:=by
 rw[V1,if_neg (by omega)]
theorem zim {x:zn} {xs:List zn} (h:∀ z∈xs,x.ino<z.ino):V1 x xs=x :: xs:=by
 cases xs with
 | nil=>rfl
 | cons y r=>rw[V1,if_pos (h y List.mem_cons_self)]
theorem Vn {x y:zn} {r:List zn} (h:y.ino<x.ino):jp x (y :: r)=y :: jp x r:=by
 unfold jp
 rw[Y1 (by omega),zlJ h]
theorem xu {x:zn}:∀ {xs:List zn},zW xs->zw x.ino xs=true->xs.set (q9 x.ino xs) x=jp x xs
 | [],_,h=>by cases h
 | y :: r,hR,h=>by
  obtain ⟨h1,h2⟩:=j9.1 hR
  by_cases hy:y.ino<x.ino
  ·rw[Ze hy,List.set_cons_succ,xu h2 (by rwa [Vt hy]at h),Vn hy]
  ·have hr0:q9 x.ino (y :: r)=0:=HQ fun z hz=>by
    rcases List.mem_cons.1 hz with rfl | hz
    ·omega
    ·have:=h1 z hz;omega
   by_cases he:y.ino=x.ino
   ·unfold jp
    rw[hr0,Y8 he,k7 (Mr fun z hz=>by have:=h1 z hz;omega),zim fun z hz=>by have:=h1 z hz;omega];rfl
   ·exfalso
    rw[Mr fun z hz=>by
     rcases List.mem_cons.1 hz with rfl | hz
     ·omega
     ·have:=h1 z hz;omega]at h
    cases h
theorem N4 {x:zn}:∀ {xs:List zn},zW xs->zw x.ino xs=false->xs.take (q9 x.ino xs)++x :: xs.drop (q9 x.ino xs)=jp x xs
 | [],_,_=>rfl
 | y :: r,hR,h=>by
  obtain ⟨h1,h2⟩:=j9.1 hR
  by_cases hy:y.ino<x.ino
  ·rw[Ze hy,List.take_succ_cons,List.drop_succ_cons,List.cons_append,N4 h2 (by rwa [Vt hy]at h),Vn hy]
  ·have hne:y.ino≠x.ino:=by
    intro e
    unfold zw at h
    rw[List.any_cons,e]at h
    simp at h
   have hr0:q9 x.ino (y :: r)=0:=HQ fun z hz=>by
    rcases List.mem_cons.1 hz with rfl | hz
    ·omega
    ·have:=h1 z hz;omega
   unfold jp
   rw[hr0,k7 h,zim fun z hz=>by
    rcases List.mem_cons.1 hz with rfl | hz
    ·omega
    ·have:=h1 z hz;omega]
   rfl
theorem zhF {n:Int} {xs:List zn}:∀ x∈Yp n xs,x∈xs:=fun x h=>(List.mem_filter.1 h).1
theorem kA {x:zn}:∀ {xs:List zn} {z:zn},z∈V1 x xs↔z=x∨z∈xs
 | [],z=>by simp[V1]
 | y :: r,z=>by
  rw[V1]
  split
  ·simp
  ·rw[List.mem_cons,kA,List.mem_cons]
   constructor
   ·rintro (h | h | h)<;>simp[h]
   ·rintro (h | h | h)<;>simp[h]
theorem zkn {x:zn} {xs:List zn} {z:zn} (h:z∈jp x xs):z=x∨z∈xs:=by
 rcases kA.1 h with h | h
 ·exact .inl h
 ·exact .inr (zhF _ h)
theorem vi {n:Int} {xs:List zn} (h:zW xs):zW (Yp n xs):=List.Pairwise.filter _ h
theorem H0 {x:zn}:∀ {xs:List zn},zW xs->(∀ z∈xs,z.ino≠x.ino)->zW (V1 x xs)
 | [],_,_=>by simp[V1,zW]
 | y :: r,h,hne=>by
  obtain ⟨h1,h2⟩:=j9.1 h
  have hy:=hne y List.mem_cons_self
  rw[V1]
  split
  ·next hlt =>
   refine j9.2 ⟨fun z hz=>?_,h⟩
   rcases List.mem_cons.1 hz with rfl | hz
   ·exact hlt
   ·have:=h1 z hz;omega
  ·next hlt =>
   refine j9.2 ⟨fun z hz=>?_,H0 h2 fun z hz=>hne z (List.mem_cons_of_mem _ hz)⟩
   rcases kA.1 hz with rfl | hz
   ·omega
   ·exact h1 z hz
theorem X1 {x:zn} {xs:List zn} (h:zW xs):zW (jp x xs):=H0 (vi h) fun z hz=>by
 have:=(List.mem_filter.1 hz).2
 simpa using this
theorem zbi {x:zn}:∀ {xs:List zn},(V1 x xs).length=xs.length+1
 | []=>rfl
 | y :: r=>by
  rw[V1]
  split
  ·rfl
  ·rw[List.length_cons,zbi,List.length_cons]
theorem zgS {n:Int} {xs:List zn}:(Yp n xs).length<=xs.length:=List.length_filter_le _ _
theorem zks {x:zn} {xs:List zn}:(jp x xs).length<=xs.length+1:=by
 unfold jp
 rw[zbi]
 have:=zgS (n:=x.ino) (xs:=xs)
 omega
end
section
open CA CB
open Go.RowKit
abbrev Hl (e:zH):List C:=[.str e.name,.sc (.int .i64 e.ino)]
abbrev zK (es:List zH):List (List C):=es.map Hl
abbrev J2 (x:zn):List C:=[.sc (.int .i64 x.ino),.sc (.int .i64 x.kind),.sc (.int .i64 x.links),.str x.data,.sc (.int .i64 x.parent),.sl 2 (zK x.es)]
abbrev zE (xs:List zn):List (List C):=xs.map J2
structure FsV where
 maxI:Int
 maxB:Int
 next:Int
 xs:List zn
deriving DecidableEq,Inhabited
abbrev fsC (f:FsV):List C:=[.sc (.int .i64 f.maxI),.sc (.int .i64 f.maxB),.sc (.int .i64 f.next),.sl 6 (zE f.xs)]
theorem qI (xs:List zn) (i:Nat) (h:i<xs.length):(zE xs)[i]?=some (J2 xs[i]):=by simp[List.getElem?_map,List.getElem?_eq_getElem h]
theorem jX (xs:List zH) (i:Nat) (h:i<xs.length):(zK xs)[i]?=some (Hl xs[i]):=by simp[List.getElem?_map,List.getElem?_eq_getElem h]
def vO:zn:=⟨0,0,0,[],0,[]⟩
def zf (n:Int) (xs:List zn):zn:=(XO n xs).getD vO
def zb6 (a b:Int):Int:=if a<b then -1 else if b<a then 1 else 0
section
variable {G:zj}
theorem zes (a:Int):Fun Tryz.prog G 180 [.sc (.int .i64 a)] (.sc (.bool false)) 0:=by
 refine fon Tryz.func180 ?_;dsimp only[Tryz.f180]
 push_cast -dsimp
 exact dn
theorem zkC (a b:Int):Fun Tryz.prog G 156 [.sc (.int .i64 a),.sc (.int .i64 b)] (.sc (.int .i64 (zb6 a b))) 0:=by
 refine fon Tryz.func156 ?_;dsimp only[Tryz.f156]
 push_cast -dsimp
 refine cl (zes a) ?_;push_cast -dsimp
 refine cl (zes b) ?_;push_cast -dsimp
 refine br (fun h=>?_) (fun h=>?_)
 ·have h:=of_decide_eq_true h
  push_cast -dsimp
  exact ⟨[],rfl,rfl,by (push_cast -dsimp [zb,za,CLe,ze];simp[zb6,h])⟩
 ·have h:=of_decide_eq_false h
  push_cast -dsimp
  refine br (fun h1=>?_) (fun h1=>?_)
  ·have h1:=of_decide_eq_true h1
   push_cast -dsimp
   exact ⟨[],rfl,rfl,by (push_cast -dsimp [zb,za,CLe,ze];simp[zb6,h,h1])⟩
  ·have h1:=of_decide_eq_false h1
   push_cast -dsimp
   exact ⟨[],rfl,rfl,by (push_cast -dsimp [zb,za,CLe,ze];simp[zb6,h,h1])⟩
theorem zcu (x:zn) (n:Int):Fun Tryz.prog G 155 [.agg (J2 x),.sc (.int .i64 n)] (.sc (.int .i64 (zb6 x.ino n))) 0:=by
 refine fon Tryz.func155 ?_;dsimp only[Tryz.f155]
 push_cast -dsimp
 refine cl (zkC x.ino n) ?_;push_cast -dsimp
 exact dn
theorem xg (xs:List zn) (n:Int) (hl:xs.length<=100000) (hR:zW xs) :
  Fun Tryz.prog G 154 [.sl 6 (zE xs),.sc (.int .i64 n),.clo (.func 155) [] []] (.tup [.sc (.int .i64 (q9 n xs:Nat)),.sc (.bool (zw n xs))]) 0:=by
 refine fon Tryz.func154 ?_;dsimp only[Tryz.f154]
 push_cast -dsimp
 refine loop (fun p:Nat×Nat=>⟨[(0,.sl 6 (zE xs)),(1,.sc (.int .i64 n)),(2,.clo (.func 155) [] []),(8,.sc (.int .i64 (xs.length:Nat))),(9,.sc (.int .i64 p.1)),(10,.sc (.int .i64 p.2))],[],0,0⟩)
  (fun p=>p.1<=p.2/\p.2<=xs.length/\(∀ t (h:t<xs.length),t<p.1->xs[t].ino<n)/\∀ t (h:t<xs.length),p.2<=t->n<=xs[t].ino) (fun p=>p.2-p.1) (0,xs.length) ⟨Nat.zero_le _,Nat.le_refl _,fun t _ h=>by (simp at h),fun t h h'=>by (dsimp only at h';omega)⟩ ?_ ?_
 ·exact wk (by push_cast -dsimp [zb,za,CLe,ze,List.length_map])
 ·rintro ⟨i,j⟩ ⟨h1,h2,h3,h4⟩
  dsimp only at h1 h2 h3 h4 ⊢
  by_cases h:i<j
  ·obtain ⟨m,hm⟩:∃ m,m=(i+j) / 2:=⟨_,rfl⟩
   have hmi:((i:Int)+(j:Int)) / 2=(m:Int):=by omega
   have hml:m<xs.length:=by omega
   have hat:=qI xs m hml
   push_cast -dsimp [h,hmi,hat]
   repeat refine an ?_
   refine cl (zcu xs[m] n) ?_;push_cast -dsimp
   by_cases hc:xs[m].ino<n
   ·have hcv:zb6 xs[m].ino n = -1:=by simp[zb6,hc]
    push_cast -dsimp [hcv]
    repeat refine an ?_
    refine ⟨(m+1,j),⟨by omega,h2,fun t ht hlt=>?_,h4⟩,by dsimp only;omega,wk⟩
    dsimp only at hlt
    rcases Nat.lt_or_ge t m with q | q
    ·have:=(List.pairwise_iff_getElem.1 hR) t m ht hml q;omega
    ·have:t=m:=by omega
     subst this;exact hc
   ·have hcv:(zb6 xs[m].ino n<0)=False:=eq_false (by unfold zb6;rw[if_neg hc];split<;>omega)
    push_cast -dsimp [hcv]
    repeat refine an ?_
    refine ⟨(i,m),⟨by omega,by omega,h3,fun t ht hge=>?_⟩,by dsimp only;omega,wk⟩
    dsimp only at hge
    rcases Nat.lt_or_ge m t with q | q
    ·have:=(List.pairwise_iff_getElem.1 hR) m t hml ht q;omega
    ·have:t=m:=by omega
     subst this;omega
  ·have hij:i=j:=by omega
   subst hij
   have hrk:=ku n xs i h2 h3 h4
   push_cast -dsimp [h]
   refine br (fun hx=>?_) (fun hx=>?_)
   ·have hx:i<xs.length:=by simpa using hx
    have hat:=qI xs i hx
    have hh:=zhQ n xs i hx h3 (h4 i hx (Nat.le_refl _)) hR
    push_cast -dsimp [hx,hat]
    repeat refine an ?_
    refine cl (zcu xs[i] n) ?_;push_cast -dsimp
    have hcv:decide (zb6 xs[i].ino n=0)=zw n xs:=by
     rw[hh]
     have:=h4 i hx (Nat.le_refl _)
     unfold zb6
     rw[if_neg (by omega)]
     split
     ·rw[decide_eq_false (by omega),decide_eq_false (by omega)]
     ·rw[decide_eq_true (by rfl),decide_eq_true (by omega)]
    push_cast -dsimp [hcv]
    exact dn (by push_cast -dsimp [zb,za,CLe,ze,hrk])
   ·have hx:¬i<xs.length:=by simpa using hx
    have hh:=zaF n xs fun t ht=>h3 t ht (by omega)
    push_cast -dsimp [hx]
    exact dn (by push_cast -dsimp [zb,za,CLe,ze,hrk,hh])
theorem zh5 (f:FsV) (n:Int) (hl:f.xs.length<=100000) (hR:zW f.xs):Fun Tryz.prog G 106 [.agg (fsC f),.sc (.int .i64 n)] (.tup [.sc (.int .i64 (q9 n f.xs:Nat)),.sc (.bool (zw n f.xs))]) 0:=by
 refine fon Tryz.func106 ?_;dsimp only[Tryz.f106]
 push_cast -dsimp
 refine cl (xg f.xs n hl hR) ?_;push_cast -dsimp
 exact dn
end
end
section
open Go.RowKit Go.ChangeMaps Go.ChangeShapes Go.WideShapes Go.Deep Go.Joins
def Na (W:World):Env:=⟨W,fun _ _=>False,fun _=>False⟩
theorem Fun.answers {P:Program} {G:zj} {f:FuncId} {args:List C} {u:Value} {n:Nat} (h:Fun P G f args (.sc u) n) {W:World} {vs:List Value} (hg:Yu G (Na W)) (ha:zm (Na W) zu args vs) :
  Calls P f vs.toArray W fun e w'=>e = .returned u/\Below W.heap.size W w':=by
 refine (h.2 (Na W) vs hg ha).mono ?_
 rintro e w' ⟨v,R',L',rfl,rfl,st,hr⟩
 rw[zi]at hr
 subst hr
 exact ⟨rfl,st.below⟩
section
variable {H:Type} {enc:TypeId×Value->H} {P:Program} {W:World}
def Opn (enc:TypeId×Value->H) (P:Program) (W:World) (t:TypeId) (Q:C->Prop):Prop:=
 ∀ (fuel:Nat) (cs:List Value) (x:DataW H×List MemPlace),DataW.trod enc P W 0 (fun _=>true) true fuel t cs=some x->∃ v c,cs = [v]/\Q c/\Rep (Na W) zu c v/\v.oneCell'=true
def qG (enc:TypeId×Value->H) (P:Program) (W:World) (t:TypeId) (k:Nat) (Q:List C->Prop):Prop:=
 ∀ (fuel:Nat) (cs:List Value) (x:DataW H×List MemPlace),DataW.trod enc P W 0 (fun _=>true) true fuel t cs=some x ->
  ∃ row,Q row/\row.length=k/\cs.length=k/\∀ (j:Nat) c v,row[j]?=some c->cs[j]?=some v->Rep (Na W) zu c v/\v.oneCell'=true
theorem Opn.int {t:TypeId} {k:IntKind} (ht:P.underlying t=some (.int k)):Opn enc P W t fun c=>∃ n,c = .sc (.int k n)/\(Lit.int k n).wf=true:=fun fuel cs x h=>by
 obtain ⟨n,rfl,_,hw⟩:=DataW.trod_int ht h
 exact ⟨_,_,rfl,⟨n,rfl,hw⟩,zi.2 rfl,rfl⟩
theorem Opn.bool {t:TypeId} (ht:P.underlying t=some .bool):Opn enc P W t fun c=>∃ b,c = .sc (.bool b):=fun fuel cs x h=>by
 obtain ⟨n,rfl,_⟩:=DataW.trod_bool ht h
 exact ⟨_,_,rfl,⟨n,rfl⟩,zi.2 rfl,rfl⟩
theorem Opn.str {t:TypeId} (ht:P.underlying t=some .string):Opn enc P W t fun c=>∃ l:List UInt8,c = .str l/\l.length<=maxLen:=fun fuel cs x h=>by
 obtain ⟨s,rfl,_,hs⟩:=DataW.trod_string ht h
 exact ⟨_,_,rfl,⟨s.data.toList,rfl,by rw[Array.length_toList];exact hs⟩,zB.2 (by cases s;simp),rfl⟩
theorem qG.one {t:TypeId} {Q:C->Prop} (h:Opn enc P W t Q):qG enc P W t 1 fun row=>∃ c,row = [c]/\Q c:=fun fuel cs x hx=>by
 obtain ⟨v,c,rfl,hq,hr,ho⟩:=h fuel cs x hx
 refine ⟨[c],⟨c,rfl,hq⟩,rfl,rfl,fun j c' v' h1 h2=>?_⟩
 cases j with
 | zero=>cases h1;cases h2;exact ⟨hr,ho⟩
 | succ j=>cases h1
theorem XL {α:Type} {Q:Nat->α->Prop}:∀ n:Nat,(∀ i,i<n->∃ x,Q i x)->∃ l:List α,l.length=n/\∀ i (h:i<l.length),Q i l[i]
 | 0,_=>⟨[],rfl,fun i h=>absurd h (Nat.not_lt_zero _)⟩
 | n+1,h=>by
  obtain ⟨l,hl,hq⟩:=XL n fun i hi=>h i (by omega)
  obtain ⟨x,hx⟩:=h n (by omega)
  refine ⟨l++[x],by simp[hl],fun i hi=>?_⟩
  rcases Nat.lt_or_ge i n with h1 | h1
  ·rw[List.getElem_append_left (by omega)];exact hq i (by omega)
  ·have:i=n:=by simp[hl]at hi;omega
   subst this
   rw[List.getElem_append_right (by omega)]
   simpa [hl] using hx
theorem qG.struct {t:TypeId} {fs:Array Field} {Qs:Nat->C->Prop} (hs:P.underlying t=some (.struct fs)) (hone:oneCellFields P fs=true) (hC:P.cellsOf t=fs.size)
  (h:∀ (j:Nat) f,fs[j]?=some f->Opn enc P W f.type (Qs j)):qG enc P W t fs.size fun row=>row.length=fs.size/\∀ (j:Nat) c,row[j]?=some c->Qs j c:=fun fuel cs x hx=>by
 obtain ⟨ys,n',hn',hy,hlen,hyl,hf⟩:=DataW.trod_struct hs hx
 rw[hC]at hlen
 obtain ⟨row,hl,hq⟩:=XL (Q:=fun j (c:C)=>Qs j c/\∃ v,cs[j]?=some v/\Rep (Na W) zu c v/\v.oneCell'=true) fs.size (fun j hj=>by
  have hfj:fs[j]?=some fs[j]:=Array.getElem?_eq_getElem hj
  obtain ⟨ho,hk⟩:=hone_of hone j _ hfj
  have h1:=hf j _ hfj
  rw[ho,hk]at h1
  have hone':(cs.drop j).take 1 = [cs[j]'(by omega)]:=by
   rw[List.drop_eq_getElem_cons (by omega)]
   rfl
  rw[hone',List.getElem?_eq_getElem (by omega)]at h1
  obtain ⟨v,c,e,hq,hr,hoc⟩:=h j _ hfj _ _ _ h1
  cases e
  exact ⟨c,hq,_,List.getElem?_eq_getElem (by omega),hr,hoc⟩)
 refine ⟨row,⟨hl,fun j c hj=>?_⟩,hl,hlen,fun j c v h1 h2=>?_⟩
 ·obtain ⟨hj',rfl⟩:=List.getElem?_eq_some_iff.1 hj
  exact (hq j hj').1
 ·obtain ⟨hj',rfl⟩:=List.getElem?_eq_some_iff.1 h1
  obtain ⟨_,v',e,hr,ho⟩:=hq j hj'
  rw[h2]at e;cases e
  exact ⟨hr,ho⟩
theorem Opn.slice {t e:TypeId} {k:Nat} {Q:List C->Prop} (ht:P.underlying t=some (.slice e)) (hC:P.cellsOf e=k) (hk:0<k) (h:qG enc P W e k Q):Opn enc P W t fun c=>∃ rows,c = .sl k rows/\rows.length<=maxLen/\∀ r∈rows,Q r:=fun fuel cs x hx=>by
 rcases open_slice ht hx with h0 | ⟨a,len,cap,m,n,D,Pl,hcs,hb,hl,hm,hmm,hx,hi⟩
 ·exact ⟨_,.sl k [],h0.1,⟨[],rfl,Nat.zero_le _,fun r hr=>by cases hr⟩,UW.2 ⟨none,0,rfl,Nat.le_refl _,Nat.zero_le _,.inl rfl⟩,rfl⟩
 ·simp only[if_true]at hmm
  subst hmm
  obtain ⟨rows,hrl,hq⟩:=XL (Q:=fun i (row:List C)=>Q row/\row.length=k/\∀ (j:Nat) c,row[j]?=some c->∃ v,W.cell? (a.add (i*k+j))=some v/\Rep (Na W) zu c v/\v.oneCell'=true) len (fun i hlt=>by
   obtain ⟨cs',hc,ht'⟩:=hi i (by omega)
   rw[hC]at hc
   obtain ⟨row,hq,hl1,hl2,hr⟩:=h _ _ _ ht'
   obtain ⟨_,hcl,hat⟩:=World.cells?_some hc
   refine ⟨row,hq,hl1,fun j c hj=>?_⟩
   have hjl:j<k:=by have:=(List.getElem?_eq_some_iff.1 hj).1;omega
   have hv:cs'[j]?=some (cs'[j]'(by omega)):=List.getElem?_eq_getElem (by omega)
   obtain ⟨hr1,hr2⟩:=hr j c _ hj hv
   refine ⟨_,?_,hr1,hr2⟩
   rw[←Go.Deep.add_add,hat j hjl,hv])
  refine ⟨_,.sl k rows,hcs,⟨rows,rfl,by omega,fun r hr=>?_⟩,?_,rfl⟩
  ·obtain ⟨i,hi',rfl⟩:=List.getElem_of_mem hr
   exact (hq i hi').1
  ·refine UW.2 ⟨some a,m,by rw[hrl],by omega,by omega,?_⟩
   by_cases h0:rows = []
   ·exact .inl h0
   ·have hpos:0<rows.length:=List.length_pos_iff.2 h0
    obtain ⟨b,off,spot⟩:=a
    obtain ⟨_,hl0,h00⟩:=hq 0 hpos
    obtain ⟨v0,hc0,_⟩:=h00 0 ((rows[0]'hpos)[0]'(by omega)) (List.getElem?_eq_getElem _)
    have hspot:spot=none:=by simpa [Addr.add] using World.cell?_spot hc0
    subst hspot
    refine .inr ⟨b,off,rfl,qq fun i row hrow=>?_⟩
    obtain ⟨hi',rfl⟩:=List.getElem?_eq_some_iff.1 hrow
    obtain ⟨_,hlr,hcr⟩:=hq i hi'
    refine ⟨hlr,zG fun j c hj=>?_⟩
    obtain ⟨v,h1,h2,h3⟩:=hcr j c hj
    rw[Addr.add_lit]at h1
    exact ⟨v,by rw[Nat.add_assoc];exact h1,fun hf=>hf,h2,h3⟩
theorem Opn.arg {r:Reach} {b0:Nat} {t:TypeId} {Q:C->Prop} {v:Value} {d:DataW H} {p:List MemPlace} (h:Opn enc P W t Q) (hv:v.cells = #[v]) (hd:DataW.Trod enc P W 0 (fun _=>true) true t v d p):∃ c,Q c/\Rep (Na W) zu c v:=by
 obtain ⟨fuel,hf⟩:=hd
 rw[hv]at hf
 obtain ⟨v',c,e,hq,hr,_⟩:=h _ _ _ hf
 cases e
 exact ⟨c,hq,hr⟩
theorem qG.arg {r:Reach} {b0:Nat} {t:TypeId} {fs:Array Field} {k:Nat} {Q:List C->Prop} {v:Value} {d:DataW H} {p:List MemPlace} (h:qG enc P W t k Q) (hs:P.underlying t=some (.struct fs)) (hval:Value.okWide P W r b0 t v)
  (hd:DataW.Trod enc P W 0 (fun _=>true) true t v d p):∃ row,Q row/\Rep (Na W) zu (.agg row) v:=by
 obtain ⟨cs,rfl,hsz⟩:=okWide_struct hs hval
 obtain ⟨fuel,hf⟩:=hd
 obtain ⟨row,hq,h1,h2,hr⟩:=h _ _ _ hf
 refine ⟨row,hq,jA.2 ⟨cs,rfl,Jg ?_ fun i c v hc hv=>(hr i c v hc hv).1⟩⟩
 have:cs.toList.length=k:=h2
 omega
end
end
section
open Go.RowKit Go.ChangeMaps Go.ChangeShapes Go.WideShapes Go.Deep Go.Joins
theorem kg {α:Type} {f:α->List C} {q:α->Prop}:∀ {rows:List (List C)},(∀ r∈rows,∃ a,r=f a/\q a)->∃ xs:List α,rows=xs.map f/\∀ x∈xs,q x
 | [],_=>⟨[],rfl,fun x h=>by cases h⟩
 | r :: rows,h=>by
  obtain ⟨xs,rfl,hq⟩:=kg fun r' hr=>h r' (List.mem_cons_of_mem _ hr)
  obtain ⟨o,rfl,ho⟩:=h r List.mem_cons_self
  exact ⟨o :: xs,rfl,fun x hx=>by
   rcases List.mem_cons.1 hx with rfl | hx
   ·exact ho
   ·exact hq x hx⟩
section
variable {H:Type} {enc:TypeId×Value->H} {W:World}
theorem zkU:qG enc Tryz.prog W 141 2 fun row=>∃ o:zH,row=Hl o/\o.name.length<=maxLen:=fun fuel cs x hx=>by
 obtain ⟨row,⟨hl,hq⟩,h1,h2,h3⟩:=qG.struct (W:=W) (enc:=enc) (Qs:=fun j c=>match j with | 0=>∃ l:List UInt8,c = .str l/\l.length<=maxLen | 1=>∃ n,c = .sc (.int .i64 n)/\(Lit.int .i64 n).wf=true | _=>True) Tryz.underlying141 (by kernel_rfl) (by kernel_rfl) (fun j f hj=>by
  match j,hj with
  | 0,hj=>cases hj;exact Opn.str Tryz.underlying9
  | 1,hj=>cases hj;exact Opn.int Tryz.underlying3
  | j+2,hj=>simp at hj) fuel cs x hx
 match row,h1,hq,h3 with
 | [c0,c1],_,hq,h3 =>
  obtain ⟨a,rfl,ha⟩:=hq 0 c0 rfl
  obtain ⟨k,rfl,_⟩:=hq 1 c1 rfl
  exact ⟨_,⟨⟨a,k⟩,rfl,ha⟩,rfl,h2,h3⟩
theorem ze1:Opn enc Tryz.prog W 94 fun c=>∃ xs:List zH,c = .sl 2 (zK xs)/\xs.length<=maxLen/\∀ x∈xs,x.name.length<=maxLen:=fun fuel cs x hx=>by
 obtain ⟨v,c,rfl,⟨rows,rfl,hl,hr⟩,h1,h2⟩:=Opn.slice (W:=W) (enc:=enc) Tryz.underlying94 (show Tryz.prog.cellsOf 141=2 by kernel_rfl) (by decide) zkU fuel cs x hx
 obtain ⟨xs,rfl,hq⟩:=kg hr
 exact ⟨v,_,rfl,⟨xs,rfl,by simpa using hl,hq⟩,h1,h2⟩
def zcm (x:zn):Prop:=x.data.length<=maxLen/\x.es.length<=maxLen/\∀ e∈x.es,e.name.length<=maxLen
theorem zbR:qG enc Tryz.prog W 96 6 fun row=>∃ o:zn,row=J2 o/\zcm o:=fun fuel cs x hx=>by
 obtain ⟨row,⟨hl,hq⟩,h1,h2,h3⟩:=qG.struct (W:=W) (enc:=enc) (Qs:=fun j c=>match j with | 0=>∃ n,c = .sc (.int .i64 n)/\(Lit.int .i64 n).wf=true | 1=>∃ n,c = .sc (.int .i64 n)/\(Lit.int .i64 n).wf=true | 2=>∃ n,c = .sc (.int .i64 n)/\(Lit.int .i64 n).wf=true | 3=>∃ l:List UInt8,c = .str l/\l.length<=maxLen | 4=>∃ n,c = .sc (.int .i64 n)/\(Lit.int .i64 n).wf=true | 5=>∃ xs:List zH,c = .sl 2 (zK xs)/\xs.length<=maxLen/\∀ x∈xs,x.name.length<=maxLen | _=>True) Tryz.underlying96 (by kernel_rfl) (by kernel_rfl) (fun j f hj=>by
  match j,hj with
  | 0,hj=>cases hj;exact Opn.int Tryz.underlying3
  | 1,hj=>cases hj;exact Opn.int Tryz.underlying3
  | 2,hj=>cases hj;exact Opn.int Tryz.underlying3
  | 3,hj=>cases hj;exact Opn.str Tryz.underlying9
  | 4,hj=>cases hj;exact Opn.int Tryz.underlying3
  | 5,hj=>cases hj;exact ze1
  | j+6,hj=>simp at hj) fuel cs x hx
 match row,h1,hq,h3 with
 | [c0,c1,c2,c3,c4,c5],_,hq,h3 =>
  obtain ⟨a,rfl,_⟩:=hq 0 c0 rfl
  obtain ⟨b,rfl,_⟩:=hq 1 c1 rfl
  obtain ⟨c,rfl,_⟩:=hq 2 c2 rfl
  obtain ⟨d,rfl,hd⟩:=hq 3 c3 rfl
  obtain ⟨e,rfl,_⟩:=hq 4 c4 rfl
  obtain ⟨f,rfl,hf⟩:=hq 5 c5 rfl
  exact ⟨_,⟨⟨a,b,c,d,e,f⟩,rfl,hd,hf⟩,rfl,h2,h3⟩
theorem yi:Opn enc Tryz.prog W 22 fun c=>∃ xs:List zn,c = .sl 6 (zE xs)/\xs.length<=maxLen/\∀ x∈xs,zcm x:=fun fuel cs x hx=>by
 obtain ⟨v,c,rfl,⟨rows,rfl,hl,hr⟩,h1,h2⟩:=Opn.slice (W:=W) (enc:=enc) Tryz.underlying22 (show Tryz.prog.cellsOf 96=6 by kernel_rfl) (by decide) zbR fuel cs x hx
 obtain ⟨xs,rfl,hq⟩:=kg hr
 exact ⟨v,_,rfl,⟨xs,rfl,by simpa using hl,hq⟩,h1,h2⟩
theorem zmt:qG enc Tryz.prog W 24 4 fun row=>∃ f:FsV,row=fsC f/\f.xs.length<=maxLen/\∀ x∈f.xs,zcm x:=fun fuel cs x hx=>by
 obtain ⟨row,⟨hl,hq⟩,h1,h2,h3⟩:=qG.struct (W:=W) (enc:=enc) (Qs:=fun j c=>match j with | 0=>∃ n,c = .sc (.int .i64 n)/\(Lit.int .i64 n).wf=true | 1=>∃ n,c = .sc (.int .i64 n)/\(Lit.int .i64 n).wf=true | 2=>∃ n,c = .sc (.int .i64 n)/\(Lit.int .i64 n).wf=true | 3=>∃ xs:List zn,c = .sl 6 (zE xs)/\xs.length<=maxLen/\∀ x∈xs,zcm x | _=>True) Tryz.underlying24 (by kernel_rfl) (by kernel_rfl) (fun j f hj=>by
  match j,hj with
  | 0,hj=>cases hj;exact Opn.int Tryz.underlying3
  | 1,hj=>cases hj;exact Opn.int Tryz.underlying3
  | 2,hj=>cases hj;exact Opn.int Tryz.underlying3
  | 3,hj=>cases hj;exact yi
  | j+4,hj=>simp at hj) fuel cs x hx
 match row,h1,hq,h3 with
 | [c0,c1,c2,c3],_,hq,h3 =>
  obtain ⟨a,rfl,_⟩:=hq 0 c0 rfl
  obtain ⟨b,rfl,_⟩:=hq 1 c1 rfl
  obtain ⟨c,rfl,_⟩:=hq 2 c2 rfl
  obtain ⟨d,rfl,hd⟩:=hq 3 c3 rfl
  exact ⟨_,⟨⟨a,b,c,d⟩,rfl,hd⟩,rfl,h2,h3⟩
end
end
section
open Go
structure zjd (κ:Type) where
 lt:κ->κ->Bool
 irr:∀ a,lt a a=false
 tr:∀ {a b c},lt a b=true->lt b c=true->lt a c=true
 tot:∀ {a b},lt a b=false->lt b a=false->a=b
theorem Qr:∀ a:List UInt8,Op.bytesLess a a=false
 | []=>rfl
 | c :: a=>by
  have h:¬c<c:=by simp
  simp[Op.bytesLess,Qr a]
theorem Ha:∀ {a b c:List UInt8},Op.bytesLess a b=true->Op.bytesLess b c=true->Op.bytesLess a c=true
 | _,[],_,h,_=>by unfold Op.bytesLess at h;cases h
 | [],y :: b,[],_,h2=>by unfold Op.bytesLess at h2;cases h2
 | [],y :: b,z :: c,_,_=>rfl
 | x :: a,y :: b,[],_,h2=>by unfold Op.bytesLess at h2;cases h2
 | x :: a,y :: b,z :: c,h1,h2=>by
  unfold Op.bytesLess at h1 h2 ⊢
  simp only[Bool.or_eq_true,Bool.and_eq_true,decide_eq_true_eq,beq_iff_eq]at h1 h2 ⊢
  rcases h1 with h1 | ⟨rfl,h1⟩
  ·rcases h2 with h2 | ⟨rfl,h2⟩
   ·exact .inl (UInt8.lt_trans h1 h2)
   ·exact .inl h1
  ·rcases h2 with h2 | ⟨rfl,h2⟩
   ·exact .inl h2
   ·exact .inr ⟨rfl,Ha h1 h2⟩
theorem H8:∀ {a b:List UInt8},Op.bytesLess a b=false->Op.bytesLess b a=false->a=b
 | [],[],_,_=>rfl
 | [],y :: b,h,_=>by unfold Op.bytesLess at h;cases h
 | x :: a,[],_,h=>by unfold Op.bytesLess at h;cases h
 | x :: a,y :: b,h1,h2=>by
  unfold Op.bytesLess at h1 h2
  simp only[Bool.or_eq_false_iff,decide_eq_false_iff_not,Bool.and_eq_false_iff,beq_eq_false_iff_ne]at h1 h2
  obtain ⟨g1,g2⟩:=h1
  obtain ⟨g3,g4⟩:=h2
  have hxy:x=y:=by
   apply UInt8.toNat_inj.1
   have e1:¬x.toNat<y.toNat:=fun h=>g1 (UInt8.lt_iff_toNat_lt.2 h)
   have e2:¬y.toNat<x.toNat:=fun h=>g3 (UInt8.lt_iff_toNat_lt.2 h)
   omega
  subst hxy
  have h3:Op.bytesLess a b=false:=by rcases g2 with g | g;exact absurd rfl g;exact g
  have h4:Op.bytesLess b a=false:=by rcases g4 with g | g;exact absurd rfl g;exact g
  rw[H8 h3 h4]
theorem zaE:∀ a b:List UInt8,(Lib.compareBytes a b<0)=(Op.bytesLess a b=true)
 | [],[]=>by simp[Lib.compareBytes,Op.bytesLess]
 | [],_ :: _=>by simp[Lib.compareBytes,Op.bytesLess]
 | _ :: _,[]=>by simp[Lib.compareBytes,Op.bytesLess]
 | a :: x,b :: y=>by
  unfold Lib.compareBytes Op.bytesLess
  by_cases h1:a<b
  ·simp[h1]
  ·rw[if_neg h1]
   by_cases h2:b<a
   ·have:a≠b:=fun e=>by subst e;exact h1 h2
    simp[h1,h2,this]
   ·have e:a=b:=by
     apply UInt8.toNat_inj.1
     have e1:¬a.toNat<b.toNat:=fun h=>h1 (UInt8.lt_iff_toNat_lt.2 h)
     have e2:¬b.toNat<a.toNat:=fun h=>h2 (UInt8.lt_iff_toNat_lt.2 h)
     omega
    rw[if_neg h2,zaE x y]
    subst e
    simp[h1]
theorem zbt:∀ a b:List UInt8,(Lib.compareBytes a b=0)=(a=b)
 | [],[]=>by simp[Lib.compareBytes]
 | [],_ :: _=>by simp[Lib.compareBytes]
 | _ :: _,[]=>by simp[Lib.compareBytes]
 | a :: x,b :: y=>by
  unfold Lib.compareBytes
  by_cases h1:a<b
  ·have:a≠b:=fun e=>by subst e;simp at h1
   simp[h1,this]
  ·rw[if_neg h1]
   by_cases h2:b<a
   ·have:a≠b:=fun e=>by subst e;exact h1 h2
    simp[h2,this]
   ·have e:a=b:=by
     apply UInt8.toNat_inj.1
     have e1:¬a.toNat<b.toNat:=fun h=>h1 (UInt8.lt_iff_toNat_lt.2 h)
     have e2:¬b.toNat<a.toNat:=fun h=>h2 (UInt8.lt_iff_toNat_lt.2 h)
     omega
    rw[if_neg h2,zbt x y]
    subst e
    simp
def j7:zjd (List UInt8):=⟨Op.bytesLess,Qr,Ha,H8⟩
def znP:zjd Int:=⟨fun a b=>decide (a<b),fun a=>by simp,fun h1 h2=>by simp at h1 h2 ⊢;omega,fun h1 h2=>by simp at h1 h2;omega⟩
section
variable {α κ:Type} [DecidableEq κ] (o:zjd κ) (key:α->κ)
def jh (xs:List α):Prop:=xs.Pairwise fun a b=>o.lt (key a) (key b)=true
def qZ (n:κ) (xs:List α):Nat:=(xs.filter fun x=>o.lt (key x) n).length
def ZC (n:κ) (xs:List α):Bool:=xs.any fun x=>decide (key x=n)
def JM (n:κ) (xs:List α):Option α:=xs.find? fun x=>decide (key x=n)
def Xr (n:κ) (xs:List α):List α:=xs.filter fun x=>!decide (key x=n)
def VL (x:α):List α->List α
 | []=>[x]
 | y :: r=>if o.lt (key x) (key y) then x :: y :: r else y :: VL x r
variable {o:zjd κ} {key:α->κ}
theorem zjd.asym {a b:κ} (h:o.lt a b=true):o.lt b a=false:=by
 cases h':o.lt b a with
 | false=>rfl
 | true=>have:=o.tr h h';rw[o.irr]at this;cases this
theorem Hu (n:κ):∀ (xs:List α) (i:Nat),i<=xs.length->(∀ t (h:t<xs.length),t<i->o.lt (key xs[t]) n=true)->(∀ t (h:t<xs.length),i<=t->o.lt (key xs[t]) n=false)->qZ o key n xs=i
 | [],i,h,_,_=>by simp at h;simp[qZ,h]
 | x :: r,0,_,_,h2=>by
  have hx:o.lt (key x) n=false:=h2 0 (by simp) (Nat.le_refl _)
  have ih:=Hu n r 0 (Nat.zero_le _) (fun t h h'=>absurd h' (Nat.not_lt_zero _)) (fun t h _=>h2 (t+1) (by simp;omega) (Nat.zero_le _))
  unfold qZ at ih ⊢
  rw[List.filter_cons_of_neg (by simp[hx])]
  exact ih
 | x :: r,i+1,h,h1,h2=>by
  have hx:o.lt (key x) n=true:=h1 0 (by simp) (Nat.succ_pos _)
  have ih:=Hu n r i (by simpa using h) (fun t h h'=>h1 (t+1) (by simp;omega) (by omega)) (fun t h h'=>h2 (t+1) (by simp;omega) (by omega))
  unfold qZ at ih ⊢
  rw[List.filter_cons_of_pos (by simp[hx]),List.length_cons,ih]
theorem zgs (n:κ) (xs:List α):qZ o key n xs<=xs.length:=List.length_filter_le _ _
theorem jG {y:α} {r:List α}:jh o key (y :: r)↔(∀ z∈r,o.lt (key y) (key z)=true)/\jh o key r:=List.pairwise_cons
theorem uY {n:κ} {y:α} {r:List α} (h:o.lt (key y) n=true):qZ o key n (y :: r)=qZ o key n r+1:=by
 unfold qZ
 rw[List.filter_cons_of_pos (by simpa using h),List.length_cons]
theorem uX {n:κ} {y:α} {r:List α} (hR:jh o key (y :: r)) (h:o.lt (key y) n=false):qZ o key n (y :: r)=0:=by
 obtain ⟨h1,_⟩:=jG.1 hR
 unfold qZ
 rw[List.length_eq_zero_iff,List.filter_eq_nil_iff]
 intro z hz
 rcases List.mem_cons.1 hz with rfl | hz
 ·simp[h]
 ·have h3:=h1 z hz
  cases h4:o.lt (key z) n with
  | false=>simp
  | true=>have:=o.tr h3 h4;rw[h]at this;cases this
theorem zaK {n:κ} {y:α} {r:List α} (hR:jh o key (y :: r)) (h:o.lt (key y) n=false):ZC key n (y :: r)=decide (key y=n):=by
 obtain ⟨h1,_⟩:=jG.1 hR
 unfold ZC
 rw[List.any_cons]
 have:(r.any fun x=>decide (key x=n))=false:=List.any_eq_false.2 fun z hz=>by
  have h3:=h1 z hz
  simp only[decide_eq_true_eq]
  rintro rfl
  rw[h3]at h;cases h
 rw[this,Bool.or_false]
theorem vk (n:κ):∀ {xs:List α},jh o key xs->(∀ t (h:t<xs.length),t<qZ o key n xs->o.lt (key xs[t]) n=true)/\(∀ t (h:t<xs.length),qZ o key n xs<=t->o.lt (key xs[t]) n=false) /\
  (ZC key n xs=true->∃ h:qZ o key n xs<xs.length,key xs[qZ o key n xs]=n/\JM key n xs=some xs[qZ o key n xs]/\Xr key n xs=xs.take (qZ o key n xs)++xs.drop (qZ o key n xs+1)/\∀ x,key x=n->VL o key x (Xr key n xs)=xs.set (qZ o key n xs) x) /\
  (ZC key n xs=false->JM key n xs=none/\Xr key n xs=xs/\∀ x,key x=n->VL o key x xs=xs.take (qZ o key n xs)++x :: xs.drop (qZ o key n xs))
 | [],_=>⟨fun t h=>absurd h (Nat.not_lt_zero _),fun t h=>absurd h (Nat.not_lt_zero _),fun h=>(by cases h),fun _=>⟨rfl,rfl,fun x _=>rfl⟩⟩
 | y :: r,hR=>by
  obtain ⟨h1,h2⟩:=jG.1 hR
  obtain ⟨i1,i2,i3,i4⟩:=vk n h2
  cases hy:o.lt (key y) n with
  | true =>
   have hne:key y≠n:=by rintro rfl;rw[o.irr]at hy;cases hy
   have hrk:=uY (r:=r) hy
   have hhas:ZC key n (y :: r)=ZC key n r:=by unfold ZC;rw[List.any_cons,decide_eq_false hne,Bool.false_or]
   have hfind:JM key n (y :: r)=JM key n r:=by unfold JM;rw[List.find?_cons_of_neg (by simpa using hne)]
   have hless:Xr key n (y :: r)=y :: Xr key n r:=by unfold Xr;rw[List.filter_cons_of_pos (by simpa using hne)]
   have hput:∀ x q,key x=n->VL o key x (y :: q)=y :: VL o key x q:=fun x q hx=>by
    rw[VL,hx,zjd.asym hy];rfl
   rw[hhas,hfind,hless,hrk]
   refine ⟨fun t h ht=>?_,fun t h ht=>?_,fun h=>?_,fun h=>?_⟩
   ·cases t with
    | zero=>exact hy
    | succ t=>exact i1 t (by simpa using h) (by omega)
   ·cases t with
    | zero=>omega
    | succ t=>exact i2 t (by simpa using h) (by omega)
   ·obtain ⟨g,g1,g2,g3,g4⟩:=i3 h
    refine ⟨by simp;omega,by simpa using g1,by simpa using g2,by rw[g3];simp,fun x hx=>?_⟩
    rw[hput x _ hx,g4 x hx];simp
   ·obtain ⟨g1,g2,g3⟩:=i4 h
    refine ⟨g1,by rw[g2],fun x hx=>?_⟩
    rw[hput x _ hx,g3 x hx];simp
  | false =>
   have hrk:=uX hR hy
   have hhas:=zaK hR hy
   rw[hrk,hhas]
   have hno:∀ z∈r,key z≠n:=fun z hz=>by
    have h3:=h1 z hz
    rintro rfl
    rw[h3]at hy;cases hy
   have hlr:Xr key n r=r:=by
    unfold Xr
    rw[List.filter_eq_self]
    intro z hz
    simpa using hno z hz
   refine ⟨fun t h ht=>absurd ht (Nat.not_lt_zero _),fun t h _=>?_,fun h=>?_,fun h=>?_⟩
   ·cases t with
    | zero=>exact hy
    | succ t =>
     have h3:=h1 (r[t]'(by simpa using h)) (List.getElem_mem _)
     show o.lt (key (r[t]'(by simpa using h))) n=false
     cases h4:o.lt (key (r[t]'(by simpa using h))) n with
     | false=>rfl
     | true=>have:=o.tr h3 h4;rw[hy]at this;cases this
   ·have hk:key y=n:=of_decide_eq_true h
    have hl:Xr key n (y :: r)=r:=by
     show (y :: r).filter (fun x=>!decide (key x=n))=r
     rw[List.filter_cons_of_neg (by simpa using hk)];exact hlr
    refine ⟨by simp,hk,by unfold JM;rw[List.find?_cons_of_pos (by simpa using hk)];rfl,by rw[hl];simp,fun x hx=>?_⟩
    rw[hl]
    cases r with
    | nil=>rfl
    | cons z q =>
     have h3:=h1 z List.mem_cons_self
     rw[hk]at h3
     rw[VL,hx,h3];rfl
   ·have hk:key y≠n:=of_decide_eq_false h
    have hny:o.lt n (key y)=true:=by
     cases h5:o.lt n (key y) with
     | true=>rfl
     | false=>exact absurd (o.tot hy h5) hk
    refine ⟨?_,?_,fun x hx=>?_⟩
    ·unfold JM
     rw[List.find?_eq_none]
     intro z hz
     rcases List.mem_cons.1 hz with rfl | hz
     ·simpa using hk
     ·simpa using hno z hz
    ·show (y :: r).filter (fun x=>!decide (key x=n))=y :: r
     rw[List.filter_cons_of_pos (by simpa using hk)]
     exact congrArg _ hlr
    ·rw[VL,hx,hny];rfl
theorem zkK (n:κ) {xs:List α} (hR:jh o key xs) {i:Nat} (hi:qZ o key n xs=i) (h:i<xs.length):ZC key n xs=decide (key xs[i]=n):=by
 subst hi
 obtain ⟨_,_,h3,_⟩:=vk n hR
 cases hh:ZC key n xs with
 | true=>obtain ⟨_,g,_⟩:=h3 hh;rw[decide_eq_true g]
 | false =>
  symm
  rw[decide_eq_false_iff_not]
  intro e
  unfold ZC at hh
  rw[List.any_eq_false]at hh
  exact hh _ (List.getElem_mem h) (decide_eq_true e)
theorem ze7 (n:κ) {xs:List α} (hR:jh o key xs) (hi:qZ o key n xs=xs.length):ZC key n xs=false:=by
 obtain ⟨_,_,h3,_⟩:=vk n hR
 cases hh:ZC key n xs with
 | false=>rfl
 | true=>obtain ⟨g,_⟩:=h3 hh;omega
theorem Mw (n:κ) {xs:List α} (h:jh o key xs):jh o key (Xr key n xs):=h.filter _
theorem Hj {x y:α}:∀ {xs:List α},y∈VL o key x xs↔y=x∨y∈xs
 | []=>by simp[VL]
 | z :: r=>by
  unfold VL
  split
  ·simp
  ·rw[List.mem_cons,Hj,List.mem_cons]
   constructor
   ·rintro (h | h | h)
    ·exact .inr (.inl h)
    ·exact .inl h
    ·exact .inr (.inr h)
   ·rintro (h | h | h)
    ·exact .inr (.inl h)
    ·exact .inl h
    ·exact .inr (.inr h)
theorem G9 {n:κ} {y:α} {xs:List α}:y∈Xr key n xs↔y∈xs/\key y≠n:=by unfold Xr;simp
theorem Uu {x:α}:∀ {xs:List α},jh o key xs->(∀ y∈xs,key y≠key x)->jh o key (VL o key x xs)
 | [],_,_=>by unfold VL jh;simp
 | y :: r,hR,hne=>by
  obtain ⟨h1,h2⟩:=jG.1 hR
  unfold VL
  cases hxy:o.lt (key x) (key y) with
  | true =>
   rw[if_pos rfl,jG]
   refine ⟨fun z hz=>?_,hR⟩
   rcases List.mem_cons.1 hz with rfl | hz
   ·exact hxy
   ·exact o.tr hxy (h1 z hz)
  | false =>
   rw[if_neg (by simp),jG]
   have hyx:o.lt (key y) (key x)=true:=by
    cases h:o.lt (key y) (key x) with
    | true=>rfl
    | false=>exact absurd (o.tot h hxy) (hne y List.mem_cons_self)
   refine ⟨fun z hz=>?_,Uu h2 fun z hz=>hne z (List.mem_cons_of_mem _ hz)⟩
   rcases Hj.1 hz with rfl | hz
   ·exact hyx
   ·exact h1 z hz
theorem VA {x:α} {xs:List α} (h:jh o key xs):jh o key (VL o key x (Xr key (key x) xs)):=
 Uu (Mw _ h) fun y hy=>(G9.1 hy).2
theorem zbh (n:κ) (xs:List α):(Xr key n xs).length<=xs.length:=List.length_filter_le _ _
theorem y7 (x:α):∀ xs:List α,(VL o key x xs).length=xs.length+1
 | []=>rfl
 | y :: r=>by
  unfold VL
  split
  ·rfl
  ·rw[List.length_cons,y7 x r];rfl
end
end
section
open Go.RowKit
section
variable {G:zj}
theorem vK (rows:List (List C)) (hk:∀ r∈rows,r.length=2) (hs:js rows) (hl:rows.length<=100000) :
  YI Tryz.prog G 279 [.sl 2 rows] [] 0 (zij 2 rows):=by
 refine YI.bySlice (fun h=>?_) (fun h a cap hr=>?_)
 ·refine foX (fun i=>if i=1000000+94 then [true,true] else []) Tryz.func279 ?_;dsimp only[Tryz.f279]
  push_cast -dsimp
  refine ⟨h,Uf Z1 YP rfl rfl (by decide) rfl (qg hk) rfl (Nat.le_refl _) (Nat.le_refl _) (by omega) (by omega) (fun hc=>absurd hc ?_) (fun _ c hc hm=>?_)⟩
  ·have:=List.length_pos_iff.2 h;omega
  ·push_cast -dsimp
   rw[Nat.zero_add]at hc
   refine ⟨_,_,_,⟨⟨rfl,.inl ⟨h,c,hc,hm,rfl,rfl⟩⟩,Nat.zero_le _⟩,[],rfl,rfl,?_,by push_cast -dsimp [zb,za,CLe,ze]⟩
   push_cast -dsimp [zb,za,CLe,ze]
   exact zS (qm hs)
 ·cases a with
  | none =>
   refine foX (fun i=>if i=1000000+94 then [true,true] else []) Tryz.func279 ?_;dsimp only[Tryz.f279]
   push_cast -dsimp [hr,Option.isNone_none]
   exact ⟨_,_,_,⟨⟨rfl,.inr ⟨h,.inl ⟨rfl,rfl⟩⟩⟩,Nat.zero_le _⟩,[],rfl,rfl,by push_cast -dsimp [zb,za,CLe,ze],by push_cast -dsimp [zb,za,CLe,ze]⟩
  | some a =>
   refine foX (fun i=>if i=1000000+94 then [true,true] else []) Tryz.func279 ?_;dsimp only[Tryz.f279]
   push_cast -dsimp [hr,Option.isNone_some]
   have hx:C.xs? 2 [[]] (C.sc (.slice (some a) 0 cap))=some (0,[]):=by simp[C.xs?,hr]
   refine Uf Z1 YP hx rfl (by decide) rfl rfl rfl (Nat.le_refl _) (Nat.le_refl _) (by omega) (by omega) (fun _=>?_) (fun hc=>absurd hc (by omega))
   push_cast -dsimp
   exact ⟨_,_,_,⟨⟨rfl,.inr ⟨h,.inr ⟨rfl,rfl⟩⟩⟩,Nat.zero_le _⟩,[],rfl,rfl,by (push_cast -dsimp [zb,za,CLe,ze];simp[spl,ze]),by push_cast -dsimp [zb,za,CLe,ze]⟩
theorem yG (rows:List (List C)) (x:List C) (i c e:Nat) (hk:∀ r∈rows,r.length=2) (hx:x.length=2) (hs:js rows) (hsx:(x.all C.stayB)=true) (hl:rows.length<=100000) (hi:i<=rows.length) (hc:rows.length<=c) (hcm:c<=9223372036854775807) :
  YI Tryz.prog G 280 [.bs 0 0 2 rows.length c,.sc (.int .i64 i),.own 0 e 2 [x]] [jm 2 rows c] 1 (zpm 2 (c*2) (rows.take i++x :: rows.drop i)):=by
 refine foX (fun j=>if j=1000000+94 then [true,true] else if j=11 then [false,false,false,false,false,false,false,false,true] else if j=15 then [false,false,false,false,false,false,false,false,true] else []) Tryz.func280 ?_;dsimp only[Tryz.f280]
 push_cast -dsimp
 have hlen:(rows.take i++x :: rows.drop i).length=rows.length+1:=by simp;omega
 have hki:∀ r∈rows.take i++x :: rows.drop i,r.length=2:=fun r hr=>by
  rcases List.mem_append.1 hr with hr | hr
  ·exact hk r (List.mem_of_mem_take hr)
  ·rcases List.mem_cons.1 hr with rfl | hr
   ·exact hx
   ·exact hk r (List.mem_of_mem_drop hr)
 have hsi:js (rows.take i++x :: rows.drop i):=fun r hr=>by
  rcases List.mem_append.1 hr with hr | hr
  ·exact hs r (List.mem_of_mem_take hr)
  ·rcases List.mem_cons.1 hr with rfl | hr
   ·exact hsx
   ·exact hs r (List.mem_of_mem_drop hr)
 have hbl:=XZ hk hc
 have hfl:=qg hk
 have hxl:[x].flatten.length=1*2:=by simp[hx]
 have hpre:(jm 2 rows c).take rows.flatten.length=rows.flatten:=by unfold jm;rw[List.take_left]
 refine ⟨hc,⟨by omega,hi⟩,br (fun h=>?_) (fun h=>?_)⟩
 ·push_cast -dsimp
  refine Uf Z1 YP rfl rfl (by decide) rfl hxl rfl (by rw[hbl];omega) hc (by simp;omega) (by simp;omega) (fun h1=>?_) (fun h1 c' h2 h3=>?_)
  ·push_cast -dsimp
   have hi':i=rows.length:=of_decide_eq_true h
   refine ⟨_,_,_,⟨⟨rfl,c,by rw[hlen];exact h1,hcm,.inl ⟨rfl,rfl⟩⟩,Nat.le_refl _⟩,[],rfl,rfl,?_,by push_cast -dsimp [zb,za,CLe,ze,hlen]⟩
   push_cast -dsimp [zb,za,CLe,ze]
   have h6:rows.length*2+2<=c*2:=by have:rows.length+1<=c:=h1;omega
   refine YL hki hsi (by rw[hlen];exact h1) (by rw[Hy (by rw[hbl,hx];exact h6),hbl]) ?_
   rw[hlen,hi',List.take_length,List.drop_length]
   unfold spl
   rw[←hfl,hpre,List.take_left' (by simp[hx,hfl];omega)]
   simp
  ·push_cast -dsimp
   have hi':i=rows.length:=of_decide_eq_true h
   have h2':rows.length+1<=c':=h2
   refine ⟨_,_,_,⟨⟨rfl,c',by rw[hlen];exact h2,h3,.inr ⟨rfl,rfl⟩⟩,Nat.le_of_ble_eq_true rfl⟩,[],rfl,rfl,?_,by push_cast -dsimp [zb,za,CLe,ze,hlen]⟩
   push_cast -dsimp [zb,za,CLe,ze]
   refine ⟨XI hbl,YL hki hsi (by rw[hlen];exact h2) (by simp[hx,hbl];omega) ?_⟩
   rw[hlen,hi',List.take_length,List.drop_length,←hfl,hpre,List.take_left' (by simp[hx,hfl];omega)]
   simp
 ·have hne:i≠rows.length:=of_decide_eq_false h
  push_cast -dsimp
  refine ⟨⟨by omega,by omega⟩,br (fun h1=>?_) (fun h1=>?_)⟩
  ·have h1':(c:Int)<(rows.length:Int)+1:=of_decide_eq_true h1
   push_cast -dsimp
   repeat refine an ?_
   refine znG Z1 zlI YP rfl (by decide) rfl rfl (by rw[hbl];omega) (by omega) (by omega) (by omega) (by omega) (by omega) (fun c' B h2 h3 hBl hBt=>?_)
   have e1:((rows.length:Int)+1-(i:Int)).toNat=rows.length+1-i:=by omega
   rw[e1]at h2 ⊢
   have e2:i+(rows.length+1-i)=rows.length+1:=by omega
   rw[e2]at h2 ⊢
   push_cast -dsimp
   repeat refine an ?_
   refine Zc Z1 YP rfl rfl hxl (by rw[hBl];omega) (fun B1 hB1 hl1=>?_)
   rw[hBl]at hl1
   push_cast -dsimp
   repeat refine an ?_
   have hbp:=ZE (c:=c) hk hi
   refine Zc Z1 YP (yv rfl (by rw[hbl];omega)) rfl (by rw[hbp,List.length_drop,hfl];omega) (by rw[hl1];omega) (fun B2 hB2 hl2=>?_)
   rw[hl1]at hl2
   have hX:[x].flatten.take (min [x].length (rows.length+1-i)*2)=x:=by
    rw[List.length_singleton,Nat.min_eq_left (by omega),List.take_of_length_le (by omega)];simp
   rw[hX]at hB1
   rw[hbp,show min (rows.length-i) (rows.length-i)*2=(rows.length-i)*2 by omega,List.take_of_length_le (by rw[List.length_drop,hfl];omega),hB1]at hB2
   push_cast -dsimp
   refine ⟨_,_,_,⟨⟨rfl,c',by rw[hlen];exact h2,h3,.inr ⟨rfl,rfl⟩⟩,Nat.le_of_ble_eq_true rfl⟩,[],rfl,rfl,?_,by push_cast -dsimp [zb,za,CLe,ze,hlen]⟩
   push_cast -dsimp [zb,za,CLe,ze]
   refine ⟨XI hbl,YL hki hsi (by rw[hlen];exact h2) hl2 ?_⟩
   rw[hlen,←ZK hk,hB2]
   have hg:=yl (cs:=B) (L:=rows.flatten) (X:=x) (p:=i*2) (q:=(i+1)*2) (by omega) (by omega) (by
    rw[hBt,List.drop_zero];unfold jm;rw[List.take_append_of_le_length (by omega)]) (by omega)
   rw[hfl,hx]at hg
   rw[←hg]
   congr 1;omega
  ·have h1':¬(c:Int)<(rows.length:Int)+1:=of_decide_eq_false h1
   push_cast -dsimp
   repeat refine an ?_
   refine zlU (zbG (P:=Tryz.prog) (tR:=4) Tryz.func290 (by kernel_rfl) (by kernel_rfl) (by kernel_rfl) (by kernel_rfl) Z1 YP rfl (List.ne_nil_of_length_pos (by rw[hbl];omega)) (by simp) (by omega)) ?_
   push_cast -dsimp
   repeat refine an ?_
   have hbp:=ZE (c:=c) hk hi
   refine Zc Z1 YP (yv rfl (by rw[hbl];omega)) rfl (by simp[hbl];omega) (by rw[hbl];omega) (fun B1 hB1 hl1=>?_)
   rw[hbl]at hl1
   rw[List.take_take,Nat.min_eq_left (by omega),show min (rows.length+1-i) (rows.length-i)*2=(rows.length-i)*2 by omega,hbp]at hB1
   push_cast -dsimp
   repeat refine an ?_
   refine Zc Z1 YP rfl rfl hxl (by rw[hl1];omega) (fun B2 hB2 hl2=>?_)
   rw[hl1]at hl2
   have hX:[x].flatten.take (min [x].length (rows.length+1-i)*2)=x:=by
    rw[List.length_singleton,Nat.min_eq_left (by omega),List.take_of_length_le (by omega)];simp
   rw[hX,hB1]at hB2
   push_cast -dsimp
   have hcc:rows.length+1<=c:=by omega
   refine ⟨_,_,_,⟨⟨rfl,c,by rw[hlen];exact hcc,hcm,.inl ⟨rfl,rfl⟩⟩,Nat.le_of_ble_eq_true rfl⟩,[],rfl,rfl,?_,by push_cast -dsimp [zb,za,CLe,ze,hlen]⟩
   push_cast -dsimp [zb,za,CLe,ze]
   refine YL hki hsi (by rw[hlen];exact hcc) hl2 ?_
   rw[hlen,←ZK hk,hB2]
   have hg:=HL (cs:=jm 2 rows c) (L:=rows.flatten) (X:=x) (p:=i*2) (q:=(i+1)*2) (by omega) (by omega) hpre (by omega)
   rw[hfl,hx]at hg
   rw[←hg]
   congr 1;omega
theorem zgo {e:Nat} (x:List C) (hx:x.length=2) (hsx:(x.all C.stayB)=true) :
  YI Tryz.prog G 280 [.sc (.slice none 0 0),.sc (.int .i64 0),.own 0 e 2 [x]] [] 1 (fun r bx' n=>n=0/\∃ c,1<=c/\c<=9223372036854775807/\r = .bs 0 0 2 1 c/\bx' = [jm 2 [x] c]):=by
 refine foX (fun j=>if j=1000000+94 then [true,true] else if j=11 then [false,false,false,false,false,false,false,false,true] else if j=15 then [false,false,false,false,false,false,false,false,true] else []) Tryz.func280 ?_;dsimp only[Tryz.f280]
 push_cast -dsimp
 refine yD Z1 YP rfl rfl (by decide) rfl (by simp[hx]) (by simp) (by simp) (by simp) (fun c h1 h2=>?_)
 push_cast -dsimp
 refine ⟨_,_,_,⟨⟨rfl,c,h1,h2,rfl,rfl⟩,Nat.zero_le _⟩,[],rfl,rfl,?_,by push_cast -dsimp [zb,za,CLe,ze]⟩
 push_cast -dsimp [zb,za,CLe,ze]
 have:=zS (src:=[]) (n:=1) (qm (k:=2) (c:=c) (rows:=[x]) fun r hr=>by
  rw[List.mem_singleton.1 hr];exact hsx)
 unfold jm at this ⊢
 simpa using this
end
end
end Go.Proofs.YtaipngaejfndgaaGreatDoor.Vcg
section
namespace Go.Proofs
open Go.Shelf
def Tryz.lays169_ren:Go.Shelf.Ren:=⟨fun | 169=>175 | n=>n,fun | 70=>207 | 9=>9 | 0=>0 | 72=>209 | 37=>164 | 127=>245 | 3=>3 | 5=>5 | n=>n,fun | n=>n⟩
theorem Tryz.lays169:Go.Proofs.Lays.n169 Tryz.prog Tryz.lays169_ren:={
 mixed:=by kernel_rfl
 f169:=Tryz.func175.trans (congrArg some (by kernel_rfl))
 t0:=Tryz.underlying0
 a0:=Tryz.isAgg0
 z0:=Tryz.sizeOf0
 v0:=Tryz.zeroValue0
 t3:=Tryz.underlying3
 a3:=Tryz.isAgg3
 z3:=Tryz.sizeOf3
 v3:=Tryz.zeroValue3
 t9:=Tryz.underlying9
 a9:=Tryz.isAgg9
 z9:=Tryz.sizeOf9
 v9:=Tryz.zeroValue9
 t37:=Tryz.underlying164
 a37:=Tryz.isAgg164
 z37:=Tryz.sizeOf164
 v37:=Tryz.zeroValue164
 t70:=Tryz.underlying207
 a70:=Tryz.isAgg207
 z70:=Tryz.sizeOf207
 v70:=Tryz.zeroValue207
 t72:=Tryz.underlying209
 a72:=Tryz.isAgg209
 z72:=Tryz.sizeOf209
 v72:=Tryz.zeroValue209
 t127:=Tryz.underlying245
 a127:=Tryz.isAgg245
 z127:=Tryz.sizeOf245
 v127:=Tryz.zeroValue245 }
theorem Tryz.Builder_Extra_169:Builder.Extra Tryz.prog Tryz.lays169_ren:={
 sizeBuilder:=by kernel_rfl
 liesBuilder:=by kernel_rfl
 t5:=Tryz.underlying5
 a5:=Tryz.isAgg5
 z5:=Tryz.sizeOf5
 v5:=Tryz.zeroValue5
 infoByte:=by kernel_rfl
 cellsByte:=by kernel_rfl
 sizeByte:=by kernel_rfl
 neB5:=by decide }
open Go.RowKit in
theorem Tryz.Builder_String_any (B b:Nat) (l:List UInt8) (w:World) (h:Lib.IsBuilder 209 5 B b (Lib.byteCells l) w) (hBw:B<=w.heap.size) :
  Calls Tryz.prog 175 #[.pointer (some ⟨b,0,none⟩)] w fun e w'=>e = .returned (.string ⟨l.toArray⟩)/\Below B w w':=Any.Builder_String_any Tryz.lays169 Tryz.Builder_Extra_169 B b l w h hBw
def Tryz.lays156_ren:Go.Shelf.Ren:=⟨fun | 156=>130 | 165=>173 | 166=>174 | 169=>175 | 240=>215 | 241=>216 | 276=>249 | 277=>250 | n=>n,fun | 31=>30 | 9=>9 | 3=>3 | 4=>4 | 0=>0 | 20=>20 | 72=>209 | 76=>213 | 70=>207 | 37=>164 | 75=>212 | 127=>245 | 164=>270 | 5=>5 | 80=>215 | n=>n,fun | n=>n⟩
theorem Tryz.lays156:Go.Proofs.Lays.n156 Tryz.prog Tryz.lays156_ren:={
 mixed:=by kernel_rfl
 f156:=Tryz.func130.trans (congrArg some (by kernel_rfl))
 f165:=Tryz.func173.trans (congrArg some (by kernel_rfl))
 f166:=Tryz.func174.trans (congrArg some (by kernel_rfl))
 f169:=Tryz.func175.trans (congrArg some (by kernel_rfl))
 f240:=Tryz.func215.trans (congrArg some (by kernel_rfl))
 f241:=Tryz.func216.trans (congrArg some (by kernel_rfl))
 f276:=Tryz.func249.trans (congrArg some (by kernel_rfl))
 f277:=Tryz.func250.trans (congrArg some (by kernel_rfl))
 t0:=Tryz.underlying0
 a0:=Tryz.isAgg0
 z0:=Tryz.sizeOf0
 v0:=Tryz.zeroValue0
 t3:=Tryz.underlying3
 a3:=Tryz.isAgg3
 z3:=Tryz.sizeOf3
 v3:=Tryz.zeroValue3
 t4:=Tryz.underlying4
 a4:=Tryz.isAgg4
 z4:=Tryz.sizeOf4
 v4:=Tryz.zeroValue4
 t9:=Tryz.underlying9
 a9:=Tryz.isAgg9
 z9:=Tryz.sizeOf9
 v9:=Tryz.zeroValue9
 t20:=Tryz.underlying20
 a20:=Tryz.isAgg20
 z20:=Tryz.sizeOf20
 v20:=Tryz.zeroValue20
 t31:=Tryz.underlying30
 a31:=Tryz.isAgg30
 z31:=Tryz.sizeOf30
 v31:=Tryz.zeroValue30
 t37:=Tryz.underlying164
 a37:=Tryz.isAgg164
 z37:=Tryz.sizeOf164
 v37:=Tryz.zeroValue164
 t70:=Tryz.underlying207
 a70:=Tryz.isAgg207
 z70:=Tryz.sizeOf207
 v70:=Tryz.zeroValue207
 t72:=Tryz.underlying209
 a72:=Tryz.isAgg209
 z72:=Tryz.sizeOf209
 v72:=Tryz.zeroValue209
 t75:=Tryz.underlying212
 a75:=Tryz.isAgg212
 z75:=Tryz.sizeOf212
 v75:=Tryz.zeroValue212
 t76:=Tryz.underlying213
 a76:=Tryz.isAgg213
 z76:=Tryz.sizeOf213
 v76:=Tryz.zeroValue213
 t127:=Tryz.underlying245
 a127:=Tryz.isAgg245
 z127:=Tryz.sizeOf245
 v127:=Tryz.zeroValue245
 t164:=Tryz.underlying270
 a164:=Tryz.isAgg270
 z164:=Tryz.sizeOf270
 v164:=Tryz.zeroValue270 }
theorem Tryz.Builder_Extra_156:Builder.Extra Tryz.prog Tryz.lays156_ren:={
 sizeBuilder:=by kernel_rfl
 liesBuilder:=by kernel_rfl
 t5:=Tryz.underlying5
 a5:=Tryz.isAgg5
 z5:=Tryz.sizeOf5
 v5:=Tryz.zeroValue5
 infoByte:=by kernel_rfl
 cellsByte:=by kernel_rfl
 sizeByte:=by kernel_rfl
 neB5:=by decide }
open Go.RowKit in
theorem Tryz.strings_Join_none (a:Option Addr) (c:Nat) (sep:ByteArray) (w:World) :
  Calls Tryz.prog 130 #[.slice a 0 c,.string sep] w fun e w'=>e = .returned (.string ⟨#[]⟩)/\w'=w:=Any.strings_Join_none Tryz.lays156 Tryz.Builder_Extra_156 a c sep w
open Go.RowKit in
theorem Tryz.strings_Join (bk o c:Nat) (xs:List ByteArray) (sep:ByteArray) (w:World) (hcells:∀ (j:Nat) x,xs[j]?=some x->w.cell? ⟨bk,o+j,none⟩=some (.string x)) (hbk:bk<w.heap.size) (hN:xs.length<=140737488355328) (hcap:xs.length<=c) (hlen:(Lib.join (xs.map (·.data.toList)) sep.data.toList).length<=140737488355328) :
  Calls Tryz.prog 130 #[.slice (some ⟨bk,o,none⟩) xs.length c,.string sep] w fun e w'=>e = .returned (.string ⟨(Lib.join (xs.map (·.data.toList)) sep.data.toList).toArray⟩)/\Below w.heap.size w w':=Any.strings_Join Tryz.lays156 Tryz.Builder_Extra_156 bk o c xs sep w hcells hbk hN hcap hlen
def Tryz.lays162_ren:Go.Shelf.Ren:=⟨fun | 162=>170 | 232=>210 | 227=>206 | 234=>211 | 236=>212 | 228=>207 | 271=>247 | 151=>248 | 120=>273 | 197=>209 | 152=>204 | 260=>246 | 137=>71 | 119=>243 | 224=>244 | 225=>245 | 217=>121 | 266=>168 | n=>n,fun | 9=>9 | 4=>4 | 3=>3 | 5=>5 | 117=>235 | 116=>234 | 0=>0 | 124=>242 | 21=>21 | 105=>238 | 46=>218 | 119=>284 | 139=>287 | 138=>286 | n=>n,fun | 3=>5 | 4=>6 | n=>n⟩
theorem Tryz.lays162:Go.Proofs.Lays.n162 Tryz.prog Tryz.lays162_ren:={
 mixed:=by kernel_rfl
 f119:=Tryz.func243.trans (congrArg some (by kernel_rfl))
 f120:=Tryz.func273.trans (congrArg some (by kernel_rfl))
 f137:=Tryz.func71.trans (congrArg some (by kernel_rfl))
 f151:=Tryz.func248.trans (congrArg some (by kernel_rfl))
 f152:=Tryz.func204.trans (congrArg some (by kernel_rfl))
 f162:=Tryz.func170.trans (congrArg some (by kernel_rfl))
 f197:=Tryz.func209.trans (congrArg some (by kernel_rfl))
 f217:=Tryz.func121.trans (congrArg some (by kernel_rfl))
 f224:=Tryz.func244.trans (congrArg some (by kernel_rfl))
 f225:=Tryz.func245.trans (congrArg some (by kernel_rfl))
 f227:=Tryz.func206.trans (congrArg some (by kernel_rfl))
 f228:=Tryz.func207.trans (congrArg some (by kernel_rfl))
 f232:=Tryz.func210.trans (congrArg some (by kernel_rfl))
 f234:=Tryz.func211.trans (congrArg some (by kernel_rfl))
 f236:=Tryz.func212.trans (congrArg some (by kernel_rfl))
 f260:=Tryz.func246.trans (congrArg some (by kernel_rfl))
 f266:=Tryz.func168.trans (congrArg some (by kernel_rfl))
 f271:=Tryz.func247.trans (congrArg some (by kernel_rfl))
 t0:=Tryz.underlying0
 a0:=Tryz.isAgg0
 z0:=Tryz.sizeOf0
 v0:=Tryz.zeroValue0
 t3:=Tryz.underlying3
 a3:=Tryz.isAgg3
 z3:=Tryz.sizeOf3
 v3:=Tryz.zeroValue3
 t4:=Tryz.underlying4
 a4:=Tryz.isAgg4
 z4:=Tryz.sizeOf4
 v4:=Tryz.zeroValue4
 t5:=Tryz.underlying5
 a5:=Tryz.isAgg5
 z5:=Tryz.sizeOf5
 v5:=Tryz.zeroValue5
 t9:=Tryz.underlying9
 a9:=Tryz.isAgg9
 z9:=Tryz.sizeOf9
 v9:=Tryz.zeroValue9
 t21:=Tryz.underlying21
 a21:=Tryz.isAgg21
 z21:=Tryz.sizeOf21
 v21:=Tryz.zeroValue21
 t46:=Tryz.underlying218
 a46:=Tryz.isAgg218
 z46:=Tryz.sizeOf218
 v46:=Tryz.zeroValue218
 t105:=Tryz.underlying238
 a105:=Tryz.isAgg238
 z105:=Tryz.sizeOf238
 v105:=Tryz.zeroValue238
 t116:=Tryz.underlying234
 a116:=Tryz.isAgg234
 z116:=Tryz.sizeOf234
 t117:=Tryz.underlying235
 a117:=Tryz.isAgg235
 z117:=Tryz.sizeOf235
 v117:=Tryz.zeroValue235
 t119:=Tryz.underlying284
 a119:=Tryz.isAgg284
 z119:=Tryz.sizeOf284
 t124:=Tryz.underlying242
 a124:=Tryz.isAgg242
 z124:=Tryz.sizeOf242
 v124:=Tryz.zeroValue242
 t138:=Tryz.underlying286
 a138:=Tryz.isAgg286
 z138:=Tryz.sizeOf286
 v138:=Tryz.zeroValue286
 t139:=Tryz.underlying287
 a139:=Tryz.isAgg287
 z139:=Tryz.sizeOf287
 v139:=Tryz.zeroValue287
 g3:=by kernel_rfl
 g4:=by kernel_rfl }
def Tryz.lays119_ren:Go.Shelf.Ren:=⟨fun | 119=>243 | n=>n,fun | 21=>21 | 4=>4 | n=>n,fun | n=>n⟩
theorem Tryz.lays119:Go.Proofs.Lays.n119 Tryz.prog Tryz.lays119_ren:={
 mixed:=by kernel_rfl
 f119:=Tryz.func243.trans (congrArg some (by kernel_rfl))
 t4:=Tryz.underlying4
 a4:=Tryz.isAgg4
 z4:=Tryz.sizeOf4
 v4:=Tryz.zeroValue4
 t21:=Tryz.underlying21
 a21:=Tryz.isAgg21
 z21:=Tryz.sizeOf21
 v21:=Tryz.zeroValue21 }
theorem Tryz.utf8_ValidRune (r:Int) (w:World) :
  Calls Tryz.prog 243 #[.int .i32 r] w fun e w'=>e = .returned (.bool (Lib.validRune r))/\w'=w:=Any.utf8_ValidRune Tryz.lays119 r w
def Tryz.lays106_ren:Go.Shelf.Ren:=⟨fun | 106=>221 | 213=>252 | 265=>275 | n=>n,fun | 9=>9 | 3=>3 | n=>n,fun | n=>n⟩
theorem Tryz.lays106:Go.Proofs.Lays.n106 Tryz.prog Tryz.lays106_ren:={
 mixed:=by kernel_rfl
 f106:=Tryz.func221.trans (congrArg some (by kernel_rfl))
 f213:=Tryz.func252.trans (congrArg some (by kernel_rfl))
 f265:=Tryz.func275.trans (congrArg some (by kernel_rfl))
 t3:=Tryz.underlying3
 a3:=Tryz.isAgg3
 z3:=Tryz.sizeOf3
 v3:=Tryz.zeroValue3
 t9:=Tryz.underlying9
 a9:=Tryz.isAgg9
 z9:=Tryz.sizeOf9
 v9:=Tryz.zeroValue9 }
open Go.RowKit in
theorem Tryz.strings_Compare (a b:ByteArray) (w:World) :
  Calls Tryz.prog 221 #[.string a,.string b] w fun e w'=>e = .returned (.int .i64 (Lib.compareBytes a.data.toList b.data.toList))/\w'=w:=Any.strings_Compare Tryz.lays106 a b w
def Tryz.lays137_ren:Go.Shelf.Ren:=⟨fun | 137=>71 | 217=>121 | 266=>168 | n=>n,fun | 9=>9 | 5=>5 | 3=>3 | n=>n,fun | n=>n⟩
theorem Tryz.lays137:Go.Proofs.Lays.n137 Tryz.prog Tryz.lays137_ren:={
 mixed:=by kernel_rfl
 f137:=Tryz.func71.trans (congrArg some (by kernel_rfl))
 f217:=Tryz.func121.trans (congrArg some (by kernel_rfl))
 f266:=Tryz.func168.trans (congrArg some (by kernel_rfl))
 t3:=Tryz.underlying3
 a3:=Tryz.isAgg3
 z3:=Tryz.sizeOf3
 v3:=Tryz.zeroValue3
 t5:=Tryz.underlying5
 a5:=Tryz.isAgg5
 z5:=Tryz.sizeOf5
 v5:=Tryz.zeroValue5
 t9:=Tryz.underlying9
 a9:=Tryz.isAgg9
 z9:=Tryz.sizeOf9
 v9:=Tryz.zeroValue9 }
open Go.RowKit in
theorem Tryz.strings_IndexByte (s:ByteArray) (c:Int) (w:World) :
  Calls Tryz.prog 71 #[.string s,.int .u8 c] w fun e w'=>e = .returned (.int .i64 (Lib.indexByte s.data.toList c.toNat.toUInt8))/\w'=w:=Any.strings_IndexByte Tryz.lays137 s c w
def Tryz.lays143_ren:Go.Shelf.Ren:=⟨fun | 143=>177 | 219=>217 | 217=>121 | 225=>245 | 224=>244 | 267=>251 | 266=>168 | 314=>274 | n=>n,fun | 9=>9 | 3=>3 | 4=>4 | 5=>5 | 46=>218 | 146=>289 | 51=>288 | n=>n,fun | 1=>3 | n=>n⟩
theorem Tryz.lays143:Go.Proofs.Lays.n143 Tryz.prog Tryz.lays143_ren:={
 mixed:=by kernel_rfl
 f143:=Tryz.func177.trans (congrArg some (by kernel_rfl))
 f217:=Tryz.func121.trans (congrArg some (by kernel_rfl))
 f219:=Tryz.func217.trans (congrArg some (by kernel_rfl))
 f224:=Tryz.func244.trans (congrArg some (by kernel_rfl))
 f225:=Tryz.func245.trans (congrArg some (by kernel_rfl))
 f266:=Tryz.func168.trans (congrArg some (by kernel_rfl))
 f267:=Tryz.func251.trans (congrArg some (by kernel_rfl))
 f314:=Tryz.func274.trans (congrArg some (by kernel_rfl))
 t3:=Tryz.underlying3
 a3:=Tryz.isAgg3
 z3:=Tryz.sizeOf3
 v3:=Tryz.zeroValue3
 t4:=Tryz.underlying4
 a4:=Tryz.isAgg4
 z4:=Tryz.sizeOf4
 v4:=Tryz.zeroValue4
 t5:=Tryz.underlying5
 a5:=Tryz.isAgg5
 z5:=Tryz.sizeOf5
 v5:=Tryz.zeroValue5
 t9:=Tryz.underlying9
 a9:=Tryz.isAgg9
 z9:=Tryz.sizeOf9
 v9:=Tryz.zeroValue9
 t46:=Tryz.underlying218
 a46:=Tryz.isAgg218
 z46:=Tryz.sizeOf218
 v46:=Tryz.zeroValue218
 t51:=Tryz.underlying288
 a51:=Tryz.isAgg288
 z51:=Tryz.sizeOf288
 v51:=Tryz.zeroValue288
 t146:=Tryz.underlying289
 a146:=Tryz.isAgg289
 z146:=Tryz.sizeOf289
 v146:=Tryz.zeroValue289
 g1:=by kernel_rfl }
open Go.RowKit Go.Lib in
theorem Tryz.strings_Index_one (s:ByteArray) (c:UInt8) (w:World) :
  Calls Tryz.prog 177 #[.string s,.string ⟨#[c]⟩] w fun e w'=>e = .returned (.int .i64 (Lib.indexByte s.data.toList c))/\w'=w:=Any.strings_Index_one Tryz.lays143 s c w
def Tryz.lays99_ren:Go.Shelf.Ren:=⟨fun | 99=>98 | 206=>144 | n=>n,fun | 9=>9 | 4=>4 | 3=>3 | n=>n,fun | n=>n⟩
theorem Tryz.lays99:Go.Proofs.Lays.n99 Tryz.prog Tryz.lays99_ren:={
 mixed:=by kernel_rfl
 f99:=Tryz.func98.trans (congrArg some (by kernel_rfl))
 f206:=Tryz.func144.trans (congrArg some (by kernel_rfl))
 t3:=Tryz.underlying3
 a3:=Tryz.isAgg3
 z3:=Tryz.sizeOf3
 v3:=Tryz.zeroValue3
 t4:=Tryz.underlying4
 a4:=Tryz.isAgg4
 z4:=Tryz.sizeOf4
 v4:=Tryz.zeroValue4
 t9:=Tryz.underlying9
 a9:=Tryz.isAgg9
 z9:=Tryz.sizeOf9
 v9:=Tryz.zeroValue9 }
open Go.RowKit Go.Lib in
theorem Tryz.strings_HasPrefix (s p:ByteArray) (w:World) :
  Calls Tryz.prog 98 #[.string s,.string p] w fun e w'=>e = .returned (.bool (Lib.hasPrefix s.data.toList p.data.toList))/\w'=w:=Any.strings_HasPrefix Tryz.lays99 s p w
def Tryz.lays100_ren:Go.Shelf.Ren:=⟨fun | 100=>100 | 207=>146 | n=>n,fun | 9=>9 | 4=>4 | 3=>3 | n=>n,fun | n=>n⟩
theorem Tryz.lays100:Go.Proofs.Lays.n100 Tryz.prog Tryz.lays100_ren:={
 mixed:=by kernel_rfl
 f100:=Tryz.func100.trans (congrArg some (by kernel_rfl))
 f207:=Tryz.func146.trans (congrArg some (by kernel_rfl))
 t3:=Tryz.underlying3
 a3:=Tryz.isAgg3
 z3:=Tryz.sizeOf3
 v3:=Tryz.zeroValue3
 t4:=Tryz.underlying4
 a4:=Tryz.isAgg4
 z4:=Tryz.sizeOf4
 v4:=Tryz.zeroValue4
 t9:=Tryz.underlying9
 a9:=Tryz.isAgg9
 z9:=Tryz.sizeOf9
 v9:=Tryz.zeroValue9 }
open Go.RowKit Go.Lib in
theorem Tryz.strings_HasSuffix (s p:ByteArray) (w:World) (hs:s.size<=9223372036854775807) :
  Calls Tryz.prog 100 #[.string s,.string p] w fun e w'=>e = .returned (.bool (Lib.hasSuffix s.data.toList p.data.toList))/\w'=w:=Any.strings_HasSuffix Tryz.lays100 s p w hs
def Tryz.lays152_ren:Go.Shelf.Ren:=⟨fun | 152=>204 | 137=>71 | 119=>243 | 224=>244 | 225=>245 | 217=>121 | 266=>168 | n=>n,fun | 9=>9 | 21=>21 | 3=>3 | 4=>4 | 5=>5 | 0=>0 | 46=>218 | n=>n,fun | n=>n⟩
theorem Tryz.lays152:Go.Proofs.Lays.n152 Tryz.prog Tryz.lays152_ren:={
 mixed:=by kernel_rfl
 f119:=Tryz.func243.trans (congrArg some (by kernel_rfl))
 f137:=Tryz.func71.trans (congrArg some (by kernel_rfl))
 f152:=Tryz.func204.trans (congrArg some (by kernel_rfl))
 f217:=Tryz.func121.trans (congrArg some (by kernel_rfl))
 f224:=Tryz.func244.trans (congrArg some (by kernel_rfl))
 f225:=Tryz.func245.trans (congrArg some (by kernel_rfl))
 f266:=Tryz.func168.trans (congrArg some (by kernel_rfl))
 t0:=Tryz.underlying0
 a0:=Tryz.isAgg0
 z0:=Tryz.sizeOf0
 v0:=Tryz.zeroValue0
 t3:=Tryz.underlying3
 a3:=Tryz.isAgg3
 z3:=Tryz.sizeOf3
 v3:=Tryz.zeroValue3
 t4:=Tryz.underlying4
 a4:=Tryz.isAgg4
 z4:=Tryz.sizeOf4
 v4:=Tryz.zeroValue4
 t5:=Tryz.underlying5
 a5:=Tryz.isAgg5
 z5:=Tryz.sizeOf5
 v5:=Tryz.zeroValue5
 t9:=Tryz.underlying9
 a9:=Tryz.isAgg9
 z9:=Tryz.sizeOf9
 v9:=Tryz.zeroValue9
 t21:=Tryz.underlying21
 a21:=Tryz.isAgg21
 z21:=Tryz.sizeOf21
 v21:=Tryz.zeroValue21
 t46:=Tryz.underlying218
 a46:=Tryz.isAgg218
 z46:=Tryz.sizeOf218
 v46:=Tryz.zeroValue218 }
open Go.RowKit Go.Lib in
theorem Tryz.strings_IndexRune_ascii (s:ByteArray) (r:Int) (w:World) (h0:0<=r) (h1:r<128) :
  Calls Tryz.prog 204 #[.string s,.int .i32 r] w fun e w'=>e = .returned (.int .i64 (Lib.indexByte s.data.toList r.toNat.toUInt8))/\w'=w:=Any.strings_IndexRune_ascii Tryz.lays152 s r w h0 h1
def Tryz.lays226_ren:Go.Shelf.Ren:=⟨fun | 226=>205 | n=>n,fun | 3=>3 | 4=>4 | n=>n,fun | n=>n⟩
theorem Tryz.lays226:Go.Proofs.Lays.n226 Tryz.prog Tryz.lays226_ren:={
 mixed:=by kernel_rfl
 f226:=Tryz.func205.trans (congrArg some (by kernel_rfl))
 t3:=Tryz.underlying3
 a3:=Tryz.isAgg3
 z3:=Tryz.sizeOf3
 v3:=Tryz.zeroValue3
 t4:=Tryz.underlying4
 a4:=Tryz.isAgg4
 z4:=Tryz.sizeOf4
 v4:=Tryz.zeroValue4 }
open Go.RowKit Go.Lib in
theorem Tryz.strings_shouldUseASCIISet (n:Int) (w:World) :
  Calls Tryz.prog 205 #[.int .i64 n] w fun e w'=>e = .returned (.bool (decide (8<n)))/\w'=w:=Any.strings_shouldUseASCIISet Tryz.lays226 n w
def Tryz.lays153_ren:Go.Shelf.Ren:=⟨fun | 153=>167 | 152=>204 | 226=>205 | 227=>206 | 228=>207 | 137=>71 | 119=>243 | 224=>244 | 225=>245 | 217=>121 | 266=>168 | n=>n,fun | 9=>9 | 3=>3 | 4=>4 | 5=>5 | 21=>21 | 117=>235 | 116=>234 | 0=>0 | 46=>218 | 124=>242 | n=>n,fun | n=>n⟩
theorem Tryz.lays153:Go.Proofs.Lays.n153 Tryz.prog Tryz.lays153_ren:={
 mixed:=by kernel_rfl
 f119:=Tryz.func243.trans (congrArg some (by kernel_rfl))
 f137:=Tryz.func71.trans (congrArg some (by kernel_rfl))
 f152:=Tryz.func204.trans (congrArg some (by kernel_rfl))
 f153:=Tryz.func167.trans (congrArg some (by kernel_rfl))
 f217:=Tryz.func121.trans (congrArg some (by kernel_rfl))
 f224:=Tryz.func244.trans (congrArg some (by kernel_rfl))
 f225:=Tryz.func245.trans (congrArg some (by kernel_rfl))
 f226:=Tryz.func205.trans (congrArg some (by kernel_rfl))
 f227:=Tryz.func206.trans (congrArg some (by kernel_rfl))
 f228:=Tryz.func207.trans (congrArg some (by kernel_rfl))
 f266:=Tryz.func168.trans (congrArg some (by kernel_rfl))
 t0:=Tryz.underlying0
 a0:=Tryz.isAgg0
 z0:=Tryz.sizeOf0
 v0:=Tryz.zeroValue0
 t3:=Tryz.underlying3
 a3:=Tryz.isAgg3
 z3:=Tryz.sizeOf3
 v3:=Tryz.zeroValue3
 t4:=Tryz.underlying4
 a4:=Tryz.isAgg4
 z4:=Tryz.sizeOf4
 v4:=Tryz.zeroValue4
 t5:=Tryz.underlying5
 a5:=Tryz.isAgg5
 z5:=Tryz.sizeOf5
 v5:=Tryz.zeroValue5
 t9:=Tryz.underlying9
 a9:=Tryz.isAgg9
 z9:=Tryz.sizeOf9
 v9:=Tryz.zeroValue9
 t21:=Tryz.underlying21
 a21:=Tryz.isAgg21
 z21:=Tryz.sizeOf21
 v21:=Tryz.zeroValue21
 t46:=Tryz.underlying218
 a46:=Tryz.isAgg218
 z46:=Tryz.sizeOf218
 v46:=Tryz.zeroValue218
 t116:=Tryz.underlying234
 a116:=Tryz.isAgg234
 z116:=Tryz.sizeOf234
 t117:=Tryz.underlying235
 a117:=Tryz.isAgg235
 z117:=Tryz.sizeOf235
 v117:=Tryz.zeroValue235
 t124:=Tryz.underlying242
 a124:=Tryz.isAgg242
 z124:=Tryz.sizeOf242
 v124:=Tryz.zeroValue242 }
open Go.RowKit Go.Lib in
theorem Tryz.strings_IndexAny_long (hv116:∀ w,(zeroValue 234).run Tryz.prog w = .ok (.agg (Array.replicate 256 (.bool false))) w) (s chars:ByteArray) (w:World) (h2:2<=chars.size) (h8:8<s.size) (hs:s.size<4294967281) (hcs:chars.size<4294967281) (hascii:∀ (j:Nat) b,chars.data.toList[j]?=some b->b.toNat<128) :
  Calls Tryz.prog 167 #[.string s,.string chars] w fun e w'=>e = .returned (.int .i64 (Lib.indexAny s.data.toList chars.data.toList))/\w'=((w.alloc (.cells (Lib.setCells chars.data.toList) 234)).alloc (.cells (Lib.setCells chars.data.toList) 234)):=Any.strings_IndexAny_long Tryz.lays153 hv116 (by kernel_rfl) s chars w h2 h8 hs hcs hascii
end Go.Proofs
end
namespace Go.Proofs.YtaipngaejfndgaaGreatDoor.Vcg
section
open CA CB
open Go.RowKit
section
variable {G:zj}
theorem Ym (f:FsV) (n:Int) (hl:f.xs.length<=100000) (hR:zW f.xs):Fun Tryz.prog G 58 [.agg (fsC f),.sc (.int .i64 n)] (.tup [.agg (J2 (zf n f.xs)),.sc (.bool (zw n f.xs))]) 0:=by
 refine fon Tryz.func58 ?_;dsimp only[Tryz.f58]
 push_cast -dsimp
 refine cl (zh5 f n hl hR) ?_;push_cast -dsimp
 cases hh:zw n f.xs with
 | false =>
  have hg:zf n f.xs=vO:=by unfold zf;rw[k8 hh];rfl
  push_cast -dsimp [hh]
  exact dn (by push_cast -dsimp [zb,za,CLe,ze,hg,vO])
 | true =>
  obtain ⟨hlt,hg⟩:=yw hR hh
  have hg:zf n f.xs=f.xs[q9 n f.xs]:=by unfold zf;rw[hg];rfl
  have hat:=qI f.xs _ hlt
  push_cast -dsimp [hh,hat]
  (try simp only[lS]);repeat refine an ?_
  exact dn (by push_cast -dsimp [zb,za,CLe,ze,hg])
theorem je {xs:List zn}:∀ r∈zE xs,r.length=6:=fun r hr=>by
 obtain ⟨x,_,rfl⟩:=List.mem_map.1 hr;rfl
theorem qe {xs:List zn}:js (zE xs):=fun r hr=>by
 obtain ⟨x,_,rfl⟩:=List.mem_map.1 hr;rfl
theorem zdE (f:FsV) (x:zn) (hl:f.xs.length<=90000) (hR:zW f.xs) :
  Fun Tryz.prog G 258 [.agg (fsC f),.agg (J2 x)] (.agg [.sc (.int .i64 f.maxI),.sc (.int .i64 f.maxB),.sc (.int .i64 f.next),.own 0 96 6 (zE (jp x f.xs))]) 1:=by
 have hll:(zE f.xs).length=f.xs.length:=List.length_map ..
 refine foF (fun _=>[]) Tryz.func258 ?_;dsimp only[Tryz.f258]
 push_cast -dsimp
 refine cl (zh5 f x.ino (by omega) hR) ?_;push_cast -dsimp
 refine YF [] [] (UV (zE f.xs) je qe (by omega)) rfl (by decide) (by decide) (by simp) (by push_cast -dsimp) (by push_cast -dsimp) (fun r bx' m hp=>?_)
 obtain ⟨rfl,⟨hne,c,h1,h2,rfl,rfl⟩ | ⟨he,⟨rfl,rfl⟩ | ⟨rfl,rfl⟩⟩⟩:=hp
 ·have hbl:=XZ je h1
  have hre:∀ fp fo,C.reL fp fo (jm 6 (zE f.xs) c)=jm 6 (zE f.xs) c:=fun fp fo=>qu (qm qe)
  have hpos:=List.length_pos_iff.2 hne
  cases hh:zw x.ino f.xs with
  | true =>
   obtain ⟨hlt,_⟩:=yw hR hh
   have hst:=yt (c:=c) (rows:=zE f.xs) (row:=J2 x) (i:=q9 x.ino f.xs) je rfl (by omega)
   have hset:zE (jp x f.xs)=(zE f.xs).set (q9 x.ino f.xs) (J2 x):=by rw[←xu hR hh];simp[List.map_set]
   push_cast -dsimp [hh,hre,hst]
   refine ⟨by omega,by omega,by rw[hbl];omega,[(4,96,6,(zE f.xs).set (q9 x.ino f.xs) (J2 x),c)],[.inl 0],?_,rfl,rfl,by push_cast -dsimp [zb,za,CLe,ze,hset,List.length_set]⟩
   rw[←hset]
   refine qT (by rw[hset];rfl) (by omega) (by rw[hset,List.length_set];exact h1) h2 je qe
  | false =>
   have hset:zE (jp x f.xs)=(zE f.xs).take (q9 x.ino f.xs)++J2 x :: (zE f.xs).drop (q9 x.ino f.xs):=by rw[←N4 hR hh];simp
   have hrl:=zcy x.ino f.xs
   have hsl:(zE (jp x f.xs)).length=(zE f.xs).length+1:=by rw[hset];simp;omega
   push_cast -dsimp [hh,hre]
   refine YF [4] [0] (vd (e:=96) (zE f.xs) (J2 x) (q9 x.ino f.xs) c je rfl qe rfl (by omega) (by omega) h1 h2) rfl (by decide) (by decide) (by simp) (by push_cast -dsimp) (by push_cast -dsimp [hre]) (fun r bx' m hp=>?_)
   rw[←hset]at hp
   have hre2:∀ fp fo c,C.reL fp fo (jm 6 (zE (jp x f.xs)) c)=jm 6 (zE (jp x f.xs)) c:=fun fp fo c=>qu (qm qe)
   obtain ⟨rfl,c',g1,g2,⟨rfl,rfl⟩ | ⟨rfl,rfl⟩⟩:=hp
   ·push_cast -dsimp [hre2,hre]
    exact ⟨[(4,96,6,zE (jp x f.xs),c')],[.inl 1],qT rfl (by omega) g1 g2 je qe,rfl,rfl,by push_cast -dsimp [zb,za,CLe,ze]⟩
   ·have hra:∀ fp fo,C.reL fp fo (List.replicate (c*6) .any)=List.replicate (c*6) .any:=fun fp fo=>qu (by simp[List.all_replicate,C.stayB])
    push_cast -dsimp [hre2,hre,hra]
    exact ⟨[(5,96,6,zE (jp x f.xs),c')],[.inl 1],qT rfl (by omega) g1 g2 je qe,rfl,rfl,by push_cast -dsimp [zb,za,CLe,ze]⟩
 ·have he:f.xs = []:=by simpa using he
  have hh:zw x.ino f.xs=false:=by rw[he];rfl
  have hr0:q9 x.ino f.xs=0:=by rw[he];rfl
  have hset:jp x f.xs = [x]:=by rw[he];rfl
  push_cast -dsimp [hh,hr0]
  refine YF [] [0] (zeM (e:=96) (J2 x) rfl rfl) rfl (by decide) (by decide) (by simp) (by push_cast -dsimp) (by push_cast -dsimp) (fun r bx' m hp=>?_)
  obtain ⟨rfl,c,g1,g2,rfl,rfl⟩:=hp
  have hre:∀ fp fo,C.reL fp fo (jm 6 [J2 x] c)=jm 6 [J2 x] c:=fun fp fo=>qu (qm (qe (xs:=[x])))
  push_cast -dsimp [hre]
  exact ⟨[(3,96,6,zE [x],c)],[.inl 1],qT rfl (by omega) g1 g2 je qe,rfl,rfl,by push_cast -dsimp [zb,za,CLe,ze,hset]⟩
 ·have he:f.xs = []:=by simpa using he
  have hh:zw x.ino f.xs=false:=by rw[he];rfl
  have hr0:q9 x.ino f.xs=0:=by rw[he];rfl
  have hset:jp x f.xs = [x]:=by rw[he];rfl
  push_cast -dsimp [hh,hr0]
  refine YF [3] [0] (vd (e:=96) [] (J2 x) 0 0 (fun r hr=>by cases hr) rfl (fun r hr=>by cases hr) rfl (by simp) (by simp) (by simp) (by simp)) rfl (by decide) (by decide) (by simp) (by push_cast -dsimp) (by push_cast -dsimp [jm]) (fun r bx' m hp=>?_)
  obtain ⟨rfl,c,g1,g2,hp⟩:=hp
  have hre:∀ fp fo,C.reL fp fo (jm 6 [J2 x] c)=jm 6 [J2 x] c:=fun fp fo=>qu (qm (qe (xs:=[x])))
  rcases hp with ⟨rfl,rfl⟩ | ⟨rfl,rfl⟩
  ·push_cast -dsimp [hre]
   exact ⟨[(3,96,6,zE [x],c)],[.inl 1],qT rfl (Nat.lt_of_lt_of_le (Nat.zero_lt_succ _) g1) g1 g2 je qe,rfl,rfl,by push_cast -dsimp [zb,za,CLe,ze,hset]⟩
  ·push_cast -dsimp [hre]
   exact ⟨[(4,96,6,zE [x],c)],[.inl 1],qT rfl (Nat.lt_of_lt_of_le (Nat.zero_lt_succ _) g1) g1 g2 je qe,rfl,rfl,by push_cast -dsimp [zb,za,CLe,ze,hset]⟩
theorem zgP (f:FsV) (hl:f.xs.length<=90000) (h0:f.xs≠[]) (h1:-4611686018427387904<=f.next) (h2:f.next<=4611686018427387904) :
  Fun Tryz.prog G 256 [.agg (fsC f)] (.tup [.agg [.sc (.int .i64 f.maxI),.sc (.int .i64 f.maxB),.sc (.int .i64 (f.next+1)),.own 0 96 6 (zE f.xs)],.sc (.int .i64 f.next)]) 1:=by
 have hll:(zE f.xs).length=f.xs.length:=List.length_map ..
 refine foF (fun _=>[]) Tryz.func256 ?_;dsimp only[Tryz.f256]
 push_cast -dsimp
 (try simp only[lS]);repeat refine an ?_
 refine YF [] [] (UV (zE f.xs) je qe (by omega)) rfl (by decide) (by decide) (by simp) (by push_cast -dsimp) (by push_cast -dsimp) (fun r bx' m hp=>?_)
 obtain ⟨rfl,⟨hne,c,h1,h2,rfl,rfl⟩ | ⟨he,_⟩⟩:=hp
 ·have hre:∀ fp fo,C.reL fp fo (jm 6 (zE f.xs) c)=jm 6 (zE f.xs) c:=fun fp fo=>qu (qm qe)
  have hpos:=List.length_pos_iff.2 hne
  push_cast -dsimp [hre]
  exact ⟨[(3,96,6,zE f.xs,c)],[.inl 0],qT rfl (by omega) h1 h2 je qe,rfl,rfl,by push_cast -dsimp [zb,za,CLe,ze]⟩
 ·exact absurd (by simpa using he) h0
theorem zhe {R:Env} {L:Loc} {id e:Nat} {v:Value} (h:Rep R L (.own id e 6 [[.sc (.int .i64 1),.sc (.int .i64 2),.sc (.int .i64 0),.str [],.sc (.int .i64 1),.sc (.slice none 0 0)]]) v):Rep R L (.own id e 6 (zE [⟨1,2,0,[],1,[]⟩])) v:=
 zae (by simp[RLe,ze,CLe]) h
theorem YU {α:Type} {a b:List α} {i:Nat} (ha:i<a.length) (hb:i<b.length) (h:a.take i=b.take i):(a.take (i+1)=b.take (i+1))↔a[i]=b[i]:=by
 rw[List.take_add_one,List.take_add_one,h,List.append_right_inj,List.getElem?_eq_getElem ha,List.getElem?_eq_getElem hb]
 simp
theorem zln (a b:zH):(decide (a.name=b.name)&&decide (a.ino=b.ino))=decide (a=b):=by
 cases a;cases b;simp
theorem zmJ (a b:zn):a=b↔a.ino=b.ino/\a.kind=b.kind/\a.links=b.links/\a.data=b.data/\a.parent=b.parent/\a.es=b.es:=by
 cases a;cases b;simp
theorem zpf (a b:FsV):a=b↔a.maxI=b.maxI/\a.maxB=b.maxB/\a.next=b.next/\a.xs=b.xs:=by
 cases a;cases b;simp
end
end
section
open CA CB
open Go.RowKit
section
variable {G:zj}
theorem Nz (a b:List zH) (ha:a.length<=9223372036854775807):Fun Tryz.prog G 134 [.sl 2 (zK a),.sl 2 (zK b)] (.sc (.bool (decide (a=b)))) 0:=by
 refine fon Tryz.func134 ?_;dsimp only[Tryz.f134]
 have hla:(zK a).length=a.length:=List.length_map ..
 have hlb:(zK b).length=b.length:=List.length_map ..
 by_cases hab:a.length=b.length
 ·push_cast -dsimp [hla,hlb,hab]
  refine loop (fun i:Nat=>⟨[(0,.sl 2 (zK a)),(1,.sl 2 (zK b)),(5,.sc (.int .i64 i))],[],0,0⟩) (fun i=>i<=b.length/\a.take i=b.take i) (fun i=>b.length-i) 0 ⟨Nat.zero_le _,rfl⟩ ?_ ?_
  ·exact wk
  ·rintro i ⟨h1,h2⟩
   by_cases h:i<b.length
   ·have g1:=jX a i (by omega)
    have g2:=jX b i h
    push_cast -dsimp [hla,hab,h,g1,g2]
    repeat refine an ?_
    have hd:=zln a[i] b[i]
    by_cases he:a[i]=b[i]
    ·have hd:(decide (a[i].name=b[i].name)&&decide (a[i].ino=b[i].ino))=true:=by rw[hd,decide_eq_true he]
     push_cast -dsimp [hd]
     repeat refine an ?_
     exact ⟨i+1,⟨h,(YU (by omega) h h2).2 he⟩,by omega,wk⟩
    ·have hd:(decide (a[i].name=b[i].name)&&decide (a[i].ino=b[i].ino))=false:=by rw[hd,decide_eq_false he]
     push_cast -dsimp [hd]
     have:a≠b:=fun h=>he (by subst h;rfl)
     exact dn (by push_cast -dsimp [zb,za,CLe,ze,this])
   ·push_cast -dsimp [hla,hab,h]
    have:a=b:=by rw[←List.take_of_length_le (l:=a) (i:=i) (by omega),h2,List.take_of_length_le (by omega)]
    exact dn (by push_cast -dsimp [zb,za,CLe,ze,this])
 ·push_cast -dsimp [hla,hlb,hab]
  have:a≠b:=fun h=>hab (by rw[h])
  exact dn (by push_cast -dsimp [zb,za,CLe,ze,this])
theorem zjf (x y:zn) (hx:x.es.length<=9223372036854775807):Fun Tryz.prog G 82 [.agg (J2 x),.agg (J2 y)] (.sc (.bool (decide (x=y)))) 0:=by
 refine fon Tryz.func82 ?_;dsimp only[Tryz.f82]
 by_cases e0:x.ino=y.ino
 case neg =>
  have hn:¬x=y:=fun h=>e0 (by rw[h])
  push_cast -dsimp [e0]
  exact dn (by push_cast -dsimp [zb,za,CLe,ze,hn])
 by_cases e1:x.kind=y.kind
 case neg =>
  have hn:¬x=y:=fun h=>e1 (by rw[h])
  push_cast -dsimp [e0,e1]
  exact dn (by push_cast -dsimp [zb,za,CLe,ze,hn])
 by_cases e2:x.links=y.links
 case neg =>
  have hn:¬x=y:=fun h=>e2 (by rw[h])
  push_cast -dsimp [e0,e1,e2]
  exact dn (by push_cast -dsimp [zb,za,CLe,ze,hn])
 by_cases e3:x.data=y.data
 case neg =>
  have hn:¬x=y:=fun h=>e3 (by rw[h])
  push_cast -dsimp [e0,e1,e2,e3]
  exact dn (by push_cast -dsimp [zb,za,CLe,ze,hn])
 by_cases e4:x.parent=y.parent
 case neg =>
  have hn:¬x=y:=fun h=>e4 (by rw[h])
  push_cast -dsimp [e0,e1,e2,e3,e4]
  exact dn (by push_cast -dsimp [zb,za,CLe,ze,hn])
 by_cases e5:x.es=y.es
 case neg =>
  have hn:¬x=y:=fun h=>e5 (by rw[h])
  push_cast -dsimp [e0,e1,e2,e3,e4]
  refine cl (Nz x.es y.es hx) ?_;push_cast -dsimp [e5,hn]
  exact dn (by push_cast -dsimp [zb,za,CLe,ze,hn])
 have hn:x=y:=(zmJ x y).2 ⟨e0,e1,e2,e3,e4,e5⟩
 push_cast -dsimp [e0,e1,e2,e3,e4]
 refine cl (Nz x.es y.es hx) ?_;push_cast -dsimp [e5]
 exact dn (by push_cast -dsimp [zb,za,CLe,ze,hn])
theorem kF (a b:List zn) (ha:a.length<=100000) (he:∀ x∈a,x.es.length<=9223372036854775807):Fun Tryz.prog G 41 [.sl 6 (zE a),.sl 6 (zE b)] (.sc (.bool (decide (a=b)))) 0:=by
 refine fon Tryz.func41 ?_;dsimp only[Tryz.f41]
 have hla:(zE a).length=a.length:=List.length_map ..
 have hlb:(zE b).length=b.length:=List.length_map ..
 by_cases hab:a.length=b.length
 ·push_cast -dsimp [hla,hlb,hab]
  refine loop (fun i:Nat=>⟨[(0,.sl 6 (zE a)),(1,.sl 6 (zE b)),(5,.sc (.int .i64 i))],[],0,0⟩) (fun i=>i<=b.length/\a.take i=b.take i) (fun i=>b.length-i) 0 ⟨Nat.zero_le _,rfl⟩ ?_ ?_
  ·exact wk
  ·rintro i ⟨h1,h2⟩
   by_cases h:i<b.length
   ·have g1:=qI a i (by omega)
    have g2:=qI b i h
    push_cast -dsimp [hla,hab,h,g1,g2]
    repeat refine an ?_
    refine cl (zjf a[i] b[i] (he _ (List.getElem_mem _))) ?_;push_cast -dsimp
    by_cases he:a[i]=b[i]
    ·push_cast -dsimp [decide_eq_true he]
     repeat refine an ?_
     exact ⟨i+1,⟨h,(YU (by omega) h h2).2 he⟩,by omega,wk⟩
    ·push_cast -dsimp [decide_eq_false he]
     have:a≠b:=fun h=>he (by subst h;rfl)
     exact dn (by push_cast -dsimp [zb,za,CLe,ze,this])
   ·push_cast -dsimp [hla,hab,h]
    have:a=b:=by rw[←List.take_of_length_le (l:=a) (i:=i) (by omega),h2,List.take_of_length_le (by omega)]
    exact dn (by push_cast -dsimp [zb,za,CLe,ze,this])
 ·push_cast -dsimp [hla,hlb,hab]
  have:a≠b:=fun h=>hab (by rw[h])
  exact dn (by push_cast -dsimp [zb,za,CLe,ze,this])
theorem zdG (x y:FsV) (ha:x.xs.length<=100000) (he:∀ z∈x.xs,z.es.length<=9223372036854775807):Fun Tryz.prog G 14 [.agg (fsC x),.agg (fsC y)] (.sc (.bool (decide (x=y)))) 0:=by
 refine fon Tryz.func14 ?_;dsimp only[Tryz.f14]
 by_cases e0:x.maxI=y.maxI
 case neg =>
  have hn:¬x=y:=fun h=>e0 (by rw[h])
  push_cast -dsimp [e0]
  exact dn (by push_cast -dsimp [zb,za,CLe,ze,hn])
 by_cases e1:x.maxB=y.maxB
 case neg =>
  have hn:¬x=y:=fun h=>e1 (by rw[h])
  push_cast -dsimp [e0,e1]
  exact dn (by push_cast -dsimp [zb,za,CLe,ze,hn])
 by_cases e2:x.next=y.next
 case neg =>
  have hn:¬x=y:=fun h=>e2 (by rw[h])
  push_cast -dsimp [e0,e1,e2]
  exact dn (by push_cast -dsimp [zb,za,CLe,ze,hn])
 by_cases e3:x.xs=y.xs
 case neg =>
  have hn:¬x=y:=fun h=>e3 (by rw[h])
  push_cast -dsimp [e0,e1,e2]
  refine cl (kF x.xs y.xs ha he) ?_;push_cast -dsimp [e3,hn]
  exact dn (by push_cast -dsimp [zb,za,CLe,ze,hn])
 have hn:x=y:=(zpf x y).2 ⟨e0,e1,e2,e3⟩
 push_cast -dsimp [e0,e1,e2]
 refine cl (kF x.xs y.xs ha he) ?_;push_cast -dsimp [e3]
 exact dn (by push_cast -dsimp [zb,za,CLe,ze,hn])
theorem zat {xs:List zn} {i:Nat} (hi:i<xs.length) (h0:0<i):zW (xs.take (i+1))↔zW (xs.take i)/\xs[i-1].ino<xs[i].ino:=by
 rw[List.take_add_one,List.getElem?_eq_getElem hi]
 unfold zW
 rw[List.pairwise_append]
 simp only[Option.toList_some,List.pairwise_singleton,true_and,List.mem_singleton,forall_eq]
 constructor
 ·rintro ⟨h1,h2⟩
  exact ⟨h1,h2 _ (List.mem_take_iff_getElem.2 ⟨i-1,by omega,rfl⟩)⟩
 ·rintro ⟨h1,h2⟩
  refine ⟨h1,fun a ha=>?_⟩
  obtain ⟨j,hj,rfl⟩:=List.mem_take_iff_getElem.1 ha
  rcases Nat.lt_or_ge j (i-1) with q | q
  ·have:=(List.pairwise_iff_getElem.1 h1) j (i-1) (by simp;omega) (by simp;omega) q
   simp at this
   omega
  ·have:j=i-1:=by omega
   subst this;exact h2
instance (xs:List zn):Decidable (zW xs):=by unfold zW;infer_instance
theorem ZQ (f:FsV) (hl:f.xs.length<=100000):Fun Tryz.prog G 116 [.agg (fsC f)] (.sc (.bool (decide (zW f.xs)))) 0:=by
 have hll:(zE f.xs).length=f.xs.length:=List.length_map ..
 refine fon Tryz.func116 ?_;dsimp only[Tryz.f116]
 push_cast -dsimp
 refine loop (fun i:Nat=>⟨[(1,.ptr 0 0),(3,.sc (.int .i64 i))],[fsC f],0,0⟩) (fun i=>1<=i/\zW (f.xs.take i)) (fun i=>f.xs.length-i) 1 ⟨Nat.le_refl _,by
  cases f.xs with
  | nil=>exact List.Pairwise.nil
  | cons x r=>exact List.pairwise_singleton _ _⟩ ?_ ?_
 ·exact wk
 ·rintro i ⟨h1,h2⟩
  by_cases h:i<f.xs.length
  ·have g1:=qI f.xs i h
   have g2:=qI f.xs (i-1) (by omega)
   have e1:(i:Int)-1=((i-1:Nat):Int):=by omega
   push_cast -dsimp [hll,h,e1,g1,g2]
   by_cases hc:f.xs[i].ino<=f.xs[i-1].ino
   ·push_cast -dsimp [hc]
    repeat refine an ?_
    have hn:¬zW f.xs:=fun hR=>by
     have:=(List.pairwise_iff_getElem.1 hR) (i-1) i (by omega) h (by omega)
     omega
    exact dn (by push_cast -dsimp [zb,za,CLe,ze,hn])
   ·push_cast -dsimp [hc]
    repeat refine an ?_
    exact ⟨i+1,⟨by omega,(zat h (by omega)).2 ⟨h2,by omega⟩⟩,by omega,wk⟩
  ·push_cast -dsimp [hll,h]
   rw[List.take_of_length_le (by omega)]at h2
   exact dn (by push_cast -dsimp [zb,za,CLe,ze,h2])
def NH (x:zn):Prop:=x.data.length<=5000/\x.es.length<=40/\∀ e∈x.es,e.name.length<=300
instance (x:zn):Decidable (NH x):=by unfold NH;infer_instance
def Ue (xs:List zn):Prop:=xs.length<=40/\∀ x∈xs,NH x
instance (xs:List zn):Decidable (Ue xs):=by unfold Ue;infer_instance
structure FsS (f:FsV):Prop where
 len:f.xs.length<=10000
 node:∀ x∈f.xs,x.es.length<=10000/\x.data.length<=10000/\∀ e∈x.es,e.name.length<=10000
theorem Ue.fs {f:FsV} (h:Ue f.xs):FsS f:=⟨by have:=h.1;omega,fun x hx=>by
 obtain ⟨h1,h2,h3⟩:=h.2 x hx
 exact ⟨by omega,by omega,fun e he=>by have:=h3 e he;omega⟩⟩
theorem yX (f:FsV):Fun Tryz.prog G 113 [.agg (fsC f)] (.sc (.bool (decide (Ue f.xs)))) 0:=by
 have hll:(zE f.xs).length=f.xs.length:=List.length_map ..
 refine fon Tryz.func113 ?_;dsimp only[Tryz.f113]
 push_cast -dsimp
 refine loop (fun i:Nat=>⟨[(1,.ptr 0 0),(3,.sc (.int .i64 i))],[fsC f],0,0⟩) (fun i=>i<=100/\∀ t (h:t<f.xs.length),t<i->NH f.xs[t]) (fun i=>100-i) 0 ⟨Nat.zero_le _,fun t h h'=>absurd h' (Nat.not_lt_zero _)⟩ ?_ ?_
 ·exact wk
 ·rintro i ⟨h1,h2⟩
  have hend:¬(i<f.xs.length/\i<100)->decide ((f.xs.length:Int)<=40)=decide (Ue f.xs):=fun h=>by
   rw[decide_eq_decide]
   constructor
   ·intro hle
    refine ⟨by omega,fun x hx=>?_⟩
    obtain ⟨t,ht,rfl⟩:=List.getElem_of_mem hx
    exact h2 t ht (by omega)
   ·intro h;have:=h.1;omega
  by_cases h:i<f.xs.length
  ·by_cases h100:i<100
   ·have g1:=qI f.xs i h
    have h100':(i:Int)<100:=by omega
    have hbad:¬NH f.xs[i]->¬Ue f.xs:=fun hs hf=>hs (hf.2 _ (List.getElem_mem h))
    by_cases hd:5000<(f.xs[i].data.length:Int)
    ·have hn:=hbad fun hs=>by have:=hs.1;omega
     push_cast -dsimp [hll,h,h100',g1,hd]
     repeat refine an ?_
     exact dn (by push_cast -dsimp [zb,za,CLe,ze,hn])
    ·by_cases he:40<(f.xs[i].es.length:Int)
     ·have hn:=hbad fun hs=>by have:=hs.2.1;omega
      push_cast -dsimp [hll,h,h100',g1,hd,List.length_map,he]
      repeat refine an ?_
      exact dn (by push_cast -dsimp [zb,za,CLe,ze,hn])
     ·push_cast -dsimp [hll,h,h100',g1,hd,List.length_map,he]
      repeat refine an ?_
      refine loop (fun j:Nat=>⟨[(1,.ptr 0 0),(3,.sc (.int .i64 i)),(4,.ptr 1 0),(5,.sc (.int .i64 j))],[fsC f,J2 f.xs[i]],0,0⟩) (fun j=>j<=f.xs[i].es.length/\∀ t (h':t<f.xs[i].es.length),t<j->f.xs[i].es[t].name.length<=300) (fun j=>f.xs[i].es.length-j) 0 ⟨Nat.zero_le _,fun t h h'=>absurd h' (Nat.not_lt_zero _)⟩ ?_ ?_
      ·exact wk
      ·rintro j ⟨h3,h4⟩
       by_cases hj:j<f.xs[i].es.length
       ·have g2:=jX f.xs[i].es j hj
        by_cases hs:300<(f.xs[i].es[j].name.length:Int)
        ·have hn:=hbad fun hs'=>by have:=hs'.2.2 _ (List.getElem_mem hj);omega
         push_cast -dsimp [List.length_map,hj,g2,hs]
         repeat refine an ?_
         exact dn (by push_cast -dsimp [zb,za,CLe,ze,hn])
        ·push_cast -dsimp [List.length_map,hj,g2,hs]
         repeat refine an ?_
         refine ⟨j+1,⟨hj,fun t ht hlt=>?_⟩,by omega,wk⟩
         rcases Nat.lt_or_ge t j with q | q
         ·exact h4 t ht q
         ·have:t=j:=by omega
          subst this;omega
       ·push_cast -dsimp [List.length_map,hj]
        repeat refine an ?_
        refine ⟨i+1,⟨by omega,fun t ht hlt=>?_⟩,by omega,wk⟩
        rcases Nat.lt_or_ge t i with q | q
        ·exact h2 t ht q
        ·have:t=i:=by omega
         subst this
         refine ⟨by omega,by omega,fun e hee=>?_⟩
         obtain ⟨u,hu,rfl⟩:=List.getElem_of_mem hee
         exact h4 u hu (by omega)
   ·have h100':((i:Int)<100)=False:=eq_false (by omega)
    have:=hend (by omega)
    push_cast -dsimp [hll,h,h100']
    exact dn (by push_cast -dsimp [zb,za,CLe,ze,this])
  ·have:=hend (by omega)
   push_cast -dsimp [hll,h]
   exact dn (by push_cast -dsimp [zb,za,CLe,ze,this])
theorem zgz (i b:Int):Fun Tryz.prog G 25 [.sc (.int .i64 i),.sc (.int .i64 b)] (.agg [.sc (.int .i64 i),.sc (.int .i64 b),.sc (.int .i64 2),.own 0 96 6 (zE [⟨1,2,0,[],1,[]⟩])]) 1:=by
 refine Fun.resX (r:=.agg [.sc (.int .i64 i),.sc (.int .i64 b),.sc (.int .i64 2),.own 0 96 6 [[.sc (.int .i64 1),.sc (.int .i64 2),.sc (.int .i64 0),.str [],.sc (.int .i64 1),.sc (.slice none 0 0)]]]) ?_ fun R L v h =>
  zaq (fun vs=>JB (fun v h=>h) (fun vs=>JB (fun v h=>h) fun vs=>JB (fun v h=>h) fun vs=>JB (fun v=>zhe) fun vs h=>h)) h
 refine fon Tryz.func25 ?_;dsimp only[Tryz.f25]
 push_cast -dsimp
 exact ⟨[.inl 0],rfl,rfl,by push_cast -dsimp [zb,za,CLe,ze]⟩
end
end
section
open Go.RowKit
section
variable {G:zj}
theorem zgQ {n:Int} {xs:List zn} {i:Nat} (h:i<xs.length):zw n (xs.take (i+1))=(zw n (xs.take i)||(xs[i].ino==n)):=by
 unfold zw
 rw[List.take_add_one,List.getElem?_eq_getElem h,List.any_append]
 simp
theorem zhH {n:Int} {xs:List zn} {i:Nat} (h:i<xs.length) (h0:zw n (xs.take i)=false) (he:xs[i].ino=n):zw n xs=true/\zf n xs=xs[i]:=by
 refine ⟨List.any_eq_true.2 ⟨xs[i],List.getElem_mem h,by simp[he]⟩,?_⟩
 unfold zf XO
 rw[List.find?_eq_some_iff_getElem (b:=xs[i]) |>.2 ⟨by simp[he],i,h,rfl,fun j hj=>?_⟩]
 ·rfl
 ·unfold zw at h0
  rw[List.any_eq_false]at h0
  have:=h0 xs[j] (List.mem_take_iff_getElem.2 ⟨j,by omega,rfl⟩)
  simpa using this
theorem Xa (f:FsV) (n:Int) (hl:f.xs.length<=100000):Fun Tryz.prog G 53 [.agg (fsC f),.sc (.int .i64 n)] (.tup [.agg (J2 (zf n f.xs)),.sc (.bool (zw n f.xs))]) 0:=by
 have hll:(zE f.xs).length=f.xs.length:=List.length_map ..
 refine fon Tryz.func53 ?_;dsimp only[Tryz.f53]
 push_cast -dsimp
 refine loop (fun i:Nat=>⟨[(1,.sc (.int .i64 n)),(2,.ptr 0 0),(4,.ptr 1 0),(6,.sc (.int .i64 i))],[fsC f,[.sc (.int .i64 0),.sc (.int .i64 0),.sc (.int .i64 0),.str [],.sc (.int .i64 0),.sc (.slice none 0 0)]],0,0⟩) (fun i=>i<=f.xs.length/\zw n (f.xs.take i)=false) (fun i=>f.xs.length-i) 0 ⟨Nat.zero_le _,rfl⟩ ?_ ?_
 ·exact wk
 ·rintro i ⟨h1,h2⟩
  by_cases h:i<f.xs.length
  ·have g1:=qI f.xs i h
   by_cases he:f.xs[i].ino=n
   ·obtain ⟨q1,q2⟩:=zhH h h2 he
    push_cast -dsimp [hll,h,g1,he]
    repeat refine an ?_
    exact dn (by push_cast -dsimp [zb,za,CLe,ze,q1,q2,he])
   ·have q:=zgQ (n:=n) h
    rw[h2,show (f.xs[i].ino==n)=false from beq_eq_false_iff_ne.2 he]at q
    push_cast -dsimp [hll,h,g1,he]
    repeat refine an ?_
    exact ⟨i+1,⟨h,q⟩,by omega,wk⟩
  ·rw[List.take_of_length_le (by omega)]at h2
   have hg:zf n f.xs=vO:=by unfold zf;rw[k8 h2];rfl
   push_cast -dsimp [hll,h]
   exact dn (by push_cast -dsimp [zb,za,CLe,ze,hg,h2,vO])
def zP (xs:List zn):Nat:=((xs.filter fun x=>decide (x.kind=1)).map fun x=>x.data.length).sum
theorem Vx:∀ {xs:List zn} {n:Nat},(∀ x∈xs,x.data.length<=n)->zP xs<=xs.length*n
 | [],n,_=>by simp[zP]
 | x :: r,n,h=>by
  have ih:=Vx (xs:=r) (n:=n) fun y hy=>h y (List.mem_cons_of_mem _ hy)
  have hx:=h x List.mem_cons_self
  unfold zP at ih ⊢
  rw[List.filter_cons]
  split
  ·simp only[List.map_cons,List.sum_cons,List.length_cons]
   rw[Nat.succ_mul];omega
  ·rw[List.length_cons,Nat.succ_mul];omega
theorem FsS.bytes {f:FsV} (h:FsS f):zP f.xs<=100000000:=by
 have h1:=Vx (xs:=f.xs) (n:=10000) fun x hx=>(h.node x hx).2.1
 have h2:=h.len
 have:f.xs.length*10000<=10000*10000:=Nat.mul_le_mul_right _ h2
 omega
theorem UK {xs:List zn} {i:Nat} (h:i<xs.length):zP (xs.take (i+1))=zP (xs.take i)+if xs[i].kind=1 then xs[i].data.length else 0:=by
 unfold zP
 rw[List.take_add_one,List.getElem?_eq_getElem h,List.filter_append,List.map_append,List.sum_append]
 by_cases hk:xs[i].kind=1<;>simp[hk]
theorem zdw (f:FsV) (hf:FsS f):Fun Tryz.prog G 176 [.agg (fsC f)] (.sc (.int .i64 (zP f.xs:Nat))) 0:=by
 have hll:(zE f.xs).length=f.xs.length:=List.length_map ..
 have h40:=hf.len
 have hb0:zP []=0:=rfl
 refine fon Tryz.func176 ?_;dsimp only[Tryz.f176]
 push_cast -dsimp
 refine loop (fun i:Nat=>⟨[(1,.ptr 0 0),(3,.sc (.int .i64 (zP (f.xs.take i):Nat))),(4,.sc (.int .i64 i))],[fsC f],0,0⟩) (fun i=>i<=f.xs.length/\zP (f.xs.take i)<=i*10000) (fun i=>f.xs.length-i) 0 ⟨Nat.zero_le _,Nat.zero_le _⟩ ?_ ?_
 ·exact wk (by push_cast -dsimp [zb,za,CLe,ze,hb0,List.take_zero])
 ·rintro i ⟨h1,h2⟩
  by_cases h:i<f.xs.length
  ·have g1:=qI f.xs i h
   have hd:=(hf.node _ (List.getElem_mem h)).2.1
   have q:=UK h
   by_cases hk:f.xs[i].kind=1
   ·rw[if_pos hk]at q
    have q':((zP (f.xs.take (i+1)):Nat):Int)=(zP (f.xs.take i):Int)+(f.xs[i].data.length:Int):=by omega
    push_cast -dsimp [hll,h,g1,hk]
    repeat refine an ?_
    exact ⟨i+1,⟨h,by omega⟩,by omega,wk (by push_cast -dsimp [zb,za,CLe,ze,q'])⟩
   ·rw[if_neg hk]at q
    have q':zP (f.xs.take (i+1))=zP (f.xs.take i):=by omega
    push_cast -dsimp [hll,h,g1,hk]
    repeat refine an ?_
    exact ⟨i+1,⟨h,by omega⟩,by omega,wk (by push_cast -dsimp [zb,za,CLe,ze,q'])⟩
  ·rw[List.take_of_length_le (by omega)]
   push_cast -dsimp [hll,h]
   exact dn
end
end
section
open Go.RowKit
abbrev G0:zj:=fun _=>none
abbrev zk4 (l:List UInt8):List C:=[.str l]
def QN (s:List (List UInt8)×List UInt8) (b:UInt8):List (List UInt8)×List UInt8:=
 if b=47 then (if s.2 = [] then s.1 else s.1++[s.2],[]) else (s.1,s.2++[b])
def zie (s:List (List UInt8)×List UInt8):List (List UInt8):=if s.2 = [] then s.1 else s.1++[s.2]
def nst (l:List UInt8) (k:Nat):List (List UInt8)×List UInt8:=if k<=l.length then (l.take k).foldl QN ([],[]) else (zie (l.foldl QN ([],[])),[])
def zk (l:List UInt8):List (List UInt8):=zie (l.foldl QN ([],[]))
theorem yo (l:List UInt8):nst l 0=([],[]):=by simp[nst]
theorem yE (l:List UInt8) (k:Nat) (b:UInt8) (h:l[k]?=some b):nst l (k+1)=QN (nst l k) b:=by
 have hk:k<l.length:=(List.getElem?_eq_some_iff.1 h).1
 unfold nst
 rw[if_pos (by omega),if_pos (by omega),List.take_add_one,h]
 simp
theorem zdq (l:List UInt8):nst l (l.length+1)=(zk l,[]):=by
 unfold nst zk
 rw[if_neg (by omega)]
theorem zb2 (l:List UInt8):zie (nst l l.length)=zk l:=by
 unfold nst zk
 rw[if_pos (Nat.le_refl _),List.take_length]
theorem Hh (l:List UInt8):∀ k,k<=l.length->(nst l k).1.length+(nst l k).2.length<=k
 | 0,_=>by simp[yo]
 | k+1,h=>by
  have hk:k<l.length:=by omega
  have ih:=Hh l k (by omega)
  rw[yE l k l[k] (List.getElem?_eq_getElem hk)]
  unfold QN
  by_cases h47:l[k]=47
  ·rw[if_pos h47]
   by_cases h2:(nst l k).2 = []
   ·simp[h2];omega
   ·have:0<(nst l k).2.length:=List.length_pos_iff.2 h2
    simp[h2];omega
  ·rw[if_neg h47];simp;omega
theorem qw (l:List UInt8):(zk l).length<=l.length:=by
 rw[←zb2]
 have:=Hh l l.length (Nat.le_refl _)
 unfold zie
 split
 ·omega
 ·rename_i h
  have:0<(nst l l.length).2.length:=List.length_pos_iff.2 h
  simp;omega
theorem zkf {b c:UInt8} (h:b≠c):¬((b.toNat:Int)=(c.toNat:Int)):=fun e=>h (UInt8.toNat_inj.1 (by omega))
theorem zc5 {α:Type} (l:List α) (k:Nat) (b:α) (h:l[k]?=some b):(l.take (k+1)).drop k = [b]:=by
 have hk:k<l.length:=(List.getElem?_eq_some_iff.1 h).1
 rw[List.take_add_one,h,List.drop_append]
 simp[Nat.min_eq_left (by omega:k<=l.length)]
theorem zdb (l:List UInt8) (h:l.length<=2000000):Fun Tryz.prog G0 17 [.str l] (.own 0 9 1 ((zk l).map zk4)) 1:=by
 refine fon Tryz.func17 ?_;dsimp only[Tryz.f17]
 push_cast -dsimp
 refine loop (fun k:Nat=>⟨[(0,.str l),(3,.own 0 9 1 ((nst l k).1.map zk4)),(4,.str (nst l k).2),(5,.sc (.int .i64 k))],[],1,0⟩) (fun k=>k<=l.length+1) (fun k=>l.length+1-k) 0 (Nat.zero_le _) ?_ ?_
 ·refine jW.mk [.inr (9,1)] rfl rfl (Nat.le_refl _) rfl ?_ trivial
  push_cast -dsimp [zb,za,CLe,ze]
  simp[yo]
 ·intro k hk
  push_cast -dsimp
  by_cases h1:k<=l.length
  ·have hs:=Hh l k h1
   by_cases h2:k<l.length
   ·obtain ⟨b,hb⟩:∃ b,l[k]?=some b:=⟨l[k],List.getElem?_eq_getElem h2⟩
    have hn:=yE l k b hb
    by_cases h3:b=47
    ·have h3':(b.toNat:Int)=47:=by subst h3;rfl
     by_cases h4:(nst l k).2 = []
     ·push_cast -dsimp [h1,h2,h3',hb,h4]
      and_intros<;>try omega
      refine ⟨k+1,by omega,by omega,jW.mk [.inl 0] rfl rfl (Nat.le_refl _) rfl ?_ trivial⟩
      push_cast -dsimp [zb,za,CLe,ze]
      simp[hn,QN,h3,h4]
     ·push_cast -dsimp [h1,h2,h3',hb,h4]
      simp only[List.length_map,List.length_cons,List.length_nil]
      and_intros<;>try omega
      refine ⟨k+1,by omega,by omega,jW.mk [.inl 0] rfl rfl (Nat.le_refl _) rfl ?_ trivial⟩
      push_cast -dsimp [zb,za,CLe,ze]
      simp[hn,QN,h3,h4,zk4]
    ·have h3':¬((b.toNat:Int)=47):=zkf h3
     push_cast -dsimp [h1,h2,h3',hb]
     rw[zc5 l k b hb]
     and_intros<;>try omega
     ·simp;omega
     refine ⟨k+1,by omega,by omega,jW.mk [.inl 0] rfl rfl (Nat.le_refl _) rfl ?_ trivial⟩
     push_cast -dsimp [zb,za,CLe,ze]
     simp[hn,QN,h3]
   ·obtain rfl:k=l.length:=by omega
    have hl:=zb2 l
    have he:=zdq l
    have hz:=qw l
    by_cases h4:(nst l l.length).2 = []
    ·push_cast -dsimp [h1,h2,h4]
     and_intros<;>try omega
     refine ⟨l.length+1,by omega,by omega,jW.mk [.inl 0] rfl rfl (Nat.le_refl _) rfl ?_ trivial⟩
     push_cast -dsimp [zb,za,CLe,ze]
     simp[he,←hl,zie,h4]
    ·push_cast -dsimp [h1,h2,h4]
     simp only[List.length_map,List.length_cons,List.length_nil]
     and_intros<;>try omega
     refine ⟨l.length+1,by omega,by omega,jW.mk [.inl 0] rfl rfl (Nat.le_refl _) rfl ?_ trivial⟩
     push_cast -dsimp [zb,za,CLe,ze]
     simp[he,←hl,zie,h4,zk4]
  ·obtain rfl:k=l.length+1:=by omega
   have he:=zdq l
   push_cast -dsimp [h1]
   exact ⟨[.inl 0],rfl,rfl,by push_cast -dsimp [zb,za,CLe,ze,he]⟩
end
section
open Go.RowKit
abbrev zC (xs:List (List UInt8)):List (List C):=xs.map zk4
theorem Md (xs:List (List UInt8)):(zC xs).length=xs.length:=List.length_map _
theorem zbF (xs:List (List UInt8)) (x:List UInt8):zC xs++[[.str x]]=zC (xs++[x]):=by simp
theorem strs_get? (xs:List (List UInt8)) (k:Nat):(zC xs)[k]?=(xs[k]?).map zk4:=List.getElem?_map
theorem zdU (xs:List (List UInt8)) (k:Nat):(zC xs).drop k=zC (xs.drop k):=List.map_drop.symm
theorem zaH (xs:List (List UInt8)) (k:Nat):(zC xs).take k=zC (xs.take k):=List.map_take.symm
theorem xA (xs ys:List (List UInt8)):zC xs++zC ys=zC (xs++ys):=List.map_append.symm
theorem Vy (xs:List (List UInt8)) (k:Nat) (h:k<xs.length):(zC xs)[k]?=some [.str (xs[k]'h)]:=by rw[strs_get?,List.getElem?_eq_getElem h];rfl
attribute [push_cast] Md zbF zdU zaH xA
abbrev qp (b:Bool):C:=.sc (.bool b)
theorem Hm (a b:List (List UInt8)) (ha:a.length<=9223372036854775807):Fun Tryz.prog G0 15 [.sl 1 (zC a),.sl 1 (zC b)] (qp (decide (a=b))) 0:=by
 by_cases hl:a.length=b.length
 ·refine fon Tryz.func15 ?_;dsimp only[Tryz.f15]
  push_cast -dsimp [hl]
  refine loop (fun k:Nat=>⟨[(0,.sl 1 (zC a)),(1,.sl 1 (zC b)),(5,.sc (.int .i64 k))],[],0,0⟩) (fun k=>k<=a.length/\a.take k=b.take k) (fun k=>a.length-k) 0 ⟨Nat.zero_le _,rfl⟩ ?_ ?_
  ·exact wk
  ·intro k hk
   have hk1:=hk.1
   have hk2:=hk.2
   by_cases h:k<a.length
   ·have hga:=Vy a k h
    have hgb:=Vy b k (by omega)
    by_cases he:a[k]'h=b[k]'(by omega)
    ·push_cast -dsimp [h,hga,hgb,he]
     refine ⟨by omega,by omega,by omega,k+1,⟨by omega,?_⟩,by omega,wk⟩
     rw[List.take_add_one,List.take_add_one,hk2,List.getElem?_eq_getElem h,List.getElem?_eq_getElem (by omega:k<b.length),he]
    ·push_cast -dsimp [h,hga,hgb,he]
     refine ⟨by omega,by omega,[],rfl,rfl,?_⟩
     push_cast -dsimp [zb,za,CLe,ze]
     have:a≠b:=fun e=>he (by subst e;rfl)
     simp[this]
   ·have hkl:k=a.length:=by omega
    push_cast -dsimp [h]
    refine ⟨[],rfl,rfl,?_⟩
    push_cast -dsimp [zb,za,CLe,ze]
    rw[hkl,List.take_length,hl,List.take_length]at hk2
    simp[hk2]
 ·have hl':¬((a.length:Int)=(b.length:Int)):=by omega
  refine fon Tryz.func15 ?_;dsimp only[Tryz.f15]
  push_cast -dsimp [hl]
  refine ⟨[],rfl,rfl,?_⟩
  push_cast -dsimp [zb,za,CLe,ze]
  have:a≠b:=fun e=>hl (by rw[e])
  simp[this]
def few (l:List (List UInt8)):Bool:=(l.take 100).all (fun x=>decide (x.length<=300))&&decide (l.length<=40)
end
section
open Go.RowKit
theorem Fun.wrap {P:Program} {G:zj} {f:FuncId} {args:List C} {r:C} (he:JP P f=true)
  (h:∀ (R:Env) (vs:List Value),zm R zu args vs->Calls P f vs.toArray R.w fun e w'=>∃ v,e = .returned v/\Below R.w.heap.size R.w w'/\∀ R',Ext R R'->Rep R' zu r v):Fun P G f args r 0:=by
 refine ⟨he,fun R vs hg ha=>(h R vs ha).mono ?_⟩
 rintro e w' ⟨v,rfl,hb,hr⟩
 have st:zT 0 0 R zu ⟨w',fun b o=>b<R.w.heap.size/\R.M b o,R.F⟩ zu:=zT.mem (nx:=0) hb
 exact ⟨v,_,zu,rfl,rfl,st,hr _ st.ext⟩
def jo:List UInt8->List (List UInt8)
 | []=>[[]]
 | b :: l=>if b=47 then [] :: jo l else match jo l with
  | []=>[[b]]
  | x :: r=>(b :: x) :: r
theorem Nj (l:List UInt8):jo l≠[]:=by
 cases l with
 | nil=>simp[jo]
 | cons b l =>
  unfold jo
  split
  ·simp
  ·split<;>simp
theorem kw:∀ l:List UInt8,Lib.indexByte l 47<0->jo l = [l]
 | [],_=>rfl
 | b :: l,h=>by
  unfold Lib.indexByte at h
  by_cases hb:b=47
  ·subst hb;simp at h
  ·have hb':(b==47)=false:=by simpa using hb
   rw[hb']at h
   simp only[Bool.false_eq_true,if_false]at h
   have hl:Lib.indexByte l 47<0:=by
    split at h
    ·rename_i g;have:=beq_iff_eq.1 g;omega
    ·omega
   unfold jo
   rw[if_neg hb,kw l hl]
theorem UX:∀ l:List UInt8,-1<=Lib.indexByte l 47
 | []=>Int.le_refl _
 | b :: l=>by
  have:=UX l
  unfold Lib.indexByte
  split
  ·decide
  ·split
   ·decide
   ·omega
theorem xW:∀ (l:List UInt8) (i:Nat),Lib.indexByte l 47=(i:Int)->i<l.length/\jo l=l.take i :: jo (l.drop (i+1))
 | [],i,h=>by
  have h:(-1:Int)=(i:Int):=h
  omega
 | b :: l,i,h=>by
  unfold Lib.indexByte at h
  by_cases hb:b=47
  ·subst hb
   simp at h
   obtain rfl:i=0:=by omega
   refine ⟨by simp,?_⟩
   conv=>lhs;unfold jo
   simp
  ·have hb':(b==47)=false:=by simpa using hb
   rw[hb']at h
   simp only[Bool.false_eq_true,if_false]at h
   split at h
   ·omega
   ·rename_i g
    have g':Lib.indexByte l 47≠-1:=by simpa using g
    have hg:=UX l
    obtain ⟨j,rfl⟩:∃ j,i=j+1:=⟨i-1,by omega⟩
    have hj:Lib.indexByte l 47=(j:Int):=by omega
    obtain ⟨h1,h2⟩:=xW l j hj
    refine ⟨by simp;omega,?_⟩
    conv=>lhs;unfold jo
    rw[if_neg hb,h2]
    simp
theorem VP:∀ (l:List UInt8) (a:List (List UInt8)) (cur:List UInt8),zie (l.foldl QN (a,cur))=a++(match jo l with | []=>[] | x :: r=>(cur++x) :: r).filter (fun x=>!decide (x = []))
 | [],a,cur=>by
  simp only[List.foldl_nil,zie,jo]
  by_cases h:cur = []<;>simp[h]
 | b :: l,a,cur=>by
  simp only[List.foldl_cons]
  by_cases hb:b=47
  ·subst hb
   have hn:QN (a,cur) 47=(if cur = [] then a else a++[cur],[]):=by simp[QN]
   rw[hn,VP l]
   conv=>rhs;unfold jo
   simp only[if_true]
   have hne:=Nj l
   cases hs:jo l with
   | nil=>exact absurd hs hne
   | cons x r=>by_cases h:cur = []<;>simp[h]
  ·have hn:QN (a,cur) b=(a,cur++[b]):=by simp[QN,hb]
   rw[hn,VP l]
   conv=>rhs;unfold jo
   rw[if_neg hb]
   have hne:=Nj l
   cases hs:jo l with
   | nil=>exact absurd hs hne
   | cons x r=>simp
theorem jL (l:List UInt8):zk l=(jo l).filter (fun x=>!decide (x = [])):=by
 unfold zk
 rw[VP]
 cases hs:jo l with
 | nil=>rfl
 | cons x r=>simp
theorem zdQ (l:List UInt8):Fun Tryz.prog G0 177 [.str l,.str [47]] (.sc (.int .i64 (Lib.indexByte l 47))) 0:=by
 refine Fun.wrap (by kernel_rfl) fun R vs h=>?_
 obtain ⟨v1,us1,rfl,h1,h⟩:=zd.1 h
 obtain ⟨v2,us2,rfl,h2,h⟩:=zd.1 h
 rw[zg]at h
 subst h
 rw[zB]at h1 h2
 subst h1 h2
 refine (Tryz.strings_Index_one ⟨l.toArray⟩ 47 R.w).mono ?_
 rintro e w' ⟨rfl,rfl⟩
 exact ⟨_,rfl,Below.refl _ _,fun R' _=>zi.2 (by simp)⟩
theorem Ub (s:List UInt8) (hs:s.length<=1000000):HK Tryz.prog G0 208 [] [.ptr 1 0,.ptr 0 0,.ptr 2 0] [[.str s],[.str [47]],[.sc (.int .i64 0)]] (zC (jo s)):=by
 refine foI (fun _=>[]) Tryz.func208 ?_;dsimp only[Tryz.f208]
 intro l sf
 push_cast -dsimp
 refine loop (fun x:List UInt8×Nat=>⟨[(0,.sc (.func (.yield l) #[] #[])),(1,.ptr 1 0),(2,.ptr 0 0),(3,.ptr 2 0)],[[.str x.1],[.str [47]],[.sc (.int .i64 0)]],0,x.2⟩)
  (fun x=>x.1.length<=1000000/\(∃ done,jo s=done++jo x.1/\done.length=x.2)/\∀ j,j<x.2->sf j=false) (fun x=>x.1.length) (s,0) ⟨hs,⟨[],rfl,rfl⟩,fun j hj=>by omega⟩ ?_ ?_
 ·refine jW.mk [] rfl rfl (Nat.zero_le _) rfl ?_ ?_<;>push_cast -dsimp [zb,za,CLe,ze]<;>omega
 ·rintro ⟨r,k⟩ hx
  simp only at hx ⊢
  have hr:=hx.1
  have hsf:=hx.2.2
  obtain ⟨done,hd,hdl⟩:=hx.2.1
  clear hx
  push_cast -dsimp
  refine call (zdQ r) ?_
  push_cast -dsimp
  by_cases hi:Lib.indexByte r 47<0
  ·push_cast -dsimp [hi]
   have hk:(zC (jo s))[k]?=some [.str r]:=by
    rw[hd,kw r hi];simp[←hdl]
   rw[hk]
   push_cast -dsimp
   refine ⟨by push_cast -dsimp [zb,za,CLe,ze],hsf,?_⟩
   cases hk2:sf k with
   | true=>exact .inr ⟨Nat.succ_pos k,hk2⟩
   | false =>
    refine .inl ⟨?_,fun j (hj:j<k+1)=>?_⟩
    ·rw[hd,kw r hi];simp[hdl]
    ·rcases Nat.lt_or_ge j k with g | g
     ·exact hsf j g
     ·rw[show j=k by omega];exact hk2
  ·have hg:=UX r
   obtain ⟨i,hii⟩:∃ i:Nat,Lib.indexByte r 47=(i:Int):=⟨(Lib.indexByte r 47).toNat,by omega⟩
   obtain ⟨hir,hsp⟩:=xW r i hii
   have hk:(zC (jo s))[k]?=some [.str (r.take i)]:=by
    rw[hd,hsp];simp[←hdl]
   rw[hii]at hi ⊢
   push_cast -dsimp [hi]
   rw[hk]
   push_cast -dsimp
   refine ⟨by omega,by omega,by push_cast -dsimp [zb,za,CLe,ze],hsf,br (fun hk2=>?_) (fun hk2=>?_)⟩
   ·push_cast -dsimp
    exact .inr ⟨Nat.succ_pos k,hk2⟩
   ·push_cast -dsimp
    refine ⟨by omega,by omega,(r.drop (i+1),k+1),⟨by simp;omega,⟨done++[r.take i],by rw[hd,hsp];simp,by simp[hdl]⟩,fun j (hj:j<k+1)=>?_⟩,by simp;omega,jW.mk [] rfl rfl (Nat.zero_le _) rfl ?_ ?_⟩
    ·rcases Nat.lt_or_ge j k with g | g
     ·exact hsf j g
     ·rw[show j=k by omega];exact hk2
    ·push_cast -dsimp [zb,za,CLe,ze]
    ·push_cast -dsimp [zb,za,CLe,ze]
theorem Gt (s:List UInt8):ua Tryz.prog G0 169 [.str s,.str [47],.sc (.int .i64 0)] [] 0 (.clo (.func 208) [] [.ptr 1 0,.ptr 0 0,.ptr 2 0]) [[.str s],[.str [47]],[.sc (.int .i64 0)]] 0:=by
 refine foB (fun _=>[]) Tryz.func169 ?_;dsimp only[Tryz.f169]
 push_cast -dsimp
 exact ⟨[],rfl,rfl,by push_cast -dsimp [zb,za,CLe,ze],by push_cast -dsimp [zb,za,CLe,ze]⟩
theorem Gz (s:List UInt8):ua Tryz.prog G0 127 [.str s,.str [47]] [] 0 (.clo (.func 208) [] [.ptr 1 0,.ptr 0 0,.ptr 2 0]) [[.str s],[.str [47]],[.sc (.int .i64 0)]] 0:=by
 refine foB (fun _=>[]) Tryz.func127 ?_;dsimp only[Tryz.f127]
 push_cast -dsimp
 refine zgK [] [] (Gt s) rfl (by simp) (by simp) (fun i hi=>by cases hi) (by push_cast -dsimp) rfl ?_
 push_cast -dsimp
 exact ⟨[],rfl,rfl,by push_cast -dsimp [zb,za,CLe,ze],by push_cast -dsimp [zb,za,CLe,ze]⟩
end
section
open Go.RowKit
abbrev UN (x:List UInt8):Bool:=!decide (x = [])
def cnt (xs:List (List UInt8)) (k:Nat):Nat:=((xs.take k).filter UN).length
theorem va (xs:List (List UInt8)) (k:Nat) (x:List UInt8) (h:xs[k]?=some x):cnt xs (k+1)=if x = [] then cnt xs k else cnt xs k+1:=by
 unfold cnt
 rw[List.take_add_one,h]
 by_cases hx:x = []<;>simp[hx]
theorem zjr (xs:List (List UInt8)) (k:Nat) (x:List UInt8) (h:xs[k]?=some x) (hx:x≠[]):(xs.filter UN)[cnt xs k]?=some x:=by
 have hk:k<xs.length:=(List.getElem?_eq_some_iff.1 h).1
 have e:xs=xs.take k++x :: xs.drop (k+1):=by
  have:=List.take_append_drop k xs
  rw[List.drop_eq_getElem_cons hk]at this
  rw[List.getElem?_eq_getElem hk]at h
  cases h;exact this.symm
 have e2:xs.filter UN=(xs.take k).filter UN++x :: (xs.drop (k+1)).filter UN:=by
  conv=>lhs;rw[e]
  rw[List.filter_append,List.filter_cons]
  simp[hx]
 rw[e2]
 unfold cnt
 simp
theorem zir (xs:List (List UInt8)):cnt xs xs.length=(xs.filter UN).length:=by unfold cnt;rw[List.take_length]
theorem QB {xs:List (List UInt8)} {sf:Nat->Bool}:∀ k,k<=xs.length->(∀ j,j<k->(UN (xs.getD j [])&&sf (cnt xs j))=false)->∀ j,j<cnt xs k->sf j=false
 | 0,_,_,j,hj=>by simp[cnt]at hj
 | k+1,hk,h,j,hj=>by
  have ih:=QB k (by omega) fun i hi=>h i (by omega)
  have hx:xs[k]?=some (xs.getD k []):=by rw[List.getD_eq_getElem?_getD,List.getElem?_eq_getElem (by omega)];rfl
  rw[va xs k _ hx]at hj
  by_cases he:xs.getD k [] = []
  ·rw[if_pos he]at hj;exact ih j hj
  ·rw[if_neg he]at hj
   rcases Nat.lt_or_ge j (cnt xs k) with g | g
   ·exact ih j g
   ·have h2:=h k (by omega)
    have h3:UN (xs.getD k [])=true:=by simp only[UN,Bool.not_eq_true',decide_eq_false_iff_not];exact he
    rw[h3,Bool.true_and]at h2
    rw[show j=cnt xs k by omega];exact h2
theorem ZI {xs:List (List UInt8)} {k:Nat} {it:List C} (h:(zC xs)[k]?=some it):∃ x,xs[k]?=some x/\it = [.str x]:=by
 rw[List.getElem?_map]at h
 cases hq:xs[k]? with
 | none=>rw[hq]at h;cases h
 | some x=>rw[hq]at h;cases h;exact ⟨x,rfl,rfl⟩
theorem Ve (p:List UInt8) (hs:p.length<=1000000):HK Tryz.prog G0 145 [] [.row [.str p]] [] (zC (zk p)):=by
 rw[jL]
 refine foI (fun _=>[]) Tryz.func145 ?_;dsimp only[Tryz.f145]
 intro l sf
 push_cast -dsimp
 refine zgK [] [] (Gz p) rfl (by simp) (by simp) (fun i hi=>by cases hi) (by push_cast -dsimp) rfl ?_
 push_cast -dsimp
 refine range (zC (jo p)) (fun k=>UN ((jo p).getD k [])&&sf (cnt (jo p) k)) 1 (fun k=>⟨[],[[.sc (.func (.yield l) #[] #[])]],0,cnt (jo p) k⟩) (Ub p hs) (by push_cast -dsimp) (by push_cast -dsimp) (by push_cast -dsimp) (Nat.zero_le _) (by push_cast -dsimp) (fun it hit=>?_) (fun k _=>rfl) ?_ (fun k it hk hsf=>?_) (fun hsf=>?_)
 ·obtain ⟨x,_,rfl⟩:=List.mem_map.1 hit;rfl
 ·exact wk
 ·obtain ⟨x,hx,rfl⟩:=ZI hk
  have hxd:(jo p).getD k []=x:=by rw[List.getD_eq_getElem?_getD,hx];rfl
  have hkl:k<(jo p).length:=(List.getElem?_eq_some_iff.1 hx).1
  have hcs:=va (jo p) k x hx
  have hbef:=QB (xs:=jo p) (sf:=sf) k (by omega) hsf
  by_cases he:x = []
  ·push_cast -dsimp [he]
   refine ⟨?_,jW.mk [] rfl rfl (Nat.le_refl _) ?_ (by push_cast -dsimp [zb,za,CLe,ze]) (by push_cast -dsimp [zb,za,CLe,ze])⟩
   ·rw[hxd,he];rfl
   ·simp[hcs,he,St.wt]
  ·have hget:=zjr (jo p) k x hx he
   have hg2:(zC ((jo p).filter UN))[cnt (jo p) k]?=some [.str x]:=by rw[List.getElem?_map,hget];rfl
   push_cast -dsimp [he]
   rw[hg2]
   push_cast -dsimp
   refine ⟨by push_cast -dsimp [zb,za,CLe,ze],hbef,br (fun h2=>?_) (fun h2=>?_)⟩
   ·push_cast -dsimp
    refine ⟨by rw[hxd,h2];simp[UN,he],⟨[],[[.sc (.func (.yield l) #[] #[])]],0,cnt (jo p) k+1⟩,rfl,wk,?_⟩
    push_cast -dsimp
    exact .inr ⟨Nat.succ_pos _,h2⟩
   ·push_cast -dsimp
    refine ⟨by rw[h2,Bool.and_false],jW.mk [] rfl rfl (Nat.le_refl _) ?_ (by push_cast -dsimp [zb,za,CLe,ze]) (by push_cast -dsimp [zb,za,CLe,ze])⟩
    simp[hcs,he,St.wt]
 ·have hall:=zir (jo p)
  have hbef:=QB (xs:=jo p) (sf:=sf) (jo p).length (Nat.le_refl _) fun j hj=>hsf j (by simpa using hj)
  push_cast -dsimp
  refine .inl ⟨?_,?_⟩
  ·simp[hall]
  ·simpa using hbef
end
section
open Go.RowKit
theorem Xc (p:List UInt8):Fun Tryz.prog G0 99 [.str p] (.clo (.func 145) [] [.row [.str p]]) 0:=by
 refine fon Tryz.func99 ?_;dsimp only[Tryz.f99]
 push_cast -dsimp
 exact dn
theorem U2 (xs:List (List UInt8)) (f:FuncId) (cap:List C) (hsel:C.selL (JT 1) cap=cap) (hit:HK Tryz.prog G0 f [] cap [] (zC xs)) (hx:xs.length<=1000001):Fun Tryz.prog G0 181 [.sc (.slice none 0 0),.clo (.func f) [] cap] (.own 0 9 1 (zC xs)) 1:=by
 refine fon Tryz.func181 ?_;dsimp only[Tryz.f181]
 push_cast -dsimp
 refine range (zC xs) (fun _=>false) 1 (fun k=>⟨[],[[.own 0 9 1 (zC (xs.take k))]],1,0⟩) hit (by push_cast -dsimp) hsel (by push_cast -dsimp) (Nat.zero_le _) (by push_cast -dsimp) (fun it h=>?_) (fun k _=>rfl) ?_ (fun k it hk hsf=>?_) (fun hsf=>?_)
 ·obtain ⟨x,_,rfl⟩:=List.mem_map.1 h;rfl
 ·exact wks [.inr (9,1)]
 ·obtain ⟨x,hx2,rfl⟩:=ZI hk
  have hkl:k<xs.length:=(List.getElem?_eq_some_iff.1 hx2).1
  push_cast -dsimp
  simp only[List.length_take]
  refine ⟨by omega,by omega,jW.mk [.inl 0] rfl rfl (Nat.le_refl _) rfl (by push_cast -dsimp [zb,za,CLe,ze]) ?_⟩
  push_cast -dsimp [zb,za,CLe,ze]
  rw[List.take_add_one,hx2]
  rfl
 ·push_cast -dsimp
  refine ⟨[.inl 0],rfl,rfl,?_⟩
  push_cast -dsimp [zb,za,CLe,ze]
  simp
theorem MQ (xs:List (List UInt8)) (f:FuncId) (cap:List C) (hsel:C.selL (JT 1) cap=cap) (hfrz:C.frzL cap=cap) (hit:HK Tryz.prog G0 f [] cap [] (zC xs)) (hx:xs.length<=1000001):Fun Tryz.prog G0 157 [.clo (.func f) [] cap] (.own 0 9 1 (zC xs)) 1:=by
 refine fon Tryz.func157 ?_;dsimp only[Tryz.f157]
 push_cast -dsimp [hfrz]
 refine call (U2 xs f cap hsel hit hx) ?_
 push_cast -dsimp
 exact ⟨[.inl 0],rfl,rfl,by push_cast -dsimp [zb,za,CLe,ze]⟩
theorem Y0 (p:List UInt8) (hp:p.length<=1000000):Fun Tryz.prog G0 157 [.clo (.func 145) [] [.row [.str p]]] (.own 0 9 1 (zC (zk p))) 1:=
 MQ (zk p) _ _ (by push_cast -dsimp) (by push_cast -dsimp) (Ve p hp) (by have:=qw p;omega)
theorem Qt (s p:List UInt8):Fun Tryz.prog G0 98 [.str s,.str p] (.sc (.bool (Lib.hasPrefix s p))) 0:=by
 refine Fun.wrap (by kernel_rfl) fun R vs h=>?_
 obtain ⟨v1,us1,rfl,h1,h⟩:=zd.1 h
 obtain ⟨v2,us2,rfl,h2,h⟩:=zd.1 h
 rw[zg]at h
 subst h
 rw[zB]at h1 h2
 subst h1 h2
 refine (Tryz.strings_HasPrefix ⟨s.toArray⟩ ⟨p.toArray⟩ R.w).mono ?_
 rintro e w' ⟨rfl,rfl⟩
 exact ⟨_,rfl,Below.refl _ _,fun R' _=>zi.2 (by simp)⟩
theorem kI (s p:List UInt8) (hs:s.length<=1000000):Fun Tryz.prog G0 100 [.str s,.str p] (.sc (.bool (Lib.hasSuffix s p))) 0:=by
 refine Fun.wrap (by kernel_rfl) fun R vs h=>?_
 obtain ⟨v1,us1,rfl,h1,h⟩:=zd.1 h
 obtain ⟨v2,us2,rfl,h2,h⟩:=zd.1 h
 rw[zg]at h
 subst h
 rw[zB]at h1 h2
 subst h1 h2
 refine (Tryz.strings_HasSuffix ⟨s.toArray⟩ ⟨p.toArray⟩ R.w (by simp[ByteArray.size];omega)).mono ?_
 rintro e w' ⟨rfl,rfl⟩
 exact ⟨_,rfl,Below.refl _ _,fun R' _=>zi.2 (by simp)⟩
theorem ZJ (xs:List (List UInt8)) (sep:List UInt8) (hx:xs.length<=1000001) (hl:(Lib.join xs sep).length<=100000000):Fun Tryz.prog G0 130 [.sl 1 (zC xs),.str sep] (.str (Lib.join xs sep)) 0:=by
 refine Fun.wrap (by kernel_rfl) fun R vs h=>?_
 obtain ⟨v1,us1,rfl,h1,h⟩:=zd.1 h
 obtain ⟨v2,us2,rfl,h2,h⟩:=zd.1 h
 rw[zg]at h
 subst h
 rw[zB]at h2
 subst h2
 obtain ⟨a,cap,rfl,hc1,hc2,hr⟩:=UW.1 h1
 have hlen:(zC xs).length=xs.length:=by simp
 have hmap:(xs.map fun x=>ByteArray.mk x.toArray).map (·.data.toList)=xs:=by
  rw[List.map_map]
  conv=>rhs;rw[←List.map_id xs]
  exact List.map_congr_left fun x _=>by simp
 rcases hr with hr | ⟨b,o,rfl,hr⟩
 ·have:xs = []:=by simpa using hr
  subst this
  refine (Tryz.strings_Join_none a cap ⟨sep.toArray⟩ R.w).mono ?_
  rintro e w' ⟨rfl,rfl⟩
  exact ⟨_,rfl,Below.refl _ _,fun R' _=>zB.2 (by simp[Lib.join])⟩
 ·by_cases hx0:xs = []
  ·subst hx0
   refine (Tryz.strings_Join_none _ cap ⟨sep.toArray⟩ R.w).mono ?_
   rintro e w' ⟨rfl,rfl⟩
   exact ⟨_,rfl,Below.refl _ _,fun R' _=>zB.2 (by simp[Lib.join])⟩
  ·have hcells:∀ (j:Nat) x,(xs.map fun x=>ByteArray.mk x.toArray)[j]?=some x->R.w.cell? ⟨b,o+j,none⟩=some (.string x):=fun j x hj=>by
    rw[List.getElem?_map]at hj
    cases hq:xs[j]? with
    | none=>rw[hq]at hj;cases hj
    | some y =>
     rw[hq]at hj;cases hj
     obtain ⟨_,g⟩:=qC hr j [.str y] (by rw[List.getElem?_map,hq];rfl)
     obtain ⟨⟨v,g1,_,g2,_⟩,_⟩:=zM.1 g
     rw[zB]at g2
     subst g2
     simpa using g1
   have hb:b<R.w.heap.size:=by
    cases xs with
    | nil=>exact absurd rfl hx0
    | cons x r =>
     exact N5 (hcells 0 ⟨x.toArray⟩ rfl)
   have hj:=Tryz.strings_Join b o cap (xs.map fun x=>ByteArray.mk x.toArray) ⟨sep.toArray⟩ R.w hcells hb (by simp;omega) (by simpa using hc1) (by rw[hmap];simp;omega)
   rw[hmap]at hj
   simp only[List.length_map]at hj
   rw[hlen]
   refine hj.mono ?_
   rintro e w' ⟨rfl,hbl⟩
   exact ⟨_,rfl,hbl,fun R' _=>zB.2 (by simp)⟩
end
section
open Go.RowKit
def zhE (p:List UInt8):C:=.agg [qp (Lib.hasPrefix p [47]),.own 0 9 1 (zC (zk p)),qp (!decide (zk p = [])&&Lib.hasSuffix p [47])]
theorem ZF (p:List UInt8) (hp:p.length<=1000000):Fun Tryz.prog G0 107 [.str p] (zhE p) 1:=by
 refine fon Tryz.func107 ?_;dsimp only[Tryz.f107]
 push_cast -dsimp
 refine call (Xc p) ?_
 push_cast -dsimp
 refine call (Y0 p hp) ?_
 push_cast -dsimp
 refine call (Qt p [47]) ?_
 push_cast -dsimp
 by_cases h:zk p = []
 ·push_cast -dsimp [h]
  exact ⟨[.inl 0],rfl,rfl,by simp only[zhE];push_cast -dsimp [zb,za,CLe,ze,h];simp⟩
 ·have h':0<(zk p).length:=List.length_pos_iff.2 h
  push_cast -dsimp [h']
  refine call (kI p [47] hp) ?_
  push_cast -dsimp
  exact ⟨[.inl 0],rfl,rfl,by simp only[zhE];push_cast -dsimp [zb,za,CLe,ze,h]⟩
def zi3 (a:Bool) (xs:List (List UInt8)) (s:Bool):C:=.agg [qp a,.sl 1 (zC xs),qp s]
def put (a:Bool) (xs:List (List UInt8)) (s:Bool):List UInt8:=(if a then [47] else [])++Lib.join xs [47]++(if s&&!decide (xs = []) then [47] else [])
theorem zja (a:Bool) (xs:List (List UInt8)) (s:Bool) (hx:xs.length<=1000001) (hl:(Lib.join xs [47]).length<=100000000):Fun Tryz.prog G0 123 [zi3 a xs s] (.str (put a xs s)) 0:=by
 unfold zi3
 refine fon Tryz.func123 ?_;dsimp only[Tryz.f123]
 push_cast -dsimp
 refine call (ZJ xs [47] hx hl) ?_
 push_cast -dsimp
 by_cases h:xs = []
 ·subst h
  cases a<;>cases s<;>push_cast -dsimp
  ·exact ⟨[],rfl,rfl,by push_cast -dsimp [zb,za,CLe,ze];simp[put]⟩
  ·exact ⟨[],rfl,rfl,by push_cast -dsimp [zb,za,CLe,ze];simp[put]⟩
  ·exact ⟨by omega,[],rfl,rfl,by push_cast -dsimp [zb,za,CLe,ze];simp[put]⟩
  ·exact ⟨by omega,[],rfl,rfl,by push_cast -dsimp [zb,za,CLe,ze];simp[put]⟩
 ·have h':0<xs.length:=List.length_pos_iff.2 h
  cases a<;>cases s<;>push_cast -dsimp [h']
  ·exact ⟨[],rfl,rfl,by push_cast -dsimp [zb,za,CLe,ze];simp[put]⟩
  ·exact ⟨by omega,[],rfl,rfl,by push_cast -dsimp [zb,za,CLe,ze];simp[put,h]⟩
  ·exact ⟨by omega,[],rfl,rfl,by push_cast -dsimp [zb,za,CLe,ze];simp[put]⟩
  ·exact ⟨by omega,by omega,[],rfl,rfl,by push_cast -dsimp [zb,za,CLe,ze];simp[put,h]⟩
def ql (xs:List (List UInt8)):List UInt8:=if xs = [] then [47] else 47 :: Lib.join xs [47]
theorem Y6 (xs:List (List UInt8)) (hx:xs.length<=1000001) (hl:(Lib.join xs [47]).length<=100000000):Fun Tryz.prog G0 109 [.sl 1 (zC xs)] (.str (ql xs)) 0:=by
 refine fon Tryz.func109 ?_;dsimp only[Tryz.f109]
 push_cast -dsimp
 by_cases h:xs = []
 ·push_cast -dsimp [h]
  exact ⟨[],rfl,rfl,by simp only[ql,h];push_cast -dsimp [zb,za,CLe,ze]⟩
 ·have h':¬((xs.length:Int)=0):=by have:=List.length_pos_iff.2 h;omega
  push_cast -dsimp [h']
  refine call ((ZJ xs [47] hx hl)) ?_
  push_cast -dsimp
  exact ⟨by omega,[],rfl,rfl,by simp only[ql,if_neg h];push_cast -dsimp [zb,za,CLe,ze]⟩
def Qa (p:List UInt8):Bool:=(zk p).any (fun x=>decide (255<x.length))||decide (4095<p.length)
theorem UZ (p:List UInt8) (hp:p.length<=1000000):Fun Tryz.prog G0 72 [.str p] (qp (Qa p)) 0:=by
 refine fon Tryz.func72 ?_;dsimp only[Tryz.f72]
 push_cast -dsimp
 refine call (Xc p) ?_
 push_cast -dsimp
 refine range (zC (zk p)) (fun k=>decide (255<((zk p).getD k []).length)) 1 (fun k=>⟨[],[[.sc (.bool false)]],0,0⟩) (Ve p hp) (by push_cast -dsimp) (by push_cast -dsimp) (by push_cast -dsimp) (Nat.zero_le _) (by push_cast -dsimp) (fun it h=>?_) (fun k _=>rfl) ?_ (fun k it hk hsf=>?_) (fun hsf=>?_)
 ·obtain ⟨x,_,rfl⟩:=List.mem_map.1 h;rfl
 ·exact wk
 ·obtain ⟨x,hx,rfl⟩:=ZI hk
  have hxd:(zk p).getD k []=x:=by rw[List.getD_eq_getElem?_getD,hx];rfl
  push_cast -dsimp
  rw[hxd]
  refine br (fun h=>?_) (fun h=>?_)
  ·have h':255<x.length:=by have:=of_decide_eq_true h;omega
   push_cast -dsimp
   refine ⟨by simpa using h',⟨[],[[.sc (.bool true)]],0,0⟩,rfl,wk,?_⟩
   push_cast -dsimp
   refine ⟨[],rfl,rfl,?_⟩
   push_cast -dsimp [zb,za,CLe,ze]
   have:(zk p).any (fun x=>decide (255<x.length))=true:=List.any_eq_true.2 ⟨x,List.mem_of_getElem? hx,by simpa using h'⟩
   simp[Qa,this]
  ·have h':¬255<x.length:=by have:=of_decide_eq_false h;omega
   push_cast -dsimp
   exact ⟨by simpa using h',wk⟩
 ·push_cast -dsimp
  refine ⟨[],rfl,rfl,?_⟩
  push_cast -dsimp [zb,za,CLe,ze]
  have:(zk p).any (fun x=>decide (255<x.length))=false:=List.any_eq_false.2 fun x hx=>by
   obtain ⟨k,hk,rfl⟩:=List.getElem_of_mem hx
   have:=hsf k (by simpa using hk)
   rw[List.getD_eq_getElem?_getD,List.getElem?_eq_getElem hk]at this
   simpa using this
  simp[Qa,this]
  omega
def UU (p q:List UInt8):Bool:=decide (p=q)||decide (q = [47])||Lib.hasPrefix p (q++[47])
theorem UJ (p q:List UInt8) (hq:q.length<=1000000):Fun Tryz.prog G0 185 [.str p,.str q] (qp (UU p q)) 0:=by
 refine fon Tryz.func185 ?_;dsimp only[Tryz.f185]
 push_cast -dsimp
 by_cases h1:p=q
 ·push_cast -dsimp [h1]
  exact ⟨[],rfl,rfl,by push_cast -dsimp [zb,za,CLe,ze];simp[UU]⟩
 ·by_cases h2:q = [47]
  ·subst h2
   push_cast -dsimp [h1]
   exact ⟨[],rfl,rfl,by push_cast -dsimp [zb,za,CLe,ze];simp[UU]⟩
  ·push_cast -dsimp [h1,h2]
   refine ⟨by omega,?_⟩
   refine call (Qt p (q++[47])) ?_
   push_cast -dsimp
   exact ⟨[],rfl,rfl,by push_cast -dsimp [zb,za,CLe,ze];simp[UU,h1,h2]⟩
end
section
open Go.RowKit
theorem XV (l:List UInt8) (c:UInt8):Fun Tryz.prog G0 71 [.str l,.sc (.int .u8 (c.toNat:Int))] (.sc (.int .i64 (Lib.indexByte l c))) 0:=by
 refine Fun.wrap (by kernel_rfl) fun R vs h=>?_
 obtain ⟨v1,us1,rfl,h1,h⟩:=zd.1 h
 obtain ⟨v2,us2,rfl,h2,h⟩:=zd.1 h
 rw[zg]at h
 subst h
 rw[zB]at h1
 rw[zi]at h2
 subst h1 h2
 refine (Tryz.strings_IndexByte ⟨l.toArray⟩ (c.toNat:Int) R.w).mono ?_
 rintro e w' ⟨rfl,rfl⟩
 exact ⟨_,rfl,Below.refl _ _,fun R' _=>zi.2 (by simp)⟩
theorem Yj (r:Int):Fun Tryz.prog G0 243 [.sc (.int .i32 r)] (.sc (.bool (Lib.validRune r))) 0:=by
 refine Fun.wrap (by kernel_rfl) fun R vs h=>?_
 obtain ⟨v1,us1,rfl,h1,h⟩:=zd.1 h
 rw[zg]at h
 subst h
 rw[zi]at h1
 subst h1
 refine (Tryz.utf8_ValidRune r R.w).mono ?_
 rintro e w' ⟨rfl,rfl⟩
 exact ⟨_,rfl,Below.refl _ _,fun R' _=>zi.2 rfl⟩
theorem zfV (r:Int) (hv:Utf8.valid r=true) (h128:128<=r):∃ l c,(Utf8.encode r).data.toList=l++[c]/\1<=l.length/\l.length<=3/\128<=c.toNat:=by
 obtain ⟨h1,h2,h3⟩:=encode_facts r hv h128
 generalize Utf8.encode r=bs at h1 h2 h3 ⊢
 have hs:bs.data.toList.length=bs.size:=Array.length_toList
 have h4:=h3 (by omega)
 have h5:bs.data.toList[bs.size-1]?=some (bs[bs.size-1]'(by omega)):=Lib.data_getElem? bs _ (by omega)
 generalize bs[bs.size-1]'(by omega)=c at h4 h5
 generalize bs.data.toList=l at hs h5
 refine ⟨l.take (bs.size-1),c,?_,by simp;omega,by simp;omega,h4⟩
 have:=List.take_append_drop (bs.size-1) l
 have hd:l.drop (bs.size-1) = [c]:=by
  have hlt:bs.size-1<l.length:=by omega
  rw[List.drop_eq_getElem_cons hlt]
  rw[List.getElem?_eq_getElem hlt]at h5
  cases h5
  rw[List.drop_eq_nil_of_le (by omega)]
 rw[hd]at this
 exact this.symm
theorem NF (r:Int) (h1:128<=r) (hv:Utf8.valid r=true) (h2:r≠65533):Fun Tryz.prog G0 204 [.str [47,0],.sc (.int .i32 r)] (.sc (.int .i64 (-1))) 0:=by
 have hlv:Lib.validRune r=true:=by
  have:=validRune_eq r
  rw[hv]at this
  exact this.symm
 obtain ⟨l,c,he,hl1,hl3,hc⟩:=zfV r hv h1
 have ha:0<=r:=by omega
 have hb:¬r<128:=by omega
 have hc0:¬((0:Int)=(c.toNat:Int)):=by omega
 have hix:=XV [] c
 match l,hl1,hl3 with
 | [x],_,_ =>
  refine fon Tryz.func204 ?_;dsimp only[Tryz.f204]
  push_cast -dsimp [ha,hb,h2]
  refine call (Yj r) ?_
  push_cast -dsimp [hlv,he]
  refine loop (fun k:Nat=>⟨[(0,.str [47,0]),(1,.sc (.int .i32 r)),(7,.str [x,c]),(8,.sc (.int .i64 1)),(9,.sc (.int .i64 1)),(10,.sc (.int .i64 0))],[],0,0⟩) (fun k=>True) (fun k=>0) 0 trivial ?_ ?_
  ·exact wk
  ·intro k _
   push_cast -dsimp [hc0]
   refine vY hix ?_
   have hi0:Lib.indexByte [] c = -1:=rfl
   push_cast -dsimp [hi0]
   exact dn
 | [x,y],_,_ =>
  refine fon Tryz.func204 ?_;dsimp only[Tryz.f204]
  push_cast -dsimp [ha,hb,h2]
  refine call (Yj r) ?_
  push_cast -dsimp [hlv,he]
  refine loop (fun k:Nat=>⟨[(0,.str [47,0]),(9,.sc (.int .i64 2))],[],0,0⟩) (fun k=>True) (fun k=>0) 0 trivial ?_ ?_
  ·exact wk
  ·intro k _
   push_cast -dsimp
   exact dn
 | [x,y,z],_,_ =>
  refine fon Tryz.func204 ?_;dsimp only[Tryz.f204]
  push_cast -dsimp [ha,hb,h2]
  refine call (Yj r) ?_
  push_cast -dsimp [hlv,he]
  refine loop (fun k:Nat=>⟨[(0,.str [47,0]),(9,.sc (.int .i64 3))],[],0,0⟩) (fun k=>True) (fun k=>0) 0 trivial ?_ ?_
  ·exact wk
  ·intro k _
   push_cast -dsimp
   exact dn
theorem Hf (w:World):Calls Tryz.prog 204 #[.string ⟨#[47,0]⟩,.int .i32 65533] w fun e w'=>e = .returned (.int .i64 (-1))/\Below w.heap.size w w':=by
 go_enter Tryz.func204,Tryz.ntmps204
 go_wp2
 go_loopg [5,6] 2 (fun g _ _ wx=>∃ i:Nat,i+g=2/\wx=w.iter ⟨#[47,0]⟩ i)
 case atStart=>exact ⟨0,by omega,rfl⟩
 case round =>
  obtain ⟨i,hig,rfl⟩:=hrel
  cases gk with
  | zero =>
   obtain rfl:i=2:=by omega
   have hnx:=fun ty=>run_next_end (P:=Tryz.prog) w ⟨#[47,0]⟩ 2 ty (by decide)
   go_wp2
   go_ret
   exact ⟨rfl,(Below.refl _ _).alloc (Nat.le_refl _) _⟩
  | succ g =>
   have hi:i<(ByteArray.mk #[47,0]).size:=by show i<2;omega
   have hx128:((ByteArray.mk #[47,0])[i]'hi).toNat<128:=by
    have:i=0∨i=1:=by omega
    rcases this with rfl | rfl
    ·exact (by decide:(47:UInt8).toNat<128)
    ·exact (by decide:(0:UInt8).toNat<128)
   have hnx:=fun ty=>run_next_ascii (P:=Tryz.prog) w ⟨#[47,0]⟩ i ty hi hx128
   have hne:((((ByteArray.mk #[47,0])[i]'hi).toNat:Int)==65533)=false:=by
    rw[beq_eq_false_iff_ne];omega
   go_wp2
   go_roundg g
   case measure=>omega
   case rel=>exact ⟨i+1,by omega,rfl⟩
end
section
open Go.RowKit Go.Shelf
def bad (b:UInt8):Bool:=decide (b=47)||decide (b=0)
theorem Zi (b:UInt8):[47,0].contains b=bad b:=by simp[bad,List.contains_iff_mem,Bool.eq_iff_iff]
theorem MX {P:Program} {W:World} {b:Nat} {s:ByteArray} {pos:Nat} (hb:W.heap[b]?=some (.stringIter s pos)) (h:pos<s.size) (ty:TypeId) :
  (Instr.next (.pointer (some ⟨b,0,none⟩)) true ty).run P W = .ok (.tuple #[.bool true,.int .i64 pos,.int .i32 (Utf8.decode s pos).1]) (W.putObj b (.stringIter s (pos+(Utf8.decode s pos).2))):=by
 simp only[Instr.next,getObj,setObj,Sem.run_bind,Sem.run,hb,Result.andThen,h,if_true]
 simp[goInt,Sem.run,hb,World.putObj]
theorem VO {P:Program} {W:World} {b:Nat} {s:ByteArray} {pos:Nat} (hb:W.heap[b]?=some (.stringIter s pos)) (h:¬pos<s.size) (ty:TypeId) :
  (Instr.next (.pointer (some ⟨b,0,none⟩)) true ty).run P W = .ok (.tuple #[.bool false]) W:=by
 simp[Instr.next,getObj,Sem.run,hb,h]
theorem get!_eq (s:ByteArray) (k:Nat) (hk:k<s.size):s.get! k=s[k]'hk:=by
 simp[ByteArray.get!,getElem!_pos,hk];rfl
theorem zfw {c:Nat} (h:c<55296∨(57344<=c/\c<=1114111)):Utf8.valid (c:Int)=true:=by
 unfold Utf8.valid
 rcases h with h | h
 ·have h1:((c:Int)<55296):=by omega
  simp;omega
 ·simp;omega
theorem NV (s:ByteArray) (i:Nat) (h:i<s.size):(((s[i]'h).toNat<128/\Utf8.decode s i=((s[i]'h).toNat,1))∨(128<=(Utf8.decode s i).1/\Utf8.valid ((Utf8.decode s i).1:Int)=true/\1<=(Utf8.decode s i).2/\i+(Utf8.decode s i).2<=s.size/\∀ j (hj:j<s.size),i<=j->j<i+(Utf8.decode s i).2->128<=(s[j]'hj).toNat)):=by
 by_cases ha:(s[i]'h).toNat<128
 ·exact .inl ⟨ha,decode_ascii s i h ha⟩
 ·refine .inr ?_
  have hb0:¬(s.get! (i+0)).toNat<128:=by rw[Nat.add_zero,get!_eq s i h];exact ha
  have hby:∀ n,(∀ k,k<n->128<=(s.get! (i+k)).toNat)->∀ j (hj:j<s.size),i<=j->j<i+n->128<=(s[j]'hj).toNat:=fun n hn j hj h1 h2=>by
   have:=hn (j-i) (by omega)
   rw[show i+(j-i)=j by omega,get!_eq s j hj]at this
   exact this
  have hone:128<=65533/\Utf8.valid ((65533:Nat):Int)=true/\1<=1/\i+1<=s.size/\∀ j (hj:j<s.size),i<=j->j<i+1->128<=(s[j]'hj).toNat:=
   ⟨by omega,by decide,by omega,by omega,hby 1 fun k hk=>by rw[show k=0 by omega];omega⟩
  unfold Utf8.decode
  simp only[if_neg hb0,Utf8.runeError]
  obtain ⟨b0,hg0⟩:∃ b,(s.get! (i+0)).toNat=b:=⟨_,rfl⟩
  obtain ⟨b1,hg1⟩:∃ b,(s.get! (i+1)).toNat=b:=⟨_,rfl⟩
  obtain ⟨b2,hg2⟩:∃ b,(s.get! (i+2)).toNat=b:=⟨_,rfl⟩
  obtain ⟨b3,hg3⟩:∃ b,(s.get! (i+3)).toNat=b:=⟨_,rfl⟩
  rw[hg0]at hb0
  simp only[hg0,hg1,hg2,hg3]
  have hlt:b0<256:=by rw[←hg0];exact (s.get! (i+0)).toNat_lt
  split
  ·rename_i hc
   simp only[Bool.and_eq_true,beq_iff_eq,decide_eq_true_eq]at hc
   split
   ·rename_i hv
    refine ⟨by show 128<=_;omega,zfw (.inl (by omega)),by show 1<=2;omega,by show i+2<=_;omega,hby 2 fun k hk=>?_⟩
    rcases (show k=0∨k=1 by omega) with rfl | rfl
    ·rw[hg0];omega
    ·rw[hg1];omega
   ·exact hone
  ·split
   ·rename_i hc
    simp only[Bool.and_eq_true,beq_iff_eq,decide_eq_true_eq]at hc
    split
    ·rename_i hv
     simp only[Bool.and_eq_true,decide_eq_true_eq]at hv
     refine ⟨by show 128<=_;omega,hv.2,by show 1<=3;omega,by show i+3<=_;omega,hby 3 fun k hk=>?_⟩
     rcases (show k=0∨k=1∨k=2 by omega) with rfl | rfl | rfl
     ·rw[hg0];omega
     ·rw[hg1];omega
     ·rw[hg2];omega
    ·exact hone
   ·split
    ·rename_i hc
     simp only[Bool.and_eq_true,beq_iff_eq,decide_eq_true_eq]at hc
     split
     ·rename_i hv
      simp only[Bool.and_eq_true,decide_eq_true_eq]at hv
      refine ⟨by show 128<=_;omega,hv.2,by show 1<=4;omega,by show i+4<=_;omega,hby 4 fun k hk=>?_⟩
      rcases (show k=0∨k=1∨k=2∨k=3 by omega) with rfl | rfl | rfl | rfl
      ·rw[hg0];omega
      ·rw[hg1];omega
      ·rw[hg2];omega
      ·rw[hg3];omega
     ·exact hone
    ·exact hone
theorem HA (r:Int) (h1:128<=r) (hv:Utf8.valid r=true) (w:World):Calls Tryz.prog 204 #[.string ⟨#[47,0]⟩,.int .i32 r] w fun e w'=>e = .returned (.int .i64 (-1))/\Below w.heap.size w w':=by
 by_cases h2:r=65533
 ·subst h2;exact Hf w
 ·refine ((NF r h1 hv h2).2 ⟨w,fun _ _=>False,fun _=>False⟩ [.string ⟨#[47,0]⟩,.int .i32 r] (fun g cs h=>by cases h) ?_).mono ?_
  ·exact zd.2 ⟨_,_,rfl,zB.2 rfl,zd.2 ⟨_,_,rfl,zi.2 rfl,zg.2 rfl⟩⟩
  ·rintro e w' ⟨v,R',L',rfl,rfl,hst,hr⟩
   rw[zi]at hr
   exact ⟨by rw[hr],hst.below⟩
theorem zbS (w:World) (s:ByteArray):(w.iter s 0).heap[w.heap.size]?=some (.stringIter s 0):=World.iter_heap w s 0
theorem xL {w W:World} {s:ByteArray} {p:Nat} (hb:Below w.heap.size w W) (hs:W.heap[w.heap.size]?=some (.stringIter s p)) (p':Nat):Below w.heap.size w (W.putObj w.heap.size (.stringIter s p'))/\(W.putObj w.heap.size (.stringIter s p')).heap[w.heap.size]?=some (.stringIter s p'):=
 ⟨⟨hb.os,hb.tape,hb.output,by simpa using hb.size,fun k hk=>(World.putObj_heap_other (by omega)).trans (hb.block k hk)⟩,World.putObj_heap_same (zF hs)⟩
theorem zau {w W W':World} {s:ByteArray} {p:Nat} (hb:Below w.heap.size w W) (hs:W.heap[w.heap.size]?=some (.stringIter s p)) (h:Below W.heap.size W W'):Below w.heap.size w W'/\W'.heap[w.heap.size]?=some (.stringIter s p):=
 ⟨hb.trans (h.mono hb.size),(h.block _ (zF hs)).trans hs⟩
theorem Ud (s:ByteArray) (w:World) (h8:s.size<=8):Calls Tryz.prog 167 #[.string s,.string ⟨#[47,0]⟩] w fun e w'=>e = .returned (.int .i64 (Lib.indexAny s.data.toList [47,0]))/\Below w.heap.size w w':=by
 have h8z:decide ((8:Int)<(s.size:Int))=false:=decide_eq_false (by omega)
 have hsi:=zbS w s
 have hbi:Below w.heap.size w (w.iter s 0):=(Below.refl _ _).alloc (Nat.le_refl _) _
 have HI:Aside ((w.iter s 0).heap[w.heap.size]?=some (.stringIter s 0)/\Below w.heap.size w (w.iter s 0)):=⟨hsi,hbi⟩
 clear hsi hbi
 go_enter Tryz.func167,Tryz.ntmps167
 go_wp2_with (go_at_call 205;refine (Tryz.strings_shouldUseASCIISet _ _).mono ?_;rintro e w' ⟨rfl,hw⟩;rw[hw,h8z])
 go_loopg [9,10] s.size (fun g _ _ wx=>∃ i:Nat,i+g=s.size/\wx.heap[w.heap.size]?=some (.stringIter s i)/\Below w.heap.size w wx/\Lib.NoAny s.data.toList [47,0] i)
 case atStart=>exact ⟨0,by omega,HI.out.1,HI.out.2,Lib.NoAny.zero _ _⟩
 case round =>
  obtain ⟨i,hig,hs,hbl,hno⟩:=hrel
  have HN:Aside (Lib.NoAny s.data.toList [47,0] i/\wr.heap[w.heap.size]?=some (.stringIter s i)/\Below w.heap.size w wr):=⟨hno,hs,hbl⟩
  cases gk with
  | zero =>
   obtain rfl:i=s.size:=by omega
   have hnx:=fun ty=>VO (P:=Tryz.prog) hs (by omega) ty
   clear hno hs hbl
   go_wp2
   go_ret
   exact ⟨by rw[Lib.indexAny_none (by rw[←Lib.size_eq];exact HN.out.1)];rfl,HN.out.2.2⟩
  | succ g =>
   have hi:i<s.size:=by omega
   have hnx:=fun ty=>MX (P:=Tryz.prog) hs hi ty
   have hpi:=xL hbl hs (i+(Utf8.decode s i).2)
   have HP:Aside (Below w.heap.size w (wr.putObj w.heap.size (.stringIter s (i+(Utf8.decode s i).2)))/\(wr.putObj w.heap.size (.stringIter s (i+(Utf8.decode s i).2))).heap[w.heap.size]?=some (.stringIter s (i+(Utf8.decode s i).2))):=hpi
   clear hno hs hbl hpi
   obtain ⟨x,hx⟩:∃ x:UInt8,s[i]'hi=x:=⟨_,rfl⟩
   have hxl:s.data.toList[i]?=some x:=by rw[←hx];exact Lib.data_getElem? s i hi
   rcases NV s i hi with ⟨hd1,hd2⟩ | ⟨hd1,hd2,hd3,hd4,hd5⟩
   ·rw[hx]at hd1 hd2
    rw[hd2]at hnx HP
    have Hx:Aside (s.data.toList[i]?=some x):=hxl
    clear hxl hx hd2
    have hcon:=Lib.contains_iff_indexByte [47,0] x
    have hback:((x.toNat:Int)).toNat.toUInt8=x:=by simp
    cases hin:([47,0]:List UInt8).contains x
    ·rw[hin]at hcon
     have hlt:¬((0:Int)<=Lib.indexByte [47,0] x):=of_decide_eq_false hcon.symm
     clear hcon
     go_wp2_with (go_at_call 204;refine (Tryz.strings_IndexRune_ascii _ _ _ (by omega) (by omega)).mono ?_;rintro e w' ⟨rfl,hw⟩;rw[hw,hback])
     go_roundg g
     case measure=>omega
     case rel=>exact ⟨i+1,by omega,HP.out.2,HP.out.1,HN.out.1.succ Hx.out hin⟩
    ·rw[hin]at hcon
     have hge:(0:Int)<=Lib.indexByte [47,0] x:=of_decide_eq_true hcon.symm
     clear hcon
     go_wp2_with (go_at_call 204;refine (Tryz.strings_IndexRune_ascii _ _ _ (by omega) (by omega)).mono ?_;rintro e w' ⟨rfl,hw⟩;rw[hw,hback])
     go_ret
     exact ⟨by rw[Lib.indexAny_hit HN.out.1 Hx.out hin];rfl,HP.out.1⟩
   ·obtain ⟨c,hc⟩:∃ c,(Utf8.decode s i).1=c:=⟨_,rfl⟩
    obtain ⟨n,hn⟩:∃ n,(Utf8.decode s i).2=n:=⟨_,rfl⟩
    rw[hc,hn]at hnx
    rw[hn]at HP hd3 hd4 hd5
    rw[hc]at hd1 hd2
    have H5:Aside (∀ j (hj:j<s.size),i<=j->j<i+n->128<=(s[j]'hj).toNat):=hd5
    have H2:Aside (Utf8.valid (c:Int)=true):=hd2
    clear hd5 hd2 hxl hx hc hn
    go_wp2_with (go_at_call 204;refine (HA _ (by omega) H2.out _).mono ?_;rintro e w' ⟨rfl,hw⟩;have HW:=zau HP.out.1 HP.out.2 hw)
    go_roundg (s.size-(i+n))
    case measure=>omega
    case rel =>
     refine ⟨i+n,by omega,HW.2,HW.1,fun j b hj hb=>?_⟩
     rcases Nat.lt_or_ge j i with g | g
     ·exact HN.out.1 j b g hb
     ·have hjs:j<s.size:=by omega
      have:=H5.out j hjs g hj
      have hb2:=Lib.data_getElem? s j hjs
      rw[hb]at hb2
      have hb3:b=s[j]'hjs:=Option.some.inj hb2
      rw[Zi,hb3]
      have h47:s[j]'hjs≠47:=fun e=>by rw[e]at this;revert this;decide
      have h00:s[j]'hjs≠0:=fun e=>by rw[e]at this;revert this;decide
      simp[bad,h47,h00]
end
section
open Go.RowKit Go.Shelf
theorem UI (w:World):(zeroValue 234).run Tryz.prog w = .ok (.agg (Array.replicate 256 (.bool false))) w:=by kernel_rfl
theorem Zt:∀ l:List UInt8,decide (0<=Lib.indexAny l [47,0])=l.any bad
 | []=>rfl
 | b :: l=>by
  have ih:=Zt l
  have hg:=Lib.indexAny_ge [47,0] l
  unfold Lib.indexAny
  rw[Zi,List.any_cons]
  cases hb:bad b with
  | true=>simp
  | false =>
   simp only[Bool.false_eq_true,if_false,Bool.false_or,←ih]
   split
   ·rename_i h
    have:=beq_iff_eq.1 h
    first | rw[this];done | (rw[this];rfl)
   ·rename_i h
    have h':Lib.indexAny l [47,0]≠-1:=by simpa using h
    rw[decide_eq_decide];omega
theorem HU (l:List UInt8) (hl:l.length<=1000000):Fun Tryz.prog G0 167 [.str l,.str [47,0]] (.sc (.int .i64 (Lib.indexAny l [47,0]))) 0:=by
 refine Fun.wrap (by kernel_rfl) fun R vs h=>?_
 obtain ⟨v1,us1,rfl,h1,h⟩:=zd.1 h
 obtain ⟨v2,us2,rfl,h2,h⟩:=zd.1 h
 rw[zg]at h
 subst h
 rw[zB]at h1 h2
 subst h1 h2
 have hsz:(ByteArray.mk l.toArray).size=l.length:=by simp[ByteArray.size]
 by_cases h8:l.length<=8
 ·refine (Ud ⟨l.toArray⟩ R.w (by omega)).mono ?_
  rintro e w' ⟨rfl,hb⟩
  exact ⟨_,rfl,hb,fun R' _=>zi.2 (by simp)⟩
 ·refine (Tryz.strings_IndexAny_long UI ⟨l.toArray⟩ ⟨#[47,0]⟩ R.w (by decide) (by omega) (by omega) (by decide) ?_).mono ?_
  ·intro j b hb
   have:b=47∨b=0:=by
    have:=List.mem_of_getElem? hb
    simpa using this
   rcases this with rfl | rfl<;>decide
  ·rintro e w' ⟨rfl,rfl⟩
   exact ⟨_,rfl,((Below.refl _ _).alloc (Nat.le_refl _) _).alloc (by simp) _,fun R' _=>zi.2 (by simp)⟩
theorem Jk (l:List UInt8) (hl:l.length<=1000000):Fun Tryz.prog G0 120 [.str l,.str [47,0]] (qp (l.any bad)) 0:=by
 have h:=Zt l
 refine fon Tryz.func120 ?_;dsimp only[Tryz.f120]
 push_cast -dsimp
 refine call (HU l hl) ?_
 push_cast -dsimp
 exact dn (by push_cast -dsimp [zb,za,CLe,ze,h])
def may (l:List UInt8):Bool:=!decide (l = [])&&decide (l.length<=255)&&!l.any bad&&!decide (l = [46])&&!decide (l = [46,46])
theorem MW (l:List UInt8) (hl:l.length<=1000000):Fun Tryz.prog G0 70 [.str l] (qp (may l)) 0:=by
 by_cases h1:l = []
 ·refine fon Tryz.func70 ?_;dsimp only[Tryz.f70]
  push_cast -dsimp [h1]
  exact ⟨[],rfl,rfl,by push_cast -dsimp [zb,za,CLe,ze];simp[may]⟩
 ·by_cases h2:l.length<=255
  ·have h2':(l.length:Int)<=255:=by omega
   cases h3:l.any bad with
   | true =>
    refine fon Tryz.func70 ?_;dsimp only[Tryz.f70]
    push_cast -dsimp [h1,h2']
    refine call (Jk l hl) ?_
    push_cast -dsimp [h3]
    exact ⟨[],rfl,rfl,by push_cast -dsimp [zb,za,CLe,ze];simp[may,h3]⟩
   | false =>
    by_cases h4:l = [46]
    ·subst h4
     refine fon Tryz.func70 ?_;dsimp only[Tryz.f70]
     push_cast -dsimp [h2']
     refine call (Jk _ hl) ?_
     push_cast -dsimp [h3]
     exact ⟨[],rfl,rfl,by push_cast -dsimp [zb,za,CLe,ze];simp[may]⟩
    ·refine fon Tryz.func70 ?_;dsimp only[Tryz.f70]
     push_cast -dsimp [h1,h2']
     refine call (Jk l hl) ?_
     push_cast -dsimp [h3,h4]
     exact ⟨[],rfl,rfl,by push_cast -dsimp [zb,za,CLe,ze];simp[may,h1,h2,h3,h4]⟩
  ·have h2':¬(l.length:Int)<=255:=by omega
   refine fon Tryz.func70 ?_;dsimp only[Tryz.f70]
   push_cast -dsimp [h1,h2']
   exact ⟨[],rfl,rfl,by push_cast -dsimp [zb,za,CLe,ze];simp[may,h2]⟩
theorem vX (l:List UInt8) (hl:l.length<=1000000):Fun Tryz.prog G0 254 [.str l] (qp (!may l)) 0:=by
 refine fon Tryz.func254 ?_;dsimp only[Tryz.f254]
 push_cast -dsimp
 refine call (MW l hl) ?_
 push_cast -dsimp
 exact dn
end
section
open Go.RowKit
def zcj (xs:List (List UInt8)):Int:=match xs.findIdx? (fun x=>!may x) with | some i=>(i:Int) | none=>-1
theorem zhf (xs:List (List UInt8)):decide (0<=zcj xs) = !xs.all may:=by
 unfold zcj
 cases h:xs.findIdx? (fun x=>!may x) with
 | none =>
  have:=List.findIdx?_eq_none_iff.1 h
  have h2:xs.all may=true:=List.all_eq_true.2 fun x hx=>by simpa using this x hx
  rw[h2];rfl
 | some i =>
  have h1:=List.findIdx?_eq_some_iff_getElem.1 h
  obtain ⟨hi,hp,_⟩:=h1
  have h2:xs.all may=false:=List.all_eq_false.2 ⟨xs[i],List.getElem_mem hi,by simpa using hp⟩
  rw[h2];simp
theorem kc (xs:List (List UInt8)) (hx:xs.length<=1000001) (hl:∀ x∈xs,x.length<=1000000):Fun Tryz.prog G0 276 [.sl 1 (zC xs),.clo (.func 254) [] []] (.sc (.int .i64 (zcj xs))) 0:=by
 refine fon Tryz.func276 ?_;dsimp only[Tryz.f276]
 push_cast -dsimp
 refine loop (fun k:Nat=>⟨[(0,.sl 1 (zC xs)),(1,.clo (.func 254) [] []),(7,.sc (.int .i64 (xs.length:Int))),(8,.sc (.int .i64 k))],[],0,0⟩) (fun k=>k<=xs.length/\∀ j (hj:j<xs.length),j<k->may (xs[j]'hj)=true) (fun k=>xs.length-k) 0 ⟨Nat.zero_le _,fun j _ hj=>by omega⟩ ?_ ?_
 ·exact wk
 ·intro k hk
  have hk1:=hk.1
  have hk2:=hk.2
  by_cases h:k<xs.length
  ·have hg:(zC xs)[k]?=some [.str (xs[k]'h)]:=by rw[strs_get?,List.getElem?_eq_getElem h];rfl
   push_cast -dsimp [h,hg]
   refine ⟨by omega,?_⟩
   refine call (vX (xs[k]'h) (hl _ (List.getElem_mem h))) ?_
   push_cast -dsimp
   cases hm:may (xs[k]'h) with
   | true =>
    push_cast -dsimp
    refine ⟨by omega,k+1,⟨by omega,fun j hj hjk=>?_⟩,by omega,wk⟩
    rcases Nat.lt_or_ge j k with g | g
    ·exact hk2 j hj g
    ·have:j=k:=by omega
     subst this;exact hm
   | false =>
    push_cast -dsimp
    refine ⟨[],rfl,rfl,?_⟩
    push_cast -dsimp [zb,za,CLe,ze]
    have:xs.findIdx? (fun x=>!may x)=some k:=List.findIdx?_eq_some_iff_getElem.2 ⟨h,by simp[hm],fun j hj=>by simp[hk2 j (by omega) hj]⟩
    simp[zcj,this]
  ·push_cast -dsimp [h]
   refine ⟨[],rfl,rfl,?_⟩
   push_cast -dsimp [zb,za,CLe,ze]
   have:xs.findIdx? (fun x=>!may x)=none:=List.findIdx?_eq_none_iff.2 fun x hx=>by
    obtain ⟨j,hj,rfl⟩:=List.getElem_of_mem hx
    simp[hk2 j hj (by omega)]
   simp[zcj,this]
theorem Zz (xs:List (List UInt8)) (hx:xs.length<=1000001) (hl:∀ x∈xs,x.length<=1000000):Fun Tryz.prog G0 253 [.sl 1 (zC xs),.clo (.func 254) [] []] (qp (!xs.all may)) 0:=by
 have h:=zhf xs
 refine fon Tryz.func253 ?_;dsimp only[Tryz.f253]
 push_cast -dsimp
 refine call (kc xs hx hl) ?_
 push_cast -dsimp
 exact dn (by push_cast -dsimp [zb,za,CLe,ze,h])
def Js (p:List UInt8):Bool:=decide (ql (zk p)=p)&&(zk p).all may
def Yv (p:List UInt8):C:=.tup [.own 0 9 1 (zC (if Js p then zk p else [])),qp (Js p)]
theorem JV (x y:List UInt8) (r:List (List UInt8)) (sep:List UInt8):Lib.join (x :: y :: r) sep=x++sep++Lib.join (y :: r) sep:=by
 simp[Lib.join,List.intercalate,List.intersperse]
theorem Xf:∀ xs:List (List UInt8),xs≠[]->(Lib.join xs [47]).length+1=(xs.map fun x=>x.length+1).sum
 | [],h=>absurd rfl h
 | [x],_=>by simp[Lib.join]
 | x :: y :: r,_=>by
  have ih:=Xf (y :: r) (by simp)
  rw[JV]
  simp only[List.length_append,List.length_cons,List.length_nil,List.map_cons,List.sum_cons]at ih ⊢
  omega
theorem MP:∀ l:List UInt8,((jo l).map fun x=>x.length+1).sum=l.length+1
 | []=>rfl
 | b :: l=>by
  have ih:=MP l
  unfold jo
  split
  ·simp only[List.map_cons,List.sum_cons,List.length_nil,List.length_cons,ih];omega
  ·cases h:jo l with
   | nil=>exact absurd h (Nj l)
   | cons x r =>
    rw[h]at ih
    simp only[List.map_cons,List.sum_cons,List.length_cons]at ih ⊢
    omega
theorem QH (f:List UInt8->Bool):∀ xs:List (List UInt8),((xs.filter f).map fun x=>x.length+1).sum<=(xs.map fun x=>x.length+1).sum
 | []=>by simp
 | x :: r=>by
  have ih:=QH f r
  rw[List.filter_cons]
  split
  ·simp only[List.map_cons,List.sum_cons];omega
  ·simp only[List.map_cons,List.sum_cons];omega
theorem zcE:∀ (xs:List (List UInt8)) (x:List UInt8),x∈xs->x.length+1<=(xs.map fun x=>x.length+1).sum
 | y :: r,x,h=>by
  simp only[List.map_cons,List.sum_cons]
  rcases List.mem_cons.1 h with rfl | h
  ·omega
  ·have:=zcE r x h;omega
theorem Qi (l:List UInt8):(Lib.join (zk l) [47]).length<=l.length/\∀ x∈zk l,x.length<=l.length:=by
 have h1:=MP l
 have h2:=QH (fun x=>!decide (x = [])) (jo l)
 rw[←jL]at h2
 refine ⟨?_,fun x hx=>?_⟩
 ·by_cases h:zk l = []
  ·rw[h];simp[Lib.join]
  ·have:=Xf (zk l) h;omega
 ·have:=zcE (zk l) x hx;omega
theorem NG (p:List UInt8) (hp:p.length<=1000000):Fun Tryz.prog G0 223 [.str p] (Yv p) 1:=by
 have hz:=qw p
 have hj:=Qi p
 by_cases h1:ql (zk p)=p
 ·have h1':(p=ql (zk p)):=h1.symm
  refine fon Tryz.func223 ?_;dsimp only[Tryz.f223]
  push_cast -dsimp
  refine call (Xc p) ?_
  push_cast -dsimp
  refine call (Y0 p hp) ?_
  push_cast -dsimp
  refine call (Y6 (zk p) (by omega) (by omega)) ?_
  push_cast -dsimp [h1]
  refine call (Zz (zk p) (by omega) fun x hx=>by have:=hj.2 x hx;omega) ?_
  push_cast -dsimp
  cases hm:(zk p).all may with
  | true =>
   push_cast -dsimp
   exact ⟨[.inl 0],rfl,rfl,by simp only[Yv,Js,h1,hm];push_cast -dsimp [zb,za,CLe,ze]<;>simp⟩
  | false =>
   push_cast -dsimp
   exact ⟨[.inr (9,1)],rfl,rfl,by simp only[Yv,Js,h1,hm];push_cast -dsimp [zb,za,CLe,ze]<;>simp⟩
 ·refine fon Tryz.func223 ?_;dsimp only[Tryz.f223]
  push_cast -dsimp
  refine call (Xc p) ?_
  push_cast -dsimp
  refine call (Y0 p hp) ?_
  push_cast -dsimp
  refine call (Y6 (zk p) (by omega) (by omega)) ?_
  push_cast -dsimp [h1]
  exact ⟨[.inr (9,1)],rfl,rfl,by simp only[Yv,Js,h1];push_cast -dsimp [zb,za,CLe,ze]<;>simp⟩
end
section
open Go.RowKit
theorem H4 (xs:List (List UInt8)) (k:Nat) (x:List UInt8) (h:xs[k]?=some x):Lib.join (xs.take (k+1)) [47]=(if k=0 then x else Lib.join (xs.take k) [47]++[47]++x):=by
 cases xs with
 | nil=>simp at h
 | cons y r =>
  cases k with
  | zero=>simp at h;subst h;simp[Lib.join_one]
  | succ k =>
   simp only[List.take_succ_cons,Nat.succ_ne_zero,if_false]
   rw[Lib.join_cons,Lib.join_cons,Lib.joinTail_take_succ _ _ _ x (by simpa using h)]
   simp[List.append_assoc]
theorem zje (xs:List (List UInt8)) (k:Nat):(Lib.join (xs.take k) [47]).length<=(Lib.join xs [47]).length:=by
 by_cases h:xs.take k = []
 ·rw[h];simp[Lib.join]
 ·have h1:=Xf (xs.take k) h
  have hx:xs≠[]:=fun e=>h (by rw[e];simp)
  have h2:=Xf xs hx
  have h3:((xs.take k).map fun x=>x.length+1).sum<=(xs.map fun x=>x.length+1).sum:=by
   conv=>rhs;rw[←List.take_append_drop k xs,List.map_append,List.sum_append]
   omega
  omega
theorem uO (xs:List (List UInt8)) (k:Nat) (x:List UInt8) (h:xs[k]?=some x):(if xs.take (k+1) = [] then [] else ql (xs.take (k+1)))=(if xs.take k = [] then [] else ql (xs.take k))++[47]++x:=by
 have hk:k<xs.length:=(List.getElem?_eq_some_iff.1 h).1
 have h1:xs.take (k+1)≠[]:=fun e=>by have:=congrArg List.length e;rw[List.length_take]at this;simp only[List.length_nil]at this;omega
 rw[if_neg h1]
 unfold ql
 rw[if_neg h1,H4 xs k x h]
 by_cases hk0:k=0
 ·subst hk0;simp
 ·have h2:xs.take k≠[]:=fun e=>by have:=congrArg List.length e;rw[List.length_take]at this;simp only[List.length_nil]at this;omega
  simp[h2,hk0]
def jst (xs:List (List UInt8)) (k:Nat):List UInt8:=if xs.take k = [] then [] else ql (xs.take k)
theorem zco (xs:List (List UInt8)) (k:Nat):(jst xs k).length<=(Lib.join xs [47]).length+1:=by
 unfold jst
 split
 ·simp
 ·rename_i h
  have:=zje xs k
  unfold ql
  rw[if_neg h]
  simp;omega
theorem Ma (xs:List (List UInt8)) (hx:xs.length<=2000001) (hl:(Lib.join xs [47]).length<=100000000):Fun Tryz.prog G0 64 [.sl 1 (zC xs)] (.str (ql xs)) 0:=by
 by_cases h0:xs = []
 ·subst h0
  refine fon Tryz.func64 ?_;dsimp only[Tryz.f64]
  push_cast -dsimp
  exact ⟨[],rfl,rfl,by push_cast -dsimp [zb,za,CLe,ze]<;>simp[ql]⟩
 ·have h0':¬((xs.length:Int)=0):=by have:=List.length_pos_iff.2 h0;omega
  refine fon Tryz.func64 ?_;dsimp only[Tryz.f64]
  push_cast -dsimp [h0']
  refine loop (fun k:Nat=>⟨[(0,.sl 1 (zC xs)),(3,.str (jst xs k)),(4,.sc (.int .i64 k))],[],0,0⟩) (fun k=>k<=xs.length) (fun k=>xs.length-k) 0 (Nat.zero_le _) ?_ ?_
  ·exact jW.mk [] rfl rfl (Nat.zero_le _) rfl (by push_cast -dsimp [zb,za,CLe,ze]<;>simp[jst]) (by push_cast -dsimp [zb,za,CLe,ze])
  ·intro k hk
   by_cases h:k<xs.length
   ·have hg:=Vy xs k h
    have hst:jst xs (k+1)=jst xs k++[47]++xs[k]'h:=uO xs k (xs[k]'h) (List.getElem?_eq_getElem h)
    have hjk:=zco xs k
    have hjl:=zco xs (k+1)
    rw[hst]at hjl
    simp only[List.length_append,List.length_cons,List.length_nil]at hjl
    push_cast -dsimp [h,hg]
    repeat refine an ?_
    refine ⟨k+1,by omega,by omega,jW.mk [] rfl rfl (Nat.zero_le _) rfl ?_ (by push_cast -dsimp [zb,za,CLe,ze])⟩
    push_cast -dsimp [zb,za,CLe,ze]
    simp[hst]
   ·have hkl:k=xs.length:=by omega
    push_cast -dsimp [h]
    exact ⟨[],rfl,rfl,by push_cast -dsimp [zb,za,CLe,ze]<;>simp[jst,hkl,h0]⟩
theorem UP (l:List UInt8) (hl:l.length<=2000000):Fun Tryz.prog G0 63 [.str l] (qp (may l)) 0:=by
 refine fon Tryz.func63 ?_;dsimp only[Tryz.f63]
 push_cast -dsimp
 refine loop (fun k:Nat=>⟨[(0,.str l),(3,.sc (.int .i64 k))],[],0,0⟩) (fun k=>k<=l.length/\∀ j (hj:j<l.length),j<k->bad (l[j]'hj)=false) (fun k=>l.length-k) 0 ⟨Nat.zero_le _,fun j _ hj=>by omega⟩ ?_ ?_
 ·exact wk
 ·intro k hk
  have hk1:=hk.1
  have hk2:=hk.2
  by_cases h:k<l.length
  ·have hb:l[k]?=some (l[k]'h):=List.getElem?_eq_getElem h
   have hbad:bad (l[k]'h)=true->may l=false:=fun hb=>by
    have:l.any bad=true:=List.any_eq_true.2 ⟨l[k]'h,List.getElem_mem h,hb⟩
    simp[may,this]
   by_cases h47:l[k]'h=47
   ·have h1:(((l[k]'h).toNat:Int)=47):=by rw[h47];rfl
    push_cast -dsimp [h,hb,h1]
    refine ⟨by omega,[],rfl,rfl,?_⟩
    push_cast -dsimp [zb,za,CLe,ze]
    rw[hbad (by simp[bad,h47])]
   ·have h1:¬(((l[k]'h).toNat:Int)=47):=zkf h47
    by_cases h00:l[k]'h=0
    ·have h2:(((l[k]'h).toNat:Int)=0):=by rw[h00];rfl
     push_cast -dsimp [h,hb,h1,h2]
     refine ⟨by omega,by omega,[],rfl,rfl,?_⟩
     push_cast -dsimp [zb,za,CLe,ze]
     rw[hbad (by simp[bad,h00])]
    ·have h2:¬(((l[k]'h).toNat:Int)=0):=zkf h00
     push_cast -dsimp [h,hb,h1,h2]
     repeat refine an ?_
     refine ⟨k+1,⟨by omega,fun j hj hjk=>?_⟩,by omega,wk⟩
     rcases Nat.lt_or_ge j k with g | g
     ·exact hk2 j hj g
     ·have:j=k:=by omega
      subst this
      simp[bad,h47,h00]
  ·have hany:l.any bad=false:=List.any_eq_false.2 fun x hx=>by
    obtain ⟨j,hj,rfl⟩:=List.getElem_of_mem hx
    simp[hk2 j hj (by omega)]
   obtain rfl:k=l.length:=by omega
   by_cases h0:l = []
   ·subst h0
    push_cast -dsimp
    exact ⟨[],rfl,rfl,by push_cast -dsimp [zb,za,CLe,ze]<;>simp[may]⟩
   ·have h1:(1:Int)<=(l.length:Int):=by have:=List.length_pos_iff.2 h0;omega
    by_cases h2:(l.length:Int)<=255
    ·have h2':l.length<=255:=by omega
     by_cases h4:l = [46]
     ·subst h4
      push_cast -dsimp
      exact ⟨[],rfl,rfl,by push_cast -dsimp [zb,za,CLe,ze]<;>simp[may]⟩
     ·by_cases h5:l = [46,46]
      ·subst h5
       push_cast -dsimp [h4]
       exact ⟨[],rfl,rfl,by push_cast -dsimp [zb,za,CLe,ze]<;>simp[may]⟩
      ·push_cast -dsimp [h,h1,h2,h4,h5]
       exact ⟨[],rfl,rfl,by push_cast -dsimp [zb,za,CLe,ze]<;>simp[may,h0,h2',hany,h4,h5]⟩
    ·have h2':¬l.length<=255:=by omega
     push_cast -dsimp [h,h1,h2]
     exact ⟨[],rfl,rfl,by push_cast -dsimp [zb,za,CLe,ze]<;>simp[may,h2']⟩
theorem GQ (p:List UInt8) (hp:p.length<=2000000):Fun Tryz.prog G0 27 [.str p] (Yv p) 1:=by
 have hn:=zdb p (by omega)
 have hs:=qw p
 have hj:=Qi p
 refine fon Tryz.func27 ?_;dsimp only[Tryz.f27]
 push_cast -dsimp
 refine call hn ?_
 push_cast -dsimp
 refine loop (fun k:Nat=>⟨[(0,.str p),(4,.own 0 9 1 (zC (zk p))),(5,.sc (.int .i64 k))],[],1,0⟩) (fun k=>k<=(zk p).length/\∀ j (hj:j<(zk p).length),j<k->may ((zk p)[j]'hj)=true) (fun k=>(zk p).length-k) 0 ⟨Nat.zero_le _,fun j _ hj=>by omega⟩ ?_ ?_
 ·exact wks [.inl 0]
 ·intro k hk
  have hk1:=hk.1
  have hk2:=hk.2
  by_cases h:k<(zk p).length
  ·have hg:=Vy (zk p) k h
   have hlen:=hj.2 ((zk p)[k]'h) (List.getElem_mem h)
   push_cast -dsimp [h,hg]
   refine ⟨by omega,?_⟩
   refine call (UP ((zk p)[k]'h) (by omega)) ?_
   push_cast -dsimp
   cases hm:may ((zk p)[k]'h) with
   | true =>
    push_cast -dsimp
    repeat refine an ?_
    refine ⟨k+1,⟨by omega,fun j hj hjk=>?_⟩,by omega,wks [.inl 0]⟩
    rcases Nat.lt_or_ge j k with g | g
    ·exact hk2 j hj g
    ·have:j=k:=by omega
     subst this;exact hm
   | false =>
    have hall:(zk p).all may=false:=List.all_eq_false.2 ⟨(zk p)[k]'h,List.getElem_mem h,by simp[hm]⟩
    push_cast -dsimp
    exact ⟨[.inr (9,1)],rfl,rfl,by simp only[Yv,Js,hall];push_cast -dsimp [zb,za,CLe,ze]<;>simp⟩
  ·have hall:(zk p).all may=true:=List.all_eq_true.2 fun x hx=>by
    obtain ⟨j,hj,rfl⟩:=List.getElem_of_mem hx
    exact hk2 j hj (by omega)
   push_cast -dsimp [h]
   refine call (Ma (zk p) (by omega) (by omega)) ?_
   push_cast -dsimp
   by_cases h1:ql (zk p)=p
   ·push_cast -dsimp [h1]
    exact ⟨[.inl 0],rfl,rfl,by simp only[Yv,Js,h1,hall];push_cast -dsimp [zb,za,CLe,ze]<;>simp⟩
   ·push_cast -dsimp [h1]
    exact ⟨[.inr (9,1)],rfl,rfl,by simp only[Yv,Js,h1];push_cast -dsimp [zb,za,CLe,ze]<;>simp⟩
end
section
open Go.RowKit
def VE (x:List UInt8):Prop:=x≠[]/\(47:UInt8)∉x
theorem zbb:∀ a t:List UInt8,jo (a++47 :: t)=jo a++jo t
 | [],t=>by
  have:jo (47 :: t) = [] :: jo t:=rfl
  exact this
 | b :: a,t=>by
  have ih:=zbb a t
  have e1:jo (b :: (a++47 :: t))=if b=47 then [] :: jo (a++47 :: t) else match jo (a++47 :: t) with
   | []=>[[b]]
   | x :: r=>(b :: x) :: r:=rfl
  have e2:jo (b :: a)=if b=47 then [] :: jo a else match jo a with
   | []=>[[b]]
   | x :: r=>(b :: x) :: r:=rfl
  rw[List.cons_append,e1,e2,ih]
  by_cases hb:b=47
  ·simp[hb]
  ·rw[if_neg hb,if_neg hb]
   have hne:=Nj a
   cases hs:jo a with
   | nil=>exact absurd hs hne
   | cons x r=>simp
theorem zbg:∀ x:List UInt8,(47:UInt8)∉x->jo x = [x]
 | [],_=>rfl
 | b :: x,h=>by
  have hb:¬(b=47):=fun e=>h (by rw[e];exact List.mem_cons_self)
  have ih:=zbg x (fun hx=>h (List.mem_cons_of_mem _ hx))
  unfold jo
  rw[if_neg hb,ih]
theorem zdK:∀ (l x:List UInt8),x∈jo l->(47:UInt8)∉x
 | [],x,h=>by simp[jo]at h;subst h;simp
 | b :: l,x,h=>by
  have ih:=zdK l
  unfold jo at h
  by_cases hb:b=47
  ·rw[if_pos hb]at h
   rcases List.mem_cons.1 h with rfl | h
   ·simp
   ·exact ih x h
  ·rw[if_neg hb]at h
   have hne:=Nj l
   cases hs:jo l with
   | nil=>exact absurd hs hne
   | cons y r =>
    rw[hs]at h ih
    simp only at h
    rcases List.mem_cons.1 h with rfl | h
    ·intro hm
     rcases List.mem_cons.1 hm with e | hm
     ·exact hb e.symm
     ·exact ih y List.mem_cons_self hm
    ·exact ih x (List.mem_cons_of_mem _ h)
theorem zdZ {l x:List UInt8} (h:x∈zk l):VE x:=by
 rw[jL,List.mem_filter]at h
 exact ⟨by simpa using h.2,zdK l x h.1⟩
theorem G6 (a t:List UInt8):zk (a++47 :: t)=zk a++zk t:=by
 rw[jL,jL,jL,zbb,List.filter_append]
theorem Nc {x:List UInt8} (h:VE x):zk x = [x]:=by
 rw[jL,zbg x h.2]
 simp[h.1]
theorem N1 (l:List UInt8):zk (47 :: l)=zk l:=G6 [] l
theorem UQ:∀ xs:List (List UInt8),(∀ x∈xs,VE x)->zk (Lib.join xs [47])=xs
 | [],_=>rfl
 | [x],h=>by rw[Lib.join_one];exact Nc (h x List.mem_cons_self)
 | x :: y :: r,h=>by
  have ih:=UQ (y :: r) fun z hz=>h z (List.mem_cons_of_mem _ hz)
  rw[JV,List.append_assoc]
  show zk (x++47 :: Lib.join (y :: r) [47])=_
  rw[G6,ih,Nc (h x List.mem_cons_self)]
  rfl
theorem ZW (xs:List (List UInt8)) (h:∀ x∈xs,VE x):zk (ql xs)=xs:=by
 unfold ql
 by_cases hx:xs = []
 ·rw[if_pos hx,hx];rfl
 ·rw[if_neg hx,N1,UQ xs h]
theorem ZU {x:List UInt8} (h:may x=true):VE x:=by
 simp only[may,Bool.and_eq_true,Bool.not_eq_true',decide_eq_false_iff_not]at h
 refine ⟨h.1.1.1.1,fun hm=>?_⟩
 have:=List.any_eq_false.1 h.1.1.2 47 hm
 exact this (by decide)
end
section
open Go.RowKit Go.ChangeMaps Go.ChangeShapes Go.WideShapes Go.Deep Go.Joins
theorem MJ (R:Env):Yu G0 R:=fun g cs h=>by cases h
theorem Zr:∀ {rows:List (List C)},(∀ r∈rows,∃ c,r = [c]/\∃ l:List UInt8,c = .str l/\l.length<=maxLen)->∃ xs:List (List UInt8),rows=zC xs/\∀ x∈xs,x.length<=maxLen
 | [],_=>⟨[],rfl,fun x h=>by cases h⟩
 | r :: rows,h=>by
  obtain ⟨xs,rfl,hx⟩:=Zr fun r' hr=>h r' (List.mem_cons_of_mem _ hr)
  obtain ⟨c,rfl,l,rfl,hl⟩:=h r List.mem_cons_self
  exact ⟨l :: xs,rfl,fun x hx'=>(List.mem_cons.1 hx').elim (fun e=>e▸hl) (hx x)⟩
section
variable {H:Type} {enc:TypeId×Value->H} {W:World}
theorem zgl:Opn enc Tryz.prog W 30 fun c=>∃ xs:List (List UInt8),c = .sl 1 (zC xs)/\xs.length<=maxLen/\∀ x∈xs,x.length<=maxLen:=fun fuel cs x hx=>by
 obtain ⟨v,c,rfl,⟨rows,rfl,hl,hr⟩,h1,h2⟩:=Opn.slice (W:=W) (enc:=enc) Tryz.underlying30 (show Tryz.prog.cellsOf 9=1 by kernel_rfl) (Nat.zero_lt_one) (qG.one (Opn.str Tryz.underlying9)) fuel cs x hx
 obtain ⟨xs,rfl,hx'⟩:=Zr hr
 exact ⟨v,_,rfl,⟨xs,rfl,by simpa using hl,hx'⟩,h1,h2⟩
end
end
end Go.Proofs.YtaipngaejfndgaaGreatDoor.Vcg
