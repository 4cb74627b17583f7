/- What the proof of MkdirsTrue leans on, part 3: Vcg18 Slc0 Slc1 TabV Tab1 OpenG OpenT Srt0 SlcE Shelf Tab2 TabR Snd1 PathN Ref1 Path1 Path2 Path3 Path4 May1 May2 May3 Path5. No condition beyond what each theorem states. -/
import Derived.Test.YtaipngaejfndgaaGreatDoorMkdirsTrueKb
import Derived.Lib.Overlaps
import Derived.Laws.Externs
import Derived.WalkKit
import Derived.ProofKit
import Derived.Deep.Slices
import Derived.Deep.Fields
import Derived.ChangeSame
import Derived.ChangeOld
import Derived.Lib.SmallJoins
import Derived.Test.YtaipngaejfndgaaGreatDoorRows
import Derived.Lib.Bytealg
import Derived.Shelf.Strings.Builder1
import Derived.Shelf.Strings.Builder2
import Derived.Shelf.Strings.OnBuilder
import Derived.Shelf.Strings.Trim
import Derived.Shelf.Small.Utf8
import Derived.Shelf.Small.Strs
import Derived.Shelf.Small.Wraps
import Derived.Shelf.Strings.BuilderF
import Derived.Shelf.Strings.BuilderK
import Derived.Shelf.Strings.Search1
import Derived.Shelf.Strings.Search2
import Derived.Shelf.Strings.Search3
import Derived.Shelf.LaysM
import Derived.Shelf.Strings.Shaped
import Derived.Shelf.Strings.Prefix
import Derived.Shelf.Unicode.Decode
import Derived.Shelf.Strings.Runes
import Derived.Shelf.Strings.IndexAny
import Derived.Shelf.Strings.AsciiSet
import Derived.Shelf.Strings.IndexAnyAll
import Derived.Shelf.Unicode.DecodeSlow
import Derived.Shelf.Unicode.DecodeAny
import Derived.Shelf.Unicode.DecodeLast
import Derived.Ground.Names2Prog
import Derived.Shelf.Slices.SearchI
import Derived.Test.YtaipngaejfndgaaGreatDoorProg
import Derived.Laws.Runes
import Derived.Laws.RangeString
import Derived.Deep.LoopGhost
import Derived.Lib.QuoteLoop
import Derived.Lib.IndexAny
set_option linter.unusedVariables false
set_option linter.unusedSimpArgs false
set_option linter.unusedSectionVars false
set_option maxRecDepth 100000
set_option maxHeartbeats 4000000
namespace Go.Proofs.YtaipngaejfndgaaGreatDoor.Vcg
section
open Go.RowKit
section
variable {P:Program} {G:zk} {σ σ':St} {N p lg m:Nat} {h:Hd} {yd:Option Yd} {brs:List Bool} {bf:Nat->List Bool} {bx bx':List (List C)} {ops:Array Oper} {c c' d d':C} {t t':TypeId} {K:C->Prop} {K2:C->Nat->Prop} {K3:C->St->Prop} {nx:Nat} {tm:List (Nat×C)} {x y z:Operand} {Q:Exit->St->Prop} {X Y:Prop}
def vW (P:Program) (G:zk) (f:FuncId) (args:List C) (nx:Nat) (K:C->Nat->Prop):Prop:=∃ r n,Fun P G f args r n/\K (r.sh nx) (nx+n)
theorem vW.mk {f:FuncId} {args:List C} {r:C} {n:Nat} (h:Fun P G f args r n) (hK:K2 (r.sh nx) (nx+n)):vW P G f args nx K2:=⟨r,n,h,hK⟩
def znz (P:Program) (G:zk) (f:FuncId) (args fargs:List C) (σ:St) (K:C->St->Prop):Prop:=
 (∃ r n,Fun P G f fargs r n/\K (r.sh σ.nx) ⟨σ.tm,σ.bx,σ.nx+n,σ.lg⟩)∨xL P G f args σ K∨zjm P G f args σ K∨Uh P G f args σ K∨ze2 P f args σ K
def aGd (d:Option Tmp) (tm:List (Nat×C)) (want:Bool) (X Y:Prop):Prop:=match d with
 | some d=>match want with
  | true=>zi6 (ja tm d) Y X Y
  | false=>zi6 (ja tm d) Y Y X
 | none=>False
def zoE (L:Option Lay) (c:C) (bx:List (List C)) (K:C->Prop):Prop:=
 match L with
 | none=>False
 | some L=>match c with
  | .ptr i off=>match bx[i]? with
   | some cs=>JB L (cs.drop off) K
   | none=>False
  | .row cs=>JB L cs K
  | _=>False
def zoN (cs:Option (List C)) (off:Nat) (L:Lay) (K:C->Prop):Prop:=match cs with | some cs=>JB L (cs.drop off) K | none=>False
def zok (L:Option Lay) (op:BinOp) (a b:Bool) (K:C->Prop):Prop:=match L with | some ⟨.bool,_,_,_⟩=>zf6 op a b K | _=>False
def zpB (x:Option C) (K:C->Prop):Prop:=match x with | some c=>K c | none=>False
def xG (L:Option Lay) (c:C) (f:Nat) (K:C->Prop):Prop:=
 match L with
 | some ⟨.struct fs,_,_,_⟩=>match fs[f]?,c with
  | some (off,size,agg),.agg cs =>
   if agg then off+size<=cs.length/\K (.agg ((cs.drop off).take size)) else match cs[off]? with
    | some c=>K c
    | none=>False
  | _,_=>False
 | _=>False
def V0 (f:Option (Nat×Nat×Bool)) (cs:List C) (K:C->Prop):Prop:=
 match f with
 | some (off,size,agg)=>if agg then off+size<=cs.length/\K (.agg ((cs.drop off).take size)) else match cs[off]? with
    | some c=>K c
    | none=>False
 | none=>False
def zrD (L:Option Lay) (c:C) (f:Nat) (K:C->Prop):Prop:=
 match L with
 | some ⟨.struct fs,_,_,_⟩=>match fs[f]?,c with
  | some (off,size,_),.ptr i o=>if size=0 then False else K (.ptr i (o+off))
  | some (off,size,_),.row cs=>if size=0 then False else K (.row (cs.drop off))
  | _,_=>False
 | _=>False
def znB (f:Option (Nat×Nat×Bool)) (c:C) (K:C->Prop):Prop:=
 match f,c with
  | some (off,size,_),.ptr i o=>if size=0 then False else K (.ptr i (o+off))
  | some (off,size,_),.row cs=>if size=0 then False else K (.row (cs.drop off))
  | _,_=>False
def zrw (P:Program) (L:Option Lay) (c:C) (i:C) (K:C->Prop):Prop:=
 match L,i with
 | some ⟨.slice e,_,_,_⟩,.sc (.int _ n)=>match lay P e with
  | some L=>match c with
   | .bs j off k m _=>k=L.size/\0<=n/\n<(m:Int)/\K (.ptr j (off+n.toNat*L.size))
   | c=>match c.rows? L.size with
    | some rows=>match rows[n.toNat]? with
     | some r=>0<=n/\K (.row r)
     | none=>False
    | none=>False
  | none=>False
 | some ⟨.array (m+1) e,_,_,_⟩,.sc (.int _ n)=>match lay P e with
  | some L=>match c with
   | .ptr j off=>0<=n/\n<((m+1:Nat):Int)/\K (.ptr j (off+n.toNat*L.size))
   | .row cs=>0<=n/\n<((m+1:Nat):Int)/\K (.row (cs.drop (n.toNat*L.size)))
   | _=>False
  | none=>False
 | _,_=>False
def zrv (L:Option Lay) (c:C) (n:Int) (K:C->Prop):Prop:=
 match L with
  | some L=>match c with
   | .bs j off k m _=>k=L.size/\0<=n/\n<(m:Int)/\K (.ptr j (off+n.toNat*L.size))
   | c=>match c.rows? L.size with
    | some rows=>match rows[n.toNat]? with
     | some r=>0<=n/\K (.row r)
     | none=>False
    | none=>False
  | none=>False
def zrr (rows:Option (List (List C))) (n:Int) (K:C->Prop):Prop:=
 match rows with
   | some rows=>match rows[n.toNat]? with
    | some r=>0<=n/\K (.row r)
    | none=>False
   | none=>False
def aAt (r:Option (List C)) (n:Int) (K:C->Prop):Prop:=match r with | some r=>0<=n/\K (.row r) | none=>False
def zrd (L:Option Lay) (c:C) (m:Nat) (n:Int) (K:C->Prop):Prop:=
 match L with
  | some L=>match c with
   | .ptr j off=>0<=n/\n<((m+1:Nat):Int)/\K (.ptr j (off+n.toNat*L.size))
   | .row cs=>0<=n/\n<((m+1:Nat):Int)/\K (.row (cs.drop (n.toNat*L.size)))
   | _=>False
  | none=>False
def zpt (L:Option Lay) (c i:C) (K:C->Prop):Prop:=
 match L,c,i with
 | some ⟨.str,_,_,_⟩,.str l,.sc (.int _ n)=>match l[n.toNat]? with
  | some b=>0<=n/\K (.sc (.int .u8 (b.toNat:Int)))
  | none=>False
 | _,_,_=>False
def zkT (b:Option UInt8) (n:Int) (K:C->Prop):Prop:=match b with | some b=>0<=n/\K (.sc (.int .u8 (b.toNat:Int))) | none=>False
def zqM (P:Program) (L:Option Lay) (c:C) (lo hi mx:Option Int) (K:C->Prop):Prop:=
   match L with
    | some ⟨.str,_,_,_⟩=>match c,mx with
      | .str l,none=>jr l.length lo hi/\K (.str (cut l lo hi))
      | _,_=>False
    | some ⟨.slice e,_,_,_⟩=>match lay P e with
      | some L=>match c with
        | .bs i off k n cap=>zj2 L.size i off k n cap lo hi mx K
        | .sc (.slice none 0 0)=>zom L.size lo hi mx K
        | c=>match c.rows? L.size with
          | some rows=>match mx,hi with
            | none,_=>jr rows.length lo hi/\K (.sl L.size (cut rows lo hi))
            | some m,some h=>m=h/\jr rows.length lo hi/\K (.tight L.size (cut rows lo hi))
            | some _,none=>False
          | none=>False
      | none=>False
    | _=>False
def zrf (P:Program) (t:TypeId) (c:C) (lo hi mx:Option (Option Int)) (K:C->Prop):Prop:=
 match lo,hi,mx with
 | some lo,some hi,some mx=>zqM P (lay P t) c lo hi mx K
 | _,_,_=>False
def zre (L:Option Lay) (c:C) (lo hi mx:Option Int) (K:C->Prop):Prop:=
 match L with
   | some L=>match c with
    | .bs i off k n cap=>zj2 L.size i off k n cap lo hi mx K
    | .sc (.slice none 0 0)=>zom L.size lo hi mx K
    | c=>match c.rows? L.size with
     | some rows=>match mx,hi with
      | none,_=>jr rows.length lo hi/\K (.sl L.size (cut rows lo hi))
      | some m,some h=>m=h/\jr rows.length lo hi/\K (.tight L.size (cut rows lo hi))
      | some _,none=>False
     | none=>False
   | none=>False
def zru (rows:Option (List (List C))) (k:Nat) (lo hi mx:Option Int) (K:C->Prop):Prop:=
 match rows with
    | some rows=>match mx,hi with
     | none,_=>jr rows.length lo hi/\K (.sl k (cut rows lo hi))
     | some m,some h=>m=h/\jr rows.length lo hi/\K (.tight k (cut rows lo hi))
     | some _,none=>False
    | none=>False
def zcZ (rows:Option (List (List C))) (K:C->Prop):Prop:=match rows with | some rows=>∃ l,rows=Jd l/\K (.str l) | none=>False
theorem zcZ.mk {rows:List (List C)} (l:List UInt8) (h:rows=Jd l) (hK:K (.str l)):zcZ (some rows) K:=⟨l,h,hK⟩
def zry (P:Program) (D S:Option Lay) (c:C) (K:C->Prop):Prop:=
 match D with
 | some ⟨.int k,_,_,_⟩=>match c with
  | .sc (.int _ n)=>match S with | some _=>inR k n/\K (.sc (.int k n)) | none=>False
  | _=>False
 | some ⟨.str,_,_,_⟩=>match S with
  | some ⟨.str,_,_,_⟩=>match c with
   | .str l=>K (.str l)
   | _=>False
  | some ⟨.slice e,_,_,_⟩=>match lay P e with
   | some ⟨.int .u8,_,_,_⟩=>match c.rows? 1 with
    | some rows=>∃ l,rows=Jd l/\K (.str l)
    | none=>False
   | _=>False
  | some ⟨.int _,_,_,_⟩=>match c with
   | .sc (.int _ n)=>K (.str (Utf8.encode n).data.toList)
   | _=>False
  | _=>False
 | some ⟨.slice e,_,_,_⟩=>match S,lay P e with
  | some ⟨.str,_,_,_⟩,some ⟨.int .u8,_,_,_⟩=>match c with
   | .str l=>((l.length:Nat):Int)<=9223372036854775807/\K (.sl 1 (Jd l))
   | _=>False
  | _,_=>False
 | _=>False
def zq4 (L:Option Lay) (c:C) (K:C->Prop):Prop:=
 match L with
   | some ⟨.int .u8,_,_,_⟩=>match c.rows? 1 with
    | some rows=>∃ l,rows=Jd l/\K (.str l)
    | none=>False
   | _=>False
def zp6 (L:Option Lay) (c:C) (K:C->Prop):Prop:=
 match L,c with
 | some ⟨.slice _,_,_,_⟩,.bs _ _ _ _ c=>K (.sc (.int .i64 (c:Int)))
 | some ⟨.slice _,_,_,_⟩,.sc (.slice none 0 0)=>K (.sc (.int .i64 0))
 | _,_=>False
def zqk (L:Option Lay) (n:Int) (K:C->Prop):Prop:=match L with | some ⟨.slice _,_,_,_⟩=>K (.sc (.int .i64 n)) | _=>False
def zqf (L:Option Lay) (n:Int) (K:C->Prop):Prop:=match L with | some ⟨.str,_,_,_⟩=>K (.sc (.int .i64 n)) | _=>False
def zpv (L:Option Lay) (parts:List (Nat×C)) (K:C->Prop):Prop:=
 match L with
 | some ⟨.struct fs,_,_,some z⟩=>(parts.all fun p=>p.2.partB)=true/\match Yh (fun i=>(fs[i]?).map fun f=>(f.1,f.2.1)) (z.map zt) parts with
  | some cs=>K (.agg cs)
  | none=>False
 | _=>False
def aFl (cs:Option (List C)) (K:C->Prop):Prop:=match cs with | some cs=>K (.agg cs) | none=>False
def plS (fs:List (Nat×Nat×Bool)) (i:Nat):Option (Nat×Nat):=(fs[i]?).map fun f=>(f.1,f.2.1)
def plA (k:Nat) (i:Nat):Option (Nat×Nat):=some (i*k,k)
def zi9 (pl:Option (Nat×Nat)) (place:Nat->Option (Nat×Nat)) (cs:List C) (c:List C) (rest:List (Nat×C)):Option (List C):=
 match pl with
  | none=>none
  | some (off,size)=>if c.length=size/\off+size<=cs.length then Yh place (cs.take off++c++cs.drop (off+size)) rest else none
def zq7 (P:Program) (L:Option Lay) (n:Nat) (parts:List (Nat×C)) (nx:Nat) (K:C->Nat->Prop):Prop:=
 match L with
 | some ⟨.slice e,_,_,_⟩=>match lay P e with
  | some ⟨_,k,_,some z⟩=>z.length=k/\0<k/\n*k<=16777216/\(parts.all fun p=>p.2.frz.partB)=true/\match Yh (fun i=>some (i*k,k)) (List.replicate n (z.map zt)).flatten (parts.map fun p=>(p.1,p.2.frz)) with
   | some cs=>(cs.all C.cellB)=true/\cs.length=n*k/\K (.own nx e k (XM k n cs)) (nx+1)
   | none=>False
  | _=>False
 | _=>False
def zrp (L:Option Lay) (e:TypeId) (n:Nat) (parts:List (Nat×C)) (nx:Nat) (K:C->Nat->Prop):Prop:=
   match L with
    | some ⟨_,k,_,some z⟩=>z.length=k/\0<k/\n*k<=16777216/\(parts.all fun p=>p.2.frz.partB)=true/\match Yh (fun i=>some (i*k,k)) (List.replicate n (z.map zt)).flatten (parts.map fun p=>(p.1,p.2.frz)) with
      | some cs=>(cs.all C.cellB)=true/\cs.length=n*k/\K (.own nx e k (XM k n cs)) (nx+1)
      | none=>False
    | _=>False
def zrc (cs:Option (List C)) (e k n nx:Nat) (K:C->Nat->Prop):Prop:=
 match cs with
   | some cs=>(cs.all C.cellB)=true/\cs.length=n*k/\K (.own nx e k (XM k n cs)) (nx+1)
   | none=>False
def zrs (P:Program) (L:Option Lay) (s x:C) (nx:Nat) (K:C->Nat->Prop):Prop:=
 match L with
 | some ⟨.slice e,_,_,_⟩=>match lay P e with
  | some ⟨_,k,by',some z⟩=>match x.rows? k with
   | some xs=>match s with
    | .sc (.slice none 0 0)=>z.length=k/\0<k/\xs.length<=9223372036854775807/\xs.length*by'<=140737488355328/\K (.own nx e k xs) (nx+1)
    | .tight k' rows=>k'=k/\z.length=k/\0<k/\rows.length+xs.length<=9223372036854775807/\(rows.length+xs.length)*by'<=140737488355328/\(xs = []->K (.tight k' rows) nx)/\(xs≠[]->K (.own nx e k (rows++xs)) (nx+1))
    | _=>False
   | none=>False
  | _=>False
 | _=>False
def zrn (L:Option Lay) (e:TypeId) (s x:C) (nx:Nat) (K:C->Nat->Prop):Prop:=
  match L with
  | some ⟨_,k,by',some z⟩=>match x.rows? k with
   | some xs=>match s with
    | .sc (.slice none 0 0)=>z.length=k/\0<k/\xs.length<=9223372036854775807/\xs.length*by'<=140737488355328/\K (.own nx e k xs) (nx+1)
    | .tight k' rows=>k'=k/\z.length=k/\0<k/\rows.length+xs.length<=9223372036854775807/\(rows.length+xs.length)*by'<=140737488355328/\(xs = []->K (.tight k' rows) nx)/\(xs≠[]->K (.own nx e k (rows++xs)) (nx+1))
    | _=>False
   | none=>False
  | _=>False
def zrb (xs:Option (List (List C))) (s:C) (e k by':Nat) (z:List Value) (nx:Nat) (K:C->Nat->Prop):Prop:=
 match xs with
   | some xs=>match s with
    | .sc (.slice none 0 0)=>z.length=k/\0<k/\xs.length<=9223372036854775807/\xs.length*by'<=140737488355328/\K (.own nx e k xs) (nx+1)
    | .tight k' rows=>k'=k/\z.length=k/\0<k/\rows.length+xs.length<=9223372036854775807/\(rows.length+xs.length)*by'<=140737488355328/\(xs = []->K (.tight k' rows) nx)/\(xs≠[]->K (.own nx e k (rows++xs)) (nx+1))
    | _=>False
   | none=>False
def zrz (P:Program) (L:Option Lay) (id e k:Nat) (rows:List (List C)) (x:C) (σ:St) (K:C->St->Prop):Prop:=
   match L with
    | some ⟨.slice e',_,_,_⟩=>match lay P e with
      | some ⟨_,k',by',some z⟩=>match x.rows? k with
        | some xs=>e'=e/\k'=k/\z.length=k/\0<k/\rows.length+xs.length<=9223372036854775807/\(rows.length+xs.length)*by'<=140737488355328/\K (.own id e k (rows++xs)) ⟨zaF id σ.tm,MG id σ.bx,σ.nx,σ.lg⟩
        | none=>False
      | _=>False
    | _=>False
def zqc (L:Option Lay) (e' id e k:Nat) (rows:List (List C)) (x:C) (σ:St) (K:C->St->Prop):Prop:=
  match L with
   | some ⟨_,k',by',some z⟩=>match x.rows? k with
    | some xs=>e'=e/\k'=k/\z.length=k/\0<k/\rows.length+xs.length<=9223372036854775807/\(rows.length+xs.length)*by'<=140737488355328/\K (.own id e k (rows++xs)) ⟨zaF id σ.tm,MG id σ.bx,σ.nx,σ.lg⟩
    | none=>False
   | _=>False
def zph (xs:Option (List (List C))) (by' id e k:Nat) (rows:List (List C)) (σ:St) (K:C->St->Prop):Prop:=
   match xs with
        | some xs=>rows.length+xs.length<=9223372036854775807/\(rows.length+xs.length)*by'<=140737488355328/\K (.own id e k (rows++xs)) ⟨zaF id σ.tm,MG id σ.bx,σ.nx,σ.lg⟩
        | none=>False
def zri (L:Option Lay) (σ:St) (K:C->St->Prop):Prop:=
 match L with
 | some ⟨_,_,_,some z⟩=>(z.all Value.oneCell')=true/\K (.ptr σ.bx.length 0) ⟨σ.tm,σ.bx++[z.map zt],σ.nx,σ.lg⟩
 | _=>False
def zrF (L:Option Lay) (p c:C) (bx:List (List C)) (K:C->Prop):Prop:=
 match L,p with
 | some L,.ptr i off=>match bx[i]? with
  | some cs=>c.partB=true/\(c.cells.all C.cellB)=true/\c.cells.length=L.size/\off+L.size<=cs.length/\ZY ((cs.drop off).take L.size) c.cells/\K .any
  | none=>False
 | _,_=>False
def zq2 (cs:Option (List C)) (off size:Nat) (c:C) (K:C->Prop):Prop:=
 match cs with
  | some cs=>c.partB=true/\(c.cells.all C.cellB)=true/\c.cells.length=size/\off+size<=cs.length/\ZY ((cs.drop off).take size) c.cells/\K .any
  | none=>False
def zrj (L:Option Lay) (p c:C) (σ:St) (K:C->St->Prop):Prop:=
 match L,p with
 | some L,.ptr i off=>match σ.bx[i]? with
  | some cs=>c.partB=true/\(c.cells.all C.cellB)=true/\c.cells.length=L.size/\off+L.size<=cs.length/\K .any ⟨σ.tm,σ.bx.set i (cs.take off++c.cells++cs.drop (off+L.size)),σ.nx,σ.lg⟩
  | none=>False
 | _,_=>False
def zrJ (cs:Option (List C)) (i off size:Nat) (c:C) (σ:St) (K:C->St->Prop):Prop:=
 match cs with
  | some cs=>c.partB=true/\(c.cells.all C.cellB)=true/\c.cells.length=size/\off+size<=cs.length/\K .any ⟨σ.tm,σ.bx.set i (cs.take off++c.cells++cs.drop (off+size)),σ.nx,σ.lg⟩
  | none=>False
def zfs (cs:Option (List C)) (off n:Nat) (K:C->Prop):Prop:=match cs with
   | some cs=>∃ l:List UInt8,l.length=n/\(cs.drop off).take n=l.map (fun b=>C.sc (.int .u8 (b.toNat:Int)))/\K (.str l)
   | none=>False
theorem zfs.mk {cs:List C} {off n:Nat} {K:C->Prop} (l:List UInt8) (hl:l.length=n) (h:(cs.drop off).take n=l.map (fun b=>C.sc (.int .u8 (b.toNat:Int)))) (hK:K (.str l)):zfs (some cs) off n K:=⟨l,hl,h,hK⟩
def zrC (P:Program) (L:Option Lay) (n:Nat) (parts:List (Nat×C)) (σ:St) (K:C->St->Prop):Prop:=
 match L with
 | some ⟨.slice e,_,_,_⟩=>match lay P e with
  | some ⟨_,k,_,some z⟩=>z.length=k/\0<k/\n*k<=16777216/\(parts.all fun p=>p.2.frz.partB)=true/\match Yh (fun i=>some (i*k,k)) (List.replicate n (z.map zt)).flatten (parts.map fun p=>(p.1,p.2.frz)) with
   | some cs=>(cs.all C.cellB)=true/\cs.length=n*k/\K (.bs σ.bx.length 0 k n n) ⟨σ.tm,σ.bx++[cs],σ.nx,σ.lg⟩
   | none=>False
  | _=>False
 | _=>False
def zrq (L:Option Lay) (n:Nat) (parts:List (Nat×C)) (σ:St) (K:C->St->Prop):Prop:=
   match L with
    | some ⟨_,k,_,some z⟩=>z.length=k/\0<k/\n*k<=16777216/\(parts.all fun p=>p.2.frz.partB)=true/\match Yh (fun i=>some (i*k,k)) (List.replicate n (z.map zt)).flatten (parts.map fun p=>(p.1,p.2.frz)) with
      | some cs=>(cs.all C.cellB)=true/\cs.length=n*k/\K (.bs σ.bx.length 0 k n n) ⟨σ.tm,σ.bx++[cs],σ.nx,σ.lg⟩
      | none=>False
    | _=>False
def zrI (cs:Option (List C)) (k n:Nat) (σ:St) (K:C->St->Prop):Prop:=
 match cs with
   | some cs=>(cs.all C.cellB)=true/\cs.length=n*k/\K (.bs σ.bx.length 0 k n n) ⟨σ.tm,σ.bx++[cs],σ.nx,σ.lg⟩
   | none=>False
def zra (P:Program) (L:Option Lay) (p:Nat) (s x:C) (σ:St) (K:C->St->Prop):Prop:=
 match L with
 | some ⟨.slice e,_,_,_⟩=>match lay P e with
  | some ⟨_,k,by',some z⟩=>match x.xs? k σ.bx with
   | some (m,xs)=>z.length=k/\0<k/\(z.all Value.oneCell')=true/\0<m/\match s with
    | .sc (.slice none 0 0)=>m<=9223372036854775807/\m*by'<=140737488355328/\∀ c,m<=c->c<=maxLen->K (.bs σ.bx.length 0 k m c) ⟨σ.tm,σ.bx++[xs++List.replicate ((c-m)*k) .any],σ.nx,σ.lg⟩
    | .bs i 0 k' n c=>match σ.bx[i]? with
     | some cs=>k'=k/\p<=i/\cs.length=c*k/\n<=c/\c<=9223372036854775807/\n+m<=9223372036854775807/\(n+m)*by'<=140737488355328 /\
       ∀ c',n+m<=c'->c'<=maxLen->K (.bs i 0 k (n+m) c') ⟨kL (Jn i) some σ.tm,QM i (C.reL (Jn i) some (cs.take (n*k)++xs)++List.replicate ((c'-(n+m))*k) .any) σ.bx,σ.nx,σ.lg⟩
     | none=>False
    | _=>False
   | none=>False
  | _=>False
 | _=>False
def zqX (L:Option Lay) (p:Nat) (s x:C) (σ:St) (K:C->St->Prop):Prop:=
  match L with
  | some ⟨_,k,by',some z⟩=>match x.xs? k σ.bx with
   | some (m,xs)=>z.length=k/\0<k/\(z.all Value.oneCell')=true/\0<m/\match s with
    | .sc (.slice none 0 0)=>m<=9223372036854775807/\m*by'<=140737488355328/\∀ c,m<=c->c<=maxLen->K (.bs σ.bx.length 0 k m c) ⟨σ.tm,σ.bx++[xs++List.replicate ((c-m)*k) .any],σ.nx,σ.lg⟩
    | .bs i 0 k' n c=>match σ.bx[i]? with
     | some cs=>k'=k/\p<=i/\cs.length=c*k/\n<=c/\c<=9223372036854775807/\n+m<=9223372036854775807/\(n+m)*by'<=140737488355328 /\
       ∀ c',n+m<=c'->c'<=maxLen->K (.bs i 0 k (n+m) c') ⟨kL (Jn i) some σ.tm,QM i (C.reL (Jn i) some (cs.take (n*k)++xs)++List.replicate ((c'-(n+m))*k) .any) σ.bx,σ.nx,σ.lg⟩
     | none=>False
    | _=>False
   | none=>False
  | _=>False
def zrM (X:Option (Nat×List C)) (p k by':Nat) (z:List Value) (s:C) (σ:St) (K:C->St->Prop):Prop:=
  match X with
   | some (m,xs)=>z.length=k/\0<k/\(z.all Value.oneCell')=true/\0<m/\match s with
    | .sc (.slice none 0 0)=>m<=9223372036854775807/\m*by'<=140737488355328/\∀ c,m<=c->c<=maxLen->K (.bs σ.bx.length 0 k m c) ⟨σ.tm,σ.bx++[xs++List.replicate ((c-m)*k) .any],σ.nx,σ.lg⟩
    | .bs i 0 k' n c=>match σ.bx[i]? with
     | some cs=>k'=k/\p<=i/\cs.length=c*k/\n<=c/\c<=9223372036854775807/\n+m<=9223372036854775807/\(n+m)*by'<=140737488355328 /\
       ∀ c',n+m<=c'->c'<=maxLen->K (.bs i 0 k (n+m) c') ⟨kL (Jn i) some σ.tm,QM i (C.reL (Jn i) some (cs.take (n*k)++xs)++List.replicate ((c'-(n+m))*k) .any) σ.bx,σ.nx,σ.lg⟩
     | none=>False
    | _=>False
   | none=>False
def bsO (j:Option Nat) (off k n c:Nat):C:=match j with | some j=>.bs j off k n c | none=>.any
def xsB (k' k off n:Nat) (cs:Option (List C)):Option (Nat×List C):=if k'=k then cs.bind fun cs=>if off+n*k<=cs.length then some (n,(cs.drop off).take (n*k)) else none else none
def zpe (j:Option Nat) (e k:Nat) (rows:List (List C)):C:=match j with | some j=>.own j e k rows | none=>.sl k rows
def zpu (cs:Option (List C)) (off:Nat):C:=match cs with | some cs=>.row ((C.frzL cs).drop off) | none=>.any
def zmg (j:Option Nat) (off:Nat):C:=match j with | some j=>.ptr j off | none=>.any
def zlK (cs:Option (List C)) (p:Option Tmp) (σ:St) (K:St->Prop):Prop:=match cs,p with
  | some cs,some p=>K ⟨(p,.ptr σ.bx.length 0) :: σ.tm,σ.bx++[cs],σ.nx,σ.lg⟩
  | _,_=>False
def zrH (M:Option (MKd×C)) (t:TypeId) (r:Option C) (nx:Nat) (K:C->Nat->Prop):Prop:=
 match M with
 | some (kd,_)=>match r with
  | none=>K (.mo nx t kd.nil []) (nx+1)
  | some (.sc (.int _ _))=>K (.mo nx t kd.nil []) (nx+1)
  | _=>False
 | none=>False
def zrK (M:Option (MKd×C)) (t:TypeId) (m key:C) (ok:Bool) (K:C->Prop):Prop:=
 match M with
 | some (.int k,z)=>match m,key with
  | .mo _ t' (.int k' l) vs,.sc (.int q n)=>t'=t/\k'=k/\q=k/\kg (zjd n l vs) z ok K
  | _,_=>False
 | some (.str,z)=>match m,key with
  | .mo _ t' (.str l) vs,.str s=>t'=t/\kg (zjd s l vs) z ok K
  | _,_=>False
 | none=>False
def zrE (M:Option (MKd×C)) (t:TypeId) (m key x:C) (σ:St) (K:C->St->Prop):Prop:=
 match M with
 | some (.int k,_)=>match m,key with
  | .mo id t' (.int k' l) vs,.sc (.int q n)=>t'=t/\k'=k/\q=k/\k8 id (.int k (UL n x.frz l vs).1) (UL n x.frz l vs).2 σ K
  | _,_=>False
 | some (.str,_)=>match m,key with
  | .mo id t' (.str l) vs,.str s=>t'=t/\k8 id (.str (UL s x.frz l vs).1) (UL s x.frz l vs).2 σ K
  | _,_=>False
 | none=>False
def zqR (x:Option (List C)):C:=match x with | some cs=>.row cs | none=>.any
structure Tag.{u} {α:Sort u} (a:α):Type where
def zoB (M:Option (MKd×C)) (t:TypeId) (r:Option C) (nx:Nat) (K:C->Nat->Prop) (_:Tag K):Prop:=zrH M t r nx K
def znT (M:Option (MKd×C)) (t:TypeId) (m key:C) (ok:Bool) (K:C->Prop) (_:Tag K):Prop:=zrK M t m key ok K
def zbA (r:Option C) (z:C) (ok:Bool) (K:C->Prop) (_:Tag K):Prop:=kg r z ok K
def znC (M:Option (MKd×C)) (t:TypeId) (m key x:C) (σ:St) (K:C->St->Prop) (_:Tag K):Prop:=zrE M t m key x σ K
def zkw (sz i off k n cap:Nat) (lo hi mx:Option Int) (K:C->Prop) (_:Tag K):Prop:=zj2 sz i off k n cap lo hi mx K
def VN (P:Program) (t:TypeId) (s x:C) (σ:St) (K:C->St->Prop) (_:Tag K):Prop:=Ja P t s x σ K
def vZ (P:Program) (t tn:TypeId) (s x:C) (σ:St) (K:C->St->Prop) (_:Tag K):Prop:=HF P t tn s x σ K
def zds (P:Program) (t:TypeId) (d x:C) (σ:St) (K:C->St->Prop) (_:Tag K):Prop:=Z0 P t d x σ K
def zn7 (x y:C) (K:C->Prop) (_:Tag K):Prop:=zmR x y K
def znk (P:Program) (t:TypeId) (c:C) (K:C->Prop) (_:Tag K):Prop:=zo3 P t c K
def zbE (L:Option Lay) (c:C) (K:C->Prop) (_:Tag K):Prop:=zp6 L c K
def MW (P:Program) (bx:List (List C)) (s d:TypeId) (c:C) (K:C->Prop) (_:Tag K):Prop:=vp P bx s d c K
def U2 (P:Program) (t:TypeId) (n:Nat) (parts:List (Nat×C)) (σ:St) (K:C->St->Prop) (_:Tag K):Prop:=Qn P t n parts σ K
def znj (P:Program) (L:Option Lay) (n:Nat) (parts:List (Nat×C)) (σ:St) (K:C->St->Prop) (_:Tag K):Prop:=zrC P L n parts σ K
def zoA (L:Option Lay) (n:Nat) (parts:List (Nat×C)) (σ:St) (K:C->St->Prop) (_:Tag K):Prop:=zrq L n parts σ K
def zow (cs:Option (List C)) (k n:Nat) (σ:St) (K:C->St->Prop) (_:Tag K):Prop:=zrI cs k n σ K
def ua (P:Program) (p:Nat) (t:TypeId) (s x:C) (σ:St) (K:C->St->Prop) (_:Tag K):Prop:=Vv P p t s x σ K
def zmQ (P:Program) (L:Option Lay) (p:Nat) (s x:C) (σ:St) (K:C->St->Prop) (_:Tag K):Prop:=zra P L p s x σ K
def zng (L:Option Lay) (p:Nat) (s x:C) (σ:St) (K:C->St->Prop) (_:Tag K):Prop:=zqX L p s x σ K
def zmI (X:Option (Nat×List C)) (p k by':Nat) (z:List Value) (s:C) (σ:St) (K:C->St->Prop) (_:Tag K):Prop:=zrM X p k by' z s σ K
def zll (c:C) (X Y:Prop) (_:Tag X) (_:Tag Y):Prop:=ABr c X Y
def zix (c:C) (U X Y:Prop) (_:Tag U) (_:Tag X) (_:Tag Y):Prop:=zi6 c U X Y
def YH (ops:Array Oper) (tm:List (Nat×C)) (g:Option (Nat×Bool)) (X Y:Prop) (_:Tag ops) (_:Tag X) (_:Tag Y):Prop:=qQ ops tm g X Y
def zpg (d:Option Tmp) (tm:List (Nat×C)) (want:Bool) (X Y:Prop) (_:Tag X) (_:Tag Y):Prop:=aGd d tm want X Y
def Zp (P:Program) (G:zk) (h:Hd) (c:Code) (Q:Exit->St->Prop) (σ:St) (_:Tag c) (_:Tag Q):Prop:=awp P G h c Q σ
def zdz (P:Program) (G:zk) (h:Hd) (ops:Array Oper) (l:List Oper) (σ:St) (K:St->Prop) (_:Tag h) (_:Tag ops) (_:Tag l) (_:Tag K):Prop:=zob P G h ops l σ K
def YU (P:Program) (G:zk) (h:Hd) (ops:Array Oper) (l:List Oper) (br:List Bool) (σ:St) (K:St->Prop) (_:Tag h) (_:Tag ops) (_:Tag l) (_:Tag K):Prop:=QR P G h ops l br σ K
def Nt (P:Program) (G:zk) (h:Hd) (ops:Array Oper) (br:List Bool) (σ:St) (K:St->Prop) (_:Tag h) (_:Tag ops) (_:Tag K):Prop:=GZ P G h ops br σ K
def zmi (P:Program) (G:zk) (Y:Hd) (ops:Array Oper) (rest:List (Nat×MFl)) (q:Nat) (H:List UV) (fl:MFl) (oo:Option Oper) (σ:St) (K:St->Prop):Prop:=match oo with
 | none=>False
 | some o=>match fl with
  | .pure=>qQ ops σ.tm o.guard (jU P G σ.bx (zo G σ.tm) o.op σ.nx fun c nx'=>mix P G Y ops rest (q+1) ((q,fun b=>jU P G b (zo G σ.tm) o.op σ.nx fun c' n'=>c'=c/\n'=nx') :: H) ⟨j6 σ.tm o.dst c,σ.bx,nx',σ.lg⟩ K)
    (mix P G Y ops rest (q+1) H ⟨j6 σ.tm o.dst (.sc undef),σ.bx,σ.nx,σ.lg⟩ K)
  | .bar=>qQ ops σ.tm o.guard (MF P G Y o.op σ fun c σ'=>mix P G Y ops rest (q+1) [] (σ'.put o.dst c) K) (mix P G Y ops rest (q+1) [] (σ.put o.dst (.sc undef)) K)
  | .flt fr=>o.guard=none/\zm3 P G o.op σ fun c bx' nx'=>YY fr bx' H/\mix P G Y ops rest (q+1) H ⟨j6 σ.tm o.dst c,bx',nx',σ.lg⟩ K
def Ge (P:Program) (G:zk) (h:Hd) (ops:Array Oper) (all:List Oper) (L:List (Nat×MFl)) (q:Nat) (H:List UV) (σ:St) (K:St->Prop) (_:Tag h) (_:Tag ops) (_:Tag all) (_:Tag H) (_:Tag K):Prop:=mix P G h ops L q H σ K
def xU (P:Program) (G:zk) (h:Hd) (ops:Array Oper) (all:List Oper) (L:List (Nat×MFl)) (q:Nat) (H:List UV) (fl:MFl) (i:Nat) (l:List Oper) (σ:St) (K:St->Prop) (_:Tag h) (_:Tag ops) (_:Tag all) (_:Tag H) (_:Tag l) (_:Tag K):Prop:=zmi P G h ops L q H fl (l[i]?) σ K
def zoc (fr:List Nat) (b:List (List C)) (H:List UV) (_:Tag H):Prop:=YY fr b H
def YP (P:Program) (G:zk) (ops:Array Oper) (a s:Nat) (l:List Oper) (i:Nat) (cs:Option (List C)) (σ:St) (K:St->Prop) (_:Tag ops) (_:Tag l) (_:Tag K):Prop:=qT P G ops a s l i cs σ K
def zjv (cs:Option (List C)) (p:Option Tmp) (σ:St) (K:St->Prop) (_:Tag K):Prop:=zlK cs p σ K
def zi0 (L:Option Lay) (K:Prop) (_:Tag K):Prop:=zh1 L K
def zjn (L:Option Lay) (c:C) (K:C->Prop) (_:Tag K):Prop:=zgc L c K
def jl (P:Program) (G:zk) (h:Hd) (op:Op) (σ:St) (K:C->St->Prop) (_:Tag h) (_:Tag op) (_:Tag K):Prop:=MF P G h op σ K
def Qa (P:Program) (G:zk) (f:FuncId) (args fargs:List C) (σ:St) (K:C->St->Prop) (_:Tag K):Prop:=znz P G f args fargs σ K
def xd (P:Program) (G:zk) (h:Hd) (c:C) (args:List C) (σ:St) (K:C->St->Prop) (_:Tag h) (_:Tag K):Prop:=GN P G h c args σ K
def yQ (y:Yd) (it:Option (List C)) (args:List C) (σ:St) (K:C->St->Prop) (_:Tag y) (_:Tag K):Prop:=HL y it args σ K
def zbH (P:Program) (G:zk) (p:Nat) (A B:Nat->(Exit->St->Prop)->St->Prop) (Q:Exit->St->Prop) (ps:List Tmp) (c:C) (σ:St) (_:Tag A) (_:Tag B) (_:Tag Q):Prop:=vS P G p A B Q ps c σ
def qO (P:Program) (G:zk) (bx:List (List C)) (ev:Operand->C) (op:Op) (nx:Nat) (K:C->Nat->Prop) (_:Tag ev) (_:Tag op) (_:Tag K):Prop:=jU P G bx ev op nx K
def zaC (P:Program) (σ:St) (rs:List ResultVar) (K:C->Prop) (_:Tag K):Prop:=zma P σ rs K
def JU (P:Program) (σ:St) (rv:ResultVar) (K:C->Prop) (_:Tag K):Prop:=Jh P σ rv K
def G4 (P:Program) (t:TypeId) (op:BinOp) (x y:C) (K:C->Prop) (_:Tag K):Prop:=zmk P t op x y K
def UT (op:BinOp) (k:IntKind) (a b:Int) (K:C->Prop) (_:Tag K):Prop:=zpb op k a b K
def vM (l:Option Lay) (op:BinOp) (x:C) (K:C->Prop) (_:Tag K):Prop:=zjy l op x K
def zcr (op:BinOp) (b:Bool) (K:C->Prop) (_:Tag K):Prop:=Hf op b K
def uW (op:BinOp) (a b:List UInt8) (K:C->Prop) (_:Tag K):Prop:=zqz op a b K
def zjt (op:BinOp) (a b:Bool) (K:C->Prop) (_:Tag K):Prop:=zf6 op a b K
def zc7 (L:Option Lay) (op:BinOp) (a b:Bool) (K:C->Prop) (_:Tag K):Prop:=zok L op a b K
def zoq (op:BinOp) (ks:Option (List LK)) (xs ys:List C) (K:C->Prop) (_:Tag K):Prop:=zpz op ks xs ys K
def zme (n:Bool) (ks:List LK) (xs ys:List C) (e:Bool) (K:C->Prop) (_:Tag K):Prop:=aEq n ks xs ys e K
def zpf (op:UnOp) (x:C) (K:C->Prop) (_:Tag K):Prop:=aUn op x K
def vt (P:Program) (t:TypeId) (c:C) (bx:List (List C)) (K:C->Prop) (_:Tag K):Prop:=yv P t c bx K
def xT (L:Option Lay) (c:C) (bx:List (List C)) (K:C->Prop) (_:Tag K):Prop:=zoE L c bx K
def zcc (cs:Option (List C)) (off:Nat) (L:Lay) (K:C->Prop) (_:Tag K):Prop:=zoN cs off L K
def ZE (L:Lay) (cs:List C) (K:C->Prop) (_:Tag K):Prop:=JB L cs K
def zko (x:Option C) (K:C->Prop) (_:Tag K):Prop:=zpB x K
def V9 (c:C) (i:Nat) (K:C->Prop) (_:Tag K):Prop:=Vk c i K
def zle (c:C) (K:C->Prop) (_:Tag K):Prop:=zo8 c K
def yk (P:Program) (t:TypeId) (c:C) (f:Nat) (K:C->Prop) (_:Tag K):Prop:=vD P t c f K
def vx (L:Option Lay) (c:C) (f:Nat) (K:C->Prop) (_:Tag K):Prop:=xG L c f K
def vu (f:Option (Nat×Nat×Bool)) (cs:List C) (K:C->Prop) (_:Tag K):Prop:=V0 f cs K
def XZ (P:Program) (t:TypeId) (c:C) (f:Nat) (K:C->Prop) (_:Tag K):Prop:=XG P t c f K
def zmC (L:Option Lay) (c:C) (f:Nat) (K:C->Prop) (_:Tag K):Prop:=zrD L c f K
def zj6 (f:Option (Nat×Nat×Bool)) (c:C) (K:C->Prop) (_:Tag K):Prop:=znB f c K
def Qd (P:Program) (t:TypeId) (c:C) (i:C) (K:C->Prop) (_:Tag K):Prop:=XJ P t c i K
def zlb (P:Program) (L:Option Lay) (c:C) (i:C) (K:C->Prop) (_:Tag K):Prop:=zrw P L c i K
def zg4 (L:Option Lay) (c:C) (n:Int) (K:C->Prop) (_:Tag K):Prop:=zrv L c n K
def zk9 (rows:Option (List (List C))) (n:Int) (K:C->Prop) (_:Tag K):Prop:=zrr rows n K
def zqO (r:Option (List C)) (n:Int) (K:C->Prop) (_:Tag K):Prop:=aAt r n K
def zoS (L:Option Lay) (c:C) (m:Nat) (n:Int) (K:C->Prop) (_:Tag K):Prop:=zrd L c m n K
def xN (P:Program) (t:TypeId) (c i:C) (K:C->Prop) (_:Tag K):Prop:=vV P t c i K
def zoD (L:Option Lay) (c i:C) (K:C->Prop) (_:Tag K):Prop:=zpt L c i K
def zju (b:Option UInt8) (n:Int) (K:C->Prop) (_:Tag K):Prop:=zkT b n K
def xt (P:Program) (t:TypeId) (c:C) (lo hi mx:Option C) (K:C->Prop) (_:Tag K):Prop:=vz P t c lo hi mx K
def znp (P:Program) (t:TypeId) (c:C) (lo hi mx:Option (Option Int)) (K:C->Prop) (_:Tag K):Prop:=zrf P t c lo hi mx K
def zla (P:Program) (L:Option Lay) (c:C) (lo hi mx:Option Int) (K:C->Prop) (_:Tag K):Prop:=zqM P L c lo hi mx K
def zgn (L:Option Lay) (c:C) (lo hi mx:Option Int) (K:C->Prop) (_:Tag K):Prop:=zre L c lo hi mx K
def zmw (k:Nat) (lo hi mx:Option Int) (K:C->Prop) (_:Tag K):Prop:=zom k lo hi mx K
def zlf (rows:Option (List (List C))) (k:Nat) (lo hi mx:Option Int) (K:C->Prop) (_:Tag K):Prop:=zru rows k lo hi mx K
def zlD (rows:Option (List (List C))) (K:C->Prop) (_:Tag K):Prop:=zcZ rows K
def zeD (P:Program) (s d:TypeId) (c:C) (K:C->Prop) (_:Tag K):Prop:=ziH P s d c K
def zgE (P:Program) (D S:Option Lay) (c:C) (K:C->Prop) (_:Tag K):Prop:=zry P D S c K
def zmV (L:Option Lay) (c:C) (K:C->Prop) (_:Tag K):Prop:=zq4 L c K
def yA (P:Program) (t:TypeId) (c:C) (K:C->Prop) (_:Tag K):Prop:=zoR P t c K
def Mj (L:Option Lay) (n:Int) (K:C->Prop) (_:Tag K):Prop:=zqk L n K
def zjw (L:Option Lay) (n:Int) (K:C->Prop) (_:Tag K):Prop:=zqf L n K
def MM (P:Program) (t:TypeId) (parts:List (Nat×C)) (K:C->Prop) (_:Tag K):Prop:=vq P t parts K
def zog (L:Option Lay) (parts:List (Nat×C)) (K:C->Prop) (_:Tag K):Prop:=zpv L parts K
def zqK (cs:Option (List C)) (K:C->Prop) (_:Tag K):Prop:=aFl cs K
def Xg (P:Program) (t:TypeId) (n:Nat) (parts:List (Nat×C)) (nx:Nat) (K:C->Nat->Prop) (_:Tag K):Prop:=Ju P t n parts nx K
def HJ (P:Program) (t:TypeId) (n:Nat) (parts:List (Nat×C)) (nx:Nat) (K:C->Nat->Prop) (_:Tag K):Prop:=kN P t n parts nx K
def zo0 (P:Program) (L:Option Lay) (nx:Nat) (K:C->Nat->Prop) (_:Tag K):Prop:=match L with
 | some ⟨.slice e,_,_,_⟩=>match lay P e with
  | some ⟨_,k,_,some z⟩=>z.length=k/\0<k/\K (.tight k []) nx
  | _=>False
 | _=>False
def znS (L:Option Lay) (nx:Nat) (K:C->Nat->Prop) (_:Tag K):Prop:=match L with
  | some ⟨_,k,_,some z⟩=>z.length=k/\0<k/\K (.tight k []) nx
  | _=>False
def znL (P:Program) (L:Option Lay) (n:Nat) (parts:List (Nat×C)) (nx:Nat) (K:C->Nat->Prop) (_:Tag K):Prop:=zq7 P L n parts nx K
def znG (L:Option Lay) (e:TypeId) (n:Nat) (parts:List (Nat×C)) (nx:Nat) (K:C->Nat->Prop) (_:Tag K):Prop:=zrp L e n parts nx K
def zoY (cs:Option (List C)) (e k n nx:Nat) (K:C->Nat->Prop) (_:Tag K):Prop:=zrc cs e k n nx K
def Gj (P:Program) (t:TypeId) (s x:C) (σ:St) (K:C->St->Prop) (_:Tag K):Prop:=HD P t s x σ K
def kO (P:Program) (t:TypeId) (s x:C) (nx:Nat) (K:C->Nat->Prop) (_:Tag K):Prop:=Zg P t s x nx K
def zm6 (P:Program) (L:Option Lay) (s x:C) (nx:Nat) (K:C->Nat->Prop) (_:Tag K):Prop:=zrs P L s x nx K
def zmv (L:Option Lay) (e:TypeId) (s x:C) (nx:Nat) (K:C->Nat->Prop) (_:Tag K):Prop:=zrn L e s x nx K
def zkr (xs:Option (List (List C))) (s:C) (e k by':Nat) (z:List Value) (nx:Nat) (K:C->Nat->Prop) (_:Tag K):Prop:=zrb xs s e k by' z nx K
def zoh (P:Program) (L:Option Lay) (id e k:Nat) (rows:List (List C)) (x:C) (σ:St) (K:C->St->Prop) (_:Tag K):Prop:=zrz P L id e k rows x σ K
def znh (L:Option Lay) (e' id e k:Nat) (rows:List (List C)) (x:C) (σ:St) (K:C->St->Prop) (_:Tag K):Prop:=zqc L e' id e k rows x σ K
def zmG (xs:Option (List (List C))) (by' id e k:Nat) (rows:List (List C)) (σ:St) (K:C->St->Prop) (_:Tag K):Prop:=zph xs by' id e k rows σ K
def zfj (P:Program) (G:zk) (callee:C) (args:List C) (nx:Nat) (K:C->Nat->Prop) (_:Tag K):Prop:=Mg P G callee args nx K
def yg (P:Program) (G:zk) (f:FuncId) (args:List C) (nx:Nat) (K:C->Nat->Prop) (_:Tag K):Prop:=vW P G f args nx K
def zml (c:C) (σ:St) (K:C->St->Prop) (_:Tag K):Prop:=zqp c σ K
def zn6 (L:Option Lay) (σ:St) (K:C->St->Prop) (_:Tag K):Prop:=zri L σ K
def zmU (L:Option Lay) (p c:C) (σ:St) (K:C->St->Prop) (_:Tag K):Prop:=zrj L p c σ K
def zoV (L:Option Lay) (p c:C) (bx:List (List C)) (K:C->Prop) (_:Tag K):Prop:=zrF L p c bx K
def znI (cs:Option (List C)) (off size:Nat) (c:C) (K:C->Prop) (_:Tag K):Prop:=zq2 cs off size c K
def zou (cs:Option (List C)) (i off size:Nat) (c:C) (σ:St) (K:C->St->Prop) (_:Tag K):Prop:=zrJ cs i off size c σ K
def zci (p:Nat) (B:(Exit->St->Prop)->St->Prop) (Q:Exit->St->Prop) (σ:St) (_:Tag B) (_:Tag Q):Prop:=ziE p B Q σ
def vR (next:St->Prop) (Q:Exit->St->Prop) (_:Tag next) (_:Tag Q):Exit->St->Prop:=zm8 next Q
def Ui (id:Nat) (Q:Exit->St->Prop) (_:Tag Q):Exit->St->Prop:=Mm id Q
def kY (Q:Exit->St->Prop) (_:Tag Q):Exit->St->Prop:=zbJ Q
def yX (next:St->Prop) (Q:Exit->St->Prop) (_:Tag next) (_:Tag Q):Exit->St->Prop:=zli next Q
def zjb (K:St->Prop) (_:Tag K):Exit->St->Prop:=zk3 K
def M3 (m:Nat) (tm:List (Nat×C)) (st:Bool) (next:St) (Q:Exit->St->Prop) (_:Tag next) (_:Tag Q):Exit->St->Prop:=zeZ m tm st next Q
def NJ (P:Program) (rs:List ResultVar) (K:C->St->Prop) (_:Tag K):Exit->St->Prop:=zi8 P rs K
theorem zn1:Zp P G h .skip Q σ ⟨⟩ ⟨⟩=Q .normal σ:=(rfl)
theorem zjD {l:Nat}:Zp P G h (.label l) Q σ ⟨⟩ ⟨⟩=Q .normal σ:=(rfl)
theorem zn8 {id:Nat}:Zp P G h (.exit id) Q σ ⟨⟩ ⟨⟩=Q (.exit id) σ:=(rfl)
theorem zqu:Zp P G h .ret Q σ ⟨⟩ ⟨⟩=Q .ret σ:=(rfl)
theorem zpH {a b:Code}:Zp P G h (.seq a b) Q σ ⟨⟩ ⟨⟩=Zp P G h a (vR (fun σ=>Zp P G h b Q σ ⟨⟩ ⟨⟩) Q ⟨⟩ ⟨⟩) σ ⟨⟩ ⟨⟩:=(rfl)
theorem zoT {cc:Operand} {a b:Code}:Zp P G h (.cond cc a b) Q ⟨tm,bx,nx,lg⟩ ⟨⟩ ⟨⟩=zll (zo G tm cc) (Zp P G h a Q ⟨tm,bx,nx,lg⟩ ⟨⟩ ⟨⟩) (Zp P G h b Q ⟨tm,bx,nx,lg⟩ ⟨⟩ ⟨⟩) ⟨⟩ ⟨⟩:=(rfl)
theorem zlg {id:Nat} {a:Code}:Zp P G h (.block id a) Q σ ⟨⟩ ⟨⟩=Zp P G h a (Ui id Q ⟨⟩) σ ⟨⟩ ⟨⟩:=(rfl)
theorem zmT {a:Code}:Zp P G ⟨p,yd,bf⟩ (.loop a) Q σ ⟨⟩ ⟨⟩=zci p (fun Q σ=>Zp P G ⟨p,yd,bf⟩ a Q σ ⟨⟩ ⟨⟩) Q σ ⟨⟩ ⟨⟩:=(rfl)
theorem zhv {a b:Code} {x:Operand} {ps:List Tmp}:Zp P G ⟨p,yd,bf⟩ (.rangeFunc x ps.toArray a b) Q ⟨tm,bx,nx,lg⟩ ⟨⟩ ⟨⟩=zbH P G p (fun m=>fun Q σ=>Zp P G ⟨m,yd,bf⟩ a Q σ ⟨⟩ ⟨⟩) (fun m=>fun Q σ=>Zp P G ⟨m,yd,bf⟩ b Q σ ⟨⟩ ⟨⟩) Q ps (zo G tm x) ⟨tm,bx,nx,lg⟩ ⟨⟩ ⟨⟩ ⟨⟩:=(rfl)
theorem zlB {a:Code}:Zp P G h (.scope a) Q σ ⟨⟩ ⟨⟩=Zp P G h a (kY Q ⟨⟩) σ ⟨⟩ ⟨⟩:=(rfl)
theorem ziI {id:Nat} {l:List Oper}:Zp P G ⟨p,yd,bf⟩ (.region id l.toArray false) Q σ ⟨⟩ ⟨⟩=zdz P G ⟨p,yd,bf⟩ l.toArray l σ (Q .normal) ⟨⟩ ⟨⟩ ⟨⟩ ⟨⟩:=(rfl)
theorem zbB {id:Nat} {l:List Oper}:Zp P G ⟨p,yd,bf⟩ (.region id l.toArray true) Q σ ⟨⟩ ⟨⟩=Nt P G ⟨p,yd,bf⟩ l.toArray (bf id) σ (Q .normal) ⟨⟩ ⟨⟩ ⟨⟩:=(rfl)
theorem zio {KS:St->Prop} {l:List Oper}:Nt P G h l.toArray [] σ KS ⟨⟩ ⟨⟩ ⟨⟩=YU P G h l.toArray l [] σ KS ⟨⟩ ⟨⟩ ⟨⟩ ⟨⟩:=(rfl)
theorem zgh {KS:St->Prop} {l:List Oper} {r:List Bool}:Nt P G h l.toArray (false :: r) σ KS ⟨⟩ ⟨⟩ ⟨⟩=YU P G h l.toArray l (false :: r) σ KS ⟨⟩ ⟨⟩ ⟨⟩ ⟨⟩:=(rfl)
theorem zh5 {KS:St->Prop} {l:List Oper} {L:List (Nat×MFl)}:Nt P G h l.toArray (UB L) σ KS ⟨⟩ ⟨⟩ ⟨⟩=Ge P G h l.toArray l L 0 [] σ KS ⟨⟩ ⟨⟩ ⟨⟩ ⟨⟩ ⟨⟩:=(show GZ P G h l.toArray (UB L) σ KS=mix P G h l.toArray L 0 [] σ KS from by
 unfold GZ UB
 rw[show U6 (zeh 199 (unR (zbx L)))=none from rfl,UN]
 simp only[zbh])
theorem zol {KS:St->Prop} {all:List Oper} {q:Nat} {H:List UV}:Ge P G h ops all [] q H σ KS ⟨⟩ ⟨⟩ ⟨⟩ ⟨⟩ ⟨⟩=KS σ:=(rfl)
theorem zmp {KS:St->Prop} {all:List Oper} {i q:Nat} {fl:MFl} {L:List (Nat×MFl)} {H:List UV}:Ge P G h all.toArray all ((i,fl) :: L) q H σ KS ⟨⟩ ⟨⟩ ⟨⟩ ⟨⟩ ⟨⟩=xU P G h all.toArray all L q H fl i all σ KS ⟨⟩ ⟨⟩ ⟨⟩ ⟨⟩ ⟨⟩ ⟨⟩:=(show mix P G h all.toArray ((i,fl) :: L) q H σ KS=zmi P G h all.toArray L q H fl (all[i]?) σ KS from rfl)
theorem zn9 {KS:St->Prop} {o:Oper} {all l:List Oper} {i q:Nat} {fl:MFl} {L:List (Nat×MFl)} {H:List UV}:xU P G h ops all L q H fl (i+1) (o :: l) σ KS ⟨⟩ ⟨⟩ ⟨⟩ ⟨⟩ ⟨⟩ ⟨⟩=xU P G h ops all L q H fl i l σ KS ⟨⟩ ⟨⟩ ⟨⟩ ⟨⟩ ⟨⟩ ⟨⟩:=(show zmi P G h ops L q H fl ((o :: l)[i+1]?) σ KS=zmi P G h ops L q H fl (l[i]?) σ KS from rfl)
theorem zmY {KS:St->Prop} {all rest:List Oper} {q:Nat} {L:List (Nat×MFl)} {H:List UV} {dst:Option Tmp} {op:Op} {ty:TypeId} {pos:String} {af:Array Edge} {g:Option (Nat×Bool)}:xU P G h ops all L q H .pure 0 (⟨dst,op,ty,pos,af,g⟩ :: rest) ⟨tm,bx,nx,lg⟩ KS ⟨⟩ ⟨⟩ ⟨⟩ ⟨⟩ ⟨⟩ ⟨⟩ =
  YH ops tm g (qO P G bx (zo G tm) op nx (fun c nx'=>Ge P G h ops all L (q+1) ((q,fun b=>qO P G b (zo G tm) op nx (fun c' n'=>c'=c/\n'=nx') ⟨⟩ ⟨⟩ ⟨⟩) :: H) ⟨j6 tm dst c,bx,nx',lg⟩ KS ⟨⟩ ⟨⟩ ⟨⟩ ⟨⟩ ⟨⟩) ⟨⟩ ⟨⟩ ⟨⟩) (Ge P G h ops all L (q+1) H ⟨j6 tm dst (.sc undef),bx,nx,lg⟩ KS ⟨⟩ ⟨⟩ ⟨⟩ ⟨⟩ ⟨⟩) ⟨⟩ ⟨⟩ ⟨⟩:=
 (show zmi P G h ops L q H .pure (some ⟨dst,op,ty,pos,af,g⟩) ⟨tm,bx,nx,lg⟩ KS=_ from rfl)
theorem zo2 {KS:St->Prop} {all rest:List Oper} {q:Nat} {L:List (Nat×MFl)} {H:List UV} {dst:Option Tmp} {op:Op} {ty:TypeId} {pos:String} {af:Array Edge} {g:Option (Nat×Bool)}:xU P G h ops all L q H .bar 0 (⟨dst,op,ty,pos,af,g⟩ :: rest) ⟨tm,bx,nx,lg⟩ KS ⟨⟩ ⟨⟩ ⟨⟩ ⟨⟩ ⟨⟩ ⟨⟩ =
  YH ops tm g (jl P G h op ⟨tm,bx,nx,lg⟩ (fun c σ'=>Ge P G h ops all L (q+1) [] (σ'.put dst c) KS ⟨⟩ ⟨⟩ ⟨⟩ ⟨⟩ ⟨⟩) ⟨⟩ ⟨⟩ ⟨⟩) (Ge P G h ops all L (q+1) [] ((St.mk tm bx nx lg).put dst (.sc undef)) KS ⟨⟩ ⟨⟩ ⟨⟩ ⟨⟩ ⟨⟩) ⟨⟩ ⟨⟩ ⟨⟩:=
 (show zmi P G h ops L q H .bar (some ⟨dst,op,ty,pos,af,g⟩) ⟨tm,bx,nx,lg⟩ KS=_ from rfl)
theorem zjG {KS:St->Prop} {all rest:List Oper} {q:Nat} {L:List (Nat×MFl)} {H:List UV} {fr:List Nat} {dst:Option Tmp} {ty:TypeId} {pos:String} {af:Array Edge}:xU P G h ops all L q H (.flt fr) 0 (⟨dst,.store t x y,ty,pos,af,none⟩ :: rest) ⟨tm,bx,nx,lg⟩ KS ⟨⟩ ⟨⟩ ⟨⟩ ⟨⟩ ⟨⟩ ⟨⟩ =
  jl P G h (.store t x y) ⟨tm,bx,nx,lg⟩ (fun c σ'=>zoc fr σ'.bx H ⟨⟩/\Ge P G h ops all L (q+1) H ⟨j6 tm dst c,σ'.bx,σ'.nx,lg⟩ KS ⟨⟩ ⟨⟩ ⟨⟩ ⟨⟩ ⟨⟩) ⟨⟩ ⟨⟩ ⟨⟩:=
 (show ((none:Option (Nat×Bool))=none/\Qu P t (zo G tm x) (zo G tm y) ⟨tm,bx,nx,lg⟩ fun c σ'=>YY fr σ'.bx H/\mix P G h ops L (q+1) H ⟨j6 tm dst c,σ'.bx,σ'.nx,lg⟩ KS)=_ from propext ⟨fun h=>h.2,fun h=>⟨rfl,h⟩⟩)
theorem zkU {KS:St->Prop} {all rest:List Oper} {q:Nat} {L:List (Nat×MFl)} {H:List UV} {fr:List Nat} {dst:Option Tmp} {ty:TypeId} {pos:String} {af:Array Edge}:xU P G h ops all L q H (.flt fr) 0 (⟨dst,.call ⟨.builtin .append,#[x,y],#[t,t]⟩,ty,pos,af,none⟩ :: rest) ⟨tm,bx,nx,lg⟩ KS ⟨⟩ ⟨⟩ ⟨⟩ ⟨⟩ ⟨⟩ ⟨⟩ =
  VN P t (zo G tm x) (zo G tm y) ⟨tm,bx,nx,lg⟩ (fun c σ'=>zoc fr σ'.bx H ⟨⟩/\Ge P G h ops all L (q+1) H ⟨j6 tm dst c,σ'.bx,σ'.nx,lg⟩ KS ⟨⟩ ⟨⟩ ⟨⟩ ⟨⟩ ⟨⟩) ⟨⟩:=
 (show ((none:Option (Nat×Bool))=none/\t=t/\Ja P t (zo G tm x) (zo G tm y) ⟨tm,bx,nx,lg⟩ fun c σ'=>YY fr σ'.bx H/\mix P G h ops L (q+1) H ⟨j6 tm dst c,σ'.bx,σ'.nx,lg⟩ KS)=_ from propext ⟨fun h=>h.2.2,fun h=>⟨rfl,rfl,h⟩⟩)
theorem zlq {p:Prop} [Decidable p]:(if p then True else True)=True:=ite_self _
theorem zoz {fr:List Nat} {b:List (List C)}:zoc fr b [] ⟨⟩=True:=(rfl)
theorem zn0 {fr:List Nat} {b:List (List C)} {k:Nat} {f:List (List C)->Prop} {r:List UV}:zoc fr b ((k,f) :: r) ⟨⟩=((if k∈fr then f b else True)/\zoc fr b r ⟨⟩):=(show ((match fr.contains k with | true=>f b | false=>True)/\YY fr b r)=((if k∈fr then f b else True)/\YY fr b r) from by
 cases hq:fr.contains k with
 | true=>rw[if_pos (by simpa using hq)]
 | false=>rw[if_neg fun h=>by simp[h]at hq])
theorem zhw {KS:St->Prop} {l:List Oper} {a s:Nat}:Nt P G h l.toArray (Y0 a s) σ KS ⟨⟩ ⟨⟩ ⟨⟩=YP P G l.toArray a s l 0 none σ KS ⟨⟩ ⟨⟩ ⟨⟩:=(show GZ P G h l.toArray (Y0 a s) σ KS=qT P G l.toArray a s l 0 none σ KS from by unfold GZ;rw[Mp])
theorem zcY {KS:St->Prop} {a s i:Nat} {cs:Option (List C)} {l:List Oper}:YP P G l.toArray a s [] i cs σ KS ⟨⟩ ⟨⟩ ⟨⟩=zjv cs ((l[a]?).bind (·.dst)) σ KS ⟨⟩:=(show qT P G l.toArray a s [] i cs σ KS=zlK cs ((l[a]?).bind (·.dst)) σ KS from by simp only[qT,zlK,List.getElem?_toArray];rfl)
theorem zdC {KS:St->Prop} {a s:Nat} {cs:Option (List C)} {dst:Option Tmp} {ty:TypeId} {pos:String} {af:Array Edge} {g:Option (Nat×Bool)} {rest:List Oper}:YP P G ops a s (⟨dst,.alloc t,ty,pos,af,g⟩ :: rest) a cs ⟨tm,bx,nx,lg⟩ KS ⟨⟩ ⟨⟩ ⟨⟩=zi0 (lay P t) (YP P G ops a s rest (a+1) cs ⟨j6 tm dst .any,bx,nx,lg⟩ KS ⟨⟩ ⟨⟩ ⟨⟩) ⟨⟩:=(show qT P G ops a s (⟨dst,.alloc t,ty,pos,af,g⟩ :: rest) a cs ⟨tm,bx,nx,lg⟩ KS=zh1 (lay P t) (qT P G ops a s rest (a+1) cs ⟨j6 tm dst .any,bx,nx,lg⟩ KS) from by simp only[qT,if_true])
theorem zcp {KS:St->Prop} {a s:Nat} {cs:Option (List C)} {dst:Option Tmp} {ty:TypeId} {pos:String} {af:Array Edge} {g:Option (Nat×Bool)} {rest:List Oper} (hsa:(s==a)=false):YP P G ops a s (⟨dst,.store t y x,ty,pos,af,g⟩ :: rest) s cs ⟨tm,bx,nx,lg⟩ KS ⟨⟩ ⟨⟩ ⟨⟩=zjn (lay P t) (zo G tm x) (fun c=>YP P G ops a s rest (s+1) (some c.cells) ⟨j6 tm dst .any,bx,nx,lg⟩ KS ⟨⟩ ⟨⟩ ⟨⟩) ⟨⟩:=(show qT P G ops a s (⟨dst,.store t y x,ty,pos,af,g⟩ :: rest) s cs ⟨tm,bx,nx,lg⟩ KS=zgc (lay P t) (zo G tm x) fun c=>qT P G ops a s rest (s+1) (some c.cells) ⟨j6 tm dst .any,bx,nx,lg⟩ KS from by simp only[beq_eq_false_iff_ne]at hsa;simp only[qT,if_neg hsa,if_true])
theorem ziS {KS:St->Prop} {a s i:Nat} {cs:Option (List C)} {dst:Option Tmp} {ty:TypeId} {pos:String} {af:Array Edge} {g:Option (Nat×Bool)} {rest:List Oper} {op:Op} (hia:(i==a)=false) (his:(i==s)=false):YP P G ops a s (⟨dst,op,ty,pos,af,g⟩ :: rest) i cs ⟨tm,bx,nx,lg⟩ KS ⟨⟩ ⟨⟩ ⟨⟩=YH ops tm g (qO P G bx (zo G tm) op nx (fun c nx'=>YP P G ops a s rest (i+1) cs ⟨j6 tm dst c,bx,nx',lg⟩ KS ⟨⟩ ⟨⟩ ⟨⟩) ⟨⟩ ⟨⟩ ⟨⟩) (YP P G ops a s rest (i+1) cs ⟨j6 tm dst (.sc undef),bx,nx,lg⟩ KS ⟨⟩ ⟨⟩ ⟨⟩) ⟨⟩ ⟨⟩ ⟨⟩:=(show qT P G ops a s (⟨dst,op,ty,pos,af,g⟩ :: rest) i cs ⟨tm,bx,nx,lg⟩ KS=qQ ops tm g (jU P G bx (zo G tm) op nx fun c nx'=>qT P G ops a s rest (i+1) cs ⟨j6 tm dst c,bx,nx',lg⟩ KS) (qT P G ops a s rest (i+1) cs ⟨j6 tm dst (.sc undef),bx,nx,lg⟩ KS) from by simp only[beq_eq_false_iff_ne]at hia his;simp only[qT,if_neg hia,if_neg his])
theorem znW {KS:St->Prop} {cs:List C} {u:Tmp}:zjv (some cs) (some u) ⟨tm,bx,nx,lg⟩ KS ⟨⟩=KS ⟨(u,.ptr bx.length 0) :: tm,bx++[cs],nx,lg⟩:=(rfl)
theorem zn3 {kd:LK} {k b1:Nat} {z1:List Value}:zi0 (some ⟨kd,k,b1,some z1⟩) X ⟨⟩=(z1.length=k/\(z1.all Value.oneCell')=true/\X):=(rfl)
theorem zoM {L:Lay}:zjn (some L) c K ⟨⟩=(c.partB=true/\(c.cells.all C.cellB)=true/\c.cells.length=L.size/\K c):=(rfl)
theorem zmS {KS:St->Prop}:zjb KS ⟨⟩ .normal σ=KS σ:=(rfl)
theorem zev {next:St} {b:Bool}:M3 m tm b next Q ⟨⟩ ⟨⟩ .normal σ=(b=false/\j8 m ⟨[],σ.bx,σ.nx,σ.lg⟩ (next.wt [])):=(rfl)
theorem yE {next:St} {b:Bool}:M3 m tm b next Q ⟨⟩ ⟨⟩ .ret σ=(b=true/\∃ σ':St,σ'.bx.length=m/\j8 m ⟨[],σ.bx,σ.nx,σ.lg⟩ (σ'.wt [])/\Q .ret (σ'.wt tm)):=(rfl)
theorem zq6 {tm2:List (Nat×C)}:St.wt ⟨tm,bx,nx,lg⟩ tm2=⟨tm2,bx,nx,lg⟩:=(rfl)
theorem zho {cs:List C}:Zd [] cs tm=tm:=(rfl)
theorem zl6 {u:Nat} {ps:List Tmp} {cs:List C}:Zd (u :: ps) (c :: cs) tm=Zd ps cs ((u,c) :: tm):=(rfl)
theorem zjI:UC m [] = []:=(rfl)
theorem znw {u:Nat} {r:List (Nat×C)}:UC m ((u,c) :: r)=(u,c.sel (kh m)) :: UC m r:=(rfl)
theorem zoU {next:St->Prop}:vR next Q ⟨⟩ ⟨⟩ .normal σ=next σ:=(rfl)
theorem xa {next:St->Prop} {id:Nat}:vR next Q ⟨⟩ ⟨⟩ (.exit id) σ=Q (.exit id) σ:=(rfl)
theorem uS {next:St->Prop}:vR next Q ⟨⟩ ⟨⟩ .ret σ=Q .ret σ:=(rfl)
theorem zeT {id:Nat}:Ui id Q ⟨⟩ .normal σ=Q .normal σ:=(rfl)
theorem NY {id:Nat}:Ui id Q ⟨⟩ (.exit id) σ=Q .normal σ:=(show Mm id Q (.exit id) σ=Q .normal σ from if_pos rfl)
theorem NW {id id2:Nat} (h:(id2==id)=false):Ui id Q ⟨⟩ (.exit id2) σ=Q (.exit id2) σ:=(show Mm id Q (.exit id2) σ=Q (.exit id2) σ from if_neg (by simpa using h))
theorem yj {id:Nat}:Ui id Q ⟨⟩ .ret σ=Q .ret σ:=(rfl)
theorem za1:kY Q ⟨⟩ .normal σ=Q .normal σ:=(rfl)
theorem NT:kY Q ⟨⟩ .ret σ=Q .ret σ:=(rfl)
theorem zgQ {next:St->Prop}:yX next Q ⟨⟩ ⟨⟩ .normal σ=next σ:=(rfl)
theorem xH {next:St->Prop} {id:Nat}:yX next Q ⟨⟩ ⟨⟩ (.exit id) σ=Q (.exit id) σ:=(rfl)
theorem zbm {next:St->Prop}:yX next Q ⟨⟩ ⟨⟩ .ret σ=Q .ret σ:=(rfl)
theorem zlw {rs:List ResultVar}:NJ P rs K3 ⟨⟩ .normal σ=zaC P σ rs (fun c=>K3 c σ) ⟨⟩:=(rfl)
theorem zlT {rs:List ResultVar}:NJ P rs K3 ⟨⟩ .ret σ=zaC P σ rs (fun c=>K3 c σ) ⟨⟩:=(rfl)
theorem znu:zaC P σ [] K ⟨⟩=K (.tup []):=(rfl)
theorem znt {a:ResultVar}:zaC P σ [a] K ⟨⟩=JU P σ a K ⟨⟩:=(rfl)
theorem znY {a b:ResultVar}:zaC P σ [a,b] K ⟨⟩=JU P σ a (fun c=>JU P σ b (fun d=>K (.tup [c,d])) ⟨⟩) ⟨⟩:=(rfl)
theorem zor {a b c1:ResultVar}:zaC P σ [a,b,c1] K ⟨⟩=JU P σ a (fun c=>JU P σ b (fun d=>JU P σ c1 (fun e=>K (.tup [c,d,e])) ⟨⟩) ⟨⟩) ⟨⟩:=(rfl)
theorem zmr {u:Nat}:JU P ⟨tm,bx,nx,lg⟩ (.tmp u) K ⟨⟩=K (ja tm u):=(rfl)
theorem zoZ {u:Nat}:JU P ⟨tm,bx,nx,lg⟩ (.cell u t) K ⟨⟩=vt P t (ja tm u) bx K ⟨⟩:=(rfl)
theorem zkF {KS:St->Prop}:zdz P G h ops [] σ KS ⟨⟩ ⟨⟩ ⟨⟩ ⟨⟩=KS σ:=(rfl)
theorem zn5 {KS:St->Prop} {dst:Option Tmp} {op:Op} {ty:TypeId} {pos:String} {af:Array Edge} {g:Option (Nat×Bool)} {rest:List Oper}:zdz P G h ops (⟨dst,op,ty,pos,af,g⟩ :: rest) ⟨tm,bx,nx,lg⟩ KS ⟨⟩ ⟨⟩ ⟨⟩ ⟨⟩=YH ops tm g (jl P G h op ⟨tm,bx,nx,lg⟩ (fun c σ'=>zdz P G h ops rest (σ'.put dst c) KS ⟨⟩ ⟨⟩ ⟨⟩ ⟨⟩) ⟨⟩ ⟨⟩ ⟨⟩) (zdz P G h ops rest (St.put ⟨tm,bx,nx,lg⟩ dst (.sc undef)) KS ⟨⟩ ⟨⟩ ⟨⟩ ⟨⟩) ⟨⟩ ⟨⟩ ⟨⟩:=(rfl)
theorem zgM {KS:St->Prop}:YU P G h ops [] brs σ KS ⟨⟩ ⟨⟩ ⟨⟩ ⟨⟩=KS σ:=(rfl)
theorem zhh {KS:St->Prop} {dst:Option Tmp} {op:Op} {ty:TypeId} {pos:String} {af:Array Edge} {g:Option (Nat×Bool)} {rest:List Oper}:YU P G h ops (⟨dst,op,ty,pos,af,g⟩ :: rest) [] ⟨tm,bx,nx,lg⟩ KS ⟨⟩ ⟨⟩ ⟨⟩ ⟨⟩=YH ops tm g (qO P G bx (zo G tm) op nx (fun c nx'=>YU P G h ops rest [] ⟨j6 tm dst c,bx,nx',lg⟩ KS ⟨⟩ ⟨⟩ ⟨⟩ ⟨⟩) ⟨⟩ ⟨⟩ ⟨⟩) (YU P G h ops rest [] ⟨j6 tm dst (.sc undef),bx,nx,lg⟩ KS ⟨⟩ ⟨⟩ ⟨⟩ ⟨⟩) ⟨⟩ ⟨⟩ ⟨⟩:=(rfl)
theorem ziV {KS:St->Prop} {dst:Option Tmp} {op:Op} {ty:TypeId} {pos:String} {af:Array Edge} {g:Option (Nat×Bool)} {rest:List Oper}:YU P G h ops (⟨dst,op,ty,pos,af,g⟩ :: rest) (false :: brs) ⟨tm,bx,nx,lg⟩ KS ⟨⟩ ⟨⟩ ⟨⟩ ⟨⟩=YH ops tm g (qO P G bx (zo G tm) op nx (fun c nx'=>YU P G h ops rest brs ⟨j6 tm dst c,bx,nx',lg⟩ KS ⟨⟩ ⟨⟩ ⟨⟩ ⟨⟩) ⟨⟩ ⟨⟩ ⟨⟩) (YU P G h ops rest brs ⟨j6 tm dst (.sc undef),bx,nx,lg⟩ KS ⟨⟩ ⟨⟩ ⟨⟩ ⟨⟩) ⟨⟩ ⟨⟩ ⟨⟩:=(rfl)
theorem zgz {KS:St->Prop} {dst:Option Tmp} {op:Op} {ty:TypeId} {pos:String} {af:Array Edge} {g:Option (Nat×Bool)} {rest:List Oper}:YU P G h ops (⟨dst,op,ty,pos,af,g⟩ :: rest) (true :: brs) ⟨tm,bx,nx,lg⟩ KS ⟨⟩ ⟨⟩ ⟨⟩ ⟨⟩=YH ops tm g (jl P G h op ⟨tm,bx,nx,lg⟩ (fun c σ'=>YU P G h ops rest brs (σ'.put dst c) KS ⟨⟩ ⟨⟩ ⟨⟩ ⟨⟩) ⟨⟩ ⟨⟩ ⟨⟩) (YU P G h ops rest brs ⟨j6 tm dst (.sc undef),bx,nx,lg⟩ KS ⟨⟩ ⟨⟩ ⟨⟩ ⟨⟩) ⟨⟩ ⟨⟩ ⟨⟩:=(rfl)
theorem zh8:YH ops tm none X Y ⟨⟩ ⟨⟩ ⟨⟩=X:=(rfl)
theorem zk6 {l:List Oper} {j:Nat} {want:Bool}:YH l.toArray tm (some (j,want)) X Y ⟨⟩ ⟨⟩ ⟨⟩=zpg ((l[j]?).bind (·.dst)) tm want X Y ⟨⟩ ⟨⟩:=(show qQ l.toArray tm (some (j,want)) X Y=aGd ((l[j]?).bind (·.dst)) tm want X Y from by simp only[qQ,List.getElem?_toArray];rfl)
theorem zoa {u:Tmp}:zpg (some u) tm true X Y ⟨⟩ ⟨⟩=zix (ja tm u) Y X Y ⟨⟩ ⟨⟩ ⟨⟩:=(rfl)
theorem znJ {u:Tmp}:zpg (some u) tm false X Y ⟨⟩ ⟨⟩=zix (ja tm u) Y Y X ⟨⟩ ⟨⟩ ⟨⟩:=(rfl)
theorem zkV {U:Prop} {b:Bool}:zix (.sc (.bool b)) U X Y ⟨⟩ ⟨⟩ ⟨⟩=zll (.sc (.bool b)) X Y ⟨⟩ ⟨⟩:=(rfl)
theorem zlM {U:Prop}:zix (.sc undef) U X Y ⟨⟩ ⟨⟩ ⟨⟩=U:=(rfl)
theorem uJ {u:Tmp}:St.put ⟨tm,bx,nx,lg⟩ (some u) c=⟨(u,c) :: tm,bx,nx,lg⟩:=(rfl)
theorem uM:St.put ⟨tm,bx,nx,lg⟩ none c=⟨tm,bx,nx,lg⟩:=(rfl)
theorem xX {u:Tmp}:j6 tm (some u) c=(u,c) :: tm:=(rfl)
theorem yp:j6 tm none c=tm:=(rfl)
theorem UR {n:Nat} {ps:List (Nat×Operand)}:jl P G h (.buildSlice t n ps.toArray) ⟨tm,bx,nx,lg⟩ K3 ⟨⟩ ⟨⟩ ⟨⟩=if h.bx t then U2 P t n (ps.map fun p=>(p.1,zo G tm p.2)) ⟨tm,bx,nx,lg⟩ K3 ⟨⟩ else Xg P t n (ps.map fun p=>(p.1,zo G tm p.2)) nx (fun c nx'=>K3 c ⟨tm,bx,nx',lg⟩) ⟨⟩:=(rfl)
theorem UG {n:Nat} {ps:List (Nat×Operand)} {ev:Operand->C}:qO P G bx ev (.buildSlice t n ps.toArray) nx K2 ⟨⟩ ⟨⟩ ⟨⟩=HJ P t n (ps.map fun p=>(p.1,ev p.2)) nx K2 ⟨⟩:=(rfl)
theorem zpL:HJ P t 0 [] nx K2 ⟨⟩=zo0 P (lay P t) nx K2 ⟨⟩:=(rfl)
theorem zpJ {n:Nat} {ps:List (Nat×C)}:HJ P t (n+1) ps nx K2 ⟨⟩=Xg P t (n+1) ps nx K2 ⟨⟩:=(rfl)
theorem zpY {e s b:Nat} {z1:Option (List Value)}:zo0 P (some ⟨.slice e,s,b,z1⟩) nx K2 ⟨⟩=znS (lay P e) nx K2 ⟨⟩:=(rfl)
theorem zp7 {kd:LK} {k b:Nat} {z1:List Value}:znS (some ⟨kd,k,b,some z1⟩) nx K2 ⟨⟩=(z1.length=k/\0<k/\K2 (.tight k []) nx):=(rfl)
theorem zo5:Hd.bx ⟨p,yd,bf⟩ t=(bf (1000000+t)).headD false:=(rfl)
theorem zlW:Hd.bx2 ⟨p,yd,bf⟩ t=((bf (1000000+t)).drop 1).headD false:=(rfl)
theorem zhX:jl P G h (.move x) ⟨tm,bx,nx,lg⟩ K3 ⟨⟩ ⟨⟩ ⟨⟩=K3 (zo G tm x) ⟨tm,bx,nx,lg⟩:=(rfl)
theorem zib {ev:Operand->C}:qO P G bx ev (.move x) nx K2 ⟨⟩ ⟨⟩ ⟨⟩=K2 (ev x) nx:=(rfl)
theorem uR:jl P G h (.assign x) ⟨tm,bx,nx,lg⟩ K3 ⟨⟩ ⟨⟩ ⟨⟩=K3 (zo G tm x) ⟨tm,bx,nx,lg⟩:=(rfl)
theorem zaS {ev:Operand->C}:qO P G bx ev (.assign x) nx K2 ⟨⟩ ⟨⟩ ⟨⟩=K2 (ev x) nx:=(rfl)
theorem zhA:jl P G h (.pick x y z) ⟨tm,bx,nx,lg⟩ K3 ⟨⟩ ⟨⟩ ⟨⟩=zll (zo G tm x) (K3 (zo G tm y) ⟨tm,bx,nx,lg⟩) (K3 (zo G tm z) ⟨tm,bx,nx,lg⟩) ⟨⟩ ⟨⟩:=(rfl)
theorem zgW {ev:Operand->C}:qO P G bx ev (.pick x y z) nx K2 ⟨⟩ ⟨⟩ ⟨⟩=zll (ev x) (K2 (ev y) nx) (K2 (ev z) nx) ⟨⟩ ⟨⟩:=(rfl)
theorem zde {ps:List (Nat×Operand)}:jl P G h (.build t ps.toArray) ⟨tm,bx,nx,lg⟩ K3 ⟨⟩ ⟨⟩ ⟨⟩=MM P t (ps.map fun p=>(p.1,zo G tm p.2)) (fun c=>K3 c ⟨tm,bx,nx,lg⟩) ⟨⟩:=(rfl)
theorem zdw {ps:List (Nat×Operand)} {ev:Operand->C}:qO P G bx ev (.build t ps.toArray) nx K2 ⟨⟩ ⟨⟩ ⟨⟩=MM P t (ps.map fun p=>(p.1,ev p.2)) (fun c=>K2 c nx) ⟨⟩:=(rfl)
theorem zg1:jl P G h (.load t x) ⟨tm,bx,nx,lg⟩ K3 ⟨⟩ ⟨⟩ ⟨⟩=vt P t (zo G tm x) bx (fun c=>K3 c ⟨tm,bx,nx,lg⟩) ⟨⟩:=(rfl)
theorem zif {ev:Operand->C}:qO P G bx ev (.load t x) nx K2 ⟨⟩ ⟨⟩ ⟨⟩=vt P t (ev x) bx (fun c=>K2 c nx) ⟨⟩:=(rfl)
theorem Nv:jl P G h (.nilCheck x) ⟨tm,bx,nx,lg⟩ K3 ⟨⟩ ⟨⟩ ⟨⟩=zle (zo G tm x) (fun c=>K3 c ⟨tm,bx,nx,lg⟩) ⟨⟩:=(rfl)
theorem NI {ev:Operand->C}:qO P G bx ev (.nilCheck x) nx K2 ⟨⟩ ⟨⟩ ⟨⟩=zle (ev x) (fun c=>K2 c nx) ⟨⟩:=(rfl)
theorem zd2 {op:BinOp}:jl P G h (.binOp op t x y t') ⟨tm,bx,nx,lg⟩ K3 ⟨⟩ ⟨⟩ ⟨⟩=G4 P t op (zo G tm x) (zo G tm y) (fun c=>K3 c ⟨tm,bx,nx,lg⟩) ⟨⟩:=(rfl)
theorem zdU {op:BinOp} {ev:Operand->C}:qO P G bx ev (.binOp op t x y t') nx K2 ⟨⟩ ⟨⟩ ⟨⟩=G4 P t op (ev x) (ev y) (fun c=>K2 c nx) ⟨⟩:=(rfl)
theorem zie {op:UnOp}:jl P G h (.unOp op t x) ⟨tm,bx,nx,lg⟩ K3 ⟨⟩ ⟨⟩ ⟨⟩=zpf op (zo G tm x) (fun c=>K3 c ⟨tm,bx,nx,lg⟩) ⟨⟩:=(rfl)
theorem zgi {op:UnOp} {ev:Operand->C}:qO P G bx ev (.unOp op t x) nx K2 ⟨⟩ ⟨⟩ ⟨⟩=zpf op (ev x) (fun c=>K2 c nx) ⟨⟩:=(rfl)
theorem xj:jl P G h (.convert t t' x) ⟨tm,bx,nx,lg⟩ K3 ⟨⟩ ⟨⟩ ⟨⟩=MW P bx t t' (zo G tm x) (fun c=>K3 c ⟨tm,bx,nx,lg⟩) ⟨⟩:=(rfl)
theorem N4 {fn:Fn} {fs cs:List Operand}:jl P G h (.makeFunc fn fs.toArray cs.toArray) ⟨tm,bx,nx,lg⟩ K3 ⟨⟩ ⟨⟩ ⟨⟩=K3 (.clo fn (fs.map (zo G tm)) (cs.map (zo G tm))) ⟨tm,bx,nx,lg⟩:=(rfl)
theorem zew {lo hi mx:Option Operand}:jl P G h (.slice t x lo hi mx) ⟨tm,bx,nx,lg⟩ K3 ⟨⟩ ⟨⟩ ⟨⟩=xt P t (zo G tm x) (lo.map (zo G tm)) (hi.map (zo G tm)) (mx.map (zo G tm)) (fun c=>K3 c ⟨tm,bx,nx,lg⟩) ⟨⟩:=(rfl)
theorem zdi {lo hi mx:Option Operand} {ev:Operand->C}:qO P G bx ev (.slice t x lo hi mx) nx K2 ⟨⟩ ⟨⟩ ⟨⟩=xt P t (ev x) (lo.map ev) (hi.map ev) (mx.map ev) (fun c=>K2 c nx) ⟨⟩:=(rfl)
theorem kS {f:Nat}:jl P G h (.fieldAddr t x f) ⟨tm,bx,nx,lg⟩ K3 ⟨⟩ ⟨⟩ ⟨⟩=XZ P t (zo G tm x) f (fun c=>K3 c ⟨tm,bx,nx,lg⟩) ⟨⟩:=(rfl)
theorem He {f:Nat} {ev:Operand->C}:qO P G bx ev (.fieldAddr t x f) nx K2 ⟨⟩ ⟨⟩ ⟨⟩=XZ P t (ev x) f (fun c=>K2 c nx) ⟨⟩:=(rfl)
theorem zd3 {f:Nat}:jl P G h (.field t x f) ⟨tm,bx,nx,lg⟩ K3 ⟨⟩ ⟨⟩ ⟨⟩=yk P t (zo G tm x) f (fun c=>K3 c ⟨tm,bx,nx,lg⟩) ⟨⟩:=(rfl)
theorem zcj {f:Nat} {ev:Operand->C}:qO P G bx ev (.field t x f) nx K2 ⟨⟩ ⟨⟩ ⟨⟩=yk P t (ev x) f (fun c=>K2 c nx) ⟨⟩:=(rfl)
theorem HK:jl P G h (.indexAddr t x y) ⟨tm,bx,nx,lg⟩ K3 ⟨⟩ ⟨⟩ ⟨⟩=Qd P t (zo G tm x) (zo G tm y) (fun c=>K3 c ⟨tm,bx,nx,lg⟩) ⟨⟩:=(rfl)
theorem HZ {ev:Operand->C}:qO P G bx ev (.indexAddr t x y) nx K2 ⟨⟩ ⟨⟩ ⟨⟩=Qd P t (ev x) (ev y) (fun c=>K2 c nx) ⟨⟩:=(rfl)
theorem zdg:jl P G h (.index t x y) ⟨tm,bx,nx,lg⟩ K3 ⟨⟩ ⟨⟩ ⟨⟩=xN P t (zo G tm x) (zo G tm y) (fun c=>K3 c ⟨tm,bx,nx,lg⟩) ⟨⟩:=(rfl)
theorem zdt {ev:Operand->C}:qO P G bx ev (.index t x y) nx K2 ⟨⟩ ⟨⟩ ⟨⟩=xN P t (ev x) (ev y) (fun c=>K2 c nx) ⟨⟩:=(rfl)
theorem yu {i:Nat}:jl P G h (.extract x i) ⟨tm,bx,nx,lg⟩ K3 ⟨⟩ ⟨⟩ ⟨⟩=V9 (zo G tm x) i (fun c=>K3 c ⟨tm,bx,nx,lg⟩) ⟨⟩:=(rfl)
theorem MH {i:Nat} {ev:Operand->C}:qO P G bx ev (.extract x i) nx K2 ⟨⟩ ⟨⟩ ⟨⟩=V9 (ev x) i (fun c=>K2 c nx) ⟨⟩:=(rfl)
theorem zb9 {us:List Operand} {ts:List TypeId}:jl P G h (.call ⟨.value x,us.toArray,ts.toArray⟩) ⟨tm,bx,nx,lg⟩ K3 ⟨⟩ ⟨⟩ ⟨⟩=xd P G h (zo G tm x) (us.map (zo G tm)) ⟨tm,bx,nx,lg⟩ K3 ⟨⟩ ⟨⟩:=(rfl)
theorem zcX {us:List Operand} {ts:List TypeId} {ev:Operand->C}:qO P G bx ev (.call ⟨.value x,us.toArray,ts.toArray⟩) nx K2 ⟨⟩ ⟨⟩ ⟨⟩=zfj P G (ev x) (us.map ev) nx K2 ⟨⟩:=(rfl)
theorem zlG:jl P G h (.call ⟨.builtin .len,#[x],#[t]⟩) ⟨tm,bx,nx,lg⟩ K3 ⟨⟩ ⟨⟩ ⟨⟩=yA P t (zo G tm x) (fun c=>K3 c ⟨tm,bx,nx,lg⟩) ⟨⟩:=(rfl)
theorem zj3 {ev:Operand->C}:qO P G bx ev (.call ⟨.builtin .len,#[x],#[t]⟩) nx K2 ⟨⟩ ⟨⟩ ⟨⟩=yA P t (ev x) (fun c=>K2 c nx) ⟨⟩:=(rfl)
theorem M8 {r:Option Operand}:jl P G h (.makeMap t r) ⟨tm,bx,nx,lg⟩ K3 ⟨⟩ ⟨⟩ ⟨⟩=zoB (zfF P t) t (r.map (zo G tm)) nx (fun c nx'=>K3 c ⟨tm,bx,nx',lg⟩) ⟨⟩:=(rfl)
theorem zn4 {kd:MKd} {z:C}:zoB (some (kd,z)) t none nx K2 ⟨⟩=K2 (.mo nx t kd.nil []) (nx+1):=(rfl)
theorem zj5 {k:IntKind}:MKd.nil (.int k) = .int k []:=(rfl)
theorem uF {ok:Bool} {ev:Operand->C}:qO P G bx ev (.lookup t x y ok) nx K2 ⟨⟩ ⟨⟩ ⟨⟩=znT (zfF P t) t (ev x) (ev y) ok (fun c=>K2 c nx) ⟨⟩:=(rfl)
theorem zmq {k k2 q:IntKind} {z:C} {id:Nat} {t2:TypeId} {l:List Int} {vs:List C} {n:Int} {ok:Bool}:znT (some (.int k,z)) t (.mo id t2 (.int k2 l) vs) (.sc (.int q n)) ok K ⟨⟩=(t2=t/\k2=k/\q=k/\zbA (zjd n l vs) z ok K ⟨⟩):=(rfl)
theorem zg5 {z:C}:zbA (some c) z false K ⟨⟩=K c:=(rfl)
theorem zbc {w:Operand}:jl P G h (.insert t x y w) ⟨tm,bx,nx,lg⟩ K3 ⟨⟩ ⟨⟩ ⟨⟩=znC (zfF P t) t (zo G tm x) (zo G tm y) (zo G tm w) ⟨tm,bx,nx,lg⟩ K3 ⟨⟩:=(rfl)
theorem zox {k k2 q:IntKind} {z:C} {id:Nat} {t2:TypeId} {l:List Int} {vs:List C} {n:Int}:znC (some (.int k,z)) t (.mo id t2 (.int k2 l) vs) (.sc (.int q n)) d ⟨tm,bx,nx,lg⟩ K3 ⟨⟩=(t2=t/\k2=k/\q=k/\K3 .any ⟨zfB id (.int k (UL n d.frz l vs).1) (UL n d.frz l vs).2 tm,zdq id (.int k (UL n d.frz l vs).1) (UL n d.frz l vs).2 bx,nx,lg⟩):=(rfl)
theorem zaz:jl P G h (.call ⟨.builtin .append,#[x,y],#[t,t]⟩) ⟨tm,bx,nx,lg⟩ K3 ⟨⟩ ⟨⟩ ⟨⟩=if h.bx t then if h.bx2 t then VN P t (zo G tm x) (zo G tm y) ⟨tm,bx,nx,lg⟩ K3 ⟨⟩ else ua P h.p t (zo G tm x) (zo G tm y) ⟨tm,bx,nx,lg⟩ K3 ⟨⟩ else Gj P t (zo G tm x) (zo G tm y) ⟨tm,bx,nx,lg⟩ K3 ⟨⟩:=(show MF P G h (.call ⟨.builtin .append,#[x,y],#[t,t]⟩) ⟨tm,bx,nx,lg⟩ K3=if h.bx t then if h.bx2 t then Ja P t (zo G tm x) (zo G tm y) ⟨tm,bx,nx,lg⟩ K3 else Vv P h.p t (zo G tm x) (zo G tm y) ⟨tm,bx,nx,lg⟩ K3 else HD P t (zo G tm x) (zo G tm y) ⟨tm,bx,nx,lg⟩ K3 from by simp[MF,zaw])
theorem zg7 (h0:(t'==t)=false):jl P G h (.call ⟨.builtin .append,#[x,y],#[t,t']⟩) ⟨tm,bx,nx,lg⟩ K3 ⟨⟩ ⟨⟩ ⟨⟩=vZ P t t' (zo G tm x) (zo G tm y) ⟨tm,bx,nx,lg⟩ K3 ⟨⟩:=(show MF P G h (.call ⟨.builtin .append,#[x,y],#[t,t']⟩) ⟨tm,bx,nx,lg⟩ K3=HF P t t' (zo G tm x) (zo G tm y) ⟨tm,bx,nx,lg⟩ K3 from by simp only[beq_eq_false_iff_ne]at h0;simp[MF,zaw,h0])
theorem zh6:jl P G h (.call ⟨.builtin .copy,#[x,y],#[t,t']⟩) ⟨tm,bx,nx,lg⟩ K3 ⟨⟩ ⟨⟩ ⟨⟩=zds P t (zo G tm x) (zo G tm y) ⟨tm,bx,nx,lg⟩ K3 ⟨⟩:=(show MF P G h (.call ⟨.builtin .copy,#[x,y],#[t,t']⟩) ⟨tm,bx,nx,lg⟩ K3=Z0 P t (zo G tm x) (zo G tm y) ⟨tm,bx,nx,lg⟩ K3 from by simp[MF,zaw])
theorem zkv:jl P G h (.call ⟨.builtin .max,#[x,y],#[t,t']⟩) ⟨tm,bx,nx,lg⟩ K3 ⟨⟩ ⟨⟩ ⟨⟩=zn7 (zo G tm x) (zo G tm y) (fun c=>K3 c ⟨tm,bx,nx,lg⟩) ⟨⟩:=(rfl)
theorem zqA {k k':IntKind} {n m:Int}:zn7 (.sc (.int k n)) (.sc (.int k' m)) K ⟨⟩=K (.sc (.int k (if m>n then m else n))):=(rfl)
theorem zlH:jl P G h (.call ⟨.builtin .cap,#[x],#[t]⟩) ⟨tm,bx,nx,lg⟩ K3 ⟨⟩ ⟨⟩ ⟨⟩=znk P t (zo G tm x) (fun c=>K3 c ⟨tm,bx,nx,lg⟩) ⟨⟩:=(show MF P G h (.call ⟨.builtin .cap,#[x],#[t]⟩) ⟨tm,bx,nx,lg⟩ K3=zo3 P t (zo G tm x) fun c=>K3 c ⟨tm,bx,nx,lg⟩ from by simp[MF,zaw])
theorem zqD:znk P t c K ⟨⟩=zbE (lay P t) c K ⟨⟩:=(rfl)
theorem zhW {i off k n cap:Nat} {e s1 b1:Nat} {z1:Option (List Value)}:zbE (some ⟨.slice e,s1,b1,z1⟩) (.bs i off k n cap) K ⟨⟩=K (.sc (.int .i64 (cap:Int))):=(rfl)
theorem zcR {e s1 b1:Nat} {z1:Option (List Value)}:zbE (some ⟨.slice e,s1,b1,z1⟩) (.sc (.slice none 0 0)) K ⟨⟩=K (.sc (.int .i64 0)):=(rfl)
theorem zaZ {ev:Operand->C}:qO P G bx ev (.call ⟨.builtin .append,#[x,y],#[t,t]⟩) nx K2 ⟨⟩ ⟨⟩ ⟨⟩=kO P t (ev x) (ev y) nx K2 ⟨⟩:=(show jU P G bx ev (.call ⟨.builtin .append,#[x,y],#[t,t]⟩) nx K2=Zg P t (ev x) (ev y) nx K2 from by simp[jU,GT,Vr])
theorem zcH:jl P G h (.alloc t) ⟨tm,bx,nx,lg⟩ K3 ⟨⟩ ⟨⟩ ⟨⟩=zn6 (lay P t) ⟨tm,bx,nx,lg⟩ K3 ⟨⟩:=(rfl)
theorem zjJ:jl P G h (.box t x) ⟨tm,bx,nx,lg⟩ K3 ⟨⟩ ⟨⟩ ⟨⟩=zml (zo G tm x) ⟨tm,bx,nx,lg⟩ K3 ⟨⟩:=(rfl)
theorem zey:jl P G h (.store t x y) ⟨tm,bx,nx,lg⟩ K3 ⟨⟩ ⟨⟩ ⟨⟩=zmU (lay P t) (zo G tm x) (zo G tm y) ⟨tm,bx,nx,lg⟩ K3 ⟨⟩:=(rfl)
theorem zgI {u:Tmp}:zo G tm (.tmp u)=ja tm u:=(rfl)
theorem zay {v:Value}:zo G tm (.const v)=zt v:=(rfl)
theorem zcu {f:FuncId}:zo G tm (.func f) = .clo (.func f) [] []:=(rfl)
theorem M6 {g:Nat}:zo G tm (.global g)=zqR (G g):=(rfl)
theorem yy {cs:List C}:zqR (some cs) = .row cs:=(rfl)
theorem znb {u v:Nat} {r:List (Nat×C)}:ja ((u,c) :: r) v=if v=u then c else ja r v:=(rfl)
theorem yi {k:IntKind} {n:Int}:zt (.int k n) = .sc (.int k n):=(rfl)
theorem Mo {b:Bool}:zt (.bool b) = .sc (.bool b):=(rfl)
theorem xW {l:List UInt8}:zt (.string ⟨l.toArray⟩) = .str l:=(rfl)
theorem H7 {a:Option Addr} {n m:Nat}:zt (.slice a n m) = .sc (.slice a n m):=(rfl)
theorem MR {a:Option Addr}:zt (.pointer a) = .sc (.pointer a):=(rfl)
theorem M7 {a:Option Nat}:zt (.map a) = .sc (.map a):=(rfl)
theorem G9:zt .nilFunc = .sc .nilFunc:=(rfl)
theorem zcm {op:BinOp} {k:IntKind} {a b:Int}:G4 P t op (.sc (.int k a)) (.sc (.int k b)) K ⟨⟩=UT op k a b K ⟨⟩:=(show zmk P t op (.sc (.int k a)) (.sc (.int k b)) K=zpb op k a b K from by simp[zmk])
theorem zdQ {op:BinOp} {a b:List UInt8}:G4 P t op (.str a) (.str b) K ⟨⟩=uW op a b K ⟨⟩:=(rfl)
theorem zbd {op:BinOp} {a b:Bool}:G4 P t op (.sc (.bool a)) (.sc (.bool b)) K ⟨⟩=zc7 (lay P t) op a b K ⟨⟩:=(rfl)
theorem zb3 {op:BinOp} {cs ds:List C}:G4 P t op (.agg cs) (.agg ds) K ⟨⟩=zoq op (kr P t) cs ds K ⟨⟩:=(rfl)
theorem MB {op:BinOp} {k:Nat} {rows:List (List C)}:G4 P t op (.sl k rows) (.sc (.slice none 0 0)) K ⟨⟩=vM (lay P t) op (.sl k rows) K ⟨⟩:=(rfl)
theorem zeV {op:BinOp} {e0:TypeId} {k0 b0:Nat} {z0:Option (List Value)} {k:Nat} {rows:List (List C)}:vM (some ⟨.slice e0,k0,b0,z0⟩) op (.sl k rows) K ⟨⟩=(rows≠[]/\zcr op false K ⟨⟩):=(rfl)
theorem GB {op:BinOp} {a:Option Addr} {n cap:Nat}:G4 P t op (.sc (.slice a n cap)) (.sc (.slice none 0 0)) K ⟨⟩=vM (lay P t) op (.sc (.slice a n cap)) K ⟨⟩:=(rfl)
theorem zfx {op:BinOp} {e0:TypeId} {k0 b0:Nat} {z0:Option (List Value)} {a:Option Addr} {n cap:Nat}:vM (some ⟨.slice e0,k0,b0,z0⟩) op (.sc (.slice a n cap)) K ⟨⟩=zcr op a.isNone K ⟨⟩:=(rfl)
theorem zbq {b:Bool}:zcr .eql b K ⟨⟩=K (.sc (.bool b)):=(rfl)
theorem zcd {lk:List LK} {cs ds:List C}:zoq .neq (some lk) cs ds K ⟨⟩=zme true lk cs ds true K ⟨⟩:=(rfl)
theorem zaK {e:Bool}:zme true [] [] [] e K ⟨⟩=K (.sc (.bool (!e))):=(rfl)
theorem zgF {n e:Bool} {lk:List LK} {k k1 k2:IntKind} {a b:Int} {cs ds:List C}:zme n (.int k :: lk) (.sc (.int k1 a) :: cs) (.sc (.int k2 b) :: ds) e K ⟨⟩=(k1=k/\k2=k/\zme n lk cs ds (e&&decide (a=b)) K ⟨⟩):=(rfl)
theorem zfO {n e:Bool} {lk:List LK} {a b:List UInt8} {cs ds:List C}:zme n (.str :: lk) (.str a :: cs) (.str b :: ds) e K ⟨⟩=zme n lk cs ds (e&&decide (a=b)) K ⟨⟩:=(rfl)
theorem zj8 {op:BinOp} {a b:Bool} {s b1:Nat} {z1:Option (List Value)}:zc7 (some ⟨.bool,s,b1,z1⟩) op a b K ⟨⟩=zjt op a b K ⟨⟩:=(rfl)
theorem zfl {k:IntKind} {a b:Int}:UT .add k a b K ⟨⟩=(inR k (a+b)/\K (.sc (.int k (a+b)))):=(rfl)
theorem zbK {k:IntKind} {a b:Int}:UT .sub k a b K ⟨⟩=(inR k (a-b)/\K (.sc (.int k (a-b)))):=(rfl)
theorem zch {k:IntKind} {a b:Int}:UT .shr k a b K ⟨⟩=(b=1/\K (.sc (.int k (a / 2)))):=(rfl)
theorem zc2 {k:IntKind} {a b:Int}:UT .eql k a b K ⟨⟩=(K (.sc (.bool (decide (a=b))))):=(rfl)
theorem zdR {k:IntKind} {a b:Int}:UT .neq k a b K ⟨⟩=(K (.sc (.bool (!decide (a=b))))):=(rfl)
theorem zc4 {k:IntKind} {a b:Int}:UT .lss k a b K ⟨⟩=(K (.sc (.bool (decide (a<b))))):=(rfl)
theorem zdF {k:IntKind} {a b:Int}:UT .leq k a b K ⟨⟩=(K (.sc (.bool (decide (a<=b))))):=(rfl)
theorem zda {k:IntKind} {a b:Int}:UT .gtr k a b K ⟨⟩=(K (.sc (.bool (decide (b<a))))):=(rfl)
theorem zc6 {k:IntKind} {a b:Int}:UT .geq k a b K ⟨⟩=(K (.sc (.bool (decide (b<=a))))):=(rfl)
theorem zed {a b:List UInt8}:uW .add a b K ⟨⟩=(((a.length+b.length:Nat):Int)<=9223372036854775807/\K (.str (a++b))):=(rfl)
theorem zeU {a b:List UInt8}:uW .eql a b K ⟨⟩=(K (.sc (.bool (decide (a=b))))):=(rfl)
theorem zcM {a b:List UInt8}:uW .neq a b K ⟨⟩=(K (.sc (.bool (!decide (a=b))))):=(rfl)
theorem zdx {a b:List UInt8}:uW .geq a b K ⟨⟩=(K (.sc (.bool (!Op.bytesLess a b)))):=(rfl)
theorem zbW {a b:List UInt8}:uW .gtr a b K ⟨⟩=(K (.sc (.bool (!(Op.bytesLess a b||decide (a=b)))))):=(rfl)
theorem zaB {a b:Bool}:zjt .eql a b K ⟨⟩=K (.sc (.bool (a==b))):=(rfl)
theorem zfN {b:Bool}:zpf .not (.sc (.bool b)) K ⟨⟩=K (.sc (.bool (!b))):=(rfl)
theorem zdE {cs:List C} {i:Nat}:V9 (.tup cs) i K ⟨⟩=zko (cs[i]?) K ⟨⟩:=(rfl)
theorem zpM:zko (some c) K ⟨⟩=K c:=(rfl)
theorem zdI {i off:Nat}:zle (.ptr i off) K ⟨⟩=K (.ptr i off):=(rfl)
theorem znq:vt P t c bx K ⟨⟩=xT (lay P t) c bx K ⟨⟩:=(rfl)
theorem zdN {ev:Operand->C}:qO P G bx ev (.store t x y) nx K2 ⟨⟩ ⟨⟩ ⟨⟩=zoV (lay P t) (ev x) (ev y) bx (fun c=>K2 c nx) ⟨⟩:=(rfl)
theorem zpp {L:Lay} {i off:Nat}:zoV (some L) (.ptr i off) c bx K ⟨⟩=znI (bx[i]?) off L.size c K ⟨⟩:=(rfl)
theorem zqo {cs:List C} {off size:Nat}:znI (some cs) off size c K ⟨⟩=(c.partB=true/\(c.cells.all C.cellB)=true/\c.cells.length=size/\off+size<=cs.length/\ZY ((cs.drop off).take size) c.cells/\K .any):=(rfl)
theorem zam:ZY [] []=True:=(rfl)
theorem zcq {u v:Value} {r s:List C}:ZY (.sc u :: r) (.sc v :: s)=(u=v/\ZY r s):=(rfl)
theorem za8 {u v:List UInt8} {r s:List C}:ZY (.str u :: r) (.str v :: s)=(u=v/\ZY r s):=(rfl)
theorem uP {L:Lay} {i off:Nat}:xT (some L) (.ptr i off) bx K ⟨⟩=zcc (bx[i]?) off L K ⟨⟩:=(rfl)
theorem uq {L:Lay} {cs:List C}:xT (some L) (.row cs) bx K ⟨⟩=ZE L cs K ⟨⟩:=(rfl)
theorem zkb {L:Lay} {off:Nat} {cs:List C}:zcc (some cs) off L K ⟨⟩=ZE L (cs.drop off) K ⟨⟩:=(rfl)
theorem Hm {fs:List (Nat×Nat×Bool)} {s b:Nat} {z1:Option (List Value)} {cs:List C}:ZE ⟨.struct fs,s,b,z1⟩ cs K ⟨⟩=(s<=cs.length/\K (.agg (cs.take s))):=(show JB ⟨.struct fs,s,b,z1⟩ cs K=(s<=cs.length/\K (.agg (cs.take s))) from by simp[JB,LK.agg])
theorem za9 {ik:IntKind} {s b:Nat} {z1:Option (List Value)} {r:List C}:ZE ⟨.int ik,s,b,z1⟩ (c :: r) K ⟨⟩=K c:=(show JB ⟨.int ik,s,b,z1⟩ (c :: r) K=K c from by simp[JB,LK.agg])
theorem xr {s b:Nat} {z1:Option (List Value)} {r:List C}:ZE ⟨.bool,s,b,z1⟩ (c :: r) K ⟨⟩=K c:=(show JB ⟨.bool,s,b,z1⟩ (c :: r) K=K c from by simp[JB,LK.agg])
theorem zaL {s b:Nat} {z1:Option (List Value)} {r:List C}:ZE ⟨.str,s,b,z1⟩ (c :: r) K ⟨⟩=K c:=(show JB ⟨.str,s,b,z1⟩ (c :: r) K=K c from by simp[JB,LK.agg])
theorem GC {e:TypeId} {s b:Nat} {z1:Option (List Value)} {r:List C}:ZE ⟨.slice e,s,b,z1⟩ (c :: r) K ⟨⟩=K c:=(show JB ⟨.slice e,s,b,z1⟩ (c :: r) K=K c from by simp[JB,LK.agg])
theorem GH {s b:Nat} {z1:Option (List Value)} {r:List C}:ZE ⟨.other,s,b,z1⟩ (c :: r) K ⟨⟩=K c:=(show JB ⟨.other,s,b,z1⟩ (c :: r) K=K c from by simp[JB,LK.agg])
theorem zkD {f:Nat}:yk P t c f K ⟨⟩=vx (lay P t) c f K ⟨⟩:=(rfl)
theorem zgs {fs:List (Nat×Nat×Bool)} {s b:Nat} {z1:Option (List Value)} {cs:List C} {f:Nat}:vx (some ⟨.struct fs,s,b,z1⟩) (.agg cs) f K ⟨⟩=vu (fs[f]?) cs K ⟨⟩:=(show xG (some ⟨.struct fs,s,b,z1⟩) (.agg cs) f K=V0 (fs[f]?) cs K from by unfold xG V0;simp only[];cases fs[f]?<;>simp)
theorem zez {off size:Nat} {cs:List C}:vu (some (off,size,false)) cs K ⟨⟩=zko (cs[off]?) K ⟨⟩:=(show V0 (some (off,size,false)) cs K=zpB (cs[off]?) K from by unfold V0 zpB;simp)
theorem zq1 {f:Nat}:XZ P t c f K ⟨⟩=zmC (lay P t) c f K ⟨⟩:=(rfl)
theorem zpI {fs:List (Nat×Nat×Bool)} {s b:Nat} {z1:Option (List Value)} {f:Nat}:zmC (some ⟨.struct fs,s,b,z1⟩) c f K ⟨⟩=zj6 (fs[f]?) c K ⟨⟩:=(rfl)
theorem zhy {off size i q:Nat} {g:Bool}:zj6 (some (off,size+1,g)) (.ptr i q) K ⟨⟩=K (.ptr i (q+off)):=(show znB (some (off,size+1,g)) (.ptr i q) K=K (.ptr i (q+off)) from by simp[znB])
theorem zf7 {off size:Nat} {g:Bool} {cs:List C}:zj6 (some (off,size+1,g)) (.row cs) K ⟨⟩=K (.row (cs.drop off)):=(show znB (some (off,size+1,g)) (.row cs) K=K (.row (cs.drop off)) from by simp[znB])
theorem zrx:Qd P t c d K ⟨⟩=zlb P (lay P t) c d K ⟨⟩:=(rfl)
theorem za6 {e s b:Nat} {z1:Option (List Value)} {k:IntKind} {n:Int}:zlb P (some ⟨.slice e,s,b,z1⟩) c (.sc (.int k n)) K ⟨⟩=zg4 (lay P e) c n K ⟨⟩:=(rfl)
theorem zbg {m e s b:Nat} {z1:Option (List Value)} {k:IntKind} {n:Int}:zlb P (some ⟨.array (m+1) e,s,b,z1⟩) c (.sc (.int k n)) K ⟨⟩=zoS (lay P e) c m n K ⟨⟩:=(rfl)
theorem zej {k:Nat} {rows:List (List C)} {L:Lay} {n:Int}:zg4 (some L) (.sl k rows) n K ⟨⟩=zk9 (C.rows? L.size (.sl k rows)) n K ⟨⟩:=(rfl)
theorem zeF {k:Nat} {rows:List (List C)} {L:Lay} {lo hi mx:Option Int}:zgn (some L) (.sl k rows) lo hi mx K ⟨⟩=zlf (C.rows? L.size (.sl k rows)) L.size lo hi mx K ⟨⟩:=(rfl)
theorem uw {id e k:Nat} {rows:List (List C)} {L:Lay} {n:Int}:zg4 (some L) (.own id e k rows) n K ⟨⟩=zk9 (C.rows? L.size (.own id e k rows)) n K ⟨⟩:=(rfl)
theorem xJ {id e k:Nat} {rows:List (List C)} :MW P bx t t' (.own id e k rows) K ⟨⟩=zeD P t t' (.own id e k rows) K ⟨⟩:=(rfl)
theorem zbf {L:Lay} {lo hi mx:Option Int}:zgn (some L) (.sc (.slice none 0 0)) lo hi mx K ⟨⟩=zmw L.size lo hi mx K ⟨⟩:=(rfl)
theorem zpr {k:Nat} {lo hi:Option Int}:zmw k lo hi none K ⟨⟩=(jr 0 lo hi/\K (.sc (.slice none 0 0))):=(rfl)
theorem uK {v:Value} :MW P bx t t' (.sc v) K ⟨⟩=zeD P t t' (.sc v) K ⟨⟩:=(rfl)
theorem zfg {L:Lay} {n:Int} {j off k m1 cap:Nat}:zg4 (some L) (.bs j off k m1 cap) n K ⟨⟩=(k=L.size/\0<=n/\n<(m1:Int)/\K (.ptr j (off+n.toNat*L.size))):=(rfl)
theorem zcf {L:Lay} {lo hi mx:Option Int} {i off k n cap:Nat}:zgn (some L) (.bs i off k n cap) lo hi mx K ⟨⟩=zkw L.size i off k n cap lo hi mx K ⟨⟩:=(rfl)
theorem zhC {b:Int} {sz i off k n cap:Nat}:zkw sz i off k n cap none (some b) none K ⟨⟩=(n<=cap/\(0<=b/\b<=(cap:Int))/\K (.bs i off k b.toNat cap)):=(rfl)
theorem zgZ {a:Int} {sz i off k n cap:Nat}:zkw sz i off k n cap (some a) none none K ⟨⟩=(sz=k/\n<=cap/\(0<=a/\a<=(n:Int))/\K (.bs i (off+a.toNat*k) k (n-a.toNat) (cap-a.toNat))):=(rfl)
theorem zfM {i off k n cap:Nat}:yA P t (.bs i off k n cap) K ⟨⟩=Mj (lay P t) (n:Int) K ⟨⟩:=(rfl)
theorem zq3 {n:Nat} {ps:List (Nat×C)}:U2 P t n ps ⟨tm,bx,nx,lg⟩ K3 ⟨⟩=znj P (lay P t) n ps ⟨tm,bx,nx,lg⟩ K3 ⟨⟩:=(rfl)
theorem zqa {e s b n:Nat} {z1:Option (List Value)} {ps:List (Nat×C)}:znj P (some ⟨.slice e,s,b,z1⟩) n ps σ K3 ⟨⟩=zoA (lay P e) n ps σ K3 ⟨⟩:=(rfl)
theorem zpO {kd:LK} {k b n:Nat} {z1:List Value} {ps:List (Nat×C)}:zoA (some ⟨kd,k,b,some z1⟩) n ps σ K3 ⟨⟩=(z1.length=k/\0<k/\n*k<=16777216/\(ps.all fun p=>p.2.frz.partB)=true/\zow (Yh (plA k) (List.replicate n (z1.map zt)).flatten (ps.map fun p=>(p.1,p.2.frz))) k n σ K3 ⟨⟩):=(rfl)
theorem zpR {cs:List C} {k n:Nat}:zow (some cs) k n ⟨tm,bx,nx,lg⟩ K3 ⟨⟩=((cs.all C.cellB)=true/\cs.length=n*k/\K3 (.bs bx.length 0 k n n) ⟨tm,bx++[cs],nx,lg⟩):=(rfl)
theorem zro:ua P p t c d ⟨tm,bx,nx,lg⟩ K3 ⟨⟩=zmQ P (lay P t) p c d ⟨tm,bx,nx,lg⟩ K3 ⟨⟩:=(rfl)
theorem zqm {e s b:Nat} {z1:Option (List Value)}:zmQ P (some ⟨.slice e,s,b,z1⟩) p c d σ K3 ⟨⟩=zng (lay P e) p c d σ K3 ⟨⟩:=(rfl)
theorem zqe {kd:LK} {k b:Nat} {z1:List Value}:zng (some ⟨kd,k,b,some z1⟩) p c d ⟨tm,bx,nx,lg⟩ K3 ⟨⟩=zmI (d.xs? k bx) p k b z1 c ⟨tm,bx,nx,lg⟩ K3 ⟨⟩:=(rfl)
theorem zlk {i off k k2 n cap:Nat}:C.xs? k bx (.bs i off k2 n cap)=xsB k2 k off n (bx[i]?):=(rfl)
theorem zo4 {k off n:Nat} {cs:List C}:xsB k k off n (some cs)=if off+n*k<=cs.length then some (n,(cs.drop off).take (n*k)) else none:=(show xsB k k off n (some cs)=if off+n*k<=cs.length then some (n,(cs.drop off).take (n*k)) else none from by simp[xsB])
theorem zlN {i:Nat} {cs:List C}:QM i cs bx=(Gv (Jn i) some bx).set i cs:=(rfl)
theorem zlU {i j:Nat}:Jn i j=if j=i then none else some j:=(rfl)
theorem zgT {i off k n cap:Nat}:C.frz (.bs i off k n cap) = .any:=(show C.frz (.bs i off k n cap) = .any from by rw[C.frz])
theorem zjC {i off k n cap:Nat} {fp fo:Nat->Option Nat}:C.re fp fo (.bs i off k n cap)=bsO (fp i) off k n cap:=(show C.re fp fo (.bs i off k n cap)=bsO (fp i) off k n cap from by rw[C.re];rfl)
theorem zoG {j off k n cap:Nat}:bsO (some j) off k n cap = .bs j off k n cap:=(rfl)
theorem znP {off k n cap:Nat}:bsO none off k n cap = .any:=(rfl)
theorem zaD {i off k n cap:Nat}:C.cellB (.bs i off k n cap)=true:=(rfl)
theorem u6 {i off k n cap:Nat}:C.partB (.bs i off k n cap)=true:=(rfl)
theorem zac {i off k n cap:Nat}:C.cells (.bs i off k n cap) = [.bs i off k n cap]:=(rfl)
theorem zmO {rows:List (List C)} {n:Int}:zk9 (some rows) n K ⟨⟩=zqO (rows[n.toNat]?) n K ⟨⟩:=(rfl)
theorem zrh {r:List C} {n:Int}:zqO (some r) n K ⟨⟩=(0<=n/\K (.row r)):=(rfl)
theorem zjz {L:Lay} {m:Nat} {n:Int} {cs:List C}:zoS (some L) (.row cs) m n K ⟨⟩=(0<=n/\n<((m+1:Nat):Int)/\K (.row (cs.drop (n.toNat*L.size)))):=(rfl)
theorem zrk:xN P t c d K ⟨⟩=zoD (lay P t) c d K ⟨⟩:=(rfl)
theorem zpk {s b:Nat} {z1:Option (List Value)} {l:List UInt8} {k:IntKind} {n:Int}:zoD (some ⟨.str,s,b,z1⟩) (.str l) (.sc (.int k n)) K ⟨⟩=zju (l[n.toNat]?) n K ⟨⟩:=(show zpt (some ⟨.str,s,b,z1⟩) (.str l) (.sc (.int k n)) K=zkT (l[n.toNat]?) n K from by unfold zpt zkT;simp)
theorem zmn {b:UInt8} {n:Int}:zju (some b) n K ⟨⟩=(0<=n/\K (.sc (.int .u8 (b.toNat:Int)))):=(rfl)
theorem zq0 {lo hi mx:Option C}:xt P t c lo hi mx K ⟨⟩=znp P t c (vj lo) (vj hi) (vj mx) K ⟨⟩:=(rfl)
theorem zqt {lo hi mx:Option Int}:znp P t c (some lo) (some hi) (some mx) K ⟨⟩=zla P (lay P t) c lo hi mx K ⟨⟩:=(rfl)
theorem zaH:vj none=some none:=(rfl)
theorem zcn {k:IntKind} {n:Int}:vj (some (.sc (.int k n)))=some (some n):=(rfl)
theorem zhP {s b:Nat} {z1:Option (List Value)} {l:List UInt8} {lo hi:Option Int}:zla P (some ⟨.str,s,b,z1⟩) (.str l) lo hi none K ⟨⟩=(jr l.length lo hi/\K (.str (cut l lo hi))):=(rfl)
theorem uh {e s b:Nat} {z1:Option (List Value)} {lo hi mx:Option Int}:zla P (some ⟨.slice e,s,b,z1⟩) c lo hi mx K ⟨⟩=zgn (lay P e) c lo hi mx K ⟨⟩:=(rfl)
theorem znX {rows:List (List C)} {k:Nat} {lo hi:Option Int}:zlf (some rows) k lo hi none K ⟨⟩=(jr rows.length lo hi/\K (.sl k (cut rows lo hi))):=(rfl)
theorem zoo {rows:List (List C)} {k:Nat} {lo:Option Int} {h m:Int}:zlf (some rows) k lo (some h) (some m) K ⟨⟩=(m=h/\jr rows.length lo (some h)/\K (.tight k (cut rows lo (some h)))):=(rfl)
theorem zhn {α:Type} {l:List α} {a:Int}:cut l (some a) none=l.drop a.toNat:=(rfl)
theorem zgX {α:Type} {l:List α} {b:Int}:cut l none (some b)=l.take b.toNat:=(rfl)
theorem zik {α:Type} {l:List α} {a b:Int}:cut l (some a) (some b)=(l.take b.toNat).drop a.toNat:=(rfl)
theorem zaM {n:Nat} {a:Int}:jr n (some a) none=(0<=a/\a<=(n:Int)):=(rfl)
theorem um {n:Nat} {b:Int}:jr n none (some b)=(0<=b/\b<=(n:Int)):=(rfl)
theorem zaj {n:Nat} {a b:Int}:jr n (some a) (some b)=(0<=a/\a<=b/\b<=(n:Int)):=(rfl)
theorem zec {k:Nat} {rows:List (List C)}:C.rows? k (.sl k rows)=some rows:=(show C.rows? k (.sl k rows)=some rows from by simp[C.rows?])
theorem zbr {id e:Nat} {k:Nat} {rows:List (List C)}:C.rows? k (.own id e k rows)=some rows:=(show C.rows? k (.own id e k rows)=some rows from by simp[C.rows?])
theorem znH:zeD P t t' c K ⟨⟩=zgE P (lay P t') (lay P t) c K ⟨⟩:=(rfl)
theorem uQ {k k0:IntKind} {n:Int} {s b:Nat} {z1:Option (List Value)} {L:Lay}:zgE P (some ⟨.int k,s,b,z1⟩) (some L) (.sc (.int k0 n)) K ⟨⟩=(inR k n/\K (.sc (.int k n))):=(rfl)
theorem zid {s b s2 b2:Nat} {z1 z2:Option (List Value)} {k k0:IntKind} {n:Int}:zgE P (some ⟨.str,s,b,z1⟩) (some ⟨.int k,s2,b2,z2⟩) (.sc (.int k0 n)) K ⟨⟩=K (.str (Utf8.encode n).data.toList):=(rfl)
theorem zhF {e s b s2 b2:Nat} {z1 z2:Option (List Value)}:zgE P (some ⟨.str,s,b,z1⟩) (some ⟨.slice e,s2,b2,z2⟩) c K ⟨⟩=zmV (lay P e) c K ⟨⟩:=(rfl)
theorem zcD {s b:Nat} {z1:Option (List Value)}:zmV (some ⟨.int .u8,s,b,z1⟩) c K ⟨⟩=zlD (c.rows? 1) K ⟨⟩:=(rfl)
theorem zbZ {l:List UInt8}:yA P t (.str l) K ⟨⟩=zjw (lay P t) (l.length:Int) K ⟨⟩:=(rfl)
theorem zgD {k:Nat} {rows:List (List C)}:yA P t (.sl k rows) K ⟨⟩=Mj (lay P t) (rows.length:Int) K ⟨⟩:=(rfl)
theorem zcU {id e:Nat} {k:Nat} {rows:List (List C)}:yA P t (.own id e k rows) K ⟨⟩=Mj (lay P t) (rows.length:Int) K ⟨⟩:=(rfl)
theorem zdL:yA P t (.sc (.slice none 0 0)) K ⟨⟩=Mj (lay P t) 0 K ⟨⟩:=(rfl)
theorem zmN {e s b:Nat} {z1:Option (List Value)} {n:Int}:Mj (some ⟨.slice e,s,b,z1⟩) n K ⟨⟩=K (.sc (.int .i64 n)):=(rfl)
theorem zmH {s b:Nat} {z1:Option (List Value)} {n:Int}:zjw (some ⟨.str,s,b,z1⟩) n K ⟨⟩=K (.sc (.int .i64 n)):=(rfl)
theorem zkd {ps:List (Nat×C)}:MM P t ps K ⟨⟩=zog (lay P t) ps K ⟨⟩:=(rfl)
theorem zhz {fs:List (Nat×Nat×Bool)} {s b:Nat} {z1:List Value} {ps:List (Nat×C)}:zog (some ⟨.struct fs,s,b,some z1⟩) ps K ⟨⟩=((ps.all fun p=>p.2.partB)=true/\zqK (Yh (plS fs) (z1.map zt) ps) K ⟨⟩):=(show zpv (some ⟨.struct fs,s,b,some z1⟩) ps K=((ps.all fun p=>p.2.partB)=true/\aFl (Yh (plS fs) (z1.map zt) ps) K) from by unfold zpv aFl;simp only[];rfl)
theorem zrt {cs:List C}:zqK (some cs) K ⟨⟩=K (.agg cs):=(rfl)
theorem zl8 {place:Nat->Option (Nat×Nat)} {cs:List C}:Yh place cs []=some cs:=(rfl)
theorem zoi {place:Nat->Option (Nat×Nat)} {cs:List C} {i:Nat} {rest:List (Nat×C)}:Yh place cs ((i,c) :: rest)=zi9 (place i) place cs c.cells rest:=(rfl)
theorem zkQ {place:Nat->Option (Nat×Nat)} {cs l:List C} {off size:Nat} {rest:List (Nat×C)}:zi9 (some (off,size)) place cs l rest=(if l.length=size/\off+size<=cs.length then Yh place (cs.take off++l++cs.drop (off+size)) rest else none):=(rfl)
theorem zp1 {fs:List (Nat×Nat×Bool)} {i:Nat}:plS fs i=(fs[i]?).map fun f=>(f.1,f.2.1):=(rfl)
theorem zpC {k i:Nat}:plA k i=some (i*k,k):=(rfl)
theorem zq5 {n:Nat} {ps:List (Nat×C)}:Xg P t n ps nx K2 ⟨⟩=znL P (lay P t) n ps nx K2 ⟨⟩:=(rfl)
theorem zqd {e s b n:Nat} {z1:Option (List Value)} {ps:List (Nat×C)}:znL P (some ⟨.slice e,s,b,z1⟩) n ps nx K2 ⟨⟩=znG (lay P e) e n ps nx K2 ⟨⟩:=(rfl)
theorem zqG {kd:LK} {k b e n:Nat} {z1:List Value} {ps:List (Nat×C)}:znG (some ⟨kd,k,b,some z1⟩) e n ps nx K2 ⟨⟩=(z1.length=k/\0<k/\n*k<=16777216/\(ps.all fun p=>p.2.frz.partB)=true/\zoY (Yh (plA k) (List.replicate n (z1.map zt)).flatten (ps.map fun p=>(p.1,p.2.frz))) e k n nx K2 ⟨⟩):=(rfl)
theorem zqE {cs:List C} {e k n:Nat}:zoY (some cs) e k n nx K2 ⟨⟩=((cs.all C.cellB)=true/\cs.length=n*k/\K2 (.own nx e k (XM k n cs)) (nx+1)):=(rfl)
theorem zdu {id e k:Nat} {rows:List (List C)}:Gj P t (.own id e k rows) d ⟨tm,bx,nx,lg⟩ K3 ⟨⟩=zoh P (lay P t) id e k rows d ⟨tm,bx,nx,lg⟩ K3 ⟨⟩:=(rfl)
theorem zbF:Gj P t (.sc (.slice none 0 0)) d ⟨tm,bx,nx,lg⟩ K3 ⟨⟩=kO P t (.sc (.slice none 0 0)) d nx (fun c nx'=>K3 c ⟨tm,bx,nx',lg⟩) ⟨⟩:=(rfl)
theorem znQ:kO P t c d nx K2 ⟨⟩=zm6 P (lay P t) c d nx K2 ⟨⟩:=(rfl)
theorem zpS {e s b:Nat} {z1:Option (List Value)}:zm6 P (some ⟨.slice e,s,b,z1⟩) c d nx K2 ⟨⟩=zmv (lay P e) e c d nx K2 ⟨⟩:=(rfl)
theorem zpn {kd:LK} {k b e:Nat} {z1:List Value}:zmv (some ⟨kd,k,b,some z1⟩) e c d nx K2 ⟨⟩=zkr (d.rows? k) c e k b z1 nx K2 ⟨⟩:=(rfl)
theorem znA {k b e:Nat} {z1:List Value} {xs:List (List C)}:zkr (some xs) (.sc (.slice none 0 0)) e k b z1 nx K2 ⟨⟩=(z1.length=k/\0<k/\xs.length<=9223372036854775807/\xs.length*b<=140737488355328/\K2 (.own nx e k xs) (nx+1)):=(rfl)
theorem zot {k k0 b e:Nat} {z1:List Value} {xs rows:List (List C)}:zkr (some xs) (.tight k0 rows) e k b z1 nx K2 ⟨⟩=(k0=k/\z1.length=k/\0<k/\rows.length+xs.length<=9223372036854775807/\(rows.length+xs.length)*b<=140737488355328/\(xs = []->K2 (.tight k0 rows) nx)/\(¬xs = []->K2 (.own nx e k (rows++xs)) (nx+1))):=(rfl)
theorem zgP {a b:Nat} (h:Nat.ble a b=true):a<=b:=Nat.le_of_ble_eq_true h
theorem lS:(∀ {α:Type} (a b:List α),(a++b).length=a.length+b.length)/\(∀ {α:Type} (a:α) (b:List α),(a :: b).length=b.length+1)/\(∀ {α:Type},([]:List α).length=0)/\(∀ {α β:Type} (f:α->β) (l:List α),(l.map f).length=l.length)/\(∀ {α:Type} (n:Nat) (l:List α),(l.take n).length=min n l.length)/\∀ {α:Type} (n:Nat) (l:List α),(l.drop n).length=l.length-n:=⟨fun _ _=>List.length_append,fun _ _=>List.length_cons,List.length_nil,fun _ _=>List.length_map _,fun _ _=>List.length_take,fun _ _=>List.length_drop⟩
theorem zqr {α:Type} {x:α} {l:List α}:((x :: l) = [])=False:=by simp
theorem zq9 {p:Prop}:(True->p)=p:=by simp
theorem zrm {p:Prop}:(False->p)=True:=by simp
theorem zrB:(¬False)=True:=by simp
theorem zp0 {e0 s b id e k:Nat} {z1:Option (List Value)} {rows:List (List C)}:zoh P (some ⟨.slice e0,s,b,z1⟩) id e k rows c σ K3 ⟨⟩=znh (lay P e) e0 id e k rows c σ K3 ⟨⟩:=(rfl)
theorem zqy {kd:LK} {k0 b e0 id e k:Nat} {z1:List Value} {rows:List (List C)}:znh (some ⟨kd,k0,b,some z1⟩) e0 id e k rows c σ K3 ⟨⟩=(e0=e/\k0=k/\z1.length=k/\0<k/\zmG (c.rows? k) b id e k rows σ K3 ⟨⟩):=(show zqc (some ⟨kd,k0,b,some z1⟩) e0 id e k rows c σ K3=(e0=e/\k0=k/\z1.length=k/\0<k/\zph (c.rows? k) b id e k rows σ K3) from by unfold zqc zph;simp only[];cases c.rows? k<;>simp)
theorem zqv {xs rows:List (List C)} {b id e k:Nat}:zmG (some xs) b id e k rows ⟨tm,bx,nx,lg⟩ K3 ⟨⟩=(rows.length+xs.length<=9223372036854775807/\(rows.length+xs.length)*b<=140737488355328/\K3 (.own id e k (rows++xs)) ⟨zaF id tm,MG id bx,nx,lg⟩):=(rfl)
theorem zlX {f:FuncId} {fs cs args:List C}:xd P G h (.clo (.func f) fs cs) args ⟨tm,bx,nx,lg⟩ K3 ⟨⟩ ⟨⟩=Qa P G f (fs++args++cs) (C.frzL (fs++args++cs)) ⟨tm,bx,nx,lg⟩ K3 ⟨⟩:=(rfl)
theorem zl0 {l:Nat} {items:List (List C)} {sf:Nat->Bool} {args:List C}:xd P G ⟨p,some ⟨l,items,sf⟩,bf⟩ (.sc (.func (.yield l) #[] #[])) args ⟨tm,bx,nx,lg⟩ K3 ⟨⟩ ⟨⟩=yQ ⟨l,items,sf⟩ (items[lg]?) args ⟨tm,bx,nx,lg⟩ K3 ⟨⟩ ⟨⟩:=(show GN P G ⟨p,some ⟨l,items,sf⟩,bf⟩ (.sc (.func (.yield l) #[] #[])) args ⟨tm,bx,nx,lg⟩ K3=HL ⟨l,items,sf⟩ (items[lg]?) args ⟨tm,bx,nx,lg⟩ K3 from by simp[GN,vO])
theorem zg9 {l:Nat} {items:List (List C)} {sf:Nat->Bool} {args it:List C}:yQ ⟨l,items,sf⟩ (some it) args ⟨tm,bx,nx,lg⟩ K3 ⟨⟩ ⟨⟩=(ze [] 0 args it/\(∀ j,j<lg->sf j=false)/\K3 (.sc (.bool (!sf lg))) ⟨tm,bx,nx,lg+1⟩):=(rfl)
theorem zne {ι:List Nat} {j:Nat}:upB ι m j=match ι[j]? with | some i=>some i | none=>some (m+(j-ι.length)):=(rfl)
theorem zp4 {j:Nat}:upO nx j=some (nx+j):=(rfl)
theorem zpW {i:Nat}:XC [] i=none:=(rfl)
theorem zqb {x1 i:Nat} {r:List Nat}:XC (x1 :: r) i=if i=x1 then some 0 else (XC r i).map (·+1):=(rfl)
theorem zls {fp fo:Nat->Option Nat}:kL fp fo [] = []:=(rfl)
theorem zo1 {fp fo:Nat->Option Nat} {u:Nat} {r:List (Nat×C)}:kL fp fo ((u,c) :: r)=(u,c.re fp fo) :: kL fp fo r:=(rfl)
theorem zkn {fp fo:Nat->Option Nat}:Gv fp fo [] = []:=(rfl)
theorem zoj {fp fo:Nat->Option Nat} {cs:List C} {r:List (List C)}:Gv fp fo (cs :: r)=C.reL fp fo cs :: Gv fp fo r:=(rfl)
theorem zhN {l:List (List C)}:Q9 [] l bx=bx:=(rfl)
theorem zf3 {i:Nat} {ι:List Nat} {cs:List C} {r:List (List C)}:Q9 (i :: ι) (cs :: r) bx=Q9 ι r (bx.set i cs):=(rfl)
theorem ziN {ι κ:List Nat} {n:Nat}:Zu ι κ bx' n ⟨tm,bx,nx,lg⟩=⟨kL some (QS κ) tm,Q9 ι (Gv (upB ι bx.length) (upO nx) bx') (Gv some (QS κ) bx)++Gv (upB ι bx.length) (upO nx) (bx'.drop ι.length),nx+n,lg⟩:=(rfl)
theorem zjH {κ:List Nat} {i:Nat}:QS κ i=if i∈κ then none else some i:=(rfl)
theorem zhG {i:Nat}:kh m i=if i<m then some i else none:=(rfl)
theorem ziJ {i:Nat}:Ym m i=if i<m then none else some (i-m):=(rfl)
theorem zjA {f:FuncId} {fs cs args:List C}:zfj P G (.clo (.func f) fs cs) args nx K2 ⟨⟩=yg P G f (C.frzL (fs++args++cs)) nx K2 ⟨⟩:=(rfl)
theorem zp3 {kd:LK} {s b:Nat} {z1:List Value}:zn6 (some ⟨kd,s,b,some z1⟩) ⟨tm,bx,nx,lg⟩ K3 ⟨⟩=((z1.all Value.oneCell')=true/\K3 (.ptr bx.length 0) ⟨tm,bx++[z1.map zt],nx,lg⟩):=(rfl)
theorem zpx:zml c ⟨tm,bx,nx,lg⟩ K3 ⟨⟩=(c.partB=true/\(c.cells.all C.cellB)=true/\K3 (.ptr bx.length 0) ⟨tm,bx++[c.cells],nx,lg⟩):=(rfl)
theorem zp5 {L:Lay} {i off:Nat}:zmU (some L) (.ptr i off) c ⟨tm,bx,nx,lg⟩ K3 ⟨⟩=zou (bx[i]?) i off L.size c ⟨tm,bx,nx,lg⟩ K3 ⟨⟩:=(rfl)
theorem zp9 {cs:List C} {i off size:Nat}:zou (some cs) i off size c ⟨tm,bx,nx,lg⟩ K3 ⟨⟩=(c.partB=true/\(c.cells.all C.cellB)=true/\c.cells.length=size/\off+size<=cs.length/\K3 .any ⟨tm,bx.set i (cs.take off++c.cells++cs.drop (off+size)),nx,lg⟩):=(rfl)
theorem zhs {v:Value}:C.frz (.sc v) = .sc v:=(show C.frz (.sc v) = .sc v from by rw[C.frz])
theorem zkq {v:Value} {id:Nat}:C.dg id (.sc v) = .sc v:=(show C.dg id (.sc v) = .sc v from by rw[C.dg])
theorem zjY {v:Value} {n:Nat}:C.sh n (.sc v) = .sc v:=(show C.sh n (.sc v) = .sc v from by rw[C.sh])
theorem zd9 {l:List UInt8}:C.frz (.str l) = .str l:=(show C.frz (.str l) = .str l from by rw[C.frz])
theorem zgB {l:List UInt8} {id:Nat}:C.dg id (.str l) = .str l:=(show C.dg id (.str l) = .str l from by rw[C.dg])
theorem zfL {l:List UInt8} {n:Nat}:C.sh n (.str l) = .str l:=(show C.sh n (.str l) = .str l from by rw[C.sh])
theorem zh7 {k:Nat} {rows:List (List C)}:C.frz (.sl k rows) = .sl k rows:=(show C.frz (.sl k rows) = .sl k rows from by rw[C.frz])
theorem zjR {k:Nat} {rows:List (List C)} {id:Nat}:C.dg id (.sl k rows) = .sl k rows:=(show C.dg id (.sl k rows) = .sl k rows from by rw[C.dg])
theorem zlp {k:Nat} {rows:List (List C)} {n:Nat}:C.sh n (.sl k rows) = .sl k rows:=(show C.sh n (.sl k rows) = .sl k rows from by rw[C.sh])
theorem MX {k:Nat} {rows:List (List C)}:C.frz (.tight k rows) = .tight k rows:=(show C.frz (.tight k rows) = .tight k rows from by rw[C.frz])
theorem ze3 {cs:List C}:C.frz (.row cs) = .row cs:=(show C.frz (.row cs) = .row cs from by rw[C.frz])
theorem zf5 {cs:List C} {id:Nat}:C.dg id (.row cs) = .row cs:=(show C.dg id (.row cs) = .row cs from by rw[C.dg])
theorem ziD {cs:List C} {n:Nat}:C.sh n (.row cs) = .row cs:=(show C.sh n (.row cs) = .row cs from by rw[C.sh])
theorem zil {id:Nat}:C.dg id (.any) = .any:=(show C.dg id (.any) = .any from by rw[C.dg])
theorem zfW {n:Nat}:C.sh n (.any) = .any:=(show C.sh n (.any) = .any from by rw[C.sh])
theorem zj4 {i:Nat} {t2:TypeId} {ks:MK} {vs:List C} {n:Nat}:C.sh n (.mo i t2 ks vs) = .mo (n+i) t2 ks vs:=(show C.sh n (.mo i t2 ks vs) = .mo (n+i) t2 ks vs from by rw[C.sh])
theorem zj7 {i:Nat} {t2:TypeId} {ks:MK} {vs:List C}:C.fz bx (.mo i t2 ks vs) = .mo i t2 ks vs:=(show C.fz bx (.mo i t2 ks vs) = .mo i t2 ks vs from by rw[C.fz])
theorem zlJ {v:Value} {id:Nat} {ks1:MK} {vs1:List C}:C.up id ks1 vs1 (.sc v) = .sc v:=(show C.up id ks1 vs1 (.sc v) = .sc v from by rw[C.up])
theorem zly {i:Nat} {t2:TypeId} {ks:MK} {vs:List C} {id:Nat} {ks1:MK} {vs1:List C}:C.up id ks1 vs1 (.mo i t2 ks vs)=if i=id then .mo i t2 ks1 vs1 else .mo i t2 ks vs:=(show C.up id ks1 vs1 (.mo i t2 ks vs)=if i=id then .mo i t2 ks1 vs1 else .mo i t2 ks vs from by rw[C.up])
theorem zae {id:Nat} {ks1:MK} {vs1:List C}:zfB id ks1 vs1 [] = []:=(rfl)
theorem zni {u:Nat} {r:List (Nat×C)} {id:Nat} {ks1:MK} {vs1:List C}:zfB id ks1 vs1 ((u,c) :: r)=(u,c.up id ks1 vs1) :: zfB id ks1 vs1 r:=(rfl)
theorem zbt {id:Nat} {ks1:MK} {vs1:List C}:zdq id ks1 vs1 [] = []:=(rfl)
theorem zb7 {id e k:Nat} {rows:List (List C)}:C.frz (.own id e k rows) = .sl k rows:=(show C.frz (.own id e k rows) = .sl k rows from by rw[C.frz])
theorem zdB {i off:Nat}:C.frz (.ptr i off) = .any:=(show C.frz (.ptr i off) = .any from by rw[C.frz])
theorem zhu {id i off:Nat}:C.dg id (.ptr i off) = .ptr i off:=(show C.dg id (.ptr i off) = .ptr i off from by rw[C.dg])
theorem zfU {id i e k:Nat} {rows:List (List C)}:C.dg id (.own i e k rows)=if i=id then .sl k rows else .own i e k rows:=(show C.dg id (.own i e k rows)=if i=id then .sl k rows else .own i e k rows from by rw[C.dg])
theorem zir {n i e k:Nat} {rows:List (List C)}:C.sh n (.own i e k rows) = .own (n+i) e k rows:=(show C.sh n (.own i e k rows) = .own (n+i) e k rows from by rw[C.sh])
theorem zjF {v:Value} {fp fo:Nat->Option Nat}:C.re fp fo (.sc v) = .sc v:=(show C.re fp fo (.sc v) = .sc v from by rw[C.re])
theorem zf0 {v:Value} {fp:Nat->Option Nat}:C.sel fp (.sc v) = .sc v:=(show C.sel fp (.sc v) = .sc v from by rw[C.sel])
theorem zgV {l:List UInt8} {fp fo:Nat->Option Nat}:C.re fp fo (.str l) = .str l:=(show C.re fp fo (.str l) = .str l from by rw[C.re])
theorem zcw {l:List UInt8} {fp:Nat->Option Nat}:C.sel fp (.str l) = .str l:=(show C.sel fp (.str l) = .str l from by rw[C.sel])
theorem zk1 {k:Nat} {rows:List (List C)} {fp fo:Nat->Option Nat}:C.re fp fo (.sl k rows) = .sl k rows:=(show C.re fp fo (.sl k rows) = .sl k rows from by rw[C.re])
theorem zhT {k:Nat} {rows:List (List C)} {fp:Nat->Option Nat}:C.sel fp (.sl k rows) = .sl k rows:=(show C.sel fp (.sl k rows) = .sl k rows from by rw[C.sel])
theorem uo {k:Nat} {rows:List (List C)} {fp fo:Nat->Option Nat}:C.re fp fo (.tight k rows) = .tight k rows:=(show C.re fp fo (.tight k rows) = .tight k rows from by rw[C.re])
theorem zfZ {cs:List C} {fp fo:Nat->Option Nat}:C.re fp fo (.row cs) = .row cs:=(show C.re fp fo (.row cs) = .row cs from by rw[C.re])
theorem zbM {cs:List C} {fp:Nat->Option Nat}:C.sel fp (.row cs) = .row cs:=(show C.sel fp (.row cs) = .row cs from by rw[C.sel])
theorem zfS {fp fo:Nat->Option Nat}:C.re fp fo (.any) = .any:=(show C.re fp fo (.any) = .any from by rw[C.re])
theorem zlv {v:Value}:C.fz bx (.sc v) = .sc v:=(show C.fz bx (.sc v) = .sc v from by rw[C.fz])
theorem zhk {l:List UInt8}:C.fz bx (.str l) = .str l:=(show C.fz bx (.str l) = .str l from by rw[C.fz])
theorem zlc {k:Nat} {rows:List (List C)}:C.fz bx (.sl k rows) = .sl k rows:=(show C.fz bx (.sl k rows) = .sl k rows from by rw[C.fz])
theorem zf4 {id e k:Nat} {rows:List (List C)}:C.fz bx (.own id e k rows) = .own id e k rows:=(show C.fz bx (.own id e k rows) = .own id e k rows from by rw[C.fz])
theorem ziv {cs:List C}:C.fz bx (.row cs) = .row cs:=(show C.fz bx (.row cs) = .row cs from by rw[C.fz])
theorem ziR {i off:Nat}:C.fz bx (.ptr i off)=zpu (bx[i]?) off:=(show C.fz bx (.ptr i off)=zpu (bx[i]?) off from by rw[C.fz];rfl)
theorem zk4 {off:Nat} {cs:List C}:zpu (some cs) off = .row ((C.frzL cs).drop off):=(rfl)
theorem uO {f:Fn} {a b:Array Value}:Value.oneCell' (.func f a b)=true:=(rfl)
theorem zhe {id e k:Nat} {rows:List (List C)} {fp fo:Nat->Option Nat}:C.re fp fo (.own id e k rows)=zpe (fo id) e k rows:=(show C.re fp fo (.own id e k rows)=zpe (fo id) e k rows from by rw[C.re];rfl)
theorem zgv {i off:Nat} {fp fo:Nat->Option Nat}:C.re fp fo (.ptr i off)=zmg (fp i) off:=(show C.re fp fo (.ptr i off)=zmg (fp i) off from by rw[C.re];rfl)
theorem zdH {i off:Nat} {fp:Nat->Option Nat}:C.sel fp (.ptr i off)=zmg (fp i) off:=(show C.sel fp (.ptr i off)=zmg (fp i) off from by rw[C.sel];rfl)
theorem zke {j e k:Nat} {rows:List (List C)}:zpe (some j) e k rows = .own j e k rows:=(rfl)
theorem zlu {e k:Nat} {rows:List (List C)}:zpe none e k rows = .sl k rows:=(rfl)
theorem zkC {j off:Nat}:zmg (some j) off = .ptr j off:=(rfl)
theorem zk7 {off:Nat}:zmg none off = .any:=(rfl)
theorem zjB {v:Value} {fr:Fr}:C.fy nx fr bx (.sc v) = .sc v:=(show C.fy nx fr bx (.sc v) = .sc v from by rw[C.fy])
theorem zkW {k:Nat} {rows:List (List C)} {fr:Fr}:C.fy nx fr bx (.sl k rows) = .sl k rows:=(show C.fy nx fr bx (.sl k rows) = .sl k rows from by rw[C.fy])
theorem zl5 {i off k n cap:Nat} {fr:Fr}:C.fy nx fr bx (.bs i off k n cap)=ZW nx fr i off k n cap:=(show C.fy nx fr bx (.bs i off k n cap)=ZW nx fr i off k n cap from by rw[C.fy])
theorem ziK {i off k n cap i2 e k2 cap2:Nat} {rows:List (List C)} {r:Fr}:ZW nx ((i2,e,k2,rows,cap2) :: r) i off k n cap=if i=i2/\off=0/\k=k2/\n=rows.length/\cap=cap2 then .own nx e k2 rows else ZW (nx+1) r i off k n cap:=(show ZW nx ((i2,e,k2,rows,cap2) :: r) i off k n cap=if i=i2/\off=0/\k=k2/\n=rows.length/\cap=cap2 then .own nx e k2 rows else ZW (nx+1) r i off k n cap from by rw[ZW])
theorem zgN {cs:List C} {fp fo:Nat->Option Nat}:C.re fp fo (.agg cs) = .agg (C.reL fp fo cs):=(show C.re fp fo (.agg cs) = .agg (C.reL fp fo cs) from by rw[C.re])
theorem zit {cs:List C} {fp fo:Nat->Option Nat}:C.re fp fo (.tup cs) = .tup (C.reL fp fo cs):=(show C.re fp fo (.tup cs) = .tup (C.reL fp fo cs) from by rw[C.re])
theorem ziq {fn:Fn} {fs cs:List C} {fp fo:Nat->Option Nat}:C.re fp fo (.clo fn fs cs) = .clo fn (C.reL fp fo fs) (C.reL fp fo cs):=(show C.re fp fo (.clo fn fs cs) = .clo fn (C.reL fp fo fs) (C.reL fp fo cs) from by rw[C.re])
theorem zcC {fp fo:Nat->Option Nat}:C.reL fp fo [] = []:=(show C.reL fp fo [] = [] from by rw[C.reL])
theorem zad {r:List C} {fp fo:Nat->Option Nat}:C.reL fp fo (c :: r)=C.re fp fo c :: C.reL fp fo r:=(show C.reL fp fo (c :: r)=C.re fp fo c :: C.reL fp fo r from by rw[C.reL])
theorem zet {cs:List C} {fp:Nat->Option Nat}:C.sel fp (.agg cs) = .agg (C.selL fp cs):=(show C.sel fp (.agg cs) = .agg (C.selL fp cs) from by rw[C.sel])
theorem zdT {fn:Fn} {fs cs:List C} {fp:Nat->Option Nat}:C.sel fp (.clo fn fs cs) = .clo fn (C.selL fp fs) (C.selL fp cs):=(show C.sel fp (.clo fn fs cs) = .clo fn (C.selL fp fs) (C.selL fp cs) from by rw[C.sel])
theorem uj {fp:Nat->Option Nat}:C.selL fp [] = []:=(show C.selL fp [] = [] from by rw[C.selL])
theorem xb {r:List C} {fp:Nat->Option Nat}:C.selL fp (c :: r)=C.sel fp c :: C.selL fp r:=(show C.selL fp (c :: r)=C.sel fp c :: C.selL fp r from by rw[C.selL])
theorem ziL {cs:List C} :C.fz bx (.agg cs) = .agg (C.fzL bx cs):=(show C.fz bx (.agg cs) = .agg (C.fzL bx cs) from by rw[C.fz])
theorem zf2 {cs:List C} :C.fz bx (.tup cs) = .tup (C.fzL bx cs):=(show C.fz bx (.tup cs) = .tup (C.fzL bx cs) from by rw[C.fz])
theorem zgw {fn:Fn} {fs cs:List C} :C.fz bx (.clo fn fs cs) = .clo fn (C.fzL bx fs) (C.fzL bx cs):=(show C.fz bx (.clo fn fs cs) = .clo fn (C.fzL bx fs) (C.fzL bx cs) from by rw[C.fz])
theorem zd6:C.fzL bx [] = []:=(show C.fzL bx [] = [] from by rw[C.fzL])
theorem uG {r:List C} :C.fzL bx (c :: r)=C.fz bx c :: C.fzL bx r:=(show C.fzL bx (c :: r)=C.fz bx c :: C.fzL bx r from by rw[C.fzL])
theorem zgL {cs:List C} {fr:Fr}:C.fy nx fr bx (.agg cs) = .agg (C.fyL nx fr bx cs):=(show C.fy nx fr bx (.agg cs) = .agg (C.fyL nx fr bx cs) from by rw[C.fy])
theorem zgx {cs:List C} {fr:Fr}:C.fy nx fr bx (.tup cs) = .tup (C.fyL nx fr bx cs):=(show C.fy nx fr bx (.tup cs) = .tup (C.fyL nx fr bx cs) from by rw[C.fy])
theorem zdK {fr:Fr}:C.fyL nx fr bx [] = []:=(show C.fyL nx fr bx [] = [] from by rw[C.fyL])
theorem uN {r:List C} {fr:Fr}:C.fyL nx fr bx (c :: r)=C.fy nx fr bx c :: C.fyL nx fr bx r:=(show C.fyL nx fr bx (c :: r)=C.fy nx fr bx c :: C.fyL nx fr bx r from by rw[C.fyL])
theorem ze8 {cs:List C}:C.frz (.agg cs) = .agg (C.frzL cs):=(show C.frz (.agg cs) = .agg (C.frzL cs) from by rw[C.frz])
theorem zdb {fn:Fn} {fs cs:List C}:C.frz (.clo fn fs cs) = .clo fn (C.frzL fs) (C.frzL cs):=(show C.frz (.clo fn fs cs) = .clo fn (C.frzL fs) (C.frzL cs) from by rw[C.frz])
theorem ut:C.frzL [] = []:=(show C.frzL [] = [] from by rw[C.frzL])
theorem x9 {r:List C}:C.frzL (c :: r)=C.frz c :: C.frzL r:=(show C.frzL (c :: r)=C.frz c :: C.frzL r from by rw[C.frzL])
theorem zhp {cs:List C} {id:Nat}:C.dg id (.agg cs) = .agg (C.dgL id cs):=(show C.dg id (.agg cs) = .agg (C.dgL id cs) from by rw[C.dg])
theorem ziF {cs:List C} {id:Nat}:C.dg id (.tup cs) = .tup (C.dgL id cs):=(show C.dg id (.tup cs) = .tup (C.dgL id cs) from by rw[C.dg])
theorem zhL {fn:Fn} {fs cs:List C} {id:Nat}:C.dg id (.clo fn fs cs) = .clo fn (C.dgL id fs) (C.dgL id cs):=(show C.dg id (.clo fn fs cs) = .clo fn (C.dgL id fs) (C.dgL id cs) from by rw[C.dg])
theorem zfm {id:Nat}:C.dgL id [] = []:=(show C.dgL id [] = [] from by rw[C.dgL])
theorem zaX {r:List C} {id:Nat}:C.dgL id (c :: r)=C.dg id c :: C.dgL id r:=(show C.dgL id (c :: r)=C.dg id c :: C.dgL id r from by rw[C.dgL])
theorem zg8 {cs:List C} {n:Nat}:C.sh n (.agg cs) = .agg (C.shL n cs):=(show C.sh n (.agg cs) = .agg (C.shL n cs) from by rw[C.sh])
theorem zgf {cs:List C} {n:Nat}:C.sh n (.tup cs) = .tup (C.shL n cs):=(show C.sh n (.tup cs) = .tup (C.shL n cs) from by rw[C.sh])
theorem zhj {fn:Fn} {fs cs:List C} {n:Nat}:C.sh n (.clo fn fs cs) = .clo fn (C.shL n fs) (C.shL n cs):=(show C.sh n (.clo fn fs cs) = .clo fn (C.shL n fs) (C.shL n cs) from by rw[C.sh])
theorem zbQ {n:Nat}:C.shL n [] = []:=(show C.shL n [] = [] from by rw[C.shL])
theorem zak {r:List C} {n:Nat}:C.shL n (c :: r)=C.sh n c :: C.shL n r:=(show C.shL n (c :: r)=C.sh n c :: C.shL n r from by rw[C.shL])
theorem u0 {id:Nat}:zaF id [] = []:=(rfl)
theorem zm4 {id u:Nat} {r:List (Nat×C)}:zaF id ((u,c) :: r)=(u,c.dg id) :: zaF id r:=(rfl)
theorem za5 {id:Nat}:MG id [] = []:=(rfl)
theorem zmz {id:Nat} {cs:List C} {r:List (List C)}:MG id (cs :: r)=C.dgL id cs :: MG id r:=(rfl)
theorem MY {l:List UInt8}:C.cellB (.str l)=true:=(rfl)
theorem M5 {l:List UInt8}:C.partB (.str l)=true:=(rfl)
theorem xE {l:List UInt8}:C.cells (.str l) = [.str l]:=(rfl)
theorem uI {k:Nat} {rows:List (List C)}:C.cellB (.sl k rows)=true:=(rfl)
theorem zaP {k:Nat} {rows:List (List C)}:C.partB (.sl k rows)=true:=(rfl)
theorem zaQ {k:Nat} {rows:List (List C)}:C.cells (.sl k rows) = [.sl k rows]:=(rfl)
theorem x6 {id e k:Nat} {rows:List (List C)}:C.cellB (.own id e k rows)=true:=(rfl)
theorem xi {id e k:Nat} {rows:List (List C)}:C.partB (.own id e k rows)=true:=(rfl)
theorem yB {id e k:Nat} {rows:List (List C)}:C.cells (.own id e k rows) = [.own id e k rows]:=(rfl)
theorem zbv {v:Value}:C.cellB (.sc v)=v.oneCell':=(rfl)
theorem ui {v:Value}:C.partB (.sc v)=v.oneCell':=(rfl)
theorem uL {v:Value}:C.cells (.sc v) = [.sc v]:=(rfl)
theorem yF {cs:List C}:C.partB (.agg cs)=true:=(rfl)
theorem xo {cs:List C}:C.cells (.agg cs)=cs:=(rfl)
theorem ze4 {k:IntKind} {n:Int}:Value.oneCell' (.int k n)=true:=(rfl)
theorem zaa {b:Bool}:Value.oneCell' (.bool b)=true:=(rfl)
theorem yC {a:Option Addr} {n m:Nat}:Value.oneCell' (.slice a n m)=true:=(rfl)
theorem G3 {s:ByteArray}:Value.oneCell' (.string s)=true:=(rfl)
theorem zjE {k:Nat} {cs:List C}:XM k 0 cs = []:=(rfl)
theorem zlZ {k n:Nat} {cs:List C}:XM k (n+1) cs=cs.take k :: XM k n (cs.drop k):=(rfl)
theorem zkR {i:Nat}:Z4 i [] = []:=(rfl)
theorem zoI {i:Nat} {r:List C}:Z4 i (c :: r)=(i,c) :: Z4 (i+1) r:=(rfl)
theorem zcQ:zll (.sc (.bool true)) X Y ⟨⟩ ⟨⟩=X:=zh0
theorem zbn:zll (.sc (.bool false)) X Y ⟨⟩ ⟨⟩=Y:=zeO
theorem br {b:Bool} (hx:b=true->X) (hy:b=false->Y):zll (.sc (.bool b)) X Y ⟨⟩ ⟨⟩:=ABr.mk hx hy
theorem YF {f:FuncId} {args fargs a1:List C} {fbx:List (List C)} {q:Nat} {post:C->List (List C)->Nat->Prop} (ι κ:List Nat) (hf:Y1 P G f a1 fbx q post) (hq:κ.length=q) (hι:ι.Nodup) (hκ:κ.Nodup) (hb:∀ i∈ι,i<bx.length)
  (ha:C.reL (XC ι) (XC κ) args=a1) (hx:(ι.map fun i=>C.reL (XC ι) (XC κ) (bx.getD i []))=fbx) (hK:∀ r fbx' n,post r fbx' n->K3 (r.re (upB ι bx.length) (upO nx)) (Zu ι κ fbx' n ⟨tm,bx,nx,lg⟩)):Qa P G f args fargs ⟨tm,bx,nx,lg⟩ K3 ⟨⟩:=
 .inr <| .inr <| .inr <| .inl ⟨ι,κ,post,hι,hκ,hb,by rw[ha,hq];exact hx▸hf,hK⟩
theorem zoF {f:FuncId} {args fargs:List C} {r:C} (hf:zp8 P f args bx r) (hK:K3 r ⟨tm,bx,nx,lg⟩):Qa P G f args fargs ⟨tm,bx,nx,lg⟩ K3 ⟨⟩:=.inr <| .inr <| .inr <| .inr ⟨r,hf,hK⟩
theorem zpE {e s1 b1 k by' m i off n cap:Nat} {kd:LK} {z1 z:Option (List Value)} {xs cs:List C} (hl:lay P t=some ⟨.slice e,s1,b1,z1⟩) (hle:lay P e=some ⟨kd,k,by',z⟩) (hx:d.xs? k bx=some (m,xs)) (hb:bx[i]?=some cs) (hxl:xs.length=m*k) (hfit:off+n*k<=cs.length)
  (hK:K3 (.sc (.int .i64 ((min m n:Nat):Int))) ⟨tm,bx.set i (spl cs off (xs.take (min m n*k))),nx,lg⟩):zds P t (.bs i off k n cap) d ⟨tm,bx,nx,lg⟩ K3 ⟨⟩:=by
 show Z0 P t _ _ _ _
 unfold Z0
 simp only[hl,hle,hx,hb]
 exact ⟨trivial,hxl,hfit,hK⟩
theorem vi {e s1 b1 k by' m:Nat} {kd:LK} {z1:Option (List Value)} {z:List Value} {xs:List C} (hl:lay P t=some ⟨.slice e,s1,b1,z1⟩) (hle:lay P e=some ⟨kd,k,by',some z⟩) (hx:d.xs? k bx=some (m,xs)) (hz:z.length=k) (hk:0<k) (h1:(z.all Value.oneCell')=true) (hxl:xs.length=m*k) (hm:0<m) (h63:m<=9223372036854775807) (hby:m*by'<=140737488355328)
  (hK:∀ cap,m<=cap->cap<=9223372036854775807->K3 (.bs bx.length 0 k m cap) ⟨tm,bx++[xs++List.replicate ((cap-m)*k) .any],nx,lg⟩):VN P t (.sc (.slice none 0 0)) d ⟨tm,bx,nx,lg⟩ K3 ⟨⟩:=by
 show Ja P t _ _ _ _
 unfold Ja
 simp only[hl,hle,hx]
 exact ⟨hz,hk,h1,hxl,hm,h63,hby,fun c h1 h2=>hK c h1 (by unfold maxLen at h2;omega)⟩
theorem vv {e s1 b1 k by' m:Nat} {kd:LK} {z1:Option (List Value)} {z:List Value} {xs:List C} (hl:lay P t=some ⟨.slice e,s1,b1,z1⟩) (hle:lay P e=some ⟨kd,k,by',some z⟩) (hx:d.xs? k bx=some (m,xs)) (hz:z.length=k) (hk:0<k) (h1:(z.all Value.oneCell')=true) (hxl:xs.length=m*k) (h63:m<=9223372036854775807) (hby:m*by'<=140737488355328)
  (h0:m=0->K3 (.tight k []) ⟨tm,bx,nx,lg⟩) (hK:0<m->∀ cap,m<=cap->cap<=9223372036854775807->K3 (.bs bx.length 0 k m cap) ⟨tm,bx++[xs++List.replicate ((cap-m)*k) .any],nx,lg⟩):VN P t (.tight k []) d ⟨tm,bx,nx,lg⟩ K3 ⟨⟩:=by
 show Ja P t _ _ _ _
 unfold Ja
 simp only[hl,hle,hx]
 exact ⟨hz,hk,h1,hxl,trivial,h63,hby,h0,fun hm c h1 h2=>hK hm c h1 (by unfold maxLen at h2;omega)⟩
theorem ZZ {e s1 b1 k by' m i off n cap:Nat} {kd:LK} {z1:Option (List Value)} {z:List Value} {xs cs:List C} (hl:lay P t=some ⟨.slice e,s1,b1,z1⟩) (hle:lay P e=some ⟨kd,k,by',some z⟩) (hx:d.xs? k bx=some (m,xs)) (hz:z.length=k) (hk:0<k) (h1:(z.all Value.oneCell')=true) (hxl:xs.length=m*k)
  (hb:bx[i]?=some cs) (hfit:off+cap*k<=cs.length) (hn:n<=cap) (h63:n+m<=9223372036854775807) (hby:(n+m)*by'<=140737488355328)
  (hK1:n+m<=cap->K3 (.bs i off k (n+m) cap) ⟨tm,bx.set i (spl cs (off+n*k) xs),nx,lg⟩)
  (hK2:cap<n+m->∀ c',n+m<=c'->c'<=9223372036854775807->K3 (.bs bx.length 0 k (n+m) c') ⟨tm,bx++[(cs.drop off).take (n*k)++xs++List.replicate ((c'-(n+m))*k) .any],nx,lg⟩):VN P t (.bs i off k n cap) d ⟨tm,bx,nx,lg⟩ K3 ⟨⟩:=by
 show Ja P t _ _ _ _
 unfold Ja
 simp only[hl,hle,hx,hb]
 exact ⟨hz,hk,h1,hxl,trivial,hfit,hn,h63,hby,hK1,fun h c h1 h2=>hK2 h c h1 (by unfold maxLen at h2;omega)⟩
theorem zeu {tn e s1 b1 s2 b2 k by':Nat} {kn kq:IntKind} {kd:LK} {z1 z2:Option (List Value)} {z:List Value} {q:Int} (hl:lay P t=some ⟨.slice e,s1,b1,z1⟩) (hln:lay P tn=some ⟨.int kn,s2,b2,z2⟩) (hle:lay P e=some ⟨kd,k,by',some z⟩) (hz:z.length=k) (hk:0<k) (h1:(z.all Value.oneCell')=true)
  (hq:0<q) (h63:q<=9223372036854775807) (hby:q*by'<=140737488355328) (hK:∀ c',q.toNat<=c'->c'<=maxLen->K3 (.bs bx.length 0 k q.toNat c') ⟨tm,bx++[(List.replicate q.toNat (z.map zt)).flatten++List.replicate ((c'-q.toNat)*k) .any],nx,lg⟩) :
  vZ P t tn (.sc (.slice none 0 0)) (.sc (.int kq q)) ⟨tm,bx,nx,lg⟩ K3 ⟨⟩:=by
 show HF P t tn _ _ _ _
 unfold HF
 simp only[hl,hln,hle]
 exact ⟨hz,hk,h1,hq,h63,hby,hK⟩
theorem zrL {tn e s1 b1 s2 b2 k by' i off n cap:Nat} {kn kq:IntKind} {kd:LK} {z1 z2:Option (List Value)} {z:List Value} {cs:List C} {q:Int} (hl:lay P t=some ⟨.slice e,s1,b1,z1⟩) (hln:lay P tn=some ⟨.int kn,s2,b2,z2⟩) (hle:lay P e=some ⟨kd,k,by',some z⟩) (hz:z.length=k) (hk:0<k) (h1:(z.all Value.oneCell')=true)
  (hb:bx[i]?=some cs) (hfit:off+cap*k<=cs.length) (hn:n<=cap) (hq:0<q) (h63:(n:Int)+q<=9223372036854775807) (hby:((n:Int)+q)*by'<=140737488355328) (hg:(cap:Int)<n+q)
  (hK:∀ c',n+q.toNat<=c'->c'<=9223372036854775807->K3 (.bs bx.length 0 k (n+q.toNat) c') ⟨tm,bx++[(cs.drop off).take (n*k)++(List.replicate q.toNat (z.map zt)).flatten++List.replicate ((c'-(n+q.toNat))*k) .any],nx,lg⟩):vZ P t tn (.bs i off k n cap) (.sc (.int kq q)) ⟨tm,bx,nx,lg⟩ K3 ⟨⟩:=by
 show HF P t tn _ _ _ _
 unfold HF
 simp only[hl,hln,hle,hb]
 exact ⟨hz,hk,h1,trivial,hfit,hn,hq,h63,hby,hg,fun c h1 h2=>hK c h1 (by unfold maxLen at h2;omega)⟩
def opB (P:Program) (fn:Func) (code:Code) (b:Nat->List Bool):Bool:=P.follows .mixedOrders&&(!(fn.name == "runtime.NumGoroutine")&&qV fn.ntmps b code)
theorem znK {fn:Func} {code:Code} {b:Nat->List Bool} (h:opB P fn code b=true):P.follows .mixedOrders=true:=(Bool.and_eq_true_iff.1 h).1
theorem zmJ {fn:Func} {code:Code} {b:Nat->List Bool} (h:opB P fn code b=true):(fn.name == "runtime.NumGoroutine")=false:=by
 have:=(Bool.and_eq_true_iff.1 (Bool.and_eq_true_iff.1 h).2).1
 simpa using this
theorem znM {fn:Func} {code:Code} {b:Nat->List Bool} (h:opB P fn code b=true):qV fn.ntmps b code=true:=(Bool.and_eq_true_iff.1 (Bool.and_eq_true_iff.1 h).2).2
theorem foF {f:FuncId} {fn:Func} {code:Code} {args:List C} {r:C} {n:Nat} (b:Nat->List Bool) (hf:P.funcs[f]?=some fn)
  (h:Zp P G ⟨0,none,b⟩ code (NJ P fn.results.toList (fun c σ=>∃ (fr:Fr) (src:Src),zfG fr σ.bx/\XN src=true/\src.length=n/\CLe src 0 (c.fy σ.nx fr σ.bx) r) ⟨⟩) ⟨Z4 0 args,[],0,0⟩ ⟨⟩ ⟨⟩) (hb:fn.body=some code:=by rfl) (hN:args.length<=fn.ntmps:=by exact zgP rfl) (ho:opB P fn code b=true:=by kernel_rfl):Fun P G f args r n:=Fun.of_awpF b (znK ho) hf hb (zmJ ho) hN (znM ho) h
theorem foX {f:FuncId} {fn:Func} {code:Code} {args:List C} {bx:List (List C)} {q:Nat} {post:C->List (List C)->Nat->Prop} (b:Nat->List Bool) (hf:P.funcs[f]?=some fn)
  (h:Zp P G ⟨bx.length,none,b⟩ code (NJ P fn.results.toList (fun c σ=>∃ r bx' n,(post r bx' n/\bx.length<=bx'.length)/\∃ src:Src,XN src=true/\src.length=n/\za src bx'.length σ.bx bx'/\CLe src bx'.length c r) ⟨⟩) ⟨Z4 0 args,bx,q,0⟩ ⟨⟩ ⟨⟩) (hb:fn.body=some code:=by rfl) (hN:args.length<=fn.ntmps:=by exact zgP rfl) (ho:opB P fn code b=true:=by kernel_rfl):Y1 P G f args bx q post:=Y1.of_awp b (znK ho) hf hb (zmJ ho) hN (znM ho) h
theorem uu {f:FuncId} {args fargs:List C} {r:C} {n:Nat} (gargs:List C) (hf:Fun P G f gargs r n) (hr:r.freshB=true) (hl:Jk bx args gargs) (hK:K3 (r.sh nx) ⟨tm,bx,nx+n,lg⟩):Qa P G f args fargs ⟨tm,bx,nx,lg⟩ K3 ⟨⟩:=.inr <| .inr <| .inl ⟨gargs,r,n,hl,hf,hr,hK⟩
theorem call {f:FuncId} {args fargs:List C} {r:C} {n:Nat} (hf:Fun P G f fargs r n) (hK:K3 (r.sh nx) ⟨tm,bx,nx+n,lg⟩):Qa P G f args fargs ⟨tm,bx,nx,lg⟩ K3 ⟨⟩:=.inl ⟨r,n,hf,hK⟩
theorem zaf {f:FuncId} {args:List C} {r:C} {n:Nat} (hf:Fun P G f args r n) (hK:K2 (r.sh nx) (nx+n)):yg P G f args nx K2 ⟨⟩:=vW.mk hf hK
theorem Fun.less {f:FuncId} {args args':List C} {r:C} {n:Nat} (hf:Fun P G f args' r n) (hl:ze [] 0 args args'):Fun P G f args r n:=⟨hf.1,fun R vs hg ha=>hf.2 R vs hg (by
 have:=zm.less _ _ _ hl ha
 refine zm.ext (Ext.refl R) ⟨fun i b hb=>?_,fun id x hx=>?_⟩ _ _ this
 ·simp at hb
 ·have hx:QT [] zu.T id=some x:=hx
  simp[QT]at hx)⟩
theorem zfR {f:FuncId} {args fargs a1:List C} {fbx fbx':List (List C)} {r:C} {n q:Nat} (ι κ:List Nat) (hf:zaN P G f a1 fbx q r fbx' n) (hq:κ.length=q) (hι:ι.Nodup) (hκ:κ.Nodup) (hb:∀ i∈ι,i<bx.length)
  (ha:C.reL (XC ι) (XC κ) args=a1) (hx:(ι.map fun i=>C.reL (XC ι) (XC κ) (bx.getD i []))=fbx) (hK:K3 (r.re (upB ι bx.length) (upO nx)) (Zu ι κ fbx' n ⟨tm,bx,nx,lg⟩)):Qa P G f args fargs ⟨tm,bx,nx,lg⟩ K3 ⟨⟩:=
 .inr <| .inl ⟨ι,κ,r,fbx',n,hι,hκ,hb,by rw[ha,hq];exact hx▸hf,hK⟩
theorem range {A B:Nat->(Exit->St->Prop)->St->Prop} {ps:List Tmp} {f:FuncId} {first cap first' cap':List C} {bx':List (List C)} (items:List (List C)) (sf:Nat->Bool) (m:Nat) (I:Nat->St) (hit:Nx P G f first' cap' bx' items) (e1:C.selL (Ym m) first=first') (e2:C.selL (Ym m) cap=cap') (e3:(bx.drop m).map (C.selL (Ym m))=bx')
  (hp:p<=m) (hm:m<=bx.length) (hlen:∀ it∈items,it.length=ps.length) (hI:∀ k,k<=items.length->(I k).bx.length=m) (hw:j8 m ⟨[],bx,nx,lg⟩ ((I 0).wt []))
  (hbody:∀ k it,items[k]?=some it->(∀ j,j<k->sf j=false)->A m (zjb (B m (M3 m (UC m tm) (sf k) (I (k+1)) Q ⟨⟩ ⟨⟩)) ⟨⟩) ((I k).wt (Zd ps it (UC m tm))))
  (hdone:(∀ j,j<items.length->sf j=false)->Q .normal ((I items.length).wt (UC m tm))):zbH P G p A B Q ps (.clo (.func f) first cap) ⟨tm,bx,nx,lg⟩ ⟨⟩ ⟨⟩ ⟨⟩:=
 ⟨items,sf,m,I,hp,hm,by rw[e1,e2];exact e3▸hit,hlen,hI,hw,hbody,hdone⟩
theorem loop {B:(Exit->St->Prop)->St->Prop} {ι:Type} (I:ι->St) (ok:ι->Prop) (μ:ι->Nat) (i0:ι) (h0:ok i0) (hw:j8 p σ (I i0))
  (hr:∀ i,ok i->B (yX (fun σ'=>∃ j,ok j/\μ j<μ i/\j8 p σ' (I j)) Q ⟨⟩ ⟨⟩) (I i)):zci p B Q σ ⟨⟩ ⟨⟩:=⟨ι,I,ok,μ,i0,h0,hw,hr⟩
theorem fof {f:FuncId} {fn:Func} {code:Code} {args:List C} {r:C} {n:Nat} (b:Nat->List Bool) (hf:P.funcs[f]?=some fn)
  (h:Zp P G ⟨0,none,b⟩ code (NJ P fn.results.toList (fun c σ=>∃ src:Src,XN src=true/\src.length=n/\CLe src 0 (c.fz σ.bx) r) ⟨⟩) ⟨Z4 0 args,[],0,0⟩ ⟨⟩ ⟨⟩) (hb:fn.body=some code:=by rfl) (hN:args.length<=fn.ntmps:=by exact zgP rfl) (ho:opB P fn code b=true:=by kernel_rfl):Fun P G f args r n:=Fun.of_awp b (znK ho) hf hb (zmJ ho) hN (znM ho) h
theorem fon {f:FuncId} {fn:Func} {code:Code} {args:List C} {r:C} {n:Nat} (hf:P.funcs[f]?=some fn)
  (h:Zp P G ⟨0,none,fun _=>[]⟩ code (NJ P fn.results.toList (fun c σ=>∃ src:Src,XN src=true/\src.length=n/\CLe src 0 (c.fz σ.bx) r) ⟨⟩) ⟨Z4 0 args,[],0,0⟩ ⟨⟩ ⟨⟩) (hb:fn.body=some code:=by rfl) (hN:args.length<=fn.ntmps:=by exact zgP rfl) (ho:opB P fn code (fun _=>[])=true:=by kernel_rfl):Fun P G f args r n:=fof _ hf h hb hN ho
theorem foB {f:FuncId} {fn:Func} {code:Code} {args:List C} {bx bx':List (List C)} {r:C} {q n:Nat} (b:Nat->List Bool) (hf:P.funcs[f]?=some fn)
  (h:Zp P G ⟨bx.length,none,b⟩ code (NJ P fn.results.toList (fun c σ=>∃ src:Src,XN src=true/\src.length=n/\za src bx'.length σ.bx bx'/\CLe src bx'.length c r) ⟨⟩) ⟨Z4 0 args,bx,q,0⟩ ⟨⟩ ⟨⟩) (hb:fn.body=some code:=by rfl) (hN:args.length<=fn.ntmps:=by exact zgP rfl) (ho:opB P fn code b=true:=by kernel_rfl) (hlen:bx.length<=bx'.length:=by exact zgP rfl):zaN P G f args bx q r bx' n:=zaN.of_awp b (znK ho) hf hb (zmJ ho) hN (znM ho) hlen h
theorem foI {f:FuncId} {fn:Func} {code:Code} {first cap:List C} {bx items:List (List C)} (b:Nat->List Bool) (hf:P.funcs[f]?=some fn)
  (h:∀ (l:Nat) (sf:Nat->Bool),Zp P G ⟨0,some ⟨l,items,sf⟩,b⟩ code (NJ P fn.results.toList (fun c σ=>zl3 items sf σ.lg) ⟨⟩) ⟨Z4 0 (first++[.sc (.func (.yield l) #[] #[])]++cap),bx,0,0⟩ ⟨⟩ ⟨⟩) (hb:fn.body=some code:=by rfl) (hN:first.length+1+cap.length<=fn.ntmps:=by exact zgP rfl) (ho:opB P fn code b=true:=by kernel_rfl):Nx P G f first cap bx items:=Nx.of_awp b (znK ho) hf hb (zmJ ho) hN (znM ho) h
theorem zpy {i m k n cap b:Nat} {cs xs:List C} {z1:List Value} (A:List C) (hbx:bx[i]?=some cs) (h1:z1.length=k) (h2:0<k) (h3:(z1.all Value.oneCell')=true) (h4:0<m) (hp:p<=i) (hl:cs.length=cap*k) (hn:n<=cap) (hc:cap<=9223372036854775807)
  (h5:n+m<=9223372036854775807) (h6:(n+m)*b<=140737488355328) (hA:C.reL (Jn i) some (cs.take (n*k)++xs)=A)
  (hK:∀ c',n+m<=c'->c'<=9223372036854775807->K3 (.bs i 0 k (n+m) c') ⟨kL (Jn i) some tm,QM i (A++List.replicate ((c'-(n+m))*k) .any) bx,nx,lg⟩):zmI (some (m,xs)) p k b z1 (.bs i 0 k n cap) ⟨tm,bx,nx,lg⟩ K3 ⟨⟩:=by
 refine ⟨h1,h2,h3,h4,?_⟩
 simp only[hbx]
 exact ⟨trivial,hp,hl,hn,hc,h5,h6,fun c' q1 q2=>by rw[hA];exact hK c' q1 (by unfold maxLen at q2;omega)⟩
theorem zan (k:Nat):((k:Int)+1).toNat=k+1:=by omega
theorem ziE.mk {B:(Exit->St->Prop)->St->Prop} {ι:Type} (I:ι->St) (ok:ι->Prop) (μ:ι->Nat) (i0:ι) (h0:ok i0) (hw:j8 p σ (I i0))
  (hr:∀ i,ok i->B (zli (fun σ'=>∃ j,ok j/\μ j<μ i/\j8 p σ' (I j)) Q) (I i)):ziE p B Q σ:=⟨ι,I,ok,μ,i0,h0,hw,hr⟩
end
attribute [push_cast] zkU eq_self iff_self List.append_eq zqr zq9 zrm zrB zpL zpJ zpY zp7 zbf zpr zlq zh5 zol zmp zn9 zmY zo2 zjG zoz zn0 zkv zqA zn1 zjD zn8 zqu zpH zoT zlg zmT zhv zlB ziI zbB zio zgh zhw zcY zdC zcp ziS znW zn3 zoM zmS zev yE zq6 zho zl6 zjI znw zoU xa uS zeT NY NW yj za1 NT zgQ xH zbm zlw zlT znu znt znY zor zmr zoZ zkF zn5 zgM zhh ziV zgz zh8 zk6 zoa znJ zkV zlM uJ uM xX yp UR UG zo5 zlW zhX zib uR zaS zhA zgW zde zdw zg1 zif Nv NI zd2 zdU zie zgi xj N4 zew zdi kS He zd3 zcj HK HZ zdg zdt yu MH zb9 zcX zlG zj3 M8 zn4 zj5 uF zmq zg5 zbc zox zaz zg7 zh6 zlH zqD zhW zcR zaZ zcH zjJ zey zgI zay zcu M6 yy znb yi Mo xW H7 MR M7 G9 zcm zdQ zbd zb3 MB zeV GB zfx zbq zcd zaK zgF zfO zj8 zfl zbK zch zc2 zdR zc4 zdF zda zc6 zed zeU zcM zdx zbW zaB zfN zdE zpM zdI znq zdN zpp zqo zam zcq za8 uP uq zkb Hm za9 xr zaL GC GH zkD zgs zez zq1 zpI zhy zf7 zrx za6 zbg zej zeF uw xJ uK zfg zcf zhC zgZ zfM zq3 zqa zpO zpR zro zqm zqe zlk zo4 zlN zlU zgT zjC zoG znP zaD u6 zac zmO zrh zjz zrk zpk zmn zq0 zqt zaH zcn zhP uh znX zoo zhn zgX zik zaM um zaj zec zbr znH uQ zid zhF zcD zbZ zgD zcU zdL zmN zmH zkd zhz zrt zl8 zoi zkQ zp1 zpC zq5 zqd zqG zqE zdu zbF znQ zpS zpn znA zot zp0 zqy zqv zlX zl0 zg9 zne zp4 zpW zqb zls zo1 zkn zoj zhN zf3 ziN zjH zhG ziJ zjA zp3 zpx zp5 zp9 zhs zkq zjY zd9 zgB zfL zh7 zjR zlp MX ze3 zf5 ziD zil zfW zj4 zj7 zlJ zly zae zni zbt zb7 zdB zhu zfU zir zjF zf0 zgV zcw zk1 zhT uo zfZ zbM zfS zlv zhk zlc zf4 ziv ziR zk4 uO zhe zgv zdH zke zlu zkC zk7 zjB zkW zl5 ziK zgN zit ziq zcC zad zet zdT uj xb ziL zf2 zgw zd6 uG zgL zgx zdK uN ze8 zdb ut x9 zhp ziF zhL zfm zaX zg8 zgf zhj zbQ zak u0 zm4 za5 zmz MY M5 xE uI zaP zaQ x6 xi yB zbv ui uL yF xo ze4 zaa yC G3 zjE zlZ zkR zoI zcQ zbn
attribute [push_cast] Int.ofNat_eq_natCast Bool.not_false Bool.not_true Bool.true_beq Bool.false_beq beq_self_eq_true Bool.true_and zlP zkX znO zlj zlV List.map_cons List.map_nil List.getElem?_cons_zero List.getElem?_cons_succ List.getElem?_toArray List.getElem?_nil List.drop_zero List.drop_succ_cons List.drop_nil List.take_succ_cons List.take_zero List.take_nil List.length_cons List.length_nil List.getD_cons_zero List.getD_cons_succ List.set_cons_zero List.set_cons_succ List.cons_append List.nil_append List.append_nil List.all_cons List.all_nil List.tail_cons List.tail_nil List.headD_cons List.headD_nil List.flatten_cons List.flatten_nil List.replicate_succ List.replicate_zero Bool.and_self Bool.and_true Bool.true_and Bool.not_true Bool.not_false Option.bind_some Option.map_some Option.map_none if_true if_false true_and and_true and_self decide_true decide_false Int.ofNat_le Int.ofNat_lt Int.natCast_inj zan Int.toNat_natCast Nat.zero_add Nat.add_zero List.toList_toArray Int.add_zero Int.zero_add Bool.not_not Int.sub_zero Int.natCast_pos Nat.sub_zero Int.cast_ofNat_Int Nat.one_mul Nat.mul_one
theorem dn {p q r:Src->Prop} (c:r []:=by push_cast -dsimp [zb,za,CLe,ze]) (a:p []:=by rfl) (b:q []:=by rfl):∃ s,p s/\q s/\r s:=⟨[],a,b,c⟩
theorem wks {p:Nat} {σ σ':St} (src:Src) (h4:zb src σ'.bx.length σ.tm σ'.tm:=by push_cast -dsimp [zb,za,CLe,ze]) (h5:za src σ'.bx.length σ.bx σ'.bx:=by push_cast -dsimp [zb,za,CLe,ze]) (h1:XN src=true:=by rfl) (h2:src.length=σ'.nx:=by rfl)
  (h3:p<=σ'.bx.length:=by first | exact Nat.zero_le _ | exact Nat.le_refl _ | exact zgP rfl) (h0:σ'.lg=σ.lg:=by rfl):j8 p σ σ':=⟨src,h1,h2,h3,h0,h4,h5⟩
theorem wk {p:Nat} {σ σ':St} (h4:zb [] σ'.bx.length σ.tm σ'.tm:=by push_cast -dsimp [zb,za,CLe,ze]) (h5:za [] σ'.bx.length σ.bx σ'.bx:=by push_cast -dsimp [zb,za,CLe,ze]) (h2:([]:Src).length=σ'.nx:=by rfl)
  (h3:p<=σ'.bx.length:=by first | exact Nat.zero_le _ | exact Nat.le_refl _ | exact zgP rfl) (h0:σ'.lg=σ.lg:=by rfl):j8 p σ σ':=⟨[],rfl,h2,h3,h0,h4,h5⟩
theorem an {a b:Prop} (k:b) (h:a:=by first | omega | (simp only[lS];omega)):a/\b:=⟨h,k⟩
namespace CA
theorem cl {P:Program} {G:zk} {f:FuncId} {args fargs:List C} {r:C} {n nx lg:Nat} {tm:List (Nat×C)} {bx:List (List C)} {K3:C->St->Prop} (hf:Fun P G f fargs r n) (hK:K3 (r.sh nx) ⟨tm,bx,nx+n,lg⟩):Qa P G f args fargs ⟨tm,bx,nx,lg⟩ K3 ⟨⟩:=call hf hK
end CA
namespace CB
theorem cl {P:Program} {G:zk} {f:FuncId} {args:List C} {r:C} {n nx:Nat} {K2:C->Nat->Prop} (hf:Fun P G f args r n) (hK:K2 (r.sh nx) (nx+n)):yg P G f args nx K2 ⟨⟩:=zaf hf hK
end CB
end
section
open Go.RowKit
def C.stayB:C->Bool
 | .sc _ | .str _ | .sl _ _ | .tight _ _ | .row _ | .any=>true
 | _=>false
theorem zhi {c:C} (h:c.stayB=true):c.frz=c:=by cases c<;>simp[C.stayB]at h<;>simp[C.frz]
theorem zjS {c:C} {fp fo:Nat->Option Nat} (h:c.stayB=true):c.re fp fo=c:=by cases c<;>simp[C.stayB]at h<;>simp[C.re]
theorem zlx {c:C} {src:Src} {n:Nat} (h:c.stayB=true):CLe src n c c:=by cases c<;>simp[C.stayB]at h<;>simp[CLe]
theorem VL:∀ {cs:List C},(cs.all C.stayB)=true->C.frzL cs=cs
 | [],_=>by simp[C.frzL]
 | c :: r,h=>by
  simp only[List.all_cons,Bool.and_eq_true]at h
  rw[C.frzL,zhi h.1,VL h.2]
theorem qC {fp fo:Nat->Option Nat}:∀ {cs:List C},(cs.all C.stayB)=true->C.reL fp fo cs=cs
 | [],_=>by simp[C.reL]
 | c :: r,h=>by
  simp only[List.all_cons,Bool.and_eq_true]at h
  rw[C.reL,zjS h.1,qC h.2]
theorem z6 {src:Src} {n:Nat}:∀ {cs:List C},(cs.all C.stayB)=true->ze src n cs cs
 | [],_=>by simp[ze]
 | c :: r,h=>by
  simp only[List.all_cons,Bool.and_eq_true]at h
  rw[ze]
  exact ⟨zlx h.1,z6 h.2⟩
theorem zkN {src:Src} {n:Nat} (c:C):CLe src n c .any:=by cases c<;>simp[CLe]
theorem X6 {src:Src} {n:Nat}:∀ {cs:List C} {m:Nat},cs.length=m->ze src n cs (List.replicate m .any)
 | [],_,h=>by subst h;simp[ze]
 | c :: r,_,h=>by
  subst h
  rw[List.length_cons,List.replicate_succ,ze]
  exact ⟨zkN c,X6 rfl⟩
theorem zdM {src:Src} {n:Nat}:∀ {a b c d:List C},ze src n a c->ze src n b d->ze src n (a++b) (c++d)
 | [],b,[],d,_,h=>h
 | [],b,x :: c,d,h,_=>by simp[ze]at h
 | x :: a,b,[],d,h,_=>by simp[ze]at h
 | x :: a,b,y :: c,d,h,h'=>by
  rw[List.cons_append,List.cons_append,ze]
  rw[ze]at h
  exact ⟨h.1,zdM h.2 h'⟩
def jG (k:Nat) (rows:List (List C)) (c:Nat):List C:=rows.flatten++List.replicate ((c-rows.length)*k) .any
theorem zB {k:Nat}:∀ {rows:List (List C)},(∀ r∈rows,r.length=k)->rows.flatten.length=rows.length*k
 | [],_=>by simp
 | r :: rs,h=>by
  rw[List.flatten_cons,List.length_append,h r List.mem_cons_self,zB fun x hx=>h x (List.mem_cons_of_mem _ hx),List.length_cons,Nat.succ_mul,Nat.add_comm]
theorem Qo {k c:Nat} {rows:List (List C)} (h:∀ r∈rows,r.length=k) (hc:rows.length<=c):(jG k rows c).length=c*k:=by
 unfold jG
 rw[List.length_append,zB h,List.length_replicate,←Nat.add_mul]
 congr 1;omega
abbrev jp (rows:List (List C)):Prop:=∀ r∈rows,(r.all C.stayB)=true
theorem Yv {rows:List (List C)} (h:jp rows):(rows.flatten.all C.stayB)=true:=by
 rw[List.all_eq_true]
 intro c hc
 obtain ⟨r,hr,hc⟩:=List.mem_flatten.1 hc
 exact List.all_eq_true.1 (h r hr) c hc
theorem qu {k c:Nat} {rows:List (List C)} (h:jp rows):((jG k rows c).all C.stayB)=true:=by
 unfold jG
 rw[List.all_append,Yv h,Bool.true_and,List.all_eq_true]
 intro c hc
 obtain ⟨_,rfl⟩:=List.mem_replicate.1 hc
 rfl
theorem V6 {k n:Nat}:∀ {rows:List (List C)},(∀ r∈rows,r.length=k)->rows.flatten.take (n*k)=(rows.take n).flatten:=by
 induction n with
 | zero=>intro rows _;simp
 | succ n ih =>
  intro rows h
  cases rows with
  | nil=>simp
  | cons r rs =>
   have hr:=h r List.mem_cons_self
   rw[List.take_succ_cons,List.flatten_cons,List.flatten_cons,List.take_append,List.take_of_length_le (by rw[hr,Nat.succ_mul];omega),hr,show (n+1)*k-k=n*k by rw[Nat.succ_mul];omega,ih fun x hx=>h x (List.mem_cons_of_mem _ hx)]
theorem NK {k n:Nat}:∀ {rows:List (List C)},(∀ r∈rows,r.length=k)->rows.flatten.drop (n*k)=(rows.drop n).flatten:=by
 induction n with
 | zero=>intro rows _;simp
 | succ n ih =>
  intro rows h
  cases rows with
  | nil=>simp
  | cons r rs =>
   have hr:=h r List.mem_cons_self
   rw[List.drop_succ_cons,List.flatten_cons,List.drop_append,List.drop_of_length_le (by rw[hr,Nat.succ_mul];omega),hr,List.nil_append,show (n+1)*k-k=n*k by rw[Nat.succ_mul];omega,ih fun x hx=>h x (List.mem_cons_of_mem _ hx)]
theorem Xf {src:Src} {m k c:Nat} {rows:List (List C)} {cs:List C} (hk:∀ r∈rows,r.length=k) (hs:jp rows) (hc:rows.length<=c) (hl:cs.length=c*k) (ht:cs.take (rows.length*k)=rows.flatten):ze src m cs (jG k rows c):=by
 have h1:cs=rows.flatten++cs.drop (rows.length*k):=by rw[←ht,List.take_append_drop]
 rw[h1]
 unfold jG
 refine zdM (z6 (Yv hs)) (X6 ?_)
 rw[List.length_drop,hl,←Nat.sub_mul]
theorem HR {cs xs:List C} {p:Nat} (h:p+xs.length<=cs.length):(spl cs p xs).length=cs.length:=by
 simp[spl];omega
theorem G6 {cs L X:List C} {p q:Nat} (hp:p<=L.length) (hq:q=p+X.length) (hL:cs.take L.length=L) (hc:L.length+X.length<=cs.length) :
  (spl (spl cs q (L.drop p)) p X).take (L.length+X.length)=L.take p++(X++L.drop p):=by
 subst hq
 apply List.ext_getElem?
 intro j
 have hcur:∀ j,j<L.length->cs[j]?=L[j]?:=fun j hj=>by
  have h:=congrArg (fun l=>l[j]?) hL
  simp only[List.getElem?_take,if_pos hj]at h
  exact h
 simp only[spl,List.getElem?_take,List.getElem?_append,List.getElem?_drop,List.length_take,List.length_append,List.length_drop]
 repeat' (first | split | omega)
 all_goals (first | rfl | omega | exact (List.getElem?_eq_none (by omega)).symm | (congr 1;omega) | (rw[hcur _ (by omega)];first | done | (congr 1;omega)) | (symm;rw[List.getElem?_eq_none];simp;omega) | (rw[List.getElem?_eq_none];simp;omega) | skip)
theorem vl {cs L X:List C} {p q:Nat} (hp:p<=L.length) (hq:q=p+X.length) (hL:cs.take p=L.take p) (hc:L.length+X.length<=cs.length) :
  (spl (spl cs p X) q (L.drop p)).take (L.length+X.length)=L.take p++(X++L.drop p):=by
 subst hq
 apply List.ext_getElem?
 intro j
 have hcur:∀ j,j<p->cs[j]?=L[j]?:=fun j hj=>by
  have h:=congrArg (fun l=>l[j]?) hL
  simp only[List.getElem?_take,if_pos hj]at h
  exact h
 simp only[spl,List.getElem?_take,List.getElem?_append,List.getElem?_drop,List.length_take,List.length_append,List.length_drop]
 repeat' (first | split | omega)
 all_goals (first | rfl | omega | exact (List.getElem?_eq_none (by omega)).symm | (congr 1;omega) | (rw[hcur _ (by omega)];first | done | (congr 1;omega)) | (symm;rw[List.getElem?_eq_none];simp;omega) | (rw[List.getElem?_eq_none];simp;omega) | skip)
theorem zdO {P:Program} {f:FuncId} {fn:Func} {t e tR:TypeId} {s1 b1 k by':Nat} {kd:LK} {z1 z:Option (List Value)} (hf:P.funcs[f]?=some fn) (hname:(fn.name == "runtime.NumGoroutine")=false) (hb:fn.body.isNone=true) (hn:Extern.findNext fn=none)
  (he:Extern.find fn=some (Extern.SlicesOverlaps.overlaps #[t,t] #[tR])) (hl:lay P t=some ⟨.slice e,s1,b1,z1⟩) (hle:lay P e=some ⟨kd,k,by',z⟩) {id e' k' i off n c:Nat} {rows bx:List (List C)} {cs:List C} (hbx:bx[i]?=some cs) (hcs:cs≠[]) (hrows:rows≠[]) (hn0:0<n) :
  zp8 P f [.own id e' k' rows,.bs i off k n c] bx (.sc (.bool false)):=by
 intro B R L vs hB hO hr
 obtain ⟨v1,us,rfl,h1,hr⟩:=zd.1 hr
 obtain ⟨v2,us,rfl,h2,hr⟩:=zd.1 hr
 rw[zh]at hr
 subst hr
 refine ⟨.bool false,?_,zj.2 rfl⟩
 rw[run_callFunc_extern hf hname hb hn he]
 have ht:=zJ hl rfl
 have hz:∀ w,(Go.sizeOf e).run P w = .ok k w:=fun w=>qk hle w
 obtain ⟨hT,a,cap,hv1,_⟩:=J3.1 h1
 obtain ⟨b,hbi,ad,rfl,had⟩:=qI.1 h2
 obtain ⟨us,ty,e1,e2,e3,e4⟩:=hB.box i b cs hbi hbx
 have hsz:us.size≠0:=by
  have:=zl e2
  simp only[Array.length_toList]at this
  rw[this]
  exact fun h=>hcs (List.eq_nil_of_length_eq_zero h)
 rcases hO.own id e' k' v1 hT with hnil | ⟨g,n',cap',cur,ty',q1,q2,q3,q4,q5,q6,q7,q8⟩ | ⟨_,_,_,_,hmap,_⟩
 rotate_right
 ·rw[hv1]at hmap;unfold Vp at hmap;cases hmap
 ·rw[hnil]at hv1
  obtain ⟨_,h0,_⟩:=Value.slice.inj hv1
  exact absurd (List.eq_nil_of_length_eq_zero h0.symm) hrows
 ·rw[q1]
  obtain rfl:=had (by omega)
  have hne:g≠b:=fun h=>q7 (h▸List.mem_of_getElem? hbi)
  rw[Lib.run_overlaps_apart R.w t tR e ht k hz ⟨g,0,none⟩ ⟨b,off,none⟩ n' cap' n c hne ty' ty cur.size us.size (by simp[World.shape?,q3]) (by simp[World.shape?,e1]) hsz (frozen_of_row R.w g 0 _ _ q3) (frozen_of_row R.w g _ _ _ q3)]
  rfl
theorem Ni {m k:Nat} {z:List C} (hz:z.length=k):(List.replicate m z).flatten.length=m*k:=by
 have h:=zB (k:=k) (rows:=List.replicate m z) fun r hr=>by rw[(List.mem_replicate.1 hr).2];exact hz
 rw[h,List.length_replicate]
section
variable {P:Program} {t tn e s1 b1 s2 b2 k by' m i off n cap nx lg:Nat} {kd:LK} {kn kq:IntKind} {z1 z2 z3:Option (List Value)} {z:List Value} {cs xs:List C} {bx:List (List C)} {tm:List (Nat×C)} {d:C} {q:Int} {K3:C->St->Prop}
theorem zno (hl:lay P t=some ⟨.slice e,s1,b1,z1⟩) (hln:lay P tn=some ⟨.int kn,s2,b2,z2⟩) (hle:lay P e=some ⟨kd,k,by',some z⟩) (hz:z.length=k) (hk:0<k) (h1:(z.all Value.oneCell')=true)
  (hb:bx[i]?=some cs) (hfit:off+cap*k<=cs.length) (hn:n<=cap) (hq:0<q) (h63:(n:Int)+q<=9223372036854775807) (hby:((n:Int)+q)*by'<=140737488355328) (hg:(cap:Int)<n+q)
  (hK:∀ c' B,n+q.toNat<=c'->c'<=9223372036854775807->B.length=c'*k->B.take (n*k)=(cs.drop off).take (n*k)->K3 (.bs bx.length 0 k (n+q.toNat) c') ⟨tm,bx++[B],nx,lg⟩):vZ P t tn (.bs i off k n cap) (.sc (.int kq q)) ⟨tm,bx,nx,lg⟩ K3 ⟨⟩:=by
 have hnk:n*k<=cap*k:=Nat.mul_le_mul_right _ hn
 refine zrL hl hln hle hz hk h1 hb hfit hn hq h63 hby hg fun c' g1 g2=>hK c' _ g1 g2 ?_ ?_
 ·rw[List.length_append,List.length_append,Ni (k:=k) (by simpa using hz),List.length_replicate,List.length_take,List.length_drop,Nat.min_eq_left (by omega),←Nat.add_mul,←Nat.add_mul]
  congr 1;omega
 ·rw[List.append_assoc,List.take_left' (by rw[List.length_take,List.length_drop];omega)]
theorem Zw (hl:lay P t=some ⟨.slice e,s1,b1,z1⟩) (hle:lay P e=some ⟨kd,k,by',z3⟩) (hx:d.xs? k bx=some (m,xs)) (hb:bx[i]?=some cs) (hxl:xs.length=m*k) (hfit:off+n*k<=cs.length)
  (hK:∀ B,B=spl cs off (xs.take (min m n*k))->B.length=cs.length->K3 (.sc (.int .i64 ((min m n:Nat):Int))) ⟨tm,bx.set i B,nx,lg⟩):zds P t (.bs i off k n cap) d ⟨tm,bx,nx,lg⟩ K3 ⟨⟩:=
 zpE hl hle hx hb hxl hfit (hK _ rfl (by
  have h1:min m n*k<=n*k:=Nat.mul_le_mul_right _ (Nat.min_le_right _ _)
  exact HR (by rw[List.length_take];omega)))
end
theorem vP {k i off n c:Nat} {bx:List (List C)} {cs:List C} (hb:bx[i]?=some cs) (h:off+n*k<=cs.length):C.xs? k bx (.bs i off k n c)=some (n,(cs.drop off).take (n*k)):=by
 simp[C.xs?,hb,h]
theorem Vb {k c i:Nat} {rows:List (List C)} (hk:∀ r∈rows,r.length=k) (hi:i<=rows.length):((jG k rows c).drop (i*k)).take ((rows.length-i)*k)=rows.flatten.drop (i*k):=by
 have hf:=zB hk
 have h1:i*k<=rows.length*k:=Nat.mul_le_mul_right _ hi
 unfold jG
 rw[List.drop_append_of_le_length (by omega),List.take_left' (by rw[List.length_drop,hf,Nat.sub_mul])]
theorem Vg {k i:Nat} {rows:List (List C)} {x:List C} (hk:∀ r∈rows,r.length=k):rows.flatten.take (i*k)++(x++rows.flatten.drop (i*k))=(rows.take i++x :: rows.drop i).flatten:=by
 rw[V6 hk,NK hk];simp
theorem va {bx:List (List C)} {i e k c:Nat} {rows:List (List C)} {cs:List C} (hb:bx[i]?=some cs) (hc:0<c) (h1:rows.length<=c) (h2:c<=9223372036854775807) (hl:cs.length=c*k) (hk:∀ r∈rows,r.length=k) (hs:(cs.all C.stayB)=true) (ht:cs.take (rows.length*k)=rows.flatten) :
  zfG [(i,e,k,rows,c)] bx:=by
 refine ⟨by simp,fun x hx=>?_⟩
 rw[List.mem_singleton]at hx
 subst hx
 exact ⟨cs,hb,hc,h1,by unfold maxLen;exact h2,hl,hk,by rw[VL hs];exact ht⟩
theorem zbR {k c:Nat} {rows:List (List C)} (hk:∀ r∈rows,r.length=k):(jG k rows c).take (rows.length*k)=rows.flatten:=by
 unfold jG;rw[List.take_left' (zB hk)]
theorem jg {bx:List (List C)} {i e k c:Nat} {rows:List (List C)} (hb:bx[i]?=some (jG k rows c)) (hc:0<c) (h1:rows.length<=c) (h2:c<=9223372036854775807) (hk:∀ r∈rows,r.length=k) (hs:jp rows):zfG [(i,e,k,rows,c)] bx:=
 va hb hc h1 h2 (Qo hk h1) hk (qu hs) (zbR hk)
theorem yZ {k c i:Nat} {rows:List (List C)} {row:List C} (hk:∀ r∈rows,r.length=k) (hr:row.length=k) (hi:i<rows.length):(jG k rows c).take (i*k)++row++(jG k rows c).drop (i*k+k)=jG k (rows.set i row) c:=by
 have hf:=zB hk
 have h1:(i+1)*k<=rows.length*k:=Nat.mul_le_mul_right _ hi
 rw[Nat.succ_mul]at h1
 unfold jG
 rw[List.take_append_of_le_length (by omega),List.drop_append_of_le_length (by omega),←Nat.succ_mul,V6 hk,NK hk,List.length_set,←List.append_assoc]
 congr 1
 rw[List.set_eq_take_append_cons_drop,if_pos hi]
 simp
def RLe:List (List C)->List (List C)->Prop
 | [],[]=>True
 | a :: r,b :: s=>ze [] 0 a b/\RLe r s
 | _,_=>False
theorem RLe.len:∀ {a b:List (List C)},RLe a b->a.length=b.length
 | [],[],_=>rfl
 | _ :: r,_ :: s,h=>by rw[List.length_cons,List.length_cons,RLe.len h.2]
theorem ze.len {src:Src} {n:Nat}:∀ {a b:List C},ze src n a b->a.length=b.length
 | [],[],_=>rfl
 | [],_ :: _,h=>by simp[ze]at h
 | _ :: _,[],h=>by simp[ze]at h
 | _ :: r,_ :: s,h=>by
  rw[ze]at h
  rw[List.length_cons,List.length_cons,ze.len h.2]
theorem zc9 {R:Env} {c d:C} {v:Value} (h:CLe [] 0 c d) (hr:Rep R zu c v):Rep R zu d v:=by
 refine Rep.ext (Ext.refl R) (T:=jM [] 0 zu) ⟨fun i b hb=>?_,fun id x hx=>?_⟩ _ _ (Rep.less _ _ _ h hr)
 ·simp at hb
 ·have hx:QT [] zu.T id=some x:=hx
  simp[QT]at hx
theorem VG {R:Env} {b:Nat}:∀ {cs ds:List C} {o:Nat},ze [] 0 cs ds->zA R cs b o->zA R ds b o
 | [],[],_,_,h=>h
 | [],_ :: _,_,h,_=>by simp[ze]at h
 | _ :: _,[],_,h,_=>by simp[ze]at h
 | c :: r,d :: s,o,h,hr=>by
  rw[ze]at h
  obtain ⟨⟨v,h1,h2,h3,h4⟩,h5⟩:=zR.1 hr
  exact zR.2 ⟨⟨v,h1,h2,zc9 h.1 h3,h4⟩,VG h.2 h5⟩
theorem kI {R:Env} {k b:Nat}:∀ {a c:List (List C)} {o:Nat},RLe a c->zD R a k b o->zD R c k b o
 | [],[],_,_,h=>h
 | x :: r,y :: s,o,h,hr=>by
  unfold zD at hr ⊢
  exact ⟨(ze.len h.1).symm.trans hr.1,VG h.1 hr.2.1,kI h.2 hr.2.2⟩
theorem zav {R:Env} {L:Loc} {id e k:Nat} {a c:List (List C)} {v:Value} (h:RLe a c) (hr:Rep R L (.own id e k a) v):Rep R L (.own id e k c) v:=by
 obtain ⟨h1,ad,cap,h2,h3,h4,h5⟩:=J3.1 hr
 refine J3.2 ⟨h1,ad,cap,by rw[h2,h.len],by rw[←h.len];exact h3,h4,?_⟩
 rcases h5 with h5 | ⟨b,o,h5,h6⟩
 ·subst h5
  have:=h.len
  exact .inl (List.eq_nil_of_length_eq_zero (by simpa using this.symm))
 ·exact .inr ⟨b,o,h5,kI h h6⟩
theorem Fun.resX {P:Program} {G:zk} {f:FuncId} {args:List C} {r r':C} {n:Nat} (hf:Fun P G f args r n) (h:∀ R L v,Rep R L r v->Rep R L r' v):Fun P G f args r' n:=
 ⟨hf.1,fun R vs hg ha=>(hf.2 R vs hg ha).mono fun e w' ⟨v,R',L',h1,h2,h3,h4⟩=>⟨v,R',L',h1,h2,h3,h _ _ _ h4⟩⟩
theorem uz {R:Env} {L:Loc} {cs ds:List C} {v:Value} (h:∀ vs,zm R L cs vs->zm R L ds vs) (hr:Rep R L (.agg cs) v):Rep R L (.agg ds) v:=by
 obtain ⟨vs,h1,h2⟩:=jj.1 hr
 exact jj.2 ⟨vs,h1,h _ h2⟩
theorem JN {R:Env} {L:Loc} {c d:C} {cs ds:List C} {vs:List Value} (h:∀ v,Rep R L c v->Rep R L d v) (h':∀ vs,zm R L cs vs->zm R L ds vs) (hr:zm R L (c :: cs) vs):zm R L (d :: ds) vs:=by
 obtain ⟨v,us,rfl,h1,h2⟩:=zd.1 hr
 exact zd.2 ⟨v,us,rfl,h _ h1,h' _ h2⟩
end
section
open Go.RowKit
def ziZ (k:Nat) (rows:List (List C)) (r:C) (bx':List (List C)) (n:Nat):Prop:=
 n=0/\((rows≠[]/\∃ c,rows.length<=c/\c<=9223372036854775807/\r = .bs 1 0 k rows.length c/\bx' = [[],jG k rows c])∨(rows = []/\(r = .sc (.slice none 0 0)/\bx' = []∨r = .bs 0 0 k 0 0/\bx' = [[]])))
def zqQ (k m:Nat) (ins:List (List C)) (r:C) (bx':List (List C)) (n:Nat):Prop:=
 n=0/\∃ c,ins.length<=c/\c<=9223372036854775807/\(r = .bs 0 0 k ins.length c/\bx' = [jG k ins c]∨r = .bs 1 0 k ins.length c/\bx' = [List.replicate m .any,jG k ins c])
section
variable {G:zk}
theorem kF (rows:List (List C)) (hk:∀ r∈rows,r.length=6) (hs:jp rows) (hl:rows.length<=100000) :
  Y1 Tryz.prog G 237 [.sl 6 rows] [] 0 (ziZ 6 rows):=by
 refine Y1.bySlice (fun h=>?_) (fun h a cap hr=>?_)
 ·refine foX (fun i=>if i=1000000+22 then [true,true] else []) Tryz.func237 ?_;dsimp only[Tryz.f237]
  push_cast -dsimp
  refine ⟨h,ZZ Vx VX rfl rfl (by decide) rfl (zB hk) rfl (Nat.le_refl _) (Nat.le_refl _) (by omega) (by omega) (fun hc=>absurd hc ?_) (fun _ c hc hm=>?_)⟩
  ·have:=List.length_pos_iff.2 h;omega
  ·push_cast -dsimp
   rw[Nat.zero_add]at hc
   refine ⟨_,_,_,⟨⟨rfl,.inl ⟨h,c,hc,hm,rfl,rfl⟩⟩,Nat.zero_le _⟩,[],rfl,rfl,?_,by push_cast -dsimp [zb,za,CLe,ze]⟩
   push_cast -dsimp [zb,za,CLe,ze]
   exact z6 (qu hs)
 ·cases a with
  | none =>
   refine foX (fun i=>if i=1000000+22 then [true,true] else []) Tryz.func237 ?_;dsimp only[Tryz.f237]
   push_cast -dsimp [hr,Option.isNone_none]
   exact ⟨_,_,_,⟨⟨rfl,.inr ⟨h,.inl ⟨rfl,rfl⟩⟩⟩,Nat.zero_le _⟩,[],rfl,rfl,by push_cast -dsimp [zb,za,CLe,ze],by push_cast -dsimp [zb,za,CLe,ze]⟩
  | some a =>
   refine foX (fun i=>if i=1000000+22 then [true,true] else []) Tryz.func237 ?_;dsimp only[Tryz.f237]
   push_cast -dsimp [hr,Option.isNone_some]
   have hx:C.xs? 6 [[]] (C.sc (.slice (some a) 0 cap))=some (0,[]):=by simp[C.xs?,hr]
   refine ZZ Vx VX hx rfl (by decide) rfl rfl rfl (Nat.le_refl _) (Nat.le_refl _) (by omega) (by omega) (fun _=>?_) (fun hc=>absurd hc (by omega))
   push_cast -dsimp
   exact ⟨_,_,_,⟨⟨rfl,.inr ⟨h,.inr ⟨rfl,rfl⟩⟩⟩,Nat.zero_le _⟩,[],rfl,rfl,by (push_cast -dsimp [zb,za,CLe,ze];simp[spl,ze]),by push_cast -dsimp [zb,za,CLe,ze]⟩
theorem vH (rows:List (List C)) (x:List C) (i c e:Nat) (hk:∀ r∈rows,r.length=6) (hx:x.length=6) (hs:jp rows) (hsx:(x.all C.stayB)=true) (hl:rows.length<=100000) (hi:i<=rows.length) (hc:rows.length<=c) (hcm:c<=9223372036854775807) :
  Y1 Tryz.prog G 236 [.bs 0 0 6 rows.length c,.sc (.int .i64 i),.own 0 e 6 [x]] [jG 6 rows c] 1 (zqQ 6 (c*6) (rows.take i++x :: rows.drop i)):=by
 refine foX (fun j=>if j=1000000+22 then [true,true] else if j=11 then [false,false,false,false,false,false,false,false,true] else if j=15 then [false,false,false,false,false,false,false,false,true] else []) Tryz.func236 ?_;dsimp only[Tryz.f236]
 push_cast -dsimp
 have hlen:(rows.take i++x :: rows.drop i).length=rows.length+1:=by simp;omega
 have hki:∀ r∈rows.take i++x :: rows.drop i,r.length=6:=fun r hr=>by
  rcases List.mem_append.1 hr with hr | hr
  ·exact hk r (List.mem_of_mem_take hr)
  ·rcases List.mem_cons.1 hr with rfl | hr
   ·exact hx
   ·exact hk r (List.mem_of_mem_drop hr)
 have hsi:jp (rows.take i++x :: rows.drop i):=fun r hr=>by
  rcases List.mem_append.1 hr with hr | hr
  ·exact hs r (List.mem_of_mem_take hr)
  ·rcases List.mem_cons.1 hr with rfl | hr
   ·exact hsx
   ·exact hs r (List.mem_of_mem_drop hr)
 have hbl:=Qo hk hc
 have hfl:=zB hk
 have hxl:[x].flatten.length=1*6:=by simp[hx]
 have hpre:(jG 6 rows c).take rows.flatten.length=rows.flatten:=by unfold jG;rw[List.take_left]
 refine ⟨hc,⟨by omega,hi⟩,br (fun h=>?_) (fun h=>?_)⟩
 ·push_cast -dsimp
  refine ZZ Vx VX rfl rfl (by decide) rfl hxl rfl (by rw[hbl];omega) hc (by simp;omega) (by simp;omega) (fun h1=>?_) (fun h1 c' h2 h3=>?_)
  ·push_cast -dsimp
   have hi':i=rows.length:=of_decide_eq_true h
   refine ⟨_,_,_,⟨⟨rfl,c,by rw[hlen];exact h1,hcm,.inl ⟨rfl,rfl⟩⟩,Nat.le_refl _⟩,[],rfl,rfl,?_,by push_cast -dsimp [zb,za,CLe,ze,hlen]⟩
   push_cast -dsimp [zb,za,CLe,ze]
   have h6:rows.length*6+6<=c*6:=by have:rows.length+1<=c:=h1;omega
   refine Xf hki hsi (by rw[hlen];exact h1) (by rw[HR (by rw[hbl,hx];exact h6),hbl]) ?_
   rw[hlen,hi',List.take_length,List.drop_length]
   unfold spl
   rw[←hfl,hpre,List.take_left' (by simp[hx,hfl];omega)]
   simp
  ·push_cast -dsimp
   have hi':i=rows.length:=of_decide_eq_true h
   have h2':rows.length+1<=c':=h2
   refine ⟨_,_,_,⟨⟨rfl,c',by rw[hlen];exact h2,h3,.inr ⟨rfl,rfl⟩⟩,Nat.le_of_ble_eq_true rfl⟩,[],rfl,rfl,?_,by push_cast -dsimp [zb,za,CLe,ze,hlen]⟩
   push_cast -dsimp [zb,za,CLe,ze]
   refine ⟨X6 hbl,Xf hki hsi (by rw[hlen];exact h2) (by simp[hx,hbl];omega) ?_⟩
   rw[hlen,hi',List.take_length,List.drop_length,←hfl,hpre,List.take_left' (by simp[hx,hfl];omega)]
   simp
 ·have hne:i≠rows.length:=of_decide_eq_false h
  push_cast -dsimp
  refine ⟨⟨by omega,by omega⟩,br (fun h1=>?_) (fun h1=>?_)⟩
  ·have h1':(c:Int)<(rows.length:Int)+1:=of_decide_eq_true h1
   push_cast -dsimp
   repeat refine an ?_
   refine zno Vx zmE VX rfl (by decide) rfl rfl (by rw[hbl];omega) (by omega) (by omega) (by omega) (by omega) (by omega) (fun c' B h2 h3 hBl hBt=>?_)
   have e1:((rows.length:Int)+1-(i:Int)).toNat=rows.length+1-i:=by omega
   rw[e1]at h2 ⊢
   have e2:i+(rows.length+1-i)=rows.length+1:=by omega
   rw[e2]at h2 ⊢
   push_cast -dsimp
   repeat refine an ?_
   refine Zw Vx VX rfl rfl hxl (by rw[hBl];omega) (fun B1 hB1 hl1=>?_)
   rw[hBl]at hl1
   push_cast -dsimp
   repeat refine an ?_
   have hbp:=Vb (c:=c) hk hi
   refine Zw Vx VX (vP rfl (by rw[hbl];omega)) rfl (by rw[hbp,List.length_drop,hfl];omega) (by rw[hl1];omega) (fun B2 hB2 hl2=>?_)
   rw[hl1]at hl2
   have hX:[x].flatten.take (min [x].length (rows.length+1-i)*6)=x:=by
    rw[List.length_singleton,Nat.min_eq_left (by omega),List.take_of_length_le (by omega)];simp
   rw[hX]at hB1
   rw[hbp,show min (rows.length-i) (rows.length-i)*6=(rows.length-i)*6 by omega,List.take_of_length_le (by rw[List.length_drop,hfl];omega),hB1]at hB2
   push_cast -dsimp
   refine ⟨_,_,_,⟨⟨rfl,c',by rw[hlen];exact h2,h3,.inr ⟨rfl,rfl⟩⟩,Nat.le_of_ble_eq_true rfl⟩,[],rfl,rfl,?_,by push_cast -dsimp [zb,za,CLe,ze,hlen]⟩
   push_cast -dsimp [zb,za,CLe,ze]
   refine ⟨X6 hbl,Xf hki hsi (by rw[hlen];exact h2) hl2 ?_⟩
   rw[hlen,←Vg hk,hB2]
   have hg:=vl (cs:=B) (L:=rows.flatten) (X:=x) (p:=i*6) (q:=(i+1)*6) (by omega) (by omega) (by
    rw[hBt,List.drop_zero];unfold jG;rw[List.take_append_of_le_length (by omega)]) (by omega)
   rw[hfl,hx]at hg
   rw[←hg]
   congr 1;omega
  ·have h1':¬(c:Int)<(rows.length:Int)+1:=of_decide_eq_false h1
   push_cast -dsimp
   repeat refine an ?_
   refine zoF (zdO (P:=Tryz.prog) (tR:=4) Tryz.func264 (by kernel_rfl) (by kernel_rfl) (by kernel_rfl) (by kernel_rfl) Vx VX rfl (List.ne_nil_of_length_pos (by rw[hbl];omega)) (by simp) (by omega)) ?_
   push_cast -dsimp
   repeat refine an ?_
   have hbp:=Vb (c:=c) hk hi
   refine Zw Vx VX (vP rfl (by rw[hbl];omega)) rfl (by simp[hbl];omega) (by rw[hbl];omega) (fun B1 hB1 hl1=>?_)
   rw[hbl]at hl1
   rw[List.take_take,Nat.min_eq_left (by omega),show min (rows.length+1-i) (rows.length-i)*6=(rows.length-i)*6 by omega,hbp]at hB1
   push_cast -dsimp
   repeat refine an ?_
   refine Zw Vx VX rfl rfl hxl (by rw[hl1];omega) (fun B2 hB2 hl2=>?_)
   rw[hl1]at hl2
   have hX:[x].flatten.take (min [x].length (rows.length+1-i)*6)=x:=by
    rw[List.length_singleton,Nat.min_eq_left (by omega),List.take_of_length_le (by omega)];simp
   rw[hX,hB1]at hB2
   push_cast -dsimp
   have hcc:rows.length+1<=c:=by omega
   refine ⟨_,_,_,⟨⟨rfl,c,by rw[hlen];exact hcc,hcm,.inl ⟨rfl,rfl⟩⟩,Nat.le_of_ble_eq_true rfl⟩,[],rfl,rfl,?_,by push_cast -dsimp [zb,za,CLe,ze,hlen]⟩
   push_cast -dsimp [zb,za,CLe,ze]
   refine Xf hki hsi (by rw[hlen];exact hcc) hl2 ?_
   rw[hlen,←Vg hk,hB2]
   have hg:=G6 (cs:=jG 6 rows c) (L:=rows.flatten) (X:=x) (p:=i*6) (q:=(i+1)*6) (by omega) (by omega) hpre (by omega)
   rw[hfl,hx]at hg
   rw[←hg]
   congr 1;omega
theorem ziT {e:Nat} (x:List C) (hx:x.length=6) (hsx:(x.all C.stayB)=true) :
  Y1 Tryz.prog G 236 [.sc (.slice none 0 0),.sc (.int .i64 0),.own 0 e 6 [x]] [] 1 (fun r bx' n=>n=0/\∃ c,1<=c/\c<=9223372036854775807/\r = .bs 0 0 6 1 c/\bx' = [jG 6 [x] c]):=by
 refine foX (fun j=>if j=1000000+22 then [true,true] else if j=11 then [false,false,false,false,false,false,false,false,true] else if j=15 then [false,false,false,false,false,false,false,false,true] else []) Tryz.func236 ?_;dsimp only[Tryz.f236]
 push_cast -dsimp
 refine vi Vx VX rfl rfl (by decide) rfl (by simp[hx]) (by simp) (by simp) (by simp) (fun c h1 h2=>?_)
 push_cast -dsimp
 refine ⟨_,_,_,⟨⟨rfl,c,h1,h2,rfl,rfl⟩,Nat.zero_le _⟩,[],rfl,rfl,?_,by push_cast -dsimp [zb,za,CLe,ze]⟩
 push_cast -dsimp [zb,za,CLe,ze]
 have:=z6 (src:=[]) (n:=1) (qu (k:=6) (c:=c) (rows:=[x]) fun r hr=>by
  rw[List.mem_singleton.1 hr];exact hsx)
 unfold jG at this ⊢
 simpa using this
end
end
section
structure zK where
 name:List UInt8
 ino:Int
deriving DecidableEq,Inhabited
structure zn where
 ino:Int
 kind:Int
 links:Int
 data:List UInt8
 parent:Int
 es:List zK
deriving DecidableEq,Inhabited
def z8 (xs:List zn):Prop:=xs.Pairwise fun a b=>a.ino<b.ino
def zw (n:Int) (xs:List zn):Bool:=xs.any fun x=>x.ino==n
def jm (n:Int) (xs:List zn):Nat:=(xs.filter fun x=>decide (x.ino<n)).length
def qS (n:Int) (xs:List zn):List zn:=xs.filter fun x=>x.ino != n
def XX (n:Int) (xs:List zn):Option zn:=xs.find? fun x=>x.ino==n
def Zb (x:zn):List zn->List zn
 | []=>[x]
 | y :: r=>if x.ino<y.ino then x :: y :: r else y :: Zb x r
def jq (x:zn) (xs:List zn):List zn:=Zb x (qS x.ino xs)
theorem HB (n:Int):∀ (xs:List zn) (i:Nat),i<=xs.length->(∀ t (h:t<xs.length),t<i->xs[t].ino<n)->(∀ t (h:t<xs.length),i<=t->n<=xs[t].ino)->jm n xs=i
 | [],i,h,_,_=>by simp at h;simp[jm,h]
 | x :: r,0,_,_,h2=>by
  have hx:n<=x.ino:=h2 0 (by simp) (Nat.le_refl _)
  have ih:=HB n r 0 (Nat.zero_le _) (fun t h h'=>absurd h' (Nat.not_lt_zero _)) (fun t h _=>h2 (t+1) (by simp;omega) (Nat.zero_le _))
  unfold jm at ih ⊢
  rw[List.filter_cons_of_neg (by simp;omega)]
  exact ih
 | x :: r,i+1,h,h1,h2=>by
  have hx:x.ino<n:=h1 0 (by simp) (Nat.succ_pos _)
  have ih:=HB n r i (by simpa using h) (fun t h h'=>h1 (t+1) (by simp;omega) (by omega)) (fun t h h'=>h2 (t+1) (by simp;omega) (by omega))
  unfold jm at ih ⊢
  rw[List.filter_cons_of_pos (by simp;omega),List.length_cons,ih]
theorem zjr (n:Int) (xs:List zn) (i:Nat) (hi:i<xs.length) (h1:∀ t (h:t<xs.length),t<i->xs[t].ino<n) (h2:n<=xs[i].ino) (hR:z8 xs):zw n xs=decide (xs[i].ino=n):=by
 by_cases h:xs[i].ino=n
 ·rw[decide_eq_true h]
  exact List.any_eq_true.2 ⟨xs[i],List.getElem_mem hi,by simp[h]⟩
 ·rw[decide_eq_false h]
  apply Bool.eq_false_iff.2
  intro hh
  obtain ⟨y,hy,e⟩:=List.any_eq_true.1 hh
  obtain ⟨t,ht,rfl⟩:=List.getElem_of_mem hy
  have e:xs[t].ino=n:=by simpa using e
  rcases Nat.lt_trichotomy t i with h3 | h3 | h3
  ·have:=h1 t ht h3;omega
  ·subst h3;exact h e
  ·have:=(List.pairwise_iff_getElem.1 hR) i t hi ht h3;omega
theorem zb5 (n:Int) (xs:List zn) (h1:∀ t (h:t<xs.length),xs[t].ino<n):zw n xs=false:=by
 apply Bool.eq_false_iff.2
 intro hh
 obtain ⟨y,hy,e⟩:=List.any_eq_true.1 hh
 obtain ⟨t,ht,rfl⟩:=List.getElem_of_mem hy
 have e:xs[t].ino=n:=by simpa using e
 have:=h1 t ht
 omega
theorem kT {n:Int} {xs:List zn} (h:zw n xs=false):XX n xs=none:=by
 unfold XX zw at *
 rw[List.find?_eq_none]
 intro x hx hh
 rw[List.any_eq_false]at h
 exact h x hx hh
theorem zaq (n:Int) (xs:List zn) (hR:z8 xs):∃ i,i<=xs.length/\(∀ t (h:t<xs.length),t<i->xs[t].ino<n)/\(∀ t (h:t<xs.length),i<=t->n<=xs[t].ino):=by
 induction xs with
 | nil=>exact ⟨0,Nat.le_refl _,fun t h=>absurd h (Nat.not_lt_zero _),fun t h=>absurd h (Nat.not_lt_zero _)⟩
 | cons x r ih =>
  by_cases hx:x.ino<n
  ·obtain ⟨i,h1,h2,h3⟩:=ih (List.pairwise_cons.1 hR).2
   refine ⟨i+1,by simp;omega,fun t h ht=>?_,fun t h ht=>?_⟩
   ·cases t with
    | zero=>exact hx
    | succ t=>exact h2 t (by simpa using h) (by omega)
   ·cases t with
    | zero=>omega
    | succ t=>exact h3 t (by simpa using h) (by omega)
  ·refine ⟨0,Nat.zero_le _,fun t h ht=>absurd ht (Nat.not_lt_zero _),fun t h _=>?_⟩
   cases t with
   | zero=>simp;omega
   | succ t =>
    have:=(List.pairwise_cons.1 hR).1 (r[t]'(by simpa using h)) (List.getElem_mem _)
    simp;omega
theorem zfc (n:Int) (xs:List zn):jm n xs<=xs.length:=List.length_filter_le _ _
theorem zdX {n:Int} {xs:List zn} (hR:z8 xs):(∀ t (h:t<xs.length),t<jm n xs->xs[t].ino<n)/\(∀ t (h:t<xs.length),jm n xs<=t->n<=xs[t].ino):=by
 obtain ⟨i,h1,h2,h3⟩:=zaq n xs hR
 rw[HB n xs i h1 h2 h3]
 exact ⟨h2,h3⟩
theorem zgj {n:Int} {xs:List zn} (hR:z8 xs) (h:zw n xs=true):∃ hlt:jm n xs<xs.length,xs[jm n xs].ino=n:=by
 obtain ⟨h2,h3⟩:=zdX (n:=n) hR
 by_cases hlt:jm n xs<xs.length
 ·refine ⟨hlt,?_⟩
  have:=zjr n xs _ hlt h2 (h3 _ hlt (Nat.le_refl _)) hR
  rw[h]at this
  exact of_decide_eq_true this.symm
 ·have:=zb5 n xs (fun t h=>h2 t h (by omega))
  rw[h]at this;cases this
theorem y5 {n:Int} {xs:List zn} (hR:z8 xs) (h:zw n xs=true):∃ hlt:jm n xs<xs.length,XX n xs=some xs[jm n xs]:=by
 obtain ⟨hlt,he⟩:=zgj hR h
 refine ⟨hlt,?_⟩
 obtain ⟨h2,h3⟩:=zdX (n:=n) hR
 unfold XX
 rw[List.find?_eq_some_iff_getElem]
 exact ⟨by simp[he],_,hlt,rfl,fun j hj=>by have:=h2 j (by omega) hj;simp;omega⟩
theorem Jt {y:zn} {r:List zn}:z8 (y :: r)↔(∀ z∈r,y.ino<z.ino)/\z8 r:=List.pairwise_cons
theorem ZB {n:Int} {y:zn} {r:List zn} (h:y.ino<n):jm n (y :: r)=jm n r+1:=by
 unfold jm
 rw[List.filter_cons_of_pos (by simpa using h),List.length_cons]
theorem GQ {n:Int} {xs:List zn} (h:∀ z∈xs,n<=z.ino):jm n xs=0:=by
 unfold jm
 rw[List.length_eq_zero_iff,List.filter_eq_nil_iff]
 intro z hz
 have:=h z hz
 simp;omega
theorem Hl {n:Int} {xs:List zn} (h:zw n xs=false):qS n xs=xs:=by
 unfold qS
 rw[List.filter_eq_self]
 intro z hz
 unfold zw at h
 rw[List.any_eq_false]at h
 have:=h z hz
 simpa using this
theorem Vq {n:Int} {y:zn} {r:List zn} (h:y.ino<n):zw n (y :: r)=zw n r:=by
 unfold zw
 rw[List.any_cons,show (y.ino==n)=false by rw[beq_eq_false_iff_ne];omega,Bool.false_or]
theorem xx {n:Int} {xs:List zn} (h:∀ z∈xs,n<z.ino):zw n xs=false:=by
 unfold zw
 rw[List.any_eq_false]
 intro z hz
 have:=h z hz
 simp;omega
theorem JT {n:Int} {y:zn} {r:List zn} (h:y.ino≠n):qS n (y :: r)=y :: qS n r:=by
 unfold qS
 rw[List.filter_cons_of_pos (by simpa using h)]
theorem JQ {n:Int} {y:zn} {r:List zn} (h:y.ino=n):qS n (y :: r)=qS n r:=by
 unfold qS
 rw[List.filter_cons_of_neg (by simpa using h)]
theorem zmA {x y:zn} {r:List zn} (h:y.ino<x.ino):Zb x (y :: r)=y :: Zb x r:=by
 rw[Zb,if_neg (by omega)]
theorem zi4 {x:zn} {xs:List zn} (h:∀ z∈xs,x.ino<z.ino):Zb x xs=x :: xs:=by
 cases xs with
 | nil=>rfl
 | cons y r=>rw[Zb,if_pos (h y List.mem_cons_self)]
theorem Vs {x y:zn} {r:List zn} (h:y.ino<x.ino):jq x (y :: r)=y :: jq x r:=by
 unfold jq
 rw[JT (by omega),zmA h]
theorem xZ {x:zn}:∀ {xs:List zn},z8 xs->zw x.ino xs=true->xs.set (jm x.ino xs) x=jq x xs
 | [],_,h=>by cases h
 | y :: r,hR,h=>by
  obtain ⟨h1,h2⟩:=Jt.1 hR
  by_cases hy:y.ino<x.ino
  ·rw[ZB hy,List.set_cons_succ,xZ h2 (by rwa [Vq hy]at h),Vs hy]
  ·have hr0:jm x.ino (y :: r)=0:=GQ fun z hz=>by
    rcases List.mem_cons.1 hz with rfl | hz
    ·omega
    ·have:=h1 z hz;omega
   by_cases he:y.ino=x.ino
   ·unfold jq
    rw[hr0,JQ he,Hl (xx fun z hz=>by have:=h1 z hz;omega),zi4 fun z hz=>by have:=h1 z hz;omega];rfl
   ·exfalso
    rw[xx fun z hz=>by
     rcases List.mem_cons.1 hz with rfl | hz
     ·omega
     ·have:=h1 z hz;omega]at h
    cases h
theorem yG {x:zn}:∀ {xs:List zn},z8 xs->zw x.ino xs=false->xs.take (jm x.ino xs)++x :: xs.drop (jm x.ino xs)=jq x xs
 | [],_,_=>rfl
 | y :: r,hR,h=>by
  obtain ⟨h1,h2⟩:=Jt.1 hR
  by_cases hy:y.ino<x.ino
  ·rw[ZB hy,List.take_succ_cons,List.drop_succ_cons,List.cons_append,yG h2 (by rwa [Vq hy]at h),Vs hy]
  ·have hne:y.ino≠x.ino:=by
    intro e
    unfold zw at h
    rw[List.any_cons,e]at h
    simp at h
   have hr0:jm x.ino (y :: r)=0:=GQ fun z hz=>by
    rcases List.mem_cons.1 hz with rfl | hz
    ·omega
    ·have:=h1 z hz;omega
   unfold jq
   rw[hr0,Hl h,zi4 fun z hz=>by
    rcases List.mem_cons.1 hz with rfl | hz
    ·omega
    ·have:=h1 z hz;omega]
   rfl
theorem zgl {n:Int} {xs:List zn}:∀ x∈qS n xs,x∈xs:=fun x h=>(List.mem_filter.1 h).1
theorem HM {x:zn}:∀ {xs:List zn} {z:zn},z∈Zb x xs↔z=x∨z∈xs
 | [],z=>by simp[Zb]
 | y :: r,z=>by
  rw[Zb]
  split
  ·simp
  ·rw[List.mem_cons,HM,List.mem_cons]
   constructor
   ·rintro (h | h | h)<;>simp[h]
   ·rintro (h | h | h)<;>simp[h]
theorem zkc {x:zn} {xs:List zn} {z:zn} (h:z∈jq x xs):z=x∨z∈xs:=by
 rcases HM.1 h with h | h
 ·exact .inl h
 ·exact .inr (zgl _ h)
theorem zbs {n:Int} {xs:List zn} (h:z8 xs):z8 (qS n xs):=List.Pairwise.filter _ h
theorem Gy {x:zn}:∀ {xs:List zn},z8 xs->(∀ z∈xs,z.ino≠x.ino)->z8 (Zb x xs)
 | [],_,_=>by simp[Zb,z8]
 | y :: r,h,hne=>by
  obtain ⟨h1,h2⟩:=Jt.1 h
  have hy:=hne y List.mem_cons_self
  rw[Zb]
  split
  ·next hlt =>
   refine Jt.2 ⟨fun z hz=>?_,h⟩
   rcases List.mem_cons.1 hz with rfl | hz
   ·exact hlt
   ·have:=h1 z hz;omega
  ·next hlt =>
   refine Jt.2 ⟨fun z hz=>?_,Gy h2 fun z hz=>hne z (List.mem_cons_of_mem _ hz)⟩
   rcases HM.1 hz with rfl | hz
   ·omega
   ·exact h1 z hz
theorem QA {x:zn} {xs:List zn} (h:z8 xs):z8 (jq x xs):=Gy (zbs h) fun z hz=>by
 have:=(List.mem_filter.1 hz).2
 simpa using this
theorem zc3 {x:zn}:∀ {xs:List zn},(Zb x xs).length=xs.length+1
 | []=>rfl
 | y :: r=>by
  rw[Zb]
  split
  ·rfl
  ·rw[List.length_cons,zc3,List.length_cons]
theorem Hc {n:Int} {xs:List zn}:(qS n xs).length<=xs.length:=List.length_filter_le _ _
theorem zlm {x:zn} {xs:List zn}:(jq x xs).length<=xs.length+1:=by
 unfold jq
 rw[zc3]
 have:=Hc (n:=x.ino) (xs:=xs)
 omega
end
section
open CA CB
open Go.RowKit
abbrev kV (e:zK):List C:=[.str e.name,.sc (.int .i64 e.ino)]
abbrev zG (es:List zK):List (List C):=es.map kV
abbrev JJ (x:zn):List C:=[.sc (.int .i64 x.ino),.sc (.int .i64 x.kind),.sc (.int .i64 x.links),.str x.data,.sc (.int .i64 x.parent),.sl 2 (zG x.es)]
abbrev zF (xs:List zn):List (List C):=xs.map JJ
structure FsV where
 maxI:Int
 maxB:Int
 next:Int
 xs:List zn
deriving DecidableEq,Inhabited
abbrev fsC (f:FsV):List C:=[.sc (.int .i64 f.maxI),.sc (.int .i64 f.maxB),.sc (.int .i64 f.next),.sl 6 (zF f.xs)]
theorem qD (xs:List zn) (i:Nat) (h:i<xs.length):(zF xs)[i]?=some (JJ xs[i]):=by simp[List.getElem?_map,List.getElem?_eq_getElem h]
theorem jx (xs:List zK) (i:Nat) (h:i<xs.length):(zG xs)[i]?=some (kV xs[i]):=by simp[List.getElem?_map,List.getElem?_eq_getElem h]
def NZ:zn:=⟨0,0,0,[],0,[]⟩
def zf (n:Int) (xs:List zn):zn:=(XX n xs).getD NZ
def zck (a b:Int):Int:=if a<b then -1 else if b<a then 1 else 0
section
variable {G:zk}
theorem zel (a:Int):Fun Tryz.prog G 180 [.sc (.int .i64 a)] (.sc (.bool false)) 0:=by
 refine fon Tryz.func180 ?_;dsimp only[Tryz.f180]
 push_cast -dsimp
 exact dn
theorem zj0 (a b:Int):Fun Tryz.prog G 156 [.sc (.int .i64 a),.sc (.int .i64 b)] (.sc (.int .i64 (zck a b))) 0:=by
 refine fon Tryz.func156 ?_;dsimp only[Tryz.f156]
 push_cast -dsimp
 refine cl (zel a) ?_;push_cast -dsimp
 refine cl (zel b) ?_;push_cast -dsimp
 refine br (fun h=>?_) (fun h=>?_)
 ·have h:=of_decide_eq_true h
  push_cast -dsimp
  exact ⟨[],rfl,rfl,by (push_cast -dsimp [zb,za,CLe,ze];simp[zck,h])⟩
 ·have h:=of_decide_eq_false h
  push_cast -dsimp
  refine br (fun h1=>?_) (fun h1=>?_)
  ·have h1:=of_decide_eq_true h1
   push_cast -dsimp
   exact ⟨[],rfl,rfl,by (push_cast -dsimp [zb,za,CLe,ze];simp[zck,h,h1])⟩
  ·have h1:=of_decide_eq_false h1
   push_cast -dsimp
   exact ⟨[],rfl,rfl,by (push_cast -dsimp [zb,za,CLe,ze];simp[zck,h,h1])⟩
theorem zcW (x:zn) (n:Int):Fun Tryz.prog G 155 [.agg (JJ x),.sc (.int .i64 n)] (.sc (.int .i64 (zck x.ino n))) 0:=by
 refine fon Tryz.func155 ?_;dsimp only[Tryz.f155]
 push_cast -dsimp
 refine cl (zj0 x.ino n) ?_;push_cast -dsimp
 exact dn
theorem xP (xs:List zn) (n:Int) (hl:xs.length<=100000) (hR:z8 xs) :
  Fun Tryz.prog G 154 [.sl 6 (zF xs),.sc (.int .i64 n),.clo (.func 155) [] []] (.tup [.sc (.int .i64 (jm n xs:Nat)),.sc (.bool (zw n xs))]) 0:=by
 refine fon Tryz.func154 ?_;dsimp only[Tryz.f154]
 push_cast -dsimp
 refine loop (fun p:Nat×Nat=>⟨[(0,.sl 6 (zF xs)),(1,.sc (.int .i64 n)),(2,.clo (.func 155) [] []),(8,.sc (.int .i64 (xs.length:Nat))),(9,.sc (.int .i64 p.1)),(10,.sc (.int .i64 p.2))],[],0,0⟩)
  (fun p=>p.1<=p.2/\p.2<=xs.length/\(∀ t (h:t<xs.length),t<p.1->xs[t].ino<n)/\∀ t (h:t<xs.length),p.2<=t->n<=xs[t].ino) (fun p=>p.2-p.1) (0,xs.length) ⟨Nat.zero_le _,Nat.le_refl _,fun t _ h=>by (simp at h),fun t h h'=>by (dsimp only at h';omega)⟩ ?_ ?_
 ·exact wk (by push_cast -dsimp [zb,za,CLe,ze,List.length_map])
 ·rintro ⟨i,j⟩ ⟨h1,h2,h3,h4⟩
  dsimp only at h1 h2 h3 h4 ⊢
  by_cases h:i<j
  ·obtain ⟨m,hm⟩:∃ m,m=(i+j) / 2:=⟨_,rfl⟩
   have hmi:((i:Int)+(j:Int)) / 2=(m:Int):=by omega
   have hml:m<xs.length:=by omega
   have hat:=qD xs m hml
   push_cast -dsimp [h,hmi,hat]
   repeat refine an ?_
   refine cl (zcW xs[m] n) ?_;push_cast -dsimp
   by_cases hc:xs[m].ino<n
   ·have hcv:zck xs[m].ino n = -1:=by simp[zck,hc]
    push_cast -dsimp [hcv]
    repeat refine an ?_
    refine ⟨(m+1,j),⟨by omega,h2,fun t ht hlt=>?_,h4⟩,by dsimp only;omega,wk⟩
    dsimp only at hlt
    rcases Nat.lt_or_ge t m with q | q
    ·have:=(List.pairwise_iff_getElem.1 hR) t m ht hml q;omega
    ·have:t=m:=by omega
     subst this;exact hc
   ·have hcv:(zck xs[m].ino n<0)=False:=eq_false (by unfold zck;rw[if_neg hc];split<;>omega)
    push_cast -dsimp [hcv]
    repeat refine an ?_
    refine ⟨(i,m),⟨by omega,by omega,h3,fun t ht hge=>?_⟩,by dsimp only;omega,wk⟩
    dsimp only at hge
    rcases Nat.lt_or_ge m t with q | q
    ·have:=(List.pairwise_iff_getElem.1 hR) m t hml ht q;omega
    ·have:t=m:=by omega
     subst this;omega
  ·have hij:i=j:=by omega
   subst hij
   have hrk:=HB n xs i h2 h3 h4
   push_cast -dsimp [h]
   refine br (fun hx=>?_) (fun hx=>?_)
   ·have hx:i<xs.length:=by simpa using hx
    have hat:=qD xs i hx
    have hh:=zjr n xs i hx h3 (h4 i hx (Nat.le_refl _)) hR
    push_cast -dsimp [hx,hat]
    repeat refine an ?_
    refine cl (zcW xs[i] n) ?_;push_cast -dsimp
    have hcv:decide (zck xs[i].ino n=0)=zw n xs:=by
     rw[hh]
     have:=h4 i hx (Nat.le_refl _)
     unfold zck
     rw[if_neg (by omega)]
     split
     ·rw[decide_eq_false (by omega),decide_eq_false (by omega)]
     ·rw[decide_eq_true (by rfl),decide_eq_true (by omega)]
    push_cast -dsimp [hcv]
    exact dn (by push_cast -dsimp [zb,za,CLe,ze,hrk])
   ·have hx:¬i<xs.length:=by simpa using hx
    have hh:=zb5 n xs fun t ht=>h3 t ht (by omega)
    push_cast -dsimp [hx]
    exact dn (by push_cast -dsimp [zb,za,CLe,ze,hrk,hh])
theorem zje (f:FsV) (n:Int) (hl:f.xs.length<=100000) (hR:z8 f.xs):Fun Tryz.prog G 106 [.agg (fsC f),.sc (.int .i64 n)] (.tup [.sc (.int .i64 (jm n f.xs:Nat)),.sc (.bool (zw n f.xs))]) 0:=by
 refine fon Tryz.func106 ?_;dsimp only[Tryz.f106]
 push_cast -dsimp
 refine cl (xP f.xs n hl hR) ?_;push_cast -dsimp
 exact dn
end
end
section
open Go.RowKit Go.ChangeMaps Go.ChangeShapes Go.WideShapes Go.Deep Go.Joins
def GL (W:World):Env:=⟨W,fun _ _=>False,fun _=>False⟩
theorem Fun.answers {P:Program} {G:zk} {f:FuncId} {args:List C} {u:Value} {n:Nat} (h:Fun P G f args (.sc u) n) {W:World} {vs:List Value} (hg:YT G (GL W)) (ha:zm (GL W) zu args vs) :
  Calls P f vs.toArray W fun e w'=>e = .returned u/\Below W.heap.size W w':=by
 refine (h.2 (GL W) vs hg ha).mono ?_
 rintro e w' ⟨v,R',L',rfl,rfl,st,hr⟩
 rw[zj]at hr
 subst hr
 exact ⟨rfl,st.below⟩
section
variable {H:Type} {enc:TypeId×Value->H} {P:Program} {W:World}
def Opn (enc:TypeId×Value->H) (P:Program) (W:World) (t:TypeId) (Q:C->Prop):Prop:=
 ∀ (fuel:Nat) (cs:List Value) (x:DataW H×List MemPlace),DataW.trod enc P W 0 (fun _=>true) true fuel t cs=some x->∃ v c,cs = [v]/\Q c/\Rep (GL W) zu c v/\v.oneCell'=true
def qP (enc:TypeId×Value->H) (P:Program) (W:World) (t:TypeId) (k:Nat) (Q:List C->Prop):Prop:=
 ∀ (fuel:Nat) (cs:List Value) (x:DataW H×List MemPlace),DataW.trod enc P W 0 (fun _=>true) true fuel t cs=some x ->
  ∃ row,Q row/\row.length=k/\cs.length=k/\∀ (j:Nat) c v,row[j]?=some c->cs[j]?=some v->Rep (GL W) zu c v/\v.oneCell'=true
theorem Opn.int {t:TypeId} {k:IntKind} (ht:P.underlying t=some (.int k)):Opn enc P W t fun c=>∃ n,c = .sc (.int k n)/\(Lit.int k n).wf=true:=fun fuel cs x h=>by
 obtain ⟨n,rfl,_,hw⟩:=DataW.trod_int ht h
 exact ⟨_,_,rfl,⟨n,rfl,hw⟩,zj.2 rfl,rfl⟩
theorem Opn.bool {t:TypeId} (ht:P.underlying t=some .bool):Opn enc P W t fun c=>∃ b,c = .sc (.bool b):=fun fuel cs x h=>by
 obtain ⟨n,rfl,_⟩:=DataW.trod_bool ht h
 exact ⟨_,_,rfl,⟨n,rfl⟩,zj.2 rfl,rfl⟩
theorem Opn.str {t:TypeId} (ht:P.underlying t=some .string):Opn enc P W t fun c=>∃ l:List UInt8,c = .str l/\l.length<=maxLen:=fun fuel cs x h=>by
 obtain ⟨s,rfl,_,hs⟩:=DataW.trod_string ht h
 exact ⟨_,_,rfl,⟨s.data.toList,rfl,by rw[Array.length_toList];exact hs⟩,zE.2 (by cases s;simp),rfl⟩
theorem qP.one {t:TypeId} {Q:C->Prop} (h:Opn enc P W t Q):qP enc P W t 1 fun row=>∃ c,row = [c]/\Q c:=fun fuel cs x hx=>by
 obtain ⟨v,c,rfl,hq,hr,ho⟩:=h fuel cs x hx
 refine ⟨[c],⟨c,rfl,hq⟩,rfl,rfl,fun j c' v' h1 h2=>?_⟩
 cases j with
 | zero=>cases h1;cases h2;exact ⟨hr,ho⟩
 | succ j=>cases h1
theorem XY {α:Type} {Q:Nat->α->Prop}:∀ n:Nat,(∀ i,i<n->∃ x,Q i x)->∃ l:List α,l.length=n/\∀ i (h:i<l.length),Q i l[i]
 | 0,_=>⟨[],rfl,fun i h=>absurd h (Nat.not_lt_zero _)⟩
 | n+1,h=>by
  obtain ⟨l,hl,hq⟩:=XY n fun i hi=>h i (by omega)
  obtain ⟨x,hx⟩:=h n (by omega)
  refine ⟨l++[x],by simp[hl],fun i hi=>?_⟩
  rcases Nat.lt_or_ge i n with h1 | h1
  ·rw[List.getElem_append_left (by omega)];exact hq i (by omega)
  ·have:i=n:=by simp[hl]at hi;omega
   subst this
   rw[List.getElem_append_right (by omega)]
   simpa [hl] using hx
theorem qP.struct {t:TypeId} {fs:Array Field} {Qs:Nat->C->Prop} (hs:P.underlying t=some (.struct fs)) (hone:oneCellFields P fs=true) (hC:P.cellsOf t=fs.size)
  (h:∀ (j:Nat) f,fs[j]?=some f->Opn enc P W f.type (Qs j)):qP enc P W t fs.size fun row=>row.length=fs.size/\∀ (j:Nat) c,row[j]?=some c->Qs j c:=fun fuel cs x hx=>by
 obtain ⟨ys,n',hn',hy,hlen,hyl,hf⟩:=DataW.trod_struct hs hx
 rw[hC]at hlen
 obtain ⟨row,hl,hq⟩:=XY (Q:=fun j (c:C)=>Qs j c/\∃ v,cs[j]?=some v/\Rep (GL W) zu c v/\v.oneCell'=true) fs.size (fun j hj=>by
  have hfj:fs[j]?=some fs[j]:=Array.getElem?_eq_getElem hj
  obtain ⟨ho,hk⟩:=hone_of hone j _ hfj
  have h1:=hf j _ hfj
  rw[ho,hk]at h1
  have hone':(cs.drop j).take 1 = [cs[j]'(by omega)]:=by
   rw[List.drop_eq_getElem_cons (by omega)]
   rfl
  rw[hone',List.getElem?_eq_getElem (by omega)]at h1
  obtain ⟨v,c,e,hq,hr,hoc⟩:=h j _ hfj _ _ _ h1
  cases e
  exact ⟨c,hq,_,List.getElem?_eq_getElem (by omega),hr,hoc⟩)
 refine ⟨row,⟨hl,fun j c hj=>?_⟩,hl,hlen,fun j c v h1 h2=>?_⟩
 ·obtain ⟨hj',rfl⟩:=List.getElem?_eq_some_iff.1 hj
  exact (hq j hj').1
 ·obtain ⟨hj',rfl⟩:=List.getElem?_eq_some_iff.1 h1
  obtain ⟨_,v',e,hr,ho⟩:=hq j hj'
  rw[h2]at e;cases e
  exact ⟨hr,ho⟩
theorem Opn.slice {t e:TypeId} {k:Nat} {Q:List C->Prop} (ht:P.underlying t=some (.slice e)) (hC:P.cellsOf e=k) (hk:0<k) (h:qP enc P W e k Q):Opn enc P W t fun c=>∃ rows,c = .sl k rows/\rows.length<=maxLen/\∀ r∈rows,Q r:=fun fuel cs x hx=>by
 rcases open_slice ht hx with h0 | ⟨a,len,cap,m,n,D,Pl,hcs,hb,hl,hm,hmm,hx,hi⟩
 ·exact ⟨_,.sl k [],h0.1,⟨[],rfl,Nat.zero_le _,fun r hr=>by cases hr⟩,kw.2 ⟨none,0,rfl,Nat.le_refl _,Nat.zero_le _,.inl rfl⟩,rfl⟩
 ·simp only[if_true]at hmm
  subst hmm
  obtain ⟨rows,hrl,hq⟩:=XY (Q:=fun i (row:List C)=>Q row/\row.length=k/\∀ (j:Nat) c,row[j]?=some c->∃ v,W.cell? (a.add (i*k+j))=some v/\Rep (GL W) zu c v/\v.oneCell'=true) len (fun i hlt=>by
   obtain ⟨cs',hc,ht'⟩:=hi i (by omega)
   rw[hC]at hc
   obtain ⟨row,hq,hl1,hl2,hr⟩:=h _ _ _ ht'
   obtain ⟨_,hcl,hat⟩:=World.cells?_some hc
   refine ⟨row,hq,hl1,fun j c hj=>?_⟩
   have hjl:j<k:=by have:=(List.getElem?_eq_some_iff.1 hj).1;omega
   have hv:cs'[j]?=some (cs'[j]'(by omega)):=List.getElem?_eq_getElem (by omega)
   obtain ⟨hr1,hr2⟩:=hr j c _ hj hv
   refine ⟨_,?_,hr1,hr2⟩
   rw[←Go.Deep.add_add,hat j hjl,hv])
  refine ⟨_,.sl k rows,hcs,⟨rows,rfl,by omega,fun r hr=>?_⟩,?_,rfl⟩
  ·obtain ⟨i,hi',rfl⟩:=List.getElem_of_mem hr
   exact (hq i hi').1
  ·refine kw.2 ⟨some a,m,by rw[hrl],by omega,by omega,?_⟩
   by_cases h0:rows = []
   ·exact .inl h0
   ·have hpos:0<rows.length:=List.length_pos_iff.2 h0
    obtain ⟨b,off,spot⟩:=a
    obtain ⟨_,hl0,h00⟩:=hq 0 hpos
    obtain ⟨v0,hc0,_⟩:=h00 0 ((rows[0]'hpos)[0]'(by omega)) (List.getElem?_eq_getElem _)
    have hspot:spot=none:=by simpa [Addr.add] using World.cell?_spot hc0
    subst hspot
    refine .inr ⟨b,off,rfl,qx fun i row hrow=>?_⟩
    obtain ⟨hi',rfl⟩:=List.getElem?_eq_some_iff.1 hrow
    obtain ⟨_,hlr,hcr⟩:=hq i hi'
    refine ⟨hlr,zM fun j c hj=>?_⟩
    obtain ⟨v,h1,h2,h3⟩:=hcr j c hj
    rw[Addr.add_lit]at h1
    exact ⟨v,by rw[Nat.add_assoc];exact h1,fun hf=>hf,h2,h3⟩
theorem Opn.arg {r:Reach} {b0:Nat} {t:TypeId} {Q:C->Prop} {v:Value} {d:DataW H} {p:List MemPlace} (h:Opn enc P W t Q) (hv:v.cells = #[v]) (hd:DataW.Trod enc P W 0 (fun _=>true) true t v d p):∃ c,Q c/\Rep (GL W) zu c v:=by
 obtain ⟨fuel,hf⟩:=hd
 rw[hv]at hf
 obtain ⟨v',c,e,hq,hr,_⟩:=h _ _ _ hf
 cases e
 exact ⟨c,hq,hr⟩
theorem qP.arg {r:Reach} {b0:Nat} {t:TypeId} {fs:Array Field} {k:Nat} {Q:List C->Prop} {v:Value} {d:DataW H} {p:List MemPlace} (h:qP enc P W t k Q) (hs:P.underlying t=some (.struct fs)) (hval:Value.okWide P W r b0 t v)
  (hd:DataW.Trod enc P W 0 (fun _=>true) true t v d p):∃ row,Q row/\Rep (GL W) zu (.agg row) v:=by
 obtain ⟨cs,rfl,hsz⟩:=okWide_struct hs hval
 obtain ⟨fuel,hf⟩:=hd
 obtain ⟨row,hq,h1,h2,hr⟩:=h _ _ _ hf
 refine ⟨row,hq,jj.2 ⟨cs,rfl,JE ?_ fun i c v hc hv=>(hr i c v hc hv).1⟩⟩
 have:cs.toList.length=k:=h2
 omega
end
end
section
open Go.RowKit Go.ChangeMaps Go.ChangeShapes Go.WideShapes Go.Deep Go.Joins
theorem k7 {α:Type} {f:α->List C} {q:α->Prop}:∀ {rows:List (List C)},(∀ r∈rows,∃ a,r=f a/\q a)->∃ xs:List α,rows=xs.map f/\∀ x∈xs,q x
 | [],_=>⟨[],rfl,fun x h=>by cases h⟩
 | r :: rows,h=>by
  obtain ⟨xs,rfl,hq⟩:=k7 fun r' hr=>h r' (List.mem_cons_of_mem _ hr)
  obtain ⟨o,rfl,ho⟩:=h r List.mem_cons_self
  exact ⟨o :: xs,rfl,fun x hx=>by
   rcases List.mem_cons.1 hx with rfl | hx
   ·exact ho
   ·exact hq x hx⟩
section
variable {H:Type} {enc:TypeId×Value->H} {W:World}
theorem zkJ:qP enc Tryz.prog W 141 2 fun row=>∃ o:zK,row=kV o/\o.name.length<=maxLen:=fun fuel cs x hx=>by
 obtain ⟨row,⟨hl,hq⟩,h1,h2,h3⟩:=qP.struct (W:=W) (enc:=enc) (Qs:=fun j c=>match j with | 0=>∃ l:List UInt8,c = .str l/\l.length<=maxLen | 1=>∃ n,c = .sc (.int .i64 n)/\(Lit.int .i64 n).wf=true | _=>True) Tryz.underlying141 (by kernel_rfl) (by kernel_rfl) (fun j f hj=>by
  match j,hj with
  | 0,hj=>cases hj;exact Opn.str Tryz.underlying9
  | 1,hj=>cases hj;exact Opn.int Tryz.underlying3
  | j+2,hj=>simp at hj) fuel cs x hx
 match row,h1,hq,h3 with
 | [c0,c1],_,hq,h3 =>
  obtain ⟨a,rfl,ha⟩:=hq 0 c0 rfl
  obtain ⟨k,rfl,_⟩:=hq 1 c1 rfl
  exact ⟨_,⟨⟨a,k⟩,rfl,ha⟩,rfl,h2,h3⟩
theorem zij:Opn enc Tryz.prog W 94 fun c=>∃ xs:List zK,c = .sl 2 (zG xs)/\xs.length<=maxLen/\∀ x∈xs,x.name.length<=maxLen:=fun fuel cs x hx=>by
 obtain ⟨v,c,rfl,⟨rows,rfl,hl,hr⟩,h1,h2⟩:=Opn.slice (W:=W) (enc:=enc) Tryz.underlying94 (show Tryz.prog.cellsOf 141=2 by kernel_rfl) (by decide) zkJ fuel cs x hx
 obtain ⟨xs,rfl,hq⟩:=k7 hr
 exact ⟨v,_,rfl,⟨xs,rfl,by simpa using hl,hq⟩,h1,h2⟩
def zd1 (x:zn):Prop:=x.data.length<=maxLen/\x.es.length<=maxLen/\∀ e∈x.es,e.name.length<=maxLen
theorem zb2:qP enc Tryz.prog W 96 6 fun row=>∃ o:zn,row=JJ o/\zd1 o:=fun fuel cs x hx=>by
 obtain ⟨row,⟨hl,hq⟩,h1,h2,h3⟩:=qP.struct (W:=W) (enc:=enc) (Qs:=fun j c=>match j with | 0=>∃ n,c = .sc (.int .i64 n)/\(Lit.int .i64 n).wf=true | 1=>∃ n,c = .sc (.int .i64 n)/\(Lit.int .i64 n).wf=true | 2=>∃ n,c = .sc (.int .i64 n)/\(Lit.int .i64 n).wf=true | 3=>∃ l:List UInt8,c = .str l/\l.length<=maxLen | 4=>∃ n,c = .sc (.int .i64 n)/\(Lit.int .i64 n).wf=true | 5=>∃ xs:List zK,c = .sl 2 (zG xs)/\xs.length<=maxLen/\∀ x∈xs,x.name.length<=maxLen | _=>True) Tryz.underlying96 (by kernel_rfl) (by kernel_rfl) (fun j f hj=>by
  match j,hj with
  | 0,hj=>cases hj;exact Opn.int Tryz.underlying3
  | 1,hj=>cases hj;exact Opn.int Tryz.underlying3
  | 2,hj=>cases hj;exact Opn.int Tryz.underlying3
  | 3,hj=>cases hj;exact Opn.str Tryz.underlying9
  | 4,hj=>cases hj;exact Opn.int Tryz.underlying3
  | 5,hj=>cases hj;exact zij
  | j+6,hj=>simp at hj) fuel cs x hx
 match row,h1,hq,h3 with
 | [c0,c1,c2,c3,c4,c5],_,hq,h3 =>
  obtain ⟨a,rfl,_⟩:=hq 0 c0 rfl
  obtain ⟨b,rfl,_⟩:=hq 1 c1 rfl
  obtain ⟨c,rfl,_⟩:=hq 2 c2 rfl
  obtain ⟨d,rfl,hd⟩:=hq 3 c3 rfl
  obtain ⟨e,rfl,_⟩:=hq 4 c4 rfl
  obtain ⟨f,rfl,hf⟩:=hq 5 c5 rfl
  exact ⟨_,⟨⟨a,b,c,d,e,f⟩,rfl,hd,hf⟩,rfl,h2,h3⟩
theorem yJ:Opn enc Tryz.prog W 22 fun c=>∃ xs:List zn,c = .sl 6 (zF xs)/\xs.length<=maxLen/\∀ x∈xs,zd1 x:=fun fuel cs x hx=>by
 obtain ⟨v,c,rfl,⟨rows,rfl,hl,hr⟩,h1,h2⟩:=Opn.slice (W:=W) (enc:=enc) Tryz.underlying22 (show Tryz.prog.cellsOf 96=6 by kernel_rfl) (by decide) zb2 fuel cs x hx
 obtain ⟨xs,rfl,hq⟩:=k7 hr
 exact ⟨v,_,rfl,⟨xs,rfl,by simpa using hl,hq⟩,h1,h2⟩
theorem zoJ:qP enc Tryz.prog W 24 4 fun row=>∃ f:FsV,row=fsC f/\f.xs.length<=maxLen/\∀ x∈f.xs,zd1 x:=fun fuel cs x hx=>by
 obtain ⟨row,⟨hl,hq⟩,h1,h2,h3⟩:=qP.struct (W:=W) (enc:=enc) (Qs:=fun j c=>match j with | 0=>∃ n,c = .sc (.int .i64 n)/\(Lit.int .i64 n).wf=true | 1=>∃ n,c = .sc (.int .i64 n)/\(Lit.int .i64 n).wf=true | 2=>∃ n,c = .sc (.int .i64 n)/\(Lit.int .i64 n).wf=true | 3=>∃ xs:List zn,c = .sl 6 (zF xs)/\xs.length<=maxLen/\∀ x∈xs,zd1 x | _=>True) Tryz.underlying24 (by kernel_rfl) (by kernel_rfl) (fun j f hj=>by
  match j,hj with
  | 0,hj=>cases hj;exact Opn.int Tryz.underlying3
  | 1,hj=>cases hj;exact Opn.int Tryz.underlying3
  | 2,hj=>cases hj;exact Opn.int Tryz.underlying3
  | 3,hj=>cases hj;exact yJ
  | j+4,hj=>simp at hj) fuel cs x hx
 match row,h1,hq,h3 with
 | [c0,c1,c2,c3],_,hq,h3 =>
  obtain ⟨a,rfl,_⟩:=hq 0 c0 rfl
  obtain ⟨b,rfl,_⟩:=hq 1 c1 rfl
  obtain ⟨c,rfl,_⟩:=hq 2 c2 rfl
  obtain ⟨d,rfl,hd⟩:=hq 3 c3 rfl
  exact ⟨_,⟨⟨a,b,c,d⟩,rfl,hd⟩,rfl,h2,h3⟩
end
end
section
open Go
structure zkH (κ:Type) where
 lt:κ->κ->Bool
 irr:∀ a,lt a a=false
 tr:∀ {a b c},lt a b=true->lt b c=true->lt a c=true
 tot:∀ {a b},lt a b=false->lt b a=false->a=b
theorem Xd:∀ a:List UInt8,Op.bytesLess a a=false
 | []=>rfl
 | c :: a=>by
  have h:¬c<c:=by simp
  simp[Op.bytesLess,Xd a]
theorem HV:∀ {a b c:List UInt8},Op.bytesLess a b=true->Op.bytesLess b c=true->Op.bytesLess a c=true
 | _,[],_,h,_=>by unfold Op.bytesLess at h;cases h
 | [],y :: b,[],_,h2=>by unfold Op.bytesLess at h2;cases h2
 | [],y :: b,z :: c,_,_=>rfl
 | x :: a,y :: b,[],_,h2=>by unfold Op.bytesLess at h2;cases h2
 | x :: a,y :: b,z :: c,h1,h2=>by
  unfold Op.bytesLess at h1 h2 ⊢
  simp only[Bool.or_eq_true,Bool.and_eq_true,decide_eq_true_eq,beq_iff_eq]at h1 h2 ⊢
  rcases h1 with h1 | ⟨rfl,h1⟩
  ·rcases h2 with h2 | ⟨rfl,h2⟩
   ·exact .inl (UInt8.lt_trans h1 h2)
   ·exact .inl h1
  ·rcases h2 with h2 | ⟨rfl,h2⟩
   ·exact .inl h2
   ·exact .inr ⟨rfl,HV h1 h2⟩
theorem VO:∀ {a b:List UInt8},Op.bytesLess a b=false->Op.bytesLess b a=false->a=b
 | [],[],_,_=>rfl
 | [],y :: b,h,_=>by unfold Op.bytesLess at h;cases h
 | x :: a,[],_,h=>by unfold Op.bytesLess at h;cases h
 | x :: a,y :: b,h1,h2=>by
  unfold Op.bytesLess at h1 h2
  simp only[Bool.or_eq_false_iff,decide_eq_false_iff_not,Bool.and_eq_false_iff,beq_eq_false_iff_ne]at h1 h2
  obtain ⟨g1,g2⟩:=h1
  obtain ⟨g3,g4⟩:=h2
  have hxy:x=y:=by
   apply UInt8.toNat_inj.1
   have e1:¬x.toNat<y.toNat:=fun h=>g1 (UInt8.lt_iff_toNat_lt.2 h)
   have e2:¬y.toNat<x.toNat:=fun h=>g3 (UInt8.lt_iff_toNat_lt.2 h)
   omega
  subst hxy
  have h3:Op.bytesLess a b=false:=by rcases g2 with g | g;exact absurd rfl g;exact g
  have h4:Op.bytesLess b a=false:=by rcases g4 with g | g;exact absurd rfl g;exact g
  rw[VO h3 h4]
theorem zc0:∀ a b:List UInt8,(Lib.compareBytes a b<0)=(Op.bytesLess a b=true)
 | [],[]=>by simp[Lib.compareBytes,Op.bytesLess]
 | [],_ :: _=>by simp[Lib.compareBytes,Op.bytesLess]
 | _ :: _,[]=>by simp[Lib.compareBytes,Op.bytesLess]
 | a :: x,b :: y=>by
  unfold Lib.compareBytes Op.bytesLess
  by_cases h1:a<b
  ·simp[h1]
  ·rw[if_neg h1]
   by_cases h2:b<a
   ·have:a≠b:=fun e=>by subst e;exact h1 h2
    simp[h1,h2,this]
   ·have e:a=b:=by
     apply UInt8.toNat_inj.1
     have e1:¬a.toNat<b.toNat:=fun h=>h1 (UInt8.lt_iff_toNat_lt.2 h)
     have e2:¬b.toNat<a.toNat:=fun h=>h2 (UInt8.lt_iff_toNat_lt.2 h)
     omega
    rw[if_neg h2,zc0 x y]
    subst e
    simp[h1]
theorem zeS:∀ a b:List UInt8,(Lib.compareBytes a b=0)=(a=b)
 | [],[]=>by simp[Lib.compareBytes]
 | [],_ :: _=>by simp[Lib.compareBytes]
 | _ :: _,[]=>by simp[Lib.compareBytes]
 | a :: x,b :: y=>by
  unfold Lib.compareBytes
  by_cases h1:a<b
  ·have:a≠b:=fun e=>by subst e;simp at h1
   simp[h1,this]
  ·rw[if_neg h1]
   by_cases h2:b<a
   ·have:a≠b:=fun e=>by subst e;exact h1 h2
    simp[h2,this]
   ·have e:a=b:=by
     apply UInt8.toNat_inj.1
     have e1:¬a.toNat<b.toNat:=fun h=>h1 (UInt8.lt_iff_toNat_lt.2 h)
     have e2:¬b.toNat<a.toNat:=fun h=>h2 (UInt8.lt_iff_toNat_lt.2 h)
     omega
    rw[if_neg h2,zeS x y]
    subst e
    simp
def jk:zkH (List UInt8):=⟨Op.bytesLess,Xd,HV,VO⟩
def zo9:zkH Int:=⟨fun a b=>decide (a<b),fun a=>by simp,fun h1 h2=>by simp at h1 h2 ⊢;omega,fun h1 h2=>by simp at h1 h2;omega⟩
section
variable {α κ:Type} [DecidableEq κ] (o:zkH κ) (key:α->κ)
def jE (xs:List α):Prop:=xs.Pairwise fun a b=>o.lt (key a) (key b)=true
def jn (n:κ) (xs:List α):Nat:=(xs.filter fun x=>o.lt (key x) n).length
def Qe (n:κ) (xs:List α):Bool:=xs.any fun x=>decide (key x=n)
def jT (n:κ) (xs:List α):Option α:=xs.find? fun x=>decide (key x=n)
def Ya (n:κ) (xs:List α):List α:=xs.filter fun x=>!decide (key x=n)
def Qh (x:α):List α->List α
 | []=>[x]
 | y :: r=>if o.lt (key x) (key y) then x :: y :: r else y :: Qh x r
variable {o:zkH κ} {key:α->κ}
theorem zkH.asym {a b:κ} (h:o.lt a b=true):o.lt b a=false:=by
 cases h':o.lt b a with
 | false=>rfl
 | true=>have:=o.tr h h';rw[o.irr]at this;cases this
theorem H8 (n:κ):∀ (xs:List α) (i:Nat),i<=xs.length->(∀ t (h:t<xs.length),t<i->o.lt (key xs[t]) n=true)->(∀ t (h:t<xs.length),i<=t->o.lt (key xs[t]) n=false)->jn o key n xs=i
 | [],i,h,_,_=>by simp at h;simp[jn,h]
 | x :: r,0,_,_,h2=>by
  have hx:o.lt (key x) n=false:=h2 0 (by simp) (Nat.le_refl _)
  have ih:=H8 n r 0 (Nat.zero_le _) (fun t h h'=>absurd h' (Nat.not_lt_zero _)) (fun t h _=>h2 (t+1) (by simp;omega) (Nat.zero_le _))
  unfold jn at ih ⊢
  rw[List.filter_cons_of_neg (by simp[hx])]
  exact ih
 | x :: r,i+1,h,h1,h2=>by
  have hx:o.lt (key x) n=true:=h1 0 (by simp) (Nat.succ_pos _)
  have ih:=H8 n r i (by simpa using h) (fun t h h'=>h1 (t+1) (by simp;omega) (by omega)) (fun t h h'=>h2 (t+1) (by simp;omega) (by omega))
  unfold jn at ih ⊢
  rw[List.filter_cons_of_pos (by simp[hx]),List.length_cons,ih]
theorem zgp (n:κ) (xs:List α):jn o key n xs<=xs.length:=List.length_filter_le _ _
theorem j0 {y:α} {r:List α}:jE o key (y :: r)↔(∀ z∈r,o.lt (key y) (key z)=true)/\jE o key r:=List.pairwise_cons
theorem uY {n:κ} {y:α} {r:List α} (h:o.lt (key y) n=true):jn o key n (y :: r)=jn o key n r+1:=by
 unfold jn
 rw[List.filter_cons_of_pos (by simpa using h),List.length_cons]
theorem zaT {n:κ} {y:α} {r:List α} (hR:jE o key (y :: r)) (h:o.lt (key y) n=false):jn o key n (y :: r)=0:=by
 obtain ⟨h1,_⟩:=j0.1 hR
 unfold jn
 rw[List.length_eq_zero_iff,List.filter_eq_nil_iff]
 intro z hz
 rcases List.mem_cons.1 hz with rfl | hz
 ·simp[h]
 ·have h3:=h1 z hz
  cases h4:o.lt (key z) n with
  | false=>simp
  | true=>have:=o.tr h3 h4;rw[h]at this;cases this
theorem zei {n:κ} {y:α} {r:List α} (hR:jE o key (y :: r)) (h:o.lt (key y) n=false):Qe key n (y :: r)=decide (key y=n):=by
 obtain ⟨h1,_⟩:=j0.1 hR
 unfold Qe
 rw[List.any_cons]
 have:(r.any fun x=>decide (key x=n))=false:=List.any_eq_false.2 fun z hz=>by
  have h3:=h1 z hz
  simp only[decide_eq_true_eq]
  rintro rfl
  rw[h3]at h;cases h
 rw[this,Bool.or_false]
theorem zat (n:κ):∀ {xs:List α},jE o key xs->(∀ t (h:t<xs.length),t<jn o key n xs->o.lt (key xs[t]) n=true)/\(∀ t (h:t<xs.length),jn o key n xs<=t->o.lt (key xs[t]) n=false) /\
  (Qe key n xs=true->∃ h:jn o key n xs<xs.length,key xs[jn o key n xs]=n/\jT key n xs=some xs[jn o key n xs]/\Ya key n xs=xs.take (jn o key n xs)++xs.drop (jn o key n xs+1)/\∀ x,key x=n->Qh o key x (Ya key n xs)=xs.set (jn o key n xs) x) /\
  (Qe key n xs=false->jT key n xs=none/\Ya key n xs=xs/\∀ x,key x=n->Qh o key x xs=xs.take (jn o key n xs)++x :: xs.drop (jn o key n xs))
 | [],_=>⟨fun t h=>absurd h (Nat.not_lt_zero _),fun t h=>absurd h (Nat.not_lt_zero _),fun h=>(by cases h),fun _=>⟨rfl,rfl,fun x _=>rfl⟩⟩
 | y :: r,hR=>by
  obtain ⟨h1,h2⟩:=j0.1 hR
  obtain ⟨i1,i2,i3,i4⟩:=zat n h2
  cases hy:o.lt (key y) n with
  | true =>
   have hne:key y≠n:=by rintro rfl;rw[o.irr]at hy;cases hy
   have hrk:=uY (r:=r) hy
   have hhas:Qe key n (y :: r)=Qe key n r:=by unfold Qe;rw[List.any_cons,decide_eq_false hne,Bool.false_or]
   have hfind:jT key n (y :: r)=jT key n r:=by unfold jT;rw[List.find?_cons_of_neg (by simpa using hne)]
   have hless:Ya key n (y :: r)=y :: Ya key n r:=by unfold Ya;rw[List.filter_cons_of_pos (by simpa using hne)]
   have hput:∀ x q,key x=n->Qh o key x (y :: q)=y :: Qh o key x q:=fun x q hx=>by
    rw[Qh,hx,zkH.asym hy];rfl
   rw[hhas,hfind,hless,hrk]
   refine ⟨fun t h ht=>?_,fun t h ht=>?_,fun h=>?_,fun h=>?_⟩
   ·cases t with
    | zero=>exact hy
    | succ t=>exact i1 t (by simpa using h) (by omega)
   ·cases t with
    | zero=>omega
    | succ t=>exact i2 t (by simpa using h) (by omega)
   ·obtain ⟨g,g1,g2,g3,g4⟩:=i3 h
    refine ⟨by simp;omega,by simpa using g1,by simpa using g2,by rw[g3];simp,fun x hx=>?_⟩
    rw[hput x _ hx,g4 x hx];simp
   ·obtain ⟨g1,g2,g3⟩:=i4 h
    refine ⟨g1,by rw[g2],fun x hx=>?_⟩
    rw[hput x _ hx,g3 x hx];simp
  | false =>
   have hrk:=zaT hR hy
   have hhas:=zei hR hy
   rw[hrk,hhas]
   have hno:∀ z∈r,key z≠n:=fun z hz=>by
    have h3:=h1 z hz
    rintro rfl
    rw[h3]at hy;cases hy
   have hlr:Ya key n r=r:=by
    unfold Ya
    rw[List.filter_eq_self]
    intro z hz
    simpa using hno z hz
   refine ⟨fun t h ht=>absurd ht (Nat.not_lt_zero _),fun t h _=>?_,fun h=>?_,fun h=>?_⟩
   ·cases t with
    | zero=>exact hy
    | succ t =>
     have h3:=h1 (r[t]'(by simpa using h)) (List.getElem_mem _)
     show o.lt (key (r[t]'(by simpa using h))) n=false
     cases h4:o.lt (key (r[t]'(by simpa using h))) n with
     | false=>rfl
     | true=>have:=o.tr h3 h4;rw[hy]at this;cases this
   ·have hk:key y=n:=of_decide_eq_true h
    have hl:Ya key n (y :: r)=r:=by
     show (y :: r).filter (fun x=>!decide (key x=n))=r
     rw[List.filter_cons_of_neg (by simpa using hk)];exact hlr
    refine ⟨by simp,hk,by unfold jT;rw[List.find?_cons_of_pos (by simpa using hk)];rfl,by rw[hl];simp,fun x hx=>?_⟩
    rw[hl]
    cases r with
    | nil=>rfl
    | cons z q =>
     have h3:=h1 z List.mem_cons_self
     rw[hk]at h3
     rw[Qh,hx,h3];rfl
   ·have hk:key y≠n:=of_decide_eq_false h
    have hny:o.lt n (key y)=true:=by
     cases h5:o.lt n (key y) with
     | true=>rfl
     | false=>exact absurd (o.tot hy h5) hk
    refine ⟨?_,?_,fun x hx=>?_⟩
    ·unfold jT
     rw[List.find?_eq_none]
     intro z hz
     rcases List.mem_cons.1 hz with rfl | hz
     ·simpa using hk
     ·simpa using hno z hz
    ·show (y :: r).filter (fun x=>!decide (key x=n))=y :: r
     rw[List.filter_cons_of_pos (by simpa using hk)]
     exact congrArg _ hlr
    ·rw[Qh,hx,hny];rfl
theorem zkj (n:κ) {xs:List α} (hR:jE o key xs) {i:Nat} (hi:jn o key n xs=i) (h:i<xs.length):Qe key n xs=decide (key xs[i]=n):=by
 subst hi
 obtain ⟨_,_,h3,_⟩:=zat n hR
 cases hh:Qe key n xs with
 | true=>obtain ⟨_,g,_⟩:=h3 hh;rw[decide_eq_true g]
 | false =>
  symm
  rw[decide_eq_false_iff_not]
  intro e
  unfold Qe at hh
  rw[List.any_eq_false]at hh
  exact hh _ (List.getElem_mem h) (decide_eq_true e)
theorem ziw (n:κ) {xs:List α} (hR:jE o key xs) (hi:jn o key n xs=xs.length):Qe key n xs=false:=by
 obtain ⟨_,_,h3,_⟩:=zat n hR
 cases hh:Qe key n xs with
 | false=>rfl
 | true=>obtain ⟨g,_⟩:=h3 hh;omega
theorem xK (n:κ) {xs:List α} (h:jE o key xs):jE o key (Ya key n xs):=h.filter _
theorem kM {x y:α}:∀ {xs:List α},y∈Qh o key x xs↔y=x∨y∈xs
 | []=>by simp[Qh]
 | z :: r=>by
  unfold Qh
  split
  ·simp
  ·rw[List.mem_cons,kM,List.mem_cons]
   constructor
   ·rintro (h | h | h)
    ·exact .inr (.inl h)
    ·exact .inl h
    ·exact .inr (.inr h)
   ·rintro (h | h | h)
    ·exact .inr (.inl h)
    ·exact .inl h
    ·exact .inr (.inr h)
theorem Mn {n:κ} {y:α} {xs:List α}:y∈Ya key n xs↔y∈xs/\key y≠n:=by unfold Ya;simp
theorem UW {x:α}:∀ {xs:List α},jE o key xs->(∀ y∈xs,key y≠key x)->jE o key (Qh o key x xs)
 | [],_,_=>by unfold Qh jE;simp
 | y :: r,hR,hne=>by
  obtain ⟨h1,h2⟩:=j0.1 hR
  unfold Qh
  cases hxy:o.lt (key x) (key y) with
  | true =>
   rw[if_pos rfl,j0]
   refine ⟨fun z hz=>?_,hR⟩
   rcases List.mem_cons.1 hz with rfl | hz
   ·exact hxy
   ·exact o.tr hxy (h1 z hz)
  | false =>
   rw[if_neg (by simp),j0]
   have hyx:o.lt (key y) (key x)=true:=by
    cases h:o.lt (key y) (key x) with
    | true=>rfl
    | false=>exact absurd (o.tot h hxy) (hne y List.mem_cons_self)
   refine ⟨fun z hz=>?_,UW h2 fun z hz=>hne z (List.mem_cons_of_mem _ hz)⟩
   rcases kM.1 hz with rfl | hz
   ·exact hyx
   ·exact h1 z hz
theorem VE {x:α} {xs:List α} (h:jE o key xs):jE o key (Qh o key x (Ya key (key x) xs)):=
 UW (xK _ h) fun y hy=>(Mn.1 hy).2
theorem VI (n:κ) (xs:List α):(Ya key n xs).length<=xs.length:=List.length_filter_le _ _
theorem vr (x:α):∀ xs:List α,(Qh o key x xs).length=xs.length+1
 | []=>rfl
 | y :: r=>by
  unfold Qh
  split
  ·rfl
  ·rw[List.length_cons,vr x r];rfl
end
end
section
open Go.RowKit
section
variable {G:zk}
theorem zaE (rows:List (List C)) (hk:∀ r∈rows,r.length=2) (hs:jp rows) (hl:rows.length<=100000) :
  Y1 Tryz.prog G 279 [.sl 2 rows] [] 0 (ziZ 2 rows):=by
 refine Y1.bySlice (fun h=>?_) (fun h a cap hr=>?_)
 ·refine foX (fun i=>if i=1000000+94 then [true,true] else []) Tryz.func279 ?_;dsimp only[Tryz.f279]
  push_cast -dsimp
  refine ⟨h,ZZ Up Xl rfl rfl (by decide) rfl (zB hk) rfl (Nat.le_refl _) (Nat.le_refl _) (by omega) (by omega) (fun hc=>absurd hc ?_) (fun _ c hc hm=>?_)⟩
  ·have:=List.length_pos_iff.2 h;omega
  ·push_cast -dsimp
   rw[Nat.zero_add]at hc
   refine ⟨_,_,_,⟨⟨rfl,.inl ⟨h,c,hc,hm,rfl,rfl⟩⟩,Nat.zero_le _⟩,[],rfl,rfl,?_,by push_cast -dsimp [zb,za,CLe,ze]⟩
   push_cast -dsimp [zb,za,CLe,ze]
   exact z6 (qu hs)
 ·cases a with
  | none =>
   refine foX (fun i=>if i=1000000+94 then [true,true] else []) Tryz.func279 ?_;dsimp only[Tryz.f279]
   push_cast -dsimp [hr,Option.isNone_none]
   exact ⟨_,_,_,⟨⟨rfl,.inr ⟨h,.inl ⟨rfl,rfl⟩⟩⟩,Nat.zero_le _⟩,[],rfl,rfl,by push_cast -dsimp [zb,za,CLe,ze],by push_cast -dsimp [zb,za,CLe,ze]⟩
  | some a =>
   refine foX (fun i=>if i=1000000+94 then [true,true] else []) Tryz.func279 ?_;dsimp only[Tryz.f279]
   push_cast -dsimp [hr,Option.isNone_some]
   have hx:C.xs? 2 [[]] (C.sc (.slice (some a) 0 cap))=some (0,[]):=by simp[C.xs?,hr]
   refine ZZ Up Xl hx rfl (by decide) rfl rfl rfl (Nat.le_refl _) (Nat.le_refl _) (by omega) (by omega) (fun _=>?_) (fun hc=>absurd hc (by omega))
   push_cast -dsimp
   exact ⟨_,_,_,⟨⟨rfl,.inr ⟨h,.inr ⟨rfl,rfl⟩⟩⟩,Nat.zero_le _⟩,[],rfl,rfl,by (push_cast -dsimp [zb,za,CLe,ze];simp[spl,ze]),by push_cast -dsimp [zb,za,CLe,ze]⟩
theorem vm (rows:List (List C)) (x:List C) (i c e:Nat) (hk:∀ r∈rows,r.length=2) (hx:x.length=2) (hs:jp rows) (hsx:(x.all C.stayB)=true) (hl:rows.length<=100000) (hi:i<=rows.length) (hc:rows.length<=c) (hcm:c<=9223372036854775807) :
  Y1 Tryz.prog G 280 [.bs 0 0 2 rows.length c,.sc (.int .i64 i),.own 0 e 2 [x]] [jG 2 rows c] 1 (zqQ 2 (c*2) (rows.take i++x :: rows.drop i)):=by
 refine foX (fun j=>if j=1000000+94 then [true,true] else if j=11 then [false,false,false,false,false,false,false,false,true] else if j=15 then [false,false,false,false,false,false,false,false,true] else []) Tryz.func280 ?_;dsimp only[Tryz.f280]
 push_cast -dsimp
 have hlen:(rows.take i++x :: rows.drop i).length=rows.length+1:=by simp;omega
 have hki:∀ r∈rows.take i++x :: rows.drop i,r.length=2:=fun r hr=>by
  rcases List.mem_append.1 hr with hr | hr
  ·exact hk r (List.mem_of_mem_take hr)
  ·rcases List.mem_cons.1 hr with rfl | hr
   ·exact hx
   ·exact hk r (List.mem_of_mem_drop hr)
 have hsi:jp (rows.take i++x :: rows.drop i):=fun r hr=>by
  rcases List.mem_append.1 hr with hr | hr
  ·exact hs r (List.mem_of_mem_take hr)
  ·rcases List.mem_cons.1 hr with rfl | hr
   ·exact hsx
   ·exact hs r (List.mem_of_mem_drop hr)
 have hbl:=Qo hk hc
 have hfl:=zB hk
 have hxl:[x].flatten.length=1*2:=by simp[hx]
 have hpre:(jG 2 rows c).take rows.flatten.length=rows.flatten:=by unfold jG;rw[List.take_left]
 refine ⟨hc,⟨by omega,hi⟩,br (fun h=>?_) (fun h=>?_)⟩
 ·push_cast -dsimp
  refine ZZ Up Xl rfl rfl (by decide) rfl hxl rfl (by rw[hbl];omega) hc (by simp;omega) (by simp;omega) (fun h1=>?_) (fun h1 c' h2 h3=>?_)
  ·push_cast -dsimp
   have hi':i=rows.length:=of_decide_eq_true h
   refine ⟨_,_,_,⟨⟨rfl,c,by rw[hlen];exact h1,hcm,.inl ⟨rfl,rfl⟩⟩,Nat.le_refl _⟩,[],rfl,rfl,?_,by push_cast -dsimp [zb,za,CLe,ze,hlen]⟩
   push_cast -dsimp [zb,za,CLe,ze]
   have h6:rows.length*2+2<=c*2:=by have:rows.length+1<=c:=h1;omega
   refine Xf hki hsi (by rw[hlen];exact h1) (by rw[HR (by rw[hbl,hx];exact h6),hbl]) ?_
   rw[hlen,hi',List.take_length,List.drop_length]
   unfold spl
   rw[←hfl,hpre,List.take_left' (by simp[hx,hfl];omega)]
   simp
  ·push_cast -dsimp
   have hi':i=rows.length:=of_decide_eq_true h
   have h2':rows.length+1<=c':=h2
   refine ⟨_,_,_,⟨⟨rfl,c',by rw[hlen];exact h2,h3,.inr ⟨rfl,rfl⟩⟩,Nat.le_of_ble_eq_true rfl⟩,[],rfl,rfl,?_,by push_cast -dsimp [zb,za,CLe,ze,hlen]⟩
   push_cast -dsimp [zb,za,CLe,ze]
   refine ⟨X6 hbl,Xf hki hsi (by rw[hlen];exact h2) (by simp[hx,hbl];omega) ?_⟩
   rw[hlen,hi',List.take_length,List.drop_length,←hfl,hpre,List.take_left' (by simp[hx,hfl];omega)]
   simp
 ·have hne:i≠rows.length:=of_decide_eq_false h
  push_cast -dsimp
  refine ⟨⟨by omega,by omega⟩,br (fun h1=>?_) (fun h1=>?_)⟩
  ·have h1':(c:Int)<(rows.length:Int)+1:=of_decide_eq_true h1
   push_cast -dsimp
   repeat refine an ?_
   refine zno Up zmE Xl rfl (by decide) rfl rfl (by rw[hbl];omega) (by omega) (by omega) (by omega) (by omega) (by omega) (fun c' B h2 h3 hBl hBt=>?_)
   have e1:((rows.length:Int)+1-(i:Int)).toNat=rows.length+1-i:=by omega
   rw[e1]at h2 ⊢
   have e2:i+(rows.length+1-i)=rows.length+1:=by omega
   rw[e2]at h2 ⊢
   push_cast -dsimp
   repeat refine an ?_
   refine Zw Up Xl rfl rfl hxl (by rw[hBl];omega) (fun B1 hB1 hl1=>?_)
   rw[hBl]at hl1
   push_cast -dsimp
   repeat refine an ?_
   have hbp:=Vb (c:=c) hk hi
   refine Zw Up Xl (vP rfl (by rw[hbl];omega)) rfl (by rw[hbp,List.length_drop,hfl];omega) (by rw[hl1];omega) (fun B2 hB2 hl2=>?_)
   rw[hl1]at hl2
   have hX:[x].flatten.take (min [x].length (rows.length+1-i)*2)=x:=by
    rw[List.length_singleton,Nat.min_eq_left (by omega),List.take_of_length_le (by omega)];simp
   rw[hX]at hB1
   rw[hbp,show min (rows.length-i) (rows.length-i)*2=(rows.length-i)*2 by omega,List.take_of_length_le (by rw[List.length_drop,hfl];omega),hB1]at hB2
   push_cast -dsimp
   refine ⟨_,_,_,⟨⟨rfl,c',by rw[hlen];exact h2,h3,.inr ⟨rfl,rfl⟩⟩,Nat.le_of_ble_eq_true rfl⟩,[],rfl,rfl,?_,by push_cast -dsimp [zb,za,CLe,ze,hlen]⟩
   push_cast -dsimp [zb,za,CLe,ze]
   refine ⟨X6 hbl,Xf hki hsi (by rw[hlen];exact h2) hl2 ?_⟩
   rw[hlen,←Vg hk,hB2]
   have hg:=vl (cs:=B) (L:=rows.flatten) (X:=x) (p:=i*2) (q:=(i+1)*2) (by omega) (by omega) (by
    rw[hBt,List.drop_zero];unfold jG;rw[List.take_append_of_le_length (by omega)]) (by omega)
   rw[hfl,hx]at hg
   rw[←hg]
   congr 1;omega
  ·have h1':¬(c:Int)<(rows.length:Int)+1:=of_decide_eq_false h1
   push_cast -dsimp
   repeat refine an ?_
   refine zoF (zdO (P:=Tryz.prog) (tR:=4) Tryz.func290 (by kernel_rfl) (by kernel_rfl) (by kernel_rfl) (by kernel_rfl) Up Xl rfl (List.ne_nil_of_length_pos (by rw[hbl];omega)) (by simp) (by omega)) ?_
   push_cast -dsimp
   repeat refine an ?_
   have hbp:=Vb (c:=c) hk hi
   refine Zw Up Xl (vP rfl (by rw[hbl];omega)) rfl (by simp[hbl];omega) (by rw[hbl];omega) (fun B1 hB1 hl1=>?_)
   rw[hbl]at hl1
   rw[List.take_take,Nat.min_eq_left (by omega),show min (rows.length+1-i) (rows.length-i)*2=(rows.length-i)*2 by omega,hbp]at hB1
   push_cast -dsimp
   repeat refine an ?_
   refine Zw Up Xl rfl rfl hxl (by rw[hl1];omega) (fun B2 hB2 hl2=>?_)
   rw[hl1]at hl2
   have hX:[x].flatten.take (min [x].length (rows.length+1-i)*2)=x:=by
    rw[List.length_singleton,Nat.min_eq_left (by omega),List.take_of_length_le (by omega)];simp
   rw[hX,hB1]at hB2
   push_cast -dsimp
   have hcc:rows.length+1<=c:=by omega
   refine ⟨_,_,_,⟨⟨rfl,c,by rw[hlen];exact hcc,hcm,.inl ⟨rfl,rfl⟩⟩,Nat.le_of_ble_eq_true rfl⟩,[],rfl,rfl,?_,by push_cast -dsimp [zb,za,CLe,ze,hlen]⟩
   push_cast -dsimp [zb,za,CLe,ze]
   refine Xf hki hsi (by rw[hlen];exact hcc) hl2 ?_
   rw[hlen,←Vg hk,hB2]
   have hg:=G6 (cs:=jG 2 rows c) (L:=rows.flatten) (X:=x) (p:=i*2) (q:=(i+1)*2) (by omega) (by omega) hpre (by omega)
   rw[hfl,hx]at hg
   rw[←hg]
   congr 1;omega
theorem zic {e:Nat} (x:List C) (hx:x.length=2) (hsx:(x.all C.stayB)=true) :
  Y1 Tryz.prog G 280 [.sc (.slice none 0 0),.sc (.int .i64 0),.own 0 e 2 [x]] [] 1 (fun r bx' n=>n=0/\∃ c,1<=c/\c<=9223372036854775807/\r = .bs 0 0 2 1 c/\bx' = [jG 2 [x] c]):=by
 refine foX (fun j=>if j=1000000+94 then [true,true] else if j=11 then [false,false,false,false,false,false,false,false,true] else if j=15 then [false,false,false,false,false,false,false,false,true] else []) Tryz.func280 ?_;dsimp only[Tryz.f280]
 push_cast -dsimp
 refine vi Up Xl rfl rfl (by decide) rfl (by simp[hx]) (by simp) (by simp) (by simp) (fun c h1 h2=>?_)
 push_cast -dsimp
 refine ⟨_,_,_,⟨⟨rfl,c,h1,h2,rfl,rfl⟩,Nat.zero_le _⟩,[],rfl,rfl,?_,by push_cast -dsimp [zb,za,CLe,ze]⟩
 push_cast -dsimp [zb,za,CLe,ze]
 have:=z6 (src:=[]) (n:=1) (qu (k:=2) (c:=c) (rows:=[x]) fun r hr=>by
  rw[List.mem_singleton.1 hr];exact hsx)
 unfold jG at this ⊢
 simpa using this
end
end
end Go.Proofs.YtaipngaejfndgaaGreatDoor.Vcg
section
namespace Go.Proofs
open Go.Shelf
def Tryz.lays169_ren:Go.Shelf.Ren:=⟨fun | 169=>175 | n=>n,fun | 70=>207 | 9=>9 | 0=>0 | 72=>209 | 37=>164 | 127=>245 | 3=>3 | 5=>5 | n=>n,fun | n=>n⟩
theorem Tryz.lays169:Go.Proofs.Lays.n169 Tryz.prog Tryz.lays169_ren:={
 mixed:=by kernel_rfl
 f169:=Tryz.func175.trans (congrArg some (by kernel_rfl))
 t0:=Tryz.underlying0
 a0:=Tryz.isAgg0
 z0:=Tryz.sizeOf0
 v0:=Tryz.zeroValue0
 t3:=Tryz.underlying3
 a3:=Tryz.isAgg3
 z3:=Tryz.sizeOf3
 v3:=Tryz.zeroValue3
 t9:=Tryz.underlying9
 a9:=Tryz.isAgg9
 z9:=Tryz.sizeOf9
 v9:=Tryz.zeroValue9
 t37:=Tryz.underlying164
 a37:=Tryz.isAgg164
 z37:=Tryz.sizeOf164
 v37:=Tryz.zeroValue164
 t70:=Tryz.underlying207
 a70:=Tryz.isAgg207
 z70:=Tryz.sizeOf207
 v70:=Tryz.zeroValue207
 t72:=Tryz.underlying209
 a72:=Tryz.isAgg209
 z72:=Tryz.sizeOf209
 v72:=Tryz.zeroValue209
 t127:=Tryz.underlying245
 a127:=Tryz.isAgg245
 z127:=Tryz.sizeOf245
 v127:=Tryz.zeroValue245 }
theorem Tryz.Builder_Extra_169:Builder.Extra Tryz.prog Tryz.lays169_ren:={
 sizeBuilder:=by kernel_rfl
 liesBuilder:=by kernel_rfl
 t5:=Tryz.underlying5
 a5:=Tryz.isAgg5
 z5:=Tryz.sizeOf5
 v5:=Tryz.zeroValue5
 infoByte:=by kernel_rfl
 cellsByte:=by kernel_rfl
 sizeByte:=by kernel_rfl
 neB5:=by decide }
open Go.RowKit in
theorem Tryz.Builder_String_any (B b:Nat) (l:List UInt8) (w:World) (h:Lib.IsBuilder 209 5 B b (Lib.byteCells l) w) (hBw:B<=w.heap.size) :
  Calls Tryz.prog 175 #[.pointer (some ⟨b,0,none⟩)] w fun e w'=>e = .returned (.string ⟨l.toArray⟩)/\Below B w w':=Any.Builder_String_any Tryz.lays169 Tryz.Builder_Extra_169 B b l w h hBw
def Tryz.lays156_ren:Go.Shelf.Ren:=⟨fun | 156=>130 | 165=>173 | 166=>174 | 169=>175 | 240=>215 | 241=>216 | 276=>249 | 277=>250 | n=>n,fun | 31=>30 | 9=>9 | 3=>3 | 4=>4 | 0=>0 | 20=>20 | 72=>209 | 76=>213 | 70=>207 | 37=>164 | 75=>212 | 127=>245 | 164=>270 | 5=>5 | 80=>215 | n=>n,fun | n=>n⟩
theorem Tryz.lays156:Go.Proofs.Lays.n156 Tryz.prog Tryz.lays156_ren:={
 mixed:=by kernel_rfl
 f156:=Tryz.func130.trans (congrArg some (by kernel_rfl))
 f165:=Tryz.func173.trans (congrArg some (by kernel_rfl))
 f166:=Tryz.func174.trans (congrArg some (by kernel_rfl))
 f169:=Tryz.func175.trans (congrArg some (by kernel_rfl))
 f240:=Tryz.func215.trans (congrArg some (by kernel_rfl))
 f241:=Tryz.func216.trans (congrArg some (by kernel_rfl))
 f276:=Tryz.func249.trans (congrArg some (by kernel_rfl))
 f277:=Tryz.func250.trans (congrArg some (by kernel_rfl))
 t0:=Tryz.underlying0
 a0:=Tryz.isAgg0
 z0:=Tryz.sizeOf0
 v0:=Tryz.zeroValue0
 t3:=Tryz.underlying3
 a3:=Tryz.isAgg3
 z3:=Tryz.sizeOf3
 v3:=Tryz.zeroValue3
 t4:=Tryz.underlying4
 a4:=Tryz.isAgg4
 z4:=Tryz.sizeOf4
 v4:=Tryz.zeroValue4
 t9:=Tryz.underlying9
 a9:=Tryz.isAgg9
 z9:=Tryz.sizeOf9
 v9:=Tryz.zeroValue9
 t20:=Tryz.underlying20
 a20:=Tryz.isAgg20
 z20:=Tryz.sizeOf20
 v20:=Tryz.zeroValue20
 t31:=Tryz.underlying30
 a31:=Tryz.isAgg30
 z31:=Tryz.sizeOf30
 v31:=Tryz.zeroValue30
 t37:=Tryz.underlying164
 a37:=Tryz.isAgg164
 z37:=Tryz.sizeOf164
 v37:=Tryz.zeroValue164
 t70:=Tryz.underlying207
 a70:=Tryz.isAgg207
 z70:=Tryz.sizeOf207
 v70:=Tryz.zeroValue207
 t72:=Tryz.underlying209
 a72:=Tryz.isAgg209
 z72:=Tryz.sizeOf209
 v72:=Tryz.zeroValue209
 t75:=Tryz.underlying212
 a75:=Tryz.isAgg212
 z75:=Tryz.sizeOf212
 v75:=Tryz.zeroValue212
 t76:=Tryz.underlying213
 a76:=Tryz.isAgg213
 z76:=Tryz.sizeOf213
 v76:=Tryz.zeroValue213
 t127:=Tryz.underlying245
 a127:=Tryz.isAgg245
 z127:=Tryz.sizeOf245
 v127:=Tryz.zeroValue245
 t164:=Tryz.underlying270
 a164:=Tryz.isAgg270
 z164:=Tryz.sizeOf270
 v164:=Tryz.zeroValue270 }
theorem Tryz.Builder_Extra_156:Builder.Extra Tryz.prog Tryz.lays156_ren:={
 sizeBuilder:=by kernel_rfl
 liesBuilder:=by kernel_rfl
 t5:=Tryz.underlying5
 a5:=Tryz.isAgg5
 z5:=Tryz.sizeOf5
 v5:=Tryz.zeroValue5
 infoByte:=by kernel_rfl
 cellsByte:=by kernel_rfl
 sizeByte:=by kernel_rfl
 neB5:=by decide }
open Go.RowKit in
theorem Tryz.strings_Join_none (a:Option Addr) (c:Nat) (sep:ByteArray) (w:World) :
  Calls Tryz.prog 130 #[.slice a 0 c,.string sep] w fun e w'=>e = .returned (.string ⟨#[]⟩)/\w'=w:=Any.strings_Join_none Tryz.lays156 Tryz.Builder_Extra_156 a c sep w
open Go.RowKit in
theorem Tryz.strings_Join (bk o c:Nat) (xs:List ByteArray) (sep:ByteArray) (w:World) (hcells:∀ (j:Nat) x,xs[j]?=some x->w.cell? ⟨bk,o+j,none⟩=some (.string x)) (hbk:bk<w.heap.size) (hN:xs.length<=140737488355328) (hcap:xs.length<=c) (hlen:(Lib.join (xs.map (·.data.toList)) sep.data.toList).length<=140737488355328) :
  Calls Tryz.prog 130 #[.slice (some ⟨bk,o,none⟩) xs.length c,.string sep] w fun e w'=>e = .returned (.string ⟨(Lib.join (xs.map (·.data.toList)) sep.data.toList).toArray⟩)/\Below w.heap.size w w':=Any.strings_Join Tryz.lays156 Tryz.Builder_Extra_156 bk o c xs sep w hcells hbk hN hcap hlen
def Tryz.lays162_ren:Go.Shelf.Ren:=⟨fun | 162=>170 | 232=>210 | 227=>206 | 234=>211 | 236=>212 | 228=>207 | 271=>247 | 151=>248 | 120=>273 | 197=>209 | 152=>204 | 260=>246 | 137=>71 | 119=>243 | 224=>244 | 225=>245 | 217=>121 | 266=>168 | n=>n,fun | 9=>9 | 4=>4 | 3=>3 | 5=>5 | 117=>235 | 116=>234 | 0=>0 | 124=>242 | 21=>21 | 105=>238 | 46=>218 | 119=>284 | 139=>287 | 138=>286 | n=>n,fun | 3=>5 | 4=>6 | n=>n⟩
theorem Tryz.lays162:Go.Proofs.Lays.n162 Tryz.prog Tryz.lays162_ren:={
 mixed:=by kernel_rfl
 f119:=Tryz.func243.trans (congrArg some (by kernel_rfl))
 f120:=Tryz.func273.trans (congrArg some (by kernel_rfl))
 f137:=Tryz.func71.trans (congrArg some (by kernel_rfl))
 f151:=Tryz.func248.trans (congrArg some (by kernel_rfl))
 f152:=Tryz.func204.trans (congrArg some (by kernel_rfl))
 f162:=Tryz.func170.trans (congrArg some (by kernel_rfl))
 f197:=Tryz.func209.trans (congrArg some (by kernel_rfl))
 f217:=Tryz.func121.trans (congrArg some (by kernel_rfl))
 f224:=Tryz.func244.trans (congrArg some (by kernel_rfl))
 f225:=Tryz.func245.trans (congrArg some (by kernel_rfl))
 f227:=Tryz.func206.trans (congrArg some (by kernel_rfl))
 f228:=Tryz.func207.trans (congrArg some (by kernel_rfl))
 f232:=Tryz.func210.trans (congrArg some (by kernel_rfl))
 f234:=Tryz.func211.trans (congrArg some (by kernel_rfl))
 f236:=Tryz.func212.trans (congrArg some (by kernel_rfl))
 f260:=Tryz.func246.trans (congrArg some (by kernel_rfl))
 f266:=Tryz.func168.trans (congrArg some (by kernel_rfl))
 f271:=Tryz.func247.trans (congrArg some (by kernel_rfl))
 t0:=Tryz.underlying0
 a0:=Tryz.isAgg0
 z0:=Tryz.sizeOf0
 v0:=Tryz.zeroValue0
 t3:=Tryz.underlying3
 a3:=Tryz.isAgg3
 z3:=Tryz.sizeOf3
 v3:=Tryz.zeroValue3
 t4:=Tryz.underlying4
 a4:=Tryz.isAgg4
 z4:=Tryz.sizeOf4
 v4:=Tryz.zeroValue4
 t5:=Tryz.underlying5
 a5:=Tryz.isAgg5
 z5:=Tryz.sizeOf5
 v5:=Tryz.zeroValue5
 t9:=Tryz.underlying9
 a9:=Tryz.isAgg9
 z9:=Tryz.sizeOf9
 v9:=Tryz.zeroValue9
 t21:=Tryz.underlying21
 a21:=Tryz.isAgg21
 z21:=Tryz.sizeOf21
 v21:=Tryz.zeroValue21
 t46:=Tryz.underlying218
 a46:=Tryz.isAgg218
 z46:=Tryz.sizeOf218
 v46:=Tryz.zeroValue218
 t105:=Tryz.underlying238
 a105:=Tryz.isAgg238
 z105:=Tryz.sizeOf238
 v105:=Tryz.zeroValue238
 t116:=Tryz.underlying234
 a116:=Tryz.isAgg234
 z116:=Tryz.sizeOf234
 t117:=Tryz.underlying235
 a117:=Tryz.isAgg235
 z117:=Tryz.sizeOf235
 v117:=Tryz.zeroValue235
 t119:=Tryz.underlying284
 a119:=Tryz.isAgg284
 z119:=Tryz.sizeOf284
 t124:=Tryz.underlying242
 a124:=Tryz.isAgg242
 z124:=Tryz.sizeOf242
 v124:=Tryz.zeroValue242
 t138:=Tryz.underlying286
 a138:=Tryz.isAgg286
 z138:=Tryz.sizeOf286
 v138:=Tryz.zeroValue286
 t139:=Tryz.underlying287
 a139:=Tryz.isAgg287
 z139:=Tryz.sizeOf287
 v139:=Tryz.zeroValue287
 g3:=by kernel_rfl
 g4:=by kernel_rfl }
def Tryz.lays119_ren:Go.Shelf.Ren:=⟨fun | 119=>243 | n=>n,fun | 21=>21 | 4=>4 | n=>n,fun | n=>n⟩
theorem Tryz.lays119:Go.Proofs.Lays.n119 Tryz.prog Tryz.lays119_ren:={
 mixed:=by kernel_rfl
 f119:=Tryz.func243.trans (congrArg some (by kernel_rfl))
 t4:=Tryz.underlying4
 a4:=Tryz.isAgg4
 z4:=Tryz.sizeOf4
 v4:=Tryz.zeroValue4
 t21:=Tryz.underlying21
 a21:=Tryz.isAgg21
 z21:=Tryz.sizeOf21
 v21:=Tryz.zeroValue21 }
theorem Tryz.utf8_ValidRune (r:Int) (w:World) :
  Calls Tryz.prog 243 #[.int .i32 r] w fun e w'=>e = .returned (.bool (Lib.validRune r))/\w'=w:=Any.utf8_ValidRune Tryz.lays119 r w
def Tryz.lays106_ren:Go.Shelf.Ren:=⟨fun | 106=>221 | 213=>252 | 265=>275 | n=>n,fun | 9=>9 | 3=>3 | n=>n,fun | n=>n⟩
theorem Tryz.lays106:Go.Proofs.Lays.n106 Tryz.prog Tryz.lays106_ren:={
 mixed:=by kernel_rfl
 f106:=Tryz.func221.trans (congrArg some (by kernel_rfl))
 f213:=Tryz.func252.trans (congrArg some (by kernel_rfl))
 f265:=Tryz.func275.trans (congrArg some (by kernel_rfl))
 t3:=Tryz.underlying3
 a3:=Tryz.isAgg3
 z3:=Tryz.sizeOf3
 v3:=Tryz.zeroValue3
 t9:=Tryz.underlying9
 a9:=Tryz.isAgg9
 z9:=Tryz.sizeOf9
 v9:=Tryz.zeroValue9 }
open Go.RowKit in
theorem Tryz.strings_Compare (a b:ByteArray) (w:World) :
  Calls Tryz.prog 221 #[.string a,.string b] w fun e w'=>e = .returned (.int .i64 (Lib.compareBytes a.data.toList b.data.toList))/\w'=w:=Any.strings_Compare Tryz.lays106 a b w
def Tryz.lays137_ren:Go.Shelf.Ren:=⟨fun | 137=>71 | 217=>121 | 266=>168 | n=>n,fun | 9=>9 | 5=>5 | 3=>3 | n=>n,fun | n=>n⟩
theorem Tryz.lays137:Go.Proofs.Lays.n137 Tryz.prog Tryz.lays137_ren:={
 mixed:=by kernel_rfl
 f137:=Tryz.func71.trans (congrArg some (by kernel_rfl))
 f217:=Tryz.func121.trans (congrArg some (by kernel_rfl))
 f266:=Tryz.func168.trans (congrArg some (by kernel_rfl))
 t3:=Tryz.underlying3
 a3:=Tryz.isAgg3
 z3:=Tryz.sizeOf3
 v3:=Tryz.zeroValue3
 t5:=Tryz.underlying5
 a5:=Tryz.isAgg5
 z5:=Tryz.sizeOf5
 v5:=Tryz.zeroValue5
 t9:=Tryz.underlying9
 a9:=Tryz.isAgg9
 z9:=Tryz.sizeOf9
 v9:=Tryz.zeroValue9 }
open Go.RowKit in
theorem Tryz.strings_IndexByte (s:ByteArray) (c:Int) (w:World) :
  Calls Tryz.prog 71 #[.string s,.int .u8 c] w fun e w'=>e = .returned (.int .i64 (Lib.indexByte s.data.toList c.toNat.toUInt8))/\w'=w:=Any.strings_IndexByte Tryz.lays137 s c w
def Tryz.lays143_ren:Go.Shelf.Ren:=⟨fun | 143=>177 | 219=>217 | 217=>121 | 225=>245 | 224=>244 | 267=>251 | 266=>168 | 314=>274 | n=>n,fun | 9=>9 | 3=>3 | 4=>4 | 5=>5 | 46=>218 | 146=>289 | 51=>288 | n=>n,fun | 1=>3 | n=>n⟩
theorem Tryz.lays143:Go.Proofs.Lays.n143 Tryz.prog Tryz.lays143_ren:={
 mixed:=by kernel_rfl
 f143:=Tryz.func177.trans (congrArg some (by kernel_rfl))
 f217:=Tryz.func121.trans (congrArg some (by kernel_rfl))
 f219:=Tryz.func217.trans (congrArg some (by kernel_rfl))
 f224:=Tryz.func244.trans (congrArg some (by kernel_rfl))
 f225:=Tryz.func245.trans (congrArg some (by kernel_rfl))
 f266:=Tryz.func168.trans (congrArg some (by kernel_rfl))
 f267:=Tryz.func251.trans (congrArg some (by kernel_rfl))
 f314:=Tryz.func274.trans (congrArg some (by kernel_rfl))
 t3:=Tryz.underlying3
 a3:=Tryz.isAgg3
 z3:=Tryz.sizeOf3
 v3:=Tryz.zeroValue3
 t4:=Tryz.underlying4
 a4:=Tryz.isAgg4
 z4:=Tryz.sizeOf4
 v4:=Tryz.zeroValue4
 t5:=Tryz.underlying5
 a5:=Tryz.isAgg5
 z5:=Tryz.sizeOf5
 v5:=Tryz.zeroValue5
 t9:=Tryz.underlying9
 a9:=Tryz.isAgg9
 z9:=Tryz.sizeOf9
 v9:=Tryz.zeroValue9
 t46:=Tryz.underlying218
 a46:=Tryz.isAgg218
 z46:=Tryz.sizeOf218
 v46:=Tryz.zeroValue218
 t51:=Tryz.underlying288
 a51:=Tryz.isAgg288
 z51:=Tryz.sizeOf288
 v51:=Tryz.zeroValue288
 t146:=Tryz.underlying289
 a146:=Tryz.isAgg289
 z146:=Tryz.sizeOf289
 v146:=Tryz.zeroValue289
 g1:=by kernel_rfl }
open Go.RowKit Go.Lib in
theorem Tryz.strings_Index_one (s:ByteArray) (c:UInt8) (w:World) :
  Calls Tryz.prog 177 #[.string s,.string ⟨#[c]⟩] w fun e w'=>e = .returned (.int .i64 (Lib.indexByte s.data.toList c))/\w'=w:=Any.strings_Index_one Tryz.lays143 s c w
def Tryz.lays99_ren:Go.Shelf.Ren:=⟨fun | 99=>98 | 206=>144 | n=>n,fun | 9=>9 | 4=>4 | 3=>3 | n=>n,fun | n=>n⟩
theorem Tryz.lays99:Go.Proofs.Lays.n99 Tryz.prog Tryz.lays99_ren:={
 mixed:=by kernel_rfl
 f99:=Tryz.func98.trans (congrArg some (by kernel_rfl))
 f206:=Tryz.func144.trans (congrArg some (by kernel_rfl))
 t3:=Tryz.underlying3
 a3:=Tryz.isAgg3
 z3:=Tryz.sizeOf3
 v3:=Tryz.zeroValue3
 t4:=Tryz.underlying4
 a4:=Tryz.isAgg4
 z4:=Tryz.sizeOf4
 v4:=Tryz.zeroValue4
 t9:=Tryz.underlying9
 a9:=Tryz.isAgg9
 z9:=Tryz.sizeOf9
 v9:=Tryz.zeroValue9 }
open Go.RowKit Go.Lib in
theorem Tryz.strings_HasPrefix (s p:ByteArray) (w:World) :
  Calls Tryz.prog 98 #[.string s,.string p] w fun e w'=>e = .returned (.bool (Lib.hasPrefix s.data.toList p.data.toList))/\w'=w:=Any.strings_HasPrefix Tryz.lays99 s p w
def Tryz.lays100_ren:Go.Shelf.Ren:=⟨fun | 100=>100 | 207=>146 | n=>n,fun | 9=>9 | 4=>4 | 3=>3 | n=>n,fun | n=>n⟩
theorem Tryz.lays100:Go.Proofs.Lays.n100 Tryz.prog Tryz.lays100_ren:={
 mixed:=by kernel_rfl
 f100:=Tryz.func100.trans (congrArg some (by kernel_rfl))
 f207:=Tryz.func146.trans (congrArg some (by kernel_rfl))
 t3:=Tryz.underlying3
 a3:=Tryz.isAgg3
 z3:=Tryz.sizeOf3
 v3:=Tryz.zeroValue3
 t4:=Tryz.underlying4
 a4:=Tryz.isAgg4
 z4:=Tryz.sizeOf4
 v4:=Tryz.zeroValue4
 t9:=Tryz.underlying9
 a9:=Tryz.isAgg9
 z9:=Tryz.sizeOf9
 v9:=Tryz.zeroValue9 }
open Go.RowKit Go.Lib in
theorem Tryz.strings_HasSuffix (s p:ByteArray) (w:World) (hs:s.size<=9223372036854775807) :
  Calls Tryz.prog 100 #[.string s,.string p] w fun e w'=>e = .returned (.bool (Lib.hasSuffix s.data.toList p.data.toList))/\w'=w:=Any.strings_HasSuffix Tryz.lays100 s p w hs
def Tryz.lays152_ren:Go.Shelf.Ren:=⟨fun | 152=>204 | 137=>71 | 119=>243 | 224=>244 | 225=>245 | 217=>121 | 266=>168 | n=>n,fun | 9=>9 | 21=>21 | 3=>3 | 4=>4 | 5=>5 | 0=>0 | 46=>218 | n=>n,fun | n=>n⟩
theorem Tryz.lays152:Go.Proofs.Lays.n152 Tryz.prog Tryz.lays152_ren:={
 mixed:=by kernel_rfl
 f119:=Tryz.func243.trans (congrArg some (by kernel_rfl))
 f137:=Tryz.func71.trans (congrArg some (by kernel_rfl))
 f152:=Tryz.func204.trans (congrArg some (by kernel_rfl))
 f217:=Tryz.func121.trans (congrArg some (by kernel_rfl))
 f224:=Tryz.func244.trans (congrArg some (by kernel_rfl))
 f225:=Tryz.func245.trans (congrArg some (by kernel_rfl))
 f266:=Tryz.func168.trans (congrArg some (by kernel_rfl))
 t0:=Tryz.underlying0
 a0:=Tryz.isAgg0
 z0:=Tryz.sizeOf0
 v0:=Tryz.zeroValue0
 t3:=Tryz.underlying3
 a3:=Tryz.isAgg3
 z3:=Tryz.sizeOf3
 v3:=Tryz.zeroValue3
 t4:=Tryz.underlying4
 a4:=Tryz.isAgg4
 z4:=Tryz.sizeOf4
 v4:=Tryz.zeroValue4
 t5:=Tryz.underlying5
 a5:=Tryz.isAgg5
 z5:=Tryz.sizeOf5
 v5:=Tryz.zeroValue5
 t9:=Tryz.underlying9
 a9:=Tryz.isAgg9
 z9:=Tryz.sizeOf9
 v9:=Tryz.zeroValue9
 t21:=Tryz.underlying21
 a21:=Tryz.isAgg21
 z21:=Tryz.sizeOf21
 v21:=Tryz.zeroValue21
 t46:=Tryz.underlying218
 a46:=Tryz.isAgg218
 z46:=Tryz.sizeOf218
 v46:=Tryz.zeroValue218 }
open Go.RowKit Go.Lib in
theorem Tryz.strings_IndexRune_ascii (s:ByteArray) (r:Int) (w:World) (h0:0<=r) (h1:r<128) :
  Calls Tryz.prog 204 #[.string s,.int .i32 r] w fun e w'=>e = .returned (.int .i64 (Lib.indexByte s.data.toList r.toNat.toUInt8))/\w'=w:=Any.strings_IndexRune_ascii Tryz.lays152 s r w h0 h1
def Tryz.lays226_ren:Go.Shelf.Ren:=⟨fun | 226=>205 | n=>n,fun | 3=>3 | 4=>4 | n=>n,fun | n=>n⟩
theorem Tryz.lays226:Go.Proofs.Lays.n226 Tryz.prog Tryz.lays226_ren:={
 mixed:=by kernel_rfl
 f226:=Tryz.func205.trans (congrArg some (by kernel_rfl))
 t3:=Tryz.underlying3
 a3:=Tryz.isAgg3
 z3:=Tryz.sizeOf3
 v3:=Tryz.zeroValue3
 t4:=Tryz.underlying4
 a4:=Tryz.isAgg4
 z4:=Tryz.sizeOf4
 v4:=Tryz.zeroValue4 }
open Go.RowKit Go.Lib in
theorem Tryz.strings_shouldUseASCIISet (n:Int) (w:World) :
  Calls Tryz.prog 205 #[.int .i64 n] w fun e w'=>e = .returned (.bool (decide (8<n)))/\w'=w:=Any.strings_shouldUseASCIISet Tryz.lays226 n w
def Tryz.lays153_ren:Go.Shelf.Ren:=⟨fun | 153=>167 | 152=>204 | 226=>205 | 227=>206 | 228=>207 | 137=>71 | 119=>243 | 224=>244 | 225=>245 | 217=>121 | 266=>168 | n=>n,fun | 9=>9 | 3=>3 | 4=>4 | 5=>5 | 21=>21 | 117=>235 | 116=>234 | 0=>0 | 46=>218 | 124=>242 | n=>n,fun | n=>n⟩
theorem Tryz.lays153:Go.Proofs.Lays.n153 Tryz.prog Tryz.lays153_ren:={
 mixed:=by kernel_rfl
 f119:=Tryz.func243.trans (congrArg some (by kernel_rfl))
 f137:=Tryz.func71.trans (congrArg some (by kernel_rfl))
 f152:=Tryz.func204.trans (congrArg some (by kernel_rfl))
 f153:=Tryz.func167.trans (congrArg some (by kernel_rfl))
 f217:=Tryz.func121.trans (congrArg some (by kernel_rfl))
 f224:=Tryz.func244.trans (congrArg some (by kernel_rfl))
 f225:=Tryz.func245.trans (congrArg some (by kernel_rfl))
 f226:=Tryz.func205.trans (congrArg some (by kernel_rfl))
 f227:=Tryz.func206.trans (congrArg some (by kernel_rfl))
 f228:=Tryz.func207.trans (congrArg some (by kernel_rfl))
 f266:=Tryz.func168.trans (congrArg some (by kernel_rfl))
 t0:=Tryz.underlying0
 a0:=Tryz.isAgg0
 z0:=Tryz.sizeOf0
 v0:=Tryz.zeroValue0
 t3:=Tryz.underlying3
 a3:=Tryz.isAgg3
 z3:=Tryz.sizeOf3
 v3:=Tryz.zeroValue3
 t4:=Tryz.underlying4
 a4:=Tryz.isAgg4
 z4:=Tryz.sizeOf4
 v4:=Tryz.zeroValue4
 t5:=Tryz.underlying5
 a5:=Tryz.isAgg5
 z5:=Tryz.sizeOf5
 v5:=Tryz.zeroValue5
 t9:=Tryz.underlying9
 a9:=Tryz.isAgg9
 z9:=Tryz.sizeOf9
 v9:=Tryz.zeroValue9
 t21:=Tryz.underlying21
 a21:=Tryz.isAgg21
 z21:=Tryz.sizeOf21
 v21:=Tryz.zeroValue21
 t46:=Tryz.underlying218
 a46:=Tryz.isAgg218
 z46:=Tryz.sizeOf218
 v46:=Tryz.zeroValue218
 t116:=Tryz.underlying234
 a116:=Tryz.isAgg234
 z116:=Tryz.sizeOf234
 t117:=Tryz.underlying235
 a117:=Tryz.isAgg235
 z117:=Tryz.sizeOf235
 v117:=Tryz.zeroValue235
 t124:=Tryz.underlying242
 a124:=Tryz.isAgg242
 z124:=Tryz.sizeOf242
 v124:=Tryz.zeroValue242 }
open Go.RowKit Go.Lib in
theorem Tryz.strings_IndexAny_long (hv116:∀ w,(zeroValue 234).run Tryz.prog w = .ok (.agg (Array.replicate 256 (.bool false))) w) (s chars:ByteArray) (w:World) (h2:2<=chars.size) (h8:8<s.size) (hs:s.size<4294967281) (hcs:chars.size<4294967281) (hascii:∀ (j:Nat) b,chars.data.toList[j]?=some b->b.toNat<128) :
  Calls Tryz.prog 167 #[.string s,.string chars] w fun e w'=>e = .returned (.int .i64 (Lib.indexAny s.data.toList chars.data.toList))/\w'=((w.alloc (.cells (Lib.setCells chars.data.toList) 234)).alloc (.cells (Lib.setCells chars.data.toList) 234)):=Any.strings_IndexAny_long Tryz.lays153 hv116 (by kernel_rfl) s chars w h2 h8 hs hcs hascii
end Go.Proofs
end
namespace Go.Proofs.YtaipngaejfndgaaGreatDoor.Vcg
section
open CA CB
open Go.RowKit
section
variable {G:zk}
theorem YR (f:FsV) (n:Int) (hl:f.xs.length<=100000) (hR:z8 f.xs):Fun Tryz.prog G 58 [.agg (fsC f),.sc (.int .i64 n)] (.tup [.agg (JJ (zf n f.xs)),.sc (.bool (zw n f.xs))]) 0:=by
 refine fon Tryz.func58 ?_;dsimp only[Tryz.f58]
 push_cast -dsimp
 refine cl (zje f n hl hR) ?_;push_cast -dsimp
 cases hh:zw n f.xs with
 | false =>
  have hg:zf n f.xs=NZ:=by unfold zf;rw[kT hh];rfl
  push_cast -dsimp [hh]
  exact dn (by push_cast -dsimp [zb,za,CLe,ze,hg,NZ])
 | true =>
  obtain ⟨hlt,hg⟩:=y5 hR hh
  have hg:zf n f.xs=f.xs[jm n f.xs]:=by unfold zf;rw[hg];rfl
  have hat:=qD f.xs _ hlt
  push_cast -dsimp [hh,hat]
  (try simp only[lS]);repeat refine an ?_
  exact dn (by push_cast -dsimp [zb,za,CLe,ze,hg])
theorem ju {xs:List zn}:∀ r∈zF xs,r.length=6:=fun r hr=>by
 obtain ⟨x,_,rfl⟩:=List.mem_map.1 hr;rfl
theorem qm {xs:List zn}:jp (zF xs):=fun r hr=>by
 obtain ⟨x,_,rfl⟩:=List.mem_map.1 hr;rfl
theorem zfo (f:FsV) (x:zn) (hl:f.xs.length<=90000) (hR:z8 f.xs) :
  Fun Tryz.prog G 258 [.agg (fsC f),.agg (JJ x)] (.agg [.sc (.int .i64 f.maxI),.sc (.int .i64 f.maxB),.sc (.int .i64 f.next),.own 0 96 6 (zF (jq x f.xs))]) 1:=by
 have hll:(zF f.xs).length=f.xs.length:=List.length_map ..
 refine foF (fun _=>[]) Tryz.func258 ?_;dsimp only[Tryz.f258]
 push_cast -dsimp
 refine cl (zje f x.ino (by omega) hR) ?_;push_cast -dsimp
 refine YF [] [] (kF (zF f.xs) ju qm (by omega)) rfl (by decide) (by decide) (by simp) (by push_cast -dsimp) (by push_cast -dsimp) (fun r bx' m hp=>?_)
 obtain ⟨rfl,⟨hne,c,h1,h2,rfl,rfl⟩ | ⟨he,⟨rfl,rfl⟩ | ⟨rfl,rfl⟩⟩⟩:=hp
 ·have hbl:=Qo ju h1
  have hre:∀ fp fo,C.reL fp fo (jG 6 (zF f.xs) c)=jG 6 (zF f.xs) c:=fun fp fo=>qC (qu qm)
  have hpos:=List.length_pos_iff.2 hne
  cases hh:zw x.ino f.xs with
  | true =>
   obtain ⟨hlt,_⟩:=y5 hR hh
   have hst:=yZ (c:=c) (rows:=zF f.xs) (row:=JJ x) (i:=jm x.ino f.xs) ju rfl (by omega)
   have hset:zF (jq x f.xs)=(zF f.xs).set (jm x.ino f.xs) (JJ x):=by rw[←xZ hR hh];simp[List.map_set]
   push_cast -dsimp [hh,hre,hst]
   refine ⟨by omega,by omega,by rw[hbl];omega,[(4,96,6,(zF f.xs).set (jm x.ino f.xs) (JJ x),c)],[.inl 0],?_,rfl,rfl,by push_cast -dsimp [zb,za,CLe,ze,hset,List.length_set]⟩
   rw[←hset]
   refine jg (by rw[hset];rfl) (by omega) (by rw[hset,List.length_set];exact h1) h2 ju qm
  | false =>
   have hset:zF (jq x f.xs)=(zF f.xs).take (jm x.ino f.xs)++JJ x :: (zF f.xs).drop (jm x.ino f.xs):=by rw[←yG hR hh];simp
   have hrl:=zfc x.ino f.xs
   have hsl:(zF (jq x f.xs)).length=(zF f.xs).length+1:=by rw[hset];simp;omega
   push_cast -dsimp [hh,hre]
   refine YF [4] [0] (vH (e:=96) (zF f.xs) (JJ x) (jm x.ino f.xs) c ju rfl qm rfl (by omega) (by omega) h1 h2) rfl (by decide) (by decide) (by simp) (by push_cast -dsimp) (by push_cast -dsimp [hre]) (fun r bx' m hp=>?_)
   rw[←hset]at hp
   have hre2:∀ fp fo c,C.reL fp fo (jG 6 (zF (jq x f.xs)) c)=jG 6 (zF (jq x f.xs)) c:=fun fp fo c=>qC (qu qm)
   obtain ⟨rfl,c',g1,g2,⟨rfl,rfl⟩ | ⟨rfl,rfl⟩⟩:=hp
   ·push_cast -dsimp [hre2,hre]
    exact ⟨[(4,96,6,zF (jq x f.xs),c')],[.inl 1],jg rfl (by omega) g1 g2 ju qm,rfl,rfl,by push_cast -dsimp [zb,za,CLe,ze]⟩
   ·have hra:∀ fp fo,C.reL fp fo (List.replicate (c*6) .any)=List.replicate (c*6) .any:=fun fp fo=>qC (by simp[List.all_replicate,C.stayB])
    push_cast -dsimp [hre2,hre,hra]
    exact ⟨[(5,96,6,zF (jq x f.xs),c')],[.inl 1],jg rfl (by omega) g1 g2 ju qm,rfl,rfl,by push_cast -dsimp [zb,za,CLe,ze]⟩
 ·have he:f.xs = []:=by simpa using he
  have hh:zw x.ino f.xs=false:=by rw[he];rfl
  have hr0:jm x.ino f.xs=0:=by rw[he];rfl
  have hset:jq x f.xs = [x]:=by rw[he];rfl
  push_cast -dsimp [hh,hr0]
  refine YF [] [0] (ziT (e:=96) (JJ x) rfl rfl) rfl (by decide) (by decide) (by simp) (by push_cast -dsimp) (by push_cast -dsimp) (fun r bx' m hp=>?_)
  obtain ⟨rfl,c,g1,g2,rfl,rfl⟩:=hp
  have hre:∀ fp fo,C.reL fp fo (jG 6 [JJ x] c)=jG 6 [JJ x] c:=fun fp fo=>qC (qu (qm (xs:=[x])))
  push_cast -dsimp [hre]
  exact ⟨[(3,96,6,zF [x],c)],[.inl 1],jg rfl (by omega) g1 g2 ju qm,rfl,rfl,by push_cast -dsimp [zb,za,CLe,ze,hset]⟩
 ·have he:f.xs = []:=by simpa using he
  have hh:zw x.ino f.xs=false:=by rw[he];rfl
  have hr0:jm x.ino f.xs=0:=by rw[he];rfl
  have hset:jq x f.xs = [x]:=by rw[he];rfl
  push_cast -dsimp [hh,hr0]
  refine YF [3] [0] (vH (e:=96) [] (JJ x) 0 0 (fun r hr=>by cases hr) rfl (fun r hr=>by cases hr) rfl (by simp) (by simp) (by simp) (by simp)) rfl (by decide) (by decide) (by simp) (by push_cast -dsimp) (by push_cast -dsimp [jG]) (fun r bx' m hp=>?_)
  obtain ⟨rfl,c,g1,g2,hp⟩:=hp
  have hre:∀ fp fo,C.reL fp fo (jG 6 [JJ x] c)=jG 6 [JJ x] c:=fun fp fo=>qC (qu (qm (xs:=[x])))
  rcases hp with ⟨rfl,rfl⟩ | ⟨rfl,rfl⟩
  ·push_cast -dsimp [hre]
   exact ⟨[(3,96,6,zF [x],c)],[.inl 1],jg rfl (Nat.lt_of_lt_of_le (Nat.zero_lt_succ _) g1) g1 g2 ju qm,rfl,rfl,by push_cast -dsimp [zb,za,CLe,ze,hset]⟩
  ·push_cast -dsimp [hre]
   exact ⟨[(4,96,6,zF [x],c)],[.inl 1],jg rfl (Nat.lt_of_lt_of_le (Nat.zero_lt_succ _) g1) g1 g2 ju qm,rfl,rfl,by push_cast -dsimp [zb,za,CLe,ze,hset]⟩
theorem zhJ (f:FsV) (hl:f.xs.length<=90000) (h0:f.xs≠[]) (h1:-4611686018427387904<=f.next) (h2:f.next<=4611686018427387904) :
  Fun Tryz.prog G 256 [.agg (fsC f)] (.tup [.agg [.sc (.int .i64 f.maxI),.sc (.int .i64 f.maxB),.sc (.int .i64 (f.next+1)),.own 0 96 6 (zF f.xs)],.sc (.int .i64 f.next)]) 1:=by
 have hll:(zF f.xs).length=f.xs.length:=List.length_map ..
 refine foF (fun _=>[]) Tryz.func256 ?_;dsimp only[Tryz.f256]
 push_cast -dsimp
 (try simp only[lS]);repeat refine an ?_
 refine YF [] [] (kF (zF f.xs) ju qm (by omega)) rfl (by decide) (by decide) (by simp) (by push_cast -dsimp) (by push_cast -dsimp) (fun r bx' m hp=>?_)
 obtain ⟨rfl,⟨hne,c,h1,h2,rfl,rfl⟩ | ⟨he,_⟩⟩:=hp
 ·have hre:∀ fp fo,C.reL fp fo (jG 6 (zF f.xs) c)=jG 6 (zF f.xs) c:=fun fp fo=>qC (qu qm)
  have hpos:=List.length_pos_iff.2 hne
  push_cast -dsimp [hre]
  exact ⟨[(3,96,6,zF f.xs,c)],[.inl 0],jg rfl (by omega) h1 h2 ju qm,rfl,rfl,by push_cast -dsimp [zb,za,CLe,ze]⟩
 ·exact absurd (by simpa using he) h0
theorem zgk {R:Env} {L:Loc} {id e:Nat} {v:Value} (h:Rep R L (.own id e 6 [[.sc (.int .i64 1),.sc (.int .i64 2),.sc (.int .i64 0),.str [],.sc (.int .i64 1),.sc (.slice none 0 0)]]) v):Rep R L (.own id e 6 (zF [⟨1,2,0,[],1,[]⟩])) v:=
 zav (by simp[RLe,ze,CLe]) h
theorem Zz {α:Type} {a b:List α} {i:Nat} (ha:i<a.length) (hb:i<b.length) (h:a.take i=b.take i):(a.take (i+1)=b.take (i+1))↔a[i]=b[i]:=by
 rw[List.take_add_one,List.take_add_one,h,List.append_right_inj,List.getElem?_eq_getElem ha,List.getElem?_eq_getElem hb]
 simp
theorem zmD (a b:zK):(decide (a.name=b.name)&&decide (a.ino=b.ino))=decide (a=b):=by
 cases a;cases b;simp
theorem zon (a b:zn):a=b↔a.ino=b.ino/\a.kind=b.kind/\a.links=b.links/\a.data=b.data/\a.parent=b.parent/\a.es=b.es:=by
 cases a;cases b;simp
theorem zqq (a b:FsV):a=b↔a.maxI=b.maxI/\a.maxB=b.maxB/\a.next=b.next/\a.xs=b.xs:=by
 cases a;cases b;simp
end
end
section
open CA CB
open Go.RowKit
section
variable {G:zk}
theorem Nc (a b:List zK) (ha:a.length<=9223372036854775807):Fun Tryz.prog G 134 [.sl 2 (zG a),.sl 2 (zG b)] (.sc (.bool (decide (a=b)))) 0:=by
 refine fon Tryz.func134 ?_;dsimp only[Tryz.f134]
 have hla:(zG a).length=a.length:=List.length_map ..
 have hlb:(zG b).length=b.length:=List.length_map ..
 by_cases hab:a.length=b.length
 ·push_cast -dsimp [hla,hlb,hab]
  refine loop (fun i:Nat=>⟨[(0,.sl 2 (zG a)),(1,.sl 2 (zG b)),(5,.sc (.int .i64 i))],[],0,0⟩) (fun i=>i<=b.length/\a.take i=b.take i) (fun i=>b.length-i) 0 ⟨Nat.zero_le _,rfl⟩ ?_ ?_
  ·exact wk
  ·rintro i ⟨h1,h2⟩
   by_cases h:i<b.length
   ·have g1:=jx a i (by omega)
    have g2:=jx b i h
    push_cast -dsimp [hla,hab,h,g1,g2]
    repeat refine an ?_
    have hd:=zmD a[i] b[i]
    by_cases he:a[i]=b[i]
    ·have hd:(decide (a[i].name=b[i].name)&&decide (a[i].ino=b[i].ino))=true:=by rw[hd,decide_eq_true he]
     push_cast -dsimp [hd]
     repeat refine an ?_
     exact ⟨i+1,⟨h,(Zz (by omega) h h2).2 he⟩,by omega,wk⟩
    ·have hd:(decide (a[i].name=b[i].name)&&decide (a[i].ino=b[i].ino))=false:=by rw[hd,decide_eq_false he]
     push_cast -dsimp [hd]
     have:a≠b:=fun h=>he (by subst h;rfl)
     exact dn (by push_cast -dsimp [zb,za,CLe,ze,this])
   ·push_cast -dsimp [hla,hab,h]
    have:a=b:=by rw[←List.take_of_length_le (l:=a) (i:=i) (by omega),h2,List.take_of_length_le (by omega)]
    exact dn (by push_cast -dsimp [zb,za,CLe,ze,this])
 ·push_cast -dsimp [hla,hlb,hab]
  have:a≠b:=fun h=>hab (by rw[h])
  exact dn (by push_cast -dsimp [zb,za,CLe,ze,this])
theorem zkO (x y:zn) (hx:x.es.length<=9223372036854775807):Fun Tryz.prog G 82 [.agg (JJ x),.agg (JJ y)] (.sc (.bool (decide (x=y)))) 0:=by
 refine fon Tryz.func82 ?_;dsimp only[Tryz.f82]
 by_cases e0:x.ino=y.ino
 case neg =>
  have hn:¬x=y:=fun h=>e0 (by rw[h])
  push_cast -dsimp [e0]
  exact dn (by push_cast -dsimp [zb,za,CLe,ze,hn])
 by_cases e1:x.kind=y.kind
 case neg =>
  have hn:¬x=y:=fun h=>e1 (by rw[h])
  push_cast -dsimp [e0,e1]
  exact dn (by push_cast -dsimp [zb,za,CLe,ze,hn])
 by_cases e2:x.links=y.links
 case neg =>
  have hn:¬x=y:=fun h=>e2 (by rw[h])
  push_cast -dsimp [e0,e1,e2]
  exact dn (by push_cast -dsimp [zb,za,CLe,ze,hn])
 by_cases e3:x.data=y.data
 case neg =>
  have hn:¬x=y:=fun h=>e3 (by rw[h])
  push_cast -dsimp [e0,e1,e2,e3]
  exact dn (by push_cast -dsimp [zb,za,CLe,ze,hn])
 by_cases e4:x.parent=y.parent
 case neg =>
  have hn:¬x=y:=fun h=>e4 (by rw[h])
  push_cast -dsimp [e0,e1,e2,e3,e4]
  exact dn (by push_cast -dsimp [zb,za,CLe,ze,hn])
 by_cases e5:x.es=y.es
 case neg =>
  have hn:¬x=y:=fun h=>e5 (by rw[h])
  push_cast -dsimp [e0,e1,e2,e3,e4]
  refine cl (Nc x.es y.es hx) ?_;push_cast -dsimp [e5,hn]
  exact dn (by push_cast -dsimp [zb,za,CLe,ze,hn])
 have hn:x=y:=(zon x y).2 ⟨e0,e1,e2,e3,e4,e5⟩
 push_cast -dsimp [e0,e1,e2,e3,e4]
 refine cl (Nc x.es y.es hx) ?_;push_cast -dsimp [e5]
 exact dn (by push_cast -dsimp [zb,za,CLe,ze,hn])
theorem vL (a b:List zn) (ha:a.length<=100000) (he:∀ x∈a,x.es.length<=9223372036854775807):Fun Tryz.prog G 41 [.sl 6 (zF a),.sl 6 (zF b)] (.sc (.bool (decide (a=b)))) 0:=by
 refine fon Tryz.func41 ?_;dsimp only[Tryz.f41]
 have hla:(zF a).length=a.length:=List.length_map ..
 have hlb:(zF b).length=b.length:=List.length_map ..
 by_cases hab:a.length=b.length
 ·push_cast -dsimp [hla,hlb,hab]
  refine loop (fun i:Nat=>⟨[(0,.sl 6 (zF a)),(1,.sl 6 (zF b)),(5,.sc (.int .i64 i))],[],0,0⟩) (fun i=>i<=b.length/\a.take i=b.take i) (fun i=>b.length-i) 0 ⟨Nat.zero_le _,rfl⟩ ?_ ?_
  ·exact wk
  ·rintro i ⟨h1,h2⟩
   by_cases h:i<b.length
   ·have g1:=qD a i (by omega)
    have g2:=qD b i h
    push_cast -dsimp [hla,hab,h,g1,g2]
    repeat refine an ?_
    refine cl (zkO a[i] b[i] (he _ (List.getElem_mem _))) ?_;push_cast -dsimp
    by_cases he:a[i]=b[i]
    ·push_cast -dsimp [decide_eq_true he]
     repeat refine an ?_
     exact ⟨i+1,⟨h,(Zz (by omega) h h2).2 he⟩,by omega,wk⟩
    ·push_cast -dsimp [decide_eq_false he]
     have:a≠b:=fun h=>he (by subst h;rfl)
     exact dn (by push_cast -dsimp [zb,za,CLe,ze,this])
   ·push_cast -dsimp [hla,hab,h]
    have:a=b:=by rw[←List.take_of_length_le (l:=a) (i:=i) (by omega),h2,List.take_of_length_le (by omega)]
    exact dn (by push_cast -dsimp [zb,za,CLe,ze,this])
 ·push_cast -dsimp [hla,hlb,hab]
  have:a≠b:=fun h=>hab (by rw[h])
  exact dn (by push_cast -dsimp [zb,za,CLe,ze,this])
theorem zdd (x y:FsV) (ha:x.xs.length<=100000) (he:∀ z∈x.xs,z.es.length<=9223372036854775807):Fun Tryz.prog G 14 [.agg (fsC x),.agg (fsC y)] (.sc (.bool (decide (x=y)))) 0:=by
 refine fon Tryz.func14 ?_;dsimp only[Tryz.f14]
 by_cases e0:x.maxI=y.maxI
 case neg =>
  have hn:¬x=y:=fun h=>e0 (by rw[h])
  push_cast -dsimp [e0]
  exact dn (by push_cast -dsimp [zb,za,CLe,ze,hn])
 by_cases e1:x.maxB=y.maxB
 case neg =>
  have hn:¬x=y:=fun h=>e1 (by rw[h])
  push_cast -dsimp [e0,e1]
  exact dn (by push_cast -dsimp [zb,za,CLe,ze,hn])
 by_cases e2:x.next=y.next
 case neg =>
  have hn:¬x=y:=fun h=>e2 (by rw[h])
  push_cast -dsimp [e0,e1,e2]
  exact dn (by push_cast -dsimp [zb,za,CLe,ze,hn])
 by_cases e3:x.xs=y.xs
 case neg =>
  have hn:¬x=y:=fun h=>e3 (by rw[h])
  push_cast -dsimp [e0,e1,e2]
  refine cl (vL x.xs y.xs ha he) ?_;push_cast -dsimp [e3,hn]
  exact dn (by push_cast -dsimp [zb,za,CLe,ze,hn])
 have hn:x=y:=(zqq x y).2 ⟨e0,e1,e2,e3⟩
 push_cast -dsimp [e0,e1,e2]
 refine cl (vL x.xs y.xs ha he) ?_;push_cast -dsimp [e3]
 exact dn (by push_cast -dsimp [zb,za,CLe,ze,hn])
theorem ur {xs:List zn} {i:Nat} (hi:i<xs.length) (h0:0<i):z8 (xs.take (i+1))↔z8 (xs.take i)/\xs[i-1].ino<xs[i].ino:=by
 rw[List.take_add_one,List.getElem?_eq_getElem hi]
 unfold z8
 rw[List.pairwise_append]
 simp only[Option.toList_some,List.pairwise_singleton,true_and,List.mem_singleton,forall_eq]
 constructor
 ·rintro ⟨h1,h2⟩
  exact ⟨h1,h2 _ (List.mem_take_iff_getElem.2 ⟨i-1,by omega,rfl⟩)⟩
 ·rintro ⟨h1,h2⟩
  refine ⟨h1,fun a ha=>?_⟩
  obtain ⟨j,hj,rfl⟩:=List.mem_take_iff_getElem.1 ha
  rcases Nat.lt_or_ge j (i-1) with q | q
  ·have:=(List.pairwise_iff_getElem.1 h1) j (i-1) (by simp;omega) (by simp;omega) q
   simp at this
   omega
  ·have:j=i-1:=by omega
   subst this;exact h2
instance (xs:List zn):Decidable (z8 xs):=by unfold z8;infer_instance
theorem Z6 (f:FsV) (hl:f.xs.length<=100000):Fun Tryz.prog G 116 [.agg (fsC f)] (.sc (.bool (decide (z8 f.xs)))) 0:=by
 have hll:(zF f.xs).length=f.xs.length:=List.length_map ..
 refine fon Tryz.func116 ?_;dsimp only[Tryz.f116]
 push_cast -dsimp
 refine loop (fun i:Nat=>⟨[(1,.ptr 0 0),(3,.sc (.int .i64 i))],[fsC f],0,0⟩) (fun i=>1<=i/\z8 (f.xs.take i)) (fun i=>f.xs.length-i) 1 ⟨Nat.le_refl _,by
  cases f.xs with
  | nil=>exact List.Pairwise.nil
  | cons x r=>exact List.pairwise_singleton _ _⟩ ?_ ?_
 ·exact wk
 ·rintro i ⟨h1,h2⟩
  by_cases h:i<f.xs.length
  ·have g1:=qD f.xs i h
   have g2:=qD f.xs (i-1) (by omega)
   have e1:(i:Int)-1=((i-1:Nat):Int):=by omega
   push_cast -dsimp [hll,h,e1,g1,g2]
   by_cases hc:f.xs[i].ino<=f.xs[i-1].ino
   ·push_cast -dsimp [hc]
    repeat refine an ?_
    have hn:¬z8 f.xs:=fun hR=>by
     have:=(List.pairwise_iff_getElem.1 hR) (i-1) i (by omega) h (by omega)
     omega
    exact dn (by push_cast -dsimp [zb,za,CLe,ze,hn])
   ·push_cast -dsimp [hc]
    repeat refine an ?_
    exact ⟨i+1,⟨by omega,(ur h (by omega)).2 ⟨h2,by omega⟩⟩,by omega,wk⟩
  ·push_cast -dsimp [hll,h]
   rw[List.take_of_length_le (by omega)]at h2
   exact dn (by push_cast -dsimp [zb,za,CLe,ze,h2])
def N1 (x:zn):Prop:=x.data.length<=5000/\x.es.length<=40/\∀ e∈x.es,e.name.length<=300
instance (x:zn):Decidable (N1 x):=by unfold N1;infer_instance
def UQ (xs:List zn):Prop:=xs.length<=40/\∀ x∈xs,N1 x
instance (xs:List zn):Decidable (UQ xs):=by unfold UQ;infer_instance
structure FsS (f:FsV):Prop where
 len:f.xs.length<=10000
 node:∀ x∈f.xs,x.es.length<=10000/\x.data.length<=10000/\∀ e∈x.es,e.name.length<=10000
theorem UQ.fs {f:FsV} (h:UQ f.xs):FsS f:=⟨by have:=h.1;omega,fun x hx=>by
 obtain ⟨h1,h2,h3⟩:=h.2 x hx
 exact ⟨by omega,by omega,fun e he=>by have:=h3 e he;omega⟩⟩
theorem vJ (f:FsV):Fun Tryz.prog G 113 [.agg (fsC f)] (.sc (.bool (decide (UQ f.xs)))) 0:=by
 have hll:(zF f.xs).length=f.xs.length:=List.length_map ..
 refine fon Tryz.func113 ?_;dsimp only[Tryz.f113]
 push_cast -dsimp
 refine loop (fun i:Nat=>⟨[(1,.ptr 0 0),(3,.sc (.int .i64 i))],[fsC f],0,0⟩) (fun i=>i<=100/\∀ t (h:t<f.xs.length),t<i->N1 f.xs[t]) (fun i=>100-i) 0 ⟨Nat.zero_le _,fun t h h'=>absurd h' (Nat.not_lt_zero _)⟩ ?_ ?_
 ·exact wk
 ·rintro i ⟨h1,h2⟩
  have hend:¬(i<f.xs.length/\i<100)->decide ((f.xs.length:Int)<=40)=decide (UQ f.xs):=fun h=>by
   rw[decide_eq_decide]
   constructor
   ·intro hle
    refine ⟨by omega,fun x hx=>?_⟩
    obtain ⟨t,ht,rfl⟩:=List.getElem_of_mem hx
    exact h2 t ht (by omega)
   ·intro h;have:=h.1;omega
  by_cases h:i<f.xs.length
  ·by_cases h100:i<100
   ·have g1:=qD f.xs i h
    have h100':(i:Int)<100:=by omega
    have hbad:¬N1 f.xs[i]->¬UQ f.xs:=fun hs hf=>hs (hf.2 _ (List.getElem_mem h))
    by_cases hd:5000<(f.xs[i].data.length:Int)
    ·have hn:=hbad fun hs=>by have:=hs.1;omega
     push_cast -dsimp [hll,h,h100',g1,hd]
     repeat refine an ?_
     exact dn (by push_cast -dsimp [zb,za,CLe,ze,hn])
    ·by_cases he:40<(f.xs[i].es.length:Int)
     ·have hn:=hbad fun hs=>by have:=hs.2.1;omega
      push_cast -dsimp [hll,h,h100',g1,hd,List.length_map,he]
      repeat refine an ?_
      exact dn (by push_cast -dsimp [zb,za,CLe,ze,hn])
     ·push_cast -dsimp [hll,h,h100',g1,hd,List.length_map,he]
      repeat refine an ?_
      refine loop (fun j:Nat=>⟨[(1,.ptr 0 0),(3,.sc (.int .i64 i)),(4,.ptr 1 0),(5,.sc (.int .i64 j))],[fsC f,JJ f.xs[i]],0,0⟩) (fun j=>j<=f.xs[i].es.length/\∀ t (h':t<f.xs[i].es.length),t<j->f.xs[i].es[t].name.length<=300) (fun j=>f.xs[i].es.length-j) 0 ⟨Nat.zero_le _,fun t h h'=>absurd h' (Nat.not_lt_zero _)⟩ ?_ ?_
      ·exact wk
      ·rintro j ⟨h3,h4⟩
       by_cases hj:j<f.xs[i].es.length
       ·have g2:=jx f.xs[i].es j hj
        by_cases hs:300<(f.xs[i].es[j].name.length:Int)
        ·have hn:=hbad fun hs'=>by have:=hs'.2.2 _ (List.getElem_mem hj);omega
         push_cast -dsimp [List.length_map,hj,g2,hs]
         repeat refine an ?_
         exact dn (by push_cast -dsimp [zb,za,CLe,ze,hn])
        ·push_cast -dsimp [List.length_map,hj,g2,hs]
         repeat refine an ?_
         refine ⟨j+1,⟨hj,fun t ht hlt=>?_⟩,by omega,wk⟩
         rcases Nat.lt_or_ge t j with q | q
         ·exact h4 t ht q
         ·have:t=j:=by omega
          subst this;omega
       ·push_cast -dsimp [List.length_map,hj]
        repeat refine an ?_
        refine ⟨i+1,⟨by omega,fun t ht hlt=>?_⟩,by omega,wk⟩
        rcases Nat.lt_or_ge t i with q | q
        ·exact h2 t ht q
        ·have:t=i:=by omega
         subst this
         refine ⟨by omega,by omega,fun e hee=>?_⟩
         obtain ⟨u,hu,rfl⟩:=List.getElem_of_mem hee
         exact h4 u hu (by omega)
   ·have h100':((i:Int)<100)=False:=eq_false (by omega)
    have:=hend (by omega)
    push_cast -dsimp [hll,h,h100']
    exact dn (by push_cast -dsimp [zb,za,CLe,ze,this])
  ·have:=hend (by omega)
   push_cast -dsimp [hll,h]
   exact dn (by push_cast -dsimp [zb,za,CLe,ze,this])
theorem zcT (f:FsV) (n:Int) (hl:f.xs.length<=90000) :
  Fun Tryz.prog G 141 [.agg (fsC f),.sc (.int .i64 n)] (.agg [.sc (.int .i64 f.maxI),.sc (.int .i64 f.maxB),.sc (.int .i64 f.next),.own 0 96 6 (zF (qS n f.xs))]) 1:=by
 have hll:(zF f.xs).length=f.xs.length:=List.length_map ..
 refine fon Tryz.func141 ?_;dsimp only[Tryz.f141]
 push_cast -dsimp
 refine loop (fun i:Nat=>⟨[(1,.sc (.int .i64 n)),(2,.ptr 0 0),(4,.ptr 1 0),(5,.own 0 96 6 (zF (qS n (f.xs.take i)))),(6,.sc (.int .i64 i))],[fsC f,[.sc (.int .i64 0),.sc (.int .i64 0),.sc (.int .i64 0),.sc (.slice none 0 0)]],1,0⟩) (fun i=>i<=f.xs.length) (fun i=>f.xs.length-i) 0 (Nat.zero_le _) ?_ ?_
 ·exact wks [.inr (96,6)] (by push_cast -dsimp [zb,za,CLe,ze,qS,List.filter_nil])
 ·intro i h1
  by_cases h:i<f.xs.length
  ·have g1:=qD f.xs i h
   have ht:qS n (f.xs.take (i+1))=qS n (f.xs.take i)++qS n [f.xs[i]]:=by
    unfold qS;rw[List.take_add_one,List.getElem?_eq_getElem h,List.filter_append];rfl
   have hle:(qS n (f.xs.take i)).length<=i:=Nat.le_trans Hc (by simp;omega)
   by_cases hc:f.xs[i].ino=n
   ·have ht:qS n (f.xs.take (i+1))=qS n (f.xs.take i):=by rw[ht,JQ hc];simp[qS]
    push_cast -dsimp [hll,h,g1,hc]
    repeat refine an ?_
    exact ⟨i+1,h,by omega,wks [.inl 0] (by push_cast -dsimp [zb,za,CLe,ze,ht])⟩
   ·have ht:qS n (f.xs.take (i+1))=qS n (f.xs.take i)++[f.xs[i]]:=by rw[ht,JT hc];simp[qS]
    push_cast -dsimp [hll,h,g1,hc]
    repeat refine an ?_
    exact ⟨i+1,h,by omega,wks [.inl 0] (by push_cast -dsimp [zb,za,CLe,ze,ht,List.map_append])⟩
  ·rw[List.take_of_length_le (by omega)]
   push_cast -dsimp [hll,h]
   exact ⟨[.inl 0],rfl,rfl,by push_cast -dsimp [zb,za,CLe,ze]⟩
theorem vh (f:FsV) (x:zn) (hl:f.xs.length<=90000) :
  Fun Tryz.prog G 97 [.agg (fsC f),.agg (JJ x)] (.agg [.sc (.int .i64 f.maxI),.sc (.int .i64 f.maxB),.sc (.int .i64 f.next),.own 0 96 6 (zF (jq x f.xs))]) 1:=by
 have hdl:(qS x.ino f.xs).length<=90000:=Nat.le_trans Hc hl
 have hl2:(zF (qS x.ino f.xs)).length=(qS x.ino f.xs).length:=List.length_map ..
 refine fon Tryz.func97 ?_;dsimp only[Tryz.f97]
 push_cast -dsimp
 refine cl (zcT f x.ino hl) ?_;push_cast -dsimp
 unfold jq
 generalize qS x.ino f.xs=rest at hdl hl2
 refine loop (fun p:Nat×List zn×Bool=>⟨[(2,.ptr 0 0),(3,.ptr 1 0),(4,.ptr 2 0),(5,.sl 6 (zF rest)),(6,.own 0 96 6 (zF p.2.1)),(7,.sc (.bool p.2.2)),(8,.sc (.int .i64 p.1))],[fsC f,JJ x,[.sc (.int .i64 0),.sc (.int .i64 0),.sc (.int .i64 0),.sc (.slice none 0 0)]],1,0⟩)
  (fun p=>p.1<=rest.length/\p.2.1.length<=p.1+p.2.2.toNat/\Zb x rest=p.2.1++(if p.2.2 then rest.drop p.1 else Zb x (rest.drop p.1))) (fun p=>rest.length-p.1) (0,[],false) ⟨Nat.zero_le _,Nat.zero_le _,by simp⟩ ?_ ?_
 ·exact wks [.inr (96,6)]
 ·rintro ⟨i,out,d⟩ ⟨h1,h2,h3⟩
  dsimp only at h1 h2 h3 ⊢
  have hlo:(zF out).length=out.length:=List.length_map ..
  by_cases h:i<rest.length
  ·have g1:=qD rest i h
   rw[List.drop_eq_getElem_cons h]at h3
   cases d with
   | true =>
    simp only[Bool.toNat_true]at h2
    push_cast -dsimp [hl2,h,g1]
    repeat refine an ?_
    exact ⟨(i+1,out++[rest[i]],true),⟨h,by simp;omega,by rw[h3];simp⟩,by dsimp only;omega,wks [.inl 0] (by push_cast -dsimp [zb,za,CLe,ze,List.map_append])⟩
   | false =>
    simp only[Bool.false_eq_true,if_false,Zb]at h3
    simp only[Bool.toNat_false]at h2
    by_cases hc:x.ino<rest[i].ino
    ·rw[if_pos hc]at h3
     push_cast -dsimp [hl2,h,g1,hc]
     repeat refine an ?_
     exact ⟨(i+1,out++[x]++[rest[i]],true),⟨h,by simp;omega,by rw[h3];simp⟩,by dsimp only;omega,wks [.inl 0] (by push_cast -dsimp [zb,za,CLe,ze,List.map_append])⟩
    ·rw[if_neg hc]at h3
     push_cast -dsimp [hl2,h,g1,hc]
     repeat refine an ?_
     exact ⟨(i+1,out++[rest[i]],false),⟨h,by simp;omega,by rw[h3];simp⟩,by dsimp only;omega,wks [.inl 0] (by push_cast -dsimp [zb,za,CLe,ze,List.map_append])⟩
  ·rw[List.drop_of_length_le (by omega)]at h3
   cases d with
   | true =>
    simp only[Bool.toNat_true]at h2
    have h3:Zb x rest=out:=by rw[h3];simp
    push_cast -dsimp [hl2,h]
    exact ⟨[.inl 0],rfl,rfl,by push_cast -dsimp [zb,za,CLe,ze,h3]⟩
   | false =>
    simp only[Bool.toNat_false]at h2
    have h3:Zb x rest=out++[x]:=by rw[h3];simp[Zb]
    push_cast -dsimp [hl2,h]
    repeat refine an ?_
    exact ⟨[.inl 0],rfl,rfl,by push_cast -dsimp [zb,za,CLe,ze,h3,List.map_append]⟩
theorem zhH (i b:Int):Fun Tryz.prog G 25 [.sc (.int .i64 i),.sc (.int .i64 b)] (.agg [.sc (.int .i64 i),.sc (.int .i64 b),.sc (.int .i64 2),.own 0 96 6 (zF [⟨1,2,0,[],1,[]⟩])]) 1:=by
 refine Fun.resX (r:=.agg [.sc (.int .i64 i),.sc (.int .i64 b),.sc (.int .i64 2),.own 0 96 6 [[.sc (.int .i64 1),.sc (.int .i64 2),.sc (.int .i64 0),.str [],.sc (.int .i64 1),.sc (.slice none 0 0)]]]) ?_ fun R L v h =>
  uz (fun vs=>JN (fun v h=>h) (fun vs=>JN (fun v h=>h) fun vs=>JN (fun v h=>h) fun vs=>JN (fun v=>zgk) fun vs h=>h)) h
 refine fon Tryz.func25 ?_;dsimp only[Tryz.f25]
 push_cast -dsimp
 exact ⟨[.inl 0],rfl,rfl,by push_cast -dsimp [zb,za,CLe,ze]⟩
end
end
section
open Go.RowKit
section
variable {G:zk}
theorem zgt {n:Int} {xs:List zn} {i:Nat} (h:i<xs.length):zw n (xs.take (i+1))=(zw n (xs.take i)||(xs[i].ino==n)):=by
 unfold zw
 rw[List.take_add_one,List.getElem?_eq_getElem h,List.any_append]
 simp
theorem zh3 {n:Int} {xs:List zn} {i:Nat} (h:i<xs.length) (h0:zw n (xs.take i)=false) (he:xs[i].ino=n):zw n xs=true/\zf n xs=xs[i]:=by
 refine ⟨List.any_eq_true.2 ⟨xs[i],List.getElem_mem h,by simp[he]⟩,?_⟩
 unfold zf XX
 rw[List.find?_eq_some_iff_getElem (b:=xs[i]) |>.2 ⟨by simp[he],i,h,rfl,fun j hj=>?_⟩]
 ·rfl
 ·unfold zw at h0
  rw[List.any_eq_false]at h0
  have:=h0 xs[j] (List.mem_take_iff_getElem.2 ⟨j,by omega,rfl⟩)
  simpa using this
theorem jb (f:FsV) (n:Int) (hl:f.xs.length<=100000):Fun Tryz.prog G 53 [.agg (fsC f),.sc (.int .i64 n)] (.tup [.agg (JJ (zf n f.xs)),.sc (.bool (zw n f.xs))]) 0:=by
 have hll:(zF f.xs).length=f.xs.length:=List.length_map ..
 refine fon Tryz.func53 ?_;dsimp only[Tryz.f53]
 push_cast -dsimp
 refine loop (fun i:Nat=>⟨[(1,.sc (.int .i64 n)),(2,.ptr 0 0),(4,.ptr 1 0),(6,.sc (.int .i64 i))],[fsC f,[.sc (.int .i64 0),.sc (.int .i64 0),.sc (.int .i64 0),.str [],.sc (.int .i64 0),.sc (.slice none 0 0)]],0,0⟩) (fun i=>i<=f.xs.length/\zw n (f.xs.take i)=false) (fun i=>f.xs.length-i) 0 ⟨Nat.zero_le _,rfl⟩ ?_ ?_
 ·exact wk
 ·rintro i ⟨h1,h2⟩
  by_cases h:i<f.xs.length
  ·have g1:=qD f.xs i h
   by_cases he:f.xs[i].ino=n
   ·obtain ⟨q1,q2⟩:=zh3 h h2 he
    push_cast -dsimp [hll,h,g1,he]
    repeat refine an ?_
    exact dn (by push_cast -dsimp [zb,za,CLe,ze,q1,q2,he])
   ·have q:=zgt (n:=n) h
    rw[h2,show (f.xs[i].ino==n)=false from beq_eq_false_iff_ne.2 he]at q
    push_cast -dsimp [hll,h,g1,he]
    repeat refine an ?_
    exact ⟨i+1,⟨h,q⟩,by omega,wk⟩
  ·rw[List.take_of_length_le (by omega)]at h2
   have hg:zf n f.xs=NZ:=by unfold zf;rw[kT h2];rfl
   push_cast -dsimp [hll,h]
   exact dn (by push_cast -dsimp [zb,za,CLe,ze,hg,h2,NZ])
def zV (xs:List zn):Nat:=((xs.filter fun x=>decide (x.kind=1)).map fun x=>x.data.length).sum
theorem VS:∀ {xs:List zn} {n:Nat},(∀ x∈xs,x.data.length<=n)->zV xs<=xs.length*n
 | [],n,_=>by simp[zV]
 | x :: r,n,h=>by
  have ih:=VS (xs:=r) (n:=n) fun y hy=>h y (List.mem_cons_of_mem _ hy)
  have hx:=h x List.mem_cons_self
  unfold zV at ih ⊢
  rw[List.filter_cons]
  split
  ·simp only[List.map_cons,List.sum_cons,List.length_cons]
   rw[Nat.succ_mul];omega
  ·rw[List.length_cons,Nat.succ_mul];omega
theorem FsS.bytes {f:FsV} (h:FsS f):zV f.xs<=100000000:=by
 have h1:=VS (xs:=f.xs) (n:=10000) fun x hx=>(h.node x hx).2.1
 have h2:=h.len
 have:f.xs.length*10000<=10000*10000:=Nat.mul_le_mul_right _ h2
 omega
theorem kJ {xs:List zn} {i:Nat} (h:i<xs.length):zV (xs.take (i+1))=zV (xs.take i)+if xs[i].kind=1 then xs[i].data.length else 0:=by
 unfold zV
 rw[List.take_add_one,List.getElem?_eq_getElem h,List.filter_append,List.map_append,List.sum_append]
 by_cases hk:xs[i].kind=1<;>simp[hk]
theorem GM (f:FsV) (hf:FsS f):Fun Tryz.prog G 176 [.agg (fsC f)] (.sc (.int .i64 (zV f.xs:Nat))) 0:=by
 have hll:(zF f.xs).length=f.xs.length:=List.length_map ..
 have h40:=hf.len
 have hb0:zV []=0:=rfl
 refine fon Tryz.func176 ?_;dsimp only[Tryz.f176]
 push_cast -dsimp
 refine loop (fun i:Nat=>⟨[(1,.ptr 0 0),(3,.sc (.int .i64 (zV (f.xs.take i):Nat))),(4,.sc (.int .i64 i))],[fsC f],0,0⟩) (fun i=>i<=f.xs.length/\zV (f.xs.take i)<=i*10000) (fun i=>f.xs.length-i) 0 ⟨Nat.zero_le _,Nat.zero_le _⟩ ?_ ?_
 ·exact wk (by push_cast -dsimp [zb,za,CLe,ze,hb0,List.take_zero])
 ·rintro i ⟨h1,h2⟩
  by_cases h:i<f.xs.length
  ·have g1:=qD f.xs i h
   have hd:=(hf.node _ (List.getElem_mem h)).2.1
   have q:=kJ h
   by_cases hk:f.xs[i].kind=1
   ·rw[if_pos hk]at q
    have q':((zV (f.xs.take (i+1)):Nat):Int)=(zV (f.xs.take i):Int)+(f.xs[i].data.length:Int):=by omega
    push_cast -dsimp [hll,h,g1,hk]
    repeat refine an ?_
    exact ⟨i+1,⟨h,by omega⟩,by omega,wk (by push_cast -dsimp [zb,za,CLe,ze,q'])⟩
   ·rw[if_neg hk]at q
    have q':zV (f.xs.take (i+1))=zV (f.xs.take i):=by omega
    push_cast -dsimp [hll,h,g1,hk]
    repeat refine an ?_
    exact ⟨i+1,⟨h,by omega⟩,by omega,wk (by push_cast -dsimp [zb,za,CLe,ze,q'])⟩
  ·rw[List.take_of_length_le (by omega)]
   push_cast -dsimp [hll,h]
   exact dn
end
end
section
open Go.RowKit
abbrev G0:zk:=fun _=>none
abbrev zmj (l:List UInt8):List C:=[.str l]
def Ze (s:List (List UInt8)×List UInt8) (b:UInt8):List (List UInt8)×List UInt8:=
 if b=47 then (if s.2 = [] then s.1 else s.1++[s.2],[]) else (s.1,s.2++[b])
def zi5 (s:List (List UInt8)×List UInt8):List (List UInt8):=if s.2 = [] then s.1 else s.1++[s.2]
def nst (l:List UInt8) (k:Nat):List (List UInt8)×List UInt8:=if k<=l.length then (l.take k).foldl Ze ([],[]) else (zi5 (l.foldl Ze ([],[])),[])
def zg (l:List UInt8):List (List UInt8):=zi5 (l.foldl Ze ([],[]))
theorem yT (l:List UInt8):nst l 0=([],[]):=by simp[nst]
theorem yS (l:List UInt8) (k:Nat) (b:UInt8) (h:l[k]?=some b):nst l (k+1)=Ze (nst l k) b:=by
 have hk:k<l.length:=(List.getElem?_eq_some_iff.1 h).1
 unfold nst
 rw[if_pos (by omega),if_pos (by omega),List.take_add_one,h]
 simp
theorem zeA (l:List UInt8):nst l (l.length+1)=(zg l,[]):=by
 unfold nst zg
 rw[if_neg (by omega)]
theorem zfa (l:List UInt8):zi5 (nst l l.length)=zg l:=by
 unfold nst zg
 rw[if_pos (Nat.le_refl _),List.take_length]
theorem Gh (l:List UInt8):∀ k,k<=l.length->(nst l k).1.length+(nst l k).2.length<=k
 | 0,_=>by simp[yT]
 | k+1,h=>by
  have hk:k<l.length:=by omega
  have ih:=Gh l k (by omega)
  rw[yS l k l[k] (List.getElem?_eq_getElem hk)]
  unfold Ze
  by_cases h47:l[k]=47
  ·rw[if_pos h47]
   by_cases h2:(nst l k).2 = []
   ·simp[h2];omega
   ·have:0<(nst l k).2.length:=List.length_pos_iff.2 h2
    simp[h2];omega
  ·rw[if_neg h47];simp;omega
theorem zS (l:List UInt8):(zg l).length<=l.length:=by
 rw[←zfa]
 have:=Gh l l.length (Nat.le_refl _)
 unfold zi5
 split
 ·omega
 ·rename_i h
  have:0<(nst l l.length).2.length:=List.length_pos_iff.2 h
  simp;omega
theorem zdm {b c:UInt8} (h:b≠c):¬((b.toNat:Int)=(c.toNat:Int)):=fun e=>h (UInt8.toNat_inj.1 (by omega))
theorem zb4 {α:Type} (l:List α) (k:Nat) (b:α) (h:l[k]?=some b):(l.take (k+1)).drop k = [b]:=by
 have hk:k<l.length:=(List.getElem?_eq_some_iff.1 h).1
 rw[List.take_add_one,h,List.drop_append]
 simp[Nat.min_eq_left (by omega:k<=l.length)]
theorem Uy (l:List UInt8) (h:l.length<=2000000):Fun Tryz.prog G0 17 [.str l] (.own 0 9 1 ((zg l).map zmj)) 1:=by
 refine fon Tryz.func17 ?_;dsimp only[Tryz.f17]
 push_cast -dsimp
 refine loop (fun k:Nat=>⟨[(0,.str l),(3,.own 0 9 1 ((nst l k).1.map zmj)),(4,.str (nst l k).2),(5,.sc (.int .i64 k))],[],1,0⟩) (fun k=>k<=l.length+1) (fun k=>l.length+1-k) 0 (Nat.zero_le _) ?_ ?_
 ·refine j8.mk [.inr (9,1)] rfl rfl (Nat.le_refl _) rfl ?_ trivial
  push_cast -dsimp [zb,za,CLe,ze]
  simp[yT]
 ·intro k hk
  push_cast -dsimp
  by_cases h1:k<=l.length
  ·have hs:=Gh l k h1
   by_cases h2:k<l.length
   ·obtain ⟨b,hb⟩:∃ b,l[k]?=some b:=⟨l[k],List.getElem?_eq_getElem h2⟩
    have hn:=yS l k b hb
    by_cases h3:b=47
    ·have h3':(b.toNat:Int)=47:=by subst h3;rfl
     by_cases h4:(nst l k).2 = []
     ·push_cast -dsimp [h1,h2,h3',hb,h4]
      and_intros<;>try omega
      refine ⟨k+1,by omega,by omega,j8.mk [.inl 0] rfl rfl (Nat.le_refl _) rfl ?_ trivial⟩
      push_cast -dsimp [zb,za,CLe,ze]
      simp[hn,Ze,h3,h4]
     ·push_cast -dsimp [h1,h2,h3',hb,h4]
      simp only[List.length_map,List.length_cons,List.length_nil]
      and_intros<;>try omega
      refine ⟨k+1,by omega,by omega,j8.mk [.inl 0] rfl rfl (Nat.le_refl _) rfl ?_ trivial⟩
      push_cast -dsimp [zb,za,CLe,ze]
      simp[hn,Ze,h3,h4,zmj]
    ·have h3':¬((b.toNat:Int)=47):=zdm h3
     push_cast -dsimp [h1,h2,h3',hb]
     rw[zb4 l k b hb]
     and_intros<;>try omega
     ·simp;omega
     refine ⟨k+1,by omega,by omega,j8.mk [.inl 0] rfl rfl (Nat.le_refl _) rfl ?_ trivial⟩
     push_cast -dsimp [zb,za,CLe,ze]
     simp[hn,Ze,h3]
   ·obtain rfl:k=l.length:=by omega
    have hl:=zfa l
    have he:=zeA l
    have hz:=zS l
    by_cases h4:(nst l l.length).2 = []
    ·push_cast -dsimp [h1,h2,h4]
     and_intros<;>try omega
     refine ⟨l.length+1,by omega,by omega,j8.mk [.inl 0] rfl rfl (Nat.le_refl _) rfl ?_ trivial⟩
     push_cast -dsimp [zb,za,CLe,ze]
     simp[he,←hl,zi5,h4]
    ·push_cast -dsimp [h1,h2,h4]
     simp only[List.length_map,List.length_cons,List.length_nil]
     and_intros<;>try omega
     refine ⟨l.length+1,by omega,by omega,j8.mk [.inl 0] rfl rfl (Nat.le_refl _) rfl ?_ trivial⟩
     push_cast -dsimp [zb,za,CLe,ze]
     simp[he,←hl,zi5,h4,zmj]
  ·obtain rfl:k=l.length+1:=by omega
   have he:=zeA l
   push_cast -dsimp [h1]
   exact ⟨[.inl 0],rfl,rfl,by push_cast -dsimp [zb,za,CLe,ze,he]⟩
end
section
open Go.RowKit
abbrev zx (xs:List (List UInt8)):List (List C):=xs.map zmj
theorem MO (xs:List (List UInt8)):(zx xs).length=xs.length:=List.length_map _
theorem zbG (xs:List (List UInt8)) (x:List UInt8):zx xs++[[.str x]]=zx (xs++[x]):=by simp
theorem strs_get? (xs:List (List UInt8)) (k:Nat):(zx xs)[k]?=(xs[k]?).map zmj:=List.getElem?_map
theorem ze5 (xs:List (List UInt8)) (k:Nat):(zx xs).drop k=zx (xs.drop k):=List.map_drop.symm
theorem zbS (xs:List (List UInt8)) (k:Nat):(zx xs).take k=zx (xs.take k):=List.map_take.symm
theorem x0 (xs ys:List (List UInt8)):zx xs++zx ys=zx (xs++ys):=List.map_append.symm
theorem X4 (xs:List (List UInt8)) (k:Nat) (h:k<xs.length):(zx xs)[k]?=some [.str (xs[k]'h)]:=by rw[strs_get?,List.getElem?_eq_getElem h];rfl
attribute [push_cast] MO zbG ze5 zbS x0
abbrev qe (b:Bool):C:=.sc (.bool b)
theorem vK (a b:List (List UInt8)) (ha:a.length<=9223372036854775807):Fun Tryz.prog G0 15 [.sl 1 (zx a),.sl 1 (zx b)] (qe (decide (a=b))) 0:=by
 by_cases hl:a.length=b.length
 ·refine fon Tryz.func15 ?_;dsimp only[Tryz.f15]
  push_cast -dsimp [hl]
  refine loop (fun k:Nat=>⟨[(0,.sl 1 (zx a)),(1,.sl 1 (zx b)),(5,.sc (.int .i64 k))],[],0,0⟩) (fun k=>k<=a.length/\a.take k=b.take k) (fun k=>a.length-k) 0 ⟨Nat.zero_le _,rfl⟩ ?_ ?_
  ·exact wk
  ·intro k hk
   have hk1:=hk.1
   have hk2:=hk.2
   by_cases h:k<a.length
   ·have hga:=X4 a k h
    have hgb:=X4 b k (by omega)
    by_cases he:a[k]'h=b[k]'(by omega)
    ·push_cast -dsimp [h,hga,hgb,he]
     refine ⟨by omega,by omega,by omega,k+1,⟨by omega,?_⟩,by omega,wk⟩
     rw[List.take_add_one,List.take_add_one,hk2,List.getElem?_eq_getElem h,List.getElem?_eq_getElem (by omega:k<b.length),he]
    ·push_cast -dsimp [h,hga,hgb,he]
     refine ⟨by omega,by omega,[],rfl,rfl,?_⟩
     push_cast -dsimp [zb,za,CLe,ze]
     have:a≠b:=fun e=>he (by subst e;rfl)
     simp[this]
   ·have hkl:k=a.length:=by omega
    push_cast -dsimp [h]
    refine ⟨[],rfl,rfl,?_⟩
    push_cast -dsimp [zb,za,CLe,ze]
    rw[hkl,List.take_length,hl,List.take_length]at hk2
    simp[hk2]
 ·have hl':¬((a.length:Int)=(b.length:Int)):=by omega
  refine fon Tryz.func15 ?_;dsimp only[Tryz.f15]
  push_cast -dsimp [hl]
  refine ⟨[],rfl,rfl,?_⟩
  push_cast -dsimp [zb,za,CLe,ze]
  have:a≠b:=fun e=>hl (by rw[e])
  simp[this]
def few (l:List (List UInt8)):Bool:=(l.take 100).all (fun x=>decide (x.length<=300))&&decide (l.length<=40)
end
section
open Go.RowKit
theorem Fun.wrap {P:Program} {G:zk} {f:FuncId} {args:List C} {r:C} (he:J7 P f=true)
  (h:∀ (R:Env) (vs:List Value),zm R zu args vs->Calls P f vs.toArray R.w fun e w'=>∃ v,e = .returned v/\Below R.w.heap.size R.w w'/\∀ R',Ext R R'->Rep R' zu r v):Fun P G f args r 0:=by
 refine ⟨he,fun R vs hg ha=>(h R vs ha).mono ?_⟩
 rintro e w' ⟨v,rfl,hb,hr⟩
 have st:zZ 0 0 R zu ⟨w',fun b o=>b<R.w.heap.size/\R.M b o,R.F⟩ zu:=zZ.mem (nx:=0) hb
 exact ⟨v,_,zu,rfl,rfl,st,hr _ st.ext⟩
def jH:List UInt8->List (List UInt8)
 | []=>[[]]
 | b :: l=>if b=47 then [] :: jH l else match jH l with
  | []=>[[b]]
  | x :: r=>(b :: x) :: r
theorem NQ (l:List UInt8):jH l≠[]:=by
 cases l with
 | nil=>simp[jH]
 | cons b l =>
  unfold jH
  split
  ·simp
  ·split<;>simp
theorem Gm:∀ l:List UInt8,Lib.indexByte l 47<0->jH l = [l]
 | [],_=>rfl
 | b :: l,h=>by
  unfold Lib.indexByte at h
  by_cases hb:b=47
  ·subst hb;simp at h
  ·have hb':(b==47)=false:=by simpa using hb
   rw[hb']at h
   simp only[Bool.false_eq_true,if_false]at h
   have hl:Lib.indexByte l 47<0:=by
    split at h
    ·rename_i g;have:=beq_iff_eq.1 g;omega
    ·omega
   unfold jH
   rw[if_neg hb,Gm l hl]
theorem Ht:∀ l:List UInt8,-1<=Lib.indexByte l 47
 | []=>Int.le_refl _
 | b :: l=>by
  have:=Ht l
  unfold Lib.indexByte
  split
  ·decide
  ·split
   ·decide
   ·omega
theorem vI:∀ (l:List UInt8) (i:Nat),Lib.indexByte l 47=(i:Int)->i<l.length/\jH l=l.take i :: jH (l.drop (i+1))
 | [],i,h=>by
  have h:(-1:Int)=(i:Int):=h
  omega
 | b :: l,i,h=>by
  unfold Lib.indexByte at h
  by_cases hb:b=47
  ·subst hb
   simp at h
   obtain rfl:i=0:=by omega
   refine ⟨by simp,?_⟩
   conv=>lhs;unfold jH
   simp
  ·have hb':(b==47)=false:=by simpa using hb
   rw[hb']at h
   simp only[Bool.false_eq_true,if_false]at h
   split at h
   ·omega
   ·rename_i g
    have g':Lib.indexByte l 47≠-1:=by simpa using g
    have hg:=Ht l
    obtain ⟨j,rfl⟩:∃ j,i=j+1:=⟨i-1,by omega⟩
    have hj:Lib.indexByte l 47=(j:Int):=by omega
    obtain ⟨h1,h2⟩:=vI l j hj
    refine ⟨by simp;omega,?_⟩
    conv=>lhs;unfold jH
    rw[if_neg hb,h2]
    simp
theorem Uz:∀ (l:List UInt8) (a:List (List UInt8)) (cur:List UInt8),zi5 (l.foldl Ze (a,cur))=a++(match jH l with | []=>[] | x :: r=>(cur++x) :: r).filter (fun x=>!decide (x = []))
 | [],a,cur=>by
  simp only[List.foldl_nil,zi5,jH]
  by_cases h:cur = []<;>simp[h]
 | b :: l,a,cur=>by
  simp only[List.foldl_cons]
  by_cases hb:b=47
  ·subst hb
   have hn:Ze (a,cur) 47=(if cur = [] then a else a++[cur],[]):=by simp[Ze]
   rw[hn,Uz l]
   conv=>rhs;unfold jH
   simp only[if_true]
   have hne:=NQ l
   cases hs:jH l with
   | nil=>exact absurd hs hne
   | cons x r=>by_cases h:cur = []<;>simp[h]
  ·have hn:Ze (a,cur) b=(a,cur++[b]):=by simp[Ze,hb]
   rw[hn,Uz l]
   conv=>rhs;unfold jH
   rw[if_neg hb]
   have hne:=NQ l
   cases hs:jH l with
   | nil=>exact absurd hs hne
   | cons x r=>simp
theorem Jf (l:List UInt8):zg l=(jH l).filter (fun x=>!decide (x = [])):=by
 unfold zg
 rw[Uz]
 cases hs:jH l with
 | nil=>rfl
 | cons x r=>simp
theorem zfz (l:List UInt8):Fun Tryz.prog G0 177 [.str l,.str [47]] (.sc (.int .i64 (Lib.indexByte l 47))) 0:=by
 refine Fun.wrap (by kernel_rfl) fun R vs h=>?_
 obtain ⟨v1,us1,rfl,h1,h⟩:=zd.1 h
 obtain ⟨v2,us2,rfl,h2,h⟩:=zd.1 h
 rw[zh]at h
 subst h
 rw[zE]at h1 h2
 subst h1 h2
 refine (Tryz.strings_Index_one ⟨l.toArray⟩ 47 R.w).mono ?_
 rintro e w' ⟨rfl,rfl⟩
 exact ⟨_,rfl,Below.refl _ _,fun R' _=>zj.2 (by simp)⟩
theorem UJ (s:List UInt8) (hs:s.length<=1000000):Nx Tryz.prog G0 208 [] [.ptr 1 0,.ptr 0 0,.ptr 2 0] [[.str s],[.str [47]],[.sc (.int .i64 0)]] (zx (jH s)):=by
 refine foI (fun _=>[]) Tryz.func208 ?_;dsimp only[Tryz.f208]
 intro l sf
 push_cast -dsimp
 refine loop (fun x:List UInt8×Nat=>⟨[(0,.sc (.func (.yield l) #[] #[])),(1,.ptr 1 0),(2,.ptr 0 0),(3,.ptr 2 0)],[[.str x.1],[.str [47]],[.sc (.int .i64 0)]],0,x.2⟩)
  (fun x=>x.1.length<=1000000/\(∃ done,jH s=done++jH x.1/\done.length=x.2)/\∀ j,j<x.2->sf j=false) (fun x=>x.1.length) (s,0) ⟨hs,⟨[],rfl,rfl⟩,fun j hj=>by omega⟩ ?_ ?_
 ·refine j8.mk [] rfl rfl (Nat.zero_le _) rfl ?_ ?_<;>push_cast -dsimp [zb,za,CLe,ze]<;>omega
 ·rintro ⟨r,k⟩ hx
  simp only at hx ⊢
  have hr:=hx.1
  have hsf:=hx.2.2
  obtain ⟨done,hd,hdl⟩:=hx.2.1
  clear hx
  push_cast -dsimp
  refine call (zfz r) ?_
  push_cast -dsimp
  by_cases hi:Lib.indexByte r 47<0
  ·push_cast -dsimp [hi]
   have hk:(zx (jH s))[k]?=some [.str r]:=by
    rw[hd,Gm r hi];simp[←hdl]
   rw[hk]
   push_cast -dsimp
   refine ⟨by push_cast -dsimp [zb,za,CLe,ze],hsf,?_⟩
   cases hk2:sf k with
   | true=>exact .inr ⟨Nat.succ_pos k,hk2⟩
   | false =>
    refine .inl ⟨?_,fun j (hj:j<k+1)=>?_⟩
    ·rw[hd,Gm r hi];simp[hdl]
    ·rcases Nat.lt_or_ge j k with g | g
     ·exact hsf j g
     ·rw[show j=k by omega];exact hk2
  ·have hg:=Ht r
   obtain ⟨i,hii⟩:∃ i:Nat,Lib.indexByte r 47=(i:Int):=⟨(Lib.indexByte r 47).toNat,by omega⟩
   obtain ⟨hir,hsp⟩:=vI r i hii
   have hk:(zx (jH s))[k]?=some [.str (r.take i)]:=by
    rw[hd,hsp];simp[←hdl]
   rw[hii]at hi ⊢
   push_cast -dsimp [hi]
   rw[hk]
   push_cast -dsimp
   refine ⟨by omega,by omega,by push_cast -dsimp [zb,za,CLe,ze],hsf,br (fun hk2=>?_) (fun hk2=>?_)⟩
   ·push_cast -dsimp
    exact .inr ⟨Nat.succ_pos k,hk2⟩
   ·push_cast -dsimp
    refine ⟨by omega,by omega,(r.drop (i+1),k+1),⟨by simp;omega,⟨done++[r.take i],by rw[hd,hsp];simp,by simp[hdl]⟩,fun j (hj:j<k+1)=>?_⟩,by simp;omega,j8.mk [] rfl rfl (Nat.zero_le _) rfl ?_ ?_⟩
    ·rcases Nat.lt_or_ge j k with g | g
     ·exact hsf j g
     ·rw[show j=k by omega];exact hk2
    ·push_cast -dsimp [zb,za,CLe,ze]
    ·push_cast -dsimp [zb,za,CLe,ze]
theorem Nk (s:List UInt8):zaN Tryz.prog G0 169 [.str s,.str [47],.sc (.int .i64 0)] [] 0 (.clo (.func 208) [] [.ptr 1 0,.ptr 0 0,.ptr 2 0]) [[.str s],[.str [47]],[.sc (.int .i64 0)]] 0:=by
 refine foB (fun _=>[]) Tryz.func169 ?_;dsimp only[Tryz.f169]
 push_cast -dsimp
 exact ⟨[],rfl,rfl,by push_cast -dsimp [zb,za,CLe,ze],by push_cast -dsimp [zb,za,CLe,ze]⟩
theorem GW (s:List UInt8):zaN Tryz.prog G0 127 [.str s,.str [47]] [] 0 (.clo (.func 208) [] [.ptr 1 0,.ptr 0 0,.ptr 2 0]) [[.str s],[.str [47]],[.sc (.int .i64 0)]] 0:=by
 refine foB (fun _=>[]) Tryz.func127 ?_;dsimp only[Tryz.f127]
 push_cast -dsimp
 refine zfR [] [] (Nk s) rfl (by simp) (by simp) (fun i hi=>by cases hi) (by push_cast -dsimp) rfl ?_
 push_cast -dsimp
 exact ⟨[],rfl,rfl,by push_cast -dsimp [zb,za,CLe,ze],by push_cast -dsimp [zb,za,CLe,ze]⟩
end
section
open Go.RowKit
abbrev U5 (x:List UInt8):Bool:=!decide (x = [])
def cnt (xs:List (List UInt8)) (k:Nat):Nat:=((xs.take k).filter U5).length
theorem v7 (xs:List (List UInt8)) (k:Nat) (x:List UInt8) (h:xs[k]?=some x):cnt xs (k+1)=if x = [] then cnt xs k else cnt xs k+1:=by
 unfold cnt
 rw[List.take_add_one,h]
 by_cases hx:x = []<;>simp[hx]
theorem zkY (xs:List (List UInt8)) (k:Nat) (x:List UInt8) (h:xs[k]?=some x) (hx:x≠[]):(xs.filter U5)[cnt xs k]?=some x:=by
 have hk:k<xs.length:=(List.getElem?_eq_some_iff.1 h).1
 have e:xs=xs.take k++x :: xs.drop (k+1):=by
  have:=List.take_append_drop k xs
  rw[List.drop_eq_getElem_cons hk]at this
  rw[List.getElem?_eq_getElem hk]at h
  cases h;exact this.symm
 have e2:xs.filter U5=(xs.take k).filter U5++x :: (xs.drop (k+1)).filter U5:=by
  conv=>lhs;rw[e]
  rw[List.filter_append,List.filter_cons]
  simp[hx]
 rw[e2]
 unfold cnt
 simp
theorem zlh (xs:List (List UInt8)):cnt xs xs.length=(xs.filter U5).length:=by unfold cnt;rw[List.take_length]
theorem Za {xs:List (List UInt8)} {sf:Nat->Bool}:∀ k,k<=xs.length->(∀ j,j<k->(U5 (xs.getD j [])&&sf (cnt xs j))=false)->∀ j,j<cnt xs k->sf j=false
 | 0,_,_,j,hj=>by simp[cnt]at hj
 | k+1,hk,h,j,hj=>by
  have ih:=Za k (by omega) fun i hi=>h i (by omega)
  have hx:xs[k]?=some (xs.getD k []):=by rw[List.getD_eq_getElem?_getD,List.getElem?_eq_getElem (by omega)];rfl
  rw[v7 xs k _ hx]at hj
  by_cases he:xs.getD k [] = []
  ·rw[if_pos he]at hj;exact ih j hj
  ·rw[if_neg he]at hj
   rcases Nat.lt_or_ge j (cnt xs k) with g | g
   ·exact ih j g
   ·have h2:=h k (by omega)
    have h3:U5 (xs.getD k [])=true:=by simp only[U5,Bool.not_eq_true',decide_eq_false_iff_not];exact he
    rw[h3,Bool.true_and]at h2
    rw[show j=cnt xs k by omega];exact h2
theorem Va {xs:List (List UInt8)} {k:Nat} {it:List C} (h:(zx xs)[k]?=some it):∃ x,xs[k]?=some x/\it = [.str x]:=by
 rw[List.getElem?_map]at h
 cases hq:xs[k]? with
 | none=>rw[hq]at h;cases h
 | some x=>rw[hq]at h;cases h;exact ⟨x,rfl,rfl⟩
theorem VK (p:List UInt8) (hs:p.length<=1000000):Nx Tryz.prog G0 145 [] [.row [.str p]] [] (zx (zg p)):=by
 rw[Jf]
 refine foI (fun _=>[]) Tryz.func145 ?_;dsimp only[Tryz.f145]
 intro l sf
 push_cast -dsimp
 refine zfR [] [] (GW p) rfl (by simp) (by simp) (fun i hi=>by cases hi) (by push_cast -dsimp) rfl ?_
 push_cast -dsimp
 refine range (zx (jH p)) (fun k=>U5 ((jH p).getD k [])&&sf (cnt (jH p) k)) 1 (fun k=>⟨[],[[.sc (.func (.yield l) #[] #[])]],0,cnt (jH p) k⟩) (UJ p hs) (by push_cast -dsimp) (by push_cast -dsimp) (by push_cast -dsimp) (Nat.zero_le _) (by push_cast -dsimp) (fun it hit=>?_) (fun k _=>rfl) ?_ (fun k it hk hsf=>?_) (fun hsf=>?_)
 ·obtain ⟨x,_,rfl⟩:=List.mem_map.1 hit;rfl
 ·exact wk
 ·obtain ⟨x,hx,rfl⟩:=Va hk
  have hxd:(jH p).getD k []=x:=by rw[List.getD_eq_getElem?_getD,hx];rfl
  have hkl:k<(jH p).length:=(List.getElem?_eq_some_iff.1 hx).1
  have hcs:=v7 (jH p) k x hx
  have hbef:=Za (xs:=jH p) (sf:=sf) k (by omega) hsf
  by_cases he:x = []
  ·push_cast -dsimp [he]
   refine ⟨?_,j8.mk [] rfl rfl (Nat.le_refl _) ?_ (by push_cast -dsimp [zb,za,CLe,ze]) (by push_cast -dsimp [zb,za,CLe,ze])⟩
   ·rw[hxd,he];rfl
   ·simp[hcs,he,St.wt]
  ·have hget:=zkY (jH p) k x hx he
   have hg2:(zx ((jH p).filter U5))[cnt (jH p) k]?=some [.str x]:=by rw[List.getElem?_map,hget];rfl
   push_cast -dsimp [he]
   rw[hg2]
   push_cast -dsimp
   refine ⟨by push_cast -dsimp [zb,za,CLe,ze],hbef,br (fun h2=>?_) (fun h2=>?_)⟩
   ·push_cast -dsimp
    refine ⟨by rw[hxd,h2];simp[U5,he],⟨[],[[.sc (.func (.yield l) #[] #[])]],0,cnt (jH p) k+1⟩,rfl,wk,?_⟩
    push_cast -dsimp
    exact .inr ⟨Nat.succ_pos _,h2⟩
   ·push_cast -dsimp
    refine ⟨by rw[h2,Bool.and_false],j8.mk [] rfl rfl (Nat.le_refl _) ?_ (by push_cast -dsimp [zb,za,CLe,ze]) (by push_cast -dsimp [zb,za,CLe,ze])⟩
    simp[hcs,he,St.wt]
 ·have hall:=zlh (jH p)
  have hbef:=Za (xs:=jH p) (sf:=sf) (jH p).length (Nat.le_refl _) fun j hj=>hsf j (by simpa using hj)
  push_cast -dsimp
  refine .inl ⟨?_,?_⟩
  ·simp[hall]
  ·simpa using hbef
end
section
open Go.RowKit
theorem XF (p:List UInt8):Fun Tryz.prog G0 99 [.str p] (.clo (.func 145) [] [.row [.str p]]) 0:=by
 refine fon Tryz.func99 ?_;dsimp only[Tryz.f99]
 push_cast -dsimp
 exact dn
theorem kZ (xs:List (List UInt8)) (f:FuncId) (cap:List C) (hsel:C.selL (Ym 1) cap=cap) (hit:Nx Tryz.prog G0 f [] cap [] (zx xs)) (hx:xs.length<=1000001):Fun Tryz.prog G0 181 [.sc (.slice none 0 0),.clo (.func f) [] cap] (.own 0 9 1 (zx xs)) 1:=by
 refine fon Tryz.func181 ?_;dsimp only[Tryz.f181]
 push_cast -dsimp
 refine range (zx xs) (fun _=>false) 1 (fun k=>⟨[],[[.own 0 9 1 (zx (xs.take k))]],1,0⟩) hit (by push_cast -dsimp) hsel (by push_cast -dsimp) (Nat.zero_le _) (by push_cast -dsimp) (fun it h=>?_) (fun k _=>rfl) ?_ (fun k it hk hsf=>?_) (fun hsf=>?_)
 ·obtain ⟨x,_,rfl⟩:=List.mem_map.1 h;rfl
 ·exact wks [.inr (9,1)]
 ·obtain ⟨x,hx2,rfl⟩:=Va hk
  have hkl:k<xs.length:=(List.getElem?_eq_some_iff.1 hx2).1
  push_cast -dsimp
  simp only[List.length_take]
  refine ⟨by omega,by omega,j8.mk [.inl 0] rfl rfl (Nat.le_refl _) rfl (by push_cast -dsimp [zb,za,CLe,ze]) ?_⟩
  push_cast -dsimp [zb,za,CLe,ze]
  rw[List.take_add_one,hx2]
  rfl
 ·push_cast -dsimp
  refine ⟨[.inl 0],rfl,rfl,?_⟩
  push_cast -dsimp [zb,za,CLe,ze]
  simp
theorem xh (xs:List (List UInt8)) (f:FuncId) (cap:List C) (hsel:C.selL (Ym 1) cap=cap) (hfrz:C.frzL cap=cap) (hit:Nx Tryz.prog G0 f [] cap [] (zx xs)) (hx:xs.length<=1000001):Fun Tryz.prog G0 157 [.clo (.func f) [] cap] (.own 0 9 1 (zx xs)) 1:=by
 refine fon Tryz.func157 ?_;dsimp only[Tryz.f157]
 push_cast -dsimp [hfrz]
 refine call (kZ xs f cap hsel hit hx) ?_
 push_cast -dsimp
 exact ⟨[.inl 0],rfl,rfl,by push_cast -dsimp [zb,za,CLe,ze]⟩
theorem Xv (p:List UInt8) (hp:p.length<=1000000):Fun Tryz.prog G0 157 [.clo (.func 145) [] [.row [.str p]]] (.own 0 9 1 (zx (zg p))) 1:=
 xh (zg p) _ _ (by push_cast -dsimp) (by push_cast -dsimp) (VK p hp) (by have:=zS p;omega)
theorem Qk (s p:List UInt8):Fun Tryz.prog G0 98 [.str s,.str p] (.sc (.bool (Lib.hasPrefix s p))) 0:=by
 refine Fun.wrap (by kernel_rfl) fun R vs h=>?_
 obtain ⟨v1,us1,rfl,h1,h⟩:=zd.1 h
 obtain ⟨v2,us2,rfl,h2,h⟩:=zd.1 h
 rw[zh]at h
 subst h
 rw[zE]at h1 h2
 subst h1 h2
 refine (Tryz.strings_HasPrefix ⟨s.toArray⟩ ⟨p.toArray⟩ R.w).mono ?_
 rintro e w' ⟨rfl,rfl⟩
 exact ⟨_,rfl,Below.refl _ _,fun R' _=>zj.2 (by simp)⟩
theorem HX (s p:List UInt8) (hs:s.length<=1000000):Fun Tryz.prog G0 100 [.str s,.str p] (.sc (.bool (Lib.hasSuffix s p))) 0:=by
 refine Fun.wrap (by kernel_rfl) fun R vs h=>?_
 obtain ⟨v1,us1,rfl,h1,h⟩:=zd.1 h
 obtain ⟨v2,us2,rfl,h2,h⟩:=zd.1 h
 rw[zh]at h
 subst h
 rw[zE]at h1 h2
 subst h1 h2
 refine (Tryz.strings_HasSuffix ⟨s.toArray⟩ ⟨p.toArray⟩ R.w (by simp[ByteArray.size];omega)).mono ?_
 rintro e w' ⟨rfl,rfl⟩
 exact ⟨_,rfl,Below.refl _ _,fun R' _=>zj.2 (by simp)⟩
theorem Vl (xs:List (List UInt8)) (sep:List UInt8) (hx:xs.length<=1000001) (hl:(Lib.join xs sep).length<=100000000):Fun Tryz.prog G0 130 [.sl 1 (zx xs),.str sep] (.str (Lib.join xs sep)) 0:=by
 refine Fun.wrap (by kernel_rfl) fun R vs h=>?_
 obtain ⟨v1,us1,rfl,h1,h⟩:=zd.1 h
 obtain ⟨v2,us2,rfl,h2,h⟩:=zd.1 h
 rw[zh]at h
 subst h
 rw[zE]at h2
 subst h2
 obtain ⟨a,cap,rfl,hc1,hc2,hr⟩:=kw.1 h1
 have hlen:(zx xs).length=xs.length:=by simp
 have hmap:(xs.map fun x=>ByteArray.mk x.toArray).map (·.data.toList)=xs:=by
  rw[List.map_map]
  conv=>rhs;rw[←List.map_id xs]
  exact List.map_congr_left fun x _=>by simp
 rcases hr with hr | ⟨b,o,rfl,hr⟩
 ·have:xs = []:=by simpa using hr
  subst this
  refine (Tryz.strings_Join_none a cap ⟨sep.toArray⟩ R.w).mono ?_
  rintro e w' ⟨rfl,rfl⟩
  exact ⟨_,rfl,Below.refl _ _,fun R' _=>zE.2 (by simp[Lib.join])⟩
 ·by_cases hx0:xs = []
  ·subst hx0
   refine (Tryz.strings_Join_none _ cap ⟨sep.toArray⟩ R.w).mono ?_
   rintro e w' ⟨rfl,rfl⟩
   exact ⟨_,rfl,Below.refl _ _,fun R' _=>zE.2 (by simp[Lib.join])⟩
  ·have hcells:∀ (j:Nat) x,(xs.map fun x=>ByteArray.mk x.toArray)[j]?=some x->R.w.cell? ⟨b,o+j,none⟩=some (.string x):=fun j x hj=>by
    rw[List.getElem?_map]at hj
    cases hq:xs[j]? with
    | none=>rw[hq]at hj;cases hj
    | some y =>
     rw[hq]at hj;cases hj
     obtain ⟨_,g⟩:=qK hr j [.str y] (by rw[List.getElem?_map,hq];rfl)
     obtain ⟨⟨v,g1,_,g2,_⟩,_⟩:=zR.1 g
     rw[zE]at g2
     subst g2
     simpa using g1
   have hb:b<R.w.heap.size:=by
    cases xs with
    | nil=>exact absurd rfl hx0
    | cons x r =>
     exact yl (hcells 0 ⟨x.toArray⟩ rfl)
   have hj:=Tryz.strings_Join b o cap (xs.map fun x=>ByteArray.mk x.toArray) ⟨sep.toArray⟩ R.w hcells hb (by simp;omega) (by simpa using hc1) (by rw[hmap];simp;omega)
   rw[hmap]at hj
   simp only[List.length_map]at hj
   rw[hlen]
   refine hj.mono ?_
   rintro e w' ⟨rfl,hbl⟩
   exact ⟨_,rfl,hbl,fun R' _=>zE.2 (by simp)⟩
end
section
open Go.RowKit
def UO (p:List UInt8):C:=.agg [qe (Lib.hasPrefix p [47]),.own 0 9 1 (zx (zg p)),qe (!decide (zg p = [])&&Lib.hasSuffix p [47])]
theorem Z8 (p:List UInt8) (hp:p.length<=1000000):Fun Tryz.prog G0 107 [.str p] (UO p) 1:=by
 refine fon Tryz.func107 ?_;dsimp only[Tryz.f107]
 push_cast -dsimp
 refine call (XF p) ?_
 push_cast -dsimp
 refine call (Xv p hp) ?_
 push_cast -dsimp
 refine call (Qk p [47]) ?_
 push_cast -dsimp
 by_cases h:zg p = []
 ·push_cast -dsimp [h]
  exact ⟨[.inl 0],rfl,rfl,by simp only[UO];push_cast -dsimp [zb,za,CLe,ze,h];simp⟩
 ·have h':0<(zg p).length:=List.length_pos_iff.2 h
  push_cast -dsimp [h']
  refine call (HX p [47] hp) ?_
  push_cast -dsimp
  exact ⟨[.inl 0],rfl,rfl,by simp only[UO];push_cast -dsimp [zb,za,CLe,ze,h]⟩
def uU (a:Bool) (xs:List (List UInt8)) (s:Bool):C:=.agg [qe a,.sl 1 (zx xs),qe s]
def put (a:Bool) (xs:List (List UInt8)) (s:Bool):List UInt8:=(if a then [47] else [])++Lib.join xs [47]++(if s&&!decide (xs = []) then [47] else [])
theorem zk2 (a:Bool) (xs:List (List UInt8)) (s:Bool) (hx:xs.length<=1000001) (hl:(Lib.join xs [47]).length<=100000000):Fun Tryz.prog G0 123 [uU a xs s] (.str (put a xs s)) 0:=by
 unfold uU
 refine fon Tryz.func123 ?_;dsimp only[Tryz.f123]
 push_cast -dsimp
 refine call (Vl xs [47] hx hl) ?_
 push_cast -dsimp
 by_cases h:xs = []
 ·subst h
  cases a<;>cases s<;>push_cast -dsimp
  ·exact ⟨[],rfl,rfl,by push_cast -dsimp [zb,za,CLe,ze];simp[put]⟩
  ·exact ⟨[],rfl,rfl,by push_cast -dsimp [zb,za,CLe,ze];simp[put]⟩
  ·exact ⟨by omega,[],rfl,rfl,by push_cast -dsimp [zb,za,CLe,ze];simp[put]⟩
  ·exact ⟨by omega,[],rfl,rfl,by push_cast -dsimp [zb,za,CLe,ze];simp[put]⟩
 ·have h':0<xs.length:=List.length_pos_iff.2 h
  cases a<;>cases s<;>push_cast -dsimp [h']
  ·exact ⟨[],rfl,rfl,by push_cast -dsimp [zb,za,CLe,ze];simp[put]⟩
  ·exact ⟨by omega,[],rfl,rfl,by push_cast -dsimp [zb,za,CLe,ze];simp[put,h]⟩
  ·exact ⟨by omega,[],rfl,rfl,by push_cast -dsimp [zb,za,CLe,ze];simp[put]⟩
  ·exact ⟨by omega,by omega,[],rfl,rfl,by push_cast -dsimp [zb,za,CLe,ze];simp[put,h]⟩
def qr (xs:List (List UInt8)):List UInt8:=if xs = [] then [47] else 47 :: Lib.join xs [47]
theorem Xt (xs:List (List UInt8)) (hx:xs.length<=1000001) (hl:(Lib.join xs [47]).length<=100000000):Fun Tryz.prog G0 109 [.sl 1 (zx xs)] (.str (qr xs)) 0:=by
 refine fon Tryz.func109 ?_;dsimp only[Tryz.f109]
 push_cast -dsimp
 by_cases h:xs = []
 ·push_cast -dsimp [h]
  exact ⟨[],rfl,rfl,by simp only[qr,h];push_cast -dsimp [zb,za,CLe,ze]⟩
 ·have h':¬((xs.length:Int)=0):=by have:=List.length_pos_iff.2 h;omega
  push_cast -dsimp [h']
  refine call ((Vl xs [47] hx hl)) ?_
  push_cast -dsimp
  exact ⟨by omega,[],rfl,rfl,by simp only[qr,if_neg h];push_cast -dsimp [zb,za,CLe,ze]⟩
def J0 (p:List UInt8):Bool:=(zg p).any (fun x=>decide (255<x.length))||decide (4095<p.length)
theorem Hb (p:List UInt8) (hp:p.length<=1000000):Fun Tryz.prog G0 72 [.str p] (qe (J0 p)) 0:=by
 refine fon Tryz.func72 ?_;dsimp only[Tryz.f72]
 push_cast -dsimp
 refine call (XF p) ?_
 push_cast -dsimp
 refine range (zx (zg p)) (fun k=>decide (255<((zg p).getD k []).length)) 1 (fun k=>⟨[],[[.sc (.bool false)]],0,0⟩) (VK p hp) (by push_cast -dsimp) (by push_cast -dsimp) (by push_cast -dsimp) (Nat.zero_le _) (by push_cast -dsimp) (fun it h=>?_) (fun k _=>rfl) ?_ (fun k it hk hsf=>?_) (fun hsf=>?_)
 ·obtain ⟨x,_,rfl⟩:=List.mem_map.1 h;rfl
 ·exact wk
 ·obtain ⟨x,hx,rfl⟩:=Va hk
  have hxd:(zg p).getD k []=x:=by rw[List.getD_eq_getElem?_getD,hx];rfl
  push_cast -dsimp
  rw[hxd]
  refine br (fun h=>?_) (fun h=>?_)
  ·have h':255<x.length:=by have:=of_decide_eq_true h;omega
   push_cast -dsimp
   refine ⟨by simpa using h',⟨[],[[.sc (.bool true)]],0,0⟩,rfl,wk,?_⟩
   push_cast -dsimp
   refine ⟨[],rfl,rfl,?_⟩
   push_cast -dsimp [zb,za,CLe,ze]
   have:(zg p).any (fun x=>decide (255<x.length))=true:=List.any_eq_true.2 ⟨x,List.mem_of_getElem? hx,by simpa using h'⟩
   simp[J0,this]
  ·have h':¬255<x.length:=by have:=of_decide_eq_false h;omega
   push_cast -dsimp
   exact ⟨by simpa using h',wk⟩
 ·push_cast -dsimp
  refine ⟨[],rfl,rfl,?_⟩
  push_cast -dsimp [zb,za,CLe,ze]
  have:(zg p).any (fun x=>decide (255<x.length))=false:=List.any_eq_false.2 fun x hx=>by
   obtain ⟨k,hk,rfl⟩:=List.getElem_of_mem hx
   have:=hsf k (by simpa using hk)
   rw[List.getD_eq_getElem?_getD,List.getElem?_eq_getElem hk]at this
   simpa using this
  simp[J0,this]
  omega
def kp (p q:List UInt8):Bool:=decide (p=q)||decide (q = [47])||Lib.hasPrefix p (q++[47])
theorem ko (p q:List UInt8) (hq:q.length<=1000000):Fun Tryz.prog G0 185 [.str p,.str q] (qe (kp p q)) 0:=by
 refine fon Tryz.func185 ?_;dsimp only[Tryz.f185]
 push_cast -dsimp
 by_cases h1:p=q
 ·push_cast -dsimp [h1]
  exact ⟨[],rfl,rfl,by push_cast -dsimp [zb,za,CLe,ze];simp[kp]⟩
 ·by_cases h2:q = [47]
  ·subst h2
   push_cast -dsimp [h1]
   exact ⟨[],rfl,rfl,by push_cast -dsimp [zb,za,CLe,ze];simp[kp]⟩
  ·push_cast -dsimp [h1,h2]
   refine ⟨by omega,?_⟩
   refine call (Qk p (q++[47])) ?_
   push_cast -dsimp
   exact ⟨[],rfl,rfl,by push_cast -dsimp [zb,za,CLe,ze];simp[kp,h1,h2]⟩
end
section
open Go.RowKit
theorem Qq (l:List UInt8) (c:UInt8):Fun Tryz.prog G0 71 [.str l,.sc (.int .u8 (c.toNat:Int))] (.sc (.int .i64 (Lib.indexByte l c))) 0:=by
 refine Fun.wrap (by kernel_rfl) fun R vs h=>?_
 obtain ⟨v1,us1,rfl,h1,h⟩:=zd.1 h
 obtain ⟨v2,us2,rfl,h2,h⟩:=zd.1 h
 rw[zh]at h
 subst h
 rw[zE]at h1
 rw[zj]at h2
 subst h1 h2
 refine (Tryz.strings_IndexByte ⟨l.toArray⟩ (c.toNat:Int) R.w).mono ?_
 rintro e w' ⟨rfl,rfl⟩
 exact ⟨_,rfl,Below.refl _ _,fun R' _=>zj.2 (by simp)⟩
theorem YN (r:Int):Fun Tryz.prog G0 243 [.sc (.int .i32 r)] (.sc (.bool (Lib.validRune r))) 0:=by
 refine Fun.wrap (by kernel_rfl) fun R vs h=>?_
 obtain ⟨v1,us1,rfl,h1,h⟩:=zd.1 h
 rw[zh]at h
 subst h
 rw[zj]at h1
 subst h1
 refine (Tryz.utf8_ValidRune r R.w).mono ?_
 rintro e w' ⟨rfl,rfl⟩
 exact ⟨_,rfl,Below.refl _ _,fun R' _=>zj.2 rfl⟩
theorem zfY (r:Int) (hv:Utf8.valid r=true) (h128:128<=r):∃ l c,(Utf8.encode r).data.toList=l++[c]/\1<=l.length/\l.length<=3/\128<=c.toNat:=by
 obtain ⟨h1,h2,h3⟩:=encode_facts r hv h128
 generalize Utf8.encode r=bs at h1 h2 h3 ⊢
 have hs:bs.data.toList.length=bs.size:=Array.length_toList
 have h4:=h3 (by omega)
 have h5:bs.data.toList[bs.size-1]?=some (bs[bs.size-1]'(by omega)):=Lib.data_getElem? bs _ (by omega)
 generalize bs[bs.size-1]'(by omega)=c at h4 h5
 generalize bs.data.toList=l at hs h5
 refine ⟨l.take (bs.size-1),c,?_,by simp;omega,by simp;omega,h4⟩
 have:=List.take_append_drop (bs.size-1) l
 have hd:l.drop (bs.size-1) = [c]:=by
  have hlt:bs.size-1<l.length:=by omega
  rw[List.drop_eq_getElem_cons hlt]
  rw[List.getElem?_eq_getElem hlt]at h5
  cases h5
  rw[List.drop_eq_nil_of_le (by omega)]
 rw[hd]at this
 exact this.symm
theorem ND (r:Int) (h1:128<=r) (hv:Utf8.valid r=true) (h2:r≠65533):Fun Tryz.prog G0 204 [.str [47,0],.sc (.int .i32 r)] (.sc (.int .i64 (-1))) 0:=by
 have hlv:Lib.validRune r=true:=by
  have:=validRune_eq r
  rw[hv]at this
  exact this.symm
 obtain ⟨l,c,he,hl1,hl3,hc⟩:=zfY r hv h1
 have ha:0<=r:=by omega
 have hb:¬r<128:=by omega
 have hc0:¬((0:Int)=(c.toNat:Int)):=by omega
 have hix:=Qq [] c
 match l,hl1,hl3 with
 | [x],_,_ =>
  refine fon Tryz.func204 ?_;dsimp only[Tryz.f204]
  push_cast -dsimp [ha,hb,h2]
  refine call (YN r) ?_
  push_cast -dsimp [hlv,he]
  refine loop (fun k:Nat=>⟨[(0,.str [47,0]),(1,.sc (.int .i32 r)),(7,.str [x,c]),(8,.sc (.int .i64 1)),(9,.sc (.int .i64 1)),(10,.sc (.int .i64 0))],[],0,0⟩) (fun k=>True) (fun k=>0) 0 trivial ?_ ?_
  ·exact wk
  ·intro k _
   push_cast -dsimp [hc0]
   refine zaf hix ?_
   have hi0:Lib.indexByte [] c = -1:=rfl
   push_cast -dsimp [hi0]
   exact dn
 | [x,y],_,_ =>
  refine fon Tryz.func204 ?_;dsimp only[Tryz.f204]
  push_cast -dsimp [ha,hb,h2]
  refine call (YN r) ?_
  push_cast -dsimp [hlv,he]
  refine loop (fun k:Nat=>⟨[(0,.str [47,0]),(9,.sc (.int .i64 2))],[],0,0⟩) (fun k=>True) (fun k=>0) 0 trivial ?_ ?_
  ·exact wk
  ·intro k _
   push_cast -dsimp
   exact dn
 | [x,y,z],_,_ =>
  refine fon Tryz.func204 ?_;dsimp only[Tryz.f204]
  push_cast -dsimp [ha,hb,h2]
  refine call (YN r) ?_
  push_cast -dsimp [hlv,he]
  refine loop (fun k:Nat=>⟨[(0,.str [47,0]),(9,.sc (.int .i64 3))],[],0,0⟩) (fun k=>True) (fun k=>0) 0 trivial ?_ ?_
  ·exact wk
  ·intro k _
   push_cast -dsimp
   exact dn
theorem Ha (w:World):Calls Tryz.prog 204 #[.string ⟨#[47,0]⟩,.int .i32 65533] w fun e w'=>e = .returned (.int .i64 (-1))/\Below w.heap.size w w':=by
 go_enter Tryz.func204,Tryz.ntmps204
 go_wp2
 go_loopg [5,6] 2 (fun g _ _ wx=>∃ i:Nat,i+g=2/\wx=w.iter ⟨#[47,0]⟩ i)
 case atStart=>exact ⟨0,by omega,rfl⟩
 case round =>
  obtain ⟨i,hig,rfl⟩:=hrel
  cases gk with
  | zero =>
   obtain rfl:i=2:=by omega
   have hnx:=fun ty=>run_next_end (P:=Tryz.prog) w ⟨#[47,0]⟩ 2 ty (by decide)
   go_wp2
   go_ret
   exact ⟨rfl,(Below.refl _ _).alloc (Nat.le_refl _) _⟩
  | succ g =>
   have hi:i<(ByteArray.mk #[47,0]).size:=by show i<2;omega
   have hx128:((ByteArray.mk #[47,0])[i]'hi).toNat<128:=by
    have:i=0∨i=1:=by omega
    rcases this with rfl | rfl
    ·exact (by decide:(47:UInt8).toNat<128)
    ·exact (by decide:(0:UInt8).toNat<128)
   have hnx:=fun ty=>run_next_ascii (P:=Tryz.prog) w ⟨#[47,0]⟩ i ty hi hx128
   have hne:((((ByteArray.mk #[47,0])[i]'hi).toNat:Int)==65533)=false:=by
    rw[beq_eq_false_iff_ne];omega
   go_wp2
   go_roundg g
   case measure=>omega
   case rel=>exact ⟨i+1,by omega,rfl⟩
end
section
open Go.RowKit Go.Shelf
def bad (b:UInt8):Bool:=decide (b=47)||decide (b=0)
theorem Zs (b:UInt8):[47,0].contains b=bad b:=by simp[bad,List.contains_iff_mem,Bool.eq_iff_iff]
theorem xM {P:Program} {W:World} {b:Nat} {s:ByteArray} {pos:Nat} (hb:W.heap[b]?=some (.stringIter s pos)) (h:pos<s.size) (ty:TypeId) :
  (Instr.next (.pointer (some ⟨b,0,none⟩)) true ty).run P W = .ok (.tuple #[.bool true,.int .i64 pos,.int .i32 (Utf8.decode s pos).1]) (W.putObj b (.stringIter s (pos+(Utf8.decode s pos).2))):=by
 simp only[Instr.next,getObj,setObj,Sem.run_bind,Sem.run,hb,Result.andThen,h,if_true]
 simp[goInt,Sem.run,hb,World.putObj]
theorem Ux {P:Program} {W:World} {b:Nat} {s:ByteArray} {pos:Nat} (hb:W.heap[b]?=some (.stringIter s pos)) (h:¬pos<s.size) (ty:TypeId) :
  (Instr.next (.pointer (some ⟨b,0,none⟩)) true ty).run P W = .ok (.tuple #[.bool false]) W:=by
 simp[Instr.next,getObj,Sem.run,hb,h]
theorem get!_eq (s:ByteArray) (k:Nat) (hk:k<s.size):s.get! k=s[k]'hk:=by
 simp[ByteArray.get!,getElem!_pos,hk];rfl
theorem zii {c:Nat} (h:c<55296∨(57344<=c/\c<=1114111)):Utf8.valid (c:Int)=true:=by
 unfold Utf8.valid
 rcases h with h | h
 ·have h1:((c:Int)<55296):=by omega
  simp;omega
 ·simp;omega
theorem MT (s:ByteArray) (i:Nat) (h:i<s.size):(((s[i]'h).toNat<128/\Utf8.decode s i=((s[i]'h).toNat,1))∨(128<=(Utf8.decode s i).1/\Utf8.valid ((Utf8.decode s i).1:Int)=true/\1<=(Utf8.decode s i).2/\i+(Utf8.decode s i).2<=s.size/\∀ j (hj:j<s.size),i<=j->j<i+(Utf8.decode s i).2->128<=(s[j]'hj).toNat)):=by
 by_cases ha:(s[i]'h).toNat<128
 ·exact .inl ⟨ha,decode_ascii s i h ha⟩
 ·refine .inr ?_
  have hb0:¬(s.get! (i+0)).toNat<128:=by rw[Nat.add_zero,get!_eq s i h];exact ha
  have hby:∀ n,(∀ k,k<n->128<=(s.get! (i+k)).toNat)->∀ j (hj:j<s.size),i<=j->j<i+n->128<=(s[j]'hj).toNat:=fun n hn j hj h1 h2=>by
   have:=hn (j-i) (by omega)
   rw[show i+(j-i)=j by omega,get!_eq s j hj]at this
   exact this
  have hone:128<=65533/\Utf8.valid ((65533:Nat):Int)=true/\1<=1/\i+1<=s.size/\∀ j (hj:j<s.size),i<=j->j<i+1->128<=(s[j]'hj).toNat:=
   ⟨by omega,by decide,by omega,by omega,hby 1 fun k hk=>by rw[show k=0 by omega];omega⟩
  unfold Utf8.decode
  simp only[if_neg hb0,Utf8.runeError]
  obtain ⟨b0,hg0⟩:∃ b,(s.get! (i+0)).toNat=b:=⟨_,rfl⟩
  obtain ⟨b1,hg1⟩:∃ b,(s.get! (i+1)).toNat=b:=⟨_,rfl⟩
  obtain ⟨b2,hg2⟩:∃ b,(s.get! (i+2)).toNat=b:=⟨_,rfl⟩
  obtain ⟨b3,hg3⟩:∃ b,(s.get! (i+3)).toNat=b:=⟨_,rfl⟩
  rw[hg0]at hb0
  simp only[hg0,hg1,hg2,hg3]
  have hlt:b0<256:=by rw[←hg0];exact (s.get! (i+0)).toNat_lt
  split
  ·rename_i hc
   simp only[Bool.and_eq_true,beq_iff_eq,decide_eq_true_eq]at hc
   split
   ·rename_i hv
    refine ⟨by show 128<=_;omega,zii (.inl (by omega)),by show 1<=2;omega,by show i+2<=_;omega,hby 2 fun k hk=>?_⟩
    rcases (show k=0∨k=1 by omega) with rfl | rfl
    ·rw[hg0];omega
    ·rw[hg1];omega
   ·exact hone
  ·split
   ·rename_i hc
    simp only[Bool.and_eq_true,beq_iff_eq,decide_eq_true_eq]at hc
    split
    ·rename_i hv
     simp only[Bool.and_eq_true,decide_eq_true_eq]at hv
     refine ⟨by show 128<=_;omega,hv.2,by show 1<=3;omega,by show i+3<=_;omega,hby 3 fun k hk=>?_⟩
     rcases (show k=0∨k=1∨k=2 by omega) with rfl | rfl | rfl
     ·rw[hg0];omega
     ·rw[hg1];omega
     ·rw[hg2];omega
    ·exact hone
   ·split
    ·rename_i hc
     simp only[Bool.and_eq_true,beq_iff_eq,decide_eq_true_eq]at hc
     split
     ·rename_i hv
      simp only[Bool.and_eq_true,decide_eq_true_eq]at hv
      refine ⟨by show 128<=_;omega,hv.2,by show 1<=4;omega,by show i+4<=_;omega,hby 4 fun k hk=>?_⟩
      rcases (show k=0∨k=1∨k=2∨k=3 by omega) with rfl | rfl | rfl | rfl
      ·rw[hg0];omega
      ·rw[hg1];omega
      ·rw[hg2];omega
      ·rw[hg3];omega
     ·exact hone
    ·exact hone
theorem HG (r:Int) (h1:128<=r) (hv:Utf8.valid r=true) (w:World):Calls Tryz.prog 204 #[.string ⟨#[47,0]⟩,.int .i32 r] w fun e w'=>e = .returned (.int .i64 (-1))/\Below w.heap.size w w':=by
 by_cases h2:r=65533
 ·subst h2;exact Ha w
 ·refine ((ND r h1 hv h2).2 ⟨w,fun _ _=>False,fun _=>False⟩ [.string ⟨#[47,0]⟩,.int .i32 r] (fun g cs h=>by cases h) ?_).mono ?_
  ·exact zd.2 ⟨_,_,rfl,zE.2 rfl,zd.2 ⟨_,_,rfl,zj.2 rfl,zh.2 rfl⟩⟩
  ·rintro e w' ⟨v,R',L',rfl,rfl,hst,hr⟩
   rw[zj]at hr
   exact ⟨by rw[hr],hst.below⟩
theorem zd5 (w:World) (s:ByteArray):(w.iter s 0).heap[w.heap.size]?=some (.stringIter s 0):=World.iter_heap w s 0
theorem yo {w W:World} {s:ByteArray} {p:Nat} (hb:Below w.heap.size w W) (hs:W.heap[w.heap.size]?=some (.stringIter s p)) (p':Nat):Below w.heap.size w (W.putObj w.heap.size (.stringIter s p'))/\(W.putObj w.heap.size (.stringIter s p')).heap[w.heap.size]?=some (.stringIter s p'):=
 ⟨⟨hb.os,hb.tape,hb.output,by simpa using hb.size,fun k hk=>(World.putObj_heap_other (by omega)).trans (hb.block k hk)⟩,World.putObj_heap_same (zL hs)⟩
theorem zas {w W W':World} {s:ByteArray} {p:Nat} (hb:Below w.heap.size w W) (hs:W.heap[w.heap.size]?=some (.stringIter s p)) (h:Below W.heap.size W W'):Below w.heap.size w W'/\W'.heap[w.heap.size]?=some (.stringIter s p):=
 ⟨hb.trans (h.mono hb.size),(h.block _ (zL hs)).trans hs⟩
theorem UI (s:ByteArray) (w:World) (h8:s.size<=8):Calls Tryz.prog 167 #[.string s,.string ⟨#[47,0]⟩] w fun e w'=>e = .returned (.int .i64 (Lib.indexAny s.data.toList [47,0]))/\Below w.heap.size w w':=by
 have h8z:decide ((8:Int)<(s.size:Int))=false:=decide_eq_false (by omega)
 have hsi:=zd5 w s
 have hbi:Below w.heap.size w (w.iter s 0):=(Below.refl _ _).alloc (Nat.le_refl _) _
 have HI:Aside ((w.iter s 0).heap[w.heap.size]?=some (.stringIter s 0)/\Below w.heap.size w (w.iter s 0)):=⟨hsi,hbi⟩
 clear hsi hbi
 go_enter Tryz.func167,Tryz.ntmps167
 go_wp2_with (go_at_call 205;refine (Tryz.strings_shouldUseASCIISet _ _).mono ?_;rintro e w' ⟨rfl,hw⟩;rw[hw,h8z])
 go_loopg [9,10] s.size (fun g _ _ wx=>∃ i:Nat,i+g=s.size/\wx.heap[w.heap.size]?=some (.stringIter s i)/\Below w.heap.size w wx/\Lib.NoAny s.data.toList [47,0] i)
 case atStart=>exact ⟨0,by omega,HI.out.1,HI.out.2,Lib.NoAny.zero _ _⟩
 case round =>
  obtain ⟨i,hig,hs,hbl,hno⟩:=hrel
  have HN:Aside (Lib.NoAny s.data.toList [47,0] i/\wr.heap[w.heap.size]?=some (.stringIter s i)/\Below w.heap.size w wr):=⟨hno,hs,hbl⟩
  cases gk with
  | zero =>
   obtain rfl:i=s.size:=by omega
   have hnx:=fun ty=>Ux (P:=Tryz.prog) hs (by omega) ty
   clear hno hs hbl
   go_wp2
   go_ret
   exact ⟨by rw[Lib.indexAny_none (by rw[←Lib.size_eq];exact HN.out.1)];rfl,HN.out.2.2⟩
  | succ g =>
   have hi:i<s.size:=by omega
   have hnx:=fun ty=>xM (P:=Tryz.prog) hs hi ty
   have hpi:=yo hbl hs (i+(Utf8.decode s i).2)
   have HP:Aside (Below w.heap.size w (wr.putObj w.heap.size (.stringIter s (i+(Utf8.decode s i).2)))/\(wr.putObj w.heap.size (.stringIter s (i+(Utf8.decode s i).2))).heap[w.heap.size]?=some (.stringIter s (i+(Utf8.decode s i).2))):=hpi
   clear hno hs hbl hpi
   obtain ⟨x,hx⟩:∃ x:UInt8,s[i]'hi=x:=⟨_,rfl⟩
   have hxl:s.data.toList[i]?=some x:=by rw[←hx];exact Lib.data_getElem? s i hi
   rcases MT s i hi with ⟨hd1,hd2⟩ | ⟨hd1,hd2,hd3,hd4,hd5⟩
   ·rw[hx]at hd1 hd2
    rw[hd2]at hnx HP
    have Hx:Aside (s.data.toList[i]?=some x):=hxl
    clear hxl hx hd2
    have hcon:=Lib.contains_iff_indexByte [47,0] x
    have hback:((x.toNat:Int)).toNat.toUInt8=x:=by simp
    cases hin:([47,0]:List UInt8).contains x
    ·rw[hin]at hcon
     have hlt:¬((0:Int)<=Lib.indexByte [47,0] x):=of_decide_eq_false hcon.symm
     clear hcon
     go_wp2_with (go_at_call 204;refine (Tryz.strings_IndexRune_ascii _ _ _ (by omega) (by omega)).mono ?_;rintro e w' ⟨rfl,hw⟩;rw[hw,hback])
     go_roundg g
     case measure=>omega
     case rel=>exact ⟨i+1,by omega,HP.out.2,HP.out.1,HN.out.1.succ Hx.out hin⟩
    ·rw[hin]at hcon
     have hge:(0:Int)<=Lib.indexByte [47,0] x:=of_decide_eq_true hcon.symm
     clear hcon
     go_wp2_with (go_at_call 204;refine (Tryz.strings_IndexRune_ascii _ _ _ (by omega) (by omega)).mono ?_;rintro e w' ⟨rfl,hw⟩;rw[hw,hback])
     go_ret
     exact ⟨by rw[Lib.indexAny_hit HN.out.1 Hx.out hin];rfl,HP.out.1⟩
   ·obtain ⟨c,hc⟩:∃ c,(Utf8.decode s i).1=c:=⟨_,rfl⟩
    obtain ⟨n,hn⟩:∃ n,(Utf8.decode s i).2=n:=⟨_,rfl⟩
    rw[hc,hn]at hnx
    rw[hn]at HP hd3 hd4 hd5
    rw[hc]at hd1 hd2
    have H5:Aside (∀ j (hj:j<s.size),i<=j->j<i+n->128<=(s[j]'hj).toNat):=hd5
    have H2:Aside (Utf8.valid (c:Int)=true):=hd2
    clear hd5 hd2 hxl hx hc hn
    go_wp2_with (go_at_call 204;refine (HG _ (by omega) H2.out _).mono ?_;rintro e w' ⟨rfl,hw⟩;have HW:=zas HP.out.1 HP.out.2 hw)
    go_roundg (s.size-(i+n))
    case measure=>omega
    case rel =>
     refine ⟨i+n,by omega,HW.2,HW.1,fun j b hj hb=>?_⟩
     rcases Nat.lt_or_ge j i with g | g
     ·exact HN.out.1 j b g hb
     ·have hjs:j<s.size:=by omega
      have:=H5.out j hjs g hj
      have hb2:=Lib.data_getElem? s j hjs
      rw[hb]at hb2
      have hb3:b=s[j]'hjs:=Option.some.inj hb2
      rw[Zs,hb3]
      have h47:s[j]'hjs≠47:=fun e=>by rw[e]at this;revert this;decide
      have h00:s[j]'hjs≠0:=fun e=>by rw[e]at this;revert this;decide
      simp[bad,h47,h00]
end
section
open Go.RowKit Go.Shelf
theorem kD (w:World):(zeroValue 234).run Tryz.prog w = .ok (.agg (Array.replicate 256 (.bool false))) w:=by kernel_rfl
theorem ZI:∀ l:List UInt8,decide (0<=Lib.indexAny l [47,0])=l.any bad
 | []=>rfl
 | b :: l=>by
  have ih:=ZI l
  have hg:=Lib.indexAny_ge [47,0] l
  unfold Lib.indexAny
  rw[Zs,List.any_cons]
  cases hb:bad b with
  | true=>simp
  | false =>
   simp only[Bool.false_eq_true,if_false,Bool.false_or,←ih]
   split
   ·rename_i h
    have:=beq_iff_eq.1 h
    first | rw[this];done | (rw[this];rfl)
   ·rename_i h
    have h':Lib.indexAny l [47,0]≠-1:=by simpa using h
    rw[decide_eq_decide];omega
theorem NH (l:List UInt8) (hl:l.length<=1000000):Fun Tryz.prog G0 167 [.str l,.str [47,0]] (.sc (.int .i64 (Lib.indexAny l [47,0]))) 0:=by
 refine Fun.wrap (by kernel_rfl) fun R vs h=>?_
 obtain ⟨v1,us1,rfl,h1,h⟩:=zd.1 h
 obtain ⟨v2,us2,rfl,h2,h⟩:=zd.1 h
 rw[zh]at h
 subst h
 rw[zE]at h1 h2
 subst h1 h2
 have hsz:(ByteArray.mk l.toArray).size=l.length:=by simp[ByteArray.size]
 by_cases h8:l.length<=8
 ·refine (UI ⟨l.toArray⟩ R.w (by omega)).mono ?_
  rintro e w' ⟨rfl,hb⟩
  exact ⟨_,rfl,hb,fun R' _=>zj.2 (by simp)⟩
 ·refine (Tryz.strings_IndexAny_long kD ⟨l.toArray⟩ ⟨#[47,0]⟩ R.w (by decide) (by omega) (by omega) (by decide) ?_).mono ?_
  ·intro j b hb
   have:b=47∨b=0:=by
    have:=List.mem_of_getElem? hb
    simpa using this
   rcases this with rfl | rfl<;>decide
  ·rintro e w' ⟨rfl,rfl⟩
   exact ⟨_,rfl,((Below.refl _ _).alloc (Nat.le_refl _) _).alloc (by simp) _,fun R' _=>zj.2 (by simp)⟩
theorem Jz (l:List UInt8) (hl:l.length<=1000000):Fun Tryz.prog G0 120 [.str l,.str [47,0]] (qe (l.any bad)) 0:=by
 have h:=ZI l
 refine fon Tryz.func120 ?_;dsimp only[Tryz.f120]
 push_cast -dsimp
 refine call (NH l hl) ?_
 push_cast -dsimp
 exact dn (by push_cast -dsimp [zb,za,CLe,ze,h])
def may (l:List UInt8):Bool:=!decide (l = [])&&decide (l.length<=255)&&!l.any bad&&!decide (l = [46])&&!decide (l = [46,46])
theorem x4 (l:List UInt8) (hl:l.length<=1000000):Fun Tryz.prog G0 70 [.str l] (qe (may l)) 0:=by
 by_cases h1:l = []
 ·refine fon Tryz.func70 ?_;dsimp only[Tryz.f70]
  push_cast -dsimp [h1]
  exact ⟨[],rfl,rfl,by push_cast -dsimp [zb,za,CLe,ze];simp[may]⟩
 ·by_cases h2:l.length<=255
  ·have h2':(l.length:Int)<=255:=by omega
   cases h3:l.any bad with
   | true =>
    refine fon Tryz.func70 ?_;dsimp only[Tryz.f70]
    push_cast -dsimp [h1,h2']
    refine call (Jz l hl) ?_
    push_cast -dsimp [h3]
    exact ⟨[],rfl,rfl,by push_cast -dsimp [zb,za,CLe,ze];simp[may,h3]⟩
   | false =>
    by_cases h4:l = [46]
    ·subst h4
     refine fon Tryz.func70 ?_;dsimp only[Tryz.f70]
     push_cast -dsimp [h2']
     refine call (Jz _ hl) ?_
     push_cast -dsimp [h3]
     exact ⟨[],rfl,rfl,by push_cast -dsimp [zb,za,CLe,ze];simp[may]⟩
    ·refine fon Tryz.func70 ?_;dsimp only[Tryz.f70]
     push_cast -dsimp [h1,h2']
     refine call (Jz l hl) ?_
     push_cast -dsimp [h3,h4]
     exact ⟨[],rfl,rfl,by push_cast -dsimp [zb,za,CLe,ze];simp[may,h1,h2,h3,h4]⟩
  ·have h2':¬(l.length:Int)<=255:=by omega
   refine fon Tryz.func70 ?_;dsimp only[Tryz.f70]
   push_cast -dsimp [h1,h2']
   exact ⟨[],rfl,rfl,by push_cast -dsimp [zb,za,CLe,ze];simp[may,h2]⟩
theorem zai (l:List UInt8) (hl:l.length<=1000000):Fun Tryz.prog G0 254 [.str l] (qe (!may l)) 0:=by
 refine fon Tryz.func254 ?_;dsimp only[Tryz.f254]
 push_cast -dsimp
 refine call (x4 l hl) ?_
 push_cast -dsimp
 exact dn
end
section
open Go.RowKit
def ze1 (xs:List (List UInt8)):Int:=match xs.findIdx? (fun x=>!may x) with | some i=>(i:Int) | none=>-1
theorem ziM (xs:List (List UInt8)):decide (0<=ze1 xs) = !xs.all may:=by
 unfold ze1
 cases h:xs.findIdx? (fun x=>!may x) with
 | none =>
  have:=List.findIdx?_eq_none_iff.1 h
  have h2:xs.all may=true:=List.all_eq_true.2 fun x hx=>by simpa using this x hx
  rw[h2];rfl
 | some i =>
  have h1:=List.findIdx?_eq_some_iff_getElem.1 h
  obtain ⟨hi,hp,_⟩:=h1
  have h2:xs.all may=false:=List.all_eq_false.2 ⟨xs[i],List.getElem_mem hi,by simpa using hp⟩
  rw[h2];simp
theorem k9 (xs:List (List UInt8)) (hx:xs.length<=1000001) (hl:∀ x∈xs,x.length<=1000000):Fun Tryz.prog G0 276 [.sl 1 (zx xs),.clo (.func 254) [] []] (.sc (.int .i64 (ze1 xs))) 0:=by
 refine fon Tryz.func276 ?_;dsimp only[Tryz.f276]
 push_cast -dsimp
 refine loop (fun k:Nat=>⟨[(0,.sl 1 (zx xs)),(1,.clo (.func 254) [] []),(7,.sc (.int .i64 (xs.length:Int))),(8,.sc (.int .i64 k))],[],0,0⟩) (fun k=>k<=xs.length/\∀ j (hj:j<xs.length),j<k->may (xs[j]'hj)=true) (fun k=>xs.length-k) 0 ⟨Nat.zero_le _,fun j _ hj=>by omega⟩ ?_ ?_
 ·exact wk
 ·intro k hk
  have hk1:=hk.1
  have hk2:=hk.2
  by_cases h:k<xs.length
  ·have hg:(zx xs)[k]?=some [.str (xs[k]'h)]:=by rw[strs_get?,List.getElem?_eq_getElem h];rfl
   push_cast -dsimp [h,hg]
   refine ⟨by omega,?_⟩
   refine call (zai (xs[k]'h) (hl _ (List.getElem_mem h))) ?_
   push_cast -dsimp
   cases hm:may (xs[k]'h) with
   | true =>
    push_cast -dsimp
    refine ⟨by omega,k+1,⟨by omega,fun j hj hjk=>?_⟩,by omega,wk⟩
    rcases Nat.lt_or_ge j k with g | g
    ·exact hk2 j hj g
    ·have:j=k:=by omega
     subst this;exact hm
   | false =>
    push_cast -dsimp
    refine ⟨[],rfl,rfl,?_⟩
    push_cast -dsimp [zb,za,CLe,ze]
    have:xs.findIdx? (fun x=>!may x)=some k:=List.findIdx?_eq_some_iff_getElem.2 ⟨h,by simp[hm],fun j hj=>by simp[hk2 j (by omega) hj]⟩
    simp[ze1,this]
  ·push_cast -dsimp [h]
   refine ⟨[],rfl,rfl,?_⟩
   push_cast -dsimp [zb,za,CLe,ze]
   have:xs.findIdx? (fun x=>!may x)=none:=List.findIdx?_eq_none_iff.2 fun x hx=>by
    obtain ⟨j,hj,rfl⟩:=List.getElem_of_mem hx
    simp[hk2 j hj (by omega)]
   simp[ze1,this]
theorem ZV (xs:List (List UInt8)) (hx:xs.length<=1000001) (hl:∀ x∈xs,x.length<=1000000):Fun Tryz.prog G0 253 [.sl 1 (zx xs),.clo (.func 254) [] []] (qe (!xs.all may)) 0:=by
 have h:=ziM xs
 refine fon Tryz.func253 ?_;dsimp only[Tryz.f253]
 push_cast -dsimp
 refine call (k9 xs hx hl) ?_
 push_cast -dsimp
 exact dn (by push_cast -dsimp [zb,za,CLe,ze,h])
def Jw (p:List UInt8):Bool:=decide (qr (zg p)=p)&&(zg p).all may
def JP (p:List UInt8):C:=.tup [.own 0 9 1 (zx (if Jw p then zg p else [])),qe (Jw p)]
theorem Yu (x y:List UInt8) (r:List (List UInt8)) (sep:List UInt8):Lib.join (x :: y :: r) sep=x++sep++Lib.join (y :: r) sep:=by
 simp[Lib.join,List.intercalate,List.intersperse]
theorem XE:∀ xs:List (List UInt8),xs≠[]->(Lib.join xs [47]).length+1=(xs.map fun x=>x.length+1).sum
 | [],h=>absurd rfl h
 | [x],_=>by simp[Lib.join]
 | x :: y :: r,_=>by
  have ih:=XE (y :: r) (by simp)
  rw[Yu]
  simp only[List.length_append,List.length_cons,List.length_nil,List.map_cons,List.sum_cons]at ih ⊢
  omega
theorem MN:∀ l:List UInt8,((jH l).map fun x=>x.length+1).sum=l.length+1
 | []=>rfl
 | b :: l=>by
  have ih:=MN l
  unfold jH
  split
  ·simp only[List.map_cons,List.sum_cons,List.length_nil,List.length_cons,ih];omega
  ·cases h:jH l with
   | nil=>exact absurd h (NQ l)
   | cons x r =>
    rw[h]at ih
    simp only[List.map_cons,List.sum_cons,List.length_cons]at ih ⊢
    omega
theorem Zh (f:List UInt8->Bool):∀ xs:List (List UInt8),((xs.filter f).map fun x=>x.length+1).sum<=(xs.map fun x=>x.length+1).sum
 | []=>by simp
 | x :: r=>by
  have ih:=Zh f r
  rw[List.filter_cons]
  split
  ·simp only[List.map_cons,List.sum_cons];omega
  ·simp only[List.map_cons,List.sum_cons];omega
theorem zcE:∀ (xs:List (List UInt8)) (x:List UInt8),x∈xs->x.length+1<=(xs.map fun x=>x.length+1).sum
 | y :: r,x,h=>by
  simp only[List.map_cons,List.sum_cons]
  rcases List.mem_cons.1 h with rfl | h
  ·omega
  ·have:=zcE r x h;omega
theorem QI (l:List UInt8):(Lib.join (zg l) [47]).length<=l.length/\∀ x∈zg l,x.length<=l.length:=by
 have h1:=MN l
 have h2:=Zh (fun x=>!decide (x = [])) (jH l)
 rw[←Jf]at h2
 refine ⟨?_,fun x hx=>?_⟩
 ·by_cases h:zg l = []
  ·rw[h];simp[Lib.join]
  ·have:=XE (zg l) h;omega
 ·have:=zcE (zg l) x hx;omega
theorem Mh (p:List UInt8) (hp:p.length<=1000000):Fun Tryz.prog G0 223 [.str p] (JP p) 1:=by
 have hz:=zS p
 have hj:=QI p
 by_cases h1:qr (zg p)=p
 ·have h1':(p=qr (zg p)):=h1.symm
  refine fon Tryz.func223 ?_;dsimp only[Tryz.f223]
  push_cast -dsimp
  refine call (XF p) ?_
  push_cast -dsimp
  refine call (Xv p hp) ?_
  push_cast -dsimp
  refine call (Xt (zg p) (by omega) (by omega)) ?_
  push_cast -dsimp [h1]
  refine call (ZV (zg p) (by omega) fun x hx=>by have:=hj.2 x hx;omega) ?_
  push_cast -dsimp
  cases hm:(zg p).all may with
  | true =>
   push_cast -dsimp
   exact ⟨[.inl 0],rfl,rfl,by simp only[JP,Jw,h1,hm];push_cast -dsimp [zb,za,CLe,ze]<;>simp⟩
  | false =>
   push_cast -dsimp
   exact ⟨[.inr (9,1)],rfl,rfl,by simp only[JP,Jw,h1,hm];push_cast -dsimp [zb,za,CLe,ze]<;>simp⟩
 ·refine fon Tryz.func223 ?_;dsimp only[Tryz.f223]
  push_cast -dsimp
  refine call (XF p) ?_
  push_cast -dsimp
  refine call (Xv p hp) ?_
  push_cast -dsimp
  refine call (Xt (zg p) (by omega) (by omega)) ?_
  push_cast -dsimp [h1]
  exact ⟨[.inr (9,1)],rfl,rfl,by simp only[JP,Jw,h1];push_cast -dsimp [zb,za,CLe,ze]<;>simp⟩
end
end Go.Proofs.YtaipngaejfndgaaGreatDoor.Vcg
