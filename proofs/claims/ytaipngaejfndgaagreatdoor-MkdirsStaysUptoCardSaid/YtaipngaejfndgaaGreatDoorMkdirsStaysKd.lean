/- What the proof of MkdirsStays leans on, part 4: Laid Op1 QuotePlain QuotePlain2 QuotePlain3 OpV Op2 Wld0 Ent1 Ent2 EntW TabW Wld1 Wld2 Wld3 Wld4 Wld5 Room Plc Crt Drp Mov SlcK Sts OpenW StW Sts2 StX Kep Stp Stp2 Stp3 Stp4 Deed Doo Dra1 Dra2 Rf4 Rf5 Rf6 Rf7 Op3 Op4 Op5 Ref19 Rf8 Snd2 Snd3 Snd4 Snd5 Snd6 Snd7 Rf9 Rf10 Grw Con Kit KitBytes QuoteWalk1 Builder QuoteWalk2 Diag1 Spl Diag2 Diag3 Diag4 Dra3 Ref19b Ref19c Rf11 Ref8 Wlk1 Wlk2 Tree1 Mak0 Tree2 Tree3 Tree4 Tree5 Tree6 Tree7 Dra4 Mak1 Mak2 Mak3 OpenD. No condition beyond what each theorem states. -/
import Derived.Test.YtaipngaejfndgaaGreatDoorMkdirsStaysKc
import Derived.Lib.LaidU8
import Derived.OpenShut
import Derived.FnData
import Derived.Lib.Bytealg
import Derived.WalkKit
import Derived.Lib.Hide
import Derived.Lib.Join
import Derived.Deep.Draws
import Derived.Lib.SlBytesRow
import Derived.StillTailTactics
import Derived.Test.YtaipngaejfndgaaGreatDoorProg
import Derived.WalkLawsBesides
import Derived.WalkSpells
import Derived.Shelf.Strings.Builder1
import Derived.Shelf.Strings.BuilderF
import Derived.Shelf.Strings.SlTrimAscii
import Derived.Sort.Walk0
set_option linter.unusedVariables false
set_option linter.unusedSimpArgs false
set_option linter.unusedSectionVars false
set_option maxRecDepth 100000
set_option maxHeartbeats 4000000
namespace Go.Proofs.YtaipngaejfndgaaGreatDoor.Vcg
section
open Go.RowKit
mutual
/-- the cells that read as a datum of Js data -/
def QL:DataW Unit->Option (List Value)
 | .lit (.int k n)=>some [.int k n]
 | .lit (.bool b)=>some [.bool b]
 | .lit (.string l)=>some [.string ⟨l.toArray⟩]
 | .agg ds=>Vm ds
 | _=>none
def Vm:List (DataW Unit)->Option (List Value)
 | []=>some []
 | d :: ds=>match QL d,Vm ds with
  | some a,some b=>some (a++b)
  | _,_=>none
end
def GL (P:Program):Nat->List Field->Nat->Bool
 | j,[],n=>j==n
 | j,f :: fs,n=>f.offset==j&&GL P (j+P.cellsOf f.type) fs n
def Vs (P:Program):Nat->TypeId->Bool
 | 0,_=>false
 | m+1,t=>match P.underlying t with
  | some .bool=>true
  | some (.int _)=>true
  | some .string=>true
  | some (.struct fs)=>GL P 0 fs.toList (P.cellsOf t)&&fs.toList.all fun f=>Vs P m f.type
  | some (.array n e)=>Vs P m e&&P.cellsOf t==n*P.cellsOf e
  | _=>false
section
variable {enc:TypeId×Value->Unit} {P:Program} {w:World} {base:Nat} {spare:Nat->Bool} {held:Bool}
theorem VQ {d:DataW Unit} {ds:List (DataW Unit)} {a b:List Value} (h1:QL d=some a) (h2:Vm ds=some b):Vm (d :: ds)=some (a++b):=by
 rw[Vm,h1,h2]
theorem X2 {n:Nat} {cs:List Value} (ih:∀ t cs d p,Vs P n t=true->DataW.trod enc P w base spare held n t cs=some (d,p)->QL d=some cs) {m:Nat} (hm:∀ t cs d p,Vs P m t=true->DataW.trod enc P w base spare held n t cs=some (d,p)->QL d=some cs) :
  ∀ (fs:List Field) (j N:Nat) (xs:List (DataW Unit×List MemPlace)),GL P j fs N=true->(fs.all fun f=>Vs P m f.type)=true->cs.length=N->xs.length=fs.length ->
   (∀ (i:Nat) (f:Field),fs[i]?=some f->DataW.trod enc P w base spare held n f.type ((cs.drop f.offset).take (P.cellsOf f.type))=xs[i]?)->Vm (xs.map (·.1))=some (cs.drop j)
 | [],j,N,xs,hc,_,hl,hx,_=>by
  simp only[GL,beq_iff_eq]at hc
  match xs,hx with
  | [],_=>rw[List.drop_of_length_le (by omega)];rfl
 | f :: fs,j,N,xs,hc,ha,hl,hx,hf=>by
  simp only[GL,Bool.and_eq_true,beq_iff_eq]at hc
  simp only[List.all_cons,Bool.and_eq_true]at ha
  match xs,hx with
  | x :: xs,hx =>
   have h0:=hf 0 f rfl
   have e0:QL x.1=some ((cs.drop f.offset).take (P.cellsOf f.type)):=hm _ _ _ x.2 ha.1 h0
   have e1:=X2 ih hm fs _ N xs hc.2 ha.2 hl (by simpa using hx) fun i g hg=>hf (i+1) g hg
   rw[List.map_cons,VQ e0 e1,hc.1,←List.drop_drop,List.take_append_drop]
theorem Za {n:Nat} {e:TypeId} {cs:List Value}:∀ (N j:Nat) (xs:List (DataW Unit×List MemPlace)),(∀ cs d p,DataW.trod enc P w base spare held n e cs=some (d,p)->QL d=some cs)->cs.length=(j+N)*P.cellsOf e->xs.length=N ->
   (∀ (i:Nat),i<N->DataW.trod enc P w base spare held n e ((cs.drop ((j+i)*P.cellsOf e)).take (P.cellsOf e))=xs[i]?)->Vm (xs.map (·.1))=some (cs.drop (j*P.cellsOf e))
 | 0,j,xs,_,hl,hx,_=>by
  match xs,hx with
  | [],_=>rw[List.drop_of_length_le (by simp at hl;omega)];rfl
 | N+1,j,xs,hm,hl,hx,hf=>by
  match xs,hx with
  | x :: xs,hx =>
   have e0:=hm _ _ x.2 (hf 0 (Nat.zero_lt_succ _))
   have e1:=Za N (j+1) xs hm (by rw[hl];congr 1;omega) (by simpa using hx) fun i hi=>by
    have:=hf (i+1) (by omega)
    rw[show j+(i+1)=j+1+i by omega]at this
    exact this
   rw[List.map_cons,VQ e0 e1,Nat.add_zero,show (j+1)*P.cellsOf e=j*P.cellsOf e+P.cellsOf e by rw[Nat.add_mul];omega,←List.drop_drop,List.take_append_drop]
theorem YV:∀ (n m:Nat) (t:TypeId) (cs:List Value) (d:DataW Unit) (p:List MemPlace),Vs P m t=true->DataW.trod enc P w base spare held n t cs=some (d,p)->QL d=some cs
 | 0,m,t,cs,d,p,_,h=>by simp[DataW.trod]at h
 | n+1,0,t,cs,d,p,hf,h=>by simp[Vs]at hf
 | n+1,m+1,t,cs,d,p,hf,h=>by
  unfold Vs at hf
  split at hf
  ·rename_i hu
   obtain ⟨b,rfl,e⟩:=DataW.trod_bool hu h
   cases e;rfl
  ·rename_i k hu
   obtain ⟨b,rfl,e,_⟩:=DataW.trod_int hu h
   cases e;rfl
  ·rename_i hu
   obtain ⟨s,rfl,e,_⟩:=DataW.trod_string hu h
   cases e
   rw[QL]
  ·rename_i fs hu
   simp only[Bool.and_eq_true]at hf
   obtain ⟨xs,n',hn,e,hl,hx,hg⟩:=DataW.trod_struct hu h
   cases hn;cases e
   have hrec:∀ t cs d p,Vs P m t=true->DataW.trod enc P w base spare held n t cs=some (d,p)->QL d=some cs:=fun t cs d p=>YV n m t cs d p
   have:=X2 (n:=n) (fun t cs d p=>YV n n t cs d p) hrec fs.toList 0 _ xs hf.1 hf.2 hl (by rw[hx];rfl) fun i f hif=>hg i f (by simpa using hif)
   rw[List.drop_zero]at this
   rw[QL,this]
  ·rename_i N e hu
   simp only[Bool.and_eq_true,beq_iff_eq]at hf
   obtain ⟨xs,n',hn,e',hl,hx,hg⟩:=DataW.trod_array hu h
   cases hn;cases e'
   have:=Za (n:=n) (e:=e) (cs:=cs) N 0 xs (fun cs d p=>YV n m e cs d p hf.1) (by rw[hl,hf.2,Nat.zero_add]) hx fun i hi=>by rw[Nat.zero_add];exact hg i hi
   rw[Nat.zero_mul,List.drop_zero]at this
   rw[QL,this]
  ·cases hf
end
theorem Hv {W:World} {g:Nat}:∀ (vs:List Value) (o:Nat),(∀ (i:Nat) v,vs[i]?=some v->W.cell? ⟨g,o+i,none⟩=some v)->(vs.all fun v=>v.oneCell')=true->zy (Na W) (vs.map zr) g o:=fun vs o h ho=>by
 refine zG fun i c hc=>?_
 rw[List.getElem?_map,Option.map_eq_some_iff]at hc
 obtain ⟨v,hv,rfl⟩:=hc
 exact ⟨v,h i v hv,fun hf=>hf,qM _ _ v,List.all_eq_true.1 ho v (List.mem_of_getElem? hv)⟩
theorem Hp {P:Program} {W:World} {l:List (String×DataW Unit)} (h:laidMetH P l W) (hp:(l.filter fun x=>x.2.handleName?.isSome) = []) {n:String} {d:DataW Unit} (hm:(n,d)∈l) {g:Nat} {t:TypeId} {m:Nat} {vs:List Value}
  (hg:P.globalNamed n=some g) (ht:(P.globals[g]?).map (·.type)=some t) (hf:Vs P m t=true) (hd:QL d=some vs) (ho:(vs.all fun v=>v.oneCell')=true):zy (Na W) (vs.map zr) g 0:=by
 unfold laidMetH at h
 rw[hp]at h
 obtain ⟨g',t',cs,fuel,p,hg',ht',hvar,htr⟩:=Lib.laidMet.reads h hm
 rw[hg]at hg';cases hg'
 rw[ht]at ht';cases ht'
 have e:=YV _ _ _ _ _ _ hf htr
 have e':vs=cs.toList:=Option.some.inj (hd.symm.trans e)
 subst e'
 refine Hv _ 0 (fun i v hv=>?_) ho
 rw[World.var?_cell hg hvar,Nat.zero_add]
 simpa using hv
theorem jJ {P:Program} {W:World} {l:List (String×DataW Unit)} (h:laidMetH P l W) (hp:(l.filter fun x=>x.2.handleName?.isSome) = []) {n:String} {d:DataW Unit} (hm:(n,d)∈l) {g:Nat} {t:TypeId} {m:Nat} {vs:List Value}
  (hg:P.globalNamed n=some g) (ht:(P.globals[g]?).map (·.type)=some t) (hf:Vs P m t=true) (hd:QL d=some vs) (ho:(vs.all fun v=>v.oneCell')=true) :
  zy (Na W) (vs.map zr) g 0/\(∃ us ty fl,(Na W).w.heap[g]?=some (.cells us ty fl)/\us.size=(vs.map zr).length)/\∀ o,¬(Na W).M g o:=by
 refine ⟨Hp h hp hm hg ht hf hd ho,?_,fun o h=>h⟩
 unfold laidMetH at h
 rw[hp]at h
 obtain ⟨g',t',cs,fuel,p,hg',ht',hvar,htr⟩:=Lib.laidMet.reads h hm
 rw[hg]at hg';cases hg'
 rw[ht]at ht';cases ht'
 have e:=YV _ _ _ _ _ _ hf htr
 have e':vs=cs.toList:=Option.some.inj (hd.symm.trans e)
 subst e'
 unfold World.var? at hvar
 rw[hg]at hvar
 simp only[Option.bind_some]at hvar
 split at hvar
 ·rename_i cs' ty fl hh
  cases hvar
  exact ⟨_,_,_,hh,by simp⟩
 ·cases hvar
theorem Fun.glob {P:Program} {G G':zj} {f:FuncId} {args:List C} {r:C} {n:Nat} (h:Fun P G f args r n) (hG:∀ g cs,G g=some cs->G' g=some cs):Fun P G' f args r n:=
 ⟨h.1,fun R vs hg ha=>h.2 R vs (fun g cs e=>hg g cs (hG g cs e)) ha⟩
theorem Fun.glob0 {P:Program} {G':zj} {f:FuncId} {args:List C} {r:C} {n:Nat} (h:Fun P G0 f args r n):Fun P G' f args r n:=h.glob fun g cs e=>by cases e
end
section
open CA CB
open Go.RowKit
def zmQ:List Value:=[.bool false,.bool false,.bool false,.bool false,.bool false,.bool false,.bool false,.bool true,.bool false,.bool true,.bool true,.bool false,.bool false,.bool false,.bool true,.bool false,.bool true,.bool false,.bool false,.bool true,.bool false,.bool true,.bool false,.bool false,.bool false,.bool false,.bool false,.bool true,.bool false,.bool false,.bool true,.bool false,.bool false]
def G1:zj:=fun g=>if g=2 then some (zmQ.map zr) else none
theorem zmU:G1 2=some [.sc (.bool false),.sc (.bool false),.sc (.bool false),.sc (.bool false),.sc (.bool false),.sc (.bool false),.sc (.bool false),.sc (.bool true),.sc (.bool false),.sc (.bool true),.sc (.bool true),.sc (.bool false),.sc (.bool false),.sc (.bool false),.sc (.bool true),.sc (.bool false),.sc (.bool true),.sc (.bool false),.sc (.bool false),.sc (.bool true),.sc (.bool false),.sc (.bool true),.sc (.bool false),.sc (.bool false),.sc (.bool false),.sc (.bool false),.sc (.bool false),.sc (.bool true),.sc (.bool false),.sc (.bool false),.sc (.bool true),.sc (.bool false),.sc (.bool false)]:=rfl
attribute [push_cast] zmU
def zX (p:List UInt8):Bool:=Js p&&!decide (zk p = [])
theorem Ne (p:List UInt8) (hp:p.length<=1000000):Fun Tryz.prog G0 183 [.str p] (qp (zX p)) 0:=by
 have h:=NG p hp
 unfold Yv at h
 cases hb:Js p with
 | false =>
  rw[hb]at h
  refine fon Tryz.func183 ?_;dsimp only[Tryz.f183]
  push_cast -dsimp
  refine cl (h) ?_;push_cast -dsimp
  exact ⟨[],rfl,rfl,by push_cast -dsimp [zb,za,CLe,ze];simp[zX,hb]⟩
 | true =>
  rw[hb,if_pos rfl]at h
  refine fon Tryz.func183 ?_;dsimp only[Tryz.f183]
  push_cast -dsimp
  refine cl (h) ?_;push_cast -dsimp
  refine ⟨[],rfl,rfl,?_⟩
  push_cast -dsimp [zb,za,CLe,ze]
  by_cases hn:zk p = []
  ·simp[zX,hb,hn]
  ·have:=List.length_pos_iff.2 hn
   simp[zX,hb,hn,this]
theorem uL (l:List UInt8):Fun Tryz.prog G0 177 [.str l,.str [0]] (.sc (.int .i64 (Lib.indexByte l 0))) 0:=by
 refine Fun.wrap (by kernel_rfl) fun R vs h=>?_
 obtain ⟨v1,us1,rfl,h1,h⟩:=zd.1 h
 obtain ⟨v2,us2,rfl,h2,h⟩:=zd.1 h
 rw[zg]at h
 subst h
 rw[zB]at h1 h2
 subst h1 h2
 refine (Tryz.strings_Index_one ⟨l.toArray⟩ 0 R.w).mono ?_
 rintro e w' ⟨rfl,rfl⟩
 exact ⟨_,rfl,Below.refl _ _,fun R' _=>zi.2 (by simp)⟩
theorem UB:∀ l:List UInt8,decide (0<=Lib.indexByte l 0)=l.any (fun b=>decide (b=0))/\-1<=Lib.indexByte l 0
 | []=>⟨rfl,by decide⟩
 | b :: l=>by
  obtain ⟨h1,h2⟩:=UB l
  unfold Lib.indexByte
  by_cases hb:b=0
  ·subst hb;simp
  ·have hb':(b==0)=false:=by simpa using hb
   rw[hb']
   simp only[Bool.false_eq_true,if_false,List.any_cons,hb,decide_false,Bool.false_or,←h1]
   split
   ·rename_i hm
    have:=beq_iff_eq.1 hm
    rw[this];simp
   ·rename_i hm
    have:¬Lib.indexByte l 0 = -1:=fun e=>hm (by rw[e];rfl)
    constructor
    ·rw[decide_eq_decide];omega
    ·omega
theorem U7 (l:List UInt8) (hl:l.length<=1000000):Fun Tryz.prog G0 149 [.str l,.str [0]] (qp (l.any fun b=>decide (b=0))) 0:=by
 have h:=(UB l).1
 refine fon Tryz.func149 ?_;dsimp only[Tryz.f149]
 push_cast -dsimp
 refine cl (uL l) ?_;push_cast -dsimp
 exact dn (by push_cast -dsimp [zb,za,CLe,ze,h])
def ZV (s:List UInt8):Bool:=!decide (s = [])&&decide (s.length<=4095)&&!(s.any fun b=>decide (b=0))
theorem vy (s:List UInt8) (hs:s.length<=1000000):Fun Tryz.prog G0 184 [.str s] (qp (ZV s)) 0:=by
 have h:=U7 s hs
 by_cases h1:s = []
 ·refine fon Tryz.func184 ?_;dsimp only[Tryz.f184]
  push_cast -dsimp [h1]
  exact ⟨[],rfl,rfl,by push_cast -dsimp [zb,za,CLe,ze];simp[ZV,h1]⟩
 ·by_cases h2:s.length<=4095
  ·have h2':(s.length:Int)<=4095:=by omega
   refine fon Tryz.func184 ?_;dsimp only[Tryz.f184]
   push_cast -dsimp [h1,h2']
   refine cl (h) ?_;push_cast -dsimp
   exact ⟨[],rfl,rfl,by push_cast -dsimp [zb,za,CLe,ze];simp[ZV,h1,h2]⟩
  ·have h2':¬(s.length:Int)<=4095:=by omega
   refine fon Tryz.func184 ?_;dsimp only[Tryz.f184]
   push_cast -dsimp [h1,h2']
   exact ⟨[],rfl,rfl,by push_cast -dsimp [zb,za,CLe,ze];simp[ZV,h1,h2]⟩
end
end Go.Proofs.YtaipngaejfndgaaGreatDoor.Vcg
section
namespace Go.Proofs.YtaipngaejfndgaaGreatDoor.QuotePlain
abbrev Bs:=List UInt8
def good (c:UInt8):Bool:=decide (32<=c.toNat/\c.toNat<=126/\c.toNat≠34/\c.toNat≠92)
def zh0:Bs:=[48,49,50,51,52,53,54,55,56,57,97,98,99,100,101,102]
def Hs (n:Nat):UInt8:=zh0.getD n 0
def qb (c:UInt8):Bs:=if good c then [c] else [92,120,Hs (c.toNat / 16),Hs (c.toNat % 16)]
def mid (l:Bs):Bs:=l.flatMap qb
def zV (l:Bs):Bs:=34 :: (mid l++[34])
def znC (l:Bs):Bool:=decide (l≠[])&&l.all fun c=>decide (33<=c.toNat/\c.toNat<=126/\c.toNat≠34)
def zkZ (c:UInt8):Nat:=(zh0.findIdx? (·==c)).getD 16
def zg9:Bs->UInt8×Nat
 | []=>(0,0)
 | c :: r =>
  if c≠92 then (if good c then (c,1) else (0,0))
  else match r with
   | x :: a :: b :: _=>if x=120/\zkZ a<16/\zkZ b<16/\good (UInt8.ofNat (zkZ a*16+zkZ b))=false then (UInt8.ofNat (zkZ a*16+zkZ b),4) else (0,0)
   | _=>(0,0)
theorem zbD {p:UInt8->Bool} (h:(List.range 256).all (fun n=>p (UInt8.ofNat n))=true) (c:UInt8):p c=true:=by
 have h1:=List.all_eq_true.1 h c.toNat (List.mem_range.2 c.toNat_lt)
 simpa using h1
def zm6:Nat->Bs->Option (Bs×Nat)
 | 0,_=>none
 | _+1,[]=>none
 | f+1,c :: r=>if c=34 then some ([],1) else if (zg9 (c :: r)).2=0 then none else (zm6 f ((c :: r).drop (zg9 (c :: r)).2)).map fun x=>((zg9 (c :: r)).1 :: x.1,(zg9 (c :: r)).2+x.2)
def body (l:Bs):Option (Bs×Nat):=zm6 (l.length+1) l
def qtd:Bs->Option (Bs×Nat)
 | []=>none
 | c :: r=>if c=34 then (body r).map fun x=>(x.1,x.2+1) else none
def unq (l:Bs):Option Bs:=match qtd l with | some (t,n)=>if n=l.length then some t else none | none=>none
end Go.Proofs.YtaipngaejfndgaaGreatDoor.QuotePlain
end
section
namespace Go.Proofs.YtaipngaejfndgaaGreatDoor.QuotePlain
def okw (w:Bs):Bool:=(unq w).isSome||znC w
def cut:Bs->Bs->Bool->Option (List Bs)
 | [],w,_=>if okw w then some [w] else none
 | c :: r,w,i=>if c=32/\i=false then (if okw w then (cut r [] i).map (w :: ·) else none) else cut r (w++[c]) (if c=34 then !i else i)
end Go.Proofs.YtaipngaejfndgaaGreatDoor.QuotePlain
end
section
namespace Go.Proofs.YtaipngaejfndgaaGreatDoor.QuotePlain
def F (q:List Bs):Bs:=q.flatMap (·++[32])
end Go.Proofs.YtaipngaejfndgaaGreatDoor.QuotePlain
end
namespace Go.Proofs.YtaipngaejfndgaaGreatDoor.Vcg
section
structure OpV where
 kind:Int
 slot:Int
 a:List UInt8
 b:List UInt8
 d:List UInt8
deriving DecidableEq,Inhabited
def Ht (k:Int):Bool:=decide (k=3)||decide (k=7)||decide (k=9)||decide (k=10)
def zn1 (k:Int):Bool:=decide (k=2)||decide (k=3)||decide (k=5)||decide (k=6)
end
section
open CA CB
open Go.RowKit
def opL (o:OpV):List C:=[.sc (.int .i64 o.kind),.sc (.int .i64 o.slot),.str o.a,.str o.b,.str o.d]
def zgf (o:OpV):Bool:=decide (1<=o.kind)&&decide (o.kind<=10)&&zX o.a&&(if Ht o.kind then decide (1<=o.slot)&&decide (o.slot<=1073741824) else decide (o.slot=0))&&(if zn1 o.kind then zX o.b else decide (o.b = []))
 && (if o.kind=4 then ZV o.d else decide (o.d = []))&&(!decide (o.kind=6)||(!UU o.a o.b&&!UU o.b o.a))
def zjh (o:OpV):Prop:=o.a.length<=1000000/\o.b.length<=1000000/\o.d.length<=1000000
theorem zb8 (k s:Int) (a b d:List UInt8) (hs:zjh ⟨k,s,a,b,d⟩):Fun Tryz.prog G1 159 [.agg (opL ⟨k,s,a,b,d⟩)] (qp (zgf ⟨k,s,a,b,d⟩)) 0:=by
 have hs1:a.length<=1000000:=hs.1
 have hs2:b.length<=1000000:=hs.2.1
 have hs3:d.length<=1000000:=hs.2.2
 have h1:=(Ne a (by omega)).glob0 (G':=G1)
 have h2:=(Ne b (by omega)).glob0 (G':=G1)
 have h3:=(vy d (by omega)).glob0 (G':=G1)
 have h4:=(UJ a b (by omega)).glob0 (G':=G1)
 have h5:=(UJ b a (by omega)).glob0 (G':=G1)
 unfold opL
 by_cases hk1:k<1
 ·have:¬1<=k:=by omega
  refine fon Tryz.func159 ?_;dsimp only[Tryz.f159]
  push_cast -dsimp [hk1]
  exact ⟨[],rfl,rfl,by push_cast -dsimp [zb,za,CLe,ze];simp[zgf,this]⟩
 by_cases hk2:10<k
 ·have:¬k<=10:=by omega
  refine fon Tryz.func159 ?_;dsimp only[Tryz.f159]
  push_cast -dsimp [hk1,hk2]
  exact ⟨[],rfl,rfl,by push_cast -dsimp [zb,za,CLe,ze];simp[zgf,this]⟩
 cases hp:zX a with
 | false =>
  rw[hp]at h1
  refine fon Tryz.func159 ?_;dsimp only[Tryz.f159]
  push_cast -dsimp [hk1,hk2]
  refine cl (h1) ?_;push_cast -dsimp
  exact ⟨[],rfl,rfl,by push_cast -dsimp [zb,za,CLe,ze];simp[zgf,hp]⟩
 | true =>
  rw[hp]at h1
  have hk:k=1∨k=2∨k=3∨k=4∨k=5∨k=6∨k=7∨k=8∨k=9∨k=10:=by omega
  clear hk1 hk2 hs hs1 hs2 hs3
  rcases hk with rfl | rfl | rfl | rfl | rfl | rfl | rfl | rfl | rfl | rfl
  all_goals
   refine fon Tryz.func159 ?_;dsimp only[Tryz.f159]
   push_cast -dsimp
   refine cl (h1) ?_;push_cast -dsimp
   repeat' (first
    | (refine call h2 ?_;push_cast -dsimp)
    | (refine vY h2 ?_;push_cast -dsimp)
    | (refine call h3 ?_;push_cast -dsimp)
    | (refine vY h3 ?_;push_cast -dsimp)
    | (refine call h4 ?_;push_cast -dsimp)
    | (refine vY h4 ?_;push_cast -dsimp)
    | (refine call h5 ?_;push_cast -dsimp)
    | (refine vY h5 ?_;push_cast -dsimp)
    | (refine br (fun h=>?_) (fun h=>?_)<;>push_cast -dsimp [h])
    | (refine ⟨[],rfl,rfl,?_⟩;push_cast -dsimp [zb,za,CLe,ze];clear h1 h2 h3 h4 h5;simp_all [zgf,Ht,zn1]<;>omega))
end
section
structure zR where
 dir:Int
 name:List UInt8
 ino:Int
deriving DecidableEq,Inhabited
structure jC where
 slot:Int
 ino:Int
 content:Bool
 data:List UInt8
deriving DecidableEq,Inhabited
structure zY where
 fs:FsV
 kept:List jC
 pool:List zn
deriving DecidableEq,Inhabited
def qN:zR:=⟨0,[],0⟩
abbrev XB (es:List zH):Prop:=jh j7 zH.name es
def Z3 (n:List UInt8) (es:List zH):Bool:=ZC zH.name n es
def zI (n:List UInt8) (es:List zH):Int:=match JM zH.name n es with | some e=>e.ino | none=>0
def Hk (n:List UInt8) (es:List zH):List zH:=Xr zH.name n es
def qf (n:List UInt8) (i:Int) (es:List zH):List zH:=VL j7 zH.name ⟨n,i⟩ (Xr zH.name n es)
def atW (xs:List zn):List (List UInt8)->zR->zR×Int
 | [],s=>(s,0)
 | n :: r,s=>if s.ino=0 then (qN,1) else if (zf s.ino xs).kind≠2 then (qN,3) else atW xs r ⟨(zf s.ino xs).ino,n,zI n (zf s.ino xs).es⟩
def atV (f:FsV) (p:List UInt8):zR×Int:=if Js p then atW f.xs (zk p) ⟨0,[],1⟩ else (qN,9)
def YE (f:FsV) (n b:Int):Bool:=decide (f.xs.length+n<=f.maxI)&&decide (zP f.xs+b<=f.maxB)
def Xw (d:Int) (es:List zH->List zH) (xs:List zn):List zn:=jp { zf d xs with es:=es (zf d xs).es } xs
def HG (f:FsV) (s:zR) (k:Int) (t:List UInt8):FsV:={ f with next:=f.next+1,xs:=jp ⟨f.next,k,1,t,if k=2 then s.dir else 0,[]⟩ (Xw s.dir (qf s.name f.next) f.xs) }
def X8 (f:FsV) (s:zR) (k:Int) (t:List UInt8):FsV×Int:=
 if may s.name then (if YE f 1 (if k=1 then (t.length:Int) else 0) then (HG f s k t,0) else (f,8)) else (f,9)
def ziW (f:FsV) (s:zR):FsV:=
 if (zf s.ino f.xs).links-1=0 then { f with xs:=Yp s.ino (Xw s.dir (Hk s.name) f.xs) }
 else { f with xs:=jp { zf s.ino f.xs with links:=(zf s.ino f.xs).links-1 } (Xw s.dir (Hk s.name) f.xs) }
def zos (f:FsV) (s:zR) (i:Int):FsV:={ f with xs:=jp { zf i f.xs with links:=(zf i f.xs).links+1 } (Xw s.dir (qf s.name i) f.xs) }
def zoT (f:FsV) (a b:zR):FsV:=
 let g:=Xw b.dir (qf b.name a.ino) (Xw a.dir (Hk a.name) f.xs)
 if (zf a.ino g).kind=2 then { f with xs:=jp { zf a.ino g with parent:=b.dir } g } else { f with xs:=g }
def zon (f:FsV) (i:Int) (t:List UInt8):FsV:={ f with xs:=jp { zf i f.xs with data:=t } f.xs }
def zju (f:FsV) (i:Int) (t:List UInt8):FsV×Int:=
 if YE f 0 ((t.length:Int)-(zf i f.xs).data.length) then (zon f i t,0) else (f,8)
def zpi (n:Int) (ks:List jC):Bool:=ZC jC.slot n ks
def zlj (k:jC) (ks:List jC):List jC:=VL znP jC.slot k ks
def znR (w:zY) (n:Int) (s:zR):zY×Int:=
 if zpi n w.kept then (w,13)
 else (⟨ziW w.fs s,zlj ⟨n,s.ino,false,[]⟩ w.kept,if (zf s.ino w.fs.xs).links=1 then jp { zf s.ino w.fs.xs with links:=0,parent:=0 } w.pool else w.pool⟩,0)
def Vp (w:zY) (n i:Int):zY×Int:=
 if zpi n w.kept then (w,13) else ({ w with kept:=zlj ⟨n,i,true,(zf i w.fs.xs).data⟩ w.kept },0)
def isV (f:FsV) (p:List UInt8) (want:Bool):zR×zn×Int:=
 let a:=atV f p
 (a.1,zf a.1.ino f.xs,if a.2≠0 then a.2 else if want&&!zw a.1.ino f.xs then 1 else if !want&&zw a.1.ino f.xs then 2 else 0)
def YH (f:FsV) (p:List UInt8):zn×Int:=
 let a:=isV f p true
 (a.2.1,if a.2.2≠0 then a.2.2 else if a.2.1.kind=2 then 4 else if a.2.1.kind=3 then 9 else 0)
def z7 (w:zY) (p:List UInt8) (k:Int) (t:List UInt8):zY×Int:=
 if (isV w.fs p false).2.2≠0 then (w,(isV w.fs p false).2.2) else ({ w with fs:=(X8 w.fs (isV w.fs p false).1 k t).1 },(X8 w.fs (isV w.fs p false).1 k t).2)
def zkr (w:zY) (o:OpV):zY×Int:=
 if (YH w.fs o.a).2≠0 then (w,(YH w.fs o.a).2) else z7 w o.b 1 (YH w.fs o.a).1.data
def zfC (w:zY) (o:OpV):zY×Int:=
 if (YH w.fs o.a).2≠0 then (w,(YH w.fs o.a).2)
 else if (YH w.fs o.b).2≠0 then (w,(YH w.fs o.b).2)
 else if (YH w.fs o.a).1.ino=(YH w.fs o.b).1.ino then (w,9)
 else if (Vp w o.slot (YH w.fs o.b).1.ino).2≠0 then (w,(Vp w o.slot (YH w.fs o.b).1.ino).2)
 else if (zju w.fs (YH w.fs o.b).1.ino (YH w.fs o.a).1.data).2≠0 then (w,(zju w.fs (YH w.fs o.b).1.ino (YH w.fs o.a).1.data).2)
 else ({ (Vp w o.slot (YH w.fs o.b).1.ino).1 with fs:=(zju w.fs (YH w.fs o.b).1.ino (YH w.fs o.a).1.data).1 },0)
def zj1 (w:zY) (o:OpV):zY×Int:=
 let a:=isV w.fs o.a true
 if a.2.2≠0 then (w,a.2.2) else if a.2.1.kind=2 then (w,11)
 else if (isV w.fs o.b false).2.2≠0 then (w,(isV w.fs o.b false).2.2)
 else ({ w with fs:=zos w.fs (isV w.fs o.b false).1 a.2.1.ino },0)
def zlf (w:zY) (o:OpV):zY×Int:=
 if (isV w.fs o.a true).2.2≠0 then (w,(isV w.fs o.a true).2.2)
 else if (isV w.fs o.b false).2.2≠0 then (w,(isV w.fs o.b false).2.2)
 else ({ w with fs:=zoT w.fs (isV w.fs o.a true).1 (isV w.fs o.b false).1 },0)
def zgM (w:zY) (o:OpV):zY×Int:=
 let a:=isV w.fs o.a true
 if a.2.2≠0 then (w,a.2.2) else if a.2.1.es≠[] then (w,5) else znR w o.slot a.1
def doV (w:zY) (o:OpV):zY×Int:=
 if !zgf o then (w,12)
 else if o.kind=1 then z7 w o.a 2 []
 else if o.kind=2 then zkr w o
 else if o.kind=3 then zfC w o
 else if o.kind=4 then z7 w o.a 3 o.d
 else if o.kind=5 then zj1 w o
 else if o.kind=6 then zlf w o
 else zgM w o
def jl (ks:List jC):Int:=match ks.getLast? with | some k=>k.slot | none=>0
structure zt where
 w:zY
 ops:List OpV
 diags:List (List UInt8)
 status:Int
 slot:Int
deriving DecidableEq,Inhabited
def vb (w:zY):zt:=⟨w,[],[],0,jl w.kept⟩
def Mn (d:zt) (o:OpV):OpV:={ o with slot:=if o.kind=3∨o.kind=7 then d.slot+1 else 0 }
def zh9 (d:zt) (o:OpV):zt×Int:=
 if 7<o.kind then (d,12)
 else if (doV d.w (Mn d o)).2≠0 then (d,(doV d.w (Mn d o)).2)
 else (⟨(doV d.w (Mn d o)).1,d.ops++[Mn d o],d.diags,d.status,if 0<(Mn d o).slot then (Mn d o).slot else d.slot⟩,0)
end
section
open CA CB
open Go.RowKit
theorem vH (a b:List UInt8):Fun Tryz.prog G0 221 [.str a,.str b] (.sc (.int .i64 (Lib.compareBytes a b))) 0:=by
 refine Fun.wrap (by kernel_rfl) fun R vs h=>?_
 obtain ⟨v1,us1,rfl,h1,h⟩:=zd.1 h
 obtain ⟨v2,us2,rfl,h2,h⟩:=zd.1 h
 rw[zg]at h
 subst h
 rw[zB]at h1 h2
 subst h1 h2
 refine (Tryz.strings_Compare ⟨a.toArray⟩ ⟨b.toArray⟩ R.w).mono ?_
 rintro e w' ⟨rfl,rfl⟩
 exact ⟨_,rfl,Below.refl _ _,fun R' _=>zi.2 (by simp)⟩
section
variable {G:zj}
theorem yA (e:zH) (n:List UInt8):Fun Tryz.prog G 220 [.agg (Hl e),.str n] (.sc (.int .i64 (Lib.compareBytes e.name n))) 0:=by
 have h:=(vH e.name n).glob0 (G':=G)
 refine fon Tryz.func220 ?_;dsimp only[Tryz.f220]
 push_cast -dsimp
 refine cl (h) ?_;push_cast -dsimp
 exact dn
theorem GN (es:List zH) (n:List UInt8) (hl:es.length<=100000) (hR:jh j7 zH.name es) :
  Fun Tryz.prog G 219 [.sl 2 (zK es),.str n,.clo (.func 220) [] []] (.tup [.sc (.int .i64 (qZ j7 zH.name n es:Nat)),.sc (.bool (ZC zH.name n es))]) 0:=by
 refine fon Tryz.func219 ?_;dsimp only[Tryz.f219]
 push_cast -dsimp
 refine loop (fun p:Nat×Nat=>⟨[(0,.sl 2 (zK es)),(1,.str n),(2,.clo (.func 220) [] []),(8,.sc (.int .i64 (es.length:Nat))),(9,.sc (.int .i64 p.1)),(10,.sc (.int .i64 p.2))],[],0,0⟩)
  (fun p=>p.1<=p.2/\p.2<=es.length/\(∀ t (h:t<es.length),t<p.1->(j7).lt (zH.name es[t]) n=true)/\∀ t (h:t<es.length),p.2<=t->(j7).lt (zH.name es[t]) n=false) (fun p=>p.2-p.1) (0,es.length) ⟨Nat.zero_le _,Nat.le_refl _,fun t _ h=>by (simp at h),fun t h h'=>by (dsimp only at h';omega)⟩ ?_ ?_
 ·exact wk (by push_cast -dsimp [zb,za,CLe,ze,List.length_map])
 ·rintro ⟨i,j⟩ ⟨h1,h2,h3,h4⟩
  dsimp only at h1 h2 h3 h4 ⊢
  by_cases h:i<j
  ·obtain ⟨m,hm⟩:∃ m,m=(i+j) / 2:=⟨_,rfl⟩
   have hmi:((i:Int)+(j:Int)) / 2=(m:Int):=by omega
   have hml:m<es.length:=by omega
   have hat:=jX es m hml
   have hlt:=(zaE es[m].name n).to_iff
   push_cast -dsimp [h,hmi,hat]
   repeat refine an ?_
   refine cl ((yA es[m] n)) ?_;push_cast -dsimp
   cases hc:(j7).lt (zH.name es[m]) n with
   | true =>
    have hcv:(Lib.compareBytes es[m].name n<0)=True:=eq_true (hlt.mpr hc)
    push_cast -dsimp [hcv]
    repeat refine an ?_
    refine ⟨(m+1,j),⟨by omega,h2,fun t ht hlt2=>?_,h4⟩,by dsimp only;omega,wk⟩
    dsimp only at hlt2
    rcases Nat.lt_or_ge t m with q | q
    ·exact (j7).tr ((List.pairwise_iff_getElem.1 hR) t m ht hml q) hc
    ·have:t=m:=by omega
     subst this;exact hc
   | false =>
    have hcv:(Lib.compareBytes es[m].name n<0)=False:=eq_false (fun e=>by have h7:(j7).lt (zH.name es[m]) n=true:=hlt.mp e;rw[hc]at h7;cases h7)
    push_cast -dsimp [hcv]
    repeat refine an ?_
    refine ⟨(i,m),⟨by omega,by omega,h3,fun t ht hge=>?_⟩,by dsimp only;omega,wk⟩
    dsimp only at hge
    rcases Nat.lt_or_ge m t with q | q
    ·cases h9:(j7).lt (zH.name es[t]) n with
     | false=>rfl
     | true=>have:=(j7).tr ((List.pairwise_iff_getElem.1 hR) m t hml ht q) h9;rw[hc]at this;cases this
    ·have:t=m:=by omega
     subst this;exact hc
  ·have hij:i=j:=by omega
   subst hij
   have hrk:=Hu (o:=j7) (key:=zH.name) n es i h2 h3 h4
   push_cast -dsimp [h]
   refine br (fun hx=>?_) (fun hx=>?_)
   ·have hx:i<es.length:=by simpa using hx
    have hat:=jX es i hx
    have hh:=zkK n hR hrk hx
    push_cast -dsimp [hx,hat]
    repeat refine an ?_
    refine cl ((yA es[i] n)) ?_;push_cast -dsimp
    have hcv:decide (Lib.compareBytes es[i].name n=0)=ZC zH.name n es:=by
     rw[hh]
     exact decide_eq_decide.2 (zbt es[i].name n).to_iff
    push_cast -dsimp [hcv]
    exact dn (by push_cast -dsimp [zb,za,CLe,ze,hrk])
   ·have hx:¬i<es.length:=by simpa using hx
    have hh:=ze7 n hR (by omega)
    push_cast -dsimp [hx]
    exact dn (by push_cast -dsimp [zb,za,CLe,ze,hrk,hh])
theorem zdR (es:List zH) (n:List UInt8) (hl:es.length<=100000) (hR:XB es):Fun Tryz.prog G 179 [.sl 2 (zK es),.str n] (.tup [.sc (.int .i64 (qZ j7 zH.name n es:Nat)),.sc (.bool (ZC zH.name n es))]) 0:=by
 refine fon Tryz.func179 ?_;dsimp only[Tryz.f179]
 push_cast -dsimp
 refine cl (GN es n hl hR) ?_;push_cast -dsimp
 exact dn
theorem Gb (es:List zH) (n:List UInt8) (hl:es.length<=100000) (hR:XB es):Fun Tryz.prog G 151 [.sl 2 (zK es),.str n] (.tup [.sc (.int .i64 (zI n es)),.sc (.bool (Z3 n es))]) 0:=by
 obtain ⟨_,_,h3,h4⟩:=vk n hR
 have h:=zdR (G:=G) es n hl hR
 cases hh:ZC zH.name n es with
 | false =>
  have hf:zI n es=0:=by unfold zI;rw[(h4 hh).1]
  have he:Z3 n es=false:=hh
  rw[hh]at h
  refine fon Tryz.func151 ?_;dsimp only[Tryz.f151]
  push_cast -dsimp
  refine cl (h) ?_;push_cast -dsimp
  exact dn (by push_cast -dsimp [zb,za,CLe,ze,hf,he])
 | true =>
  obtain ⟨hlt,_,g2,_⟩:=h3 hh
  have hf:zI n es=es[qZ j7 zH.name n es].ino:=by unfold zI;rw[g2]
  have he:Z3 n es=true:=hh
  have hat:=jX es _ hlt
  rw[hh]at h
  refine fon Tryz.func151 ?_;dsimp only[Tryz.f151]
  push_cast -dsimp
  refine cl (h) ?_;push_cast -dsimp [hat]
  repeat refine an ?_
  exact dn (by push_cast -dsimp [zb,za,CLe,ze,hf,he])
end
end
section
open CA CB
open Go.RowKit
section
variable {G:zj}
theorem qV {es:List zH}:∀ r∈zK es,r.length=2:=fun r hr=>by
 obtain ⟨x,_,rfl⟩:=List.mem_map.1 hr;rfl
theorem qH {es:List zH}:js (zK es):=fun r hr=>by
 obtain ⟨x,_,rfl⟩:=List.mem_map.1 hr;rfl
theorem x7 {k c i:Nat} {rows:List (List C)} (hk:∀ r∈rows,r.length=k) (hi:i<=rows.length):(jm k rows c).take (i*k)=(rows.take i).flatten:=by
 have hf:=qg hk
 have h1:i*k<=rows.length*k:=Nat.mul_le_mul_right _ hi
 unfold jm
 rw[List.take_append_of_le_length (by omega),Vc hk]
theorem zfp {es:List zH} {c r:Nat} {i:Int} (hr:r<es.length) :
  (jm 2 (zK es) c).take (r*2+1)++[C.sc (.int .i64 i)]++(jm 2 (zK es) c).drop (r*2+1+1)=jm 2 (zK (es.set r ⟨es[r].name,i⟩)) c:=by
 have hll:(zK es).length=es.length:=List.length_map ..
 have h:=yt (c:=c) (row:=Hl ⟨es[r].name,i⟩) (i:=r) qV rfl (show r<(zK es).length by omega)
 have e1:(zK es).set r (Hl ⟨es[r].name,i⟩)=zK (es.set r ⟨es[r].name,i⟩):=by simp[List.map_set]
 rw[e1]at h
 rw[←h]
 have t0:=x7 (c:=c) (i:=r) (qV (es:=es)) (by omega)
 have t1:=x7 (c:=c) (i:=r+1) (qV (es:=es)) (by omega)
 have e2:((zK es).take (r+1)).flatten=((zK es).take r).flatten++Hl es[r]:=by
  rw[List.take_add_one,jX es r hr];simp
 have e3:(jm 2 (zK es) c).take (r*2+1)=(jm 2 (zK es) c).take (r*2)++[C.str es[r].name]:=by
  have e4:(jm 2 (zK es) c).take (r*2+1)=((jm 2 (zK es) c).take ((r+1)*2)).take (r*2+1):=by rw[List.take_take,Nat.min_eq_left (by omega)]
  have hl0:((zK es).take r).flatten.length=r*2:=by
   rw[qg (k:=2) fun x hx=>qV x (List.mem_of_mem_take hx),List.length_take,hll,Nat.min_eq_left (by omega)]
  rw[e4,t1,e2,t0,List.take_append,hl0,List.take_of_length_le (by omega),show r*2+1-r*2=1 by omega]
  rfl
 rw[e3]
 simp
theorem zc1 (es:List zH) (n:List UInt8) (i:Int) (hl:es.length<=90000) (hR:XB es) :
  Fun Tryz.prog G 257 [.sl 2 (zK es),.str n,.sc (.int .i64 i)] (.own 0 141 2 (zK (qf n i es))) 1:=by
 obtain ⟨_,_,h3,h4⟩:=vk n hR
 have hll:(zK es).length=es.length:=List.length_map ..
 have hat:=zdR (G:=G) es n (by omega) hR
 have hrl:=zgs (o:=j7) (key:=zH.name) n es
 refine foF (fun _=>[]) Tryz.func257 ?_;dsimp only[Tryz.f257]
 push_cast -dsimp
 refine cl (hat) ?_;push_cast -dsimp
 refine YF [] [] (vK (zK es) qV qH (by omega)) rfl (by decide) (by decide) (by simp) (by push_cast -dsimp) (by push_cast -dsimp) (fun r bx' m hp=>?_)
 obtain ⟨rfl,⟨hne,c,h1,h2,rfl,rfl⟩ | ⟨he,⟨rfl,rfl⟩ | ⟨rfl,rfl⟩⟩⟩:=hp
 ·have hbl:=XZ qV h1
  have hre:∀ fp fo,C.reL fp fo (jm 2 (zK es) c)=jm 2 (zK es) c:=fun fp fo=>qu (qm qH)
  have hpos:=List.length_pos_iff.2 hne
  cases hh:ZC zH.name n es with
  | true =>
   obtain ⟨hlt,g1,g2,g3,g4⟩:=h3 hh
   have hset:qf n i es=es.set (qZ j7 zH.name n es) ⟨n,i⟩:=g4 ⟨n,i⟩ rfl
   have hbs:=zfp (c:=c) (i:=i) hlt
   rw[g1,←hset]at hbs
   have hwl:(qf n i es).length=es.length:=by rw[hset,List.length_set]
   push_cast -dsimp [hh,hre]
   rw[hbs]
   refine ⟨by omega,by omega,by rw[hbl];omega,[(1,141,2,zK (qf n i es),c)],[.inl 0],qT rfl (by omega) (by rw[List.length_map,hwl];omega) h2 qV qH,rfl,rfl,?_⟩
   rw[hll,←hwl]
   push_cast -dsimp [zb,za,CLe,ze,show (zK (qf n i es)).length=(qf n i es).length from List.length_map ..]
  | false =>
   have hw:qf n i es=es.take (qZ j7 zH.name n es)++⟨n,i⟩ :: es.drop (qZ j7 zH.name n es):=by
    unfold qf
    rw[(h4 hh).2.1]
    exact (h4 hh).2.2 ⟨n,i⟩ rfl
   have hset:zK (qf n i es)=(zK es).take (qZ j7 zH.name n es)++Hl ⟨n,i⟩ :: (zK es).drop (qZ j7 zH.name n es):=by rw[hw];simp
   have hsl:(zK (qf n i es)).length=(zK es).length+1:=by rw[hset];simp;omega
   push_cast -dsimp [hh,hre]
   refine YF [1] [0] (yG (e:=141) (zK es) (Hl ⟨n,i⟩) (qZ j7 zH.name n es) c qV rfl qH rfl (by omega) (by omega) h1 h2) rfl (by decide) (by decide) (by simp) (by push_cast -dsimp) (by push_cast -dsimp [hre]) (fun r bx' m hp=>?_)
   rw[←hset]at hp
   have hre2:∀ fp fo c,C.reL fp fo (jm 2 (zK (qf n i es)) c)=jm 2 (zK (qf n i es)) c:=fun fp fo c=>qu (qm qH)
   obtain ⟨rfl,c',g1,g2,⟨rfl,rfl⟩ | ⟨rfl,rfl⟩⟩:=hp
   ·push_cast -dsimp [hre2,hre]
    exact ⟨[(1,141,2,zK (qf n i es),c')],[.inl 1],qT rfl (by omega) g1 g2 qV qH,rfl,rfl,by push_cast -dsimp [zb,za,CLe,ze]⟩
   ·have hra:∀ fp fo,C.reL fp fo (List.replicate (c*2) .any)=List.replicate (c*2) .any:=fun fp fo=>qu (by simp[List.all_replicate,C.stayB])
    push_cast -dsimp [hre2,hre,hra]
    exact ⟨[(2,141,2,zK (qf n i es),c')],[.inl 1],qT rfl (by omega) g1 g2 qV qH,rfl,rfl,by push_cast -dsimp [zb,za,CLe,ze]⟩
 ·have he:es = []:=by simpa using he
  have hh:ZC zH.name n es=false:=by rw[he];rfl
  have hr0:qZ j7 zH.name n es=0:=by rw[he];rfl
  have hset:qf n i es = [⟨n,i⟩]:=by rw[he];rfl
  push_cast -dsimp [hh,hr0]
  refine YF [] [0] (zgo (e:=141) (Hl ⟨n,i⟩) rfl rfl) rfl (by decide) (by decide) (by simp) (by push_cast -dsimp) (by push_cast -dsimp) (fun r bx' m hp=>?_)
  obtain ⟨rfl,c,g1,g2,rfl,rfl⟩:=hp
  have hre:∀ fp fo,C.reL fp fo (jm 2 [Hl ⟨n,i⟩] c)=jm 2 [Hl ⟨n,i⟩] c:=fun fp fo=>qu (qm (qH (es:=[⟨n,i⟩])))
  push_cast -dsimp [hre]
  exact ⟨[(0,141,2,zK [⟨n,i⟩],c)],[.inl 1],qT rfl (by omega) g1 g2 qV qH,rfl,rfl,by push_cast -dsimp [zb,za,CLe,ze,hset]⟩
 ·have he:es = []:=by simpa using he
  have hh:ZC zH.name n es=false:=by rw[he];rfl
  have hr0:qZ j7 zH.name n es=0:=by rw[he];rfl
  have hset:qf n i es = [⟨n,i⟩]:=by rw[he];rfl
  push_cast -dsimp [hh,hr0]
  refine YF [0] [0] (yG (e:=141) [] (Hl ⟨n,i⟩) 0 0 (fun r hr=>by cases hr) rfl (fun r hr=>by cases hr) rfl (by simp) (by simp) (by simp) (by simp)) rfl (by decide) (by decide) (by simp) (by push_cast -dsimp) (by push_cast -dsimp [jm]) (fun r bx' m hp=>?_)
  obtain ⟨rfl,c,g1,g2,hp⟩:=hp
  have hre:∀ fp fo,C.reL fp fo (jm 2 [Hl ⟨n,i⟩] c)=jm 2 [Hl ⟨n,i⟩] c:=fun fp fo=>qu (qm (qH (es:=[⟨n,i⟩])))
  rcases hp with ⟨rfl,rfl⟩ | ⟨rfl,rfl⟩
  ·push_cast -dsimp [hre]
   exact ⟨[(0,141,2,zK [⟨n,i⟩],c)],[.inl 1],qT rfl (Nat.lt_of_lt_of_le (Nat.zero_lt_succ _) g1) g1 g2 qV qH,rfl,rfl,by push_cast -dsimp [zb,za,CLe,ze,hset]⟩
  ·push_cast -dsimp [hre]
   exact ⟨[(1,141,2,zK [⟨n,i⟩],c)],[.inl 1],qT rfl (Nat.lt_of_lt_of_le (Nat.zero_lt_succ _) g1) g1 g2 qV qH,rfl,rfl,by push_cast -dsimp [zb,za,CLe,ze,hset]⟩
end
end
section
open CA CB
open Go.RowKit
section
variable {G:zj}
end
end
section
theorem kr (n:Int) (xs:List zn):zw n xs=(XO n xs).isSome:=by
 unfold zw XO
 induction xs with
 | nil=>rfl
 | cons y r ih =>
  rw[List.any_cons,List.find?_cons]
  cases h:(y.ino==n) with
  | true=>rfl
  | false=>rw[Bool.false_or,ih]
theorem zgN {n:Int} {xs:List zn} {x:zn} (h:XO n xs=some x):x.ino=n/\x∈xs:=by
 unfold XO at h
 have h1:=List.find?_some h
 exact ⟨by simpa using h1,List.mem_of_find?_eq_some h⟩
theorem yU (n:Int) (x:zn):∀ xs:List zn,(∀ z∈xs,z.ino≠x.ino)->XO n (V1 x xs)=if x.ino=n then some x else XO n xs
 | [],_=>by
  unfold V1 XO
  by_cases h:x.ino=n<;>simp[h]
 | y :: r,hn=>by
  have hy:=hn y List.mem_cons_self
  have ih:=yU n x r fun z hz=>hn z (List.mem_cons_of_mem _ hz)
  unfold XO at ih ⊢
  unfold V1
  split
  ·by_cases h:x.ino=n
   ·simp[h]
   ·simp[h,List.find?_cons]
  ·by_cases h:x.ino=n
   ·rw[if_pos h]at ih ⊢
    have hyn:(y.ino==n)=false:=by simp;omega
    rw[List.find?_cons,hyn];exact ih
   ·rw[if_neg h]at ih ⊢
    rw[List.find?_cons,List.find?_cons,ih]
theorem NE (n m:Int):∀ xs:List zn,XO n (Yp m xs)=if n=m then none else XO n xs
 | []=>by unfold XO Yp;simp
 | y :: r=>by
  have ih:=NE n m r
  by_cases hy:y.ino=m
  ·rw[Y8 hy,ih]
   by_cases h:n=m
   ·rw[if_pos h,if_pos h]
   ·rw[if_neg h,if_neg h]
    have hyn:(y.ino==n)=false:=by simp;omega
    unfold XO
    rw[List.find?_cons,hyn]
  ·rw[Y1 hy]
   unfold XO at ih ⊢
   rw[List.find?_cons,List.find?_cons,ih]
   by_cases h:n=m
   ·have hyn:(y.ino==n)=false:=by simp;omega
    simp only[hyn,if_pos h]
   ·simp only[if_neg h]
theorem zjU {n:Int} {xs:List zn}:∀ z∈Yp n xs,z.ino≠n:=fun z hz=>by
 unfold Yp at hz
 simpa using (List.mem_filter.1 hz).2
theorem x9 (n:Int) (x:zn) (xs:List zn):XO n (jp x xs)=if x.ino=n then some x else XO n xs:=by
 unfold jp
 rw[yU n x _ zjU,NE]
 by_cases h:x.ino=n
 ·rw[if_pos h,if_pos h]
 ·rw[if_neg h,if_neg h,if_neg (fun e=>h e.symm)]
theorem Qc (n:Int) (x:zn) (xs:List zn):zw n (jp x xs)=(decide (x.ino=n)||zw n xs):=by
 rw[kr,x9,kr]
 by_cases h:x.ino=n<;>simp[h]
def yB (g:zn->Nat) (xs:List zn):Nat:=(xs.map g).sum
theorem Np (g:zn->Nat) {n:Int}:∀ {xs:List zn},zW xs->yB g xs=yB g (Yp n xs)+(match XO n xs with | some x=>g x | none=>0)
 | [],_=>rfl
 | y :: r,hR=>by
  obtain ⟨h1,h2⟩:=j9.1 hR
  have ih:=Np g (n:=n) h2
  unfold yB at ih ⊢
  by_cases hy:y.ino=n
  ·have hb:zw n r=false:=Mr fun z hz=>by have:=h1 z hz;omega
   have hg:XO n (y :: r)=some y:=by unfold XO;rw[List.find?_cons_of_pos (by simpa using hy)]
   rw[hg,Y8 hy,k7 hb]
   simp;omega
  ·have hg:XO n (y :: r)=XO n r:=by unfold XO;rw[List.find?_cons_of_neg (by simpa using hy)]
   rw[hg,Y1 hy]
   simp only[List.map_cons,List.sum_cons]
   omega
theorem y6 (g:zn->Nat) (x:zn):∀ xs:List zn,yB g (V1 x xs)=yB g xs+g x
 | []=>by unfold V1 yB;simp
 | y :: r=>by
  have ih:=y6 g x r
  unfold yB at ih ⊢
  unfold V1
  split
  ·simp;omega
  ·simp only[List.map_cons,List.sum_cons];omega
theorem ZN (g:zn->Nat) {x:zn} {xs:List zn} (hR:zW xs):yB g (jp x xs)+(match XO x.ino xs with | some y=>g y | none=>0)=yB g xs+g x:=by
 unfold jp
 rw[y6,Np g (n:=x.ino) hR]
 omega
end
section
def Vi (n:Int) (x:zn):Nat:=(x.es.filter fun e=>decide (e.ino=n)).length
def Hc (n:Int) (xs:List zn):Nat:=yB (Vi n) xs
structure FsI (f:FsV):Prop where
 rises:zW f.xs
 ino:∀ x∈f.xs,1<=x.ino/\x.ino<f.next
 kind:∀ x∈f.xs,x.kind=1∨x.kind=2∨x.kind=3
 es:∀ x∈f.xs,XB x.es
 file:∀ x∈f.xs,x.kind≠2->x.es = []
 led:∀ x∈f.xs,∀ e∈x.es,zw e.ino f.xs=true
 links:∀ x∈f.xs,x.links=(Hc x.ino f.xs:Int)
 root:zw 1 f.xs=true
 base:(zf 1 f.xs).kind=2
 bare:Hc 1 f.xs=0
theorem zq {n:Int} {xs:List zn} (h:zw n xs=true):XO n xs=some (zf n xs)/\zf n xs∈xs/\(zf n xs).ino=n:=by
 rw[kr]at h
 obtain ⟨x,hx⟩:=Option.isSome_iff_exists.1 h
 have e:zf n xs=x:=by unfold zf;rw[hx];rfl
 obtain ⟨h1,h2⟩:=zgN hx
 rw[e]
 exact ⟨hx,h2,h1⟩
theorem Jl {n:Int} {xs:List zn} (h:zw n xs=false):XO n xs=none/\zf n xs=vO:=by
 have h1:=k8 h
 exact ⟨h1,by unfold zf;rw[h1];rfl⟩
theorem Ql (n:Int) (x:zn) (xs:List zn):zf n (jp x xs)=if x.ino=n then x else zf n xs:=by
 unfold zf
 rw[x9]
 split<;>rfl
theorem j5 {x z:zn} {xs:List zn}:z∈jp x xs↔z=x∨(z∈xs/\z.ino≠x.ino):=by
 unfold jp
 rw[kA]
 unfold Yp
 simp
theorem JF {x:zn} {xs:List zn} (h:x∈xs):zw x.ino xs=true:=by
 unfold zw
 exact List.any_eq_true.2 ⟨x,h,by simp⟩
theorem yJ {α κ:Type} [DecidableEq κ] {o:zjd κ} {key:α->κ} (p:α->Bool) (x:α):∀ xs:List α,((VL o key x xs).filter p).length=(xs.filter p).length+if p x then 1 else 0
 | []=>by unfold VL;cases h:p x<;>simp[h]
 | y :: r=>by
  have ih:=yJ (o:=o) (key:=key) p x r
  unfold VL
  split
  ·cases h:p x<;>simp[h,List.filter_cons]
  ·rw[List.filter_cons,List.filter_cons]
   cases h:p y
   ·simpa using ih
   ·simp[ih];omega
theorem JY {α κ:Type} [DecidableEq κ] {key:α->κ} {n:κ} {xs:List α} {e:α} (h:JM key n xs=some e):key e=n/\e∈xs:=by
 unfold JM at h
 exact ⟨by have:=List.find?_some h;simpa using this,List.mem_of_find?_eq_some h⟩
theorem Jd {α κ:Type} [DecidableEq κ] {key:α->κ} {n:κ} {xs:List α}:ZC key n xs=(JM key n xs).isSome:=by
 unfold ZC JM
 induction xs with
 | nil=>rfl
 | cons y r ih =>
  rw[List.any_cons,List.find?_cons]
  cases h:decide (key y=n) with
  | true=>rfl
  | false=>rw[Bool.false_or,ih]
theorem ziz {n m:Int} {x:zn} {xs:List zn} (hR:zW xs) (hh:zw n xs=true) (hx:x.ino=n):Hc m (jp x xs)+Vi m (zf n xs)=Hc m xs+Vi m x:=by
 have h:=ZN (Vi m) (x:=x) hR
 rw[hx,(zq hh).1]at h
 exact h
theorem zbu {m:Int} {x:zn} {xs:List zn} (hR:zW xs) (hh:zw x.ino xs=false):Hc m (jp x xs)=Hc m xs+Vi m x:=by
 have h:=ZN (Vi m) (x:=x) hR
 rw[(Jl hh).1]at h
 exact h
theorem zg7 {n:Int} {xs:List zn} (h:∀ x∈xs,∀ e∈x.es,e.ino≠n):Hc n xs=0:=by
 unfold Hc yB
 rw[List.sum_eq_zero_iff_forall_eq_nat]
 intro k hk
 obtain ⟨x,hx,rfl⟩:=List.mem_map.1 hk
 unfold Vi
 rw[List.length_eq_zero_iff,List.filter_eq_nil_iff]
 intro e he
 simpa using h x hx e he
theorem Gd {m i:Int} {n:List UInt8} {es:List zH} {x:zn} (hR:XB es) (h:Z3 n es=false):Vi m { x with es:=qf n i es }=Vi m { x with es:=es }+if i=m then 1 else 0:=by
 obtain ⟨_,_,_,h4⟩:=vk n hR
 unfold qf Vi
 rw[(h4 h).2.1]
 show ((VL j7 zH.name ⟨n,i⟩ es).filter _).length=_
 rw[yJ]
 by_cases hi:i=m<;>simp[hi]
theorem ZP {n:List UInt8} {es:List zH} (h:Z3 n es=true):JM zH.name n es=some ⟨n,zI n es⟩:=by
 unfold Z3 at h
 rw[Jd]at h
 obtain ⟨e,he⟩:=Option.isSome_iff_exists.1 h
 have h1:=(JY he).1
 unfold zI
 rw[he]
 cases e with
 | mk a b=>simp at h1 ⊢;exact h1
theorem zaj {n:List UInt8} {i:Int} {es:List zH} (h:XB es):XB (qf n i es):=VA (x:=(⟨n,i⟩:zH)) h
theorem ZL {n:List UInt8} {i:Int} {es:List zH} {e:zH} (h:e∈qf n i es):e=⟨n,i⟩∨e∈es:=by
 unfold qf at h
 rcases Hj.1 h with h | h
 ·exact .inl h
 ·exact .inr (G9.1 h).1
end
section
structure VJ (f:FsV) (s:zR):Prop where
 has:zw s.dir f.xs=true
 kind:(zf s.dir f.xs).kind=2
 free:Z3 s.name (zf s.dir f.xs).es=false
structure zpc (f:FsV) (s:zR):Prop where
 has:zw s.dir f.xs=true
 kind:(zf s.dir f.xs).kind=2
 there:JM zH.name s.name (zf s.dir f.xs).es=some ⟨s.name,s.ino⟩
abbrev jQ (d:zn) (es:List zH):zn:={ d with es:=es }
theorem YT {xs:List zn} {n:Int} {F:List zH->List zH} (hh:zw n xs=true) {z:zn}:z∈Xw n F xs↔z=jQ (zf n xs) (F (zf n xs).es)∨(z∈xs/\z.ino≠n):=by
 unfold Xw
 rw[j5]
 show z=jQ _ _∨(z∈xs/\z.ino≠(zf n xs).ino)↔_
 rw[(zq hh).2.2]
theorem QT {xs:List zn} {n m:Int} {F:List zH->List zH} (hh:zw n xs=true):zw m (Xw n F xs)=zw m xs:=by
 unfold Xw
 rw[Qc]
 show (decide ((zf n xs).ino=m)||zw m xs)=_
 rw[(zq hh).2.2]
 by_cases h:n=m
 ·subst h;rw[hh];simp
 ·simp[h]
theorem zaC {xs:List zn} {n m:Int} {F:List zH->List zH} (hh:zw n xs=true):zf m (Xw n F xs)=if n=m then jQ (zf n xs) (F (zf n xs).es) else zf m xs:=by
 unfold Xw
 rw[Ql]
 show (if (zf n xs).ino=m then _ else _)=_
 rw[(zq hh).2.2]
theorem zd3 {xs:List zn} {n m:Int} {F:List zH->List zH} (hR:zW xs) (hh:zw n xs=true):Hc m (Xw n F xs)+Vi m (zf n xs)=Hc m xs+Vi m (jQ (zf n xs) (F (zf n xs).es)):=
 ziz hR hh (zq hh).2.2
theorem kE {f:FsV} (hf:FsI f):zw f.next f.xs=false/\∀ x∈f.xs,∀ e∈x.es,e.ino≠f.next:=by
 have h1:zw f.next f.xs=false:=by
  rw[Bool.eq_false_iff]
  intro h
  have:=(hf.ino _ (zq h).2.1).2
  rw[(zq h).2.2]at this
  omega
 refine ⟨h1,fun x hx e he hn=>?_⟩
 have:=hf.led x hx e he
 rw[hn,h1]at this
 cases this
theorem Mg {f:FsV} (hf:FsI f):1<f.next:=by
 have:=(hf.ino _ (zq hf.root).2.1).2
 rw[(zq hf.root).2.2]at this
 exact this
theorem zkv {f:FsV} (hf:FsI f) {s:zR} (hs:VJ f s) (k:Int) (hk:k=1∨k=2∨k=3) (t:List UInt8):FsI (HG f s k t):=by
 obtain ⟨n1,n2⟩:=kE hf
 have hd:=(zq hs.has).2.1
 have hR1:zW (Xw s.dir (qf s.name f.next) f.xs):=X1 hf.rises
 have hn1:zw f.next (Xw s.dir (qf s.name f.next) f.xs)=false:=by rw[QT hs.has];exact n1
 have hlt:=Mg hf
 have hdn:s.dir≠f.next:=fun e=>by have:=hs.has;rw[e,n1]at this;cases this
 refine ⟨X1 hR1,fun x hx=>?_,fun x hx=>?_,fun x hx=>?_,fun x hx hk2=>?_,fun x hx e he=>?_,fun x hx=>?_,?_,?_,?_⟩
 ·rcases j5.1 hx with rfl | ⟨hx,_⟩
  ·exact ⟨by show 1<=f.next;omega,by show f.next<f.next+1;omega⟩
  ·rcases (YT hs.has).1 hx with rfl | ⟨hx,_⟩
   ·have:=hf.ino _ hd
    exact ⟨this.1,by show (zf s.dir f.xs).ino<f.next+1;omega⟩
   ·have:=hf.ino _ hx
    exact ⟨this.1,by show x.ino<f.next+1;omega⟩
 ·rcases j5.1 hx with rfl | ⟨hx,_⟩
  ·exact hk
  ·rcases (YT hs.has).1 hx with rfl | ⟨hx,_⟩
   ·exact .inr (.inl hs.kind)
   ·exact hf.kind _ hx
 ·rcases j5.1 hx with rfl | ⟨hx,_⟩
  ·exact List.Pairwise.nil
  ·rcases (YT hs.has).1 hx with rfl | ⟨hx,_⟩
   ·exact zaj (hf.es _ hd)
   ·exact hf.es _ hx
 ·rcases j5.1 hx with rfl | ⟨hx,_⟩
  ·rfl
  ·rcases (YT hs.has).1 hx with rfl | ⟨hx,_⟩
   ·exact absurd hs.kind hk2
   ·exact hf.file _ hx hk2
 ·show zw e.ino (jp _ _)=true
  rw[Qc,QT hs.has]
  show (decide (f.next=e.ino)||zw e.ino f.xs)=true
  rcases j5.1 hx with rfl | ⟨hx,_⟩
  ·cases he
  ·rcases (YT hs.has).1 hx with rfl | ⟨hx,_⟩
   ·rcases ZL he with rfl | he
    ·simp
    ·rw[hf.led _ hd e he,Bool.or_true]
   ·rw[hf.led _ hx e he,Bool.or_true]
 ·show x.links=(Hc x.ino (jp _ _):Int)
  rw[zbu hR1 hn1]
  have hc:=zd3 (m:=x.ino) (F:=qf s.name f.next) hf.rises hs.has
  have hw:=Gd (m:=x.ino) (i:=f.next) (x:=zf s.dir f.xs) (hf.es _ hd) hs.free
  have hz:Vi x.ino (⟨f.next,k,1,t,if k=2 then s.dir else 0,[]⟩:zn)=0:=rfl
  have hw:Vi x.ino (jQ (zf s.dir f.xs) (qf s.name f.next (zf s.dir f.xs).es))=Vi x.ino (zf s.dir f.xs)+if f.next=x.ino then 1 else 0:=hw
  rw[hz]
  rcases j5.1 hx with rfl | ⟨hx,hxn⟩
  ·have h0:Hc f.next f.xs=0:=zg7 n2
   have hw:Vi f.next (jQ (zf s.dir f.xs) (qf s.name f.next (zf s.dir f.xs).es))=Vi f.next (zf s.dir f.xs)+if f.next=f.next then 1 else 0:=hw
   rw[if_pos rfl]at hw
   show (1:Int)=((Hc f.next (Xw s.dir (qf s.name f.next) f.xs)+0:Nat):Int)
   have hc:Hc f.next (Xw s.dir (qf s.name f.next) f.xs)+Vi f.next (zf s.dir f.xs)=Hc f.next f.xs+Vi f.next (jQ (zf s.dir f.xs) (qf s.name f.next (zf s.dir f.xs).es)):=hc
   omega
  ·have hxn:x.ino≠f.next:=hxn
   rw[if_neg fun e=>hxn e.symm]at hw
   have hl:x.links=(Hc x.ino f.xs:Int):=by
    rcases (YT hs.has).1 hx with rfl | ⟨hx,_⟩
    ·exact hf.links (zf s.dir f.xs) hd
    ·exact hf.links _ hx
   omega
 ·show zw 1 (jp _ _)=true
  rw[Qc,QT hs.has,hf.root,Bool.or_true]
 ·show (zf 1 (jp _ _)).kind=2
  rw[Ql]
  rw[if_neg (show ¬f.next=1 by omega),zaC hs.has]
  split
  ·exact hs.kind
  ·exact hf.base
 ·show Hc 1 (jp _ _)=0
  rw[zbu hR1 hn1]
  have hc:=zd3 (m:=1) (F:=qf s.name f.next) hf.rises hs.has
  have hw:Vi 1 (jQ (zf s.dir f.xs) (qf s.name f.next (zf s.dir f.xs).es))=Vi 1 (zf s.dir f.xs)+if f.next=1 then 1 else 0:=Gd (m:=1) (i:=f.next) (x:=zf s.dir f.xs) (hf.es (zf s.dir f.xs) hd) hs.free
  have hz:Vi 1 (⟨f.next,k,1,t,if k=2 then s.dir else 0,[]⟩:zn)=0:=rfl
  have:=hf.bare
  rw[if_neg (show ¬f.next=1 by omega)]at hw
  omega
theorem zlK {f:FsV} (hf:FsI f) {s:zR} (hs:VJ f s) (k:Int) (hk:k=1∨k=2∨k=3) (t:List UInt8):FsI (X8 f s k t).1:=by
 unfold X8
 by_cases h1:may s.name=true
 ·rw[if_pos h1]
  by_cases h2:YE f 1 (if k=1 then (t.length:Int) else 0)=true
  ·rw[if_pos h2];exact zkv hf hs k hk t
  ·rw[if_neg h2];exact hf
 ·rw[if_neg h1];exact hf
end
section
theorem zh1 {f:FsV} (hf:FsI f):∀ (ns:List (List UInt8)) (s:zR),(s.ino≠0->zw s.ino f.xs=true)->(atW f.xs ns s).2=0->ns≠[] ->
  zw (atW f.xs ns s).1.dir f.xs=true/\(zf (atW f.xs ns s).1.dir f.xs).kind=2/\(atW f.xs ns s).1.ino=zI (atW f.xs ns s).1.name (zf (atW f.xs ns s).1.dir f.xs).es/\(atW f.xs ns s).1.name∈ns
 | [],s,_,_,h=>absurd rfl h
 | n :: r,s,hs,h0,_=>by
  unfold atW at h0 ⊢
  by_cases h1:s.ino=0
  ·rw[if_pos h1]at h0;cases h0
  rw[if_neg h1]at h0 ⊢
  by_cases h2:(zf s.ino f.xs).kind≠2
  ·rw[if_pos h2]at h0;cases h0
  rw[if_neg h2]at h0 ⊢
  have h2:(zf s.ino f.xs).kind=2:=Classical.not_not.1 h2
  have hg:=zq (hs h1)
  have hnx:zI n (zf s.ino f.xs).es≠0->zw (zI n (zf s.ino f.xs).es) f.xs=true:=fun hne=>by
   have hh:Z3 n (zf s.ino f.xs).es=true:=by
    unfold Z3
    rw[Jd]
    cases hq:JM zH.name n (zf s.ino f.xs).es with
    | some e=>rfl
    | none=>unfold zI at hne;rw[hq]at hne;exact absurd rfl hne
   exact hf.led _ hg.2.1 _ (JY (ZP hh)).2
  cases r with
  | nil =>
   unfold atW
   rw[hg.2.2]
   exact ⟨hs h1,h2,rfl,List.mem_cons_self⟩
  | cons m r =>
   obtain ⟨i1,i2,i3,i4⟩:=zh1 hf (m :: r) ⟨(zf s.ino f.xs).ino,n,zI n (zf s.ino f.xs).es⟩ hnx h0 (by simp)
   exact ⟨i1,i2,i3,List.mem_cons_of_mem _ i4⟩
theorem Mp {f:FsV} (hf:FsI f):∀ (ns:List (List UInt8)) (s:zR),(s.ino≠0->zw s.ino f.xs=true)->(atW f.xs ns s).1.ino≠0->zw (atW f.xs ns s).1.ino f.xs=true
 | [],s,hs,h=>hs h
 | n :: r,s,hs,h=>by
  unfold atW at h ⊢
  by_cases h1:s.ino=0
  ·rw[if_pos h1]at h;exact absurd rfl h
  rw[if_neg h1]at h ⊢
  by_cases h2:(zf s.ino f.xs).kind≠2
  ·rw[if_pos h2]at h;exact absurd rfl h
  rw[if_neg h2]at h ⊢
  have hg:=zq (hs h1)
  refine Mp hf r _ (fun hne=>?_) h
  have hne:zI n (zf s.ino f.xs).es≠0:=hne
  have hh:Z3 n (zf s.ino f.xs).es=true:=by
   unfold Z3
   rw[Jd]
   cases hq:JM zH.name n (zf s.ino f.xs).es with
   | some e=>rfl
   | none=>unfold zI at hne;rw[hq]at hne;exact absurd rfl hne
  exact hf.led _ hg.2.1 _ (JY (ZP hh)).2
end
section
structure xd (w:zY):Prop where
 fs:FsI w.fs
 kept:jh znP jC.slot w.kept
 pool:zW w.pool
 apart:∀ x∈w.pool,zw x.ino w.fs.xs=false/\x.ino<w.fs.next
theorem X3 {f:FsV} (hf:FsI f) {n:Int} (h:zw n f.xs=true):n≠0:=fun e=>by
 have:=(hf.ino _ (zq h).2.1).1
 rw[(zq h).2.2]at this
 omega
theorem km {f:FsV} (hf:FsI f) {d:Int} (hd:zw d f.xs=true) {n:List UInt8} (h:Z3 n (zf d f.xs).es=true):zw (zI n (zf d f.xs).es) f.xs=true:=
 hf.led _ (zq hd).2.1 _ (JY (ZP h)).2
theorem znc {f:FsV} (hf:FsI f) {p:List UInt8} (hp:zX p=true) (h:(atV f p).2=0) :
  zw (atV f p).1.dir f.xs=true/\(zf (atV f p).1.dir f.xs).kind=2/\(atV f p).1.ino=zI (atV f p).1.name (zf (atV f p).1.dir f.xs).es/\(atV f p).1.name∈zk p:=by
 unfold zX at hp
 simp only[Bool.and_eq_true,Bool.not_eq_true',decide_eq_false_iff_not]at hp
 unfold atV at h ⊢
 rw[if_pos hp.1]at h ⊢
 exact zh1 hf (zk p) ⟨0,[],1⟩ (fun _=>hf.root) h hp.2
theorem kB {f:FsV} (hf:FsI f) {p:List UInt8} (hp:zX p=true) (h:(isV f p false).2.2=0):VJ f (isV f p false).1:=by
 unfold isV at h ⊢
 simp only at h ⊢
 by_cases h0:(atV f p).2≠0
 ·rw[if_pos h0]at h;exact absurd h h0
 rw[if_neg h0]at h
 have h0:(atV f p).2=0:=Classical.not_not.1 h0
 obtain ⟨a1,a2,a3,_⟩:=znc hf hp h0
 refine ⟨a1,a2,?_⟩
 have hh:zw (atV f p).1.ino f.xs=false:=by
  cases hq:zw (atV f p).1.ino f.xs with
  | false=>rfl
  | true=>rw[hq]at h;simp at h
 rw[Bool.eq_false_iff]
 intro he
 have:=km hf a1 he
 rw[←a3,hh]at this
 cases this
theorem zoo {w:zY} (hw:xd w) {g:FsV} (hg:FsI g) (hn:w.fs.next<=g.next) (hh:∀ x∈w.pool,zw x.ino g.xs=false):xd { w with fs:=g }:=
 ⟨hg,hw.kept,hw.pool,fun x hx=>⟨hh x hx,by have:=(hw.apart x hx).2;show x.ino<g.next;omega⟩⟩
theorem Xg (f:FsV) (s:zR) (k:Int) (t:List UInt8):(X8 f s k t).1=f∨(X8 f s k t).1=HG f s k t:=by
 unfold X8
 by_cases h1:may s.name=true
 ·rw[if_pos h1]
  by_cases h2:YE f 1 (if k=1 then (t.length:Int) else 0)=true
  ·rw[if_pos h2];exact .inr rfl
  ·rw[if_neg h2];exact .inl rfl
 ·rw[if_neg h1];exact .inl rfl
theorem ziG {w:zY} (hw:xd w) {p:List UInt8} (hp:zX p=true) {k:Int} (hk:k=1∨k=2∨k=3) (t:List UInt8):xd (z7 w p k t).1:=by
 unfold z7
 by_cases h:(isV w.fs p false).2.2≠0
 ·rw[if_pos h];exact hw
 rw[if_neg h]
 have hs:=kB hw.fs hp (Classical.not_not.1 h)
 refine zoo hw (zlK hw.fs hs k hk t) ?_ ?_
 ·rcases Xg w.fs (isV w.fs p false).1 k t with e | e
  ·rw[e];exact Int.le_refl _
  ·rw[e];show w.fs.next<=w.fs.next+1;omega
 ·intro x hx
  obtain ⟨a1,a2⟩:=hw.apart x hx
  rcases Xg w.fs (isV w.fs p false).1 k t with e | e
  ·rw[e];exact a1
  ·rw[e]
   show zw x.ino (jp _ _)=false
   rw[Qc,QT hs.has,a1]
   show (decide (w.fs.next=x.ino)||false)=false
   rw[decide_eq_false (by omega)];rfl
end
section
def yP (N:Nat) (x:zn):Prop:=x.es.length<=N/\x.data.length<=5000/\∀ e∈x.es,e.name.length<=300
structure uK (N:Nat) (w:zY):Prop where
 len:w.fs.xs.length<=N
 node:∀ x∈w.fs.xs,yP N x
 klen:w.kept.length<=N
 kdata:∀ k∈w.kept,k.data.length<=5000
 plen:w.pool.length<=N
 pnode:∀ x∈w.pool,yP N x
 next:w.fs.next<=1099511627776+N
 room:w.fs.maxI<=1073741824/\w.fs.maxB<=1073741824/\-1073741824<=w.fs.maxI/\-1073741824<=w.fs.maxB
theorem yP.up {N:Nat} {x:zn} (h:yP N x):yP (N+1) x:=⟨Nat.le_succ_of_le h.1,h.2⟩
theorem uK.up {N:Nat} {w:zY} (h:uK N w):uK (N+1) w:=
 ⟨Nat.le_succ_of_le h.len,fun x hx=>(h.node x hx).up,Nat.le_succ_of_le h.klen,h.kdata,Nat.le_succ_of_le h.plen,fun x hx=>(h.pnode x hx).up,by have:=h.next;omega,h.room⟩
theorem UY {n:List UInt8} (h:may n=true):n.length<=255:=by
 unfold may at h
 simp only[Bool.and_eq_true,decide_eq_true_eq]at h
 exact h.1.1.1.2
theorem zby (n:List UInt8) (i:Int) (es:List zH):(qf n i es).length<=es.length+1:=by
 unfold qf
 rw[y7]
 have:=zbh (key:=zH.name) n es
 omega
theorem zdz {N:Nat} {x:zn} (h:yP N x) {n:List UInt8} (hn:n.length<=300) (i:Int):yP (N+1) (jQ x (qf n i x.es)):=by
 refine ⟨?_,h.2.1,fun e he=>?_⟩
 ·have:=zby n i x.es
  have:=h.1
  show (qf n i x.es).length<=N+1
  omega
 ·rcases ZL he with rfl | he
  ·exact hn
  ·exact h.2.2 e he
theorem ze6 {N:Nat} {xs:List zn} (h:∀ x∈xs,yP N x) {n:Int} (hh:zw n xs=true):yP N (zf n xs):=h _ (zq hh).2.1
theorem zkA {N:Nat} {xs:List zn} {x:zn} (h:∀ x∈xs,yP N x) (hx:yP N x):∀ z∈jp x xs,yP N z:=fun z hz=>by
 rcases j5.1 hz with rfl | ⟨hz,_⟩
 ·exact hx
 ·exact h z hz
theorem zgh {x:zn} {xs:List zn} (hR:zW xs) (hh:zw x.ino xs=true):(jp x xs).length=xs.length:=by rw[←xu hR hh];simp
theorem xo {xs:List zn} {n:Int} {F:List zH->List zH} (hR:zW xs) (hh:zw n xs=true):(Xw n F xs).length=xs.length:=by
 unfold Xw
 refine zgh hR ?_
 show zw (zf n xs).ino xs=true
 rw[(zq hh).2.2];exact hh
theorem zlT {f:FsV} (hf:FsI f) {p:List UInt8} (hp:zX p=true) (h:(atV f p).2=0):(atV f p).1.name.length<=300:=by
 have h1:=(znc hf hp h).2.2.2
 unfold zX Js at hp
 simp only[Bool.and_eq_true]at hp
 have:=UY (List.all_eq_true.1 hp.1.2 _ h1)
 omega
theorem ziE {f:FsV} {p:List UInt8} {b:Bool} (h:(isV f p b).2.2=0):(atV f p).2=0:=by
 unfold isV at h
 simp only at h
 by_cases h0:(atV f p).2≠0
 ·rw[if_pos h0]at h;exact h
 ·exact Classical.not_not.1 h0
theorem zoU {N:Nat} {w:zY} (hw:xd w) (hb:uK N w) {p:List UInt8} (hp:zX p=true) {k:Int} {t:List UInt8} (ht:t.length<=5000):uK (N+1) (z7 w p k t).1:=by
 unfold z7
 by_cases h:(isV w.fs p false).2.2≠0
 ·rw[if_pos h];exact hb.up
 rw[if_neg h]
 have h:=Classical.not_not.1 h
 have hs:=kB hw.fs hp h
 unfold X8
 by_cases h1:may (isV w.fs p false).1.name=true
 ·rw[if_pos h1]
  by_cases h2:YE w.fs 1 (if k=1 then (t.length:Int) else 0)=true
  ·rw[if_pos h2]
   have hl:=UY h1
   refine ⟨?_,?_,by have:=hb.klen;show w.kept.length<=N+1;omega,hb.kdata,by have:=hb.plen;show w.pool.length<=N+1;omega,fun x hx=>(hb.pnode x hx).up,?_,hb.room⟩
   ·show (jp _ _).length<=N+1
    refine Nat.le_trans zks ?_
    rw[xo hw.fs.rises hs.has]
    have:=hb.len;omega
   ·refine zkA (fun z hz=>?_) ⟨Nat.zero_le _,ht,fun e he=>by cases he⟩
    rcases (YT hs.has).1 hz with rfl | ⟨hz,_⟩
    ·exact zdz (ze6 hb.node hs.has) (by omega) _
    ·exact (hb.node z hz).up
   ·show w.fs.next+1<=_
    have:=hb.next;omega
  ·rw[if_neg h2];exact hb.up
 ·rw[if_neg h1];exact hb.up
end
section
open CA CB
open Go.RowKit
section
variable {G:zj}
theorem Me (f:FsV):Fun Tryz.prog G 277 [.agg (fsC f)] (.sc (.int .i64 (f.xs.length:Nat))) 0:=by
 refine fon Tryz.func277 ?_;dsimp only[Tryz.f277]
 push_cast -dsimp
 exact dn (by push_cast -dsimp [zb,za,CLe,ze,show (zE f.xs).length=f.xs.length from List.length_map ..])
theorem vE (f:FsV) (hf:FsS f):Fun Tryz.prog G 278 [.agg (fsC f)] (.sc (.int .i64 (zP f.xs:Nat))) 0:=by
 have hll:(zE f.xs).length=f.xs.length:=List.length_map ..
 have hb:=hf.bytes
 have h4:=hf.len
 have hb0:zP []=0:=rfl
 have hmono:∀ i,zP (f.xs.take i)<=100000000:=fun i=>by
  have h1:=Vx (xs:=f.xs.take i) (n:=10000) fun x hx=>(hf.node x (List.mem_of_mem_take hx)).2.1
  have h2:(f.xs.take i).length<=10000:=by rw[List.length_take];have:=hf.len;omega
  have:(f.xs.take i).length*10000<=10000*10000:=Nat.mul_le_mul_right _ h2
  omega
 refine fon Tryz.func278 ?_;dsimp only[Tryz.f278]
 push_cast -dsimp
 refine loop (fun i:Nat=>⟨[(1,.ptr 0 0),(3,.sc (.int .i64 (zP (f.xs.take i):Nat))),(7,.sc (.int .i64 (f.xs.length:Nat))),(8,.sc (.int .i64 i))],[fsC f],0,0⟩) (fun i=>i<=f.xs.length) (fun i=>f.xs.length-i) 0 (Nat.zero_le _) ?_ ?_
 ·exact wk (by push_cast -dsimp [zb,za,CLe,ze,hb0,hll,List.take_zero])
 ·intro i h1
  by_cases h:i<f.xs.length
  ·have g1:=qI f.xs i h
   have ht:=UK h
   have hm:=hmono (i+1)
   have hm0:=hmono i
   rw[ht]at hm
   by_cases hk:f.xs[i].kind=1
   ·rw[if_pos hk]at ht hm
    push_cast -dsimp [hll,h,g1,hk]
    repeat refine an ?_
    exact ⟨i+1,h,by omega,wk (by push_cast -dsimp [zb,za,CLe,ze,ht])⟩
   ·rw[if_neg hk]at ht hm
    push_cast -dsimp [hll,h,g1,hk]
    repeat refine an ?_
    exact ⟨i+1,h,by omega,wk (by push_cast -dsimp [zb,za,CLe,ze,ht,Nat.add_zero])⟩
  ·rw[List.take_of_length_le (by omega)]
   push_cast -dsimp [hll,h]
   exact dn
theorem ND (f:FsV) (hf:FsS f) (n b:Int) (hn:-1000000000<=n/\n<=1000000000) (hb:-1000000000<=b/\b<=1000000000):Fun Tryz.prog G 255 [.agg (fsC f),.sc (.int .i64 n),.sc (.int .i64 b)] (.sc (.bool (YE f n b))) 0:=by
 have h1:=Me (G:=G) f
 have h2:=vE (G:=G) f hf
 have h3:=hf.bytes
 have h4:=hf.len
 by_cases c1:(f.xs.length:Int)+n<=f.maxI
 ·have e:YE f n b=decide ((zP f.xs:Int)+b<=f.maxB):=by unfold YE;rw[decide_eq_true c1,Bool.true_and]
  refine fon Tryz.func255 ?_;dsimp only[Tryz.f255]
  push_cast -dsimp
  refine cl (h1) ?_;push_cast -dsimp [c1]
  repeat refine an ?_
  refine cl (h2) ?_;push_cast -dsimp
  repeat refine an ?_
  exact dn (by push_cast -dsimp [zb,za,CLe,ze,e])
 ·have e:YE f n b=false:=by unfold YE;rw[decide_eq_false c1,Bool.false_and]
  refine fon Tryz.func255 ?_;dsimp only[Tryz.f255]
  push_cast -dsimp
  refine cl (h1) ?_;push_cast -dsimp [c1]
  repeat refine an ?_
  exact dn (by push_cast -dsimp [zb,za,CLe,ze,e])
end
end
section
open CA CB
open Go.RowKit
abbrev V2 (s:zR):List C:=[.sc (.int .i64 s.dir),.str s.name,.sc (.int .i64 s.ino)]
theorem FsS.es {f:FsV} (h:FsS f) {n:Int} (hh:zw n f.xs=true):(zf n f.xs).es.length<=10000:=(h.node _ (zq hh).2.1).1
theorem zdg {xs:List (List UInt8)} {k:Nat} (h:k<xs.length):(zC xs)[k]?=some [.str xs[k]]:=by simp[List.getElem?_map,List.getElem?_eq_getElem h]
theorem yn (f:FsV) (hf:FsI f) (hs:FsS f) (p:List UInt8) (hp:p.length<=1000000):Fun Tryz.prog G0 218 [.agg (fsC f),.str p] (.tup [.agg (V2 (atV f p).1),.sc (.int .i64 (atV f p).2)]) 0:=by
 have hpl:=NG p (by omega)
 have hlen:=hs.len
 have hnl:(zk p).length<=1000000:=by have:=qw p;omega
 cases hpp:Js p with
 | false =>
  have e:atV f p=(qN,9):=by unfold atV;rw[hpp];rfl
  unfold Yv at hpl
  rw[hpp]at hpl
  refine fon Tryz.func218 ?_;dsimp only[Tryz.f218]
  push_cast -dsimp
  refine cl (hpl) ?_;push_cast -dsimp
  exact dn (by push_cast -dsimp [zb,za,CLe,ze,e,qN])
 | true =>
  have e:atV f p=atW f.xs (zk p) ⟨0,[],1⟩:=by unfold atV;rw[hpp];rfl
  unfold Yv at hpl
  rw[hpp,if_pos rfl]at hpl
  generalize zk p=ns at hpl hnl e
  have hsl:(zC ns).length=ns.length:=List.length_map ..
  refine fon Tryz.func218 ?_;dsimp only[Tryz.f218]
  push_cast -dsimp
  refine cl (hpl) ?_;push_cast -dsimp
  refine loop (fun x:Nat×zR=>⟨[(1,.str p),(2,.ptr 0 0),(4,.ptr 1 0),(8,.ptr 2 0),(24,.own 0 9 1 (zC ns)),(25,.sc (.int .i64 (ns.length:Nat))),(26,.sc (.int .i64 x.1))],[fsC f,[.sc (.int .i64 0),.str [],.sc (.int .i64 0)],V2 x.2],1,0⟩)
   (fun x=>x.1<=ns.length/\atW f.xs ns ⟨0,[],1⟩=atW f.xs (ns.drop x.1) x.2/\(x.2.ino≠0->zw x.2.ino f.xs=true)) (fun x=>ns.length-x.1) (0,⟨0,[],1⟩) ⟨Nat.zero_le _,rfl,fun _=>hf.root⟩ ?_ ?_
  ·exact wks [.inl 0] (by push_cast -dsimp [zb,za,CLe,ze,hsl])
  rintro ⟨k,s⟩ ⟨hk,hat,hin⟩
  simp only at hk hat hin ⊢
  by_cases hlt:k<ns.length
  ·have gs:=zdg hlt
   have hdr:ns.drop k=ns[k] :: ns.drop (k+1):=List.drop_eq_getElem_cons hlt
   obtain ⟨nm,hnm⟩:∃ nm,ns[k]=nm:=⟨_,rfl⟩
   rw[hnm]at gs hdr
   have hg:=Ym (G:=G0) f s.ino (by omega) hf.rises
   cases hh:zw s.ino f.xs with
   | false =>
    have h0:s.ino=0:=Classical.byContradiction fun hne=>by rw[hin hne]at hh;cases hh
    have hr:atV f p=(qN,1):=by rw[e,hat,hdr];unfold atW;rw[if_pos h0]
    rw[hh]at hg
    push_cast -dsimp [hlt,gs]
    repeat refine an ?_
    refine cl (hg) ?_;push_cast -dsimp
    exact dn (by push_cast -dsimp [zb,za,CLe,ze,hr,qN])
   | true =>
    have hn0:s.ino≠0:=X3 hf hh
    have hgg:=zq hh
    rw[hh]at hg
    by_cases hk2:(zf s.ino f.xs).kind=2
    ·have hfd:=Gb (G:=G0) (zf s.ino f.xs).es nm (by have:=hs.es hh;omega) (hf.es _ hgg.2.1)
     have hnx:atW f.xs ns ⟨0,[],1⟩=atW f.xs (ns.drop (k+1)) ⟨(zf s.ino f.xs).ino,nm,zI nm (zf s.ino f.xs).es⟩:=by
      rw[hat,hdr]
      conv=>lhs;unfold atW
      rw[if_neg hn0,if_neg (by simp[hk2])]
     have hin2:zI nm (zf s.ino f.xs).es≠0->zw (zI nm (zf s.ino f.xs).es) f.xs=true:=fun hne=>by
      refine km hf hh ?_
      unfold Z3
      rw[Jd]
      cases hq:JM zH.name nm (zf s.ino f.xs).es with
      | some e=>rfl
      | none=>unfold zI at hne;rw[hq]at hne;exact absurd rfl hne
     push_cast -dsimp [hlt,gs]
     repeat refine an ?_
     refine cl (hg) ?_;push_cast -dsimp [hk2]
     refine cl (hfd) ?_;push_cast -dsimp
     repeat refine an ?_
     exact ⟨(k+1,⟨(zf s.ino f.xs).ino,nm,zI nm (zf s.ino f.xs).es⟩),⟨hlt,hnx,hin2⟩,by simp only;omega,wks [.inl 0]⟩
    ·have hr:atV f p=(qN,3):=by rw[e,hat,hdr];unfold atW;rw[if_neg hn0,if_pos hk2]
     push_cast -dsimp [hlt,gs]
     repeat refine an ?_
     refine cl (hg) ?_;push_cast -dsimp [hk2]
     exact dn (by push_cast -dsimp [zb,za,CLe,ze,hr,qN])
  ·have hr:atV f p=(s,0):=by rw[e,hat,List.drop_of_length_le (by omega)];unfold atW;rfl
   push_cast -dsimp [hlt]
   exact dn (by push_cast -dsimp [zb,za,CLe,ze,hr])
end
section
open CA CB
open Go.RowKit
abbrev znw (f:FsV):Prop:=0<=f.next/\f.next<=4000000000000000000
theorem Mj {f:FsV} (hf:FsI f):f.xs≠[]:=fun h=>by have:=hf.root;rw[h]at this;cases this
theorem zaV {f:FsV} (hf:FsI f) {n:Int} (hh:zw n f.xs=true):XB (zf n f.xs).es:=hf.es _ (zq hh).2.1
theorem Fun.argsLe {P:Program} {G:zj} {f:FuncId} {args args':List C} {r:C} {n:Nat} (h:Fun P G f args r n) (ha:∀ R vs,zm R zu args' vs->zm R zu args vs):Fun P G f args' r n:=
 ⟨h.1,fun R vs hg hv=>h.2 R vs hg (ha R vs hv)⟩
theorem zeU {R:Env} {L:Loc} {k:Nat} {v:Value} (h:Rep R L (.sc (.slice none 0 0)) v):Rep R L (.sl k []) v:=by
 rw[zi]at h
 subst h
 unfold Rep
 exact ⟨none,0,rfl,Nat.le_refl _,Nat.zero_le _,.inl rfl⟩
theorem zjj {G:zj} (f:FsV) (x:zn) (hx:x.es = []) (hl:f.xs.length<=90000) (hR:zW f.xs) :
  Fun Tryz.prog G 258 [.agg (fsC f),.agg [.sc (.int .i64 x.ino),.sc (.int .i64 x.kind),.sc (.int .i64 x.links),.str x.data,.sc (.int .i64 x.parent),.sc (.slice none 0 0)]] (.agg [.sc (.int .i64 f.maxI),.sc (.int .i64 f.maxB),.sc (.int .i64 f.next),.own 0 96 6 (zE (jp x f.xs))]) 1:=by
 refine (zdE f x hl hR).argsLe fun R vs h=>?_
 obtain ⟨v1,us1,rfl,h1,h⟩:=zd.1 h
 obtain ⟨v2,us2,rfl,h2,h⟩:=zd.1 h
 refine zd.2 ⟨_,_,rfl,h1,zd.2 ⟨_,_,rfl,?_,h⟩⟩
 obtain ⟨ws,rfl,hw⟩:=jA.1 h2
 obtain ⟨w1,t1,e1,g1,hw⟩:=zd.1 hw
 obtain ⟨w2,t2,e2,g2,hw⟩:=zd.1 hw
 obtain ⟨w3,t3,e3,g3,hw⟩:=zd.1 hw
 obtain ⟨w4,t4,e4,g4,hw⟩:=zd.1 hw
 obtain ⟨w5,t5,e5,g5,hw⟩:=zd.1 hw
 obtain ⟨w6,t6,e6,g6,hw⟩:=zd.1 hw
 refine jA.2 ⟨ws,rfl,?_⟩
 have g6':Rep R zu (.sl 2 (zK x.es)) w6:=by rw[hx];exact zeU g6
 rw[e1,e2,e3,e4,e5,e6]
 exact zd.2 ⟨_,_,rfl,g1,zd.2 ⟨_,_,rfl,g2,zd.2 ⟨_,_,rfl,g3,zd.2 ⟨_,_,rfl,g4,zd.2 ⟨_,_,rfl,g5,zd.2 ⟨_,_,rfl,g6',hw⟩⟩⟩⟩⟩⟩
theorem uA (f:FsV) (hf:FsI f) (hs:FsS f) (hn:znw f) (s:zR) (hsp:VJ f s) (hnl:s.name.length<=100000) (k:Int) (t:List UInt8) (ht:t.length<=100000) :
  Fun Tryz.prog G0 225 [.agg (fsC f),.agg (V2 s),.sc (.int .i64 k),.str t] (.tup [.agg (fsC (X8 f s k t).1),.sc (.int .i64 (X8 f s k t).2)]) 0:=by
 have hm:=MW s.name (by omega)
 have hlen:=hs.len
 cases hmay:may s.name with
 | false =>
  have e:X8 f s k t=(f,9):=by unfold X8;rw[hmay];rfl
  rw[hmay]at hm
  by_cases hk:k=1
  ·have hk':=eq_true hk
   refine fof (fun j=>if j=14 then [false,false,false,false,false,true] else []) Tryz.func225 ?_;dsimp only[Tryz.f225]
   push_cast -dsimp [hk']
   refine cl (hm) ?_;push_cast -dsimp
   exact dn (by push_cast -dsimp [zb,za,CLe,ze,e])
  ·have hk':=eq_false hk
   refine fof (fun j=>if j=14 then [false,false,false,false,false,true] else []) Tryz.func225 ?_;dsimp only[Tryz.f225]
   push_cast -dsimp [hk']
   refine cl (hm) ?_;push_cast -dsimp
   exact dn (by push_cast -dsimp [zb,za,CLe,ze,e])
 | true =>
  rw[hmay]at hm
  have key:∀ b:Int,(if k=1 then (t.length:Int) else 0)=b->YE f 1 b=false->X8 f s k t=(f,8):=fun b hb hr=>by unfold X8;rw[hmay,if_pos rfl,hb,hr];rfl
  have key2:∀ b:Int,(if k=1 then (t.length:Int) else 0)=b->YE f 1 b=true->X8 f s k t=(HG f s k t,0):=fun b hb hr=>by unfold X8;rw[hmay,if_pos rfl,hb,hr];rfl
  have hg:=Ym (G:=G0) f s.dir (by omega) hf.rises
  rw[hsp.has]at hg
  have htk:=zgP (G:=G0) f (by omega) (Mj hf) (by have:=hn.1;omega) (by have:=hn.2;omega)
  have hes:=hs.es hsp.has
  have hw:=zc1 (G:=G0) (zf s.dir f.xs).es s.name f.next (by omega) (zaV hf hsp.has)
  have hd1:=zdE (G:=G0) ⟨f.maxI,f.maxB,f.next+1,f.xs⟩ (jQ (zf s.dir f.xs) (qf s.name f.next (zf s.dir f.xs).es)) (by simp only;omega) hf.rises
  have hdl:(Xw s.dir (qf s.name f.next) f.xs).length=f.xs.length:=xo hf.rises hsp.has
  have hd2:=fun pr:Int=>zjj (G:=G0) ⟨f.maxI,f.maxB,f.next+1,Xw s.dir (qf s.name f.next) f.xs⟩ ⟨f.next,k,1,t,pr,[]⟩ rfl (by simp only;omega) (X1 hf.rises)
  have hx0:k=2->HG f s k t=⟨f.maxI,f.maxB,f.next+1,jp ⟨f.next,k,1,t,s.dir,[]⟩ (Xw s.dir (qf s.name f.next) f.xs)⟩:=fun h=>by unfold HG;rw[if_pos h]
  have hx1:k≠2->HG f s k t=⟨f.maxI,f.maxB,f.next+1,jp ⟨f.next,k,1,t,0,[]⟩ (Xw s.dir (qf s.name f.next) f.xs)⟩:=fun h=>by unfold HG;rw[if_neg h]
  unfold Xw at hd2 hx0 hx1
  by_cases hk:k=1
  ·have hk':=eq_true hk
   have hk2:(k=2)=False:=eq_false (by omega)
   have hr:=ND (G:=G0) f hs 1 t.length (by omega) (by omega)
   cases hrm:YE f 1 t.length with
   | false =>
    have e:=key _ (if_pos hk) hrm
    rw[hrm]at hr
    refine fof (fun j=>if j=14 then [false,false,false,false,false,true] else []) Tryz.func225 ?_;dsimp only[Tryz.f225]
    push_cast -dsimp [hk']
    refine cl (hm) ?_;push_cast -dsimp
    refine cl (hr) ?_;push_cast -dsimp
    exact dn (by push_cast -dsimp [zb,za,CLe,ze,e])
   | true =>
    have e:=key2 _ (if_pos hk) hrm
    have ex:=hx1 (by omega)
    rw[hrm]at hr
    refine fof (fun j=>if j=14 then [false,false,false,false,false,true] else []) Tryz.func225 ?_;dsimp only[Tryz.f225]
    push_cast -dsimp [hk']
    refine cl (hm) ?_;push_cast -dsimp
    refine cl (hr) ?_;push_cast -dsimp
    refine cl (hg) ?_;push_cast -dsimp
    refine cl (htk) ?_;push_cast -dsimp [hk2]
    refine cl (hw) ?_;push_cast -dsimp
    refine cl (hd1) ?_;push_cast -dsimp
    refine cl (hd2 0) ?_;push_cast -dsimp
    exact dn (by push_cast -dsimp [zb,za,CLe,ze,e,ex])
  ·have hk':=eq_false hk
   have hr:=ND (G:=G0) f hs 1 0 (by omega) (by omega)
   cases hrm:YE f 1 0 with
   | false =>
    have e:=key _ (if_neg hk) hrm
    rw[hrm]at hr
    refine fof (fun j=>if j=14 then [false,false,false,false,false,true] else []) Tryz.func225 ?_;dsimp only[Tryz.f225]
    push_cast -dsimp [hk']
    refine cl (hm) ?_;push_cast -dsimp
    refine cl (hr) ?_;push_cast -dsimp
    exact dn (by push_cast -dsimp [zb,za,CLe,ze,e])
   | true =>
    have e:=key2 _ (if_neg hk) hrm
    rw[hrm]at hr
    by_cases hk2:k=2
    ·have ex:=hx0 hk2
     have hk2':=eq_true hk2
     refine fof (fun j=>if j=14 then [false,false,false,false,false,true] else []) Tryz.func225 ?_;dsimp only[Tryz.f225]
     push_cast -dsimp [hk']
     refine cl (hm) ?_;push_cast -dsimp
     refine cl (hr) ?_;push_cast -dsimp
     refine cl (hg) ?_;push_cast -dsimp
     refine cl (htk) ?_;push_cast -dsimp [hk2']
     refine cl (hw) ?_;push_cast -dsimp
     refine cl (hd1) ?_;push_cast -dsimp
     refine cl (hd2 s.dir) ?_;push_cast -dsimp
     exact dn (by push_cast -dsimp [zb,za,CLe,ze,e,ex])
    ·have ex:=hx1 hk2
     have hk2':=eq_false hk2
     refine fof (fun j=>if j=14 then [false,false,false,false,false,true] else []) Tryz.func225 ?_;dsimp only[Tryz.f225]
     push_cast -dsimp [hk']
     refine cl (hm) ?_;push_cast -dsimp
     refine cl (hr) ?_;push_cast -dsimp
     refine cl (hg) ?_;push_cast -dsimp
     refine cl (htk) ?_;push_cast -dsimp [hk2']
     refine cl (hw) ?_;push_cast -dsimp
     refine cl (hd1) ?_;push_cast -dsimp
     refine cl (hd2 0) ?_;push_cast -dsimp
     exact dn (by push_cast -dsimp [zb,za,CLe,ze,e,ex])
end
section
open CA CB
open Go.RowKit
end
section
open CA CB
open Go.RowKit
end
section
open Go.RowKit
section
variable {G:zj}
end
end
section
open CA CB
open Go.RowKit
abbrev ziL (k:jC):List C:=[.sc (.int .i64 k.slot),.sc (.int .i64 k.ino),.sc (.bool k.content),.str k.data]
abbrev Jf (ks:List jC):List (List C):=ks.map ziL
theorem j4 (ks:List jC) (i:Nat) (h:i<ks.length):(Jf ks)[i]?=some (ziL ks[i]):=by simp[List.getElem?_map,List.getElem?_eq_getElem h]
abbrev NS (w:zY):List C:=[.sc (.int .i64 w.fs.maxI),.sc (.int .i64 w.fs.maxB),.sc (.int .i64 w.fs.next),.sl 6 (zE w.fs.xs),.sl 4 (Jf w.kept),.sl 6 (zE w.pool)]
abbrev kG (w:zY):C:=.agg (NS w)
section
variable {G:zj}
end
end
section
open Go.RowKit Go.ChangeMaps Go.ChangeShapes Go.WideShapes Go.Deep Go.Joins
section
variable {H:Type} {enc:TypeId×Value->H} {P:Program} {W:World}
theorem qG.two {t:TypeId} {f1 f2:Field} {k1 k2:Nat} {Q1 Q2:List C->Prop} (hs:P.underlying t=some (.struct #[f1,f2])) (h1:qG enc P W f1.type k1 Q1) (h2:qG enc P W f2.type k2 Q2)
  (e1:f1.offset=0) (e2:P.cellsOf f1.type=k1) (e3:f2.offset=k1) (e4:P.cellsOf f2.type=k2) (e5:P.cellsOf t=k1+k2):qG enc P W t (k1+k2) fun row=>∃ a b,row=a++b/\Q1 a/\Q2 b:=fun fuel cs x hx=>by
 obtain ⟨ys,n',hn',hy,hlen,hyl,hf⟩:=DataW.trod_struct hs hx
 rw[e5]at hlen
 have g1:=hf 0 f1 rfl
 have g2:=hf 1 f2 rfl
 have hy2:ys.length=2:=by simpa using hyl
 rw[e1,e2,List.drop_zero,List.getElem?_eq_getElem (by omega)]at g1
 rw[e3,e4,List.getElem?_eq_getElem (by omega)]at g2
 obtain ⟨a,qa,la,la',ra⟩:=h1 _ _ _ g1
 obtain ⟨b,qb,lb,lb',rb⟩:=h2 _ _ _ g2
 refine ⟨a++b,⟨a,b,rfl,qa,qb⟩,by rw[List.length_append,la,lb],hlen,fun j c v h3 h4=>?_⟩
 rcases Nat.lt_or_ge j k1 with hj | hj
 ·rw[List.getElem?_append_left (by omega)]at h3
  exact ra j c v h3 (by rw[List.getElem?_take_of_lt hj];exact h4)
 ·rw[List.getElem?_append_right (by omega),la]at h3
  have hjl:=(List.getElem?_eq_some_iff.1 h3).1
  refine rb (j-k1) c v h3 ?_
  rw[List.getElem?_take_of_lt (by omega),List.getElem?_drop,show k1+(j-k1)=j by omega];exact h4
theorem zfT:qG enc Tryz.prog W 84 4 fun row=>∃ o:jC,row=ziL o/\o.data.length<=maxLen:=fun fuel cs x hx=>by
 obtain ⟨row,⟨hl,hq⟩,h1,h2,h3⟩:=qG.struct (W:=W) (enc:=enc) (Qs:=fun j c=>match j with | 0=>∃ n,c = .sc (.int .i64 n)/\(Lit.int .i64 n).wf=true | 1=>∃ n,c = .sc (.int .i64 n)/\(Lit.int .i64 n).wf=true | 2=>∃ b,c = .sc (.bool b) | 3=>∃ l:List UInt8,c = .str l/\l.length<=maxLen | _=>True) Tryz.underlying84 (by kernel_rfl) (by kernel_rfl) (fun j f hj=>by
  match j,hj with
  | 0,hj=>cases hj;exact Opn.int Tryz.underlying3
  | 1,hj=>cases hj;exact Opn.int Tryz.underlying3
  | 2,hj=>cases hj;exact Opn.bool Tryz.underlying4
  | 3,hj=>cases hj;exact Opn.str Tryz.underlying9
  | j+4,hj=>simp at hj) fuel cs x hx
 match row,h1,hq,h3 with
 | [c0,c1,c2,c3],_,hq,h3 =>
  obtain ⟨a,rfl,_⟩:=hq 0 c0 rfl
  obtain ⟨b,rfl,_⟩:=hq 1 c1 rfl
  obtain ⟨c,rfl⟩:=hq 2 c2 rfl
  obtain ⟨d,rfl,hd⟩:=hq 3 c3 rfl
  exact ⟨_,⟨⟨a,b,c,d⟩,rfl,hd⟩,rfl,h2,h3⟩
theorem zdY:Opn enc Tryz.prog W 25 fun c=>∃ xs:List jC,c = .sl 4 (Jf xs)/\xs.length<=maxLen/\∀ x∈xs,x.data.length<=maxLen:=fun fuel cs x hx=>by
 obtain ⟨v,c,rfl,⟨rows,rfl,hl,hr⟩,h1,h2⟩:=Opn.slice (W:=W) (enc:=enc) Tryz.underlying25 (show Tryz.prog.cellsOf 84=4 by kernel_rfl) (by decide) zfT fuel cs x hx
 obtain ⟨xs,rfl,hq⟩:=kg hr
 exact ⟨v,_,rfl,⟨xs,rfl,by simpa using hl,hq⟩,h1,h2⟩
theorem zbM:qG enc Tryz.prog W 27 2 fun row=>∃ (ks:List jC) (pool:List zn),row = [.sl 4 (Jf ks),.sl 6 (zE pool)]/\ks.length<=maxLen/\pool.length<=maxLen:=fun fuel cs x hx=>by
 obtain ⟨row,⟨hl,hq⟩,h1,h2,h3⟩:=qG.struct (W:=W) (enc:=enc) (Qs:=fun j c=>match j with | 0=>∃ xs:List jC,c = .sl 4 (Jf xs)/\xs.length<=maxLen/\∀ x∈xs,x.data.length<=maxLen | 1=>∃ xs:List zn,c = .sl 6 (zE xs)/\xs.length<=maxLen/\∀ x∈xs,zcm x | _=>True) Tryz.underlying27 (by kernel_rfl) (by kernel_rfl) (fun j f hj=>by
  match j,hj with
  | 0,hj=>cases hj;exact zdY
  | 1,hj=>cases hj;exact yi
  | j+2,hj=>simp at hj) fuel cs x hx
 match row,h1,hq,h3 with
 | [c0,c1],_,hq,h3 =>
  obtain ⟨a,rfl,ha,_⟩:=hq 0 c0 rfl
  obtain ⟨b,rfl,hb,_⟩:=hq 1 c1 rfl
  exact ⟨_,⟨a,b,rfl,ha,hb⟩,rfl,h2,h3⟩
theorem zdi:qG enc Tryz.prog W 29 6 fun row=>∃ w:zY,row=NS w/\w.fs.xs.length<=maxLen:=fun fuel cs x hx=>by
 obtain ⟨row,⟨a,b,rfl,⟨f,rfl,hf,_⟩,⟨ks,pool,rfl,_⟩⟩,h1,h2,h3⟩:=qG.two (W:=W) (enc:=enc) Tryz.underlying29 zmt zbM rfl (by kernel_rfl) rfl (by kernel_rfl) (by kernel_rfl) fuel cs x hx
 exact ⟨_,⟨⟨f,ks,pool⟩,rfl,hf⟩,h1,h2,h3⟩
end
end
section
open CA CB
open Go.RowKit
section
variable {G:zj}
end
end
section
open CA CB
open Go.RowKit
section
variable {G:zj}
end
end
section
open CA CB
open Go.RowKit
section
variable {G:zj}
end
end
section
open CA CB
open Go.RowKit
end
section
open CA CB
open Go.RowKit
end
section
open CA CB
open Go.RowKit
theorem zl7 {f:FsV} (hf:FsI f) (p:List UInt8):(atV f p).1.ino≠0->zw (atV f p).1.ino f.xs=true:=by
 unfold atV
 split
 ·exact Mp hf (zk p) ⟨0,[],1⟩ fun _=>hf.root
 ·intro h;exact absurd rfl h
theorem zjt {f:FsV} (hf:FsI f) (p:List UInt8):zw (atV f p).1.ino f.xs = !decide ((atV f p).1.ino=0):=by
 by_cases h:(atV f p).1.ino=0
 ·rw[decide_eq_true h]
  cases hh:zw (atV f p).1.ino f.xs with
  | false=>rfl
  | true=>exact absurd h (X3 hf hh)
 ·rw[zl7 hf p h,decide_eq_false h];rfl
theorem zfe (f:FsV) (hf:FsI f) (hs:FsS f) (p:List UInt8) (hp:p.length<=1000000):Fun Tryz.prog G0 224 [.agg (fsC f),.str p] (.tup [.agg (V2 (isV f p false).1),.sc (.int .i64 (isV f p false).2.2)]) 0:=by
 have h1:=yn f hf hs p hp
 have hi:=zjt hf p
 have e1:(isV f p false).1=(atV f p).1:=rfl
 by_cases h0:(atV f p).2=0
 ·have h0':=eq_true h0
  by_cases hz:(atV f p).1.ino=0
  ·have hz':=eq_true hz
   rw[decide_eq_true hz]at hi
   have e3:(isV f p false).2.2=0:=by unfold isV;simp[h0,hi]
   refine fon Tryz.func224 ?_;dsimp only[Tryz.f224]
   push_cast -dsimp
   refine cl (h1) ?_;push_cast -dsimp [h0',hz']
   exact dn (by push_cast -dsimp [zb,za,CLe,ze,e1,e3])
  ·have hz':=eq_false hz
   rw[decide_eq_false hz]at hi
   have e3:(isV f p false).2.2=2:=by unfold isV;simp[h0,hi]
   refine fon Tryz.func224 ?_;dsimp only[Tryz.f224]
   push_cast -dsimp
   refine cl (h1) ?_;push_cast -dsimp [h0',hz']
   exact dn (by push_cast -dsimp [zb,za,CLe,ze,e1,e3])
 ·have h0':=eq_false h0
  have e3:(isV f p false).2.2=(atV f p).2:=by unfold isV;simp[h0]
  refine fon Tryz.func224 ?_;dsimp only[Tryz.f224]
  push_cast -dsimp
  refine cl (h1) ?_;push_cast -dsimp [h0']
  exact dn (by push_cast -dsimp [zb,za,CLe,ze,e1,e3])
structure zmw (w:zY):Prop where
 fs:FsS w.fs
 next:znw w.fs
 kept:w.kept.length<=10000
 pool:w.pool.length<=10000
theorem zgU (w:zY) (hw:xd w) (hs:zmw w) (p:List UInt8) (hp:p.length<=1000000) (hpl:zX p=true) (k:Int) (t:List UInt8) (ht:t.length<=10000):Fun Tryz.prog G0 187 [kG w,.str p,.sc (.int .i64 k),.str t] (.tup [kG (z7 w p k t).1,.sc (.int .i64 (z7 w p k t).2)]) 0:=by
 have h1:=zfe w.fs hw.fs hs.fs p hp
 by_cases h0:(isV w.fs p false).2.2=0
 ·have h0':=eq_true h0
  have hfr:=kB hw.fs hpl h0
  have hln:=zlT hw.fs hpl (ziE h0)
  have hln:(isV w.fs p false).1.name.length<=300:=hln
  have hc:=uA w.fs hw.fs hs.fs hs.next (isV w.fs p false).1 hfr (by omega) k t (by omega)
  have e:z7 w p k t=({ w with fs:=(X8 w.fs (isV w.fs p false).1 k t).1 },(X8 w.fs (isV w.fs p false).1 k t).2):=by unfold z7;rw[if_neg (by simp[h0])]
  refine fon Tryz.func187 ?_;dsimp only[Tryz.f187]
  push_cast -dsimp
  refine cl (h1) ?_;push_cast -dsimp [h0']
  refine cl (hc) ?_;push_cast -dsimp
  exact dn (by push_cast -dsimp [zb,za,CLe,ze,e])
 ·have h0':=eq_false h0
  have e:z7 w p k t=(w,(isV w.fs p false).2.2):=by unfold z7;rw[if_pos h0]
  refine fon Tryz.func187 ?_;dsimp only[Tryz.f187]
  push_cast -dsimp
  refine cl (h1) ?_;push_cast -dsimp [h0']
  exact dn (by push_cast -dsimp [zb,za,CLe,ze,e])
end
section
open CA CB
open Go.RowKit
end
section
open CA CB
open Go.RowKit
theorem zdD (w:zY) (hw:xd w) (hs:zmw w) (o:OpV) (ho:zjh o) (pa:zX o.a=true):Fun Tryz.prog G0 186 [kG w,.agg (opL o)] (.tup [kG (z7 w o.a 2 []).1,.sc (.int .i64 (z7 w o.a 2 []).2)]) 0:=by
 have h:=zgU w hw hs o.a ho.1 pa 2 [] (by simp)
 unfold opL
 refine fon Tryz.func186 ?_;dsimp only[Tryz.f186]
 push_cast -dsimp
 refine cl (h) ?_;push_cast -dsimp
 exact dn
end
section
open Go.RowKit
section
variable {G:zj}
abbrev zm8:List C:=[.clo (.func 186) [] [],.clo (.func 188) [] [],.clo (.func 189) [] [],.clo (.func 190) [] [],.clo (.func 191) [] [],.clo (.func 192) [] [],.clo (.func 193) [] [],.clo (.func 197) [] [],.clo (.func 200) [] [],.clo (.func 201) [] []]
theorem zdl:Fun Tryz.prog G 160 [] (.mo 0 196 (.int .i64 [1,2,3,4,5,6,7,8,9,10]) zm8) 1:=by
 refine fon Tryz.func160 ?_;dsimp only[Tryz.f160]
 push_cast -dsimp [V8,V0,Option.map_none,List.nil_append,List.cons_append,reduceIte,Int.reduceEq]
 exact ⟨[.inl 0],rfl,rfl,by push_cast -dsimp [zb,za,CLe,ze]⟩
end
end
section
open CA CB
open Go.RowKit
theorem Fun.g0 {P:Program} {G':zj} {f:FuncId} {args:List C} {r:C} {n:Nat} (h:Fun P G0 f args r n):Fun P G' f args r n:=⟨h.1,fun R vs hg hv=>h.2 R vs (MJ R) hv⟩
end
section
open Go.RowKit
section
variable {G:zj}
theorem GJ (o:OpV):Fun Tryz.prog G 110 [.agg (opL o)] (.sc (.bool (decide (o.kind=3∨o.kind=7)))) 0:=by
 unfold opL
 by_cases h:o.kind=3
 ·have h':=eq_true h
  refine fon Tryz.func110 ?_;dsimp only[Tryz.f110]
  push_cast -dsimp [h']
  exact dn (by push_cast -dsimp [zb,za,CLe,ze,h',true_or,decide_true])
 ·have h':=eq_false h
  refine fon Tryz.func110 ?_;dsimp only[Tryz.f110]
  push_cast -dsimp [h']
  exact dn (by push_cast -dsimp [zb,za,CLe,ze,h',false_or])
end
end
section
open Go.RowKit
abbrev znH (d:zt):List C:=[.sc (.int .i64 d.w.fs.maxI),.sc (.int .i64 d.w.fs.maxB),.sc (.int .i64 d.w.fs.next),.sl 6 (zE d.w.fs.xs),.sl 4 (Jf d.w.kept),.sl 6 (zE d.w.pool),.sl 5 (d.ops.map opL),.sl 1 (zC d.diags),.sc (.int .i64 d.status),.sc (.int .i64 d.slot)]
abbrev Zv (d:zt):C:=.agg (znH d)
section
variable {G:zj}
end
end
section
open CA CB
open Go.RowKit
section
variable {G:zj}
end
end
section
open CA CB
open Go.RowKit
end
section
open CA CB
open Go.RowKit
theorem VG {ks:List jC} {i:Nat} (h:i<ks.length):jl (ks.take (i+1))=ks[i].slot:=by
 have q:(ks.take (i+1)).getLast?=some ks[i]:=by
  rw[List.getLast?_eq_getElem?,show (ks.take (i+1)).length-1=i by rw[List.length_take];omega,List.getElem?_take_of_lt (by omega),List.getElem?_eq_getElem h]
 unfold jl
 rw[q]
section
variable {G:zj}
theorem Vw (w:zY):Fun Tryz.prog G 114 [kG w] (.agg [.sc (.int .i64 0),.sc (.int .i64 0),.sc (.int .i64 0),.sl 6 (zE w.pool)]) 0:=by
 refine fon Tryz.func114 ?_;dsimp only[Tryz.f114]
 push_cast -dsimp
 exact dn
theorem VR (w:zY) (hk:w.kept.length<=100000) (hR:jh znP jC.slot w.kept) (hp:∀ k∈w.kept,1<=k.slot):Fun Tryz.prog G 29 [kG w] (.sc (.int .i64 (jl w.kept))) 0:=by
 obtain ⟨f,ks,pool⟩:=w
 have hk:ks.length<=100000:=hk
 have hll:(Jf ks).length=ks.length:=List.length_map ..
 show Fun Tryz.prog G 29 [kG ⟨f,ks,pool⟩] (.sc (.int .i64 (jl ks))) 0
 have h0:jl []=0:=rfl
 refine fon Tryz.func29 ?_;dsimp only[Tryz.f29]
 push_cast -dsimp
 refine loop (fun i:Nat=>⟨[(1,.ptr 0 0),(3,.sc (.int .i64 (jl (ks.take i)))),(4,.sc (.int .i64 i))],[NS ⟨f,ks,pool⟩],0,0⟩) (fun i=>i<=ks.length) (fun i=>ks.length-i) 0 (Nat.zero_le _) ?_ ?_
 ·exact wk (by push_cast -dsimp [zb,za,CLe,ze,List.take_zero,h0])
 ·intro i hi
  by_cases h:i<ks.length
  ·have g1:=j4 ks i h
   have e1:jl (ks.take (i+1))=ks[i].slot:=VG h
   have e2:(if ks[i].slot>jl (ks.take i) then ks[i].slot else jl (ks.take i))=ks[i].slot:=by
    suffices hle:jl (ks.take i)<=ks[i].slot by split<;>omega
    rcases Nat.eq_zero_or_pos i with rfl | hpos
    ·have:=hp _ (List.getElem_mem h)
     show (0:Int)<=_
     omega
    ·obtain ⟨j,rfl⟩:∃ j,i=j+1:=⟨i-1,by omega⟩
     have hj:j<ks.length:=by omega
     rw[VG hj]
     have:=(List.pairwise_iff_getElem.1 hR) j (j+1) hj h (by omega)
     have:ks[j].slot<ks[j+1].slot:=of_decide_eq_true this
     omega
   push_cast -dsimp [hll,h,g1]
   repeat refine an ?_
   exact ⟨i+1,h,by omega,wk (by push_cast -dsimp [zb,za,CLe,ze,e1,e2])⟩
  ·rw[List.take_of_length_le (by omega)]
   push_cast -dsimp [hll,h]
   exact dn
end
end
section
open CA CB
open Go.RowKit
end
section
open CA CB
open Go.RowKit
def zpk (n:Int):List C:=[.sc (.int .i64 n)]
abbrev zoF (l:List Int):List (List C):=l.map zpk
theorem Mt (l:List Int):(zoF l).length=l.length:=List.length_map _
theorem zdu (l:List Int) (n:Int):zoF l++[[.sc (.int .i64 n)]]=zoF (l++[n]):=by simp[zpk]
attribute [push_cast] Mt zdu
abbrev zeG (l:List OpV):List (List C):=l.map opL
theorem M3 (l:List OpV):(zeG l).length=l.length:=List.length_map _
theorem zcN (l:List OpV) (k:Nat) (h:k<l.length):(zeG l)[k]?=some (opL (l[k]'h)):=by rw[List.getElem?_map,List.getElem?_eq_getElem h];rfl
theorem zeg (l:List OpV) (k:Nat):(zeG l).take k=zeG (l.take k):=List.map_take.symm
theorem zbw (l:List OpV) (k:Nat):(zeG l).drop k=zeG (l.drop k):=List.map_drop.symm
attribute [push_cast] M3 zeg zbw
end
section
open Go.RowKit
def zhP (l:List OpV):List Int:=(l.filter fun o=>Ht o.kind).map (·.slot)
end
section
open Go.RowKit
def zhM (o p:OpV):Bool:=decide (o.kind=p.kind)&&decide (o.slot=p.slot)&&decide (o.a=p.a)&&decide (o.b=p.b)&&decide (o.d=p.d)
def jV:List OpV->List OpV->Bool
 | [],[]=>true
 | o :: r,p :: s=>zhM o p&&jV r s
 | _,_=>false
theorem Jm:∀ l m:List OpV,jV l m=true↔l.length=m.length/\∀ (j:Nat) (h:j<l.length) (h':j<m.length),zhM (l[j]'h) (m[j]'h')=true
 | [],[]=>by simp[jV]
 | [],p :: s=>by simp[jV]
 | o :: r,[]=>by simp[jV]
 | o :: r,p :: s=>by
  have ih:=Jm r s
  simp only[jV,Bool.and_eq_true,ih,List.length_cons]
  constructor
  ·rintro ⟨h1,h2,h3⟩
   refine ⟨by omega,fun j hj hj'=>?_⟩
   cases j with
   | zero=>exact h1
   | succ j=>exact h3 j (by omega) (by omega)
  ·rintro ⟨h1,h2⟩
   exact ⟨h2 0 (by omega) (by omega),by omega,fun j hj hj'=>h2 (j+1) (by omega) (by omega)⟩
end
section
open CA CB
open Go.RowKit
end
section
open CA CB
open Go.RowKit
end
section
open CA CB
open Go.RowKit
def jE (f:FsV):Prop:=1<=f.maxI/\f.maxI<=1073741824/\0<=f.maxB/\f.maxB<=1073741824/\f.next<=1099511627776/\(∀ x∈f.xs,1<=x.ino/\x.ino<f.next)/\zW f.xs/\zw 1 f.xs=true/\(zf 1 f.xs).kind=2
instance (f:FsV):Decidable (jE f):=by unfold jE;infer_instance
def JA (f:FsV):Prop:=∀ x∈f.xs,∀ e∈x.es,zw e.ino f.xs=true
instance (f:FsV):Decidable (JA f):=by unfold JA;infer_instance
def V4 (f:FsV):Prop:=(f.xs.length:Int)<=f.maxI/\(zP f.xs:Int)<=f.maxB
instance (f:FsV):Decidable (V4 f):=by unfold V4;infer_instance
theorem zN {α:Type} {l:List α} {i:Nat} (h:i<l.length) {P:α->Prop} (h1:∀ x∈l.take i,P x) (h2:P l[i]):∀ x∈l.take (i+1),P x:=fun x hx=>by
 rw[List.take_add_one,List.getElem?_eq_getElem h]at hx
 rcases List.mem_append.1 hx with hx | hx
 ·exact h1 x hx
 ·simp at hx;subst hx;exact h2
section
variable {G:zj}
theorem NJ (f:FsV) (hl:f.xs.length<=100000):Fun Tryz.prog G 162 [.agg (fsC f)] (.sc (.bool (decide (jE f)))) 0:=by
 have hll:(zE f.xs).length=f.xs.length:=List.length_map ..
 refine fon Tryz.func162 ?_;dsimp only[Tryz.f162]
 by_cases e0:f.maxI<1
 case pos =>
  have hn:¬jE f:=fun h=>by have:=h.1;omega
  push_cast -dsimp [e0]
  exact dn (by push_cast -dsimp [zb,za,CLe,ze,hn])
 by_cases e1:1073741824<f.maxI
 case pos =>
  have hn:¬jE f:=fun h=>by have:=h.2.1;omega
  push_cast -dsimp [e0,e1]
  exact dn (by push_cast -dsimp [zb,za,CLe,ze,hn])
 by_cases e2:f.maxB<0
 case pos =>
  have hn:¬jE f:=fun h=>by have:=h.2.2.1;omega
  push_cast -dsimp [e0,e1,e2]
  exact dn (by push_cast -dsimp [zb,za,CLe,ze,hn])
 by_cases e3:1073741824<f.maxB
 case pos =>
  have hn:¬jE f:=fun h=>by have:=h.2.2.2.1;omega
  push_cast -dsimp [e0,e1,e2,e3]
  exact dn (by push_cast -dsimp [zb,za,CLe,ze,hn])
 by_cases e4:1099511627776<f.next
 case pos =>
  have hn:¬jE f:=fun h=>by have:=h.2.2.2.2.1;omega
  push_cast -dsimp [e0,e1,e2,e3,e4]
  exact dn (by push_cast -dsimp [zb,za,CLe,ze,hn])
 push_cast -dsimp [e0,e1,e2,e3,e4]
 refine loop (fun i:Nat=>⟨[(1,.ptr 0 0),(3,.sc (.int .i64 i))],[fsC f],0,0⟩) (fun i=>i<=f.xs.length/\∀ x∈f.xs.take i,1<=x.ino/\x.ino<f.next) (fun i=>f.xs.length-i) 0 ⟨Nat.zero_le _,fun x hx=>by simp at hx⟩ ?_ ?_
 ·exact wk
 ·rintro i ⟨h1,h2⟩
  by_cases h:i<f.xs.length
  ·have g1:=qI f.xs i h
   by_cases c1:f.xs[i].ino<1
   ·have hn:¬jE f:=fun h'=>by have:=h'.2.2.2.2.2.1 _ (List.getElem_mem h);omega
    push_cast -dsimp [hll,h,g1,c1]
    repeat refine an ?_
    exact dn (by push_cast -dsimp [zb,za,CLe,ze,hn])
   ·by_cases c2:f.next<=f.xs[i].ino
    ·have hn:¬jE f:=fun h'=>by have:=h'.2.2.2.2.2.1 _ (List.getElem_mem h);omega
     push_cast -dsimp [hll,h,g1,c1,c2]
     repeat refine an ?_
     exact dn (by push_cast -dsimp [zb,za,CLe,ze,hn])
    ·push_cast -dsimp [hll,h,g1,c1,c2]
     repeat refine an ?_
     exact ⟨i+1,⟨h,zN h h2 (by omega)⟩,by omega,wk⟩
  ·rw[List.take_of_length_le (by omega)]at h2
   have hf:jE f↔zW f.xs/\zw 1 f.xs=true/\(zf 1 f.xs).kind=2:=⟨fun h=>h.2.2.2.2.2.2,fun h=>⟨by omega,by omega,by omega,by omega,by omega,h2,h⟩⟩
   push_cast -dsimp [hll,h]
   refine cl (Xa f 1 hl) ?_;push_cast -dsimp
   by_cases c1:zW f.xs
   ·cases c2:zw 1 f.xs with
    | true =>
     refine cl (ZQ f hl) ?_;push_cast -dsimp [decide_eq_true c1,c2]
     exact dn (by push_cast -dsimp [zb,za,CLe,ze,hf,c1,c2])
    | false =>
     have hn:¬jE f:=fun h=>by have:=(hf.1 h).2.1;rw[c2]at this;cases this
     refine cl (ZQ f hl) ?_;push_cast -dsimp [decide_eq_true c1,c2]
     exact dn (by push_cast -dsimp [zb,za,CLe,ze,hn])
   ·have hn:¬jE f:=fun h=>c1 (hf.1 h).1
    refine cl (ZQ f hl) ?_;push_cast -dsimp [decide_eq_false c1]
    exact dn (by push_cast -dsimp [zb,za,CLe,ze,hn])
theorem Ga (f:FsV) (hf:FsS f):Fun Tryz.prog G 164 [.agg (fsC f)] (.sc (.bool (decide (JA f)))) 0:=by
 have hll:(zE f.xs).length=f.xs.length:=List.length_map ..
 have h40:=hf.len
 refine fof (fun i=>if i=7 then XT 15 16 else []) Tryz.func164 ?_;dsimp only[Tryz.f164]
 push_cast -dsimp
 refine loop (fun i:Nat=>⟨[(1,.ptr 0 0),(3,.sc (.int .i64 i))],[fsC f],0,0⟩) (fun i=>i<=f.xs.length/\∀ x∈f.xs.take i,∀ e∈x.es,zw e.ino f.xs=true) (fun i=>f.xs.length-i) 0 ⟨Nat.zero_le _,fun x hx=>by simp at hx⟩ ?_ ?_
 ·exact wk
 ·rintro i ⟨h1,h2⟩
  by_cases h:i<f.xs.length
  ·have g1:=qI f.xs i h
   have he:=(hf.node _ (List.getElem_mem h)).1
   have hle:(zK f.xs[i].es).length=f.xs[i].es.length:=List.length_map ..
   push_cast -dsimp [hll,h]
   refine loop (fun k:Nat=>⟨[(1,.ptr 0 0),(3,.sc (.int .i64 i)),(4,.sc (.int .i64 k))],[fsC f],0,0⟩) (fun k=>k<=f.xs[i].es.length/\∀ e∈f.xs[i].es.take k,zw e.ino f.xs=true) (fun k=>f.xs[i].es.length-k) 0 ⟨Nat.zero_le _,fun x hx=>by simp at hx⟩ ?_ ?_
   ·exact wk
   ·rintro k ⟨h3,h4⟩
    by_cases hk:k<f.xs[i].es.length
    ·have g2:=jX f.xs[i].es k hk
     push_cast -dsimp [g1,hle,hk,g2]
     repeat refine an ?_
     refine cl (Xa f f.xs[i].es[k].ino (by omega)) ?_;push_cast -dsimp
     cases hh:zw f.xs[i].es[k].ino f.xs with
     | true =>
      push_cast -dsimp [hh]
      repeat refine an ?_
      exact ⟨k+1,⟨hk,zN hk h4 hh⟩,by omega,wk⟩
     | false =>
      have hn:¬JA f:=fun h'=>by have:=h' _ (List.getElem_mem h) _ (List.getElem_mem hk);rw[hh]at this;cases this
      push_cast -dsimp [hh]
      exact dn (by push_cast -dsimp [zb,za,CLe,ze,hn])
    ·rw[List.take_of_length_le (by omega)]at h4
     push_cast -dsimp [g1,hle,hk]
     repeat refine an ?_
     exact ⟨i+1,⟨h,zN h h2 h4⟩,by omega,wk⟩
  ·rw[List.take_of_length_le (by omega)]at h2
   have hn:JA f:=h2
   push_cast -dsimp [hll,h]
   exact dn (by push_cast -dsimp [zb,za,CLe,ze,hn])
theorem yq (f:FsV) (hf:FsS f) (hb:zP f.xs<=100000000):Fun Tryz.prog G 142 [.agg (fsC f),.sc (.int .i64 0),.sc (.int .i64 0)] (.sc (.bool (decide (V4 f)))) 0:=by
 have hll:(zE f.xs).length=f.xs.length:=List.length_map ..
 have h40:=hf.len
 refine fon Tryz.func142 ?_;dsimp only[Tryz.f142]
 by_cases c1:f.maxI<f.xs.length
 ·have hn:¬V4 f:=fun h=>by have:=h.1;omega
  push_cast -dsimp [hll,c1]
  repeat refine an ?_
  exact dn (by push_cast -dsimp [zb,za,CLe,ze,hn])
 ·have hn:V4 f↔(zP f.xs:Int)<=f.maxB:=⟨fun h=>h.2,fun h=>⟨by omega,h⟩⟩
  push_cast -dsimp [hll,c1]
  repeat refine an ?_
  refine cl (zdw f hf) ?_;push_cast -dsimp
  repeat refine an ?_
  exact dn (by push_cast -dsimp [zb,za,CLe,ze,hn])
end
end
section
open Go.RowKit
abbrev QP (x:zn) (es:List zH):List (Int×Int):=es.map fun e=>(e.ino,x.ino)
def zL (xs:List zn):List (Int×Int):=xs.flatMap fun x=>QP x x.es
def XQ (n:Int) (l:List (Int×Int)):Nat:=(l.filter fun p=>p.1==n).length
def Zw (n:Int) (l:List (Int×Int)):Int:=(((l.filter fun p=>p.1==n).getLast?).map (·.2)).getD 0
theorem ziO {n:Int} {l:List (Int×Int)} {p:Int×Int}:XQ n (l++[p])=XQ n l+if p.1=n then 1 else 0:=by
 unfold XQ
 rw[List.filter_append,List.length_append]
 by_cases h:p.1=n<;>simp[h]
theorem zeV {n:Int} {l:List (Int×Int)} {p:Int×Int}:Zw n (l++[p])=if p.1=n then p.2 else Zw n l:=by
 unfold Zw
 rw[List.filter_append]
 by_cases h:p.1=n<;>simp[h]
theorem uD {xs:List zn} {i:Nat} (h:i<xs.length):zL (xs.take (i+1))=zL (xs.take i)++QP xs[i] xs[i].es:=by
 unfold zL
 rw[List.take_add_one,List.getElem?_eq_getElem h,List.flatMap_append]
 simp
theorem uT {x:zn} {es:List zH} {k:Nat} (h:k<es.length):QP x (es.take (k+1))=QP x (es.take k)++[(es[k].ino,x.ino)]:=by
 rw[List.take_add_one,List.getElem?_eq_getElem h,Option.toList_some]
 exact List.map_append
theorem zbf {xs:List zn} (hf:∀ x∈xs,x.es.length<=10000):(zL xs).length<=xs.length*10000:=by
 induction xs with
 | nil=>exact Nat.le_refl _
 | cons x r ih =>
  have h1:=hf x List.mem_cons_self
  have h2:=ih fun y hy=>hf y (List.mem_cons_of_mem _ hy)
  unfold zL at h2 ⊢
  rw[List.flatMap_cons,List.length_append,List.length_map,List.length_cons]
  omega
theorem zlm {n:Int} {l:List (Int×Int)}:XQ n l<=l.length:=List.length_filter_le _ _
def QC (xs:List zn) (x:zn):Prop:=x.links=XQ x.ino (zL xs)/\if x.ino=1 then XQ x.ino (zL xs)=0/\x.parent=1 else 1<=XQ x.ino (zL xs)/\(x.kind=2->XQ x.ino (zL xs)=1/\x.parent=Zw x.ino (zL xs))
instance (xs:List zn) (x:zn):Decidable (QC xs x):=by unfold QC;infer_instance
def JO (f:FsV):Prop:=∀ x∈f.xs,QC f.xs x
instance (f:FsV):Decidable (JO f):=by unfold JO;infer_instance
section
variable {G:zj}
theorem uP (f:FsV) (n:Int) (hf:FsS f):Fun Tryz.prog G 203 [.agg (fsC f),.sc (.int .i64 n)] (.tup [.sc (.int .i64 (XQ n (zL f.xs):Nat)),.sc (.int .i64 (Zw n (zL f.xs)))]) 0:=by
 have hll:(zE f.xs).length=f.xs.length:=List.length_map ..
 have h40:=hf.len
 have hc0:XQ n (zL [])=0:=rfl
 have hl0:Zw n (zL [])=0:=rfl
 refine fon Tryz.func203 ?_;dsimp only[Tryz.f203]
 push_cast -dsimp
 refine loop (fun i:Nat=>⟨[(1,.sc (.int .i64 n)),(2,.ptr 0 0),(6,.sc (.int .i64 (XQ n (zL (f.xs.take i)):Nat))),(7,.sc (.int .i64 (Zw n (zL (f.xs.take i))))),(8,.sc (.int .i64 i))],[fsC f],0,0⟩) (fun i=>i<=f.xs.length) (fun i=>f.xs.length-i) 0 (Nat.zero_le _) ?_ ?_
 ·exact wk (by push_cast -dsimp [zb,za,CLe,ze,List.take_zero,hc0,hl0])
 ·intro i h1
  by_cases h:i<f.xs.length
  ·have g1:=qI f.xs i h
   have hle:(zK f.xs[i].es).length=f.xs[i].es.length:=List.length_map ..
   have hpl:(zL (f.xs.take i)).length<=i*10000:=by
    have:=zbf (xs:=f.xs.take i) fun x hx=>(hf.node x (List.mem_of_mem_take hx)).1
    rw[List.length_take]at this
    exact Nat.le_trans this (Nat.mul_le_mul_right _ (Nat.min_le_left _ _))
   have h40e:=(hf.node _ (List.getElem_mem h)).1
   push_cast -dsimp [hll,h]
   refine loop (fun k:Nat=>⟨[(1,.sc (.int .i64 n)),(2,.ptr 0 0),(6,.sc (.int .i64 (XQ n (zL (f.xs.take i)++QP f.xs[i] (f.xs[i].es.take k)):Nat))),(7,.sc (.int .i64 (Zw n (zL (f.xs.take i)++QP f.xs[i] (f.xs[i].es.take k))))),(8,.sc (.int .i64 i)),(9,.sc (.int .i64 k))],[fsC f],0,0⟩) (fun k=>k<=f.xs[i].es.length) (fun k=>f.xs[i].es.length-k) 0 (Nat.zero_le _) ?_ ?_
   ·exact wk (by push_cast -dsimp [zb,za,CLe,ze,List.take_zero,List.append_nil])
   ·intro k hk0
    by_cases hk:k<f.xs[i].es.length
    ·have g2:=jX f.xs[i].es k hk
     have ht:=uT (x:=f.xs[i]) hk
     have hcl:=zlm (n:=n) (l:=zL (f.xs.take i)++QP f.xs[i] (f.xs[i].es.take k))
     rw[List.length_append,List.length_map,List.length_take]at hcl
     have hca:=ziO (n:=n) (l:=zL (f.xs.take i)++QP f.xs[i] (f.xs[i].es.take k)) (p:=(f.xs[i].es[k].ino,f.xs[i].ino))
     have hla:=zeV (n:=n) (l:=zL (f.xs.take i)++QP f.xs[i] (f.xs[i].es.take k)) (p:=(f.xs[i].es[k].ino,f.xs[i].ino))
     rw[List.append_assoc,←ht]at hca hla
     by_cases hc:f.xs[i].es[k].ino=n
     ·rw[if_pos hc]at hca hla
      push_cast -dsimp [g1,hle,hk,g2,hc]
      repeat refine an ?_
      exact ⟨k+1,hk,by omega,wk (by push_cast -dsimp [zb,za,CLe,ze,hca,hla])⟩
     ·rw[if_neg hc]at hca hla
      push_cast -dsimp [g1,hle,hk,g2,hc]
      repeat refine an ?_
      exact ⟨k+1,hk,by omega,wk (by push_cast -dsimp [zb,za,CLe,ze,hca,hla])⟩
    ·have hkk:f.xs[i].es.take k=f.xs[i].es:=List.take_of_length_le (by omega)
     rw[hkk]
     have ht:=uD h
     push_cast -dsimp [g1,hle,hk]
     repeat refine an ?_
     exact ⟨i+1,h,by omega,wk (by push_cast -dsimp [zb,za,CLe,ze,ht])⟩
  ·rw[List.take_of_length_le (by omega)]
   push_cast -dsimp [hll,h]
   exact dn
end
end
section
open CA CB
open Go.RowKit
section
variable {G:zj}
theorem UT (f:FsV) (hf:FsS f):Fun Tryz.prog G 165 [.agg (fsC f)] (.sc (.bool (decide (JO f)))) 0:=by
 have hll:(zE f.xs).length=f.xs.length:=List.length_map ..
 have h40:=hf.len
 refine fon Tryz.func165 ?_;dsimp only[Tryz.f165]
 push_cast -dsimp
 refine loop (fun i:Nat=>⟨[(1,.ptr 0 0),(3,.sc (.int .i64 i))],[fsC f],0,0⟩) (fun i=>i<=f.xs.length/\∀ x∈f.xs.take i,QC f.xs x) (fun i=>f.xs.length-i) 0 ⟨Nat.zero_le _,fun x hx=>by simp at hx⟩ ?_ ?_
 ·exact wk
 ·rintro i ⟨h1,h2⟩
  by_cases h:i<f.xs.length
  ·have g1:=qI f.xs i h
   have hbad:¬QC f.xs f.xs[i]->¬JO f:=fun hn h'=>hn (h' _ (List.getElem_mem h))
   have hdef:QC f.xs f.xs[i]↔f.xs[i].links=XQ f.xs[i].ino (zL f.xs)/\if f.xs[i].ino=1 then XQ f.xs[i].ino (zL f.xs)=0/\f.xs[i].parent=1 else 1<=XQ f.xs[i].ino (zL f.xs)/\(f.xs[i].kind=2->XQ f.xs[i].ino (zL f.xs)=1/\f.xs[i].parent=Zw f.xs[i].ino (zL f.xs)):=Iff.rfl
   push_cast -dsimp [hll,h,g1]
   repeat refine an ?_
   refine cl (uP f f.xs[i].ino hf) ?_;push_cast -dsimp
   generalize XQ f.xs[i].ino (zL f.xs)=c at hdef
   generalize Zw f.xs[i].ino (zL f.xs)=d at hdef
   by_cases c1:f.xs[i].links=(c:Int)
   case neg =>
    have hn:=hbad fun h=>c1 (hdef.1 h).1
    push_cast -dsimp [c1]
    exact dn (by push_cast -dsimp [zb,za,CLe,ze,hn])
   by_cases c2:f.xs[i].ino=1
   ·rw[if_pos c2]at hdef
    by_cases c3:(c:Int)=0
    ·by_cases c4:f.xs[i].parent=1
     ·push_cast -dsimp [c1,c2,c3,c4]
      repeat refine an ?_
      exact ⟨i+1,⟨h,zN h h2 (hdef.2 ⟨c1,by omega,c4⟩)⟩,by omega,wk⟩
     ·have hn:=hbad fun h=>c4 (hdef.1 h).2.2
      push_cast -dsimp [c1,c2,c3,c4]
      exact dn (by push_cast -dsimp [zb,za,CLe,ze,hn])
    ·have hn:=hbad fun h=>by have:=(hdef.1 h).2.1;omega
     push_cast -dsimp [c1,c2,c3]
     exact dn (by push_cast -dsimp [zb,za,CLe,ze,hn])
   ·rw[if_neg c2]at hdef
    by_cases c3:(c:Int)<1
    ·have hn:=hbad fun h=>by have:=(hdef.1 h).2.1;omega
     push_cast -dsimp [c1,c2,c3]
     exact dn (by push_cast -dsimp [zb,za,CLe,ze,hn])
    by_cases c4:f.xs[i].kind=2
    ·by_cases c5:(c:Int)=1
     ·by_cases c6:f.xs[i].parent=d
      ·push_cast -dsimp [c1,c2,c3,c4,c5,c6]
       repeat refine an ?_
       exact ⟨i+1,⟨h,zN h h2 (hdef.2 ⟨c1,by omega,fun _=>⟨by omega,c6⟩⟩)⟩,by omega,wk⟩
      ·have hn:=hbad fun h=>c6 ((hdef.1 h).2.2 c4).2
       push_cast -dsimp [c1,c2,c3,c4,c5,c6]
       exact dn (by push_cast -dsimp [zb,za,CLe,ze,hn])
     ·have hn:=hbad fun h=>by have:=((hdef.1 h).2.2 c4).1;omega
      push_cast -dsimp [c1,c2,c3,c4,c5]
      exact dn (by push_cast -dsimp [zb,za,CLe,ze,hn])
    ·push_cast -dsimp [c1,c2,c3,c4]
     repeat refine an ?_
     exact ⟨i+1,⟨h,zN h h2 (hdef.2 ⟨c1,by omega,fun h=>absurd h c4⟩)⟩,by omega,wk⟩
  ·rw[List.take_of_length_le (by omega)]at h2
   have hn:JO f:=h2
   push_cast -dsimp [hll,h]
   exact dn (by push_cast -dsimp [zb,za,CLe,ze,hn])
end
end
section
open CA CB
open Go.RowKit
abbrev uM (S:List Int):List (List C):=S.map fun n=>[C.sc (.int .i64 n)]
def Jv (S:List Int) (n:Int):List Int:=if n∈S then S else S++[n]
def VZ (S:List Int) (es:List zH):List Int:=es.foldl (fun s e=>Jv s e.ino) S
def XF (xs:List zn):Nat->Nat->List Int->List Int
 | 0,_,S=>S
 | m+1,i,S=>match S[i]? with
  | some n=>XF xs m (i+1) (VZ S (zf n xs).es)
  | none=>S
def Xu (f:FsV):Prop:=(XF f.xs (f.xs.length+1) 0 [1]).length=f.xs.length
instance (f:FsV):Decidable (Xu f):=by unfold Xu;infer_instance
theorem ZG:∀ {S T:List Int},S.Nodup->(∀ n∈S,n∈T)->S.length<=T.length
 | [],T,_,_=>Nat.zero_le _
 | a :: r,T,hn,hs=>by
  have ha:=hs a List.mem_cons_self
  obtain ⟨h1,h2⟩:=List.nodup_cons.1 hn
  have:=ZG (S:=r) (T:=T.erase a) h2 fun n hr=>(List.mem_erase_of_ne (fun e=>h1 (by rw[←e];exact hr))).2 (hs n (List.mem_cons_of_mem _ hr))
  rw[List.length_erase_of_mem ha]at this
  have hpos:=List.length_pos_iff.2 (List.ne_nil_of_mem ha)
  rw[List.length_cons];omega
theorem Hr {n:Int} {xs:List zn}:zw n xs=true↔n∈xs.map (·.ino):=by
 unfold zw
 rw[List.any_eq_true,List.mem_map]
 simp
theorem Qd {S:List Int} {xs:List zn} (hn:S.Nodup) (hs:∀ n∈S,zw n xs=true):S.length<=xs.length:=by
 have:=ZG (T:=xs.map (·.ino)) hn fun n h=>Hr.1 (hs n h)
 rwa [List.length_map]at this
theorem H7 {S:List Int} {n:Int} (h:S.Nodup):(Jv S n).Nodup:=by
 unfold Jv
 split
 ·exact h
 ·rw[List.nodup_append]
  refine ⟨h,by simp,fun a ha b hb e=>?_⟩
  simp at hb;subst hb;subst e;contradiction
theorem Uk {S:List Int} {n m:Int}:m∈Jv S n↔m∈S∨m=n:=by
 unfold Jv
 split
 ·constructor
  ·exact .inl
  ·rintro (h | h)
   ·exact h
   ·rw[h];assumption
 ·simp
theorem qE {n:Int} {xs:List zn} (h:zw n xs=true):zf n xs∈xs/\(zf n xs).ino=n:=by
 unfold zw at h
 unfold zf XO
 cases hq:xs.find? fun x=>x.ino==n with
 | none =>
  rw[List.find?_eq_none]at hq
  obtain ⟨x,hx,he⟩:=List.any_eq_true.1 h
  exact absurd he (hq x hx)
 | some y =>
  exact ⟨List.mem_of_find?_eq_some hq,by simpa using List.find?_some hq⟩
theorem zeo {S:List Int} {es:List zH} {k:Nat} (h:k<es.length):VZ S (es.take (k+1))=Jv (VZ S (es.take k)) es[k].ino:=by
 unfold VZ
 rw[List.take_add_one,List.getElem?_eq_getElem h,List.foldl_append]
 rfl
theorem zfk (es:List zH):∀ (S:List Int),S <+: VZ S es:=by
 induction es with
 | nil=>exact fun S=>List.prefix_refl S
 | cons e r ih =>
  intro S
  refine List.IsPrefix.trans ?_ (ih (Jv S e.ino))
  unfold Jv
  split
  ·exact List.prefix_refl S
  ·exact List.prefix_append S _
theorem zeK (S:List Int) (es:List zH):S.length<=(VZ S es).length:=(zfk es S).length_le
structure JE (xs:List zn) (S:List Int):Prop where
 nodup:S.Nodup
 has:∀ n∈S,zw n xs=true
theorem JE.len {xs:List zn} {S:List Int} (h:JE xs S):S.length<=xs.length:=Qd h.nodup h.has
theorem JE.one {xs:List zn} {S:List Int} {n:Int} (h:JE xs S) (hn:zw n xs=true):JE xs (Jv S n):=⟨H7 h.nodup,fun m hm=>by
 rcases Uk.1 hm with hm | rfl
 ·exact h.has m hm
 ·exact hn⟩
theorem zdP {S:List Int} {n:Int} {j:Nat} (h:j<S.length):((S.take (j+1)).any fun m=>decide (m=n))=(((S.take j).any fun m=>decide (m=n))||decide (S[j]=n)):=by
 rw[List.take_add_one,List.getElem?_eq_getElem h,List.any_append]
 simp
theorem zkX {S:List Int} {n:Int}:(S.any fun m=>decide (m=n))=decide (n∈S):=by
 rw[Bool.eq_iff_iff,List.any_eq_true,decide_eq_true_iff]
 constructor
 ·rintro ⟨m,hm,h⟩;exact (of_decide_eq_true h)▸hm
 ·exact fun h=>⟨n,h,decide_eq_true rfl⟩
theorem x0 (S:List Int) (i:Nat) (h:i<S.length):(uM S)[i]?=some [.sc (.int .i64 S[i])]:=by simp[List.getElem?_map,List.getElem?_eq_getElem h]
section
variable {G:zj}
theorem GO (f:FsV) (hf:FsS f) (h3:JA f) (h1:zw 1 f.xs=true):Fun Tryz.prog G 166 [.agg (fsC f)] (.sc (.bool (decide (Xu f)))) 0:=by
 have hll:(zE f.xs).length=f.xs.length:=List.length_map ..
 have h40:=hf.len
 refine fof (fun i=>if i=5 then XT 9 10 else []) Tryz.func166 ?_;dsimp only[Tryz.f166]
 push_cast -dsimp
 refine loop (fun p:Nat×List Int=>⟨[(1,.ptr 0 0),(3,.own 0 3 1 (uM p.2)),(4,.sc (.int .i64 p.1))],[fsC f],1,0⟩) (fun p=>p.1<=p.2.length/\JE f.xs p.2/\XF f.xs (f.xs.length+1-p.1) p.1 p.2=XF f.xs (f.xs.length+1) 0 [1]) (fun p=>f.xs.length+1-p.1) (0,[1]) ⟨Nat.zero_le _,⟨by simp,fun n hn=>by simp at hn;subst hn;exact h1⟩,rfl⟩ ?_ ?_
 ·exact wks [.inl 0]
 ·rintro ⟨i,S⟩ ⟨k1,k2,k3⟩
  dsimp only at k1 k2 k3 ⊢
  have hSl:=k2.len
  have hli:(uM S).length=S.length:=List.length_map ..
  by_cases h:i<S.length
  ·have g0:=x0 S i h
   obtain ⟨hm,hino⟩:=qE (k2.has S[i] (List.getElem_mem h))
   push_cast -dsimp [hli,h,g0]
   repeat refine an ?_
   refine cl (Xa f S[i] (by omega)) ?_;push_cast -dsimp
   rw[show f.xs.length+1-i=(f.xs.length+1-(i+1))+1 by omega,XF,List.getElem?_eq_getElem h]at k3
   dsimp only at k3
   generalize zf S[i] f.xs=x at hm hino k3
   have hx40:=(hf.node x hm).1
   have hle:(zK x.es).length=x.es.length:=List.length_map ..
   refine loop (fun k:Nat=>⟨[(1,.ptr 0 0),(3,.own 0 3 1 (uM (VZ S (x.es.take k)))),(4,.sc (.int .i64 i)),(5,.ptr 1 0),(7,.sc (.int .i64 k))],[fsC f,J2 x],1,0⟩) (fun k=>k<=x.es.length/\JE f.xs (VZ S (x.es.take k))) (fun k=>x.es.length-k) 0 ⟨Nat.zero_le _,k2⟩ ?_ ?_
   ·exact wks [.inl 0] (by push_cast -dsimp [zb,za,CLe,ze,List.take_zero,VZ,List.foldl_nil])
   ·rintro k ⟨hk0,k4⟩
    by_cases hk:k<x.es.length
    ·have g2:=jX x.es k hk
     have hT:=k4.len
     have ht:=zeo (S:=S) hk
     have hhas:zw x.es[k].ino f.xs=true:=h3 x hm _ (List.getElem_mem hk)
     have k5:=k4.one hhas
     rw[←ht]at k5
     generalize hT1:VZ S (x.es.take (k+1))=T1 at ht k5
     generalize VZ S (x.es.take k)=T at k4 hT ht
     have hlT:(uM T).length=T.length:=List.length_map ..
     generalize hn:x.es[k].ino=n at g2 ht
     push_cast -dsimp [hle,hk]
     refine loop (fun j:Nat=>⟨[(1,.ptr 0 0),(3,.own 0 3 1 (uM T)),(4,.sc (.int .i64 i)),(5,.ptr 1 0),(7,.sc (.int .i64 k)),(8,.sc (.bool ((T.take j).any fun m=>decide (m=n)))),(9,.sc (.int .i64 j))],[fsC f,J2 x],1,0⟩) (fun j=>j<=T.length) (fun j=>T.length-j) 0 (Nat.zero_le _) ?_ ?_
     ·exact wks [.inl 0] (by push_cast -dsimp [zb,za,CLe,ze,List.take_zero,List.any_nil])
     ·intro j hj0
      by_cases hj:j<T.length
      ·have g3:=x0 T j hj
       have ha:=zdP (n:=n) hj
       by_cases hq:((T.take j).any fun m=>decide (m=n))=true
       ·rw[hq,Bool.true_or]at ha
        push_cast -dsimp [hlT,hj,hq]
        repeat refine an ?_
        exact ⟨j+1,hj,by omega,wks [.inl 0] (by push_cast -dsimp [zb,za,CLe,ze,ha])⟩
       ·have hq:=Bool.eq_false_iff.2 hq
        rw[hq,Bool.false_or]at ha
        push_cast -dsimp [hlT,hj,hq,g3,g2,hn]
        repeat refine an ?_
        exact ⟨j+1,hj,by omega,wks [.inl 0] (by push_cast -dsimp [zb,za,CLe,ze,ha])⟩
      ·have hTj:(T.take j)=T:=List.take_of_length_le (by omega)
       have hany:=zkX (S:=T) (n:=n)
       unfold Jv at ht
       by_cases hin:n∈T
       ·rw[if_pos hin]at ht
        rw[decide_eq_true hin]at hany
        push_cast -dsimp [hlT,hj,hTj,hany]
        repeat refine an ?_
        exact ⟨k+1,⟨hk,by rw[hT1];exact k5⟩,by omega,wks [.inl 0] (by push_cast -dsimp [zb,za,CLe,ze,hT1,ht])⟩
       ·rw[if_neg hin]at ht
        rw[decide_eq_false hin]at hany
        push_cast -dsimp [hlT,hj,hTj,hany,g2,hn]
        repeat refine an ?_
        exact ⟨k+1,⟨hk,by rw[hT1];exact k5⟩,by omega,wks [.inl 0] (by push_cast -dsimp [zb,za,CLe,ze,hT1,ht,List.map_append])⟩
    ·have hkk:x.es.take k=x.es:=List.take_of_length_le (by omega)
     rw[hkk]at k4
     have hge:i+1<=(VZ S x.es).length:=Nat.le_trans h (zeK S x.es)
     push_cast -dsimp [hle,hk,hkk]
     repeat refine an ?_
     exact ⟨(i+1,VZ S x.es),⟨hge,k4,k3⟩,by dsimp only;omega,wks [.inl 0]⟩
  ·push_cast -dsimp [hli,h]
   have hfin:XF f.xs (f.xs.length+1-i) i S=S:=by
    rw[show f.xs.length+1-i=(f.xs.length-i)+1 by omega,XF,List.getElem?_eq_none (by omega)]
   rw[hfin]at k3
   have hn:Xu f↔S.length=f.xs.length:=by unfold Xu;rw[←k3]
   exact dn (by push_cast -dsimp [zb,za,CLe,ze,hn,hll])
end
end
section
open CA CB
open Go.RowKit
def J3 (es:List zH):Prop:=∀ i (h:i<es.length),may es[i].name=true/\1<=es[i].ino/\(0<i->Op.bytesLess es[i-1].name es[i].name=true)
instance (es:List zH):Decidable (J3 es):=by unfold J3;infer_instance
def JR (x:zn):Prop:=(x.kind=1∨x.kind=2∨x.kind=3)/\(x.kind≠2->x.es = []/\x.parent=0)/\(x.kind=2->x.data = []/\J3 x.es)/\(x.kind=3->1<=x.data.length/\x.data.length<=4095/\∀ b∈x.data,b≠0)
instance (x:zn):Decidable (JR x):=by unfold JR;infer_instance
def JK (f:FsV):Prop:=∀ x∈f.xs,JR x
instance (f:FsV):Decidable (JK f):=by unfold JK;infer_instance
def jD (f:FsV):Int:=if jE f then if JK f then if JA f then if JO f then if Xu f then if V4 f then 0 else 6 else 5 else 4 else 3 else 2 else 1
def okV (f:FsV):Prop:=Ue f.xs/\jD f=0
instance (f:FsV):Decidable (okV f):=by unfold okV;infer_instance
theorem zbj (es:List zH) (hl:es.length<=100000) (hn:∀ e∈es,e.name.length<=1000000):Fun Tryz.prog G0 202 [.sl 2 (zK es)] (qp (decide (J3 es))) 0:=by
 have hle:(zK es).length=es.length:=List.length_map ..
 refine fon Tryz.func202 ?_;dsimp only[Tryz.f202]
 push_cast -dsimp
 refine loop (fun i:Nat=>⟨[(0,.sl 2 (zK es)),(3,.sc (.int .i64 i))],[],0,0⟩) (fun i=>i<=es.length/\∀ j (h:j<es.length),j<i->may es[j].name=true/\1<=es[j].ino/\(0<j->Op.bytesLess es[j-1].name es[j].name=true)) (fun i=>es.length-i) 0 ⟨Nat.zero_le _,fun j h h'=>absurd h' (Nat.not_lt_zero _)⟩ ?_ ?_
 ·exact wk
 ·rintro i ⟨h1,h2⟩
  by_cases h:i<es.length
  ·have g1:=jX es i h
   have hm:=UP es[i].name (by have:=hn _ (List.getElem_mem h);omega)
   push_cast -dsimp [hle,h,g1]
   repeat refine an ?_
   cases c1:may es[i].name with
   | false =>
    have hno:¬J3 es:=fun hr=>by have:=(hr i h).1;rw[c1]at this;cases this
    refine cl (hm) ?_;push_cast -dsimp [c1]
    exact dn (by push_cast -dsimp [zb,za,CLe,ze,hno])
   | true =>
    by_cases c2:es[i].ino<1
    ·have hno:¬J3 es:=fun hr=>by have:=(hr i h).2.1;omega
     refine cl (hm) ?_;push_cast -dsimp [c1,g1,c2]
     repeat refine an ?_
     exact dn (by push_cast -dsimp [zb,za,CLe,ze,hno])
    ·have step:(0<i->Op.bytesLess es[i-1].name es[i].name=true)->∀ j (h:j<es.length),j<i+1->may es[j].name=true/\1<=es[j].ino/\(0<j->Op.bytesLess es[j-1].name es[j].name=true):=fun hb j hj hlt=>by
      rcases Nat.lt_or_ge j i with q | q
      ·exact h2 j hj q
      ·have:j=i:=by omega
       subst this
       exact ⟨c1,by omega,hb⟩
     by_cases c3:0<i
     ·have g2:=jX es (i-1) (by omega)
      have e1:(i:Int)-1=((i-1:Nat):Int):=by omega
      cases c4:Op.bytesLess es[i-1].name es[i].name with
      | true =>
       refine cl (hm) ?_;push_cast -dsimp [c1,g1,c2]
       repeat refine an ?_
       push_cast -dsimp [c3,e1,g2,g1,c4]
       repeat refine an ?_
       exact ⟨i+1,⟨h,step fun _=>c4⟩,by omega,wk⟩
      | false =>
       have hno:¬J3 es:=fun hr=>by have:=(hr i h).2.2 c3;rw[c4]at this;cases this
       refine cl (hm) ?_;push_cast -dsimp [c1,g1,c2]
       repeat refine an ?_
       push_cast -dsimp [c3,e1,g2,g1,c4]
       repeat refine an ?_
       exact dn (by push_cast -dsimp [zb,za,CLe,ze,hno])
     ·refine cl (hm) ?_;push_cast -dsimp [c1,g1,c2]
      repeat refine an ?_
      push_cast -dsimp [c3]
      repeat refine an ?_
      exact ⟨i+1,⟨h,step fun h=>absurd h c3⟩,by omega,wk⟩
  ·have hr:J3 es:=fun j hj=>h2 j hj (by omega)
   push_cast -dsimp [hle,h]
   exact dn (by push_cast -dsimp [zb,za,CLe,ze,hr])
end
section
open CA CB
open Go.RowKit
theorem Uo (f:FsV) (hf:FsS f):Fun Tryz.prog G0 163 [.agg (fsC f)] (qp (decide (JK f))) 0:=by
 have hll:(zE f.xs).length=f.xs.length:=List.length_map ..
 have h40:=hf.len
 refine fon Tryz.func163 ?_;dsimp only[Tryz.f163]
 push_cast -dsimp
 refine loop (fun i:Nat=>⟨[(1,.ptr 0 0),(3,.sc (.int .i64 i))],[fsC f],0,0⟩) (fun i=>i<=f.xs.length/\∀ x∈f.xs.take i,JR x) (fun i=>f.xs.length-i) 0 ⟨Nat.zero_le _,fun x hx=>by simp at hx⟩ ?_ ?_
 ·exact wk
 ·rintro i ⟨h1,h2⟩
  by_cases h:i<f.xs.length
  case neg =>
   rw[List.take_of_length_le (by omega)]at h2
   have hn:JK f:=h2
   push_cast -dsimp [hll,h]
   exact dn (by push_cast -dsimp [zb,za,CLe,ze,hn])
  have g1:=qI f.xs i h
  have hbad:¬JR f.xs[i]->¬JK f:=fun hn h'=>hn (h' _ (List.getElem_mem h))
  have hs:=hf.node _ (List.getElem_mem h)
  have step:JR f.xs[i]->∀ x∈f.xs.take (i+1),JR x:=fun hq=>zN h h2 hq
  push_cast -dsimp [hll,h,g1]
  repeat refine an ?_
  generalize f.xs[i]=x at g1 hbad hs step
  have hle:(zK x.es).length=x.es.length:=List.length_map ..
  have hent:x.es.length<=10000:=hs.1
  by_cases k2:x.kind=2
  ·by_cases d0:x.data = []
   ·have hr:=zbj x.es (by omega) fun e he=>by have:=hs.2.2 e he;omega
    cases c1:decide (J3 x.es) with
    | false =>
     have hn:=hbad fun hq=>of_decide_eq_false c1 (hq.2.2.1 k2).2
     push_cast -dsimp [k2,d0]
     refine cl (hr) ?_;push_cast -dsimp [c1]
     exact dn (by push_cast -dsimp [zb,za,CLe,ze,hn])
    | true =>
     have hq:JR x:=⟨.inr (.inl k2),fun h=>absurd k2 h,fun _=>⟨d0,of_decide_eq_true c1⟩,fun h=>by omega⟩
     push_cast -dsimp [k2,d0]
     refine cl (hr) ?_;push_cast -dsimp [c1,k2]
     refine loop (fun j:Nat=>⟨[(1,.ptr 0 0),(3,.sc (.int .i64 i)),(4,.ptr 1 0),(5,.sc (.int .i64 j))],[fsC f,J2 x],0,0⟩) (fun j=>j=0) (fun j=>0) 0 rfl ?_ ?_
     ·exact wk (by push_cast -dsimp [zb,za,CLe,ze,k2,d0]) (by push_cast -dsimp [zb,za,CLe,ze,k2,d0])
     ·rintro j rfl
      push_cast -dsimp [d0]
      repeat refine an ?_
      exact ⟨i+1,⟨h,step hq⟩,by omega,wk⟩
   ·have hn:=hbad fun hq=>d0 (hq.2.2.1 k2).1
    push_cast -dsimp [k2,d0]
    exact dn (by push_cast -dsimp [zb,za,CLe,ze,hn])
  by_cases e0:x.es = []
  case neg =>
   have hn:=hbad fun hq=>e0 (hq.2.1 k2).1
   have hpos:0<(x.es.length:Int):=by have:=List.length_pos_iff.2 e0;omega
   by_cases k1:x.kind=1
   ·push_cast -dsimp [k1,hle,hpos]
    exact dn (by push_cast -dsimp [zb,za,CLe,ze,hn])
   ·by_cases k3:x.kind=3
    ·push_cast -dsimp [k1,k2,k3,hle,hpos]
     exact dn (by push_cast -dsimp [zb,za,CLe,ze,hn])
    ·have hn:=hbad fun hq=>by rcases hq.1 with q | q | q<;>contradiction
     push_cast -dsimp [k1,k2,k3]
     exact dn (by push_cast -dsimp [zb,za,CLe,ze,hn])
  have hl0:x.es.length=0:=by rw[e0];rfl
  by_cases p0:x.parent=0
  case neg =>
   have hn:=hbad fun hq=>p0 (hq.2.1 k2).2
   by_cases k1:x.kind=1
   ·push_cast -dsimp [k1,hle,hl0,p0]
    exact dn (by push_cast -dsimp [zb,za,CLe,ze,hn])
   ·by_cases k3:x.kind=3
    ·push_cast -dsimp [k1,k2,k3,hle,hl0,p0]
     exact dn (by push_cast -dsimp [zb,za,CLe,ze,hn])
    ·have hn:=hbad fun hq=>by rcases hq.1 with q | q | q<;>contradiction
     push_cast -dsimp [k1,k2,k3]
     exact dn (by push_cast -dsimp [zb,za,CLe,ze,hn])
  by_cases k1:x.kind=1
  ·have hq:JR x:=⟨.inl k1,fun _=>⟨e0,p0⟩,fun h=>absurd h k2,fun h=>by omega⟩
   push_cast -dsimp [k1,hle,hl0,p0]
   refine loop (fun j:Nat=>⟨[(1,.ptr 0 0),(3,.sc (.int .i64 i)),(4,.ptr 1 0),(5,.sc (.int .i64 j))],[fsC f,J2 x],0,0⟩) (fun j=>j=0) (fun j=>0) 0 rfl ?_ ?_
   ·exact wk (by push_cast -dsimp [zb,za,CLe,ze,k1,p0]) (by push_cast -dsimp [zb,za,CLe,ze,k1,p0])
   ·rintro j rfl
    by_cases hd:(0:Int)<x.data.length
    ·push_cast -dsimp [hd,k1]
     repeat refine an ?_
     exact ⟨i+1,⟨h,step hq⟩,by omega,wk⟩
    ·push_cast -dsimp [hd,k1]
     repeat refine an ?_
     exact ⟨i+1,⟨h,step hq⟩,by omega,wk⟩
  by_cases k3:x.kind=3
  case neg =>
   have hn:=hbad fun hq=>by rcases hq.1 with q | q | q<;>contradiction
   push_cast -dsimp [k1,k2,k3]
   exact dn (by push_cast -dsimp [zb,za,CLe,ze,hn])
  by_cases l1:(x.data.length:Int)<1
  ·have hn:=hbad fun hq=>by have:=(hq.2.2.2 k3).1;omega
   push_cast -dsimp [k1,k2,k3,hle,hl0,p0,l1]
   exact dn (by push_cast -dsimp [zb,za,CLe,ze,hn])
  by_cases l2:4095<(x.data.length:Int)
  ·have hn:=hbad fun hq=>by have:=(hq.2.2.2 k3).2.1;omega
   push_cast -dsimp [k1,k2,k3,hle,hl0,p0,l1,l2]
   exact dn (by push_cast -dsimp [zb,za,CLe,ze,hn])
  push_cast -dsimp [k1,k2,k3,hle,hl0,p0,l1,l2]
  refine loop (fun j:Nat=>⟨[(1,.ptr 0 0),(3,.sc (.int .i64 i)),(4,.ptr 1 0),(5,.sc (.int .i64 j))],[fsC f,J2 x],0,0⟩) (fun j=>j<=x.data.length/\∀ b∈x.data.take j,b≠0) (fun j=>x.data.length-j) 0 ⟨Nat.zero_le _,fun b hb=>by simp at hb⟩ ?_ ?_
  ·exact wk (by push_cast -dsimp [zb,za,CLe,ze,k3,p0]) (by push_cast -dsimp [zb,za,CLe,ze,k3,p0])
  ·rintro j ⟨j1,j2⟩
   by_cases hj:j<x.data.length
   ·have hb:x.data[j]?=some x.data[j]:=List.getElem?_eq_getElem hj
    by_cases z:(x.data[j].toNat:Int)=0
    ·have hn:=hbad fun hq=>(hq.2.2.2 k3).2.2 _ (List.getElem_mem hj) (UInt8.toNat_inj.1 (by simpa using z))
     push_cast -dsimp [hj,k3,hb,z]
     repeat refine an ?_
     exact dn (by push_cast -dsimp [zb,za,CLe,ze,hn])
    ·push_cast -dsimp [hj,k3,hb,z]
     repeat refine an ?_
     exact ⟨j+1,⟨hj,zN hj j2 fun hz=>z (by rw[hz];rfl)⟩,by omega,wk⟩
   ·rw[List.take_of_length_le (by omega)]at j2
    have hq:JR x:=⟨.inr (.inr k3),fun _=>⟨e0,p0⟩,fun h=>absurd h k2,fun _=>⟨by omega,by omega,j2⟩⟩
    push_cast -dsimp [hj,k3]
    repeat refine an ?_
    exact ⟨i+1,⟨h,step hq⟩,by omega,wk⟩
theorem zcr (f:FsV) (hf:FsS f):Fun Tryz.prog G0 115 [.agg (fsC f)] (.sc (.int .i64 (jD f))) 0:=by
 have h40:=hf.len
 have hb:zP f.xs<=100000000:=by have:=hf.bytes;omega
 refine fon Tryz.func115 ?_;dsimp only[Tryz.f115]
 push_cast -dsimp
 by_cases c1:jE f
 case neg =>
  refine cl (NJ f (by omega)) ?_;push_cast -dsimp [decide_eq_false c1]
  exact dn (by push_cast -dsimp [zb,za,CLe,ze,jD,c1])
 refine cl (NJ f (by omega)) ?_;push_cast -dsimp [decide_eq_true c1]
 by_cases c2:JK f
 case neg =>
  refine cl (Uo f hf) ?_;push_cast -dsimp [decide_eq_false c2]
  exact dn (by push_cast -dsimp [zb,za,CLe,ze,jD,c1,c2])
 refine cl (Uo f hf) ?_;push_cast -dsimp [decide_eq_true c2]
 by_cases c3:JA f
 case neg =>
  refine cl (Ga f hf) ?_;push_cast -dsimp [decide_eq_false c3]
  exact dn (by push_cast -dsimp [zb,za,CLe,ze,jD,c1,c2,c3])
 refine cl (Ga f hf) ?_;push_cast -dsimp [decide_eq_true c3]
 by_cases c4:JO f
 case neg =>
  refine cl (UT f hf) ?_;push_cast -dsimp [decide_eq_false c4]
  exact dn (by push_cast -dsimp [zb,za,CLe,ze,jD,c1,c2,c3,c4])
 refine cl (UT f hf) ?_;push_cast -dsimp [decide_eq_true c4]
 by_cases c5:Xu f
 case neg =>
  refine cl (GO f hf c3 c1.2.2.2.2.2.2.2.1) ?_;push_cast -dsimp [decide_eq_false c5]
  exact dn (by push_cast -dsimp [zb,za,CLe,ze,jD,c1,c2,c3,c4,c5])
 refine cl (GO f hf c3 c1.2.2.2.2.2.2.2.1) ?_;push_cast -dsimp [decide_eq_true c5]
 by_cases c6:V4 f
 case neg =>
  refine cl (yq f hf hb) ?_;push_cast -dsimp [decide_eq_false c6]
  exact dn (by push_cast -dsimp [zb,za,CLe,ze,jD,c1,c2,c3,c4,c5,c6])
 refine cl (yq f hf hb) ?_;push_cast -dsimp [decide_eq_true c6]
 exact dn (by push_cast -dsimp [zb,za,CLe,ze,jD,c1,c2,c3,c4,c5,c6])
end
section
open CA CB
open Go.RowKit
def qO (x:zn) (k:jC):Bool:=decide (k.ino=x.ino)&&!k.content
def z6 (w:zY) (x:zn):Prop:=zw x.ino w.fs.xs=false/\1<=x.ino/\x.ino<w.fs.next/\x.links=0/\x.parent=0/\x.es = []/\(x.kind=1∨x.kind=2∨x.kind=3)/\(x.kind=2->x.data = [])/\(x.kind=3->1<=x.data.length/\x.data.length<=4095/\∀ b∈x.data,b≠0)/\w.kept.any (qO x)=true
instance (w:zY) (x:zn):Decidable (z6 w x):=by unfold z6;infer_instance
theorem znI {α:Type} {P:α->Bool} {l:List α} {k:Nat} (h:k<l.length):(l.take (k+1)).any P=((l.take k).any P||P l[k]):=by
 rw[List.take_add_one,List.getElem?_eq_getElem h,List.any_append];simp
theorem ve (w:zY) (x:zn) (hl:w.fs.xs.length<=100000) (hk:w.kept.length<=100000) (he:x.es.length<=100000) (hd:x.data.length<=100000):Fun Tryz.prog G0 117 [kG w,.agg (J2 x)] (qp (decide (z6 w x))) 0:=by
 have hg:=Xa (G:=G0) w.fs x.ino hl
 have hkl:(Jf w.kept).length=w.kept.length:=List.length_map ..
 have hle:(zK x.es).length=x.es.length:=List.length_map ..
 by_cases c1:zw x.ino w.fs.xs=true
 ·have hn:¬z6 w x:=fun h=>by have:=h.1;rw[c1]at this;cases this
  rw[c1]at hg
  refine fon Tryz.func117 ?_;dsimp only[Tryz.f117]
  push_cast -dsimp
  refine cl (hg) ?_;push_cast -dsimp
  exact dn (by push_cast -dsimp [zb,za,CLe,ze,hn])
 have c1:=Bool.eq_false_iff.2 c1
 rw[c1]at hg
 by_cases c2:x.ino<1
 case pos =>
  have hn:¬z6 w x:=fun h=>by have:=h.2.1;omega
  refine fon Tryz.func117 ?_;dsimp only[Tryz.f117]
  push_cast -dsimp
  refine cl (hg) ?_;push_cast -dsimp [hle,c2]
  exact dn (by push_cast -dsimp [zb,za,CLe,ze,hn])
 by_cases c3:w.fs.next<=x.ino
 case pos =>
  have hn:¬z6 w x:=fun h=>by have:=h.2.2.1;omega
  refine fon Tryz.func117 ?_;dsimp only[Tryz.f117]
  push_cast -dsimp
  refine cl (hg) ?_;push_cast -dsimp [hle,c2,c3]
  exact dn (by push_cast -dsimp [zb,za,CLe,ze,hn])
 by_cases c4:x.links=0
 case neg =>
  have hn:¬z6 w x:=fun h=>c4 h.2.2.2.1
  refine fon Tryz.func117 ?_;dsimp only[Tryz.f117]
  push_cast -dsimp
  refine cl (hg) ?_;push_cast -dsimp [hle,c2,c3,c4]
  exact dn (by push_cast -dsimp [zb,za,CLe,ze,hn])
 by_cases c5:x.parent=0
 case neg =>
  have hn:¬z6 w x:=fun h=>c5 h.2.2.2.2.1
  refine fon Tryz.func117 ?_;dsimp only[Tryz.f117]
  push_cast -dsimp
  refine cl (hg) ?_;push_cast -dsimp [hle,c2,c3,c4,c5]
  exact dn (by push_cast -dsimp [zb,za,CLe,ze,hn])
 by_cases c6:(x.es.length:Int)=0
 case neg =>
  have hn:¬z6 w x:=fun h=>c6 (by rw[h.2.2.2.2.2.1];rfl)
  refine fon Tryz.func117 ?_;dsimp only[Tryz.f117]
  push_cast -dsimp
  refine cl (hg) ?_;push_cast -dsimp [hle,c2,c3,c4,c5,c6]
  exact dn (by push_cast -dsimp [zb,za,CLe,ze,hn])
 by_cases c7:x.kind<1
 case pos =>
  have hn:¬z6 w x:=fun h=>by have:=h.2.2.2.2.2.2.1;omega
  refine fon Tryz.func117 ?_;dsimp only[Tryz.f117]
  push_cast -dsimp
  refine cl (hg) ?_;push_cast -dsimp [hle,c2,c3,c4,c5,c6,c7]
  exact dn (by push_cast -dsimp [zb,za,CLe,ze,hn])
 by_cases c8:3<x.kind
 case pos =>
  have hn:¬z6 w x:=fun h=>by have:=h.2.2.2.2.2.2.1;omega
  refine fon Tryz.func117 ?_;dsimp only[Tryz.f117]
  push_cast -dsimp
  refine cl (hg) ?_;push_cast -dsimp [hle,c2,c3,c4,c5,c6,c7,c8]
  exact dn (by push_cast -dsimp [zb,za,CLe,ze,hn])
 have hes:x.es = []:=List.eq_nil_of_length_eq_zero (by omega)
 have hkd:x.kind=1∨x.kind=2∨x.kind=3:=by omega
 have key:(x.kind=2->x.data = [])->(x.kind=3->1<=x.data.length/\x.data.length<=4095/\∀ b∈x.data,b≠0)->decide (z6 w x)=w.kept.any (qO x):=fun q1 q2=>by
  cases hn:w.kept.any (qO x) with
  | true=>exact decide_eq_true ⟨c1,by omega,by omega,c4,c5,hes,hkd,q1,q2,hn⟩
  | false=>exact decide_eq_false fun h=>by have:=h.2.2.2.2.2.2.2.2.2;rw[hn]at this;cases this
 by_cases k2:x.kind=2
 ·by_cases d0:x.data = []
  ·have hdl:((0:Int)<x.data.length)=False:=eq_false (by rw[d0];simp)
   refine fon Tryz.func117 ?_;dsimp only[Tryz.f117]
   push_cast -dsimp
   refine cl (hg) ?_;push_cast -dsimp [hle,c2,c3,c4,c5,c6,c7,c8,k2,d0,hdl]
   refine loop (fun j:Nat=>⟨[(2,.ptr 0 0),(3,.ptr 1 0),(7,.sc (.int .i64 j))],[NS w,J2 x],0,0⟩) (fun j=>j=0) (fun j=>0) 0 rfl ?_ ?_
   ·exact wk (h5:=by push_cast -dsimp [zb,za,CLe,ze,k2,d0,c4,c5])
   ·rintro j rfl
    push_cast -dsimp [hdl,d0]
    refine loop (fun i:Nat=>⟨[(2,.ptr 0 0),(3,.ptr 1 0),(8,.sc (.bool ((w.kept.take i).any (qO x)))),(9,.sc (.int .i64 i))],[NS w,J2 x],0,0⟩) (fun i=>i<=w.kept.length) (fun i=>w.kept.length-i) 0 (Nat.zero_le _) ?_ ?_
    ·exact wk (by push_cast -dsimp [zb,za,CLe,ze,List.take_zero,List.any_nil])
    ·intro i hi
     by_cases h:i<w.kept.length
     ·have g:=j4 w.kept i h
      have ha:=znI (P:=qO x) h
      have hp:qO x w.kept[i]=(decide (w.kept[i].ino=x.ino)&&!w.kept[i].content):=rfl
      by_cases hn:((w.kept.take i).any (qO x))=true
      ·rw[hn,Bool.true_or]at ha
       push_cast -dsimp [hkl,h,hn]
       repeat refine an ?_
       exact ⟨i+1,h,by omega,wk (by push_cast -dsimp [zb,za,CLe,ze,ha])⟩
      ·have hn:=Bool.eq_false_iff.2 hn
       rw[hn,Bool.false_or,hp]at ha
       by_cases he:w.kept[i].ino=x.ino
       ·rw[decide_eq_true he,Bool.true_and]at ha
        push_cast -dsimp [hkl,h,hn,g,he]
        repeat refine an ?_
        exact ⟨i+1,h,by omega,wk (by push_cast -dsimp [zb,za,CLe,ze,ha])⟩
       ·rw[decide_eq_false he,Bool.false_and]at ha
        push_cast -dsimp [hkl,h,hn,g,he]
        repeat refine an ?_
        exact ⟨i+1,h,by omega,wk (by push_cast -dsimp [zb,za,CLe,ze,ha])⟩
     ·rw[List.take_of_length_le (by omega)]
      have hd:decide (z6 w x)=w.kept.any (qO x):=key (fun _=>d0) (fun h=>by omega)
      push_cast -dsimp [hkl,h]
      exact dn (by push_cast -dsimp [zb,za,CLe,ze,hd])
  ·have hn:¬z6 w x:=fun h=>d0 (h.2.2.2.2.2.2.2.1 k2)
   refine fon Tryz.func117 ?_;dsimp only[Tryz.f117]
   push_cast -dsimp
   refine cl (hg) ?_;push_cast -dsimp [hle,c2,c3,c4,c5,c6,c7,c8,k2,d0]
   exact dn (by push_cast -dsimp [zb,za,CLe,ze,hn])
 by_cases k3:x.kind=3
 ·by_cases l1:(x.data.length:Int)<1
  ·have hn:¬z6 w x:=fun h=>by have:=(h.2.2.2.2.2.2.2.2.1 k3).1;omega
   refine fon Tryz.func117 ?_;dsimp only[Tryz.f117]
   push_cast -dsimp
   refine cl (hg) ?_;push_cast -dsimp [hle,c2,c3,c4,c5,c6,c7,c8,k2,k3,l1]
   exact dn (by push_cast -dsimp [zb,za,CLe,ze,hn])
  by_cases l2:4095<(x.data.length:Int)
  ·have hn:¬z6 w x:=fun h=>by have:=(h.2.2.2.2.2.2.2.2.1 k3).2.1;omega
   refine fon Tryz.func117 ?_;dsimp only[Tryz.f117]
   push_cast -dsimp
   refine cl (hg) ?_;push_cast -dsimp [hle,c2,c3,c4,c5,c6,c7,c8,k2,k3,l1,l2]
   exact dn (by push_cast -dsimp [zb,za,CLe,ze,hn])
  refine fon Tryz.func117 ?_;dsimp only[Tryz.f117]
  push_cast -dsimp
  refine cl (hg) ?_;push_cast -dsimp [hle,c2,c3,c4,c5,c6,c7,c8,k2,k3,l1,l2]
  refine loop (fun j:Nat=>⟨[(2,.ptr 0 0),(3,.ptr 1 0),(7,.sc (.int .i64 j))],[NS w,J2 x],0,0⟩) (fun j=>j<=x.data.length/\∀ b∈x.data.take j,b≠0) (fun j=>x.data.length-j) 0 ⟨Nat.zero_le _,fun b hb=>by simp at hb⟩ ?_ ?_
  ·exact wk (h5:=by push_cast -dsimp [zb,za,CLe,ze,k3,c4,c5])
  ·rintro j ⟨j1,j2⟩
   by_cases hj:j<x.data.length
   ·have hb:x.data[j]?=some x.data[j]:=List.getElem?_eq_getElem hj
    by_cases z:(x.data[j].toNat:Int)=0
    ·have hn:¬z6 w x:=fun h=>(h.2.2.2.2.2.2.2.2.1 k3).2.2 _ (List.getElem_mem hj) (UInt8.toNat_inj.1 (by simpa using z))
     push_cast -dsimp [hj,k3,hb,z]
     repeat refine an ?_
     exact dn (by push_cast -dsimp [zb,za,CLe,ze,hn])
    ·push_cast -dsimp [hj,k3,hb,z]
     repeat refine an ?_
     exact ⟨j+1,⟨hj,zN hj j2 fun hz=>z (by rw[hz];rfl)⟩,by omega,wk⟩
   ·rw[List.take_of_length_le (by omega)]at j2
    push_cast -dsimp [hj,k3]
    refine loop (fun i:Nat=>⟨[(2,.ptr 0 0),(3,.ptr 1 0),(8,.sc (.bool ((w.kept.take i).any (qO x)))),(9,.sc (.int .i64 i))],[NS w,J2 x],0,0⟩) (fun i=>i<=w.kept.length) (fun i=>w.kept.length-i) 0 (Nat.zero_le _) ?_ ?_
    ·exact wk (by push_cast -dsimp [zb,za,CLe,ze,List.take_zero,List.any_nil])
    ·intro i hi
     by_cases h:i<w.kept.length
     ·have g:=j4 w.kept i h
      have ha:=znI (P:=qO x) h
      have hp:qO x w.kept[i]=(decide (w.kept[i].ino=x.ino)&&!w.kept[i].content):=rfl
      by_cases hn:((w.kept.take i).any (qO x))=true
      ·rw[hn,Bool.true_or]at ha
       push_cast -dsimp [hkl,h,hn]
       repeat refine an ?_
       exact ⟨i+1,h,by omega,wk (by push_cast -dsimp [zb,za,CLe,ze,ha])⟩
      ·have hn:=Bool.eq_false_iff.2 hn
       rw[hn,Bool.false_or,hp]at ha
       by_cases he:w.kept[i].ino=x.ino
       ·rw[decide_eq_true he,Bool.true_and]at ha
        push_cast -dsimp [hkl,h,hn,g,he]
        repeat refine an ?_
        exact ⟨i+1,h,by omega,wk (by push_cast -dsimp [zb,za,CLe,ze,ha])⟩
       ·rw[decide_eq_false he,Bool.false_and]at ha
        push_cast -dsimp [hkl,h,hn,g,he]
        repeat refine an ?_
        exact ⟨i+1,h,by omega,wk (by push_cast -dsimp [zb,za,CLe,ze,ha])⟩
     ·rw[List.take_of_length_le (by omega)]
      have hd:decide (z6 w x)=w.kept.any (qO x):=key (fun h=>absurd h k2) (fun _=>⟨by omega,by omega,j2⟩)
      push_cast -dsimp [hkl,h]
      exact dn (by push_cast -dsimp [zb,za,CLe,ze,hd])
 ·have k1:x.kind=1:=by omega
  refine fon Tryz.func117 ?_;dsimp only[Tryz.f117]
  push_cast -dsimp
  refine cl (hg) ?_;push_cast -dsimp [hle,c2,c3,c4,c5,c6,c7,c8,k2,k3]
  refine loop (fun j:Nat=>⟨[(2,.ptr 0 0),(3,.ptr 1 0),(7,.sc (.int .i64 j))],[NS w,J2 x],0,0⟩) (fun j=>j=0) (fun j=>0) 0 rfl ?_ ?_
  ·exact wk (h5:=by push_cast -dsimp [zb,za,CLe,ze,c4,c5])
  ·rintro j rfl
   by_cases hd0:(0:Int)<x.data.length
   ·push_cast -dsimp [hd0,k3]
    refine loop (fun i:Nat=>⟨[(2,.ptr 0 0),(3,.ptr 1 0),(8,.sc (.bool ((w.kept.take i).any (qO x)))),(9,.sc (.int .i64 i))],[NS w,J2 x],0,0⟩) (fun i=>i<=w.kept.length) (fun i=>w.kept.length-i) 0 (Nat.zero_le _) ?_ ?_
    ·exact wk (by push_cast -dsimp [zb,za,CLe,ze,List.take_zero,List.any_nil])
    ·intro i hi
     by_cases h:i<w.kept.length
     ·have g:=j4 w.kept i h
      have ha:=znI (P:=qO x) h
      have hp:qO x w.kept[i]=(decide (w.kept[i].ino=x.ino)&&!w.kept[i].content):=rfl
      by_cases hn:((w.kept.take i).any (qO x))=true
      ·rw[hn,Bool.true_or]at ha
       push_cast -dsimp [hkl,h,hn]
       repeat refine an ?_
       exact ⟨i+1,h,by omega,wk (by push_cast -dsimp [zb,za,CLe,ze,ha])⟩
      ·have hn:=Bool.eq_false_iff.2 hn
       rw[hn,Bool.false_or,hp]at ha
       by_cases he:w.kept[i].ino=x.ino
       ·rw[decide_eq_true he,Bool.true_and]at ha
        push_cast -dsimp [hkl,h,hn,g,he]
        repeat refine an ?_
        exact ⟨i+1,h,by omega,wk (by push_cast -dsimp [zb,za,CLe,ze,ha])⟩
       ·rw[decide_eq_false he,Bool.false_and]at ha
        push_cast -dsimp [hkl,h,hn,g,he]
        repeat refine an ?_
        exact ⟨i+1,h,by omega,wk (by push_cast -dsimp [zb,za,CLe,ze,ha])⟩
     ·rw[List.take_of_length_le (by omega)]
      have hd:decide (z6 w x)=w.kept.any (qO x):=key (fun h=>absurd h k2) (fun h=>absurd h k3)
      push_cast -dsimp [hkl,h]
      exact dn (by push_cast -dsimp [zb,za,CLe,ze,hd])
   ·push_cast -dsimp [hd0,k3]
    refine loop (fun i:Nat=>⟨[(2,.ptr 0 0),(3,.ptr 1 0),(8,.sc (.bool ((w.kept.take i).any (qO x)))),(9,.sc (.int .i64 i))],[NS w,J2 x],0,0⟩) (fun i=>i<=w.kept.length) (fun i=>w.kept.length-i) 0 (Nat.zero_le _) ?_ ?_
    ·exact wk (by push_cast -dsimp [zb,za,CLe,ze,List.take_zero,List.any_nil])
    ·intro i hi
     by_cases h:i<w.kept.length
     ·have g:=j4 w.kept i h
      have ha:=znI (P:=qO x) h
      have hp:qO x w.kept[i]=(decide (w.kept[i].ino=x.ino)&&!w.kept[i].content):=rfl
      by_cases hn:((w.kept.take i).any (qO x))=true
      ·rw[hn,Bool.true_or]at ha
       push_cast -dsimp [hkl,h,hn]
       repeat refine an ?_
       exact ⟨i+1,h,by omega,wk (by push_cast -dsimp [zb,za,CLe,ze,ha])⟩
      ·have hn:=Bool.eq_false_iff.2 hn
       rw[hn,Bool.false_or,hp]at ha
       by_cases he:w.kept[i].ino=x.ino
       ·rw[decide_eq_true he,Bool.true_and]at ha
        push_cast -dsimp [hkl,h,hn,g,he]
        repeat refine an ?_
        exact ⟨i+1,h,by omega,wk (by push_cast -dsimp [zb,za,CLe,ze,ha])⟩
       ·rw[decide_eq_false he,Bool.false_and]at ha
        push_cast -dsimp [hkl,h,hn,g,he]
        repeat refine an ?_
        exact ⟨i+1,h,by omega,wk (by push_cast -dsimp [zb,za,CLe,ze,ha])⟩
     ·rw[List.take_of_length_le (by omega)]
      have hd:decide (z6 w x)=w.kept.any (qO x):=key (fun h=>absurd h k2) (fun h=>absurd h k3)
      push_cast -dsimp [hkl,h]
      exact dn (by push_cast -dsimp [zb,za,CLe,ze,hd])
end
section
open CA CB
open Go.RowKit
def zeE (w:zY):Prop:=(∀ k∈w.kept,k.data.length<=5000)/\Ue w.fs.xs/\Ue w.pool/\w.kept.length<=40
instance (w:zY):Decidable (zeE w):=by unfold zeE;infer_instance
def YB (w:zY) (k:jC):Prop:=k.slot<=1073741824/\(zw k.ino w.fs.xs=true∨zw k.ino w.pool=true)/\(k.content=true->(if zw k.ino w.pool=true then zf k.ino w.pool else zf k.ino w.fs.xs).kind=1)/\(k.content=false->k.data = [])
instance (w:zY) (k:jC):Decidable (YB w k):=by unfold YB;infer_instance
def YO (ks:List jC):Prop:=jh znP jC.slot ks/\∀ k∈ks,1<=k.slot
instance (ks:List jC):Decidable (YO ks):=by unfold YO jh;infer_instance
def Yx (w:zY):Prop:=jD w.fs=0/\zW w.pool/\(∀ x∈w.pool,z6 w x)/\YO w.kept/\∀ k∈w.kept,YB w k
instance (w:zY):Decidable (Yx w):=by unfold Yx;infer_instance
def okW (w:zY):Prop:=zeE w/\Yx w
instance (w:zY):Decidable (okW w):=by unfold okW;infer_instance
theorem VF {ks:List jC} (h:YO ks):0<=jl ks/\∀ k∈ks,k.slot<=jl ks:=by
 rcases List.eq_nil_or_concat ks with rfl | ⟨l,b,rfl⟩
 ·exact ⟨Int.le_refl 0,fun k hk=>by cases hk⟩
 ·rw[List.concat_eq_append]at h ⊢
  have hl:jl (l++[b])=b.slot:=by unfold jl;rw[List.getLast?_append];rfl
  rw[hl]
  have hb:=h.2 b (by simp)
  refine ⟨by omega,fun k hk=>?_⟩
  rcases List.mem_append.1 hk with hk | hk
  ·have:=(List.pairwise_append.1 h.1).2.2 k hk b (by simp)
   have:k.slot<b.slot:=of_decide_eq_true this
   omega
  ·rw[List.mem_singleton.1 hk];exact Int.le_refl _
theorem Vh {ks:List jC} {k:jC}:YO (ks++[k])↔YO ks/\jl ks<k.slot:=by
 constructor
 ·rintro ⟨h1,h2⟩
  have h0:YO ks:=⟨(List.pairwise_append.1 h1).1,fun x hx=>h2 x (List.mem_append_left _ hx)⟩
  refine ⟨h0,?_⟩
  rcases List.eq_nil_or_concat ks with rfl | ⟨l,b,rfl⟩
  ·have:=h2 k (by simp)
   show (0:Int)<k.slot
   omega
  ·rw[List.concat_eq_append]at h1 ⊢
   have hl:jl (l++[b])=b.slot:=by unfold jl;rw[List.getLast?_append];rfl
   rw[hl]
   exact of_decide_eq_true ((List.pairwise_append.1 h1).2.2 b (by simp) k (by simp))
 ·rintro ⟨h,hk⟩
  obtain ⟨q1,q2⟩:=VF h
  refine ⟨List.pairwise_append.2 ⟨h.1,List.pairwise_singleton _ _,fun a ha b hb=>?_⟩,fun x hx=>?_⟩
  ·rw[List.mem_singleton.1 hb]
   have:=q2 a ha
   exact decide_eq_true (show a.slot<k.slot by omega)
  ·rcases List.mem_append.1 hx with hx | hx
   ·exact h.2 x hx
   ·rw[List.mem_singleton.1 hx];omega
theorem Uv (w:zY):Fun Tryz.prog G0 65 [kG w] (qp (decide (zeE w))) 0:=by
 have hkl:(Jf w.kept).length=w.kept.length:=List.length_map ..
 have hf:=yX (G:=G0) w.fs
 have hq:=Vw (G:=G0) w
 have hp:=yX (G:=G0) ⟨0,0,0,w.pool⟩
 simp only at hp
 have fin:(∀ k∈w.kept.take 100,k.data.length<=5000)->(zeE w↔Ue w.fs.xs/\Ue w.pool/\w.kept.length<=40):=fun h=>by
  refine ⟨fun q=>q.2,fun q=>⟨?_,q⟩⟩
  rw[List.take_of_length_le (by have:=q.2.2;omega)]at h
  exact h
 refine fon Tryz.func65 ?_;dsimp only[Tryz.f65]
 push_cast -dsimp
 refine loop (fun i:Nat=>⟨[(1,.ptr 0 0),(3,.sc (.int .i64 i))],[NS w],0,0⟩) (fun i=>i<=w.kept.length/\i<=100/\∀ k∈w.kept.take i,k.data.length<=5000) (fun i=>w.kept.length-i) 0 ⟨Nat.zero_le _,Nat.zero_le _,fun x hx=>by simp at hx⟩ ?_ ?_
 ·exact wk
 ·rintro i ⟨h1,h2,h3⟩
  have last:(∀ k∈w.kept.take 100,k.data.length<=5000)->decide (zeE w)=(decide (Ue w.fs.xs)&&(decide (Ue w.pool)&&decide (w.kept.length<=40))):=fun h=>by
   have:=fin h
   by_cases a:Ue w.fs.xs<;>by_cases b:Ue w.pool<;>by_cases c:w.kept.length<=40<;>simp[this,a,b,c]
  by_cases h:i<w.kept.length
  ·by_cases h100:i<100
   ·have g:=j4 w.kept i h
    have h100':((i:Int)<100)=True:=eq_true (by omega)
    by_cases hd:5000<(w.kept[i].data.length:Int)
    ·have hn:¬zeE w:=fun q=>by have:=q.1 _ (List.getElem_mem h);omega
     push_cast -dsimp [hkl,h,h100',g,hd]
     repeat refine an ?_
     exact dn (by push_cast -dsimp [zb,za,CLe,ze,hn])
    ·push_cast -dsimp [hkl,h,h100',g,hd]
     repeat refine an ?_
     exact ⟨i+1,⟨h,h100,zN h h3 (by omega)⟩,by omega,wk⟩
   ·have h100':((i:Int)<100)=False:=eq_false (by omega)
    have e:i=100:=by omega
    have hl:=last (by rw[←e];exact h3)
    have h40:((w.kept.length:Int)<=40)=False:=eq_false (by omega)
    rw[decide_eq_false (show ¬w.kept.length<=40 by omega)]at hl
    rw[hl]
    by_cases a:Ue w.fs.xs
    ·by_cases b:Ue w.pool
     ·push_cast -dsimp [hkl,h,h100']
      refine cl (hf) ?_;push_cast -dsimp [decide_eq_true a]
      refine cl (hq) ?_;push_cast -dsimp
      refine cl (hp) ?_;push_cast -dsimp [decide_eq_true b,hkl,h40]
      exact dn (by push_cast -dsimp [zb,za,CLe,ze,a,b,Bool.false_and])
     ·push_cast -dsimp [hkl,h,h100']
      refine cl (hf) ?_;push_cast -dsimp [decide_eq_true a]
      refine cl (hq) ?_;push_cast -dsimp
      refine cl (hp) ?_;push_cast -dsimp [decide_eq_false b]
      exact dn (by push_cast -dsimp [zb,za,CLe,ze,a,b,Bool.false_and])
    ·push_cast -dsimp [hkl,h,h100']
     refine cl (hf) ?_;push_cast -dsimp [decide_eq_false a]
     exact dn (by push_cast -dsimp [zb,za,CLe,ze,a,Bool.false_and])
  ·rw[List.take_of_length_le (by omega)]at h3
   have hl:=last fun k hk=>h3 k (List.mem_of_mem_take hk)
   rw[hl]
   by_cases a:Ue w.fs.xs
   ·by_cases b:Ue w.pool
    ·by_cases c:w.kept.length<=40
     ·have h40:((w.kept.length:Int)<=40)=True:=eq_true (by omega)
      push_cast -dsimp [hkl,h]
      refine cl (hf) ?_;push_cast -dsimp [decide_eq_true a]
      refine cl (hq) ?_;push_cast -dsimp
      refine cl (hp) ?_;push_cast -dsimp [decide_eq_true b,hkl,h40]
      exact dn (by push_cast -dsimp [zb,za,CLe,ze,a,b,c,Bool.false_and])
     ·have h40:((w.kept.length:Int)<=40)=False:=eq_false (by omega)
      push_cast -dsimp [hkl,h]
      refine cl (hf) ?_;push_cast -dsimp [decide_eq_true a]
      refine cl (hq) ?_;push_cast -dsimp
      refine cl (hp) ?_;push_cast -dsimp [decide_eq_true b,hkl,h40]
      exact dn (by push_cast -dsimp [zb,za,CLe,ze,a,b,c,Bool.false_and])
    ·push_cast -dsimp [hkl,h]
     refine cl (hf) ?_;push_cast -dsimp [decide_eq_true a]
     refine cl (hq) ?_;push_cast -dsimp
     refine cl (hp) ?_;push_cast -dsimp [decide_eq_false b]
     exact dn (by push_cast -dsimp [zb,za,CLe,ze,a,b,Bool.false_and])
   ·push_cast -dsimp [hkl,h]
    refine cl (hf) ?_;push_cast -dsimp [decide_eq_false a]
    exact dn (by push_cast -dsimp [zb,za,CLe,ze,a,Bool.false_and])
structure zpq (w:zY):Prop where
 fs:FsS w.fs
 kept:w.kept.length<=10000
 pool:FsS ⟨0,0,0,w.pool⟩
theorem xq (w:zY) (hw:zpq w):Fun Tryz.prog G0 66 [kG w] (qp (decide (Yx w))) 0:=by
 have hfl:=hw.fs.len
 have hkk:=hw.kept
 have hpp:w.pool.length<=10000:=hw.pool.len
 have hkl:(Jf w.kept).length=w.kept.length:=List.length_map ..
 have hpl:(zE w.pool).length=w.pool.length:=List.length_map ..
 have hch:=zcr w.fs hw.fs
 have hq:=Vw (G:=G0) w
 have hri:=ZQ (G:=G0) ⟨0,0,0,w.pool⟩ (by simp only;omega)
 by_cases c1:jD w.fs=0
 case neg =>
  have hn:¬Yx w:=fun h=>c1 h.1
  refine fof (fun i=>if i=14 then XT 8 9 else []) Tryz.func66 ?_;dsimp only[Tryz.f66]
  push_cast -dsimp
  refine cl (hch) ?_;push_cast -dsimp [c1]
  exact dn (by push_cast -dsimp [zb,za,CLe,ze,hn])
 by_cases c2:zW w.pool
 case neg =>
  have hn:¬Yx w:=fun h=>c2 h.2.1
  rw[decide_eq_false c2]at hri
  refine fof (fun i=>if i=14 then XT 8 9 else []) Tryz.func66 ?_;dsimp only[Tryz.f66]
  push_cast -dsimp
  refine cl (hch) ?_;push_cast -dsimp [c1]
  refine cl (hq) ?_;push_cast -dsimp
  refine cl (hri) ?_;push_cast -dsimp
  exact dn (by push_cast -dsimp [zb,za,CLe,ze,hn])
 rw[decide_eq_true c2]at hri
 refine fof (fun i=>if i=14 then XT 8 9 else []) Tryz.func66 ?_;dsimp only[Tryz.f66]
 push_cast -dsimp
 refine cl (hch) ?_;push_cast -dsimp [c1]
 refine cl (hq) ?_;push_cast -dsimp
 refine cl (hri) ?_;push_cast -dsimp
 refine loop (fun i:Nat=>⟨[(1,.ptr 0 0),(3,.sc (.int .i64 i))],[NS w],0,0⟩) (fun i=>i<=w.pool.length/\∀ x∈w.pool.take i,z6 w x) (fun i=>w.pool.length-i) 0 ⟨Nat.zero_le _,fun x hx=>by simp at hx⟩ ?_ ?_
 ·exact wk
 rintro i ⟨h1,h2⟩
 by_cases h:i<w.pool.length
 ·have g:=qI w.pool i h
  have hn:=hw.pool.node _ (List.getElem_mem h)
  have hpo:=ve w w.pool[i] (by omega) (by omega) (by omega) (by omega)
  by_cases c3:z6 w w.pool[i]
  ·rw[decide_eq_true c3]at hpo
   push_cast -dsimp [hpl,h,g]
   repeat refine an ?_
   refine cl (hpo) ?_;push_cast -dsimp
   repeat refine an ?_
   exact ⟨i+1,⟨h,zN h h2 c3⟩,by omega,wk⟩
  ·rw[decide_eq_false c3]at hpo
   have hn:¬Yx w:=fun q=>c3 (q.2.2.1 _ (List.getElem_mem h))
   push_cast -dsimp [hpl,h,g]
   repeat refine an ?_
   refine cl (hpo) ?_;push_cast -dsimp
   exact dn (by push_cast -dsimp [zb,za,CLe,ze,hn])
 rw[List.take_of_length_le (by omega)]at h2
 have hs0:YO []:=⟨List.Pairwise.nil,fun k hk=>by cases hk⟩
 have hl0:jl []=0:=rfl
 push_cast -dsimp [hpl,h]
 clear hri hq hch
 refine loop (fun i:Nat=>⟨[(1,.ptr 0 0),(4,.sc (.int .i64 (jl (w.kept.take i)))),(5,.sc (.int .i64 i))],[NS w],0,0⟩) (fun i=>i<=w.kept.length/\YO (w.kept.take i)/\∀ k∈w.kept.take i,YB w k) (fun i=>w.kept.length-i) 0 ⟨Nat.zero_le _,by rw[List.take_zero];exact hs0,fun x hx=>by simp at hx⟩ ?_ ?_
 ·exact wk (by push_cast -dsimp [zb,za,CLe,ze,List.take_zero,hl0])
 rintro i ⟨i1,i2,i3⟩
 by_cases hi:i<w.kept.length
 case neg =>
  rw[List.take_of_length_le (by omega)]at i2 i3
  have hn:Yx w:=⟨c1,c2,h2,i2,i3⟩
  push_cast -dsimp [hkl,hi]
  exact dn (by push_cast -dsimp [zb,za,CLe,ze,hn])
 have g:=j4 w.kept i hi
 have hlt:=VG hi
 have hst:w.kept.take (i+1)=w.kept.take i++[w.kept[i]]:=by rw[List.take_add_one,List.getElem?_eq_getElem hi];rfl
 have hbad1:¬jl (w.kept.take i)<w.kept[i].slot->¬Yx w:=fun hn q=>hn (Vh.1 (by
  rw[←hst]
  exact ⟨q.2.2.2.1.1.sublist (List.take_sublist _ _),fun k hk=>q.2.2.2.1.2 k (List.mem_of_mem_take hk)⟩)).2
 have hbad2:¬YB w w.kept[i]->¬Yx w:=fun hn q=>hn (q.2.2.2.2 _ (List.getElem_mem hi))
 have hgood:jl (w.kept.take i)<w.kept[i].slot->YO (w.kept.take (i+1)):=fun q=>by rw[hst];exact Vh.2 ⟨i2,q⟩
 have hgood2:YB w w.kept[i]->∀ k∈w.kept.take (i+1),YB w k:=fun q=>zN hi i3 q
 have hg1:=Xa (G:=G0) w.fs w.kept[i].ino (by omega)
 have hq:=Vw (G:=G0) w
 have hg2:=Xa (G:=G0) ⟨0,0,0,w.pool⟩ w.kept[i].ino (by simp only;omega)
 simp only at hg2
 generalize w.kept[i]=k at g hlt hbad1 hbad2 hgood hgood2 hg1 hg2
 generalize jl (w.kept.take i)=la at hbad1 hgood
 clear hst i2 i3
 by_cases d1:k.slot<=la
 ·have hn:=hbad1 (by omega)
  push_cast -dsimp [hkl,hi,g]
  repeat refine an ?_
  refine cl (hg1) ?_;push_cast -dsimp
  refine cl (hq) ?_;push_cast -dsimp
  refine cl (hg2) ?_;push_cast -dsimp [d1]
  exact dn (by push_cast -dsimp [zb,za,CLe,ze,hn])
 have hgd:=hgood (by omega)
 by_cases d2:1073741824<k.slot
 ·have hn:=hbad2 fun q=>by have:=q.1;omega
  push_cast -dsimp [hkl,hi,g]
  repeat refine an ?_
  refine cl (hg1) ?_;push_cast -dsimp
  refine cl (hq) ?_;push_cast -dsimp
  refine cl (hg2) ?_;push_cast -dsimp [d1,d2]
  exact dn (by push_cast -dsimp [zb,za,CLe,ze,hn])
 cases e2:zw k.ino w.pool with
 | true =>
  rw[e2]at hg2
  by_cases d4:k.content=true
  ·by_cases d5:(zf k.ino w.pool).kind=1
   ·have hok:YB w k:=⟨by omega,.inr e2,fun _=>by rw[if_pos e2];exact d5,fun q=>by rw[d4]at q;cases q⟩
    cases e1:zw k.ino w.fs.xs <;>
    ·rw[e1]at hg1
     push_cast -dsimp [hkl,hi,g]
     repeat refine an ?_
     refine cl (hg1) ?_;push_cast -dsimp
     refine cl (hq) ?_;push_cast -dsimp
     refine cl (hg2) ?_;push_cast -dsimp [d1,d2,d4,d5]
     repeat refine an ?_
     exact ⟨i+1,⟨hi,hgd,hgood2 hok⟩,by omega,wk (by push_cast -dsimp [zb,za,CLe,ze,hlt])⟩
   ·have hn:=hbad2 fun q=>d5 (by have:=q.2.2.1 d4;rwa [if_pos e2]at this)
    cases e1:zw k.ino w.fs.xs <;>
    ·rw[e1]at hg1
     push_cast -dsimp [hkl,hi,g]
     repeat refine an ?_
     refine cl (hg1) ?_;push_cast -dsimp
     refine cl (hq) ?_;push_cast -dsimp
     refine cl (hg2) ?_;push_cast -dsimp [d1,d2,d4,d5]
     exact dn (by push_cast -dsimp [zb,za,CLe,ze,hn])
  ·have d4:=Bool.eq_false_iff.2 d4
   by_cases d6:k.data = []
   ·have hok:YB w k:=⟨by omega,.inr e2,fun q=>(by rw[d4]at q;cases q),fun _=>d6⟩
    cases e1:zw k.ino w.fs.xs <;>
    ·rw[e1]at hg1
     push_cast -dsimp [hkl,hi,g]
     repeat refine an ?_
     refine cl (hg1) ?_;push_cast -dsimp
     refine cl (hq) ?_;push_cast -dsimp
     refine cl (hg2) ?_;push_cast -dsimp [d1,d2,d4,d6]
     repeat refine an ?_
     exact ⟨i+1,⟨hi,hgd,hgood2 hok⟩,by omega,wk (by push_cast -dsimp [zb,za,CLe,ze,hlt])⟩
   ·have hn:=hbad2 fun q=>d6 (q.2.2.2 d4)
    cases e1:zw k.ino w.fs.xs <;>
    ·rw[e1]at hg1
     push_cast -dsimp [hkl,hi,g]
     repeat refine an ?_
     refine cl (hg1) ?_;push_cast -dsimp
     refine cl (hq) ?_;push_cast -dsimp
     refine cl (hg2) ?_;push_cast -dsimp [d1,d2,d4,d6]
     exact dn (by push_cast -dsimp [zb,za,CLe,ze,hn])
 | false =>
  rw[e2]at hg2
  cases e1:zw k.ino w.fs.xs with
  | false =>
   rw[e1]at hg1
   have hn:=hbad2 fun q=>by
    rcases q.2.1 with q | q
    ·rw[e1]at q;cases q
    ·rw[e2]at q;cases q
   push_cast -dsimp [hkl,hi,g]
   repeat refine an ?_
   refine cl (hg1) ?_;push_cast -dsimp
   refine cl (hq) ?_;push_cast -dsimp
   refine cl (hg2) ?_;push_cast -dsimp [d1,d2]
   exact dn (by push_cast -dsimp [zb,za,CLe,ze,hn])
  | true =>
   rw[e1]at hg1
   have e2':¬zw k.ino w.pool=true:=by rw[e2];decide
   by_cases d4:k.content=true
   ·by_cases d5:(zf k.ino w.fs.xs).kind=1
    ·have hok:YB w k:=⟨by omega,.inl e1,fun _=>by rw[if_neg e2'];exact d5,fun q=>by rw[d4]at q;cases q⟩
     push_cast -dsimp [hkl,hi,g]
     repeat refine an ?_
     refine cl (hg1) ?_;push_cast -dsimp
     refine cl (hq) ?_;push_cast -dsimp
     refine cl (hg2) ?_;push_cast -dsimp [d1,d2,d4,d5]
     repeat refine an ?_
     exact ⟨i+1,⟨hi,hgd,hgood2 hok⟩,by omega,wk (by push_cast -dsimp [zb,za,CLe,ze,hlt])⟩
    ·have hn:=hbad2 fun q=>d5 (by have:=q.2.2.1 d4;rwa [if_neg e2']at this)
     push_cast -dsimp [hkl,hi,g]
     repeat refine an ?_
     refine cl (hg1) ?_;push_cast -dsimp
     refine cl (hq) ?_;push_cast -dsimp
     refine cl (hg2) ?_;push_cast -dsimp [d1,d2,d4,d5]
     exact dn (by push_cast -dsimp [zb,za,CLe,ze,hn])
   ·have d4:=Bool.eq_false_iff.2 d4
    by_cases d6:k.data = []
    ·have hok:YB w k:=⟨by omega,.inl e1,fun q=>(by rw[d4]at q;cases q),fun _=>d6⟩
     push_cast -dsimp [hkl,hi,g]
     repeat refine an ?_
     refine cl (hg1) ?_;push_cast -dsimp
     refine cl (hq) ?_;push_cast -dsimp
     refine cl (hg2) ?_;push_cast -dsimp [d1,d2,d4,d6]
     repeat refine an ?_
     exact ⟨i+1,⟨hi,hgd,hgood2 hok⟩,by omega,wk (by push_cast -dsimp [zb,za,CLe,ze,hlt])⟩
    ·have hn:=hbad2 fun q=>d6 (q.2.2.2 d4)
     push_cast -dsimp [hkl,hi,g]
     repeat refine an ?_
     refine cl (hg1) ?_;push_cast -dsimp
     refine cl (hq) ?_;push_cast -dsimp
     refine cl (hg2) ?_;push_cast -dsimp [d1,d2,d4,d6]
     exact dn (by push_cast -dsimp [zb,za,CLe,ze,hn])
theorem zeE.m {w:zY} (h:zeE w):zpq w:=⟨h.2.1.fs,by have:=h.2.2.2;omega,Ue.fs (f:=⟨0,0,0,w.pool⟩) h.2.2.1⟩
theorem zcQ (w:zY):Fun Tryz.prog G0 28 [kG w] (qp (decide (okW w))) 0:=by
 by_cases c:zeE w
 ·have h1:=Uv w
  have h2:=xq w c.m
  rw[decide_eq_true c]at h1
  have e:decide (okW w)=decide (Yx w):=by by_cases r:Yx w<;>simp[okW,c,r]
  refine fon Tryz.func28 ?_;dsimp only[Tryz.f28]
  push_cast -dsimp
  refine cl (h1) ?_;push_cast -dsimp
  refine cl (h2) ?_;push_cast -dsimp
  exact dn (by push_cast -dsimp [zb,za,CLe,ze,e])
 ·have h1:=Uv w
  rw[decide_eq_false c]at h1
  have e:¬okW w:=fun h=>c h.1
  refine fon Tryz.func28 ?_;dsimp only[Tryz.f28]
  push_cast -dsimp
  refine cl (h1) ?_;push_cast -dsimp
  exact dn (by push_cast -dsimp [zb,za,CLe,ze,e])
end
section
open Go.RowKit
section
variable {G:zj}
theorem zcG (n:Nat) (hn:n<=200000) (h0:0<n):YI Tryz.prog G 161 [.sc (.slice none 0 0),.sc (.int .i64 n)] [] 0 (fun r bx' m=>m=0/\∃ (c:Nat) (B:List C),n<=c/\c<=9223372036854775807/\B.length=c*5/\(B.all C.stayB)=true/\r = .bs 0 0 5 0 c/\bx' = [B]):=by
 have hp:((n:Int)<0)=False:=eq_false (by omega)
 have hq:((0:Int)<(n:Int))=True:=eq_true (by omega)
 refine foX (fun i=>if i=1000000+37 then [true,true] else []) Tryz.func161 ?_;dsimp only[Tryz.f161]
 push_cast -dsimp [hp,hq]
 refine ⟨⟨by omega,by omega⟩,zdH zhw zlI zhd rfl (by decide) rfl (by omega) (by omega) (by omega) (fun c h1 h2=>?_)⟩
 push_cast -dsimp
 have hm:(n:Int).toNat=n:=by omega
 rw[hm]at h1
 have h2:c<=9223372036854775807:=h2
 refine ⟨by omega,by omega,_,[(List.replicate n [C.sc (.int .i64 0),C.sc (.int .i64 0),C.str [],C.str [],C.str []]).flatten++List.replicate ((c-n)*5) C.any],0,⟨⟨rfl,c,_,h1,h2,?_,?_,rfl,rfl⟩,Nat.zero_le _⟩,[],rfl,rfl,?_,by push_cast -dsimp [zb,za,CLe,ze]⟩
 ·simp[hm];omega
 ·simp[List.all_append,List.all_replicate,C.stayB]
 ·push_cast -dsimp [zb,za,CLe,ze]
  exact zS (by simp[List.all_append,List.all_replicate,C.stayB])
theorem un:Fun Tryz.prog G 124 [.sc (.slice none 0 0),.sc (.int .i64 0)] (.sc (.slice none 0 0)) 0:=by
 refine fon Tryz.func124 ?_;dsimp only[Tryz.f124]
 push_cast -dsimp
 exact dn
theorem zep (n:Nat) (hn:n<=200000) (h0:0<n):YI Tryz.prog G 124 [.sc (.slice none 0 0),.sc (.int .i64 n)] [] 0 (fun r bx' m=>m=0/\∃ (c:Nat) (B:List C),n<=c/\c<=9223372036854775807/\B.length=c*1/\(B.all C.stayB)=true/\r = .bs 0 0 1 0 c/\bx' = [B]):=by
 have hp:((n:Int)<0)=False:=eq_false (by omega)
 have hq:((0:Int)<(n:Int))=True:=eq_true (by omega)
 refine foX (fun i=>if i=1000000+30 then [true,true] else []) Tryz.func124 ?_;dsimp only[Tryz.f124]
 push_cast -dsimp [hp,hq]
 refine ⟨⟨by omega,by omega⟩,zdH zf5 zlI znQ rfl (by decide) rfl (by omega) (by omega) (by omega) (fun c h1 h2=>?_)⟩
 push_cast -dsimp
 have hm:(n:Int).toNat=n:=by omega
 rw[hm]at h1
 have h2:c<=9223372036854775807:=h2
 refine ⟨by omega,by omega,_,[(List.replicate n [C.str []]).flatten++List.replicate ((c-n)*1) C.any],0,⟨⟨rfl,c,_,h1,h2,?_,?_,rfl,rfl⟩,Nat.zero_le _⟩,[],rfl,rfl,?_,by push_cast -dsimp [zb,za,CLe,ze]⟩
 ·simp[hm];omega
 ·simp[List.all_append,List.all_replicate,C.stayB]
 ·push_cast -dsimp [zb,za,CLe,ze]
  exact zS (by simp[List.all_append,List.all_replicate,C.stayB])
end
end
section
open CA CB
open Go.RowKit
def szN (a b:Nat):Nat->Nat
 | 0=>0
 | 1=>a
 | _=>a+b
def zmD {α:Type} (a b:List α):Nat->List α
 | 0=>[]
 | 1=>a
 | _=>a++b
structure kQ (k c:Nat) (a b:List (List C)) (j:Nat) (X:List C):Prop where
 len:X.length=c*k
 stay:(X.all C.stayB)=true
 cells:X.take (szN a.length b.length j*k)=(zmD a b j).flatten
theorem kQ.step {k c:Nat} {a b r:List (List C)} {j:Nat} {X:List C} (h:kQ k c a b j X) (hr:zmD a b (j+1)=zmD a b j++r) (hn:szN a.length b.length (j+1)=szN a.length b.length j+r.length) (hk:∀ x∈r,x.length=k) (hs:js r) (hc:szN a.length b.length (j+1)<=c) :
  kQ k c a b (j+1) (spl X (szN a.length b.length j*k) r.flatten):=by
 have hf:=qg hk
 obtain ⟨h1,h2,h3⟩:=h
 have hle:(szN a.length b.length j+r.length)*k<=c*k:=Nat.mul_le_mul_right k (by omega)
 rw[Nat.add_mul]at hle
 refine ⟨by rw[Hy (by omega)];exact h1,?_,?_⟩
 ·unfold spl
  rw[List.all_append,List.all_append,Bool.and_eq_true,Bool.and_eq_true]
  rw[List.all_eq_true]at h2
  exact ⟨⟨List.all_eq_true.2 fun x hx=>h2 x (List.mem_of_mem_take hx),Xm hs⟩,List.all_eq_true.2 fun x hx=>h2 x (List.mem_of_mem_drop hx)⟩
 ·unfold spl
  rw[hn,Nat.add_mul,hr,List.flatten_append,←h3,List.append_assoc,List.take_append]
  have e1:(X.take (szN a.length b.length j*k)).length=szN a.length b.length j*k:=by rw[List.length_take];omega
  rw[e1,List.take_of_length_le (by omega),Nat.add_sub_cancel_left,List.take_append,←hf,List.take_of_length_le (Nat.le_refl _)]
  simp
structure zm0 (k c:Nat) (rows:List (List C)) (B:List C):Prop where
 fit:rows.length<=c
 max:c<=9223372036854775807
 len:B.length=c*k
 stay:(B.all C.stayB)=true
 cells:B.take (rows.length*k)=rows.flatten
theorem zm0.ok {k c e i:Nat} {rows:List (List C)} {B:List C} {bx:List (List C)} (h:zm0 k c rows B) (hb:bx[i]?=some B) (h0:0<rows.length) (hk:∀ r∈rows,r.length=k):zeF [(i,e,k,rows,c)] bx:=
 xV hb (Nat.lt_of_lt_of_le h0 h.fit) h.fit h.max h.len hk h.stay h.cells
section
variable {G:zj}
theorem zaL (a b:List (List C)) (ka:∀ r∈a,r.length=5) (kb:∀ r∈b,r.length=5) (sa:js a) (sb:js b) (la:a.length<=90000) (lb:b.length<=90000) (h0:0<a.length+b.length) :
  YI Tryz.prog G 112 [.sl 1 [[.sl 5 a],[.sl 5 b]]] [] 0 (fun r bx n=>n=0/\∃ c B,zm0 5 c (a++b) B/\r = .bs 0 0 5 (a++b).length c/\bx = [B]):=by
 refine foX (fun i=>if i=1000000+37 then [true,true] else []) Tryz.func112 ?_;dsimp only[Tryz.f112]
 push_cast -dsimp
 refine loop (fun j:Nat=>⟨[(0,.sl 1 [[.sl 5 a],[.sl 5 b]]),(2,.sc (.slice none 0 0)),(3,.sc (.int .i64 (szN a.length b.length j:Nat))),(9,.sl 1 [[.sl 5 a],[.sl 5 b]]),(10,.sc (.int .i64 2)),(11,.sc (.int .i64 j))],[],0,0⟩) (fun j=>j<=2) (fun j=>2-j) 0 (by decide) ?_ ?_
 ·exact wk (by push_cast -dsimp [zb,za,CLe,ze,szN])
 intro j hj
 obtain rfl | rfl | rfl:j=0∨j=1∨j=2:=by omega
 ·have hn:(((a.length:Int))<0)=False:=eq_false (by omega)
  push_cast -dsimp [szN,hn]
  exact ⟨⟨by omega,by omega⟩,1,by decide,by decide,wk (by push_cast -dsimp [zb,za,CLe,ze,szN])⟩
 ·have hn:(((a.length:Int)+(b.length:Int))<0)=False:=eq_false (by omega)
  push_cast -dsimp [szN,hn]
  exact ⟨⟨by omega,by omega⟩,2,by decide,by decide,wk (by push_cast -dsimp [zb,za,CLe,ze,szN])⟩
 ·push_cast -dsimp [szN]
  refine YF [] [] (zcG (G:=G) (a.length+b.length) (by omega) (by omega)) rfl (by decide) (by decide) (by simp) (by push_cast -dsimp) (by push_cast -dsimp) (fun r bx' m hp=>?_)
  obtain ⟨rfl,c,B,h1,h2,h3,h4,rfl,rfl⟩:=hp
  have hre:∀ fp fo,C.reL fp fo B=B:=fun fp fo=>qu h4
  push_cast -dsimp [hre]
  refine loop (fun p:Nat×List C=>⟨[(0,.sl 1 [[.sl 5 a],[.sl 5 b]]),(6,.bs 0 0 5 (szN a.length b.length p.1) c),(25,.sl 1 [[.sl 5 a],[.sl 5 b]]),(26,.sc (.int .i64 2)),(27,.sc (.int .i64 p.1))],[p.2],0,0⟩) (fun p=>p.1<=2/\kQ 5 c a b p.1 p.2) (fun p=>2-p.1) (0,B) ⟨Nat.zero_le _,h3,h4,by simp[szN,zmD]⟩ ?_ ?_
  ·exact jW.mk [] rfl rfl (Nat.zero_le _) rfl (by push_cast -dsimp [zb,za,CLe,ze,szN]) (by (push_cast -dsimp [zb,za,CLe,ze];exact zS h4))
  rintro ⟨j,X⟩ ⟨hj,hX⟩
  have hj:j<=2:=hj
  obtain rfl | rfl | rfl:j=0∨j=1∨j=2:=by omega
  ·have hs:=hX.step (r:=a) rfl (by simp[szN]) ka sa (by simp[szN];omega)
   push_cast -dsimp [szN]
   refine Uf zhw zhd rfl rfl (by decide) rfl (qg ka) rfl (by rw[hX.len];omega) (Nat.zero_le _) (by omega) (by omega) (fun hc=>?_) (fun hc=>absurd hc (by omega))
   push_cast -dsimp
   have hs:kQ 5 c a b 1 (spl X 0 a.flatten):=by simpa [szN] using hs
   exact ⟨(1,spl X 0 a.flatten),⟨Nat.le_succ 1,hs⟩,by (simp only;omega),jW.mk [] rfl rfl (Nat.zero_le _) rfl (by push_cast -dsimp [zb,za,CLe,ze,szN]) (by (push_cast -dsimp [zb,za,CLe,ze];exact zS hs.stay))⟩
  ·have hs:=hX.step (r:=b) rfl (by simp[szN]) kb sb (by simp[szN];omega)
   push_cast -dsimp [szN]
   refine Uf zhw zhd rfl rfl (by decide) rfl (qg kb) rfl (by rw[hX.len];omega) (by omega) (by omega) (by omega) (fun hc=>?_) (fun hc=>absurd hc (by omega))
   push_cast -dsimp
   have hs:kQ 5 c a b 2 (spl X (a.length*5) b.flatten):=by simpa [szN] using hs
   exact ⟨(2,spl X (a.length*5) b.flatten),⟨Nat.le_refl 2,hs⟩,by (simp only;omega),jW.mk [] rfl rfl (Nat.zero_le _) rfl (by push_cast -dsimp [zb,za,CLe,ze,szN]) (by (push_cast -dsimp [zb,za,CLe,ze];exact zS hs.stay))⟩
  ·push_cast -dsimp [szN]
   exact ⟨_,[X],0,⟨⟨rfl,c,X,⟨by rw[List.length_append];omega,h2,hX.len,hX.stay,by rw[List.length_append];exact hX.cells⟩,rfl,rfl⟩,Nat.zero_le _⟩,[],rfl,rfl,by (push_cast -dsimp [zb,za,CLe,ze];exact zS hX.stay),by push_cast -dsimp [zb,za,CLe,ze,List.length_append]⟩
theorem Nw (a b:List (List C)) (ka:∀ r∈a,r.length=1) (kb:∀ r∈b,r.length=1) (sa:js a) (sb:js b) (la:a.length<=90000) (lb:b.length<=90000) (h0:0<a.length+b.length) :
  YI Tryz.prog G 75 [.sl 1 [[.sl 1 a],[.sl 1 b]]] [] 0 (fun r bx n=>n=0/\∃ c B,zm0 1 c (a++b) B/\r = .bs 0 0 1 (a++b).length c/\bx = [B]):=by
 refine foX (fun i=>if i=1000000+30 then [true,true] else []) Tryz.func75 ?_;dsimp only[Tryz.f75]
 push_cast -dsimp
 refine loop (fun j:Nat=>⟨[(0,.sl 1 [[.sl 1 a],[.sl 1 b]]),(2,.sc (.slice none 0 0)),(3,.sc (.int .i64 (szN a.length b.length j:Nat))),(9,.sl 1 [[.sl 1 a],[.sl 1 b]]),(10,.sc (.int .i64 2)),(11,.sc (.int .i64 j))],[],0,0⟩) (fun j=>j<=2) (fun j=>2-j) 0 (by decide) ?_ ?_
 ·exact wk (by push_cast -dsimp [zb,za,CLe,ze,szN])
 intro j hj
 obtain rfl | rfl | rfl:j=0∨j=1∨j=2:=by omega
 ·have hn:(((a.length:Int))<0)=False:=eq_false (by omega)
  push_cast -dsimp [szN,hn]
  exact ⟨⟨by omega,by omega⟩,1,by decide,by decide,wk (by push_cast -dsimp [zb,za,CLe,ze,szN])⟩
 ·have hn:(((a.length:Int)+(b.length:Int))<0)=False:=eq_false (by omega)
  push_cast -dsimp [szN,hn]
  exact ⟨⟨by omega,by omega⟩,2,by decide,by decide,wk (by push_cast -dsimp [zb,za,CLe,ze,szN])⟩
 ·push_cast -dsimp [szN]
  refine YF [] [] (zep (G:=G) (a.length+b.length) (by omega) (by omega)) rfl (by decide) (by decide) (by simp) (by push_cast -dsimp) (by push_cast -dsimp) (fun r bx' m hp=>?_)
  obtain ⟨rfl,c,B,h1,h2,h3,h4,rfl,rfl⟩:=hp
  have hre:∀ fp fo,C.reL fp fo B=B:=fun fp fo=>qu h4
  push_cast -dsimp [hre]
  refine loop (fun p:Nat×List C=>⟨[(0,.sl 1 [[.sl 1 a],[.sl 1 b]]),(6,.bs 0 0 1 (szN a.length b.length p.1) c),(25,.sl 1 [[.sl 1 a],[.sl 1 b]]),(26,.sc (.int .i64 2)),(27,.sc (.int .i64 p.1))],[p.2],0,0⟩) (fun p=>p.1<=2/\kQ 1 c a b p.1 p.2) (fun p=>2-p.1) (0,B) ⟨Nat.zero_le _,h3,h4,by simp[szN,zmD]⟩ ?_ ?_
  ·exact jW.mk [] rfl rfl (Nat.zero_le _) rfl (by push_cast -dsimp [zb,za,CLe,ze,szN]) (by (push_cast -dsimp [zb,za,CLe,ze];exact zS h4))
  rintro ⟨j,X⟩ ⟨hj,hX⟩
  have hj:j<=2:=hj
  obtain rfl | rfl | rfl:j=0∨j=1∨j=2:=by omega
  ·have hs:=hX.step (r:=a) rfl (by simp[szN]) ka sa (by simp[szN];omega)
   push_cast -dsimp [szN]
   refine Uf zf5 znQ rfl rfl (by decide) rfl (qg ka) rfl (by rw[hX.len];omega) (Nat.zero_le _) (by omega) (by omega) (fun hc=>?_) (fun hc=>absurd hc (by omega))
   push_cast -dsimp
   have hs:kQ 1 c a b 1 (spl X 0 a.flatten):=by simpa [szN] using hs
   exact ⟨(1,spl X 0 a.flatten),⟨Nat.le_succ 1,hs⟩,by (simp only;omega),jW.mk [] rfl rfl (Nat.zero_le _) rfl (by push_cast -dsimp [zb,za,CLe,ze,szN]) (by (push_cast -dsimp [zb,za,CLe,ze];exact zS hs.stay))⟩
  ·have hs:=hX.step (r:=b) rfl (by simp[szN]) kb sb (by simp[szN];omega)
   push_cast -dsimp [szN]
   refine Uf zf5 znQ rfl rfl (by decide) rfl (qg kb) rfl (by rw[hX.len];omega) (by omega) (by omega) (by omega) (fun hc=>?_) (fun hc=>absurd hc (by omega))
   push_cast -dsimp
   have hs:kQ 1 c a b 2 (spl X (a.length) b.flatten):=by simpa [szN] using hs
   exact ⟨(2,spl X (a.length) b.flatten),⟨Nat.le_refl 2,hs⟩,by (simp only;omega),jW.mk [] rfl rfl (Nat.zero_le _) rfl (by push_cast -dsimp [zb,za,CLe,ze,szN]) (by (push_cast -dsimp [zb,za,CLe,ze];exact zS hs.stay))⟩
  ·push_cast -dsimp [szN]
   exact ⟨_,[X],0,⟨⟨rfl,c,X,⟨by rw[List.length_append];omega,h2,hX.len,hX.stay,by rw[List.length_append];exact hX.cells⟩,rfl,rfl⟩,Nat.zero_le _⟩,[],rfl,rfl,by (push_cast -dsimp [zb,za,CLe,ze];exact zS hX.stay),by push_cast -dsimp [zb,za,CLe,ze,List.length_append]⟩
theorem HJ:Fun Tryz.prog G 75 [.sl 1 [[.sl 1 []],[.sl 1 []]]] (.sl 1 []) 0:=by
 refine fon Tryz.func75 ?_;dsimp only[Tryz.f75]
 push_cast -dsimp
 refine loop (fun j:Nat=>⟨[(0,.sl 1 [[.sl 1 []],[.sl 1 []]]),(2,.sc (.slice none 0 0)),(3,.sc (.int .i64 0)),(9,.sl 1 [[.sl 1 []],[.sl 1 []]]),(10,.sc (.int .i64 2)),(11,.sc (.int .i64 j))],[],0,0⟩) (fun j=>j<=2) (fun j=>2-j) 0 (by decide) ?_ ?_
 ·exact wk
 intro j hj
 obtain rfl | rfl | rfl:j=0∨j=1∨j=2:=by omega
 ·push_cast -dsimp
  exact ⟨1,by decide,by decide,wk⟩
 ·push_cast -dsimp
  exact ⟨2,by decide,by decide,wk⟩
 ·push_cast -dsimp
  refine cl (un) ?_;push_cast -dsimp
  refine loop (fun j:Nat=>⟨[(0,.sl 1 [[.sl 1 []],[.sl 1 []]]),(6,.own 0 9 1 []),(25,.sl 1 [[.sl 1 []],[.sl 1 []]]),(26,.sc (.int .i64 2)),(27,.sc (.int .i64 j))],[],1,0⟩) (fun j=>j<=2) (fun j=>2-j) 0 (by decide) ?_ ?_
  ·exact wks [.inr (9,1)]
  intro j hj
  obtain rfl | rfl | rfl:j=0∨j=1∨j=2:=by omega
  ·push_cast -dsimp
   exact ⟨1,by decide,by decide,wks [.inl 0]⟩
  ·push_cast -dsimp
   exact ⟨2,by decide,by decide,wks [.inl 0]⟩
  ·push_cast -dsimp
   exact dn
end
end
end Go.Proofs.YtaipngaejfndgaaGreatDoor.Vcg
section
namespace Go.Proofs.YtaipngaejfndgaaGreatDoor.Kit
open Go.RowKit
theorem UL {a b:ByteArray} (h:a=b):Ending.returned (.string a) = .returned (.string b):=by rw[h]
def toL (s:ByteArray):List UInt8:=s.data.toList
def ofL (l:List UInt8):ByteArray:=⟨l.toArray⟩
@[simp] theorem zd1 (l:List UInt8):toL (ofL l)=l:=by simp[toL,ofL]
@[simp] theorem zoQ (s:ByteArray):ofL (toL s)=s:=by cases s;simp[toL,ofL]
theorem Uj (a b:List UInt8):ofL a++ofL b=ofL (a++b):=ByteArray.mk_append_mk a b
theorem U3 (s:ByteArray):(toL s).length=s.size:=Array.length_toList
theorem Qe (l:List UInt8):(ofL l).size=l.length:=by rw[←U3,zd1]
def join (sep:ByteArray) (xs:List ByteArray):ByteArray:=⟨(Lib.join (xs.map (·.data.toList)) sep.data.toList).toArray⟩
theorem join_one (sep x:ByteArray):join sep [x]=x:=by
 cases x;simp[join,Lib.join_one]
end Go.Proofs.YtaipngaejfndgaaGreatDoor.Kit
end
section
namespace Go.Proofs.YtaipngaejfndgaaGreatDoor.Kit
open Go.RowKit
def byteCells (l:List UInt8):Array Value:=(l.map fun c=>Value.int .u8 (c.toNat:Int)).toArray
theorem Vo (w:World) (l:List UInt8) (T:TypeId) (fr:Nat×Nat) (n:Nat) (hn:n=w.heap.size):Lib.Bytes (w.alloc (.cells (byteCells l) T fr)) n 0 (ofL l):=by
 intro i h
 subst hn
 have h1:(w.alloc (.cells (byteCells l) T fr)).heap[w.heap.size]?=some (.cells (byteCells l) T fr):=by
  show (w.heap.push _)[w.heap.size]?=_
  rw[Array.getElem?_push,if_pos rfl]
 simp only[World.cell?,h1]
 show (byteCells l)[0+i]?=_
 have h2:i<l.length:=by rw[Qe]at h;exact h
 rw[Nat.zero_add,byteCells,List.getElem?_toArray,List.getElem?_map,List.getElem?_eq_getElem h2]
 rfl
theorem kW {P:Program} (w:World) (l:List UInt8) (src e dst:TypeId) (hs:P.underlying src=some (.slice e)) (he:P.underlying e=some (.int .u8)) (hd:P.underlying dst=some .string) (cs:Array Value) (hcs:cs=byteCells l) (fr:Nat×Nat) (m cap n:Nat) (hm:m=w.heap.size) (hn:n=l.length) :
  (convert src dst (.slice (some ⟨m,0,none⟩) n cap)).run P (w.alloc (.cells cs e fr)) = .ok (.string (ofL l)) (w.alloc (.cells cs e fr)):=by
 subst hcs hm hn
 have:=Lib.run_convert_whole (P:=P) (w.alloc (.cells (byteCells l) e fr)) src e dst hs he hd w.heap.size 0 (ofL l) (Vo w l e fr _ rfl) cap
 rw[Qe]at this
 exact this
end Go.Proofs.YtaipngaejfndgaaGreatDoor.Kit
end
section
namespace Go.Proofs.YtaipngaejfndgaaGreatDoor
open Go.RowKit
namespace QuoteWalk
open Kit QuotePlain
theorem Nk {c:UInt8} (h:good c=false):¬(32:Int)<=(c.toNat:Int)∨((32:Int)<=(c.toNat:Int)/\¬(c.toNat:Int)<=126)∨((32:Int)<=(c.toNat:Int)/\(c.toNat:Int)<=126/\((c.toNat:Int) != 34)=false) ∨
  ((32:Int)<=(c.toNat:Int)/\(c.toNat:Int)<=126/\((c.toNat:Int) != 34)=true/\((c.toNat:Int) != 92)=false):=by
 simp only[good,decide_eq_false_iff_not]at h
 simp only[bne_iff_ne,ne_eq,bne_eq_false_iff_eq]
 omega
theorem Ux {c:UInt8} (h:good c=true):(32:Int)<=(c.toNat:Int)/\(c.toNat:Int)<=126/\((c.toNat:Int) != 34)=true/\((c.toNat:Int) != 92)=true:=by
 simp only[good,decide_eq_true_eq]at h
 refine ⟨by omega,by omega,?_,?_⟩<;>(simp only[bne_iff_ne,ne_eq];omega)
theorem Mh (c:UInt8) (w:World) :
  Calls Tryz.prog 214 #[.int .u8 c.toNat] w fun e w'=>e = .returned (.bool (good c))/\w=w':=by
 have hc:=c.toNat_lt
 cases hg:good c with
 | true =>
  obtain ⟨g1,g2,g3,g4⟩:=Ux hg
  clear hg
  go_enter Tryz.func214,Tryz.ntmps214
  go_wp2
  go_ret
  exact ⟨rfl,rfl⟩
 | false =>
  rcases Nk hg with h | ⟨h0,h⟩ | ⟨h0,h1,h2⟩ | ⟨h0,h1,h2,h3⟩
  all_goals clear hg
  ·go_enter Tryz.func214,Tryz.ntmps214
   go_wp2
   go_ret
   exact ⟨rfl,rfl⟩
  ·go_enter Tryz.func214,Tryz.ntmps214
   go_wp2
   go_ret
   exact ⟨rfl,rfl⟩
  ·go_enter Tryz.func214,Tryz.ntmps214
   go_wp2
   go_ret
   exact ⟨rfl,rfl⟩
  ·go_enter Tryz.func214,Tryz.ntmps214
   go_wp2
   go_ret
   exact ⟨rfl,rfl⟩
theorem HS (c:UInt8) (w:World) (hg:good c=true) :
  Calls Tryz.prog 118 #[.int .u8 c.toNat] w fun e w'=>e = .returned (.string (ofL (qb c)))/\Below w.heap.size w w':=by
 have hc:=c.toNat_lt
 have hq:=Lib.hid (show qb c = [c] by rw[qb,if_pos hg])
 obtain ⟨g1,g2,g3,g4⟩:=Ux hg
 have hcv:=kW (P:=Tryz.prog) w [c] 164 5 9 Tryz.underlying164 Tryz.underlying5 Tryz.underlying9 #[.int .u8 c.toNat] rfl (0,0) w.heap.size 1 1 rfl rfl
 clear hg
 go_enter Tryz.func118,Tryz.ntmps118
 go_wp2
 go_ret
 exact ⟨by rw[hq.out];rfl,(Below.refl _ _).alloc (Nat.le_refl _) _⟩
theorem zph (n:Nat) (h:n<16) (w:World):(Instr.index 9 (.string ⟨#[48,49,50,51,52,53,54,55,56,57,97,98,99,100,101,102]⟩) (.int .u8 (n:Int))).run Tryz.prog w = .ok (.int .u8 ((Hs n).toNat:Int)) w:=by
 rcases (by omega:n=0∨n=1∨n=2∨n=3∨n=4∨n=5∨n=6∨n=7∨n=8∨n=9∨n=10∨n=11∨n=12∨n=13∨n=14∨n=15) with rfl | rfl | rfl | rfl | rfl | rfl | rfl | rfl | rfl | rfl | rfl | rfl | rfl | rfl | rfl | rfl
 all_goals kernel_rfl
theorem zh3 (c:UInt8) (w:World):(Instr.index 9 (.string ⟨#[48,49,50,51,52,53,54,55,56,57,97,98,99,100,101,102]⟩) (.int .u8 ((c.toNat:Int) / 16))).run Tryz.prog w = .ok (.int .u8 ((Hs (c.toNat / 16)).toNat:Int)) w:=
 zph (c.toNat / 16) (by have:=c.toNat_lt;omega) w
theorem zii (c:UInt8) (w:World):(Instr.index 9 (.string ⟨#[48,49,50,51,52,53,54,55,56,57,97,98,99,100,101,102]⟩) (.int .u8 ((c.toNat:Int) % 16))).run Tryz.prog w = .ok (.int .u8 ((Hs (c.toNat % 16)).toNat:Int)) w:=
 zph (c.toNat % 16) (by omega) w
theorem ziK (c:UInt8):IntKind.u8.wrap ((c.toNat:Int) / 16)=(c.toNat:Int) / 16:=by
 have:=c.toNat_lt
 exact IntWalk.u8_in _ (by omega)
theorem zkP (c:UInt8):IntKind.u8.wrap ((c.toNat:Int) % 16)=(c.toNat:Int) % 16:=by
 have:=c.toNat_lt
 exact IntWalk.u8_in _ (by omega)
theorem zkR (c:UInt8):(c.toNat:Int).tmod 16=(c.toNat:Int) % 16:=Int.tmod_eq_emod_of_nonneg (by omega)
theorem My (c:UInt8) (w:World) (hg:good c=false) :
  Calls Tryz.prog 118 #[.int .u8 c.toNat] w fun e w'=>e = .returned (.string (ofL (qb c)))/\Below w.heap.size w w':=by
 have hc:=c.toNat_lt
 have hq:=Lib.hid (show qb c = [92,120,Hs (c.toNat / 16),Hs (c.toNat % 16)] by rw[qb,hg];rfl)
 have hb:=Nk hg
 have x1:=zh3 c
 have x2:=zii c
 have y1:=ziK c
 have y2:=zkP c
 have y3:=zkR c
 have hcv:=fun w2:World=>kW (P:=Tryz.prog) w2 [92,120,Hs (c.toNat / 16),Hs (c.toNat % 16)] 164 5 9 Tryz.underlying164 Tryz.underlying5 Tryz.underlying9 #[.int .u8 92,.int .u8 120,.int .u8 (Hs (c.toNat / 16)).toNat,.int .u8 (Hs (c.toNat % 16)).toNat] rfl (0,0) w2.heap.size 4 4 rfl rfl
 clear hg
 rcases hb with h | ⟨h0,h⟩ | ⟨h0,h1,h2⟩ | ⟨h0,h1,h2,h3⟩
 ·go_enter Tryz.func118,Tryz.ntmps118
  go_wp2
  go_still_tail 6,(by kernel_rfl)
  change wpList _ _ _ _ _ w.drew
  obtain ⟨w2,hw2,hsz⟩:∃ w2:World,Below w.heap.size w w2/\w2=w.drew:=⟨_,(Below.refl _ _).drew,rfl⟩
  rw[←hsz]
  clear hsz
  go_wp2
  go_ret
  exact ⟨by rw[hq.out];rfl,hw2.alloc hw2.size _⟩
 ·go_enter Tryz.func118,Tryz.ntmps118
  go_wp2
  go_still_tail 6,(by kernel_rfl)
  change wpList _ _ _ _ _ w.drew
  obtain ⟨w2,hw2,hsz⟩:∃ w2:World,Below w.heap.size w w2/\w2=w.drew:=⟨_,(Below.refl _ _).drew,rfl⟩
  rw[←hsz]
  clear hsz
  go_wp2
  go_ret
  exact ⟨by rw[hq.out];rfl,hw2.alloc hw2.size _⟩
 ·go_enter Tryz.func118,Tryz.ntmps118
  go_wp2
  go_still_tail 6,(by kernel_rfl)
  change wpList _ _ _ _ _ w.drew
  obtain ⟨w2,hw2,hsz⟩:∃ w2:World,Below w.heap.size w w2/\w2=w.drew:=⟨_,(Below.refl _ _).drew,rfl⟩
  rw[←hsz]
  clear hsz
  go_wp2
  go_ret
  exact ⟨by rw[hq.out];rfl,hw2.alloc hw2.size _⟩
 ·go_enter Tryz.func118,Tryz.ntmps118
  go_wp2
  go_still_tail 6,(by kernel_rfl)
  change wpList _ _ _ _ _ w.drew
  obtain ⟨w2,hw2,hsz⟩:∃ w2:World,Below w.heap.size w w2/\w2=w.drew:=⟨_,(Below.refl _ _).drew,rfl⟩
  rw[←hsz]
  clear hsz
  go_wp2
  go_ret
  exact ⟨by rw[hq.out];rfl,hw2.alloc hw2.size _⟩
theorem GM (c:UInt8) (w:World) :
  Calls Tryz.prog 118 #[.int .u8 c.toNat] w fun e w'=>e = .returned (.string (ofL (qb c)))/\Below w.heap.size w w':=by
 cases h:good c with
 | true=>exact HS c w h
 | false=>exact My c w h
end QuoteWalk
end Go.Proofs.YtaipngaejfndgaaGreatDoor
end
section
namespace Go.Proofs
open Go.Shelf
def Tryz.zlays166_ren:Go.Shelf.Ren:=⟨fun | 166=>174 | 240=>215 | 276=>249 | n=>n,fun | 0=>0 | 3=>3 | 4=>4 | 9=>9 | 20=>20 | 37=>164 | 70=>207 | 72=>209 | 75=>212 | 164=>270 | 80=>215 | 5=>5 | n=>n,fun | n=>n⟩
theorem Tryz.zlays166:Go.Proofs.Lays.n166 Tryz.prog Tryz.zlays166_ren:={
 mixed:=by kernel_rfl
 f166:=Tryz.func174.trans (congrArg some (by kernel_rfl))
 f240:=Tryz.func215.trans (congrArg some (by kernel_rfl))
 f276:=Tryz.func249.trans (congrArg some (by kernel_rfl))
 t0:=Tryz.underlying0
 a0:=Tryz.isAgg0
 z0:=Tryz.sizeOf0
 v0:=Tryz.zeroValue0
 t3:=Tryz.underlying3
 a3:=Tryz.isAgg3
 z3:=Tryz.sizeOf3
 v3:=Tryz.zeroValue3
 t4:=Tryz.underlying4
 a4:=Tryz.isAgg4
 z4:=Tryz.sizeOf4
 v4:=Tryz.zeroValue4
 t9:=Tryz.underlying9
 a9:=Tryz.isAgg9
 z9:=Tryz.sizeOf9
 v9:=Tryz.zeroValue9
 t20:=Tryz.underlying20
 a20:=Tryz.isAgg20
 z20:=Tryz.sizeOf20
 v20:=Tryz.zeroValue20
 t37:=Tryz.underlying164
 a37:=Tryz.isAgg164
 z37:=Tryz.sizeOf164
 v37:=Tryz.zeroValue164
 t70:=Tryz.underlying207
 a70:=Tryz.isAgg207
 z70:=Tryz.sizeOf207
 v70:=Tryz.zeroValue207
 t72:=Tryz.underlying209
 a72:=Tryz.isAgg209
 z72:=Tryz.sizeOf209
 v72:=Tryz.zeroValue209
 t75:=Tryz.underlying212
 a75:=Tryz.isAgg212
 z75:=Tryz.sizeOf212
 v75:=Tryz.zeroValue212
 t164:=Tryz.underlying270
 a164:=Tryz.isAgg270
 z164:=Tryz.sizeOf270
 v164:=Tryz.zeroValue270 }
theorem Tryz.zBuilder_Extra_166:Builder.Extra Tryz.prog Tryz.zlays166_ren:={
 sizeBuilder:=by kernel_rfl
 liesBuilder:=by kernel_rfl
 t5:=Tryz.underlying5
 a5:=Tryz.isAgg5
 z5:=Tryz.sizeOf5
 v5:=Tryz.zeroValue5
 infoByte:=by kernel_rfl
 cellsByte:=by kernel_rfl
 sizeByte:=by kernel_rfl
 neB5:=by decide }
def Tryz.zlays167_ren:Go.Shelf.Ren:=⟨fun | 167=>213 | 240=>215 | 276=>249 | n=>n,fun | 0=>0 | 4=>4 | 5=>5 | 9=>9 | 20=>20 | 37=>164 | 70=>207 | 72=>209 | 75=>212 | 164=>270 | 80=>215 | n=>n,fun | n=>n⟩
theorem Tryz.zlays167:Go.Proofs.Lays.n167 Tryz.prog Tryz.zlays167_ren:={
 mixed:=by kernel_rfl
 f167:=Tryz.func213.trans (congrArg some (by kernel_rfl))
 f240:=Tryz.func215.trans (congrArg some (by kernel_rfl))
 f276:=Tryz.func249.trans (congrArg some (by kernel_rfl))
 t0:=Tryz.underlying0
 a0:=Tryz.isAgg0
 z0:=Tryz.sizeOf0
 v0:=Tryz.zeroValue0
 t4:=Tryz.underlying4
 a4:=Tryz.isAgg4
 z4:=Tryz.sizeOf4
 v4:=Tryz.zeroValue4
 t5:=Tryz.underlying5
 a5:=Tryz.isAgg5
 z5:=Tryz.sizeOf5
 v5:=Tryz.zeroValue5
 t9:=Tryz.underlying9
 a9:=Tryz.isAgg9
 z9:=Tryz.sizeOf9
 v9:=Tryz.zeroValue9
 t20:=Tryz.underlying20
 a20:=Tryz.isAgg20
 z20:=Tryz.sizeOf20
 v20:=Tryz.zeroValue20
 t37:=Tryz.underlying164
 a37:=Tryz.isAgg164
 z37:=Tryz.sizeOf164
 v37:=Tryz.zeroValue164
 t70:=Tryz.underlying207
 a70:=Tryz.isAgg207
 z70:=Tryz.sizeOf207
 v70:=Tryz.zeroValue207
 t72:=Tryz.underlying209
 a72:=Tryz.isAgg209
 z72:=Tryz.sizeOf209
 v72:=Tryz.zeroValue209
 t75:=Tryz.underlying212
 a75:=Tryz.isAgg212
 z75:=Tryz.sizeOf212
 v75:=Tryz.zeroValue212
 t164:=Tryz.underlying270
 a164:=Tryz.isAgg270
 z164:=Tryz.sizeOf270
 v164:=Tryz.zeroValue270 }
theorem Tryz.zBuilder_Extra_167:Builder.Extra Tryz.prog Tryz.zlays167_ren:={
 sizeBuilder:=by kernel_rfl
 liesBuilder:=by kernel_rfl
 t5:=Tryz.underlying5
 a5:=Tryz.isAgg5
 z5:=Tryz.sizeOf5
 v5:=Tryz.zeroValue5
 infoByte:=by kernel_rfl
 cellsByte:=by kernel_rfl
 sizeByte:=by kernel_rfl
 neB5:=by decide }
open Go.RowKit in
theorem Tryz.zBuilder_WriteByte (B b:Nat) (bs:List Value) (c:Int) (w:World) (h:Lib.IsBuilder 209 5 B b bs w) (hlen:bs.length+1<=140737488355328) (hBw:B<=w.heap.size) :
  Calls Tryz.prog 213 #[.pointer (some ⟨b,0,none⟩),.int .u8 c] w fun e w'=>e = .returned .nilIface/\(Lib.BuilderAt 209 5 B b (.pointer (some ⟨b,0,none⟩)) (bs++[.int .u8 c]) w'/\Below B w w'):=Any.Builder_WriteByte Tryz.zlays167 Tryz.zBuilder_Extra_167 B b bs c w h hlen hBw
open Go.RowKit in
theorem Tryz.zBuilder_WriteString (B b:Nat) (bs:List Value) (s:ByteArray) (w:World) (h:Lib.IsBuilder 209 5 B b bs w) (hlen:bs.length+s.size<=140737488355328) (hBw:B<=w.heap.size) :
  Calls Tryz.prog 174 #[.pointer (some ⟨b,0,none⟩),.string s] w fun e w'=>e = .returned (.tuple #[.int .i64 s.size,.nilIface])/\(Lib.BuilderAt 209 5 B b (.pointer (some ⟨b,0,none⟩)) (bs++Lib.strCells s) w'/\Below B w w'):=Any.Builder_WriteString Tryz.zlays166 Tryz.zBuilder_Extra_166 B b bs s w h hlen hBw
end Go.Proofs
end
section
namespace Go.Proofs.YtaipngaejfndgaaGreatDoor
open Go.RowKit
namespace QuoteWalk
open Kit QuotePlain
def pre (s:ByteArray) (k:Nat):Bs:=34 :: mid ((toL s).take k)
theorem xZ (s:ByteArray):pre s 0 = [34]:=by simp[pre,mid]
theorem yZ (s:ByteArray) (k:Nat) (h:k<s.size) {c:UInt8} (hc:s[k]=c):pre s (k+1)=pre s k++qb c:=by
 have h':k<(toL s).length:=by rw[U3];exact h
 have:(toL s)[k]=c:=hc
 rw[pre,pre,List.take_succ_eq_append_getElem h',this,mid,mid,List.flatMap_append]
 simp
theorem zbY (s:ByteArray) (k:Nat) (h:s.size<=k):pre s k++[34]=zV (toL s):=by
 rw[pre,List.take_of_length_le (by rw[U3];exact h)];rfl
theorem zhN (c:UInt8):(qb c).length<=4:=by unfold qb;split<;>simp
theorem mid_len (l:Bs):(mid l).length<=4*l.length:=by
 induction l with
 | nil=>simp[mid]
 | cons c l ih =>
  have:=zhN c
  simp only[mid,List.flatMap_cons,List.length_append,List.length_cons]at ih ⊢
  omega
theorem zci (s:ByteArray) (k:Nat):(pre s k).length<=1+4*k:=by
 have h1:=mid_len ((toL s).take k)
 have h2:((toL s).take k).length<=k:=List.length_take_le _ _
 simp only[pre,List.length_cons];omega
theorem refQuote_walk (s:ByteArray) (w:World) (hs:s.size<=1099511627776) :
  Calls Tryz.prog 67 #[.string s] w fun e w'=>e = .returned (.string (ofL (zV (toL s))))/\Below w.heap.size w w':=by
 go_enter Tryz.func67,Tryz.ntmps67
 go_wp2
 go_loopw [3,4] (fun o i wr=>∃ k:Nat,k<=s.size/\i = .int .i64 k/\o = .string (ofL (pre s k))/\Below w.heap.size w wr) (fun _ i _=>s.size-(intOf i).toNat)
 case atStart=>exact ⟨0,by omega,rfl,by rw[xZ];rfl,Below.refl _ _⟩
 case round =>
  obtain ⟨k,hk,rfl,rfl,hB⟩:=hrel
  have hpl:=zci s k
  have hps:(ofL (pre s k)).size<=1+4*k:=by rw[Qe];exact hpl
  by_cases hlt:k<s.size
  ·obtain ⟨c,hc⟩:∃ c,s[k]=c:=⟨_,rfl⟩
   have hsn:=Lib.hid (yZ s k hlt hc)
   have hql:=zhN c
   have hqs:(ofL (qb c)).size<=4:=by rw[Qe];exact hql
   generalize hp:ofL (pre s k)=p at *
   have hp':=Lib.hid hp
   clear hp
   go_wp2_with fail
   refine (GM c _).mono ?_
   rintro e w1 ⟨rfl,hb1⟩
   generalize hq:ofL (qb c)=q at *
   have hq':=Lib.hid hq
   clear hq
   go_wp2
   go_roundw
   case rel=>exact ⟨k+1,by omega,by go_num,by rw[hsn.out,←Uj,hp'.out,hq'.out],hB.trans (hb1.mono hB.size)⟩
   case measure=>simp[intOf];omega
  ·have hfin:=Lib.hid (zbY s k (by omega))
   generalize hp:ofL (pre s k)=p at *
   have hp':=Lib.hid hp
   clear hp
   go_wp2
   go_ret
   exact ⟨UL (by rw[←hp'.out,←hfin.out,←Uj];rfl),hB⟩
def Bld (B:Nat) (l:Bs) (w:World):Prop:=Lib.BuilderAt 209 5 B B (.pointer (some ⟨B,0,none⟩)) (Lib.byteCells l) w
theorem Bld.alloc {B:Nat} {l:Bs} {w:World} (h:Bld B l w) (o:Obj):Bld B l (w.alloc o):=by
 obtain ⟨h1,v,h2,h3,h4⟩:=h
 refine ⟨h1,v,?_,h3.alloc o,h4⟩
 rw[Lib.alloc_old _ _ _ (Array.getElem?_eq_some_iff.1 h2).1];exact h2
theorem Bld.drew {B:Nat} {l:Bs} {w:World} (h:Bld B l w):Bld B l w.drew:=h
theorem NP (B:Nat) (l:Bs) (c:UInt8) (w:World) (h:Bld B l w) (hl:l.length<140737488355328) (hB:B<=w.heap.size) :
  Calls Tryz.prog 213 #[.pointer (some ⟨B,0,none⟩),.int .u8 (c.toNat:Int)] w fun e w'=>e = .returned .nilIface/\Bld B (l++[c]) w'/\Below B w w':=by
 refine (Tryz.zBuilder_WriteByte B B (Lib.byteCells l) c.toNat w (.inr h) (by rw[Lib.byteCells_length];omega) hB).mono ?_
 rintro e w' ⟨h1,h2,h3⟩
 exact ⟨h1,by rw[Bld,Lib.byteCells_append];exact h2,h3⟩
theorem ue (w:World) (c:UInt8) :
  Calls Tryz.prog 213 #[.pointer (some ⟨w.heap.size,0,none⟩),.int .u8 (c.toNat:Int)] (w.alloc (.cells #[.pointer none,.slice none 0 0] 209 (0,0))) fun e w'=>e = .returned .nilIface/\Bld w.heap.size [c] w'/\Below w.heap.size w w':=by
 refine (Tryz.zBuilder_WriteByte w.heap.size w.heap.size [] c.toNat _ (Lib.fresh_isBuilder _ _ w) (by decide) (by simp)).mono ?_
 rintro e w' ⟨h1,h2,h3⟩
 exact ⟨h1,h2,((Below.refl _ _).alloc (Nat.le_refl _) _).trans h3⟩
theorem Mx (B:Nat) (l:Bs) (x:ByteArray) (w:World) (h:Bld B l w) (hl:l.length+x.size<=140737488355328) (hB:B<=w.heap.size) :
  Calls Tryz.prog 174 #[.pointer (some ⟨B,0,none⟩),.string x] w fun e w'=>e = .returned (.tuple #[.int .i64 x.size,.nilIface])/\Bld B (l++toL x) w'/\Below B w w':=by
 refine (Tryz.zBuilder_WriteString B B (Lib.byteCells l) x w (.inr h) (by rw[Lib.byteCells_length];omega) hB).mono ?_
 rintro e w' ⟨h1,h2,h3⟩
 exact ⟨h1,by rw[Bld,Lib.byteCells_append];exact h2,h3⟩
theorem zek (B:Nat) (l:Bs) (w:World) (h:Bld B l w) (hB:B<=w.heap.size) :
  Calls Tryz.prog 175 #[.pointer (some ⟨B,0,none⟩)] w fun e w'=>e = .returned (.string (ofL l))/\Below B w w':=
 Tryz.Builder_String_any B B l w (.inr h) hB
theorem zk9 (c:UInt8):bits BinOp.and IntKind.u8 (c.toNat:Int) 15=(c.toNat:Int) % 16:=by
 have:=zbD (p:=fun c=>decide (bits BinOp.and IntKind.u8 (c.toNat:Int) 15=(c.toNat:Int) % 16)) (by decide +kernel) c
 exact of_decide_eq_true this
theorem quote_walk (s:ByteArray) (w:World) (hs:s.size<=1099511627776) :
  Calls Tryz.prog 171 #[.string s] w fun e w'=>e = .returned (.string (ofL (zV (toL s))))/\Below w.heap.size w w':=by
 go_enter Tryz.func171,Tryz.ntmps171
 go_wp2_with fail
 refine (ue w 34).mono ?_
 rintro e w1 ⟨rfl,hI1,hB1⟩
 go_wp2_with fail
 go_loopw [9] (fun i wr=>∃ k:Nat,k<=s.size/\i = .int .i64 k/\Bld w.heap.size (pre s k) wr/\Below w.heap.size w wr) (fun i _=>s.size-(intOf i).toNat)
 case atStart=>exact ⟨0,by omega,rfl,by rw[xZ];exact hI1,hB1⟩
 case round =>
  obtain ⟨k,hk,rfl,hI,hB⟩:=hrel
  clear hI1 hB1
  have hpl:=zci s k
  by_cases hlt:k<s.size
  ·obtain ⟨c,hc⟩:∃ c,s[k]=c:=⟨_,rfl⟩
   have hsn:=Lib.hid (yZ s k hlt hc)
   go_wp2_with fail
   refine (Mh c _).mono ?_
   rintro e w' ⟨rfl,rfl⟩
   cases hg:good c with
   | true =>
    have hq:=Lib.hid (show qb c = [c] by rw[qb,if_pos hg])
    clear hg
    go_wp2_with fail
    refine (NP w.heap.size (pre s k) c _ hI (by omega) hB.size).mono ?_
    rintro e w2 ⟨rfl,hI2,hb2⟩
    go_wp2
    go_roundw
    case rel=>exact ⟨k+1,by omega,by go_num,by rw[hsn.out,hq.out];exact hI2,hB.trans hb2⟩
    case measure=>simp[intOf];omega
   | false =>
    have hq:=Lib.hid (show qb c = [92,120,Hs (c.toNat / 16),Hs (c.toNat % 16)] by rw[qb,hg];rfl)
    clear hg
    have x1:=zh3 c
    have x2:=zii c
    have x3:=zk9 c
    have hcv:=fun w2:World=>kW (P:=Tryz.prog) w2 [92,120,Hs (c.toNat / 16),Hs (c.toNat % 16)] 164 5 9 Tryz.underlying164 Tryz.underlying5 Tryz.underlying9 #[.int .u8 92,.int .u8 120,.int .u8 (Hs (c.toNat / 16)).toNat,.int .u8 (Hs (c.toNat % 16)).toNat] rfl (0,0) w2.heap.size 4 4 rfl rfl
    go_wp2_with fail
    go_still_tail 6,(by kernel_rfl)
    change wpList _ _ _ _ _ wr.drew
    obtain ⟨w2,hw2,hI2,hsz⟩:∃ w2:World,Below w.heap.size w w2/\Bld w.heap.size (pre s k) w2/\w2=wr.drew:=⟨_,hB.drew,hI.drew,rfl⟩
    rw[←hsz]
    clear hsz hI hB
    go_wp2_with fail
    refine (Mx w.heap.size (pre s k) (ofL [92,120,Hs (c.toNat / 16),Hs (c.toNat % 16)]) _ (hI2.alloc _) (by rw[Qe];show _+4<=_;omega) (by have:=hw2.size;simp;omega)).mono ?_
    rintro e w3 ⟨rfl,hI3,hb3⟩
    rw[zd1]at hI3
    have hB3:=(hw2.alloc hw2.size _).trans hb3
    clear hb3 hcv x1 x2 x3 hI2
    go_wp2
    go_roundw
    case rel=>exact ⟨k+1,by omega,by go_num,by rw[hsn.out,hq.out];exact hI3,hB3⟩
    case measure=>simp[intOf];omega
  ·have hfin:=Lib.hid (zbY s k (by omega))
   go_wp2_with fail
   refine (NP w.heap.size (pre s k) 34 _ hI (by omega) hB.size).mono ?_
   rintro e w2 ⟨rfl,hI2,hb2⟩
   go_wp2_with fail
   refine (zek w.heap.size _ _ hI2 (hB.trans hb2).size).mono ?_
   rintro e w3 ⟨rfl,hb3⟩
   go_wp2
   go_ret
   exact ⟨UL (by rw[hfin.out]),(hB.trans hb2).trans hb3⟩
end QuoteWalk
end Go.Proofs.YtaipngaejfndgaaGreatDoor
end
namespace Go.Proofs.YtaipngaejfndgaaGreatDoor.Vcg
section
open Go.RowKit
def phr:List (List UInt8):=[[],[99,97,110,110,111,116,32,99,114,101,97,116,101,32,100,105,114,101,99,116,111,114,121,32,65,58,32,69],[99,97,110,110,111,116,32,114,101,109,111,118,101,32,65,58,32,69],[114,101,102,117,115,105,110,103,32,116,111,32,114,101,109,111,118,101,32,34,46,34,32,111,114,32,34,46,46,34,32,100,105,114,101,99,116,111,114,121,58,32,115,107,105,112,112,105,110,103,32,65],[105,116,32,105,115,32,100,97,110,103,101,114,111,117,115,32,116,111,32,111,112,101,114,97,116,101,32,114,101,99,117,114,115,105,118,101,108,121,32,111,110,32,65],[102,97,105,108,101,100,32,116,111,32,97,99,99,101,115,115,32,65,58,32,69],[65,58,32,104,97,114,100,32,108,105,110,107,32,110,111,116,32,97,108,108,111,119,101,100,32,102,111,114,32,100,105,114,101,99,116,111,114,121],[102,97,105,108,101,100,32,116,111,32,99,114,101,97,116,101,32,104,97,114,100,32,108,105,110,107,32,66,58,32,69],[102,97,105,108,101,100,32,116,111,32,99,114,101,97,116,101,32,115,121,109,98,111,108,105,99,32,108,105,110,107,32,66,58,32,69],[65,32,97,110,100,32,66,32,97,114,101,32,116,104,101,32,115,97,109,101,32,102,105,108,101],[116,97,114,103,101,116,32,65,32,105,115,32,110,111,116,32,97,32,100,105,114,101,99,116,111,114,121],[99,97,110,110,111,116,32,115,116,97,116,32,65,58,32,69],[99,97,110,110,111,116,32,111,118,101,114,119,114,105,116,101,32,110,111,110,45,100,105,114,101,99,116,111,114,121,32,66,32,119,105,116,104,32,100,105,114,101,99,116,111,114,121,32,65],[99,97,110,110,111,116,32,111,118,101,114,119,114,105,116,101,32,100,105,114,101,99,116,111,114,121,32,66,32,119,105,116,104,32,110,111,110,45,100,105,114,101,99,116,111,114,121,32,65],[99,97,110,110,111,116,32,109,111,118,101,32,65,32,116,111,32,97,32,115,117,98,100,105,114,101,99,116,111,114,121,32,111,102,32,105,116,115,101,108,102,44,32,66],[99,97,110,110,111,116,32,109,111,118,101,32,65,32,116,111,32,66,58,32,69],[45,114,32,110,111,116,32,115,112,101,99,105,102,105,101,100,59,32,111,109,105,116,116,105,110,103,32,100,105,114,101,99,116,111,114,121,32,65],[99,97,110,110,111,116,32,99,114,101,97,116,101,32,114,101,103,117,108,97,114,32,102,105,108,101,32,66,58,32,69],[99,97,110,110,111,116,32,99,114,101,97,116,101,32,115,121,109,98,111,108,105,99,32,108,105,110,107,32,66,58,32,69],[99,97,110,110,111,116,32,99,111,112,121,32,97,32,100,105,114,101,99,116,111,114,121,44,32,65,44,32,105,110,116,111,32,105,116,115,101,108,102,44,32,66],[110,111,116,32,119,114,105,116,105,110,103,32,116,104,114,111,117,103,104,32,100,97,110,103,108,105,110,103,32,115,121,109,108,105,110,107,32,66],[101,114,114,111,114,32,119,114,105,116,105,110,103,32,66,58,32,69],[99,97,110,110,111,116,32,99,114,101,97,116,101,32,100,105,114,101,99,116,111,114,121,32,66,58,32,69]]
def zpo:List (List UInt8):=[[83,117,99,99,101,115,115],[78,111,32,115,117,99,104,32,102,105,108,101,32,111,114,32,100,105,114,101,99,116,111,114,121],[70,105,108,101,32,101,120,105,115,116,115],[78,111,116,32,97,32,100,105,114,101,99,116,111,114,121],[73,115,32,97,32,100,105,114,101,99,116,111,114,121],[68,105,114,101,99,116,111,114,121,32,110,111,116,32,101,109,112,116,121],[84,111,111,32,109,97,110,121,32,108,101,118,101,108,115,32,111,102,32,115,121,109,98,111,108,105,99,32,108,105,110,107,115],[70,105,108,101,32,110,97,109,101,32,116,111,111,32,108,111,110,103],[78,111,32,115,112,97,99,101,32,108,101,102,116,32,111,110,32,100,101,118,105,99,101],[73,110,118,97,108,105,100,32,97,114,103,117,109,101,110,116],[68,101,118,105,99,101,32,111,114,32,114,101,115,111,117,114,99,101,32,98,117,115,121],[79,112,101,114,97,116,105,111,110,32,110,111,116,32,112,101,114,109,105,116,116,101,100],[77,97,108,102,111,114,109,101,100,32,116,101,120,116],[78,111,116,32,105,110,32,116,104,101,32,115,116,97,115,104]]
def zlZ:List Value:=[.string ⟨#[]⟩,.string ⟨#[]⟩,.int .i64 0,.string ⟨#[109,107,100,105,114]⟩,.string ⟨#[112]⟩,.int .i64 1,.string ⟨#[114,109]⟩,.string ⟨#[82,100,102,114]⟩,.int .i64 1,.string ⟨#[108,110]⟩,.string ⟨#[84,102,110,115]⟩,.int .i64 1,.string ⟨#[109,118]⟩,.string ⟨#[84,102,110]⟩,.int .i64 2,.string ⟨#[99,112]⟩,.string ⟨#[80,82,84,102,110,114]⟩,.int .i64 2]
def G2:zj:=fun g=>if g=1 then some (phr.map C.str) else if g=0 then some (zlZ.map zr) else if g=4 then some (zpo.map C.str) else none
theorem znA:G2 1=some [.str [],.str [99,97,110,110,111,116,32,99,114,101,97,116,101,32,100,105,114,101,99,116,111,114,121,32,65,58,32,69],.str [99,97,110,110,111,116,32,114,101,109,111,118,101,32,65,58,32,69],.str [114,101,102,117,115,105,110,103,32,116,111,32,114,101,109,111,118,101,32,34,46,34,32,111,114,32,34,46,46,34,32,100,105,114,101,99,116,111,114,121,58,32,115,107,105,112,112,105,110,103,32,65],.str [105,116,32,105,115,32,100,97,110,103,101,114,111,117,115,32,116,111,32,111,112,101,114,97,116,101,32,114,101,99,117,114,115,105,118,101,108,121,32,111,110,32,65],.str [102,97,105,108,101,100,32,116,111,32,97,99,99,101,115,115,32,65,58,32,69],.str [65,58,32,104,97,114,100,32,108,105,110,107,32,110,111,116,32,97,108,108,111,119,101,100,32,102,111,114,32,100,105,114,101,99,116,111,114,121],.str [102,97,105,108,101,100,32,116,111,32,99,114,101,97,116,101,32,104,97,114,100,32,108,105,110,107,32,66,58,32,69],.str [102,97,105,108,101,100,32,116,111,32,99,114,101,97,116,101,32,115,121,109,98,111,108,105,99,32,108,105,110,107,32,66,58,32,69],.str [65,32,97,110,100,32,66,32,97,114,101,32,116,104,101,32,115,97,109,101,32,102,105,108,101],.str [116,97,114,103,101,116,32,65,32,105,115,32,110,111,116,32,97,32,100,105,114,101,99,116,111,114,121],.str [99,97,110,110,111,116,32,115,116,97,116,32,65,58,32,69],.str [99,97,110,110,111,116,32,111,118,101,114,119,114,105,116,101,32,110,111,110,45,100,105,114,101,99,116,111,114,121,32,66,32,119,105,116,104,32,100,105,114,101,99,116,111,114,121,32,65],.str [99,97,110,110,111,116,32,111,118,101,114,119,114,105,116,101,32,100,105,114,101,99,116,111,114,121,32,66,32,119,105,116,104,32,110,111,110,45,100,105,114,101,99,116,111,114,121,32,65],.str [99,97,110,110,111,116,32,109,111,118,101,32,65,32,116,111,32,97,32,115,117,98,100,105,114,101,99,116,111,114,121,32,111,102,32,105,116,115,101,108,102,44,32,66],.str [99,97,110,110,111,116,32,109,111,118,101,32,65,32,116,111,32,66,58,32,69],.str [45,114,32,110,111,116,32,115,112,101,99,105,102,105,101,100,59,32,111,109,105,116,116,105,110,103,32,100,105,114,101,99,116,111,114,121,32,65],.str [99,97,110,110,111,116,32,99,114,101,97,116,101,32,114,101,103,117,108,97,114,32,102,105,108,101,32,66,58,32,69],.str [99,97,110,110,111,116,32,99,114,101,97,116,101,32,115,121,109,98,111,108,105,99,32,108,105,110,107,32,66,58,32,69],.str [99,97,110,110,111,116,32,99,111,112,121,32,97,32,100,105,114,101,99,116,111,114,121,44,32,65,44,32,105,110,116,111,32,105,116,115,101,108,102,44,32,66],.str [110,111,116,32,119,114,105,116,105,110,103,32,116,104,114,111,117,103,104,32,100,97,110,103,108,105,110,103,32,115,121,109,108,105,110,107,32,66],.str [101,114,114,111,114,32,119,114,105,116,105,110,103,32,66,58,32,69],.str [99,97,110,110,111,116,32,99,114,101,97,116,101,32,100,105,114,101,99,116,111,114,121,32,66,58,32,69]]:=rfl
theorem zeT:G2 0=some [.str [],.str [],.sc (.int .i64 0),.str [109,107,100,105,114],.str [112],.sc (.int .i64 1),.str [114,109],.str [82,100,102,114],.sc (.int .i64 1),.str [108,110],.str [84,102,110,115],.sc (.int .i64 1),.str [109,118],.str [84,102,110],.sc (.int .i64 2),.str [99,112],.str [80,82,84,102,110,114],.sc (.int .i64 2)]:=rfl
theorem zkd:G2 4=some [.str [83,117,99,99,101,115,115],.str [78,111,32,115,117,99,104,32,102,105,108,101,32,111,114,32,100,105,114,101,99,116,111,114,121],.str [70,105,108,101,32,101,120,105,115,116,115],.str [78,111,116,32,97,32,100,105,114,101,99,116,111,114,121],.str [73,115,32,97,32,100,105,114,101,99,116,111,114,121],.str [68,105,114,101,99,116,111,114,121,32,110,111,116,32,101,109,112,116,121],.str [84,111,111,32,109,97,110,121,32,108,101,118,101,108,115,32,111,102,32,115,121,109,98,111,108,105,99,32,108,105,110,107,115],.str [70,105,108,101,32,110,97,109,101,32,116,111,111,32,108,111,110,103],.str [78,111,32,115,112,97,99,101,32,108,101,102,116,32,111,110,32,100,101,118,105,99,101],.str [73,110,118,97,108,105,100,32,97,114,103,117,109,101,110,116],.str [68,101,118,105,99,101,32,111,114,32,114,101,115,111,117,114,99,101,32,98,117,115,121],.str [79,112,101,114,97,116,105,111,110,32,110,111,116,32,112,101,114,109,105,116,116,101,100],.str [77,97,108,102,111,114,109,101,100,32,116,101,120,116],.str [78,111,116,32,105,110,32,116,104,101,32,115,116,97,115,104]]:=rfl
attribute [push_cast] znA zeT zkd
def jS (k:Int):List UInt8:=if k=1 then [109,107,100,105,114] else if k=2 then [114,109] else if k=3 then [108,110] else if k=4 then [109,118] else if k=5 then [99,112] else []
def qn (k:Int):List UInt8:=if k=1 then [99,97,110,110,111,116,32,99,114,101,97,116,101,32,100,105,114,101,99,116,111,114,121,32,65,58,32,69] else if k=2 then [99,97,110,110,111,116,32,114,101,109,111,118,101,32,65,58,32,69] else if k=3 then [114,101,102,117,115,105,110,103,32,116,111,32,114,101,109,111,118,101,32,34,46,34,32,111,114,32,34,46,46,34,32,100,105,114,101,99,116,111,114,121,58,32,115,107,105,112,112,105,110,103,32,65] else if k=4 then [105,116,32,105,115,32,100,97,110,103,101,114,111,117,115,32,116,111,32,111,112,101,114,97,116,101,32,114,101,99,117,114,115,105,118,101,108,121,32,111,110,32,65] else if k=5 then [102,97,105,108,101,100,32,116,111,32,97,99,99,101,115,115,32,65,58,32,69] else if k=6 then [65,58,32,104,97,114,100,32,108,105,110,107,32,110,111,116,32,97,108,108,111,119,101,100,32,102,111,114,32,100,105,114,101,99,116,111,114,121] else if k=7 then [102,97,105,108,101,100,32,116,111,32,99,114,101,97,116,101,32,104,97,114,100,32,108,105,110,107,32,66,58,32,69] else if k=8 then [102,97,105,108,101,100,32,116,111,32,99,114,101,97,116,101,32,115,121,109,98,111,108,105,99,32,108,105,110,107,32,66,58,32,69] else if k=9 then [65,32,97,110,100,32,66,32,97,114,101,32,116,104,101,32,115,97,109,101,32,102,105,108,101] else if k=10 then [116,97,114,103,101,116,32,65,32,105,115,32,110,111,116,32,97,32,100,105,114,101,99,116,111,114,121] else if k=11 then [99,97,110,110,111,116,32,115,116,97,116,32,65,58,32,69] else if k=12 then [99,97,110,110,111,116,32,111,118,101,114,119,114,105,116,101,32,110,111,110,45,100,105,114,101,99,116,111,114,121,32,66,32,119,105,116,104,32,100,105,114,101,99,116,111,114,121,32,65] else if k=13 then [99,97,110,110,111,116,32,111,118,101,114,119,114,105,116,101,32,100,105,114,101,99,116,111,114,121,32,66,32,119,105,116,104,32,110,111,110,45,100,105,114,101,99,116,111,114,121,32,65] else if k=14 then [99,97,110,110,111,116,32,109,111,118,101,32,65,32,116,111,32,97,32,115,117,98,100,105,114,101,99,116,111,114,121,32,111,102,32,105,116,115,101,108,102,44,32,66] else if k=15 then [99,97,110,110,111,116,32,109,111,118,101,32,65,32,116,111,32,66,58,32,69] else if k=16 then [45,114,32,110,111,116,32,115,112,101,99,105,102,105,101,100,59,32,111,109,105,116,116,105,110,103,32,100,105,114,101,99,116,111,114,121,32,65] else if k=17 then [99,97,110,110,111,116,32,99,114,101,97,116,101,32,114,101,103,117,108,97,114,32,102,105,108,101,32,66,58,32,69] else if k=18 then [99,97,110,110,111,116,32,99,114,101,97,116,101,32,115,121,109,98,111,108,105,99,32,108,105,110,107,32,66,58,32,69] else if k=19 then [99,97,110,110,111,116,32,99,111,112,121,32,97,32,100,105,114,101,99,116,111,114,121,44,32,65,44,32,105,110,116,111,32,105,116,115,101,108,102,44,32,66] else if k=20 then [110,111,116,32,119,114,105,116,105,110,103,32,116,104,114,111,117,103,104,32,100,97,110,103,108,105,110,103,32,115,121,109,108,105,110,107,32,66] else if k=21 then [101,114,114,111,114,32,119,114,105,116,105,110,103,32,66,58,32,69] else if k=22 then [99,97,110,110,111,116,32,99,114,101,97,116,101,32,100,105,114,101,99,116,111,114,121,32,66,58,32,69] else []
def xf (k:Int):List UInt8:=if k=0 then [83,117,99,99,101,115,115] else if k=1 then [78,111,32,115,117,99,104,32,102,105,108,101,32,111,114,32,100,105,114,101,99,116,111,114,121] else if k=2 then [70,105,108,101,32,101,120,105,115,116,115] else if k=3 then [78,111,116,32,97,32,100,105,114,101,99,116,111,114,121] else if k=4 then [73,115,32,97,32,100,105,114,101,99,116,111,114,121] else if k=5 then [68,105,114,101,99,116,111,114,121,32,110,111,116,32,101,109,112,116,121] else if k=6 then [84,111,111,32,109,97,110,121,32,108,101,118,101,108,115,32,111,102,32,115,121,109,98,111,108,105,99,32,108,105,110,107,115] else if k=7 then [70,105,108,101,32,110,97,109,101,32,116,111,111,32,108,111,110,103] else if k=8 then [78,111,32,115,112,97,99,101,32,108,101,102,116,32,111,110,32,100,101,118,105,99,101] else if k=9 then [73,110,118,97,108,105,100,32,97,114,103,117,109,101,110,116] else if k=10 then [68,101,118,105,99,101,32,111,114,32,114,101,115,111,117,114,99,101,32,98,117,115,121] else if k=11 then [79,112,101,114,97,116,105,111,110,32,110,111,116,32,112,101,114,109,105,116,116,101,100] else if k=12 then [77,97,108,102,111,114,109,101,100,32,116,101,120,116] else if k=13 then [78,111,116,32,105,110,32,116,104,101,32,115,116,97,115,104] else [85,110,107,110,111,119,110,32,101,114,114,111,114]
theorem GC (k:Int):Fun Tryz.prog G2 125 [.sc (.int .i64 k)] (.str (jS k)) 0:=by
 by_cases h1:1<=k
 ·by_cases h2:k<=5
  ·have hc:k=1∨k=2∨k=3∨k=4∨k=5:=by omega
   clear h1 h2
   rcases hc with rfl | rfl | rfl | rfl | rfl
   all_goals
    refine fon Tryz.func125 ?_;dsimp only[Tryz.f125]
    push_cast -dsimp
    exact ⟨[],rfl,rfl,by simp only[jS];push_cast -dsimp [zb,za,CLe,ze]<;>rfl⟩
  ·have n1:¬k=1:=(by omega);have n2:¬k=2:=(by omega);have n3:¬k=3:=(by omega);have n4:¬k=4:=(by omega);have n5:¬k=5:=(by omega)
   have f1:¬k<1:=(by omega);have f2:6<=k:=(by omega);have f3:5<k:=(by omega)
   refine fon Tryz.func125 ?_;dsimp only[Tryz.f125]
   push_cast -dsimp [f1,f2,f3,n1,n2,n3,n4,n5]
   exact ⟨[],rfl,rfl,by push_cast -dsimp [zb,za,CLe,ze]<;>simp[jS,n1,n2,n3,n4,n5]⟩
 ·have n1:¬k=1:=(by omega);have n2:¬k=2:=(by omega);have n3:¬k=3:=(by omega);have n4:¬k=4:=(by omega);have n5:¬k=5:=(by omega)
  have f1:k<1:=by omega
  refine fon Tryz.func125 ?_;dsimp only[Tryz.f125]
  push_cast -dsimp [f1,n1,n2,n3,n4,n5]
  exact ⟨[],rfl,rfl,by push_cast -dsimp [zb,za,CLe,ze]<;>simp[jS,n1,n2,n3,n4,n5]⟩
theorem Nm (k:Int):Fun Tryz.prog G0 32 [.sc (.int .i64 k)] (.str (jS k)) 0:=by
 by_cases h1:1<=k
 ·by_cases h2:k<=5
  ·have hc:k=1∨k=2∨k=3∨k=4∨k=5:=by omega
   clear h1 h2
   rcases hc with rfl | rfl | rfl | rfl | rfl
   all_goals
    refine fon Tryz.func32 ?_;dsimp only[Tryz.f32]
    push_cast -dsimp
    exact ⟨[],rfl,rfl,by simp only[jS];push_cast -dsimp [zb,za,CLe,ze]<;>rfl⟩
  ·have n1:¬k=1:=(by omega);have n2:¬k=2:=(by omega);have n3:¬k=3:=(by omega);have n4:¬k=4:=(by omega);have n5:¬k=5:=(by omega)
   have f1:¬k<1:=(by omega);have f2:6<=k:=(by omega);have f3:5<k:=(by omega)
   refine fon Tryz.func32 ?_;dsimp only[Tryz.f32]
   push_cast -dsimp [f1,f2,f3,n1,n2,n3,n4,n5]
   exact ⟨[],rfl,rfl,by push_cast -dsimp [zb,za,CLe,ze]<;>simp[jS,n1,n2,n3,n4,n5]⟩
 ·have n1:¬k=1:=(by omega);have n2:¬k=2:=(by omega);have n3:¬k=3:=(by omega);have n4:¬k=4:=(by omega);have n5:¬k=5:=(by omega)
  have f1:k<1:=by omega
  refine fon Tryz.func32 ?_;dsimp only[Tryz.f32]
  push_cast -dsimp [f1,n1,n2,n3,n4,n5]
  exact ⟨[],rfl,rfl,by push_cast -dsimp [zb,za,CLe,ze]<;>simp[jS,n1,n2,n3,n4,n5]⟩
theorem uF (k:Int):Fun Tryz.prog G2 126 [.sc (.int .i64 k)] (.str (qn k)) 0:=by
 by_cases h1:0<=k
 ·by_cases h2:k<=22
  ·have hc:k=0∨k=1∨k=2∨k=3∨k=4∨k=5∨k=6∨k=7∨k=8∨k=9∨k=10∨k=11∨k=12∨k=13∨k=14∨k=15∨k=16∨k=17∨k=18∨k=19∨k=20∨k=21∨k=22:=by omega
   clear h1 h2
   rcases hc with rfl | rfl | rfl | rfl | rfl | rfl | rfl | rfl | rfl | rfl | rfl | rfl | rfl | rfl | rfl | rfl | rfl | rfl | rfl | rfl | rfl | rfl | rfl
   all_goals
    refine fon Tryz.func126 ?_;dsimp only[Tryz.f126]
    push_cast -dsimp
    exact ⟨[],rfl,rfl,by simp only[qn];push_cast -dsimp [zb,za,CLe,ze]<;>rfl⟩
  ·have n1:¬k=1:=(by omega);have n2:¬k=2:=(by omega);have n3:¬k=3:=(by omega);have n4:¬k=4:=(by omega);have n5:¬k=5:=(by omega);have n6:¬k=6:=(by omega);have n7:¬k=7:=(by omega);have n8:¬k=8:=(by omega);have n9:¬k=9:=(by omega);have n10:¬k=10:=(by omega);have n11:¬k=11:=(by omega);have n12:¬k=12:=(by omega);have n13:¬k=13:=(by omega);have n14:¬k=14:=(by omega);have n15:¬k=15:=(by omega);have n16:¬k=16:=(by omega);have n17:¬k=17:=(by omega);have n18:¬k=18:=(by omega);have n19:¬k=19:=(by omega);have n20:¬k=20:=(by omega);have n21:¬k=21:=(by omega);have n22:¬k=22:=(by omega)
   have f1:¬k<0:=(by omega);have f2:23<=k:=(by omega);have f3:22<k:=(by omega)
   refine fon Tryz.func126 ?_;dsimp only[Tryz.f126]
   push_cast -dsimp [f1,f2,f3,n1,n2,n3,n4,n5,n6,n7,n8,n9,n10,n11,n12,n13,n14,n15,n16,n17,n18,n19,n20,n21,n22]
   exact ⟨[],rfl,rfl,by push_cast -dsimp [zb,za,CLe,ze]<;>simp[qn,n1,n2,n3,n4,n5,n6,n7,n8,n9,n10,n11,n12,n13,n14,n15,n16,n17,n18,n19,n20,n21,n22]⟩
 ·have n1:¬k=1:=(by omega);have n2:¬k=2:=(by omega);have n3:¬k=3:=(by omega);have n4:¬k=4:=(by omega);have n5:¬k=5:=(by omega);have n6:¬k=6:=(by omega);have n7:¬k=7:=(by omega);have n8:¬k=8:=(by omega);have n9:¬k=9:=(by omega);have n10:¬k=10:=(by omega);have n11:¬k=11:=(by omega);have n12:¬k=12:=(by omega);have n13:¬k=13:=(by omega);have n14:¬k=14:=(by omega);have n15:¬k=15:=(by omega);have n16:¬k=16:=(by omega);have n17:¬k=17:=(by omega);have n18:¬k=18:=(by omega);have n19:¬k=19:=(by omega);have n20:¬k=20:=(by omega);have n21:¬k=21:=(by omega);have n22:¬k=22:=(by omega)
  have f1:k<0:=by omega
  refine fon Tryz.func126 ?_;dsimp only[Tryz.f126]
  push_cast -dsimp [f1,n1,n2,n3,n4,n5,n6,n7,n8,n9,n10,n11,n12,n13,n14,n15,n16,n17,n18,n19,n20,n21,n22]
  exact ⟨[],rfl,rfl,by push_cast -dsimp [zb,za,CLe,ze]<;>simp[qn,n1,n2,n3,n4,n5,n6,n7,n8,n9,n10,n11,n12,n13,n14,n15,n16,n17,n18,n19,n20,n21,n22]⟩
theorem xw (k:Int):Fun Tryz.prog G2 172 [.sc (.int .i64 k)] (.str (xf k)) 0:=by
 by_cases h1:0<=k
 ·by_cases h2:k<=13
  ·have hc:k=0∨k=1∨k=2∨k=3∨k=4∨k=5∨k=6∨k=7∨k=8∨k=9∨k=10∨k=11∨k=12∨k=13:=by omega
   clear h1 h2
   rcases hc with rfl | rfl | rfl | rfl | rfl | rfl | rfl | rfl | rfl | rfl | rfl | rfl | rfl | rfl
   all_goals
    refine fon Tryz.func172 ?_;dsimp only[Tryz.f172]
    push_cast -dsimp
    exact ⟨[],rfl,rfl,by simp only[xf];push_cast -dsimp [zb,za,CLe,ze]<;>rfl⟩
  ·have n0:¬k=0:=(by omega);have n1:¬k=1:=(by omega);have n2:¬k=2:=(by omega);have n3:¬k=3:=(by omega);have n4:¬k=4:=(by omega);have n5:¬k=5:=(by omega);have n6:¬k=6:=(by omega);have n7:¬k=7:=(by omega);have n8:¬k=8:=(by omega);have n9:¬k=9:=(by omega);have n10:¬k=10:=(by omega);have n11:¬k=11:=(by omega);have n12:¬k=12:=(by omega);have n13:¬k=13:=(by omega)
   have f1:¬k<0:=(by omega);have f2:14<=k:=(by omega);have f3:13<k:=(by omega)
   refine fon Tryz.func172 ?_;dsimp only[Tryz.f172]
   push_cast -dsimp [f1,f2,f3,n0,n1,n2,n3,n4,n5,n6,n7,n8,n9,n10,n11,n12,n13]
   exact ⟨[],rfl,rfl,by push_cast -dsimp [zb,za,CLe,ze]<;>simp[xf,n0,n1,n2,n3,n4,n5,n6,n7,n8,n9,n10,n11,n12,n13]⟩
 ·have n0:¬k=0:=(by omega);have n1:¬k=1:=(by omega);have n2:¬k=2:=(by omega);have n3:¬k=3:=(by omega);have n4:¬k=4:=(by omega);have n5:¬k=5:=(by omega);have n6:¬k=6:=(by omega);have n7:¬k=7:=(by omega);have n8:¬k=8:=(by omega);have n9:¬k=9:=(by omega);have n10:¬k=10:=(by omega);have n11:¬k=11:=(by omega);have n12:¬k=12:=(by omega);have n13:¬k=13:=(by omega)
  have f1:k<0:=by omega
  refine fon Tryz.func172 ?_;dsimp only[Tryz.f172]
  push_cast -dsimp [f1,n0,n1,n2,n3,n4,n5,n6,n7,n8,n9,n10,n11,n12,n13]
  exact ⟨[],rfl,rfl,by push_cast -dsimp [zb,za,CLe,ze]<;>simp[xf,n0,n1,n2,n3,n4,n5,n6,n7,n8,n9,n10,n11,n12,n13]⟩
open QuotePlain in
theorem NM (l:List UInt8) (hl:l.length<=1000000):Fun Tryz.prog G0 171 [.str l] (.str (zV l)) 0:=by
 refine Fun.wrap (by kernel_rfl) fun R vs h=>?_
 obtain ⟨v1,us1,rfl,h1,h⟩:=zd.1 h
 rw[zg]at h
 subst h
 rw[zB]at h1
 subst h1
 refine (QuoteWalk.quote_walk ⟨l.toArray⟩ R.w (by simp[ByteArray.size];omega)).mono ?_
 rintro e w' ⟨rfl,hb⟩
 exact ⟨_,rfl,hb,fun R' _=>zB.2 (by simp[Kit.ofL,Kit.toL])⟩
open QuotePlain in
theorem Xh (l:List UInt8) (hl:l.length<=1000000):Fun Tryz.prog G0 67 [.str l] (.str (zV l)) 0:=by
 refine Fun.wrap (by kernel_rfl) fun R vs h=>?_
 obtain ⟨v1,us1,rfl,h1,h⟩:=zd.1 h
 rw[zg]at h
 subst h
 rw[zB]at h1
 subst h1
 refine (QuoteWalk.refQuote_walk ⟨l.toArray⟩ R.w (by simp[ByteArray.size];omega)).mono ?_
 rintro e w' ⟨rfl,hb⟩
 exact ⟨_,rfl,hb,fun R' _=>zB.2 (by simp[Kit.ofL,Kit.toL])⟩
end
section
open Go.RowKit
theorem Fun.res {P:Program} {G:zj} {f:FuncId} {args:List C} {r r':C} {n:Nat} (h:Fun P G f args r n) (e:r=r'):Fun P G f args r' n:=e▸h
theorem ua.glob0 {P:Program} {G':zj} {f:FuncId} {args:List C} {bx bx':List (List C)} {q:Nat} {r:C} {n:Nat} (h:ua P G0 f args bx q r bx' n):ua P G' f args bx q r bx' n:=
 ⟨h.1,fun R L vs hg=>h.2 R L vs fun g cs e=>by cases e⟩
theorem HK.glob0 {P:Program} {G':zj} {f:FuncId} {first cap:List C} {bx items:List (List C)} (h:HK P G0 f first cap bx items):HK P G' f first cap bx items:=
 ⟨h.1,fun l st J R L us vs hg=>h.2 l st J R L us vs fun g cs e=>by cases e⟩
def XS (c:UInt8):List UInt8->List (List UInt8)
 | []=>[[]]
 | b :: l=>if b=c then [] :: XS c l else match XS c l with
  | []=>[[b]]
  | x :: r=>(b :: x) :: r
theorem ZX (c:UInt8):∀ l:List UInt8,Lib.indexByte l c<0->XS c l = [l]
 | [],_=>rfl
 | b :: l,h=>by
  unfold Lib.indexByte at h
  by_cases hb:b=c
  ·subst hb;simp at h
  ·have hb':(b==c)=false:=by simpa using hb
   rw[hb']at h
   simp only[Bool.false_eq_true,if_false]at h
   have hl:Lib.indexByte l c<0:=by
    split at h
    ·rename_i g;have:=beq_iff_eq.1 g;omega
    ·omega
   unfold XS
   rw[if_neg hb,ZX c l hl]
theorem Z5 (c:UInt8):∀ l:List UInt8,-1<=Lib.indexByte l c
 | []=>Int.le_refl _
 | b :: l=>by
  have:=Z5 c l
  unfold Lib.indexByte
  split
  ·decide
  ·split
   ·decide
   ·omega
theorem Gp (c:UInt8):∀ (l:List UInt8) (i:Nat),Lib.indexByte l c=(i:Int)->i<l.length/\XS c l=l.take i :: XS c (l.drop (i+1))
 | [],i,h=>by
  have h:(-1:Int)=(i:Int):=h
  omega
 | b :: l,i,h=>by
  unfold Lib.indexByte at h
  by_cases hb:b=c
  ·subst hb
   simp at h
   obtain rfl:i=0:=by omega
   refine ⟨by simp,?_⟩
   conv=>lhs;unfold XS
   simp
  ·have hb':(b==c)=false:=by simpa using hb
   rw[hb']at h
   simp only[Bool.false_eq_true,if_false]at h
   split at h
   ·omega
   ·rename_i g
    have g':Lib.indexByte l c≠-1:=by simpa using g
    have hg:=Z5 c l
    obtain ⟨j,rfl⟩:∃ j,i=j+1:=⟨i-1,by omega⟩
    have hj:Lib.indexByte l c=(j:Int):=by omega
    obtain ⟨h1,h2⟩:=Gp c l j hj
    refine ⟨by simp;omega,?_⟩
    conv=>lhs;unfold XS
    rw[if_neg hb,h2]
    simp
theorem xy (c:UInt8) (l:List UInt8):(XS c l).length<=l.length+1:=by
 induction l with
 | nil=>simp[XS]
 | cons b l ih =>
  unfold XS
  split
  ·simp;omega
  ·split
   ·simp
   ·rename_i x r h
    rw[h]at ih
    simp at ih ⊢;omega
theorem vv (c:UInt8) (l:List UInt8):Fun Tryz.prog G0 177 [.str l,.str [c]] (.sc (.int .i64 (Lib.indexByte l c))) 0:=by
 refine Fun.wrap (by kernel_rfl) fun R vs h=>?_
 obtain ⟨v1,us1,rfl,h1,h⟩:=zd.1 h
 obtain ⟨v2,us2,rfl,h2,h⟩:=zd.1 h
 rw[zg]at h
 subst h
 rw[zB]at h1 h2
 subst h1 h2
 refine (Tryz.strings_Index_one ⟨l.toArray⟩ c R.w).mono ?_
 rintro e w' ⟨rfl,rfl⟩
 exact ⟨_,rfl,Below.refl _ _,fun R' _=>zi.2 (by simp)⟩
theorem Nd (c:UInt8) (s:List UInt8) (hs:s.length<=1000000):HK Tryz.prog G0 208 [] [.ptr 1 0,.ptr 0 0,.ptr 2 0] [[.str s],[.str [c]],[.sc (.int .i64 0)]] (zC (XS c s)):=by
 refine foI (fun _=>[]) Tryz.func208 ?_;dsimp only[Tryz.f208]
 intro l sf
 push_cast -dsimp
 refine loop (fun x:List UInt8×Nat=>⟨[(0,.sc (.func (.yield l) #[] #[])),(1,.ptr 1 0),(2,.ptr 0 0),(3,.ptr 2 0)],[[.str x.1],[.str [c]],[.sc (.int .i64 0)]],0,x.2⟩)
  (fun x=>x.1.length<=1000000/\(∃ done,XS c s=done++XS c x.1/\done.length=x.2)/\∀ j,j<x.2->sf j=false) (fun x=>x.1.length) (s,0) ⟨hs,⟨[],rfl,rfl⟩,fun j hj=>by omega⟩ ?_ ?_
 ·refine jW.mk [] rfl rfl (Nat.zero_le _) rfl ?_ ?_<;>push_cast -dsimp [zb,za,CLe,ze]<;>omega
 ·rintro ⟨r,k⟩ hx
  simp only at hx ⊢
  have hr:=hx.1
  have hsf:=hx.2.2
  obtain ⟨done,hd,hdl⟩:=hx.2.1
  clear hx
  push_cast -dsimp
  refine call (vv c r) ?_
  push_cast -dsimp
  by_cases hi:Lib.indexByte r c<0
  ·push_cast -dsimp [hi]
   have hk:(zC (XS c s))[k]?=some [.str r]:=by
    rw[hd,ZX c r hi];simp[←hdl]
   rw[hk]
   push_cast -dsimp
   refine ⟨by push_cast -dsimp [zb,za,CLe,ze],hsf,?_⟩
   cases hk2:sf k with
   | true=>exact .inr ⟨Nat.succ_pos k,hk2⟩
   | false =>
    refine .inl ⟨?_,fun j (hj:j<k+1)=>?_⟩
    ·rw[hd,ZX c r hi];simp[hdl]
    ·rcases Nat.lt_or_ge j k with g | g
     ·exact hsf j g
     ·rw[show j=k by omega];exact hk2
  ·have hg:=Z5 c r
   obtain ⟨i,hii⟩:∃ i:Nat,Lib.indexByte r c=(i:Int):=⟨(Lib.indexByte r c).toNat,by omega⟩
   obtain ⟨hir,hsp⟩:=Gp c r i hii
   have hk:(zC (XS c s))[k]?=some [.str (r.take i)]:=by
    rw[hd,hsp];simp[←hdl]
   rw[hii]at hi ⊢
   push_cast -dsimp [hi]
   rw[hk]
   push_cast -dsimp
   refine ⟨by omega,by omega,by push_cast -dsimp [zb,za,CLe,ze],hsf,br (fun hk2=>?_) (fun hk2=>?_)⟩
   ·push_cast -dsimp
    exact .inr ⟨Nat.succ_pos k,hk2⟩
   ·push_cast -dsimp
    refine ⟨by omega,by omega,(r.drop (i+1),k+1),⟨by simp;omega,⟨done++[r.take i],by rw[hd,hsp];simp,by simp[hdl]⟩,fun j (hj:j<k+1)=>?_⟩,by simp;omega,jW.mk [] rfl rfl (Nat.zero_le _) rfl ?_ ?_⟩
    ·rcases Nat.lt_or_ge j k with g | g
     ·exact hsf j g
     ·rw[show j=k by omega];exact hk2
    ·push_cast -dsimp [zb,za,CLe,ze]
    ·push_cast -dsimp [zb,za,CLe,ze]
theorem kS (c:UInt8) (s:List UInt8):ua Tryz.prog G0 169 [.str s,.str [c],.sc (.int .i64 0)] [] 0 (.clo (.func 208) [] [.ptr 1 0,.ptr 0 0,.ptr 2 0]) [[.str s],[.str [c]],[.sc (.int .i64 0)]] 0:=by
 refine foB (fun _=>[]) Tryz.func169 ?_;dsimp only[Tryz.f169]
 push_cast -dsimp
 exact ⟨[],rfl,rfl,by push_cast -dsimp [zb,za,CLe,ze],by push_cast -dsimp [zb,za,CLe,ze]⟩
theorem U0 (c:UInt8) (s:List UInt8):ua Tryz.prog G0 127 [.str s,.str [c]] [] 0 (.clo (.func 208) [] [.ptr 1 0,.ptr 0 0,.ptr 2 0]) [[.str s],[.str [c]],[.sc (.int .i64 0)]] 0:=by
 refine foB (fun _=>[]) Tryz.func127 ?_;dsimp only[Tryz.f127]
 push_cast -dsimp
 refine zgK [] [] (kS c s) rfl (by simp) (by simp) (fun i hi=>by cases hi) (by push_cast -dsimp) rfl ?_
 push_cast -dsimp
 exact ⟨[],rfl,rfl,by push_cast -dsimp [zb,za,CLe,ze],by push_cast -dsimp [zb,za,CLe,ze]⟩
end
section
open CA CB
open Go.RowKit QuotePlain
def Yg (l:List UInt8):List UInt8:=Lib.trimRightS l [58,44]
theorem zex (l:List UInt8):(Yg l).length<=l.length:=by
 unfold Yg Lib.trimRightS
 rw[List.length_reverse]
 have:=(List.dropWhile_sublist (([58,44]:List UInt8).contains ·) (l:=l.reverse)).length_le
 rw[List.length_reverse]at this
 exact this
theorem zg0 (l:List UInt8) (h0:l≠[]) (hl:l.length<=1000000):Fun Tryz.prog G0 170 [.str l,.str [58,44]] (.str (Yg l)) 0:=by
 refine Fun.wrap (by kernel_rfl) fun R vs h=>?_
 obtain ⟨v1,us1,rfl,h1,h⟩:=zd.1 h
 obtain ⟨v2,us2,rfl,h2,h⟩:=zd.1 h
 rw[zg]at h
 subst h
 rw[zB]at h1 h2
 subst h1 h2
 have hpos:=List.length_pos_iff.2 h0
 refine (Any.strings_TrimRight_set Tryz.lays162 UI (by kernel_rfl) ⟨l.toArray⟩ ⟨#[58,44]⟩ R.w (by decide) (by simpa [ByteArray.size] using hpos) (by simp[ByteArray.size];omega) (by decide) (fun j b hb=>?_)).mono ?_
 ·match j,hb with
  | 0,hb=>cases hb;decide
  | 1,hb=>cases hb;decide
  | j+2,hb=>simp at hb
 ·rintro e w' ⟨rfl,rfl⟩
  exact ⟨_,rfl,((Below.refl _ _).alloc (Nat.le_refl _) _).alloc (by simp) _,fun R' _=>zB.2 (by simp[Yg])⟩
def Qm (w qa qb m:List UInt8):List UInt8:=
 if Yg w = [65] then qa++w.drop (Yg w).length else if Yg w = [66] then qb++w.drop (Yg w).length else if Yg w = [69] then m++w.drop (Yg w).length else w
theorem Xb (l:List UInt8):(zV l).length<=4*l.length+2:=by
 have:=QuoteWalk.mid_len l
 simp only[zV,List.length_cons,List.length_append,List.length_nil]
 omega
theorem yj (e:Int):(xf e).length<=100:=by
 have key:∀ (c:Prop) [Decidable c] (x y:List UInt8),x.length<=100->y.length<=100->(if c then x else y).length<=100:=fun c _ x y hx hy=>by
  by_cases h:c
  ·rw[if_pos h];exact hx
  ·rw[if_neg h];exact hy
 unfold xf
 repeat' (first | decide | refine key _ _ _ (by decide) ?_)
theorem zcb (w a b:List UInt8) (e:Int) (ha:a.length<=1000) (hb:b.length<=1000):(Qm w (zV a) (zV b) (xf e)).length<=w.length+5000:=by
 have h1:=Xb a
 have h2:=Xb b
 have h3:=yj e
 unfold Qm
 repeat' split
 all_goals (try simp only[List.length_append,List.length_drop]);omega
theorem zge (w a b:List UInt8) (e:Int) (h0:w≠[]) (hw:w.length<=1000) (ha:a.length<=1000) (hb:b.length<=1000):Fun Tryz.prog G2 128 [.str w,.str a,.str b,.sc (.int .i64 e)] (.str (Qm w (zV a) (zV b) (xf e))) 0:=by
 have h1:=(zg0 w h0 (by omega)).glob0 (G':=G2)
 have h2:=(NM a (by omega)).glob0 (G':=G2)
 have h3:=(NM b (by omega)).glob0 (G':=G2)
 have h4:=xw e
 have hl:=zex w
 have l1:=Xb a
 have l2:=Xb b
 have l3:=yj e
 by_cases hA:Yg w = [65]
 ·refine fon Tryz.func128 ?_;dsimp only[Tryz.f128]
  push_cast -dsimp
  refine cl (h1) ?_;push_cast -dsimp
  repeat refine an ?_
  push_cast -dsimp [hA]
  refine cl (h2) ?_;push_cast -dsimp
  repeat refine an ?_
  exact ⟨[],rfl,rfl,by push_cast -dsimp [zb,za,CLe,ze]<;>simp[Qm,hA]⟩
 ·by_cases hB:Yg w = [66]
  ·have hA':¬([66]:List UInt8) = [65]:=by decide
   refine fon Tryz.func128 ?_;dsimp only[Tryz.f128]
   push_cast -dsimp
   refine cl (h1) ?_;push_cast -dsimp
   repeat refine an ?_
   push_cast -dsimp [hB,hA']
   refine cl (h3) ?_;push_cast -dsimp
   repeat refine an ?_
   exact ⟨[],rfl,rfl,by push_cast -dsimp [zb,za,CLe,ze]<;>simp[Qm,hB]⟩
  ·by_cases hE:Yg w = [69]
   ·have hA':¬([69]:List UInt8) = [65]:=by decide
    have hB':¬([69]:List UInt8) = [66]:=by decide
    refine fon Tryz.func128 ?_;dsimp only[Tryz.f128]
    push_cast -dsimp
    refine cl (h1) ?_;push_cast -dsimp
    repeat refine an ?_
    push_cast -dsimp [hE,hA',hB']
    refine cl (h4) ?_;push_cast -dsimp
    repeat refine an ?_
    exact ⟨[],rfl,rfl,by push_cast -dsimp [zb,za,CLe,ze]<;>simp[Qm,hE]⟩
   ·refine fon Tryz.func128 ?_;dsimp only[Tryz.f128]
    push_cast -dsimp
    refine cl (h1) ?_;push_cast -dsimp
    repeat refine an ?_
    push_cast -dsimp [hA,hB,hE]
    exact ⟨[],rfl,rfl,by push_cast -dsimp [zb,za,CLe,ze]<;>simp[Qm,hA,hB,hE]⟩
theorem zg5 (xs:List (List UInt8)) (hx:xs.length<=1000001) (hl:(Lib.join xs [58,32]).length<=100000000):Fun Tryz.prog G0 129 [.sl 1 (zC xs)] (.str (Lib.join xs [58,32])) 0:=by
 refine fon Tryz.func129 ?_;dsimp only[Tryz.f129]
 push_cast -dsimp
 refine cl (ZJ xs [58,32] hx hl) ?_;push_cast -dsimp
 exact dn
end
section
open CA CB
open Go.RowKit QuotePlain
abbrev Atm:=Nat ⊕ UInt8
def zo2 (w:List UInt8):List Atm:=
 if Yg w = [65] then .inl 0 :: (w.drop (Yg w).length).map .inr else if Yg w = [66] then .inl 1 :: (w.drop (Yg w).length).map .inr else if Yg w = [69] then .inl 2 :: (w.drop (Yg w).length).map .inr else w.map .inr
def vA (qa qb m:List UInt8):Atm->List UInt8
 | .inl 0=>qa
 | .inl 1=>qb
 | .inl _=>m
 | .inr b=>[b]
def flA (qa qb m:List UInt8):List Atm->List UInt8
 | []=>[]
 | [a]=>vA qa qb m a
 | a :: b :: r=>vA qa qb m a++flA qa qb m (b :: r)
theorem Yb (qa qb m:List UInt8):∀ l:List Atm,flA qa qb m l=l.flatMap (vA qa qb m)
 | []=>rfl
 | [a]=>by simp[flA]
 | a :: b :: r=>by rw[flA,Yb qa qb m (b :: r)];rfl
def zcv (k:Int):List Atm:=List.intercalate [.inr 32] ((XS 32 (qn k)).map zo2)
def znL (k:Int) (qa qb m:List UInt8):List UInt8:=flA qa qb m (zcv k)
theorem ze2 (qa qb m l:List UInt8):flA qa qb m (l.map .inr)=l:=by
 rw[Yb]
 induction l with
 | nil=>rfl
 | cons b r ih=>exact congrArg (b :: ·) ih
theorem kX (qa qb m:List UInt8) (a:Atm) (l:List Atm):flA qa qb m (a :: l)=vA qa qb m a++flA qa qb m l:=by rw[Yb,Yb];rfl
theorem zgk (w qa qb m:List UInt8):Qm w qa qb m=flA qa qb m (zo2 w):=by
 have h:=fun l=>ze2 qa qb m l
 unfold Qm zo2
 split
 ·rw[kX,h];rfl
 ·split
  ·rw[kX,h];rfl
  ·split
   ·rw[kX,h];rfl
   ·rw[h]
theorem zb5 (qa qb m:List UInt8) (a b:List Atm):flA qa qb m (a++b)=flA qa qb m a++flA qa qb m b:=by rw[Yb,Yb,Yb];exact List.flatMap_append
theorem ye (qa qb m:List UInt8):∀ ws:List (List Atm),flA qa qb m (List.intercalate [.inr 32] ws)=List.intercalate [32] (ws.map (flA qa qb m))
 | []=>rfl
 | [w]=>by simp[List.intercalate,List.intersperse]
 | w :: v :: r=>by
  have ih:=ye qa qb m (v :: r)
  have e1:List.intercalate [(.inr 32:Atm)] (w :: v :: r)=w++([.inr 32]++List.intercalate [.inr 32] (v :: r)):=by simp[List.intercalate,List.intersperse]
  have e2:List.intercalate [(32:UInt8)] ((w :: v :: r).map (flA qa qb m))=flA qa qb m w++([32]++List.intercalate [32] ((v :: r).map (flA qa qb m))):=by simp[List.intercalate,List.intersperse]
  rw[e1,e2,zb5,zb5,ih]
  rfl
theorem zg1 (k:Int) (qa qb m:List UInt8):Lib.join ((XS 32 (qn k)).map fun w=>Qm w qa qb m) [32]=znL k qa qb m:=by
 unfold znL zcv
 rw[ye,List.map_map]
 show List.intercalate [32] _=_
 congr 1
 exact List.map_congr_left fun w _=>zgk w qa qb m
theorem MN (k:Int) (h:¬(1<=k/\k<=22)):qn k = []:=by
 have n1:¬k=1:=by omega
 have n2:¬k=2:=by omega
 have n3:¬k=3:=by omega
 have n4:¬k=4:=by omega
 have n5:¬k=5:=by omega
 have n6:¬k=6:=by omega
 have n7:¬k=7:=by omega
 have n8:¬k=8:=by omega
 have n9:¬k=9:=by omega
 have n10:¬k=10:=by omega
 have n11:¬k=11:=by omega
 have n12:¬k=12:=by omega
 have n13:¬k=13:=by omega
 have n14:¬k=14:=by omega
 have n15:¬k=15:=by omega
 have n16:¬k=16:=by omega
 have n17:¬k=17:=by omega
 have n18:¬k=18:=by omega
 have n19:¬k=19:=by omega
 have n20:¬k=20:=by omega
 have n21:¬k=21:=by omega
 have n22:¬k=22:=by omega
 simp only[qn,n1,n2,n3,n4,n5,n6,n7,n8,n9,n10,n11,n12,n13,n14,n15,n16,n17,n18,n19,n20,n21,n22,if_false]
theorem Gn (k:Int):qn k = []∨((∀ x∈XS 32 (qn k),x≠[]/\x.length<=100)/\(qn k).length<=100):=by
 by_cases h:1<=k/\k<=22
 ·refine .inr ?_
  have hc:k=1∨k=2∨k=3∨k=4∨k=5∨k=6∨k=7∨k=8∨k=9∨k=10∨k=11∨k=12∨k=13∨k=14∨k=15∨k=16∨k=17∨k=18∨k=19∨k=20∨k=21∨k=22:=by omega
  clear h
  rcases hc with rfl | rfl | rfl | rfl | rfl | rfl | rfl | rfl | rfl | rfl | rfl | rfl | rfl | rfl | rfl | rfl | rfl | rfl | rfl | rfl | rfl | rfl<;>exact ⟨by decide +kernel,by decide +kernel⟩
 ·exact .inl (MN k h)
theorem NO (f:List UInt8->List UInt8) (n:Nat):∀ xs:List (List UInt8),(∀ x∈xs,(f x).length<=n)->((xs.map f).map fun x=>x.length+1).sum<=xs.length*(n+1)
 | [],_=>by simp
 | x :: r,h=>by
  have ih:=NO f n r fun y hy=>h y (List.mem_cons_of_mem _ hy)
  have:=h x List.mem_cons_self
  simp only[List.map_cons,List.sum_cons,List.length_cons,Nat.add_mul]
  omega
theorem ut (xs:List (List UInt8)) (sep:List UInt8) (n:Nat) (hs:sep.length<=1) (h:(xs.map fun x=>x.length+1).sum<=n):(Lib.join xs sep).length<=n:=by
 have key:∀ xs:List (List UInt8),(Lib.join xs sep).length<=(xs.map fun x=>x.length+1).sum:=by
  intro xs
  match xs with
  | []=>simp[Lib.join]
  | [x]=>simp[Lib.join_one]
  | x :: y :: r =>
   have ih:∀ (zs:List (List UInt8)) (z:List UInt8),(Lib.join (z :: zs) sep).length<=((z :: zs).map fun x=>x.length+1).sum:=by
    intro zs
    induction zs with
    | nil=>intro z;simp[Lib.join_one]
    | cons u t iht =>
     intro z
     rw[JV]
     have:=iht u
     simp only[List.length_append,List.map_cons,List.sum_cons]at this ⊢
     omega
   exact ih (y :: r) x
 exact Nat.le_trans (key xs) h
def XM (k w:Int) (a b:List UInt8) (e:Int):List UInt8:=
 if jS k = [] then [] else if qn w = [] then [] else jS k++[58,32]++znL w (zV a) (zV b) (xf e)
theorem zaI (k:Int):(jS k).length<=10:=by
 have key:∀ (c:Prop) [Decidable c] (x y:List UInt8),x.length<=10->y.length<=10->(if c then x else y).length<=10:=fun c _ x y hx hy=>by
  by_cases h:c
  ·rw[if_pos h];exact hx
  ·rw[if_neg h];exact hy
 unfold jS
 repeat' (first | decide | refine key _ _ _ (by decide) ?_)
theorem zgO (k w:Int) (a b:List UInt8) (e:Int) (ha:a.length<=1000) (hb:b.length<=1000):Fun Tryz.prog G2 76 [.sc (.int .i64 k),.sc (.int .i64 w),.str a,.str b,.sc (.int .i64 e)] (.str (XM k w a b e)) 0:=by
 have h1:=GC k
 have h2:=uF w
 have hnl:=zaI k
 by_cases hn:jS k = []
 ·rw[hn]at h1
  refine fon Tryz.func76 ?_;dsimp only[Tryz.f76]
  push_cast -dsimp
  refine cl (h1) ?_;push_cast -dsimp
  refine cl (h2) ?_;push_cast -dsimp
  exact ⟨[],rfl,rfl,by push_cast -dsimp [zb,za,CLe,ze]<;>simp[XM,hn]⟩
 by_cases hp:qn w = []
 ·rw[hp]at h2
  refine fon Tryz.func76 ?_;dsimp only[Tryz.f76]
  push_cast -dsimp
  refine cl (h1) ?_;push_cast -dsimp
  refine cl (h2) ?_;push_cast -dsimp [hn]
  exact ⟨[],rfl,rfl,by push_cast -dsimp [zb,za,CLe,ze]<;>simp[XM,hn,hp]⟩
 obtain ⟨hws,hpl⟩:(∀ x∈XS 32 (qn w),x≠[]/\x.length<=100)/\(qn w).length<=100:=(Gn w).resolve_left hp
 have hpw:=hp
 have hsay:=zg1 w (zV a) (zV b) (xf e)
 have hsl:=xy 32 (qn w)
 have hsum:=NO (fun x=>Qm x (zV a) (zV b) (xf e)) 5100 (XS 32 (qn w)) fun x hx=>by
  have:=zcb x a b e ha hb
  have:=(hws x hx).2
  omega
 have hjl:=ut ((XS 32 (qn w)).map fun x=>Qm x (zV a) (zV b) (xf e)) [32] 600000 (by decide) (by
  have:(XS 32 (qn w)).length*(5100+1)<=101*5101:=Nat.mul_le_mul_right _ (by omega)
  omega)
 have hit:=Nd 32 (qn w) (by omega)
 generalize qn w=P at h2 hp hws hpl hsay hsl hsum hjl hit
 rw[hsay]at hjl
 refine fof (fun i=>if i=7 then [false,false,false,false,false,false,false,true,true] else []) Tryz.func76 ?_;dsimp only[Tryz.f76]
 push_cast -dsimp
 refine cl (h1) ?_;push_cast -dsimp
 refine cl (h2) ?_;push_cast -dsimp [hn,hp]
 refine zgK [] [] ((U0 32 P).glob0) rfl (by simp) (by simp) (fun i hi=>by cases hi) (by push_cast -dsimp) rfl ?_
 push_cast -dsimp
 refine range (zC (XS 32 P)) (fun _=>false) 4 (fun j=>⟨[],[[.str a],[.str b],[.sc (.int .i64 e)],[.own 0 9 1 (zC (((XS 32 P).take j).map fun x=>Qm x (zV a) (zV b) (xf e)))]],1,0⟩) hit.glob0 (by push_cast -dsimp) (by push_cast -dsimp) (by push_cast -dsimp) (Nat.zero_le _) (by push_cast -dsimp) (fun it h=>?_) (fun j _=>rfl) ?_ (fun j it hj hsf=>?_) (fun hsf=>?_)
 ·obtain ⟨x,_,rfl⟩:=List.mem_map.1 h;rfl
 ·exact wks [.inr (9,1)]
 ·obtain ⟨x,hx,rfl⟩:=ZI hj
  have hjl2:j<(XS 32 P).length:=(List.getElem?_eq_some_iff.1 hx).1
  have hxw:=hws x (List.mem_of_getElem? hx)
  have hs1:=zge x a b e hxw.1 (by omega) ha hb
  push_cast -dsimp
  refine cl (hs1) ?_;push_cast -dsimp
  repeat refine an ?_
  refine jW.mk [.inl 0] rfl rfl (Nat.le_refl _) rfl (by push_cast -dsimp [zb,za,CLe,ze]) ?_
  push_cast -dsimp [zb,za,CLe,ze]
  rw[List.take_add_one,hx]
  simp
 ·have htk:(XS 32 P).take (XS 32 P).length=XS 32 P:=List.take_length
  have j1:=((ZJ ((XS 32 P).map fun x=>Qm x (zV a) (zV b) (xf e)) [32] (by rw[List.length_map];omega) (by rw[hsay];omega)).res (congrArg C.str hsay)).glob0 (G':=G2)
  have j2:=((zg5 [jS k,znL w (zV a) (zV b) (xf e)] (by simp) (by rw[JV,Lib.join_one];simp only[List.length_append,List.length_cons,List.length_nil];omega)).res (congrArg C.str (show _=XM k w a b e by rw[JV,Lib.join_one,XM,if_neg hn,if_neg hpw]))).glob0 (G':=G2)
  push_cast -dsimp [htk]
  refine cl (j1) ?_;push_cast -dsimp
  refine cl (j2) ?_;push_cast -dsimp
  exact dn
end
section
open CA CB
open Go.RowKit QuotePlain
end
section
open CA CB
open Go.RowKit
def GD:zj:=fun g=>if g=2 then G1 g else G2 g
theorem zpS (g:Nat) (cs:List C) (h:G1 g=some cs):GD g=some cs:=by
 unfold GD
 by_cases hg:g=2
 ·rw[if_pos hg];exact h
 ·unfold G1 at h
  rw[if_neg hg]at h
  cases h
theorem zp7 (g:Nat) (cs:List C) (h:G2 g=some cs):GD g=some cs:=by
 unfold GD
 by_cases hg:g=2
 ·subst hg
  have q:G2 2=none:=rfl
  rw[q]at h;cases h
 ·rw[if_neg hg];exact h
theorem Fun.gd1 {f:FuncId} {args:List C} {r:C} {n:Nat} (h:Fun Tryz.prog G1 f args r n):Fun Tryz.prog GD f args r n:=h.glob zpS
theorem Fun.gd2 {f:FuncId} {args:List C} {r:C} {n:Nat} (h:Fun Tryz.prog G2 f args r n):Fun Tryz.prog GD f args r n:=h.glob zp7
abbrev zpl (d:zt) (ops diags:C):C:=.agg [.sc (.int .i64 d.w.fs.maxI),.sc (.int .i64 d.w.fs.maxB),.sc (.int .i64 d.w.fs.next),.sl 6 (zE d.w.fs.xs),.sl 4 (Jf d.w.kept),.sl 6 (zE d.w.pool),ops,diags,.sc (.int .i64 d.status),.sc (.int .i64 d.slot)]
structure zaZ (d:zt):Prop where
 wi:xd d.w
 ws:zmw d.w
 ops:d.ops.length<=80000
 diags:d.diags.length<=80000
 slot:0<=d.slot/\d.slot<=4000000000000000000
abbrev Zq:List C:=[.any,.any,.any,.any,.any,.any,.any,.any,.any,.any]
def Ya (d:zt) (x:List UInt8):zt:={ d with diags:=d.diags++[x],status:=1 }
theorem ziB (d:zt) (hd:d.diags.length<=80000) (k w:Int) (a b:List UInt8) (e:Int) (ha:a.length<=1000) (hb:b.length<=1000) :
  YI Tryz.prog GD 36 [Zv d,.sc (.int .i64 k),.sc (.int .i64 w),.str a,.str b,.sc (.int .i64 e)] [] 0 (fun r bx n=>n=0/\∃ c B,zm0 1 c (zC (Ya d (XM k w a b e)).diags) B/\r=zpl (Ya d (XM k w a b e)) (.sl 5 (d.ops.map opL)) (.bs 2 0 1 (d.diags.length+1) c)/\bx = [Zq,Zq,B]):=by
 have ht:=(zgO k w a b e ha hb).gd2
 generalize XM k w a b e=x at ht ⊢
 have hsl:(zC d.diags).length=d.diags.length:=List.length_map ..
 have hc:=Nw (G:=GD) (zC d.diags) [[.str x]] (fun r hr=>by obtain ⟨x,_,rfl⟩:=List.mem_map.1 hr;rfl) (fun r hr=>by rw[List.mem_singleton.1 hr];rfl) (fun r hr=>by obtain ⟨x,_,rfl⟩:=List.mem_map.1 hr;rfl) (fun r hr=>by rw[List.mem_singleton.1 hr];rfl) (by omega) (by simp) (by simp)
 refine foX (fun i=>if i=1 then [false,false,false,false,false,false,false,false,false,false,false,true,false,false,true] else []) Tryz.func36 ?_;dsimp only[Tryz.f36]
 push_cast -dsimp
 refine cl (ht) ?_;push_cast -dsimp
 refine YF [] [] hc rfl (by decide) (by decide) (by simp) (by push_cast -dsimp) (by push_cast -dsimp) (fun r bx' m hp=>?_)
 obtain ⟨rfl,c,B,hB,rfl,rfl⟩:=hp
 have hre:∀ fp fo,C.reL fp fo B=B:=fun fp fo=>qu hB.stay
 push_cast -dsimp [hre]
 have hm:zC (Ya d x).diags=zC d.diags++[[.str x]]:=List.map_append
 exact ⟨_,[Zq,Zq,B],0,⟨⟨rfl,c,B,by rw[hm];exact hB,rfl,rfl⟩,Nat.zero_le _⟩,[],rfl,rfl,by (push_cast -dsimp [zb,za,CLe,ze];exact zS hB.stay),by push_cast -dsimp [zb,za,CLe,ze,Ya,List.length_append,hsl]⟩
theorem zcX (d:zt) (hd:d.diags.length<=80000) (k w:Int) (a b:List UInt8) (e:Int) (ha:a.length<=1000) (hb:b.length<=1000) :
  Fun Tryz.prog GD 36 [Zv d,.sc (.int .i64 k),.sc (.int .i64 w),.str a,.str b,.sc (.int .i64 e)] (zpl (Ya d (XM k w a b e)) (.sl 5 (d.ops.map opL)) (.own 0 9 1 (zC (Ya d (XM k w a b e)).diags))) 1:=
 (ziB d hd k w a b e ha hb).fun (by
  rintro r bx m ⟨rfl,c,B,hB,rfl,rfl⟩
  exact ⟨[(2,9,1,zC (Ya d (XM k w a b e)).diags,c)],[.inl 0],hB.ok rfl (by simp[Ya]) (fun r hr=>by obtain ⟨x,_,rfl⟩:=List.mem_map.1 hr;rfl),rfl,rfl,by push_cast -dsimp [zb,za,CLe,ze,List.length_map,List.length_append,Ya]⟩)
end
section
open CA CB
open Go.RowKit
end
section
open Go.RowKit
theorem Gc (a b:List OpV) (ha:a.length<=100000):Fun Tryz.prog G0 26 [.sl 5 (zeG a),.sl 5 (zeG b)] (qp (jV a b)) 0:=by
 by_cases hl:a.length=b.length
 ·refine fon Tryz.func26 ?_;dsimp only[Tryz.f26]
  push_cast -dsimp [hl]
  refine loop (fun k:Nat=>⟨[(0,.sl 5 (zeG a)),(1,.sl 5 (zeG b)),(5,.sc (.int .i64 k))],[],0,0⟩) (fun k=>k<=a.length/\∀ (j:Nat) (h:j<a.length) (h':j<b.length),j<k->zhM (a[j]'h) (b[j]'h')=true) (fun k=>a.length-k) 0 ⟨Nat.zero_le _,fun j _ _ hj=>by omega⟩ ?_ ?_
  ·exact wk (by push_cast -dsimp [zb,za,CLe,ze,hl])
  ·intro k hk
   have hk1:=hk.1
   have hk2:=hk.2
   by_cases h:k<a.length
   ·have hga:=zcN a k h
    have hgb:=zcN b k (by omega)
    have heq:zhM (a[k]'h) (b[k]'(by omega))=zhM (a[k]'h) (b[k]'(by omega)):=rfl
    simp only[opL]at hga hgb
    conv at heq=>lhs;unfold zhM
    cases he:zhM (a[k]'h) (b[k]'(by omega)) with
    | true =>
     rw[he]at heq
     push_cast -dsimp [h,hga,hgb,heq]
     repeat refine an ?_
     refine ⟨k+1,⟨by omega,fun j hj hj' hjk=>?_⟩,by omega,wk⟩
     rcases Nat.lt_or_ge j k with g | g
     ·exact hk2 j hj hj' g
     ·have:j=k:=by omega
      subst this;exact he
    | false =>
     rw[he]at heq
     push_cast -dsimp [h,hga,hgb,heq]
     repeat refine an ?_
     refine ⟨[],rfl,rfl,?_⟩
     push_cast -dsimp [zb,za,CLe,ze]
     have:¬jV a b=true:=fun e=>by
      have:=((Jm a b).1 e).2 k h (by omega)
      rw[he]at this;cases this
     simp[this]
   ·push_cast -dsimp [h]
    refine ⟨[],rfl,rfl,?_⟩
    push_cast -dsimp [zb,za,CLe,ze]
    have:jV a b=true:=(Jm a b).2 ⟨hl,fun j hj hj'=>hk2 j hj hj' (by omega)⟩
    simp[this]
 ·refine fon Tryz.func26 ?_;dsimp only[Tryz.f26]
  push_cast -dsimp [hl]
  refine ⟨[],rfl,rfl,?_⟩
  push_cast -dsimp [zb,za,CLe,ze]
  have:¬jV a b=true:=fun e=>hl ((Jm a b).1 e).1
  simp[this]
end
section
open CA CB
open Go.RowKit
theorem zjY (a b:jC):(decide (a.slot=b.slot)&&decide (a.ino=b.ino)&&a.content==b.content&&decide (a.data=b.data))=decide (a=b):=by
 obtain ⟨a1,a2,a3,a4⟩:=a
 obtain ⟨b1,b2,b3,b4⟩:=b
 rw[Bool.eq_iff_iff]
 simp[and_assoc]
theorem zbp (x y:zY) (hx:x.fs.xs.length<=100000) (hp:x.pool.length<=100000) (hk:x.kept.length<=100000) (he:∀ z∈x.fs.xs,z.es.length<=9223372036854775807) (hep:∀ z∈x.pool,z.es.length<=9223372036854775807):Fun Tryz.prog G0 19 [kG x,kG y] (qp (decide (x=y))) 0:=by
 obtain ⟨f,a,p⟩:=x
 obtain ⟨g,b,q⟩:=y
 have hk:a.length<=100000:=hk
 have hla:(Jf a).length=a.length:=List.length_map ..
 have hlb:(Jf b).length=b.length:=List.length_map ..
 have h1:=zdG (G:=G0) f g hx he
 have h2:=kF (G:=G0) p q hp hep
 have hw:(⟨f,a,p⟩:zY)=⟨g,b,q⟩↔f=g/\p=q/\a=b:=by simp only[zY.mk.injEq];exact ⟨fun h=>⟨h.1,h.2.2,h.2.1⟩,fun h=>⟨h.1,h.2.2,h.2.1⟩⟩
 by_cases c1:f=g
 case neg =>
  have hn:¬(⟨f,a,p⟩:zY)=⟨g,b,q⟩:=fun h=>c1 (hw.1 h).1
  rw[decide_eq_false c1]at h1
  refine fon Tryz.func19 ?_;dsimp only[Tryz.f19]
  push_cast -dsimp
  refine cl (h1) ?_;push_cast -dsimp
  exact dn (by push_cast -dsimp [zb,za,CLe,ze,hn])
 rw[decide_eq_true c1]at h1
 by_cases c2:p=q
 case neg =>
  have hn:¬(⟨f,a,p⟩:zY)=⟨g,b,q⟩:=fun h=>c2 (hw.1 h).2.1
  rw[decide_eq_false c2]at h2
  refine fon Tryz.func19 ?_;dsimp only[Tryz.f19]
  push_cast -dsimp
  refine cl (h1) ?_;push_cast -dsimp
  refine cl (h2) ?_;push_cast -dsimp
  exact dn (by push_cast -dsimp [zb,za,CLe,ze,hn])
 rw[decide_eq_true c2]at h2
 by_cases c3:a.length=b.length
 case neg =>
  have hn:¬(⟨f,a,p⟩:zY)=⟨g,b,q⟩:=fun h=>c3 (by rw[(hw.1 h).2.2])
  have c3':((a.length:Int)=b.length)=False:=eq_false (by omega)
  refine fon Tryz.func19 ?_;dsimp only[Tryz.f19]
  push_cast -dsimp
  refine cl (h1) ?_;push_cast -dsimp
  refine cl (h2) ?_;push_cast -dsimp [hla,hlb,c3']
  exact dn (by push_cast -dsimp [zb,za,CLe,ze,hn])
 have c3':((a.length:Int)=b.length)=True:=eq_true (by omega)
 refine fon Tryz.func19 ?_;dsimp only[Tryz.f19]
 push_cast -dsimp
 refine cl (h1) ?_;push_cast -dsimp
 refine cl (h2) ?_;push_cast -dsimp [hla,hlb,c3']
 refine loop (fun i:Nat=>⟨[(2,.ptr 0 0),(3,.ptr 1 0),(5,.sc (.int .i64 i))],[NS ⟨f,a,p⟩,NS ⟨g,b,q⟩],0,0⟩) (fun i=>i<=a.length/\a.take i=b.take i) (fun i=>a.length-i) 0 ⟨Nat.zero_le _,rfl⟩ ?_ ?_
 ·exact wk
 rintro i ⟨i1,i2⟩
 by_cases h:i<a.length
 ·have hb:i<b.length:=by omega
  have g1:=j4 a i h
  have g2:=j4 b i hb
  have hd:=zjY a[i] b[i]
  by_cases hab:a[i]=b[i]
  ·rw[decide_eq_true hab]at hd
   push_cast -dsimp [hla,hlb,h,hb,g1,g2,hd]
   repeat refine an ?_
   repeat refine an ?_
   exact ⟨i+1,⟨h,(YU (by omega) hb i2).2 hab⟩,by omega,wk⟩
  ·rw[decide_eq_false hab]at hd
   have hn:¬(⟨f,a,p⟩:zY)=⟨g,b,q⟩:=fun h=>hab (by have:=(hw.1 h).2.2;subst this;rfl)
   push_cast -dsimp [hla,hlb,h,hb,g1,g2,hd]
   repeat refine an ?_
   exact dn (by push_cast -dsimp [zb,za,CLe,ze,hn])
 ·have hab:a=b:=by rw[←List.take_of_length_le (l:=a) (i:=i) (by omega),i2,List.take_of_length_le (by omega)]
  have hn:=hw.2 ⟨c1,c2,hab⟩
  push_cast -dsimp [hla,h]
  exact dn (by push_cast -dsimp [zb,za,CLe,ze,hn])
theorem Gh (w:zY) (hk:w.kept.length<=100000) (hs:YO w.kept):Fun Tryz.prog G0 12 [kG w] (Zv (vb w)) 0:=by
 have h:=VR (G:=G0) w hk hs.1 hs.2
 refine fof (fun i=>if i=1 then [false,false,false,false,true] else []) Tryz.func12 ?_;dsimp only[Tryz.f12]
 push_cast -dsimp
 refine cl (h) ?_;push_cast -dsimp
 exact dn (by push_cast -dsimp [zb,za,CLe,ze,vb])
end
section
open Go.RowKit
structure zqk where
 path:List UInt8
 ino:Int
deriving DecidableEq,Inhabited
def VS (p n:List UInt8):List UInt8:=if p = [47] then p++n else p++[47]++n
theorem zc0 (p n:List UInt8):(VS p n).length<=p.length+1+n.length:=by
 unfold VS
 split<;>simp<;>omega
section
variable {G:zj}
end
end
section
open CA CB
open Go.RowKit
def zk5 (xs:List zn):Prop:=xs.length<=3240/\∀ x∈xs,x.data.length<=5000/\x.es.length<=3240/\∀ e∈x.es,e.name.length<=300
abbrev jN:=List (List (List UInt8)×zn)
structure yp (f:FsV) (tr:Int->List (List UInt8)->jN):Prop where
 has:∀ n ns,zw n f.xs=true->tr n ns=(ns,zf n f.xs) :: (zf n f.xs).es.flatMap fun e=>tr e.ino (ns++[e.name])
 not:∀ n ns,zw n f.xs=false->tr n ns = []
abbrev Z0 (p:List (List UInt8)×zn):List C:=[.str (ql p.1),.agg (J2 p.2)]
def v7 (tr:Int->List (List UInt8)->jN) (ns:List (List UInt8)) (es:List zH):jN:=es.flatMap fun e=>tr e.ino (ns++[e.name])
def Y4 (tr:Int->List (List UInt8)->jN) (S:List (List (List UInt8)×List zH)):jN:=S.flatMap fun p=>v7 tr p.1 p.2
abbrev lvC (p:List (List UInt8)×List zH):List C:=[.sl 1 (zC p.1),.sl 2 (zK p.2)]
def V6 (S:List (List (List UInt8)×List zH)):List C:=(S.reverse.map lvC).flatten
theorem zj6 (S:List (List (List UInt8)×List zH)):(V6 S).length=S.length*2:=by
 unfold V6
 rw[qg (k:=2) fun r hr=>by obtain ⟨p,_,rfl⟩:=List.mem_map.1 hr;rfl]
 simp
theorem yg (p:List (List UInt8)×List zH) (S:List (List (List UInt8)×List zH)):V6 (p :: S)=V6 S++lvC p:=by
 unfold V6;simp
def QK (p:List (List UInt8)×zn):Prop:=p.1.length<=1000000/\(Lib.join p.1 [47]).length<=1000000
structure JN (f:FsV) (tr:Int->List (List UInt8)->jN) (IT:List (List C)) (sf:Nat->Bool) (S:List (List (List UInt8)×List zH)) (k cap:Nat):Prop where
 rest:IT.drop k=(Y4 tr S).map Z0
 bound:∀ p∈Y4 tr S,QK p
 le:k<=IT.length
 go:∀ j,j<k->sf j=false
 pos:S.length<=k
 room:S.length<=cap
 roomM:cap<=9223372036854775807
 has:∀ p∈S,p.2.length<=3240/\∀ e∈p.2,zw e.ino f.xs=true
theorem Qk (S:List (List (List UInt8)×List zH)):((V6 S).all C.stayB)=true:=Xm fun r hr=>by
 obtain ⟨p,_,rfl⟩:=List.mem_map.1 hr;rfl
theorem JN.pop {f:FsV} {tr:Int->List (List UInt8)->jN} {IT:List (List C)} {sf:Nat->Bool} {S:List (List (List UInt8)×List zH)} {ns:List (List UInt8)} {k cap:Nat} (h:JN f tr IT sf ((ns,[]) :: S) k cap):JN f tr IT sf S k cap:=by
 have e:Y4 tr ((ns,[]) :: S)=Y4 tr S:=by simp[Y4,v7]
 exact ⟨by rw[←e];exact h.rest,fun p hp=>h.bound p (by rw[e];exact hp),h.le,h.go,by have:=h.pos;rw[List.length_cons]at this;omega,by have:=h.room;rw[List.length_cons]at this;omega,h.roomM,fun p hp=>h.has p (List.mem_cons_of_mem _ hp)⟩
theorem JN.next {f:FsV} {tr:Int->List (List UInt8)->jN} {IT:List (List C)} {sf:Nat->Bool} {S:List (List (List UInt8)×List zH)} {ns:List (List UInt8)} {e:zH} {r:List zH} {k cap:Nat} (h:JN f tr IT sf ((ns,e :: r) :: S) k cap) (ht:yp f tr) (hf:zk5 f.xs) (h3:JA f) :
  ∃ y,y=zf e.ino f.xs/\y∈f.xs/\IT[k]?=some (Z0 (ns++[e.name],y))/\QK (ns++[e.name],y)/\(sf k=false->(∀ c,S.length+2<=c->c<=9223372036854775807->JN f tr IT sf ((ns++[e.name],y.es) :: (ns,r) :: S) (k+1) c)/\(y.es = []->JN f tr IT sf ((ns,r) :: S) (k+1) cap)):=by
 have hh:zw e.ino f.xs=true:=(h.has (ns,e :: r) List.mem_cons_self).2 e List.mem_cons_self
 obtain ⟨hm,hi⟩:=qE hh
 have hu:=ht.has e.ino (ns++[e.name]) hh
 have hrest:Y4 tr ((ns,e :: r) :: S)=(ns++[e.name],zf e.ino f.xs) :: Y4 tr ((ns++[e.name],(zf e.ino f.xs).es) :: (ns,r) :: S):=by
  simp only[Y4,v7,List.flatMap_cons,hu,List.cons_append,List.append_assoc]
 refine ⟨_,rfl,hm,?_,h.bound _ (by rw[hrest];exact List.mem_cons_self),fun hs=>?_⟩
 ·have:=h.rest
  rw[hrest]at this
  have:=congrArg (·[0]?) this
  simpa using this
 ·have hd:IT.drop (k+1)=(Y4 tr ((ns++[e.name],(zf e.ino f.xs).es) :: (ns,r) :: S)).map Z0:=by
   rw[←List.drop_drop,h.rest,hrest];rfl
  have hb:∀ p∈Y4 tr ((ns++[e.name],(zf e.ino f.xs).es) :: (ns,r) :: S),QK p:=fun p hp=>h.bound p (by rw[hrest];exact List.mem_cons_of_mem _ hp)
  have hkl:k+1<=IT.length:=by
   rcases Nat.lt_or_ge k IT.length with g | g
   ·exact g
   ·have:=h.rest
    rw[List.drop_eq_nil_of_le g,hrest]at this;cases this
  have hgo:∀ j,j<k+1->sf j=false:=fun j hj=>by
   rcases Nat.lt_or_ge j k with g | g
   ·exact h.go j g
   ·rw[show j=k by omega];exact hs
  have hp:=h.pos
  have hro:=h.room
  have hrm:=h.roomM
  rw[List.length_cons]at hp hro
  have h0:=h.has (ns,e :: r) List.mem_cons_self
  have hr0:r.length<=3240/\∀ e'∈r,zw e'.ino f.xs=true:=⟨by have:=h0.1;simp at this;omega,fun e' he=>h0.2 e' (List.mem_cons_of_mem _ he)⟩
  refine ⟨fun c h1 h2=>⟨hd,hb,hkl,hgo,by simp;omega,by simp;omega,h2,fun p hp=>?_⟩,fun hne=>?_⟩
  ·rcases List.mem_cons.1 hp with rfl | hp
   ·exact ⟨(hf.2 _ hm).2.1,fun e' he=>h3 _ hm e' he⟩
   ·rcases List.mem_cons.1 hp with rfl | hp
    ·exact hr0
    ·exact h.has p (List.mem_cons_of_mem _ hp)
  ·have hz:Y4 tr ((ns++[e.name],(zf e.ino f.xs).es) :: (ns,r) :: S)=Y4 tr ((ns,r) :: S):=by rw[hne];simp[Y4,v7]
   rw[hz]at hd hb
   exact ⟨hd,hb,hkl,hgo,by simp;omega,by simp;omega,hrm,fun p hp=>by
    rcases List.mem_cons.1 hp with rfl | hp
    ·exact hr0
    ·exact h.has p (List.mem_cons_of_mem _ hp)⟩
theorem uq (f:FsV) (ino:Int) (ns:List (List UInt8)) (tr:Int->List (List UInt8)->jN) (ht:yp f tr) (hf:zk5 f.xs) (hR:zW f.xs) (h3:JA f) (h2:∀ x∈f.xs,x.kind≠2->x.es = []) (hl:(tr ino ns).length<=100000000) (hb:∀ p∈tr ino ns,QK p) :
  HK Tryz.prog G0 222 [] [.row (fsC f),.row [.sc (.int .i64 ino)],.row [.sl 1 (zC ns)]] [] ((tr ino ns).map Z0):=by
 have h40:=hf.1
 refine foI (fun i=>if i=1000000+252 then [true] else if i=1 then [false,false,false,false,false,false,false,true] else if i=10 then [false,false,false,false,true] else []) Tryz.func222 ?_;dsimp only[Tryz.f222]
 intro l sf
 push_cast -dsimp
 refine cl (Ym f ino (by omega) hR) ?_;push_cast -dsimp
 cases hh:zw ino f.xs with
 | false =>
  have hn:=ht.not ino ns hh
  push_cast -dsimp
  rw[hn]
  exact .inl ⟨rfl,fun j hj=>absurd hj (Nat.not_lt_zero _)⟩
 | true =>
  have hn:=ht.has ino ns hh
  have q:QK (ns,zf ino f.xs):=hb _ (by rw[hn];exact List.mem_cons_self)
  have h0:((tr ino ns).map Z0)[0]?=some (Z0 (ns,zf ino f.xs)):=by rw[hn];rfl
  obtain ⟨hm,hino⟩:=qE hh
  generalize zf ino f.xs=x at hn h0 hm hino
  have hITl:((tr ino ns).map Z0).length<=100000000:=by rw[List.length_map];exact hl
  generalize hIT:(tr ino ns).map Z0=IT at h0 hITl
  push_cast -dsimp
  refine cl (Y6 ns (by have:=q.1;dsimp only at this;omega) (by have:=q.2;dsimp only at this;omega)) ?_;push_cast -dsimp [h0]
  refine ⟨by push_cast -dsimp [zb,za,CLe,ze],fun j hj=>absurd hj (Nat.not_lt_zero _),br (fun hs=>?_) (fun hs=>?_)⟩
  ·push_cast -dsimp
   exact .inr ⟨Nat.succ_pos _,hs⟩
  ·push_cast -dsimp
   refine loop (fun p:List (List (List UInt8)×List zH)×Nat×Nat=>⟨[(0,.sc (.func (.yield l) #[] #[])),(1,.row (fsC f)),(7,.bs 1 0 2 p.1.length p.2.2)],[[.any,.any,.any,.any,.any,.any],V6 p.1++List.replicate ((p.2.2-p.1.length)*2) .any],0,p.2.1⟩) (fun p=>JN f tr IT sf p.1 p.2.1 p.2.2) (fun p=>2*(IT.length-p.2.1)+p.1.length) ([(ns,x.es)],1,1) ?_ ?_ ?_
   ·have hdr:IT.drop 1=(Y4 tr [(ns,x.es)]).map Z0:=by
     rw[←hIT,hn]
     simp[Y4,v7]
    show JN f tr IT sf [(ns,x.es)] 1 1
    exact ⟨hdr,fun p hp=>hb p (by rw[hn];exact List.mem_cons_of_mem _ (by simpa [Y4,v7] using hp)),by have:=(List.getElem?_eq_some_iff.1 h0).1;omega,fun j hj=>by rw[show j=0 by omega];exact hs,Nat.le_refl _,Nat.le_refl _,by omega,fun p hp=>by
     rw[List.mem_singleton]at hp;subst hp
     exact ⟨(hf.2 x hm).2.1,fun e he=>h3 x hm e he⟩⟩
   ·have hl1:V6 [(ns,x.es)] = [.sl 1 (zC ns),.sl 2 (zK x.es)]:=rfl
    exact wk (h5:=by push_cast -dsimp [zb,za,CLe,ze,hl1])
   ·rintro ⟨S,k,cap⟩ hS
    dsimp only at hS ⊢
    cases S with
    | nil =>
     push_cast -dsimp
     have hr:=hS.rest
     have he:IT.length<=k:=by
      rcases Nat.lt_or_ge k IT.length with g | g
      ·have:=congrArg List.length hr
       simp[Y4]at this;omega
      ·exact g
     exact .inl ⟨by have:=hS.le;omega,hS.go⟩
    | cons p S' =>
     obtain ⟨ns1,es1⟩:=p
     have hL:=zj6 S'
     have hd0:∀ X,(V6 S'++X).drop (S'.length*2)=X:=fun X=>List.drop_left' hL
     have hd1:∀ X,(V6 S'++X).drop (S'.length*2+1)=X.drop 1:=fun X=>by rw[←List.drop_drop,hd0]
     have hd2:∀ X,(V6 S'++X).drop (S'.length*2+2)=X.drop 2:=fun X=>by rw[←List.drop_drop,hd0]
     have ht0:∀ X,(V6 S'++X).take (S'.length*2)=V6 S':=fun X=>List.take_left' hL
     have ht1:∀ X,(V6 S'++X).take (S'.length*2+1)=V6 S'++X.take 1:=fun X=>by
      rw[List.take_append,List.take_of_length_le (by omega),hL];congr 2;omega
     have hpos:((0:Int)<(S'.length:Int)+1)=True:=eq_true (by omega)
     have hroom:=hS.room
     have hroomM:=hS.roomM
     rw[List.length_cons]at hroom
     have hlc:(((S'.length:Int)+1-1)=(S'.length:Int)):=by omega
     push_cast -dsimp [yg,hlc,hpos]
     repeat refine an ?_
     generalize hpad:List.replicate ((cap-(S'.length+1))*2) C.any=pad
     have hps:(pad.all C.stayB)=true:=by rw[←hpad];simp[List.all_replicate,C.stayB]
     have hst1:((V6 S'++(lvC (ns1,es1)++pad)).all C.stayB)=true:=by rw[List.all_append,Qk,List.all_append,hps];rfl
     have hpl:pad.length=(cap-(S'.length+1))*2:=by rw[←hpad];simp
     refine loop (fun p:List zH×Nat=>⟨[(0,.sc (.func (.yield l) #[] #[])),(1,.row (fsC f)),(7,.bs 1 0 2 (S'.length+1) cap),(8,.ptr 1 (S'.length*2))],[[.any,.any,.any,.any,.any,.any],V6 S'++([.sl 1 (zC ns1),.sl 2 (zK p.1)]++pad)],0,p.2⟩) (fun p=>JN f tr IT sf ((ns1,p.1) :: S') p.2 cap/\2*(IT.length-p.2)<=2*(IT.length-k)) (fun p=>p.1.length) (es1,k) ⟨hS,Nat.le_refl _⟩ ?_ ?_
     ·exact jW.mk [] rfl rfl (Nat.zero_le _) rfl (by push_cast -dsimp [zb,za,CLe,ze]) (by push_cast -dsimp [zb,za,CLe,ze,List.append_assoc];exact zS hst1)
     ·rintro ⟨es,k1⟩ ⟨hT,hkk⟩
      dsimp only at hT hkk ⊢
      cases es with
      | nil =>
       push_cast -dsimp [hd0,hd1,hd2,ht0,ht1,hlc]
       refine ⟨by omega,by omega,⟨by omega,by omega⟩,(S',k1,cap),hT.pop,by dsimp only;omega,jW.mk [] rfl rfl (Nat.zero_le _) rfl (by push_cast -dsimp [zb,za,CLe,ze]) ?_⟩
       push_cast -dsimp [zb,za,CLe,ze]
       exact zd0 (zS (Qk S')) (XI (by simp[hpl];omega))
      | cons e r =>
       obtain ⟨y,hy,hym,hk1,hbd,hnext⟩:=hT.next ht hf h3
       have hrl:((0:Int)<(r.length:Int)+1)=True:=eq_true (by omega)
       have hlr:(zK r).length=r.length:=List.length_map ..
       have hhe:zw e.ino f.xs=true:=(hT.has (ns1,e :: r) List.mem_cons_self).2 e List.mem_cons_self
       have hgy:zf e.ino f.xs=y:=hy.symm
       have hb1:ns1.length+1<=1000000:=by have:=hbd.1;simpa using this
       have hb2:(Lib.join (ns1++[e.name]) [47]).length<=1000000:=hbd.2
       have hst2:(zC ns1).length=ns1.length:=List.length_map ..
       push_cast -dsimp [hd0,hd1,hd2,ht0,ht1,hlc,hlr,hrl,hst2,List.append_assoc,List.take_length]
       repeat refine an ?_
       refine cl (Ym f e.ino (by omega) hR) ?_;push_cast -dsimp [hgy,hhe]
       refine cl (Y6 (ns1++[e.name]) (by simp;omega) (by omega)) ?_;push_cast -dsimp [hk1]
       refine ⟨by push_cast -dsimp [zb,za,CLe,ze],hT.go,br (fun hs1=>?_) (fun hs1=>?_)⟩
       ·push_cast -dsimp
        exact .inr ⟨Nat.succ_pos _,hs1⟩
       ·obtain ⟨w1,w2⟩:=hnext hs1
        by_cases k2:y.kind=2
        ·have hSk:=hT.pos
         have hkl:=hT.le
         rw[List.length_cons]at hSk
         have hc1:(V6 S'++C.sl 1 (zC ns1) :: C.sl 2 (List.map Hl r) :: pad).length=cap*2:=by
          rw[List.length_append,hL,List.length_cons,List.length_cons,hpl];omega
         have hc2:(V6 S'++C.sl 1 (zC ns1) :: C.sl 2 (List.map Hl r) :: pad).take ((S'.length+1)*2)=V6 S'++[C.sl 1 (zC ns1),C.sl 2 (List.map Hl r)]:=by
          rw[List.take_append,List.take_of_length_le (by omega),hL,show (S'.length+1)*2-S'.length*2=2 by omega];rfl
         push_cast -dsimp [k2]
         refine zoL (V6 S'++[C.sl 1 (zC ns1),C.sl 2 (List.map Hl r)]++[C.sl 1 (zC (ns1++[e.name])),C.sl 2 (zK y.es)]) rfl rfl (by decide) rfl (by decide) (Nat.zero_le _) hc1 hroom hroomM (by omega) (by omega) (by rw[hc2];exact qu (by rw[List.all_append,List.all_append,Qk];rfl)) (fun c' g1 g2=>?_)
         have hw:=w1 c' (by omega) g2
         have hwl:=hw.le
         push_cast -dsimp [k2]
         refine ⟨((ns1++[e.name],y.es) :: (ns1,r) :: S',k1+1,c'),hw,by simp only[List.length_cons];omega,jW.mk [] rfl rfl (Nat.zero_le _) rfl (by push_cast -dsimp [zb,za,CLe,ze]) ?_⟩
         push_cast -dsimp [zb,za,CLe,ze,yg,List.append_assoc]
         exact zS (by rw[List.all_append,Qk];simp[List.all_replicate,C.stayB])
        ·push_cast -dsimp [k2]
         have hz:=w2 (h2 y hym k2)
         have hle:=hz.le
         refine ⟨(r,k1+1),⟨hz,by dsimp only;omega⟩,by dsimp only;simp,jW.mk [] rfl rfl (Nat.zero_le _) rfl (by push_cast -dsimp [zb,za,CLe,ze]) ?_⟩
         push_cast -dsimp [zb,za,CLe,ze,List.append_assoc]
         exact zS (by rw[List.all_append,Qk,List.all_cons,List.all_cons,hps];rfl)
end
section
open CA CB
open Go.RowKit
structure zbd (f:FsV) (tr:Int->List (List UInt8)->jN):Prop where
 tree:yp f tr
 few:zk5 f.xs
 rise:zW f.xs
 third:JA f
 leaf:∀ x∈f.xs,x.kind≠2->x.es = []
structure M1 (tr:Int->List (List UInt8)->jN) (ino:Int) (ns:List (List UInt8)):Prop where
 len:(tr ino ns).length<=100000000
 bound:∀ p∈tr ino ns,QK p
abbrev zdL (l:jN):List (List C):=l.map Z0
theorem zfS {l:jN} {k:Nat} {it:List C} (h:(zdL l)[k]?=some it):∃ p,l[k]?=some p/\it=Z0 p:=by
 rw[List.getElem?_map]at h
 cases hq:l[k]? with
 | none=>rw[hq]at h;cases h
 | some x=>rw[hq]at h;cases h;exact ⟨x,rfl,rfl⟩
theorem zi9 {f:FsV} {tr:Int->List (List UInt8)->jN} {ino:Int} {ns:List (List UInt8)} (hw:zbd f tr) (hs:M1 tr ino ns):HK Tryz.prog G0 222 [] [.row (fsC f),.row [.sc (.int .i64 ino)],.row [.sl 1 (zC ns)]] [] (zdL (tr ino ns)):=
 uq f ino ns tr hw.tree hw.few hw.rise hw.third hw.leaf hs.len hs.bound
theorem zf9 (f:FsV) (ino:Int) (ns:List (List UInt8)):Fun Tryz.prog G0 182 [.agg (fsC f),.sc (.int .i64 ino),.sl 1 (zC ns)] (.clo (.func 222) [] [.row (fsC f),.row [.sc (.int .i64 ino)],.row [.sl 1 (zC ns)]]) 0:=by
 refine fon Tryz.func182 ?_;dsimp only[Tryz.f182]
 push_cast -dsimp
 exact dn
theorem zku (f:FsV):Fun Tryz.prog G0 158 [.agg (fsC f)] (.clo (.func 222) [] [.row (fsC f),.row [.sc (.int .i64 1)],.row [.sl 1 (zC [])]]) 0:=by
 refine fon Tryz.func158 ?_;dsimp only[Tryz.f158]
 push_cast -dsimp
 refine call (Fun.less (zf9 f 1 []) (by push_cast -dsimp [zb,za,CLe,ze])) ?_
 push_cast -dsimp
 exact dn
def XK (n:Int) (l:jN):List (List UInt8):=(l.filter fun p=>decide (p.2.ino=n)).map fun p=>ql p.1
def VV (n:Int) (l:jN):Option (List UInt8):=(l.find? fun p=>decide (p.2.ino=n)&&decide (p.2.kind=2)).map fun p=>ql p.1
theorem MH (f:FsV) (n:Int) (tr:Int->List (List UInt8)->jN) (hw:zbd f tr) (hs:M1 tr 1 []) :
  Fun Tryz.prog G0 108 [.agg (fsC f),.sc (.int .i64 n)] (.tup [.str ((VV n (tr 1 [])).getD []),.sc (.bool (VV n (tr 1 [])).isSome)]) 0:=by
 refine fon Tryz.func108 ?_;dsimp only[Tryz.f108]
 push_cast -dsimp
 refine cl (zku f) ?_;push_cast -dsimp
 have hl:=hs.len
 have hit:=zi9 hw hs
 generalize tr 1 []=l at hit hl
 refine range (zdL l) (fun k=>match l[k]? with | some p=>decide (p.2.ino=n)&&decide (p.2.kind=2) | none=>false) 4 (fun k=>⟨[],[[.any,.any,.any,.any],[.sc (.int .i64 n)],[.any],[.any]],0,0⟩) hit (by push_cast -dsimp) (by push_cast -dsimp) (by push_cast -dsimp) (Nat.zero_le _) (by push_cast -dsimp) (fun it h=>?_) (fun k _=>rfl) ?_ (fun k it hk hsf=>?_) (fun hsf=>?_)
 ·obtain ⟨x,_,rfl⟩:=List.mem_map.1 h;rfl
 ·exact wk
 ·obtain ⟨x,hx2,rfl⟩:=zfS hk
  have hfirst:(decide (x.2.ino=n)&&decide (x.2.kind=2))=true->VV n l=some (ql x.1):=fun hb=>by
   obtain ⟨hkl,hxe⟩:=List.getElem?_eq_some_iff.1 hx2
   unfold VV
   rw[List.find?_eq_some_iff_getElem (b:=x) |>.2 ⟨hb,k,hkl,hxe,fun j hj=>?_⟩]
   ·rfl
   ·have:=hsf j hj
    rw[List.getElem?_eq_getElem (by omega)]at this
    simp only[this];rfl
  by_cases c1:x.2.ino=n
  ·by_cases c2:x.2.kind=2
   ·have hd:=hfirst (by simp[c1,c2])
    push_cast -dsimp [c1,c2]
    refine ⟨by rw[hx2];simp[c1,c2],⟨[],[[.any,.any,.any,.any],[.sc (.int .i64 n)],[.str (ql x.1)],[.sc (.bool true)]],0,0⟩,rfl,wk,?_⟩
    push_cast -dsimp [hd]
    exact dn (by push_cast -dsimp [zb,za,CLe,ze,hd,Option.getD_some,Option.isSome_some])
   ·push_cast -dsimp [c1,c2]
    refine ⟨by rw[hx2];simp[c2],wk⟩
  ·push_cast -dsimp [c1]
   refine ⟨by rw[hx2];simp[c1],wk⟩
 ·have hnone:VV n l=none:=by
   unfold VV
   rw[Option.map_eq_none_iff,List.find?_eq_none]
   intro x hx
   obtain ⟨k,hk,rfl⟩:=List.getElem_of_mem hx
   have:=hsf k (by simpa using hk)
   rw[List.getElem?_eq_getElem hk]at this
   simpa only[Bool.not_eq_true] using this
  push_cast -dsimp [hnone]
  exact dn (by push_cast -dsimp [zb,za,CLe,ze,Option.getD_none,Option.isSome_none])
end
section
inductive Dep (xs:List zn):Nat->Int->Prop
 | root:Dep xs 0 1
 | step {k:Nat} {n:Int} {e:zH}:Dep xs k n->zw n xs=true->e∈(zf n xs).es->Dep xs (k+1) e.ino
def okM (f:FsV):Prop:=zk5 f.xs/\jD f=0
theorem okV.m {f:FsV} (h:okV f):okM f:=⟨⟨by have:=h.1.1;omega,fun x hx=>by obtain ⟨a,b,c⟩:=h.1.2 x hx;exact ⟨a,by omega,c⟩⟩,h.2⟩
theorem qd {f:FsV} (h:okM f):zk5 f.xs/\jE f/\JK f/\JA f/\JO f/\Xu f/\V4 f:=by
 obtain ⟨h0,h⟩:=h
 unfold jD at h
 refine ⟨h0,?_⟩
 split at h
 ·split at h
  ·split at h
   ·split at h
    ·split at h
     ·split at h
      ·exact ⟨by assumption,by assumption,by assumption,by assumption,by assumption,by assumption⟩
      ·cases h
     ·cases h
    ·cases h
   ·cases h
  ·cases h
 ·cases h
theorem Hq {es:List zH}:∀ {S:List Int} {n:Int},n∈VZ S es↔n∈S∨∃ e∈es,e.ino=n:=by
 induction es with
 | nil=>intro S n;simp[VZ]
 | cons e r ih =>
  intro S n
  show n∈VZ (Jv S e.ino) r↔_
  rw[ih,Uk]
  constructor
  ·rintro ((h | h) | ⟨e',he,h⟩)
   ·exact .inl h
   ·exact .inr ⟨e,List.mem_cons_self,h.symm⟩
   ·exact .inr ⟨e',List.mem_cons_of_mem _ he,h⟩
  ·rintro (h | ⟨e',he,h⟩)
   ·exact .inl (.inl h)
   ·rcases List.mem_cons.1 he with rfl | he
    ·exact .inl (.inr h.symm)
    ·exact .inr ⟨e',he,h⟩
theorem Nb {xs:List zn} {es:List zH}:∀ {S:List Int},JE xs S->(∀ e∈es,zw e.ino xs=true)->JE xs (VZ S es):=by
 induction es with
 | nil=>intro S h _;exact h
 | cons e r ih=>intro S h he;exact ih (h.one (he e List.mem_cons_self)) fun e' h'=>he e' (List.mem_cons_of_mem _ h')
theorem kM {xs:List zn} (h3:∀ x∈xs,∀ e∈x.es,zw e.ino xs=true):∀ (m i:Nat) (S:List Int),JE xs S->(∀ n∈S,∃ k,Dep xs k n)->JE xs (XF xs m i S)/\∀ n∈XF xs m i S,∃ k,Dep xs k n
 | 0,i,S,h,hd=>by unfold XF;exact ⟨h,hd⟩
 | m+1,i,S,h,hd=>by
  unfold XF
  split
  ·rename_i n hn
   have hmem:=List.mem_of_getElem? hn
   have hh:=h.has n hmem
   obtain ⟨hm,_⟩:=qE hh
   obtain ⟨k,hk⟩:=hd n hmem
   refine kM h3 m (i+1) _ (Nb h fun e he=>h3 _ hm e he) fun n' hn'=>?_
   rcases Hq.1 hn' with h' | ⟨e,he,rfl⟩
   ·exact hd n' h'
   ·exact ⟨k+1,.step hk hh he⟩
  ·exact ⟨h,hd⟩
theorem zeq {S T:List Int} (hS:S.Nodup) (hs:∀ n∈S,n∈T) (hl:T.length<=S.length):∀ n∈T,n∈S:=by
 intro n hn
 by_cases h:n∈S
 ·exact h
 ·exfalso
  have:=ZG (S:=n :: S) (T:=T) (List.nodup_cons.2 ⟨h,hS⟩) fun m hm=>by
   rcases List.mem_cons.1 hm with rfl | hm
   ·exact hn
   ·exact hs m hm
  rw[List.length_cons]at this;omega
theorem MV {f:FsV} (h:okM f) {n:Int} (hn:zw n f.xs=true):∃ k,Dep f.xs k n:=by
 obtain ⟨_,h1,_,h3,_,h5,_⟩:=qd h
 have hroot:JE f.xs [1]:=⟨by simp,fun n hn=>by simp at hn;subst hn;exact h1.2.2.2.2.2.2.2.1⟩
 obtain ⟨g1,g2⟩:=kM h3 (f.xs.length+1) 0 [1] hroot fun n hn=>by simp at hn;subst hn;exact ⟨0,.root⟩
 have hS:=zeq (T:=f.xs.map (·.ino)) g1.nodup (fun m hm=>Hr.1 (g1.has m hm)) (by rw[List.length_map];exact Nat.le_of_eq h5.symm) n (Hr.1 hn)
 exact g2 n hS
theorem X0 {xs:List zn} {n:Int} {e:zH} (hh:zw n xs=true) (he:e∈(zf n xs).es):(e.ino,n)∈zL xs:=by
 obtain ⟨hm,hi⟩:=qE hh
 unfold zL
 exact List.mem_flatMap.2 ⟨_,hm,List.mem_map.2 ⟨e,he,by rw[hi]⟩⟩
theorem zkQ {n p:Int} {l:List (Int×Int)} (h:(n,p)∈l):1<=XQ n l:=by
 unfold XQ
 exact List.length_pos_iff.2 (List.ne_nil_of_mem (List.mem_filter.2 ⟨h,by simp⟩))
theorem N8 {n p q:Int} {l:List (Int×Int)} (hp:(n,p)∈l) (hq:(n,q)∈l) (h:XQ n l=1):p=q:=by
 unfold XQ at h
 obtain ⟨x,hx⟩:=List.length_eq_one_iff.1 h
 have h1:(n,p)∈l.filter fun p=>p.1==n:=List.mem_filter.2 ⟨hp,by simp⟩
 have h2:(n,q)∈l.filter fun p=>p.1==n:=List.mem_filter.2 ⟨hq,by simp⟩
 rw[hx]at h1 h2
 simp only[List.mem_singleton]at h1 h2
 exact congrArg Prod.snd (h1.trans h2.symm)
theorem Va {f:FsV} (h:okM f) {n:Int} (hh:zw n f.xs=true) {e:zH} (he:e∈(zf n f.xs).es):(zf n f.xs).kind=2:=by
 obtain ⟨_,_,h2,_⟩:=qd h
 obtain ⟨hm,_⟩:=qE hh
 by_cases hk:(zf n f.xs).kind=2
 ·exact hk
 ·have:=((h2 _ hm).2.1 hk).1
  rw[this]at he;cases he
theorem jj {f:FsV} (h:okM f) {n:Int} (hh:zw n f.xs=true) {e:zH} (he:e∈(zf n f.xs).es):e.ino≠1:=fun h1=>by
 obtain ⟨_,hf,_,_,h4,_⟩:=qd h
 obtain ⟨hm,hi⟩:=qE hf.2.2.2.2.2.2.2.1
 have hq:=(h4 _ hm).2
 rw[if_pos hi,hi]at hq
 have:=zkQ (X0 hh he)
 rw[h1]at this;omega
theorem QD {f:FsV} (h:okM f):∀ (k k':Nat) (n:Int),Dep f.xs k n->Dep f.xs k' n->zw n f.xs=true->(zf n f.xs).kind=2->k=k'
 | 0,0,_,_,_,_,_=>rfl
 | 0,k'+1,_,h1,h2,hh,hk=>by
  cases h1
  generalize hn:(1:Int)=n at h2
  cases h2 with
  | step a b c=>exact absurd hn.symm (jj h b c)
 | k+1,0,_,h1,h2,hh,hk=>by
  cases h2
  generalize hn:(1:Int)=n at h1
  cases h1 with
  | step a b c=>exact absurd hn.symm (jj h b c)
 | k+1,k'+1,n,h1,h2,hh,hk=>by
  obtain ⟨_,hf,_,_,h4,_⟩:=qd h
  cases h1 with
  | @step _ p e a b c =>
   generalize hn:e.ino=n at h2 hh hk
   cases h2 with
   | @step _ p' e' a' b' c' =>
    have hp:=X0 b c
    have hp':=X0 b' c'
    rw[hn]at hp
    obtain ⟨hm,hi⟩:=qE hh
    have hq:=(h4 _ hm).2
    rw[hi]at hq
    have hne:e'.ino≠1:=jj h b' c'
    rw[if_neg hne]at hq
    have:=N8 hp hp' (hq.2 hk).1
    subst this
    rw[QD h k k' p a a' b (Va h b c)]
end
section
theorem YR (n:Int):∀ xs:List zn,XQ n (zL xs)=Hc n xs
 | []=>rfl
 | x :: r=>by
  have ih:=YR n r
  unfold Hc yB at ih ⊢
  unfold zL at ih ⊢
  rw[List.flatMap_cons,List.map_cons,List.sum_cons,←ih]
  unfold XQ Vi
  rw[List.filter_append,List.length_append]
  congr 1
  induction x.es with
  | nil=>rfl
  | cons e es ie =>
   unfold QP at ie ⊢
   rw[List.map_cons,List.filter_cons,List.filter_cons]
   by_cases h:e.ino=n
   ·simp only[h,beq_self_eq_true,if_true,decide_true,List.length_cons,ie]
   ·simp only[show (e.ino==n)=false from beq_eq_false_iff_ne.2 h,decide_eq_false h,Bool.false_eq_true,if_false,ie]
theorem Zo {f:FsV} (h:jD f=0):jE f/\JK f/\JA f/\JO f/\Xu f/\V4 f:=by
 unfold jD at h
 split at h
 ·split at h
  ·split at h
   ·split at h
    ·split at h
     ·split at h
      ·exact ⟨by assumption,by assumption,by assumption,by assumption,by assumption,by assumption⟩
      ·cases h
     ·cases h
    ·cases h
   ·cases h
  ·cases h
 ·cases h
theorem G3 {es:List zH} (h:J3 es):XB es:=by
 have hadj:∀ i (h1:i+1<es.length),Op.bytesLess es[i].name es[i+1].name=true:=fun i h1=>(h (i+1) h1).2.2 (by omega)
 have key:∀ (d i:Nat) (h1:i+d+1<es.length),Op.bytesLess (es[i]'(by omega)).name es[i+d+1].name=true:=by
  intro d
  induction d with
  | zero=>intro i h1;exact hadj i h1
  | succ d ih=>intro i h1;exact Ha (ih i (by omega)) (hadj (i+d+1) (by omega))
 refine List.pairwise_iff_getElem.2 fun i j hi hj hij=>?_
 have:=key (j-i-1) i (by omega)
 have e:i+(j-i-1)+1=j:=by omega
 simp only[e]at this
 exact this
theorem XX {f:FsV} (h:jD f=0):FsI f:=by
 obtain ⟨h1,h2,h3,h4,h5,h6⟩:=Zo h
 obtain ⟨a1,a2,a3,a4,a5,a6,a7,a8,a9⟩:=h1
 refine ⟨a7,a6,fun x hx=>(h2 x hx).1,fun x hx=>?_,fun x hx hk=>((h2 x hx).2.1 hk).1,h3,fun x hx=>?_,a8,a9,?_⟩
 ·by_cases hk:x.kind=2
  ·exact G3 ((h2 x hx).2.2.1 hk).2
  ·rw[((h2 x hx).2.1 hk).1];exact List.Pairwise.nil
 ·rw[(h4 x hx).1,YR]
 ·obtain ⟨b1,b2⟩:=qE a8
  have q:=(h4 _ b1).2
  rw[b2,if_pos rfl,YR]at q
  exact q.1
theorem zol {w:zY} (h:okW w):xd w:=by
 obtain ⟨h1,h2,h3,h4,h5⟩:=h.2
 exact ⟨XX h1,h4.1,h2,fun x hx=>⟨(h3 x hx).1,(h3 x hx).2.2.1⟩⟩
theorem u9 {w:zY} (h:okW w):uK 40 w:=by
 obtain ⟨⟨g1,g2,g3,g4⟩,h1,_⟩:=h
 obtain ⟨a1,a2,a3,a4,a5,_⟩:=(Zo h1).1
 exact ⟨g2.1,fun x hx=>by obtain ⟨q1,q2,q3⟩:=g2.2 x hx;exact ⟨q2,q1,q3⟩,g4,g1,g3.1,fun x hx=>by obtain ⟨q1,q2,q3⟩:=g3.2 x hx;exact ⟨q2,q1,q3⟩,by omega,by omega⟩
theorem uK.s {N:Nat} {w:zY} (h:uK N w) (hi:xd w) (hN:N<=10000):zmw w:=by
 have hr:=Mg hi.fs
 have hn:=h.next
 exact ⟨⟨by have:=h.len;omega,fun x hx=>by obtain ⟨q1,q2,q3⟩:=h.node x hx;exact ⟨by omega,by omega,fun e he=>by have:=q3 e he;omega⟩⟩,⟨by omega,by omega⟩,by have:=h.klen;omega,by have:=h.plen;omega⟩
structure OpS (o:OpV):Prop where
 a:o.a.length<=1000
 b:o.b.length<=1000
 d:o.d.length<=5000
structure znp (N:Nat) (d:zt):Prop where
 wi:xd d.w
 wb:uK (40+N) d.w
 ops:d.ops.length<=N
 diags:d.diags.length<=N
 slot:0<=d.slot/\d.slot<=1073741824+N
theorem zdX {d:zt} {o:OpV} (h:(zh9 d o).2≠0):(zh9 d o).1=d:=by
 unfold zh9 at h ⊢
 split
 ·rfl
 ·split
  ·rfl
  ·rename_i h1 h2;rw[if_neg h1,if_neg h2]at h;exact absurd rfl h
end
section
theorem G4 {f:FsV} (h:okM f):∀ (k:Nat) (n:Int),Dep f.xs k n->zw n f.xs=true->(zf n f.xs).kind=2->∃ L:List Int,L.length=k+1/\L.Nodup/\(∀ m∈L,zw m f.xs=true)/\∀ m∈L,(zf m f.xs).kind=2/\∃ j,j<=k/\Dep f.xs j m
 | 0,n,hd,hh,hk=>⟨[n],rfl,by simp,fun m hm=>by simp at hm;subst hm;exact hh,fun m hm=>by simp at hm;subst hm;exact ⟨hk,0,Nat.le_refl _,hd⟩⟩
 | k+1,_,hd,hh,hk=>by
  generalize hn:k+1=k1 at hd
  cases hd with
  | root=>cases hn
  | @step k0 p e a b c =>
   obtain rfl:k=k0:=by omega
   obtain ⟨L,l1,l2,l3,l4⟩:=G4 h k p a b (Va h b c)
   refine ⟨e.ino :: L,by simp[l1],List.nodup_cons.2 ⟨fun hm=>?_,l2⟩,fun m hm=>?_,fun m hm=>?_⟩
   ·obtain ⟨_,j,hj,hd⟩:=l4 _ hm
    have:=QD h _ _ _ hd (.step a b c) hh hk
    omega
   ·rcases List.mem_cons.1 hm with rfl | hm
    ·exact hh
    ·exact l3 m hm
   ·rcases List.mem_cons.1 hm with rfl | hm
    ·exact ⟨hk,k+1,Nat.le_refl _,.step a b c⟩
    ·obtain ⟨q1,j,q2,q3⟩:=l4 m hm
     exact ⟨q1,j,by omega,q3⟩
theorem zet {f:FsV} (h:okM f) {k:Nat} {n:Int} (hd:Dep f.xs k n) (hh:zw n f.xs=true) (hk:(zf n f.xs).kind=2):k<f.xs.length:=by
 obtain ⟨L,l1,l2,l3,_⟩:=G4 h k n hd hh hk
 have:=Qd l2 l3
 omega
def qt (xs:List zn):Nat->Int->List (List UInt8)->jN
 | 0,_,_=>[]
 | m+1,n,ns=>if zw n xs then (ns,zf n xs) :: (zf n xs).es.flatMap (fun e=>qt xs m e.ino (ns++[e.name])) else []
theorem XA {α β:Type} {l:List α} {g g':α->List β} (h:∀ a∈l,g a=g' a):l.flatMap g=l.flatMap g':=by
 induction l with
 | nil=>rfl
 | cons a r ih=>rw[List.flatMap_cons,List.flatMap_cons,h a List.mem_cons_self,ih fun b hb=>h b (List.mem_cons_of_mem _ hb)]
theorem Nt {f:FsV} (h:okM f):∀ (m m' k:Nat) (n:Int) (ns:List (List UInt8)),Dep f.xs k n->k<=f.xs.length->f.xs.length+1<=m+k->f.xs.length+1<=m'+k->qt f.xs m n ns=qt f.xs m' n ns
 | 0,m',k,n,ns,hd,hk,h1,h2=>by omega
 | m+1,0,k,n,ns,hd,hk,h1,h2=>by omega
 | m+1,m'+1,k,n,ns,hd,hk,h1,h2=>by
  unfold qt
  split
  ·rename_i hh
   congr 1
   refine XA fun e he=>?_
   have hdir:=Va h hh he
   have hlt:=zet h hd hh hdir
   exact Nt h m m' (k+1) e.ino _ (.step hd hh he) (by omega) (by omega) (by omega)
  ·rfl
abbrev trV (xs:List zn):Int->List (List UInt8)->jN:=qt xs (xs.length+1)
theorem zic {f:FsV} (h:okM f) {n:Int} (hh:zw n f.xs=true):∃ k,k<=f.xs.length/\Dep f.xs k n:=by
 obtain ⟨k,hd⟩:=MV h hh
 refine ⟨k,?_,hd⟩
 cases hd with
 | root=>exact Nat.zero_le _
 | step a b c=>exact zet h a b (Va h b c)
theorem zjx {f:FsV} (h:okM f):yp f (trV f.xs):=⟨fun n ns hh=>by
 obtain ⟨k,hk,hd⟩:=zic h hh
 show qt f.xs (f.xs.length+1) n ns=_
 rw[qt,if_pos hh]
 congr 1
 refine XA fun e he=>?_
 have hlt:=zet h hd hh (Va h hh he)
 exact Nt h _ _ (k+1) e.ino _ (.step hd hh he) (by omega) (by omega) (by omega),fun n ns hh=>by
 show qt f.xs (f.xs.length+1) n ns=_
 rw[qt,if_neg (by rw[hh];decide)]⟩
theorem zkg {f:FsV} (h:okM f):zbd f (trV f.xs):=by
 obtain ⟨p0,p1,p2,p3,_⟩:=qd h
 exact ⟨zjx h,p0,p1.2.2.2.2.2.2.1,p3,fun x hx hk=>((p2 x hx).2.1 hk).1⟩
end
section
theorem UD (ns:List (List UInt8)) (x:List UInt8) (hne:∀ y∈ns,y≠[]):ql (ns++[x])=VS (ql ns) x:=by
 have hj:=H4 (ns++[x]) ns.length x (by simp)
 rw[List.take_of_length_le (by simp),List.take_left' rfl]at hj
 unfold ql
 rw[if_neg (by simp),hj]
 by_cases h:ns = []
 ·subst h;rfl
 ·have hl:ns.length≠0:=fun h0=>h (List.eq_nil_of_length_eq_zero h0)
  rw[if_neg hl,if_neg h]
  have hne47:(47 :: Lib.join ns [47])≠[47]:=fun he=>by
   have h1:Lib.join ns [47] = []:=(List.cons.inj he).2
   have h2:=Xf ns h
   rw[h1]at h2
   cases ns with
   | nil=>exact h rfl
   | cons y r =>
    have:=List.length_pos_iff.2 (hne y List.mem_cons_self)
    simp at h2;omega
  unfold VS
  rw[if_neg hne47]
  simp
end
section
inductive Anc (xs:List zn) (n:Int):Nat->Int->Prop
 | same:Anc xs n 0 n
 | step {j:Nat} {p:Int} {e:zH}:Anc xs n j p->zw p xs=true->e∈(zf p xs).es->Anc xs n (j+1) e.ino
theorem Anc.dep {xs:List zn} {n:Int} {k:Nat} (hd:Dep xs k n):∀ {j:Nat} {d:Int},Anc xs n j d->Dep xs (k+j) d
 | _,_,.same=>hd
 | _,_,.step a b c=>.step (a.dep hd) b c
theorem Anc.up {xs:List zn} {n:Int} {e:zH} (hh:zw n xs=true) (he:e∈(zf n xs).es):∀ {j:Nat} {d:Int},Anc xs e.ino j d->Anc xs n (j+1) d
 | _,_,.same=>.step .same hh he
 | _,_,.step a b c=>.step (a.up hh he) b c
theorem Yo {xs:List zn}:∀ (m:Nat) (n:Int) (ns:List (List UInt8)),∀ p∈qt xs m n ns,∃ j,Anc xs n j p.2.ino/\zw p.2.ino xs=true/\zf p.2.ino xs=p.2
 | 0,n,ns,p,hp=>by cases hp
 | m+1,n,ns,p,hp=>by
  unfold qt at hp
  split at hp
  ·rename_i hh
   obtain ⟨_,hi⟩:=qE hh
   rcases List.mem_cons.1 hp with rfl | hp
   ·exact ⟨0,by rw[hi];exact .same,by rw[hi];exact hh,by rw[hi]⟩
   ·obtain ⟨e,he,hp⟩:=List.mem_flatMap.1 hp
    obtain ⟨j,q1,q2⟩:=Yo m _ _ p hp
    exact ⟨j+1,q1.up hh he,q2⟩
  ·cases hp
theorem yS {f:FsV} (h:okM f) {a b:Int}:∀ (j:Nat) (d:Int),Anc f.xs a j d->Anc f.xs b j d->zw d f.xs=true->(zf d f.xs).kind=2->a=b/\zw a f.xs=true/\(zf a f.xs).kind=2
 | 0,d,h1,h2,hh,hk=>by
  cases h1;cases h2
  exact ⟨rfl,hh,hk⟩
 | j+1,d,h1,h2,hh,hk=>by
  obtain ⟨_,_,_,_,h4,_⟩:=qd h
  cases h1 with
  | @step _ p e x y z =>
   generalize hn:e.ino=d at h2 hh hk
   cases h2 with
   | @step _ p' e' x' y' z' =>
    have hp:=X0 y z
    have hp':=X0 y' z'
    rw[hn]at hp
    obtain ⟨hm,hi⟩:=qE hh
    have hq:=(h4 _ hm).2
    rw[hi,if_neg (jj h y' z')]at hq
    have:=N8 hp hp' (hq.2 hk).1
    subst this
    exact yS h j p x x' y (Va h y z)
theorem zj0 {xs:List zn} {n:Int} {e e':zH} (hh:zw n xs=true) (hs:[e,e'].Sublist (zf n xs).es) (hi:e.ino=e'.ino):2<=XQ e.ino (zL xs):=by
 obtain ⟨hm,hino⟩:=qE hh
 have h1:([e,e'].map fun e=>(e.ino,(zf n xs).ino)).Sublist (QP (zf n xs) (zf n xs).es):=hs.map _
 obtain ⟨i,hi',hx⟩:=List.getElem_of_mem hm
 have h2:(QP (zf n xs) (zf n xs).es).Sublist (zL xs):=by
  obtain ⟨s,t,hst⟩:=List.append_of_mem hm
  unfold zL
  conv=>rhs;rw[hst]
  rw[List.flatMap_append,List.flatMap_cons]
  exact (List.sublist_append_left _ _).trans (List.sublist_append_right _ _)
 have h3:=((h1.trans h2).filter fun p=>p.1==e.ino).length_le
 unfold XQ
 simpa [hi] using h3
abbrev JL (l:jN):List Int:=(l.filter fun p=>decide (p.2.kind=2)).map fun p=>p.2.ino
theorem ZD {l:jN} {d:Int} (h:d∈JL l):∃ p∈l,p.2.kind=2/\p.2.ino=d:=by
 obtain ⟨p,hp,rfl⟩:=List.mem_map.1 h
 obtain ⟨h1,h2⟩:=List.mem_filter.1 hp
 exact ⟨p,h1,of_decide_eq_true h2,rfl⟩
theorem JU {f:FsV} (h:okM f):∀ (m:Nat) (n:Int) (ns:List (List UInt8)),zw n f.xs=true->(JL (qt f.xs m n ns)).Nodup
 | 0,n,ns,_=>List.nodup_nil
 | m+1,n,ns,hh=>by
  obtain ⟨k,hd⟩:=MV h hh
  obtain ⟨_,_,_,h3,h4,_⟩:=qd h
  obtain ⟨hm,hi⟩:=qE hh
  have key:∀ L:List zH,L.Sublist (zf n f.xs).es->(JL (L.flatMap fun e=>qt f.xs m e.ino (ns++[e.name]))).Nodup:=by
   intro L
   induction L with
   | nil=>intro _;exact List.nodup_nil
   | cons e r ih =>
    intro hs
    have he:e∈(zf n f.xs).es:=hs.subset List.mem_cons_self
    have hr:r.Sublist (zf n f.xs).es:=(List.sublist_cons_self e r).trans hs
    have hap:JL ((e :: r).flatMap fun e=>qt f.xs m e.ino (ns++[e.name]))=JL (qt f.xs m e.ino (ns++[e.name]))++JL (r.flatMap fun e=>qt f.xs m e.ino (ns++[e.name])):=by
     rw[List.flatMap_cons];unfold JL;rw[List.filter_append,List.map_append]
    rw[hap,List.nodup_append]
    refine ⟨JU h m e.ino _ (h3 _ hm e he),ih hr,fun d hd1 d' hd2 hdd=>?_⟩
    subst hdd
    obtain ⟨p,p1,p2,rfl⟩:=ZD hd1
    obtain ⟨p',p1',p2',p3'⟩:=ZD hd2
    obtain ⟨e',he',p1'⟩:=List.mem_flatMap.1 p1'
    obtain ⟨j,a1,a2,a3⟩:=Yo m _ _ p p1
    obtain ⟨j',b1,b2,b3⟩:=Yo m _ _ p' p1'
    rw[p3']at b1
    have hk:(zf p.2.ino f.xs).kind=2:=by rw[a3];exact p2
    have hdep:=QD h _ _ _ (a1.dep (.step hd hh he)) (b1.dep (.step hd hh (hr.subset he'))) a2 hk
    obtain rfl:j=j':=by omega
    obtain ⟨q1,q2,q3⟩:=yS h j _ a1 b1 a2 hk
    have hs2:[e,e'].Sublist (zf n f.xs).es:=(List.Sublist.cons_cons e (List.singleton_sublist.2 he')).trans hs
    have h2:=zj0 hh hs2 q1
    obtain ⟨hm2,hi2⟩:=qE q2
    have hq:=(h4 _ hm2).2
    rw[hi2,if_neg (jj h hh he)]at hq
    have:=(hq.2 q3).1
    omega
  unfold qt
  rw[if_pos hh]
  by_cases hk:(zf n f.xs).kind=2
  ·have hc:JL ((ns,zf n f.xs) :: (zf n f.xs).es.flatMap fun e=>qt f.xs m e.ino (ns++[e.name]))=n :: JL ((zf n f.xs).es.flatMap fun e=>qt f.xs m e.ino (ns++[e.name])):=by
    unfold JL
    rw[List.filter_cons_of_pos (by simpa using hk),List.map_cons,hi]
   rw[hc,List.nodup_cons]
   refine ⟨fun hmem=>?_,key _ (List.Sublist.refl _)⟩
   obtain ⟨p,p1,p2,p3⟩:=ZD hmem
   obtain ⟨e,he,p1⟩:=List.mem_flatMap.1 p1
   obtain ⟨j,a1,a2,a3⟩:=Yo m _ _ p p1
   rw[p3]at a1
   have:=QD h _ _ _ (a1.dep (.step hd hh he)) hd hh hk
   omega
  ·have hc:JL ((ns,zf n f.xs) :: (zf n f.xs).es.flatMap fun e=>qt f.xs m e.ino (ns++[e.name]))=JL ((zf n f.xs).es.flatMap fun e=>qt f.xs m e.ino (ns++[e.name])):=by
    unfold JL
    rw[List.filter_cons_of_neg (by simpa using hk)]
   rw[hc]
   exact key _ (List.Sublist.refl _)
end
section
def VB (l:jN):Nat:=(l.map fun p=>p.2.es.length).sum
theorem zcc (a b:jN):VB (a++b)=VB a+VB b:=by unfold VB;rw[List.map_append,List.sum_append]
theorem xY {xs:List zn}:∀ (m:Nat) (n:Int) (ns:List (List UInt8)),(qt xs m n ns).length<=1+VB (qt xs m n ns)
 | 0,n,ns=>Nat.zero_le _
 | m+1,n,ns=>by
  unfold qt
  split
  ·have key:∀ L:List zH,(L.flatMap fun e=>qt xs m e.ino (ns++[e.name])).length<=L.length+VB (L.flatMap fun e=>qt xs m e.ino (ns++[e.name])):=by
    intro L
    induction L with
    | nil=>exact Nat.le_refl _
    | cons e r ih =>
     rw[List.flatMap_cons,List.length_append,zcc,List.length_cons]
     have:=xY (xs:=xs) m e.ino (ns++[e.name])
     omega
   have:=key (zf n xs).es
   have hs:∀ l:jN,VB ((ns,zf n xs) :: l)=(zf n xs).es.length+VB l:=fun l=>by unfold VB;rw[List.map_cons,List.sum_cons]
   rw[List.length_cons,hs]
   omega
  ·exact Nat.zero_le _
theorem zg3 {l:jN} (h:∀ p∈l,p.2.es.length<=3240/\(p.2.kind≠2->p.2.es = [])):VB l<=3240*(JL l).length:=by
 induction l with
 | nil=>exact Nat.zero_le _
 | cons p r ih =>
  have hp:=h p List.mem_cons_self
  have ih:=ih fun q hq=>h q (List.mem_cons_of_mem _ hq)
  unfold VB at ih ⊢
  rw[List.map_cons,List.sum_cons]
  unfold JL at ih ⊢
  by_cases hk:p.2.kind=2
  ·rw[List.filter_cons_of_pos (by simpa using hk),List.map_cons,List.length_cons];omega
  ·rw[List.filter_cons_of_neg (by simpa using hk),hp.2 hk]
   simpa using ih
theorem zhK {f:FsV} (h:okM f) (m:Nat) (n:Int) (ns:List (List UInt8)):(qt f.xs m n ns).length<=10497601:=by
 obtain ⟨h0,_,h2,_⟩:=qd h
 cases hh:zw n f.xs with
 | false =>
  cases m with
  | zero=>exact Nat.zero_le _
  | succ m=>unfold qt;rw[hh];exact Nat.zero_le _
 | true =>
  have h1:=xY (xs:=f.xs) m n ns
  have hg:∀ p∈qt f.xs m n ns,p.2∈f.xs:=fun p hp=>by
   obtain ⟨j,_,q2,q3⟩:=Yo m n ns p hp
   rw[←q3];exact (qE q2).1
  have hs:=zg3 (l:=qt f.xs m n ns) fun p hp=>⟨(h0.2 _ (hg p hp)).2.1,fun hk=>((h2 _ (hg p hp)).2.1 hk).1⟩
  have hd:=Qd (JU h m n ns hh) fun d hd=>by
   obtain ⟨p,p1,_,rfl⟩:=ZD hd
   obtain ⟨_,_,q2,_⟩:=Yo m n ns p p1
   exact q2
  have:=h0.1
  omega
def UA (ns:List (List UInt8)):Nat:=(ns.map fun x=>x.length+1).sum
theorem NK (ns:List (List UInt8)) (x:List UInt8):UA (ns++[x])=UA ns+(x.length+1):=by
 unfold UA;rw[List.map_append,List.sum_append];simp
theorem QG {xs:List zn} (h0:zk5 xs):∀ (m:Nat) (n:Int) (ns:List (List UInt8)),∀ p∈qt xs m n ns,p.1.length<=ns.length+m/\UA p.1<=UA ns+m*301
 | 0,n,ns,p,hp=>by cases hp
 | m+1,n,ns,p,hp=>by
  unfold qt at hp
  split at hp
  ·rename_i hh
   obtain ⟨hm,_⟩:=qE hh
   rcases List.mem_cons.1 hp with rfl | hp
   ·exact ⟨Nat.le_add_right _ _,Nat.le_add_right _ _⟩
   ·obtain ⟨e,he,hp⟩:=List.mem_flatMap.1 hp
    obtain ⟨q1,q2⟩:=QG h0 m _ _ p hp
    have:=(h0.2 _ hm).2.2 e he
    rw[NK]at q2
    rw[List.length_append,List.length_singleton]at q1
    exact ⟨by omega,by omega⟩
  ·cases hp
theorem J8 (ns:List (List UInt8)):(Lib.join ns [47]).length<=UA ns:=by
 by_cases h:ns = []
 ·subst h;exact Nat.zero_le _
 ·have:=Xf ns h
  unfold UA;omega
theorem zfF {f:FsV} (h:okM f) (n:Int) (ns:List (List UInt8)) (h1:ns.length<=100000) (h2:UA ns<=20000):M1 (trV f.xs) n ns:=by
 obtain ⟨h0,_⟩:=qd h
 refine ⟨Nat.le_trans (zhK h _ n ns) (by decide),fun p hp=>?_⟩
 obtain ⟨q1,q2⟩:=QG h0 _ n ns p hp
 have:=J8 p.1
 have:=h0.1
 exact ⟨by omega,by omega⟩
end
section
theorem UE {xs:List zn}:∀ (m:Nat) (n:Int) (ns:List (List UInt8)) (j:Nat) (d:Int),Anc xs n j d->j<m->zw n xs=true->(∀ x∈xs,∀ e∈x.es,zw e.ino xs=true)->∃ p∈qt xs m n ns,p.2.ino=d
 | 0,n,ns,j,d,ha,hj,hh,h3=>by omega
 | m+1,n,ns,0,d,ha,hj,hh,h3=>by
  cases ha
  obtain ⟨_,hi⟩:=qE hh
  refine ⟨(ns,zf n xs),?_,hi⟩
  unfold qt
  rw[if_pos hh]
  exact List.mem_cons_self
 | m+1,n,ns,j+1,d,ha,hj,hh,h3=>by
  have key:∀ (j:Nat) (d:Int),Anc xs n (j+1) d->∃ e∈(zf n xs).es,Anc xs e.ino j d:=by
   intro j
   induction j with
   | zero =>
    intro d ha
    cases ha with
    | step a b c=>cases a;exact ⟨_,c,.same⟩
   | succ j ih =>
    intro d ha
    cases ha with
    | step a b c =>
     obtain ⟨e,he,h⟩:=ih _ a
     exact ⟨e,he,.step h b c⟩
  obtain ⟨e,he,h⟩:=key j d ha
  obtain ⟨hm,_⟩:=qE hh
  obtain ⟨p,p1,p2⟩:=UE m e.ino (ns++[e.name]) j d h (by omega) (h3 _ hm e he) h3
  refine ⟨p,?_,p2⟩
  unfold qt
  rw[if_pos hh]
  exact List.mem_cons_of_mem _ (List.mem_flatMap.2 ⟨e,he,p1⟩)
theorem zct {xs:List zn}:∀ {k:Nat} {n:Int},Dep xs k n->Anc xs 1 k n
 | _,_,.root=>.same
 | _,_,.step a b c=>.step (zct a) b c
theorem zcY {f:FsV} (h:okM f) {n:Int} (hh:zw n f.xs=true):∃ p∈trV f.xs 1 [],p.2.ino=n:=by
 obtain ⟨_,h1,_,h3,_⟩:=qd h
 obtain ⟨k,hk,hd⟩:=zic h hh
 exact UE _ 1 [] k n (zct hd) (by omega) h1.2.2.2.2.2.2.2.1 h3
theorem VI {f:FsV} {m:Nat} {n:Int} {ns:List (List UInt8)} {p:List (List UInt8)×zn} (hp:p∈qt f.xs m n ns):zw p.2.ino f.xs=true/\zf p.2.ino f.xs=p.2:=by
 obtain ⟨_,_,q⟩:=Yo m n ns p hp
 exact q
theorem ZH:∀ {l:jN} {n:Int},(JL l).Nodup->(∀ p∈l,p.2.ino=n->p.2.kind=2)->(∃ p∈l,p.2.ino=n)->∃ p,l.filter (fun p=>decide (p.2.ino=n)) = [p]
 | [],n,_,_,⟨p,hp,_⟩=>by cases hp
 | q :: l,n,hn,hk,hex=>by
  have hk':∀ p∈l,p.2.ino=n->p.2.kind=2:=fun p hp=>hk p (List.mem_cons_of_mem _ hp)
  by_cases hq:q.2.ino=n
  ·have hk2:=hk q List.mem_cons_self hq
   have hc:JL (q :: l)=q.2.ino :: JL l:=by
    unfold JL;rw[List.filter_cons_of_pos (by simpa using hk2),List.map_cons]
   rw[hc,List.nodup_cons,hq]at hn
   have he:l.filter (fun p=>decide (p.2.ino=n)) = []:=by
    rw[List.filter_eq_nil_iff]
    intro p hp hpn
    have hpn:=of_decide_eq_true hpn
    refine hn.1 ?_
    exact List.mem_map.2 ⟨p,List.mem_filter.2 ⟨hp,by simpa using hk' p hp hpn⟩,hpn⟩
   exact ⟨q,by rw[List.filter_cons_of_pos (by simpa using hq),he]⟩
  ·have hn':(JL l).Nodup:=by
    unfold JL at hn ⊢
    by_cases hk2:q.2.kind=2
    ·rw[List.filter_cons_of_pos (by simpa using hk2),List.map_cons,List.nodup_cons]at hn;exact hn.2
    ·rw[List.filter_cons_of_neg (by simpa using hk2)]at hn;exact hn
   obtain ⟨p,hp,hpn⟩:=hex
   have hpl:p∈l:=by
    rcases List.mem_cons.1 hp with rfl | hp
    ·exact absurd hpn hq
    ·exact hp
   obtain ⟨p',h⟩:=ZH hn' hk' ⟨p,hpl,hpn⟩
   exact ⟨p',by rw[List.filter_cons_of_neg (by simpa using hq)];exact h⟩
theorem Ng {f:FsV} (h:okM f) {n:Int} (hh:zw n f.xs=true) (hk:(zf n f.xs).kind=2):∃ p,XK n (trV f.xs 1 []) = [p]/\VV n (trV f.xs 1 [])=some p:=by
 obtain ⟨_,h1,_⟩:=qd h
 have hkk:∀ p∈trV f.xs 1 [],p.2.ino=n->p.2.kind=2:=fun p hp hpn=>by
  obtain ⟨_,q⟩:=VI hp
  rw[hpn]at q;rw[←q];exact hk
 obtain ⟨p,hp⟩:=ZH (JU h _ 1 [] h1.2.2.2.2.2.2.2.1) hkk (zcY h hh)
 refine ⟨ql p.1,by unfold XK;rw[hp];rfl,?_⟩
 unfold VV
 have he:(fun q:List (List UInt8)×zn=>decide (q.2.ino=n)&&decide (q.2.kind=2))=fun q=>decide (q.2.ino=n)&&decide (q.2.kind=2):=rfl
 rw[←List.head?_filter]
 have hf:(trV f.xs 1 []).filter (fun q=>decide (q.2.ino=n)&&decide (q.2.kind=2))=(trV f.xs 1 []).filter fun q=>decide (q.2.ino=n):=by
  refine List.filter_congr fun q hq=>?_
  by_cases hqn:q.2.ino=n
  ·simp[hqn,hkk q hq hqn]
  ·simp[hqn]
 rw[hf,hp];rfl
end
section
theorem kf {xs:List zn} (hm:∀ x∈xs,∀ e∈x.es,may e.name=true):∀ (m:Nat) (n:Int) (ns:List (List UInt8)),∀ p∈qt xs m n ns,∃ zs,p.1=ns++zs/\∀ z∈zs,may z=true
 | 0,n,ns,p,hp=>by unfold qt at hp;cases hp
 | m+1,n,ns,p,hp=>by
  unfold qt at hp
  split at hp
  ·rename_i hh
   rcases List.mem_cons.1 hp with rfl | hp
   ·exact ⟨[],by simp,fun z hz=>by cases hz⟩
   ·obtain ⟨e,he,hp⟩:=List.mem_flatMap.1 hp
    obtain ⟨zs,h1,h2⟩:=kf hm m e.ino _ p hp
    refine ⟨e.name :: zs,by rw[h1,List.append_assoc];rfl,fun z hz=>?_⟩
    rcases List.mem_cons.1 hz with rfl | hz
    ·exact hm _ (qE hh).1 e he
    ·exact h2 z hz
  ·cases hp
theorem zef {es:List zH} (h:J3 es):es.Pairwise fun a b=>a.name≠b.name:=by
 have key:∀ (d i:Nat) (hj:i+d+1<es.length),es[i].name<es[i+d+1].name:=by
  intro d
  induction d with
  | zero =>
   intro i hj
   have h1:=(h (i+1) hj).2.2 (by omega)
   rw[bytesLess_eq]at h1
   exact of_decide_eq_true h1
  | succ d ih =>
   intro i hj
   have h1:=(h (i+(d+1)+1) hj).2.2 (by omega)
   rw[bytesLess_eq]at h1
   have h1:=of_decide_eq_true h1
   have h2:=ih i (by omega)
   exact List.lt_trans h2 h1
 refine List.pairwise_iff_getElem.2 fun i j hi hj hij he=>?_
 obtain ⟨d,rfl⟩:∃ d,j=i+d+1:=⟨j-i-1,by omega⟩
 have h1:=key d i hj
 rw[he]at h1
 exact List.lt_irrefl _ h1
theorem Vf {f:FsV} (h:okM f):(∀ x∈f.xs,∀ e∈x.es,may e.name=true)/\∀ x∈f.xs,x.es.Pairwise fun a b=>a.name≠b.name:=by
 obtain ⟨_,_,h2,_⟩:=qd h
 have key:∀ x∈f.xs,J3 x.es:=fun x hx=>by
  by_cases hk:x.kind=2
  ·exact ((h2 x hx).2.2.1 hk).2
  ·rw[((h2 x hx).2.1 hk).1];intro i hi;simp at hi
 refine ⟨fun x hx e he=>?_,fun x hx=>zef (key x hx)⟩
 obtain ⟨i,hi,rfl⟩:=List.getElem_of_mem he
 exact (key x hx i hi).1
end
section
open CA CB
open Go.RowKit
theorem zhT {f:FsV} (h:okM f) {n:Int} (hh:zw n f.xs=true) (hk:(zf n f.xs).kind=2) :
  ∃ ns,(∀ z∈ns,may z=true)/\ns.length<=3241/\UA ns<=980000/\XK n (trV f.xs 1 []) = [ql ns]/\VV n (trV f.xs 1 [])=some (ql ns):=by
 obtain ⟨h0,h1,_⟩:=qd h
 have hkk:∀ p∈trV f.xs 1 [],p.2.ino=n->p.2.kind=2:=fun p hp hpn=>by
  obtain ⟨_,q⟩:=VI hp
  rw[hpn]at q;rw[←q];exact hk
 obtain ⟨p,hp⟩:=ZH (JU h _ 1 [] h1.2.2.2.2.2.2.2.1) hkk (zcY h hh)
 obtain ⟨q,q1,q2⟩:=Ng h hh hk
 have hq:XK n (trV f.xs 1 []) = [ql p.1]:=by unfold XK;rw[hp];rfl
 rw[hq]at q1
 have hqe:ql p.1=q:=by simpa using q1
 have hpm:p∈trV f.xs 1 []:=(List.mem_filter.1 (by rw[hp];exact List.mem_singleton.2 rfl)).1
 obtain ⟨zs,z1,z2⟩:=kf (Vf h).1 _ 1 [] p hpm
 obtain ⟨t1,t2⟩:=QG h0 _ 1 [] p hpm
 have t3:=J8 p.1
 have t4:UA []=0:=rfl
 have h40:=h0.1
 rw[List.nil_append]at z1
 rw[←z1]at z2
 simp only[List.length_nil,t4]at t1 t2
 exact ⟨p.1,z2,by omega,by omega,hq,by rw[q2,hqe]⟩
def jr (f:FsV) (s:zR):List UInt8:=VS ((VV s.dir (trV f.xs 1 [])).getD []) s.name
theorem zbL (f:FsV) (h:okM f) (s:zR) (hh:zw s.dir f.xs=true) (hk:(zf s.dir f.xs).kind=2) (hm:may s.name=true):Fun Tryz.prog G0 61 [.agg (fsC f),.agg (V2 s)] (.str (jr f s)) 0:=by
 obtain ⟨ns,n1,n2,n3,n4,n5⟩:=zhT h hh hk
 have hp:=MH f s.dir _ (zkg h) (zfF h 1 [] (by decide) (by decide))
 have hml:=UY hm
 have hjw:=J8 ns
 have hjl:(ql ns).length<=980001:=by unfold ql;split<;>simp<;>omega
 have hr:=ZF (ql ns) (by omega)
 unfold zhE at hr
 rw[ZW ns fun z hz=>ZU (n1 z hz)]at hr
 have hj:=Y6 (ns++[s.name]) (by simp;omega) (by
  have a1:=J8 (ns++[s.name])
  rw[NK]at a1
  omega)
 rw[UD ns s.name fun y hy=>(ZU (n1 y hy)).1]at hj
 have e:jr f s=VS (ql ns) s.name:=by unfold jr;rw[n5];rfl
 rw[n5]at hp
 have hsl:(zC ns).length=ns.length:=List.length_map ..
 refine fof (fun i=>if i=2 then [false,false,false,false,false,false,true,false,false] else []) Tryz.func61 ?_;dsimp only[Tryz.f61]
 push_cast -dsimp
 refine cl (hp) ?_;push_cast -dsimp [Option.getD_some,Option.isSome_some]
 refine cl (hr) ?_;push_cast -dsimp
 repeat refine an ?_
 refine cl (hj) ?_;push_cast -dsimp
 exact dn (by push_cast -dsimp [zb,za,CLe,ze,e])
end
section
open Go.RowKit
end
section
open Go.RowKit
end
section
open CA CB
open Go.RowKit
theorem HZ (l:List OpV):jV l l=true:=(Jm l l).2 ⟨rfl,fun j h h'=>by unfold zhM;simp⟩
theorem zaA (ops:List OpV) (diags:List (List UInt8)) (s:Int) (h1:ops.length<=100000) (h2:diags.length<=100000):Fun Tryz.prog G0 45 [.agg [.sl 5 (ops.map opL),.sl 1 (zC diags),.sc (.int .i64 s)],.agg [.sl 5 (ops.map opL),.sl 1 (zC diags),.sc (.int .i64 s)]] (qp true) 0:=by
 have q1:=Gc ops ops h1
 have q2:=Hm diags diags (by omega)
 rw[HZ]at q1
 rw[decide_eq_true rfl]at q2
 refine fon Tryz.func45 ?_;dsimp only[Tryz.f45]
 push_cast -dsimp
 refine cl (q1) ?_;push_cast -dsimp
 refine cl (q2) ?_;push_cast -dsimp
 exact dn
theorem zei (d:zt) (h:zaZ d) (hp:∀ z∈d.w.pool,z.es.length<=9223372036854775807):Fun Tryz.prog G0 20 [Zv d,Zv d] (qp true) 0:=by
 have hs:=h.ws
 have q1:=zbp d.w d.w (by have:=hs.fs.len;omega) (by have:=hs.pool;omega) (by have:=hs.kept;omega) (fun z hz=>by have:=(hs.fs.node z hz).1;omega) hp
 have q2:=zaA d.ops d.diags d.status (by have:=h.ops;omega) (by have:=h.diags;omega)
 rw[decide_eq_true rfl]at q1
 refine fon Tryz.func20 ?_;dsimp only[Tryz.f20]
 push_cast -dsimp
 refine cl (q1) ?_;push_cast -dsimp
 refine cl (q2) ?_;push_cast -dsimp
 exact dn
end
section
open Go.RowKit Go.ChangeMaps Go.ChangeShapes Go.WideShapes Go.Deep Go.Joins
section
variable {H:Type} {enc:TypeId×Value->H} {W:World}
end
theorem znY {W:World} {l:List (String×DataW Unit)} (h:laidMetH Tryz.prog l W) (hp:(l.filter fun x=>x.2.handleName?.isSome) = []) (hm:("drayman/op.has",Rows.laid_drayman_op_has)∈l):Yu G1 (Na W):=fun g cs hc=>by
 unfold G1 at hc
 split at hc
 ·rename_i hg
  subst hg
  cases hc
  exact jJ (t:=223) h hp hm (by kernel_rfl) (by kernel_rfl) (m:=4) (by kernel_rfl) (by kernel_rfl) (by kernel_rfl)
 ·cases hc
theorem zn2 {W:World} {l:List (String×DataW Unit)} (h:laidMetH Tryz.prog l W) (hp:(l.filter fun x=>x.2.handleName?.isSome) = []) (hm1:("drayman/diag.phrases",Rows.laid_drayman_diag_phrases)∈l) (hm2:("drayman/args.kinds",Rows.laid_drayman_args_kinds)∈l) (hm3:("drayman/errs.messages",Rows.laid_drayman_errs_messages)∈l):Yu G2 (Na W):=fun g cs hc=>by
 unfold G2 at hc
 split at hc
 ·rename_i hg
  subst hg
  cases hc
  exact jJ (t:=204) h hp hm1 (by kernel_rfl) (by kernel_rfl) (m:=4) (vs:=phr.map fun l=>Value.string ⟨l.toArray⟩) (by kernel_rfl) (by kernel_rfl) (by kernel_rfl)
 ·split at hc
  ·rename_i hg
   subst hg
   cases hc
   exact jJ (t:=203) h hp hm2 (by kernel_rfl) (by kernel_rfl) (m:=4) (by kernel_rfl) (by kernel_rfl) (by kernel_rfl)
  ·split at hc
   ·rename_i hg
    subst hg
    cases hc
    exact jJ (t:=244) h hp hm3 (by kernel_rfl) (by kernel_rfl) (m:=4) (vs:=zpo.map fun l=>Value.string ⟨l.toArray⟩) (by kernel_rfl) (by kernel_rfl) (by kernel_rfl)
   ·cases hc
theorem zoS {W:World} {l:List (String×DataW Unit)} (h:laidMetH Tryz.prog l W) (hp:(l.filter fun x=>x.2.handleName?.isSome) = []) (hm:("drayman/op.has",Rows.laid_drayman_op_has)∈l) (hm1:("drayman/diag.phrases",Rows.laid_drayman_diag_phrases)∈l) (hm2:("drayman/args.kinds",Rows.laid_drayman_args_kinds)∈l) (hm3:("drayman/errs.messages",Rows.laid_drayman_errs_messages)∈l):Yu GD (Na W):=fun g cs hc=>by
 unfold GD at hc
 split at hc
 ·exact znY h hp hm g cs hc
 ·exact zn2 h hp hm1 hm2 hm3 g cs hc
end
end Go.Proofs.YtaipngaejfndgaaGreatDoor.Vcg
