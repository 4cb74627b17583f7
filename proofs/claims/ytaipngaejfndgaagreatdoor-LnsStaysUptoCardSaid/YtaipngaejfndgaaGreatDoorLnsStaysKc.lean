/- What the proof of LnsStays leans on, part 3: Vcg26 Lay Vcg18 Slc0 Slc1 TabV Tab1 OpenG OpenT Srt0 SlcE Shelf Tab2 TabR Snd1 PathN Ref1. No condition beyond what each theorem states. -/
import Derived.Test.YtaipngaejfndgaaGreatDoorLnsStaysKb
import Derived.Test.YtaipngaejfndgaaGreatDoorProg
import Derived.Lib.Overlaps
import Derived.Laws.Externs
import Derived.WalkKit
import Derived.ProofKit
import Derived.Deep.Slices
import Derived.Deep.Fields
import Derived.ChangeSame
import Derived.ChangeOld
import Derived.Lib.SmallJoins
import Derived.Test.YtaipngaejfndgaaGreatDoorRows
import Derived.Lib.Bytealg
import Derived.Shelf.Strings.Builder1
import Derived.Shelf.Strings.Builder2
import Derived.Shelf.Strings.OnBuilder
import Derived.Shelf.Strings.Trim
import Derived.Shelf.Small.Utf8
import Derived.Shelf.Small.Strs
import Derived.Shelf.Small.Wraps
import Derived.Shelf.Strings.BuilderF
import Derived.Shelf.Strings.BuilderK
import Derived.Shelf.Strings.Search1
import Derived.Shelf.Strings.Search2
import Derived.Shelf.Strings.Search3
import Derived.Shelf.LaysM
import Derived.Shelf.Strings.Shaped
import Derived.Shelf.Strings.Prefix
import Derived.Shelf.Unicode.Decode
import Derived.Shelf.Strings.Runes
import Derived.Shelf.Strings.IndexAny
import Derived.Shelf.Strings.AsciiSet
import Derived.Shelf.Strings.IndexAnyAll
import Derived.Shelf.Unicode.DecodeSlow
import Derived.Shelf.Unicode.DecodeAny
import Derived.Shelf.Unicode.DecodeLast
import Derived.Ground.Names2Prog
import Derived.Shelf.Slices.SearchI
set_option linter.unusedVariables false
set_option linter.unusedSimpArgs false
set_option linter.unusedSectionVars false
set_option maxRecDepth 100000
set_option maxHeartbeats 4000000
namespace Go.Proofs.YtaipngaejfndgaaGreatDoor.Vcg
variable {nx e k n c off b q i u b1 j cap s1 size by' p:Nat} {v:Value} {R:Env} {L:Lay} {r:C} {src:Src} {f:FuncId} {args cs ds vs vs1 fargs:List C} {fn:Func} {code:Code} {l:Lz} {a:Int} {ps:List (Nat×C)} {KS:St->Prop} {H:List Hf} {rest:List Oper} {dst:Option Tmp} {op:BinOp} {ty t2 t:TypeId} {pos:String} {af:Array Edge} {g:Option (Nat×Bool)} {us:List Operand} {kd:LK} {z1 z2:Option (List Value)} {lo hi mx:Option Int} {k2:IntKind} {lk:List LK} {fp fo:Nat->Option Nat} {place:Nat->Option (Nat×Nat)} {ks1:MK} {fbx:List (List C)} {post:C->List (List C)->Nat->Prop} {P:Program}
section
open Go.RowKit
abbrev Fr:=List (Nat×TypeId×Nat×List (List C)×Nat)
def Ub (nx:Nat):Fr->Nat->Nat->Nat->Nat->Nat->C
 | [],_,_,_,_,_=>.any
 | (i',e,k',rows,cap) :: r,i,off,k,n,c=>if i=i'/\off=0/\k=k'/\n=rows.length/\c=cap then .own nx e k' rows else Ub (nx+1) r i off k n c
theorem xL:∀ (fr:Fr) (nx i off k n c:Nat),Ub nx fr i off k n c = .any∨∃ j e rows,fr[j]?=some (i,e,k,rows,c)/\off=0/\n=rows.length/\Ub nx fr i off k n c = .own (nx+j) e k rows
 | [],nx,i,off,k,n,c=>.inl rfl
 | (i',e,k',rows,cap) :: r,nx,i,off,k,n,c=>by
  unfold Ub;split
  ·rename_i h;obtain ⟨rfl,rfl,rfl,rfl,rfl⟩:=h;exact .inr ⟨0,e,rows,rfl,rfl,rfl,rfl⟩
  ·rcases xL r (nx+1) i off k n c with h | ⟨j,e',rows',h1,h2,h3,h4⟩
   ·exact .inl h
   ·exact .inr ⟨j+1,e',rows',by simpa using h1,h2,h3,by rw[h4,show nx+1+j=nx+(j+1) by omega]⟩
def zcX (fr:Fr) (bx:List (List C)):Prop:=(fr.map (·.1)).Nodup/\∀ x∈fr,∃ cs,bx[x.1]?=some cs/\0<x.2.2.2.2/\x.2.2.2.1.length<=x.2.2.2.2/\x.2.2.2.2<=maxLen/\cs.length=x.2.2.2.2*x.2.2.1/\(∀ r∈x.2.2.2.1,r.length=x.2.2.1)/\(C.frzL cs).take (x.2.2.2.1.length*x.2.2.1)=x.2.2.2.1.flatten
mutual
/-- a result, at the function's end, some boxes being qz into owners -/
def C.fy (nx:Nat) (fr:Fr) (bx:List (List C)):C->C
 | .ptr i off=>if i∈fr.map (·.1) then .any else C.fz bx (.ptr i off)
 | .agg cs=>.agg (C.fyL nx fr bx cs)
 | .tup cs=>.tup (C.fyL nx fr bx cs)
 | .clo fn first cap=>.clo fn (C.fyL nx fr bx first) (C.fyL nx fr bx cap)
 | .bs i off k n c=>Ub nx fr i off k n c
 | .sc v=>.sc v
 | .str l=>.str l
 | .sl k rows=>.sl k rows
 | .tight k rows=>.tight k rows
 | .own id e k rows=>.own id e k rows
 | .mo id t ks vs=>.mo id t ks vs
 | .row cs=>.row cs
 | .any=>.any
def C.fyL (nx:Nat) (fr:Fr) (bx:List (List C)):List C->List C
 | []=>[]
 | c :: r=>c.fy nx fr bx :: C.fyL nx fr bx r
end
def frT (nx:Nat) (fr:Fr) (β:List Nat) (T:Own):Own:=fun id=>if id<nx then T id else match fr[id-nx]? with
 | some (i,e,k,rows,cap)=>(β[i]?).map fun b=>(e,k,.slice (some ⟨b,0,none⟩) rows.length cap)
 | none=>none
def frM (fr:Fr) (β:List Nat) (b o:Nat):Prop:=∃ x∈fr,β[x.1]?=some b/\x.2.2.2.1.length*x.2.2.1<=o
section
variable {P:Program} {G:zo} {E:Ctx} {σ:St}
theorem yw {fr:Fr} {β:List Nat} {T:Own} {id:Nat} (h:frT nx fr β T id=some (e,k,v)) :
  (id<nx/\T id=some (e,k,v))∨(nx<=id/\∃ i rows cap b,fr[id-nx]?=some (i,e,k,rows,cap)/\β[i]?=some b/\v = .slice (some ⟨b,0,none⟩) rows.length cap):=by
 unfold frT at h;split at h
 ·exact .inl ⟨by assumption,h⟩
 ·split at h
  ·rename_i i e' k' rows cap hq;cases hb:β[i]? with
   | none=>rw[hb]at h;cases h
   | some b =>
    rw[hb]at h;cases h;exact .inr ⟨by omega,i,rows,cap,b,hq,hb,rfl⟩
  ·cases h
theorem zmm {R':Env} {L':Loc} {fr:Fr} {bx:List (List C)} {B:Nat->Prop} (ho:ZW B R' L') (hbx:jK R' L' bx) (hβ:∀ b∈L'.β,B b) (hfr:zcX fr bx) {F:Nat->Prop} :
  ZW B ⟨R'.w,fun b o=>R'.M b o/\(b∉L'.β∨frM fr L'.β b o),F⟩ ⟨[],frT nx fr L'.β L'.T⟩:=by
 have hold:∀ id e k v b,L'.T id=some (e,k,v)->v.ownB=some b->b∉L'.β:=fun id e k v b ht hv=>((ho.own id e k v ht).block hv).2.2;refine ⟨fun id e k v ht=>?_,fun id id' e k v e' k' v' b ht ht' hv hv'=>?_⟩
 ·rcases yw ht with ⟨_,ht⟩ | ⟨_,i,rows,cap,b,hf,hb,rfl⟩
  ·exact (ho.own id e k v ht).move fun g _ q2 _ q7=>⟨q2,rfl,by simp,fun o ho=>⟨ho,.inl q7⟩⟩
  ·have hmem:=Wf hf;obtain ⟨cs,c1,c2,c3,c4,c5,c6,c7⟩:=hfr.2 _ hmem;obtain ⟨vs,ty,e1,e2,e3,e4⟩:=hbx.box i b cs hb c1;have hl:=zx e2;exact .inr (.inl ⟨b,rows.length,cap,vs,ty,rfl,hβ b (Wf hb),e1,c3,c4,by simpa [c5] using hl,by simp,fun o ho=>⟨e4 o,.inr ⟨_,hmem,hb,ho⟩⟩⟩)
 ·rcases yw ht with ⟨_,ht⟩ | ⟨g1,i,rows,cap,b1,hf,hb,rfl⟩<;>rcases yw ht' with ⟨_,ht'⟩ | ⟨g1',i',rows',cap',b1',hf',hb',rfl⟩
  ·exact ho.apart id id' e k v e' k' v' b ht ht' hv hv'
  ·cases hv';exact absurd (Wf hb') (hold id e k v _ ht hv)
  ·cases hv;exact absurd (Wf hb) (hold id' e' k' v' _ ht' hv')
  ·cases hv;cases hv';have hii:i=i':=(Ad (Wd.1 hb).1 hbx.nodup).1 (hb.trans hb'.symm);subst hii;have hn:=hfr.1;have h1:(fr.map (·.1))[id-nx]?=some i:=by rw[Ww,hf];rfl
   have h2:(fr.map (·.1))[id'-nx]?=some i:=by rw[Ww,hf'];rfl
   have:=(Ad (Wd.1 h1).1 hn).1 (h1.trans h2.symm);omega
theorem HG {R R2:Env} {L:Loc} {b:Nat} {vs:Array Value} {ty:TypeId} (he:Ext R R2) (hh:R2.w.heap[b]?=some (.cells vs ty (0,0))) {N:Nat} (hM:∀ o,o<N->¬R2.M b o):∀ (cs:List C) (us:List Value) (off:Nat),off+cs.length<=N->zw R L cs us->(∃ z,vs.toList.drop off=us++z)->(∀ v∈us,v.oneCell'=true)->zM R2 (C.frzL cs) b off
 | [],_,_,_,_,_,_=>by unfold C.frzL;exact Jd
 | c :: r,us,off,hN,hr,hd,h1=>by
  obtain ⟨v,us',rfl,g1,g2⟩:=zf.1 hr;obtain ⟨z,hd⟩:=hd;unfold C.frzL;simp only[Wh]at hN;have hv:vs[off]?=some v:=by
   have:=W2 (xs:=vs.toList) (i:=off) (j:=0);rw[hd]at this;simpa using this.symm
  refine ql.2 ⟨⟨v,?_,hM off (by omega),Rep.ext he (zK.refl _) _ _ (g1.frz zJ),h1 v Wj⟩,HG he hh hM r us' (off+1) (by omega) g2 ⟨z,?_⟩ fun x hx=>h1 x (Wk _ hx)⟩
  ·rw[Af R2.w b off vs ty (0,0) hh];exact hv
  ·rw[←Au,hd];rfl
theorem Ma:∀ (n:Nat) (cs:List C),C.frzL (cs.take n)=(C.frzL cs).take n
 | 0,cs=>by simp[C.frzL]
 | n+1,[]=>by simp[C.frzL]
 | n+1,c :: r=>by
  have h:C.frzL (c :: r)=c.frz :: C.frzL r:=by rw[C.frzL]
  rw[Az,h,Az,←Ma n r];rw[C.frzL]
theorem ZZ {R:Env} {b k:Nat}:∀ (rows:List (List C)) (off:Nat),(∀ r∈rows,r.length=k)->zM R rows.flatten b off->zO R rows k b off
 | [],_,_,_=>by unfold zO;trivial
 | row :: r,off,hk,h=>by
  have hrow:=hk row Wj;rw[OQ]at h;unfold zO;refine ⟨hrow,qe fun j c hc=>?_,ZZ r (off+k) (fun x hx=>hk x (Wk _ hx)) (qe fun j c hc=>?_)⟩
  ·exact Je h j c (by rw[Ws (Wd.1 hc).1];exact hc)
  ·have:=Je h (k+j) c (by rw[WM (by omega),hrow,OX];exact hc);rwa [←BY]at this
mutual
theorem Rep.fy {R2:Env} {L:Loc} {bx:List (List C)} {fr:Fr} {F:Nat->Prop} (he:Ext R R2) (hbx:jK R L bx) (h2:R2=⟨R.w,fun b o=>R.M b o/\(b∉L.β∨frM fr L.β b o),F⟩) (hfr:zcX fr bx) (hnx:∀ id,nx<=id->L.T id=none):∀ (c:C) (v:Value),Rep R L c v->Rep R2 ⟨L.β,frT nx fr L.β L.T⟩ (c.fy nx fr bx) v
 | .ptr i off,v,h=>by
  unfold C.fy;split
  ·exact VO
  rename_i hni;unfold C.fz;obtain ⟨b,hb,e⟩:=Jm.1 h;split
  ·rename_i cs hcs;obtain ⟨vs,ty,e1,e2,e3,e4⟩:=hbx.box i b cs hb hcs;refine j9.2 ⟨b,off,e,?_⟩;rw[←kN];refine kf (L:=L) he (by rw[h2];exact e1) (fun o=>?_) _ (vs.toList.drop off) off (qU off e2) rfl fun x hx=>e3 x (WS hx);rw[h2];rintro ⟨_,h3 | ⟨x,hx,hxb,_⟩⟩
   ·exact h3 (Wf hb)
   ·have:=(Ad (Wd.1 hb).1 hbx.nodup).1 (hb.trans hxb.symm);subst this;exact hni (WT.2 ⟨x,hx,rfl⟩)
  ·exact VO
 | .agg cs,_,h=>by
  unfold C.fy;unfold Rep at h ⊢;obtain ⟨vs,e,hl⟩:=h;exact ⟨vs,e,zw.fy he hbx h2 hfr hnx cs _ hl⟩
 | .tup cs,_,h=>by
  unfold C.fy;unfold Rep at h ⊢;obtain ⟨vs,e,hl⟩:=h;exact ⟨vs,e,zw.fy he hbx h2 hfr hnx cs _ hl⟩
 | .clo fn first cap,_,h=>by
  unfold C.fy;unfold Rep at h ⊢;obtain ⟨fs,cs,e,h3,h4⟩:=h;exact ⟨fs,cs,e,zw.fy he hbx h2 hfr hnx first _ h3,zw.fy he hbx h2 hfr hnx cap _ h4⟩
 | .sc v,_,h=>by unfold C.fy;unfold Rep at h ⊢;exact h
 | .str l,_,h=>by unfold C.fy;unfold Rep at h ⊢;exact h
 | .sl k rows,v,h=>by
  unfold C.fy;exact Rep.ext he (zK.none _) (.sl k rows) v (T:=zJ) (by unfold Rep at h ⊢;exact h)
 | .tight k rows,v,h=>by
  unfold C.fy;exact Rep.ext he (zK.none _) (.tight k rows) v (T:=zJ) (by unfold Rep at h ⊢;exact h)
 | .mo id t ks vs,v,h=>by
  unfold C.fy;unfold Rep at h ⊢;obtain ⟨b,vvs,e,ht,hl⟩:=h;refine ⟨b,vvs,e,?_,zw.ext he (zK.refl _) _ _ hl⟩;have hlt:id<nx:=by
   rcases Wr id nx with q | q
   ·exact q
   ·have:=hnx id q;rw[ht]at this;cases this
  show frT nx fr L.β L.T id=_;unfold frT;rw[if_pos hlt];exact ht
 | .own id e k rows,v,h=>by
  unfold C.fy;have h3:=Rep.ext he (zK.none ⟨L.β,frT nx fr L.β L.T⟩) (.sl k rows) v (T:=zJ) (by unfold Rep at h ⊢;exact h.2);unfold Rep at h h3 ⊢;refine ⟨?_,h3⟩;have hlt:id<nx:=by
   rcases Wr id nx with q | q
   ·exact q
   ·have:=hnx id q;rw[h.1]at this;cases this
  show frT nx fr L.β L.T id=_;unfold frT;rw[if_pos hlt];exact h.1
 | .row cs,v,h=>by
  unfold C.fy;exact Rep.ext he (zK.none _) (.row cs) v (T:=zJ) (by unfold Rep at h ⊢;exact h)
 | .bs i off k n c,v,h=>by
  unfold C.fy;obtain ⟨b,hb,ad,e,had⟩:=jo.1 h;rcases xL fr nx i off k n c with hq | ⟨j,e',rows,hj,rfl,rfl,hq⟩
  ·rw[hq];exact VO
  ·rw[hq];have hmem:=Wf hj;obtain ⟨cs,c1,c2,c3,c4,c5,c6,c7⟩:=hfr.2 _ hmem;simp only at c1 c2 c3 c4 c5 c6 c7;obtain ⟨vs,ty,e1,e2,e3,e4⟩:=hbx.box i b cs hb c1;obtain rfl:=had (by omega);unfold Rep;refine ⟨?_,some ⟨b,0,none⟩,c,e,c3,c4,.inr ⟨b,0,rfl,ZZ rows 0 c6 ?_⟩⟩
   ·show frT nx fr L.β L.T (nx+j)=_;unfold frT;rw[if_neg (by omega),OX,hj];simp only[hb,WF,e]
   ·rw[←c7,←Ma];have hlen:(cs.take (rows.length*k)).length=rows.length*k:=by
     rw[W5];have:rows.length*k<=c*k:=WP _ c3;omega
    refine HG (L:=L) (N:=rows.length*k) he (by rw[h2];exact e1) (fun o ho=>?_) _ (vs.toList.take (rows.length*k)) 0 (by omega) (qG _ e2) ⟨vs.toList.drop (rows.length*k),by simp⟩ fun x hx=>e3 x (Wu hx);rw[h2];rintro ⟨_,h3 | ⟨x,hx,hxb,hxo⟩⟩
    ·exact h3 (Wf hb)
    ·have hii:=(Ad (Wd.1 hb).1 hbx.nodup).1 (hb.trans hxb.symm);obtain ⟨j2,hj2,hj2'⟩:=WE hx;have g1:(fr.map (·.1))[j]?=some i:=by rw[Ww,hj];rfl
     have g2:(fr.map (·.1))[j2]?=some i:=by rw[Ww,Wa hj2,hj2',hii];rfl
     have:=(Ad (Wd.1 g1).1 hfr.1).1 (g1.trans g2.symm);subst this;rw[Wa hj2,hj2']at hj;cases hj;simp only at hxo;omega
 | .any,_,h=>by unfold C.fy;exact VO
theorem zw.fy {R2:Env} {L:Loc} {bx:List (List C)} {fr:Fr} {F:Nat->Prop} (he:Ext R R2) (hbx:jK R L bx) (h2:R2=⟨R.w,fun b o=>R.M b o/\(b∉L.β∨frM fr L.β b o),F⟩) (hfr:zcX fr bx) (hnx:∀ id,nx<=id->L.T id=none):∀ (cs:List C) (vs:List Value),zw R L cs vs->zw R2 ⟨L.β,frT nx fr L.β L.T⟩ (C.fyL nx fr bx cs) vs
 | [],_,h=>by unfold C.fyL;rw[zk]at h ⊢;exact h
 | c :: r,_,h=>by
  unfold C.fyL;rw[zf]at h ⊢;obtain ⟨v,us,e,h3,h4⟩:=h;exact ⟨v,us,e,Rep.fy he hbx h2 hfr hnx c v h3,zw.fy he hbx h2 hfr hnx r us h4⟩
end
theorem zkU {R':Env} {L':Loc} {bx:List (List C)} {m:Nat} {c:C} {fr:Fr} (hbel:Below R.w.heap.size R.w R'.w) (hM:∀ b o,b<R.w.heap.size->(R'.M b o↔R.M b o)) (hnew:∀ b∈L'.β,R.w.heap.size<=b) (hb:jK R' L' bx) (ho:ZW (fun g=>R.w.heap.size<=g) R' L')
  (hfree:∀ id,m<=id->L'.T id=none) (hr:Rep R' L' c v) (h:zcX fr bx/\QK src=true/\src.length=n/\CLe src 0 (c.fy m fr bx) r):∃ R2 L2,R2.w=R'.w/\qq 0 n R zJ R2 L2/\Rep R2 L2 r v:=by
 obtain ⟨hfr,h3,h4,h5⟩:=h
 let R2:Env:=⟨R'.w,fun b o=>R'.M b o/\(b∉L'.β∨frM fr L'.β b o),R.F⟩
 have hx2:Ext R' R2:=⟨fun _ _ _ h1 h2=>⟨h1,fun h=>h2 h.1⟩,fun _ _ _ _ h1 h2=>⟨h1,fun o h=>h2 o h.1⟩⟩;have how:=Ur (β':=[]) h3 (fun b hb=>(by cases hb)) (zmm ho hb hnew hfr (nx:=m) (F:=R.F));refine ⟨R2,Jo src 0 ⟨L'.β,frT m fr L'.β L'.T⟩,rfl,⟨hbel,rfl,by simp,fun b o hb=>?_,fun id hi=>?_,fun id e k v hi hj ht=>?_,fun id id' e k v e' k' v' b hi hi2 hj hj2 h6 h7 h8 h9=>?_⟩,Rep.less _ _ _ h5 (Rep.fy hx2 hb rfl hfr hfree _ _ hr)⟩
 ·refine ⟨fun h=>(hM b o hb).1 h.1,fun h=>⟨(hM b o hb).2 h,.inl fun hx=>?_⟩⟩;have:=hnew b hx;omega
 ·show Z8 src _ id=none;unfold Z8;rw[W0 (by omega)]
 ·exact (how.own id e k v ht).move fun g _ q2 _ q7=>⟨q2,rfl,q7,fun _ h=>h⟩
 ·exact how.apart id id' e k v e' k' v' b h6 h7 h8 h9
theorem YW.fun {f:FuncId} {args:List C} {r:C} {n:Nat} {post:C->List (List C)->Nat->Prop} (h:YW P G f args [] 0 post) (hp:∀ c bx m,post c bx m->∃ (fr:Fr) (src:Src),zcX fr bx/\QK src=true/\src.length=n/\CLe src 0 (c.fy m fr bx) r):Fun P G f args r n:=by
 refine ⟨h.1,fun R vs hg hargs=>?_⟩;have hx:Ext R ⟨R.w,R.M,fun _=>False⟩:=⟨fun _ _ _ h1 h2=>⟨h1,h2⟩,fun _ _ _ _ h1 h2=>⟨h1,h2⟩⟩;have hnt:∀ b,¬Xp zJ b:=fun b hb=>by
  rcases hb with hb | ⟨_,_,_,_,ht,_⟩
  ·cases hb
  ·cases ht
 refine (h.2 ⟨R.w,R.M,fun _=>False⟩ zJ vs (hg.ext hx) ⟨rfl,Ah,fun i b cs hi=>(by simp at hi)⟩ ⟨fun id e k v ht=>(by cases ht),fun id id' e k v e' k' v' b ht=>(by cases ht)⟩ (fun _ _=>rfl) (fun _ h=>h.elim) (fun b hb=>absurd hb (hnt b)) (zw.ext hx (zK.refl _) _ _ hargs)).mono ?_;rintro e w' ⟨c,bx,m,⟨hpost,_⟩,v,R',L',rfl,rfl,hn,hbx',how',⟨more,hm1,hm2⟩,hfree',hrep⟩;obtain ⟨fr,src,hq⟩:=hp _ _ _ hpost;have hblk:∀ b,b<R.w.heap.size->R'.w.heap[b]?=R.w.heap[b]?/\∀ o,(R'.M b o↔R.M b o):=fun b hb=>(hn.blk b hb).elim id fun q=>by
  rcases q.1 with q | q
  ·have q:R.w.heap.size<=b:=q;omega
  ·exact absurd q (hnt b)
 obtain ⟨R2,L2,g1,g2,g3⟩:=zkU (R:=R) ⟨hn.os,hn.tape,hn.output,hn.size,fun b hb=>(hblk b hb).1⟩ (fun b o hb=>(hblk b hb).2 o) (fun b hb=>hm2 b (by rw[hm1]at hb;exact hb)) hbx' ⟨fun id e k v ht=>(how'.own id e k v ht).base fun g q=>q.elim (fun q=>q) fun q=>absurd q (hnt g),how'.apart⟩ hfree' hrep hq;exact ⟨v,R2,L2,rfl,g1,g2,g3⟩
theorem Fun.weak {r':C} (h:Fun P G f args r n) (hl:CLe [] 0 r r'):Fun P G f args r' 0:=
 ⟨h.1,fun R vs hg ha=>(h.2 R vs hg ha).mono fun e w'=>by
  rintro ⟨v,R',L',e1,e2,hp,hr⟩;refine ⟨v,R',Jo [] 0 L',e1,e2,⟨hp.below,hp.fgn,by simp,hp.mt,fun id _=>rfl,fun id e k v hi hj=>by omega,fun id id' e k v e' k' v' b hi hj=>by omega⟩,Rep.less _ _ _ hl hr⟩⟩
theorem Fun.of_awpF (b:Nat->List Bool) (hm:P.follows .mixedOrders=true) (hf:P.funcs[f]?=some fn) (hb:fn.body=some code) (hnm:(fn.name == "runtime.NumGoroutine")=false) (hN:args.length<=fn.ntmps) (hok:jI fn.ntmps b code=true)
  (h:awp P G ⟨0,none,b⟩ code (zkK P fn.results.toList fun c σ=>∃ (fr:Fr) (src:Src),zcX fr σ.bx/\QK src=true/\src.length=n/\CLe src 0 (c.fy σ.nx fr σ.bx) r) ⟨Uz 0 args,[],0,0⟩):Fun P G f args r n:=by
 refine ⟨by unfold YL;rw[hf];simp[hnm,hb],fun R vs hg hargs=>?_⟩
 let E:Ctx:=⟨R.w,R.M,[],fun _=>False,fn.ntmps,[],fun _=>False,fun _=>False,fun _ h=>h,fun _ _=>True,fun _ _ _ _ _=>trivial⟩
 let R0:Env:=⟨R.w,R.M,fun _=>False⟩
 have hx:Ext R R0:=⟨fun _ _ _ h1 h2=>⟨h1,h2⟩,fun _ _ _ _ h1 h2=>⟨h1,h2⟩⟩;have hargs0:zw R0 zJ args vs:=zw.ext hx (zK.refl _) _ _ hargs;obtain ⟨i1,i2⟩:=ZB hN hargs0;have hinv:qE G E ⟨Uz 0 args,[],0,0⟩ { tmps:=vs.toArray++Array.replicate (fn.ntmps-vs.toArray.size) undef,defers:=[] } R0 zJ:=
  ⟨⟨⟨hg.ext hx,⟨rfl,Ah,fun i b cs hi=>(by simp at hi)⟩,⟨fun id e k v ht=>(by cases ht),fun id id' e k v e' k' v' b ht=>(by cases ht)⟩,fun g hg=>.inl hg⟩,rfl,rfl,rfl,Wb _,fun _ _ _ _=>⟨rfl,fun _=>Iff.rfl⟩,⟨fun _ _ _ h1 h2=>⟨h1,h2⟩,fun _ _ _ _ h1 h2=>⟨h1,h2⟩⟩,⟨[],rfl⟩,fun b hb=>(by cases hb),fun _ h=>h.elim,fun _ _=>Iff.rfl,fun b hb=>(by cases hb),fun id e k v b ht=>(by cases ht),fun _ _=>rfl,trivial⟩,i1,⟨[],rfl,Ah,fun d hd=>(by cases hd)⟩,i2⟩
 refine Yx (E:=E) (R:=R0) hm hf hb hok rfl rfl (Wc _) (fun y hy=>by cases hy) h hinv ?_;rintro σ' a' R' L' v c ⟨fr,src,hq⟩ hI h2;have hgd:=hI.good;have hblk:∀ b,b<R.w.heap.size->R'.w.heap[b]?=R.w.heap[b]?/\∀ o,(R'.M b o↔R.M b o):=fun b hb=>hgd.blk b hb (fun h=>h) fun hF=>(hgd.fz b hb).1 hF;obtain ⟨R2,L2,g1,g2,g3⟩:=zkU (R:=R) ⟨hgd.os,hgd.tape,hgd.output,hgd.size,fun b hb=>(hblk b hb).1⟩ (fun b o hb=>(hblk b hb).2 o) (fun b hb=>(hgd.tub b hb).elim id fun g=>g.elim) hgd.fit.boxes ⟨fun id e k v ht=>(hgd.fit.owns.own id e k v ht).base fun g q=>q.elim (fun q=>q) fun q=>q.elim,hgd.fit.owns.apart⟩ (fun id hid=>hgd.free id hid) h2 hq;exact ⟨v,R2,L2,rfl,g1,g2,g3⟩
end
end
variable {fr:Fr}
section
open Go
theorem zn9:lay Tryz.prog 3=some { kind:=LK.int IntKind.i64,size:=1,bytes:=8,zero:=some [Value.int IntKind.i64 (Int.ofNat 0)] }:=by kernel_rfl
theorem zsN:lay Tryz.prog 4=some { kind:=LK.bool,size:=1,bytes:=1,zero:=some [Value.bool false] }:=by kernel_rfl
theorem ztg:lay Tryz.prog 5=some { kind:=LK.int IntKind.u8,size:=1,bytes:=1,zero:=some [Value.int IntKind.u8 (Int.ofNat 0)] }:=by kernel_rfl
theorem zq1:lay Tryz.prog 9=some { kind:=LK.str,size:=1,bytes:=16,zero:=some [Value.string ⟨#[]⟩] }:=by kernel_rfl
theorem zsm:lay Tryz.prog 21=some { kind:=LK.int IntKind.i32,size:=1,bytes:=4,zero:=some [Value.int IntKind.i32 (Int.ofNat 0)] }:=by kernel_rfl
theorem Vd:lay Tryz.prog 22=some { kind:=LK.slice 96,size:=1,bytes:=24,zero:=some [Value.slice none 0 0] }:=by kernel_rfl
theorem zrB:lay Tryz.prog 24=some { kind:=LK.struct [(0,1,false),(1,1,false),(2,1,false),(3,1,false)],size:=4,bytes:=48,zero:=some [Value.int IntKind.i64 (Int.ofNat 0),Value.int IntKind.i64 (Int.ofNat 0),Value.int IntKind.i64 (Int.ofNat 0),Value.slice none 0 0] }:=by kernel_rfl
theorem kR:lay Tryz.prog 25=some { kind:=LK.slice 84,size:=1,bytes:=24,zero:=some [Value.slice none 0 0] }:=by kernel_rfl
theorem zrj:lay Tryz.prog 27=some { kind:=LK.struct [(0,1,false),(1,1,false)],size:=2,bytes:=48,zero:=some [Value.slice none 0 0,Value.slice none 0 0] }:=by kernel_rfl
theorem zrc:lay Tryz.prog 29=some { kind:=LK.struct [(0,4,true),(4,2,true)],size:=6,bytes:=96,zero:=some [Value.int IntKind.i64 (Int.ofNat 0),Value.int IntKind.i64 (Int.ofNat 0),Value.int IntKind.i64 (Int.ofNat 0),Value.slice none 0 0,Value.slice none 0 0,Value.slice none 0 0] }:=by kernel_rfl
theorem zkE:lay Tryz.prog 30=some { kind:=LK.slice 9,size:=1,bytes:=24,zero:=some [Value.slice none 0 0] }:=by kernel_rfl
theorem zsp:lay Tryz.prog 34=some { kind:=LK.struct [(0,1,false),(1,1,false),(2,1,false)],size:=3,bytes:=48,zero:=some [Value.int IntKind.i64 (Int.ofNat 0),Value.string ⟨#[]⟩,Value.slice none 0 0] }:=by kernel_rfl
theorem zic:lay Tryz.prog 37=some { kind:=LK.slice 55,size:=1,bytes:=24,zero:=some [Value.slice none 0 0] }:=by kernel_rfl
theorem zr8:lay Tryz.prog 39=some { kind:=LK.struct [(0,1,false),(1,1,false),(2,1,false)],size:=3,bytes:=56,zero:=some [Value.slice none 0 0,Value.slice none 0 0,Value.int IntKind.i64 (Int.ofNat 0)] }:=by kernel_rfl
theorem zrq:lay Tryz.prog 41=some { kind:=LK.struct [(0,6,true),(6,3,true),(9,1,false)],size:=10,bytes:=160,zero:=some [Value.int IntKind.i64 (Int.ofNat 0),Value.int IntKind.i64 (Int.ofNat 0),Value.int IntKind.i64 (Int.ofNat 0),Value.slice none 0 0,Value.slice none 0 0,Value.slice none 0 0,Value.slice none 0 0,Value.slice none 0 0,Value.int IntKind.i64 (Int.ofNat 0),Value.int IntKind.i64 (Int.ofNat 0)] }:=by kernel_rfl
theorem zh9:lay Tryz.prog 55=some { kind:=LK.struct [(0,1,false),(1,1,false),(2,1,false),(3,1,false),(4,1,false)],size:=5,bytes:=64,zero:=some [Value.int IntKind.i64 (Int.ofNat 0),Value.int IntKind.i64 (Int.ofNat 0),Value.string ⟨#[]⟩,Value.string ⟨#[]⟩,Value.string ⟨#[]⟩] }:=by kernel_rfl
theorem zrz:lay Tryz.prog 71=some { kind:=LK.int IntKind.i64,size:=1,bytes:=8,zero:=some [Value.int IntKind.i64 (Int.ofNat 0)] }:=by kernel_rfl
theorem kK:lay Tryz.prog 84=some { kind:=LK.struct [(0,1,false),(1,1,false),(2,1,false),(3,1,false)],size:=4,bytes:=40,zero:=some [Value.int IntKind.i64 (Int.ofNat 0),Value.int IntKind.i64 (Int.ofNat 0),Value.bool false,Value.string ⟨#[]⟩] }:=by kernel_rfl
theorem zrE:lay Tryz.prog 91=some { kind:=LK.struct [(0,1,false),(1,1,false),(2,1,false)],size:=3,bytes:=32,zero:=some [Value.int IntKind.i64 (Int.ofNat 0),Value.string ⟨#[]⟩,Value.int IntKind.i64 (Int.ofNat 0)] }:=by kernel_rfl
theorem QU:lay Tryz.prog 94=some { kind:=LK.slice 141,size:=1,bytes:=24,zero:=some [Value.slice none 0 0] }:=by kernel_rfl
theorem VK:lay Tryz.prog 96=some { kind:=LK.struct [(0,1,false),(1,1,false),(2,1,false),(3,1,false),(4,1,false),(5,1,false)],size:=6,bytes:=72,zero:=some [Value.int IntKind.i64 (Int.ofNat 0),Value.int IntKind.i64 (Int.ofNat 0),Value.int IntKind.i64 (Int.ofNat 0),Value.string ⟨#[]⟩,Value.int IntKind.i64 (Int.ofNat 0),Value.slice none 0 0] }:=by kernel_rfl
theorem zoJ:lay Tryz.prog 108=some { kind:=LK.other,size:=1,bytes:=8,zero:=some [Value.nilFunc] }:=by kernel_rfl
theorem zqX:lay Tryz.prog 120=some { kind:=LK.struct [(0,1,false),(1,1,false),(2,1,false)],size:=3,bytes:=40,zero:=some [Value.bool false,Value.slice none 0 0,Value.bool false] }:=by kernel_rfl
theorem Yf:lay Tryz.prog 141=some { kind:=LK.struct [(0,1,false),(1,1,false)],size:=2,bytes:=24,zero:=some [Value.string ⟨#[]⟩,Value.int IntKind.i64 (Int.ofNat 0)] }:=by kernel_rfl
theorem zo2:lay Tryz.prog 164=some { kind:=LK.slice 5,size:=1,bytes:=24,zero:=some [Value.slice none 0 0] }:=by kernel_rfl
theorem zoQ:lay Tryz.prog 165=some { kind:=LK.slice 30,size:=1,bytes:=24,zero:=some [Value.slice none 0 0] }:=by kernel_rfl
theorem zpt:lay Tryz.prog 184=some { kind:=LK.struct [(0,4,true),(4,1,false),(5,1,false),(6,1,false),(7,3,true),(10,1,false)],size:=11,bytes:=120,zero:=some [Value.int IntKind.i64 (Int.ofNat 0),Value.int IntKind.i64 (Int.ofNat 0),Value.int IntKind.i64 (Int.ofNat 0),Value.slice none 0 0,Value.bool false,Value.bool false,Value.slice none 0 0,Value.int IntKind.i64 (Int.ofNat 0),Value.string ⟨#[]⟩,Value.int IntKind.i64 (Int.ofNat 0),Value.int IntKind.i64 (Int.ofNat 0)] }:=by kernel_rfl
theorem zoa:lay Tryz.prog 198=some { kind:=LK.slice 37,size:=1,bytes:=24,zero:=some [Value.slice none 0 0] }:=by kernel_rfl
theorem zoA:lay Tryz.prog 202=some { kind:=LK.struct [(0,1,false),(1,1,false),(2,1,false)],size:=3,bytes:=40,zero:=some [Value.string ⟨#[]⟩,Value.string ⟨#[]⟩,Value.int IntKind.i64 (Int.ofNat 0)] }:=by kernel_rfl
theorem zoh:lay Tryz.prog 203=some { kind:=LK.array 6 202,size:=18,bytes:=240,zero:=some [Value.string ⟨#[]⟩,Value.string ⟨#[]⟩,Value.int IntKind.i64 (Int.ofNat 0),Value.string ⟨#[]⟩,Value.string ⟨#[]⟩,Value.int IntKind.i64 (Int.ofNat 0),Value.string ⟨#[]⟩,Value.string ⟨#[]⟩,Value.int IntKind.i64 (Int.ofNat 0),Value.string ⟨#[]⟩,Value.string ⟨#[]⟩,Value.int IntKind.i64 (Int.ofNat 0),Value.string ⟨#[]⟩,Value.string ⟨#[]⟩,Value.int IntKind.i64 (Int.ofNat 0),Value.string ⟨#[]⟩,Value.string ⟨#[]⟩,Value.int IntKind.i64 (Int.ofNat 0)] }:=by kernel_rfl
theorem zqJ:lay Tryz.prog 204=some { kind:=LK.array 23 9,size:=23,bytes:=368,zero:=some [Value.string ⟨#[]⟩,Value.string ⟨#[]⟩,Value.string ⟨#[]⟩,Value.string ⟨#[]⟩,Value.string ⟨#[]⟩,Value.string ⟨#[]⟩,Value.string ⟨#[]⟩,Value.string ⟨#[]⟩,Value.string ⟨#[]⟩,Value.string ⟨#[]⟩,Value.string ⟨#[]⟩,Value.string ⟨#[]⟩,Value.string ⟨#[]⟩,Value.string ⟨#[]⟩,Value.string ⟨#[]⟩,Value.string ⟨#[]⟩,Value.string ⟨#[]⟩,Value.string ⟨#[]⟩,Value.string ⟨#[]⟩,Value.string ⟨#[]⟩,Value.string ⟨#[]⟩,Value.string ⟨#[]⟩,Value.string ⟨#[]⟩] }:=by kernel_rfl
theorem zqt:lay Tryz.prog 218=some { kind:=LK.int IntKind.u64,size:=1,bytes:=8,zero:=some [Value.int IntKind.u64 (Int.ofNat 0)] }:=by kernel_rfl
theorem zoE:lay Tryz.prog 222=some { kind:=LK.struct [(0,1,false),(1,1,false),(2,1,false)],size:=3,bytes:=3,zero:=some [Value.bool false,Value.bool false,Value.bool false] }:=by kernel_rfl
theorem zqI:lay Tryz.prog 223=some { kind:=LK.array 11 222,size:=33,bytes:=33,zero:=some [Value.bool false,Value.bool false,Value.bool false,Value.bool false,Value.bool false,Value.bool false,Value.bool false,Value.bool false,Value.bool false,Value.bool false,Value.bool false,Value.bool false,Value.bool false,Value.bool false,Value.bool false,Value.bool false,Value.bool false,Value.bool false,Value.bool false,Value.bool false,Value.bool false,Value.bool false,Value.bool false,Value.bool false,Value.bool false,Value.bool false,Value.bool false,Value.bool false,Value.bool false,Value.bool false,Value.bool false,Value.bool false,Value.bool false] }:=by kernel_rfl
theorem zp1:lay Tryz.prog 231=some { kind:=LK.slice 3,size:=1,bytes:=24,zero:=some [Value.slice none 0 0] }:=by kernel_rfl
theorem zol:lay Tryz.prog 244=some { kind:=LK.array 14 9,size:=14,bytes:=224,zero:=some [Value.string ⟨#[]⟩,Value.string ⟨#[]⟩,Value.string ⟨#[]⟩,Value.string ⟨#[]⟩,Value.string ⟨#[]⟩,Value.string ⟨#[]⟩,Value.string ⟨#[]⟩,Value.string ⟨#[]⟩,Value.string ⟨#[]⟩,Value.string ⟨#[]⟩,Value.string ⟨#[]⟩,Value.string ⟨#[]⟩,Value.string ⟨#[]⟩,Value.string ⟨#[]⟩] }:=by kernel_rfl
theorem zpH:lay Tryz.prog 251=some { kind:=LK.struct [(0,1,false),(1,1,false)],size:=2,bytes:=48,zero:=some [Value.slice none 0 0,Value.slice none 0 0] }:=by kernel_rfl
theorem zpK:lay Tryz.prog 252=some { kind:=LK.slice 251,size:=1,bytes:=24,zero:=some [Value.slice none 0 0] }:=by kernel_rfl
theorem zpv:lay Tryz.prog 261=some { kind:=LK.other,size:=1,bytes:=8,zero:=some [Value.nilFunc] }:=by kernel_rfl
theorem zqM:lay Tryz.prog 276=some { kind:=LK.other,size:=1,bytes:=8,zero:=some [Value.nilFunc] }:=by kernel_rfl
theorem zse:HM Tryz.prog 7=some [LK.int IntKind.i64,LK.int IntKind.i64,LK.bool,LK.int IntKind.u8]:=by kernel_rfl
theorem zrH:HM Tryz.prog 8=some [LK.int IntKind.i64,LK.int IntKind.i64,LK.bool,LK.int IntKind.u8]:=by kernel_rfl
theorem zp0:HM Tryz.prog 54=some [LK.int IntKind.i64,LK.int IntKind.i64,LK.str,LK.str,LK.str]:=by kernel_rfl
theorem zqa:HM Tryz.prog 55=some [LK.int IntKind.i64,LK.int IntKind.i64,LK.str,LK.str,LK.str]:=by kernel_rfl
theorem zpg:HM Tryz.prog 83=some [LK.int IntKind.i64,LK.int IntKind.i64,LK.bool,LK.str]:=by kernel_rfl
theorem zph:HM Tryz.prog 84=some [LK.int IntKind.i64,LK.int IntKind.i64,LK.bool,LK.str]:=by kernel_rfl
theorem zpr:HM Tryz.prog 90=some [LK.int IntKind.i64,LK.str,LK.int IntKind.i64]:=by kernel_rfl
theorem zp2:HM Tryz.prog 91=some [LK.int IntKind.i64,LK.str,LK.int IntKind.i64]:=by kernel_rfl
theorem zlx:HM Tryz.prog 140=some [LK.str,LK.int IntKind.i64]:=by kernel_rfl
theorem znQ:HM Tryz.prog 141=some [LK.str,LK.int IntKind.i64]:=by kernel_rfl
theorem zl5:HM Tryz.prog 201=some [LK.str,LK.str,LK.int IntKind.i64]:=by kernel_rfl
theorem zlO:HM Tryz.prog 202=some [LK.str,LK.str,LK.int IntKind.i64]:=by kernel_rfl
theorem zmJ:HM Tryz.prog 221=some [LK.bool,LK.bool,LK.bool]:=by kernel_rfl
theorem znu:HM Tryz.prog 222=some [LK.bool,LK.bool,LK.bool]:=by kernel_rfl
theorem zl1:HM Tryz.prog 285=some [LK.int IntKind.u8,LK.int IntKind.u8]:=by kernel_rfl
theorem zmg:HM Tryz.prog 286=some [LK.int IntKind.u8,LK.int IntKind.u8]:=by kernel_rfl
theorem zl8:zhr Tryz.prog 196=some (MKd.int IntKind.i64,C.sc Value.nilFunc):=by kernel_rfl
attribute [push_cast] zn9 zsN ztg zq1 zsm Vd zrB kR zrj zrc zkE zsp zic zr8 zrq zh9 zrz kK zrE QU VK zoJ zqX Yf zo2 zoQ zpt zoa zoA zoh zqJ zqt zoE zqI zp1 zol zpH zpK zpv zqM zse zrH zp0 zqa zpg zph zpr zp2 zlx znQ zl5 zlO zmJ znu zl1 zmg zl8
end
section
open Go.RowKit
section
variable {P:Program} {G:zo} {σ σ':St} {N p lg m:Nat} {h:Hd} {yd:Option Yd} {brs:List Bool} {bf:Nat->List Bool} {bx bx':List (List C)} {ops:Array Oper} {c c' d d':C} {t t':TypeId} {K:C->Prop} {K2:C->Nat->Prop} {K3:C->St->Prop} {nx:Nat} {tm:List (Nat×C)} {x y z:Operand} {Q:Exit->St->Prop} {X Y:Prop}
def uS (P:Program) (G:zo) (f:FuncId) (args:List C) (nx:Nat) (K:C->Nat->Prop):Prop:=∃ r n,Fun P G f args r n/\K (r.sh nx) (nx+n)
theorem uS.mk (h:Fun P G f args r n) (hK:K2 (r.sh nx) (nx+n)):uS P G f args nx K2:=⟨r,n,h,hK⟩
def zod (P:Program) (G:zo) (f:FuncId) (args fargs:List C) (σ:St) (K:C->St->Prop):Prop:=
 (∃ r n,Fun P G f fargs r n/\K (r.sh σ.nx) ⟨σ.tm,σ.bx,σ.nx+n,σ.lg⟩)∨yT P G f args σ K∨zkJ P G f args σ K∨kU P G f args σ K∨zfx P f args σ K
def aGd (d:Option Tmp) (tm:List (Nat×C)) (want:Bool) (X Y:Prop):Prop:=match d with
 | some d=>match want with
  | true=>zld (jN tm d) Y X Y
  | false=>zld (jN tm d) Y Y X
 | none=>False
def zoS (L:Option Lay) (c:C) (bx:List (List C)) (K:C->Prop):Prop:=
 match L with
 | none=>False
 | some L=>match c with
  | .ptr i off=>match bx[i]? with
   | some cs=>J6 L (cs.drop off) K
   | none=>False
  | .row cs=>J6 L cs K
  | _=>False
def zor (cs:Option (List C)) (off:Nat) (L:Lay) (K:C->Prop):Prop:=match cs with | some cs=>J6 L (cs.drop off) K | none=>False
def zr1 (x:Option C) (K:C->Prop):Prop:=match x with | some c=>K c | none=>False
def yi (L:Option Lay) (c:C) (f:Nat) (K:C->Prop):Prop:=
 match L with
 | some ⟨.struct fs,_,_,_⟩=>match fs[f]?,c with
  | some (off,size,agg),.agg cs =>
   if agg then off+size<=cs.length/\K (.agg ((cs.drop off).take size)) else match cs[off]? with
    | some c=>K c
    | none=>False
  | _,_=>False
 | _=>False
def UT (f:Option (Nat×Nat×Bool)) (cs:List C) (K:C->Prop):Prop:=
 match f with
 | some (off,size,agg)=>if agg then off+size<=cs.length/\K (.agg ((cs.drop off).take size)) else match cs[off]? with
    | some c=>K c
    | none=>False
 | none=>False
def zsO (L:Option Lay) (c:C) (f:Nat) (K:C->Prop):Prop:=
 match L with
 | some ⟨.struct fs,_,_,_⟩=>match fs[f]?,c with
  | some (off,size,_),.ptr i o=>if size=0 then False else K (.ptr i (o+off))
  | some (off,size,_),.row cs=>if size=0 then False else K (.row (cs.drop off))
  | _,_=>False
 | _=>False
def zpI (f:Option (Nat×Nat×Bool)) (c:C) (K:C->Prop):Prop:=
 match f,c with
  | some (off,size,_),.ptr i o=>if size=0 then False else K (.ptr i (o+off))
  | some (off,size,_),.row cs=>if size=0 then False else K (.row (cs.drop off))
  | _,_=>False
def ztn (P:Program) (L:Option Lay) (c:C) (i:C) (K:C->Prop):Prop:=
 match L,i with
 | some ⟨.slice e,_,_,_⟩,.sc (.int _ n)=>match lay P e with
  | some L=>match c with
   | .bs j off k m _=>k=L.size/\0<=n/\n<(m:Int)/\K (.ptr j (off+n.toNat*L.size))
   | c=>match c.rows? L.size with
    | some rows=>match rows[n.toNat]? with
     | some r=>0<=n/\K (.row r)
     | none=>False
    | none=>False
  | none=>False
 | some ⟨.array (m+1) e,_,_,_⟩,.sc (.int _ n)=>match lay P e with
  | some L=>match c with
   | .ptr j off=>0<=n/\n<((m+1:Nat):Int)/\K (.ptr j (off+n.toNat*L.size))
   | .row cs=>0<=n/\n<((m+1:Nat):Int)/\K (.row (cs.drop (n.toNat*L.size)))
   | _=>False
  | none=>False
 | _,_=>False
def zs8 (L:Option Lay) (c:C) (n:Int) (K:C->Prop):Prop:=
 match L with
  | some L=>match c with
   | .bs j off k m _=>k=L.size/\0<=n/\n<(m:Int)/\K (.ptr j (off+n.toNat*L.size))
   | c=>match c.rows? L.size with
    | some rows=>match rows[n.toNat]? with
     | some r=>0<=n/\K (.row r)
     | none=>False
    | none=>False
  | none=>False
def ztv (rows:Option (List (List C))) (n:Int) (K:C->Prop):Prop:=
 match rows with
   | some rows=>match rows[n.toNat]? with
    | some r=>0<=n/\K (.row r)
    | none=>False
   | none=>False
def aAt (r:Option (List C)) (n:Int) (K:C->Prop):Prop:=match r with | some r=>0<=n/\K (.row r) | none=>False
def ztq (L:Option Lay) (c:C) (m:Nat) (n:Int) (K:C->Prop):Prop:=
 match L with
  | some L=>match c with
   | .ptr j off=>0<=n/\n<((m+1:Nat):Int)/\K (.ptr j (off+n.toNat*L.size))
   | .row cs=>0<=n/\n<((m+1:Nat):Int)/\K (.row (cs.drop (n.toNat*L.size)))
   | _=>False
  | none=>False
def zrO (L:Option Lay) (c i:C) (K:C->Prop):Prop:=
 match L,c,i with
 | some ⟨.str,_,_,_⟩,.str l,.sc (.int _ n)=>match l[n.toNat]? with
  | some b=>0<=n/\K (.sc (.int .u8 (b.toNat:Int)))
  | none=>False
 | _,_,_=>False
def zlu (b:Option UInt8) (n:Int) (K:C->Prop):Prop:=match b with | some b=>0<=n/\K (.sc (.int .u8 (b.toNat:Int))) | none=>False
def zsC (P:Program) (L:Option Lay) (c:C) (lo hi mx:Option Int) (K:C->Prop):Prop:=
   match L with
    | some ⟨.str,_,_,_⟩=>match c,mx with
      | .str l,none=>j0 l.length lo hi/\K (.str (cut l lo hi))
      | _,_=>False
    | some ⟨.slice e,_,_,_⟩=>match lay P e with
      | some L=>match c with
        | .bs i off k n cap=>znr L.size i off k n cap lo hi mx K
        | .sc (.slice none 0 0)=>zon L.size lo hi mx K
        | c=>match c.rows? L.size with
          | some rows=>match mx,hi with
            | none,_=>j0 rows.length lo hi/\K (.sl L.size (cut rows lo hi))
            | some m,some h=>m=h/\j0 rows.length lo hi/\K (.tight L.size (cut rows lo hi))
            | some _,none=>False
          | none=>False
      | none=>False
    | _=>False
def zth (P:Program) (t:TypeId) (c:C) (lo hi mx:Option (Option Int)) (K:C->Prop):Prop:=
 match lo,hi,mx with
 | some lo,some hi,some mx=>zsC P (lay P t) c lo hi mx K
 | _,_,_=>False
def ztj (L:Option Lay) (c:C) (lo hi mx:Option Int) (K:C->Prop):Prop:=
 match L with
   | some L=>match c with
    | .bs i off k n cap=>znr L.size i off k n cap lo hi mx K
    | .sc (.slice none 0 0)=>zon L.size lo hi mx K
    | c=>match c.rows? L.size with
     | some rows=>match mx,hi with
      | none,_=>j0 rows.length lo hi/\K (.sl L.size (cut rows lo hi))
      | some m,some h=>m=h/\j0 rows.length lo hi/\K (.tight L.size (cut rows lo hi))
      | some _,none=>False
     | none=>False
   | none=>False
def zs0 (rows:Option (List (List C))) (k:Nat) (lo hi mx:Option Int) (K:C->Prop):Prop:=
 match rows with
    | some rows=>match mx,hi with
     | none,_=>j0 rows.length lo hi/\K (.sl k (cut rows lo hi))
     | some m,some h=>m=h/\j0 rows.length lo hi/\K (.tight k (cut rows lo hi))
     | some _,none=>False
    | none=>False
def zfb (rows:Option (List (List C))) (K:C->Prop):Prop:=match rows with | some rows=>∃ l,rows=JJ l/\K (.str l) | none=>False
theorem zfb.mk {rows:List (List C)} (l:Lz) (h:rows=JJ l) (hK:K (.str l)):zfb (some rows) K:=⟨l,h,hK⟩
def zs4 (P:Program) (D S:Option Lay) (c:C) (K:C->Prop):Prop:=
 match D with
 | some ⟨.int k,_,_,_⟩=>match c with
  | .sc (.int _ n)=>match S with | some _=>inR k n/\K (.sc (.int k n)) | none=>False
  | _=>False
 | some ⟨.str,_,_,_⟩=>match S with
  | some ⟨.str,_,_,_⟩=>match c with
   | .str l=>K (.str l)
   | _=>False
  | some ⟨.slice e,_,_,_⟩=>match lay P e with
   | some ⟨.int .u8,_,_,_⟩=>match c.rows? 1 with
    | some rows=>∃ l,rows=JJ l/\K (.str l)
    | none=>False
   | _=>False
  | some ⟨.int _,_,_,_⟩=>match c with
   | .sc (.int _ n)=>K (.str (Utf8.encode n).data.toList)
   | _=>False
  | _=>False
 | some ⟨.slice e,_,_,_⟩=>match S,lay P e with
  | some ⟨.str,_,_,_⟩,some ⟨.int .u8,_,_,_⟩=>match c with
   | .str l=>((l.length:Nat):Int)<=9223372036854775807/\K (.sl 1 (JJ l))
   | _=>False
  | _,_=>False
 | _=>False
def zsQ (L:Option Lay) (c:C) (K:C->Prop):Prop:=
 match L with
   | some ⟨.int .u8,_,_,_⟩=>match c.rows? 1 with
    | some rows=>∃ l,rows=JJ l/\K (.str l)
    | none=>False
   | _=>False
def zri (L:Option Lay) (c:C) (K:C->Prop):Prop:=
 match L,c with
 | some ⟨.slice _,_,_,_⟩,.bs _ _ _ _ c=>K (.sc (.int .i64 (c:Int)))
 | some ⟨.slice _,_,_,_⟩,.sc (.slice none 0 0)=>K (.sc (.int .i64 0))
 | _,_=>False
def zq7 (L:Option Lay) (n:Int) (K:C->Prop):Prop:=match L with | some ⟨.slice _,_,_,_⟩=>K (.sc (.int .i64 n)) | _=>False
def zrs (L:Option Lay) (n:Int) (K:C->Prop):Prop:=match L with | some ⟨.str,_,_,_⟩=>K (.sc (.int .i64 n)) | _=>False
def zra (L:Option Lay) (parts:List (Nat×C)) (K:C->Prop):Prop:=
 match L with
 | some ⟨.struct fs,_,_,some z⟩=>(parts.all fun p=>p.2.partB)=true/\match YX (fun i=>(fs[i]?).map fun f=>(f.1,f.2.1)) (z.map zA) parts with
  | some cs=>K (.agg cs)
  | none=>False
 | _=>False
def aFl (cs:Option (List C)) (K:C->Prop):Prop:=match cs with | some cs=>K (.agg cs) | none=>False
def plS (fs:List (Nat×Nat×Bool)) (i:Nat):Option (Nat×Nat):=(fs[i]?).map fun f=>(f.1,f.2.1)
def plA (k:Nat) (i:Nat):Option (Nat×Nat):=some (i*k,k)
def zk7 (pl:Option (Nat×Nat)) (place:Nat->Option (Nat×Nat)) (cs:List C) (c:List C) (rest:List (Nat×C)):Option (List C):=
 match pl with
  | none=>none
  | some (off,size)=>if c.length=size/\off+size<=cs.length then YX place (cs.take off++c++cs.drop (off+size)) rest else none
def ztt (P:Program) (L:Option Lay) (n:Nat) (parts:List (Nat×C)) (nx:Nat) (K:C->Nat->Prop):Prop:=
 match L with
 | some ⟨.slice e,_,_,_⟩=>match lay P e with
  | some ⟨_,k,_,some z⟩=>z.length=k/\0<k/\n*k<=16777216/\(parts.all fun p=>p.2.frz.partB)=true/\match YX (fun i=>some (i*k,k)) (List.replicate n (z.map zA)).flatten (parts.map fun p=>(p.1,p.2.frz)) with
   | some cs=>(cs.all C.cellB)=true/\cs.length=n*k/\K (.own nx e k (QI k n cs)) (nx+1)
   | none=>False
  | _=>False
 | _=>False
def zsF (L:Option Lay) (e:TypeId) (n:Nat) (parts:List (Nat×C)) (nx:Nat) (K:C->Nat->Prop):Prop:=
   match L with
    | some ⟨_,k,_,some z⟩=>z.length=k/\0<k/\n*k<=16777216/\(parts.all fun p=>p.2.frz.partB)=true/\match YX (fun i=>some (i*k,k)) (List.replicate n (z.map zA)).flatten (parts.map fun p=>(p.1,p.2.frz)) with
      | some cs=>(cs.all C.cellB)=true/\cs.length=n*k/\K (.own nx e k (QI k n cs)) (nx+1)
      | none=>False
    | _=>False
def zs9 (cs:Option (List C)) (e k n nx:Nat) (K:C->Nat->Prop):Prop:=
 match cs with
   | some cs=>(cs.all C.cellB)=true/\cs.length=n*k/\K (.own nx e k (QI k n cs)) (nx+1)
   | none=>False
def zti (P:Program) (L:Option Lay) (l c:C) (nx:Nat) (K:C->Nat->Prop):Prop:=
 match L,l,c with
 | some ⟨.slice e,_,_,_⟩,.sc (.int _ l),.sc (.int _ c)=>match lay P e with
  | some ⟨_,k,by',some z⟩=>z.length=k/\0<k/\(z.all Value.oneCell')=true/\0<=l/\l<=c/\(by':Int)*c<=281474976710656/\c<=9223372036854775807/\K (.own nx e k (List.replicate l.toNat (z.map zA))) (nx+1)
  | _=>False
 | _,_,_=>False
def ztf (L:Option Lay) (e:TypeId) (l c:Int) (nx:Nat) (K:C->Nat->Prop):Prop:=
 match L with
  | some ⟨_,k,by',some z⟩=>z.length=k/\0<k/\(z.all Value.oneCell')=true/\0<=l/\l<=c/\(by':Int)*c<=281474976710656/\c<=9223372036854775807/\K (.own nx e k (List.replicate l.toNat (z.map zA))) (nx+1)
  | _=>False
def zre (P:Program) (L:Option Lay) (l c:C) (σ:St) (K:C->St->Prop):Prop:=
 match L,l,c with
 | some ⟨.slice e,_,_,_⟩,.sc (.int _ l),.sc (.int _ c)=>match lay P e with
  | some ⟨_,k,by',some z⟩=>z.length=k/\0<k/\(z.all Value.oneCell')=true/\0<=l/\l<=c/\(by':Int)*c<=281474976710656/\c<=9223372036854775807/\K (.bs σ.bx.length 0 k l.toNat c.toNat) ⟨σ.tm,σ.bx++[(List.replicate c.toNat (z.map zA)).flatten],σ.nx,σ.lg⟩
  | _=>False
 | _,_,_=>False
def zrk (L:Option Lay) (l c:Int) (σ:St) (K:C->St->Prop):Prop:=
 match L with
  | some ⟨_,k,by',some z⟩=>z.length=k/\0<k/\(z.all Value.oneCell')=true/\0<=l/\l<=c/\(by':Int)*c<=281474976710656/\c<=9223372036854775807/\K (.bs σ.bx.length 0 k l.toNat c.toNat) ⟨σ.tm,σ.bx++[(List.replicate c.toNat (z.map zA)).flatten],σ.nx,σ.lg⟩
  | _=>False
def zsH (P:Program) (L:Option Lay) (s x:C) (nx:Nat) (K:C->Nat->Prop):Prop:=
 match L with
 | some ⟨.slice e,_,_,_⟩=>match lay P e with
  | some ⟨_,k,by',some z⟩=>match x.rows? k with
   | some xs=>match s with
    | .sc (.slice none 0 0)=>z.length=k/\0<k/\xs.length<=9223372036854775807/\xs.length*by'<=140737488355328/\K (.own nx e k xs) (nx+1)
    | .tight k' rows=>k'=k/\z.length=k/\0<k/\rows.length+xs.length<=9223372036854775807/\(rows.length+xs.length)*by'<=140737488355328/\(xs = []->K (.tight k' rows) nx)/\(xs≠[]->K (.own nx e k (rows++xs)) (nx+1))
    | _=>False
   | none=>False
  | _=>False
 | _=>False
def zsS (L:Option Lay) (e:TypeId) (s x:C) (nx:Nat) (K:C->Nat->Prop):Prop:=
  match L with
  | some ⟨_,k,by',some z⟩=>match x.rows? k with
   | some xs=>match s with
    | .sc (.slice none 0 0)=>z.length=k/\0<k/\xs.length<=9223372036854775807/\xs.length*by'<=140737488355328/\K (.own nx e k xs) (nx+1)
    | .tight k' rows=>k'=k/\z.length=k/\0<k/\rows.length+xs.length<=9223372036854775807/\(rows.length+xs.length)*by'<=140737488355328/\(xs = []->K (.tight k' rows) nx)/\(xs≠[]->K (.own nx e k (rows++xs)) (nx+1))
    | _=>False
   | none=>False
  | _=>False
def zs6 (xs:Option (List (List C))) (s:C) (e k by':Nat) (z:List Value) (nx:Nat) (K:C->Nat->Prop):Prop:=
 match xs with
   | some xs=>match s with
    | .sc (.slice none 0 0)=>z.length=k/\0<k/\xs.length<=9223372036854775807/\xs.length*by'<=140737488355328/\K (.own nx e k xs) (nx+1)
    | .tight k' rows=>k'=k/\z.length=k/\0<k/\rows.length+xs.length<=9223372036854775807/\(rows.length+xs.length)*by'<=140737488355328/\(xs = []->K (.tight k' rows) nx)/\(xs≠[]->K (.own nx e k (rows++xs)) (nx+1))
    | _=>False
   | none=>False
def zsX (P:Program) (L:Option Lay) (id e k:Nat) (rows:List (List C)) (x:C) (σ:St) (K:C->St->Prop):Prop:=
   match L with
    | some ⟨.slice e',_,_,_⟩=>match lay P e with
      | some ⟨_,k',by',some z⟩=>match x.rows? k with
        | some xs=>e'=e/\k'=k/\z.length=k/\0<k/\rows.length+xs.length<=9223372036854775807/\(rows.length+xs.length)*by'<=140737488355328/\K (.own id e k (rows++xs)) ⟨zbT id σ.tm,yf id σ.bx,σ.nx,σ.lg⟩
        | none=>False
      | _=>False
    | _=>False
def zrf (L:Option Lay) (e' id e k:Nat) (rows:List (List C)) (x:C) (σ:St) (K:C->St->Prop):Prop:=
  match L with
   | some ⟨_,k',by',some z⟩=>match x.rows? k with
    | some xs=>e'=e/\k'=k/\z.length=k/\0<k/\rows.length+xs.length<=9223372036854775807/\(rows.length+xs.length)*by'<=140737488355328/\K (.own id e k (rows++xs)) ⟨zbT id σ.tm,yf id σ.bx,σ.nx,σ.lg⟩
    | none=>False
   | _=>False
def zrD (xs:Option (List (List C))) (by' id e k:Nat) (rows:List (List C)) (σ:St) (K:C->St->Prop):Prop:=
   match xs with
        | some xs=>rows.length+xs.length<=9223372036854775807/\(rows.length+xs.length)*by'<=140737488355328/\K (.own id e k (rows++xs)) ⟨zbT id σ.tm,yf id σ.bx,σ.nx,σ.lg⟩
        | none=>False
def zsR (L:Option Lay) (σ:St) (K:C->St->Prop):Prop:=
 match L with
 | some ⟨_,_,_,some z⟩=>(z.all Value.oneCell')=true/\K (.ptr σ.bx.length 0) ⟨σ.tm,σ.bx++[z.map zA],σ.nx,σ.lg⟩
 | _=>False
def zsG (L:Option Lay) (p c:C) (bx:List (List C)) (K:C->Prop):Prop:=
 match L,p with
 | some L,.ptr i off=>match bx[i]? with
  | some cs=>c.partB=true/\(c.cells.all C.cellB)=true/\c.cells.length=L.size/\off+L.size<=cs.length/\Ua ((cs.drop off).take L.size) c.cells/\K .any
  | none=>False
 | _,_=>False
def zsI (cs:Option (List C)) (off size:Nat) (c:C) (K:C->Prop):Prop:=
 match cs with
  | some cs=>c.partB=true/\(c.cells.all C.cellB)=true/\c.cells.length=size/\off+size<=cs.length/\Ua ((cs.drop off).take size) c.cells/\K .any
  | none=>False
def zsK (L:Option Lay) (p c:C) (σ:St) (K:C->St->Prop):Prop:=
 match L,p with
 | some L,.ptr i off=>match σ.bx[i]? with
  | some cs=>c.partB=true/\(c.cells.all C.cellB)=true/\c.cells.length=L.size/\off+L.size<=cs.length/\K .any ⟨σ.tm,σ.bx.set i (cs.take off++c.cells++cs.drop (off+L.size)),σ.nx,σ.lg⟩
  | none=>False
 | _,_=>False
def ztp (cs:Option (List C)) (i off size:Nat) (c:C) (σ:St) (K:C->St->Prop):Prop:=
 match cs with
  | some cs=>c.partB=true/\(c.cells.all C.cellB)=true/\c.cells.length=size/\off+size<=cs.length/\K .any ⟨σ.tm,σ.bx.set i (cs.take off++c.cells++cs.drop (off+size)),σ.nx,σ.lg⟩
  | none=>False
def zee (cs:Option (List C)) (off n:Nat) (K:C->Prop):Prop:=match cs with
   | some cs=>∃ l:Lz,l.length=n/\(cs.drop off).take n=l.map (fun b=>C.sc (.int .u8 (b.toNat:Int)))/\K (.str l)
   | none=>False
theorem zee.mk {K:C->Prop} (l:Lz) (hl:l.length=n) (h:(cs.drop off).take n=l.map (fun b=>C.sc (.int .u8 (b.toNat:Int)))) (hK:K (.str l)):zee (some cs) off n K:=⟨l,hl,h,hK⟩
def zsE (P:Program) (L:Option Lay) (n:Nat) (parts:List (Nat×C)) (σ:St) (K:C->St->Prop):Prop:=
 match L with
 | some ⟨.slice e,_,_,_⟩=>match lay P e with
  | some ⟨_,k,_,some z⟩=>z.length=k/\0<k/\n*k<=16777216/\(parts.all fun p=>p.2.frz.partB)=true/\match YX (fun i=>some (i*k,k)) (List.replicate n (z.map zA)).flatten (parts.map fun p=>(p.1,p.2.frz)) with
   | some cs=>(cs.all C.cellB)=true/\cs.length=n*k/\K (.bs σ.bx.length 0 k n n) ⟨σ.tm,σ.bx++[cs],σ.nx,σ.lg⟩
   | none=>False
  | _=>False
 | _=>False
def zsV (L:Option Lay) (n:Nat) (parts:List (Nat×C)) (σ:St) (K:C->St->Prop):Prop:=
   match L with
    | some ⟨_,k,_,some z⟩=>z.length=k/\0<k/\n*k<=16777216/\(parts.all fun p=>p.2.frz.partB)=true/\match YX (fun i=>some (i*k,k)) (List.replicate n (z.map zA)).flatten (parts.map fun p=>(p.1,p.2.frz)) with
      | some cs=>(cs.all C.cellB)=true/\cs.length=n*k/\K (.bs σ.bx.length 0 k n n) ⟨σ.tm,σ.bx++[cs],σ.nx,σ.lg⟩
      | none=>False
    | _=>False
def ztr (cs:Option (List C)) (k n:Nat) (σ:St) (K:C->St->Prop):Prop:=
 match cs with
   | some cs=>(cs.all C.cellB)=true/\cs.length=n*k/\K (.bs σ.bx.length 0 k n n) ⟨σ.tm,σ.bx++[cs],σ.nx,σ.lg⟩
   | none=>False
def zs1 (P:Program) (L:Option Lay) (p:Nat) (s x:C) (σ:St) (K:C->St->Prop):Prop:=
 match L with
 | some ⟨.slice e,_,_,_⟩=>match lay P e with
  | some ⟨_,k,by',some z⟩=>match x.xs? k σ.bx with
   | some (m,xs)=>z.length=k/\0<k/\(z.all Value.oneCell')=true/\0<m/\match s with
    | .sc (.slice none 0 0)=>m<=9223372036854775807/\m*by'<=140737488355328/\∀ c,m<=c->c<=maxLen->K (.bs σ.bx.length 0 k m c) ⟨σ.tm,σ.bx++[xs++List.replicate ((c-m)*k) .any],σ.nx,σ.lg⟩
    | .bs i 0 k' n c=>match σ.bx[i]? with
     | some cs=>k'=k/\p<=i/\cs.length=c*k/\n<=c/\c<=9223372036854775807/\n+m<=9223372036854775807/\(n+m)*by'<=140737488355328 /\
       ∀ c',n+m<=c'->c'<=maxLen->K (.bs i 0 k (n+m) c') ⟨HR (J0 i) some σ.tm,Zm i (C.reL (J0 i) some (cs.take (n*k)++xs)++List.replicate ((c'-(n+m))*k) .any) σ.bx,σ.nx,σ.lg⟩
     | none=>False
    | _=>False
   | none=>False
  | _=>False
 | _=>False
def zs2 (L:Option Lay) (p:Nat) (s x:C) (σ:St) (K:C->St->Prop):Prop:=
  match L with
  | some ⟨_,k,by',some z⟩=>match x.xs? k σ.bx with
   | some (m,xs)=>z.length=k/\0<k/\(z.all Value.oneCell')=true/\0<m/\match s with
    | .sc (.slice none 0 0)=>m<=9223372036854775807/\m*by'<=140737488355328/\∀ c,m<=c->c<=maxLen->K (.bs σ.bx.length 0 k m c) ⟨σ.tm,σ.bx++[xs++List.replicate ((c-m)*k) .any],σ.nx,σ.lg⟩
    | .bs i 0 k' n c=>match σ.bx[i]? with
     | some cs=>k'=k/\p<=i/\cs.length=c*k/\n<=c/\c<=9223372036854775807/\n+m<=9223372036854775807/\(n+m)*by'<=140737488355328 /\
       ∀ c',n+m<=c'->c'<=maxLen->K (.bs i 0 k (n+m) c') ⟨HR (J0 i) some σ.tm,Zm i (C.reL (J0 i) some (cs.take (n*k)++xs)++List.replicate ((c'-(n+m))*k) .any) σ.bx,σ.nx,σ.lg⟩
     | none=>False
    | _=>False
   | none=>False
  | _=>False
def zte (X:Option (Nat×List C)) (p k by':Nat) (z:List Value) (s:C) (σ:St) (K:C->St->Prop):Prop:=
  match X with
   | some (m,xs)=>z.length=k/\0<k/\(z.all Value.oneCell')=true/\0<m/\match s with
    | .sc (.slice none 0 0)=>m<=9223372036854775807/\m*by'<=140737488355328/\∀ c,m<=c->c<=maxLen->K (.bs σ.bx.length 0 k m c) ⟨σ.tm,σ.bx++[xs++List.replicate ((c-m)*k) .any],σ.nx,σ.lg⟩
    | .bs i 0 k' n c=>match σ.bx[i]? with
     | some cs=>k'=k/\p<=i/\cs.length=c*k/\n<=c/\c<=9223372036854775807/\n+m<=9223372036854775807/\(n+m)*by'<=140737488355328 /\
       ∀ c',n+m<=c'->c'<=maxLen->K (.bs i 0 k (n+m) c') ⟨HR (J0 i) some σ.tm,Zm i (C.reL (J0 i) some (cs.take (n*k)++xs)++List.replicate ((c'-(n+m))*k) .any) σ.bx,σ.nx,σ.lg⟩
     | none=>False
    | _=>False
   | none=>False
def bsO (j:Option Nat) (off k n c:Nat):C:=match j with | some j=>.bs j off k n c | none=>.any
def xsB (k' k off n:Nat) (cs:Option (List C)):Option (Nat×List C):=if k'=k then cs.bind fun cs=>if off+n*k<=cs.length then some (n,(cs.drop off).take (n*k)) else none else none
def zq2 (j:Option Nat) (e k:Nat) (rows:List (List C)):C:=match j with | some j=>.own j e k rows | none=>.sl k rows
def zrv (cs:Option (List C)) (off:Nat):C:=match cs with | some cs=>.row ((C.frzL cs).drop off) | none=>.any
def znZ (j:Option Nat) (off:Nat):C:=match j with | some j=>.ptr j off | none=>.any
def zmG (cs:Option (List C)) (p:Option Tmp) (σ:St) (K:St->Prop):Prop:=match cs,p with
  | some cs,some p=>K ⟨(p,.ptr σ.bx.length 0) :: σ.tm,σ.bx++[cs],σ.nx,σ.lg⟩
  | _,_=>False
def zts (M:Option (MKd×C)) (t:TypeId) (r:Option C) (nx:Nat) (K:C->Nat->Prop):Prop:=
 match M with
 | some (kd,_)=>match r with
  | none=>K (.mo nx t kd.nil []) (nx+1)
  | some (.sc (.int _ _))=>K (.mo nx t kd.nil []) (nx+1)
  | _=>False
 | none=>False
def ztu (M:Option (MKd×C)) (t:TypeId) (m key:C) (ok:Bool) (K:C->Prop):Prop:=
 match M with
 | some (.int k,z)=>match m,key with
  | .mo _ t' (.int k' l) vs,.sc (.int q n)=>t'=t/\k'=k/\q=k/\HD (zhs n l vs) z ok K
  | _,_=>False
 | some (.str,z)=>match m,key with
  | .mo _ t' (.str l) vs,.str s=>t'=t/\HD (zhs s l vs) z ok K
  | _,_=>False
 | none=>False
def zsL (M:Option (MKd×C)) (t:TypeId) (m key x:C) (σ:St) (K:C->St->Prop):Prop:=
 match M with
 | some (.int k,_)=>match m,key with
  | .mo id t' (.int k' l) vs,.sc (.int q n)=>t'=t/\k'=k/\q=k/\G6 id (.int k (Hs n x.frz l vs).1) (Hs n x.frz l vs).2 σ K
  | _,_=>False
 | some (.str,_)=>match m,key with
  | .mo id t' (.str l) vs,.str s=>t'=t/\G6 id (.str (Hs s x.frz l vs).1) (Hs s x.frz l vs).2 σ K
  | _,_=>False
 | none=>False
def zss (x:Option (List C)):C:=match x with | some cs=>.row cs | none=>.any
structure Tag.{u} {α:Sort u} (a:α):Type where
def zpL (M:Option (MKd×C)) (t:TypeId) (r:Option C) (nx:Nat) (K:C->Nat->Prop) (_:Tag K):Prop:=zts M t r nx K
def zpx (M:Option (MKd×C)) (t:TypeId) (m key:C) (ok:Bool) (K:C->Prop) (_:Tag K):Prop:=ztu M t m key ok K
def zeo (r:Option C) (z:C) (ok:Bool) (K:C->Prop) (_:Tag K):Prop:=HD r z ok K
def zpN (M:Option (MKd×C)) (t:TypeId) (m key x:C) (σ:St) (K:C->St->Prop) (_:Tag K):Prop:=zsL M t m key x σ K
def zg4 (sz i off k n cap:Nat) (lo hi mx:Option Int) (K:C->Prop) (_:Tag K):Prop:=znr sz i off k n cap lo hi mx K
def ue (P:Program) (t:TypeId) (s x:C) (σ:St) (K:C->St->Prop) (_:Tag K):Prop:=Yz P t s x σ K
def zaC (P:Program) (t tn:TypeId) (s x:C) (σ:St) (K:C->St->Prop) (_:Tag K):Prop:=Nv P t tn s x σ K
def yc (P:Program) (t:TypeId) (d x:C) (σ:St) (K:C->St->Prop) (_:Tag K):Prop:=QX P t d x σ K
def v7 (P:Program) (t:TypeId) (x:C) (σ:St) (K:C->St->Prop) (_:Tag K):Prop:=ku P t x σ K
def zom (x y:C) (K:C->Prop) (_:Tag K):Prop:=zoG x y K
def zql (P:Program) (t:TypeId) (c:C) (K:C->Prop) (_:Tag K):Prop:=zoz P t c K
def zgU (L:Option Lay) (c:C) (K:C->Prop) (_:Tag K):Prop:=zri L c K
def vm (P:Program) (bx:List (List C)) (s d:TypeId) (c:C) (K:C->Prop) (_:Tag K):Prop:=zad P bx s d c K
def Gc (P:Program) (t:TypeId) (n:Nat) (parts:List (Nat×C)) (σ:St) (K:C->St->Prop) (_:Tag K):Prop:=ZN P t n parts σ K
def zpR (P:Program) (L:Option Lay) (n:Nat) (parts:List (Nat×C)) (σ:St) (K:C->St->Prop) (_:Tag K):Prop:=zsE P L n parts σ K
def zoI (L:Option Lay) (n:Nat) (parts:List (Nat×C)) (σ:St) (K:C->St->Prop) (_:Tag K):Prop:=zsV L n parts σ K
def zpV (cs:Option (List C)) (k n:Nat) (σ:St) (K:C->St->Prop) (_:Tag K):Prop:=ztr cs k n σ K
def zaS (P:Program) (p:Nat) (t:TypeId) (s x:C) (σ:St) (K:C->St->Prop) (_:Tag K):Prop:=kL P p t s x σ K
def zoB (P:Program) (L:Option Lay) (p:Nat) (s x:C) (σ:St) (K:C->St->Prop) (_:Tag K):Prop:=zs1 P L p s x σ K
def zo7 (L:Option Lay) (p:Nat) (s x:C) (σ:St) (K:C->St->Prop) (_:Tag K):Prop:=zs2 L p s x σ K
def zpP (X:Option (Nat×List C)) (p k by':Nat) (z:List Value) (s:C) (σ:St) (K:C->St->Prop) (_:Tag K):Prop:=zte X p k by' z s σ K
def znT (c:C) (X Y:Prop) (_:Tag X) (_:Tag Y):Prop:=ABr c X Y
def zjO (c:C) (U X Y:Prop) (_:Tag U) (_:Tag X) (_:Tag Y):Prop:=zld c U X Y
def YN (ops:Array Oper) (tm:List (Nat×C)) (g:Option (Nat×Bool)) (X Y:Prop) (_:Tag ops) (_:Tag X) (_:Tag Y):Prop:=jb ops tm g X Y
def zrY (d:Option Tmp) (tm:List (Nat×C)) (want:Bool) (X Y:Prop) (_:Tag X) (_:Tag Y):Prop:=aGd d tm want X Y
def Vk (P:Program) (G:zo) (h:Hd) (c:Code) (Q:Exit->St->Prop) (σ:St) (_:Tag c) (_:Tag Q):Prop:=awp P G h c Q σ
def zgN (P:Program) (G:zo) (h:Hd) (ops:Array Oper) (l:List Oper) (σ:St) (K:St->Prop) (_:Tag h) (_:Tag ops) (_:Tag l) (_:Tag K):Prop:=zoT P G h ops l σ K
def XJ (P:Program) (G:zo) (h:Hd) (ops:Array Oper) (l:List Oper) (br:List Bool) (σ:St) (K:St->Prop) (_:Tag h) (_:Tag ops) (_:Tag l) (_:Tag K):Prop:=ZH P G h ops l br σ K
def Gt (P:Program) (G:zo) (h:Hd) (ops:Array Oper) (br:List Bool) (σ:St) (K:St->Prop) (_:Tag h) (_:Tag ops) (_:Tag K):Prop:=Hk P G h ops br σ K
def zn3 (P:Program) (G:zo) (Y:Hd) (ops:Array Oper) (rest:List (Nat×MFl)) (q:Nat) (H:List Hf) (fl:MFl) (oo:Option Oper) (σ:St) (K:St->Prop):Prop:=match oo with
 | none=>False
 | some o=>match fl with
  | .pure=>jb ops σ.tm o.guard (Ji P G σ.bx (zr G σ.tm) o.op σ.nx fun c nx'=>mix P G Y ops rest (q+1) ((q,fun b=>Ji P G b (zr G σ.tm) o.op σ.nx fun c' n'=>c'=c/\n'=nx') :: H) ⟨jD σ.tm o.dst c,σ.bx,nx',σ.lg⟩ K)
    (mix P G Y ops rest (q+1) H ⟨jD σ.tm o.dst (.sc undef),σ.bx,σ.nx,σ.lg⟩ K)
  | .bar=>jb ops σ.tm o.guard (NV P G Y o.op σ fun c σ'=>mix P G Y ops rest (q+1) [] (σ'.put o.dst c) K) (mix P G Y ops rest (q+1) [] (σ.put o.dst (.sc undef)) K)
  | .flt fr=>o.guard=none/\zpX P G o.op σ fun c bx' nx'=>Y5 fr bx' H/\mix P G Y ops rest (q+1) H ⟨jD σ.tm o.dst c,bx',nx',σ.lg⟩ K
def Hq (P:Program) (G:zo) (h:Hd) (ops:Array Oper) (all:List Oper) (L:List (Nat×MFl)) (q:Nat) (H:List Hf) (σ:St) (K:St->Prop) (_:Tag h) (_:Tag ops) (_:Tag all) (_:Tag H) (_:Tag K):Prop:=mix P G h ops L q H σ K
def MZ (P:Program) (G:zo) (h:Hd) (ops:Array Oper) (all:List Oper) (L:List (Nat×MFl)) (q:Nat) (H:List Hf) (fl:MFl) (i:Nat) (l:List Oper) (σ:St) (K:St->Prop) (_:Tag h) (_:Tag ops) (_:Tag all) (_:Tag H) (_:Tag l) (_:Tag K):Prop:=zn3 P G h ops L q H fl (l[i]?) σ K
def zn5 (fr:List Nat) (b:List (List C)) (H:List Hf) (_:Tag H):Prop:=Y5 fr b H
def zeF (P:Program) (G:zo) (f:C) (args:List C) (σ:St) (K:C->List (List C)->Nat->Prop) (_:Tag K):Prop:=uT P G f args σ K
def zsx (P:Program) (G:zo) (f:FuncId) (args:List C) (σ:St) (K:C->List (List C)->Nat->Prop) (_:Tag K):Prop:=zk5 P G f args σ K
def XB (P:Program) (G:zo) (ops:Array Oper) (a s:Nat) (l:List Oper) (i:Nat) (cs:Option (List C)) (σ:St) (K:St->Prop) (_:Tag ops) (_:Tag l) (_:Tag K):Prop:=jE P G ops a s l i cs σ K
def zkR (cs:Option (List C)) (p:Option Tmp) (σ:St) (K:St->Prop) (_:Tag K):Prop:=zmG cs p σ K
def zeR (cs ds:Option (List C)) (p q:Option Tmp) (σ:St) (K:St->Prop):Prop:=match cs,ds,p,q with
 | some cs,some ds,some p,some q=>K ⟨(q,.ptr (σ.bx++[cs]).length 0) :: (p,.ptr σ.bx.length 0) :: σ.tm,σ.bx++[cs]++[ds],σ.nx,σ.lg⟩
 | _,_,_,_=>False
def Jx (P:Program) (G:zo) (ops:Array Oper) (a s b z:Nat) (l:List Oper) (i:Nat) (cs ds:Option (List C)) (σ:St) (K:St->Prop) (_:Tag ops) (_:Tag l) (_:Tag K):Prop:=Za P G ops a s b z l i cs ds σ K
def zel (cs ds:Option (List C)) (p q:Option Tmp) (σ:St) (K:St->Prop) (_:Tag K):Prop:=zeR cs ds p q σ K
def zal (L:Option Lay) (K:Prop) (_:Tag K):Prop:=xc L K
def uM (L:Option Lay) (c:C) (K:C->Prop) (_:Tag K):Prop:=Hn L c K
def jM (P:Program) (G:zo) (h:Hd) (op:Op) (σ:St) (K:C->St->Prop) (_:Tag h) (_:Tag op) (_:Tag K):Prop:=NV P G h op σ K
def Q5 (P:Program) (G:zo) (f:FuncId) (args fargs:List C) (σ:St) (K:C->St->Prop) (_:Tag K):Prop:=zod P G f args fargs σ K
def yV (P:Program) (G:zo) (h:Hd) (c:C) (args:List C) (σ:St) (K:C->St->Prop) (_:Tag h) (_:Tag K):Prop:=Mj P G h c args σ K
def zac (y:Yd) (it:Option (List C)) (args:List C) (σ:St) (K:C->St->Prop) (_:Tag y) (_:Tag K):Prop:=NC y it args σ K
def zhc (P:Program) (G:zo) (p:Nat) (A B:Nat->(Exit->St->Prop)->St->Prop) (Q:Exit->St->Prop) (ps:List Tmp) (c:C) (σ:St) (_:Tag A) (_:Tag B) (_:Tag Q):Prop:=uP P G p A B Q ps c σ
def jp (P:Program) (G:zo) (bx:List (List C)) (ev:Operand->C) (op:Op) (nx:Nat) (K:C->Nat->Prop) (_:Tag ev) (_:Tag op) (_:Tag K):Prop:=Ji P G bx ev op nx K
def zcy (P:Program) (σ:St) (rs:List ResultVar) (K:C->Prop) (_:Tag K):Prop:=zn4 P σ rs K
def YD (P:Program) (σ:St) (rv:ResultVar) (K:C->Prop) (_:Tag K):Prop:=JT P σ rv K
def ym (P:Program) (t:TypeId) (op:BinOp) (x y:C) (K:C->Prop) (_:Tag K):Prop:=zn6 P t op x y K
def HA (op:BinOp) (k:IntKind) (a b:Int) (K:C->Prop) (_:Tag K):Prop:=zqZ op k a b K
def uK (l:Option Lay) (op:BinOp) (x:C) (K:C->Prop) (_:Tag K):Prop:=zmN l op x K
def zfr (op:BinOp) (b:Bool) (K:C->Prop) (_:Tag K):Prop:=GR op b K
def zg0 (op:BinOp) (a b:Lz) (K:C->Prop) (_:Tag K):Prop:=zrL op a b K
def zoR (op:BinOp) (ks:Option (List LK)) (xs ys:List C) (K:C->Prop) (_:Tag K):Prop:=zro op ks xs ys K
def zkM (n:Bool) (ks:List LK) (xs ys:List C) (e:Bool) (K:C->Prop) (_:Tag K):Prop:=aEq n ks xs ys e K
def zr7 (op:UnOp) (x:C) (K:C->Prop) (_:Tag K):Prop:=aUn op x K
def zaV (P:Program) (t:TypeId) (c:C) (bx:List (List C)) (K:C->Prop) (_:Tag K):Prop:=uA P t c bx K
def yI (L:Option Lay) (c:C) (bx:List (List C)) (K:C->Prop) (_:Tag K):Prop:=zoS L c bx K
def zeI (cs:Option (List C)) (off:Nat) (L:Lay) (K:C->Prop) (_:Tag K):Prop:=zor cs off L K
def VY (L:Lay) (cs:List C) (K:C->Prop) (_:Tag K):Prop:=J6 L cs K
def zlP (x:Option C) (K:C->Prop) (_:Tag K):Prop:=zr1 x K
def kw (c:C) (i:Nat) (K:C->Prop) (_:Tag K):Prop:=Uk c i K
def znV (c:C) (K:C->Prop) (_:Tag K):Prop:=zq3 c K
def uu (P:Program) (t:TypeId) (c:C) (f:Nat) (K:C->Prop) (_:Tag K):Prop:=za5 P t c f K
def zaY (L:Option Lay) (c:C) (f:Nat) (K:C->Prop) (_:Tag K):Prop:=yi L c f K
def uY (f:Option (Nat×Nat×Bool)) (cs:List C) (K:C->Prop) (_:Tag K):Prop:=UT f cs K
def Zb (P:Program) (t:TypeId) (c:C) (f:Nat) (K:C->Prop) (_:Tag K):Prop:=Qn P t c f K
def zqy (L:Option Lay) (c:C) (f:Nat) (K:C->Prop) (_:Tag K):Prop:=zsO L c f K
def zmo (f:Option (Nat×Nat×Bool)) (c:C) (K:C->Prop) (_:Tag K):Prop:=zpI f c K
def Ze (P:Program) (t:TypeId) (c:C) (i:C) (K:C->Prop) (_:Tag K):Prop:=Qw P t c i K
def zmU (P:Program) (L:Option Lay) (c:C) (i:C) (K:C->Prop) (_:Tag K):Prop:=ztn P L c i K
def zjG (L:Option Lay) (c:C) (n:Int) (K:C->Prop) (_:Tag K):Prop:=zs8 L c n K
def zmY (rows:Option (List (List C))) (n:Int) (K:C->Prop) (_:Tag K):Prop:=ztv rows n K
def zsz (r:Option (List C)) (n:Int) (K:C->Prop) (_:Tag K):Prop:=aAt r n K
def zqV (L:Option Lay) (c:C) (m:Nat) (n:Int) (K:C->Prop) (_:Tag K):Prop:=ztq L c m n K
def yW (P:Program) (t:TypeId) (c i:C) (K:C->Prop) (_:Tag K):Prop:=zaF P t c i K
def zoZ (L:Option Lay) (c i:C) (K:C->Prop) (_:Tag K):Prop:=zrO L c i K
def zkI (b:Option UInt8) (n:Int) (K:C->Prop) (_:Tag K):Prop:=zlu b n K
def vD (P:Program) (t:TypeId) (c:C) (lo hi mx:Option C) (K:C->Prop) (_:Tag K):Prop:=zaL P t c lo hi mx K
def zqN (P:Program) (t:TypeId) (c:C) (lo hi mx:Option (Option Int)) (K:C->Prop) (_:Tag K):Prop:=zth P t c lo hi mx K
def zmP (P:Program) (L:Option Lay) (c:C) (lo hi mx:Option Int) (K:C->Prop) (_:Tag K):Prop:=zsC P L c lo hi mx K
def zdP (L:Option Lay) (c:C) (lo hi mx:Option Int) (K:C->Prop) (_:Tag K):Prop:=ztj L c lo hi mx K
def zo0 (k:Nat) (lo hi mx:Option Int) (K:C->Prop) (_:Tag K):Prop:=zon k lo hi mx K
def zjS (rows:Option (List (List C))) (k:Nat) (lo hi mx:Option Int) (K:C->Prop) (_:Tag K):Prop:=zs0 rows k lo hi mx K
def zlU (rows:Option (List (List C))) (K:C->Prop) (_:Tag K):Prop:=zfb rows K
def zeD (P:Program) (s d:TypeId) (c:C) (K:C->Prop) (_:Tag K):Prop:=zjz P s d c K
def ziL (P:Program) (D S:Option Lay) (c:C) (K:C->Prop) (_:Tag K):Prop:=zs4 P D S c K
def zo6 (L:Option Lay) (c:C) (K:C->Prop) (_:Tag K):Prop:=zsQ L c K
def vd (P:Program) (t:TypeId) (c:C) (K:C->Prop) (_:Tag K):Prop:=zpJ P t c K
def Md (L:Option Lay) (n:Int) (K:C->Prop) (_:Tag K):Prop:=zq7 L n K
def zk1 (L:Option Lay) (n:Int) (K:C->Prop) (_:Tag K):Prop:=zrs L n K
def vF (P:Program) (t:TypeId) (parts:List (Nat×C)) (K:C->Prop) (_:Tag K):Prop:=zah P t parts K
def zqL (L:Option Lay) (parts:List (Nat×C)) (K:C->Prop) (_:Tag K):Prop:=zra L parts K
def zsv (cs:Option (List C)) (K:C->Prop) (_:Tag K):Prop:=aFl cs K
def XY (P:Program) (t:TypeId) (n:Nat) (parts:List (Nat×C)) (nx:Nat) (K:C->Nat->Prop) (_:Tag K):Prop:=Yh P t n parts nx K
def za2 (P:Program) (t:TypeId) (n:Nat) (parts:List (Nat×C)) (nx:Nat) (K:C->Nat->Prop) (_:Tag K):Prop:=Gw P t n parts nx K
def zqW (P:Program) (L:Option Lay) (n:Nat) (parts:List (Nat×C)) (nx:Nat) (K:C->Nat->Prop) (_:Tag K):Prop:=ztt P L n parts nx K
def zpd (L:Option Lay) (e:TypeId) (n:Nat) (parts:List (Nat×C)) (nx:Nat) (K:C->Nat->Prop) (_:Tag K):Prop:=zsF L e n parts nx K
def zoe (cs:Option (List C)) (e k n nx:Nat) (K:C->Nat->Prop) (_:Tag K):Prop:=zs9 cs e k n nx K
def zk6 (P:Program) (t:TypeId) (l c:C) (nx:Nat) (K:C->Nat->Prop) (_:Tag K):Prop:=zeq P t l c nx K
def MQ (P:Program) (t:TypeId) (l c:C) (σ:St) (K:C->St->Prop) (_:Tag K):Prop:=Us P t l c σ K
def zlh (P:Program) (L:Option Lay) (l c:C) (σ:St) (K:C->St->Prop) (_:Tag K):Prop:=zre P L l c σ K
def zkY (L:Option Lay) (l c:Int) (σ:St) (K:C->St->Prop) (_:Tag K):Prop:=zrk L l c σ K
def zpy (P:Program) (L:Option Lay) (l c:C) (nx:Nat) (K:C->Nat->Prop) (_:Tag K):Prop:=zti P L l c nx K
def zpY (L:Option Lay) (e:TypeId) (l c:Int) (nx:Nat) (K:C->Nat->Prop) (_:Tag K):Prop:=ztf L e l c nx K
def Nl (P:Program) (t:TypeId) (s x:C) (σ:St) (K:C->St->Prop) (_:Tag K):Prop:=Nr P t s x σ K
def NG (P:Program) (t:TypeId) (s x:C) (nx:Nat) (K:C->Nat->Prop) (_:Tag K):Prop:=Vg P t s x nx K
def zqi (P:Program) (L:Option Lay) (s x:C) (nx:Nat) (K:C->Nat->Prop) (_:Tag K):Prop:=zsH P L s x nx K
def zpE (L:Option Lay) (e:TypeId) (s x:C) (nx:Nat) (K:C->Nat->Prop) (_:Tag K):Prop:=zsS L e s x nx K
def zl3 (xs:Option (List (List C))) (s:C) (e k by':Nat) (z:List Value) (nx:Nat) (K:C->Nat->Prop) (_:Tag K):Prop:=zs6 xs s e k by' z nx K
def zqY (P:Program) (L:Option Lay) (id e k:Nat) (rows:List (List C)) (x:C) (σ:St) (K:C->St->Prop) (_:Tag K):Prop:=zsX P L id e k rows x σ K
def zqu (L:Option Lay) (e' id e k:Nat) (rows:List (List C)) (x:C) (σ:St) (K:C->St->Prop) (_:Tag K):Prop:=zrf L e' id e k rows x σ K
def zot (xs:Option (List (List C))) (by' id e k:Nat) (rows:List (List C)) (σ:St) (K:C->St->Prop) (_:Tag K):Prop:=zrD xs by' id e k rows σ K
def zfK (P:Program) (G:zo) (callee:C) (args:List C) (nx:Nat) (K:C->Nat->Prop) (_:Tag K):Prop:=xm P G callee args nx K
def vv (P:Program) (G:zo) (f:FuncId) (args:List C) (nx:Nat) (K:C->Nat->Prop) (_:Tag K):Prop:=uS P G f args nx K
def zqO (c:C) (σ:St) (K:C->St->Prop) (_:Tag K):Prop:=zrp c σ K
def zoo (L:Option Lay) (σ:St) (K:C->St->Prop) (_:Tag K):Prop:=zsR L σ K
def zqr (L:Option Lay) (p c:C) (σ:St) (K:C->St->Prop) (_:Tag K):Prop:=zsK L p c σ K
def zpB (L:Option Lay) (p c:C) (bx:List (List C)) (K:C->Prop) (_:Tag K):Prop:=zsG L p c bx K
def zqh (cs:Option (List C)) (off size:Nat) (c:C) (K:C->Prop) (_:Tag K):Prop:=zsI cs off size c K
def zpc (cs:Option (List C)) (i off size:Nat) (c:C) (σ:St) (K:C->St->Prop) (_:Tag K):Prop:=ztp cs i off size c σ K
def zk3 (p:Nat) (B:(Exit->St->Prop)->St->Prop) (Q:Exit->St->Prop) (σ:St) (_:Tag B) (_:Tag Q):Prop:=zi5 p B Q σ
def uG (next:St->Prop) (Q:Exit->St->Prop) (_:Tag next) (_:Tag Q):Exit->St->Prop:=zpm next Q
def kE (id:Nat) (Q:Exit->St->Prop) (_:Tag Q):Exit->St->Prop:=N3 id Q
def GX (Q:Exit->St->Prop) (_:Tag Q):Exit->St->Prop:=zfi Q
def zaM (next:St->Prop) (Q:Exit->St->Prop) (_:Tag next) (_:Tag Q):Exit->St->Prop:=zlD next Q
def zlf (K:St->Prop) (_:Tag K):Exit->St->Prop:=zmL K
def uj (m:Nat) (tm:List (Nat×C)) (st:Bool) (next:St) (Q:Exit->St->Prop) (_:Tag next) (_:Tag Q):Exit->St->Prop:=zfn m tm st next Q
def xt (P:Program) (rs:List ResultVar) (K:C->St->Prop) (_:Tag K):Exit->St->Prop:=zkK P rs K
theorem zoO:Vk P G h .skip Q σ ⟨⟩ ⟨⟩=Q .normal σ:=(rfl)
theorem zmH {l:Nat}:Vk P G h (.label l) Q σ ⟨⟩ ⟨⟩=Q .normal σ:=(rfl)
theorem zqk {id:Nat}:Vk P G h (.exit id) Q σ ⟨⟩ ⟨⟩=Q (.exit id) σ:=(rfl)
theorem zrl:Vk P G h .ret Q σ ⟨⟩ ⟨⟩=Q .ret σ:=(rfl)
theorem zrX {a b:Code}:Vk P G h (.seq a b) Q σ ⟨⟩ ⟨⟩=Vk P G h a (uG (fun σ=>Vk P G h b Q σ ⟨⟩ ⟨⟩) Q ⟨⟩ ⟨⟩) σ ⟨⟩ ⟨⟩:=(rfl)
theorem zoH {cc:Operand} {a b:Code}:Vk P G h (.cond cc a b) Q ⟨tm,bx,nx,lg⟩ ⟨⟩ ⟨⟩=znT (zr G tm cc) (Vk P G h a Q ⟨tm,bx,nx,lg⟩ ⟨⟩ ⟨⟩) (Vk P G h b Q ⟨tm,bx,nx,lg⟩ ⟨⟩ ⟨⟩) ⟨⟩ ⟨⟩:=(rfl)
theorem znt {id:Nat} {a:Code}:Vk P G h (.block id a) Q σ ⟨⟩ ⟨⟩=Vk P G h a (kE id Q ⟨⟩) σ ⟨⟩ ⟨⟩:=(rfl)
theorem zpS {a:Code}:Vk P G ⟨p,yd,bf⟩ (.loop a) Q σ ⟨⟩ ⟨⟩=zk3 p (fun Q σ=>Vk P G ⟨p,yd,bf⟩ a Q σ ⟨⟩ ⟨⟩) Q σ ⟨⟩ ⟨⟩:=(rfl)
theorem zku {a b:Code} {x:Operand} {ps:List Tmp}:Vk P G ⟨p,yd,bf⟩ (.rangeFunc x ps.toArray a b) Q ⟨tm,bx,nx,lg⟩ ⟨⟩ ⟨⟩=zhc P G p (fun m=>fun Q σ=>Vk P G ⟨m,yd,bf⟩ a Q σ ⟨⟩ ⟨⟩) (fun m=>fun Q σ=>Vk P G ⟨m,yd,bf⟩ b Q σ ⟨⟩ ⟨⟩) Q ps (zr G tm x) ⟨tm,bx,nx,lg⟩ ⟨⟩ ⟨⟩ ⟨⟩:=(rfl)
theorem zlm {a:Code}:Vk P G h (.scope a) Q σ ⟨⟩ ⟨⟩=Vk P G h a (GX Q ⟨⟩) σ ⟨⟩ ⟨⟩:=(rfl)
theorem ziG {id:Nat} {l:List Oper}:Vk P G ⟨p,yd,bf⟩ (.region id l.toArray false) Q σ ⟨⟩ ⟨⟩=zgN P G ⟨p,yd,bf⟩ l.toArray l σ (Q .normal) ⟨⟩ ⟨⟩ ⟨⟩ ⟨⟩:=(rfl)
theorem zgk {id:Nat} {l:List Oper}:Vk P G ⟨p,yd,bf⟩ (.region id l.toArray true) Q σ ⟨⟩ ⟨⟩=Gt P G ⟨p,yd,bf⟩ l.toArray (bf id) σ (Q .normal) ⟨⟩ ⟨⟩ ⟨⟩:=(rfl)
theorem zke {l:List Oper}:Gt P G h l.toArray [] σ KS ⟨⟩ ⟨⟩ ⟨⟩=XJ P G h l.toArray l [] σ KS ⟨⟩ ⟨⟩ ⟨⟩ ⟨⟩:=(rfl)
theorem zi8 {l:List Oper} {r:List Bool}:Gt P G h l.toArray (false :: r) σ KS ⟨⟩ ⟨⟩ ⟨⟩=XJ P G h l.toArray l (false :: r) σ KS ⟨⟩ ⟨⟩ ⟨⟩ ⟨⟩:=(rfl)
theorem zjh {l:List Oper} {L:List (Nat×MFl)}:Gt P G h l.toArray (NO L) σ KS ⟨⟩ ⟨⟩ ⟨⟩=Hq P G h l.toArray l L 0 [] σ KS ⟨⟩ ⟨⟩ ⟨⟩ ⟨⟩ ⟨⟩:=(show Hk P G h l.toArray (NO L) σ KS=mix P G h l.toArray L 0 [] σ KS from by
 unfold Hk NO;rw[show Qg (zag 199 (unR (zbY L)))=none from rfl,show Gm (zag 199 (unR (zbY L)))=none from rfl,Hw];simp only[zcP])
theorem zos {all:List Oper}:Hq P G h ops all [] q H σ KS ⟨⟩ ⟨⟩ ⟨⟩ ⟨⟩ ⟨⟩=KS σ:=(rfl)
theorem zpA {all:List Oper} {fl:MFl} {L:List (Nat×MFl)}:Hq P G h all.toArray all ((i,fl) :: L) q H σ KS ⟨⟩ ⟨⟩ ⟨⟩ ⟨⟩ ⟨⟩=MZ P G h all.toArray all L q H fl i all σ KS ⟨⟩ ⟨⟩ ⟨⟩ ⟨⟩ ⟨⟩ ⟨⟩:=(show mix P G h all.toArray ((i,fl) :: L) q H σ KS=zn3 P G h all.toArray L q H fl (all[i]?) σ KS from rfl)
theorem zoN {o:Oper} {all l:List Oper} {fl:MFl} {L:List (Nat×MFl)}:MZ P G h ops all L q H fl (i+1) (o :: l) σ KS ⟨⟩ ⟨⟩ ⟨⟩ ⟨⟩ ⟨⟩ ⟨⟩=MZ P G h ops all L q H fl i l σ KS ⟨⟩ ⟨⟩ ⟨⟩ ⟨⟩ ⟨⟩ ⟨⟩:=(show zn3 P G h ops L q H fl ((o :: l)[i+1]?) σ KS=zn3 P G h ops L q H fl (l[i]?) σ KS from rfl)
theorem zqf {all:List Oper} {L:List (Nat×MFl)} {op:Op}:MZ P G h ops all L q H .pure 0 (⟨dst,op,ty,pos,af,g⟩ :: rest) ⟨tm,bx,nx,lg⟩ KS ⟨⟩ ⟨⟩ ⟨⟩ ⟨⟩ ⟨⟩ ⟨⟩ =
  YN ops tm g (jp P G bx (zr G tm) op nx (fun c nx'=>Hq P G h ops all L (q+1) ((q,fun b=>jp P G b (zr G tm) op nx (fun c' n'=>c'=c/\n'=nx') ⟨⟩ ⟨⟩ ⟨⟩) :: H) ⟨jD tm dst c,bx,nx',lg⟩ KS ⟨⟩ ⟨⟩ ⟨⟩ ⟨⟩ ⟨⟩) ⟨⟩ ⟨⟩ ⟨⟩) (Hq P G h ops all L (q+1) H ⟨jD tm dst (.sc undef),bx,nx,lg⟩ KS ⟨⟩ ⟨⟩ ⟨⟩ ⟨⟩ ⟨⟩) ⟨⟩ ⟨⟩ ⟨⟩:=
 (show zn3 P G h ops L q H .pure (some ⟨dst,op,ty,pos,af,g⟩) ⟨tm,bx,nx,lg⟩ KS=_ from rfl)
theorem zo8 {all:List Oper} {L:List (Nat×MFl)} {op:Op}:MZ P G h ops all L q H .bar 0 (⟨dst,op,ty,pos,af,g⟩ :: rest) ⟨tm,bx,nx,lg⟩ KS ⟨⟩ ⟨⟩ ⟨⟩ ⟨⟩ ⟨⟩ ⟨⟩ =
  YN ops tm g (jM P G h op ⟨tm,bx,nx,lg⟩ (fun c σ'=>Hq P G h ops all L (q+1) [] (σ'.put dst c) KS ⟨⟩ ⟨⟩ ⟨⟩ ⟨⟩ ⟨⟩) ⟨⟩ ⟨⟩ ⟨⟩) (Hq P G h ops all L (q+1) [] ((St.mk tm bx nx lg).put dst (.sc undef)) KS ⟨⟩ ⟨⟩ ⟨⟩ ⟨⟩ ⟨⟩) ⟨⟩ ⟨⟩ ⟨⟩:=
 (show zn3 P G h ops L q H .bar (some ⟨dst,op,ty,pos,af,g⟩) ⟨tm,bx,nx,lg⟩ KS=_ from rfl)
theorem zm5 {all:List Oper} {L:List (Nat×MFl)} {fr:List Nat}:MZ P G h ops all L q H (.flt fr) 0 (⟨dst,.store t x y,ty,pos,af,none⟩ :: rest) ⟨tm,bx,nx,lg⟩ KS ⟨⟩ ⟨⟩ ⟨⟩ ⟨⟩ ⟨⟩ ⟨⟩ =
  jM P G h (.store t x y) ⟨tm,bx,nx,lg⟩ (fun c σ'=>zn5 fr σ'.bx H ⟨⟩/\Hq P G h ops all L (q+1) H ⟨jD tm dst c,σ'.bx,σ'.nx,lg⟩ KS ⟨⟩ ⟨⟩ ⟨⟩ ⟨⟩ ⟨⟩) ⟨⟩ ⟨⟩ ⟨⟩:=
 (show ((none:Option (Nat×Bool))=none/\Z0 P t (zr G tm x) (zr G tm y) ⟨tm,bx,nx,lg⟩ fun c σ'=>Y5 fr σ'.bx H/\mix P G h ops L (q+1) H ⟨jD tm dst c,σ'.bx,σ'.nx,lg⟩ KS)=_ from propext ⟨fun h=>h.2,fun h=>⟨rfl,h⟩⟩)
theorem znS {all:List Oper} {L:List (Nat×MFl)} {fr:List Nat}:MZ P G h ops all L q H (.flt fr) 0 (⟨dst,.call ⟨.builtin .copy,#[x,y],#[t,t']⟩,ty,pos,af,none⟩ :: rest) ⟨tm,bx,nx,lg⟩ KS ⟨⟩ ⟨⟩ ⟨⟩ ⟨⟩ ⟨⟩ ⟨⟩ =
  yc P t (zr G tm x) (zr G tm y) ⟨tm,bx,nx,lg⟩ (fun c σ'=>zn5 fr σ'.bx H ⟨⟩/\Hq P G h ops all L (q+1) H ⟨jD tm dst c,σ'.bx,σ'.nx,lg⟩ KS ⟨⟩ ⟨⟩ ⟨⟩ ⟨⟩ ⟨⟩) ⟨⟩:=
 (show ((none:Option (Nat×Bool))=none/\QX P t (zr G tm x) (zr G tm y) ⟨tm,bx,nx,lg⟩ fun c σ'=>Y5 fr σ'.bx H/\mix P G h ops L (q+1) H ⟨jD tm dst c,σ'.bx,σ'.nx,lg⟩ KS)=_ from propext ⟨fun h=>h.2,fun h=>⟨rfl,h⟩⟩)
theorem zpa {all:List Oper} {L:List (Nat×MFl)} {fr:List Nat} {tys:Array TypeId}:MZ P G h ops all L q H (.flt fr) 0 (⟨dst,.call ⟨.value x,us.toArray,tys⟩,ty,pos,af,none⟩ :: rest) ⟨tm,bx,nx,lg⟩ KS ⟨⟩ ⟨⟩ ⟨⟩ ⟨⟩ ⟨⟩ ⟨⟩ =
  zeF P G (zr G tm x) (us.map (zr G tm)) ⟨tm,bx,nx,lg⟩ (fun c b' n'=>zn5 fr b' H ⟨⟩/\Hq P G h ops all L (q+1) H ⟨jD tm dst c,b',n',lg⟩ KS ⟨⟩ ⟨⟩ ⟨⟩ ⟨⟩ ⟨⟩) ⟨⟩:=
 (show ((none:Option (Nat×Bool))=none/\uT P G (zr G tm x) (us.map (zr G tm)) ⟨tm,bx,nx,lg⟩ fun c b' n'=>Y5 fr b' H/\mix P G h ops L (q+1) H ⟨jD tm dst c,b',n',lg⟩ KS)=_ from propext ⟨fun h=>h.2,fun h=>⟨rfl,h⟩⟩)
theorem znq {K4:C->List (List C)->Nat->Prop} {fs:List C}:zeF P G (.clo (.func f) fs cs) args ⟨tm,bx,nx,lg⟩ K4 ⟨⟩=zsx P G f (fs++args++cs) ⟨tm,bx,nx,lg⟩ K4 ⟨⟩:=(rfl)
theorem zmf {p:Prop} [Decidable p]:(if p then True else True)=True:=ite_self _
theorem zoD {fr:List Nat} {b:List (List C)}:zn5 fr b [] ⟨⟩=True:=(rfl)
theorem zqR {fr:List Nat} {b:List (List C)} {f:List (List C)->Prop} {r:List Hf}:zn5 fr b ((k,f) :: r) ⟨⟩=((if k∈fr then f b else True)/\zn5 fr b r ⟨⟩):=(show ((match fr.contains k with | true=>f b | false=>True)/\Y5 fr b r)=((if k∈fr then f b else True)/\Y5 fr b r) from by
 cases hq:fr.contains k with
 | true=>rw[if_pos (by simpa using hq)]
 | false=>rw[if_neg fun h=>by simp[h]at hq])
theorem NF (a s:Nat):Qg (Zd a s)=none:=by cases a<;>cases s<;>rfl
theorem ziY {l:List Oper} {a s:Nat}:Gt P G h l.toArray (Zd a s) σ KS ⟨⟩ ⟨⟩ ⟨⟩=XB P G l.toArray a s l 0 none σ KS ⟨⟩ ⟨⟩ ⟨⟩:=(show Hk P G h l.toArray (Zd a s) σ KS=jE P G l.toArray a s l 0 none σ KS from by unfold Hk;rw[NF,MA])
theorem zei {a s:Nat} {cs:Option (List C)} {l:List Oper}:XB P G l.toArray a s [] i cs σ KS ⟨⟩ ⟨⟩ ⟨⟩=zkR cs ((l[a]?).bind (·.dst)) σ KS ⟨⟩:=(show jE P G l.toArray a s [] i cs σ KS=zmG cs ((l[a]?).bind (·.dst)) σ KS from by simp only[jE,zmG,O7];rfl)
theorem ze6 {a s:Nat} {cs:Option (List C)}:XB P G ops a s (⟨dst,.alloc t,ty,pos,af,g⟩ :: rest) a cs ⟨tm,bx,nx,lg⟩ KS ⟨⟩ ⟨⟩ ⟨⟩=zal (lay P t) (XB P G ops a s rest (a+1) cs ⟨jD tm dst .any,bx,nx,lg⟩ KS ⟨⟩ ⟨⟩ ⟨⟩) ⟨⟩:=(show jE P G ops a s (⟨dst,.alloc t,ty,pos,af,g⟩ :: rest) a cs ⟨tm,bx,nx,lg⟩ KS=xc (lay P t) (jE P G ops a s rest (a+1) cs ⟨jD tm dst .any,bx,nx,lg⟩ KS) from by simp only[jE,if_true])
theorem zet {a s:Nat} {cs:Option (List C)} (hsa:(s==a)=false):XB P G ops a s (⟨dst,.store t y x,ty,pos,af,g⟩ :: rest) s cs ⟨tm,bx,nx,lg⟩ KS ⟨⟩ ⟨⟩ ⟨⟩=uM (lay P t) (zr G tm x) (fun c=>XB P G ops a s rest (s+1) (some c.cells) ⟨jD tm dst .any,bx,nx,lg⟩ KS ⟨⟩ ⟨⟩ ⟨⟩) ⟨⟩:=(show jE P G ops a s (⟨dst,.store t y x,ty,pos,af,g⟩ :: rest) s cs ⟨tm,bx,nx,lg⟩ KS=Hn (lay P t) (zr G tm x) fun c=>jE P G ops a s rest (s+1) (some c.cells) ⟨jD tm dst .any,bx,nx,lg⟩ KS from by simp only[On]at hsa;simp only[jE,if_neg hsa,if_true])
theorem zjQ {a s:Nat} {cs:Option (List C)} {op:Op} (hia:(i==a)=false) (his:(i==s)=false):XB P G ops a s (⟨dst,op,ty,pos,af,g⟩ :: rest) i cs ⟨tm,bx,nx,lg⟩ KS ⟨⟩ ⟨⟩ ⟨⟩=YN ops tm g (jp P G bx (zr G tm) op nx (fun c nx'=>XB P G ops a s rest (i+1) cs ⟨jD tm dst c,bx,nx',lg⟩ KS ⟨⟩ ⟨⟩ ⟨⟩) ⟨⟩ ⟨⟩ ⟨⟩) (XB P G ops a s rest (i+1) cs ⟨jD tm dst (.sc undef),bx,nx,lg⟩ KS ⟨⟩ ⟨⟩ ⟨⟩) ⟨⟩ ⟨⟩ ⟨⟩:=(show jE P G ops a s (⟨dst,op,ty,pos,af,g⟩ :: rest) i cs ⟨tm,bx,nx,lg⟩ KS=jb ops tm g (Ji P G bx (zr G tm) op nx fun c nx'=>jE P G ops a s rest (i+1) cs ⟨jD tm dst c,bx,nx',lg⟩ KS) (jE P G ops a s rest (i+1) cs ⟨jD tm dst (.sc undef),bx,nx,lg⟩ KS) from by simp only[On]at hia his;simp only[jE,if_neg hia,if_neg his])
theorem zj0 {l:List Oper} {a s z:Nat}:Gt P G h l.toArray (Gn a s b z) σ KS ⟨⟩ ⟨⟩ ⟨⟩=Jx P G l.toArray a s b z l 0 none none σ KS ⟨⟩ ⟨⟩ ⟨⟩:=(show Hk P G h l.toArray (Gn a s b z) σ KS=Za P G l.toArray a s b z l 0 none none σ KS from by unfold Hk;rw[Hu])
theorem zlQ {a s z:Nat} {cs ds:Option (List C)} {l:List Oper}:Jx P G l.toArray a s b z [] i cs ds σ KS ⟨⟩ ⟨⟩ ⟨⟩=zel cs ds ((l[a]?).bind (·.dst)) ((l[b]?).bind (·.dst)) σ KS ⟨⟩:=(show Za P G l.toArray a s b z [] i cs ds σ KS=zeR cs ds ((l[a]?).bind (·.dst)) ((l[b]?).bind (·.dst)) σ KS from by simp only[Za,zeR,O7];rfl)
theorem znI {a s z:Nat} {cs ds:Option (List C)}:Jx P G ops a s b z (⟨dst,.alloc t,ty,pos,af,g⟩ :: rest) a cs ds ⟨tm,bx,nx,lg⟩ KS ⟨⟩ ⟨⟩ ⟨⟩=zal (lay P t) (Jx P G ops a s b z rest (a+1) cs ds ⟨jD tm dst .any,bx,nx,lg⟩ KS ⟨⟩ ⟨⟩ ⟨⟩) ⟨⟩:=(show Za P G ops a s b z (⟨dst,.alloc t,ty,pos,af,g⟩ :: rest) a cs ds ⟨tm,bx,nx,lg⟩ KS=xc (lay P t) (Za P G ops a s b z rest (a+1) cs ds ⟨jD tm dst .any,bx,nx,lg⟩ KS) from by simp only[Za,true_or,if_true])
theorem zm2 {a s z:Nat} {cs ds:Option (List C)}:Jx P G ops a s b z (⟨dst,.alloc t,ty,pos,af,g⟩ :: rest) b cs ds ⟨tm,bx,nx,lg⟩ KS ⟨⟩ ⟨⟩ ⟨⟩=zal (lay P t) (Jx P G ops a s b z rest (b+1) cs ds ⟨jD tm dst .any,bx,nx,lg⟩ KS ⟨⟩ ⟨⟩ ⟨⟩) ⟨⟩:=(show Za P G ops a s b z (⟨dst,.alloc t,ty,pos,af,g⟩ :: rest) b cs ds ⟨tm,bx,nx,lg⟩ KS=xc (lay P t) (Za P G ops a s b z rest (b+1) cs ds ⟨jD tm dst .any,bx,nx,lg⟩ KS) from by simp only[Za,or_true,if_true])
theorem zlk {a s z:Nat} {cs ds:Option (List C)} (h1:(s==a)=false) (h2:(s==b)=false):Jx P G ops a s b z (⟨dst,.store t y x,ty,pos,af,g⟩ :: rest) s cs ds ⟨tm,bx,nx,lg⟩ KS ⟨⟩ ⟨⟩ ⟨⟩=uM (lay P t) (zr G tm x) (fun c=>Jx P G ops a s b z rest (s+1) (some c.cells) ds ⟨jD tm dst .any,bx,nx,lg⟩ KS ⟨⟩ ⟨⟩ ⟨⟩) ⟨⟩:=(show Za P G ops a s b z (⟨dst,.store t y x,ty,pos,af,g⟩ :: rest) s cs ds ⟨tm,bx,nx,lg⟩ KS=Hn (lay P t) (zr G tm x) fun c=>Za P G ops a s b z rest (s+1) (some c.cells) ds ⟨jD tm dst .any,bx,nx,lg⟩ KS from by simp only[On]at h1 h2;simp only[Za,h1,h2,or_self,W4,if_true])
theorem zmI {a s z:Nat} {cs ds:Option (List C)} (h1:(z==a)=false) (h2:(z==b)=false) (h3:(z==s)=false):Jx P G ops a s b z (⟨dst,.store t y x,ty,pos,af,g⟩ :: rest) z cs ds ⟨tm,bx,nx,lg⟩ KS ⟨⟩ ⟨⟩ ⟨⟩=uM (lay P t) (zr G tm x) (fun c=>Jx P G ops a s b z rest (z+1) cs (some c.cells) ⟨jD tm dst .any,bx,nx,lg⟩ KS ⟨⟩ ⟨⟩ ⟨⟩) ⟨⟩:=(show Za P G ops a s b z (⟨dst,.store t y x,ty,pos,af,g⟩ :: rest) z cs ds ⟨tm,bx,nx,lg⟩ KS=Hn (lay P t) (zr G tm x) fun c=>Za P G ops a s b z rest (z+1) cs (some c.cells) ⟨jD tm dst .any,bx,nx,lg⟩ KS from by simp only[On]at h1 h2 h3;simp only[Za,h1,h2,h3,or_self,W4,if_true])
theorem zqs {a s z:Nat} {cs ds:Option (List C)} {op:Op} (h1:(i==a)=false) (h2:(i==b)=false) (h3:(i==s)=false) (h4:(i==z)=false):Jx P G ops a s b z (⟨dst,op,ty,pos,af,g⟩ :: rest) i cs ds ⟨tm,bx,nx,lg⟩ KS ⟨⟩ ⟨⟩ ⟨⟩=YN ops tm g (jp P G bx (zr G tm) op nx (fun c nx'=>Jx P G ops a s b z rest (i+1) cs ds ⟨jD tm dst c,bx,nx',lg⟩ KS ⟨⟩ ⟨⟩ ⟨⟩) ⟨⟩ ⟨⟩ ⟨⟩) (Jx P G ops a s b z rest (i+1) cs ds ⟨jD tm dst (.sc undef),bx,nx,lg⟩ KS ⟨⟩ ⟨⟩ ⟨⟩) ⟨⟩ ⟨⟩ ⟨⟩:=(show Za P G ops a s b z (⟨dst,op,ty,pos,af,g⟩ :: rest) i cs ds ⟨tm,bx,nx,lg⟩ KS=jb ops tm g (Ji P G bx (zr G tm) op nx fun c nx'=>Za P G ops a s b z rest (i+1) cs ds ⟨jD tm dst c,bx,nx',lg⟩ KS) (Za P G ops a s b z rest (i+1) cs ds ⟨jD tm dst (.sc undef),bx,nx,lg⟩ KS) from by simp only[On]at h1 h2 h3 h4;simp only[Za,h1,h2,h3,h4,or_self,W4])
theorem znN {u v:Tmp}:zel (some cs) (some ds) (some u) (some v) ⟨tm,bx,nx,lg⟩ KS ⟨⟩=KS ⟨(v,.ptr (bx++[cs]).length 0) :: (u,.ptr bx.length 0) :: tm,bx++[cs]++[ds],nx,lg⟩:=(rfl)
theorem zov {u:Tmp}:zkR (some cs) (some u) ⟨tm,bx,nx,lg⟩ KS ⟨⟩=KS ⟨(u,.ptr bx.length 0) :: tm,bx++[cs],nx,lg⟩:=(rfl)
theorem zpo {z1:List Value}:zal (some ⟨kd,k,b1,some z1⟩) X ⟨⟩=(z1.length=k/\(z1.all Value.oneCell')=true/\X):=(rfl)
theorem zoj:uM (some L) c K ⟨⟩=(c.partB=true/\(c.cells.all C.cellB)=true/\c.cells.length=L.size/\K c):=(rfl)
theorem zok:zlf KS ⟨⟩ .normal σ=KS σ:=(rfl)
theorem zgj {next:St} {b:Bool}:uj m tm b next Q ⟨⟩ ⟨⟩ .normal σ=(b=false/\JF m ⟨[],σ.bx,σ.nx,σ.lg⟩ (next.wt [])):=(rfl)
theorem yO {next:St} {b:Bool}:uj m tm b next Q ⟨⟩ ⟨⟩ .ret σ=(b=true/\∃ σ':St,σ'.bx.length=m/\JF m ⟨[],σ.bx,σ.nx,σ.lg⟩ (σ'.wt [])/\Q .ret (σ'.wt tm)):=(rfl)
theorem zsU {tm2:List (Nat×C)}:St.wt ⟨tm,bx,nx,lg⟩ tm2=⟨tm2,bx,nx,lg⟩:=(rfl)
theorem zh8:Vh [] cs tm=tm:=(rfl)
theorem znU {ps:List Tmp}:Vh (u :: ps) (c :: cs) tm=Vh ps cs ((u,c) :: tm):=(rfl)
theorem zly:He m [] = []:=(rfl)
theorem zpw {r:List (Nat×C)}:He m ((u,c) :: r)=(u,c.sel (H8 m)) :: He m r:=(rfl)
theorem zqe {next:St->Prop}:uG next Q ⟨⟩ ⟨⟩ .normal σ=next σ:=(rfl)
theorem vi {next:St->Prop} {id:Nat}:uG next Q ⟨⟩ ⟨⟩ (.exit id) σ=Q (.exit id) σ:=(rfl)
theorem zbE {next:St->Prop}:uG next Q ⟨⟩ ⟨⟩ .ret σ=Q .ret σ:=(rfl)
theorem zfp {id:Nat}:kE id Q ⟨⟩ .normal σ=Q .normal σ:=(rfl)
theorem xW {id:Nat}:kE id Q ⟨⟩ (.exit id) σ=Q .normal σ:=(show N3 id Q (.exit id) σ=Q .normal σ from if_pos rfl)
theorem N9 {id id2:Nat} (h:(id2==id)=false):kE id Q ⟨⟩ (.exit id2) σ=Q (.exit id2) σ:=(show N3 id Q (.exit id2) σ=Q (.exit id2) σ from if_neg (by simpa using h))
theorem yL {id:Nat}:kE id Q ⟨⟩ .ret σ=Q .ret σ:=(rfl)
theorem zca:GX Q ⟨⟩ .normal σ=Q .normal σ:=(rfl)
theorem MY:GX Q ⟨⟩ .ret σ=Q .ret σ:=(rfl)
theorem zj7 {next:St->Prop}:zaM next Q ⟨⟩ ⟨⟩ .normal σ=next σ:=(rfl)
theorem yQ {next:St->Prop} {id:Nat}:zaM next Q ⟨⟩ ⟨⟩ (.exit id) σ=Q (.exit id) σ:=(rfl)
theorem zbu {next:St->Prop}:zaM next Q ⟨⟩ ⟨⟩ .ret σ=Q .ret σ:=(rfl)
theorem zlJ {rs:List ResultVar}:xt P rs K3 ⟨⟩ .normal σ=zcy P σ rs (fun c=>K3 c σ) ⟨⟩:=(rfl)
theorem zmr {rs:List ResultVar}:xt P rs K3 ⟨⟩ .ret σ=zcy P σ rs (fun c=>K3 c σ) ⟨⟩:=(rfl)
theorem zpu:zcy P σ [] K ⟨⟩=K (.tup []):=(rfl)
theorem zog {a:ResultVar}:zcy P σ [a] K ⟨⟩=YD P σ a K ⟨⟩:=(rfl)
theorem zoU {a b:ResultVar}:zcy P σ [a,b] K ⟨⟩=YD P σ a (fun c=>YD P σ b (fun d=>K (.tup [c,d])) ⟨⟩) ⟨⟩:=(rfl)
theorem zow {a b c1:ResultVar}:zcy P σ [a,b,c1] K ⟨⟩=YD P σ a (fun c=>YD P σ b (fun d=>YD P σ c1 (fun e=>K (.tup [c,d,e])) ⟨⟩) ⟨⟩) ⟨⟩:=(rfl)
theorem zqn:YD P ⟨tm,bx,nx,lg⟩ (.tmp u) K ⟨⟩=K (jN tm u):=(rfl)
theorem zoF:YD P ⟨tm,bx,nx,lg⟩ (.cell u t) K ⟨⟩=zaV P t (jN tm u) bx K ⟨⟩:=(rfl)
theorem zm8:zgN P G h ops [] σ KS ⟨⟩ ⟨⟩ ⟨⟩ ⟨⟩=KS σ:=(rfl)
theorem zqD {op:Op}:zgN P G h ops (⟨dst,op,ty,pos,af,g⟩ :: rest) ⟨tm,bx,nx,lg⟩ KS ⟨⟩ ⟨⟩ ⟨⟩ ⟨⟩=YN ops tm g (jM P G h op ⟨tm,bx,nx,lg⟩ (fun c σ'=>zgN P G h ops rest (σ'.put dst c) KS ⟨⟩ ⟨⟩ ⟨⟩ ⟨⟩) ⟨⟩ ⟨⟩ ⟨⟩) (zgN P G h ops rest (St.put ⟨tm,bx,nx,lg⟩ dst (.sc undef)) KS ⟨⟩ ⟨⟩ ⟨⟩ ⟨⟩) ⟨⟩ ⟨⟩ ⟨⟩:=(rfl)
theorem zjK:XJ P G h ops [] brs σ KS ⟨⟩ ⟨⟩ ⟨⟩ ⟨⟩=KS σ:=(rfl)
theorem zhy {op:Op}:XJ P G h ops (⟨dst,op,ty,pos,af,g⟩ :: rest) [] ⟨tm,bx,nx,lg⟩ KS ⟨⟩ ⟨⟩ ⟨⟩ ⟨⟩=YN ops tm g (jp P G bx (zr G tm) op nx (fun c nx'=>XJ P G h ops rest [] ⟨jD tm dst c,bx,nx',lg⟩ KS ⟨⟩ ⟨⟩ ⟨⟩ ⟨⟩) ⟨⟩ ⟨⟩ ⟨⟩) (XJ P G h ops rest [] ⟨jD tm dst (.sc undef),bx,nx,lg⟩ KS ⟨⟩ ⟨⟩ ⟨⟩ ⟨⟩) ⟨⟩ ⟨⟩ ⟨⟩:=(rfl)
theorem zkw {op:Op}:XJ P G h ops (⟨dst,op,ty,pos,af,g⟩ :: rest) (false :: brs) ⟨tm,bx,nx,lg⟩ KS ⟨⟩ ⟨⟩ ⟨⟩ ⟨⟩=YN ops tm g (jp P G bx (zr G tm) op nx (fun c nx'=>XJ P G h ops rest brs ⟨jD tm dst c,bx,nx',lg⟩ KS ⟨⟩ ⟨⟩ ⟨⟩ ⟨⟩) ⟨⟩ ⟨⟩ ⟨⟩) (XJ P G h ops rest brs ⟨jD tm dst (.sc undef),bx,nx,lg⟩ KS ⟨⟩ ⟨⟩ ⟨⟩ ⟨⟩) ⟨⟩ ⟨⟩ ⟨⟩:=(rfl)
theorem zjI {op:Op}:XJ P G h ops (⟨dst,op,ty,pos,af,g⟩ :: rest) (true :: brs) ⟨tm,bx,nx,lg⟩ KS ⟨⟩ ⟨⟩ ⟨⟩ ⟨⟩=YN ops tm g (jM P G h op ⟨tm,bx,nx,lg⟩ (fun c σ'=>XJ P G h ops rest brs (σ'.put dst c) KS ⟨⟩ ⟨⟩ ⟨⟩ ⟨⟩) ⟨⟩ ⟨⟩ ⟨⟩) (XJ P G h ops rest brs ⟨jD tm dst (.sc undef),bx,nx,lg⟩ KS ⟨⟩ ⟨⟩ ⟨⟩ ⟨⟩) ⟨⟩ ⟨⟩ ⟨⟩:=(rfl)
theorem zkD:YN ops tm none X Y ⟨⟩ ⟨⟩ ⟨⟩=X:=(rfl)
theorem zna {l:List Oper} {want:Bool}:YN l.toArray tm (some (j,want)) X Y ⟨⟩ ⟨⟩ ⟨⟩=zrY ((l[j]?).bind (·.dst)) tm want X Y ⟨⟩ ⟨⟩:=(show jb l.toArray tm (some (j,want)) X Y=aGd ((l[j]?).bind (·.dst)) tm want X Y from by simp only[jb,O7];rfl)
theorem zoc {u:Tmp}:zrY (some u) tm true X Y ⟨⟩ ⟨⟩=zjO (jN tm u) Y X Y ⟨⟩ ⟨⟩ ⟨⟩:=(rfl)
theorem zp8 {u:Tmp}:zrY (some u) tm false X Y ⟨⟩ ⟨⟩=zjO (jN tm u) Y Y X ⟨⟩ ⟨⟩ ⟨⟩:=(rfl)
theorem znK {U:Prop} {b:Bool}:zjO (.sc (.bool b)) U X Y ⟨⟩ ⟨⟩ ⟨⟩=znT (.sc (.bool b)) X Y ⟨⟩ ⟨⟩:=(rfl)
theorem zmQ {U:Prop}:zjO (.sc undef) U X Y ⟨⟩ ⟨⟩ ⟨⟩=U:=(rfl)
theorem zbd {u:Tmp}:St.put ⟨tm,bx,nx,lg⟩ (some u) c=⟨(u,c) :: tm,bx,nx,lg⟩:=(rfl)
theorem zcA:St.put ⟨tm,bx,nx,lg⟩ none c=⟨tm,bx,nx,lg⟩:=(rfl)
theorem vj {u:Tmp}:jD tm (some u) c=(u,c) :: tm:=(rfl)
theorem uq:jD tm none c=tm:=(rfl)
theorem Hy {ps:List (Nat×Operand)}:jM P G h (.buildSlice t n ps.toArray) ⟨tm,bx,nx,lg⟩ K3 ⟨⟩ ⟨⟩ ⟨⟩=if h.bx t then Gc P t n (ps.map fun p=>(p.1,zr G tm p.2)) ⟨tm,bx,nx,lg⟩ K3 ⟨⟩ else XY P t n (ps.map fun p=>(p.1,zr G tm p.2)) nx (fun c nx'=>K3 c ⟨tm,bx,nx',lg⟩) ⟨⟩:=(rfl)
theorem Hi {ps:List (Nat×Operand)} {ev:Operand->C}:jp P G bx ev (.buildSlice t n ps.toArray) nx K2 ⟨⟩ ⟨⟩ ⟨⟩=za2 P t n (ps.map fun p=>(p.1,ev p.2)) nx K2 ⟨⟩:=(rfl)
theorem zso:za2 P t (n+1) ps nx K2 ⟨⟩=XY P t (n+1) ps nx K2 ⟨⟩:=(rfl)
theorem G8:jM P G h (.makeSlice t x y) ⟨tm,bx,nx,lg⟩ K3 ⟨⟩ ⟨⟩ ⟨⟩=if h.bx t then MQ P t (zr G tm x) (zr G tm y) ⟨tm,bx,nx,lg⟩ K3 ⟨⟩ else zk6 P t (zr G tm x) (zr G tm y) nx (fun c nx'=>K3 c ⟨tm,bx,nx',lg⟩) ⟨⟩:=(rfl)
theorem zpb:Hd.bx ⟨p,yd,bf⟩ t=(bf (1000000+t)).headD false:=(rfl)
theorem zmA:Hd.bx2 ⟨p,yd,bf⟩ t=((bf (1000000+t)).drop 1).headD false:=(rfl)
theorem ziJ:jM P G h (.move x) ⟨tm,bx,nx,lg⟩ K3 ⟨⟩ ⟨⟩ ⟨⟩=K3 (zr G tm x) ⟨tm,bx,nx,lg⟩:=(rfl)
theorem ziD {ev:Operand->C}:jp P G bx ev (.move x) nx K2 ⟨⟩ ⟨⟩ ⟨⟩=K2 (ev x) nx:=(rfl)
theorem zbl:jM P G h (.assign x) ⟨tm,bx,nx,lg⟩ K3 ⟨⟩ ⟨⟩ ⟨⟩=K3 (zr G tm x) ⟨tm,bx,nx,lg⟩:=(rfl)
theorem zc1 {ev:Operand->C}:jp P G bx ev (.assign x) nx K2 ⟨⟩ ⟨⟩ ⟨⟩=K2 (ev x) nx:=(rfl)
theorem zkq:jM P G h (.pick x y z) ⟨tm,bx,nx,lg⟩ K3 ⟨⟩ ⟨⟩ ⟨⟩=znT (zr G tm x) (K3 (zr G tm y) ⟨tm,bx,nx,lg⟩) (K3 (zr G tm z) ⟨tm,bx,nx,lg⟩) ⟨⟩ ⟨⟩:=(rfl)
theorem zh1 {ev:Operand->C}:jp P G bx ev (.pick x y z) nx K2 ⟨⟩ ⟨⟩ ⟨⟩=znT (ev x) (K2 (ev y) nx) (K2 (ev z) nx) ⟨⟩ ⟨⟩:=(rfl)
theorem zgV {ps:List (Nat×Operand)}:jM P G h (.build t ps.toArray) ⟨tm,bx,nx,lg⟩ K3 ⟨⟩ ⟨⟩ ⟨⟩=vF P t (ps.map fun p=>(p.1,zr G tm p.2)) (fun c=>K3 c ⟨tm,bx,nx,lg⟩) ⟨⟩:=(rfl)
theorem zdu {ps:List (Nat×Operand)} {ev:Operand->C}:jp P G bx ev (.build t ps.toArray) nx K2 ⟨⟩ ⟨⟩ ⟨⟩=vF P t (ps.map fun p=>(p.1,ev p.2)) (fun c=>K2 c nx) ⟨⟩:=(rfl)
theorem zjR:jM P G h (.load t x) ⟨tm,bx,nx,lg⟩ K3 ⟨⟩ ⟨⟩ ⟨⟩=zaV P t (zr G tm x) bx (fun c=>K3 c ⟨tm,bx,nx,lg⟩) ⟨⟩:=(rfl)
theorem zhF {ev:Operand->C}:jp P G bx ev (.load t x) nx K2 ⟨⟩ ⟨⟩ ⟨⟩=zaV P t (ev x) bx (fun c=>K2 c nx) ⟨⟩:=(rfl)
theorem MS:jM P G h (.nilCheck x) ⟨tm,bx,nx,lg⟩ K3 ⟨⟩ ⟨⟩ ⟨⟩=znV (zr G tm x) (fun c=>K3 c ⟨tm,bx,nx,lg⟩) ⟨⟩:=(rfl)
theorem Mw {ev:Operand->C}:jp P G bx ev (.nilCheck x) nx K2 ⟨⟩ ⟨⟩ ⟨⟩=znV (ev x) (fun c=>K2 c nx) ⟨⟩:=(rfl)
theorem zho:jM P G h (.binOp op t x y t') ⟨tm,bx,nx,lg⟩ K3 ⟨⟩ ⟨⟩ ⟨⟩=ym P t op (zr G tm x) (zr G tm y) (fun c=>K3 c ⟨tm,bx,nx,lg⟩) ⟨⟩:=(rfl)
theorem ze7 {ev:Operand->C}:jp P G bx ev (.binOp op t x y t') nx K2 ⟨⟩ ⟨⟩ ⟨⟩=ym P t op (ev x) (ev y) (fun c=>K2 c nx) ⟨⟩:=(rfl)
theorem ziT {op:UnOp}:jM P G h (.unOp op t x) ⟨tm,bx,nx,lg⟩ K3 ⟨⟩ ⟨⟩ ⟨⟩=zr7 op (zr G tm x) (fun c=>K3 c ⟨tm,bx,nx,lg⟩) ⟨⟩:=(rfl)
theorem ziQ {op:UnOp} {ev:Operand->C}:jp P G bx ev (.unOp op t x) nx K2 ⟨⟩ ⟨⟩ ⟨⟩=zr7 op (ev x) (fun c=>K2 c nx) ⟨⟩:=(rfl)
theorem uk:jM P G h (.convert t t' x) ⟨tm,bx,nx,lg⟩ K3 ⟨⟩ ⟨⟩ ⟨⟩=vm P bx t t' (zr G tm x) (fun c=>K3 c ⟨tm,bx,nx,lg⟩) ⟨⟩:=(rfl)
theorem xI {fn:Fn} {fs cs:List Operand}:jM P G h (.makeFunc fn fs.toArray cs.toArray) ⟨tm,bx,nx,lg⟩ K3 ⟨⟩ ⟨⟩ ⟨⟩=K3 (.clo fn (fs.map (zr G tm)) (cs.map (zr G tm))) ⟨tm,bx,nx,lg⟩:=(rfl)
theorem zge {lo hi mx:Option Operand}:jM P G h (.slice t x lo hi mx) ⟨tm,bx,nx,lg⟩ K3 ⟨⟩ ⟨⟩ ⟨⟩=vD P t (zr G tm x) (lo.map (zr G tm)) (hi.map (zr G tm)) (mx.map (zr G tm)) (fun c=>K3 c ⟨tm,bx,nx,lg⟩) ⟨⟩:=(rfl)
theorem zfW {lo hi mx:Option Operand} {ev:Operand->C}:jp P G bx ev (.slice t x lo hi mx) nx K2 ⟨⟩ ⟨⟩ ⟨⟩=vD P t (ev x) (lo.map ev) (hi.map ev) (mx.map ev) (fun c=>K2 c nx) ⟨⟩:=(rfl)
theorem NH {f:Nat}:jM P G h (.fieldAddr t x f) ⟨tm,bx,nx,lg⟩ K3 ⟨⟩ ⟨⟩ ⟨⟩=Zb P t (zr G tm x) f (fun c=>K3 c ⟨tm,bx,nx,lg⟩) ⟨⟩:=(rfl)
theorem GS {f:Nat} {ev:Operand->C}:jp P G bx ev (.fieldAddr t x f) nx K2 ⟨⟩ ⟨⟩ ⟨⟩=Zb P t (ev x) f (fun c=>K2 c nx) ⟨⟩:=(rfl)
theorem zfq {f:Nat}:jM P G h (.field t x f) ⟨tm,bx,nx,lg⟩ K3 ⟨⟩ ⟨⟩ ⟨⟩=uu P t (zr G tm x) f (fun c=>K3 c ⟨tm,bx,nx,lg⟩) ⟨⟩:=(rfl)
theorem zf9 {f:Nat} {ev:Operand->C}:jp P G bx ev (.field t x f) nx K2 ⟨⟩ ⟨⟩ ⟨⟩=uu P t (ev x) f (fun c=>K2 c nx) ⟨⟩:=(rfl)
theorem Nc:jM P G h (.indexAddr t x y) ⟨tm,bx,nx,lg⟩ K3 ⟨⟩ ⟨⟩ ⟨⟩=Ze P t (zr G tm x) (zr G tm y) (fun c=>K3 c ⟨tm,bx,nx,lg⟩) ⟨⟩:=(rfl)
theorem GM {ev:Operand->C}:jp P G bx ev (.indexAddr t x y) nx K2 ⟨⟩ ⟨⟩ ⟨⟩=Ze P t (ev x) (ev y) (fun c=>K2 c nx) ⟨⟩:=(rfl)
theorem zfG:jM P G h (.index t x y) ⟨tm,bx,nx,lg⟩ K3 ⟨⟩ ⟨⟩ ⟨⟩=yW P t (zr G tm x) (zr G tm y) (fun c=>K3 c ⟨tm,bx,nx,lg⟩) ⟨⟩:=(rfl)
theorem zdn {ev:Operand->C}:jp P G bx ev (.index t x y) nx K2 ⟨⟩ ⟨⟩ ⟨⟩=yW P t (ev x) (ev y) (fun c=>K2 c nx) ⟨⟩:=(rfl)
theorem vn:jM P G h (.extract x i) ⟨tm,bx,nx,lg⟩ K3 ⟨⟩ ⟨⟩ ⟨⟩=kw (zr G tm x) i (fun c=>K3 c ⟨tm,bx,nx,lg⟩) ⟨⟩:=(rfl)
theorem yM {ev:Operand->C}:jp P G bx ev (.extract x i) nx K2 ⟨⟩ ⟨⟩ ⟨⟩=kw (ev x) i (fun c=>K2 c nx) ⟨⟩:=(rfl)
theorem zep {ts:List TypeId}:jM P G h (.call ⟨.value x,us.toArray,ts.toArray⟩) ⟨tm,bx,nx,lg⟩ K3 ⟨⟩ ⟨⟩ ⟨⟩=yV P G h (zr G tm x) (us.map (zr G tm)) ⟨tm,bx,nx,lg⟩ K3 ⟨⟩ ⟨⟩:=(rfl)
theorem zfs {ts:List TypeId} {ev:Operand->C}:jp P G bx ev (.call ⟨.value x,us.toArray,ts.toArray⟩) nx K2 ⟨⟩ ⟨⟩ ⟨⟩=zfK P G (ev x) (us.map ev) nx K2 ⟨⟩:=(rfl)
theorem zlI:jM P G h (.call ⟨.builtin .len,#[x],#[t]⟩) ⟨tm,bx,nx,lg⟩ K3 ⟨⟩ ⟨⟩ ⟨⟩=vd P t (zr G tm x) (fun c=>K3 c ⟨tm,bx,nx,lg⟩) ⟨⟩:=(rfl)
theorem znH {ev:Operand->C}:jp P G bx ev (.call ⟨.builtin .len,#[x],#[t]⟩) nx K2 ⟨⟩ ⟨⟩ ⟨⟩=vd P t (ev x) (fun c=>K2 c nx) ⟨⟩:=(rfl)
theorem uw {r:Option Operand}:jM P G h (.makeMap t r) ⟨tm,bx,nx,lg⟩ K3 ⟨⟩ ⟨⟩ ⟨⟩=zpL (zhr P t) t (r.map (zr G tm)) nx (fun c nx'=>K3 c ⟨tm,bx,nx',lg⟩) ⟨⟩:=(rfl)
theorem zoK {kd:MKd} {z:C}:zpL (some (kd,z)) t none nx K2 ⟨⟩=K2 (.mo nx t kd.nil []) (nx+1):=(rfl)
theorem znn {k:IntKind}:MKd.nil (.int k) = .int k []:=(rfl)
theorem zbC {ok:Bool} {ev:Operand->C}:jp P G bx ev (.lookup t x y ok) nx K2 ⟨⟩ ⟨⟩ ⟨⟩=zpx (zhr P t) t (ev x) (ev y) ok (fun c=>K2 c nx) ⟨⟩:=(rfl)
theorem zo9 {k q:IntKind} {z:C} {id:Nat} {l:List Int} {n:Int} {ok:Bool}:zpx (some (.int k,z)) t (.mo id t2 (.int k2 l) vs) (.sc (.int q n)) ok K ⟨⟩=(t2=t/\k2=k/\q=k/\zeo (zhs n l vs) z ok K ⟨⟩):=(rfl)
theorem zi7 {z:C}:zeo (some c) z false K ⟨⟩=K c:=(rfl)
theorem zdd {w:Operand}:jM P G h (.insert t x y w) ⟨tm,bx,nx,lg⟩ K3 ⟨⟩ ⟨⟩ ⟨⟩=zpN (zhr P t) t (zr G tm x) (zr G tm y) (zr G tm w) ⟨tm,bx,nx,lg⟩ K3 ⟨⟩:=(rfl)
theorem zqj {k q:IntKind} {z:C} {id:Nat} {l:List Int} {n:Int}:zpN (some (.int k,z)) t (.mo id t2 (.int k2 l) vs) (.sc (.int q n)) d ⟨tm,bx,nx,lg⟩ K3 ⟨⟩=(t2=t/\k2=k/\q=k/\K3 .any ⟨zht id (.int k (Hs n d.frz l vs).1) (Hs n d.frz l vs).2 tm,ze1 id (.int k (Hs n d.frz l vs).1) (Hs n d.frz l vs).2 bx,nx,lg⟩):=(rfl)
theorem zcg:jM P G h (.call ⟨.builtin .append,#[x,y],#[t,t]⟩) ⟨tm,bx,nx,lg⟩ K3 ⟨⟩ ⟨⟩ ⟨⟩=if h.bx t then if h.bx2 t then ue P t (zr G tm x) (zr G tm y) ⟨tm,bx,nx,lg⟩ K3 ⟨⟩ else zaS P h.p t (zr G tm x) (zr G tm y) ⟨tm,bx,nx,lg⟩ K3 ⟨⟩ else Nl P t (zr G tm x) (zr G tm y) ⟨tm,bx,nx,lg⟩ K3 ⟨⟩:=(show NV P G h (.call ⟨.builtin .append,#[x,y],#[t,t]⟩) ⟨tm,bx,nx,lg⟩ K3=if h.bx t then if h.bx2 t then Yz P t (zr G tm x) (zr G tm y) ⟨tm,bx,nx,lg⟩ K3 else kL P h.p t (zr G tm x) (zr G tm y) ⟨tm,bx,nx,lg⟩ K3 else Nr P t (zr G tm x) (zr G tm y) ⟨tm,bx,nx,lg⟩ K3 from by simp[NV,vq])
theorem zhU (h0:(t'==t)=false):jM P G h (.call ⟨.builtin .append,#[x,y],#[t,t']⟩) ⟨tm,bx,nx,lg⟩ K3 ⟨⟩ ⟨⟩ ⟨⟩=zaC P t t' (zr G tm x) (zr G tm y) ⟨tm,bx,nx,lg⟩ K3 ⟨⟩:=(show NV P G h (.call ⟨.builtin .append,#[x,y],#[t,t']⟩) ⟨tm,bx,nx,lg⟩ K3=Nv P t t' (zr G tm x) (zr G tm y) ⟨tm,bx,nx,lg⟩ K3 from by simp only[On]at h0;simp[NV,vq,h0])
theorem ziv:jM P G h (.call ⟨.builtin .copy,#[x,y],#[t,t']⟩) ⟨tm,bx,nx,lg⟩ K3 ⟨⟩ ⟨⟩ ⟨⟩=yc P t (zr G tm x) (zr G tm y) ⟨tm,bx,nx,lg⟩ K3 ⟨⟩:=(show NV P G h (.call ⟨.builtin .copy,#[x,y],#[t,t']⟩) ⟨tm,bx,nx,lg⟩ K3=QX P t (zr G tm x) (zr G tm y) ⟨tm,bx,nx,lg⟩ K3 from by simp[NV,vq])
theorem zd4:jM P G h (.call ⟨.builtin .clear,#[x],#[t]⟩) ⟨tm,bx,nx,lg⟩ K3 ⟨⟩ ⟨⟩ ⟨⟩=v7 P t (zr G tm x) ⟨tm,bx,nx,lg⟩ K3 ⟨⟩:=(show NV P G h (.call ⟨.builtin .clear,#[x],#[t]⟩) ⟨tm,bx,nx,lg⟩ K3=ku P t (zr G tm x) ⟨tm,bx,nx,lg⟩ K3 from by simp[NV,vq])
theorem zlX:jM P G h (.call ⟨.builtin .max,#[x,y],#[t,t']⟩) ⟨tm,bx,nx,lg⟩ K3 ⟨⟩ ⟨⟩ ⟨⟩=zom (zr G tm x) (zr G tm y) (fun c=>K3 c ⟨tm,bx,nx,lg⟩) ⟨⟩:=(rfl)
theorem zry {k k':IntKind} {n m:Int}:zom (.sc (.int k n)) (.sc (.int k' m)) K ⟨⟩=K (.sc (.int k (if m>n then m else n))):=(rfl)
theorem zmE:jM P G h (.call ⟨.builtin .cap,#[x],#[t]⟩) ⟨tm,bx,nx,lg⟩ K3 ⟨⟩ ⟨⟩ ⟨⟩=zql P t (zr G tm x) (fun c=>K3 c ⟨tm,bx,nx,lg⟩) ⟨⟩:=(show NV P G h (.call ⟨.builtin .cap,#[x],#[t]⟩) ⟨tm,bx,nx,lg⟩ K3=zoz P t (zr G tm x) fun c=>K3 c ⟨tm,bx,nx,lg⟩ from by simp[NV,vq])
theorem zrA:zql P t c K ⟨⟩=zgU (lay P t) c K ⟨⟩:=(rfl)
theorem zkh:zgU (some ⟨.slice e,s1,b1,z1⟩) (.bs i off k n cap) K ⟨⟩=K (.sc (.int .i64 (cap:Int))):=(rfl)
theorem zez:zgU (some ⟨.slice e,s1,b1,z1⟩) (.sc (.slice none 0 0)) K ⟨⟩=K (.sc (.int .i64 0)):=(rfl)
theorem zcO {ev:Operand->C}:jp P G bx ev (.call ⟨.builtin .append,#[x,y],#[t,t]⟩) nx K2 ⟨⟩ ⟨⟩ ⟨⟩=NG P t (ev x) (ev y) nx K2 ⟨⟩:=(show Ji P G bx ev (.call ⟨.builtin .append,#[x,y],#[t,t]⟩) nx K2=Vg P t (ev x) (ev y) nx K2 from by simp[Ji,MT,kh])
theorem zdV:jM P G h (.alloc t) ⟨tm,bx,nx,lg⟩ K3 ⟨⟩ ⟨⟩ ⟨⟩=zoo (lay P t) ⟨tm,bx,nx,lg⟩ K3 ⟨⟩:=(rfl)
theorem zlq:jM P G h (.box t x) ⟨tm,bx,nx,lg⟩ K3 ⟨⟩ ⟨⟩ ⟨⟩=zqO (zr G tm x) ⟨tm,bx,nx,lg⟩ K3 ⟨⟩:=(rfl)
theorem zdC:jM P G h (.store t x y) ⟨tm,bx,nx,lg⟩ K3 ⟨⟩ ⟨⟩ ⟨⟩=zqr (lay P t) (zr G tm x) (zr G tm y) ⟨tm,bx,nx,lg⟩ K3 ⟨⟩:=(rfl)
theorem ziK {u:Tmp}:zr G tm (.tmp u)=jN tm u:=(rfl)
theorem zba:zr G tm (.const v)=zA v:=(rfl)
theorem zgO:zr G tm (.func f) = .clo (.func f) [] []:=(rfl)
theorem vW {g:Nat}:zr G tm (.global g)=zss (G g):=(rfl)
theorem yZ:zss (some cs) = .row cs:=(rfl)
theorem zqd {v:Nat} {r:List (Nat×C)}:jN ((u,c) :: r) v=if v=u then c else jN r v:=(rfl)
theorem vV {k:IntKind} {n:Int}:zA (.int k n) = .sc (.int k n):=(rfl)
theorem xC {b:Bool}:zA (.bool b) = .sc (.bool b):=(rfl)
theorem yD:zA (.string ⟨l.toArray⟩) = .str l:=(rfl)
theorem GN {a:Option Addr} {m:Nat}:zA (.slice a n m) = .sc (.slice a n m):=(rfl)
theorem yG {a:Option Addr}:zA (.pointer a) = .sc (.pointer a):=(rfl)
theorem uf {a:Option Nat}:zA (.map a) = .sc (.map a):=(rfl)
theorem MC:zA .nilFunc = .sc .nilFunc:=(rfl)
theorem zfI {k:IntKind} {b:Int}:ym P t op (.sc (.int k a)) (.sc (.int k b)) K ⟨⟩=HA op k a b K ⟨⟩:=(show zn6 P t op (.sc (.int k a)) (.sc (.int k b)) K=zqZ op k a b K from by simp[zn6])
theorem zf3 {a b:Lz}:ym P t op (.str a) (.str b) K ⟨⟩=zg0 op a b K ⟨⟩:=(rfl)
theorem zdq:ym P t op (.agg cs) (.agg ds) K ⟨⟩=zoR op (HM P t) cs ds K ⟨⟩:=(rfl)
theorem xd {rows:List (List C)}:ym P t op (.sl k rows) (.sc (.slice none 0 0)) K ⟨⟩=uK (lay P t) op (.sl k rows) K ⟨⟩:=(rfl)
theorem zgx {e0:TypeId} {k0 b0:Nat} {z0:Option (List Value)} {rows:List (List C)}:uK (some ⟨.slice e0,k0,b0,z0⟩) op (.sl k rows) K ⟨⟩=(rows≠[]/\zfr op false K ⟨⟩):=(rfl)
theorem yb {a:Option Addr}:ym P t op (.sc (.slice a n cap)) (.sc (.slice none 0 0)) K ⟨⟩=uK (lay P t) op (.sc (.slice a n cap)) K ⟨⟩:=(rfl)
theorem zd9 {e0:TypeId} {k0 b0:Nat} {z0:Option (List Value)} {a:Option Addr}:uK (some ⟨.slice e0,k0,b0,z0⟩) op (.sc (.slice a n cap)) K ⟨⟩=zfr op a.isNone K ⟨⟩:=(rfl)
theorem zbs {b:Bool}:zfr .eql b K ⟨⟩=K (.sc (.bool b)):=(rfl)
theorem zfJ:zoR .neq (some lk) cs ds K ⟨⟩=zkM true lk cs ds true K ⟨⟩:=(rfl)
theorem zc7 {e:Bool}:zkM true [] [] [] e K ⟨⟩=K (.sc (.bool (!e))):=(rfl)
theorem zji {n e:Bool} {k k1:IntKind} {b:Int}:zkM n (.int k :: lk) (.sc (.int k1 a) :: cs) (.sc (.int k2 b) :: ds) e K ⟨⟩=(k1=k/\k2=k/\zkM n lk cs ds (e&&decide (a=b)) K ⟨⟩):=(rfl)
theorem zd6 {n e:Bool} {a b:Bool}:zkM n (.bool :: lk) (.sc (.bool a) :: cs) (.sc (.bool b) :: ds) e K ⟨⟩=zkM n lk cs ds (e&&(a==b)) K ⟨⟩:=(rfl)
theorem zko {n e:Bool} {a b:Lz}:zkM n (.str :: lk) (.str a :: cs) (.str b :: ds) e K ⟨⟩=zkM n lk cs ds (e&&decide (a=b)) K ⟨⟩:=(rfl)
theorem zfH {k:IntKind} {b:Int}:HA .add k a b K ⟨⟩=(inR k (a+b)/\K (.sc (.int k (a+b)))):=(rfl)
theorem zdk {k:IntKind} {b:Int}:HA .sub k a b K ⟨⟩=(inR k (a-b)/\K (.sc (.int k (a-b)))):=(rfl)
theorem zeB {k:IntKind} {b:Int}:HA .shr k a b K ⟨⟩=(b=1/\K (.sc (.int k (a / 2)))):=(rfl)
theorem zg9 {k:IntKind} {b:Int}:HA .eql k a b K ⟨⟩=(K (.sc (.bool (decide (a=b))))):=(rfl)
theorem zg7 {k:IntKind} {b:Int}:HA .neq k a b K ⟨⟩=(K (.sc (.bool (!decide (a=b))))):=(rfl)
theorem zgo {k:IntKind} {b:Int}:HA .lss k a b K ⟨⟩=(K (.sc (.bool (decide (a<b))))):=(rfl)
theorem zeC {k:IntKind} {b:Int}:HA .leq k a b K ⟨⟩=(K (.sc (.bool (decide (a<=b))))):=(rfl)
theorem zeA {k:IntKind} {b:Int}:HA .gtr k a b K ⟨⟩=(K (.sc (.bool (decide (b<a))))):=(rfl)
theorem zed {k:IntKind} {b:Int}:HA .geq k a b K ⟨⟩=(K (.sc (.bool (decide (b<=a))))):=(rfl)
theorem zeZ {a b:Lz}:zg0 .add a b K ⟨⟩=(((a.length+b.length:Nat):Int)<=9223372036854775807/\K (.str (a++b))):=(rfl)
theorem zdo {a b:Lz}:zg0 .eql a b K ⟨⟩=(K (.sc (.bool (decide (a=b))))):=(rfl)
theorem zeK {a b:Lz}:zg0 .neq a b K ⟨⟩=(K (.sc (.bool (!decide (a=b))))):=(rfl)
theorem zdR {a b:Lz}:zg0 .geq a b K ⟨⟩=(K (.sc (.bool (!Op.bytesLess a b)))):=(rfl)
theorem zjj {b:Bool}:zr7 .not (.sc (.bool b)) K ⟨⟩=K (.sc (.bool (!b))):=(rfl)
theorem zgR:kw (.tup cs) i K ⟨⟩=zlP (cs[i]?) K ⟨⟩:=(rfl)
theorem zsl:zlP (some c) K ⟨⟩=K c:=(rfl)
theorem zgy:znV (.ptr i off) K ⟨⟩=K (.ptr i off):=(rfl)
theorem zo1:zaV P t c bx K ⟨⟩=yI (lay P t) c bx K ⟨⟩:=(rfl)
theorem zfg {ev:Operand->C}:jp P G bx ev (.store t x y) nx K2 ⟨⟩ ⟨⟩ ⟨⟩=zpB (lay P t) (ev x) (ev y) bx (fun c=>K2 c nx) ⟨⟩:=(rfl)
theorem zrV:zpB (some L) (.ptr i off) c bx K ⟨⟩=zqh (bx[i]?) off L.size c K ⟨⟩:=(rfl)
theorem zsc:zqh (some cs) off size c K ⟨⟩=(c.partB=true/\(c.cells.all C.cellB)=true/\c.cells.length=size/\off+size<=cs.length/\Ua ((cs.drop off).take size) c.cells/\K .any):=(rfl)
theorem zbj:Ua [] []=True:=(rfl)
theorem zeT {u:Value} {r s:List C}:Ua (.sc u :: r) (.sc v :: s)=(u=v/\Ua r s):=(rfl)
theorem zc0 {u v:Lz} {r s:List C}:Ua (.str u :: r) (.str v :: s)=(u=v/\Ua r s):=(rfl)
theorem zcp:yI (some L) (.ptr i off) bx K ⟨⟩=zeI (bx[i]?) off L K ⟨⟩:=(rfl)
theorem zbk:yI (some L) (.row cs) bx K ⟨⟩=VY L cs K ⟨⟩:=(rfl)
theorem zlT:zeI (some cs) off L K ⟨⟩=VY L (cs.drop off) K ⟨⟩:=(rfl)
theorem NK {fs:List (Nat×Nat×Bool)} {s:Nat}:VY ⟨.struct fs,s,b,z1⟩ cs K ⟨⟩=(s<=cs.length/\K (.agg (cs.take s))):=(show J6 ⟨.struct fs,s,b,z1⟩ cs K=(s<=cs.length/\K (.agg (cs.take s))) from by simp[J6,LK.agg])
theorem zcJ {ik:IntKind} {s:Nat} {r:List C}:VY ⟨.int ik,s,b,z1⟩ (c :: r) K ⟨⟩=K c:=(show J6 ⟨.int ik,s,b,z1⟩ (c :: r) K=K c from by simp[J6,LK.agg])
theorem y4 {s:Nat} {r:List C}:VY ⟨.bool,s,b,z1⟩ (c :: r) K ⟨⟩=K c:=(show J6 ⟨.bool,s,b,z1⟩ (c :: r) K=K c from by simp[J6,LK.agg])
theorem zbO {s:Nat} {r:List C}:VY ⟨.str,s,b,z1⟩ (c :: r) K ⟨⟩=K c:=(show J6 ⟨.str,s,b,z1⟩ (c :: r) K=K c from by simp[J6,LK.agg])
theorem MH {e:TypeId} {s:Nat} {r:List C}:VY ⟨.slice e,s,b,z1⟩ (c :: r) K ⟨⟩=K c:=(show J6 ⟨.slice e,s,b,z1⟩ (c :: r) K=K c from by simp[J6,LK.agg])
theorem N0 {s:Nat} {r:List C}:VY ⟨.other,s,b,z1⟩ (c :: r) K ⟨⟩=K c:=(show J6 ⟨.other,s,b,z1⟩ (c :: r) K=K c from by simp[J6,LK.agg])
theorem zm9 {f:Nat}:uu P t c f K ⟨⟩=zaY (lay P t) c f K ⟨⟩:=(rfl)
theorem zjB {fs:List (Nat×Nat×Bool)} {s:Nat} {f:Nat}:zaY (some ⟨.struct fs,s,b,z1⟩) (.agg cs) f K ⟨⟩=uY (fs[f]?) cs K ⟨⟩:=(show yi (some ⟨.struct fs,s,b,z1⟩) (.agg cs) f K=UT (fs[f]?) cs K from by unfold yi UT;simp only[];cases fs[f]?<;>simp)
theorem zhh:uY (some (off,size,false)) cs K ⟨⟩=zlP (cs[off]?) K ⟨⟩:=(show UT (some (off,size,false)) cs K=zr1 (cs[off]?) K from by unfold UT zr1;simp)
theorem ztw {f:Nat}:Zb P t c f K ⟨⟩=zqy (lay P t) c f K ⟨⟩:=(rfl)
theorem zr0 {fs:List (Nat×Nat×Bool)} {s:Nat} {f:Nat}:zqy (some ⟨.struct fs,s,b,z1⟩) c f K ⟨⟩=zmo (fs[f]?) c K ⟨⟩:=(rfl)
theorem zj4 {g:Bool}:zmo (some (off,size+1,g)) (.ptr i q) K ⟨⟩=K (.ptr i (q+off)):=(show zpI (some (off,size+1,g)) (.ptr i q) K=K (.ptr i (q+off)) from by simp[zpI])
theorem zi1 {g:Bool}:zmo (some (off,size+1,g)) (.row cs) K ⟨⟩=K (.row (cs.drop off)):=(show zpI (some (off,size+1,g)) (.row cs) K=K (.row (cs.drop off)) from by simp[zpI])
theorem zta:Ze P t c d K ⟨⟩=zmU P (lay P t) c d K ⟨⟩:=(rfl)
theorem zbQ {s:Nat} {k:IntKind} {n:Int}:zmU P (some ⟨.slice e,s,b,z1⟩) c (.sc (.int k n)) K ⟨⟩=zjG (lay P e) c n K ⟨⟩:=(rfl)
theorem zbr {m s:Nat} {k:IntKind} {n:Int}:zmU P (some ⟨.array (m+1) e,s,b,z1⟩) c (.sc (.int k n)) K ⟨⟩=zqV (lay P e) c m n K ⟨⟩:=(rfl)
theorem ze0 {rows:List (List C)} {n:Int}:zjG (some L) (.sl k rows) n K ⟨⟩=zmY (C.rows? L.size (.sl k rows)) n K ⟨⟩:=(rfl)
theorem zg3 {rows:List (List C)}:zdP (some L) (.sl k rows) lo hi mx K ⟨⟩=zjS (C.rows? L.size (.sl k rows)) L.size lo hi mx K ⟨⟩:=(rfl)
theorem zcu {id:Nat} {rows:List (List C)} {n:Int}:zjG (some L) (.own id e k rows) n K ⟨⟩=zmY (C.rows? L.size (.own id e k rows)) n K ⟨⟩:=(rfl)
theorem zbo {id:Nat} {rows:List (List C)}:zdP (some L) (.own id e k rows) lo hi mx K ⟨⟩=zjS (C.rows? L.size (.own id e k rows)) L.size lo hi mx K ⟨⟩:=(rfl)
theorem uz {id:Nat} {rows:List (List C)} :vm P bx t t' (.own id e k rows) K ⟨⟩=zeD P t t' (.own id e k rows) K ⟨⟩:=(rfl)
theorem zbK:zdP (some L) (.sc (.slice none 0 0)) lo hi mx K ⟨⟩=zo0 L.size lo hi mx K ⟨⟩:=(rfl)
theorem zrP:zo0 k lo hi none K ⟨⟩=(j0 0 lo hi/\K (.sc (.slice none 0 0))):=(rfl)
theorem zce :vm P bx t t' (.sc v) K ⟨⟩=zeD P t t' (.sc v) K ⟨⟩:=(rfl)
theorem zfw {n:Int} {m1:Nat}:zjG (some L) (.bs j off k m1 cap) n K ⟨⟩=(k=L.size/\0<=n/\n<(m1:Int)/\K (.ptr j (off+n.toNat*L.size))):=(rfl)
theorem zeV:zdP (some L) (.bs i off k n cap) lo hi mx K ⟨⟩=zg4 L.size i off k n cap lo hi mx K ⟨⟩:=(rfl)
theorem zjq {b:Int} {sz:Nat}:zg4 sz i off k n cap none (some b) none K ⟨⟩=(n<=cap/\(0<=b/\b<=(cap:Int))/\K (.bs i off k b.toNat cap)):=(rfl)
theorem zjX {sz:Nat}:zg4 sz i off k n cap (some a) none none K ⟨⟩=(sz=k/\n<=cap/\(0<=a/\a<=(n:Int))/\K (.bs i (off+a.toNat*k) k (n-a.toNat) (cap-a.toNat))):=(rfl)
theorem zi3 {b:Int} {sz:Nat}:zg4 sz i off k n cap (some a) (some b) none K ⟨⟩=(sz=k/\(0<=a/\a<=b/\b<=(cap:Int))/\K (.bs i (off+a.toNat*k) k (b.toNat-a.toNat) (cap-a.toNat))):=(rfl)
theorem zkc {b m1:Int} {sz:Nat}:zg4 sz i off k n cap (some a) (some b) (some m1) K ⟨⟩=(sz=k/\(0<=a/\a<=b/\b<=m1/\m1<=(cap:Int))/\K (.bs i (off+a.toNat*k) k (b.toNat-a.toNat) (m1.toNat-a.toNat))):=(rfl)
theorem zkv:vd P t (.bs i off k n cap) K ⟨⟩=Md (lay P t) (n:Int) K ⟨⟩:=(rfl)
theorem ztm:Gc P t n ps ⟨tm,bx,nx,lg⟩ K3 ⟨⟩=zpR P (lay P t) n ps ⟨tm,bx,nx,lg⟩ K3 ⟨⟩:=(rfl)
theorem zsg {s:Nat}:zpR P (some ⟨.slice e,s,b,z1⟩) n ps σ K3 ⟨⟩=zoI (lay P e) n ps σ K3 ⟨⟩:=(rfl)
theorem zsk {z1:List Value}:zoI (some ⟨kd,k,b,some z1⟩) n ps σ K3 ⟨⟩=(z1.length=k/\0<k/\n*k<=16777216/\(ps.all fun p=>p.2.frz.partB)=true/\zpV (YX (plA k) (List.replicate n (z1.map zA)).flatten (ps.map fun p=>(p.1,p.2.frz))) k n σ K3 ⟨⟩):=(rfl)
theorem zq9:zpV (some cs) k n ⟨tm,bx,nx,lg⟩ K3 ⟨⟩=((cs.all C.cellB)=true/\cs.length=n*k/\K3 (.bs bx.length 0 k n n) ⟨tm,bx++[cs],nx,lg⟩):=(rfl)
theorem zsT:zaS P p t c d ⟨tm,bx,nx,lg⟩ K3 ⟨⟩=zoB P (lay P t) p c d ⟨tm,bx,nx,lg⟩ K3 ⟨⟩:=(rfl)
theorem zrI {s:Nat}:zoB P (some ⟨.slice e,s,b,z1⟩) p c d σ K3 ⟨⟩=zo7 (lay P e) p c d σ K3 ⟨⟩:=(rfl)
theorem zrh {z1:List Value}:zo7 (some ⟨kd,k,b,some z1⟩) p c d ⟨tm,bx,nx,lg⟩ K3 ⟨⟩=zpP (d.xs? k bx) p k b z1 c ⟨tm,bx,nx,lg⟩ K3 ⟨⟩:=(rfl)
theorem zmu {k2:Nat}:C.xs? k bx (.bs i off k2 n cap)=xsB k2 k off n (bx[i]?):=(rfl)
theorem zoV:xsB k k off n (some cs)=if off+n*k<=cs.length then some (n,(cs.drop off).take (n*k)) else none:=(show xsB k k off n (some cs)=if off+n*k<=cs.length then some (n,(cs.drop off).take (n*k)) else none from by simp[xsB])
theorem zlA:Zm i cs bx=(NU (J0 i) some bx).set i cs:=(rfl)
theorem znF:J0 i j=if j=i then none else some j:=(rfl)
theorem zhM:C.frz (.bs i off k n cap) = .any:=(show C.frz (.bs i off k n cap) = .any from by rw[C.frz])
theorem zmv:C.re fp fo (.bs i off k n cap)=bsO (fp i) off k n cap:=(show C.re fp fo (.bs i off k n cap)=bsO (fp i) off k n cap from by rw[C.re];rfl)
theorem zp6:bsO (some j) off k n cap = .bs j off k n cap:=(rfl)
theorem zp4:bsO none off k n cap = .any:=(rfl)
theorem zb2:C.cellB (.bs i off k n cap)=true:=(rfl)
theorem zcL:C.partB (.bs i off k n cap)=true:=(rfl)
theorem zcF:C.cells (.bs i off k n cap) = [.bs i off k n cap]:=(rfl)
theorem zqw {rows:List (List C)} {n:Int}:zmY (some rows) n K ⟨⟩=zsz (rows[n.toNat]?) n K ⟨⟩:=(rfl)
theorem zs7 {r:List C} {n:Int}:zsz (some r) n K ⟨⟩=(0<=n/\K (.row r)):=(rfl)
theorem zmp {m:Nat} {n:Int}:zqV (some L) (.row cs) m n K ⟨⟩=(0<=n/\n<((m+1:Nat):Int)/\K (.row (cs.drop (n.toNat*L.size)))):=(rfl)
theorem zsW:yW P t c d K ⟨⟩=zoZ (lay P t) c d K ⟨⟩:=(rfl)
theorem zrJ {s:Nat} {k:IntKind} {n:Int}:zoZ (some ⟨.str,s,b,z1⟩) (.str l) (.sc (.int k n)) K ⟨⟩=zkI (l[n.toNat]?) n K ⟨⟩:=(show zrO (some ⟨.str,s,b,z1⟩) (.str l) (.sc (.int k n)) K=zlu (l[n.toNat]?) n K from by unfold zrO zlu;simp)
theorem zqS {b:UInt8} {n:Int}:zkI (some b) n K ⟨⟩=(0<=n/\K (.sc (.int .u8 (b.toNat:Int)))):=(rfl)
theorem ztl {lo hi mx:Option C}:vD P t c lo hi mx K ⟨⟩=zqN P t c (zaO lo) (zaO hi) (zaO mx) K ⟨⟩:=(rfl)
theorem zrS:zqN P t c (some lo) (some hi) (some mx) K ⟨⟩=zmP P (lay P t) c lo hi mx K ⟨⟩:=(rfl)
theorem zb8:zaO none=some none:=(rfl)
theorem zfX {k:IntKind} {n:Int}:zaO (some (.sc (.int k n)))=some (some n):=(rfl)
theorem zhB {s:Nat}:zmP P (some ⟨.str,s,b,z1⟩) (.str l) lo hi none K ⟨⟩=(j0 l.length lo hi/\K (.str (cut l lo hi))):=(rfl)
theorem zb7 {s:Nat}:zmP P (some ⟨.slice e,s,b,z1⟩) c lo hi mx K ⟨⟩=zdP (lay P e) c lo hi mx K ⟨⟩:=(rfl)
theorem zoY {rows:List (List C)}:zjS (some rows) k lo hi none K ⟨⟩=(j0 rows.length lo hi/\K (.sl k (cut rows lo hi))):=(rfl)
theorem zpi {rows:List (List C)} {h m:Int}:zjS (some rows) k lo (some h) (some m) K ⟨⟩=(m=h/\j0 rows.length lo (some h)/\K (.tight k (cut rows lo (some h)))):=(rfl)
theorem ziS {α:Type} {l:List α}:cut l (some a) none=l.drop a.toNat:=(rfl)
theorem zhR {α:Type} {l:List α} {b:Int}:cut l none (some b)=l.take b.toNat:=(rfl)
theorem zj6 {α:Type} {l:List α} {b:Int}:cut l (some a) (some b)=(l.take b.toNat).drop a.toNat:=(rfl)
theorem zcn:j0 n (some a) none=(0<=a/\a<=(n:Int)):=(rfl)
theorem zc5 {b:Int}:j0 n none (some b)=(0<=b/\b<=(n:Int)):=(rfl)
theorem zb4 {b:Int}:j0 n (some a) (some b)=(0<=a/\a<=b/\b<=(n:Int)):=(rfl)
theorem zdU {rows:List (List C)}:C.rows? k (.sl k rows)=some rows:=(show C.rows? k (.sl k rows)=some rows from by simp[C.rows?])
theorem zcs {id:Nat} {rows:List (List C)}:C.rows? k (.own id e k rows)=some rows:=(show C.rows? k (.own id e k rows)=some rows from by simp[C.rows?])
theorem zob:zeD P t t' c K ⟨⟩=ziL P (lay P t') (lay P t) c K ⟨⟩:=(rfl)
theorem zcj {k k0:IntKind} {n:Int} {s:Nat}:ziL P (some ⟨.int k,s,b,z1⟩) (some L) (.sc (.int k0 n)) K ⟨⟩=(inR k n/\K (.sc (.int k n))):=(rfl)
theorem zig {s s2 b2:Nat} {k k0:IntKind} {n:Int}:ziL P (some ⟨.str,s,b,z1⟩) (some ⟨.int k,s2,b2,z2⟩) (.sc (.int k0 n)) K ⟨⟩=K (.str (Utf8.encode n).data.toList):=(rfl)
theorem zhL {s s2 b2:Nat}:ziL P (some ⟨.str,s,b,z1⟩) (some ⟨.slice e,s2,b2,z2⟩) c K ⟨⟩=zo6 (lay P e) c K ⟨⟩:=(rfl)
theorem zdT {s:Nat}:zo6 (some ⟨.int .u8,s,b,z1⟩) c K ⟨⟩=zlU (c.rows? 1) K ⟨⟩:=(rfl)
theorem zdA:vd P t (.str l) K ⟨⟩=zk1 (lay P t) (l.length:Int) K ⟨⟩:=(rfl)
theorem zi9 {rows:List (List C)}:vd P t (.sl k rows) K ⟨⟩=Md (lay P t) (rows.length:Int) K ⟨⟩:=(rfl)
theorem zev {id:Nat} {rows:List (List C)}:vd P t (.own id e k rows) K ⟨⟩=Md (lay P t) (rows.length:Int) K ⟨⟩:=(rfl)
theorem zgb:vd P t (.sc (.slice none 0 0)) K ⟨⟩=Md (lay P t) 0 K ⟨⟩:=(rfl)
theorem zqE {s:Nat} {n:Int}:Md (some ⟨.slice e,s,b,z1⟩) n K ⟨⟩=K (.sc (.int .i64 n)):=(rfl)
theorem zqo {s:Nat} {n:Int}:zk1 (some ⟨.str,s,b,z1⟩) n K ⟨⟩=K (.sc (.int .i64 n)):=(rfl)
theorem znd:vF P t ps K ⟨⟩=zqL (lay P t) ps K ⟨⟩:=(rfl)
theorem zkr {fs:List (Nat×Nat×Bool)} {s:Nat} {z1:List Value}:zqL (some ⟨.struct fs,s,b,some z1⟩) ps K ⟨⟩=((ps.all fun p=>p.2.partB)=true/\zsv (YX (plS fs) (z1.map zA) ps) K ⟨⟩):=(show zra (some ⟨.struct fs,s,b,some z1⟩) ps K=((ps.all fun p=>p.2.partB)=true/\aFl (YX (plS fs) (z1.map zA) ps) K) from by unfold zra aFl;simp only[];rfl)
theorem zs3:zsv (some cs) K ⟨⟩=K (.agg cs):=(rfl)
theorem zli:YX place cs []=some cs:=(rfl)
theorem zoX {rest:List (Nat×C)}:YX place cs ((i,c) :: rest)=zk7 (place i) place cs c.cells rest:=(rfl)
theorem zlL {l:List C} {rest:List (Nat×C)}:zk7 (some (off,size)) place cs l rest=(if l.length=size/\off+size<=cs.length then YX place (cs.take off++l++cs.drop (off+size)) rest else none):=(rfl)
theorem zrZ {fs:List (Nat×Nat×Bool)}:plS fs i=(fs[i]?).map fun f=>(f.1,f.2.1):=(rfl)
theorem zsq:plA k i=some (i*k,k):=(rfl)
theorem zsZ:XY P t n ps nx K2 ⟨⟩=zqW P (lay P t) n ps nx K2 ⟨⟩:=(rfl)
theorem zrW {s:Nat}:zqW P (some ⟨.slice e,s,b,z1⟩) n ps nx K2 ⟨⟩=zpd (lay P e) e n ps nx K2 ⟨⟩:=(rfl)
theorem zrK {z1:List Value}:zpd (some ⟨kd,k,b,some z1⟩) e n ps nx K2 ⟨⟩=(z1.length=k/\0<k/\n*k<=16777216/\(ps.all fun p=>p.2.frz.partB)=true/\zoe (YX (plA k) (List.replicate n (z1.map zA)).flatten (ps.map fun p=>(p.1,p.2.frz))) e k n nx K2 ⟨⟩):=(rfl)
theorem zrt:zoe (some cs) e k n nx K2 ⟨⟩=((cs.all C.cellB)=true/\cs.length=n*k/\K2 (.own nx e k (QI k n cs)) (nx+1)):=(rfl)
theorem zr9:MQ P t c d ⟨tm,bx,nx,lg⟩ K3 ⟨⟩=zlh P (lay P t) c d ⟨tm,bx,nx,lg⟩ K3 ⟨⟩:=(rfl)
theorem zqP {s:Nat} {k:IntKind} {l m:Int}:zlh P (some ⟨.slice e,s,b,z1⟩) (.sc (.int k l)) (.sc (.int k2 m)) ⟨tm,bx,nx,lg⟩ K3 ⟨⟩=zkY (lay P e) l m ⟨tm,bx,nx,lg⟩ K3 ⟨⟩:=(rfl)
theorem zqG {z1:List Value} {l m:Int}:zkY (some ⟨kd,k,b,some z1⟩) l m ⟨tm,bx,nx,lg⟩ K3 ⟨⟩=(z1.length=k/\0<k/\(z1.all Value.oneCell')=true/\0<=l/\l<=m/\(b:Int)*m<=281474976710656/\m<=9223372036854775807/\K3 (.bs bx.length 0 k l.toNat m.toNat) ⟨tm,bx++[(List.replicate m.toNat (z1.map zA)).flatten],nx,lg⟩):=(rfl)
theorem ztk:zk6 P t c d nx K2 ⟨⟩=zpy P (lay P t) c d nx K2 ⟨⟩:=(rfl)
theorem zrn {s:Nat} {k:IntKind} {l m:Int}:zpy P (some ⟨.slice e,s,b,z1⟩) (.sc (.int k l)) (.sc (.int k2 m)) nx K2 ⟨⟩=zpY (lay P e) e l m nx K2 ⟨⟩:=(rfl)
theorem zr3 {z1:List Value} {l m:Int}:zpY (some ⟨kd,k,b,some z1⟩) e l m nx K2 ⟨⟩=(z1.length=k/\0<k/\(z1.all Value.oneCell')=true/\0<=l/\l<=m/\(b:Int)*m<=281474976710656/\m<=9223372036854775807/\K2 (.own nx e k (List.replicate l.toNat (z1.map zA))) (nx+1)):=(rfl)
theorem zeg {id:Nat} {rows:List (List C)}:Nl P t (.own id e k rows) d ⟨tm,bx,nx,lg⟩ K3 ⟨⟩=zqY P (lay P t) id e k rows d ⟨tm,bx,nx,lg⟩ K3 ⟨⟩:=(rfl)
theorem zeb:Nl P t (.sc (.slice none 0 0)) d ⟨tm,bx,nx,lg⟩ K3 ⟨⟩=NG P t (.sc (.slice none 0 0)) d nx (fun c nx'=>K3 c ⟨tm,bx,nx',lg⟩) ⟨⟩:=(rfl)
theorem zqv:NG P t c d nx K2 ⟨⟩=zqi P (lay P t) c d nx K2 ⟨⟩:=(rfl)
theorem zsb {s:Nat}:zqi P (some ⟨.slice e,s,b,z1⟩) c d nx K2 ⟨⟩=zpE (lay P e) e c d nx K2 ⟨⟩:=(rfl)
theorem zsn {z1:List Value}:zpE (some ⟨kd,k,b,some z1⟩) e c d nx K2 ⟨⟩=zl3 (d.rows? k) c e k b z1 nx K2 ⟨⟩:=(rfl)
theorem zoy {z1:List Value} {xs:List (List C)}:zl3 (some xs) (.sc (.slice none 0 0)) e k b z1 nx K2 ⟨⟩=(z1.length=k/\0<k/\xs.length<=9223372036854775807/\xs.length*b<=140737488355328/\K2 (.own nx e k xs) (nx+1)):=(rfl)
theorem zp9 {k0:Nat} {z1:List Value} {xs rows:List (List C)}:zl3 (some xs) (.tight k0 rows) e k b z1 nx K2 ⟨⟩=(k0=k/\z1.length=k/\0<k/\rows.length+xs.length<=9223372036854775807/\(rows.length+xs.length)*b<=140737488355328/\(xs = []->K2 (.tight k0 rows) nx)/\(¬xs = []->K2 (.own nx e k (rows++xs)) (nx+1))):=(rfl)
theorem zjf {a:Nat} (h:Nat.ble a b=true):a<=b:=ON h
theorem lS:(∀ {α:Type} (a b:List α),(a++b).length=a.length+b.length)/\(∀ {α:Type} (a:α) (b:List α),(a :: b).length=b.length+1)/\(∀ {α:Type},([]:List α).length=0)/\(∀ {α β:Type} (f:α->β) (l:List α),(l.map f).length=l.length)/\(∀ {α:Type} (n:Nat) (l:List α),(l.take n).length=min n l.length)/\∀ {α:Type} (n:Nat) (l:List α),(l.drop n).length=l.length-n:=⟨fun _ _=>Wq,fun _ _=>Wh,WC,fun _ _=>We _,fun _ _=>W5,fun _ _=>WZ⟩
theorem zsd {α:Type} {x:α} {l:List α}:((x :: l) = [])=False:=by simp
theorem zto {p:Prop}:(True->p)=p:=by simp
theorem zsJ {p:Prop}:(False->p)=True:=by simp
theorem zs5:(¬False)=True:=by simp
theorem zrQ {e0 s id:Nat} {rows:List (List C)}:zqY P (some ⟨.slice e0,s,b,z1⟩) id e k rows c σ K3 ⟨⟩=zqu (lay P e) e0 id e k rows c σ K3 ⟨⟩:=(rfl)
theorem zrw {k0 e0 id:Nat} {z1:List Value} {rows:List (List C)}:zqu (some ⟨kd,k0,b,some z1⟩) e0 id e k rows c σ K3 ⟨⟩=(e0=e/\k0=k/\z1.length=k/\0<k/\zot (c.rows? k) b id e k rows σ K3 ⟨⟩):=(show zrf (some ⟨kd,k0,b,some z1⟩) e0 id e k rows c σ K3=(e0=e/\k0=k/\z1.length=k/\0<k/\zrD (c.rows? k) b id e k rows σ K3) from by unfold zrf zrD;simp only[];cases c.rows? k<;>simp)
theorem zrR {xs rows:List (List C)} {id:Nat}:zot (some xs) b id e k rows ⟨tm,bx,nx,lg⟩ K3 ⟨⟩=(rows.length+xs.length<=9223372036854775807/\(rows.length+xs.length)*b<=140737488355328/\K3 (.own id e k (rows++xs)) ⟨zbT id tm,yf id bx,nx,lg⟩):=(rfl)
theorem znc {fs:List C}:yV P G h (.clo (.func f) fs cs) args ⟨tm,bx,nx,lg⟩ K3 ⟨⟩ ⟨⟩=Q5 P G f (fs++args++cs) (C.frzL (fs++args++cs)) ⟨tm,bx,nx,lg⟩ K3 ⟨⟩:=(rfl)
theorem znO {l:Nat} {items:List (List C)} {sf:Nat->Bool}:yV P G ⟨p,some ⟨l,items,sf⟩,bf⟩ (.sc (.func (.yield l) #[] #[])) args ⟨tm,bx,nx,lg⟩ K3 ⟨⟩ ⟨⟩=zac ⟨l,items,sf⟩ (items[lg]?) args ⟨tm,bx,nx,lg⟩ K3 ⟨⟩ ⟨⟩:=(show Mj P G ⟨p,some ⟨l,items,sf⟩,bf⟩ (.sc (.func (.yield l) #[] #[])) args ⟨tm,bx,nx,lg⟩ K3=NC ⟨l,items,sf⟩ (items[lg]?) args ⟨tm,bx,nx,lg⟩ K3 from by simp[Mj,za3])
theorem ziZ {l:Nat} {items:List (List C)} {sf:Nat->Bool} {it:List C}:zac ⟨l,items,sf⟩ (some it) args ⟨tm,bx,nx,lg⟩ K3 ⟨⟩ ⟨⟩=(zh [] 0 args it/\(∀ j,j<lg->sf j=false)/\K3 (.sc (.bool (!sf lg))) ⟨tm,bx,nx,lg+1⟩):=(rfl)
theorem zqb {ι:List Nat}:upB ι m j=match ι[j]? with | some i=>some i | none=>some (m+(j-ι.length)):=(rfl)
theorem zq8:XI [] i=none:=(rfl)
theorem zrU {x1:Nat} {r:List Nat}:XI (x1 :: r) i=if i=x1 then some 0 else (XI r i).map (·+1):=(rfl)
theorem znk:HR fp fo [] = []:=(rfl)
theorem zpD {r:List (Nat×C)}:HR fp fo ((u,c) :: r)=(u,c.re fp fo) :: HR fp fo r:=(rfl)
theorem zmi:NU fp fo [] = []:=(rfl)
theorem zpn {r:List (List C)}:NU fp fo (cs :: r)=C.reL fp fo cs :: NU fp fo r:=(rfl)
theorem zhG {l:List (List C)}:Vr [] l bx=bx:=(rfl)
theorem ziF {ι:List Nat} {r:List (List C)}:Vr (i :: ι) (cs :: r) bx=Vr ι r (bx.set i cs):=(rfl)
theorem zhV {ι κ:List Nat}:ZI ι κ bx' n ⟨tm,bx,nx,lg⟩=⟨HR some (Zw κ) tm,Vr ι (NU (upB ι bx.length) (upO nx) bx') (NU some (Zw κ) bx)++NU (upB ι bx.length) (upO nx) (bx'.drop ι.length),nx+n,lg⟩:=(rfl)
theorem znY {κ:List Nat}:Zw κ i=if i∈κ then none else some i:=(rfl)
theorem zhI:H8 m i=if i<m then some i else none:=(rfl)
theorem zkC:Xb m i=if i<m then none else some (i-m):=(rfl)
theorem zm1 {fs:List C}:zfK P G (.clo (.func f) fs cs) args nx K2 ⟨⟩=vv P G f (C.frzL (fs++args++cs)) nx K2 ⟨⟩:=(rfl)
theorem zrx {s:Nat} {z1:List Value}:zoo (some ⟨kd,s,b,some z1⟩) ⟨tm,bx,nx,lg⟩ K3 ⟨⟩=((z1.all Value.oneCell')=true/\K3 (.ptr bx.length 0) ⟨tm,bx++[z1.map zA],nx,lg⟩):=(rfl)
theorem zru:zqO c ⟨tm,bx,nx,lg⟩ K3 ⟨⟩=(c.partB=true/\(c.cells.all C.cellB)=true/\K3 (.ptr bx.length 0) ⟨tm,bx++[c.cells],nx,lg⟩):=(rfl)
theorem zrT:zqr (some L) (.ptr i off) c ⟨tm,bx,nx,lg⟩ K3 ⟨⟩=zpc (bx[i]?) i off L.size c ⟨tm,bx,nx,lg⟩ K3 ⟨⟩:=(rfl)
theorem zsi:zpc (some cs) i off size c ⟨tm,bx,nx,lg⟩ K3 ⟨⟩=(c.partB=true/\(c.cells.all C.cellB)=true/\c.cells.length=size/\off+size<=cs.length/\K3 .any ⟨tm,bx.set i (cs.take off++c.cells++cs.drop (off+size)),nx,lg⟩):=(rfl)
theorem zkA:C.frz (.sc v) = .sc v:=(show C.frz (.sc v) = .sc v from by rw[C.frz])
theorem zmS {id:Nat}:C.dg id (.sc v) = .sc v:=(show C.dg id (.sc v) = .sc v from by rw[C.dg])
theorem znh:C.sh n (.sc v) = .sc v:=(show C.sh n (.sc v) = .sc v from by rw[C.sh])
theorem zdK:C.frz (.str l) = .str l:=(show C.frz (.str l) = .str l from by rw[C.frz])
theorem zkB {id:Nat}:C.dg id (.str l) = .str l:=(show C.dg id (.str l) = .str l from by rw[C.dg])
theorem ziq:C.sh n (.str l) = .str l:=(show C.sh n (.str l) = .str l from by rw[C.sh])
theorem ziI {rows:List (List C)}:C.frz (.sl k rows) = .sl k rows:=(show C.frz (.sl k rows) = .sl k rows from by rw[C.frz])
theorem zmX {rows:List (List C)} {id:Nat}:C.dg id (.sl k rows) = .sl k rows:=(show C.dg id (.sl k rows) = .sl k rows from by rw[C.dg])
theorem znD {rows:List (List C)}:C.sh n (.sl k rows) = .sl k rows:=(show C.sh n (.sl k rows) = .sl k rows from by rw[C.sh])
theorem zgK:C.frz (.row cs) = .row cs:=(show C.frz (.row cs) = .row cs from by rw[C.frz])
theorem zjN {id:Nat}:C.dg id (.row cs) = .row cs:=(show C.dg id (.row cs) = .row cs from by rw[C.dg])
theorem zj5:C.sh n (.row cs) = .row cs:=(show C.sh n (.row cs) = .row cs from by rw[C.sh])
theorem zit {id:Nat}:C.dg id (.any) = .any:=(show C.dg id (.any) = .any from by rw[C.dg])
theorem zik:C.sh n (.any) = .any:=(show C.sh n (.any) = .any from by rw[C.sh])
theorem znC {ks:MK}:C.sh n (.mo i t2 ks vs) = .mo (n+i) t2 ks vs:=(show C.sh n (.mo i t2 ks vs) = .mo (n+i) t2 ks vs from by rw[C.sh])
theorem znP {ks:MK}:C.fz bx (.mo i t2 ks vs) = .mo i t2 ks vs:=(show C.fz bx (.mo i t2 ks vs) = .mo i t2 ks vs from by rw[C.fz])
theorem zmT {id:Nat}:C.up id ks1 vs1 (.sc v) = .sc v:=(show C.up id ks1 vs1 (.sc v) = .sc v from by rw[C.up])
theorem znx {ks:MK} {id:Nat}:C.up id ks1 vs1 (.mo i t2 ks vs)=if i=id then .mo i t2 ks1 vs1 else .mo i t2 ks vs:=(show C.up id ks1 vs1 (.mo i t2 ks vs)=if i=id then .mo i t2 ks1 vs1 else .mo i t2 ks vs from by rw[C.up])
theorem zcS {id:Nat}:zht id ks1 vs1 [] = []:=(rfl)
theorem zof {r:List (Nat×C)} {id:Nat}:zht id ks1 vs1 ((u,c) :: r)=(u,c.up id ks1 vs1) :: zht id ks1 vs1 r:=(rfl)
theorem zbx {id:Nat}:ze1 id ks1 vs1 [] = []:=(rfl)
theorem zeH {id:Nat} {rows:List (List C)}:C.frz (.own id e k rows) = .sl k rows:=(show C.frz (.own id e k rows) = .sl k rows from by rw[C.frz])
theorem zdF:C.frz (.ptr i off) = .any:=(show C.frz (.ptr i off) = .any from by rw[C.frz])
theorem zjv {id:Nat}:C.dg id (.ptr i off) = .ptr i off:=(show C.dg id (.ptr i off) = .ptr i off from by rw[C.dg])
theorem zh7 {id:Nat} {rows:List (List C)}:C.dg id (.own i e k rows)=if i=id then .sl k rows else .own i e k rows:=(show C.dg id (.own i e k rows)=if i=id then .sl k rows else .own i e k rows from by rw[C.dg])
theorem zkx {rows:List (List C)}:C.sh n (.own i e k rows) = .own (n+i) e k rows:=(show C.sh n (.own i e k rows) = .own (n+i) e k rows from by rw[C.sh])
theorem zlB:C.re fp fo (.sc v) = .sc v:=(show C.re fp fo (.sc v) = .sc v from by rw[C.re])
theorem zjU:C.sel fp (.sc v) = .sc v:=(show C.sel fp (.sc v) = .sc v from by rw[C.sel])
theorem ziw:C.re fp fo (.str l) = .str l:=(show C.re fp fo (.str l) = .str l from by rw[C.re])
theorem ze3:C.sel fp (.str l) = .str l:=(show C.sel fp (.str l) = .str l from by rw[C.sel])
theorem zlE {rows:List (List C)}:C.re fp fo (.sl k rows) = .sl k rows:=(show C.re fp fo (.sl k rows) = .sl k rows from by rw[C.re])
theorem zij {rows:List (List C)}:C.sel fp (.sl k rows) = .sl k rows:=(show C.sel fp (.sl k rows) = .sl k rows from by rw[C.sel])
theorem zc6 {rows:List (List C)}:C.re fp fo (.tight k rows) = .tight k rows:=(show C.re fp fo (.tight k rows) = .tight k rows from by rw[C.re])
theorem zhD:C.re fp fo (.row cs) = .row cs:=(show C.re fp fo (.row cs) = .row cs from by rw[C.re])
theorem zdI:C.sel fp (.row cs) = .row cs:=(show C.sel fp (.row cs) = .row cs from by rw[C.sel])
theorem zjg:C.re fp fo (.any) = .any:=(show C.re fp fo (.any) = .any from by rw[C.re])
theorem zmD:C.fz bx (.sc v) = .sc v:=(show C.fz bx (.sc v) = .sc v from by rw[C.fz])
theorem ziy:C.fz bx (.str l) = .str l:=(show C.fz bx (.str l) = .str l from by rw[C.fz])
theorem znJ {rows:List (List C)}:C.fz bx (.sl k rows) = .sl k rows:=(show C.fz bx (.sl k rows) = .sl k rows from by rw[C.fz])
theorem zjC {id:Nat} {rows:List (List C)}:C.fz bx (.own id e k rows) = .own id e k rows:=(show C.fz bx (.own id e k rows) = .own id e k rows from by rw[C.fz])
theorem zkd:C.fz bx (.row cs) = .row cs:=(show C.fz bx (.row cs) = .row cs from by rw[C.fz])
theorem zh3:C.fz bx (.ptr i off)=zrv (bx[i]?) off:=(show C.fz bx (.ptr i off)=zrv (bx[i]?) off from by rw[C.fz];rfl)
theorem zmR:zrv (some cs) off = .row ((C.frzL cs).drop off):=(rfl)
theorem zbb {f:Fn} {a b:Array Value}:Value.oneCell' (.func f a b)=true:=(rfl)
theorem zjx {id:Nat} {rows:List (List C)}:C.re fp fo (.own id e k rows)=zq2 (fo id) e k rows:=(show C.re fp fo (.own id e k rows)=zq2 (fo id) e k rows from by rw[C.re];rfl)
theorem zi2:C.re fp fo (.ptr i off)=znZ (fp i) off:=(show C.re fp fo (.ptr i off)=znZ (fp i) off from by rw[C.re];rfl)
theorem zdQ:C.sel fp (.ptr i off)=znZ (fp i) off:=(show C.sel fp (.ptr i off)=znZ (fp i) off from by rw[C.sel];rfl)
theorem znb {rows:List (List C)}:zq2 (some j) e k rows = .own j e k rows:=(rfl)
theorem znB {rows:List (List C)}:zq2 none e k rows = .sl k rows:=(rfl)
theorem zl9:znZ (some j) off = .ptr j off:=(rfl)
theorem zmh:znZ none off = .any:=(rfl)
theorem zms:C.fy nx fr bx (.sc v) = .sc v:=(show C.fy nx fr bx (.sc v) = .sc v from by rw[C.fy])
theorem zl2 {rows:List (List C)}:C.fy nx fr bx (.sl k rows) = .sl k rows:=(show C.fy nx fr bx (.sl k rows) = .sl k rows from by rw[C.fy])
theorem zmd:C.fy nx fr bx (.bs i off k n cap)=Ub nx fr i off k n cap:=(show C.fy nx fr bx (.bs i off k n cap)=Ub nx fr i off k n cap from by rw[C.fy])
theorem zkz {i2 k2 cap2:Nat} {rows:List (List C)} {r:Fr}:Ub nx ((i2,e,k2,rows,cap2) :: r) i off k n cap=if i=i2/\off=0/\k=k2/\n=rows.length/\cap=cap2 then .own nx e k2 rows else Ub (nx+1) r i off k n cap:=(show Ub nx ((i2,e,k2,rows,cap2) :: r) i off k n cap=if i=i2/\off=0/\k=k2/\n=rows.length/\cap=cap2 then .own nx e k2 rows else Ub (nx+1) r i off k n cap from by rw[Ub])
theorem ziV:C.re fp fo (.agg cs) = .agg (C.reL fp fo cs):=(show C.re fp fo (.agg cs) = .agg (C.reL fp fo cs) from by rw[C.re])
theorem zib:C.re fp fo (.tup cs) = .tup (C.reL fp fo cs):=(show C.re fp fo (.tup cs) = .tup (C.reL fp fo cs) from by rw[C.re])
theorem zka {fn:Fn} {fs:List C}:C.re fp fo (.clo fn fs cs) = .clo fn (C.reL fp fo fs) (C.reL fp fo cs):=(show C.re fp fo (.clo fn fs cs) = .clo fn (C.reL fp fo fs) (C.reL fp fo cs) from by rw[C.re])
theorem zhf:C.reL fp fo [] = []:=(show C.reL fp fo [] = [] from by rw[C.reL])
theorem zcT {r:List C}:C.reL fp fo (c :: r)=C.re fp fo c :: C.reL fp fo r:=(show C.reL fp fo (c :: r)=C.re fp fo c :: C.reL fp fo r from by rw[C.reL])
theorem zdm:C.sel fp (.agg cs) = .agg (C.selL fp cs):=(show C.sel fp (.agg cs) = .agg (C.selL fp cs) from by rw[C.sel])
theorem zff {fn:Fn} {fs:List C}:C.sel fp (.clo fn fs cs) = .clo fn (C.selL fp fs) (C.selL fp cs):=(show C.sel fp (.clo fn fs cs) = .clo fn (C.selL fp fs) (C.selL fp cs) from by rw[C.sel])
theorem zbt:C.selL fp [] = []:=(show C.selL fp [] = [] from by rw[C.selL])
theorem yy {r:List C}:C.selL fp (c :: r)=C.sel fp c :: C.selL fp r:=(show C.selL fp (c :: r)=C.sel fp c :: C.selL fp r from by rw[C.selL])
theorem ziC :C.fz bx (.agg cs) = .agg (C.fzL bx cs):=(show C.fz bx (.agg cs) = .agg (C.fzL bx cs) from by rw[C.fz])
theorem zio :C.fz bx (.tup cs) = .tup (C.fzL bx cs):=(show C.fz bx (.tup cs) = .tup (C.fzL bx cs) from by rw[C.fz])
theorem zhP {fn:Fn} {fs:List C} :C.fz bx (.clo fn fs cs) = .clo fn (C.fzL bx fs) (C.fzL bx cs):=(show C.fz bx (.clo fn fs cs) = .clo fn (C.fzL bx fs) (C.fzL bx cs) from by rw[C.fz])
theorem zds:C.fzL bx [] = []:=(show C.fzL bx [] = [] from by rw[C.fzL])
theorem zcQ {r:List C} :C.fzL bx (c :: r)=C.fz bx c :: C.fzL bx r:=(show C.fzL bx (c :: r)=C.fz bx c :: C.fzL bx r from by rw[C.fzL])
theorem zkm:C.fy nx fr bx (.agg cs) = .agg (C.fyL nx fr bx cs):=(show C.fy nx fr bx (.agg cs) = .agg (C.fyL nx fr bx cs) from by rw[C.fy])
theorem zjn:C.fy nx fr bx (.tup cs) = .tup (C.fyL nx fr bx cs):=(show C.fy nx fr bx (.tup cs) = .tup (C.fyL nx fr bx cs) from by rw[C.fy])
theorem zgi:C.fyL nx fr bx [] = []:=(show C.fyL nx fr bx [] = [] from by rw[C.fyL])
theorem zde {r:List C}:C.fyL nx fr bx (c :: r)=C.fy nx fr bx c :: C.fyL nx fr bx r:=(show C.fyL nx fr bx (c :: r)=C.fy nx fr bx c :: C.fyL nx fr bx r from by rw[C.fyL])
theorem zfv:C.frz (.agg cs) = .agg (C.frzL cs):=(show C.frz (.agg cs) = .agg (C.frzL cs) from by rw[C.frz])
theorem ze2 {fn:Fn} {fs:List C}:C.frz (.clo fn fs cs) = .clo fn (C.frzL fs) (C.frzL cs):=(show C.frz (.clo fn fs cs) = .clo fn (C.frzL fs) (C.frzL cs) from by rw[C.frz])
theorem zdc:C.frzL [] = []:=(show C.frzL [] = [] from by rw[C.frzL])
theorem yP {r:List C}:C.frzL (c :: r)=C.frz c :: C.frzL r:=(show C.frzL (c :: r)=C.frz c :: C.frzL r from by rw[C.frzL])
theorem zjk {id:Nat}:C.dg id (.agg cs) = .agg (C.dgL id cs):=(show C.dg id (.agg cs) = .agg (C.dgL id cs) from by rw[C.dg])
theorem zki {id:Nat}:C.dg id (.tup cs) = .tup (C.dgL id cs):=(show C.dg id (.tup cs) = .tup (C.dgL id cs) from by rw[C.dg])
theorem zjT {fn:Fn} {fs:List C} {id:Nat}:C.dg id (.clo fn fs cs) = .clo fn (C.dgL id fs) (C.dgL id cs):=(show C.dg id (.clo fn fs cs) = .clo fn (C.dgL id fs) (C.dgL id cs) from by rw[C.dg])
theorem zft {id:Nat}:C.dgL id [] = []:=(show C.dgL id [] = [] from by rw[C.dgL])
theorem zcR {r:List C} {id:Nat}:C.dgL id (c :: r)=C.dg id c :: C.dgL id r:=(show C.dgL id (c :: r)=C.dg id c :: C.dgL id r from by rw[C.dgL])
theorem zjc:C.sh n (.agg cs) = .agg (C.shL n cs):=(show C.sh n (.agg cs) = .agg (C.shL n cs) from by rw[C.sh])
theorem zjJ:C.sh n (.tup cs) = .tup (C.shL n cs):=(show C.sh n (.tup cs) = .tup (C.shL n cs) from by rw[C.sh])
theorem zhK {fn:Fn} {fs:List C}:C.sh n (.clo fn fs cs) = .clo fn (C.shL n fs) (C.shL n cs):=(show C.sh n (.clo fn fs cs) = .clo fn (C.shL n fs) (C.shL n cs) from by rw[C.sh])
theorem zdt:C.shL n [] = []:=(show C.shL n [] = [] from by rw[C.shL])
theorem zbG {r:List C}:C.shL n (c :: r)=C.sh n c :: C.shL n r:=(show C.shL n (c :: r)=C.sh n c :: C.shL n r from by rw[C.shL])
theorem zcc {id:Nat}:zbT id [] = []:=(rfl)
theorem zpZ {id:Nat} {r:List (Nat×C)}:zbT id ((u,c) :: r)=(u,c.dg id) :: zbT id r:=(rfl)
theorem zbz {id:Nat}:yf id [] = []:=(rfl)
theorem zqC {id:Nat} {r:List (List C)}:yf id (cs :: r)=C.dgL id cs :: yf id r:=(rfl)
theorem vp:C.cellB (.str l)=true:=(rfl)
theorem uo:C.partB (.str l)=true:=(rfl)
theorem yl:C.cells (.str l) = [.str l]:=(rfl)
theorem zb3 {rows:List (List C)}:C.cellB (.sl k rows)=true:=(rfl)
theorem zbW {rows:List (List C)}:C.partB (.sl k rows)=true:=(rfl)
theorem zbF {rows:List (List C)}:C.cells (.sl k rows) = [.sl k rows]:=(rfl)
theorem yS {id:Nat} {rows:List (List C)}:C.cellB (.own id e k rows)=true:=(rfl)
theorem vK {id:Nat} {rows:List (List C)}:C.partB (.own id e k rows)=true:=(rfl)
theorem ve {id:Nat} {rows:List (List C)}:C.cells (.own id e k rows) = [.own id e k rows]:=(rfl)
theorem yX {fn:Fn} {fs:List C}:C.cellB (.clo fn fs cs)=true:=(rfl)
theorem vQ {fn:Fn} {fs:List C}:C.partB (.clo fn fs cs)=true:=(rfl)
theorem uh {fn:Fn} {fs:List C}:C.cells (.clo fn fs cs) = [.clo fn fs cs]:=(rfl)
theorem zbf:C.cellB (.sc v)=v.oneCell':=(rfl)
theorem zcz:C.partB (.sc v)=v.oneCell':=(rfl)
theorem zbR:C.cells (.sc v) = [.sc v]:=(rfl)
theorem yz:C.partB (.agg cs)=true:=(rfl)
theorem vr:C.cells (.agg cs)=cs:=(rfl)
theorem zf0 {k:IntKind} {n:Int}:Value.oneCell' (.int k n)=true:=(rfl)
theorem zbg {b:Bool}:Value.oneCell' (.bool b)=true:=(rfl)
theorem vo {a:Option Addr} {m:Nat}:Value.oneCell' (.slice a n m)=true:=(rfl)
theorem xi {s:ByteArray}:Value.oneCell' (.string s)=true:=(rfl)
theorem zm3:QI k 0 cs = []:=(rfl)
theorem znz:QI k (n+1) cs=cs.take k :: QI k n (cs.drop k):=(rfl)
theorem zmb:Uz i [] = []:=(rfl)
theorem zoC {r:List C}:Uz i (c :: r)=(i,c) :: Uz (i+1) r:=(rfl)
theorem zeX:znT (.sc (.bool true)) X Y ⟨⟩ ⟨⟩=X:=ziW
theorem zcI:znT (.sc (.bool false)) X Y ⟨⟩ ⟨⟩=Y:=zgu
theorem br {b:Bool} (hx:b=true->X) (hy:b=false->Y):znT (.sc (.bool b)) X Y ⟨⟩ ⟨⟩:=ABr.mk hx hy
theorem jT {a1:List C} (ι κ:List Nat) (hf:YW P G f a1 fbx q post) (hq:κ.length=q) (hι:ι.Nodup) (hκ:κ.Nodup) (hb:∀ i∈ι,i<bx.length)
  (ha:C.reL (XI ι) (XI κ) args=a1) (hx:(ι.map fun i=>C.reL (XI ι) (XI κ) (bx.getD i []))=fbx) (hK:∀ r fbx' n,post r fbx' n->K3 (r.re (upB ι bx.length) (upO nx)) (ZI ι κ fbx' n ⟨tm,bx,nx,lg⟩)):Q5 P G f args fargs ⟨tm,bx,nx,lg⟩ K3 ⟨⟩:=
 .inr <| .inr <| .inr <| .inl ⟨ι,κ,post,hι,hκ,hb,by rw[ha,hq];exact hx▸hf,hK⟩
theorem zm7 {K4:C->List (List C)->Nat->Prop} {a1:List C} (ι:List Nat) (hf:YW P G f a1 fbx 0 post) (hι:ι.Nodup) (hb:∀ i∈ι,i<bx.length)
  (ha:C.reL (XI ι) (XI []) args=a1) (hx:(ι.map fun i=>C.reL (XI ι) (XI []) (bx.getD i []))=fbx) (hK:∀ r fbx' n,post r fbx' n->K4 (r.re (upB ι bx.length) (upO nx)) (ZI ι [] fbx' n ⟨tm,bx,nx,lg⟩).bx (nx+n)):zsx P G f args ⟨tm,bx,nx,lg⟩ K4 ⟨⟩:=
 ⟨ι,post,hι,hb,by rw[ha];exact hx▸hf,hK⟩
theorem zlN (hf:zrm P f args bx r) (hK:K3 r ⟨tm,bx,nx,lg⟩):Q5 P G f args fargs ⟨tm,bx,nx,lg⟩ K3 ⟨⟩:=.inr <| .inr <| .inr <| .inr ⟨r,hf,hK⟩
theorem zmK {m:Nat} {z:Option (List Value)} {xs:List C} (hl:lay P t=some ⟨.slice e,s1,b1,z1⟩) (hle:lay P e=some ⟨kd,k,by',z⟩) (hx:d.xs? k bx=some (m,xs)) (hb:bx[i]?=some cs) (hxl:xs.length=m*k) (hfit:off+n*k<=cs.length)
  (hK:K3 (.sc (.int .i64 ((min m n:Nat):Int))) ⟨tm,bx.set i (spl cs off (xs.take (min m n*k))),nx,lg⟩):yc P t (.bs i off k n cap) d ⟨tm,bx,nx,lg⟩ K3 ⟨⟩:=by
 show QX P t _ _ _ _;unfold QX;simp only[hl,hle,hx,hb];exact ⟨trivial,hxl,hfit,hK⟩
theorem zqQ {m:Nat} {c:C} {z:Option (List Value)} {xs:List C} (hl:lay P t=some ⟨.slice e,s1,b1,z1⟩) (hle:lay P e=some ⟨kd,k,by',z⟩) (hx:d.xs? k bx=some (m,xs)) (hc:c.rows? k=some []) (hb:∀ i off k n c',c≠.bs i off k n c') (hxl:xs.length=m*k)
  (hK:K3 (.sc (.int .i64 0)) ⟨tm,bx,nx,lg⟩):yc P t c d ⟨tm,bx,nx,lg⟩ K3 ⟨⟩:=by
 show QX P t _ _ _ _;unfold QX;simp only[hl,hle,hx];cases c<;>first
  | exact absurd rfl (hb _ _ _ _ _)
  | (simp only[hc];exact ⟨hxl,hK⟩)
theorem zpU {z:List Value} (hl:lay P t=some ⟨.slice e,s1,b1,z1⟩) (hle:lay P e=some ⟨kd,k,by',some z⟩) (hb:bx[i]?=some cs) (hz:z.length=k) (hk:0<k) (h1:(z.all Value.oneCell')=true) (hfit:off+n*k<=cs.length)
  (hK:K3 .any ⟨tm,bx.set i (spl cs off (List.replicate n (z.map zA)).flatten),nx,lg⟩):v7 P t (.bs i off k n cap) ⟨tm,bx,nx,lg⟩ K3 ⟨⟩:=by
 show ku P t _ _ _;unfold ku;simp only[hl,hle,hb];exact ⟨trivial,hz,hk,h1,hfit,hK⟩
theorem NM {m:Nat} {z:List Value} {xs:List C} (hl:lay P t=some ⟨.slice e,s1,b1,z1⟩) (hle:lay P e=some ⟨kd,k,by',some z⟩) (hx:d.xs? k bx=some (m,xs)) (hz:z.length=k) (hk:0<k) (h1:(z.all Value.oneCell')=true) (hxl:xs.length=m*k) (hm:0<m) (h63:m<=9223372036854775807) (hby:m*by'<=140737488355328)
  (hK:∀ cap,m<=cap->cap<=9223372036854775807->K3 (.bs bx.length 0 k m cap) ⟨tm,bx++[xs++List.replicate ((cap-m)*k) .any],nx,lg⟩):ue P t (.sc (.slice none 0 0)) d ⟨tm,bx,nx,lg⟩ K3 ⟨⟩:=by
 show Yz P t _ _ _ _;unfold Yz;simp only[hl,hle,hx];exact ⟨hz,hk,h1,hxl,hm,h63,hby,fun c h1 h2=>hK c h1 (by unfold maxLen at h2;omega)⟩
theorem ZP {m:Nat} {z:List Value} {xs:List C} (hl:lay P t=some ⟨.slice e,s1,b1,z1⟩) (hle:lay P e=some ⟨kd,k,by',some z⟩) (hx:d.xs? k bx=some (m,xs)) (hz:z.length=k) (hk:0<k) (h1:(z.all Value.oneCell')=true) (hxl:xs.length=m*k)
  (hb:bx[i]?=some cs) (hfit:off+cap*k<=cs.length) (hn:n<=cap) (h63:n+m<=9223372036854775807) (hby:(n+m)*by'<=140737488355328)
  (hK1:n+m<=cap->K3 (.bs i off k (n+m) cap) ⟨tm,bx.set i (spl cs (off+n*k) xs),nx,lg⟩)
  (hK2:cap<n+m->∀ c',n+m<=c'->c'<=9223372036854775807->K3 (.bs bx.length 0 k (n+m) c') ⟨tm,bx++[(cs.drop off).take (n*k)++xs++List.replicate ((c'-(n+m))*k) .any],nx,lg⟩):ue P t (.bs i off k n cap) d ⟨tm,bx,nx,lg⟩ K3 ⟨⟩:=by
 show Yz P t _ _ _ _;unfold Yz;simp only[hl,hle,hx,hb];exact ⟨hz,hk,h1,hxl,trivial,hfit,hn,h63,hby,hK1,fun h c h1 h2=>hK2 h c h1 (by unfold maxLen at h2;omega)⟩
theorem zgw {tn s2 b2:Nat} {kn kq:IntKind} {z:List Value} {q:Int} (hl:lay P t=some ⟨.slice e,s1,b1,z1⟩) (hln:lay P tn=some ⟨.int kn,s2,b2,z2⟩) (hle:lay P e=some ⟨kd,k,by',some z⟩) (hz:z.length=k) (hk:0<k) (h1:(z.all Value.oneCell')=true)
  (hq:0<q) (h63:q<=9223372036854775807) (hby:q*by'<=140737488355328) (hK:∀ c',q.toNat<=c'->c'<=maxLen->K3 (.bs bx.length 0 k q.toNat c') ⟨tm,bx++[(List.replicate q.toNat (z.map zA)).flatten++List.replicate ((c'-q.toNat)*k) .any],nx,lg⟩) :
  zaC P t tn (.sc (.slice none 0 0)) (.sc (.int kq q)) ⟨tm,bx,nx,lg⟩ K3 ⟨⟩:=by
 show Nv P t tn _ _ _ _;unfold Nv;simp only[hl,hln,hle];exact ⟨hz,hk,h1,hq,h63,hby,hK⟩
theorem zsP {tn s2 b2:Nat} {kn kq:IntKind} {z:List Value} {q:Int} (hl:lay P t=some ⟨.slice e,s1,b1,z1⟩) (hln:lay P tn=some ⟨.int kn,s2,b2,z2⟩) (hle:lay P e=some ⟨kd,k,by',some z⟩) (hz:z.length=k) (hk:0<k) (h1:(z.all Value.oneCell')=true)
  (hb:bx[i]?=some cs) (hfit:off+cap*k<=cs.length) (hn:n<=cap) (hq:0<q) (h63:(n:Int)+q<=9223372036854775807) (hby:((n:Int)+q)*by'<=140737488355328) (hg:(cap:Int)<n+q)
  (hK:∀ c',n+q.toNat<=c'->c'<=9223372036854775807->K3 (.bs bx.length 0 k (n+q.toNat) c') ⟨tm,bx++[(cs.drop off).take (n*k)++(List.replicate q.toNat (z.map zA)).flatten++List.replicate ((c'-(n+q.toNat))*k) .any],nx,lg⟩):zaC P t tn (.bs i off k n cap) (.sc (.int kq q)) ⟨tm,bx,nx,lg⟩ K3 ⟨⟩:=by
 show Nv P t tn _ _ _ _;unfold Nv;simp only[hl,hln,hle,hb];exact ⟨hz,hk,h1,trivial,hfit,hn,hq,h63,hby,hg,fun c h1 h2=>hK c h1 (by unfold maxLen at h2;omega)⟩
def opB (P:Program) (fn:Func) (code:Code) (b:Nat->List Bool):Bool:=P.follows .mixedOrders&&(!(fn.name == "runtime.NumGoroutine")&&jI fn.ntmps b code)
theorem zpW {b:Nat->List Bool} (h:opB P fn code b=true):P.follows .mixedOrders=true:=(A0.1 h).1
theorem zpj {b:Nat->List Bool} (h:opB P fn code b=true):(fn.name == "runtime.NumGoroutine")=false:=by
 have:=(A0.1 (A0.1 h).2).1;simpa using this
theorem zox {b:Nat->List Bool} (h:opB P fn code b=true):jI fn.ntmps b code=true:=(A0.1 (A0.1 h).2).2
theorem foF (b:Nat->List Bool) (hf:P.funcs[f]?=some fn)
  (h:Vk P G ⟨0,none,b⟩ code (xt P fn.results.toList (fun c σ=>∃ (fr:Fr) (src:Src),zcX fr σ.bx/\QK src=true/\src.length=n/\CLe src 0 (c.fy σ.nx fr σ.bx) r) ⟨⟩) ⟨Uz 0 args,[],0,0⟩ ⟨⟩ ⟨⟩) (hb:fn.body=some code:=by rfl) (hN:args.length<=fn.ntmps:=by exact zjf rfl) (ho:opB P fn code b=true:=by kernel_rfl):Fun P G f args r n:=Fun.of_awpF b (zpW ho) hf hb (zpj ho) hN (zox ho) h
theorem foX {bx:List (List C)} (b:Nat->List Bool) (hf:P.funcs[f]?=some fn)
  (h:Vk P G ⟨bx.length,none,b⟩ code (xt P fn.results.toList (fun c σ=>∃ r bx' n,(post r bx' n/\bx.length<=bx'.length)/\∃ src:Src,QK src=true/\src.length=n/\zd src bx'.length σ.bx bx'/\CLe src bx'.length c r) ⟨⟩) ⟨Uz 0 args,bx,q,0⟩ ⟨⟩ ⟨⟩) (hb:fn.body=some code:=by rfl) (hN:args.length<=fn.ntmps:=by exact zjf rfl) (ho:opB P fn code b=true:=by kernel_rfl):YW P G f args bx q post:=YW.of_awp b (zpW ho) hf hb (zpj ho) hN (zox ho) h
theorem zp7 (gargs:List C) (hf:Fun P G f gargs r n) (hr:r.freshB=true) (hl:XK bx args gargs) (hK:K3 (r.sh nx) ⟨tm,bx,nx+n,lg⟩):Q5 P G f args fargs ⟨tm,bx,nx,lg⟩ K3 ⟨⟩:=.inr <| .inr <| .inl ⟨gargs,r,n,hl,hf,hr,hK⟩
theorem call (hf:Fun P G f fargs r n) (hK:K3 (r.sh nx) ⟨tm,bx,nx+n,lg⟩):Q5 P G f args fargs ⟨tm,bx,nx,lg⟩ K3 ⟨⟩:=.inl ⟨r,n,hf,hK⟩
theorem zcD (hf:Fun P G f args r n) (hK:K2 (r.sh nx) (nx+n)):vv P G f args nx K2 ⟨⟩:=uS.mk hf hK
theorem Fun.less {args':List C} (hf:Fun P G f args' r n) (hl:zh [] 0 args args'):Fun P G f args r n:=⟨hf.1,fun R vs hg ha=>hf.2 R vs hg (by
 have:=zw.less _ _ _ hl ha;refine zw.ext (Ext.refl R) ⟨fun i b hb=>?_,fun id x hx=>?_⟩ _ _ this
 ·simp at hb
 ·have hx:Z8 [] zJ.T id=some x:=hx;simp[Z8]at hx)⟩
theorem Xc {a1:List C} {fbx':List (List C)} (ι κ:List Nat) (hf:xh P G f a1 fbx q r fbx' n) (hq:κ.length=q) (hι:ι.Nodup) (hκ:κ.Nodup) (hb:∀ i∈ι,i<bx.length)
  (ha:C.reL (XI ι) (XI κ) args=a1) (hx:(ι.map fun i=>C.reL (XI ι) (XI κ) (bx.getD i []))=fbx) (hK:K3 (r.re (upB ι bx.length) (upO nx)) (ZI ι κ fbx' n ⟨tm,bx,nx,lg⟩)):Q5 P G f args fargs ⟨tm,bx,nx,lg⟩ K3 ⟨⟩:=
 .inr <| .inl ⟨ι,κ,r,fbx',n,hι,hκ,hb,by rw[ha,hq];exact hx▸hf,hK⟩
theorem range {A B:Nat->(Exit->St->Prop)->St->Prop} {ps:List Tmp} {first cap first' cap':List C} {bx':List (List C)} (items:List (List C)) (sf:Nat->Bool) (m:Nat) (I:Nat->St) (hit:yg P G f first' cap' bx' items) (e1:C.selL (Xb m) first=first') (e2:C.selL (Xb m) cap=cap') (e3:(bx.drop m).map (C.selL (Xb m))=bx')
  (hp:p<=m) (hm:m<=bx.length) (hlen:∀ it∈items,it.length=ps.length) (hI:∀ k,k<=items.length->(I k).bx.length=m) (hw:JF m ⟨[],bx,nx,lg⟩ ((I 0).wt []))
  (hbody:∀ k it,items[k]?=some it->(∀ j,j<k->sf j=false)->A m (zlf (B m (uj m (He m tm) (sf k) (I (k+1)) Q ⟨⟩ ⟨⟩)) ⟨⟩) ((I k).wt (Vh ps it (He m tm))))
  (hdone:(∀ j,j<items.length->sf j=false)->Q .normal ((I items.length).wt (He m tm))):zhc P G p A B Q ps (.clo (.func f) first cap) ⟨tm,bx,nx,lg⟩ ⟨⟩ ⟨⟩ ⟨⟩:=
 ⟨items,sf,m,I,hp,hm,by rw[e1,e2];exact e3▸hit,hlen,hI,hw,hbody,hdone⟩
theorem loop {B:(Exit->St->Prop)->St->Prop} {ι:Type} (I:ι->St) (ok:ι->Prop) (μ:ι->Nat) (i0:ι) (h0:ok i0) (hw:JF p σ (I i0))
  (hr:∀ i,ok i->B (zaM (fun σ'=>∃ j,ok j/\μ j<μ i/\JF p σ' (I j)) Q ⟨⟩ ⟨⟩) (I i)):zk3 p B Q σ ⟨⟩ ⟨⟩:=⟨ι,I,ok,μ,i0,h0,hw,hr⟩
theorem fof (b:Nat->List Bool) (hf:P.funcs[f]?=some fn)
  (h:Vk P G ⟨0,none,b⟩ code (xt P fn.results.toList (fun c σ=>∃ src:Src,QK src=true/\src.length=n/\CLe src 0 (c.fz σ.bx) r) ⟨⟩) ⟨Uz 0 args,[],0,0⟩ ⟨⟩ ⟨⟩) (hb:fn.body=some code:=by rfl) (hN:args.length<=fn.ntmps:=by exact zjf rfl) (ho:opB P fn code b=true:=by kernel_rfl):Fun P G f args r n:=Fun.of_awp b (zpW ho) hf hb (zpj ho) hN (zox ho) h
theorem fon (hf:P.funcs[f]?=some fn)
  (h:Vk P G ⟨0,none,fun _=>[]⟩ code (xt P fn.results.toList (fun c σ=>∃ src:Src,QK src=true/\src.length=n/\CLe src 0 (c.fz σ.bx) r) ⟨⟩) ⟨Uz 0 args,[],0,0⟩ ⟨⟩ ⟨⟩) (hb:fn.body=some code:=by rfl) (hN:args.length<=fn.ntmps:=by exact zjf rfl) (ho:opB P fn code (fun _=>[])=true:=by kernel_rfl):Fun P G f args r n:=fof _ hf h hb hN ho
theorem foB {bx bx':List (List C)} (b:Nat->List Bool) (hf:P.funcs[f]?=some fn)
  (h:Vk P G ⟨bx.length,none,b⟩ code (xt P fn.results.toList (fun c σ=>∃ src:Src,QK src=true/\src.length=n/\zd src bx'.length σ.bx bx'/\CLe src bx'.length c r) ⟨⟩) ⟨Uz 0 args,bx,q,0⟩ ⟨⟩ ⟨⟩) (hb:fn.body=some code:=by rfl) (hN:args.length<=fn.ntmps:=by exact zjf rfl) (ho:opB P fn code b=true:=by kernel_rfl) (hlen:bx.length<=bx'.length:=by exact zjf rfl):xh P G f args bx q r bx' n:=xh.of_awp b (zpW ho) hf hb (zpj ho) hN (zox ho) hlen h
theorem foI {first cap:List C} {bx items:List (List C)} (b:Nat->List Bool) (hf:P.funcs[f]?=some fn)
  (h:∀ (l:Nat) (sf:Nat->Bool),Vk P G ⟨0,some ⟨l,items,sf⟩,b⟩ code (xt P fn.results.toList (fun c σ=>zni items sf σ.lg) ⟨⟩) ⟨Uz 0 (first++[.sc (.func (.yield l) #[] #[])]++cap),bx,0,0⟩ ⟨⟩ ⟨⟩) (hb:fn.body=some code:=by rfl) (hN:first.length+1+cap.length<=fn.ntmps:=by exact zjf rfl) (ho:opB P fn code b=true:=by kernel_rfl):yg P G f first cap bx items:=yg.of_awp b (zpW ho) hf hb (zpj ho) hN (zox ho) h
theorem zrd {m:Nat} {xs:List C} {z1:List Value} (A:List C) (hbx:bx[i]?=some cs) (h1:z1.length=k) (h2:0<k) (h3:(z1.all Value.oneCell')=true) (h4:0<m) (hp:p<=i) (hl:cs.length=cap*k) (hn:n<=cap) (hc:cap<=9223372036854775807)
  (h5:n+m<=9223372036854775807) (h6:(n+m)*b<=140737488355328) (hA:C.reL (J0 i) some (cs.take (n*k)++xs)=A)
  (hK:∀ c',n+m<=c'->c'<=9223372036854775807->K3 (.bs i 0 k (n+m) c') ⟨HR (J0 i) some tm,Zm i (A++List.replicate ((c'-(n+m))*k) .any) bx,nx,lg⟩):zpP (some (m,xs)) p k b z1 (.bs i 0 k n cap) ⟨tm,bx,nx,lg⟩ K3 ⟨⟩:=by
 refine ⟨h1,h2,h3,h4,?_⟩;simp only[hbx];exact ⟨trivial,hp,hl,hn,hc,h5,h6,fun c' q1 q2=>by rw[hA];exact hK c' q1 (by unfold maxLen at q2;omega)⟩
theorem zb5 (k:Nat):((k:Int)+1).toNat=k+1:=by omega
theorem zi5.mk {B:(Exit->St->Prop)->St->Prop} {ι:Type} (I:ι->St) (ok:ι->Prop) (μ:ι->Nat) (i0:ι) (h0:ok i0) (hw:JF p σ (I i0))
  (hr:∀ i,ok i->B (zlD (fun σ'=>∃ j,ok j/\μ j<μ i/\JF p σ' (I j)) Q) (I i)):zi5 p B Q σ:=⟨ι,I,ok,μ,i0,h0,hw,hr⟩
end
attribute [push_cast] eq_self iff_self List.append_eq zsd zto zsJ zs5 zso zbK zrP zmf zj0 zlQ znI zm2 zlk zmI zqs znN zjh zos zpA zoN zqf zo8 zm5 znS zpa znq zoD zqR zlX zry zoO zmH zqk zrl zrX zoH znt zpS zku zlm ziG zgk zke zi8 ziY zei ze6 zet zjQ zov zpo zoj zok zgj yO zsU zh8 znU zly zpw zqe vi zbE zfp xW N9 yL zca MY zj7 yQ zbu zlJ zmr zpu zog zoU zow zqn zoF zm8 zqD zjK zhy zkw zjI zkD zna zoc zp8 znK zmQ zbd zcA vj uq Hy Hi G8 zpb zmA ziJ ziD zbl zc1 zkq zh1 zgV zdu zjR zhF MS Mw zho ze7 ziT ziQ uk xI zge zfW NH GS zfq zf9 Nc GM zfG zdn vn yM zep zfs zlI znH uw zoK znn zbC zo9 zi7 zdd zqj zcg zhU ziv zd4 zmE zrA zkh zez zcO zdV zlq zdC ziK zba zgO vW yZ zqd vV xC yD GN yG uf MC zfI zf3 zdq xd zgx yb zd9 zbs zfJ zc7 zji zd6 zko zfH zdk zeB zg9 zg7 zgo zeC zeA zed zeZ zdo zeK zdR zjj zgR zsl zgy zo1 zfg zrV zsc zbj zeT zc0 zcp zbk zlT NK zcJ y4 zbO MH N0 zm9 zjB zhh ztw zr0 zj4 zi1 zta zbQ zbr ze0 zg3 zcu zbo uz zce zfw zeV zjq zjX zi3 zkc zkv ztm zsg zsk zq9 zsT zrI zrh zmu zoV zlA znF zhM zmv zp6 zp4 zb2 zcL zcF zqw zs7 zmp zsW zrJ zqS ztl zrS zb8 zfX zhB zb7 zoY zpi ziS zhR zj6 zcn zc5 zb4 zdU zcs zob zcj zig zhL zdT zdA zi9 zev zgb zqE zqo znd zkr zs3 zli zoX zlL zrZ zsq zsZ zrW zrK zrt zr9 zqP zqG ztk zrn zr3 zeg zeb zqv zsb zsn zoy zp9 zrQ zrw zrR znc znO ziZ zqb zq8 zrU znk zpD zmi zpn zhG ziF zhV znY zhI zkC zm1 zrx zru zrT zsi zkA zmS znh zdK zkB ziq ziI zmX znD zgK zjN zj5 zit zik znC znP zmT znx zcS zof zbx zeH zdF zjv zh7 zkx zlB zjU ziw ze3 zlE zij zc6 zhD zdI zjg zmD ziy znJ zjC zkd zh3 zmR zbb zjx zi2 zdQ znb znB zl9 zmh zms zl2 zmd zkz ziV zib zka zhf zcT zdm zff zbt yy ziC zio zhP zds zcQ zkm zjn zgi zde zfv ze2 zdc yP zjk zki zjT zft zcR zjc zjJ zhK zdt zbG zcc zpZ zbz zqC vp uo yl zb3 zbW zbF yS vK ve yX vQ uh zbf zcz zbR yz vr zf0 zbg vo xi zm3 znz zmb zoC zeX zcI
attribute [push_cast] Int.ofNat_eq_natCast Bool.not_false Bool.not_true Bool.true_beq Bool.false_beq beq_self_eq_true Bool.true_and zlW zln zop znf zlH List.map_cons List.map_nil List.getElem?_cons_zero List.getElem?_cons_succ List.getElem?_toArray List.getElem?_nil List.drop_zero List.drop_succ_cons List.drop_nil List.take_succ_cons List.take_zero List.take_nil List.length_cons List.length_nil List.getD_cons_zero List.getD_cons_succ List.set_cons_zero List.set_cons_succ List.cons_append List.nil_append List.append_nil List.all_cons List.all_nil List.tail_cons List.tail_nil List.headD_cons List.headD_nil List.flatten_cons List.flatten_nil List.replicate_succ List.replicate_zero Bool.and_self Bool.and_true Bool.true_and Bool.not_true Bool.not_false Option.bind_some Option.map_some Option.map_none if_true if_false true_and and_true and_self decide_true decide_false Int.ofNat_le Int.ofNat_lt Int.natCast_inj zb5 Int.toNat_natCast Nat.zero_add Nat.add_zero List.toList_toArray Int.add_zero Int.zero_add Bool.not_not Int.sub_zero Int.natCast_pos Nat.sub_zero Int.cast_ofNat_Int Nat.one_mul Nat.mul_one
theorem dn {p q r:Src->Prop} (c:r []:=by push_cast [ze,zd,CLe,zh]) (a:p []:=by rfl) (b:q []:=by rfl):∃ s,p s/\q s/\r s:=⟨[],a,b,c⟩
theorem wks {σ σ':St} (src:Src) (h4:ze src σ'.bx.length σ.tm σ'.tm:=by push_cast [ze,zd,CLe,zh]) (h5:zd src σ'.bx.length σ.bx σ'.bx:=by push_cast [ze,zd,CLe,zh]) (h1:QK src=true:=by rfl) (h2:src.length=σ'.nx:=by rfl)
  (h3:p<=σ'.bx.length:=by first | exact Wc _ | exact Wb _ | exact zjf rfl) (h0:σ'.lg=σ.lg:=by rfl):JF p σ σ':=⟨src,h1,h2,h3,h0,h4,h5⟩
theorem wk {σ σ':St} (h4:ze [] σ'.bx.length σ.tm σ'.tm:=by push_cast [ze,zd,CLe,zh]) (h5:zd [] σ'.bx.length σ.bx σ'.bx:=by push_cast [ze,zd,CLe,zh]) (h2:([]:Src).length=σ'.nx:=by rfl)
  (h3:p<=σ'.bx.length:=by first | exact Wc _ | exact Wb _ | exact zjf rfl) (h0:σ'.lg=σ.lg:=by rfl):JF p σ σ':=⟨[],rfl,h2,h3,h0,h4,h5⟩
theorem an {a b:Prop} (k:b) (h:a:=by first | omega | (simp only[lS];omega)):a/\b:=⟨h,k⟩
namespace CA
theorem cl {G:zo} {lg:Nat} {tm:List (Nat×C)} {bx:List (List C)} {K3:C->St->Prop} (hf:Fun P G f fargs r n) (hK:K3 (r.sh nx) ⟨tm,bx,nx+n,lg⟩):Q5 P G f args fargs ⟨tm,bx,nx,lg⟩ K3 ⟨⟩:=call hf hK
end CA
namespace CB
theorem cl {G:zo} {K2:C->Nat->Prop} (hf:Fun P G f args r n) (hK:K2 (r.sh nx) (nx+n)):vv P G f args nx K2 ⟨⟩:=zcD hf hK
end CB
end
section
open Go.RowKit
def C.stayB:C->Bool
 | .sc _ | .str _ | .sl _ _ | .tight _ _ | .row _ | .any=>true
 | _=>false
theorem ziX {c:C} (h:c.stayB=true):c.frz=c:=by cases c<;>simp[C.stayB]at h<;>simp[C.frz]
theorem zl0 {c:C} (h:c.stayB=true):c.re fp fo=c:=by cases c<;>simp[C.stayB]at h<;>simp[C.re]
theorem zns {c:C} (h:c.stayB=true):CLe src n c c:=by cases c<;>simp[C.stayB]at h<;>simp[CLe]
theorem Mb:∀ {cs:List C},(cs.all C.stayB)=true->C.frzL cs=cs
 | [],_=>by simp[C.frzL]
 | c :: r,h=>by
  simp only[A3,Wt]at h;rw[C.frzL,ziX h.1,Mb h.2]
theorem zB {fp fo:Nat->Option Nat}:∀ {cs:List C},(cs.all C.stayB)=true->C.reL fp fo cs=cs
 | [],_=>by simp[C.reL]
 | c :: r,h=>by
  simp only[A3,Wt]at h;rw[C.reL,zl0 h.1,zB h.2]
theorem zP {src:Src} {n:Nat}:∀ {cs:List C},(cs.all C.stayB)=true->zh src n cs cs
 | [],_=>by simp[zh]
 | c :: r,h=>by
  simp only[A3,Wt]at h;rw[zh];exact ⟨zns h.1,zP h.2⟩
theorem zl6 (c:C):CLe src n c .any:=by cases c<;>simp[CLe]
theorem Xj {src:Src} {n:Nat}:∀ {cs:List C} {m:Nat},cs.length=m->zh src n cs (List.replicate m .any)
 | [],_,h=>by subst h;simp[zh]
 | c :: r,_,h=>by
  subst h;rw[Wh,AN,zh];exact ⟨zl6 c,Xj rfl⟩
theorem zfT {src:Src} {n:Nat}:∀ {a b c d:List C},zh src n a c->zh src n b d->zh src n (a++b) (c++d)
 | [],b,[],d,_,h=>h
 | [],b,x :: c,d,h,_=>by simp[zh]at h
 | x :: a,b,[],d,h,_=>by simp[zh]at h
 | x :: a,b,y :: c,d,h,h'=>by
  rw[Od,Od,zh];rw[zh]at h;exact ⟨h.1,zfT h.2 h'⟩
def qw (k:Nat) (rows:List (List C)) (c:Nat):List C:=rows.flatten++List.replicate ((c-rows.length)*k) .any
theorem qr {k:Nat}:∀ {rows:List (List C)},(∀ r∈rows,r.length=k)->rows.flatten.length=rows.length*k
 | [],_=>by simp
 | r :: rs,h=>by
  rw[OQ,Wq,h r Wj,qr fun x hx=>h x (Wk _ hx),Wh,AP,Nat.add_comm]
theorem JB {rows:List (List C)} (h:∀ r∈rows,r.length=k) (hc:rows.length<=c):(qw k rows c).length=c*k:=by
 unfold qw;rw[Wq,qr h,AD,←Om];congr 1;omega
abbrev jn (rows:List (List C)):Prop:=∀ r∈rows,(r.all C.stayB)=true
theorem Qu {rows:List (List C)} (h:jn rows):(rows.flatten.all C.stayB)=true:=by
 rw[WA];intro c hc;obtain ⟨r,hr,hc⟩:=List.mem_flatten.1 hc;exact WA.1 (h r hr) c hc
theorem zD {rows:List (List C)} (h:jn rows):((qw k rows c).all C.stayB)=true:=by
 unfold qw;rw[OW,Qu h,OA,WA];intro c hc;obtain ⟨_,rfl⟩:=List.mem_replicate.1 hc
 rfl
theorem Zv:∀ {rows:List (List C)},(∀ r∈rows,r.length=k)->rows.flatten.take (n*k)=(rows.take n).flatten:=by
 induction n with
 | zero=>intro rows _;simp
 | succ n ih =>
  intro rows h;cases rows with
  | nil=>simp
  | cons r rs =>
   have hr:=h r Wj;rw[Az,OQ,OQ,AI,Wg (by rw[hr,AP];omega),hr,show (n+1)*k-k=n*k by rw[AP];omega,ih fun x hx=>h x (Wk _ hx)]
theorem k8:∀ {rows:List (List C)},(∀ r∈rows,r.length=k)->rows.flatten.drop (n*k)=(rows.drop n).flatten:=by
 induction n with
 | zero=>intro rows _;simp
 | succ n ih =>
  intro rows h;cases rows with
  | nil=>simp
  | cons r rs =>
   have hr:=h r Wj;rw[A8,OQ,List.drop_append,OR (by rw[hr,AP];omega),hr,Ox,show (n+1)*k-k=n*k by rw[AP];omega,ih fun x hx=>h x (Wk _ hx)]
theorem Jv {m:Nat} {rows:List (List C)} (hk:∀ r∈rows,r.length=k) (hs:jn rows) (hc:rows.length<=c) (hl:cs.length=c*k) (ht:cs.take (rows.length*k)=rows.flatten):zh src m cs (qw k rows c):=by
 have h1:cs=rows.flatten++cs.drop (rows.length*k):=by rw[←ht,Ol]
 rw[h1];unfold qw;refine zfT (zP (Qu hs)) (Xj ?_);rw[WZ,hl,←Nat.sub_mul]
theorem Q7 {xs:List C} (h:p+xs.length<=cs.length):(spl cs p xs).length=cs.length:=by
 simp[spl];omega
theorem ki {L X:List C} (hp:p<=L.length) (hq:q=p+X.length) (hL:cs.take L.length=L) (hc:L.length+X.length<=cs.length) :
  (spl (spl cs q (L.drop p)) p X).take (L.length+X.length)=L.take p++(X++L.drop p):=by
 subst hq;apply OZ;intro j;have hcur:∀ j,j<L.length->cs[j]?=L[j]?:=fun j hj=>by
  have h:=Wy (fun l=>l[j]?) hL;simp only[WG,if_pos hj]at h;exact h
 simp only[spl,WG,BG,W2,W5,Wq,WZ]
 repeat' (first | split | omega)
 all_goals (first | rfl | omega | exact (W0 (by omega)).symm | (congr 1;omega) | (rw[hcur _ (by omega)];first | done | (congr 1;omega)) | (symm;rw[W0];simp;omega) | (rw[W0];simp;omega) | skip)
theorem Ns {L X:List C} (hp:p<=L.length) (hq:q=p+X.length) (hL:cs.take p=L.take p) (hc:L.length+X.length<=cs.length) :
  (spl (spl cs p X) q (L.drop p)).take (L.length+X.length)=L.take p++(X++L.drop p):=by
 subst hq;apply OZ;intro j;have hcur:∀ j,j<p->cs[j]?=L[j]?:=fun j hj=>by
  have h:=Wy (fun l=>l[j]?) hL;simp only[WG,if_pos hj]at h;exact h
 simp only[spl,WG,BG,W2,W5,Wq,WZ]
 repeat' (first | split | omega)
 all_goals (first | rfl | omega | exact (W0 (by omega)).symm | (congr 1;omega) | (rw[hcur _ (by omega)];first | done | (congr 1;omega)) | (symm;rw[W0];simp;omega) | (rw[W0];simp;omega) | skip)
theorem zmt {L Z:List C} (hq:q<=L.length) (hpq:p<=q) (hL:cs.take L.length=L) (hn:n=p+(L.length-q)) (hc:L.length<=cs.length) (hz:n+Z.length<=cs.length) :
  (spl (spl cs p (L.drop q)) n Z).take n=L.take p++L.drop q:=by
 subst hn;apply OZ;intro j;have hcur:∀ j,j<L.length->cs[j]?=L[j]?:=fun j hj=>by
  have h:=Wy (fun l=>l[j]?) hL;simp only[WG,if_pos hj]at h;exact h
 simp only[spl,WG,BG,W2,W5,Wq,WZ]
 repeat' (first | split | omega)
 all_goals (first | rfl | omega | exact (W0 (by omega)).symm | (congr 1;omega) | (rw[hcur _ (by omega)];first | done | (congr 1;omega)) | (symm;rw[W0];simp;omega) | (rw[W0];simp;omega) | skip)
theorem vI {e tR:TypeId} {z:Option (List Value)} (hf:P.funcs[f]?=some fn) (hname:(fn.name == "runtime.NumGoroutine")=false) (hb:fn.body.isNone=true) (hn:Extern.findNext fn=none)
  (he:Extern.find fn=some (Extern.SlicesOverlaps.overlaps #[t,t] #[tR])) (hl:lay P t=some ⟨.slice e,s1,b1,z1⟩) (hle:lay P e=some ⟨kd,k,by',z⟩) {id e' k' i off n c:Nat} {rows bx:List (List C)} {cs:List C} (hbx:bx[i]?=some cs) (hcs:cs≠[]) (hrows:rows≠[]) (hn0:0<n) :
  zrm P f [.own id e' k' rows,.bs i off k n c] bx (.sc (.bool false)):=by
 intro B R L vs hB hO hr;obtain ⟨v1,us,rfl,h1,hr⟩:=zf.1 hr;obtain ⟨v2,us,rfl,h2,hr⟩:=zf.1 hr;rw[zk]at hr;subst hr;refine ⟨.bool false,?_,zp.2 rfl⟩;rw[run_callFunc_extern hf hname hb hn he];have ht:=z8 hl rfl;have hz:∀ w,(Go.sizeOf e).run P w = .ok k w:=fun w=>qL hle w;obtain ⟨hT,a,cap,hv1,_⟩:=YM.1 h1;obtain ⟨b,hbi,ad,rfl,had⟩:=jo.1 h2;obtain ⟨us,ty,e1,e2,e3,e4⟩:=hB.box i b cs hbi hbx;have hsz:us.size≠0:=by
  have:=zx e2;simp only[WV]at this;rw[this];exact fun h=>hcs (W3 h)
 rcases hO.own id e' k' v1 hT with hnil | ⟨g,n',cap',cur,ty',q1,q2,q3,q4,q5,q6,q7,q8⟩ | ⟨_,_,_,_,hmap,_⟩
 rotate_right
 ·rw[hv1]at hmap;unfold kx at hmap;cases hmap
 ·rw[hnil]at hv1;obtain ⟨_,h0,_⟩:=Value.slice.inj hv1;exact absurd (W3 h0.symm) hrows
 ·rw[q1];obtain rfl:=had (by omega);have hne:g≠b:=fun h=>q7 (h▸Wf hbi);rw[Lib.run_overlaps_apart R.w t tR e ht k hz ⟨g,0,none⟩ ⟨b,off,none⟩ n' cap' n c hne ty' ty cur.size us.size (by simp[World.shape?,q3]) (by simp[World.shape?,e1]) hsz (frozen_of_row R.w g 0 _ _ q3) (frozen_of_row R.w g _ _ _ q3)]
  rfl
theorem V4 {m:Nat} {z:List C} (hz:z.length=k):(List.replicate m z).flatten.length=m*k:=by
 have h:=qr (k:=k) (rows:=List.replicate m z) fun r hr=>by rw[(List.mem_replicate.1 hr).2];exact hz
 rw[h,AD]
section
variable {P:Program} {t tn e s1 b1 s2 b2 k by' m i off n cap nx lg:Nat} {kd:LK} {kn kq:IntKind} {z1 z2 z3:Option (List Value)} {z:List Value} {cs xs:List C} {bx:List (List C)} {tm:List (Nat×C)} {d:C} {q:Int} {K3:C->St->Prop}
theorem zmk (hl:lay P t=some ⟨.slice e,s1,b1,z1⟩) (hln:lay P tn=some ⟨.int kn,s2,b2,z2⟩) (hle:lay P e=some ⟨kd,k,by',some z⟩) (hz:z.length=k) (hk:0<k) (h1:(z.all Value.oneCell')=true)
  (hb:bx[i]?=some cs) (hfit:off+cap*k<=cs.length) (hn:n<=cap) (hq:0<q) (h63:(n:Int)+q<=9223372036854775807) (hby:((n:Int)+q)*by'<=140737488355328) (hg:(cap:Int)<n+q)
  (hK:∀ c' B,n+q.toNat<=c'->c'<=9223372036854775807->B.length=c'*k->B.take (n*k)=(cs.drop off).take (n*k)->K3 (.bs bx.length 0 k (n+q.toNat) c') ⟨tm,bx++[B],nx,lg⟩):zaC P t tn (.bs i off k n cap) (.sc (.int kq q)) ⟨tm,bx,nx,lg⟩ K3 ⟨⟩:=by
 have hnk:n*k<=cap*k:=WP _ hn;refine zsP hl hln hle hz hk h1 hb hfit hn hq h63 hby hg fun c' g1 g2=>hK c' _ g1 g2 ?_ ?_
 ·rw[Wq,Wq,V4 (k:=k) (by simpa using hz),AD,W5,WZ,OH (by omega),←Om,←Om];congr 1;omega
 ·rw[WQ,OI (by rw[W5,WZ];omega)]
theorem XE (hl:lay P t=some ⟨.slice e,s1,b1,z1⟩) (hle:lay P e=some ⟨kd,k,by',z3⟩) (hx:d.xs? k bx=some (m,xs)) (hb:bx[i]?=some cs) (hxl:xs.length=m*k) (hfit:off+n*k<=cs.length)
  (hK:∀ B,B=spl cs off (xs.take (min m n*k))->B.length=cs.length->K3 (.sc (.int .i64 ((min m n:Nat):Int))) ⟨tm,bx.set i B,nx,lg⟩):yc P t (.bs i off k n cap) d ⟨tm,bx,nx,lg⟩ K3 ⟨⟩:=
 zmK hl hle hx hb hxl hfit (hK _ rfl (by
  have h1:min m n*k<=n*k:=WP _ (Nat.min_le_right _ _);exact Q7 (by rw[W5];omega)))
theorem zlw (hl:lay P t=some ⟨.slice e,s1,b1,z1⟩) (hle:lay P e=some ⟨kd,k,by',some z⟩) (hb:bx[i]?=some cs) (hz:z.length=k) (hk:0<k) (h1:(z.all Value.oneCell')=true) (hfit:off+n*k<=cs.length)
  (hK:∀ B Z,B=spl cs off Z->Z.length=n*k->B.length=cs.length->K3 .any ⟨tm,bx.set i B,nx,lg⟩):v7 P t (.bs i off k n cap) ⟨tm,bx,nx,lg⟩ K3 ⟨⟩:=by
 have hZ:(List.replicate n (z.map zA)).flatten.length=n*k:=V4 (by simpa using hz);exact zpU hl hle hb hz hk h1 hfit (hK _ _ rfl hZ (Q7 (by omega)))
end
theorem UD {bx:List (List C)} (hb:bx[i]?=some cs) (h:off+n*k<=cs.length):C.xs? k bx (.bs i off k n c)=some (n,(cs.drop off).take (n*k)):=by
 simp[C.xs?,hb,h]
theorem Xs {rows:List (List C)} (hk:∀ r∈rows,r.length=k) (hi:i<=rows.length):((qw k rows c).drop (i*k)).take ((rows.length-i)*k)=rows.flatten.drop (i*k):=by
 have hf:=qr hk;have h1:i*k<=rows.length*k:=WP _ hi;unfold qw;rw[List.drop_append_of_le_length (by omega),OI (by rw[WZ,hf,Nat.sub_mul])]
theorem Ql {rows:List (List C)} {x:List C} (hk:∀ r∈rows,r.length=k):rows.flatten.take (i*k)++(x++rows.flatten.drop (i*k))=(rows.take i++x :: rows.drop i).flatten:=by
 rw[Zv hk,k8 hk];simp
theorem za6 {bx:List (List C)} {rows:List (List C)} (hb:bx[i]?=some cs) (hc:0<c) (h1:rows.length<=c) (h2:c<=9223372036854775807) (hl:cs.length=c*k) (hk:∀ r∈rows,r.length=k) (hs:(cs.all C.stayB)=true) (ht:cs.take (rows.length*k)=rows.flatten) :
  zcX [(i,e,k,rows,c)] bx:=by
 refine ⟨by simp,fun x hx=>?_⟩;rw[W8]at hx;subst hx;exact ⟨cs,hb,hc,h1,by unfold maxLen;exact h2,hl,hk,by rw[Mb hs];exact ht⟩
theorem zhn {rows:List (List C)} (hk:∀ r∈rows,r.length=k):(qw k rows c).take (rows.length*k)=rows.flatten:=by
 unfold qw;rw[OI (qr hk)]
theorem zy {bx:List (List C)} {rows:List (List C)} (hb:bx[i]?=some (qw k rows c)) (hc:0<c) (h1:rows.length<=c) (h2:c<=9223372036854775807) (hk:∀ r∈rows,r.length=k) (hs:jn rows):zcX [(i,e,k,rows,c)] bx:=
 za6 hb hc h1 h2 (JB hk h1) hk (zD hs) (zhn hk)
theorem za0 {rows:List (List C)} {row:List C} (hk:∀ r∈rows,r.length=k) (hr:row.length=k) (hi:i<rows.length):(qw k rows c).take (i*k)++row++(qw k rows c).drop (i*k+k)=qw k (rows.set i row) c:=by
 have hf:=qr hk;have h1:(i+1)*k<=rows.length*k:=WP _ hi;rw[AP]at h1;unfold qw;rw[OO (by omega),List.drop_append_of_le_length (by omega),←AP,Zv hk,k8 hk,Bo,←WQ];congr 1;rw[List.set_eq_take_append_cons_drop,if_pos hi];simp
def RLe:List (List C)->List (List C)->Prop
 | [],[]=>True
 | a :: r,b :: s=>zh [] 0 a b/\RLe r s
 | _,_=>False
theorem RLe.len:∀ {a b:List (List C)},RLe a b->a.length=b.length
 | [],[],_=>rfl
 | _ :: r,_ :: s,h=>by rw[Wh,Wh,RLe.len h.2]
theorem zh.len:∀ {a b:List C},zh src n a b->a.length=b.length
 | [],[],_=>rfl
 | [],_ :: _,h=>by simp[zh]at h
 | _ :: _,[],h=>by simp[zh]at h
 | _ :: r,_ :: s,h=>by
  rw[zh]at h;rw[Wh,Wh,zh.len h.2]
theorem zeO {c d:C} (h:CLe [] 0 c d) (hr:Rep R zJ c v):Rep R zJ d v:=by
 refine Rep.ext (Ext.refl R) (T:=Jo [] 0 zJ) ⟨fun i b hb=>?_,fun id x hx=>?_⟩ _ _ (Rep.less _ _ _ h hr)
 ·simp at hb
 ·have hx:Z8 [] zJ.T id=some x:=hx;simp[Z8]at hx
theorem U6 {R:Env} {b:Nat}:∀ {cs ds:List C} {o:Nat},zh [] 0 cs ds->zM R cs b o->zM R ds b o
 | [],[],_,_,h=>h
 | [],_ :: _,_,h,_=>by simp[zh]at h
 | _ :: _,[],_,h,_=>by simp[zh]at h
 | c :: r,d :: s,o,h,hr=>by
  rw[zh]at h;obtain ⟨⟨v,h1,h2,h3,h4⟩,h5⟩:=ql.1 hr;exact ql.2 ⟨⟨v,h1,h2,zeO h.1 h3,h4⟩,U6 h.2 h5⟩
theorem Gs {R:Env} {k b:Nat}:∀ {a c:List (List C)} {o:Nat},RLe a c->zO R a k b o->zO R c k b o
 | [],[],_,_,h=>h
 | x :: r,y :: s,o,h,hr=>by
  unfold zO at hr ⊢;exact ⟨(zh.len h.1).symm.trans hr.1,U6 h.1 hr.2.1,Gs h.2 hr.2.2⟩
theorem zby {L:Loc} {id:Nat} {a c:List (List C)} (h:RLe a c) (hr:Rep R L (.own id e k a) v):Rep R L (.own id e k c) v:=by
 obtain ⟨h1,ad,cap,h2,h3,h4,h5⟩:=YM.1 hr;refine YM.2 ⟨h1,ad,cap,by rw[h2,h.len],by rw[←h.len];exact h3,h4,?_⟩;rcases h5 with h5 | ⟨b,o,h5,h6⟩
 ·subst h5;have:=h.len;exact .inl (W3 (by simpa using this.symm))
 ·exact .inr ⟨b,o,h5,Gs h h6⟩
theorem Fun.resX {G:zo} {r':C} (hf:Fun P G f args r n) (h:∀ R L v,Rep R L r v->Rep R L r' v):Fun P G f args r' n:=
 ⟨hf.1,fun R vs hg ha=>(hf.2 R vs hg ha).mono fun e w' ⟨v,R',L',h1,h2,h3,h4⟩=>⟨v,R',L',h1,h2,h3,h _ _ _ h4⟩⟩
theorem zcx {L:Loc} (h:∀ vs,zw R L cs vs->zw R L ds vs) (hr:Rep R L (.agg cs) v):Rep R L (.agg ds) v:=by
 obtain ⟨vs,h1,h2⟩:=jU.1 hr;exact jU.2 ⟨vs,h1,h _ h2⟩
theorem YA {L:Loc} {c d:C} {vs:List Value} (h:∀ v,Rep R L c v->Rep R L d v) (h':∀ vs,zw R L cs vs->zw R L ds vs) (hr:zw R L (c :: cs) vs):zw R L (d :: ds) vs:=by
 obtain ⟨v,us,rfl,h1,h2⟩:=zf.1 hr;exact zf.2 ⟨v,us,rfl,h _ h1,h' _ h2⟩
end
section
open Go.RowKit
def zg6 (k:Nat) (rows:List (List C)) (r:C) (bx':List (List C)) (n:Nat):Prop:=
 n=0/\((rows≠[]/\∃ c,rows.length<=c/\c<=9223372036854775807/\r = .bs 1 0 k rows.length c/\bx' = [[],qw k rows c])∨(rows = []/\(r = .sc (.slice none 0 0)/\bx' = []∨r = .bs 0 0 k 0 0/\bx' = [[]])))
def zq5 (k m:Nat) (ins:List (List C)) (r:C) (bx':List (List C)) (n:Nat):Prop:=
 n=0/\∃ c,ins.length<=c/\c<=9223372036854775807/\(r = .bs 0 0 k ins.length c/\bx' = [qw k ins c]∨r = .bs 1 0 k ins.length c/\bx' = [List.replicate m .any,qw k ins c])
section
variable {G:zo}
theorem QC (rows:List (List C)) (hk:∀ r∈rows,r.length=6) (hs:jn rows) (hl:rows.length<=100000) :
  YW Tryz.prog G 237 [.sl 6 rows] [] 0 (zg6 6 rows):=by
 refine YW.bySlice (fun h=>?_) (fun h a cap hr=>?_)
 ·refine foX (fun i=>if i=1000000+22 then [true,true] else []) Tryz.func237 ?_;dsimp only[Tryz.f237];push_cast;refine ⟨h,ZP Vd VK rfl rfl (by decide) rfl (qr hk) rfl (Wb _) (Wb _) (by omega) (by omega) (fun hc=>absurd hc ?_) (fun _ c hc hm=>?_)⟩
  ·have:=WK.2 h;omega
  ·push_cast;rw[Ot]at hc;refine ⟨_,_,_,⟨⟨rfl,.inl ⟨h,c,hc,hm,rfl,rfl⟩⟩,Wc _⟩,[],rfl,rfl,?_,by push_cast [ze,zd,CLe,zh]⟩;push_cast [ze,zd,CLe,zh];exact zP (zD hs)
 ·cases a with
  | none =>
   refine foX (fun i=>if i=1000000+22 then [true,true] else []) Tryz.func237 ?_;dsimp only[Tryz.f237];push_cast [hr,BU];exact ⟨_,_,_,⟨⟨rfl,.inr ⟨h,.inl ⟨rfl,rfl⟩⟩⟩,Wc _⟩,[],rfl,rfl,by push_cast [ze,zd,CLe,zh],by push_cast [ze,zd,CLe,zh]⟩
  | some a =>
   refine foX (fun i=>if i=1000000+22 then [true,true] else []) Tryz.func237 ?_;dsimp only[Tryz.f237];push_cast [hr,BV];have hx:C.xs? 6 [[]] (C.sc (.slice (some a) 0 cap))=some (0,[]):=by simp[C.xs?,hr]
   refine ZP Vd VK hx rfl (by decide) rfl rfl rfl (Wb _) (Wb _) (by omega) (by omega) (fun _=>?_) (fun hc=>absurd hc (by omega));push_cast;exact ⟨_,_,_,⟨⟨rfl,.inr ⟨h,.inr ⟨rfl,rfl⟩⟩⟩,Wc _⟩,[],rfl,rfl,by (push_cast [ze,zd,CLe,zh];simp[spl,zh]),by push_cast [ze,zd,CLe,zh]⟩
theorem Ux (rows:List (List C)) (x:List C) (i c e:Nat) (hk:∀ r∈rows,r.length=6) (hx:x.length=6) (hs:jn rows) (hsx:(x.all C.stayB)=true) (hl:rows.length<=100000) (hi:i<=rows.length) (hc:rows.length<=c) (hcm:c<=9223372036854775807) :
  YW Tryz.prog G 236 [.bs 0 0 6 rows.length c,.sc (.int .i64 i),.own 0 e 6 [x]] [qw 6 rows c] 1 (zq5 6 (c*6) (rows.take i++x :: rows.drop i)):=by
 refine foX (fun j=>if j=1000000+22 then [true,true] else if j=11 then [false,false,false,false,false,false,false,false,true] else if j=15 then [false,false,false,false,false,false,false,false,true] else []) Tryz.func236 ?_;dsimp only[Tryz.f236];push_cast;have hlen:(rows.take i++x :: rows.drop i).length=rows.length+1:=by simp;omega
 have hki:∀ r∈rows.take i++x :: rows.drop i,r.length=6:=fun r hr=>by
  rcases WD.1 hr with hr | hr
  ·exact hk r (Wu hr)
  ·rcases WH.1 hr with rfl | hr
   ·exact hx
   ·exact hk r (WS hr)
 have hsi:jn (rows.take i++x :: rows.drop i):=fun r hr=>by
  rcases WD.1 hr with hr | hr
  ·exact hs r (Wu hr)
  ·rcases WH.1 hr with rfl | hr
   ·exact hsx
   ·exact hs r (WS hr)
 have hbl:=JB hk hc;have hfl:=qr hk;have hxl:[x].flatten.length=1*6:=by simp[hx]
 have hpre:(qw 6 rows c).take rows.flatten.length=rows.flatten:=by unfold qw;rw[By]
 refine ⟨hc,⟨by omega,hi⟩,br (fun h=>?_) (fun h=>?_)⟩
 ·push_cast;refine ZP Vd VK rfl rfl (by decide) rfl hxl rfl (by rw[hbl];omega) hc (by simp;omega) (by simp;omega) (fun h1=>?_) (fun h1 c' h2 h3=>?_)
  ·push_cast;have hi':i=rows.length:=WN h;refine ⟨_,_,_,⟨⟨rfl,c,by rw[hlen];exact h1,hcm,.inl ⟨rfl,rfl⟩⟩,Wb _⟩,[],rfl,rfl,?_,by push_cast [ze,zd,CLe,zh,hlen]⟩;push_cast [ze,zd,CLe,zh];have h6:rows.length*6+6<=c*6:=by have:rows.length+1<=c:=h1;omega
   refine Jv hki hsi (by rw[hlen];exact h1) (by rw[Q7 (by rw[hbl,hx];exact h6),hbl]) ?_;rw[hlen,hi',Oe,AJ];unfold spl;rw[←hfl,hpre,OI (by simp[hx,hfl];omega)];simp
  ·push_cast;have hi':i=rows.length:=WN h;have h2':rows.length+1<=c':=h2;refine ⟨_,_,_,⟨⟨rfl,c',by rw[hlen];exact h2,h3,.inr ⟨rfl,rfl⟩⟩,ON rfl⟩,[],rfl,rfl,?_,by push_cast [ze,zd,CLe,zh,hlen]⟩;push_cast [ze,zd,CLe,zh];refine ⟨Xj hbl,Jv hki hsi (by rw[hlen];exact h2) (by simp[hx,hbl];omega) ?_⟩;rw[hlen,hi',Oe,AJ,←hfl,hpre,OI (by simp[hx,hfl];omega)];simp
 ·have hne:i≠rows.length:=OM h;push_cast;refine ⟨⟨by omega,by omega⟩,br (fun h1=>?_) (fun h1=>?_)⟩
  ·have h1':(c:Int)<(rows.length:Int)+1:=WN h1;push_cast
   repeat refine an ?_
   refine zmk Vd zn9 VK rfl (by decide) rfl rfl (by rw[hbl];omega) (by omega) (by omega) (by omega) (by omega) (by omega) (fun c' B h2 h3 hBl hBt=>?_);have e1:((rows.length:Int)+1-(i:Int)).toNat=rows.length+1-i:=by omega
   rw[e1]at h2 ⊢;have e2:i+(rows.length+1-i)=rows.length+1:=by omega
   rw[e2]at h2 ⊢;push_cast
   repeat refine an ?_
   refine XE Vd VK rfl rfl hxl (by rw[hBl];omega) (fun B1 hB1 hl1=>?_);rw[hBl]at hl1;push_cast
   repeat refine an ?_
   have hbp:=Xs (c:=c) hk hi;refine XE Vd VK (UD rfl (by rw[hbl];omega)) rfl (by rw[hbp,WZ,hfl];omega) (by rw[hl1];omega) (fun B2 hB2 hl2=>?_);rw[hl1]at hl2;have hX:[x].flatten.take (min [x].length (rows.length+1-i)*6)=x:=by
    rw[O8,OH (by omega),Wg (by omega)];simp
   rw[hX]at hB1;rw[hbp,show min (rows.length-i) (rows.length-i)*6=(rows.length-i)*6 by omega,Wg (by rw[WZ,hfl];omega),hB1]at hB2;push_cast;refine ⟨_,_,_,⟨⟨rfl,c',by rw[hlen];exact h2,h3,.inr ⟨rfl,rfl⟩⟩,ON rfl⟩,[],rfl,rfl,?_,by push_cast [ze,zd,CLe,zh,hlen]⟩;push_cast [ze,zd,CLe,zh];refine ⟨Xj hbl,Jv hki hsi (by rw[hlen];exact h2) hl2 ?_⟩;rw[hlen,←Ql hk,hB2];have hg:=Ns (cs:=B) (L:=rows.flatten) (X:=x) (p:=i*6) (q:=(i+1)*6) (by omega) (by omega) (by
    rw[hBt,AU];unfold qw;rw[OO (by omega)]) (by omega)
   rw[hfl,hx]at hg;rw[←hg];congr 1;omega
  ·have h1':¬(c:Int)<(rows.length:Int)+1:=OM h1;push_cast
   repeat refine an ?_
   refine zlN (vI (P:=Tryz.prog) (tR:=4) Tryz.func264 (by kernel_rfl) (by kernel_rfl) (by kernel_rfl) (by kernel_rfl) Vd VK rfl (Bf (by rw[hbl];omega)) (by simp) (by omega)) ?_;push_cast
   repeat refine an ?_
   have hbp:=Xs (c:=c) hk hi;refine XE Vd VK (UD rfl (by rw[hbl];omega)) rfl (by simp[hbl];omega) (by rw[hbl];omega) (fun B1 hB1 hl1=>?_);rw[hbl]at hl1;rw[BW,OH (by omega),show min (rows.length+1-i) (rows.length-i)*6=(rows.length-i)*6 by omega,hbp]at hB1;push_cast
   repeat refine an ?_
   refine XE Vd VK rfl rfl hxl (by rw[hl1];omega) (fun B2 hB2 hl2=>?_);rw[hl1]at hl2;have hX:[x].flatten.take (min [x].length (rows.length+1-i)*6)=x:=by
    rw[O8,OH (by omega),Wg (by omega)];simp
   rw[hX,hB1]at hB2;push_cast;have hcc:rows.length+1<=c:=by omega
   refine ⟨_,_,_,⟨⟨rfl,c,by rw[hlen];exact hcc,hcm,.inl ⟨rfl,rfl⟩⟩,ON rfl⟩,[],rfl,rfl,?_,by push_cast [ze,zd,CLe,zh,hlen]⟩;push_cast [ze,zd,CLe,zh];refine Jv hki hsi (by rw[hlen];exact hcc) hl2 ?_;rw[hlen,←Ql hk,hB2];have hg:=ki (cs:=qw 6 rows c) (L:=rows.flatten) (X:=x) (p:=i*6) (q:=(i+1)*6) (by omega) (by omega) hpre (by omega);rw[hfl,hx]at hg;rw[←hg];congr 1;omega
theorem u0 (x:List C) (hx:x.length=6) (hsx:(x.all C.stayB)=true) :
  YW Tryz.prog G 236 [.sc (.slice none 0 0),.sc (.int .i64 0),.own 0 e 6 [x]] [] 1 (fun r bx' n=>n=0/\∃ c,1<=c/\c<=9223372036854775807/\r = .bs 0 0 6 1 c/\bx' = [qw 6 [x] c]):=by
 refine foX (fun j=>if j=1000000+22 then [true,true] else if j=11 then [false,false,false,false,false,false,false,false,true] else if j=15 then [false,false,false,false,false,false,false,false,true] else []) Tryz.func236 ?_;dsimp only[Tryz.f236];push_cast;refine NM Vd VK rfl rfl (by decide) rfl (by simp[hx]) (by simp) (by simp) (by simp) (fun c h1 h2=>?_);push_cast;refine ⟨_,_,_,⟨⟨rfl,c,h1,h2,rfl,rfl⟩,Wc _⟩,[],rfl,rfl,?_,by push_cast [ze,zd,CLe,zh]⟩;push_cast [ze,zd,CLe,zh];have:=zP (src:=[]) (n:=1) (zD (k:=6) (c:=c) (rows:=[x]) fun r hr=>by
  rw[W8.1 hr];exact hsx)
 unfold qw at this ⊢;simpa using this
theorem zjD (rows:List (List C)) (i c:Nat) (hk:∀ r∈rows,r.length=6) (hs:jn rows) (hl:rows.length<=100000) (hi:i<rows.length) (hc:rows.length<=c) (hcm:c<=9223372036854775807) :
  xh Tryz.prog G 283 [.bs 0 0 6 rows.length c,.sc (.int .i64 i),.sc (.int .i64 ((i:Int)+1))] [qw 6 rows c] 0 (.bs 0 0 6 (rows.length-1) c) [qw 6 (rows.take i++rows.drop (i+1)) c] 0:=by
 refine foB (fun j=>if j=1000000+22 then [true,true] else if j=5 then [false,false,false,false,false,false,true,false] else []) Tryz.func283 ?_;dsimp only[Tryz.f283];have h1:((i:Int)=(i:Int)+1)=False:=WR (by omega);have hbl:=JB hk hc;have hfl:=qr hk;have hpre:(qw 6 rows c).take rows.flatten.length=rows.flatten:=by unfold qw;rw[By]
 have hlen:(rows.take i++rows.drop (i+1)).length=rows.length-1:=by simp;omega
 have hki:∀ r∈rows.take i++rows.drop (i+1),r.length=6:=fun r hr=>by
  rcases WD.1 hr with hr | hr
  ·exact hk r (Wu hr)
  ·exact hk r (WS hr)
 have hsi:jn (rows.take i++rows.drop (i+1)):=fun r hr=>by
  rcases WD.1 hr with hr | hr
  ·exact hs r (Wu hr)
  ·exact hs r (WS hr)
 have hbp:=Xs (c:=c) (i:=i+1) hk hi;push_cast [h1]
 repeat refine an ?_
 have hxl:(List.drop ((i+1)*6) rows.flatten).length=(rows.length-(i+1))*6:=by rw[WZ,hfl];omega
 refine ZP Vd VK (UD rfl (by rw[hbl];omega)) rfl (by decide) rfl (by rw[hbp,hxl]) rfl (by rw[hbl];omega) (by omega) (by omega) (by omega) (fun _=>?_) (fun h=>absurd h (by omega));rw[hbp];have e1:i+(rows.length-(i+1))=rows.length-1:=by omega
 rw[e1];generalize hB1:spl (qw 6 rows c) (0+i*6) (List.drop ((i+1)*6) rows.flatten)=B1;have hl1:B1.length=c*6:=by rw[←hB1,Q7 (by rw[hbl,hxl];omega),hbl]
 push_cast
 repeat refine an ?_
 refine zlw Vd VK rfl rfl (by decide) rfl (by rw[hl1];omega) (fun B2 Z hB2 hZ hl2=>?_);rw[hl1]at hl2;push_cast;refine ⟨[],rfl,rfl,?_,by push_cast [ze,zd,CLe,zh]⟩;push_cast [ze,zd,CLe,zh];refine Jv hki hsi (by rw[hlen];omega) hl2 ?_;have hg:=zmt (cs:=qw 6 rows c) (L:=rows.flatten) (Z:=Z) (p:=i*6) (q:=(i+1)*6) (n:=(rows.length-1)*6) (by omega) (by omega) hpre (by omega) (by omega) (by rw[hZ];omega);rw[hlen,hB2,←hB1,A6,←Zv hk,←k8 hk,←hg,Ot]
end
end
section
structure zX where
 name:Lz
 ino:Int
deriving DecidableEq,Inhabited
structure zm where
 ino:Int
 kind:Int
 links:Int
 data:Lz
 parent:Int
 es:List zX
deriving DecidableEq,Inhabited
def zZ (xs:List zm):Prop:=xs.Pairwise fun a b=>a.ino<b.ino
def zl (n:Int) (xs:List zm):Bool:=xs.any fun x=>x.ino==n
def js (n:Int) (xs:List zm):Nat:=(xs.filter fun x=>decide (x.ino<n)).length
def qd (n:Int) (xs:List zm):List zm:=xs.filter fun x=>x.ino != n
def X3 (n:Int) (xs:List zm):Option zm:=xs.find? fun x=>x.ino==n
def ZC (x:zm):List zm->List zm
 | []=>[x]
 | y :: r=>if x.ino<y.ino then x :: y :: r else y :: ZC x r
def qp (x:zm) (xs:List zm):List zm:=ZC x (qd x.ino xs)
theorem NI (n:Int):∀ (xs:List zm) (i:Nat),i<=xs.length->(∀ t (h:t<xs.length),t<i->xs[t].ino<n)->(∀ t (h:t<xs.length),i<=t->n<=xs[t].ino)->js n xs=i
 | [],i,h,_,_=>by simp at h;simp[js,h]
 | x :: r,0,_,_,h2=>by
  have hx:n<=x.ino:=h2 0 (by simp) (Wb _);have ih:=NI n r 0 (Wc _) (fun t h h'=>absurd h' (OJ _)) (fun t h _=>h2 (t+1) (by simp;omega) (Wc _));unfold js at ih ⊢;rw[OY (by simp;omega)];exact ih
 | x :: r,i+1,h,h1,h2=>by
  have hx:x.ino<n:=h1 0 (by simp) (A1 _);have ih:=NI n r i (by simpa using h) (fun t h h'=>h1 (t+1) (by simp;omega) (by omega)) (fun t h h'=>h2 (t+1) (by simp;omega) (by omega));unfold js at ih ⊢;rw[Oj (by simp;omega),Wh,ih]
theorem zla (n:Int) (xs:List zm) (i:Nat) (hi:i<xs.length) (h1:∀ t (h:t<xs.length),t<i->xs[t].ino<n) (h2:n<=xs[i].ino) (hR:zZ xs):zl n xs=decide (xs[i].ino=n):=by
 by_cases h:xs[i].ino=n
 ·rw[Wn h];exact OF.2 ⟨xs[i],Wv hi,by simp[h]⟩
 ·rw[Wm h];apply Ov.2;intro hh;obtain ⟨y,hy,e⟩:=OF.1 hh;obtain ⟨t,ht,rfl⟩:=WE hy;have e:xs[t].ino=n:=by simpa using e
  rcases Am t i with h3 | h3 | h3
  ·have:=h1 t ht h3;omega
  ·subst h3;exact h e
  ·have:=(WU.1 hR) i t hi ht h3;omega
theorem zdH (n:Int) (xs:List zm) (h1:∀ t (h:t<xs.length),xs[t].ino<n):zl n xs=false:=by
 apply Ov.2;intro hh;obtain ⟨y,hy,e⟩:=OF.1 hh;obtain ⟨t,ht,rfl⟩:=WE hy;have e:xs[t].ino=n:=by simpa using e
 have:=h1 t ht;omega
theorem GB {n:Int} {xs:List zm} (h:zl n xs=false):X3 n xs=none:=by
 unfold X3 zl at *;rw[Br];intro x hx hh;rw[Ow]at h;exact h x hx hh
theorem zcl (n:Int) (xs:List zm) (hR:zZ xs):∃ i,i<=xs.length/\(∀ t (h:t<xs.length),t<i->xs[t].ino<n)/\(∀ t (h:t<xs.length),i<=t->n<=xs[t].ino):=by
 induction xs with
 | nil=>exact ⟨0,Wb _,fun t h=>absurd h (OJ _),fun t h=>absurd h (OJ _)⟩
 | cons x r ih =>
  by_cases hx:x.ino<n
  ·obtain ⟨i,h1,h2,h3⟩:=ih (Bt.1 hR).2;refine ⟨i+1,by simp;omega,fun t h ht=>?_,fun t h ht=>?_⟩
   ·cases t with
    | zero=>exact hx
    | succ t=>exact h2 t (by simpa using h) (by omega)
   ·cases t with
    | zero=>omega
    | succ t=>exact h3 t (by simpa using h) (by omega)
  ·refine ⟨0,Wc _,fun t h ht=>absurd ht (OJ _),fun t h _=>?_⟩;cases t with
   | zero=>simp;omega
   | succ t =>
    have:=(Bt.1 hR).1 (r[t]'(by simpa using h)) (Wv _);simp;omega
theorem zgB (n:Int) (xs:List zm):js n xs<=xs.length:=OG _ _
theorem zgv {n:Int} {xs:List zm} (hR:zZ xs):(∀ t (h:t<xs.length),t<js n xs->xs[t].ino<n)/\(∀ t (h:t<xs.length),js n xs<=t->n<=xs[t].ino):=by
 obtain ⟨i,h1,h2,h3⟩:=zcl n xs hR;rw[NI n xs i h1 h2 h3];exact ⟨h2,h3⟩
theorem zkn {n:Int} {xs:List zm} (hR:zZ xs) (h:zl n xs=true):∃ hlt:js n xs<xs.length,xs[js n xs].ino=n:=by
 obtain ⟨h2,h3⟩:=zgv (n:=n) hR;by_cases hlt:js n xs<xs.length
 ·refine ⟨hlt,?_⟩;have:=zla n xs _ hlt h2 (h3 _ hlt (Wb _)) hR;rw[h]at this;exact WN this.symm
 ·have:=zdH n xs (fun t h=>h2 t h (by omega));rw[h]at this;cases this
theorem G5 {n:Int} {xs:List zm} (hR:zZ xs) (h:zl n xs=true):∃ hlt:js n xs<xs.length,X3 n xs=some xs[js n xs]:=by
 obtain ⟨hlt,he⟩:=zkn hR h;refine ⟨hlt,?_⟩;obtain ⟨h2,h3⟩:=zgv (n:=n) hR;unfold X3;rw[A9];exact ⟨by simp[he],_,hlt,rfl,fun j hj=>by have:=h2 j (by omega) hj;simp;omega⟩
theorem Jb {y:zm} {r:List zm}:zZ (y :: r)↔(∀ z∈r,y.ino<z.ino)/\zZ r:=Bt
theorem Qh {n:Int} {y:zm} {r:List zm} (h:y.ino<n):js n (y :: r)=js n r+1:=by
 unfold js;rw[Oj (by simpa using h),Wh]
theorem kD {n:Int} {xs:List zm} (h:∀ z∈xs,n<=z.ino):js n xs=0:=by
 unfold js;rw[Aq,AQ];intro z hz;have:=h z hz;simp;omega
theorem ZX {n:Int} {xs:List zm} (h:zl n xs=false):qd n xs=xs:=by
 unfold qd;rw[BM];intro z hz;unfold zl at h;rw[Ow]at h;have:=h z hz;simpa using this
theorem Q3 {n:Int} {y:zm} {r:List zm} (h:y.ino<n):zl n (y :: r)=zl n r:=by
 unfold zl;rw[A5,show (y.ino==n)=false by rw[On];omega,O1]
theorem UE {n:Int} {xs:List zm} (h:∀ z∈xs,n<z.ino):zl n xs=false:=by
 unfold zl;rw[Ow];intro z hz;have:=h z hz;simp;omega
theorem JL {n:Int} {y:zm} {r:List zm} (h:y.ino≠n):qd n (y :: r)=y :: qd n r:=by
 unfold qd;rw[Oj (by simpa using h)]
theorem JG {n:Int} {y:zm} {r:List zm} (h:y.ino=n):qd n (y :: r)=qd n r:=by
 unfold qd;rw[OY (by simpa using h)]
theorem uN {n:Int}:∀ {xs:List zm},zZ xs->zl n xs=true->xs.take (js n xs)++xs.drop (js n xs+1)=qd n xs
 | [],_,h=>by cases h
 | y :: r,hR,h=>by
  obtain ⟨h1,h2⟩:=Jb.1 hR;by_cases hy:y.ino<n
  ·rw[Qh hy,Az,A8,Od,uN h2 (by rwa [Q3 hy]at h),JL (by omega)]
  ·have hr0:js n (y :: r)=0:=kD fun z hz=>by
    rcases WH.1 hz with rfl | hz
    ·omega
    ·have:=h1 z hz;omega
   by_cases he:y.ino=n
   ·rw[hr0,JG he,ZX (UE fun z hz=>by have:=h1 z hz;omega)];rfl
   ·exfalso
    rw[UE fun z hz=>by
     rcases WH.1 hz with rfl | hz
     ·omega
     ·have:=h1 z hz;omega]at h
    cases h
theorem zoL {x y:zm} {r:List zm} (h:y.ino<x.ino):ZC x (y :: r)=y :: ZC x r:=by
 rw[ZC,if_neg (by omega)]
theorem zkV {x:zm} {xs:List zm} (h:∀ z∈xs,x.ino<z.ino):ZC x xs=x :: xs:=by
 cases xs with
 | nil=>rfl
 | cons y r=>rw[ZC,if_pos (h y Wj)]
theorem UH {x y:zm} {r:List zm} (h:y.ino<x.ino):qp x (y :: r)=y :: qp x r:=by
 unfold qp;rw[JL (by omega),zoL h]
theorem vu {x:zm}:∀ {xs:List zm},zZ xs->zl x.ino xs=true->xs.set (js x.ino xs) x=qp x xs
 | [],_,h=>by cases h
 | y :: r,hR,h=>by
  obtain ⟨h1,h2⟩:=Jb.1 hR;by_cases hy:y.ino<x.ino
  ·rw[Qh hy,List.set_cons_succ,vu h2 (by rwa [Q3 hy]at h),UH hy]
  ·have hr0:js x.ino (y :: r)=0:=kD fun z hz=>by
    rcases WH.1 hz with rfl | hz
    ·omega
    ·have:=h1 z hz;omega
   by_cases he:y.ino=x.ino
   ·unfold qp;rw[hr0,JG he,ZX (UE fun z hz=>by have:=h1 z hz;omega),zkV fun z hz=>by have:=h1 z hz;omega];rfl
   ·exfalso
    rw[UE fun z hz=>by
     rcases WH.1 hz with rfl | hz
     ·omega
     ·have:=h1 z hz;omega]at h
    cases h
theorem ub {x:zm}:∀ {xs:List zm},zZ xs->zl x.ino xs=false->xs.take (js x.ino xs)++x :: xs.drop (js x.ino xs)=qp x xs
 | [],_,_=>rfl
 | y :: r,hR,h=>by
  obtain ⟨h1,h2⟩:=Jb.1 hR;by_cases hy:y.ino<x.ino
  ·rw[Qh hy,Az,A8,Od,ub h2 (by rwa [Q3 hy]at h),UH hy]
  ·have hne:y.ino≠x.ino:=by
    intro e;unfold zl at h;rw[A5,e]at h;simp at h
   have hr0:js x.ino (y :: r)=0:=kD fun z hz=>by
    rcases WH.1 hz with rfl | hz
    ·omega
    ·have:=h1 z hz;omega
   unfold qp;rw[hr0,ZX h,zkV fun z hz=>by
    rcases WH.1 hz with rfl | hz
    ·omega
    ·have:=h1 z hz;omega]
   rfl
theorem ziE {n:Int} {xs:List zm}:∀ x∈qd n xs,x∈xs:=fun x h=>(Oy.1 h).1
theorem Gy {x:zm}:∀ {xs:List zm} {z:zm},z∈ZC x xs↔z=x∨z∈xs
 | [],z=>by simp[ZC]
 | y :: r,z=>by
  rw[ZC];split
  ·simp
  ·rw[WH,Gy,WH];constructor
   ·rintro (h | h | h)<;>simp[h]
   ·rintro (h | h | h)<;>simp[h]
theorem znL {x:zm} {xs:List zm} {z:zm} (h:z∈qp x xs):z=x∨z∈xs:=by
 rcases Gy.1 h with h | h
 ·exact .inl h
 ·exact .inr (ziE _ h)
theorem HF {n:Int} {xs:List zm} (h:zZ xs):zZ (qd n xs):=List.Pairwise.filter _ h
theorem My {x:zm}:∀ {xs:List zm},zZ xs->(∀ z∈xs,z.ino≠x.ino)->zZ (ZC x xs)
 | [],_,_=>by simp[ZC,zZ]
 | y :: r,h,hne=>by
  obtain ⟨h1,h2⟩:=Jb.1 h;have hy:=hne y Wj;rw[ZC];split
  ·next hlt =>
   refine Jb.2 ⟨fun z hz=>?_,h⟩;rcases WH.1 hz with rfl | hz
   ·exact hlt
   ·have:=h1 z hz;omega
  ·next hlt =>
   refine Jb.2 ⟨fun z hz=>?_,My h2 fun z hz=>hne z (Wk _ hz)⟩;rcases Gy.1 hz with rfl | hz
   ·omega
   ·exact h1 z hz
theorem qc {x:zm} {xs:List zm} (h:zZ xs):zZ (qp x xs):=My (HF h) fun z hz=>by
 have:=(Oy.1 hz).2;simpa using this
theorem zfL {x:zm}:∀ {xs:List zm},(ZC x xs).length=xs.length+1
 | []=>rfl
 | y :: r=>by
  rw[ZC];split
  ·rfl
  ·rw[Wh,zfL,Wh]
theorem Zt {n:Int} {xs:List zm}:(qd n xs).length<=xs.length:=OG _ _
theorem zgI {x:zm} {xs:List zm}:(qp x xs).length<=xs.length+1:=by
 unfold qp;rw[zfL];have:=Zt (n:=x.ino) (xs:=xs);omega
end
variable {xs:List zm} {x y:zm}
section
open CA CB
open Go.RowKit
abbrev GA (e:zX):List C:=[.str e.name,.sc (.int .i64 e.ino)]
abbrev zN (es:List zX):List (List C):=es.map GA
abbrev Ya (x:zm):List C:=[.sc (.int .i64 x.ino),.sc (.int .i64 x.kind),.sc (.int .i64 x.links),.str x.data,.sc (.int .i64 x.parent),.sl 2 (zN x.es)]
abbrev zq (xs:List zm):List (List C):=xs.map Ya
structure FsV where
 maxI:Int
 maxB:Int
 next:Int
 xs:List zm
deriving DecidableEq,Inhabited
abbrev fsC (f:FsV):List C:=[.sc (.int .i64 f.maxI),.sc (.int .i64 f.maxB),.sc (.int .i64 f.next),.sl 6 (zq f.xs)]
theorem qR (xs:List zm) (i:Nat) (h:i<xs.length):(zq xs)[i]?=some (Ya xs[i]):=by simp[Ww,Wa h]
theorem JN (xs:List zX) (i:Nat) (h:i<xs.length):(zN xs)[i]?=some (GA xs[i]):=by simp[Ww,Wa h]
def uO:zm:=⟨0,0,0,[],0,[]⟩
def zg (n:Int) (xs:List zm):zm:=(X3 n xs).getD uO
def Uq (a b:Int):Int:=if a<b then -1 else if b<a then 1 else 0
section
variable {G:zo}
theorem zgd (a:Int):Fun Tryz.prog G 180 [.sc (.int .i64 a)] (.sc (.bool false)) 0:=by
 refine fon Tryz.func180 ?_;dsimp only[Tryz.f180];push_cast;exact dn
theorem yU (a b:Int):Fun Tryz.prog G 156 [.sc (.int .i64 a),.sc (.int .i64 b)] (.sc (.int .i64 (Uq a b))) 0:=by
 refine fon Tryz.func156 ?_;dsimp only[Tryz.f156];push_cast;refine cl (zgd a) ?_;push_cast;refine cl (zgd b) ?_;push_cast;refine br (fun h=>?_) (fun h=>?_)
 ·have h:=WN h;push_cast;exact ⟨[],rfl,rfl,by (push_cast [ze,zd,CLe,zh];simp[Uq,h])⟩
 ·have h:=OM h;push_cast;refine br (fun h1=>?_) (fun h1=>?_)
  ·have h1:=WN h1;push_cast;exact ⟨[],rfl,rfl,by (push_cast [ze,zd,CLe,zh];simp[Uq,h,h1])⟩
  ·have h1:=OM h1;push_cast;exact ⟨[],rfl,rfl,by (push_cast [ze,zd,CLe,zh];simp[Uq,h,h1])⟩
theorem ze8 (x:zm) (n:Int):Fun Tryz.prog G 155 [.agg (Ya x),.sc (.int .i64 n)] (.sc (.int .i64 (Uq x.ino n))) 0:=by
 refine fon Tryz.func155 ?_;dsimp only[Tryz.f155];push_cast;refine cl (yU x.ino n) ?_;push_cast;exact dn
theorem ud (xs:List zm) (n:Int) (hl:xs.length<=100000) (hR:zZ xs) :
  Fun Tryz.prog G 154 [.sl 6 (zq xs),.sc (.int .i64 n),.clo (.func 155) [] []] (.tup [.sc (.int .i64 (js n xs:Nat)),.sc (.bool (zl n xs))]) 0:=by
 refine fon Tryz.func154 ?_;dsimp only[Tryz.f154];push_cast;refine loop (fun p:Nat×Nat=>⟨[(0,.sl 6 (zq xs)),(1,.sc (.int .i64 n)),(2,.clo (.func 155) [] []),(8,.sc (.int .i64 (xs.length:Nat))),(9,.sc (.int .i64 p.1)),(10,.sc (.int .i64 p.2))],[],0,0⟩)
  (fun p=>p.1<=p.2/\p.2<=xs.length/\(∀ t (h:t<xs.length),t<p.1->xs[t].ino<n)/\∀ t (h:t<xs.length),p.2<=t->n<=xs[t].ino) (fun p=>p.2-p.1) (0,xs.length) ⟨Wc _,Wb _,fun t _ h=>by (simp at h),fun t h h'=>by (dsimp only at h';omega)⟩ ?_ ?_
 ·exact wk (by push_cast [ze,zd,CLe,zh,We])
 ·rintro ⟨i,j⟩ ⟨h1,h2,h3,h4⟩;dsimp only at h1 h2 h3 h4 ⊢;by_cases h:i<j
  ·obtain ⟨m,hm⟩:∃ m,m=(i+j) / 2:=⟨_,rfl⟩;have hmi:((i:Int)+(j:Int)) / 2=(m:Int):=by omega
   have hml:m<xs.length:=by omega
   have hat:=qR xs m hml;push_cast [h,hmi,hat]
   repeat refine an ?_
   refine cl (ze8 xs[m] n) ?_;push_cast;by_cases hc:xs[m].ino<n
   ·have hcv:Uq xs[m].ino n = -1:=by simp[Uq,hc]
    push_cast [hcv]
    repeat refine an ?_
    refine ⟨(m+1,j),⟨by omega,h2,fun t ht hlt=>?_,h4⟩,by dsimp only;omega,wk⟩;dsimp only at hlt;rcases Wr t m with q | q
    ·have:=(WU.1 hR) t m ht hml q;omega
    ·have:t=m:=by omega
     subst this;exact hc
   ·have hcv:(Uq xs[m].ino n<0)=False:=WR (by unfold Uq;rw[if_neg hc];split<;>omega);push_cast [hcv]
    repeat refine an ?_
    refine ⟨(i,m),⟨by omega,by omega,h3,fun t ht hge=>?_⟩,by dsimp only;omega,wk⟩;dsimp only at hge;rcases Wr m t with q | q
    ·have:=(WU.1 hR) m t hml ht q;omega
    ·have:t=m:=by omega
     subst this;omega
  ·have hij:i=j:=by omega
   subst hij;have hrk:=NI n xs i h2 h3 h4;push_cast [h];refine br (fun hx=>?_) (fun hx=>?_)
   ·have hx:i<xs.length:=by simpa using hx
    have hat:=qR xs i hx;have hh:=zla n xs i hx h3 (h4 i hx (Wb _)) hR;push_cast [hx,hat]
    repeat refine an ?_
    refine cl (ze8 xs[i] n) ?_;push_cast;have hcv:decide (Uq xs[i].ino n=0)=zl n xs:=by
     rw[hh];have:=h4 i hx (Wb _);unfold Uq;rw[if_neg (by omega)];split
     ·rw[Wm (by omega),Wm (by omega)]
     ·rw[Wn (by rfl),Wn (by omega)]
    push_cast [hcv];exact dn (by push_cast [ze,zd,CLe,zh,hrk])
   ·have hx:¬i<xs.length:=by simpa using hx
    have hh:=zdH n xs fun t ht=>h3 t ht (by omega);push_cast [hx];exact dn (by push_cast [ze,zd,CLe,zh,hrk,hh])
theorem zhi (f:FsV) (n:Int) (hl:f.xs.length<=100000) (hR:zZ f.xs):Fun Tryz.prog G 106 [.agg (fsC f),.sc (.int .i64 n)] (.tup [.sc (.int .i64 (js n f.xs:Nat)),.sc (.bool (zl n f.xs))]) 0:=by
 refine fon Tryz.func106 ?_;dsimp only[Tryz.f106];push_cast;refine cl (ud f.xs n hl hR) ?_;push_cast;exact dn
end
end
section
open Go.RowKit Go.ChangeMaps Go.ChangeShapes Go.WideShapes Go.Deep Go.Joins
def xz (W:World):Env:=⟨W,fun _ _=>False,fun _=>False⟩
theorem Fun.answers {G:zo} {u:Value} (h:Fun P G f args (.sc u) n) {W:World} {vs:List Value} (hg:XL G (xz W)) (ha:zw (xz W) zJ args vs) :
  Calls P f vs.toArray W fun e w'=>e = .returned u/\Below W.heap.size W w':=by
 refine (h.2 (xz W) vs hg ha).mono ?_;rintro e w' ⟨v,R',L',rfl,rfl,st,hr⟩;rw[zp]at hr;subst hr;exact ⟨rfl,st.below⟩
section
variable {H:Type} {enc:TypeId×Value->H} {P:Program} {W:World}
def Opn (enc:TypeId×Value->H) (P:Program) (W:World) (t:TypeId) (Q:C->Prop):Prop:=
 ∀ (fuel:Nat) (cs:List Value) (x:DataW H×List MemPlace),DataW.trod enc P W 0 (fun _=>true) true fuel t cs=some x->∃ v c,cs = [v]/\Q c/\Rep (xz W) zJ c v/\v.oneCell'=true
def jv (enc:TypeId×Value->H) (P:Program) (W:World) (t:TypeId) (k:Nat) (Q:List C->Prop):Prop:=
 ∀ (fuel:Nat) (cs:List Value) (x:DataW H×List MemPlace),DataW.trod enc P W 0 (fun _=>true) true fuel t cs=some x ->
  ∃ row,Q row/\row.length=k/\cs.length=k/\∀ (j:Nat) c v,row[j]?=some c->cs[j]?=some v->Rep (xz W) zJ c v/\v.oneCell'=true
theorem Opn.int {k:IntKind} (ht:P.underlying t=some (.int k)):Opn enc P W t fun c=>∃ n,c = .sc (.int k n)/\(Lit.int k n).wf=true:=fun fuel cs x h=>by
 obtain ⟨n,rfl,_,hw⟩:=DataW.trod_int ht h;exact ⟨_,_,rfl,⟨n,rfl,hw⟩,zp.2 rfl,rfl⟩
theorem Opn.bool (ht:P.underlying t=some .bool):Opn enc P W t fun c=>∃ b,c = .sc (.bool b):=fun fuel cs x h=>by
 obtain ⟨n,rfl,_⟩:=DataW.trod_bool ht h;exact ⟨_,_,rfl,⟨n,rfl⟩,zp.2 rfl,rfl⟩
theorem Opn.str (ht:P.underlying t=some .string):Opn enc P W t fun c=>∃ l:Lz,c = .str l/\l.length<=maxLen:=fun fuel cs x h=>by
 obtain ⟨s,rfl,_,hs⟩:=DataW.trod_string ht h;exact ⟨_,_,rfl,⟨s.data.toList,rfl,by rw[WV];exact hs⟩,zU.2 (by cases s;simp),rfl⟩
theorem jv.one {Q:C->Prop} (h:Opn enc P W t Q):jv enc P W t 1 fun row=>∃ c,row = [c]/\Q c:=fun fuel cs x hx=>by
 obtain ⟨v,c,rfl,hq,hr,ho⟩:=h fuel cs x hx;refine ⟨[c],⟨c,rfl,hq⟩,rfl,rfl,fun j c' v' h1 h2=>?_⟩;cases j with
 | zero=>cases h1;cases h2;exact ⟨hr,ho⟩
 | succ j=>cases h1
theorem Q8 {α:Type} {Q:Nat->α->Prop}:∀ n:Nat,(∀ i,i<n->∃ x,Q i x)->∃ l:List α,l.length=n/\∀ i (h:i<l.length),Q i l[i]
 | 0,_=>⟨[],rfl,fun i h=>absurd h (OJ _)⟩
 | n+1,h=>by
  obtain ⟨l,hl,hq⟩:=Q8 n fun i hi=>h i (by omega);obtain ⟨x,hx⟩:=h n (by omega);refine ⟨l++[x],by simp[hl],fun i hi=>?_⟩;rcases Wr i n with h1 | h1
  ·rw[List.getElem_append_left (by omega)];exact hq i (by omega)
  ·have:i=n:=by simp[hl]at hi;omega
   subst this;rw[List.getElem_append_right (by omega)];simpa [hl] using hx
theorem jv.struct {fs:Array Field} {Qs:Nat->C->Prop} (hs:P.underlying t=some (.struct fs)) (hone:oneCellFields P fs=true) (hC:P.cellsOf t=fs.size)
  (h:∀ (j:Nat) f,fs[j]?=some f->Opn enc P W f.type (Qs j)):jv enc P W t fs.size fun row=>row.length=fs.size/\∀ (j:Nat) c,row[j]?=some c->Qs j c:=fun fuel cs x hx=>by
 obtain ⟨ys,n',hn',hy,hlen,hyl,hf⟩:=DataW.trod_struct hs hx;rw[hC]at hlen;obtain ⟨row,hl,hq⟩:=Q8 (Q:=fun j (c:C)=>Qs j c/\∃ v,cs[j]?=some v/\Rep (xz W) zJ c v/\v.oneCell'=true) fs.size (fun j hj=>by
  have hfj:fs[j]?=some fs[j]:=WY hj;obtain ⟨ho,hk⟩:=hone_of hone j _ hfj;have h1:=hf j _ hfj;rw[ho,hk]at h1;have hone':(cs.drop j).take 1 = [cs[j]'(by omega)]:=by
   rw[Ou (by omega)]
   rfl
  rw[hone',Wa (by omega)]at h1;obtain ⟨v,c,e,hq,hr,hoc⟩:=h j _ hfj _ _ _ h1;cases e;exact ⟨c,hq,_,Wa (by omega),hr,hoc⟩)
 refine ⟨row,⟨hl,fun j c hj=>?_⟩,hl,hlen,fun j c v h1 h2=>?_⟩
 ·obtain ⟨hj',rfl⟩:=Wd.1 hj;exact (hq j hj').1
 ·obtain ⟨hj',rfl⟩:=Wd.1 h1;obtain ⟨_,v',e,hr,ho⟩:=hq j hj';rw[h2]at e;cases e;exact ⟨hr,ho⟩
theorem Opn.slice {e:TypeId} {Q:List C->Prop} (ht:P.underlying t=some (.slice e)) (hC:P.cellsOf e=k) (hk:0<k) (h:jv enc P W e k Q):Opn enc P W t fun c=>∃ rows,c = .sl k rows/\rows.length<=maxLen/\∀ r∈rows,Q r:=fun fuel cs x hx=>by
 rcases open_slice ht hx with h0 | ⟨a,len,cap,m,n,D,Pl,hcs,hb,hl,hm,hmm,hx,hi⟩
 ·exact ⟨_,.sl k [],h0.1,⟨[],rfl,Wc _,fun r hr=>by cases hr⟩,HJ.2 ⟨none,0,rfl,Wb _,Wc _,.inl rfl⟩,rfl⟩
 ·simp only[if_true]at hmm;subst hmm;obtain ⟨rows,hrl,hq⟩:=Q8 (Q:=fun i (row:List C)=>Q row/\row.length=k/\∀ (j:Nat) c,row[j]?=some c->∃ v,W.cell? (a.add (i*k+j))=some v/\Rep (xz W) zJ c v/\v.oneCell'=true) len (fun i hlt=>by
   obtain ⟨cs',hc,ht'⟩:=hi i (by omega);rw[hC]at hc;obtain ⟨row,hq,hl1,hl2,hr⟩:=h _ _ _ ht';obtain ⟨_,hcl,hat⟩:=World.cells?_some hc;refine ⟨row,hq,hl1,fun j c hj=>?_⟩;have hjl:j<k:=by have:=(Wd.1 hj).1;omega
   have hv:cs'[j]?=some (cs'[j]'(by omega)):=Wa (by omega);obtain ⟨hr1,hr2⟩:=hr j c _ hj hv;refine ⟨_,?_,hr1,hr2⟩;rw[←Go.Deep.add_add,hat j hjl,hv])
  refine ⟨_,.sl k rows,hcs,⟨rows,rfl,by omega,fun r hr=>?_⟩,?_,rfl⟩
  ·obtain ⟨i,hi',rfl⟩:=WE hr;exact (hq i hi').1
  ·refine HJ.2 ⟨some a,m,by rw[hrl],by omega,by omega,?_⟩;by_cases h0:rows = []
   ·exact .inl h0
   ·have hpos:0<rows.length:=WK.2 h0;obtain ⟨b,off,spot⟩:=a;obtain ⟨_,hl0,h00⟩:=hq 0 hpos;obtain ⟨v0,hc0,_⟩:=h00 0 ((rows[0]'hpos)[0]'(by omega)) (Wa _);have hspot:spot=none:=by simpa [Addr.add] using World.cell?_spot hc0
    subst hspot;refine .inr ⟨b,off,rfl,qY fun i row hrow=>?_⟩;obtain ⟨hi',rfl⟩:=Wd.1 hrow;obtain ⟨_,hlr,hcr⟩:=hq i hi';refine ⟨hlr,qe fun j c hj=>?_⟩;obtain ⟨v,h1,h2,h3⟩:=hcr j c hj;rw[Addr.add_lit]at h1;exact ⟨v,by rw[BY];exact h1,fun hf=>hf,h2,h3⟩
theorem Opn.arg {r:Reach} {b0:Nat} {Q:C->Prop} {d:DataW H} {p:List MemPlace} (h:Opn enc P W t Q) (hv:v.cells = #[v]) (hd:DataW.Trod enc P W 0 (fun _=>true) true t v d p):∃ c,Q c/\Rep (xz W) zJ c v:=by
 obtain ⟨fuel,hf⟩:=hd;rw[hv]at hf;obtain ⟨v',c,e,hq,hr,_⟩:=h _ _ _ hf;cases e;exact ⟨c,hq,hr⟩
theorem jv.arg {r:Reach} {b0:Nat} {fs:Array Field} {Q:List C->Prop} {d:DataW H} {p:List MemPlace} (h:jv enc P W t k Q) (hs:P.underlying t=some (.struct fs)) (hval:Value.okWide P W r b0 t v)
  (hd:DataW.Trod enc P W 0 (fun _=>true) true t v d p):∃ row,Q row/\Rep (xz W) zJ (.agg row) v:=by
 obtain ⟨cs,rfl,hsz⟩:=okWide_struct hs hval;obtain ⟨fuel,hf⟩:=hd;obtain ⟨row,hq,h1,h2,hr⟩:=h _ _ _ hf;refine ⟨row,hq,jU.2 ⟨cs,rfl,Ye ?_ fun i c v hc hv=>(hr i c v hc hv).1⟩⟩;have:cs.toList.length=k:=h2;omega
end
end
section
open Go.RowKit Go.ChangeMaps Go.ChangeShapes Go.WideShapes Go.Deep Go.Joins
theorem GU {α:Type} {f:α->List C} {q:α->Prop}:∀ {rows:List (List C)},(∀ r∈rows,∃ a,r=f a/\q a)->∃ xs:List α,rows=xs.map f/\∀ x∈xs,q x
 | [],_=>⟨[],rfl,fun x h=>by cases h⟩
 | r :: rows,h=>by
  obtain ⟨xs,rfl,hq⟩:=GU fun r' hr=>h r' (Wk _ hr);obtain ⟨o,rfl,ho⟩:=h r Wj;exact ⟨o :: xs,rfl,fun x hx=>by
   rcases WH.1 hx with rfl | hx
   ·exact ho
   ·exact hq x hx⟩
section
variable {H:Type} {enc:TypeId×Value->H} {W:World}
theorem zmy:jv enc Tryz.prog W 141 2 fun row=>∃ o:zX,row=GA o/\o.name.length<=maxLen:=fun fuel cs x hx=>by
 obtain ⟨row,⟨hl,hq⟩,h1,h2,h3⟩:=jv.struct (W:=W) (enc:=enc) (Qs:=fun j c=>match j with | 0=>∃ l:Lz,c = .str l/\l.length<=maxLen | 1=>∃ n,c = .sc (.int .i64 n)/\(Lit.int .i64 n).wf=true | _=>True) Tryz.underlying141 (by kernel_rfl) (by kernel_rfl) (fun j f hj=>by
  match j,hj with
  | 0,hj=>cases hj;exact Opn.str Tryz.underlying9
  | 1,hj=>cases hj;exact Opn.int Tryz.underlying3
  | j+2,hj=>simp at hj) fuel cs x hx
 match row,h1,hq,h3 with
 | [c0,c1],_,hq,h3 =>
  obtain ⟨a,rfl,ha⟩:=hq 0 c0 rfl;obtain ⟨k,rfl,_⟩:=hq 1 c1 rfl;exact ⟨_,⟨⟨a,k⟩,rfl,ha⟩,rfl,h2,h3⟩
theorem zkl:Opn enc Tryz.prog W 94 fun c=>∃ xs:List zX,c = .sl 2 (zN xs)/\xs.length<=maxLen/\∀ x∈xs,x.name.length<=maxLen:=fun fuel cs x hx=>by
 obtain ⟨v,c,rfl,⟨rows,rfl,hl,hr⟩,h1,h2⟩:=Opn.slice (W:=W) (enc:=enc) Tryz.underlying94 (show Tryz.prog.cellsOf 141=2 by kernel_rfl) (by decide) zmy fuel cs x hx;obtain ⟨xs,rfl,hq⟩:=GU hr;exact ⟨v,_,rfl,⟨xs,rfl,by simpa using hl,hq⟩,h1,h2⟩
def zgn (x:zm):Prop:=x.data.length<=maxLen/\x.es.length<=maxLen/\∀ e∈x.es,e.name.length<=maxLen
theorem zfu:jv enc Tryz.prog W 96 6 fun row=>∃ o:zm,row=Ya o/\zgn o:=fun fuel cs x hx=>by
 obtain ⟨row,⟨hl,hq⟩,h1,h2,h3⟩:=jv.struct (W:=W) (enc:=enc) (Qs:=fun j c=>match j with | 0=>∃ n,c = .sc (.int .i64 n)/\(Lit.int .i64 n).wf=true | 1=>∃ n,c = .sc (.int .i64 n)/\(Lit.int .i64 n).wf=true | 2=>∃ n,c = .sc (.int .i64 n)/\(Lit.int .i64 n).wf=true | 3=>∃ l:Lz,c = .str l/\l.length<=maxLen | 4=>∃ n,c = .sc (.int .i64 n)/\(Lit.int .i64 n).wf=true | 5=>∃ xs:List zX,c = .sl 2 (zN xs)/\xs.length<=maxLen/\∀ x∈xs,x.name.length<=maxLen | _=>True) Tryz.underlying96 (by kernel_rfl) (by kernel_rfl) (fun j f hj=>by
  match j,hj with
  | 0,hj=>cases hj;exact Opn.int Tryz.underlying3
  | 1,hj=>cases hj;exact Opn.int Tryz.underlying3
  | 2,hj=>cases hj;exact Opn.int Tryz.underlying3
  | 3,hj=>cases hj;exact Opn.str Tryz.underlying9
  | 4,hj=>cases hj;exact Opn.int Tryz.underlying3
  | 5,hj=>cases hj;exact zkl
  | j+6,hj=>simp at hj) fuel cs x hx
 match row,h1,hq,h3 with
 | [c0,c1,c2,c3,c4,c5],_,hq,h3 =>
  obtain ⟨a,rfl,_⟩:=hq 0 c0 rfl;obtain ⟨b,rfl,_⟩:=hq 1 c1 rfl;obtain ⟨c,rfl,_⟩:=hq 2 c2 rfl;obtain ⟨d,rfl,hd⟩:=hq 3 c3 rfl;obtain ⟨e,rfl,_⟩:=hq 4 c4 rfl;obtain ⟨f,rfl,hf⟩:=hq 5 c5 rfl;exact ⟨_,⟨⟨a,b,c,d,e,f⟩,rfl,hd,hf⟩,rfl,h2,h3⟩
theorem zau:Opn enc Tryz.prog W 22 fun c=>∃ xs:List zm,c = .sl 6 (zq xs)/\xs.length<=maxLen/\∀ x∈xs,zgn x:=fun fuel cs x hx=>by
 obtain ⟨v,c,rfl,⟨rows,rfl,hl,hr⟩,h1,h2⟩:=Opn.slice (W:=W) (enc:=enc) Tryz.underlying22 (show Tryz.prog.cellsOf 96=6 by kernel_rfl) (by decide) zfu fuel cs x hx;obtain ⟨xs,rfl,hq⟩:=GU hr;exact ⟨v,_,rfl,⟨xs,rfl,by simpa using hl,hq⟩,h1,h2⟩
theorem zqm:jv enc Tryz.prog W 24 4 fun row=>∃ f:FsV,row=fsC f/\f.xs.length<=maxLen/\∀ x∈f.xs,zgn x:=fun fuel cs x hx=>by
 obtain ⟨row,⟨hl,hq⟩,h1,h2,h3⟩:=jv.struct (W:=W) (enc:=enc) (Qs:=fun j c=>match j with | 0=>∃ n,c = .sc (.int .i64 n)/\(Lit.int .i64 n).wf=true | 1=>∃ n,c = .sc (.int .i64 n)/\(Lit.int .i64 n).wf=true | 2=>∃ n,c = .sc (.int .i64 n)/\(Lit.int .i64 n).wf=true | 3=>∃ xs:List zm,c = .sl 6 (zq xs)/\xs.length<=maxLen/\∀ x∈xs,zgn x | _=>True) Tryz.underlying24 (by kernel_rfl) (by kernel_rfl) (fun j f hj=>by
  match j,hj with
  | 0,hj=>cases hj;exact Opn.int Tryz.underlying3
  | 1,hj=>cases hj;exact Opn.int Tryz.underlying3
  | 2,hj=>cases hj;exact Opn.int Tryz.underlying3
  | 3,hj=>cases hj;exact zau
  | j+4,hj=>simp at hj) fuel cs x hx
 match row,h1,hq,h3 with
 | [c0,c1,c2,c3],_,hq,h3 =>
  obtain ⟨a,rfl,_⟩:=hq 0 c0 rfl;obtain ⟨b,rfl,_⟩:=hq 1 c1 rfl;obtain ⟨c,rfl,_⟩:=hq 2 c2 rfl;obtain ⟨d,rfl,hd⟩:=hq 3 c3 rfl;exact ⟨_,⟨⟨a,b,c,d⟩,rfl,hd⟩,rfl,h2,h3⟩
end
end
section
open Go
structure zkX (κ:Type) where
 lt:κ->κ->Bool
 irr:∀ a,lt a a=false
 tr:∀ {a b c},lt a b=true->lt b c=true->lt a c=true
 tot:∀ {a b},lt a b=false->lt b a=false->a=b
theorem ZL:∀ a:Lz,Op.bytesLess a a=false
 | []=>rfl
 | c :: a=>by
  have h:¬c<c:=by simp
  simp[Op.bytesLess,ZL a]
theorem Gx:∀ {a b c:Lz},Op.bytesLess a b=true->Op.bytesLess b c=true->Op.bytesLess a c=true
 | _,[],_,h,_=>by unfold Op.bytesLess at h;cases h
 | [],y :: b,[],_,h2=>by unfold Op.bytesLess at h2;cases h2
 | [],y :: b,z :: c,_,_=>rfl
 | x :: a,y :: b,[],_,h2=>by unfold Op.bytesLess at h2;cases h2
 | x :: a,y :: b,z :: c,h1,h2=>by
  unfold Op.bytesLess at h1 h2 ⊢;simp only[W9,Wt,W7,Og]at h1 h2 ⊢;rcases h1 with h1 | ⟨rfl,h1⟩
  ·rcases h2 with h2 | ⟨rfl,h2⟩
   ·exact .inl (UInt8.lt_trans h1 h2)
   ·exact .inl h1
  ·rcases h2 with h2 | ⟨rfl,h2⟩
   ·exact .inl h2
   ·exact .inr ⟨rfl,Gx h1 h2⟩
theorem xN:∀ {a b:Lz},Op.bytesLess a b=false->Op.bytesLess b a=false->a=b
 | [],[],_,_=>rfl
 | [],y :: b,h,_=>by unfold Op.bytesLess at h;cases h
 | x :: a,[],_,h=>by unfold Op.bytesLess at h;cases h
 | x :: a,y :: b,h1,h2=>by
  unfold Op.bytesLess at h1 h2;simp only[BE,Or,AE,On]at h1 h2;obtain ⟨g1,g2⟩:=h1;obtain ⟨g3,g4⟩:=h2;have hxy:x=y:=by
   apply Ak.1;have e1:¬x.toNat<y.toNat:=fun h=>g1 (AF.2 h);have e2:¬y.toNat<x.toNat:=fun h=>g3 (AF.2 h);omega
  subst hxy;have h3:Op.bytesLess a b=false:=by rcases g2 with g | g;exact absurd rfl g;exact g
  have h4:Op.bytesLess b a=false:=by rcases g4 with g | g;exact absurd rfl g;exact g
  rw[xN h3 h4]
theorem zgD:∀ a b:Lz,(Lib.compareBytes a b<0)=(Op.bytesLess a b=true)
 | [],[]=>by simp[Lib.compareBytes,Op.bytesLess]
 | [],_ :: _=>by simp[Lib.compareBytes,Op.bytesLess]
 | _ :: _,[]=>by simp[Lib.compareBytes,Op.bytesLess]
 | a :: x,b :: y=>by
  unfold Lib.compareBytes Op.bytesLess;by_cases h1:a<b
  ·simp[h1]
  ·rw[if_neg h1];by_cases h2:b<a
   ·have:a≠b:=fun e=>by subst e;exact h1 h2
    simp[h1,h2,this]
   ·have e:a=b:=by
     apply Ak.1;have e1:¬a.toNat<b.toNat:=fun h=>h1 (AF.2 h);have e2:¬b.toNat<a.toNat:=fun h=>h2 (AF.2 h);omega
    rw[if_neg h2,zgD x y];subst e;simp[h1]
theorem zgs:∀ a b:Lz,(Lib.compareBytes a b=0)=(a=b)
 | [],[]=>by simp[Lib.compareBytes]
 | [],_ :: _=>by simp[Lib.compareBytes]
 | _ :: _,[]=>by simp[Lib.compareBytes]
 | a :: x,b :: y=>by
  unfold Lib.compareBytes;by_cases h1:a<b
  ·have:a≠b:=fun e=>by subst e;simp at h1
   simp[h1,this]
  ·rw[if_neg h1];by_cases h2:b<a
   ·have:a≠b:=fun e=>by subst e;exact h1 h2
    simp[h2,this]
   ·have e:a=b:=by
     apply Ak.1;have e1:¬a.toNat<b.toNat:=fun h=>h1 (AF.2 h);have e2:¬b.toNat<a.toNat:=fun h=>h2 (AF.2 h);omega
    rw[if_neg h2,zgs x y];subst e;simp
def Jp:zkX Lz:=⟨Op.bytesLess,ZL,Gx,xN⟩
def Jh:zkX Int:=⟨fun a b=>decide (a<b),fun a=>by simp,fun h1 h2=>by simp at h1 h2 ⊢;omega,fun h1 h2=>by simp at h1 h2;omega⟩
section
variable {α κ:Type} [DecidableEq κ] (o:zkX κ) (key:α->κ)
def qN (xs:List α):Prop:=xs.Pairwise fun a b=>o.lt (key a) (key b)=true
def qo (n:κ) (xs:List α):Nat:=(xs.filter fun x=>o.lt (key x) n).length
def YV (n:κ) (xs:List α):Bool:=xs.any fun x=>decide (key x=n)
def Jk (n:κ) (xs:List α):Option α:=xs.find? fun x=>decide (key x=n)
def XO (n:κ) (xs:List α):List α:=xs.filter fun x=>!decide (key x=n)
def Uf (x:α):List α->List α
 | []=>[x]
 | y :: r=>if o.lt (key x) (key y) then x :: y :: r else y :: Uf x r
variable {o:zkX κ} {key:α->κ}
theorem zkX.asym {a b:κ} (h:o.lt a b=true):o.lt b a=false:=by
 cases h':o.lt b a with
 | false=>rfl
 | true=>have:=o.tr h h';rw[o.irr]at this;cases this
theorem ZY (n:κ):∀ (xs:List α) (i:Nat),i<=xs.length->(∀ t (h:t<xs.length),t<i->o.lt (key xs[t]) n=true)->(∀ t (h:t<xs.length),i<=t->o.lt (key xs[t]) n=false)->qo o key n xs=i
 | [],i,h,_,_=>by simp at h;simp[qo,h]
 | x :: r,0,_,_,h2=>by
  have hx:o.lt (key x) n=false:=h2 0 (by simp) (Wb _);have ih:=ZY n r 0 (Wc _) (fun t h h'=>absurd h' (OJ _)) (fun t h _=>h2 (t+1) (by simp;omega) (Wc _));unfold qo at ih ⊢;rw[OY (by simp[hx])];exact ih
 | x :: r,i+1,h,h1,h2=>by
  have hx:o.lt (key x) n=true:=h1 0 (by simp) (A1 _);have ih:=ZY n r i (by simpa using h) (fun t h h'=>h1 (t+1) (by simp;omega) (by omega)) (fun t h h'=>h2 (t+1) (by simp;omega) (by omega));unfold qo at ih ⊢;rw[Oj (by simp[hx]),Wh,ih]
theorem ZM (n:κ) (xs:List α):qo o key n xs<=xs.length:=OG _ _
theorem Jt {y:α} {r:List α}:qN o key (y :: r)↔(∀ z∈r,o.lt (key y) (key z)=true)/\qN o key r:=Bt
theorem zcq {n:κ} {y:α} {r:List α} (h:o.lt (key y) n=true):qo o key n (y :: r)=qo o key n r+1:=by
 unfold qo;rw[Oj (by simpa using h),Wh]
theorem zbH {n:κ} {y:α} {r:List α} (hR:qN o key (y :: r)) (h:o.lt (key y) n=false):qo o key n (y :: r)=0:=by
 obtain ⟨h1,_⟩:=Jt.1 hR;unfold qo;rw[Aq,AQ];intro z hz;rcases WH.1 hz with rfl | hz
 ·simp[h]
 ·have h3:=h1 z hz;cases h4:o.lt (key z) n with
  | false=>simp
  | true=>have:=o.tr h3 h4;rw[h]at this;cases this
theorem zdY {n:κ} {y:α} {r:List α} (hR:qN o key (y :: r)) (h:o.lt (key y) n=false):YV key n (y :: r)=decide (key y=n):=by
 obtain ⟨h1,_⟩:=Jt.1 hR;unfold YV;rw[A5];have:(r.any fun x=>decide (key x=n))=false:=Ow.2 fun z hz=>by
  have h3:=h1 z hz;simp only[W7];rintro rfl;rw[h3]at h;cases h
 rw[this,AS]
theorem Ug (n:κ):∀ {xs:List α},qN o key xs->(∀ t (h:t<xs.length),t<qo o key n xs->o.lt (key xs[t]) n=true)/\(∀ t (h:t<xs.length),qo o key n xs<=t->o.lt (key xs[t]) n=false) /\
  (YV key n xs=true->∃ h:qo o key n xs<xs.length,key xs[qo o key n xs]=n/\Jk key n xs=some xs[qo o key n xs]/\XO key n xs=xs.take (qo o key n xs)++xs.drop (qo o key n xs+1)/\∀ x,key x=n->Uf o key x (XO key n xs)=xs.set (qo o key n xs) x) /\
  (YV key n xs=false->Jk key n xs=none/\XO key n xs=xs/\∀ x,key x=n->Uf o key x xs=xs.take (qo o key n xs)++x :: xs.drop (qo o key n xs))
 | [],_=>⟨fun t h=>absurd h (OJ _),fun t h=>absurd h (OJ _),fun h=>(by cases h),fun _=>⟨rfl,rfl,fun x _=>rfl⟩⟩
 | y :: r,hR=>by
  obtain ⟨h1,h2⟩:=Jt.1 hR;obtain ⟨i1,i2,i3,i4⟩:=Ug n h2;cases hy:o.lt (key y) n with
  | true =>
   have hne:key y≠n:=by rintro rfl;rw[o.irr]at hy;cases hy
   have hrk:=zcq (r:=r) hy;have hhas:YV key n (y :: r)=YV key n r:=by unfold YV;rw[A5,Wm hne,O1]
   have hfind:Jk key n (y :: r)=Jk key n r:=by unfold Jk;rw[Bz (by simpa using hne)]
   have hless:XO key n (y :: r)=y :: XO key n r:=by unfold XO;rw[Oj (by simpa using hne)]
   have hput:∀ x q,key x=n->Uf o key x (y :: q)=y :: Uf o key x q:=fun x q hx=>by
    rw[Uf,hx,zkX.asym hy];rfl
   rw[hhas,hfind,hless,hrk];refine ⟨fun t h ht=>?_,fun t h ht=>?_,fun h=>?_,fun h=>?_⟩
   ·cases t with
    | zero=>exact hy
    | succ t=>exact i1 t (by simpa using h) (by omega)
   ·cases t with
    | zero=>omega
    | succ t=>exact i2 t (by simpa using h) (by omega)
   ·obtain ⟨g,g1,g2,g3,g4⟩:=i3 h;refine ⟨by simp;omega,by simpa using g1,by simpa using g2,by rw[g3];simp,fun x hx=>?_⟩;rw[hput x _ hx,g4 x hx];simp
   ·obtain ⟨g1,g2,g3⟩:=i4 h;refine ⟨g1,by rw[g2],fun x hx=>?_⟩;rw[hput x _ hx,g3 x hx];simp
  | false =>
   have hrk:=zbH hR hy;have hhas:=zdY hR hy;rw[hrk,hhas];have hno:∀ z∈r,key z≠n:=fun z hz=>by
    have h3:=h1 z hz;rintro rfl;rw[h3]at hy;cases hy
   have hlr:XO key n r=r:=by
    unfold XO;rw[BM];intro z hz;simpa using hno z hz
   refine ⟨fun t h ht=>absurd ht (OJ _),fun t h _=>?_,fun h=>?_,fun h=>?_⟩
   ·cases t with
    | zero=>exact hy
    | succ t =>
     have h3:=h1 (r[t]'(by simpa using h)) (Wv _);show o.lt (key (r[t]'(by simpa using h))) n=false;cases h4:o.lt (key (r[t]'(by simpa using h))) n with
     | false=>rfl
     | true=>have:=o.tr h3 h4;rw[hy]at this;cases this
   ·have hk:key y=n:=WN h;have hl:XO key n (y :: r)=r:=by
     show (y :: r).filter (fun x=>!decide (key x=n))=r;rw[OY (by simpa using hk)];exact hlr
    refine ⟨by simp,hk,by unfold Jk;rw[BA (by simpa using hk)];rfl,by rw[hl];simp,fun x hx=>?_⟩;rw[hl];cases r with
    | nil=>rfl
    | cons z q =>
     have h3:=h1 z Wj;rw[hk]at h3;rw[Uf,hx,h3];rfl
   ·have hk:key y≠n:=OM h;have hny:o.lt n (key y)=true:=by
     cases h5:o.lt n (key y) with
     | true=>rfl
     | false=>exact absurd (o.tot hy h5) hk
    refine ⟨?_,?_,fun x hx=>?_⟩
    ·unfold Jk;rw[Br];intro z hz;rcases WH.1 hz with rfl | hz
     ·simpa using hk
     ·simpa using hno z hz
    ·show (y :: r).filter (fun x=>!decide (key x=n))=y :: r;rw[Oj (by simpa using hk)];exact Wy _ hlr
    ·rw[Uf,hx,hny];rfl
theorem yr (n:κ) {xs:List α} (hR:qN o key xs) {i:Nat} (hi:qo o key n xs=i) (h:i<xs.length):YV key n xs=decide (key xs[i]=n):=by
 subst hi;obtain ⟨_,_,h3,_⟩:=Ug n hR;cases hh:YV key n xs with
 | true=>obtain ⟨_,g,_⟩:=h3 hh;rw[Wn g]
 | false =>
  symm
  rw[Or];intro e;unfold YV at hh;rw[Ow]at hh;exact hh _ (Wv h) (Wn e)
theorem GH (n:κ) {xs:List α} (hR:qN o key xs) (hi:qo o key n xs=xs.length):YV key n xs=false:=by
 obtain ⟨_,_,h3,_⟩:=Ug n hR;cases hh:YV key n xs with
 | false=>rfl
 | true=>obtain ⟨g,_⟩:=h3 hh;omega
theorem kO (n:κ) {xs:List α} (h:qN o key xs):qN o key (XO key n xs):=h.filter _
theorem Qp {x y:α}:∀ {xs:List α},y∈Uf o key x xs↔y=x∨y∈xs
 | []=>by simp[Uf]
 | z :: r=>by
  unfold Uf;split
  ·simp
  ·rw[WH,Qp,WH];constructor
   ·rintro (h | h | h)
    ·exact .inr (.inl h)
    ·exact .inl h
    ·exact .inr (.inr h)
   ·rintro (h | h | h)
    ·exact .inr (.inl h)
    ·exact .inl h
    ·exact .inr (.inr h)
theorem ZE {n:κ} {y:α} {xs:List α}:y∈XO key n xs↔y∈xs/\key y≠n:=by unfold XO;simp
theorem Vo {x:α}:∀ {xs:List α},qN o key xs->(∀ y∈xs,key y≠key x)->qN o key (Uf o key x xs)
 | [],_,_=>by unfold Uf qN;simp
 | y :: r,hR,hne=>by
  obtain ⟨h1,h2⟩:=Jt.1 hR;unfold Uf;cases hxy:o.lt (key x) (key y) with
  | true =>
   rw[if_pos rfl,Jt];refine ⟨fun z hz=>?_,hR⟩;rcases WH.1 hz with rfl | hz
   ·exact hxy
   ·exact o.tr hxy (h1 z hz)
  | false =>
   rw[if_neg (by simp),Jt];have hyx:o.lt (key y) (key x)=true:=by
    cases h:o.lt (key y) (key x) with
    | true=>rfl
    | false=>exact absurd (o.tot h hxy) (hne y Wj)
   refine ⟨fun z hz=>?_,Vo h2 fun z hz=>hne z (Wk _ hz)⟩;rcases Qp.1 hz with rfl | hz
   ·exact hyx
   ·exact h1 z hz
theorem U8 {x:α} {xs:List α} (h:qN o key xs):qN o key (Uf o key x (XO key (key x) xs)):=
 Vo (kO _ h) fun y hy=>(ZE.1 hy).2
theorem MG (n:κ) (xs:List α):(XO key n xs).length<=xs.length:=OG _ _
theorem Uy (x:α):∀ xs:List α,(Uf o key x xs).length=xs.length+1
 | []=>rfl
 | y :: r=>by
  unfold Uf;split
  ·rfl
  ·rw[Wh,Uy x r];rfl
end
end
section
open Go.RowKit
section
variable {G:zo}
theorem zdf (rows:List (List C)) (hk:∀ r∈rows,r.length=2) (hs:jn rows) (hl:rows.length<=100000) :
  YW Tryz.prog G 279 [.sl 2 rows] [] 0 (zg6 2 rows):=by
 refine YW.bySlice (fun h=>?_) (fun h a cap hr=>?_)
 ·refine foX (fun i=>if i=1000000+94 then [true,true] else []) Tryz.func279 ?_;dsimp only[Tryz.f279];push_cast;refine ⟨h,ZP QU Yf rfl rfl (by decide) rfl (qr hk) rfl (Wb _) (Wb _) (by omega) (by omega) (fun hc=>absurd hc ?_) (fun _ c hc hm=>?_)⟩
  ·have:=WK.2 h;omega
  ·push_cast;rw[Ot]at hc;refine ⟨_,_,_,⟨⟨rfl,.inl ⟨h,c,hc,hm,rfl,rfl⟩⟩,Wc _⟩,[],rfl,rfl,?_,by push_cast [ze,zd,CLe,zh]⟩;push_cast [ze,zd,CLe,zh];exact zP (zD hs)
 ·cases a with
  | none =>
   refine foX (fun i=>if i=1000000+94 then [true,true] else []) Tryz.func279 ?_;dsimp only[Tryz.f279];push_cast [hr,BU];exact ⟨_,_,_,⟨⟨rfl,.inr ⟨h,.inl ⟨rfl,rfl⟩⟩⟩,Wc _⟩,[],rfl,rfl,by push_cast [ze,zd,CLe,zh],by push_cast [ze,zd,CLe,zh]⟩
  | some a =>
   refine foX (fun i=>if i=1000000+94 then [true,true] else []) Tryz.func279 ?_;dsimp only[Tryz.f279];push_cast [hr,BV];have hx:C.xs? 2 [[]] (C.sc (.slice (some a) 0 cap))=some (0,[]):=by simp[C.xs?,hr]
   refine ZP QU Yf hx rfl (by decide) rfl rfl rfl (Wb _) (Wb _) (by omega) (by omega) (fun _=>?_) (fun hc=>absurd hc (by omega));push_cast;exact ⟨_,_,_,⟨⟨rfl,.inr ⟨h,.inr ⟨rfl,rfl⟩⟩⟩,Wc _⟩,[],rfl,rfl,by (push_cast [ze,zd,CLe,zh];simp[spl,zh]),by push_cast [ze,zd,CLe,zh]⟩
theorem zaR (rows:List (List C)) (x:List C) (i c e:Nat) (hk:∀ r∈rows,r.length=2) (hx:x.length=2) (hs:jn rows) (hsx:(x.all C.stayB)=true) (hl:rows.length<=100000) (hi:i<=rows.length) (hc:rows.length<=c) (hcm:c<=9223372036854775807) :
  YW Tryz.prog G 280 [.bs 0 0 2 rows.length c,.sc (.int .i64 i),.own 0 e 2 [x]] [qw 2 rows c] 1 (zq5 2 (c*2) (rows.take i++x :: rows.drop i)):=by
 refine foX (fun j=>if j=1000000+94 then [true,true] else if j=11 then [false,false,false,false,false,false,false,false,true] else if j=15 then [false,false,false,false,false,false,false,false,true] else []) Tryz.func280 ?_;dsimp only[Tryz.f280];push_cast;have hlen:(rows.take i++x :: rows.drop i).length=rows.length+1:=by simp;omega
 have hki:∀ r∈rows.take i++x :: rows.drop i,r.length=2:=fun r hr=>by
  rcases WD.1 hr with hr | hr
  ·exact hk r (Wu hr)
  ·rcases WH.1 hr with rfl | hr
   ·exact hx
   ·exact hk r (WS hr)
 have hsi:jn (rows.take i++x :: rows.drop i):=fun r hr=>by
  rcases WD.1 hr with hr | hr
  ·exact hs r (Wu hr)
  ·rcases WH.1 hr with rfl | hr
   ·exact hsx
   ·exact hs r (WS hr)
 have hbl:=JB hk hc;have hfl:=qr hk;have hxl:[x].flatten.length=1*2:=by simp[hx]
 have hpre:(qw 2 rows c).take rows.flatten.length=rows.flatten:=by unfold qw;rw[By]
 refine ⟨hc,⟨by omega,hi⟩,br (fun h=>?_) (fun h=>?_)⟩
 ·push_cast;refine ZP QU Yf rfl rfl (by decide) rfl hxl rfl (by rw[hbl];omega) hc (by simp;omega) (by simp;omega) (fun h1=>?_) (fun h1 c' h2 h3=>?_)
  ·push_cast;have hi':i=rows.length:=WN h;refine ⟨_,_,_,⟨⟨rfl,c,by rw[hlen];exact h1,hcm,.inl ⟨rfl,rfl⟩⟩,Wb _⟩,[],rfl,rfl,?_,by push_cast [ze,zd,CLe,zh,hlen]⟩;push_cast [ze,zd,CLe,zh];have h6:rows.length*2+2<=c*2:=by have:rows.length+1<=c:=h1;omega
   refine Jv hki hsi (by rw[hlen];exact h1) (by rw[Q7 (by rw[hbl,hx];exact h6),hbl]) ?_;rw[hlen,hi',Oe,AJ];unfold spl;rw[←hfl,hpre,OI (by simp[hx,hfl];omega)];simp
  ·push_cast;have hi':i=rows.length:=WN h;have h2':rows.length+1<=c':=h2;refine ⟨_,_,_,⟨⟨rfl,c',by rw[hlen];exact h2,h3,.inr ⟨rfl,rfl⟩⟩,ON rfl⟩,[],rfl,rfl,?_,by push_cast [ze,zd,CLe,zh,hlen]⟩;push_cast [ze,zd,CLe,zh];refine ⟨Xj hbl,Jv hki hsi (by rw[hlen];exact h2) (by simp[hx,hbl];omega) ?_⟩;rw[hlen,hi',Oe,AJ,←hfl,hpre,OI (by simp[hx,hfl];omega)];simp
 ·have hne:i≠rows.length:=OM h;push_cast;refine ⟨⟨by omega,by omega⟩,br (fun h1=>?_) (fun h1=>?_)⟩
  ·have h1':(c:Int)<(rows.length:Int)+1:=WN h1;push_cast
   repeat refine an ?_
   refine zmk QU zn9 Yf rfl (by decide) rfl rfl (by rw[hbl];omega) (by omega) (by omega) (by omega) (by omega) (by omega) (fun c' B h2 h3 hBl hBt=>?_);have e1:((rows.length:Int)+1-(i:Int)).toNat=rows.length+1-i:=by omega
   rw[e1]at h2 ⊢;have e2:i+(rows.length+1-i)=rows.length+1:=by omega
   rw[e2]at h2 ⊢;push_cast
   repeat refine an ?_
   refine XE QU Yf rfl rfl hxl (by rw[hBl];omega) (fun B1 hB1 hl1=>?_);rw[hBl]at hl1;push_cast
   repeat refine an ?_
   have hbp:=Xs (c:=c) hk hi;refine XE QU Yf (UD rfl (by rw[hbl];omega)) rfl (by rw[hbp,WZ,hfl];omega) (by rw[hl1];omega) (fun B2 hB2 hl2=>?_);rw[hl1]at hl2;have hX:[x].flatten.take (min [x].length (rows.length+1-i)*2)=x:=by
    rw[O8,OH (by omega),Wg (by omega)];simp
   rw[hX]at hB1;rw[hbp,show min (rows.length-i) (rows.length-i)*2=(rows.length-i)*2 by omega,Wg (by rw[WZ,hfl];omega),hB1]at hB2;push_cast;refine ⟨_,_,_,⟨⟨rfl,c',by rw[hlen];exact h2,h3,.inr ⟨rfl,rfl⟩⟩,ON rfl⟩,[],rfl,rfl,?_,by push_cast [ze,zd,CLe,zh,hlen]⟩;push_cast [ze,zd,CLe,zh];refine ⟨Xj hbl,Jv hki hsi (by rw[hlen];exact h2) hl2 ?_⟩;rw[hlen,←Ql hk,hB2];have hg:=Ns (cs:=B) (L:=rows.flatten) (X:=x) (p:=i*2) (q:=(i+1)*2) (by omega) (by omega) (by
    rw[hBt,AU];unfold qw;rw[OO (by omega)]) (by omega)
   rw[hfl,hx]at hg;rw[←hg];congr 1;omega
  ·have h1':¬(c:Int)<(rows.length:Int)+1:=OM h1;push_cast
   repeat refine an ?_
   refine zlN (vI (P:=Tryz.prog) (tR:=4) Tryz.func290 (by kernel_rfl) (by kernel_rfl) (by kernel_rfl) (by kernel_rfl) QU Yf rfl (Bf (by rw[hbl];omega)) (by simp) (by omega)) ?_;push_cast
   repeat refine an ?_
   have hbp:=Xs (c:=c) hk hi;refine XE QU Yf (UD rfl (by rw[hbl];omega)) rfl (by simp[hbl];omega) (by rw[hbl];omega) (fun B1 hB1 hl1=>?_);rw[hbl]at hl1;rw[BW,OH (by omega),show min (rows.length+1-i) (rows.length-i)*2=(rows.length-i)*2 by omega,hbp]at hB1;push_cast
   repeat refine an ?_
   refine XE QU Yf rfl rfl hxl (by rw[hl1];omega) (fun B2 hB2 hl2=>?_);rw[hl1]at hl2;have hX:[x].flatten.take (min [x].length (rows.length+1-i)*2)=x:=by
    rw[O8,OH (by omega),Wg (by omega)];simp
   rw[hX,hB1]at hB2;push_cast;have hcc:rows.length+1<=c:=by omega
   refine ⟨_,_,_,⟨⟨rfl,c,by rw[hlen];exact hcc,hcm,.inl ⟨rfl,rfl⟩⟩,ON rfl⟩,[],rfl,rfl,?_,by push_cast [ze,zd,CLe,zh,hlen]⟩;push_cast [ze,zd,CLe,zh];refine Jv hki hsi (by rw[hlen];exact hcc) hl2 ?_;rw[hlen,←Ql hk,hB2];have hg:=ki (cs:=qw 2 rows c) (L:=rows.flatten) (X:=x) (p:=i*2) (q:=(i+1)*2) (by omega) (by omega) hpre (by omega);rw[hfl,hx]at hg;rw[←hg];congr 1;omega
theorem zjV (x:List C) (hx:x.length=2) (hsx:(x.all C.stayB)=true) :
  YW Tryz.prog G 280 [.sc (.slice none 0 0),.sc (.int .i64 0),.own 0 e 2 [x]] [] 1 (fun r bx' n=>n=0/\∃ c,1<=c/\c<=9223372036854775807/\r = .bs 0 0 2 1 c/\bx' = [qw 2 [x] c]):=by
 refine foX (fun j=>if j=1000000+94 then [true,true] else if j=11 then [false,false,false,false,false,false,false,false,true] else if j=15 then [false,false,false,false,false,false,false,false,true] else []) Tryz.func280 ?_;dsimp only[Tryz.f280];push_cast;refine NM QU Yf rfl rfl (by decide) rfl (by simp[hx]) (by simp) (by simp) (by simp) (fun c h1 h2=>?_);push_cast;refine ⟨_,_,_,⟨⟨rfl,c,h1,h2,rfl,rfl⟩,Wc _⟩,[],rfl,rfl,?_,by push_cast [ze,zd,CLe,zh]⟩;push_cast [ze,zd,CLe,zh];have:=zP (src:=[]) (n:=1) (zD (k:=2) (c:=c) (rows:=[x]) fun r hr=>by
  rw[W8.1 hr];exact hsx)
 unfold qw at this ⊢;simpa using this
end
end
end Go.Proofs.YtaipngaejfndgaaGreatDoor.Vcg
section
namespace Go.Proofs
open YtaipngaejfndgaaGreatDoor
open Go.Shelf
def Tryz.lays169_ren:Go.Shelf.Ren:=⟨fun | 169=>175 | n=>n,fun | 70=>207 | 9=>9 | 0=>0 | 72=>209 | 37=>164 | 127=>245 | 3=>3 | 5=>5 | n=>n,fun | n=>n⟩
theorem Tryz.lays169:Go.Proofs.Lays.n169 Tryz.prog Tryz.lays169_ren:={
 mixed:=by kernel_rfl
 f169:=Tryz.func175.trans (Wy some (by kernel_rfl))
 t0:=Tryz.underlying0
 a0:=Tryz.isAgg0
 z0:=Tryz.sizeOf0
 v0:=Tryz.zeroValue0
 t3:=Tryz.underlying3
 a3:=Tryz.isAgg3
 z3:=Tryz.sizeOf3
 v3:=Tryz.zeroValue3
 t9:=Tryz.underlying9
 a9:=Tryz.isAgg9
 z9:=Tryz.sizeOf9
 v9:=Tryz.zeroValue9
 t37:=Tryz.underlying164
 a37:=Tryz.isAgg164
 z37:=Tryz.sizeOf164
 v37:=Tryz.zeroValue164
 t70:=Tryz.underlying207
 a70:=Tryz.isAgg207
 z70:=Tryz.sizeOf207
 v70:=Tryz.zeroValue207
 t72:=Tryz.underlying209
 a72:=Tryz.isAgg209
 z72:=Tryz.sizeOf209
 v72:=Tryz.zeroValue209
 t127:=Tryz.underlying245
 a127:=Tryz.isAgg245
 z127:=Tryz.sizeOf245
 v127:=Tryz.zeroValue245 }
theorem Tryz.Builder_Extra_169:Builder.Extra Tryz.prog Tryz.lays169_ren:={
 sizeBuilder:=by kernel_rfl
 liesBuilder:=by kernel_rfl
 t5:=Tryz.underlying5
 a5:=Tryz.isAgg5
 z5:=Tryz.sizeOf5
 v5:=Tryz.zeroValue5
 infoByte:=by kernel_rfl
 cellsByte:=by kernel_rfl
 sizeByte:=by kernel_rfl
 neB5:=by decide }
open Go.RowKit in
theorem Tryz.Builder_String_any (B b:Nat) (l:Lz) (w:World) (h:Lib.IsBuilder 209 5 B b (Lib.byteCells l) w) (hBw:B<=w.heap.size) :
  Calls Tryz.prog 175 #[.pointer (some ⟨b,0,none⟩)] w fun e w'=>e = .returned (.string ⟨l.toArray⟩)/\Below B w w':=Any.Builder_String_any Tryz.lays169 Tryz.Builder_Extra_169 B b l w h hBw
def Tryz.lays156_ren:Go.Shelf.Ren:=⟨fun | 156=>130 | 165=>173 | 166=>174 | 169=>175 | 240=>215 | 241=>216 | 276=>249 | 277=>250 | n=>n,fun | 31=>30 | 9=>9 | 3=>3 | 4=>4 | 0=>0 | 20=>20 | 72=>209 | 76=>213 | 70=>207 | 37=>164 | 75=>212 | 127=>245 | 164=>270 | 5=>5 | 80=>215 | n=>n,fun | n=>n⟩
theorem Tryz.lays156:Go.Proofs.Lays.n156 Tryz.prog Tryz.lays156_ren:={
 mixed:=by kernel_rfl
 f156:=Tryz.func130.trans (Wy some (by kernel_rfl))
 f165:=Tryz.func173.trans (Wy some (by kernel_rfl))
 f166:=Tryz.func174.trans (Wy some (by kernel_rfl))
 f169:=Tryz.func175.trans (Wy some (by kernel_rfl))
 f240:=Tryz.func215.trans (Wy some (by kernel_rfl))
 f241:=Tryz.func216.trans (Wy some (by kernel_rfl))
 f276:=Tryz.func249.trans (Wy some (by kernel_rfl))
 f277:=Tryz.func250.trans (Wy some (by kernel_rfl))
 t0:=Tryz.underlying0
 a0:=Tryz.isAgg0
 z0:=Tryz.sizeOf0
 v0:=Tryz.zeroValue0
 t3:=Tryz.underlying3
 a3:=Tryz.isAgg3
 z3:=Tryz.sizeOf3
 v3:=Tryz.zeroValue3
 t4:=Tryz.underlying4
 a4:=Tryz.isAgg4
 z4:=Tryz.sizeOf4
 v4:=Tryz.zeroValue4
 t9:=Tryz.underlying9
 a9:=Tryz.isAgg9
 z9:=Tryz.sizeOf9
 v9:=Tryz.zeroValue9
 t20:=Tryz.underlying20
 a20:=Tryz.isAgg20
 z20:=Tryz.sizeOf20
 v20:=Tryz.zeroValue20
 t31:=Tryz.underlying30
 a31:=Tryz.isAgg30
 z31:=Tryz.sizeOf30
 v31:=Tryz.zeroValue30
 t37:=Tryz.underlying164
 a37:=Tryz.isAgg164
 z37:=Tryz.sizeOf164
 v37:=Tryz.zeroValue164
 t70:=Tryz.underlying207
 a70:=Tryz.isAgg207
 z70:=Tryz.sizeOf207
 v70:=Tryz.zeroValue207
 t72:=Tryz.underlying209
 a72:=Tryz.isAgg209
 z72:=Tryz.sizeOf209
 v72:=Tryz.zeroValue209
 t75:=Tryz.underlying212
 a75:=Tryz.isAgg212
 z75:=Tryz.sizeOf212
 v75:=Tryz.zeroValue212
 t76:=Tryz.underlying213
 a76:=Tryz.isAgg213
 z76:=Tryz.sizeOf213
 v76:=Tryz.zeroValue213
 t127:=Tryz.underlying245
 a127:=Tryz.isAgg245
 z127:=Tryz.sizeOf245
 v127:=Tryz.zeroValue245
 t164:=Tryz.underlying270
 a164:=Tryz.isAgg270
 z164:=Tryz.sizeOf270
 v164:=Tryz.zeroValue270 }
theorem Tryz.Builder_Extra_156:Builder.Extra Tryz.prog Tryz.lays156_ren:={
 sizeBuilder:=by kernel_rfl
 liesBuilder:=by kernel_rfl
 t5:=Tryz.underlying5
 a5:=Tryz.isAgg5
 z5:=Tryz.sizeOf5
 v5:=Tryz.zeroValue5
 infoByte:=by kernel_rfl
 cellsByte:=by kernel_rfl
 sizeByte:=by kernel_rfl
 neB5:=by decide }
open Go.RowKit in
theorem Tryz.strings_Join_none (a:Option Addr) (c:Nat) (sep:ByteArray) (w:World) :
  Calls Tryz.prog 130 #[.slice a 0 c,.string sep] w fun e w'=>e = .returned (.string ⟨#[]⟩)/\w'=w:=Any.strings_Join_none Tryz.lays156 Tryz.Builder_Extra_156 a c sep w
open Go.RowKit in
theorem Tryz.strings_Join (bk o c:Nat) (xs:List ByteArray) (sep:ByteArray) (w:World) (hcells:∀ (j:Nat) x,xs[j]?=some x->w.cell? ⟨bk,o+j,none⟩=some (.string x)) (hbk:bk<w.heap.size) (hN:xs.length<=140737488355328) (hcap:xs.length<=c) (hlen:(Lib.join (xs.map (·.data.toList)) sep.data.toList).length<=140737488355328) :
  Calls Tryz.prog 130 #[.slice (some ⟨bk,o,none⟩) xs.length c,.string sep] w fun e w'=>e = .returned (.string ⟨(Lib.join (xs.map (·.data.toList)) sep.data.toList).toArray⟩)/\Below w.heap.size w w':=Any.strings_Join Tryz.lays156 Tryz.Builder_Extra_156 bk o c xs sep w hcells hbk hN hcap hlen
def Tryz.lays162_ren:Go.Shelf.Ren:=⟨fun | 162=>170 | 232=>210 | 227=>206 | 234=>211 | 236=>212 | 228=>207 | 271=>247 | 151=>248 | 120=>273 | 197=>209 | 152=>204 | 260=>246 | 137=>71 | 119=>243 | 224=>244 | 225=>245 | 217=>121 | 266=>168 | n=>n,fun | 9=>9 | 4=>4 | 3=>3 | 5=>5 | 117=>235 | 116=>234 | 0=>0 | 124=>242 | 21=>21 | 105=>238 | 46=>218 | 119=>284 | 139=>287 | 138=>286 | n=>n,fun | 3=>5 | 4=>6 | n=>n⟩
theorem Tryz.lays162:Go.Proofs.Lays.n162 Tryz.prog Tryz.lays162_ren:={
 mixed:=by kernel_rfl
 f119:=Tryz.func243.trans (Wy some (by kernel_rfl))
 f120:=Tryz.func273.trans (Wy some (by kernel_rfl))
 f137:=Tryz.func71.trans (Wy some (by kernel_rfl))
 f151:=Tryz.func248.trans (Wy some (by kernel_rfl))
 f152:=Tryz.func204.trans (Wy some (by kernel_rfl))
 f162:=Tryz.func170.trans (Wy some (by kernel_rfl))
 f197:=Tryz.func209.trans (Wy some (by kernel_rfl))
 f217:=Tryz.func121.trans (Wy some (by kernel_rfl))
 f224:=Tryz.func244.trans (Wy some (by kernel_rfl))
 f225:=Tryz.func245.trans (Wy some (by kernel_rfl))
 f227:=Tryz.func206.trans (Wy some (by kernel_rfl))
 f228:=Tryz.func207.trans (Wy some (by kernel_rfl))
 f232:=Tryz.func210.trans (Wy some (by kernel_rfl))
 f234:=Tryz.func211.trans (Wy some (by kernel_rfl))
 f236:=Tryz.func212.trans (Wy some (by kernel_rfl))
 f260:=Tryz.func246.trans (Wy some (by kernel_rfl))
 f266:=Tryz.func168.trans (Wy some (by kernel_rfl))
 f271:=Tryz.func247.trans (Wy some (by kernel_rfl))
 t0:=Tryz.underlying0
 a0:=Tryz.isAgg0
 z0:=Tryz.sizeOf0
 v0:=Tryz.zeroValue0
 t3:=Tryz.underlying3
 a3:=Tryz.isAgg3
 z3:=Tryz.sizeOf3
 v3:=Tryz.zeroValue3
 t4:=Tryz.underlying4
 a4:=Tryz.isAgg4
 z4:=Tryz.sizeOf4
 v4:=Tryz.zeroValue4
 t5:=Tryz.underlying5
 a5:=Tryz.isAgg5
 z5:=Tryz.sizeOf5
 v5:=Tryz.zeroValue5
 t9:=Tryz.underlying9
 a9:=Tryz.isAgg9
 z9:=Tryz.sizeOf9
 v9:=Tryz.zeroValue9
 t21:=Tryz.underlying21
 a21:=Tryz.isAgg21
 z21:=Tryz.sizeOf21
 v21:=Tryz.zeroValue21
 t46:=Tryz.underlying218
 a46:=Tryz.isAgg218
 z46:=Tryz.sizeOf218
 v46:=Tryz.zeroValue218
 t105:=Tryz.underlying238
 a105:=Tryz.isAgg238
 z105:=Tryz.sizeOf238
 v105:=Tryz.zeroValue238
 t116:=Tryz.underlying234
 a116:=Tryz.isAgg234
 z116:=Tryz.sizeOf234
 t117:=Tryz.underlying235
 a117:=Tryz.isAgg235
 z117:=Tryz.sizeOf235
 v117:=Tryz.zeroValue235
 t119:=Tryz.underlying284
 a119:=Tryz.isAgg284
 z119:=Tryz.sizeOf284
 t124:=Tryz.underlying242
 a124:=Tryz.isAgg242
 z124:=Tryz.sizeOf242
 v124:=Tryz.zeroValue242
 t138:=Tryz.underlying286
 a138:=Tryz.isAgg286
 z138:=Tryz.sizeOf286
 v138:=Tryz.zeroValue286
 t139:=Tryz.underlying287
 a139:=Tryz.isAgg287
 z139:=Tryz.sizeOf287
 v139:=Tryz.zeroValue287
 g3:=by kernel_rfl
 g4:=by kernel_rfl }
def Tryz.lays119_ren:Go.Shelf.Ren:=⟨fun | 119=>243 | n=>n,fun | 21=>21 | 4=>4 | n=>n,fun | n=>n⟩
theorem Tryz.lays119:Go.Proofs.Lays.n119 Tryz.prog Tryz.lays119_ren:={
 mixed:=by kernel_rfl
 f119:=Tryz.func243.trans (Wy some (by kernel_rfl))
 t4:=Tryz.underlying4
 a4:=Tryz.isAgg4
 z4:=Tryz.sizeOf4
 v4:=Tryz.zeroValue4
 t21:=Tryz.underlying21
 a21:=Tryz.isAgg21
 z21:=Tryz.sizeOf21
 v21:=Tryz.zeroValue21 }
theorem Tryz.utf8_ValidRune (r:Int) (w:World) :
  Calls Tryz.prog 243 #[.int .i32 r] w fun e w'=>e = .returned (.bool (Lib.validRune r))/\w'=w:=Any.utf8_ValidRune Tryz.lays119 r w
def Tryz.lays106_ren:Go.Shelf.Ren:=⟨fun | 106=>221 | 213=>252 | 265=>275 | n=>n,fun | 9=>9 | 3=>3 | n=>n,fun | n=>n⟩
theorem Tryz.lays106:Go.Proofs.Lays.n106 Tryz.prog Tryz.lays106_ren:={
 mixed:=by kernel_rfl
 f106:=Tryz.func221.trans (Wy some (by kernel_rfl))
 f213:=Tryz.func252.trans (Wy some (by kernel_rfl))
 f265:=Tryz.func275.trans (Wy some (by kernel_rfl))
 t3:=Tryz.underlying3
 a3:=Tryz.isAgg3
 z3:=Tryz.sizeOf3
 v3:=Tryz.zeroValue3
 t9:=Tryz.underlying9
 a9:=Tryz.isAgg9
 z9:=Tryz.sizeOf9
 v9:=Tryz.zeroValue9 }
open Go.RowKit in
theorem Tryz.strings_Compare (a b:ByteArray) (w:World) :
  Calls Tryz.prog 221 #[.string a,.string b] w fun e w'=>e = .returned (.int .i64 (Lib.compareBytes a.data.toList b.data.toList))/\w'=w:=Any.strings_Compare Tryz.lays106 a b w
def Tryz.lays137_ren:Go.Shelf.Ren:=⟨fun | 137=>71 | 217=>121 | 266=>168 | n=>n,fun | 9=>9 | 5=>5 | 3=>3 | n=>n,fun | n=>n⟩
theorem Tryz.lays137:Go.Proofs.Lays.n137 Tryz.prog Tryz.lays137_ren:={
 mixed:=by kernel_rfl
 f137:=Tryz.func71.trans (Wy some (by kernel_rfl))
 f217:=Tryz.func121.trans (Wy some (by kernel_rfl))
 f266:=Tryz.func168.trans (Wy some (by kernel_rfl))
 t3:=Tryz.underlying3
 a3:=Tryz.isAgg3
 z3:=Tryz.sizeOf3
 v3:=Tryz.zeroValue3
 t5:=Tryz.underlying5
 a5:=Tryz.isAgg5
 z5:=Tryz.sizeOf5
 v5:=Tryz.zeroValue5
 t9:=Tryz.underlying9
 a9:=Tryz.isAgg9
 z9:=Tryz.sizeOf9
 v9:=Tryz.zeroValue9 }
open Go.RowKit in
theorem Tryz.strings_IndexByte (s:ByteArray) (c:Int) (w:World) :
  Calls Tryz.prog 71 #[.string s,.int .u8 c] w fun e w'=>e = .returned (.int .i64 (Lib.indexByte s.data.toList c.toNat.toUInt8))/\w'=w:=Any.strings_IndexByte Tryz.lays137 s c w
def Tryz.lays143_ren:Go.Shelf.Ren:=⟨fun | 143=>177 | 219=>217 | 217=>121 | 225=>245 | 224=>244 | 267=>251 | 266=>168 | 314=>274 | n=>n,fun | 9=>9 | 3=>3 | 4=>4 | 5=>5 | 46=>218 | 146=>289 | 51=>288 | n=>n,fun | 1=>3 | n=>n⟩
theorem Tryz.lays143:Go.Proofs.Lays.n143 Tryz.prog Tryz.lays143_ren:={
 mixed:=by kernel_rfl
 f143:=Tryz.func177.trans (Wy some (by kernel_rfl))
 f217:=Tryz.func121.trans (Wy some (by kernel_rfl))
 f219:=Tryz.func217.trans (Wy some (by kernel_rfl))
 f224:=Tryz.func244.trans (Wy some (by kernel_rfl))
 f225:=Tryz.func245.trans (Wy some (by kernel_rfl))
 f266:=Tryz.func168.trans (Wy some (by kernel_rfl))
 f267:=Tryz.func251.trans (Wy some (by kernel_rfl))
 f314:=Tryz.func274.trans (Wy some (by kernel_rfl))
 t3:=Tryz.underlying3
 a3:=Tryz.isAgg3
 z3:=Tryz.sizeOf3
 v3:=Tryz.zeroValue3
 t4:=Tryz.underlying4
 a4:=Tryz.isAgg4
 z4:=Tryz.sizeOf4
 v4:=Tryz.zeroValue4
 t5:=Tryz.underlying5
 a5:=Tryz.isAgg5
 z5:=Tryz.sizeOf5
 v5:=Tryz.zeroValue5
 t9:=Tryz.underlying9
 a9:=Tryz.isAgg9
 z9:=Tryz.sizeOf9
 v9:=Tryz.zeroValue9
 t46:=Tryz.underlying218
 a46:=Tryz.isAgg218
 z46:=Tryz.sizeOf218
 v46:=Tryz.zeroValue218
 t51:=Tryz.underlying288
 a51:=Tryz.isAgg288
 z51:=Tryz.sizeOf288
 v51:=Tryz.zeroValue288
 t146:=Tryz.underlying289
 a146:=Tryz.isAgg289
 z146:=Tryz.sizeOf289
 v146:=Tryz.zeroValue289
 g1:=by kernel_rfl }
open Go.RowKit Go.Lib in
theorem Tryz.strings_Index_one (s:ByteArray) (c:UInt8) (w:World) :
  Calls Tryz.prog 177 #[.string s,.string ⟨#[c]⟩] w fun e w'=>e = .returned (.int .i64 (Lib.indexByte s.data.toList c))/\w'=w:=Any.strings_Index_one Tryz.lays143 s c w
def Tryz.lays99_ren:Go.Shelf.Ren:=⟨fun | 99=>98 | 206=>144 | n=>n,fun | 9=>9 | 4=>4 | 3=>3 | n=>n,fun | n=>n⟩
theorem Tryz.lays99:Go.Proofs.Lays.n99 Tryz.prog Tryz.lays99_ren:={
 mixed:=by kernel_rfl
 f99:=Tryz.func98.trans (Wy some (by kernel_rfl))
 f206:=Tryz.func144.trans (Wy some (by kernel_rfl))
 t3:=Tryz.underlying3
 a3:=Tryz.isAgg3
 z3:=Tryz.sizeOf3
 v3:=Tryz.zeroValue3
 t4:=Tryz.underlying4
 a4:=Tryz.isAgg4
 z4:=Tryz.sizeOf4
 v4:=Tryz.zeroValue4
 t9:=Tryz.underlying9
 a9:=Tryz.isAgg9
 z9:=Tryz.sizeOf9
 v9:=Tryz.zeroValue9 }
open Go.RowKit Go.Lib in
theorem Tryz.strings_HasPrefix (s p:ByteArray) (w:World) :
  Calls Tryz.prog 98 #[.string s,.string p] w fun e w'=>e = .returned (.bool (Lib.hasPrefix s.data.toList p.data.toList))/\w'=w:=Any.strings_HasPrefix Tryz.lays99 s p w
def Tryz.lays100_ren:Go.Shelf.Ren:=⟨fun | 100=>100 | 207=>146 | n=>n,fun | 9=>9 | 4=>4 | 3=>3 | n=>n,fun | n=>n⟩
theorem Tryz.lays100:Go.Proofs.Lays.n100 Tryz.prog Tryz.lays100_ren:={
 mixed:=by kernel_rfl
 f100:=Tryz.func100.trans (Wy some (by kernel_rfl))
 f207:=Tryz.func146.trans (Wy some (by kernel_rfl))
 t3:=Tryz.underlying3
 a3:=Tryz.isAgg3
 z3:=Tryz.sizeOf3
 v3:=Tryz.zeroValue3
 t4:=Tryz.underlying4
 a4:=Tryz.isAgg4
 z4:=Tryz.sizeOf4
 v4:=Tryz.zeroValue4
 t9:=Tryz.underlying9
 a9:=Tryz.isAgg9
 z9:=Tryz.sizeOf9
 v9:=Tryz.zeroValue9 }
open Go.RowKit Go.Lib in
theorem Tryz.strings_HasSuffix (s p:ByteArray) (w:World) (hs:s.size<=9223372036854775807) :
  Calls Tryz.prog 100 #[.string s,.string p] w fun e w'=>e = .returned (.bool (Lib.hasSuffix s.data.toList p.data.toList))/\w'=w:=Any.strings_HasSuffix Tryz.lays100 s p w hs
def Tryz.lays152_ren:Go.Shelf.Ren:=⟨fun | 152=>204 | 137=>71 | 119=>243 | 224=>244 | 225=>245 | 217=>121 | 266=>168 | n=>n,fun | 9=>9 | 21=>21 | 3=>3 | 4=>4 | 5=>5 | 0=>0 | 46=>218 | n=>n,fun | n=>n⟩
theorem Tryz.lays152:Go.Proofs.Lays.n152 Tryz.prog Tryz.lays152_ren:={
 mixed:=by kernel_rfl
 f119:=Tryz.func243.trans (Wy some (by kernel_rfl))
 f137:=Tryz.func71.trans (Wy some (by kernel_rfl))
 f152:=Tryz.func204.trans (Wy some (by kernel_rfl))
 f217:=Tryz.func121.trans (Wy some (by kernel_rfl))
 f224:=Tryz.func244.trans (Wy some (by kernel_rfl))
 f225:=Tryz.func245.trans (Wy some (by kernel_rfl))
 f266:=Tryz.func168.trans (Wy some (by kernel_rfl))
 t0:=Tryz.underlying0
 a0:=Tryz.isAgg0
 z0:=Tryz.sizeOf0
 v0:=Tryz.zeroValue0
 t3:=Tryz.underlying3
 a3:=Tryz.isAgg3
 z3:=Tryz.sizeOf3
 v3:=Tryz.zeroValue3
 t4:=Tryz.underlying4
 a4:=Tryz.isAgg4
 z4:=Tryz.sizeOf4
 v4:=Tryz.zeroValue4
 t5:=Tryz.underlying5
 a5:=Tryz.isAgg5
 z5:=Tryz.sizeOf5
 v5:=Tryz.zeroValue5
 t9:=Tryz.underlying9
 a9:=Tryz.isAgg9
 z9:=Tryz.sizeOf9
 v9:=Tryz.zeroValue9
 t21:=Tryz.underlying21
 a21:=Tryz.isAgg21
 z21:=Tryz.sizeOf21
 v21:=Tryz.zeroValue21
 t46:=Tryz.underlying218
 a46:=Tryz.isAgg218
 z46:=Tryz.sizeOf218
 v46:=Tryz.zeroValue218 }
open Go.RowKit Go.Lib in
theorem Tryz.strings_IndexRune_ascii (s:ByteArray) (r:Int) (w:World) (h0:0<=r) (h1:r<128) :
  Calls Tryz.prog 204 #[.string s,.int .i32 r] w fun e w'=>e = .returned (.int .i64 (Lib.indexByte s.data.toList r.toNat.toUInt8))/\w'=w:=Any.strings_IndexRune_ascii Tryz.lays152 s r w h0 h1
def Tryz.lays226_ren:Go.Shelf.Ren:=⟨fun | 226=>205 | n=>n,fun | 3=>3 | 4=>4 | n=>n,fun | n=>n⟩
theorem Tryz.lays226:Go.Proofs.Lays.n226 Tryz.prog Tryz.lays226_ren:={
 mixed:=by kernel_rfl
 f226:=Tryz.func205.trans (Wy some (by kernel_rfl))
 t3:=Tryz.underlying3
 a3:=Tryz.isAgg3
 z3:=Tryz.sizeOf3
 v3:=Tryz.zeroValue3
 t4:=Tryz.underlying4
 a4:=Tryz.isAgg4
 z4:=Tryz.sizeOf4
 v4:=Tryz.zeroValue4 }
open Go.RowKit Go.Lib in
theorem Tryz.strings_shouldUseASCIISet (n:Int) (w:World) :
  Calls Tryz.prog 205 #[.int .i64 n] w fun e w'=>e = .returned (.bool (decide (8<n)))/\w'=w:=Any.strings_shouldUseASCIISet Tryz.lays226 n w
def Tryz.lays153_ren:Go.Shelf.Ren:=⟨fun | 153=>167 | 152=>204 | 226=>205 | 227=>206 | 228=>207 | 137=>71 | 119=>243 | 224=>244 | 225=>245 | 217=>121 | 266=>168 | n=>n,fun | 9=>9 | 3=>3 | 4=>4 | 5=>5 | 21=>21 | 117=>235 | 116=>234 | 0=>0 | 46=>218 | 124=>242 | n=>n,fun | n=>n⟩
theorem Tryz.lays153:Go.Proofs.Lays.n153 Tryz.prog Tryz.lays153_ren:={
 mixed:=by kernel_rfl
 f119:=Tryz.func243.trans (Wy some (by kernel_rfl))
 f137:=Tryz.func71.trans (Wy some (by kernel_rfl))
 f152:=Tryz.func204.trans (Wy some (by kernel_rfl))
 f153:=Tryz.func167.trans (Wy some (by kernel_rfl))
 f217:=Tryz.func121.trans (Wy some (by kernel_rfl))
 f224:=Tryz.func244.trans (Wy some (by kernel_rfl))
 f225:=Tryz.func245.trans (Wy some (by kernel_rfl))
 f226:=Tryz.func205.trans (Wy some (by kernel_rfl))
 f227:=Tryz.func206.trans (Wy some (by kernel_rfl))
 f228:=Tryz.func207.trans (Wy some (by kernel_rfl))
 f266:=Tryz.func168.trans (Wy some (by kernel_rfl))
 t0:=Tryz.underlying0
 a0:=Tryz.isAgg0
 z0:=Tryz.sizeOf0
 v0:=Tryz.zeroValue0
 t3:=Tryz.underlying3
 a3:=Tryz.isAgg3
 z3:=Tryz.sizeOf3
 v3:=Tryz.zeroValue3
 t4:=Tryz.underlying4
 a4:=Tryz.isAgg4
 z4:=Tryz.sizeOf4
 v4:=Tryz.zeroValue4
 t5:=Tryz.underlying5
 a5:=Tryz.isAgg5
 z5:=Tryz.sizeOf5
 v5:=Tryz.zeroValue5
 t9:=Tryz.underlying9
 a9:=Tryz.isAgg9
 z9:=Tryz.sizeOf9
 v9:=Tryz.zeroValue9
 t21:=Tryz.underlying21
 a21:=Tryz.isAgg21
 z21:=Tryz.sizeOf21
 v21:=Tryz.zeroValue21
 t46:=Tryz.underlying218
 a46:=Tryz.isAgg218
 z46:=Tryz.sizeOf218
 v46:=Tryz.zeroValue218
 t116:=Tryz.underlying234
 a116:=Tryz.isAgg234
 z116:=Tryz.sizeOf234
 t117:=Tryz.underlying235
 a117:=Tryz.isAgg235
 z117:=Tryz.sizeOf235
 v117:=Tryz.zeroValue235
 t124:=Tryz.underlying242
 a124:=Tryz.isAgg242
 z124:=Tryz.sizeOf242
 v124:=Tryz.zeroValue242 }
open Go.RowKit Go.Lib in
theorem Tryz.strings_IndexAny_long (hv116:∀ w,(zeroValue 234).run Tryz.prog w = .ok (.agg (Array.replicate 256 (.bool false))) w) (s chars:ByteArray) (w:World) (h2:2<=chars.size) (h8:8<s.size) (hs:s.size<4294967281) (hcs:chars.size<4294967281) (hascii:∀ (j:Nat) b,chars.data.toList[j]?=some b->b.toNat<128) :
  Calls Tryz.prog 167 #[.string s,.string chars] w fun e w'=>e = .returned (.int .i64 (Lib.indexAny s.data.toList chars.data.toList))/\w'=((w.alloc (.cells (Lib.setCells chars.data.toList) 234)).alloc (.cells (Lib.setCells chars.data.toList) 234)):=Any.strings_IndexAny_long Tryz.lays153 hv116 (by kernel_rfl) s chars w h2 h8 hs hcs hascii
end Go.Proofs
end
namespace Go.Proofs.YtaipngaejfndgaaGreatDoor.Vcg
variable {nx e k n c off b q i u b1 j cap s1 size by' p:Nat} {fr:Fr} {v:Value} {R:Env} {L:Lay} {r:C} {src:Src} {f:FuncId} {args cs ds vs vs1 fargs:List C} {fn:Func} {code:Code} {l:Lz} {a:Int} {ps:List (Nat×C)} {KS:St->Prop} {H:List Hf} {rest:List Oper} {dst:Option Tmp} {op:BinOp} {ty t2 t:TypeId} {pos:String} {af:Array Edge} {g:Option (Nat×Bool)} {us:List Operand} {kd:LK} {z1 z2:Option (List Value)} {lo hi mx:Option Int} {k2:IntKind} {lk:List LK} {fp fo:Nat->Option Nat} {place:Nat->Option (Nat×Nat)} {xs:List zm} {ks1:MK} {fbx:List (List C)} {post:C->List (List C)->Nat->Prop} {P:Program} {x y:zm}
section
open CA CB
open Go.RowKit
section
variable {G:zo}
theorem jk (f:FsV) (n:Int) (hl:f.xs.length<=100000) (hR:zZ f.xs):Fun Tryz.prog G 58 [.agg (fsC f),.sc (.int .i64 n)] (.tup [.agg (Ya (zg n f.xs)),.sc (.bool (zl n f.xs))]) 0:=by
 refine fon Tryz.func58 ?_;dsimp only[Tryz.f58];push_cast;refine cl (zhi f n hl hR) ?_;push_cast;cases hh:zl n f.xs with
 | false =>
  have hg:zg n f.xs=uO:=by unfold zg;rw[GB hh];rfl
  push_cast [hh];exact dn (by push_cast [ze,zd,CLe,zh,hg,uO])
 | true =>
  obtain ⟨hlt,hg⟩:=G5 hR hh;have hg:zg n f.xs=f.xs[js n f.xs]:=by unfold zg;rw[hg];rfl
  have hat:=qR f.xs _ hlt;push_cast [hh,hat]
  (try simp only[lS]);repeat refine an ?_
  exact dn (by push_cast [ze,zd,CLe,zh,hg])
theorem zQ:∀ r∈zq xs,r.length=6:=fun r hr=>by
 obtain ⟨x,_,rfl⟩:=WT.1 hr;rfl
theorem zt:jn (zq xs):=fun r hr=>by
 obtain ⟨x,_,rfl⟩:=WT.1 hr;rfl
theorem Vp (f:FsV) (x:zm) (hl:f.xs.length<=90000) (hR:zZ f.xs) :
  Fun Tryz.prog G 258 [.agg (fsC f),.agg (Ya x)] (.agg [.sc (.int .i64 f.maxI),.sc (.int .i64 f.maxB),.sc (.int .i64 f.next),.own 0 96 6 (zq (qp x f.xs))]) 1:=by
 have hll:(zq f.xs).length=f.xs.length:=We ..;refine foF (fun _=>[]) Tryz.func258 ?_;dsimp only[Tryz.f258];push_cast;refine cl (zhi f x.ino (by omega) hR) ?_;push_cast;refine jT [] [] (QC (zq f.xs) zQ zt (by omega)) rfl (by decide) (by decide) (by simp) (by push_cast) (by push_cast) (fun r bx' m hp=>?_);obtain ⟨rfl,⟨hne,c,h1,h2,rfl,rfl⟩ | ⟨he,⟨rfl,rfl⟩ | ⟨rfl,rfl⟩⟩⟩:=hp
 ·have hbl:=JB zQ h1;have hre:∀ fp fo,C.reL fp fo (qw 6 (zq f.xs) c)=qw 6 (zq f.xs) c:=fun fp fo=>zB (zD zt);have hpos:=WK.2 hne;cases hh:zl x.ino f.xs with
  | true =>
   obtain ⟨hlt,_⟩:=G5 hR hh;have hst:=za0 (c:=c) (rows:=zq f.xs) (row:=Ya x) (i:=js x.ino f.xs) zQ rfl (by omega);have hset:zq (qp x f.xs)=(zq f.xs).set (js x.ino f.xs) (Ya x):=by rw[←vu hR hh];simp[List.map_set]
   push_cast [hh,hre,hst];refine ⟨by omega,by omega,by rw[hbl];omega,[(4,96,6,(zq f.xs).set (js x.ino f.xs) (Ya x),c)],[.inl 0],?_,rfl,rfl,by push_cast [ze,zd,CLe,zh,hset,Bo]⟩;rw[←hset];refine zy (by rw[hset];rfl) (by omega) (by rw[hset,Bo];exact h1) h2 zQ zt
  | false =>
   have hset:zq (qp x f.xs)=(zq f.xs).take (js x.ino f.xs)++Ya x :: (zq f.xs).drop (js x.ino f.xs):=by rw[←ub hR hh];simp
   have hrl:=zgB x.ino f.xs;have hsl:(zq (qp x f.xs)).length=(zq f.xs).length+1:=by rw[hset];simp;omega
   push_cast [hh,hre];refine jT [4] [0] (Ux (e:=96) (zq f.xs) (Ya x) (js x.ino f.xs) c zQ rfl zt rfl (by omega) (by omega) h1 h2) rfl (by decide) (by decide) (by simp) (by push_cast) (by push_cast [hre]) (fun r bx' m hp=>?_);rw[←hset]at hp;have hre2:∀ fp fo c,C.reL fp fo (qw 6 (zq (qp x f.xs)) c)=qw 6 (zq (qp x f.xs)) c:=fun fp fo c=>zB (zD zt);obtain ⟨rfl,c',g1,g2,⟨rfl,rfl⟩ | ⟨rfl,rfl⟩⟩:=hp
   ·push_cast [hre2,hre];exact ⟨[(4,96,6,zq (qp x f.xs),c')],[.inl 1],zy rfl (by omega) g1 g2 zQ zt,rfl,rfl,by push_cast [ze,zd,CLe,zh]⟩
   ·have hra:∀ fp fo,C.reL fp fo (List.replicate (c*6) .any)=List.replicate (c*6) .any:=fun fp fo=>zB (by simp[OK,C.stayB]);push_cast [hre2,hre,hra];exact ⟨[(5,96,6,zq (qp x f.xs),c')],[.inl 1],zy rfl (by omega) g1 g2 zQ zt,rfl,rfl,by push_cast [ze,zd,CLe,zh]⟩
 ·have he:f.xs = []:=by simpa using he
  have hh:zl x.ino f.xs=false:=by rw[he];rfl
  have hr0:js x.ino f.xs=0:=by rw[he];rfl
  have hset:qp x f.xs = [x]:=by rw[he];rfl
  push_cast [hh,hr0];refine jT [] [0] (u0 (e:=96) (Ya x) rfl rfl) rfl (by decide) (by decide) (by simp) (by push_cast) (by push_cast) (fun r bx' m hp=>?_);obtain ⟨rfl,c,g1,g2,rfl,rfl⟩:=hp;have hre:∀ fp fo,C.reL fp fo (qw 6 [Ya x] c)=qw 6 [Ya x] c:=fun fp fo=>zB (zD (zt (xs:=[x])));push_cast [hre];exact ⟨[(3,96,6,zq [x],c)],[.inl 1],zy rfl (by omega) g1 g2 zQ zt,rfl,rfl,by push_cast [ze,zd,CLe,zh,hset]⟩
 ·have he:f.xs = []:=by simpa using he
  have hh:zl x.ino f.xs=false:=by rw[he];rfl
  have hr0:js x.ino f.xs=0:=by rw[he];rfl
  have hset:qp x f.xs = [x]:=by rw[he];rfl
  push_cast [hh,hr0];refine jT [3] [0] (Ux (e:=96) [] (Ya x) 0 0 (fun r hr=>by cases hr) rfl (fun r hr=>by cases hr) rfl (by simp) (by simp) (by simp) (by simp)) rfl (by decide) (by decide) (by simp) (by push_cast) (by push_cast [qw]) (fun r bx' m hp=>?_);obtain ⟨rfl,c,g1,g2,hp⟩:=hp;have hre:∀ fp fo,C.reL fp fo (qw 6 [Ya x] c)=qw 6 [Ya x] c:=fun fp fo=>zB (zD (zt (xs:=[x])));rcases hp with ⟨rfl,rfl⟩ | ⟨rfl,rfl⟩
  ·push_cast [hre];exact ⟨[(3,96,6,zq [x],c)],[.inl 1],zy rfl (WI (AT _) g1) g1 g2 zQ zt,rfl,rfl,by push_cast [ze,zd,CLe,zh,hset]⟩
  ·push_cast [hre];exact ⟨[(4,96,6,zq [x],c)],[.inl 1],zy rfl (WI (AT _) g1) g1 g2 zQ zt,rfl,rfl,by push_cast [ze,zd,CLe,zh,hset]⟩
theorem zh6 (f:FsV) (n:Int) (hl:f.xs.length<=90000) (hR:zZ f.xs) (h0:f.xs≠[]) :
  Fun Tryz.prog G 262 [.agg (fsC f),.sc (.int .i64 n)] (.agg [.sc (.int .i64 f.maxI),.sc (.int .i64 f.maxB),.sc (.int .i64 f.next),.own 0 96 6 (zq (qd n f.xs))]) 1:=by
 have hll:(zq f.xs).length=f.xs.length:=We ..;refine foF (fun _=>[]) Tryz.func262 ?_;dsimp only[Tryz.f262];push_cast;refine cl (zhi f n (by omega) hR) ?_;push_cast;refine jT [] [] (QC (zq f.xs) zQ zt (by omega)) rfl (by decide) (by decide) (by simp) (by push_cast) (by push_cast) (fun r bx' m hp=>?_);obtain ⟨rfl,⟨hne,c,h1,h2,rfl,rfl⟩ | ⟨he,_⟩⟩:=hp
 ·have hre:∀ fp fo,C.reL fp fo (qw 6 (zq f.xs) c)=qw 6 (zq f.xs) c:=fun fp fo=>zB (zD zt);have hpos:=WK.2 hne;cases hh:zl n f.xs with
  | true =>
   obtain ⟨hlt,_⟩:=G5 hR hh;have hset:zq (qd n f.xs)=(zq f.xs).take (js n f.xs)++(zq f.xs).drop (js n f.xs+1):=by rw[←uN hR hh];simp
   have hsl:(zq (qd n f.xs)).length=(zq f.xs).length-1:=by rw[hset];simp;omega
   have hd:=zjD (G:=G) (zq f.xs) (js n f.xs) c zQ zt (by omega) (by omega) h1 h2;rw[←hset,←hsl]at hd;have hre2:∀ fp fo,C.reL fp fo (qw 6 (zq (qd n f.xs)) c)=qw 6 (zq (qd n f.xs)) c:=fun fp fo=>zB (zD zt);push_cast [hh,hre]
   (try simp only[lS]);repeat refine an ?_
   rw[hll]at hd;refine Xc [3] [] hd rfl (by decide) (by decide) (by simp) (by push_cast) (by push_cast [hre]) ?_;push_cast [hre,hre2];exact ⟨[(3,96,6,zq (qd n f.xs),c)],[.inl 0],zy rfl (by omega) (by omega) h2 zQ zt,rfl,rfl,by push_cast [ze,zd,CLe,zh]⟩
  | false =>
   push_cast [hh,hre];exact ⟨[(3,96,6,zq f.xs,c)],[.inl 0],zy rfl (by omega) h1 h2 zQ zt,rfl,rfl,by push_cast [ze,zd,CLe,zh,ZX hh]⟩
 ·exact absurd (by simpa using he) h0
theorem ziz (f:FsV) (hl:f.xs.length<=90000) (h0:f.xs≠[]) (h1:-4611686018427387904<=f.next) (h2:f.next<=4611686018427387904) :
  Fun Tryz.prog G 256 [.agg (fsC f)] (.tup [.agg [.sc (.int .i64 f.maxI),.sc (.int .i64 f.maxB),.sc (.int .i64 (f.next+1)),.own 0 96 6 (zq f.xs)],.sc (.int .i64 f.next)]) 1:=by
 have hll:(zq f.xs).length=f.xs.length:=We ..;refine foF (fun _=>[]) Tryz.func256 ?_;dsimp only[Tryz.f256];push_cast
 (try simp only[lS]);repeat refine an ?_
 refine jT [] [] (QC (zq f.xs) zQ zt (by omega)) rfl (by decide) (by decide) (by simp) (by push_cast) (by push_cast) (fun r bx' m hp=>?_);obtain ⟨rfl,⟨hne,c,h1,h2,rfl,rfl⟩ | ⟨he,_⟩⟩:=hp
 ·have hre:∀ fp fo,C.reL fp fo (qw 6 (zq f.xs) c)=qw 6 (zq f.xs) c:=fun fp fo=>zB (zD zt);have hpos:=WK.2 hne;push_cast [hre];exact ⟨[(3,96,6,zq f.xs,c)],[.inl 0],zy rfl (by omega) h1 h2 zQ zt,rfl,rfl,by push_cast [ze,zd,CLe,zh]⟩
 ·exact absurd (by simpa using he) h0
theorem zil {L:Loc} {id:Nat} (h:Rep R L (.own id e 6 [[.sc (.int .i64 1),.sc (.int .i64 2),.sc (.int .i64 0),.str [],.sc (.int .i64 1),.sc (.slice none 0 0)]]) v):Rep R L (.own id e 6 (zq [⟨1,2,0,[],1,[]⟩])) v:=
 zby (by simp[RLe,zh,CLe]) h
theorem X2 {α:Type} {a b:List α} (ha:i<a.length) (hb:i<b.length) (h:a.take i=b.take i):(a.take (i+1)=b.take (i+1))↔a[i]=b[i]:=by
 rw[WX,WX,h,List.append_right_inj,Wa ha,Wa hb];simp
theorem zqH (a b:zX):(decide (a.name=b.name)&&decide (a.ino=b.ino))=decide (a=b):=by
 cases a;cases b;simp
theorem zqx (a b:zm):a=b↔a.ino=b.ino/\a.kind=b.kind/\a.links=b.links/\a.data=b.data/\a.parent=b.parent/\a.es=b.es:=by
 cases a;cases b;simp
theorem zr2 (a b:FsV):a=b↔a.maxI=b.maxI/\a.maxB=b.maxB/\a.next=b.next/\a.xs=b.xs:=by
 cases a;cases b;simp
end
end
section
open CA CB
open Go.RowKit
section
variable {G:zo}
theorem xa (a b:List zX) (ha:a.length<=9223372036854775807):Fun Tryz.prog G 134 [.sl 2 (zN a),.sl 2 (zN b)] (.sc (.bool (decide (a=b)))) 0:=by
 refine fon Tryz.func134 ?_;dsimp only[Tryz.f134];have hla:(zN a).length=a.length:=We ..;have hlb:(zN b).length=b.length:=We ..;by_cases hab:a.length=b.length
 ·push_cast [hla,hlb,hab];refine loop (fun i:Nat=>⟨[(0,.sl 2 (zN a)),(1,.sl 2 (zN b)),(5,.sc (.int .i64 i))],[],0,0⟩) (fun i=>i<=b.length/\a.take i=b.take i) (fun i=>b.length-i) 0 ⟨Wc _,rfl⟩ ?_ ?_
  ·exact wk
  ·rintro i ⟨h1,h2⟩;by_cases h:i<b.length
   ·have g1:=JN a i (by omega);have g2:=JN b i h;push_cast [hla,hab,h,g1,g2]
    repeat refine an ?_
    have hd:=zqH a[i] b[i];by_cases he:a[i]=b[i]
    ·have hd:(decide (a[i].name=b[i].name)&&decide (a[i].ino=b[i].ino))=true:=by rw[hd,Wn he]
     push_cast [hd]
     repeat refine an ?_
     exact ⟨i+1,⟨h,(X2 (by omega) h h2).2 he⟩,by omega,wk⟩
    ·have hd:(decide (a[i].name=b[i].name)&&decide (a[i].ino=b[i].ino))=false:=by rw[hd,Wm he]
     push_cast [hd];have:a≠b:=fun h=>he (by subst h;rfl);exact dn (by push_cast [ze,zd,CLe,zh,this])
   ·push_cast [hla,hab,h];have:a=b:=by rw[←Wg (l:=a) (i:=i) (by omega),h2,Wg (by omega)]
    exact dn (by push_cast [ze,zd,CLe,zh,this])
 ·push_cast [hla,hlb,hab];have:a≠b:=fun h=>hab (by rw[h]);exact dn (by push_cast [ze,zd,CLe,zh,this])
theorem zno (x y:zm) (hx:x.es.length<=9223372036854775807):Fun Tryz.prog G 82 [.agg (Ya x),.agg (Ya y)] (.sc (.bool (decide (x=y)))) 0:=by
 refine fon Tryz.func82 ?_;dsimp only[Tryz.f82];by_cases e0:x.ino=y.ino
 case neg =>
  have hn:¬x=y:=fun h=>e0 (by rw[h]);push_cast [e0];exact dn (by push_cast [ze,zd,CLe,zh,hn])
 by_cases e1:x.kind=y.kind
 case neg =>
  have hn:¬x=y:=fun h=>e1 (by rw[h]);push_cast [e0,e1];exact dn (by push_cast [ze,zd,CLe,zh,hn])
 by_cases e2:x.links=y.links
 case neg =>
  have hn:¬x=y:=fun h=>e2 (by rw[h]);push_cast [e0,e1,e2];exact dn (by push_cast [ze,zd,CLe,zh,hn])
 by_cases e3:x.data=y.data
 case neg =>
  have hn:¬x=y:=fun h=>e3 (by rw[h]);push_cast [e0,e1,e2,e3];exact dn (by push_cast [ze,zd,CLe,zh,hn])
 by_cases e4:x.parent=y.parent
 case neg =>
  have hn:¬x=y:=fun h=>e4 (by rw[h]);push_cast [e0,e1,e2,e3,e4];exact dn (by push_cast [ze,zd,CLe,zh,hn])
 by_cases e5:x.es=y.es
 case neg =>
  have hn:¬x=y:=fun h=>e5 (by rw[h]);push_cast [e0,e1,e2,e3,e4];refine cl (xa x.es y.es hx) ?_;push_cast [e5,hn];exact dn (by push_cast [ze,zd,CLe,zh,hn])
 have hn:x=y:=(zqx x y).2 ⟨e0,e1,e2,e3,e4,e5⟩;push_cast [e0,e1,e2,e3,e4];refine cl (xa x.es y.es hx) ?_;push_cast [e5];exact dn (by push_cast [ze,zd,CLe,zh,hn])
theorem GY (a b:List zm) (ha:a.length<=100000) (he:∀ x∈a,x.es.length<=9223372036854775807):Fun Tryz.prog G 41 [.sl 6 (zq a),.sl 6 (zq b)] (.sc (.bool (decide (a=b)))) 0:=by
 refine fon Tryz.func41 ?_;dsimp only[Tryz.f41];have hla:(zq a).length=a.length:=We ..;have hlb:(zq b).length=b.length:=We ..;by_cases hab:a.length=b.length
 ·push_cast [hla,hlb,hab];refine loop (fun i:Nat=>⟨[(0,.sl 6 (zq a)),(1,.sl 6 (zq b)),(5,.sc (.int .i64 i))],[],0,0⟩) (fun i=>i<=b.length/\a.take i=b.take i) (fun i=>b.length-i) 0 ⟨Wc _,rfl⟩ ?_ ?_
  ·exact wk
  ·rintro i ⟨h1,h2⟩;by_cases h:i<b.length
   ·have g1:=qR a i (by omega);have g2:=qR b i h;push_cast [hla,hab,h,g1,g2]
    repeat refine an ?_
    refine cl (zno a[i] b[i] (he _ (Wv _))) ?_;push_cast;by_cases he:a[i]=b[i]
    ·push_cast [Wn he]
     repeat refine an ?_
     exact ⟨i+1,⟨h,(X2 (by omega) h h2).2 he⟩,by omega,wk⟩
    ·push_cast [Wm he];have:a≠b:=fun h=>he (by subst h;rfl);exact dn (by push_cast [ze,zd,CLe,zh,this])
   ·push_cast [hla,hab,h];have:a=b:=by rw[←Wg (l:=a) (i:=i) (by omega),h2,Wg (by omega)]
    exact dn (by push_cast [ze,zd,CLe,zh,this])
 ·push_cast [hla,hlb,hab];have:a≠b:=fun h=>hab (by rw[h]);exact dn (by push_cast [ze,zd,CLe,zh,this])
theorem zec (x y:FsV) (ha:x.xs.length<=100000) (he:∀ z∈x.xs,z.es.length<=9223372036854775807):Fun Tryz.prog G 14 [.agg (fsC x),.agg (fsC y)] (.sc (.bool (decide (x=y)))) 0:=by
 refine fon Tryz.func14 ?_;dsimp only[Tryz.f14];by_cases e0:x.maxI=y.maxI
 case neg =>
  have hn:¬x=y:=fun h=>e0 (by rw[h]);push_cast [e0];exact dn (by push_cast [ze,zd,CLe,zh,hn])
 by_cases e1:x.maxB=y.maxB
 case neg =>
  have hn:¬x=y:=fun h=>e1 (by rw[h]);push_cast [e0,e1];exact dn (by push_cast [ze,zd,CLe,zh,hn])
 by_cases e2:x.next=y.next
 case neg =>
  have hn:¬x=y:=fun h=>e2 (by rw[h]);push_cast [e0,e1,e2];exact dn (by push_cast [ze,zd,CLe,zh,hn])
 by_cases e3:x.xs=y.xs
 case neg =>
  have hn:¬x=y:=fun h=>e3 (by rw[h]);push_cast [e0,e1,e2];refine cl (GY x.xs y.xs ha he) ?_;push_cast [e3,hn];exact dn (by push_cast [ze,zd,CLe,zh,hn])
 have hn:x=y:=(zr2 x y).2 ⟨e0,e1,e2,e3⟩;push_cast [e0,e1,e2];refine cl (GY x.xs y.xs ha he) ?_;push_cast [e3];exact dn (by push_cast [ze,zd,CLe,zh,hn])
theorem zb1 (hi:i<xs.length) (h0:0<i):zZ (xs.take (i+1))↔zZ (xs.take i)/\xs[i-1].ino<xs[i].ino:=by
 rw[WX,Wa hi];unfold zZ;rw[A2];simp only[Option.toList_some,Bv,true_and,W8,forall_eq];constructor
 ·rintro ⟨h1,h2⟩;exact ⟨h1,h2 _ (AC.2 ⟨i-1,by omega,rfl⟩)⟩
 ·rintro ⟨h1,h2⟩;refine ⟨h1,fun a ha=>?_⟩;obtain ⟨j,hj,rfl⟩:=AC.1 ha;rcases Wr j (i-1) with q | q
  ·have:=(WU.1 h1) j (i-1) (by simp;omega) (by simp;omega) q;simp at this;omega
  ·have:j=i-1:=by omega
   subst this;exact h2
instance (xs:List zm):Decidable (zZ xs):=by unfold zZ;infer_instance
theorem Uu (f:FsV) (hl:f.xs.length<=100000):Fun Tryz.prog G 116 [.agg (fsC f)] (.sc (.bool (decide (zZ f.xs)))) 0:=by
 have hll:(zq f.xs).length=f.xs.length:=We ..;refine fon Tryz.func116 ?_;dsimp only[Tryz.f116];push_cast;refine loop (fun i:Nat=>⟨[(1,.ptr 0 0),(3,.sc (.int .i64 i))],[fsC f],0,0⟩) (fun i=>1<=i/\zZ (f.xs.take i)) (fun i=>f.xs.length-i) 1 ⟨Wb _,by
  cases f.xs with
  | nil=>exact List.Pairwise.nil
  | cons x r=>exact Bv _ _⟩ ?_ ?_
 ·exact wk
 ·rintro i ⟨h1,h2⟩;by_cases h:i<f.xs.length
  ·have g1:=qR f.xs i h;have g2:=qR f.xs (i-1) (by omega);have e1:(i:Int)-1=((i-1:Nat):Int):=by omega
   push_cast [hll,h,e1,g1,g2];by_cases hc:f.xs[i].ino<=f.xs[i-1].ino
   ·push_cast [hc]
    repeat refine an ?_
    have hn:¬zZ f.xs:=fun hR=>by
     have:=(WU.1 hR) (i-1) i (by omega) h (by omega);omega
    exact dn (by push_cast [ze,zd,CLe,zh,hn])
   ·push_cast [hc]
    repeat refine an ?_
    exact ⟨i+1,⟨by omega,(zb1 h (by omega)).2 ⟨h2,by omega⟩⟩,by omega,wk⟩
  ·push_cast [hll,h];rw[Wg (by omega)]at h2;exact dn (by push_cast [ze,zd,CLe,zh,h2])
def x4 (x:zm):Prop:=x.data.length<=5000/\x.es.length<=40/\∀ e∈x.es,e.name.length<=300
instance (x:zm):Decidable (x4 x):=by unfold x4;infer_instance
def HB (xs:List zm):Prop:=xs.length<=40/\∀ x∈xs,x4 x
instance (xs:List zm):Decidable (HB xs):=by unfold HB;infer_instance
structure FsS (f:FsV):Prop where
 len:f.xs.length<=10000
 node:∀ x∈f.xs,x.es.length<=10000/\x.data.length<=10000/\∀ e∈x.es,e.name.length<=10000
theorem HB.fs {f:FsV} (h:HB f.xs):FsS f:=⟨by have:=h.1;omega,fun x hx=>by
 obtain ⟨h1,h2,h3⟩:=h.2 x hx;exact ⟨by omega,by omega,fun e he=>by have:=h3 e he;omega⟩⟩
theorem uC (f:FsV):Fun Tryz.prog G 113 [.agg (fsC f)] (.sc (.bool (decide (HB f.xs)))) 0:=by
 have hll:(zq f.xs).length=f.xs.length:=We ..;refine fon Tryz.func113 ?_;dsimp only[Tryz.f113];push_cast;refine loop (fun i:Nat=>⟨[(1,.ptr 0 0),(3,.sc (.int .i64 i))],[fsC f],0,0⟩) (fun i=>i<=100/\∀ t (h:t<f.xs.length),t<i->x4 f.xs[t]) (fun i=>100-i) 0 ⟨Wc _,fun t h h'=>absurd h' (OJ _)⟩ ?_ ?_
 ·exact wk
 ·rintro i ⟨h1,h2⟩;have hend:¬(i<f.xs.length/\i<100)->decide ((f.xs.length:Int)<=40)=decide (HB f.xs):=fun h=>by
   rw[Ba];constructor
   ·intro hle;refine ⟨by omega,fun x hx=>?_⟩;obtain ⟨t,ht,rfl⟩:=WE hx;exact h2 t ht (by omega)
   ·intro h;have:=h.1;omega
  by_cases h:i<f.xs.length
  ·by_cases h100:i<100
   ·have g1:=qR f.xs i h;have h100':(i:Int)<100:=by omega
    have hbad:¬x4 f.xs[i]->¬HB f.xs:=fun hs hf=>hs (hf.2 _ (Wv h));by_cases hd:5000<(f.xs[i].data.length:Int)
    ·have hn:=hbad fun hs=>by have:=hs.1;omega
     push_cast [hll,h,h100',g1,hd]
     repeat refine an ?_
     exact dn (by push_cast [ze,zd,CLe,zh,hn])
    ·by_cases he:40<(f.xs[i].es.length:Int)
     ·have hn:=hbad fun hs=>by have:=hs.2.1;omega
      push_cast [hll,h,h100',g1,hd,We,he]
      repeat refine an ?_
      exact dn (by push_cast [ze,zd,CLe,zh,hn])
     ·push_cast [hll,h,h100',g1,hd,We,he]
      repeat refine an ?_
      refine loop (fun j:Nat=>⟨[(1,.ptr 0 0),(3,.sc (.int .i64 i)),(4,.ptr 1 0),(5,.sc (.int .i64 j))],[fsC f,Ya f.xs[i]],0,0⟩) (fun j=>j<=f.xs[i].es.length/\∀ t (h':t<f.xs[i].es.length),t<j->f.xs[i].es[t].name.length<=300) (fun j=>f.xs[i].es.length-j) 0 ⟨Wc _,fun t h h'=>absurd h' (OJ _)⟩ ?_ ?_
      ·exact wk
      ·rintro j ⟨h3,h4⟩;by_cases hj:j<f.xs[i].es.length
       ·have g2:=JN f.xs[i].es j hj;by_cases hs:300<(f.xs[i].es[j].name.length:Int)
        ·have hn:=hbad fun hs'=>by have:=hs'.2.2 _ (Wv hj);omega
         push_cast [We,hj,g2,hs]
         repeat refine an ?_
         exact dn (by push_cast [ze,zd,CLe,zh,hn])
        ·push_cast [We,hj,g2,hs]
         repeat refine an ?_
         refine ⟨j+1,⟨hj,fun t ht hlt=>?_⟩,by omega,wk⟩;rcases Wr t j with q | q
         ·exact h4 t ht q
         ·have:t=j:=by omega
          subst this;omega
       ·push_cast [We,hj]
        repeat refine an ?_
        refine ⟨i+1,⟨by omega,fun t ht hlt=>?_⟩,by omega,wk⟩;rcases Wr t i with q | q
        ·exact h2 t ht q
        ·have:t=i:=by omega
         subst this;refine ⟨by omega,by omega,fun e hee=>?_⟩;obtain ⟨u,hu,rfl⟩:=WE hee;exact h4 u hu (by omega)
   ·have h100':((i:Int)<100)=False:=WR (by omega);have:=hend (by omega);push_cast [hll,h,h100'];exact dn (by push_cast [ze,zd,CLe,zh,this])
  ·have:=hend (by omega);push_cast [hll,h];exact dn (by push_cast [ze,zd,CLe,zh,this])
theorem zgA (f:FsV) (n:Int) (hl:f.xs.length<=90000) :
  Fun Tryz.prog G 141 [.agg (fsC f),.sc (.int .i64 n)] (.agg [.sc (.int .i64 f.maxI),.sc (.int .i64 f.maxB),.sc (.int .i64 f.next),.own 0 96 6 (zq (qd n f.xs))]) 1:=by
 have hll:(zq f.xs).length=f.xs.length:=We ..;refine fon Tryz.func141 ?_;dsimp only[Tryz.f141];push_cast;refine loop (fun i:Nat=>⟨[(1,.sc (.int .i64 n)),(2,.ptr 0 0),(4,.ptr 1 0),(5,.own 0 96 6 (zq (qd n (f.xs.take i)))),(6,.sc (.int .i64 i))],[fsC f,[.sc (.int .i64 0),.sc (.int .i64 0),.sc (.int .i64 0),.sc (.slice none 0 0)]],1,0⟩) (fun i=>i<=f.xs.length) (fun i=>f.xs.length-i) 0 (Wc _) ?_ ?_
 ·exact wks [.inr (96,6)] (by push_cast [ze,zd,CLe,zh,qd,List.filter_nil])
 ·intro i h1;by_cases h:i<f.xs.length
  ·have g1:=qR f.xs i h;have ht:qd n (f.xs.take (i+1))=qd n (f.xs.take i)++qd n [f.xs[i]]:=by
    unfold qd;rw[WX,Wa h,OS];rfl
   have hle:(qd n (f.xs.take i)).length<=i:=WJ Zt (by simp;omega);by_cases hc:f.xs[i].ino=n
   ·have ht:qd n (f.xs.take (i+1))=qd n (f.xs.take i):=by rw[ht,JG hc];simp[qd]
    push_cast [hll,h,g1,hc]
    repeat refine an ?_
    exact ⟨i+1,h,by omega,wks [.inl 0] (by push_cast [ze,zd,CLe,zh,ht])⟩
   ·have ht:qd n (f.xs.take (i+1))=qd n (f.xs.take i)++[f.xs[i]]:=by rw[ht,JL hc];simp[qd]
    push_cast [hll,h,g1,hc]
    repeat refine an ?_
    exact ⟨i+1,h,by omega,wks [.inl 0] (by push_cast [ze,zd,CLe,zh,ht,Oc])⟩
  ·rw[Wg (by omega)];push_cast [hll,h];exact ⟨[.inl 0],rfl,rfl,by push_cast [ze,zd,CLe,zh]⟩
theorem uX (f:FsV) (x:zm) (hl:f.xs.length<=90000) :
  Fun Tryz.prog G 97 [.agg (fsC f),.agg (Ya x)] (.agg [.sc (.int .i64 f.maxI),.sc (.int .i64 f.maxB),.sc (.int .i64 f.next),.own 0 96 6 (zq (qp x f.xs))]) 1:=by
 have hdl:(qd x.ino f.xs).length<=90000:=WJ Zt hl;have hl2:(zq (qd x.ino f.xs)).length=(qd x.ino f.xs).length:=We ..;refine fon Tryz.func97 ?_;dsimp only[Tryz.f97];push_cast;refine cl (zgA f x.ino hl) ?_;push_cast;unfold qp;generalize qd x.ino f.xs=rest at hdl hl2;refine loop (fun p:Nat×List zm×Bool=>⟨[(2,.ptr 0 0),(3,.ptr 1 0),(4,.ptr 2 0),(5,.sl 6 (zq rest)),(6,.own 0 96 6 (zq p.2.1)),(7,.sc (.bool p.2.2)),(8,.sc (.int .i64 p.1))],[fsC f,Ya x,[.sc (.int .i64 0),.sc (.int .i64 0),.sc (.int .i64 0),.sc (.slice none 0 0)]],1,0⟩)
  (fun p=>p.1<=rest.length/\p.2.1.length<=p.1+p.2.2.toNat/\ZC x rest=p.2.1++(if p.2.2 then rest.drop p.1 else ZC x (rest.drop p.1))) (fun p=>rest.length-p.1) (0,[],false) ⟨Wc _,Wc _,by simp⟩ ?_ ?_
 ·exact wks [.inr (96,6)]
 ·rintro ⟨i,out,d⟩ ⟨h1,h2,h3⟩;dsimp only at h1 h2 h3 ⊢;have hlo:(zq out).length=out.length:=We ..;by_cases h:i<rest.length
  ·have g1:=qR rest i h;rw[Ou h]at h3;cases d with
   | true =>
    simp only[Bool.toNat_true]at h2;push_cast [hl2,h,g1]
    repeat refine an ?_
    exact ⟨(i+1,out++[rest[i]],true),⟨h,by simp;omega,by rw[h3];simp⟩,by dsimp only;omega,wks [.inl 0] (by push_cast [ze,zd,CLe,zh,Oc])⟩
   | false =>
    simp only[WO,W4,ZC]at h3;simp only[Bool.toNat_false]at h2;by_cases hc:x.ino<rest[i].ino
    ·rw[if_pos hc]at h3;push_cast [hl2,h,g1,hc]
     repeat refine an ?_
     exact ⟨(i+1,out++[x]++[rest[i]],true),⟨h,by simp;omega,by rw[h3];simp⟩,by dsimp only;omega,wks [.inl 0] (by push_cast [ze,zd,CLe,zh,Oc])⟩
    ·rw[if_neg hc]at h3;push_cast [hl2,h,g1,hc]
     repeat refine an ?_
     exact ⟨(i+1,out++[rest[i]],false),⟨h,by simp;omega,by rw[h3];simp⟩,by dsimp only;omega,wks [.inl 0] (by push_cast [ze,zd,CLe,zh,Oc])⟩
  ·rw[OR (by omega)]at h3;cases d with
   | true =>
    simp only[Bool.toNat_true]at h2;have h3:ZC x rest=out:=by rw[h3];simp
    push_cast [hl2,h];exact ⟨[.inl 0],rfl,rfl,by push_cast [ze,zd,CLe,zh,h3]⟩
   | false =>
    simp only[Bool.toNat_false]at h2;have h3:ZC x rest=out++[x]:=by rw[h3];simp[ZC]
    push_cast [hl2,h]
    repeat refine an ?_
    exact ⟨[.inl 0],rfl,rfl,by push_cast [ze,zd,CLe,zh,h3,Oc]⟩
theorem ziP (i b:Int):Fun Tryz.prog G 25 [.sc (.int .i64 i),.sc (.int .i64 b)] (.agg [.sc (.int .i64 i),.sc (.int .i64 b),.sc (.int .i64 2),.own 0 96 6 (zq [⟨1,2,0,[],1,[]⟩])]) 1:=by
 refine Fun.resX (r:=.agg [.sc (.int .i64 i),.sc (.int .i64 b),.sc (.int .i64 2),.own 0 96 6 [[.sc (.int .i64 1),.sc (.int .i64 2),.sc (.int .i64 0),.str [],.sc (.int .i64 1),.sc (.slice none 0 0)]]]) ?_ fun R L v h =>
  zcx (fun vs=>YA (fun v h=>h) (fun vs=>YA (fun v h=>h) fun vs=>YA (fun v h=>h) fun vs=>YA (fun v=>zil) fun vs h=>h)) h
 refine fon Tryz.func25 ?_;dsimp only[Tryz.f25];push_cast;exact ⟨[.inl 0],rfl,rfl,by push_cast [ze,zd,CLe,zh]⟩
end
end
section
open Go.RowKit
section
variable {G:zo}
theorem zjb {n:Int} (h:i<xs.length):zl n (xs.take (i+1))=(zl n (xs.take i)||(xs[i].ino==n)):=by
 unfold zl;rw[WX,Wa h,List.any_append];simp
theorem zhN {n:Int} (h:i<xs.length) (h0:zl n (xs.take i)=false) (he:xs[i].ino=n):zl n xs=true/\zg n xs=xs[i]:=by
 refine ⟨OF.2 ⟨xs[i],Wv h,by simp[he]⟩,?_⟩;unfold zg X3;rw[A9 (b:=xs[i]) |>.2 ⟨by simp[he],i,h,rfl,fun j hj=>?_⟩]
 ·rfl
 ·unfold zl at h0;rw[Ow]at h0;have:=h0 xs[j] (AC.2 ⟨j,by omega,rfl⟩);simpa using this
theorem Qr (f:FsV) (n:Int) (hl:f.xs.length<=100000):Fun Tryz.prog G 53 [.agg (fsC f),.sc (.int .i64 n)] (.tup [.agg (Ya (zg n f.xs)),.sc (.bool (zl n f.xs))]) 0:=by
 have hll:(zq f.xs).length=f.xs.length:=We ..;refine fon Tryz.func53 ?_;dsimp only[Tryz.f53];push_cast;refine loop (fun i:Nat=>⟨[(1,.sc (.int .i64 n)),(2,.ptr 0 0),(4,.ptr 1 0),(6,.sc (.int .i64 i))],[fsC f,[.sc (.int .i64 0),.sc (.int .i64 0),.sc (.int .i64 0),.str [],.sc (.int .i64 0),.sc (.slice none 0 0)]],0,0⟩) (fun i=>i<=f.xs.length/\zl n (f.xs.take i)=false) (fun i=>f.xs.length-i) 0 ⟨Wc _,rfl⟩ ?_ ?_
 ·exact wk
 ·rintro i ⟨h1,h2⟩;by_cases h:i<f.xs.length
  ·have g1:=qR f.xs i h;by_cases he:f.xs[i].ino=n
   ·obtain ⟨q1,q2⟩:=zhN h h2 he;push_cast [hll,h,g1,he]
    repeat refine an ?_
    exact dn (by push_cast [ze,zd,CLe,zh,q1,q2,he])
   ·have q:=zjb (n:=n) h;rw[h2,show (f.xs[i].ino==n)=false from On.2 he]at q;push_cast [hll,h,g1,he]
    repeat refine an ?_
    exact ⟨i+1,⟨h,q⟩,by omega,wk⟩
  ·rw[Wg (by omega)]at h2;have hg:zg n f.xs=uO:=by unfold zg;rw[GB h2];rfl
   push_cast [hll,h];exact dn (by push_cast [ze,zd,CLe,zh,hg,h2,uO])
def z7 (xs:List zm):Nat:=((xs.filter fun x=>decide (x.kind=1)).map fun x=>x.data.length).sum
theorem kV:∀ {xs:List zm} {n:Nat},(∀ x∈xs,x.data.length<=n)->z7 xs<=xs.length*n
 | [],n,_=>by simp[z7]
 | x :: r,n,h=>by
  have ih:=kV (xs:=r) (n:=n) fun y hy=>h y (Wk _ hy);have hx:=h x Wj;unfold z7 at ih ⊢;rw[O6];split
  ·simp only[Wp,OT,Wh];rw[AP];omega
  ·rw[Wh,AP];omega
theorem FsS.bytes {f:FsV} (h:FsS f):z7 f.xs<=100000000:=by
 have h1:=kV (xs:=f.xs) (n:=10000) fun x hx=>(h.node x hx).2.1;have h2:=h.len;have:f.xs.length*10000<=10000*10000:=WP _ h2;omega
theorem H4 (h:i<xs.length):z7 (xs.take (i+1))=z7 (xs.take i)+if xs[i].kind=1 then xs[i].data.length else 0:=by
 unfold z7;rw[WX,Wa h,OS,Oc,BI];by_cases hk:xs[i].kind=1<;>simp[hk]
theorem zfY (f:FsV) (hf:FsS f):Fun Tryz.prog G 176 [.agg (fsC f)] (.sc (.int .i64 (z7 f.xs:Nat))) 0:=by
 have hll:(zq f.xs).length=f.xs.length:=We ..;have h40:=hf.len;have hb0:z7 []=0:=rfl;refine fon Tryz.func176 ?_;dsimp only[Tryz.f176];push_cast;refine loop (fun i:Nat=>⟨[(1,.ptr 0 0),(3,.sc (.int .i64 (z7 (f.xs.take i):Nat))),(4,.sc (.int .i64 i))],[fsC f],0,0⟩) (fun i=>i<=f.xs.length/\z7 (f.xs.take i)<=i*10000) (fun i=>f.xs.length-i) 0 ⟨Wc _,Wc _⟩ ?_ ?_
 ·exact wk (by push_cast [ze,zd,CLe,zh,hb0,OD])
 ·rintro i ⟨h1,h2⟩;by_cases h:i<f.xs.length
  ·have g1:=qR f.xs i h;have hd:=(hf.node _ (Wv h)).2.1;have q:=H4 h;by_cases hk:f.xs[i].kind=1
   ·rw[if_pos hk]at q;have q':((z7 (f.xs.take (i+1)):Nat):Int)=(z7 (f.xs.take i):Int)+(f.xs[i].data.length:Int):=by omega
    push_cast [hll,h,g1,hk]
    repeat refine an ?_
    exact ⟨i+1,⟨h,by omega⟩,by omega,wk (by push_cast [ze,zd,CLe,zh,q'])⟩
   ·rw[if_neg hk]at q;have q':z7 (f.xs.take (i+1))=z7 (f.xs.take i):=by omega
    push_cast [hll,h,g1,hk]
    repeat refine an ?_
    exact ⟨i+1,⟨h,by omega⟩,by omega,wk (by push_cast [ze,zd,CLe,zh,q'])⟩
  ·rw[Wg (by omega)];push_cast [hll,h];exact dn
end
end
section
open Go.RowKit
abbrev G0:zo:=fun _=>none
abbrev zn7 (l:Lz):List C:=[.str l]
def Vz (s:List Lz×Lz) (b:UInt8):List Lz×Lz:=
 if b=47 then (if s.2 = [] then s.1 else s.1++[s.2],[]) else (s.1,s.2++[b])
def zk9 (s:List Lz×Lz):List Lz:=if s.2 = [] then s.1 else s.1++[s.2]
def nst (l:Lz) (k:Nat):List Lz×Lz:=if k<=l.length then (l.take k).foldl Vz ([],[]) else (zk9 (l.foldl Vz ([],[])),[])
def zF (l:Lz):List Lz:=zk9 (l.foldl Vz ([],[]))
theorem zaH (l:Lz):nst l 0=([],[]):=by simp[nst]
theorem uQ (l:Lz) (k:Nat) (b:UInt8) (h:l[k]?=some b):nst l (k+1)=Vz (nst l k) b:=by
 have hk:k<l.length:=(Wd.1 h).1;unfold nst;rw[if_pos (by omega),if_pos (by omega),WX,h];simp
theorem zdr (l:Lz):nst l (l.length+1)=(zF l,[]):=by
 unfold nst zF;rw[if_neg (by omega)]
theorem zfe (l:Lz):zk9 (nst l l.length)=zF l:=by
 unfold nst zF;rw[if_pos (Wb _),Oe]
theorem G7 (l:Lz):∀ k,k<=l.length->(nst l k).1.length+(nst l k).2.length<=k
 | 0,_=>by simp[zaH]
 | k+1,h=>by
  have hk:k<l.length:=by omega
  have ih:=G7 l k (by omega);rw[uQ l k l[k] (Wa hk)];unfold Vz;by_cases h47:l[k]=47
  ·rw[if_pos h47];by_cases h2:(nst l k).2 = []
   ·simp[h2];omega
   ·have:0<(nst l k).2.length:=WK.2 h2;simp[h2];omega
  ·rw[if_neg h47];simp;omega
theorem jB (l:Lz):(zF l).length<=l.length:=by
 rw[←zfe];have:=G7 l l.length (Wb _);unfold zk9;split
 ·omega
 ·rename_i h;have:0<(nst l l.length).2.length:=WK.2 h;simp;omega
theorem zmj {b c:UInt8} (h:b≠c):¬((b.toNat:Int)=(c.toNat:Int)):=fun e=>h (Ak.1 (by omega))
theorem zeS {α:Type} (l:List α) (k:Nat) (b:α) (h:l[k]?=some b):(l.take (k+1)).drop k = [b]:=by
 have hk:k<l.length:=(Wd.1 h).1;rw[WX,h,List.drop_append];simp[OH (by omega:k<=l.length)]
theorem zgz (l:Lz) (h:l.length<=2000000):Fun Tryz.prog G0 17 [.str l] (.own 0 9 1 ((zF l).map zn7)) 1:=by
 refine fon Tryz.func17 ?_;dsimp only[Tryz.f17];push_cast;refine loop (fun k:Nat=>⟨[(0,.str l),(3,.own 0 9 1 ((nst l k).1.map zn7)),(4,.str (nst l k).2),(5,.sc (.int .i64 k))],[],1,0⟩) (fun k=>k<=l.length+1) (fun k=>l.length+1-k) 0 (Wc _) ?_ ?_
 ·refine JF.mk [.inr (9,1)] rfl rfl (Wb _) rfl ?_ trivial;push_cast [ze,zd,CLe,zh];simp[zaH]
 ·intro k hk;push_cast;by_cases h1:k<=l.length
  ·have hs:=G7 l k h1;by_cases h2:k<l.length
   ·obtain ⟨b,hb⟩:∃ b,l[k]?=some b:=⟨l[k],Wa h2⟩;have hn:=uQ l k b hb;by_cases h3:b=47
    ·have h3':(b.toNat:Int)=47:=by subst h3;rfl
     by_cases h4:(nst l k).2 = []
     ·push_cast [h1,h2,h3',hb,h4]
      and_intros<;>try omega
      refine ⟨k+1,by omega,by omega,JF.mk [.inl 0] rfl rfl (Wb _) rfl ?_ trivial⟩;push_cast [ze,zd,CLe,zh];simp[hn,Vz,h3,h4]
     ·push_cast [h1,h2,h3',hb,h4];simp only[We,Wh,WC]
      and_intros<;>try omega
      refine ⟨k+1,by omega,by omega,JF.mk [.inl 0] rfl rfl (Wb _) rfl ?_ trivial⟩;push_cast [ze,zd,CLe,zh];simp[hn,Vz,h3,h4,zn7]
    ·have h3':¬((b.toNat:Int)=47):=zmj h3;push_cast [h1,h2,h3',hb];rw[zeS l k b hb]
     and_intros<;>try omega
     ·simp;omega
     refine ⟨k+1,by omega,by omega,JF.mk [.inl 0] rfl rfl (Wb _) rfl ?_ trivial⟩;push_cast [ze,zd,CLe,zh];simp[hn,Vz,h3]
   ·obtain rfl:k=l.length:=by omega
    have hl:=zfe l;have he:=zdr l;have hz:=jB l;by_cases h4:(nst l l.length).2 = []
    ·push_cast [h1,h2,h4]
     and_intros<;>try omega
     refine ⟨l.length+1,by omega,by omega,JF.mk [.inl 0] rfl rfl (Wb _) rfl ?_ trivial⟩;push_cast [ze,zd,CLe,zh];simp[he,←hl,zk9,h4]
    ·push_cast [h1,h2,h4];simp only[We,Wh,WC]
     and_intros<;>try omega
     refine ⟨l.length+1,by omega,by omega,JF.mk [.inl 0] rfl rfl (Wb _) rfl ?_ trivial⟩;push_cast [ze,zd,CLe,zh];simp[he,←hl,zk9,h4,zn7]
  ·obtain rfl:k=l.length+1:=by omega
   have he:=zdr l;push_cast [h1];exact ⟨[.inl 0],rfl,rfl,by push_cast [ze,zd,CLe,zh,he]⟩
end
section
open Go.RowKit
abbrev zL (xs:List Lz):List (List C):=xs.map zn7
theorem vY (xs:List Lz):(zL xs).length=xs.length:=We _
theorem zd2 (xs:List Lz) (x:Lz):zL xs++[[.str x]]=zL (xs++[x]):=by simp
theorem strs_get? (xs:List Lz) (k:Nat):(zL xs)[k]?=(xs[k]?).map zn7:=Ww
theorem zhg (xs:List Lz) (k:Nat):(zL xs).drop k=zL (xs.drop k):=List.map_drop.symm
theorem zdG (xs:List Lz) (k:Nat):(zL xs).take k=zL (xs.take k):=List.map_take.symm
theorem vk (xs ys:List Lz):zL xs++zL ys=zL (xs++ys):=Oc.symm
theorem U1 (xs:List Lz) (k:Nat) (h:k<xs.length):(zL xs)[k]?=some [.str (xs[k]'h)]:=by rw[strs_get?,Wa h];rfl
attribute [push_cast] vY zd2 zhg zdG vk
abbrev qQ (b:Bool):C:=.sc (.bool b)
theorem UA (a b:List Lz) (ha:a.length<=9223372036854775807):Fun Tryz.prog G0 15 [.sl 1 (zL a),.sl 1 (zL b)] (qQ (decide (a=b))) 0:=by
 by_cases hl:a.length=b.length
 ·refine fon Tryz.func15 ?_;dsimp only[Tryz.f15];push_cast [hl];refine loop (fun k:Nat=>⟨[(0,.sl 1 (zL a)),(1,.sl 1 (zL b)),(5,.sc (.int .i64 k))],[],0,0⟩) (fun k=>k<=a.length/\a.take k=b.take k) (fun k=>a.length-k) 0 ⟨Wc _,rfl⟩ ?_ ?_
  ·exact wk
  ·intro k hk;have hk1:=hk.1;have hk2:=hk.2;by_cases h:k<a.length
   ·have hga:=U1 a k h;have hgb:=U1 b k (by omega);by_cases he:a[k]'h=b[k]'(by omega)
    ·push_cast [h,hga,hgb,he];refine ⟨by omega,by omega,by omega,k+1,⟨by omega,?_⟩,by omega,wk⟩;rw[WX,WX,hk2,Wa h,Wa (by omega:k<b.length),he]
    ·push_cast [h,hga,hgb,he];refine ⟨by omega,by omega,[],rfl,rfl,?_⟩;push_cast [ze,zd,CLe,zh];have:a≠b:=fun e=>he (by subst e;rfl);simp[this]
   ·have hkl:k=a.length:=by omega
    push_cast [h];refine ⟨[],rfl,rfl,?_⟩;push_cast [ze,zd,CLe,zh];rw[hkl,Oe,hl,Oe]at hk2;simp[hk2]
 ·have hl':¬((a.length:Int)=(b.length:Int)):=by omega
  refine fon Tryz.func15 ?_;dsimp only[Tryz.f15];push_cast [hl];refine ⟨[],rfl,rfl,?_⟩;push_cast [ze,zd,CLe,zh];have:a≠b:=fun e=>hl (by rw[e]);simp[this]
def few (l:List Lz):Bool:=(l.take 100).all (fun x=>decide (x.length<=300))&&decide (l.length<=40)
end
end Go.Proofs.YtaipngaejfndgaaGreatDoor.Vcg
