/- What the proof of LnsPlaces leans on, part 3: Vcg26 Lay Vcg18 Slc0 Slc1 TabV Tab1 OpenG OpenT Srt0 SlcE Shelf Tab2 TabR Snd1 PathN Ref1. No condition beyond what each theorem states. -/
import Derived.Test.YtaipngaejfndgaaGreatDoorLnsPlacesKb
import Derived.Test.YtaipngaejfndgaaGreatDoorProg
import Derived.Lib.Overlaps
import Derived.Laws.Externs
import Derived.WalkKit
import Derived.ProofKit
import Derived.Deep.Slices
import Derived.Deep.Fields
import Derived.ChangeSame
import Derived.ChangeOld
import Derived.Lib.SmallJoins
import Derived.Test.YtaipngaejfndgaaGreatDoorRows
import Derived.Lib.Bytealg
import Derived.Shelf.Strings.Builder1
import Derived.Shelf.Strings.Builder2
import Derived.Shelf.Strings.OnBuilder
import Derived.Shelf.Strings.Trim
import Derived.Shelf.Small.Utf8
import Derived.Shelf.Small.Strs
import Derived.Shelf.Small.Wraps
import Derived.Shelf.Strings.BuilderF
import Derived.Shelf.Strings.BuilderK
import Derived.Shelf.Strings.Search1
import Derived.Shelf.Strings.Search2
import Derived.Shelf.Strings.Search3
import Derived.Shelf.LaysM
import Derived.Shelf.Strings.Shaped
import Derived.Shelf.Strings.Prefix
import Derived.Shelf.Unicode.Decode
import Derived.Shelf.Strings.Runes
import Derived.Shelf.Strings.IndexAny
import Derived.Shelf.Strings.AsciiSet
import Derived.Shelf.Strings.IndexAnyAll
import Derived.Shelf.Unicode.DecodeSlow
import Derived.Shelf.Unicode.DecodeAny
import Derived.Shelf.Unicode.DecodeLast
import Derived.Ground.Names2Prog
import Derived.Shelf.Slices.SearchI
set_option linter.unusedVariables false
set_option linter.unusedSimpArgs false
set_option linter.unusedSectionVars false
set_option maxRecDepth 100000
set_option maxHeartbeats 4000000
namespace Go.Proofs.YtaipngaejfndgaaGreatDoor.Vcg
variable {e k n off b q i u b1 j cap s1 size by':Nat} {v:Value} {R:Env} {L:Lay} {r args cs vs xs vs1 fargs:List C} {f:FuncId} {fn:Func} {code:Code} {l:Lz} {a:Int} {ps:List (Nat×C)} {KS:St->Prop} {H:List kS} {rest:List Oper} {dst:Option Tmp} {op:BinOp} {ty t2:TypeId} {pos:String} {af:Array Edge} {g:Option (Nat×Bool)} {us:List Operand} {ds:Option (List C)} {kd:LK} {z1 z2:Option (List Value)} {lo hi mx:Option Int} {k2:IntKind} {fp fo:Nat->Option Nat} {place:Nat->Option (Nat×Nat)} {ks1:MK} {fbx:List (List C)} {post:C->List (List C)->Nat->Prop}
section
open Go.RowKit
abbrev Fr:=List (Nat×TypeId×Nat×List (List C)×Nat)
def Ur (nx:Nat):Fr->Nat->Nat->Nat->Nat->Nat->C
 | [],_,_,_,_,_=>.any
 | (i',e,k',rows,cap) :: r,i,off,k,n,c=>if i=i'/\off=0/\k=k'/\n=rows.length/\c=cap then .own nx e k' rows else Ur (nx+1) r i off k n c
theorem MP:∀ (fr:Fr) (nx i off k n c:Nat),Ur nx fr i off k n c = .any∨∃ j e rows,fr[j]?=some (i,e,k,rows,c)/\off=0/\n=rows.length/\Ur nx fr i off k n c = .own (nx+j) e k rows
 | [],nx,i,off,k,n,c=>.inl rfl
 | (i',e,k',rows,cap) :: r,nx,i,off,k,n,c=>by
  unfold Ur;split
  ·rename_i h;obtain ⟨rfl,rfl,rfl,rfl,rfl⟩:=h;exact .inr ⟨0,e,rows,rfl,rfl,rfl,rfl⟩
  ·rcases MP r (nx+1) i off k n c with h | ⟨j,e',rows',h1,h2,h3,h4⟩
   ·exact .inl h
   ·exact .inr ⟨j+1,e',rows',by simpa using h1,h2,h3,by rw[h4,show nx+1+j=nx+(j+1) by omega]⟩
def zdq (fr:Fr) (bx:List (List C)):Prop:=(fr.map (·.1)).Nodup/\∀ x∈fr,∃ cs,bx[x.1]?=some cs/\0<x.2.2.2.2/\x.2.2.2.1.length<=x.2.2.2.2/\x.2.2.2.2<=maxLen/\cs.length=x.2.2.2.2*x.2.2.1/\(∀ r∈x.2.2.2.1,r.length=x.2.2.1)/\(C.frzL cs).take (x.2.2.2.1.length*x.2.2.1)=x.2.2.2.1.flatten
mutual
/-- a result, at the function's end, some boxes being qD into owners -/
def C.fy (nx:Nat) (fr:Fr) (bx:List (List C)):C->C
 | .ptr i off=>if i∈fr.map (·.1) then .any else C.fz bx (.ptr i off)
 | .agg cs=>.agg (C.fyL nx fr bx cs)
 | .tup cs=>.tup (C.fyL nx fr bx cs)
 | .clo fn first cap=>.clo fn (C.fyL nx fr bx first) (C.fyL nx fr bx cap)
 | .bs i off k n c=>Ur nx fr i off k n c
 | .sc v=>.sc v
 | .str l=>.str l
 | .sl k rows=>.sl k rows
 | .tight k rows=>.tight k rows
 | .own id e k rows=>.own id e k rows
 | .mo id t ks vs=>.mo id t ks vs
 | .row cs=>.row cs
 | .any=>.any
def C.fyL (nx:Nat) (fr:Fr) (bx:List (List C)):List C->List C
 | []=>[]
 | c :: r=>c.fy nx fr bx :: C.fyL nx fr bx r
end
def frT (nx:Nat) (fr:Fr) (β:List Nat) (T:Own):Own:=fun id=>if id<nx then T id else match fr[id-nx]? with
 | some (i,e,k,rows,cap)=>(β[i]?).map fun b=>(e,k,.slice (some ⟨b,0,none⟩) rows.length cap)
 | none=>none
def frM (fr:Fr) (β:List Nat) (b o:Nat):Prop:=∃ x∈fr,β[x.1]?=some b/\x.2.2.2.1.length*x.2.2.1<=o
section
variable {P:Program} {G:zp} {E:Ctx} {σ:St}
theorem uQ {nx:Nat} {fr:Fr} {β:List Nat} {T:Own} {id:Nat} (h:frT nx fr β T id=some (e,k,v)) :
  (id<nx/\T id=some (e,k,v))∨(nx<=id/\∃ i rows cap b,fr[id-nx]?=some (i,e,k,rows,cap)/\β[i]?=some b/\v = .slice (some ⟨b,0,none⟩) rows.length cap):=by
 unfold frT at h;split at h
 ·exact .inl ⟨by assumption,h⟩
 ·split at h
  ·rename_i i e' k' rows cap hq;cases hb:β[i]? with
   | none=>rw[hb]at h;cases h
   | some b =>
    rw[hb]at h;cases h;exact .inr ⟨by omega,i,rows,cap,b,hq,hb,rfl⟩
  ·cases h
theorem znv {R':Env} {L':Loc} {fr:Fr} {bx:List (List C)} {B:Nat->Prop} {nx:Nat} (ho:Vf B R' L') (hbx:jR R' L' bx) (hβ:∀ b∈L'.β,B b) (hfr:zdq fr bx) {F:Nat->Prop} :
  Vf B ⟨R'.w,fun b o=>R'.M b o/\(b∉L'.β∨frM fr L'.β b o),F⟩ ⟨[],frT nx fr L'.β L'.T⟩:=by
 have hold:∀ id e k v b,L'.T id=some (e,k,v)->v.ownB=some b->b∉L'.β:=fun id e k v b ht hv=>((ho.own id e k v ht).block hv).2.2;refine ⟨fun id e k v ht=>?_,fun id id' e k v e' k' v' b ht ht' hv hv'=>?_⟩
 ·rcases uQ ht with ⟨_,ht⟩ | ⟨_,i,rows,cap,b,hf,hb,rfl⟩
  ·exact (ho.own id e k v ht).move fun g _ q2 _ q7=>⟨q2,rfl,by simp,fun o ho=>⟨ho,.inl q7⟩⟩
  ·have hmem:=Wf hf;obtain ⟨cs,c1,c2,c3,c4,c5,c6,c7⟩:=hfr.2 _ hmem;obtain ⟨vs,ty,e1,e2,e3,e4⟩:=hbx.box i b cs hb c1;have hl:=zA e2;exact .inr (.inl ⟨b,rows.length,cap,vs,ty,rfl,hβ b (Wf hb),e1,c3,c4,by simpa [c5] using hl,by simp,fun o ho=>⟨e4 o,.inr ⟨_,hmem,hb,ho⟩⟩⟩)
 ·rcases uQ ht with ⟨_,ht⟩ | ⟨g1,i,rows,cap,b1,hf,hb,rfl⟩<;>rcases uQ ht' with ⟨_,ht'⟩ | ⟨g1',i',rows',cap',b1',hf',hb',rfl⟩
  ·exact ho.apart id id' e k v e' k' v' b ht ht' hv hv'
  ·cases hv';exact absurd (Wf hb') (hold id e k v _ ht hv)
  ·cases hv;exact absurd (Wf hb) (hold id' e' k' v' _ ht' hv')
  ·cases hv;cases hv';have hii:i=i':=(Aj (Wd.1 hb).1 hbx.nodup).1 (hb.trans hb'.symm);subst hii;have hn:=hfr.1;have h1:(fr.map (·.1))[id-nx]?=some i:=by rw[Ws,hf];rfl
   have h2:(fr.map (·.1))[id'-nx]?=some i:=by rw[Ws,hf'];rfl
   have:=(Aj (Wd.1 h1).1 hn).1 (h1.trans h2.symm);omega
theorem Gf {R R2:Env} {L:Loc} {b:Nat} {vs:Array Value} {ty:TypeId} (he:Ext R R2) (hh:R2.w.heap[b]?=some (.cells vs ty (0,0))) {N:Nat} (hM:∀ o,o<N->¬R2.M b o):∀ (cs:List C) (us:List Value) (off:Nat),off+cs.length<=N->zy R L cs us->(∃ z,vs.toList.drop off=us++z)->(∀ v∈us,v.oneCell'=true)->zN R2 (C.frzL cs) b off
 | [],_,_,_,_,_,_=>by unfold C.frzL;exact Jk
 | c :: r,us,off,hN,hr,hd,h1=>by
  obtain ⟨v,us',rfl,g1,g2⟩:=zh.1 hr;obtain ⟨z,hd⟩:=hd;unfold C.frzL;simp only[Wg]at hN;have hv:vs[off]?=some v:=by
   have:=W4 (xs:=vs.toList) (i:=off) (j:=0);rw[hd]at this;simpa using this.symm
  refine qo.2 ⟨⟨v,?_,hM off (by omega),Rep.ext he (zM.refl _) _ _ (g1.frz zJ),h1 v Wk⟩,Gf he hh hM r us' (off+1) (by omega) g2 ⟨z,?_⟩ fun x hx=>h1 x (Wl _ hx)⟩
  ·rw[Al R2.w b off vs ty (0,0) hh];exact hv
  ·rw[←AC,hd];rfl
theorem yz:∀ (n:Nat) (cs:List C),C.frzL (cs.take n)=(C.frzL cs).take n
 | 0,cs=>by simp[C.frzL]
 | n+1,[]=>by simp[C.frzL]
 | n+1,c :: r=>by
  have h:C.frzL (c :: r)=c.frz :: C.frzL r:=by rw[C.frzL]
  rw[AH,h,AH,←yz n r];rw[C.frzL]
theorem ZU {R:Env} {b k:Nat}:∀ (rows:List (List C)) (off:Nat),(∀ r∈rows,r.length=k)->zN R rows.flatten b off->zS R rows k b off
 | [],_,_,_=>by unfold zS;trivial
 | row :: r,off,hk,h=>by
  have hrow:=hk row Wk;rw[OU]at h;unfold zS;refine ⟨hrow,qi fun j c hc=>?_,ZU r (off+k) (fun x hx=>hk x (Wl _ hx)) (qi fun j c hc=>?_)⟩
  ·exact Jg h j c (by rw[Wu (Wd.1 hc).1];exact hc)
  ·have:=Jg h (k+j) c (by rw[WP (by omega),hrow,O1];exact hc);rwa [←B0]at this
mutual
theorem Rep.fy {R2:Env} {L:Loc} {bx:List (List C)} {fr:Fr} {nx:Nat} {F:Nat->Prop} (he:Ext R R2) (hbx:jR R L bx) (h2:R2=⟨R.w,fun b o=>R.M b o/\(b∉L.β∨frM fr L.β b o),F⟩) (hfr:zdq fr bx) (hnx:∀ id,nx<=id->L.T id=none):∀ (c:C) (v:Value),Rep R L c v->Rep R2 ⟨L.β,frT nx fr L.β L.T⟩ (c.fy nx fr bx) v
 | .ptr i off,v,h=>by
  unfold C.fy;split
  ·exact V3
  rename_i hni;unfold C.fz;obtain ⟨b,hb,e⟩:=Jr.1 h;split
  ·rename_i cs hcs;obtain ⟨vs,ty,e1,e2,e3,e4⟩:=hbx.box i b cs hb hcs;refine Jd.2 ⟨b,off,e,?_⟩;rw[←Ht];refine ko (L:=L) he (by rw[h2];exact e1) (fun o=>?_) _ (vs.toList.drop off) off (qZ off e2) rfl fun x hx=>e3 x (WU hx);rw[h2];rintro ⟨_,h3 | ⟨x,hx,hxb,_⟩⟩
   ·exact h3 (Wf hb)
   ·have:=(Aj (Wd.1 hb).1 hbx.nodup).1 (hb.trans hxb.symm);subst this;exact hni (WR.2 ⟨x,hx,rfl⟩)
  ·exact V3
 | .agg cs,_,h=>by
  unfold C.fy;unfold Rep at h ⊢;obtain ⟨vs,e,hl⟩:=h;exact ⟨vs,e,zy.fy he hbx h2 hfr hnx cs _ hl⟩
 | .tup cs,_,h=>by
  unfold C.fy;unfold Rep at h ⊢;obtain ⟨vs,e,hl⟩:=h;exact ⟨vs,e,zy.fy he hbx h2 hfr hnx cs _ hl⟩
 | .clo fn first cap,_,h=>by
  unfold C.fy;unfold Rep at h ⊢;obtain ⟨fs,cs,e,h3,h4⟩:=h;exact ⟨fs,cs,e,zy.fy he hbx h2 hfr hnx first _ h3,zy.fy he hbx h2 hfr hnx cap _ h4⟩
 | .sc v,_,h=>by unfold C.fy;unfold Rep at h ⊢;exact h
 | .str l,_,h=>by unfold C.fy;unfold Rep at h ⊢;exact h
 | .sl k rows,v,h=>by
  unfold C.fy;exact Rep.ext he (zM.none _) (.sl k rows) v (T:=zJ) (by unfold Rep at h ⊢;exact h)
 | .tight k rows,v,h=>by
  unfold C.fy;exact Rep.ext he (zM.none _) (.tight k rows) v (T:=zJ) (by unfold Rep at h ⊢;exact h)
 | .mo id t ks vs,v,h=>by
  unfold C.fy;unfold Rep at h ⊢;obtain ⟨b,vvs,e,ht,hl⟩:=h;refine ⟨b,vvs,e,?_,zy.ext he (zM.refl _) _ _ hl⟩;have hlt:id<nx:=by
   rcases Wr id nx with q | q
   ·exact q
   ·have:=hnx id q;rw[ht]at this;cases this
  show frT nx fr L.β L.T id=_;unfold frT;rw[if_pos hlt];exact ht
 | .own id e k rows,v,h=>by
  unfold C.fy;have h3:=Rep.ext he (zM.none ⟨L.β,frT nx fr L.β L.T⟩) (.sl k rows) v (T:=zJ) (by unfold Rep at h ⊢;exact h.2);unfold Rep at h h3 ⊢;refine ⟨?_,h3⟩;have hlt:id<nx:=by
   rcases Wr id nx with q | q
   ·exact q
   ·have:=hnx id q;rw[h.1]at this;cases this
  show frT nx fr L.β L.T id=_;unfold frT;rw[if_pos hlt];exact h.1
 | .row cs,v,h=>by
  unfold C.fy;exact Rep.ext he (zM.none _) (.row cs) v (T:=zJ) (by unfold Rep at h ⊢;exact h)
 | .bs i off k n c,v,h=>by
  unfold C.fy;obtain ⟨b,hb,ad,e,had⟩:=jx.1 h;rcases MP fr nx i off k n c with hq | ⟨j,e',rows,hj,rfl,rfl,hq⟩
  ·rw[hq];exact V3
  ·rw[hq];have hmem:=Wf hj;obtain ⟨cs,c1,c2,c3,c4,c5,c6,c7⟩:=hfr.2 _ hmem;simp only at c1 c2 c3 c4 c5 c6 c7;obtain ⟨vs,ty,e1,e2,e3,e4⟩:=hbx.box i b cs hb c1;obtain rfl:=had (by omega);unfold Rep;refine ⟨?_,some ⟨b,0,none⟩,c,e,c3,c4,.inr ⟨b,0,rfl,ZU rows 0 c6 ?_⟩⟩
   ·show frT nx fr L.β L.T (nx+j)=_;unfold frT;rw[if_neg (by omega),O1,hj];simp only[hb,WI,e]
   ·rw[←c7,←yz];have hlen:(cs.take (rows.length*k)).length=rows.length*k:=by
     rw[W6];have:rows.length*k<=c*k:=WS _ c3;omega
    refine Gf (L:=L) (N:=rows.length*k) he (by rw[h2];exact e1) (fun o ho=>?_) _ (vs.toList.take (rows.length*k)) 0 (by omega) (qI _ e2) ⟨vs.toList.drop (rows.length*k),by simp⟩ fun x hx=>e3 x (Ww hx);rw[h2];rintro ⟨_,h3 | ⟨x,hx,hxb,hxo⟩⟩
    ·exact h3 (Wf hb)
    ·have hii:=(Aj (Wd.1 hb).1 hbx.nodup).1 (hb.trans hxb.symm);obtain ⟨j2,hj2,hj2'⟩:=WF hx;have g1:(fr.map (·.1))[j]?=some i:=by rw[Ws,hj];rfl
     have g2:(fr.map (·.1))[j2]?=some i:=by rw[Ws,Wa hj2,hj2',hii];rfl
     have:=(Aj (Wd.1 g1).1 hfr.1).1 (g1.trans g2.symm);subst this;rw[Wa hj2,hj2']at hj;cases hj;simp only at hxo;omega
 | .any,_,h=>by unfold C.fy;exact V3
theorem zy.fy {R2:Env} {L:Loc} {bx:List (List C)} {fr:Fr} {nx:Nat} {F:Nat->Prop} (he:Ext R R2) (hbx:jR R L bx) (h2:R2=⟨R.w,fun b o=>R.M b o/\(b∉L.β∨frM fr L.β b o),F⟩) (hfr:zdq fr bx) (hnx:∀ id,nx<=id->L.T id=none):∀ (cs:List C) (vs:List Value),zy R L cs vs->zy R2 ⟨L.β,frT nx fr L.β L.T⟩ (C.fyL nx fr bx cs) vs
 | [],_,h=>by unfold C.fyL;rw[zl]at h ⊢;exact h
 | c :: r,_,h=>by
  unfold C.fyL;rw[zh]at h ⊢;obtain ⟨v,us,e,h3,h4⟩:=h;exact ⟨v,us,e,Rep.fy he hbx h2 hfr hnx c v h3,zy.fy he hbx h2 hfr hnx r us h4⟩
end
theorem zlz {R':Env} {L':Loc} {bx:List (List C)} {m:Nat} {c r:C} {fr:Fr} {src:Src} (hbel:Below R.w.heap.size R.w R'.w) (hM:∀ b o,b<R.w.heap.size->(R'.M b o↔R.M b o)) (hnew:∀ b∈L'.β,R.w.heap.size<=b) (hb:jR R' L' bx) (ho:Vf (fun g=>R.w.heap.size<=g) R' L')
  (hfree:∀ id,m<=id->L'.T id=none) (hr:Rep R' L' c v) (h:zdq fr bx/\QU src=true/\src.length=n/\CLe src 0 (c.fy m fr bx) r):∃ R2 L2,R2.w=R'.w/\qw 0 n R zJ R2 L2/\Rep R2 L2 r v:=by
 obtain ⟨hfr,h3,h4,h5⟩:=h
 let R2:Env:=⟨R'.w,fun b o=>R'.M b o/\(b∉L'.β∨frM fr L'.β b o),R.F⟩
 have hx2:Ext R' R2:=⟨fun _ _ _ h1 h2=>⟨h1,fun h=>h2 h.1⟩,fun _ _ _ _ h1 h2=>⟨h1,fun o h=>h2 o h.1⟩⟩;have how:=UF (β':=[]) h3 (fun b hb=>(by cases hb)) (znv ho hb hnew hfr (nx:=m) (F:=R.F));refine ⟨R2,Jp src 0 ⟨L'.β,frT m fr L'.β L'.T⟩,rfl,⟨hbel,rfl,by simp,fun b o hb=>?_,fun id hi=>?_,fun id e k v hi hj ht=>?_,fun id id' e k v e' k' v' b hi hi2 hj hj2 h6 h7 h8 h9=>?_⟩,Rep.less _ _ _ h5 (Rep.fy hx2 hb rfl hfr hfree _ _ hr)⟩
 ·refine ⟨fun h=>(hM b o hb).1 h.1,fun h=>⟨(hM b o hb).2 h,.inl fun hx=>?_⟩⟩;have:=hnew b hx;omega
 ·show Vj src _ id=none;unfold Vj;rw[W0 (by omega)]
 ·exact (how.own id e k v ht).move fun g _ q2 _ q7=>⟨q2,rfl,q7,fun _ h=>h⟩
 ·exact how.apart id id' e k v e' k' v' b h6 h7 h8 h9
theorem Y8.fun {f:FuncId} {args:List C} {r:C} {n:Nat} {post:C->List (List C)->Nat->Prop} (h:Y8 P G f args [] 0 post) (hp:∀ c bx m,post c bx m->∃ (fr:Fr) (src:Src),zdq fr bx/\QU src=true/\src.length=n/\CLe src 0 (c.fy m fr bx) r):Fun P G f args r n:=by
 refine ⟨h.1,fun R vs hg hargs=>?_⟩;have hx:Ext R ⟨R.w,R.M,fun _=>False⟩:=⟨fun _ _ _ h1 h2=>⟨h1,h2⟩,fun _ _ _ _ h1 h2=>⟨h1,h2⟩⟩;have hnt:∀ b,¬Xv zJ b:=fun b hb=>by
  rcases hb with hb | ⟨_,_,_,_,ht,_⟩
  ·cases hb
  ·cases ht
 refine (h.2 ⟨R.w,R.M,fun _=>False⟩ zJ vs (hg.ext hx) ⟨rfl,An,fun i b cs hi=>(by simp at hi)⟩ ⟨fun id e k v ht=>(by cases ht),fun id id' e k v e' k' v' b ht=>(by cases ht)⟩ (fun _ _=>rfl) (fun _ h=>h.elim) (fun b hb=>absurd hb (hnt b)) (zy.ext hx (zM.refl _) _ _ hargs)).mono ?_;rintro e w' ⟨c,bx,m,⟨hpost,_⟩,v,R',L',rfl,rfl,hn,hbx',how',⟨more,hm1,hm2⟩,hfree',hrep⟩;obtain ⟨fr,src,hq⟩:=hp _ _ _ hpost;have hblk:∀ b,b<R.w.heap.size->R'.w.heap[b]?=R.w.heap[b]?/\∀ o,(R'.M b o↔R.M b o):=fun b hb=>(hn.blk b hb).elim id fun q=>by
  rcases q.1 with q | q
  ·have q:R.w.heap.size<=b:=q;omega
  ·exact absurd q (hnt b)
 obtain ⟨R2,L2,g1,g2,g3⟩:=zlz (R:=R) ⟨hn.os,hn.tape,hn.output,hn.size,fun b hb=>(hblk b hb).1⟩ (fun b o hb=>(hblk b hb).2 o) (fun b hb=>hm2 b (by rw[hm1]at hb;exact hb)) hbx' ⟨fun id e k v ht=>(how'.own id e k v ht).base fun g q=>q.elim (fun q=>q) fun q=>absurd q (hnt g),how'.apart⟩ hfree' hrep hq;exact ⟨v,R2,L2,rfl,g1,g2,g3⟩
theorem Fun.weak {r r':C} (h:Fun P G f args r n) (hl:CLe [] 0 r r'):Fun P G f args r' 0:=
 ⟨h.1,fun R vs hg ha=>(h.2 R vs hg ha).mono fun e w'=>by
  rintro ⟨v,R',L',e1,e2,hp,hr⟩;refine ⟨v,R',Jp [] 0 L',e1,e2,⟨hp.below,hp.fgn,by simp,hp.mt,fun id _=>rfl,fun id e k v hi hj=>by omega,fun id id' e k v e' k' v' b hi hj=>by omega⟩,Rep.less _ _ _ hl hr⟩⟩
theorem Fun.of_awpF {r:C} (b:Nat->List Bool) (hm:P.follows .mixedOrders=true) (hf:P.funcs[f]?=some fn) (hb:fn.body=some code) (hnm:(fn.name == "runtime.NumGoroutine")=false) (hN:args.length<=fn.ntmps) (hok:jX fn.ntmps b code=true)
  (h:awp P G ⟨0,none,b⟩ code (zlG P fn.results.toList fun c σ=>∃ (fr:Fr) (src:Src),zdq fr σ.bx/\QU src=true/\src.length=n/\CLe src 0 (c.fy σ.nx fr σ.bx) r) ⟨UD 0 args,[],0,0⟩):Fun P G f args r n:=by
 refine ⟨by unfold Y1;rw[hf];simp[hnm,hb],fun R vs hg hargs=>?_⟩
 let E:Ctx:=⟨R.w,R.M,[],fun _=>False,fn.ntmps,[],fun _=>False,fun _=>False,fun _ h=>h,fun _ _=>True,fun _ _ _ _ _=>trivial⟩
 let R0:Env:=⟨R.w,R.M,fun _=>False⟩
 have hx:Ext R R0:=⟨fun _ _ _ h1 h2=>⟨h1,h2⟩,fun _ _ _ _ h1 h2=>⟨h1,h2⟩⟩;have hargs0:zy R0 zJ args vs:=zy.ext hx (zM.refl _) _ _ hargs;obtain ⟨i1,i2⟩:=ZY hN hargs0;have hinv:qH G E ⟨UD 0 args,[],0,0⟩ { tmps:=vs.toArray++Array.replicate (fn.ntmps-vs.toArray.size) undef,defers:=[] } R0 zJ:=
  ⟨⟨⟨hg.ext hx,⟨rfl,An,fun i b cs hi=>(by simp at hi)⟩,⟨fun id e k v ht=>(by cases ht),fun id id' e k v e' k' v' b ht=>(by cases ht)⟩,fun g hg=>.inl hg⟩,rfl,rfl,rfl,Wb _,fun _ _ _ _=>⟨rfl,fun _=>Iff.rfl⟩,⟨fun _ _ _ h1 h2=>⟨h1,h2⟩,fun _ _ _ _ h1 h2=>⟨h1,h2⟩⟩,⟨[],rfl⟩,fun b hb=>(by cases hb),fun _ h=>h.elim,fun _ _=>Iff.rfl,fun b hb=>(by cases hb),fun id e k v b ht=>(by cases ht),fun _ _=>rfl,trivial⟩,i1,⟨[],rfl,An,fun d hd=>(by cases hd)⟩,i2⟩
 refine YR (E:=E) (R:=R0) hm hf hb hok rfl rfl (Wc _) (fun y hy=>by cases hy) h hinv ?_;rintro σ' a' R' L' v c ⟨fr,src,hq⟩ hI h2;have hgd:=hI.good;have hblk:∀ b,b<R.w.heap.size->R'.w.heap[b]?=R.w.heap[b]?/\∀ o,(R'.M b o↔R.M b o):=fun b hb=>hgd.blk b hb (fun h=>h) fun hF=>(hgd.fz b hb).1 hF;obtain ⟨R2,L2,g1,g2,g3⟩:=zlz (R:=R) ⟨hgd.os,hgd.tape,hgd.output,hgd.size,fun b hb=>(hblk b hb).1⟩ (fun b o hb=>(hblk b hb).2 o) (fun b hb=>(hgd.tub b hb).elim id fun g=>g.elim) hgd.fit.boxes ⟨fun id e k v ht=>(hgd.fit.owns.own id e k v ht).base fun g q=>q.elim (fun q=>q) fun q=>q.elim,hgd.fit.owns.apart⟩ (fun id hid=>hgd.free id hid) h2 hq;exact ⟨v,R2,L2,rfl,g1,g2,g3⟩
end
end
variable {fr:Fr}
section
open Go
theorem zoA:lay Tryz.prog 3=some { kind:=LK.int IntKind.i64,size:=1,bytes:=8,zero:=some [Value.int IntKind.i64 (Int.ofNat 0)] }:=by kernel_rfl
theorem ztz:lay Tryz.prog 4=some { kind:=LK.bool,size:=1,bytes:=1,zero:=some [Value.bool false] }:=by kernel_rfl
theorem ztl:lay Tryz.prog 5=some { kind:=LK.int IntKind.u8,size:=1,bytes:=1,zero:=some [Value.int IntKind.u8 (Int.ofNat 0)] }:=by kernel_rfl
theorem zhW:lay Tryz.prog 9=some { kind:=LK.str,size:=1,bytes:=16,zero:=some [Value.string ⟨#[]⟩] }:=by kernel_rfl
theorem zsd:lay Tryz.prog 21=some { kind:=LK.int IntKind.i32,size:=1,bytes:=4,zero:=some [Value.int IntKind.i32 (Int.ofNat 0)] }:=by kernel_rfl
theorem Vs:lay Tryz.prog 22=some { kind:=LK.slice 96,size:=1,bytes:=24,zero:=some [Value.slice none 0 0] }:=by kernel_rfl
theorem zr6:lay Tryz.prog 24=some { kind:=LK.struct [(0,1,false),(1,1,false),(2,1,false),(3,1,false)],size:=4,bytes:=48,zero:=some [Value.int IntKind.i64 (Int.ofNat 0),Value.int IntKind.i64 (Int.ofNat 0),Value.int IntKind.i64 (Int.ofNat 0),Value.slice none 0 0] }:=by kernel_rfl
theorem kz:lay Tryz.prog 25=some { kind:=LK.slice 84,size:=1,bytes:=24,zero:=some [Value.slice none 0 0] }:=by kernel_rfl
theorem zr7:lay Tryz.prog 27=some { kind:=LK.struct [(0,1,false),(1,1,false)],size:=2,bytes:=48,zero:=some [Value.slice none 0 0,Value.slice none 0 0] }:=by kernel_rfl
theorem zrV:lay Tryz.prog 29=some { kind:=LK.struct [(0,4,true),(4,2,true)],size:=6,bytes:=96,zero:=some [Value.int IntKind.i64 (Int.ofNat 0),Value.int IntKind.i64 (Int.ofNat 0),Value.int IntKind.i64 (Int.ofNat 0),Value.slice none 0 0,Value.slice none 0 0,Value.slice none 0 0] }:=by kernel_rfl
theorem HV:lay Tryz.prog 30=some { kind:=LK.slice 9,size:=1,bytes:=24,zero:=some [Value.slice none 0 0] }:=by kernel_rfl
theorem zsL:lay Tryz.prog 34=some { kind:=LK.struct [(0,1,false),(1,1,false),(2,1,false)],size:=3,bytes:=48,zero:=some [Value.int IntKind.i64 (Int.ofNat 0),Value.string ⟨#[]⟩,Value.slice none 0 0] }:=by kernel_rfl
theorem ziY:lay Tryz.prog 37=some { kind:=LK.slice 55,size:=1,bytes:=24,zero:=some [Value.slice none 0 0] }:=by kernel_rfl
theorem zsI:lay Tryz.prog 39=some { kind:=LK.struct [(0,1,false),(1,1,false),(2,1,false)],size:=3,bytes:=56,zero:=some [Value.slice none 0 0,Value.slice none 0 0,Value.int IntKind.i64 (Int.ofNat 0)] }:=by kernel_rfl
theorem zrY:lay Tryz.prog 41=some { kind:=LK.struct [(0,6,true),(6,3,true),(9,1,false)],size:=10,bytes:=160,zero:=some [Value.int IntKind.i64 (Int.ofNat 0),Value.int IntKind.i64 (Int.ofNat 0),Value.int IntKind.i64 (Int.ofNat 0),Value.slice none 0 0,Value.slice none 0 0,Value.slice none 0 0,Value.slice none 0 0,Value.slice none 0 0,Value.int IntKind.i64 (Int.ofNat 0),Value.int IntKind.i64 (Int.ofNat 0)] }:=by kernel_rfl
theorem zjM:lay Tryz.prog 55=some { kind:=LK.struct [(0,1,false),(1,1,false),(2,1,false),(3,1,false),(4,1,false)],size:=5,bytes:=64,zero:=some [Value.int IntKind.i64 (Int.ofNat 0),Value.int IntKind.i64 (Int.ofNat 0),Value.string ⟨#[]⟩,Value.string ⟨#[]⟩,Value.string ⟨#[]⟩] }:=by kernel_rfl
theorem zsu:lay Tryz.prog 71=some { kind:=LK.int IntKind.i64,size:=1,bytes:=8,zero:=some [Value.int IntKind.i64 (Int.ofNat 0)] }:=by kernel_rfl
theorem UO:lay Tryz.prog 84=some { kind:=LK.struct [(0,1,false),(1,1,false),(2,1,false),(3,1,false)],size:=4,bytes:=40,zero:=some [Value.int IntKind.i64 (Int.ofNat 0),Value.int IntKind.i64 (Int.ofNat 0),Value.bool false,Value.string ⟨#[]⟩] }:=by kernel_rfl
theorem zrZ:lay Tryz.prog 91=some { kind:=LK.struct [(0,1,false),(1,1,false),(2,1,false)],size:=3,bytes:=32,zero:=some [Value.int IntKind.i64 (Int.ofNat 0),Value.string ⟨#[]⟩,Value.int IntKind.i64 (Int.ofNat 0)] }:=by kernel_rfl
theorem Zc:lay Tryz.prog 94=some { kind:=LK.slice 141,size:=1,bytes:=24,zero:=some [Value.slice none 0 0] }:=by kernel_rfl
theorem VH:lay Tryz.prog 96=some { kind:=LK.struct [(0,1,false),(1,1,false),(2,1,false),(3,1,false),(4,1,false),(5,1,false)],size:=6,bytes:=72,zero:=some [Value.int IntKind.i64 (Int.ofNat 0),Value.int IntKind.i64 (Int.ofNat 0),Value.int IntKind.i64 (Int.ofNat 0),Value.string ⟨#[]⟩,Value.int IntKind.i64 (Int.ofNat 0),Value.slice none 0 0] }:=by kernel_rfl
theorem zo4:lay Tryz.prog 108=some { kind:=LK.other,size:=1,bytes:=8,zero:=some [Value.nilFunc] }:=by kernel_rfl
theorem zpr:lay Tryz.prog 120=some { kind:=LK.struct [(0,1,false),(1,1,false),(2,1,false)],size:=3,bytes:=40,zero:=some [Value.bool false,Value.slice none 0 0,Value.bool false] }:=by kernel_rfl
theorem Yt:lay Tryz.prog 141=some { kind:=LK.struct [(0,1,false),(1,1,false)],size:=2,bytes:=24,zero:=some [Value.string ⟨#[]⟩,Value.int IntKind.i64 (Int.ofNat 0)] }:=by kernel_rfl
theorem zqV:lay Tryz.prog 164=some { kind:=LK.slice 5,size:=1,bytes:=24,zero:=some [Value.slice none 0 0] }:=by kernel_rfl
theorem zqt:lay Tryz.prog 165=some { kind:=LK.slice 30,size:=1,bytes:=24,zero:=some [Value.slice none 0 0] }:=by kernel_rfl
theorem zpQ:lay Tryz.prog 184=some { kind:=LK.struct [(0,4,true),(4,1,false),(5,1,false),(6,1,false),(7,3,true),(10,1,false)],size:=11,bytes:=120,zero:=some [Value.int IntKind.i64 (Int.ofNat 0),Value.int IntKind.i64 (Int.ofNat 0),Value.int IntKind.i64 (Int.ofNat 0),Value.slice none 0 0,Value.bool false,Value.bool false,Value.slice none 0 0,Value.int IntKind.i64 (Int.ofNat 0),Value.string ⟨#[]⟩,Value.int IntKind.i64 (Int.ofNat 0),Value.int IntKind.i64 (Int.ofNat 0)] }:=by kernel_rfl
theorem zpG:lay Tryz.prog 198=some { kind:=LK.slice 37,size:=1,bytes:=24,zero:=some [Value.slice none 0 0] }:=by kernel_rfl
theorem zqg:lay Tryz.prog 202=some { kind:=LK.struct [(0,1,false),(1,1,false),(2,1,false)],size:=3,bytes:=40,zero:=some [Value.string ⟨#[]⟩,Value.string ⟨#[]⟩,Value.int IntKind.i64 (Int.ofNat 0)] }:=by kernel_rfl
theorem zqZ:lay Tryz.prog 203=some { kind:=LK.array 6 202,size:=18,bytes:=240,zero:=some [Value.string ⟨#[]⟩,Value.string ⟨#[]⟩,Value.int IntKind.i64 (Int.ofNat 0),Value.string ⟨#[]⟩,Value.string ⟨#[]⟩,Value.int IntKind.i64 (Int.ofNat 0),Value.string ⟨#[]⟩,Value.string ⟨#[]⟩,Value.int IntKind.i64 (Int.ofNat 0),Value.string ⟨#[]⟩,Value.string ⟨#[]⟩,Value.int IntKind.i64 (Int.ofNat 0),Value.string ⟨#[]⟩,Value.string ⟨#[]⟩,Value.int IntKind.i64 (Int.ofNat 0),Value.string ⟨#[]⟩,Value.string ⟨#[]⟩,Value.int IntKind.i64 (Int.ofNat 0)] }:=by kernel_rfl
theorem zrh:lay Tryz.prog 204=some { kind:=LK.array 23 9,size:=23,bytes:=368,zero:=some [Value.string ⟨#[]⟩,Value.string ⟨#[]⟩,Value.string ⟨#[]⟩,Value.string ⟨#[]⟩,Value.string ⟨#[]⟩,Value.string ⟨#[]⟩,Value.string ⟨#[]⟩,Value.string ⟨#[]⟩,Value.string ⟨#[]⟩,Value.string ⟨#[]⟩,Value.string ⟨#[]⟩,Value.string ⟨#[]⟩,Value.string ⟨#[]⟩,Value.string ⟨#[]⟩,Value.string ⟨#[]⟩,Value.string ⟨#[]⟩,Value.string ⟨#[]⟩,Value.string ⟨#[]⟩,Value.string ⟨#[]⟩,Value.string ⟨#[]⟩,Value.string ⟨#[]⟩,Value.string ⟨#[]⟩,Value.string ⟨#[]⟩] }:=by kernel_rfl
theorem zqu:lay Tryz.prog 218=some { kind:=LK.int IntKind.u64,size:=1,bytes:=8,zero:=some [Value.int IntKind.u64 (Int.ofNat 0)] }:=by kernel_rfl
theorem zps:lay Tryz.prog 222=some { kind:=LK.struct [(0,1,false),(1,1,false),(2,1,false)],size:=3,bytes:=3,zero:=some [Value.bool false,Value.bool false,Value.bool false] }:=by kernel_rfl
theorem zq5:lay Tryz.prog 223=some { kind:=LK.array 11 222,size:=33,bytes:=33,zero:=some [Value.bool false,Value.bool false,Value.bool false,Value.bool false,Value.bool false,Value.bool false,Value.bool false,Value.bool false,Value.bool false,Value.bool false,Value.bool false,Value.bool false,Value.bool false,Value.bool false,Value.bool false,Value.bool false,Value.bool false,Value.bool false,Value.bool false,Value.bool false,Value.bool false,Value.bool false,Value.bool false,Value.bool false,Value.bool false,Value.bool false,Value.bool false,Value.bool false,Value.bool false,Value.bool false,Value.bool false,Value.bool false,Value.bool false] }:=by kernel_rfl
theorem zo1:lay Tryz.prog 231=some { kind:=LK.slice 3,size:=1,bytes:=24,zero:=some [Value.slice none 0 0] }:=by kernel_rfl
theorem zqD:lay Tryz.prog 244=some { kind:=LK.array 14 9,size:=14,bytes:=224,zero:=some [Value.string ⟨#[]⟩,Value.string ⟨#[]⟩,Value.string ⟨#[]⟩,Value.string ⟨#[]⟩,Value.string ⟨#[]⟩,Value.string ⟨#[]⟩,Value.string ⟨#[]⟩,Value.string ⟨#[]⟩,Value.string ⟨#[]⟩,Value.string ⟨#[]⟩,Value.string ⟨#[]⟩,Value.string ⟨#[]⟩,Value.string ⟨#[]⟩,Value.string ⟨#[]⟩] }:=by kernel_rfl
theorem zrt:lay Tryz.prog 251=some { kind:=LK.struct [(0,1,false),(1,1,false)],size:=2,bytes:=48,zero:=some [Value.slice none 0 0,Value.slice none 0 0] }:=by kernel_rfl
theorem zqj:lay Tryz.prog 252=some { kind:=LK.slice 251,size:=1,bytes:=24,zero:=some [Value.slice none 0 0] }:=by kernel_rfl
theorem zqB:lay Tryz.prog 261=some { kind:=LK.other,size:=1,bytes:=8,zero:=some [Value.nilFunc] }:=by kernel_rfl
theorem zo9:lay Tryz.prog 276=some { kind:=LK.other,size:=1,bytes:=8,zero:=some [Value.nilFunc] }:=by kernel_rfl
theorem zsn:Gl Tryz.prog 7=some [LK.int IntKind.i64,LK.int IntKind.i64,LK.bool,LK.int IntKind.u8]:=by kernel_rfl
theorem zrU:Gl Tryz.prog 8=some [LK.int IntKind.i64,LK.int IntKind.i64,LK.bool,LK.int IntKind.u8]:=by kernel_rfl
theorem zrq:Gl Tryz.prog 54=some [LK.int IntKind.i64,LK.int IntKind.i64,LK.str,LK.str,LK.str]:=by kernel_rfl
theorem zpD:Gl Tryz.prog 55=some [LK.int IntKind.i64,LK.int IntKind.i64,LK.str,LK.str,LK.str]:=by kernel_rfl
theorem zqC:Gl Tryz.prog 83=some [LK.int IntKind.i64,LK.int IntKind.i64,LK.bool,LK.str]:=by kernel_rfl
theorem zpx:Gl Tryz.prog 84=some [LK.int IntKind.i64,LK.int IntKind.i64,LK.bool,LK.str]:=by kernel_rfl
theorem zpa:Gl Tryz.prog 90=some [LK.int IntKind.i64,LK.str,LK.int IntKind.i64]:=by kernel_rfl
theorem zrj:Gl Tryz.prog 91=some [LK.int IntKind.i64,LK.str,LK.int IntKind.i64]:=by kernel_rfl
theorem zmf:Gl Tryz.prog 140=some [LK.str,LK.int IntKind.i64]:=by kernel_rfl
theorem zl9:Gl Tryz.prog 141=some [LK.str,LK.int IntKind.i64]:=by kernel_rfl
theorem zna:Gl Tryz.prog 201=some [LK.str,LK.str,LK.int IntKind.i64]:=by kernel_rfl
theorem znz:Gl Tryz.prog 202=some [LK.str,LK.str,LK.int IntKind.i64]:=by kernel_rfl
theorem zob:Gl Tryz.prog 221=some [LK.bool,LK.bool,LK.bool]:=by kernel_rfl
theorem znq:Gl Tryz.prog 222=some [LK.bool,LK.bool,LK.bool]:=by kernel_rfl
theorem znM:Gl Tryz.prog 285=some [LK.int IntKind.u8,LK.int IntKind.u8]:=by kernel_rfl
theorem zn1:Gl Tryz.prog 286=some [LK.int IntKind.u8,LK.int IntKind.u8]:=by kernel_rfl
theorem zmZ:zhV Tryz.prog 196=some (MKd.int IntKind.i64,C.sc Value.nilFunc):=by kernel_rfl
attribute [push_cast] zoA ztz ztl zhW zsd Vs zr6 kz zr7 zrV HV zsL ziY zsI zrY zjM zsu UO zrZ Zc VH zo4 zpr Yt zqV zqt zpQ zpG zqg zqZ zrh zqu zps zq5 zo1 zqD zrt zqj zqB zo9 zsn zrU zrq zpD zqC zpx zpa zrj zmf zl9 zna znz zob znq znM zn1 zmZ
end
section
open Go.RowKit
section
variable {P:Program} {G:zp} {σ σ':St} {N p lg m:Nat} {h:Hd} {yd:Option Yd} {brs:List Bool} {bf:Nat->List Bool} {bx bx':List (List C)} {ops:Array Oper} {c c' d d':C} {t t':TypeId} {K:C->Prop} {K2:C->Nat->Prop} {K3:C->St->Prop} {nx:Nat} {tm:List (Nat×C)} {x y z:Operand} {Q:Exit->St->Prop} {X Y:Prop}
def zbf (P:Program) (G:zp) (f:FuncId) (args:List C) (nx:Nat) (K:C->Nat->Prop):Prop:=∃ r n,Fun P G f args r n/\K (r.sh nx) (nx+n)
theorem zbf.mk {r:C} (h:Fun P G f args r n) (hK:K2 (r.sh nx) (nx+n)):zbf P G f args nx K2:=⟨r,n,h,hK⟩
def zo3 (P:Program) (G:zp) (f:FuncId) (args fargs:List C) (σ:St) (K:C->St->Prop):Prop:=
 (∃ r n,Fun P G f fargs r n/\K (r.sh σ.nx) ⟨σ.tm,σ.bx,σ.nx+n,σ.lg⟩)∨vL P G f args σ K∨zlH P G f args σ K∨kp P G f args σ K∨zeA P f args σ K
def aGd (d:Option Tmp) (tm:List (Nat×C)) (want:Bool) (X Y:Prop):Prop:=match d with
 | some d=>match want with
  | true=>zlA (jU tm d) Y X Y
  | false=>zlA (jU tm d) Y Y X
 | none=>False
def zpB (L:Option Lay) (c:C) (bx:List (List C)) (K:C->Prop):Prop:=
 match L with
 | none=>False
 | some L=>match c with
  | .ptr i off=>match bx[i]? with
   | some cs=>Yv L (cs.drop off) K
   | none=>False
  | .row cs=>Yv L cs K
  | _=>False
def zpq (cs:Option (List C)) (off:Nat) (L:Lay) (K:C->Prop):Prop:=match cs with | some cs=>Yv L (cs.drop off) K | none=>False
def zrd (L:Option Lay) (op:BinOp) (a b:Bool) (K:C->Prop):Prop:=match L with | some ⟨.bool,_,_,_⟩=>zif op a b K | _=>False
def zr5 (x:Option C) (K:C->Prop):Prop:=match x with | some c=>K c | none=>False
def uk (L:Option Lay) (c:C) (f:Nat) (K:C->Prop):Prop:=
 match L with
 | some ⟨.struct fs,_,_,_⟩=>match fs[f]?,c with
  | some (off,size,agg),.agg cs =>
   if agg then off+size<=cs.length/\K (.agg ((cs.drop off).take size)) else match cs[off]? with
    | some c=>K c
    | none=>False
  | _,_=>False
 | _=>False
def km (f:Option (Nat×Nat×Bool)) (cs:List C) (K:C->Prop):Prop:=
 match f with
 | some (off,size,agg)=>if agg then off+size<=cs.length/\K (.agg ((cs.drop off).take size)) else match cs[off]? with
    | some c=>K c
    | none=>False
 | none=>False
def ztw (L:Option Lay) (c:C) (f:Nat) (K:C->Prop):Prop:=
 match L with
 | some ⟨.struct fs,_,_,_⟩=>match fs[f]?,c with
  | some (off,size,_),.ptr i o=>if size=0 then False else K (.ptr i (o+off))
  | some (off,size,_),.row cs=>if size=0 then False else K (.row (cs.drop off))
  | _,_=>False
 | _=>False
def zoU (f:Option (Nat×Nat×Bool)) (c:C) (K:C->Prop):Prop:=
 match f,c with
  | some (off,size,_),.ptr i o=>if size=0 then False else K (.ptr i (o+off))
  | some (off,size,_),.row cs=>if size=0 then False else K (.row (cs.drop off))
  | _,_=>False
def ztP (P:Program) (L:Option Lay) (c:C) (i:C) (K:C->Prop):Prop:=
 match L,i with
 | some ⟨.slice e,_,_,_⟩,.sc (.int _ n)=>match lay P e with
  | some L=>match c with
   | .bs j off k m _=>k=L.size/\0<=n/\n<(m:Int)/\K (.ptr j (off+n.toNat*L.size))
   | c=>match c.rows? L.size with
    | some rows=>match rows[n.toNat]? with
     | some r=>0<=n/\K (.row r)
     | none=>False
    | none=>False
  | none=>False
 | some ⟨.array (m+1) e,_,_,_⟩,.sc (.int _ n)=>match lay P e with
  | some L=>match c with
   | .ptr j off=>0<=n/\n<((m+1:Nat):Int)/\K (.ptr j (off+n.toNat*L.size))
   | .row cs=>0<=n/\n<((m+1:Nat):Int)/\K (.row (cs.drop (n.toNat*L.size)))
   | _=>False
  | none=>False
 | _,_=>False
def ztp (L:Option Lay) (c:C) (n:Int) (K:C->Prop):Prop:=
 match L with
  | some L=>match c with
   | .bs j off k m _=>k=L.size/\0<=n/\n<(m:Int)/\K (.ptr j (off+n.toNat*L.size))
   | c=>match c.rows? L.size with
    | some rows=>match rows[n.toNat]? with
     | some r=>0<=n/\K (.row r)
     | none=>False
    | none=>False
  | none=>False
def ztt (rows:Option (List (List C))) (n:Int) (K:C->Prop):Prop:=
 match rows with
   | some rows=>match rows[n.toNat]? with
    | some r=>0<=n/\K (.row r)
    | none=>False
   | none=>False
def aAt (r:Option (List C)) (n:Int) (K:C->Prop):Prop:=match r with | some r=>0<=n/\K (.row r) | none=>False
def ztV (L:Option Lay) (c:C) (m:Nat) (n:Int) (K:C->Prop):Prop:=
 match L with
  | some L=>match c with
   | .ptr j off=>0<=n/\n<((m+1:Nat):Int)/\K (.ptr j (off+n.toNat*L.size))
   | .row cs=>0<=n/\n<((m+1:Nat):Int)/\K (.row (cs.drop (n.toNat*L.size)))
   | _=>False
  | none=>False
def zrQ (L:Option Lay) (c i:C) (K:C->Prop):Prop:=
 match L,c,i with
 | some ⟨.str,_,_,_⟩,.str l,.sc (.int _ n)=>match l[n.toNat]? with
  | some b=>0<=n/\K (.sc (.int .u8 (b.toNat:Int)))
  | none=>False
 | _,_,_=>False
def zlU (b:Option UInt8) (n:Int) (K:C->Prop):Prop:=match b with | some b=>0<=n/\K (.sc (.int .u8 (b.toNat:Int))) | none=>False
def zs0 (P:Program) (L:Option Lay) (c:C) (lo hi mx:Option Int) (K:C->Prop):Prop:=
   match L with
    | some ⟨.str,_,_,_⟩=>match c,mx with
      | .str l,none=>j8 l.length lo hi/\K (.str (cut l lo hi))
      | _,_=>False
    | some ⟨.slice e,_,_,_⟩=>match lay P e with
      | some L=>match c with
        | .bs i off k n cap=>znl L.size i off k n cap lo hi mx K
        | .sc (.slice none 0 0)=>zpS L.size lo hi mx K
        | c=>match c.rows? L.size with
          | some rows=>match mx,hi with
            | none,_=>j8 rows.length lo hi/\K (.sl L.size (cut rows lo hi))
            | some m,some h=>m=h/\j8 rows.length lo hi/\K (.tight L.size (cut rows lo hi))
            | some _,none=>False
          | none=>False
      | none=>False
    | _=>False
def zty (P:Program) (t:TypeId) (c:C) (lo hi mx:Option (Option Int)) (K:C->Prop):Prop:=
 match lo,hi,mx with
 | some lo,some hi,some mx=>zs0 P (lay P t) c lo hi mx K
 | _,_,_=>False
def ztN (L:Option Lay) (c:C) (lo hi mx:Option Int) (K:C->Prop):Prop:=
 match L with
   | some L=>match c with
    | .bs i off k n cap=>znl L.size i off k n cap lo hi mx K
    | .sc (.slice none 0 0)=>zpS L.size lo hi mx K
    | c=>match c.rows? L.size with
     | some rows=>match mx,hi with
      | none,_=>j8 rows.length lo hi/\K (.sl L.size (cut rows lo hi))
      | some m,some h=>m=h/\j8 rows.length lo hi/\K (.tight L.size (cut rows lo hi))
      | some _,none=>False
     | none=>False
   | none=>False
def zt5 (rows:Option (List (List C))) (k:Nat) (lo hi mx:Option Int) (K:C->Prop):Prop:=
 match rows with
    | some rows=>match mx,hi with
     | none,_=>j8 rows.length lo hi/\K (.sl k (cut rows lo hi))
     | some m,some h=>m=h/\j8 rows.length lo hi/\K (.tight k (cut rows lo hi))
     | some _,none=>False
    | none=>False
def zfm (rows:Option (List (List C))) (K:C->Prop):Prop:=match rows with | some rows=>∃ l,rows=JT l/\K (.str l) | none=>False
theorem zfm.mk {rows:List (List C)} (l:Lz) (h:rows=JT l) (hK:K (.str l)):zfm (some rows) K:=⟨l,h,hK⟩
def ztk (P:Program) (D S:Option Lay) (c:C) (K:C->Prop):Prop:=
 match D with
 | some ⟨.int k,_,_,_⟩=>match c with
  | .sc (.int _ n)=>match S with | some _=>inR k n/\K (.sc (.int k n)) | none=>False
  | _=>False
 | some ⟨.str,_,_,_⟩=>match S with
  | some ⟨.str,_,_,_⟩=>match c with
   | .str l=>K (.str l)
   | _=>False
  | some ⟨.slice e,_,_,_⟩=>match lay P e with
   | some ⟨.int .u8,_,_,_⟩=>match c.rows? 1 with
    | some rows=>∃ l,rows=JT l/\K (.str l)
    | none=>False
   | _=>False
  | some ⟨.int _,_,_,_⟩=>match c with
   | .sc (.int _ n)=>K (.str (Utf8.encode n).data.toList)
   | _=>False
  | _=>False
 | some ⟨.slice e,_,_,_⟩=>match S,lay P e with
  | some ⟨.str,_,_,_⟩,some ⟨.int .u8,_,_,_⟩=>match c with
   | .str l=>((l.length:Nat):Int)<=9223372036854775807/\K (.sl 1 (JT l))
   | _=>False
  | _,_=>False
 | _=>False
def zt3 (L:Option Lay) (c:C) (K:C->Prop):Prop:=
 match L with
   | some ⟨.int .u8,_,_,_⟩=>match c.rows? 1 with
    | some rows=>∃ l,rows=JT l/\K (.str l)
    | none=>False
   | _=>False
def zsZ (L:Option Lay) (c:C) (K:C->Prop):Prop:=
 match L,c with
 | some ⟨.slice _,_,_,_⟩,.bs _ _ _ _ c=>K (.sc (.int .i64 (c:Int)))
 | some ⟨.slice _,_,_,_⟩,.sc (.slice none 0 0)=>K (.sc (.int .i64 0))
 | _,_=>False
def zso (L:Option Lay) (n:Int) (K:C->Prop):Prop:=match L with | some ⟨.slice _,_,_,_⟩=>K (.sc (.int .i64 n)) | _=>False
def zr8 (L:Option Lay) (n:Int) (K:C->Prop):Prop:=match L with | some ⟨.str,_,_,_⟩=>K (.sc (.int .i64 n)) | _=>False
def zsD (L:Option Lay) (parts:List (Nat×C)) (K:C->Prop):Prop:=
 match L with
 | some ⟨.struct fs,_,_,some z⟩=>(parts.all fun p=>p.2.partB)=true/\match Xg (fun i=>(fs[i]?).map fun f=>(f.1,f.2.1)) (z.map zC) parts with
  | some cs=>K (.agg cs)
  | none=>False
 | _=>False
def aFl (cs:Option (List C)) (K:C->Prop):Prop:=match cs with | some cs=>K (.agg cs) | none=>False
def plS (fs:List (Nat×Nat×Bool)) (i:Nat):Option (Nat×Nat):=(fs[i]?).map fun f=>(f.1,f.2.1)
def plA (k:Nat) (i:Nat):Option (Nat×Nat):=some (i*k,k)
def zlu (pl:Option (Nat×Nat)) (place:Nat->Option (Nat×Nat)) (cs:List C) (c:List C) (rest:List (Nat×C)):Option (List C):=
 match pl with
  | none=>none
  | some (off,size)=>if c.length=size/\off+size<=cs.length then Xg place (cs.take off++c++cs.drop (off+size)) rest else none
def ztZ (P:Program) (L:Option Lay) (n:Nat) (parts:List (Nat×C)) (nx:Nat) (K:C->Nat->Prop):Prop:=
 match L with
 | some ⟨.slice e,_,_,_⟩=>match lay P e with
  | some ⟨_,k,_,some z⟩=>z.length=k/\0<k/\n*k<=16777216/\(parts.all fun p=>p.2.frz.partB)=true/\match Xg (fun i=>some (i*k,k)) (List.replicate n (z.map zC)).flatten (parts.map fun p=>(p.1,p.2.frz)) with
   | some cs=>(cs.all C.cellB)=true/\cs.length=n*k/\K (.own nx e k (QV k n cs)) (nx+1)
   | none=>False
  | _=>False
 | _=>False
def ztA (L:Option Lay) (e:TypeId) (n:Nat) (parts:List (Nat×C)) (nx:Nat) (K:C->Nat->Prop):Prop:=
   match L with
    | some ⟨_,k,_,some z⟩=>z.length=k/\0<k/\n*k<=16777216/\(parts.all fun p=>p.2.frz.partB)=true/\match Xg (fun i=>some (i*k,k)) (List.replicate n (z.map zC)).flatten (parts.map fun p=>(p.1,p.2.frz)) with
      | some cs=>(cs.all C.cellB)=true/\cs.length=n*k/\K (.own nx e k (QV k n cs)) (nx+1)
      | none=>False
    | _=>False
def zt0 (cs:Option (List C)) (e k n nx:Nat) (K:C->Nat->Prop):Prop:=
 match cs with
   | some cs=>(cs.all C.cellB)=true/\cs.length=n*k/\K (.own nx e k (QV k n cs)) (nx+1)
   | none=>False
def ztL (P:Program) (L:Option Lay) (l c:C) (nx:Nat) (K:C->Nat->Prop):Prop:=
 match L,l,c with
 | some ⟨.slice e,_,_,_⟩,.sc (.int _ l),.sc (.int _ c)=>match lay P e with
  | some ⟨_,k,by',some z⟩=>z.length=k/\0<k/\(z.all Value.oneCell')=true/\0<=l/\l<=c/\(by':Int)*c<=281474976710656/\c<=9223372036854775807/\K (.own nx e k (List.replicate l.toNat (z.map zC))) (nx+1)
  | _=>False
 | _,_,_=>False
def ztd (L:Option Lay) (e:TypeId) (l c:Int) (nx:Nat) (K:C->Nat->Prop):Prop:=
 match L with
  | some ⟨_,k,by',some z⟩=>z.length=k/\0<k/\(z.all Value.oneCell')=true/\0<=l/\l<=c/\(by':Int)*c<=281474976710656/\c<=9223372036854775807/\K (.own nx e k (List.replicate l.toNat (z.map zC))) (nx+1)
  | _=>False
def zsm (P:Program) (L:Option Lay) (l c:C) (σ:St) (K:C->St->Prop):Prop:=
 match L,l,c with
 | some ⟨.slice e,_,_,_⟩,.sc (.int _ l),.sc (.int _ c)=>match lay P e with
  | some ⟨_,k,by',some z⟩=>z.length=k/\0<k/\(z.all Value.oneCell')=true/\0<=l/\l<=c/\(by':Int)*c<=281474976710656/\c<=9223372036854775807/\K (.bs σ.bx.length 0 k l.toNat c.toNat) ⟨σ.tm,σ.bx++[(List.replicate c.toNat (z.map zC)).flatten],σ.nx,σ.lg⟩
  | _=>False
 | _,_,_=>False
def zsN (L:Option Lay) (l c:Int) (σ:St) (K:C->St->Prop):Prop:=
 match L with
  | some ⟨_,k,by',some z⟩=>z.length=k/\0<k/\(z.all Value.oneCell')=true/\0<=l/\l<=c/\(by':Int)*c<=281474976710656/\c<=9223372036854775807/\K (.bs σ.bx.length 0 k l.toNat c.toNat) ⟨σ.tm,σ.bx++[(List.replicate c.toNat (z.map zC)).flatten],σ.nx,σ.lg⟩
  | _=>False
def zth (P:Program) (L:Option Lay) (s x:C) (nx:Nat) (K:C->Nat->Prop):Prop:=
 match L with
 | some ⟨.slice e,_,_,_⟩=>match lay P e with
  | some ⟨_,k,by',some z⟩=>match x.rows? k with
   | some xs=>match s with
    | .sc (.slice none 0 0)=>z.length=k/\0<k/\xs.length<=9223372036854775807/\xs.length*by'<=140737488355328/\K (.own nx e k xs) (nx+1)
    | .tight k' rows=>k'=k/\z.length=k/\0<k/\rows.length+xs.length<=9223372036854775807/\(rows.length+xs.length)*by'<=140737488355328/\(xs = []->K (.tight k' rows) nx)/\(xs≠[]->K (.own nx e k (rows++xs)) (nx+1))
    | _=>False
   | none=>False
  | _=>False
 | _=>False
def zti (L:Option Lay) (e:TypeId) (s x:C) (nx:Nat) (K:C->Nat->Prop):Prop:=
  match L with
  | some ⟨_,k,by',some z⟩=>match x.rows? k with
   | some xs=>match s with
    | .sc (.slice none 0 0)=>z.length=k/\0<k/\xs.length<=9223372036854775807/\xs.length*by'<=140737488355328/\K (.own nx e k xs) (nx+1)
    | .tight k' rows=>k'=k/\z.length=k/\0<k/\rows.length+xs.length<=9223372036854775807/\(rows.length+xs.length)*by'<=140737488355328/\(xs = []->K (.tight k' rows) nx)/\(xs≠[]->K (.own nx e k (rows++xs)) (nx+1))
    | _=>False
   | none=>False
  | _=>False
def ztK (xs:Option (List (List C))) (s:C) (e k by':Nat) (z:List Value) (nx:Nat) (K:C->Nat->Prop):Prop:=
 match xs with
   | some xs=>match s with
    | .sc (.slice none 0 0)=>z.length=k/\0<k/\xs.length<=9223372036854775807/\xs.length*by'<=140737488355328/\K (.own nx e k xs) (nx+1)
    | .tight k' rows=>k'=k/\z.length=k/\0<k/\rows.length+xs.length<=9223372036854775807/\(rows.length+xs.length)*by'<=140737488355328/\(xs = []->K (.tight k' rows) nx)/\(xs≠[]->K (.own nx e k (rows++xs)) (nx+1))
    | _=>False
   | none=>False
def ztX (P:Program) (L:Option Lay) (id e k:Nat) (rows:List (List C)) (x:C) (σ:St) (K:C->St->Prop):Prop:=
   match L with
    | some ⟨.slice e',_,_,_⟩=>match lay P e with
      | some ⟨_,k',by',some z⟩=>match x.rows? k with
        | some xs=>e'=e/\k'=k/\z.length=k/\0<k/\rows.length+xs.length<=9223372036854775807/\(rows.length+xs.length)*by'<=140737488355328/\K (.own id e k (rows++xs)) ⟨zcI id σ.tm,yF id σ.bx,σ.nx,σ.lg⟩
        | none=>False
      | _=>False
    | _=>False
def zse (L:Option Lay) (e' id e k:Nat) (rows:List (List C)) (x:C) (σ:St) (K:C->St->Prop):Prop:=
  match L with
   | some ⟨_,k',by',some z⟩=>match x.rows? k with
    | some xs=>e'=e/\k'=k/\z.length=k/\0<k/\rows.length+xs.length<=9223372036854775807/\(rows.length+xs.length)*by'<=140737488355328/\K (.own id e k (rows++xs)) ⟨zcI id σ.tm,yF id σ.bx,σ.nx,σ.lg⟩
    | none=>False
   | _=>False
def zsP (xs:Option (List (List C))) (by' id e k:Nat) (rows:List (List C)) (σ:St) (K:C->St->Prop):Prop:=
   match xs with
        | some xs=>rows.length+xs.length<=9223372036854775807/\(rows.length+xs.length)*by'<=140737488355328/\K (.own id e k (rows++xs)) ⟨zcI id σ.tm,yF id σ.bx,σ.nx,σ.lg⟩
        | none=>False
def ztS (L:Option Lay) (σ:St) (K:C->St->Prop):Prop:=
 match L with
 | some ⟨_,_,_,some z⟩=>(z.all Value.oneCell')=true/\K (.ptr σ.bx.length 0) ⟨σ.tm,σ.bx++[z.map zC],σ.nx,σ.lg⟩
 | _=>False
def ztf (L:Option Lay) (p c:C) (bx:List (List C)) (K:C->Prop):Prop:=
 match L,p with
 | some L,.ptr i off=>match bx[i]? with
  | some cs=>c.partB=true/\(c.cells.all C.cellB)=true/\c.cells.length=L.size/\off+L.size<=cs.length/\Up ((cs.drop off).take L.size) c.cells/\K .any
  | none=>False
 | _,_=>False
def ztr (cs:Option (List C)) (off size:Nat) (c:C) (K:C->Prop):Prop:=
 match cs with
  | some cs=>c.partB=true/\(c.cells.all C.cellB)=true/\c.cells.length=size/\off+size<=cs.length/\Up ((cs.drop off).take size) c.cells/\K .any
  | none=>False
def ztn (L:Option Lay) (p c:C) (σ:St) (K:C->St->Prop):Prop:=
 match L,p with
 | some L,.ptr i off=>match σ.bx[i]? with
  | some cs=>c.partB=true/\(c.cells.all C.cellB)=true/\c.cells.length=L.size/\off+L.size<=cs.length/\K .any ⟨σ.tm,σ.bx.set i (cs.take off++c.cells++cs.drop (off+L.size)),σ.nx,σ.lg⟩
  | none=>False
 | _,_=>False
def ztO (cs:Option (List C)) (i off size:Nat) (c:C) (σ:St) (K:C->St->Prop):Prop:=
 match cs with
  | some cs=>c.partB=true/\(c.cells.all C.cellB)=true/\c.cells.length=size/\off+size<=cs.length/\K .any ⟨σ.tm,σ.bx.set i (cs.take off++c.cells++cs.drop (off+size)),σ.nx,σ.lg⟩
  | none=>False
def zgr (cs:Option (List C)) (off n:Nat) (K:C->Prop):Prop:=match cs with
   | some cs=>∃ l:Lz,l.length=n/\(cs.drop off).take n=l.map (fun b=>C.sc (.int .u8 (b.toNat:Int)))/\K (.str l)
   | none=>False
theorem zgr.mk {K:C->Prop} (l:Lz) (hl:l.length=n) (h:(cs.drop off).take n=l.map (fun b=>C.sc (.int .u8 (b.toNat:Int)))) (hK:K (.str l)):zgr (some cs) off n K:=⟨l,hl,h,hK⟩
def zte (P:Program) (L:Option Lay) (n:Nat) (parts:List (Nat×C)) (σ:St) (K:C->St->Prop):Prop:=
 match L with
 | some ⟨.slice e,_,_,_⟩=>match lay P e with
  | some ⟨_,k,_,some z⟩=>z.length=k/\0<k/\n*k<=16777216/\(parts.all fun p=>p.2.frz.partB)=true/\match Xg (fun i=>some (i*k,k)) (List.replicate n (z.map zC)).flatten (parts.map fun p=>(p.1,p.2.frz)) with
   | some cs=>(cs.all C.cellB)=true/\cs.length=n*k/\K (.bs σ.bx.length 0 k n n) ⟨σ.tm,σ.bx++[cs],σ.nx,σ.lg⟩
   | none=>False
  | _=>False
 | _=>False
def ztI (L:Option Lay) (n:Nat) (parts:List (Nat×C)) (σ:St) (K:C->St->Prop):Prop:=
   match L with
    | some ⟨_,k,_,some z⟩=>z.length=k/\0<k/\n*k<=16777216/\(parts.all fun p=>p.2.frz.partB)=true/\match Xg (fun i=>some (i*k,k)) (List.replicate n (z.map zC)).flatten (parts.map fun p=>(p.1,p.2.frz)) with
      | some cs=>(cs.all C.cellB)=true/\cs.length=n*k/\K (.bs σ.bx.length 0 k n n) ⟨σ.tm,σ.bx++[cs],σ.nx,σ.lg⟩
      | none=>False
    | _=>False
def ztG (cs:Option (List C)) (k n:Nat) (σ:St) (K:C->St->Prop):Prop:=
 match cs with
   | some cs=>(cs.all C.cellB)=true/\cs.length=n*k/\K (.bs σ.bx.length 0 k n n) ⟨σ.tm,σ.bx++[cs],σ.nx,σ.lg⟩
   | none=>False
def ztW (P:Program) (L:Option Lay) (p:Nat) (s x:C) (σ:St) (K:C->St->Prop):Prop:=
 match L with
 | some ⟨.slice e,_,_,_⟩=>match lay P e with
  | some ⟨_,k,by',some z⟩=>match x.xs? k σ.bx with
   | some (m,xs)=>z.length=k/\0<k/\(z.all Value.oneCell')=true/\0<m/\match s with
    | .sc (.slice none 0 0)=>m<=9223372036854775807/\m*by'<=140737488355328/\∀ c,m<=c->c<=maxLen->K (.bs σ.bx.length 0 k m c) ⟨σ.tm,σ.bx++[xs++List.replicate ((c-m)*k) .any],σ.nx,σ.lg⟩
    | .bs i 0 k' n c=>match σ.bx[i]? with
     | some cs=>k'=k/\p<=i/\cs.length=c*k/\n<=c/\c<=9223372036854775807/\n+m<=9223372036854775807/\(n+m)*by'<=140737488355328 /\
       ∀ c',n+m<=c'->c'<=maxLen->K (.bs i 0 k (n+m) c') ⟨Gh (Yg i) some σ.tm,ZB i (C.reL (Yg i) some (cs.take (n*k)++xs)++List.replicate ((c'-(n+m))*k) .any) σ.bx,σ.nx,σ.lg⟩
     | none=>False
    | _=>False
   | none=>False
  | _=>False
 | _=>False
def ztC (L:Option Lay) (p:Nat) (s x:C) (σ:St) (K:C->St->Prop):Prop:=
  match L with
  | some ⟨_,k,by',some z⟩=>match x.xs? k σ.bx with
   | some (m,xs)=>z.length=k/\0<k/\(z.all Value.oneCell')=true/\0<m/\match s with
    | .sc (.slice none 0 0)=>m<=9223372036854775807/\m*by'<=140737488355328/\∀ c,m<=c->c<=maxLen->K (.bs σ.bx.length 0 k m c) ⟨σ.tm,σ.bx++[xs++List.replicate ((c-m)*k) .any],σ.nx,σ.lg⟩
    | .bs i 0 k' n c=>match σ.bx[i]? with
     | some cs=>k'=k/\p<=i/\cs.length=c*k/\n<=c/\c<=9223372036854775807/\n+m<=9223372036854775807/\(n+m)*by'<=140737488355328 /\
       ∀ c',n+m<=c'->c'<=maxLen->K (.bs i 0 k (n+m) c') ⟨Gh (Yg i) some σ.tm,ZB i (C.reL (Yg i) some (cs.take (n*k)++xs)++List.replicate ((c'-(n+m))*k) .any) σ.bx,σ.nx,σ.lg⟩
     | none=>False
    | _=>False
   | none=>False
  | _=>False
def ztu (X:Option (Nat×List C)) (p k by':Nat) (z:List Value) (s:C) (σ:St) (K:C->St->Prop):Prop:=
  match X with
   | some (m,xs)=>z.length=k/\0<k/\(z.all Value.oneCell')=true/\0<m/\match s with
    | .sc (.slice none 0 0)=>m<=9223372036854775807/\m*by'<=140737488355328/\∀ c,m<=c->c<=maxLen->K (.bs σ.bx.length 0 k m c) ⟨σ.tm,σ.bx++[xs++List.replicate ((c-m)*k) .any],σ.nx,σ.lg⟩
    | .bs i 0 k' n c=>match σ.bx[i]? with
     | some cs=>k'=k/\p<=i/\cs.length=c*k/\n<=c/\c<=9223372036854775807/\n+m<=9223372036854775807/\(n+m)*by'<=140737488355328 /\
       ∀ c',n+m<=c'->c'<=maxLen->K (.bs i 0 k (n+m) c') ⟨Gh (Yg i) some σ.tm,ZB i (C.reL (Yg i) some (cs.take (n*k)++xs)++List.replicate ((c'-(n+m))*k) .any) σ.bx,σ.nx,σ.lg⟩
     | none=>False
    | _=>False
   | none=>False
def bsO (j:Option Nat) (off k n c:Nat):C:=match j with | some j=>.bs j off k n c | none=>.any
def xsB (k' k off n:Nat) (cs:Option (List C)):Option (Nat×List C):=if k'=k then cs.bind fun cs=>if off+n*k<=cs.length then some (n,(cs.drop off).take (n*k)) else none else none
def zrB (j:Option Nat) (e k:Nat) (rows:List (List C)):C:=match j with | some j=>.own j e k rows | none=>.sl k rows
def zsl (cs:Option (List C)) (off:Nat):C:=match cs with | some cs=>.row ((C.frzL cs).drop off) | none=>.any
def zoD (j:Option Nat) (off:Nat):C:=match j with | some j=>.ptr j off | none=>.any
def zmD (cs:Option (List C)) (p:Option Tmp) (σ:St) (K:St->Prop):Prop:=match cs,p with
  | some cs,some p=>K ⟨(p,.ptr σ.bx.length 0) :: σ.tm,σ.bx++[cs],σ.nx,σ.lg⟩
  | _,_=>False
def ztB (M:Option (MKd×C)) (t:TypeId) (r:Option C) (nx:Nat) (K:C->Nat->Prop):Prop:=
 match M with
 | some (kd,_)=>match r with
  | none=>K (.mo nx t kd.nil []) (nx+1)
  | some (.sc (.int _ _))=>K (.mo nx t kd.nil []) (nx+1)
  | _=>False
 | none=>False
def ztv (M:Option (MKd×C)) (t:TypeId) (m key:C) (ok:Bool) (K:C->Prop):Prop:=
 match M with
 | some (.int k,z)=>match m,key with
  | .mo _ t' (.int k' l) vs,.sc (.int q n)=>t'=t/\k'=k/\q=k/\Gx (zhS n l vs) z ok K
  | _,_=>False
 | some (.str,z)=>match m,key with
  | .mo _ t' (.str l) vs,.str s=>t'=t/\Gx (zhS s l vs) z ok K
  | _,_=>False
 | none=>False
def ztR (M:Option (MKd×C)) (t:TypeId) (m key x:C) (σ:St) (K:C->St->Prop):Prop:=
 match M with
 | some (.int k,_)=>match m,key with
  | .mo id t' (.int k' l) vs,.sc (.int q n)=>t'=t/\k'=k/\q=k/\NA id (.int k (HG n x.frz l vs).1) (HG n x.frz l vs).2 σ K
  | _,_=>False
 | some (.str,_)=>match m,key with
  | .mo id t' (.str l) vs,.str s=>t'=t/\NA id (.str (HG s x.frz l vs).1) (HG s x.frz l vs).2 σ K
  | _,_=>False
 | none=>False
def zs1 (x:Option (List C)):C:=match x with | some cs=>.row cs | none=>.any
structure Tag.{u} {α:Sort u} (a:α):Type where
def zp2 (M:Option (MKd×C)) (t:TypeId) (r:Option C) (nx:Nat) (K:C->Nat->Prop) (_:Tag K):Prop:=ztB M t r nx K
def zoX (M:Option (MKd×C)) (t:TypeId) (m key:C) (ok:Bool) (K:C->Prop) (_:Tag K):Prop:=ztv M t m key ok K
def zge (r:Option C) (z:C) (ok:Bool) (K:C->Prop) (_:Tag K):Prop:=Gx r z ok K
def zpo (M:Option (MKd×C)) (t:TypeId) (m key x:C) (σ:St) (K:C->St->Prop) (_:Tag K):Prop:=ztR M t m key x σ K
def zg2 (sz i off k n cap:Nat) (lo hi mx:Option Int) (K:C->Prop) (_:Tag K):Prop:=znl sz i off k n cap lo hi mx K
def UW (P:Program) (t:TypeId) (s x:C) (σ:St) (K:C->St->Prop) (_:Tag K):Prop:=JP P t s x σ K
def zbo (P:Program) (t tn:TypeId) (s x:C) (σ:St) (K:C->St->Prop) (_:Tag K):Prop:=GV P t tn s x σ K
def MF (P:Program) (t:TypeId) (d x:C) (σ:St) (K:C->St->Prop) (_:Tag K):Prop:=Zl P t d x σ K
def vR (P:Program) (t:TypeId) (x:C) (σ:St) (K:C->St->Prop) (_:Tag K):Prop:=Hj P t x σ K
def zqM (x y:C) (K:C->Prop) (_:Tag K):Prop:=zoQ x y K
def zrc (P:Program) (t:TypeId) (c:C) (K:C->Prop) (_:Tag K):Prop:=zoT P t c K
def zeg (L:Option Lay) (c:C) (K:C->Prop) (_:Tag K):Prop:=zsZ L c K
def vj (P:Program) (bx:List (List C)) (s d:TypeId) (c:C) (K:C->Prop) (_:Tag K):Prop:=u0 P bx s d c K
def GH (P:Program) (t:TypeId) (n:Nat) (parts:List (Nat×C)) (σ:St) (K:C->St->Prop) (_:Tag K):Prop:=Z3 P t n parts σ K
def zph (P:Program) (L:Option Lay) (n:Nat) (parts:List (Nat×C)) (σ:St) (K:C->St->Prop) (_:Tag K):Prop:=zte P L n parts σ K
def zp9 (L:Option Lay) (n:Nat) (parts:List (Nat×C)) (σ:St) (K:C->St->Prop) (_:Tag K):Prop:=ztI L n parts σ K
def zqK (cs:Option (List C)) (k n:Nat) (σ:St) (K:C->St->Prop) (_:Tag K):Prop:=ztG cs k n σ K
def zae (P:Program) (p:Nat) (t:TypeId) (s x:C) (σ:St) (K:C->St->Prop) (_:Tag K):Prop:=U5 P p t s x σ K
def zp1 (P:Program) (L:Option Lay) (p:Nat) (s x:C) (σ:St) (K:C->St->Prop) (_:Tag K):Prop:=ztW P L p s x σ K
def zq7 (L:Option Lay) (p:Nat) (s x:C) (σ:St) (K:C->St->Prop) (_:Tag K):Prop:=ztC L p s x σ K
def zo7 (X:Option (Nat×List C)) (p k by':Nat) (z:List Value) (s:C) (σ:St) (K:C->St->Prop) (_:Tag K):Prop:=ztu X p k by' z s σ K
def zmN (c:C) (X Y:Prop) (_:Tag X) (_:Tag Y):Prop:=ABr c X Y
def zis (c:C) (U X Y:Prop) (_:Tag U) (_:Tag X) (_:Tag Y):Prop:=zlA c U X Y
def Y0 (ops:Array Oper) (tm:List (Nat×C)) (g:Option (Nat×Bool)) (X Y:Prop) (_:Tag ops) (_:Tag X) (_:Tag Y):Prop:=jj ops tm g X Y
def zsk (d:Option Tmp) (tm:List (Nat×C)) (want:Bool) (X Y:Prop) (_:Tag X) (_:Tag Y):Prop:=aGd d tm want X Y
def VO (P:Program) (G:zp) (h:Hd) (c:Code) (Q:Exit->St->Prop) (σ:St) (_:Tag c) (_:Tag Q):Prop:=awp P G h c Q σ
def zgH (P:Program) (G:zp) (h:Hd) (ops:Array Oper) (l:List Oper) (σ:St) (K:St->Prop) (_:Tag h) (_:Tag ops) (_:Tag l) (_:Tag K):Prop:=zpF P G h ops l σ K
def XU (P:Program) (G:zp) (h:Hd) (ops:Array Oper) (l:List Oper) (br:List Bool) (σ:St) (K:St->Prop) (_:Tag h) (_:Tag ops) (_:Tag l) (_:Tag K):Prop:=ZM P G h ops l br σ K
def H0 (P:Program) (G:zp) (h:Hd) (ops:Array Oper) (br:List Bool) (σ:St) (K:St->Prop) (_:Tag h) (_:Tag ops) (_:Tag K):Prop:=HR P G h ops br σ K
def zoG (P:Program) (G:zp) (Y:Hd) (ops:Array Oper) (rest:List (Nat×MFl)) (q:Nat) (H:List kS) (fl:MFl) (oo:Option Oper) (σ:St) (K:St->Prop):Prop:=match oo with
 | none=>False
 | some o=>match fl with
  | .pure=>jj ops σ.tm o.guard (Jl P G σ.bx (zr G σ.tm) o.op σ.nx fun c nx'=>mix P G Y ops rest (q+1) ((q,fun b=>Jl P G b (zr G σ.tm) o.op σ.nx fun c' n'=>c'=c/\n'=nx') :: H) ⟨jH σ.tm o.dst c,σ.bx,nx',σ.lg⟩ K)
    (mix P G Y ops rest (q+1) H ⟨jH σ.tm o.dst (.sc undef),σ.bx,σ.nx,σ.lg⟩ K)
  | .bar=>jj ops σ.tm o.guard (Mn P G Y o.op σ fun c σ'=>mix P G Y ops rest (q+1) [] (σ'.put o.dst c) K) (mix P G Y ops rest (q+1) [] (σ.put o.dst (.sc undef)) K)
  | .flt fr=>o.guard=none/\zoZ P G o.op σ fun c bx' nx'=>YJ fr bx' H/\mix P G Y ops rest (q+1) H ⟨jH σ.tm o.dst c,bx',nx',σ.lg⟩ K
def kQ (P:Program) (G:zp) (h:Hd) (ops:Array Oper) (all:List Oper) (L:List (Nat×MFl)) (q:Nat) (H:List kS) (σ:St) (K:St->Prop) (_:Tag h) (_:Tag ops) (_:Tag all) (_:Tag H) (_:Tag K):Prop:=mix P G h ops L q H σ K
def NU (P:Program) (G:zp) (h:Hd) (ops:Array Oper) (all:List Oper) (L:List (Nat×MFl)) (q:Nat) (H:List kS) (fl:MFl) (i:Nat) (l:List Oper) (σ:St) (K:St->Prop) (_:Tag h) (_:Tag ops) (_:Tag all) (_:Tag H) (_:Tag l) (_:Tag K):Prop:=zoG P G h ops L q H fl (l[i]?) σ K
def znd (fr:List Nat) (b:List (List C)) (H:List kS) (_:Tag H):Prop:=YJ fr b H
def zd5 (P:Program) (G:zp) (f:C) (args:List C) (σ:St) (K:C->List (List C)->Nat->Prop) (_:Tag K):Prop:=za7 P G f args σ K
def zs4 (P:Program) (G:zp) (f:FuncId) (args:List C) (σ:St) (K:C->List (List C)->Nat->Prop) (_:Tag K):Prop:=zlj P G f args σ K
def XD (P:Program) (G:zp) (ops:Array Oper) (a s:Nat) (l:List Oper) (i:Nat) (cs:Option (List C)) (σ:St) (K:St->Prop) (_:Tag ops) (_:Tag l) (_:Tag K):Prop:=jN P G ops a s l i cs σ K
def zll (cs:Option (List C)) (p:Option Tmp) (σ:St) (K:St->Prop) (_:Tag K):Prop:=zmD cs p σ K
def zeV (cs ds:Option (List C)) (p q:Option Tmp) (σ:St) (K:St->Prop):Prop:=match cs,ds,p,q with
 | some cs,some ds,some p,some q=>K ⟨(q,.ptr (σ.bx++[cs]).length 0) :: (p,.ptr σ.bx.length 0) :: σ.tm,σ.bx++[cs]++[ds],σ.nx,σ.lg⟩
 | _,_,_,_=>False
def JD (P:Program) (G:zp) (ops:Array Oper) (a s b z:Nat) (l:List Oper) (i:Nat) (cs ds:Option (List C)) (σ:St) (K:St->Prop) (_:Tag ops) (_:Tag l) (_:Tag K):Prop:=Za P G ops a s b z l i cs ds σ K
def zeX (cs ds:Option (List C)) (p q:Option Tmp) (σ:St) (K:St->Prop) (_:Tag K):Prop:=zeV cs ds p q σ K
def za1 (L:Option Lay) (K:Prop) (_:Tag K):Prop:=M3 L K
def zaO (L:Option Lay) (c:C) (K:C->Prop) (_:Tag K):Prop:=HT L c K
def jQ (P:Program) (G:zp) (h:Hd) (op:Op) (σ:St) (K:C->St->Prop) (_:Tag h) (_:Tag op) (_:Tag K):Prop:=Mn P G h op σ K
def Zg (P:Program) (G:zp) (f:FuncId) (args fargs:List C) (σ:St) (K:C->St->Prop) (_:Tag K):Prop:=zo3 P G f args fargs σ K
def vb (P:Program) (G:zp) (h:Hd) (c:C) (args:List C) (σ:St) (K:C->St->Prop) (_:Tag h) (_:Tag K):Prop:=MN P G h c args σ K
def u9 (y:Yd) (it:Option (List C)) (args:List C) (σ:St) (K:C->St->Prop) (_:Tag y) (_:Tag K):Prop:=NC y it args σ K
def zex (P:Program) (G:zp) (p:Nat) (A B:Nat->(Exit->St->Prop)->St->Prop) (Q:Exit->St->Prop) (ps:List Tmp) (c:C) (σ:St) (_:Tag A) (_:Tag B) (_:Tag Q):Prop:=za2 P G p A B Q ps c σ
def jv (P:Program) (G:zp) (bx:List (List C)) (ev:Operand->C) (op:Op) (nx:Nat) (K:C->Nat->Prop) (_:Tag ev) (_:Tag op) (_:Tag K):Prop:=Jl P G bx ev op nx K
def zcE (P:Program) (σ:St) (rs:List ResultVar) (K:C->Prop) (_:Tag K):Prop:=zoB P σ rs K
def YP (P:Program) (σ:St) (rv:ResultVar) (K:C->Prop) (_:Tag K):Prop:=J3 P σ rv K
def yb (P:Program) (t:TypeId) (op:BinOp) (x y:C) (K:C->Prop) (_:Tag K):Prop:=zoE P t op x y K
def kL (op:BinOp) (k:IntKind) (a b:Int) (K:C->Prop) (_:Tag K):Prop:=zrC op k a b K
def zaZ (l:Option Lay) (op:BinOp) (x:C) (K:C->Prop) (_:Tag K):Prop:=zmr l op x K
def zfF (op:BinOp) (b:Bool) (K:C->Prop) (_:Tag K):Prop:=Nv op b K
def zhE (op:BinOp) (a b:Lz) (K:C->Prop) (_:Tag K):Prop:=zrR op a b K
def zlr (op:BinOp) (a b:Bool) (K:C->Prop) (_:Tag K):Prop:=zif op a b K
def zfj (L:Option Lay) (op:BinOp) (a b:Bool) (K:C->Prop) (_:Tag K):Prop:=zrd L op a b K
def zqH (op:BinOp) (ks:Option (List LK)) (xs ys:List C) (K:C->Prop) (_:Tag K):Prop:=zsh op ks xs ys K
def zow (n:Bool) (ks:List LK) (xs ys:List C) (e:Bool) (K:C->Prop) (_:Tag K):Prop:=aEq n ks xs ys e K
def zsE (op:UnOp) (x:C) (K:C->Prop) (_:Tag K):Prop:=aUn op x K
def zaD (P:Program) (t:TypeId) (c:C) (bx:List (List C)) (K:C->Prop) (_:Tag K):Prop:=vm P t c bx K
def uW (L:Option Lay) (c:C) (bx:List (List C)) (K:C->Prop) (_:Tag K):Prop:=zpB L c bx K
def zgP (cs:Option (List C)) (off:Nat) (L:Lay) (K:C->Prop) (_:Tag K):Prop:=zpq cs off L K
def VV (L:Lay) (cs:List C) (K:C->Prop) (_:Tag K):Prop:=Yv L cs K
def zmt (x:Option C) (K:C->Prop) (_:Tag K):Prop:=zr5 x K
def kr (c:C) (i:Nat) (K:C->Prop) (_:Tag K):Prop:=Ut c i K
def zof (c:C) (K:C->Prop) (_:Tag K):Prop:=zrD c K
def vD (P:Program) (t:TypeId) (c:C) (f:Nat) (K:C->Prop) (_:Tag K):Prop:=zat P t c f K
def zaC (L:Option Lay) (c:C) (f:Nat) (K:C->Prop) (_:Tag K):Prop:=uk L c f K
def zac (f:Option (Nat×Nat×Bool)) (cs:List C) (K:C->Prop) (_:Tag K):Prop:=km f cs K
def Zf (P:Program) (t:TypeId) (c:C) (f:Nat) (K:C->Prop) (_:Tag K):Prop:=QJ P t c f K
def zpt (L:Option Lay) (c:C) (f:Nat) (K:C->Prop) (_:Tag K):Prop:=ztw L c f K
def zlT (f:Option (Nat×Nat×Bool)) (c:C) (K:C->Prop) (_:Tag K):Prop:=zoU f c K
def Zr (P:Program) (t:TypeId) (c:C) (i:C) (K:C->Prop) (_:Tag K):Prop:=QH P t c i K
def zmz (P:Program) (L:Option Lay) (c:C) (i:C) (K:C->Prop) (_:Tag K):Prop:=ztP P L c i K
def zjX (L:Option Lay) (c:C) (n:Int) (K:C->Prop) (_:Tag K):Prop:=ztp L c n K
def znT (rows:Option (List (List C))) (n:Int) (K:C->Prop) (_:Tag K):Prop:=ztt rows n K
def ztb (r:Option (List C)) (n:Int) (K:C->Prop) (_:Tag K):Prop:=aAt r n K
def zpm (L:Option Lay) (c:C) (m:Nat) (n:Int) (K:C->Prop) (_:Tag K):Prop:=ztV L c m n K
def uo (P:Program) (t:TypeId) (c i:C) (K:C->Prop) (_:Tag K):Prop:=zbx P t c i K
def zqW (L:Option Lay) (c i:C) (K:C->Prop) (_:Tag K):Prop:=zrQ L c i K
def zlI (b:Option UInt8) (n:Int) (K:C->Prop) (_:Tag K):Prop:=zlU b n K
def vN (P:Program) (t:TypeId) (c:C) (lo hi mx:Option C) (K:C->Prop) (_:Tag K):Prop:=zao P t c lo hi mx K
def zq6 (P:Program) (t:TypeId) (c:C) (lo hi mx:Option (Option Int)) (K:C->Prop) (_:Tag K):Prop:=zty P t c lo hi mx K
def zn6 (P:Program) (L:Option Lay) (c:C) (lo hi mx:Option Int) (K:C->Prop) (_:Tag K):Prop:=zs0 P L c lo hi mx K
def zgt (L:Option Lay) (c:C) (lo hi mx:Option Int) (K:C->Prop) (_:Tag K):Prop:=ztN L c lo hi mx K
def zqn (k:Nat) (lo hi mx:Option Int) (K:C->Prop) (_:Tag K):Prop:=zpS k lo hi mx K
def zkI (rows:Option (List (List C))) (k:Nat) (lo hi mx:Option Int) (K:C->Prop) (_:Tag K):Prop:=zt5 rows k lo hi mx K
def znU (rows:Option (List (List C))) (K:C->Prop) (_:Tag K):Prop:=zfm rows K
def zeN (P:Program) (s d:TypeId) (c:C) (K:C->Prop) (_:Tag K):Prop:=zkC P s d c K
def zj4 (P:Program) (D S:Option Lay) (c:C) (K:C->Prop) (_:Tag K):Prop:=ztk P D S c K
def zro (L:Option Lay) (c:C) (K:C->Prop) (_:Tag K):Prop:=zt3 L c K
def vz (P:Program) (t:TypeId) (c:C) (K:C->Prop) (_:Tag K):Prop:=zqf P t c K
def xv (L:Option Lay) (n:Int) (K:C->Prop) (_:Tag K):Prop:=zso L n K
def zle (L:Option Lay) (n:Int) (K:C->Prop) (_:Tag K):Prop:=zr8 L n K
def uS (P:Program) (t:TypeId) (parts:List (Nat×C)) (K:C->Prop) (_:Tag K):Prop:=zay P t parts K
def zqr (L:Option Lay) (parts:List (Nat×C)) (K:C->Prop) (_:Tag K):Prop:=zsD L parts K
def ztc (cs:Option (List C)) (K:C->Prop) (_:Tag K):Prop:=aFl cs K
def Qt (P:Program) (t:TypeId) (n:Nat) (parts:List (Nat×C)) (nx:Nat) (K:C->Nat->Prop) (_:Tag K):Prop:=Yw P t n parts nx K
def N9 (P:Program) (t:TypeId) (n:Nat) (parts:List (Nat×C)) (nx:Nat) (K:C->Nat->Prop) (_:Tag K):Prop:=NJ P t n parts nx K
def zpO (P:Program) (L:Option Lay) (nx:Nat) (K:C->Nat->Prop) (_:Tag K):Prop:=match L with
 | some ⟨.slice e,_,_,_⟩=>match lay P e with
  | some ⟨_,k,_,some z⟩=>z.length=k/\0<k/\K (.tight k []) nx
  | _=>False
 | _=>False
def zq2 (L:Option Lay) (nx:Nat) (K:C->Nat->Prop) (_:Tag K):Prop:=match L with
  | some ⟨_,k,_,some z⟩=>z.length=k/\0<k/\K (.tight k []) nx
  | _=>False
def zqz (P:Program) (L:Option Lay) (n:Nat) (parts:List (Nat×C)) (nx:Nat) (K:C->Nat->Prop) (_:Tag K):Prop:=ztZ P L n parts nx K
def zo6 (L:Option Lay) (e:TypeId) (n:Nat) (parts:List (Nat×C)) (nx:Nat) (K:C->Nat->Prop) (_:Tag K):Prop:=ztA L e n parts nx K
def zpZ (cs:Option (List C)) (e k n nx:Nat) (K:C->Nat->Prop) (_:Tag K):Prop:=zt0 cs e k n nx K
def zlw (P:Program) (t:TypeId) (l c:C) (nx:Nat) (K:C->Nat->Prop) (_:Tag K):Prop:=zet P t l c nx K
def xm (P:Program) (t:TypeId) (l c:C) (σ:St) (K:C->St->Prop) (_:Tag K):Prop:=Uu P t l c σ K
def zlb (P:Program) (L:Option Lay) (l c:C) (σ:St) (K:C->St->Prop) (_:Tag K):Prop:=zsm P L l c σ K
def zly (L:Option Lay) (l c:Int) (σ:St) (K:C->St->Prop) (_:Tag K):Prop:=zsN L l c σ K
def zre (P:Program) (L:Option Lay) (l c:C) (nx:Nat) (K:C->Nat->Prop) (_:Tag K):Prop:=ztL P L l c nx K
def zpe (L:Option Lay) (e:TypeId) (l c:Int) (nx:Nat) (K:C->Nat->Prop) (_:Tag K):Prop:=ztd L e l c nx K
def N0 (P:Program) (t:TypeId) (s x:C) (σ:St) (K:C->St->Prop) (_:Tag K):Prop:=GY P t s x σ K
def NP (P:Program) (t:TypeId) (s x:C) (nx:Nat) (K:C->Nat->Prop) (_:Tag K):Prop:=VK P t s x nx K
def zpL (P:Program) (L:Option Lay) (s x:C) (nx:Nat) (K:C->Nat->Prop) (_:Tag K):Prop:=zth P L s x nx K
def zoO (L:Option Lay) (e:TypeId) (s x:C) (nx:Nat) (K:C->Nat->Prop) (_:Tag K):Prop:=zti L e s x nx K
def znR (xs:Option (List (List C))) (s:C) (e k by':Nat) (z:List Value) (nx:Nat) (K:C->Nat->Prop) (_:Tag K):Prop:=ztK xs s e k by' z nx K
def zqS (P:Program) (L:Option Lay) (id e k:Nat) (rows:List (List C)) (x:C) (σ:St) (K:C->St->Prop) (_:Tag K):Prop:=ztX P L id e k rows x σ K
def zpv (L:Option Lay) (e' id e k:Nat) (rows:List (List C)) (x:C) (σ:St) (K:C->St->Prop) (_:Tag K):Prop:=zse L e' id e k rows x σ K
def zqi (xs:Option (List (List C))) (by' id e k:Nat) (rows:List (List C)) (σ:St) (K:C->St->Prop) (_:Tag K):Prop:=zsP xs by' id e k rows σ K
def zfo (P:Program) (G:zp) (callee:C) (args:List C) (nx:Nat) (K:C->Nat->Prop) (_:Tag K):Prop:=xi P G callee args nx K
def uj (P:Program) (G:zp) (f:FuncId) (args:List C) (nx:Nat) (K:C->Nat->Prop) (_:Tag K):Prop:=zbf P G f args nx K
def zqc (c:C) (σ:St) (K:C->St->Prop) (_:Tag K):Prop:=zsv c σ K
def zq9 (L:Option Lay) (σ:St) (K:C->St->Prop) (_:Tag K):Prop:=ztS L σ K
def zpg (L:Option Lay) (p c:C) (σ:St) (K:C->St->Prop) (_:Tag K):Prop:=ztn L p c σ K
def zp6 (L:Option Lay) (p c:C) (bx:List (List C)) (K:C->Prop) (_:Tag K):Prop:=ztf L p c bx K
def zqo (cs:Option (List C)) (off size:Nat) (c:C) (K:C->Prop) (_:Tag K):Prop:=ztr cs off size c K
def zqL (cs:Option (List C)) (i off size:Nat) (c:C) (σ:St) (K:C->St->Prop) (_:Tag K):Prop:=ztO cs i off size c σ K
def zlF (p:Nat) (B:(Exit->St->Prop)->St->Prop) (Q:Exit->St->Prop) (σ:St) (_:Tag B) (_:Tag Q):Prop:=zj2 p B Q σ
def za3 (next:St->Prop) (Q:Exit->St->Prop) (_:Tag next) (_:Tag Q):Exit->St->Prop:=zrk next Q
def Hv (id:Nat) (Q:Exit->St->Prop) (_:Tag Q):Exit->St->Prop:=xK id Q
def G4 (Q:Exit->St->Prop) (_:Tag Q):Exit->St->Prop:=zgz Q
def zaX (next:St->Prop) (Q:Exit->St->Prop) (_:Tag next) (_:Tag Q):Exit->St->Prop:=zm5 next Q
def zlL (K:St->Prop) (_:Tag K):Exit->St->Prop:=zmF K
def yR (m:Nat) (tm:List (Nat×C)) (st:Bool) (next:St) (Q:Exit->St->Prop) (_:Tag next) (_:Tag Q):Exit->St->Prop:=zht m tm st next Q
def MS (P:Program) (rs:List ResultVar) (K:C->St->Prop) (_:Tag K):Exit->St->Prop:=zlG P rs K
theorem zpy:VO P G h .skip Q σ ⟨⟩ ⟨⟩=Q .normal σ:=(rfl)
theorem zlP {l:Nat}:VO P G h (.label l) Q σ ⟨⟩ ⟨⟩=Q .normal σ:=(rfl)
theorem zqQ {id:Nat}:VO P G h (.exit id) Q σ ⟨⟩ ⟨⟩=Q (.exit id) σ:=(rfl)
theorem zr9:VO P G h .ret Q σ ⟨⟩ ⟨⟩=Q .ret σ:=(rfl)
theorem zsH {a b:Code}:VO P G h (.seq a b) Q σ ⟨⟩ ⟨⟩=VO P G h a (za3 (fun σ=>VO P G h b Q σ ⟨⟩ ⟨⟩) Q ⟨⟩ ⟨⟩) σ ⟨⟩ ⟨⟩:=(rfl)
theorem zpb {cc:Operand} {a b:Code}:VO P G h (.cond cc a b) Q ⟨tm,bx,nx,lg⟩ ⟨⟩ ⟨⟩=zmN (zr G tm cc) (VO P G h a Q ⟨tm,bx,nx,lg⟩ ⟨⟩ ⟨⟩) (VO P G h b Q ⟨tm,bx,nx,lg⟩ ⟨⟩ ⟨⟩) ⟨⟩ ⟨⟩:=(rfl)
theorem znx {id:Nat} {a:Code}:VO P G h (.block id a) Q σ ⟨⟩ ⟨⟩=VO P G h a (Hv id Q ⟨⟩) σ ⟨⟩ ⟨⟩:=(rfl)
theorem zo0 {a:Code}:VO P G ⟨p,yd,bf⟩ (.loop a) Q σ ⟨⟩ ⟨⟩=zlF p (fun Q σ=>VO P G ⟨p,yd,bf⟩ a Q σ ⟨⟩ ⟨⟩) Q σ ⟨⟩ ⟨⟩:=(rfl)
theorem zj9 {a b:Code} {x:Operand} {ps:List Tmp}:VO P G ⟨p,yd,bf⟩ (.rangeFunc x ps.toArray a b) Q ⟨tm,bx,nx,lg⟩ ⟨⟩ ⟨⟩=zex P G p (fun m=>fun Q σ=>VO P G ⟨m,yd,bf⟩ a Q σ ⟨⟩ ⟨⟩) (fun m=>fun Q σ=>VO P G ⟨m,yd,bf⟩ b Q σ ⟨⟩ ⟨⟩) Q ps (zr G tm x) ⟨tm,bx,nx,lg⟩ ⟨⟩ ⟨⟩ ⟨⟩:=(rfl)
theorem zmR {a:Code}:VO P G h (.scope a) Q σ ⟨⟩ ⟨⟩=VO P G h a (G4 Q ⟨⟩) σ ⟨⟩ ⟨⟩:=(rfl)
theorem zkK {id:Nat} {l:List Oper}:VO P G ⟨p,yd,bf⟩ (.region id l.toArray false) Q σ ⟨⟩ ⟨⟩=zgH P G ⟨p,yd,bf⟩ l.toArray l σ (Q .normal) ⟨⟩ ⟨⟩ ⟨⟩ ⟨⟩:=(rfl)
theorem zdP {id:Nat} {l:List Oper}:VO P G ⟨p,yd,bf⟩ (.region id l.toArray true) Q σ ⟨⟩ ⟨⟩=H0 P G ⟨p,yd,bf⟩ l.toArray (bf id) σ (Q .normal) ⟨⟩ ⟨⟩ ⟨⟩:=(rfl)
theorem ziw {l:List Oper}:H0 P G h l.toArray [] σ KS ⟨⟩ ⟨⟩ ⟨⟩=XU P G h l.toArray l [] σ KS ⟨⟩ ⟨⟩ ⟨⟩ ⟨⟩:=(rfl)
theorem ziD {l:List Oper} {r:List Bool}:H0 P G h l.toArray (false :: r) σ KS ⟨⟩ ⟨⟩ ⟨⟩=XU P G h l.toArray l (false :: r) σ KS ⟨⟩ ⟨⟩ ⟨⟩ ⟨⟩:=(rfl)
theorem zjt {l:List Oper} {L:List (Nat×MFl)}:H0 P G h l.toArray (X5 L) σ KS ⟨⟩ ⟨⟩ ⟨⟩=kQ P G h l.toArray l L 0 [] σ KS ⟨⟩ ⟨⟩ ⟨⟩ ⟨⟩ ⟨⟩:=(show HR P G h l.toArray (X5 L) σ KS=mix P G h l.toArray L 0 [] σ KS from by
 unfold HR X5;rw[show Qc (zbn 199 (unR (zc4 L)))=none from rfl,show H4 (zbn 199 (unR (zc4 L)))=none from rfl,HD];simp only[zdA])
theorem zqw {all:List Oper}:kQ P G h ops all [] q H σ KS ⟨⟩ ⟨⟩ ⟨⟩ ⟨⟩ ⟨⟩=KS σ:=(rfl)
theorem zpf {all:List Oper} {fl:MFl} {L:List (Nat×MFl)}:kQ P G h all.toArray all ((i,fl) :: L) q H σ KS ⟨⟩ ⟨⟩ ⟨⟩ ⟨⟩ ⟨⟩=NU P G h all.toArray all L q H fl i all σ KS ⟨⟩ ⟨⟩ ⟨⟩ ⟨⟩ ⟨⟩ ⟨⟩:=(show mix P G h all.toArray ((i,fl) :: L) q H σ KS=zoG P G h all.toArray L q H fl (all[i]?) σ KS from rfl)
theorem zrw {o:Oper} {all l:List Oper} {fl:MFl} {L:List (Nat×MFl)}:NU P G h ops all L q H fl (i+1) (o :: l) σ KS ⟨⟩ ⟨⟩ ⟨⟩ ⟨⟩ ⟨⟩ ⟨⟩=NU P G h ops all L q H fl i l σ KS ⟨⟩ ⟨⟩ ⟨⟩ ⟨⟩ ⟨⟩ ⟨⟩:=(show zoG P G h ops L q H fl ((o :: l)[i+1]?) σ KS=zoG P G h ops L q H fl (l[i]?) σ KS from rfl)
theorem zpY {all:List Oper} {L:List (Nat×MFl)} {op:Op}:NU P G h ops all L q H .pure 0 (⟨dst,op,ty,pos,af,g⟩ :: rest) ⟨tm,bx,nx,lg⟩ KS ⟨⟩ ⟨⟩ ⟨⟩ ⟨⟩ ⟨⟩ ⟨⟩ =
  Y0 ops tm g (jv P G bx (zr G tm) op nx (fun c nx'=>kQ P G h ops all L (q+1) ((q,fun b=>jv P G b (zr G tm) op nx (fun c' n'=>c'=c/\n'=nx') ⟨⟩ ⟨⟩ ⟨⟩) :: H) ⟨jH tm dst c,bx,nx',lg⟩ KS ⟨⟩ ⟨⟩ ⟨⟩ ⟨⟩ ⟨⟩) ⟨⟩ ⟨⟩ ⟨⟩) (kQ P G h ops all L (q+1) H ⟨jH tm dst (.sc undef),bx,nx,lg⟩ KS ⟨⟩ ⟨⟩ ⟨⟩ ⟨⟩ ⟨⟩) ⟨⟩ ⟨⟩ ⟨⟩:=
 (show zoG P G h ops L q H .pure (some ⟨dst,op,ty,pos,af,g⟩) ⟨tm,bx,nx,lg⟩ KS=_ from rfl)
theorem zp0 {all:List Oper} {L:List (Nat×MFl)} {op:Op}:NU P G h ops all L q H .bar 0 (⟨dst,op,ty,pos,af,g⟩ :: rest) ⟨tm,bx,nx,lg⟩ KS ⟨⟩ ⟨⟩ ⟨⟩ ⟨⟩ ⟨⟩ ⟨⟩ =
  Y0 ops tm g (jQ P G h op ⟨tm,bx,nx,lg⟩ (fun c σ'=>kQ P G h ops all L (q+1) [] (σ'.put dst c) KS ⟨⟩ ⟨⟩ ⟨⟩ ⟨⟩ ⟨⟩) ⟨⟩ ⟨⟩ ⟨⟩) (kQ P G h ops all L (q+1) [] ((St.mk tm bx nx lg).put dst (.sc undef)) KS ⟨⟩ ⟨⟩ ⟨⟩ ⟨⟩ ⟨⟩) ⟨⟩ ⟨⟩ ⟨⟩:=
 (show zoG P G h ops L q H .bar (some ⟨dst,op,ty,pos,af,g⟩) ⟨tm,bx,nx,lg⟩ KS=_ from rfl)
theorem zoj {all:List Oper} {L:List (Nat×MFl)} {fr:List Nat}:NU P G h ops all L q H (.flt fr) 0 (⟨dst,.store t x y,ty,pos,af,none⟩ :: rest) ⟨tm,bx,nx,lg⟩ KS ⟨⟩ ⟨⟩ ⟨⟩ ⟨⟩ ⟨⟩ ⟨⟩ =
  jQ P G h (.store t x y) ⟨tm,bx,nx,lg⟩ (fun c σ'=>znd fr σ'.bx H ⟨⟩/\kQ P G h ops all L (q+1) H ⟨jH tm dst c,σ'.bx,σ'.nx,lg⟩ KS ⟨⟩ ⟨⟩ ⟨⟩ ⟨⟩ ⟨⟩) ⟨⟩ ⟨⟩ ⟨⟩:=
 (show ((none:Option (Nat×Bool))=none/\Zy P t (zr G tm x) (zr G tm y) ⟨tm,bx,nx,lg⟩ fun c σ'=>YJ fr σ'.bx H/\mix P G h ops L (q+1) H ⟨jH tm dst c,σ'.bx,σ'.nx,lg⟩ KS)=_ from propext ⟨fun h=>h.2,fun h=>⟨rfl,h⟩⟩)
theorem zop {all:List Oper} {L:List (Nat×MFl)} {fr:List Nat}:NU P G h ops all L q H (.flt fr) 0 (⟨dst,.call ⟨.builtin .copy,#[x,y],#[t,t']⟩,ty,pos,af,none⟩ :: rest) ⟨tm,bx,nx,lg⟩ KS ⟨⟩ ⟨⟩ ⟨⟩ ⟨⟩ ⟨⟩ ⟨⟩ =
  MF P t (zr G tm x) (zr G tm y) ⟨tm,bx,nx,lg⟩ (fun c σ'=>znd fr σ'.bx H ⟨⟩/\kQ P G h ops all L (q+1) H ⟨jH tm dst c,σ'.bx,σ'.nx,lg⟩ KS ⟨⟩ ⟨⟩ ⟨⟩ ⟨⟩ ⟨⟩) ⟨⟩:=
 (show ((none:Option (Nat×Bool))=none/\Zl P t (zr G tm x) (zr G tm y) ⟨tm,bx,nx,lg⟩ fun c σ'=>YJ fr σ'.bx H/\mix P G h ops L (q+1) H ⟨jH tm dst c,σ'.bx,σ'.nx,lg⟩ KS)=_ from propext ⟨fun h=>h.2,fun h=>⟨rfl,h⟩⟩)
theorem zmk {all:List Oper} {L:List (Nat×MFl)} {fr:List Nat}:NU P G h ops all L q H (.flt fr) 0 (⟨dst,.call ⟨.builtin .append,#[x,y],#[t,t]⟩,ty,pos,af,none⟩ :: rest) ⟨tm,bx,nx,lg⟩ KS ⟨⟩ ⟨⟩ ⟨⟩ ⟨⟩ ⟨⟩ ⟨⟩ =
  UW P t (zr G tm x) (zr G tm y) ⟨tm,bx,nx,lg⟩ (fun c σ'=>znd fr σ'.bx H ⟨⟩/\kQ P G h ops all L (q+1) H ⟨jH tm dst c,σ'.bx,σ'.nx,lg⟩ KS ⟨⟩ ⟨⟩ ⟨⟩ ⟨⟩ ⟨⟩) ⟨⟩:=
 (show ((none:Option (Nat×Bool))=none/\t=t/\JP P t (zr G tm x) (zr G tm y) ⟨tm,bx,nx,lg⟩ fun c σ'=>YJ fr σ'.bx H/\mix P G h ops L (q+1) H ⟨jH tm dst c,σ'.bx,σ'.nx,lg⟩ KS)=_ from propext ⟨fun h=>h.2.2,fun h=>⟨rfl,rfl,h⟩⟩)
theorem zpp {all:List Oper} {L:List (Nat×MFl)} {fr:List Nat} {tys:Array TypeId}:NU P G h ops all L q H (.flt fr) 0 (⟨dst,.call ⟨.value x,us.toArray,tys⟩,ty,pos,af,none⟩ :: rest) ⟨tm,bx,nx,lg⟩ KS ⟨⟩ ⟨⟩ ⟨⟩ ⟨⟩ ⟨⟩ ⟨⟩ =
  zd5 P G (zr G tm x) (us.map (zr G tm)) ⟨tm,bx,nx,lg⟩ (fun c b' n'=>znd fr b' H ⟨⟩/\kQ P G h ops all L (q+1) H ⟨jH tm dst c,b',n',lg⟩ KS ⟨⟩ ⟨⟩ ⟨⟩ ⟨⟩ ⟨⟩) ⟨⟩:=
 (show ((none:Option (Nat×Bool))=none/\za7 P G (zr G tm x) (us.map (zr G tm)) ⟨tm,bx,nx,lg⟩ fun c b' n'=>YJ fr b' H/\mix P G h ops L (q+1) H ⟨jH tm dst c,b',n',lg⟩ KS)=_ from propext ⟨fun h=>h.2,fun h=>⟨rfl,h⟩⟩)
theorem zog {K4:C->List (List C)->Nat->Prop} {fs:List C}:zd5 P G (.clo (.func f) fs cs) args ⟨tm,bx,nx,lg⟩ K4 ⟨⟩=zs4 P G f (fs++args++cs) ⟨tm,bx,nx,lg⟩ K4 ⟨⟩:=(rfl)
theorem zl0 {p:Prop} [Decidable p]:(if p then True else True)=True:=ite_self _
theorem zq8 {fr:List Nat} {b:List (List C)}:znd fr b [] ⟨⟩=True:=(rfl)
theorem zqJ {fr:List Nat} {b:List (List C)} {f:List (List C)->Prop} {r:List kS}:znd fr b ((k,f) :: r) ⟨⟩=((if k∈fr then f b else True)/\znd fr b r ⟨⟩):=(show ((match fr.contains k with | true=>f b | false=>True)/\YJ fr b r)=((if k∈fr then f b else True)/\YJ fr b r) from by
 cases hq:fr.contains k with
 | true=>rw[if_pos (by simpa using hq)]
 | false=>rw[if_neg fun h=>by simp[h]at hq])
theorem N4 (a s:Nat):Qc (J4 a s)=none:=by cases a<;>cases s<;>rfl
theorem zjH {l:List Oper} {a s:Nat}:H0 P G h l.toArray (J4 a s) σ KS ⟨⟩ ⟨⟩ ⟨⟩=XD P G l.toArray a s l 0 none σ KS ⟨⟩ ⟨⟩ ⟨⟩:=(show HR P G h l.toArray (J4 a s) σ KS=jN P G l.toArray a s l 0 none σ KS from by unfold HR;rw[N4,xI])
theorem zgq {a s:Nat} {cs:Option (List C)} {l:List Oper}:XD P G l.toArray a s [] i cs σ KS ⟨⟩ ⟨⟩ ⟨⟩=zll cs ((l[a]?).bind (·.dst)) σ KS ⟨⟩:=(show jN P G l.toArray a s [] i cs σ KS=zmD cs ((l[a]?).bind (·.dst)) σ KS from by simp only[jN,zmD,Ac];rfl)
theorem zgo {a s:Nat} {cs:Option (List C)}:XD P G ops a s (⟨dst,.alloc t,ty,pos,af,g⟩ :: rest) a cs ⟨tm,bx,nx,lg⟩ KS ⟨⟩ ⟨⟩ ⟨⟩=za1 (lay P t) (XD P G ops a s rest (a+1) cs ⟨jH tm dst .any,bx,nx,lg⟩ KS ⟨⟩ ⟨⟩ ⟨⟩) ⟨⟩:=(show jN P G ops a s (⟨dst,.alloc t,ty,pos,af,g⟩ :: rest) a cs ⟨tm,bx,nx,lg⟩ KS=M3 (lay P t) (jN P G ops a s rest (a+1) cs ⟨jH tm dst .any,bx,nx,lg⟩ KS) from by simp only[jN,if_true])
theorem zgm {a s:Nat} {cs:Option (List C)} (hsa:(s==a)=false):XD P G ops a s (⟨dst,.store t y x,ty,pos,af,g⟩ :: rest) s cs ⟨tm,bx,nx,lg⟩ KS ⟨⟩ ⟨⟩ ⟨⟩=zaO (lay P t) (zr G tm x) (fun c=>XD P G ops a s rest (s+1) (some c.cells) ⟨jH tm dst .any,bx,nx,lg⟩ KS ⟨⟩ ⟨⟩ ⟨⟩) ⟨⟩:=(show jN P G ops a s (⟨dst,.store t y x,ty,pos,af,g⟩ :: rest) s cs ⟨tm,bx,nx,lg⟩ KS=HT (lay P t) (zr G tm x) fun c=>jN P G ops a s rest (s+1) (some c.cells) ⟨jH tm dst .any,bx,nx,lg⟩ KS from by simp only[Ot]at hsa;simp only[jN,if_neg hsa,if_true])
theorem zii {a s:Nat} {cs:Option (List C)} {op:Op} (hia:(i==a)=false) (his:(i==s)=false):XD P G ops a s (⟨dst,op,ty,pos,af,g⟩ :: rest) i cs ⟨tm,bx,nx,lg⟩ KS ⟨⟩ ⟨⟩ ⟨⟩=Y0 ops tm g (jv P G bx (zr G tm) op nx (fun c nx'=>XD P G ops a s rest (i+1) cs ⟨jH tm dst c,bx,nx',lg⟩ KS ⟨⟩ ⟨⟩ ⟨⟩) ⟨⟩ ⟨⟩ ⟨⟩) (XD P G ops a s rest (i+1) cs ⟨jH tm dst (.sc undef),bx,nx,lg⟩ KS ⟨⟩ ⟨⟩ ⟨⟩) ⟨⟩ ⟨⟩ ⟨⟩:=(show jN P G ops a s (⟨dst,op,ty,pos,af,g⟩ :: rest) i cs ⟨tm,bx,nx,lg⟩ KS=jj ops tm g (Jl P G bx (zr G tm) op nx fun c nx'=>jN P G ops a s rest (i+1) cs ⟨jH tm dst c,bx,nx',lg⟩ KS) (jN P G ops a s rest (i+1) cs ⟨jH tm dst (.sc undef),bx,nx,lg⟩ KS) from by simp only[Ot]at hia his;simp only[jN,if_neg hia,if_neg his])
theorem zjV {l:List Oper} {a s z:Nat}:H0 P G h l.toArray (Ga a s b z) σ KS ⟨⟩ ⟨⟩ ⟨⟩=JD P G l.toArray a s b z l 0 none none σ KS ⟨⟩ ⟨⟩ ⟨⟩:=(show HR P G h l.toArray (Ga a s b z) σ KS=Za P G l.toArray a s b z l 0 none none σ KS from by unfold HR;rw[HQ])
theorem zoe {a s z:Nat} {cs:Option (List C)} {l:List Oper}:JD P G l.toArray a s b z [] i cs ds σ KS ⟨⟩ ⟨⟩ ⟨⟩=zeX cs ds ((l[a]?).bind (·.dst)) ((l[b]?).bind (·.dst)) σ KS ⟨⟩:=(show Za P G l.toArray a s b z [] i cs ds σ KS=zeV cs ds ((l[a]?).bind (·.dst)) ((l[b]?).bind (·.dst)) σ KS from by simp only[Za,zeV,Ac];rfl)
theorem zl2 {a s z:Nat} {cs:Option (List C)}:JD P G ops a s b z (⟨dst,.alloc t,ty,pos,af,g⟩ :: rest) a cs ds ⟨tm,bx,nx,lg⟩ KS ⟨⟩ ⟨⟩ ⟨⟩=za1 (lay P t) (JD P G ops a s b z rest (a+1) cs ds ⟨jH tm dst .any,bx,nx,lg⟩ KS ⟨⟩ ⟨⟩ ⟨⟩) ⟨⟩:=(show Za P G ops a s b z (⟨dst,.alloc t,ty,pos,af,g⟩ :: rest) a cs ds ⟨tm,bx,nx,lg⟩ KS=M3 (lay P t) (Za P G ops a s b z rest (a+1) cs ds ⟨jH tm dst .any,bx,nx,lg⟩ KS) from by simp only[Za,true_or,if_true])
theorem zlX {a s z:Nat} {cs:Option (List C)}:JD P G ops a s b z (⟨dst,.alloc t,ty,pos,af,g⟩ :: rest) b cs ds ⟨tm,bx,nx,lg⟩ KS ⟨⟩ ⟨⟩ ⟨⟩=za1 (lay P t) (JD P G ops a s b z rest (b+1) cs ds ⟨jH tm dst .any,bx,nx,lg⟩ KS ⟨⟩ ⟨⟩ ⟨⟩) ⟨⟩:=(show Za P G ops a s b z (⟨dst,.alloc t,ty,pos,af,g⟩ :: rest) b cs ds ⟨tm,bx,nx,lg⟩ KS=M3 (lay P t) (Za P G ops a s b z rest (b+1) cs ds ⟨jH tm dst .any,bx,nx,lg⟩ KS) from by simp only[Za,or_true,if_true])
theorem zlY {a s z:Nat} {cs:Option (List C)} (h1:(s==a)=false) (h2:(s==b)=false):JD P G ops a s b z (⟨dst,.store t y x,ty,pos,af,g⟩ :: rest) s cs ds ⟨tm,bx,nx,lg⟩ KS ⟨⟩ ⟨⟩ ⟨⟩=zaO (lay P t) (zr G tm x) (fun c=>JD P G ops a s b z rest (s+1) (some c.cells) ds ⟨jH tm dst .any,bx,nx,lg⟩ KS ⟨⟩ ⟨⟩ ⟨⟩) ⟨⟩:=(show Za P G ops a s b z (⟨dst,.store t y x,ty,pos,af,g⟩ :: rest) s cs ds ⟨tm,bx,nx,lg⟩ KS=HT (lay P t) (zr G tm x) fun c=>Za P G ops a s b z rest (s+1) (some c.cells) ds ⟨jH tm dst .any,bx,nx,lg⟩ KS from by simp only[Ot]at h1 h2;simp only[Za,h1,h2,or_self,W2,if_true])
theorem zos {a s z:Nat} {cs:Option (List C)} (h1:(z==a)=false) (h2:(z==b)=false) (h3:(z==s)=false):JD P G ops a s b z (⟨dst,.store t y x,ty,pos,af,g⟩ :: rest) z cs ds ⟨tm,bx,nx,lg⟩ KS ⟨⟩ ⟨⟩ ⟨⟩=zaO (lay P t) (zr G tm x) (fun c=>JD P G ops a s b z rest (z+1) cs (some c.cells) ⟨jH tm dst .any,bx,nx,lg⟩ KS ⟨⟩ ⟨⟩ ⟨⟩) ⟨⟩:=(show Za P G ops a s b z (⟨dst,.store t y x,ty,pos,af,g⟩ :: rest) z cs ds ⟨tm,bx,nx,lg⟩ KS=HT (lay P t) (zr G tm x) fun c=>Za P G ops a s b z rest (z+1) cs (some c.cells) ⟨jH tm dst .any,bx,nx,lg⟩ KS from by simp only[Ot]at h1 h2 h3;simp only[Za,h1,h2,h3,or_self,W2,if_true])
theorem zqG {a s z:Nat} {cs:Option (List C)} {op:Op} (h1:(i==a)=false) (h2:(i==b)=false) (h3:(i==s)=false) (h4:(i==z)=false):JD P G ops a s b z (⟨dst,op,ty,pos,af,g⟩ :: rest) i cs ds ⟨tm,bx,nx,lg⟩ KS ⟨⟩ ⟨⟩ ⟨⟩=Y0 ops tm g (jv P G bx (zr G tm) op nx (fun c nx'=>JD P G ops a s b z rest (i+1) cs ds ⟨jH tm dst c,bx,nx',lg⟩ KS ⟨⟩ ⟨⟩ ⟨⟩) ⟨⟩ ⟨⟩ ⟨⟩) (JD P G ops a s b z rest (i+1) cs ds ⟨jH tm dst (.sc undef),bx,nx,lg⟩ KS ⟨⟩ ⟨⟩ ⟨⟩) ⟨⟩ ⟨⟩ ⟨⟩:=(show Za P G ops a s b z (⟨dst,op,ty,pos,af,g⟩ :: rest) i cs ds ⟨tm,bx,nx,lg⟩ KS=jj ops tm g (Jl P G bx (zr G tm) op nx fun c nx'=>Za P G ops a s b z rest (i+1) cs ds ⟨jH tm dst c,bx,nx',lg⟩ KS) (Za P G ops a s b z rest (i+1) cs ds ⟨jH tm dst (.sc undef),bx,nx,lg⟩ KS) from by simp only[Ot]at h1 h2 h3 h4;simp only[Za,h1,h2,h3,h4,or_self,W2])
theorem zot {ds:List C} {u v:Tmp}:zeX (some cs) (some ds) (some u) (some v) ⟨tm,bx,nx,lg⟩ KS ⟨⟩=KS ⟨(v,.ptr (bx++[cs]).length 0) :: (u,.ptr bx.length 0) :: tm,bx++[cs]++[ds],nx,lg⟩:=(rfl)
theorem zp4 {u:Tmp}:zll (some cs) (some u) ⟨tm,bx,nx,lg⟩ KS ⟨⟩=KS ⟨(u,.ptr bx.length 0) :: tm,bx++[cs],nx,lg⟩:=(rfl)
theorem zpK {z1:List Value}:za1 (some ⟨kd,k,b1,some z1⟩) X ⟨⟩=(z1.length=k/\(z1.all Value.oneCell')=true/\X):=(rfl)
theorem zqN:zaO (some L) c K ⟨⟩=(c.partB=true/\(c.cells.all C.cellB)=true/\c.cells.length=L.size/\K c):=(rfl)
theorem zp7:zlL KS ⟨⟩ .normal σ=KS σ:=(rfl)
theorem zgc {next:St} {b:Bool}:yR m tm b next Q ⟨⟩ ⟨⟩ .normal σ=(b=false/\JM m ⟨[],σ.bx,σ.nx,σ.lg⟩ (next.wt [])):=(rfl)
theorem vB {next:St} {b:Bool}:yR m tm b next Q ⟨⟩ ⟨⟩ .ret σ=(b=true/\∃ σ':St,σ'.bx.length=m/\JM m ⟨[],σ.bx,σ.nx,σ.lg⟩ (σ'.wt [])/\Q .ret (σ'.wt tm)):=(rfl)
theorem ztg {tm2:List (Nat×C)}:St.wt ⟨tm,bx,nx,lg⟩ tm2=⟨tm2,bx,nx,lg⟩:=(rfl)
theorem ziu:Vx [] cs tm=tm:=(rfl)
theorem zlS {ps:List Tmp}:Vx (u :: ps) (c :: cs) tm=Vx ps cs ((u,c) :: tm):=(rfl)
theorem zl5:Hz m [] = []:=(rfl)
theorem zqd {r:List (Nat×C)}:Hz m ((u,c) :: r)=(u,c.sel (HZ m)) :: Hz m r:=(rfl)
theorem zrv {next:St->Prop}:za3 next Q ⟨⟩ ⟨⟩ .normal σ=next σ:=(rfl)
theorem ui {next:St->Prop} {id:Nat}:za3 next Q ⟨⟩ ⟨⟩ (.exit id) σ=Q (.exit id) σ:=(rfl)
theorem zcJ {next:St->Prop}:za3 next Q ⟨⟩ ⟨⟩ .ret σ=Q .ret σ:=(rfl)
theorem zgG {id:Nat}:Hv id Q ⟨⟩ .normal σ=Q .normal σ:=(rfl)
theorem xF {id:Nat}:Hv id Q ⟨⟩ (.exit id) σ=Q .normal σ:=(show xK id Q (.exit id) σ=Q .normal σ from if_pos rfl)
theorem MR {id id2:Nat} (h:(id2==id)=false):Hv id Q ⟨⟩ (.exit id2) σ=Q (.exit id2) σ:=(show xK id Q (.exit id2) σ=Q (.exit id2) σ from if_neg (by simpa using h))
theorem vi {id:Nat}:Hv id Q ⟨⟩ .ret σ=Q .ret σ:=(rfl)
theorem zbK:G4 Q ⟨⟩ .normal σ=Q .normal σ:=(rfl)
theorem xR:G4 Q ⟨⟩ .ret σ=Q .ret σ:=(rfl)
theorem zkh {next:St->Prop}:zaX next Q ⟨⟩ ⟨⟩ .normal σ=next σ:=(rfl)
theorem vU {next:St->Prop} {id:Nat}:zaX next Q ⟨⟩ ⟨⟩ (.exit id) σ=Q (.exit id) σ:=(rfl)
theorem zch {next:St->Prop}:zaX next Q ⟨⟩ ⟨⟩ .ret σ=Q .ret σ:=(rfl)
theorem zod {rs:List ResultVar}:MS P rs K3 ⟨⟩ .normal σ=zcE P σ rs (fun c=>K3 c σ) ⟨⟩:=(rfl)
theorem zmo {rs:List ResultVar}:MS P rs K3 ⟨⟩ .ret σ=zcE P σ rs (fun c=>K3 c σ) ⟨⟩:=(rfl)
theorem zpu:zcE P σ [] K ⟨⟩=K (.tup []):=(rfl)
theorem zq4 {a:ResultVar}:zcE P σ [a] K ⟨⟩=YP P σ a K ⟨⟩:=(rfl)
theorem zpV {a b:ResultVar}:zcE P σ [a,b] K ⟨⟩=YP P σ a (fun c=>YP P σ b (fun d=>K (.tup [c,d])) ⟨⟩) ⟨⟩:=(rfl)
theorem zpC {a b c1:ResultVar}:zcE P σ [a,b,c1] K ⟨⟩=YP P σ a (fun c=>YP P σ b (fun d=>YP P σ c1 (fun e=>K (.tup [c,d,e])) ⟨⟩) ⟨⟩) ⟨⟩:=(rfl)
theorem zpi:YP P ⟨tm,bx,nx,lg⟩ (.tmp u) K ⟨⟩=K (jU tm u):=(rfl)
theorem zpE:YP P ⟨tm,bx,nx,lg⟩ (.cell u t) K ⟨⟩=zaD P t (jU tm u) bx K ⟨⟩:=(rfl)
theorem znY:zgH P G h ops [] σ KS ⟨⟩ ⟨⟩ ⟨⟩ ⟨⟩=KS σ:=(rfl)
theorem zrr {op:Op}:zgH P G h ops (⟨dst,op,ty,pos,af,g⟩ :: rest) ⟨tm,bx,nx,lg⟩ KS ⟨⟩ ⟨⟩ ⟨⟩ ⟨⟩=Y0 ops tm g (jQ P G h op ⟨tm,bx,nx,lg⟩ (fun c σ'=>zgH P G h ops rest (σ'.put dst c) KS ⟨⟩ ⟨⟩ ⟨⟩ ⟨⟩) ⟨⟩ ⟨⟩ ⟨⟩) (zgH P G h ops rest (St.put ⟨tm,bx,nx,lg⟩ dst (.sc undef)) KS ⟨⟩ ⟨⟩ ⟨⟩ ⟨⟩) ⟨⟩ ⟨⟩ ⟨⟩:=(rfl)
theorem zh3:XU P G h ops [] brs σ KS ⟨⟩ ⟨⟩ ⟨⟩ ⟨⟩=KS σ:=(rfl)
theorem zi9 {op:Op}:XU P G h ops (⟨dst,op,ty,pos,af,g⟩ :: rest) [] ⟨tm,bx,nx,lg⟩ KS ⟨⟩ ⟨⟩ ⟨⟩ ⟨⟩=Y0 ops tm g (jv P G bx (zr G tm) op nx (fun c nx'=>XU P G h ops rest [] ⟨jH tm dst c,bx,nx',lg⟩ KS ⟨⟩ ⟨⟩ ⟨⟩ ⟨⟩) ⟨⟩ ⟨⟩ ⟨⟩) (XU P G h ops rest [] ⟨jH tm dst (.sc undef),bx,nx,lg⟩ KS ⟨⟩ ⟨⟩ ⟨⟩ ⟨⟩) ⟨⟩ ⟨⟩ ⟨⟩:=(rfl)
theorem zh5 {op:Op}:XU P G h ops (⟨dst,op,ty,pos,af,g⟩ :: rest) (false :: brs) ⟨tm,bx,nx,lg⟩ KS ⟨⟩ ⟨⟩ ⟨⟩ ⟨⟩=Y0 ops tm g (jv P G bx (zr G tm) op nx (fun c nx'=>XU P G h ops rest brs ⟨jH tm dst c,bx,nx',lg⟩ KS ⟨⟩ ⟨⟩ ⟨⟩ ⟨⟩) ⟨⟩ ⟨⟩ ⟨⟩) (XU P G h ops rest brs ⟨jH tm dst (.sc undef),bx,nx,lg⟩ KS ⟨⟩ ⟨⟩ ⟨⟩ ⟨⟩) ⟨⟩ ⟨⟩ ⟨⟩:=(rfl)
theorem ziG {op:Op}:XU P G h ops (⟨dst,op,ty,pos,af,g⟩ :: rest) (true :: brs) ⟨tm,bx,nx,lg⟩ KS ⟨⟩ ⟨⟩ ⟨⟩ ⟨⟩=Y0 ops tm g (jQ P G h op ⟨tm,bx,nx,lg⟩ (fun c σ'=>XU P G h ops rest brs (σ'.put dst c) KS ⟨⟩ ⟨⟩ ⟨⟩ ⟨⟩) ⟨⟩ ⟨⟩ ⟨⟩) (XU P G h ops rest brs ⟨jH tm dst (.sc undef),bx,nx,lg⟩ KS ⟨⟩ ⟨⟩ ⟨⟩ ⟨⟩) ⟨⟩ ⟨⟩ ⟨⟩:=(rfl)
theorem zj8:Y0 ops tm none X Y ⟨⟩ ⟨⟩ ⟨⟩=X:=(rfl)
theorem zmA {l:List Oper} {want:Bool}:Y0 l.toArray tm (some (j,want)) X Y ⟨⟩ ⟨⟩ ⟨⟩=zsk ((l[j]?).bind (·.dst)) tm want X Y ⟨⟩ ⟨⟩:=(show jj l.toArray tm (some (j,want)) X Y=aGd ((l[j]?).bind (·.dst)) tm want X Y from by simp only[jj,Ac];rfl)
theorem zqU {u:Tmp}:zsk (some u) tm true X Y ⟨⟩ ⟨⟩=zis (jU tm u) Y X Y ⟨⟩ ⟨⟩ ⟨⟩:=(rfl)
theorem zoS {u:Tmp}:zsk (some u) tm false X Y ⟨⟩ ⟨⟩=zis (jU tm u) Y Y X ⟨⟩ ⟨⟩ ⟨⟩:=(rfl)
theorem zma {U:Prop} {b:Bool}:zis (.sc (.bool b)) U X Y ⟨⟩ ⟨⟩ ⟨⟩=zmN (.sc (.bool b)) X Y ⟨⟩ ⟨⟩:=(rfl)
theorem zlM {U:Prop}:zis (.sc undef) U X Y ⟨⟩ ⟨⟩ ⟨⟩=U:=(rfl)
theorem zdF {u:Tmp}:St.put ⟨tm,bx,nx,lg⟩ (some u) c=⟨(u,c) :: tm,bx,nx,lg⟩:=(rfl)
theorem zdk:St.put ⟨tm,bx,nx,lg⟩ none c=⟨tm,bx,nx,lg⟩:=(rfl)
theorem uI {u:Tmp}:jH tm (some u) c=(u,c) :: tm:=(rfl)
theorem uH:jH tm none c=tm:=(rfl)
theorem HL {ps:List (Nat×Operand)}:jQ P G h (.buildSlice t n ps.toArray) ⟨tm,bx,nx,lg⟩ K3 ⟨⟩ ⟨⟩ ⟨⟩=if h.bx t then GH P t n (ps.map fun p=>(p.1,zr G tm p.2)) ⟨tm,bx,nx,lg⟩ K3 ⟨⟩ else Qt P t n (ps.map fun p=>(p.1,zr G tm p.2)) nx (fun c nx'=>K3 c ⟨tm,bx,nx',lg⟩) ⟨⟩:=(rfl)
theorem HC {ps:List (Nat×Operand)} {ev:Operand->C}:jv P G bx ev (.buildSlice t n ps.toArray) nx K2 ⟨⟩ ⟨⟩ ⟨⟩=N9 P t n (ps.map fun p=>(p.1,ev p.2)) nx K2 ⟨⟩:=(rfl)
theorem zrL:N9 P t 0 [] nx K2 ⟨⟩=zpO P (lay P t) nx K2 ⟨⟩:=(rfl)
theorem zsf:N9 P t (n+1) ps nx K2 ⟨⟩=Qt P t (n+1) ps nx K2 ⟨⟩:=(rfl)
theorem zrJ {s:Nat}:zpO P (some ⟨.slice e,s,b,z1⟩) nx K2 ⟨⟩=zq2 (lay P e) nx K2 ⟨⟩:=(rfl)
theorem zr3 {z1:List Value}:zq2 (some ⟨kd,k,b,some z1⟩) nx K2 ⟨⟩=(z1.length=k/\0<k/\K2 (.tight k []) nx):=(rfl)
theorem N5:jQ P G h (.makeSlice t x y) ⟨tm,bx,nx,lg⟩ K3 ⟨⟩ ⟨⟩ ⟨⟩=if h.bx t then xm P t (zr G tm x) (zr G tm y) ⟨tm,bx,nx,lg⟩ K3 ⟨⟩ else zlw P t (zr G tm x) (zr G tm y) nx (fun c nx'=>K3 c ⟨tm,bx,nx',lg⟩) ⟨⟩:=(rfl)
theorem zpc:Hd.bx ⟨p,yd,bf⟩ t=(bf (1000000+t)).headD false:=(rfl)
theorem zlW:Hd.bx2 ⟨p,yd,bf⟩ t=((bf (1000000+t)).drop 1).headD false:=(rfl)
theorem zjc:jQ P G h (.move x) ⟨tm,bx,nx,lg⟩ K3 ⟨⟩ ⟨⟩ ⟨⟩=K3 (zr G tm x) ⟨tm,bx,nx,lg⟩:=(rfl)
theorem zkw {ev:Operand->C}:jv P G bx ev (.move x) nx K2 ⟨⟩ ⟨⟩ ⟨⟩=K2 (ev x) nx:=(rfl)
theorem zb5:jQ P G h (.assign x) ⟨tm,bx,nx,lg⟩ K3 ⟨⟩ ⟨⟩ ⟨⟩=K3 (zr G tm x) ⟨tm,bx,nx,lg⟩:=(rfl)
theorem zcl {ev:Operand->C}:jv P G bx ev (.assign x) nx K2 ⟨⟩ ⟨⟩ ⟨⟩=K2 (ev x) nx:=(rfl)
theorem zkG:jQ P G h (.pick x y z) ⟨tm,bx,nx,lg⟩ K3 ⟨⟩ ⟨⟩ ⟨⟩=zmN (zr G tm x) (K3 (zr G tm y) ⟨tm,bx,nx,lg⟩) (K3 (zr G tm z) ⟨tm,bx,nx,lg⟩) ⟨⟩ ⟨⟩:=(rfl)
theorem ziW {ev:Operand->C}:jv P G bx ev (.pick x y z) nx K2 ⟨⟩ ⟨⟩ ⟨⟩=zmN (ev x) (K2 (ev y) nx) (K2 (ev z) nx) ⟨⟩ ⟨⟩:=(rfl)
theorem zgM {ps:List (Nat×Operand)}:jQ P G h (.build t ps.toArray) ⟨tm,bx,nx,lg⟩ K3 ⟨⟩ ⟨⟩ ⟨⟩=uS P t (ps.map fun p=>(p.1,zr G tm p.2)) (fun c=>K3 c ⟨tm,bx,nx,lg⟩) ⟨⟩:=(rfl)
theorem zgw {ps:List (Nat×Operand)} {ev:Operand->C}:jv P G bx ev (.build t ps.toArray) nx K2 ⟨⟩ ⟨⟩ ⟨⟩=uS P t (ps.map fun p=>(p.1,ev p.2)) (fun c=>K2 c nx) ⟨⟩:=(rfl)
theorem zij:jQ P G h (.load t x) ⟨tm,bx,nx,lg⟩ K3 ⟨⟩ ⟨⟩ ⟨⟩=zaD P t (zr G tm x) bx (fun c=>K3 c ⟨tm,bx,nx,lg⟩) ⟨⟩:=(rfl)
theorem zi0 {ev:Operand->C}:jv P G bx ev (.load t x) nx K2 ⟨⟩ ⟨⟩ ⟨⟩=zaD P t (ev x) bx (fun c=>K2 c nx) ⟨⟩:=(rfl)
theorem Mr:jQ P G h (.nilCheck x) ⟨tm,bx,nx,lg⟩ K3 ⟨⟩ ⟨⟩ ⟨⟩=zof (zr G tm x) (fun c=>K3 c ⟨tm,bx,nx,lg⟩) ⟨⟩:=(rfl)
theorem M8 {ev:Operand->C}:jv P G bx ev (.nilCheck x) nx K2 ⟨⟩ ⟨⟩ ⟨⟩=zof (ev x) (fun c=>K2 c nx) ⟨⟩:=(rfl)
theorem zgb:jQ P G h (.binOp op t x y t') ⟨tm,bx,nx,lg⟩ K3 ⟨⟩ ⟨⟩ ⟨⟩=yb P t op (zr G tm x) (zr G tm y) (fun c=>K3 c ⟨tm,bx,nx,lg⟩) ⟨⟩:=(rfl)
theorem zer {ev:Operand->C}:jv P G bx ev (.binOp op t x y t') nx K2 ⟨⟩ ⟨⟩ ⟨⟩=yb P t op (ev x) (ev y) (fun c=>K2 c nx) ⟨⟩:=(rfl)
theorem zhZ {op:UnOp}:jQ P G h (.unOp op t x) ⟨tm,bx,nx,lg⟩ K3 ⟨⟩ ⟨⟩ ⟨⟩=zsE op (zr G tm x) (fun c=>K3 c ⟨tm,bx,nx,lg⟩) ⟨⟩:=(rfl)
theorem zkx {op:UnOp} {ev:Operand->C}:jv P G bx ev (.unOp op t x) nx K2 ⟨⟩ ⟨⟩ ⟨⟩=zsE op (ev x) (fun c=>K2 c nx) ⟨⟩:=(rfl)
theorem y6:jQ P G h (.convert t t' x) ⟨tm,bx,nx,lg⟩ K3 ⟨⟩ ⟨⟩ ⟨⟩=vj P bx t t' (zr G tm x) (fun c=>K3 c ⟨tm,bx,nx,lg⟩) ⟨⟩:=(rfl)
theorem Mq {fn:Fn} {fs cs:List Operand}:jQ P G h (.makeFunc fn fs.toArray cs.toArray) ⟨tm,bx,nx,lg⟩ K3 ⟨⟩ ⟨⟩ ⟨⟩=K3 (.clo fn (fs.map (zr G tm)) (cs.map (zr G tm))) ⟨tm,bx,nx,lg⟩:=(rfl)
theorem zfh {lo hi mx:Option Operand}:jQ P G h (.slice t x lo hi mx) ⟨tm,bx,nx,lg⟩ K3 ⟨⟩ ⟨⟩ ⟨⟩=vN P t (zr G tm x) (lo.map (zr G tm)) (hi.map (zr G tm)) (mx.map (zr G tm)) (fun c=>K3 c ⟨tm,bx,nx,lg⟩) ⟨⟩:=(rfl)
theorem zeq {lo hi mx:Option Operand} {ev:Operand->C}:jv P G bx ev (.slice t x lo hi mx) nx K2 ⟨⟩ ⟨⟩ ⟨⟩=vN P t (ev x) (lo.map ev) (hi.map ev) (mx.map ev) (fun c=>K2 c nx) ⟨⟩:=(rfl)
theorem Mb {f:Nat}:jQ P G h (.fieldAddr t x f) ⟨tm,bx,nx,lg⟩ K3 ⟨⟩ ⟨⟩ ⟨⟩=Zf P t (zr G tm x) f (fun c=>K3 c ⟨tm,bx,nx,lg⟩) ⟨⟩:=(rfl)
theorem GZ {f:Nat} {ev:Operand->C}:jv P G bx ev (.fieldAddr t x f) nx K2 ⟨⟩ ⟨⟩ ⟨⟩=Zf P t (ev x) f (fun c=>K2 c nx) ⟨⟩:=(rfl)
theorem zeU {f:Nat}:jQ P G h (.field t x f) ⟨tm,bx,nx,lg⟩ K3 ⟨⟩ ⟨⟩ ⟨⟩=vD P t (zr G tm x) f (fun c=>K3 c ⟨tm,bx,nx,lg⟩) ⟨⟩:=(rfl)
theorem zg3 {f:Nat} {ev:Operand->C}:jv P G bx ev (.field t x f) nx K2 ⟨⟩ ⟨⟩ ⟨⟩=vD P t (ev x) f (fun c=>K2 c nx) ⟨⟩:=(rfl)
theorem Ni:jQ P G h (.indexAddr t x y) ⟨tm,bx,nx,lg⟩ K3 ⟨⟩ ⟨⟩ ⟨⟩=Zr P t (zr G tm x) (zr G tm y) (fun c=>K3 c ⟨tm,bx,nx,lg⟩) ⟨⟩:=(rfl)
theorem NE {ev:Operand->C}:jv P G bx ev (.indexAddr t x y) nx K2 ⟨⟩ ⟨⟩ ⟨⟩=Zr P t (ev x) (ev y) (fun c=>K2 c nx) ⟨⟩:=(rfl)
theorem zf3:jQ P G h (.index t x y) ⟨tm,bx,nx,lg⟩ K3 ⟨⟩ ⟨⟩ ⟨⟩=uo P t (zr G tm x) (zr G tm y) (fun c=>K3 c ⟨tm,bx,nx,lg⟩) ⟨⟩:=(rfl)
theorem zfB {ev:Operand->C}:jv P G bx ev (.index t x y) nx K2 ⟨⟩ ⟨⟩ ⟨⟩=uo P t (ev x) (ev y) (fun c=>K2 c nx) ⟨⟩:=(rfl)
theorem uL:jQ P G h (.extract x i) ⟨tm,bx,nx,lg⟩ K3 ⟨⟩ ⟨⟩ ⟨⟩=kr (zr G tm x) i (fun c=>K3 c ⟨tm,bx,nx,lg⟩) ⟨⟩:=(rfl)
theorem vc {ev:Operand->C}:jv P G bx ev (.extract x i) nx K2 ⟨⟩ ⟨⟩ ⟨⟩=kr (ev x) i (fun c=>K2 c nx) ⟨⟩:=(rfl)
theorem zeR {ts:List TypeId}:jQ P G h (.call ⟨.value x,us.toArray,ts.toArray⟩) ⟨tm,bx,nx,lg⟩ K3 ⟨⟩ ⟨⟩ ⟨⟩=vb P G h (zr G tm x) (us.map (zr G tm)) ⟨tm,bx,nx,lg⟩ K3 ⟨⟩ ⟨⟩:=(rfl)
theorem zgC {ts:List TypeId} {ev:Operand->C}:jv P G bx ev (.call ⟨.value x,us.toArray,ts.toArray⟩) nx K2 ⟨⟩ ⟨⟩ ⟨⟩=zfo P G (ev x) (us.map ev) nx K2 ⟨⟩:=(rfl)
theorem zmp:jQ P G h (.call ⟨.builtin .len,#[x],#[t]⟩) ⟨tm,bx,nx,lg⟩ K3 ⟨⟩ ⟨⟩ ⟨⟩=vz P t (zr G tm x) (fun c=>K3 c ⟨tm,bx,nx,lg⟩) ⟨⟩:=(rfl)
theorem zmX {ev:Operand->C}:jv P G bx ev (.call ⟨.builtin .len,#[x],#[t]⟩) nx K2 ⟨⟩ ⟨⟩ ⟨⟩=vz P t (ev x) (fun c=>K2 c nx) ⟨⟩:=(rfl)
theorem uu {r:Option Operand}:jQ P G h (.makeMap t r) ⟨tm,bx,nx,lg⟩ K3 ⟨⟩ ⟨⟩ ⟨⟩=zp2 (zhV P t) t (r.map (zr G tm)) nx (fun c nx'=>K3 c ⟨tm,bx,nx',lg⟩) ⟨⟩:=(rfl)
theorem zpX {kd:MKd} {z:C}:zp2 (some (kd,z)) t none nx K2 ⟨⟩=K2 (.mo nx t kd.nil []) (nx+1):=(rfl)
theorem znX {k:IntKind}:MKd.nil (.int k) = .int k []:=(rfl)
theorem zc9 {ok:Bool} {ev:Operand->C}:jv P G bx ev (.lookup t x y ok) nx K2 ⟨⟩ ⟨⟩ ⟨⟩=zoX (zhV P t) t (ev x) (ev y) ok (fun c=>K2 c nx) ⟨⟩:=(rfl)
theorem zoY {k q:IntKind} {z:C} {id:Nat} {l:List Int} {n:Int} {ok:Bool}:zoX (some (.int k,z)) t (.mo id t2 (.int k2 l) vs) (.sc (.int q n)) ok K ⟨⟩=(t2=t/\k2=k/\q=k/\zge (zhS n l vs) z ok K ⟨⟩):=(rfl)
theorem zkV {z:C}:zge (some c) z false K ⟨⟩=K c:=(rfl)
theorem zcU {w:Operand}:jQ P G h (.insert t x y w) ⟨tm,bx,nx,lg⟩ K3 ⟨⟩ ⟨⟩ ⟨⟩=zpo (zhV P t) t (zr G tm x) (zr G tm y) (zr G tm w) ⟨tm,bx,nx,lg⟩ K3 ⟨⟩:=(rfl)
theorem zqb {k q:IntKind} {z:C} {id:Nat} {l:List Int} {n:Int}:zpo (some (.int k,z)) t (.mo id t2 (.int k2 l) vs) (.sc (.int q n)) d ⟨tm,bx,nx,lg⟩ K3 ⟨⟩=(t2=t/\k2=k/\q=k/\K3 .any ⟨zhT id (.int k (HG n d.frz l vs).1) (HG n d.frz l vs).2 tm,zhc id (.int k (HG n d.frz l vs).1) (HG n d.frz l vs).2 bx,nx,lg⟩):=(rfl)
theorem zcs:jQ P G h (.call ⟨.builtin .append,#[x,y],#[t,t]⟩) ⟨tm,bx,nx,lg⟩ K3 ⟨⟩ ⟨⟩ ⟨⟩=if h.bx t then if h.bx2 t then UW P t (zr G tm x) (zr G tm y) ⟨tm,bx,nx,lg⟩ K3 ⟨⟩ else zae P h.p t (zr G tm x) (zr G tm y) ⟨tm,bx,nx,lg⟩ K3 ⟨⟩ else N0 P t (zr G tm x) (zr G tm y) ⟨tm,bx,nx,lg⟩ K3 ⟨⟩:=(show Mn P G h (.call ⟨.builtin .append,#[x,y],#[t,t]⟩) ⟨tm,bx,nx,lg⟩ K3=if h.bx t then if h.bx2 t then JP P t (zr G tm x) (zr G tm y) ⟨tm,bx,nx,lg⟩ K3 else U5 P h.p t (zr G tm x) (zr G tm y) ⟨tm,bx,nx,lg⟩ K3 else GY P t (zr G tm x) (zr G tm y) ⟨tm,bx,nx,lg⟩ K3 from by simp[Mn,uq])
theorem zih (h0:(t'==t)=false):jQ P G h (.call ⟨.builtin .append,#[x,y],#[t,t']⟩) ⟨tm,bx,nx,lg⟩ K3 ⟨⟩ ⟨⟩ ⟨⟩=zbo P t t' (zr G tm x) (zr G tm y) ⟨tm,bx,nx,lg⟩ K3 ⟨⟩:=(show Mn P G h (.call ⟨.builtin .append,#[x,y],#[t,t']⟩) ⟨tm,bx,nx,lg⟩ K3=GV P t t' (zr G tm x) (zr G tm y) ⟨tm,bx,nx,lg⟩ K3 from by simp only[Ot]at h0;simp[Mn,uq,h0])
theorem zjn:jQ P G h (.call ⟨.builtin .copy,#[x,y],#[t,t']⟩) ⟨tm,bx,nx,lg⟩ K3 ⟨⟩ ⟨⟩ ⟨⟩=MF P t (zr G tm x) (zr G tm y) ⟨tm,bx,nx,lg⟩ K3 ⟨⟩:=(show Mn P G h (.call ⟨.builtin .copy,#[x,y],#[t,t']⟩) ⟨tm,bx,nx,lg⟩ K3=Zl P t (zr G tm x) (zr G tm y) ⟨tm,bx,nx,lg⟩ K3 from by simp[Mn,uq])
theorem zgg:jQ P G h (.call ⟨.builtin .clear,#[x],#[t]⟩) ⟨tm,bx,nx,lg⟩ K3 ⟨⟩ ⟨⟩ ⟨⟩=vR P t (zr G tm x) ⟨tm,bx,nx,lg⟩ K3 ⟨⟩:=(show Mn P G h (.call ⟨.builtin .clear,#[x],#[t]⟩) ⟨tm,bx,nx,lg⟩ K3=Hj P t (zr G tm x) ⟨tm,bx,nx,lg⟩ K3 from by simp[Mn,uq])
theorem znr:jQ P G h (.call ⟨.builtin .max,#[x,y],#[t,t']⟩) ⟨tm,bx,nx,lg⟩ K3 ⟨⟩ ⟨⟩ ⟨⟩=zqM (zr G tm x) (zr G tm y) (fun c=>K3 c ⟨tm,bx,nx,lg⟩) ⟨⟩:=(rfl)
theorem zsW {k k':IntKind} {n m:Int}:zqM (.sc (.int k n)) (.sc (.int k' m)) K ⟨⟩=K (.sc (.int k (if m>n then m else n))):=(rfl)
theorem zlQ:jQ P G h (.call ⟨.builtin .cap,#[x],#[t]⟩) ⟨tm,bx,nx,lg⟩ K3 ⟨⟩ ⟨⟩ ⟨⟩=zrc P t (zr G tm x) (fun c=>K3 c ⟨tm,bx,nx,lg⟩) ⟨⟩:=(show Mn P G h (.call ⟨.builtin .cap,#[x],#[t]⟩) ⟨tm,bx,nx,lg⟩ K3=zoT P t (zr G tm x) fun c=>K3 c ⟨tm,bx,nx,lg⟩ from by simp[Mn,uq])
theorem zsj:zrc P t c K ⟨⟩=zeg (lay P t) c K ⟨⟩:=(rfl)
theorem zkA:zeg (some ⟨.slice e,s1,b1,z1⟩) (.bs i off k n cap) K ⟨⟩=K (.sc (.int .i64 (cap:Int))):=(rfl)
theorem ze9:zeg (some ⟨.slice e,s1,b1,z1⟩) (.sc (.slice none 0 0)) K ⟨⟩=K (.sc (.int .i64 0)):=(rfl)
theorem zdD {ev:Operand->C}:jv P G bx ev (.call ⟨.builtin .append,#[x,y],#[t,t]⟩) nx K2 ⟨⟩ ⟨⟩ ⟨⟩=NP P t (ev x) (ev y) nx K2 ⟨⟩:=(show Jl P G bx ev (.call ⟨.builtin .append,#[x,y],#[t,t]⟩) nx K2=VK P t (ev x) (ev y) nx K2 from by simp[Jl,xJ,UY])
theorem zhQ:jQ P G h (.alloc t) ⟨tm,bx,nx,lg⟩ K3 ⟨⟩ ⟨⟩ ⟨⟩=zq9 (lay P t) ⟨tm,bx,nx,lg⟩ K3 ⟨⟩:=(rfl)
theorem znO:jQ P G h (.box t x) ⟨tm,bx,nx,lg⟩ K3 ⟨⟩ ⟨⟩ ⟨⟩=zqc (zr G tm x) ⟨tm,bx,nx,lg⟩ K3 ⟨⟩:=(rfl)
theorem zhd:jQ P G h (.store t x y) ⟨tm,bx,nx,lg⟩ K3 ⟨⟩ ⟨⟩ ⟨⟩=zpg (lay P t) (zr G tm x) (zr G tm y) ⟨tm,bx,nx,lg⟩ K3 ⟨⟩:=(rfl)
theorem zi6 {u:Tmp}:zr G tm (.tmp u)=jU tm u:=(rfl)
theorem zci:zr G tm (.const v)=zC v:=(rfl)
theorem zeh:zr G tm (.func f) = .clo (.func f) [] []:=(rfl)
theorem yY {g:Nat}:zr G tm (.global g)=zs1 (G g):=(rfl)
theorem ue:zs1 (some cs) = .row cs:=(rfl)
theorem zqs {v:Nat} {r:List (Nat×C)}:jU ((u,c) :: r) v=if v=u then c else jU r v:=(rfl)
theorem vx {k:IntKind} {n:Int}:zC (.int k n) = .sc (.int k n):=(rfl)
theorem yj {b:Bool}:zC (.bool b) = .sc (.bool b):=(rfl)
theorem vE:zC (.string ⟨l.toArray⟩) = .str l:=(rfl)
theorem NF {a:Option Addr} {m:Nat}:zC (.slice a n m) = .sc (.slice a n m):=(rfl)
theorem uX {a:Option Addr}:zC (.pointer a) = .sc (.pointer a):=(rfl)
theorem uU {a:Option Nat}:zC (.map a) = .sc (.map a):=(rfl)
theorem MV:zC .nilFunc = .sc .nilFunc:=(rfl)
theorem zd3 {k:IntKind} {b:Int}:yb P t op (.sc (.int k a)) (.sc (.int k b)) K ⟨⟩=kL op k a b K ⟨⟩:=(show zoE P t op (.sc (.int k a)) (.sc (.int k b)) K=zrC op k a b K from by simp[zoE])
theorem zec {a b:Lz}:yb P t op (.str a) (.str b) K ⟨⟩=zhE op a b K ⟨⟩:=(rfl)
theorem zdm {a b:Bool}:yb P t op (.sc (.bool a)) (.sc (.bool b)) K ⟨⟩=zfj (lay P t) op a b K ⟨⟩:=(rfl)
theorem zfW {ds:List C}:yb P t op (.agg cs) (.agg ds) K ⟨⟩=zqH op (Gl P t) cs ds K ⟨⟩:=(rfl)
theorem xZ {rows:List (List C)}:yb P t op (.sl k rows) (.sc (.slice none 0 0)) K ⟨⟩=zaZ (lay P t) op (.sl k rows) K ⟨⟩:=(rfl)
theorem zhw {e0:TypeId} {k0 b0:Nat} {z0:Option (List Value)} {rows:List (List C)}:zaZ (some ⟨.slice e0,k0,b0,z0⟩) op (.sl k rows) K ⟨⟩=(rows≠[]/\zfF op false K ⟨⟩):=(rfl)
theorem xa {a:Option Addr}:yb P t op (.sc (.slice a n cap)) (.sc (.slice none 0 0)) K ⟨⟩=zaZ (lay P t) op (.sc (.slice a n cap)) K ⟨⟩:=(rfl)
theorem zev {e0:TypeId} {k0 b0:Nat} {z0:Option (List Value)} {a:Option Addr}:zaZ (some ⟨.slice e0,k0,b0,z0⟩) op (.sc (.slice a n cap)) K ⟨⟩=zfF op a.isNone K ⟨⟩:=(rfl)
theorem zcX {b:Bool}:zfF .eql b K ⟨⟩=K (.sc (.bool b)):=(rfl)
theorem zgh {lk:List LK} {ds:List C}:zqH .neq (some lk) cs ds K ⟨⟩=zow true lk cs ds true K ⟨⟩:=(rfl)
theorem zdz {e:Bool}:zow true [] [] [] e K ⟨⟩=K (.sc (.bool (!e))):=(rfl)
theorem zkF {n e:Bool} {lk:List LK} {k k1:IntKind} {b:Int} {ds:List C}:zow n (.int k :: lk) (.sc (.int k1 a) :: cs) (.sc (.int k2 b) :: ds) e K ⟨⟩=(k1=k/\k2=k/\zow n lk cs ds (e&&decide (a=b)) K ⟨⟩):=(rfl)
theorem zkW {n e:Bool} {lk:List LK} {a b:Lz} {ds:List C}:zow n (.str :: lk) (.str a :: cs) (.str b :: ds) e K ⟨⟩=zow n lk cs ds (e&&decide (a=b)) K ⟨⟩:=(rfl)
theorem znK {a b:Bool} {s:Nat}:zfj (some ⟨.bool,s,b1,z1⟩) op a b K ⟨⟩=zlr op a b K ⟨⟩:=(rfl)
theorem zfu {k:IntKind} {b:Int}:kL .add k a b K ⟨⟩=(inR k (a+b)/\K (.sc (.int k (a+b)))):=(rfl)
theorem zg4 {k:IntKind} {b:Int}:kL .sub k a b K ⟨⟩=(inR k (a-b)/\K (.sc (.int k (a-b)))):=(rfl)
theorem zgS {k:IntKind} {b:Int}:kL .rem k a b K ⟨⟩=(0<=a/\0<b/\K (.sc (.int k (a % b)))):=(rfl)
theorem zfJ {k:IntKind} {b:Int}:kL .shr k a b K ⟨⟩=(b=1/\K (.sc (.int k (a / 2)))):=(rfl)
theorem zf9 {k:IntKind} {b:Int}:kL .eql k a b K ⟨⟩=(K (.sc (.bool (decide (a=b))))):=(rfl)
theorem zea {k:IntKind} {b:Int}:kL .neq k a b K ⟨⟩=(K (.sc (.bool (!decide (a=b))))):=(rfl)
theorem zeT {k:IntKind} {b:Int}:kL .lss k a b K ⟨⟩=(K (.sc (.bool (decide (a<b))))):=(rfl)
theorem zho {k:IntKind} {b:Int}:kL .leq k a b K ⟨⟩=(K (.sc (.bool (decide (a<=b))))):=(rfl)
theorem zg1 {k:IntKind} {b:Int}:kL .gtr k a b K ⟨⟩=(K (.sc (.bool (decide (b<a))))):=(rfl)
theorem zfA {k:IntKind} {b:Int}:kL .geq k a b K ⟨⟩=(K (.sc (.bool (decide (b<=a))))):=(rfl)
theorem zgj {a b:Lz}:zhE .add a b K ⟨⟩=(((a.length+b.length:Nat):Int)<=9223372036854775807/\K (.str (a++b))):=(rfl)
theorem zgN {a b:Lz}:zhE .eql a b K ⟨⟩=(K (.sc (.bool (decide (a=b))))):=(rfl)
theorem zfD {a b:Lz}:zhE .neq a b K ⟨⟩=(K (.sc (.bool (!decide (a=b))))):=(rfl)
theorem ze2 {a b:Lz}:zhE .geq a b K ⟨⟩=(K (.sc (.bool (!Op.bytesLess a b)))):=(rfl)
theorem zc8 {a b:Bool}:zlr .eql a b K ⟨⟩=K (.sc (.bool (a==b))):=(rfl)
theorem zie {b:Bool}:zsE .not (.sc (.bool b)) K ⟨⟩=K (.sc (.bool (!b))):=(rfl)
theorem zfz:kr (.tup cs) i K ⟨⟩=zmt (cs[i]?) K ⟨⟩:=(rfl)
theorem zsg:zmt (some c) K ⟨⟩=K c:=(rfl)
theorem zfL:zof (.ptr i off) K ⟨⟩=K (.ptr i off):=(rfl)
theorem zpR:zaD P t c bx K ⟨⟩=uW (lay P t) c bx K ⟨⟩:=(rfl)
theorem zeu {ev:Operand->C}:jv P G bx ev (.store t x y) nx K2 ⟨⟩ ⟨⟩ ⟨⟩=zp6 (lay P t) (ev x) (ev y) bx (fun c=>K2 c nx) ⟨⟩:=(rfl)
theorem zsF:zp6 (some L) (.ptr i off) c bx K ⟨⟩=zqo (bx[i]?) off L.size c K ⟨⟩:=(rfl)
theorem zrN:zqo (some cs) off size c K ⟨⟩=(c.partB=true/\(c.cells.all C.cellB)=true/\c.cells.length=size/\off+size<=cs.length/\Up ((cs.drop off).take size) c.cells/\K .any):=(rfl)
theorem zcH:Up [] []=True:=(rfl)
theorem zeK {u:Value} {s:List C}:Up (.sc u :: r) (.sc v :: s)=(u=v/\Up r s):=(rfl)
theorem zdK {u v:Lz} {s:List C}:Up (.str u :: r) (.str v :: s)=(u=v/\Up r s):=(rfl)
theorem zcK:uW (some L) (.ptr i off) bx K ⟨⟩=zgP (bx[i]?) off L K ⟨⟩:=(rfl)
theorem zdB:uW (some L) (.row cs) bx K ⟨⟩=VV L cs K ⟨⟩:=(rfl)
theorem zmU:zgP (some cs) off L K ⟨⟩=VV L (cs.drop off) K ⟨⟩:=(rfl)
theorem NH {fs:List (Nat×Nat×Bool)} {s:Nat}:VV ⟨.struct fs,s,b,z1⟩ cs K ⟨⟩=(s<=cs.length/\K (.agg (cs.take s))):=(show Yv ⟨.struct fs,s,b,z1⟩ cs K=(s<=cs.length/\K (.agg (cs.take s))) from by simp[Yv,LK.agg])
theorem zdr {ik:IntKind} {s:Nat}:VV ⟨.int ik,s,b,z1⟩ (c :: r) K ⟨⟩=K c:=(show Yv ⟨.int ik,s,b,z1⟩ (c :: r) K=K c from by simp[Yv,LK.agg])
theorem uz {s:Nat}:VV ⟨.bool,s,b,z1⟩ (c :: r) K ⟨⟩=K c:=(show Yv ⟨.bool,s,b,z1⟩ (c :: r) K=K c from by simp[Yv,LK.agg])
theorem zb1 {s:Nat}:VV ⟨.str,s,b,z1⟩ (c :: r) K ⟨⟩=K c:=(show Yv ⟨.str,s,b,z1⟩ (c :: r) K=K c from by simp[Yv,LK.agg])
theorem xS {e:TypeId} {s:Nat}:VV ⟨.slice e,s,b,z1⟩ (c :: r) K ⟨⟩=K c:=(show Yv ⟨.slice e,s,b,z1⟩ (c :: r) K=K c from by simp[Yv,LK.agg])
theorem xV {s:Nat}:VV ⟨.other,s,b,z1⟩ (c :: r) K ⟨⟩=K c:=(show Yv ⟨.other,s,b,z1⟩ (c :: r) K=K c from by simp[Yv,LK.agg])
theorem zn3 {f:Nat}:vD P t c f K ⟨⟩=zaC (lay P t) c f K ⟨⟩:=(rfl)
theorem zj1 {fs:List (Nat×Nat×Bool)} {s:Nat} {f:Nat}:zaC (some ⟨.struct fs,s,b,z1⟩) (.agg cs) f K ⟨⟩=zac (fs[f]?) cs K ⟨⟩:=(show uk (some ⟨.struct fs,s,b,z1⟩) (.agg cs) f K=km (fs[f]?) cs K from by unfold uk km;simp only[];cases fs[f]?<;>simp)
theorem zdY:zac (some (off,size,false)) cs K ⟨⟩=zmt (cs[off]?) K ⟨⟩:=(show km (some (off,size,false)) cs K=zr5 (cs[off]?) K from by unfold km zr5;simp)
theorem ztj {f:Nat}:Zf P t c f K ⟨⟩=zpt (lay P t) c f K ⟨⟩:=(rfl)
theorem zsx {fs:List (Nat×Nat×Bool)} {s:Nat} {f:Nat}:zpt (some ⟨.struct fs,s,b,z1⟩) c f K ⟨⟩=zlT (fs[f]?) c K ⟨⟩:=(rfl)
theorem zkR {g:Bool}:zlT (some (off,size+1,g)) (.ptr i q) K ⟨⟩=K (.ptr i (q+off)):=(show zoU (some (off,size+1,g)) (.ptr i q) K=K (.ptr i (q+off)) from by simp[zoU])
theorem zkb {g:Bool}:zlT (some (off,size+1,g)) (.row cs) K ⟨⟩=K (.row (cs.drop off)):=(show zoU (some (off,size+1,g)) (.row cs) K=K (.row (cs.drop off)) from by simp[zoU])
theorem ztF:Zr P t c d K ⟨⟩=zmz P (lay P t) c d K ⟨⟩:=(rfl)
theorem zcf {s:Nat} {k:IntKind} {n:Int}:zmz P (some ⟨.slice e,s,b,z1⟩) c (.sc (.int k n)) K ⟨⟩=zjX (lay P e) c n K ⟨⟩:=(rfl)
theorem zdw {m s:Nat} {k:IntKind} {n:Int}:zmz P (some ⟨.array (m+1) e,s,b,z1⟩) c (.sc (.int k n)) K ⟨⟩=zpm (lay P e) c m n K ⟨⟩:=(rfl)
theorem zgp {rows:List (List C)} {n:Int}:zjX (some L) (.sl k rows) n K ⟨⟩=znT (C.rows? L.size (.sl k rows)) n K ⟨⟩:=(rfl)
theorem zgs {rows:List (List C)}:zgt (some L) (.sl k rows) lo hi mx K ⟨⟩=zkI (C.rows? L.size (.sl k rows)) L.size lo hi mx K ⟨⟩:=(rfl)
theorem zcn {id:Nat} {rows:List (List C)} {n:Int}:zjX (some L) (.own id e k rows) n K ⟨⟩=znT (C.rows? L.size (.own id e k rows)) n K ⟨⟩:=(rfl)
theorem zbB {id:Nat} {rows:List (List C)}:zgt (some L) (.own id e k rows) lo hi mx K ⟨⟩=zkI (C.rows? L.size (.own id e k rows)) L.size lo hi mx K ⟨⟩:=(rfl)
theorem yW {id:Nat} {rows:List (List C)} :vj P bx t t' (.own id e k rows) K ⟨⟩=zeN P t t' (.own id e k rows) K ⟨⟩:=(rfl)
theorem zdg:zgt (some L) (.sc (.slice none 0 0)) lo hi mx K ⟨⟩=zqn L.size lo hi mx K ⟨⟩:=(rfl)
theorem zrO:zqn k lo hi none K ⟨⟩=(j8 0 lo hi/\K (.sc (.slice none 0 0))):=(rfl)
theorem zdo :vj P bx t t' (.sc v) K ⟨⟩=zeN P t t' (.sc v) K ⟨⟩:=(rfl)
theorem zgZ {n:Int} {m1:Nat}:zjX (some L) (.bs j off k m1 cap) n K ⟨⟩=(k=L.size/\0<=n/\n<(m1:Int)/\K (.ptr j (off+n.toNat*L.size))):=(rfl)
theorem zfr:zgt (some L) (.bs i off k n cap) lo hi mx K ⟨⟩=zg2 L.size i off k n cap lo hi mx K ⟨⟩:=(rfl)
theorem zks {b:Int} {sz:Nat}:zg2 sz i off k n cap none (some b) none K ⟨⟩=(n<=cap/\(0<=b/\b<=(cap:Int))/\K (.bs i off k b.toNat cap)):=(rfl)
theorem zjm {sz:Nat}:zg2 sz i off k n cap (some a) none none K ⟨⟩=(sz=k/\n<=cap/\(0<=a/\a<=(n:Int))/\K (.bs i (off+a.toNat*k) k (n-a.toNat) (cap-a.toNat))):=(rfl)
theorem zia {b:Int} {sz:Nat}:zg2 sz i off k n cap (some a) (some b) none K ⟨⟩=(sz=k/\(0<=a/\a<=b/\b<=(cap:Int))/\K (.bs i (off+a.toNat*k) k (b.toNat-a.toNat) (cap-a.toNat))):=(rfl)
theorem zky {b m1:Int} {sz:Nat}:zg2 sz i off k n cap (some a) (some b) (some m1) K ⟨⟩=(sz=k/\(0<=a/\a<=b/\b<=m1/\m1<=(cap:Int))/\K (.bs i (off+a.toNat*k) k (b.toNat-a.toNat) (m1.toNat-a.toNat))):=(rfl)
theorem zjq:vz P t (.bs i off k n cap) K ⟨⟩=xv (lay P t) (n:Int) K ⟨⟩:=(rfl)
theorem zt1:GH P t n ps ⟨tm,bx,nx,lg⟩ K3 ⟨⟩=zph P (lay P t) n ps ⟨tm,bx,nx,lg⟩ K3 ⟨⟩:=(rfl)
theorem zrH {s:Nat}:zph P (some ⟨.slice e,s,b,z1⟩) n ps σ K3 ⟨⟩=zp9 (lay P e) n ps σ K3 ⟨⟩:=(rfl)
theorem zsa {z1:List Value}:zp9 (some ⟨kd,k,b,some z1⟩) n ps σ K3 ⟨⟩=(z1.length=k/\0<k/\n*k<=16777216/\(ps.all fun p=>p.2.frz.partB)=true/\zqK (Xg (plA k) (List.replicate n (z1.map zC)).flatten (ps.map fun p=>(p.1,p.2.frz))) k n σ K3 ⟨⟩):=(rfl)
theorem zsR:zqK (some cs) k n ⟨tm,bx,nx,lg⟩ K3 ⟨⟩=((cs.all C.cellB)=true/\cs.length=n*k/\K3 (.bs bx.length 0 k n n) ⟨tm,bx++[cs],nx,lg⟩):=(rfl)
theorem ztQ:zae P p t c d ⟨tm,bx,nx,lg⟩ K3 ⟨⟩=zp1 P (lay P t) p c d ⟨tm,bx,nx,lg⟩ K3 ⟨⟩:=(rfl)
theorem zsU {s:Nat}:zp1 P (some ⟨.slice e,s,b,z1⟩) p c d σ K3 ⟨⟩=zq7 (lay P e) p c d σ K3 ⟨⟩:=(rfl)
theorem zsO {z1:List Value}:zq7 (some ⟨kd,k,b,some z1⟩) p c d ⟨tm,bx,nx,lg⟩ K3 ⟨⟩=zo7 (d.xs? k bx) p k b z1 c ⟨tm,bx,nx,lg⟩ K3 ⟨⟩:=(rfl)
theorem zmg {k2:Nat}:C.xs? k bx (.bs i off k2 n cap)=xsB k2 k off n (bx[i]?):=(rfl)
theorem zpw:xsB k k off n (some cs)=if off+n*k<=cs.length then some (n,(cs.drop off).take (n*k)) else none:=(show xsB k k off n (some cs)=if off+n*k<=cs.length then some (n,(cs.drop off).take (n*k)) else none from by simp[xsB])
theorem znf:ZB i cs bx=(Mf (Yg i) some bx).set i cs:=(rfl)
theorem znu:Yg i j=if j=i then none else some j:=(rfl)
theorem zi7:C.frz (.bs i off k n cap) = .any:=(show C.frz (.bs i off k n cap) = .any from by rw[C.frz])
theorem zm0:C.re fp fo (.bs i off k n cap)=bsO (fp i) off k n cap:=(show C.re fp fo (.bs i off k n cap)=bsO (fp i) off k n cap from by rw[C.re];rfl)
theorem zrm:bsO (some j) off k n cap = .bs j off k n cap:=(rfl)
theorem zqE:bsO none off k n cap = .any:=(rfl)
theorem zbU:C.cellB (.bs i off k n cap)=true:=(rfl)
theorem zc6:C.partB (.bs i off k n cap)=true:=(rfl)
theorem zdt:C.cells (.bs i off k n cap) = [.bs i off k n cap]:=(rfl)
theorem zoJ {rows:List (List C)} {n:Int}:znT (some rows) n K ⟨⟩=ztb (rows[n.toNat]?) n K ⟨⟩:=(rfl)
theorem ztD {n:Int}:ztb (some r) n K ⟨⟩=(0<=n/\K (.row r)):=(rfl)
theorem zmw {m:Nat} {n:Int}:zpm (some L) (.row cs) m n K ⟨⟩=(0<=n/\n<((m+1:Nat):Int)/\K (.row (cs.drop (n.toNat*L.size)))):=(rfl)
theorem ztq:uo P t c d K ⟨⟩=zqW (lay P t) c d K ⟨⟩:=(rfl)
theorem zrX {s:Nat} {k:IntKind} {n:Int}:zqW (some ⟨.str,s,b,z1⟩) (.str l) (.sc (.int k n)) K ⟨⟩=zlI (l[n.toNat]?) n K ⟨⟩:=(show zrQ (some ⟨.str,s,b,z1⟩) (.str l) (.sc (.int k n)) K=zlU (l[n.toNat]?) n K from by unfold zrQ zlU;simp)
theorem zpz {b:UInt8} {n:Int}:zlI (some b) n K ⟨⟩=(0<=n/\K (.sc (.int .u8 (b.toNat:Int)))):=(rfl)
theorem zt4 {lo hi mx:Option C}:vN P t c lo hi mx K ⟨⟩=zq6 P t c (za4 lo) (za4 hi) (za4 mx) K ⟨⟩:=(rfl)
theorem zsJ:zq6 P t c (some lo) (some hi) (some mx) K ⟨⟩=zn6 P (lay P t) c lo hi mx K ⟨⟩:=(rfl)
theorem zdi:za4 none=some none:=(rfl)
theorem zfd {k:IntKind} {n:Int}:za4 (some (.sc (.int k n)))=some (some n):=(rfl)
theorem zkB {s:Nat}:zn6 P (some ⟨.str,s,b,z1⟩) (.str l) lo hi none K ⟨⟩=(j8 l.length lo hi/\K (.str (cut l lo hi))):=(rfl)
theorem zdn {s:Nat}:zn6 P (some ⟨.slice e,s,b,z1⟩) c lo hi mx K ⟨⟩=zgt (lay P e) c lo hi mx K ⟨⟩:=(rfl)
theorem zq1 {rows:List (List C)}:zkI (some rows) k lo hi none K ⟨⟩=(j8 rows.length lo hi/\K (.sl k (cut rows lo hi))):=(rfl)
theorem zpM {rows:List (List C)} {h m:Int}:zkI (some rows) k lo (some h) (some m) K ⟨⟩=(m=h/\j8 rows.length lo (some h)/\K (.tight k (cut rows lo (some h)))):=(rfl)
theorem ziZ {α:Type} {l:List α}:cut l (some a) none=l.drop a.toNat:=(rfl)
theorem zkM {α:Type} {l:List α} {b:Int}:cut l none (some b)=l.take b.toNat:=(rfl)
theorem zkp {α:Type} {l:List α} {b:Int}:cut l (some a) (some b)=(l.take b.toNat).drop a.toNat:=(rfl)
theorem zbL:j8 n (some a) none=(0<=a/\a<=(n:Int)):=(rfl)
theorem zbZ {b:Int}:j8 n none (some b)=(0<=b/\b<=(n:Int)):=(rfl)
theorem zdp {b:Int}:j8 n (some a) (some b)=(0<=a/\a<=b/\b<=(n:Int)):=(rfl)
theorem zfg {rows:List (List C)}:C.rows? k (.sl k rows)=some rows:=(show C.rows? k (.sl k rows)=some rows from by simp[C.rows?])
theorem zc3 {id:Nat} {rows:List (List C)}:C.rows? k (.own id e k rows)=some rows:=(show C.rows? k (.own id e k rows)=some rows from by simp[C.rows?])
theorem zo5:zeN P t t' c K ⟨⟩=zj4 P (lay P t') (lay P t) c K ⟨⟩:=(rfl)
theorem zbJ {k k0:IntKind} {n:Int} {s:Nat}:zj4 P (some ⟨.int k,s,b,z1⟩) (some L) (.sc (.int k0 n)) K ⟨⟩=(inR k n/\K (.sc (.int k n))):=(rfl)
theorem zkg {s s2 b2:Nat} {k k0:IntKind} {n:Int}:zj4 P (some ⟨.str,s,b,z1⟩) (some ⟨.int k,s2,b2,z2⟩) (.sc (.int k0 n)) K ⟨⟩=K (.str (Utf8.encode n).data.toList):=(rfl)
theorem zi8 {s s2 b2:Nat}:zj4 P (some ⟨.str,s,b,z1⟩) (some ⟨.slice e,s2,b2,z2⟩) c K ⟨⟩=zro (lay P e) c K ⟨⟩:=(rfl)
theorem zdS {s:Nat}:zro (some ⟨.int .u8,s,b,z1⟩) c K ⟨⟩=znU (c.rows? 1) K ⟨⟩:=(rfl)
theorem zeQ:vz P t (.str l) K ⟨⟩=zle (lay P t) (l.length:Int) K ⟨⟩:=(rfl)
theorem zkn {rows:List (List C)}:vz P t (.sl k rows) K ⟨⟩=xv (lay P t) (rows.length:Int) K ⟨⟩:=(rfl)
theorem zha {id:Nat} {rows:List (List C)}:vz P t (.own id e k rows) K ⟨⟩=xv (lay P t) (rows.length:Int) K ⟨⟩:=(rfl)
theorem zeD:vz P t (.sc (.slice none 0 0)) K ⟨⟩=xv (lay P t) 0 K ⟨⟩:=(rfl)
theorem zqv {s:Nat} {n:Int}:xv (some ⟨.slice e,s,b,z1⟩) n K ⟨⟩=K (.sc (.int .i64 n)):=(rfl)
theorem zpT {s:Nat} {n:Int}:zle (some ⟨.str,s,b,z1⟩) n K ⟨⟩=K (.sc (.int .i64 n)):=(rfl)
theorem zmL:uS P t ps K ⟨⟩=zqr (lay P t) ps K ⟨⟩:=(rfl)
theorem ziK {fs:List (Nat×Nat×Bool)} {s:Nat} {z1:List Value}:zqr (some ⟨.struct fs,s,b,some z1⟩) ps K ⟨⟩=((ps.all fun p=>p.2.partB)=true/\ztc (Xg (plS fs) (z1.map zC) ps) K ⟨⟩):=(show zsD (some ⟨.struct fs,s,b,some z1⟩) ps K=((ps.all fun p=>p.2.partB)=true/\aFl (Xg (plS fs) (z1.map zC) ps) K) from by unfold zsD aFl;simp only[];rfl)
theorem ztY:ztc (some cs) K ⟨⟩=K (.agg cs):=(rfl)
theorem zm3:Xg place cs []=some cs:=(rfl)
theorem zoR {rest:List (Nat×C)}:Xg place cs ((i,c) :: rest)=zlu (place i) place cs c.cells rest:=(rfl)
theorem zok {l:List C} {rest:List (Nat×C)}:zlu (some (off,size)) place cs l rest=(if l.length=size/\off+size<=cs.length then Xg place (cs.take off++l++cs.drop (off+size)) rest else none):=(rfl)
theorem zsM {fs:List (Nat×Nat×Bool)}:plS fs i=(fs[i]?).map fun f=>(f.1,f.2.1):=(rfl)
theorem zr4:plA k i=some (i*k,k):=(rfl)
theorem zts:Qt P t n ps nx K2 ⟨⟩=zqz P (lay P t) n ps nx K2 ⟨⟩:=(rfl)
theorem zsy {s:Nat}:zqz P (some ⟨.slice e,s,b,z1⟩) n ps nx K2 ⟨⟩=zo6 (lay P e) e n ps nx K2 ⟨⟩:=(rfl)
theorem zsK {z1:List Value}:zo6 (some ⟨kd,k,b,some z1⟩) e n ps nx K2 ⟨⟩=(z1.length=k/\0<k/\n*k<=16777216/\(ps.all fun p=>p.2.frz.partB)=true/\zpZ (Xg (plA k) (List.replicate n (z1.map zC)).flatten (ps.map fun p=>(p.1,p.2.frz))) e k n nx K2 ⟨⟩):=(rfl)
theorem zss:zpZ (some cs) e k n nx K2 ⟨⟩=((cs.all C.cellB)=true/\cs.length=n*k/\K2 (.own nx e k (QV k n cs)) (nx+1)):=(rfl)
theorem zsC:xm P t c d ⟨tm,bx,nx,lg⟩ K3 ⟨⟩=zlb P (lay P t) c d ⟨tm,bx,nx,lg⟩ K3 ⟨⟩:=(rfl)
theorem zrp {s:Nat} {k:IntKind} {l m:Int}:zlb P (some ⟨.slice e,s,b,z1⟩) (.sc (.int k l)) (.sc (.int k2 m)) ⟨tm,bx,nx,lg⟩ K3 ⟨⟩=zly (lay P e) l m ⟨tm,bx,nx,lg⟩ K3 ⟨⟩:=(rfl)
theorem zqF {z1:List Value} {l m:Int}:zly (some ⟨kd,k,b,some z1⟩) l m ⟨tm,bx,nx,lg⟩ K3 ⟨⟩=(z1.length=k/\0<k/\(z1.all Value.oneCell')=true/\0<=l/\l<=m/\(b:Int)*m<=281474976710656/\m<=9223372036854775807/\K3 (.bs bx.length 0 k l.toNat m.toNat) ⟨tm,bx++[(List.replicate m.toNat (z1.map zC)).flatten],nx,lg⟩):=(rfl)
theorem ztE:zlw P t c d nx K2 ⟨⟩=zre P (lay P t) c d nx K2 ⟨⟩:=(rfl)
theorem zr0 {s:Nat} {k:IntKind} {l m:Int}:zre P (some ⟨.slice e,s,b,z1⟩) (.sc (.int k l)) (.sc (.int k2 m)) nx K2 ⟨⟩=zpe (lay P e) e l m nx K2 ⟨⟩:=(rfl)
theorem zrM {z1:List Value} {l m:Int}:zpe (some ⟨kd,k,b,some z1⟩) e l m nx K2 ⟨⟩=(z1.length=k/\0<k/\(z1.all Value.oneCell')=true/\0<=l/\l<=m/\(b:Int)*m<=281474976710656/\m<=9223372036854775807/\K2 (.own nx e k (List.replicate l.toNat (z1.map zC))) (nx+1)):=(rfl)
theorem zeB {id:Nat} {rows:List (List C)}:N0 P t (.own id e k rows) d ⟨tm,bx,nx,lg⟩ K3 ⟨⟩=zqS P (lay P t) id e k rows d ⟨tm,bx,nx,lg⟩ K3 ⟨⟩:=(rfl)
theorem zfk:N0 P t (.sc (.slice none 0 0)) d ⟨tm,bx,nx,lg⟩ K3 ⟨⟩=NP P t (.sc (.slice none 0 0)) d nx (fun c nx'=>K3 c ⟨tm,bx,nx',lg⟩) ⟨⟩:=(rfl)
theorem zqY:NP P t c d nx K2 ⟨⟩=zpL P (lay P t) c d nx K2 ⟨⟩:=(rfl)
theorem zsr {s:Nat}:zpL P (some ⟨.slice e,s,b,z1⟩) c d nx K2 ⟨⟩=zoO (lay P e) e c d nx K2 ⟨⟩:=(rfl)
theorem zsS {z1:List Value}:zoO (some ⟨kd,k,b,some z1⟩) e c d nx K2 ⟨⟩=znR (d.rows? k) c e k b z1 nx K2 ⟨⟩:=(rfl)
theorem zqh {z1:List Value} {xs:List (List C)}:znR (some xs) (.sc (.slice none 0 0)) e k b z1 nx K2 ⟨⟩=(z1.length=k/\0<k/\xs.length<=9223372036854775807/\xs.length*b<=140737488355328/\K2 (.own nx e k xs) (nx+1)):=(rfl)
theorem zp8 {k0:Nat} {z1:List Value} {xs rows:List (List C)}:znR (some xs) (.tight k0 rows) e k b z1 nx K2 ⟨⟩=(k0=k/\z1.length=k/\0<k/\rows.length+xs.length<=9223372036854775807/\(rows.length+xs.length)*b<=140737488355328/\(xs = []->K2 (.tight k0 rows) nx)/\(¬xs = []->K2 (.own nx e k (rows++xs)) (nx+1))):=(rfl)
theorem zit {a:Nat} (h:Nat.ble a b=true):a<=b:=OR h
theorem lS:(∀ {α:Type} (a b:List α),(a++b).length=a.length+b.length)/\(∀ {α:Type} (a:α) (b:List α),(a :: b).length=b.length+1)/\(∀ {α:Type},([]:List α).length=0)/\(∀ {α β:Type} (f:α->β) (l:List α),(l.map f).length=l.length)/\(∀ {α:Type} (n:Nat) (l:List α),(l.take n).length=min n l.length)/\∀ {α:Type} (n:Nat) (l:List α),(l.drop n).length=l.length-n:=⟨fun _ _=>Wj,fun _ _=>Wg,Wz,fun _ _=>We _,fun _ _=>W6,fun _ _=>WZ⟩
theorem zrI {α:Type} {x:α} {l:List α}:((x :: l) = [])=False:=by simp
theorem ztU {p:Prop}:(True->p)=p:=by simp
theorem ztH {p:Prop}:(False->p)=True:=by simp
theorem ztM:(¬False)=True:=by simp
theorem zsq {e0 s id:Nat} {rows:List (List C)}:zqS P (some ⟨.slice e0,s,b,z1⟩) id e k rows c σ K3 ⟨⟩=zpv (lay P e) e0 id e k rows c σ K3 ⟨⟩:=(rfl)
theorem zsT {k0 e0 id:Nat} {z1:List Value} {rows:List (List C)}:zpv (some ⟨kd,k0,b,some z1⟩) e0 id e k rows c σ K3 ⟨⟩=(e0=e/\k0=k/\z1.length=k/\0<k/\zqi (c.rows? k) b id e k rows σ K3 ⟨⟩):=(show zse (some ⟨kd,k0,b,some z1⟩) e0 id e k rows c σ K3=(e0=e/\k0=k/\z1.length=k/\0<k/\zsP (c.rows? k) b id e k rows σ K3) from by unfold zse zsP;simp only[];cases c.rows? k<;>simp)
theorem zsz {xs rows:List (List C)} {id:Nat}:zqi (some xs) b id e k rows ⟨tm,bx,nx,lg⟩ K3 ⟨⟩=(rows.length+xs.length<=9223372036854775807/\(rows.length+xs.length)*b<=140737488355328/\K3 (.own id e k (rows++xs)) ⟨zcI id tm,yF id bx,nx,lg⟩):=(rfl)
theorem zms {fs:List C}:vb P G h (.clo (.func f) fs cs) args ⟨tm,bx,nx,lg⟩ K3 ⟨⟩ ⟨⟩=Zg P G f (fs++args++cs) (C.frzL (fs++args++cs)) ⟨tm,bx,nx,lg⟩ K3 ⟨⟩:=(rfl)
theorem zl4 {l:Nat} {items:List (List C)} {sf:Nat->Bool}:vb P G ⟨p,some ⟨l,items,sf⟩,bf⟩ (.sc (.func (.yield l) #[] #[])) args ⟨tm,bx,nx,lg⟩ K3 ⟨⟩ ⟨⟩=u9 ⟨l,items,sf⟩ (items[lg]?) args ⟨tm,bx,nx,lg⟩ K3 ⟨⟩ ⟨⟩:=(show MN P G ⟨p,some ⟨l,items,sf⟩,bf⟩ (.sc (.func (.yield l) #[] #[])) args ⟨tm,bx,nx,lg⟩ K3=NC ⟨l,items,sf⟩ (items[lg]?) args ⟨tm,bx,nx,lg⟩ K3 from by simp[MN,zaA])
theorem zj0 {l:Nat} {items:List (List C)} {sf:Nat->Bool} {it:List C}:u9 ⟨l,items,sf⟩ (some it) args ⟨tm,bx,nx,lg⟩ K3 ⟨⟩ ⟨⟩=(zf [] 0 args it/\(∀ j,j<lg->sf j=false)/\K3 (.sc (.bool (!sf lg))) ⟨tm,bx,nx,lg+1⟩):=(rfl)
theorem zqP {ι:List Nat}:upB ι m j=match ι[j]? with | some i=>some i | none=>some (m+(j-ι.length)):=(rfl)
theorem zsV:XV [] i=none:=(rfl)
theorem zsA {x1:Nat} {r:List Nat}:XV (x1 :: r) i=if i=x1 then some 0 else (XV r i).map (·+1):=(rfl)
theorem zlR:Gh fp fo [] = []:=(rfl)
theorem zri {r:List (Nat×C)}:Gh fp fo ((u,c) :: r)=(u,c.re fp fo) :: Gh fp fo r:=(rfl)
theorem znI:Mf fp fo [] = []:=(rfl)
theorem zql {r:List (List C)}:Mf fp fo (cs :: r)=C.reL fp fo cs :: Mf fp fo r:=(rfl)
theorem zkT {l:List (List C)}:VA [] l bx=bx:=(rfl)
theorem ziQ {ι:List Nat} {r:List (List C)}:VA (i :: ι) (cs :: r) bx=VA ι r (bx.set i cs):=(rfl)
theorem zkX {ι κ:List Nat}:ZF ι κ bx' n ⟨tm,bx,nx,lg⟩=⟨Gh some (ZC κ) tm,VA ι (Mf (upB ι bx.length) (upO nx) bx') (Mf some (ZC κ) bx)++Mf (upB ι bx.length) (upO nx) (bx'.drop ι.length),nx+n,lg⟩:=(rfl)
theorem zlZ {κ:List Nat}:ZC κ i=if i∈κ then none else some i:=(rfl)
theorem ziA:HZ m i=if i<m then some i else none:=(rfl)
theorem zh9:Xn m i=if i<m then none else some (i-m):=(rfl)
theorem znQ {fs:List C}:zfo P G (.clo (.func f) fs cs) args nx K2 ⟨⟩=uj P G f (C.frzL (fs++args++cs)) nx K2 ⟨⟩:=(rfl)
theorem zrK {s:Nat} {z1:List Value}:zq9 (some ⟨kd,s,b,some z1⟩) ⟨tm,bx,nx,lg⟩ K3 ⟨⟩=((z1.all Value.oneCell')=true/\K3 (.ptr bx.length 0) ⟨tm,bx++[z1.map zC],nx,lg⟩):=(rfl)
theorem zrP:zqc c ⟨tm,bx,nx,lg⟩ K3 ⟨⟩=(c.partB=true/\(c.cells.all C.cellB)=true/\K3 (.ptr bx.length 0) ⟨tm,bx++[c.cells],nx,lg⟩):=(rfl)
theorem zsY:zpg (some L) (.ptr i off) c ⟨tm,bx,nx,lg⟩ K3 ⟨⟩=zqL (bx[i]?) i off L.size c ⟨tm,bx,nx,lg⟩ K3 ⟨⟩:=(rfl)
theorem zsG:zqL (some cs) i off size c ⟨tm,bx,nx,lg⟩ K3 ⟨⟩=(c.partB=true/\(c.cells.all C.cellB)=true/\c.cells.length=size/\off+size<=cs.length/\K3 .any ⟨tm,bx.set i (cs.take off++c.cells++cs.drop (off+size)),nx,lg⟩):=(rfl)
theorem ziT:C.frz (.sc v) = .sc v:=(show C.frz (.sc v) = .sc v from by rw[C.frz])
theorem zmd {id:Nat}:C.dg id (.sc v) = .sc v:=(show C.dg id (.sc v) = .sc v from by rw[C.dg])
theorem zl8:C.sh n (.sc v) = .sc v:=(show C.sh n (.sc v) = .sc v from by rw[C.sh])
theorem zhO:C.frz (.str l) = .str l:=(show C.frz (.str l) = .str l from by rw[C.frz])
theorem zjp {id:Nat}:C.dg id (.str l) = .str l:=(show C.dg id (.str l) = .str l from by rw[C.dg])
theorem zib:C.sh n (.str l) = .str l:=(show C.sh n (.str l) = .str l from by rw[C.sh])
theorem zkE {rows:List (List C)}:C.frz (.sl k rows) = .sl k rows:=(show C.frz (.sl k rows) = .sl k rows from by rw[C.frz])
theorem zmI {rows:List (List C)} {id:Nat}:C.dg id (.sl k rows) = .sl k rows:=(show C.dg id (.sl k rows) = .sl k rows from by rw[C.dg])
theorem zol {rows:List (List C)}:C.sh n (.sl k rows) = .sl k rows:=(show C.sh n (.sl k rows) = .sl k rows from by rw[C.sh])
theorem uh {rows:List (List C)}:C.frz (.tight k rows) = .tight k rows:=(show C.frz (.tight k rows) = .tight k rows from by rw[C.frz])
theorem zhr:C.frz (.row cs) = .row cs:=(show C.frz (.row cs) = .row cs from by rw[C.frz])
theorem ziV {id:Nat}:C.dg id (.row cs) = .row cs:=(show C.dg id (.row cs) = .row cs from by rw[C.dg])
theorem ziv:C.sh n (.row cs) = .row cs:=(show C.sh n (.row cs) = .row cs from by rw[C.sh])
theorem zjh {id:Nat}:C.dg id (.any) = .any:=(show C.dg id (.any) = .any from by rw[C.dg])
theorem zjL:C.sh n (.any) = .any:=(show C.sh n (.any) = .any from by rw[C.sh])
theorem znG {ks:MK}:C.sh n (.mo i t2 ks vs) = .mo (n+i) t2 ks vs:=(show C.sh n (.mo i t2 ks vs) = .mo (n+i) t2 ks vs from by rw[C.sh])
theorem znP {ks:MK}:C.fz bx (.mo i t2 ks vs) = .mo i t2 ks vs:=(show C.fz bx (.mo i t2 ks vs) = .mo i t2 ks vs from by rw[C.fz])
theorem zmH {id:Nat}:C.up id ks1 vs1 (.sc v) = .sc v:=(show C.up id ks1 vs1 (.sc v) = .sc v from by rw[C.up])
theorem zmM {ks:MK} {id:Nat}:C.up id ks1 vs1 (.mo i t2 ks vs)=if i=id then .mo i t2 ks1 vs1 else .mo i t2 ks vs:=(show C.up id ks1 vs1 (.mo i t2 ks vs)=if i=id then .mo i t2 ks1 vs1 else .mo i t2 ks vs from by rw[C.up])
theorem zcB {id:Nat}:zhT id ks1 vs1 [] = []:=(rfl)
theorem zpH {r:List (Nat×C)} {id:Nat}:zhT id ks1 vs1 ((u,c) :: r)=(u,c.up id ks1 vs1) :: zhT id ks1 vs1 r:=(rfl)
theorem zdb {id:Nat}:zhc id ks1 vs1 [] = []:=(rfl)
theorem zfP {id:Nat} {rows:List (List C)}:C.frz (.own id e k rows) = .sl k rows:=(show C.frz (.own id e k rows) = .sl k rows from by rw[C.frz])
theorem zf7:C.frz (.ptr i off) = .any:=(show C.frz (.ptr i off) = .any from by rw[C.frz])
theorem zkk {id:Nat}:C.dg id (.ptr i off) = .ptr i off:=(show C.dg id (.ptr i off) = .ptr i off from by rw[C.dg])
theorem zh6 {id:Nat} {rows:List (List C)}:C.dg id (.own i e k rows)=if i=id then .sl k rows else .own i e k rows:=(show C.dg id (.own i e k rows)=if i=id then .sl k rows else .own i e k rows from by rw[C.dg])
theorem zkr {rows:List (List C)}:C.sh n (.own i e k rows) = .own (n+i) e k rows:=(show C.sh n (.own i e k rows) = .own (n+i) e k rows from by rw[C.sh])
theorem zl1:C.re fp fo (.sc v) = .sc v:=(show C.re fp fo (.sc v) = .sc v from by rw[C.re])
theorem ziy:C.sel fp (.sc v) = .sc v:=(show C.sel fp (.sc v) = .sc v from by rw[C.sel])
theorem ziI:C.re fp fo (.str l) = .str l:=(show C.re fp fo (.str l) = .str l from by rw[C.re])
theorem zgy:C.sel fp (.str l) = .str l:=(show C.sel fp (.str l) = .str l from by rw[C.sel])
theorem znb {rows:List (List C)}:C.re fp fo (.sl k rows) = .sl k rows:=(show C.re fp fo (.sl k rows) = .sl k rows from by rw[C.re])
theorem zkP {rows:List (List C)}:C.sel fp (.sl k rows) = .sl k rows:=(show C.sel fp (.sl k rows) = .sl k rows from by rw[C.sel])
theorem zdj {rows:List (List C)}:C.re fp fo (.tight k rows) = .tight k rows:=(show C.re fp fo (.tight k rows) = .tight k rows from by rw[C.re])
theorem zh2:C.re fp fo (.row cs) = .row cs:=(show C.re fp fo (.row cs) = .row cs from by rw[C.re])
theorem zgf:C.sel fp (.row cs) = .row cs:=(show C.sel fp (.row cs) = .row cs from by rw[C.sel])
theorem zjI:C.re fp fo (.any) = .any:=(show C.re fp fo (.any) = .any from by rw[C.re])
theorem zmv:C.fz bx (.sc v) = .sc v:=(show C.fz bx (.sc v) = .sc v from by rw[C.fz])
theorem zjP:C.fz bx (.str l) = .str l:=(show C.fz bx (.str l) = .str l from by rw[C.fz])
theorem znJ {rows:List (List C)}:C.fz bx (.sl k rows) = .sl k rows:=(show C.fz bx (.sl k rows) = .sl k rows from by rw[C.fz])
theorem zkL {id:Nat} {rows:List (List C)}:C.fz bx (.own id e k rows) = .own id e k rows:=(show C.fz bx (.own id e k rows) = .own id e k rows from by rw[C.fz])
theorem zjQ:C.fz bx (.row cs) = .row cs:=(show C.fz bx (.row cs) = .row cs from by rw[C.fz])
theorem zj7:C.fz bx (.ptr i off)=zsl (bx[i]?) off:=(show C.fz bx (.ptr i off)=zsl (bx[i]?) off from by rw[C.fz];rfl)
theorem znC:zsl (some cs) off = .row ((C.frzL cs).drop off):=(rfl)
theorem zdy {f:Fn} {a b:Array Value}:Value.oneCell' (.func f a b)=true:=(rfl)
theorem zjx {id:Nat} {rows:List (List C)}:C.re fp fo (.own id e k rows)=zrB (fo id) e k rows:=(show C.re fp fo (.own id e k rows)=zrB (fo id) e k rows from by rw[C.re];rfl)
theorem zkD:C.re fp fo (.ptr i off)=zoD (fp i) off:=(show C.re fp fo (.ptr i off)=zoD (fp i) off from by rw[C.re];rfl)
theorem zgV:C.sel fp (.ptr i off)=zoD (fp i) off:=(show C.sel fp (.ptr i off)=zoD (fp i) off from by rw[C.sel];rfl)
theorem zmc {rows:List (List C)}:zrB (some j) e k rows = .own j e k rows:=(rfl)
theorem zme {rows:List (List C)}:zrB none e k rows = .sl k rows:=(rfl)
theorem zlV:zoD (some j) off = .ptr j off:=(rfl)
theorem zoc:zoD none off = .any:=(rfl)
theorem znF:C.fy nx fr bx (.sc v) = .sc v:=(show C.fy nx fr bx (.sc v) = .sc v from by rw[C.fy])
theorem zmS {rows:List (List C)}:C.fy nx fr bx (.sl k rows) = .sl k rows:=(show C.fy nx fr bx (.sl k rows) = .sl k rows from by rw[C.fy])
theorem zmW:C.fy nx fr bx (.bs i off k n cap)=Ur nx fr i off k n cap:=(show C.fy nx fr bx (.bs i off k n cap)=Ur nx fr i off k n cap from by rw[C.fy])
theorem ziB {i2 k2 cap2:Nat} {rows:List (List C)} {r:Fr}:Ur nx ((i2,e,k2,rows,cap2) :: r) i off k n cap=if i=i2/\off=0/\k=k2/\n=rows.length/\cap=cap2 then .own nx e k2 rows else Ur (nx+1) r i off k n cap:=(show Ur nx ((i2,e,k2,rows,cap2) :: r) i off k n cap=if i=i2/\off=0/\k=k2/\n=rows.length/\cap=cap2 then .own nx e k2 rows else Ur (nx+1) r i off k n cap from by rw[Ur])
theorem zjr:C.re fp fo (.agg cs) = .agg (C.reL fp fo cs):=(show C.re fp fo (.agg cs) = .agg (C.reL fp fo cs) from by rw[C.re])
theorem zki:C.re fp fo (.tup cs) = .tup (C.reL fp fo cs):=(show C.re fp fo (.tup cs) = .tup (C.reL fp fo cs) from by rw[C.re])
theorem zjS {fn:Fn} {fs:List C}:C.re fp fo (.clo fn fs cs) = .clo fn (C.reL fp fo fs) (C.reL fp fo cs):=(show C.re fp fo (.clo fn fs cs) = .clo fn (C.reL fp fo fs) (C.reL fp fo cs) from by rw[C.re])
theorem zd2:C.reL fp fo [] = []:=(show C.reL fp fo [] = [] from by rw[C.reL])
theorem zdc:C.reL fp fo (c :: r)=C.re fp fo c :: C.reL fp fo r:=(show C.reL fp fo (c :: r)=C.re fp fo c :: C.reL fp fo r from by rw[C.reL])
theorem zhq:C.sel fp (.agg cs) = .agg (C.selL fp cs):=(show C.sel fp (.agg cs) = .agg (C.selL fp cs) from by rw[C.sel])
theorem zfY {fn:Fn} {fs:List C}:C.sel fp (.clo fn fs cs) = .clo fn (C.selL fp fs) (C.selL fp cs):=(show C.sel fp (.clo fn fs cs) = .clo fn (C.selL fp fs) (C.selL fp cs) from by rw[C.sel])
theorem zb0:C.selL fp [] = []:=(show C.selL fp [] = [] from by rw[C.selL])
theorem y5:C.selL fp (c :: r)=C.sel fp c :: C.selL fp r:=(show C.selL fp (c :: r)=C.sel fp c :: C.selL fp r from by rw[C.selL])
theorem zin :C.fz bx (.agg cs) = .agg (C.fzL bx cs):=(show C.fz bx (.agg cs) = .agg (C.fzL bx cs) from by rw[C.fz])
theorem ziU :C.fz bx (.tup cs) = .tup (C.fzL bx cs):=(show C.fz bx (.tup cs) = .tup (C.fzL bx cs) from by rw[C.fz])
theorem zjG {fn:Fn} {fs:List C} :C.fz bx (.clo fn fs cs) = .clo fn (C.fzL bx fs) (C.fzL bx cs):=(show C.fz bx (.clo fn fs cs) = .clo fn (C.fzL bx fs) (C.fzL bx cs) from by rw[C.fz])
theorem zgK:C.fzL bx [] = []:=(show C.fzL bx [] = [] from by rw[C.fzL])
theorem zdI :C.fzL bx (c :: r)=C.fz bx c :: C.fzL bx r:=(show C.fzL bx (c :: r)=C.fz bx c :: C.fzL bx r from by rw[C.fzL])
theorem ziq:C.fy nx fr bx (.agg cs) = .agg (C.fyL nx fr bx cs):=(show C.fy nx fr bx (.agg cs) = .agg (C.fyL nx fr bx cs) from by rw[C.fy])
theorem zk1:C.fy nx fr bx (.tup cs) = .tup (C.fyL nx fr bx cs):=(show C.fy nx fr bx (.tup cs) = .tup (C.fyL nx fr bx cs) from by rw[C.fy])
theorem ze5:C.fyL nx fr bx [] = []:=(show C.fyL nx fr bx [] = [] from by rw[C.fyL])
theorem zde:C.fyL nx fr bx (c :: r)=C.fy nx fr bx c :: C.fyL nx fr bx r:=(show C.fyL nx fr bx (c :: r)=C.fy nx fr bx c :: C.fyL nx fr bx r from by rw[C.fyL])
theorem zhs:C.frz (.agg cs) = .agg (C.frzL cs):=(show C.frz (.agg cs) = .agg (C.frzL cs) from by rw[C.frz])
theorem zhp {fn:Fn} {fs:List C}:C.frz (.clo fn fs cs) = .clo fn (C.frzL fs) (C.frzL cs):=(show C.frz (.clo fn fs cs) = .clo fn (C.frzL fs) (C.frzL cs) from by rw[C.frz])
theorem zb3:C.frzL [] = []:=(show C.frzL [] = [] from by rw[C.frzL])
theorem yU:C.frzL (c :: r)=C.frz c :: C.frzL r:=(show C.frzL (c :: r)=C.frz c :: C.frzL r from by rw[C.frzL])
theorem zjv {id:Nat}:C.dg id (.agg cs) = .agg (C.dgL id cs):=(show C.dg id (.agg cs) = .agg (C.dgL id cs) from by rw[C.dg])
theorem zjj {id:Nat}:C.dg id (.tup cs) = .tup (C.dgL id cs):=(show C.dg id (.tup cs) = .tup (C.dgL id cs) from by rw[C.dg])
theorem zjN {fn:Fn} {fs:List C} {id:Nat}:C.dg id (.clo fn fs cs) = .clo fn (C.dgL id fs) (C.dgL id cs):=(show C.dg id (.clo fn fs cs) = .clo fn (C.dgL id fs) (C.dgL id cs) from by rw[C.dg])
theorem zeG {id:Nat}:C.dgL id [] = []:=(show C.dgL id [] = [] from by rw[C.dgL])
theorem zbI {id:Nat}:C.dgL id (c :: r)=C.dg id c :: C.dgL id r:=(show C.dgL id (c :: r)=C.dg id c :: C.dgL id r from by rw[C.dgL])
theorem zi1:C.sh n (.agg cs) = .agg (C.shL n cs):=(show C.sh n (.agg cs) = .agg (C.shL n cs) from by rw[C.sh])
theorem zix:C.sh n (.tup cs) = .tup (C.shL n cs):=(show C.sh n (.tup cs) = .tup (C.shL n cs) from by rw[C.sh])
theorem zjk {fn:Fn} {fs:List C}:C.sh n (.clo fn fs cs) = .clo fn (C.shL n fs) (C.shL n cs):=(show C.sh n (.clo fn fs cs) = .clo fn (C.shL n fs) (C.shL n cs) from by rw[C.sh])
theorem zed:C.shL n [] = []:=(show C.shL n [] = [] from by rw[C.shL])
theorem zcc:C.shL n (c :: r)=C.sh n c :: C.shL n r:=(show C.shL n (c :: r)=C.sh n c :: C.shL n r from by rw[C.shL])
theorem zb2 {id:Nat}:zcI id [] = []:=(rfl)
theorem zqq {id:Nat} {r:List (Nat×C)}:zcI id ((u,c) :: r)=(u,c.dg id) :: zcI id r:=(rfl)
theorem zbG {id:Nat}:yF id [] = []:=(rfl)
theorem zpj {id:Nat} {r:List (List C)}:yF id (cs :: r)=C.dgL id cs :: yF id r:=(rfl)
theorem un:C.cellB (.str l)=true:=(rfl)
theorem uf:C.partB (.str l)=true:=(rfl)
theorem yT:C.cells (.str l) = [.str l]:=(rfl)
theorem zc2 {rows:List (List C)}:C.cellB (.sl k rows)=true:=(rfl)
theorem zcY {rows:List (List C)}:C.partB (.sl k rows)=true:=(rfl)
theorem zda {rows:List (List C)}:C.cells (.sl k rows) = [.sl k rows]:=(rfl)
theorem yV {id:Nat} {rows:List (List C)}:C.cellB (.own id e k rows)=true:=(rfl)
theorem uG {id:Nat} {rows:List (List C)}:C.partB (.own id e k rows)=true:=(rfl)
theorem ug {id:Nat} {rows:List (List C)}:C.cells (.own id e k rows) = [.own id e k rows]:=(rfl)
theorem y7 {fn:Fn} {fs:List C}:C.cellB (.clo fn fs cs)=true:=(rfl)
theorem vM {fn:Fn} {fs:List C}:C.partB (.clo fn fs cs)=true:=(rfl)
theorem vf {fn:Fn} {fs:List C}:C.cells (.clo fn fs cs) = [.clo fn fs cs]:=(rfl)
theorem zcF:C.cellB (.sc v)=v.oneCell':=(rfl)
theorem zcR:C.partB (.sc v)=v.oneCell':=(rfl)
theorem zcr:C.cells (.sc v) = [.sc v]:=(rfl)
theorem yP:C.partB (.agg cs)=true:=(rfl)
theorem ua:C.cells (.agg cs)=cs:=(rfl)
theorem zgF {k:IntKind} {n:Int}:Value.oneCell' (.int k n)=true:=(rfl)
theorem zcM {b:Bool}:Value.oneCell' (.bool b)=true:=(rfl)
theorem vt {a:Option Addr} {m:Nat}:Value.oneCell' (.slice a n m)=true:=(rfl)
theorem xt {s:ByteArray}:Value.oneCell' (.string s)=true:=(rfl)
theorem znL:QV k 0 cs = []:=(rfl)
theorem znm:QV k (n+1) cs=cs.take k :: QV k n (cs.drop k):=(rfl)
theorem zou:UD i [] = []:=(rfl)
theorem zqx:UD i (c :: r)=(i,c) :: UD (i+1) r:=(rfl)
theorem zgi:zmN (.sc (.bool true)) X Y ⟨⟩ ⟨⟩=X:=zjT
theorem zcP:zmN (.sc (.bool false)) X Y ⟨⟩ ⟨⟩=Y:=zhK
theorem br {b:Bool} (hx:b=true->X) (hy:b=false->Y):zmN (.sc (.bool b)) X Y ⟨⟩ ⟨⟩:=ABr.mk hx hy
theorem j6 {a1:List C} (ι κ:List Nat) (hf:Y8 P G f a1 fbx q post) (hq:κ.length=q) (hι:ι.Nodup) (hκ:κ.Nodup) (hb:∀ i∈ι,i<bx.length)
  (ha:C.reL (XV ι) (XV κ) args=a1) (hx:(ι.map fun i=>C.reL (XV ι) (XV κ) (bx.getD i []))=fbx) (hK:∀ r fbx' n,post r fbx' n->K3 (r.re (upB ι bx.length) (upO nx)) (ZF ι κ fbx' n ⟨tm,bx,nx,lg⟩)):Zg P G f args fargs ⟨tm,bx,nx,lg⟩ K3 ⟨⟩:=
 .inr <| .inr <| .inr <| .inl ⟨ι,κ,post,hι,hκ,hb,by rw[ha,hq];exact hx▸hf,hK⟩
theorem znH {K4:C->List (List C)->Nat->Prop} {a1:List C} (ι:List Nat) (hf:Y8 P G f a1 fbx 0 post) (hι:ι.Nodup) (hb:∀ i∈ι,i<bx.length)
  (ha:C.reL (XV ι) (XV []) args=a1) (hx:(ι.map fun i=>C.reL (XV ι) (XV []) (bx.getD i []))=fbx) (hK:∀ r fbx' n,post r fbx' n->K4 (r.re (upB ι bx.length) (upO nx)) (ZF ι [] fbx' n ⟨tm,bx,nx,lg⟩).bx (nx+n)):zs4 P G f args ⟨tm,bx,nx,lg⟩ K4 ⟨⟩:=
 ⟨ι,post,hι,hb,by rw[ha];exact hx▸hf,hK⟩
theorem zl7 {r:C} (hf:zsi P f args bx r) (hK:K3 r ⟨tm,bx,nx,lg⟩):Zg P G f args fargs ⟨tm,bx,nx,lg⟩ K3 ⟨⟩:=.inr <| .inr <| .inr <| .inr ⟨r,hf,hK⟩
theorem znD {m:Nat} {z:Option (List Value)} (hl:lay P t=some ⟨.slice e,s1,b1,z1⟩) (hle:lay P e=some ⟨kd,k,by',z⟩) (hx:d.xs? k bx=some (m,xs)) (hb:bx[i]?=some cs) (hxl:xs.length=m*k) (hfit:off+n*k<=cs.length)
  (hK:K3 (.sc (.int .i64 ((min m n:Nat):Int))) ⟨tm,bx.set i (spl cs off (xs.take (min m n*k))),nx,lg⟩):MF P t (.bs i off k n cap) d ⟨tm,bx,nx,lg⟩ K3 ⟨⟩:=by
 show Zl P t _ _ _ _;unfold Zl;simp only[hl,hle,hx,hb];exact ⟨trivial,hxl,hfit,hK⟩
theorem zpn {m:Nat} {c:C} {z:Option (List Value)} (hl:lay P t=some ⟨.slice e,s1,b1,z1⟩) (hle:lay P e=some ⟨kd,k,by',z⟩) (hx:d.xs? k bx=some (m,xs)) (hc:c.rows? k=some []) (hb:∀ i off k n c',c≠.bs i off k n c') (hxl:xs.length=m*k)
  (hK:K3 (.sc (.int .i64 0)) ⟨tm,bx,nx,lg⟩):MF P t c d ⟨tm,bx,nx,lg⟩ K3 ⟨⟩:=by
 show Zl P t _ _ _ _;unfold Zl;simp only[hl,hle,hx];cases c<;>first
  | exact absurd rfl (hb _ _ _ _ _)
  | (simp only[hc];exact ⟨hxl,hK⟩)
theorem zp3 {z:List Value} (hl:lay P t=some ⟨.slice e,s1,b1,z1⟩) (hle:lay P e=some ⟨kd,k,by',some z⟩) (hb:bx[i]?=some cs) (hz:z.length=k) (hk:0<k) (h1:(z.all Value.oneCell')=true) (hfit:off+n*k<=cs.length)
  (hK:K3 .any ⟨tm,bx.set i (spl cs off (List.replicate n (z.map zC)).flatten),nx,lg⟩):vR P t (.bs i off k n cap) ⟨tm,bx,nx,lg⟩ K3 ⟨⟩:=by
 show Hj P t _ _ _;unfold Hj;simp only[hl,hle,hb];exact ⟨trivial,hz,hk,h1,hfit,hK⟩
theorem Nu {m:Nat} {z:List Value} (hl:lay P t=some ⟨.slice e,s1,b1,z1⟩) (hle:lay P e=some ⟨kd,k,by',some z⟩) (hx:d.xs? k bx=some (m,xs)) (hz:z.length=k) (hk:0<k) (h1:(z.all Value.oneCell')=true) (hxl:xs.length=m*k) (hm:0<m) (h63:m<=9223372036854775807) (hby:m*by'<=140737488355328)
  (hK:∀ cap,m<=cap->cap<=9223372036854775807->K3 (.bs bx.length 0 k m cap) ⟨tm,bx++[xs++List.replicate ((cap-m)*k) .any],nx,lg⟩):UW P t (.sc (.slice none 0 0)) d ⟨tm,bx,nx,lg⟩ K3 ⟨⟩:=by
 show JP P t _ _ _ _;unfold JP;simp only[hl,hle,hx];exact ⟨hz,hk,h1,hxl,hm,h63,hby,fun c h1 h2=>hK c h1 (by unfold maxLen at h2;omega)⟩
theorem uZ {m:Nat} {z:List Value} (hl:lay P t=some ⟨.slice e,s1,b1,z1⟩) (hle:lay P e=some ⟨kd,k,by',some z⟩) (hx:d.xs? k bx=some (m,xs)) (hz:z.length=k) (hk:0<k) (h1:(z.all Value.oneCell')=true) (hxl:xs.length=m*k) (h63:m<=9223372036854775807) (hby:m*by'<=140737488355328)
  (h0:m=0->K3 (.tight k []) ⟨tm,bx,nx,lg⟩) (hK:0<m->∀ cap,m<=cap->cap<=9223372036854775807->K3 (.bs bx.length 0 k m cap) ⟨tm,bx++[xs++List.replicate ((cap-m)*k) .any],nx,lg⟩):UW P t (.tight k []) d ⟨tm,bx,nx,lg⟩ K3 ⟨⟩:=by
 show JP P t _ _ _ _;unfold JP;simp only[hl,hle,hx];exact ⟨hz,hk,h1,hxl,trivial,h63,hby,h0,fun hm c h1 h2=>hK hm c h1 (by unfold maxLen at h2;omega)⟩
theorem QZ {m:Nat} {z:List Value} (hl:lay P t=some ⟨.slice e,s1,b1,z1⟩) (hle:lay P e=some ⟨kd,k,by',some z⟩) (hx:d.xs? k bx=some (m,xs)) (hz:z.length=k) (hk:0<k) (h1:(z.all Value.oneCell')=true) (hxl:xs.length=m*k)
  (hb:bx[i]?=some cs) (hfit:off+cap*k<=cs.length) (hn:n<=cap) (h63:n+m<=9223372036854775807) (hby:(n+m)*by'<=140737488355328)
  (hK1:n+m<=cap->K3 (.bs i off k (n+m) cap) ⟨tm,bx.set i (spl cs (off+n*k) xs),nx,lg⟩)
  (hK2:cap<n+m->∀ c',n+m<=c'->c'<=9223372036854775807->K3 (.bs bx.length 0 k (n+m) c') ⟨tm,bx++[(cs.drop off).take (n*k)++xs++List.replicate ((c'-(n+m))*k) .any],nx,lg⟩):UW P t (.bs i off k n cap) d ⟨tm,bx,nx,lg⟩ K3 ⟨⟩:=by
 show JP P t _ _ _ _;unfold JP;simp only[hl,hle,hx,hb];exact ⟨hz,hk,h1,hxl,trivial,hfit,hn,h63,hby,hK1,fun h c h1 h2=>hK2 h c h1 (by unfold maxLen at h2;omega)⟩
theorem ze8 {tn s2 b2:Nat} {kn kq:IntKind} {z:List Value} {q:Int} (hl:lay P t=some ⟨.slice e,s1,b1,z1⟩) (hln:lay P tn=some ⟨.int kn,s2,b2,z2⟩) (hle:lay P e=some ⟨kd,k,by',some z⟩) (hz:z.length=k) (hk:0<k) (h1:(z.all Value.oneCell')=true)
  (hq:0<q) (h63:q<=9223372036854775807) (hby:q*by'<=140737488355328) (hK:∀ c',q.toNat<=c'->c'<=maxLen->K3 (.bs bx.length 0 k q.toNat c') ⟨tm,bx++[(List.replicate q.toNat (z.map zC)).flatten++List.replicate ((c'-q.toNat)*k) .any],nx,lg⟩) :
  zbo P t tn (.sc (.slice none 0 0)) (.sc (.int kq q)) ⟨tm,bx,nx,lg⟩ K3 ⟨⟩:=by
 show GV P t tn _ _ _ _;unfold GV;simp only[hl,hln,hle];exact ⟨hz,hk,h1,hq,h63,hby,hK⟩
theorem ztJ {tn s2 b2:Nat} {kn kq:IntKind} {z:List Value} {q:Int} (hl:lay P t=some ⟨.slice e,s1,b1,z1⟩) (hln:lay P tn=some ⟨.int kn,s2,b2,z2⟩) (hle:lay P e=some ⟨kd,k,by',some z⟩) (hz:z.length=k) (hk:0<k) (h1:(z.all Value.oneCell')=true)
  (hb:bx[i]?=some cs) (hfit:off+cap*k<=cs.length) (hn:n<=cap) (hq:0<q) (h63:(n:Int)+q<=9223372036854775807) (hby:((n:Int)+q)*by'<=140737488355328) (hg:(cap:Int)<n+q)
  (hK:∀ c',n+q.toNat<=c'->c'<=9223372036854775807->K3 (.bs bx.length 0 k (n+q.toNat) c') ⟨tm,bx++[(cs.drop off).take (n*k)++(List.replicate q.toNat (z.map zC)).flatten++List.replicate ((c'-(n+q.toNat))*k) .any],nx,lg⟩):zbo P t tn (.bs i off k n cap) (.sc (.int kq q)) ⟨tm,bx,nx,lg⟩ K3 ⟨⟩:=by
 show GV P t tn _ _ _ _;unfold GV;simp only[hl,hln,hle,hb];exact ⟨hz,hk,h1,trivial,hfit,hn,hq,h63,hby,hg,fun c h1 h2=>hK c h1 (by unfold maxLen at h2;omega)⟩
def opB (P:Program) (fn:Func) (code:Code) (b:Nat->List Bool):Bool:=P.follows .mixedOrders&&(!(fn.name == "runtime.NumGoroutine")&&jX fn.ntmps b code)
theorem zoM {b:Nat->List Bool} (h:opB P fn code b=true):P.follows .mixedOrders=true:=(A3.1 h).1
theorem zpJ {b:Nat->List Bool} (h:opB P fn code b=true):(fn.name == "runtime.NumGoroutine")=false:=by
 have:=(A3.1 (A3.1 h).2).1;simpa using this
theorem zo2 {b:Nat->List Bool} (h:opB P fn code b=true):jX fn.ntmps b code=true:=(A3.1 (A3.1 h).2).2
theorem foF {r:C} (b:Nat->List Bool) (hf:P.funcs[f]?=some fn)
  (h:VO P G ⟨0,none,b⟩ code (MS P fn.results.toList (fun c σ=>∃ (fr:Fr) (src:Src),zdq fr σ.bx/\QU src=true/\src.length=n/\CLe src 0 (c.fy σ.nx fr σ.bx) r) ⟨⟩) ⟨UD 0 args,[],0,0⟩ ⟨⟩ ⟨⟩) (hb:fn.body=some code:=by rfl) (hN:args.length<=fn.ntmps:=by exact zit rfl) (ho:opB P fn code b=true:=by kernel_rfl):Fun P G f args r n:=Fun.of_awpF b (zoM ho) hf hb (zpJ ho) hN (zo2 ho) h
theorem foX {bx:List (List C)} (b:Nat->List Bool) (hf:P.funcs[f]?=some fn)
  (h:VO P G ⟨bx.length,none,b⟩ code (MS P fn.results.toList (fun c σ=>∃ r bx' n,(post r bx' n/\bx.length<=bx'.length)/\∃ src:Src,QU src=true/\src.length=n/\zd src bx'.length σ.bx bx'/\CLe src bx'.length c r) ⟨⟩) ⟨UD 0 args,bx,q,0⟩ ⟨⟩ ⟨⟩) (hb:fn.body=some code:=by rfl) (hN:args.length<=fn.ntmps:=by exact zit rfl) (ho:opB P fn code b=true:=by kernel_rfl):Y8 P G f args bx q post:=Y8.of_awp b (zoM ho) hf hb (zpJ ho) hN (zo2 ho) h
theorem MO {r:C} (gargs:List C) (hf:Fun P G f gargs r n) (hr:r.freshB=true) (hl:Ju bx args gargs) (hK:K3 (r.sh nx) ⟨tm,bx,nx+n,lg⟩):Zg P G f args fargs ⟨tm,bx,nx,lg⟩ K3 ⟨⟩:=.inr <| .inr <| .inl ⟨gargs,r,n,hl,hf,hr,hK⟩
theorem call {r:C} (hf:Fun P G f fargs r n) (hK:K3 (r.sh nx) ⟨tm,bx,nx+n,lg⟩):Zg P G f args fargs ⟨tm,bx,nx,lg⟩ K3 ⟨⟩:=.inl ⟨r,n,hf,hK⟩
theorem zcq {r:C} (hf:Fun P G f args r n) (hK:K2 (r.sh nx) (nx+n)):uj P G f args nx K2 ⟨⟩:=zbf.mk hf hK
theorem Fun.less {args':List C} {r:C} (hf:Fun P G f args' r n) (hl:zf [] 0 args args'):Fun P G f args r n:=⟨hf.1,fun R vs hg ha=>hf.2 R vs hg (by
 have:=zy.less _ _ _ hl ha;refine zy.ext (Ext.refl R) ⟨fun i b hb=>?_,fun id x hx=>?_⟩ _ _ this
 ·simp at hb
 ·have hx:Vj [] zJ.T id=some x:=hx;simp[Vj]at hx)⟩
theorem Xp {a1:List C} {fbx':List (List C)} {r:C} (ι κ:List Nat) (hf:yc P G f a1 fbx q r fbx' n) (hq:κ.length=q) (hι:ι.Nodup) (hκ:κ.Nodup) (hb:∀ i∈ι,i<bx.length)
  (ha:C.reL (XV ι) (XV κ) args=a1) (hx:(ι.map fun i=>C.reL (XV ι) (XV κ) (bx.getD i []))=fbx) (hK:K3 (r.re (upB ι bx.length) (upO nx)) (ZF ι κ fbx' n ⟨tm,bx,nx,lg⟩)):Zg P G f args fargs ⟨tm,bx,nx,lg⟩ K3 ⟨⟩:=
 .inr <| .inl ⟨ι,κ,r,fbx',n,hι,hκ,hb,by rw[ha,hq];exact hx▸hf,hK⟩
theorem range {A B:Nat->(Exit->St->Prop)->St->Prop} {ps:List Tmp} {first cap first' cap':List C} {bx':List (List C)} (items:List (List C)) (sf:Nat->Bool) (m:Nat) (I:Nat->St) (hit:yD P G f first' cap' bx' items) (e1:C.selL (Xn m) first=first') (e2:C.selL (Xn m) cap=cap') (e3:(bx.drop m).map (C.selL (Xn m))=bx')
  (hp:p<=m) (hm:m<=bx.length) (hlen:∀ it∈items,it.length=ps.length) (hI:∀ k,k<=items.length->(I k).bx.length=m) (hw:JM m ⟨[],bx,nx,lg⟩ ((I 0).wt []))
  (hbody:∀ k it,items[k]?=some it->(∀ j,j<k->sf j=false)->A m (zlL (B m (yR m (Hz m tm) (sf k) (I (k+1)) Q ⟨⟩ ⟨⟩)) ⟨⟩) ((I k).wt (Vx ps it (Hz m tm))))
  (hdone:(∀ j,j<items.length->sf j=false)->Q .normal ((I items.length).wt (Hz m tm))):zex P G p A B Q ps (.clo (.func f) first cap) ⟨tm,bx,nx,lg⟩ ⟨⟩ ⟨⟩ ⟨⟩:=
 ⟨items,sf,m,I,hp,hm,by rw[e1,e2];exact e3▸hit,hlen,hI,hw,hbody,hdone⟩
theorem loop {B:(Exit->St->Prop)->St->Prop} {ι:Type} (I:ι->St) (ok:ι->Prop) (μ:ι->Nat) (i0:ι) (h0:ok i0) (hw:JM p σ (I i0))
  (hr:∀ i,ok i->B (zaX (fun σ'=>∃ j,ok j/\μ j<μ i/\JM p σ' (I j)) Q ⟨⟩ ⟨⟩) (I i)):zlF p B Q σ ⟨⟩ ⟨⟩:=⟨ι,I,ok,μ,i0,h0,hw,hr⟩
theorem fof {r:C} (b:Nat->List Bool) (hf:P.funcs[f]?=some fn)
  (h:VO P G ⟨0,none,b⟩ code (MS P fn.results.toList (fun c σ=>∃ src:Src,QU src=true/\src.length=n/\CLe src 0 (c.fz σ.bx) r) ⟨⟩) ⟨UD 0 args,[],0,0⟩ ⟨⟩ ⟨⟩) (hb:fn.body=some code:=by rfl) (hN:args.length<=fn.ntmps:=by exact zit rfl) (ho:opB P fn code b=true:=by kernel_rfl):Fun P G f args r n:=Fun.of_awp b (zoM ho) hf hb (zpJ ho) hN (zo2 ho) h
theorem fon {r:C} (hf:P.funcs[f]?=some fn)
  (h:VO P G ⟨0,none,fun _=>[]⟩ code (MS P fn.results.toList (fun c σ=>∃ src:Src,QU src=true/\src.length=n/\CLe src 0 (c.fz σ.bx) r) ⟨⟩) ⟨UD 0 args,[],0,0⟩ ⟨⟩ ⟨⟩) (hb:fn.body=some code:=by rfl) (hN:args.length<=fn.ntmps:=by exact zit rfl) (ho:opB P fn code (fun _=>[])=true:=by kernel_rfl):Fun P G f args r n:=fof _ hf h hb hN ho
theorem foB {bx bx':List (List C)} {r:C} (b:Nat->List Bool) (hf:P.funcs[f]?=some fn)
  (h:VO P G ⟨bx.length,none,b⟩ code (MS P fn.results.toList (fun c σ=>∃ src:Src,QU src=true/\src.length=n/\zd src bx'.length σ.bx bx'/\CLe src bx'.length c r) ⟨⟩) ⟨UD 0 args,bx,q,0⟩ ⟨⟩ ⟨⟩) (hb:fn.body=some code:=by rfl) (hN:args.length<=fn.ntmps:=by exact zit rfl) (ho:opB P fn code b=true:=by kernel_rfl) (hlen:bx.length<=bx'.length:=by exact zit rfl):yc P G f args bx q r bx' n:=yc.of_awp b (zoM ho) hf hb (zpJ ho) hN (zo2 ho) hlen h
theorem foI {first cap:List C} {bx items:List (List C)} (b:Nat->List Bool) (hf:P.funcs[f]?=some fn)
  (h:∀ (l:Nat) (sf:Nat->Bool),VO P G ⟨0,some ⟨l,items,sf⟩,b⟩ code (MS P fn.results.toList (fun c σ=>zmx items sf σ.lg) ⟨⟩) ⟨UD 0 (first++[.sc (.func (.yield l) #[] #[])]++cap),bx,0,0⟩ ⟨⟩ ⟨⟩) (hb:fn.body=some code:=by rfl) (hN:first.length+1+cap.length<=fn.ntmps:=by exact zit rfl) (ho:opB P fn code b=true:=by kernel_rfl):yD P G f first cap bx items:=yD.of_awp b (zoM ho) hf hb (zpJ ho) hN (zo2 ho) h
theorem zsQ {m:Nat} {z1:List Value} (A:List C) (hbx:bx[i]?=some cs) (h1:z1.length=k) (h2:0<k) (h3:(z1.all Value.oneCell')=true) (h4:0<m) (hp:p<=i) (hl:cs.length=cap*k) (hn:n<=cap) (hc:cap<=9223372036854775807)
  (h5:n+m<=9223372036854775807) (h6:(n+m)*b<=140737488355328) (hA:C.reL (Yg i) some (cs.take (n*k)++xs)=A)
  (hK:∀ c',n+m<=c'->c'<=9223372036854775807->K3 (.bs i 0 k (n+m) c') ⟨Gh (Yg i) some tm,ZB i (A++List.replicate ((c'-(n+m))*k) .any) bx,nx,lg⟩):zo7 (some (m,xs)) p k b z1 (.bs i 0 k n cap) ⟨tm,bx,nx,lg⟩ K3 ⟨⟩:=by
 refine ⟨h1,h2,h3,h4,?_⟩;simp only[hbx];exact ⟨trivial,hp,hl,hn,hc,h5,h6,fun c' q1 q2=>by rw[hA];exact hK c' q1 (by unfold maxLen at q2;omega)⟩
theorem zcG (k:Nat):((k:Int)+1).toNat=k+1:=by omega
theorem zj2.mk {B:(Exit->St->Prop)->St->Prop} {ι:Type} (I:ι->St) (ok:ι->Prop) (μ:ι->Nat) (i0:ι) (h0:ok i0) (hw:JM p σ (I i0))
  (hr:∀ i,ok i->B (zm5 (fun σ'=>∃ j,ok j/\μ j<μ i/\JM p σ' (I j)) Q) (I i)):zj2 p B Q σ:=⟨ι,I,ok,μ,i0,h0,hw,hr⟩
end
attribute [push_cast] zmk eq_self iff_self List.append_eq zrI ztU ztH ztM zrL zsf zrJ zr3 zdg zrO zl0 zjV zoe zl2 zlX zlY zos zqG zot zjt zqw zpf zrw zpY zp0 zoj zop zpp zog zq8 zqJ znr zsW zpy zlP zqQ zr9 zsH zpb znx zo0 zj9 zmR zkK zdP ziw ziD zjH zgq zgo zgm zii zp4 zpK zqN zp7 zgc vB ztg ziu zlS zl5 zqd zrv ui zcJ zgG xF MR vi zbK xR zkh vU zch zod zmo zpu zq4 zpV zpC zpi zpE znY zrr zh3 zi9 zh5 ziG zj8 zmA zqU zoS zma zlM zdF zdk uI uH HL HC N5 zpc zlW zjc zkw zb5 zcl zkG ziW zgM zgw zij zi0 Mr M8 zgb zer zhZ zkx y6 Mq zfh zeq Mb GZ zeU zg3 Ni NE zf3 zfB uL vc zeR zgC zmp zmX uu zpX znX zc9 zoY zkV zcU zqb zcs zih zjn zgg zlQ zsj zkA ze9 zdD zhQ znO zhd zi6 zci zeh yY ue zqs vx yj vE NF uX uU MV zd3 zec zdm zfW xZ zhw xa zev zcX zgh zdz zkF zkW znK zfu zg4 zgS zfJ zf9 zea zeT zho zg1 zfA zgj zgN zfD ze2 zc8 zie zfz zsg zfL zpR zeu zsF zrN zcH zeK zdK zcK zdB zmU NH zdr uz zb1 xS xV zn3 zj1 zdY ztj zsx zkR zkb ztF zcf zdw zgp zgs zcn zbB yW zdo zgZ zfr zks zjm zia zky zjq zt1 zrH zsa zsR ztQ zsU zsO zmg zpw znf znu zi7 zm0 zrm zqE zbU zc6 zdt zoJ ztD zmw ztq zrX zpz zt4 zsJ zdi zfd zkB zdn zq1 zpM ziZ zkM zkp zbL zbZ zdp zfg zc3 zo5 zbJ zkg zi8 zdS zeQ zkn zha zeD zqv zpT zmL ziK ztY zm3 zoR zok zsM zr4 zts zsy zsK zss zsC zrp zqF ztE zr0 zrM zeB zfk zqY zsr zsS zqh zp8 zsq zsT zsz zms zl4 zj0 zqP zsV zsA zlR zri znI zql zkT ziQ zkX zlZ ziA zh9 znQ zrK zrP zsY zsG ziT zmd zl8 zhO zjp zib zkE zmI zol uh zhr ziV ziv zjh zjL znG znP zmH zmM zcB zpH zdb zfP zf7 zkk zh6 zkr zl1 ziy ziI zgy znb zkP zdj zh2 zgf zjI zmv zjP znJ zkL zjQ zj7 znC zdy zjx zkD zgV zmc zme zlV zoc znF zmS zmW ziB zjr zki zjS zd2 zdc zhq zfY zb0 y5 zin ziU zjG zgK zdI ziq zk1 ze5 zde zhs zhp zb3 yU zjv zjj zjN zeG zbI zi1 zix zjk zed zcc zb2 zqq zbG zpj un uf yT zc2 zcY zda yV uG ug y7 vM vf zcF zcR zcr yP ua zgF zcM vt xt znL znm zou zqx zgi zcP
attribute [push_cast] Int.ofNat_eq_natCast Bool.not_false Bool.not_true Bool.true_beq Bool.false_beq beq_self_eq_true Bool.true_and zoa zmj zqp zoi zn9 List.map_cons List.map_nil List.getElem?_cons_zero List.getElem?_cons_succ List.getElem?_toArray List.getElem?_nil List.drop_zero List.drop_succ_cons List.drop_nil List.take_succ_cons List.take_zero List.take_nil List.length_cons List.length_nil List.getD_cons_zero List.getD_cons_succ List.set_cons_zero List.set_cons_succ List.cons_append List.nil_append List.append_nil List.all_cons List.all_nil List.tail_cons List.tail_nil List.headD_cons List.headD_nil List.flatten_cons List.flatten_nil List.replicate_succ List.replicate_zero Bool.and_self Bool.and_true Bool.true_and Bool.not_true Bool.not_false Option.bind_some Option.map_some Option.map_none if_true if_false true_and and_true and_self decide_true decide_false Int.ofNat_le Int.ofNat_lt Int.natCast_inj zcG Int.toNat_natCast Nat.zero_add Nat.add_zero List.toList_toArray Int.add_zero Int.zero_add Bool.not_not Int.sub_zero Int.natCast_pos Nat.sub_zero Int.cast_ofNat_Int Nat.one_mul Nat.mul_one
theorem dn {p q r:Src->Prop} (c:r []:=by push_cast [ze,zd,CLe,zf]) (a:p []:=by rfl) (b:q []:=by rfl):∃ s,p s/\q s/\r s:=⟨[],a,b,c⟩
theorem wks {p:Nat} {σ σ':St} (src:Src) (h4:ze src σ'.bx.length σ.tm σ'.tm:=by push_cast [ze,zd,CLe,zf]) (h5:zd src σ'.bx.length σ.bx σ'.bx:=by push_cast [ze,zd,CLe,zf]) (h1:QU src=true:=by rfl) (h2:src.length=σ'.nx:=by rfl)
  (h3:p<=σ'.bx.length:=by first | exact Wc _ | exact Wb _ | exact zit rfl) (h0:σ'.lg=σ.lg:=by rfl):JM p σ σ':=⟨src,h1,h2,h3,h0,h4,h5⟩
theorem wk {p:Nat} {σ σ':St} (h4:ze [] σ'.bx.length σ.tm σ'.tm:=by push_cast [ze,zd,CLe,zf]) (h5:zd [] σ'.bx.length σ.bx σ'.bx:=by push_cast [ze,zd,CLe,zf]) (h2:([]:Src).length=σ'.nx:=by rfl)
  (h3:p<=σ'.bx.length:=by first | exact Wc _ | exact Wb _ | exact zit rfl) (h0:σ'.lg=σ.lg:=by rfl):JM p σ σ':=⟨[],rfl,h2,h3,h0,h4,h5⟩
theorem an {a b:Prop} (k:b) (h:a:=by first | omega | (simp only[lS];omega)):a/\b:=⟨h,k⟩
namespace CA
theorem cl {P:Program} {G:zp} {f:FuncId} {args fargs:List C} {r:C} {n nx lg:Nat} {tm:List (Nat×C)} {bx:List (List C)} {K3:C->St->Prop} (hf:Fun P G f fargs r n) (hK:K3 (r.sh nx) ⟨tm,bx,nx+n,lg⟩):Zg P G f args fargs ⟨tm,bx,nx,lg⟩ K3 ⟨⟩:=call hf hK
end CA
namespace CB
theorem cl {P:Program} {G:zp} {f:FuncId} {args:List C} {r:C} {n nx:Nat} {K2:C->Nat->Prop} (hf:Fun P G f args r n) (hK:K2 (r.sh nx) (nx+n)):uj P G f args nx K2 ⟨⟩:=zcq hf hK
end CB
end
section
open Go.RowKit
def C.stayB:C->Bool
 | .sc _ | .str _ | .sl _ _ | .tight _ _ | .row _ | .any=>true
 | _=>false
theorem zkH {c:C} (h:c.stayB=true):c.frz=c:=by cases c<;>simp[C.stayB]at h<;>simp[C.frz]
theorem znj {c:C} {fp fo:Nat->Option Nat} (h:c.stayB=true):c.re fp fo=c:=by cases c<;>simp[C.stayB]at h<;>simp[C.re]
theorem zmq {c:C} {src:Src} {n:Nat} (h:c.stayB=true):CLe src n c c:=by cases c<;>simp[C.stayB]at h<;>simp[CLe]
theorem kD:∀ {cs:List C},(cs.all C.stayB)=true->C.frzL cs=cs
 | [],_=>by simp[C.frzL]
 | c :: r,h=>by
  simp only[AX,Wt]at h;rw[C.frzL,zkH h.1,kD h.2]
theorem zD {fp fo:Nat->Option Nat}:∀ {cs:List C},(cs.all C.stayB)=true->C.reL fp fo cs=cs
 | [],_=>by simp[C.reL]
 | c :: r,h=>by
  simp only[AX,Wt]at h;rw[C.reL,znj h.1,zD h.2]
theorem zT {src:Src} {n:Nat}:∀ {cs:List C},(cs.all C.stayB)=true->zf src n cs cs
 | [],_=>by simp[zf]
 | c :: r,h=>by
  simp only[AX,Wt]at h;rw[zf];exact ⟨zmq h.1,zT h.2⟩
theorem zon {src:Src} {n:Nat} (c:C):CLe src n c .any:=by cases c<;>simp[CLe]
theorem XC {src:Src} {n:Nat}:∀ {cs:List C} {m:Nat},cs.length=m->zf src n cs (List.replicate m .any)
 | [],_,h=>by subst h;simp[zf]
 | c :: r,_,h=>by
  subst h;rw[Wg,AT,zf];exact ⟨zon c,XC rfl⟩
theorem zgv {src:Src} {n:Nat}:∀ {a b c d:List C},zf src n a c->zf src n b d->zf src n (a++b) (c++d)
 | [],b,[],d,_,h=>h
 | [],b,x :: c,d,h,_=>by simp[zf]at h
 | x :: a,b,[],d,h,_=>by simp[zf]at h
 | x :: a,b,y :: c,d,h,h'=>by
  rw[Oh,Oh,zf];rw[zf]at h;exact ⟨h.1,zgv h.2 h'⟩
def qA (k:Nat) (rows:List (List C)) (c:Nat):List C:=rows.flatten++List.replicate ((c-rows.length)*k) .any
theorem zK {k:Nat}:∀ {rows:List (List C)},(∀ r∈rows,r.length=k)->rows.flatten.length=rows.length*k
 | [],_=>by simp
 | r :: rs,h=>by
  rw[OU,Wj,h r Wk,zK fun x hx=>h x (Wl _ hx),Wg,AV,Nat.add_comm]
theorem JG {k c:Nat} {rows:List (List C)} (h:∀ r∈rows,r.length=k) (hc:rows.length<=c):(qA k rows c).length=c*k:=by
 unfold qA;rw[Wj,zK h,Ad,←Oq];congr 1;omega
abbrev jl (rows:List (List C)):Prop:=∀ r∈rows,(r.all C.stayB)=true
theorem Y9 {rows:List (List C)} (h:jl rows):(rows.flatten.all C.stayB)=true:=by
 rw[WC];intro c hc;obtain ⟨r,hr,hc⟩:=List.mem_flatten.1 hc;exact WC.1 (h r hr) c hc
theorem zG {k c:Nat} {rows:List (List C)} (h:jl rows):((qA k rows c).all C.stayB)=true:=by
 unfold qA;rw[O0,Y9 h,Ol,WC];intro c hc;obtain ⟨_,rfl⟩:=List.mem_replicate.1 hc
 rfl
theorem ZV {k n:Nat}:∀ {rows:List (List C)},(∀ r∈rows,r.length=k)->rows.flatten.take (n*k)=(rows.take n).flatten:=by
 induction n with
 | zero=>intro rows _;simp
 | succ n ih =>
  intro rows h;cases rows with
  | nil=>simp
  | cons r rs =>
   have hr:=h r Wk;rw[AH,OU,OU,Ax,Wh (by rw[hr,AV];omega),hr,show (n+1)*k-k=n*k by rw[AV];omega,ih fun x hx=>h x (Wl _ hx)]
theorem Hb {k n:Nat}:∀ {rows:List (List C)},(∀ r∈rows,r.length=k)->rows.flatten.drop (n*k)=(rows.drop n).flatten:=by
 induction n with
 | zero=>intro rows _;simp
 | succ n ih =>
  intro rows h;cases rows with
  | nil=>simp
  | cons r rs =>
   have hr:=h r Wk;rw[A9,OU,List.drop_append,OM (by rw[hr,AV];omega),hr,OB,show (n+1)*k-k=n*k by rw[AV];omega,ih fun x hx=>h x (Wl _ hx)]
theorem Jz {src:Src} {m k c:Nat} {rows:List (List C)} {cs:List C} (hk:∀ r∈rows,r.length=k) (hs:jl rows) (hc:rows.length<=c) (hl:cs.length=c*k) (ht:cs.take (rows.length*k)=rows.flatten):zf src m cs (qA k rows c):=by
 have h1:cs=rows.flatten++cs.drop (rows.length*k):=by rw[←ht,Og]
 rw[h1];unfold qA;refine zgv (zT (Y9 hs)) (XC ?_);rw[WZ,hl,←Nat.sub_mul]
theorem Zq {cs xs:List C} {p:Nat} (h:p+xs.length<=cs.length):(spl cs p xs).length=cs.length:=by
 simp[spl];omega
theorem Hu {cs L X:List C} {p q:Nat} (hp:p<=L.length) (hq:q=p+X.length) (hL:cs.take L.length=L) (hc:L.length+X.length<=cs.length) :
  (spl (spl cs q (L.drop p)) p X).take (L.length+X.length)=L.take p++(X++L.drop p):=by
 subst hq;apply O3;intro j;have hcur:∀ j,j<L.length->cs[j]?=L[j]?:=fun j hj=>by
  have h:=WA (fun l=>l[j]?) hL;simp only[WJ,if_pos hj]at h;exact h
 simp only[spl,WJ,BI,W4,W6,Wj,WZ]
 repeat' (first | split | omega)
 all_goals (first | rfl | omega | exact (W0 (by omega)).symm | (congr 1;omega) | (rw[hcur _ (by omega)];first | done | (congr 1;omega)) | (symm;rw[W0];simp;omega) | (rw[W0];simp;omega) | skip)
theorem G5 {cs L X:List C} {p q:Nat} (hp:p<=L.length) (hq:q=p+X.length) (hL:cs.take p=L.take p) (hc:L.length+X.length<=cs.length) :
  (spl (spl cs p X) q (L.drop p)).take (L.length+X.length)=L.take p++(X++L.drop p):=by
 subst hq;apply O3;intro j;have hcur:∀ j,j<p->cs[j]?=L[j]?:=fun j hj=>by
  have h:=WA (fun l=>l[j]?) hL;simp only[WJ,if_pos hj]at h;exact h
 simp only[spl,WJ,BI,W4,W6,Wj,WZ]
 repeat' (first | split | omega)
 all_goals (first | rfl | omega | exact (W0 (by omega)).symm | (congr 1;omega) | (rw[hcur _ (by omega)];first | done | (congr 1;omega)) | (symm;rw[W0];simp;omega) | (rw[W0];simp;omega) | skip)
theorem zoh {cs L Z:List C} {p q n:Nat} (hq:q<=L.length) (hpq:p<=q) (hL:cs.take L.length=L) (hn:n=p+(L.length-q)) (hc:L.length<=cs.length) (hz:n+Z.length<=cs.length) :
  (spl (spl cs p (L.drop q)) n Z).take n=L.take p++L.drop q:=by
 subst hn;apply O3;intro j;have hcur:∀ j,j<L.length->cs[j]?=L[j]?:=fun j hj=>by
  have h:=WA (fun l=>l[j]?) hL;simp only[WJ,if_pos hj]at h;exact h
 simp only[spl,WJ,BI,W4,W6,Wj,WZ]
 repeat' (first | split | omega)
 all_goals (first | rfl | omega | exact (W0 (by omega)).symm | (congr 1;omega) | (rw[hcur _ (by omega)];first | done | (congr 1;omega)) | (symm;rw[W0];simp;omega) | (rw[W0];simp;omega) | skip)
theorem vS {P:Program} {f:FuncId} {fn:Func} {t e tR:TypeId} {s1 b1 k by':Nat} {kd:LK} {z1 z:Option (List Value)} (hf:P.funcs[f]?=some fn) (hname:(fn.name == "runtime.NumGoroutine")=false) (hb:fn.body.isNone=true) (hn:Extern.findNext fn=none)
  (he:Extern.find fn=some (Extern.SlicesOverlaps.overlaps #[t,t] #[tR])) (hl:lay P t=some ⟨.slice e,s1,b1,z1⟩) (hle:lay P e=some ⟨kd,k,by',z⟩) {id e' k' i off n c:Nat} {rows bx:List (List C)} {cs:List C} (hbx:bx[i]?=some cs) (hcs:cs≠[]) (hrows:rows≠[]) (hn0:0<n) :
  zsi P f [.own id e' k' rows,.bs i off k n c] bx (.sc (.bool false)):=by
 intro B R L vs hB hO hr;obtain ⟨v1,us,rfl,h1,hr⟩:=zh.1 hr;obtain ⟨v2,us,rfl,h2,hr⟩:=zh.1 hr;rw[zl]at hr;subst hr;refine ⟨.bool false,?_,zq.2 rfl⟩;rw[run_callFunc_extern hf hname hb hn he];have ht:=qg hl rfl;have hz:∀ w,(Go.sizeOf e).run P w = .ok k w:=fun w=>qQ hle w;obtain ⟨hT,a,cap,hv1,_⟩:=Y3.1 h1;obtain ⟨b,hbi,ad,rfl,had⟩:=jx.1 h2;obtain ⟨us,ty,e1,e2,e3,e4⟩:=hB.box i b cs hbi hbx;have hsz:us.size≠0:=by
  have:=zA e2;simp only[WW]at this;rw[this];exact fun h=>hcs (WO h)
 rcases hO.own id e' k' v1 hT with hnil | ⟨g,n',cap',cur,ty',q1,q2,q3,q4,q5,q6,q7,q8⟩ | ⟨_,_,_,_,hmap,_⟩
 rotate_right
 ·rw[hv1]at hmap;unfold k8 at hmap;cases hmap
 ·rw[hnil]at hv1;obtain ⟨_,h0,_⟩:=Value.slice.inj hv1;exact absurd (WO h0.symm) hrows
 ·rw[q1];obtain rfl:=had (by omega);have hne:g≠b:=fun h=>q7 (h▸Wf hbi);rw[Lib.run_overlaps_apart R.w t tR e ht k hz ⟨g,0,none⟩ ⟨b,off,none⟩ n' cap' n c hne ty' ty cur.size us.size (by simp[World.shape?,q3]) (by simp[World.shape?,e1]) hsz (frozen_of_row R.w g 0 _ _ q3) (frozen_of_row R.w g _ _ _ q3)]
  rfl
theorem V6 {m k:Nat} {z:List C} (hz:z.length=k):(List.replicate m z).flatten.length=m*k:=by
 have h:=zK (k:=k) (rows:=List.replicate m z) fun r hr=>by rw[(List.mem_replicate.1 hr).2];exact hz
 rw[h,Ad]
section
variable {P:Program} {t tn e s1 b1 s2 b2 k by' m i off n cap nx lg:Nat} {kd:LK} {kn kq:IntKind} {z1 z2 z3:Option (List Value)} {z:List Value} {cs xs:List C} {bx:List (List C)} {tm:List (Nat×C)} {d:C} {q:Int} {K3:C->St->Prop}
theorem zmn (hl:lay P t=some ⟨.slice e,s1,b1,z1⟩) (hln:lay P tn=some ⟨.int kn,s2,b2,z2⟩) (hle:lay P e=some ⟨kd,k,by',some z⟩) (hz:z.length=k) (hk:0<k) (h1:(z.all Value.oneCell')=true)
  (hb:bx[i]?=some cs) (hfit:off+cap*k<=cs.length) (hn:n<=cap) (hq:0<q) (h63:(n:Int)+q<=9223372036854775807) (hby:((n:Int)+q)*by'<=140737488355328) (hg:(cap:Int)<n+q)
  (hK:∀ c' B,n+q.toNat<=c'->c'<=9223372036854775807->B.length=c'*k->B.take (n*k)=(cs.drop off).take (n*k)->K3 (.bs bx.length 0 k (n+q.toNat) c') ⟨tm,bx++[B],nx,lg⟩):zbo P t tn (.bs i off k n cap) (.sc (.int kq q)) ⟨tm,bx,nx,lg⟩ K3 ⟨⟩:=by
 have hnk:n*k<=cap*k:=WS _ hn;refine ztJ hl hln hle hz hk h1 hb hfit hn hq h63 hby hg fun c' g1 g2=>hK c' _ g1 g2 ?_ ?_
 ·rw[Wj,Wj,V6 (k:=k) (by simpa using hz),Ad,W6,WZ,OI (by omega),←Oq,←Oq];congr 1;omega
 ·rw[WT,OJ (by rw[W6,WZ];omega)]
theorem XR (hl:lay P t=some ⟨.slice e,s1,b1,z1⟩) (hle:lay P e=some ⟨kd,k,by',z3⟩) (hx:d.xs? k bx=some (m,xs)) (hb:bx[i]?=some cs) (hxl:xs.length=m*k) (hfit:off+n*k<=cs.length)
  (hK:∀ B,B=spl cs off (xs.take (min m n*k))->B.length=cs.length->K3 (.sc (.int .i64 ((min m n:Nat):Int))) ⟨tm,bx.set i B,nx,lg⟩):MF P t (.bs i off k n cap) d ⟨tm,bx,nx,lg⟩ K3 ⟨⟩:=
 znD hl hle hx hb hxl hfit (hK _ rfl (by
  have h1:min m n*k<=n*k:=WS _ (Nat.min_le_right _ _);exact Zq (by rw[W6];omega)))
theorem znn (hl:lay P t=some ⟨.slice e,s1,b1,z1⟩) (hle:lay P e=some ⟨kd,k,by',some z⟩) (hb:bx[i]?=some cs) (hz:z.length=k) (hk:0<k) (h1:(z.all Value.oneCell')=true) (hfit:off+n*k<=cs.length)
  (hK:∀ B Z,B=spl cs off Z->Z.length=n*k->B.length=cs.length->K3 .any ⟨tm,bx.set i B,nx,lg⟩):vR P t (.bs i off k n cap) ⟨tm,bx,nx,lg⟩ K3 ⟨⟩:=by
 have hZ:(List.replicate n (z.map zC)).flatten.length=n*k:=V6 (by simpa using hz);exact zp3 hl hle hb hz hk h1 hfit (hK _ _ rfl hZ (Zq (by omega)))
end
theorem Hq {k i off n c:Nat} {bx:List (List C)} {cs:List C} (hb:bx[i]?=some cs) (h:off+n*k<=cs.length):C.xs? k bx (.bs i off k n c)=some (n,(cs.drop off).take (n*k)):=by
 simp[C.xs?,hb,h]
theorem XI {k c i:Nat} {rows:List (List C)} (hk:∀ r∈rows,r.length=k) (hi:i<=rows.length):((qA k rows c).drop (i*k)).take ((rows.length-i)*k)=rows.flatten.drop (i*k):=by
 have hf:=zK hk;have h1:i*k<=rows.length*k:=WS _ hi;unfold qA;rw[List.drop_append_of_le_length (by omega),OJ (by rw[WZ,hf,Nat.sub_mul])]
theorem QL {k i:Nat} {rows:List (List C)} {x:List C} (hk:∀ r∈rows,r.length=k):rows.flatten.take (i*k)++(x++rows.flatten.drop (i*k))=(rows.take i++x :: rows.drop i).flatten:=by
 rw[ZV hk,Hb hk];simp
theorem u6 {bx:List (List C)} {i e k c:Nat} {rows:List (List C)} {cs:List C} (hb:bx[i]?=some cs) (hc:0<c) (h1:rows.length<=c) (h2:c<=9223372036854775807) (hl:cs.length=c*k) (hk:∀ r∈rows,r.length=k) (hs:(cs.all C.stayB)=true) (ht:cs.take (rows.length*k)=rows.flatten) :
  zdq [(i,e,k,rows,c)] bx:=by
 refine ⟨by simp,fun x hx=>?_⟩;rw[Ob]at hx;subst hx;exact ⟨cs,hb,hc,h1,by unfold maxLen;exact h2,hl,hk,by rw[kD hs];exact ht⟩
theorem zhP {k c:Nat} {rows:List (List C)} (hk:∀ r∈rows,r.length=k):(qA k rows c).take (rows.length*k)=rows.flatten:=by
 unfold qA;rw[OJ (zK hk)]
theorem zB {bx:List (List C)} {i e k c:Nat} {rows:List (List C)} (hb:bx[i]?=some (qA k rows c)) (hc:0<c) (h1:rows.length<=c) (h2:c<=9223372036854775807) (hk:∀ r∈rows,r.length=k) (hs:jl rows):zdq [(i,e,k,rows,c)] bx:=
 u6 hb hc h1 h2 (JG hk h1) hk (zG hs) (zhP hk)
theorem zar {k c i:Nat} {rows:List (List C)} {row:List C} (hk:∀ r∈rows,r.length=k) (hr:row.length=k) (hi:i<rows.length):(qA k rows c).take (i*k)++row++(qA k rows c).drop (i*k+k)=qA k (rows.set i row) c:=by
 have hf:=zK hk;have h1:(i+1)*k<=rows.length*k:=WS _ hi;rw[AV]at h1;unfold qA;rw[OS (by omega),List.drop_append_of_le_length (by omega),←AV,ZV hk,Hb hk,Bq,←WT];congr 1;rw[List.set_eq_take_append_cons_drop,if_pos hi];simp
def RLe:List (List C)->List (List C)->Prop
 | [],[]=>True
 | a :: r,b :: s=>zf [] 0 a b/\RLe r s
 | _,_=>False
theorem RLe.len:∀ {a b:List (List C)},RLe a b->a.length=b.length
 | [],[],_=>rfl
 | _ :: r,_ :: s,h=>by rw[Wg,Wg,RLe.len h.2]
theorem zf.len {src:Src} {n:Nat}:∀ {a b:List C},zf src n a b->a.length=b.length
 | [],[],_=>rfl
 | [],_ :: _,h=>by simp[zf]at h
 | _ :: _,[],h=>by simp[zf]at h
 | _ :: r,_ :: s,h=>by
  rw[zf]at h;rw[Wg,Wg,zf.len h.2]
theorem zel {R:Env} {c d:C} {v:Value} (h:CLe [] 0 c d) (hr:Rep R zJ c v):Rep R zJ d v:=by
 refine Rep.ext (Ext.refl R) (T:=Jp [] 0 zJ) ⟨fun i b hb=>?_,fun id x hx=>?_⟩ _ _ (Rep.less _ _ _ h hr)
 ·simp at hb
 ·have hx:Vj [] zJ.T id=some x:=hx;simp[Vj]at hx
theorem UQ {R:Env} {b:Nat}:∀ {cs ds:List C} {o:Nat},zf [] 0 cs ds->zN R cs b o->zN R ds b o
 | [],[],_,_,h=>h
 | [],_ :: _,_,h,_=>by simp[zf]at h
 | _ :: _,[],_,h,_=>by simp[zf]at h
 | c :: r,d :: s,o,h,hr=>by
  rw[zf]at h;obtain ⟨⟨v,h1,h2,h3,h4⟩,h5⟩:=qo.1 hr;exact qo.2 ⟨⟨v,h1,h2,zel h.1 h3,h4⟩,UQ h.2 h5⟩
theorem Ge {R:Env} {k b:Nat}:∀ {a c:List (List C)} {o:Nat},RLe a c->zS R a k b o->zS R c k b o
 | [],[],_,_,h=>h
 | x :: r,y :: s,o,h,hr=>by
  unfold zS at hr ⊢;exact ⟨(zf.len h.1).symm.trans hr.1,UQ h.1 hr.2.1,Ge h.2 hr.2.2⟩
theorem zdd {R:Env} {L:Loc} {id e k:Nat} {a c:List (List C)} {v:Value} (h:RLe a c) (hr:Rep R L (.own id e k a) v):Rep R L (.own id e k c) v:=by
 obtain ⟨h1,ad,cap,h2,h3,h4,h5⟩:=Y3.1 hr;refine Y3.2 ⟨h1,ad,cap,by rw[h2,h.len],by rw[←h.len];exact h3,h4,?_⟩;rcases h5 with h5 | ⟨b,o,h5,h6⟩
 ·subst h5;have:=h.len;exact .inl (WO (by simpa using this.symm))
 ·exact .inr ⟨b,o,h5,Ge h h6⟩
theorem Fun.resX {P:Program} {G:zp} {f:FuncId} {args:List C} {r r':C} {n:Nat} (hf:Fun P G f args r n) (h:∀ R L v,Rep R L r v->Rep R L r' v):Fun P G f args r' n:=
 ⟨hf.1,fun R vs hg ha=>(hf.2 R vs hg ha).mono fun e w' ⟨v,R',L',h1,h2,h3,h4⟩=>⟨v,R',L',h1,h2,h3,h _ _ _ h4⟩⟩
theorem zbR {R:Env} {L:Loc} {cs ds:List C} {v:Value} (h:∀ vs,zy R L cs vs->zy R L ds vs) (hr:Rep R L (.agg cs) v):Rep R L (.agg ds) v:=by
 obtain ⟨vs,h1,h2⟩:=j7.1 hr;exact j7.2 ⟨vs,h1,h _ h2⟩
theorem YM {R:Env} {L:Loc} {c d:C} {cs ds:List C} {vs:List Value} (h:∀ v,Rep R L c v->Rep R L d v) (h':∀ vs,zy R L cs vs->zy R L ds vs) (hr:zy R L (c :: cs) vs):zy R L (d :: ds) vs:=by
 obtain ⟨v,us,rfl,h1,h2⟩:=zh.1 hr;exact zh.2 ⟨v,us,rfl,h _ h1,h' _ h2⟩
end
section
open Go.RowKit
def zhf (k:Nat) (rows:List (List C)) (r:C) (bx':List (List C)) (n:Nat):Prop:=
 n=0/\((rows≠[]/\∃ c,rows.length<=c/\c<=9223372036854775807/\r = .bs 1 0 k rows.length c/\bx' = [[],qA k rows c])∨(rows = []/\(r = .sc (.slice none 0 0)/\bx' = []∨r = .bs 0 0 k 0 0/\bx' = [[]])))
def zrx (k m:Nat) (ins:List (List C)) (r:C) (bx':List (List C)) (n:Nat):Prop:=
 n=0/\∃ c,ins.length<=c/\c<=9223372036854775807/\(r = .bs 0 0 k ins.length c/\bx' = [qA k ins c]∨r = .bs 1 0 k ins.length c/\bx' = [List.replicate m .any,qA k ins c])
section
variable {G:zp}
theorem QQ (rows:List (List C)) (hk:∀ r∈rows,r.length=6) (hs:jl rows) (hl:rows.length<=100000) :
  Y8 Tryz.prog G 237 [.sl 6 rows] [] 0 (zhf 6 rows):=by
 refine Y8.bySlice (fun h=>?_) (fun h a cap hr=>?_)
 ·refine foX (fun i=>if i=1000000+22 then [true,true] else []) Tryz.func237 ?_;dsimp only[Tryz.f237];push_cast;refine ⟨h,QZ Vs VH rfl rfl (by decide) rfl (zK hk) rfl (Wb _) (Wb _) (by omega) (by omega) (fun hc=>absurd hc ?_) (fun _ c hc hm=>?_)⟩
  ·have:=WE.2 h;omega
  ·push_cast;rw[Ox]at hc;refine ⟨_,_,_,⟨⟨rfl,.inl ⟨h,c,hc,hm,rfl,rfl⟩⟩,Wc _⟩,[],rfl,rfl,?_,by push_cast [ze,zd,CLe,zf]⟩;push_cast [ze,zd,CLe,zf];exact zT (zG hs)
 ·cases a with
  | none =>
   refine foX (fun i=>if i=1000000+22 then [true,true] else []) Tryz.func237 ?_;dsimp only[Tryz.f237];push_cast [hr,BW];exact ⟨_,_,_,⟨⟨rfl,.inr ⟨h,.inl ⟨rfl,rfl⟩⟩⟩,Wc _⟩,[],rfl,rfl,by push_cast [ze,zd,CLe,zf],by push_cast [ze,zd,CLe,zf]⟩
  | some a =>
   refine foX (fun i=>if i=1000000+22 then [true,true] else []) Tryz.func237 ?_;dsimp only[Tryz.f237];push_cast [hr,BX];have hx:C.xs? 6 [[]] (C.sc (.slice (some a) 0 cap))=some (0,[]):=by simp[C.xs?,hr]
   refine QZ Vs VH hx rfl (by decide) rfl rfl rfl (Wb _) (Wb _) (by omega) (by omega) (fun _=>?_) (fun hc=>absurd hc (by omega));push_cast;exact ⟨_,_,_,⟨⟨rfl,.inr ⟨h,.inr ⟨rfl,rfl⟩⟩⟩,Wc _⟩,[],rfl,rfl,by (push_cast [ze,zd,CLe,zf];simp[spl,zf]),by push_cast [ze,zd,CLe,zf]⟩
theorem Uv (rows:List (List C)) (x:List C) (i c e:Nat) (hk:∀ r∈rows,r.length=6) (hx:x.length=6) (hs:jl rows) (hsx:(x.all C.stayB)=true) (hl:rows.length<=100000) (hi:i<=rows.length) (hc:rows.length<=c) (hcm:c<=9223372036854775807) :
  Y8 Tryz.prog G 236 [.bs 0 0 6 rows.length c,.sc (.int .i64 i),.own 0 e 6 [x]] [qA 6 rows c] 1 (zrx 6 (c*6) (rows.take i++x :: rows.drop i)):=by
 refine foX (fun j=>if j=1000000+22 then [true,true] else if j=11 then [false,false,false,false,false,false,false,false,true] else if j=15 then [false,false,false,false,false,false,false,false,true] else []) Tryz.func236 ?_;dsimp only[Tryz.f236];push_cast;have hlen:(rows.take i++x :: rows.drop i).length=rows.length+1:=by simp;omega
 have hki:∀ r∈rows.take i++x :: rows.drop i,r.length=6:=fun r hr=>by
  rcases WG.1 hr with hr | hr
  ·exact hk r (Ww hr)
  ·rcases WK.1 hr with rfl | hr
   ·exact hx
   ·exact hk r (WU hr)
 have hsi:jl (rows.take i++x :: rows.drop i):=fun r hr=>by
  rcases WG.1 hr with hr | hr
  ·exact hs r (Ww hr)
  ·rcases WK.1 hr with rfl | hr
   ·exact hsx
   ·exact hs r (WU hr)
 have hbl:=JG hk hc;have hfl:=zK hk;have hxl:[x].flatten.length=1*6:=by simp[hx]
 have hpre:(qA 6 rows c).take rows.flatten.length=rows.flatten:=by unfold qA;rw[By]
 refine ⟨hc,⟨by omega,hi⟩,br (fun h=>?_) (fun h=>?_)⟩
 ·push_cast;refine QZ Vs VH rfl rfl (by decide) rfl hxl rfl (by rw[hbl];omega) hc (by simp;omega) (by simp;omega) (fun h1=>?_) (fun h1 c' h2 h3=>?_)
  ·push_cast;have hi':i=rows.length:=WQ h;refine ⟨_,_,_,⟨⟨rfl,c,by rw[hlen];exact h1,hcm,.inl ⟨rfl,rfl⟩⟩,Wb _⟩,[],rfl,rfl,?_,by push_cast [ze,zd,CLe,zf,hlen]⟩;push_cast [ze,zd,CLe,zf];have h6:rows.length*6+6<=c*6:=by have:rows.length+1<=c:=h1;omega
   refine Jz hki hsi (by rw[hlen];exact h1) (by rw[Zq (by rw[hbl,hx];exact h6),hbl]) ?_;rw[hlen,hi',Of,AO];unfold spl;rw[←hfl,hpre,OJ (by simp[hx,hfl];omega)];simp
  ·push_cast;have hi':i=rows.length:=WQ h;have h2':rows.length+1<=c':=h2;refine ⟨_,_,_,⟨⟨rfl,c',by rw[hlen];exact h2,h3,.inr ⟨rfl,rfl⟩⟩,OR rfl⟩,[],rfl,rfl,?_,by push_cast [ze,zd,CLe,zf,hlen]⟩;push_cast [ze,zd,CLe,zf];refine ⟨XC hbl,Jz hki hsi (by rw[hlen];exact h2) (by simp[hx,hbl];omega) ?_⟩;rw[hlen,hi',Of,AO,←hfl,hpre,OJ (by simp[hx,hfl];omega)];simp
 ·have hne:i≠rows.length:=OP h;push_cast;refine ⟨⟨by omega,by omega⟩,br (fun h1=>?_) (fun h1=>?_)⟩
  ·have h1':(c:Int)<(rows.length:Int)+1:=WQ h1;push_cast
   repeat refine an ?_
   refine zmn Vs zoA VH rfl (by decide) rfl rfl (by rw[hbl];omega) (by omega) (by omega) (by omega) (by omega) (by omega) (fun c' B h2 h3 hBl hBt=>?_);have e1:((rows.length:Int)+1-(i:Int)).toNat=rows.length+1-i:=by omega
   rw[e1]at h2 ⊢;have e2:i+(rows.length+1-i)=rows.length+1:=by omega
   rw[e2]at h2 ⊢;push_cast
   repeat refine an ?_
   refine XR Vs VH rfl rfl hxl (by rw[hBl];omega) (fun B1 hB1 hl1=>?_);rw[hBl]at hl1;push_cast
   repeat refine an ?_
   have hbp:=XI (c:=c) hk hi;refine XR Vs VH (Hq rfl (by rw[hbl];omega)) rfl (by rw[hbp,WZ,hfl];omega) (by rw[hl1];omega) (fun B2 hB2 hl2=>?_);rw[hl1]at hl2;have hX:[x].flatten.take (min [x].length (rows.length+1-i)*6)=x:=by
    rw[Ae,OI (by omega),Wh (by omega)];simp
   rw[hX]at hB1;rw[hbp,show min (rows.length-i) (rows.length-i)*6=(rows.length-i)*6 by omega,Wh (by rw[WZ,hfl];omega),hB1]at hB2;push_cast;refine ⟨_,_,_,⟨⟨rfl,c',by rw[hlen];exact h2,h3,.inr ⟨rfl,rfl⟩⟩,OR rfl⟩,[],rfl,rfl,?_,by push_cast [ze,zd,CLe,zf,hlen]⟩;push_cast [ze,zd,CLe,zf];refine ⟨XC hbl,Jz hki hsi (by rw[hlen];exact h2) hl2 ?_⟩;rw[hlen,←QL hk,hB2];have hg:=G5 (cs:=B) (L:=rows.flatten) (X:=x) (p:=i*6) (q:=(i+1)*6) (by omega) (by omega) (by
    rw[hBt,AQ];unfold qA;rw[OS (by omega)]) (by omega)
   rw[hfl,hx]at hg;rw[←hg];congr 1;omega
  ·have h1':¬(c:Int)<(rows.length:Int)+1:=OP h1;push_cast
   repeat refine an ?_
   refine zl7 (vS (P:=Tryz.prog) (tR:=4) Tryz.func264 (by kernel_rfl) (by kernel_rfl) (by kernel_rfl) (by kernel_rfl) Vs VH rfl (Bi (by rw[hbl];omega)) (by simp) (by omega)) ?_;push_cast
   repeat refine an ?_
   have hbp:=XI (c:=c) hk hi;refine XR Vs VH (Hq rfl (by rw[hbl];omega)) rfl (by simp[hbl];omega) (by rw[hbl];omega) (fun B1 hB1 hl1=>?_);rw[hbl]at hl1;rw[BY,OI (by omega),show min (rows.length+1-i) (rows.length-i)*6=(rows.length-i)*6 by omega,hbp]at hB1;push_cast
   repeat refine an ?_
   refine XR Vs VH rfl rfl hxl (by rw[hl1];omega) (fun B2 hB2 hl2=>?_);rw[hl1]at hl2;have hX:[x].flatten.take (min [x].length (rows.length+1-i)*6)=x:=by
    rw[Ae,OI (by omega),Wh (by omega)];simp
   rw[hX,hB1]at hB2;push_cast;have hcc:rows.length+1<=c:=by omega
   refine ⟨_,_,_,⟨⟨rfl,c,by rw[hlen];exact hcc,hcm,.inl ⟨rfl,rfl⟩⟩,OR rfl⟩,[],rfl,rfl,?_,by push_cast [ze,zd,CLe,zf,hlen]⟩;push_cast [ze,zd,CLe,zf];refine Jz hki hsi (by rw[hlen];exact hcc) hl2 ?_;rw[hlen,←QL hk,hB2];have hg:=Hu (cs:=qA 6 rows c) (L:=rows.flatten) (X:=x) (p:=i*6) (q:=(i+1)*6) (by omega) (by omega) hpre (by omega);rw[hfl,hx]at hg;rw[←hg];congr 1;omega
theorem zbp {e:Nat} (x:List C) (hx:x.length=6) (hsx:(x.all C.stayB)=true) :
  Y8 Tryz.prog G 236 [.sc (.slice none 0 0),.sc (.int .i64 0),.own 0 e 6 [x]] [] 1 (fun r bx' n=>n=0/\∃ c,1<=c/\c<=9223372036854775807/\r = .bs 0 0 6 1 c/\bx' = [qA 6 [x] c]):=by
 refine foX (fun j=>if j=1000000+22 then [true,true] else if j=11 then [false,false,false,false,false,false,false,false,true] else if j=15 then [false,false,false,false,false,false,false,false,true] else []) Tryz.func236 ?_;dsimp only[Tryz.f236];push_cast;refine Nu Vs VH rfl rfl (by decide) rfl (by simp[hx]) (by simp) (by simp) (by simp) (fun c h1 h2=>?_);push_cast;refine ⟨_,_,_,⟨⟨rfl,c,h1,h2,rfl,rfl⟩,Wc _⟩,[],rfl,rfl,?_,by push_cast [ze,zd,CLe,zf]⟩;push_cast [ze,zd,CLe,zf];have:=zT (src:=[]) (n:=1) (zG (k:=6) (c:=c) (rows:=[x]) fun r hr=>by
  rw[Ob.1 hr];exact hsx)
 unfold qA at this ⊢;simpa using this
theorem zje (rows:List (List C)) (i c:Nat) (hk:∀ r∈rows,r.length=6) (hs:jl rows) (hl:rows.length<=100000) (hi:i<rows.length) (hc:rows.length<=c) (hcm:c<=9223372036854775807) :
  yc Tryz.prog G 283 [.bs 0 0 6 rows.length c,.sc (.int .i64 i),.sc (.int .i64 ((i:Int)+1))] [qA 6 rows c] 0 (.bs 0 0 6 (rows.length-1) c) [qA 6 (rows.take i++rows.drop (i+1)) c] 0:=by
 refine foB (fun j=>if j=1000000+22 then [true,true] else if j=5 then [false,false,false,false,false,false,true,false] else []) Tryz.func283 ?_;dsimp only[Tryz.f283];have h1:((i:Int)=(i:Int)+1)=False:=WH (by omega);have hbl:=JG hk hc;have hfl:=zK hk;have hpre:(qA 6 rows c).take rows.flatten.length=rows.flatten:=by unfold qA;rw[By]
 have hlen:(rows.take i++rows.drop (i+1)).length=rows.length-1:=by simp;omega
 have hki:∀ r∈rows.take i++rows.drop (i+1),r.length=6:=fun r hr=>by
  rcases WG.1 hr with hr | hr
  ·exact hk r (Ww hr)
  ·exact hk r (WU hr)
 have hsi:jl (rows.take i++rows.drop (i+1)):=fun r hr=>by
  rcases WG.1 hr with hr | hr
  ·exact hs r (Ww hr)
  ·exact hs r (WU hr)
 have hbp:=XI (c:=c) (i:=i+1) hk hi;push_cast [h1]
 repeat refine an ?_
 have hxl:(List.drop ((i+1)*6) rows.flatten).length=(rows.length-(i+1))*6:=by rw[WZ,hfl];omega
 refine QZ Vs VH (Hq rfl (by rw[hbl];omega)) rfl (by decide) rfl (by rw[hbp,hxl]) rfl (by rw[hbl];omega) (by omega) (by omega) (by omega) (fun _=>?_) (fun h=>absurd h (by omega));rw[hbp];have e1:i+(rows.length-(i+1))=rows.length-1:=by omega
 rw[e1];generalize hB1:spl (qA 6 rows c) (0+i*6) (List.drop ((i+1)*6) rows.flatten)=B1;have hl1:B1.length=c*6:=by rw[←hB1,Zq (by rw[hbl,hxl];omega),hbl]
 push_cast
 repeat refine an ?_
 refine znn Vs VH rfl rfl (by decide) rfl (by rw[hl1];omega) (fun B2 Z hB2 hZ hl2=>?_);rw[hl1]at hl2;push_cast;refine ⟨[],rfl,rfl,?_,by push_cast [ze,zd,CLe,zf]⟩;push_cast [ze,zd,CLe,zf];refine Jz hki hsi (by rw[hlen];omega) hl2 ?_;have hg:=zoh (cs:=qA 6 rows c) (L:=rows.flatten) (Z:=Z) (p:=i*6) (q:=(i+1)*6) (n:=(rows.length-1)*6) (by omega) (by omega) hpre (by omega) (by omega) (by rw[hZ];omega);rw[hlen,hB2,←hB1,AU,←ZV hk,←Hb hk,←hg,Ox]
end
end
section
structure z6 where
 name:Lz
 ino:Int
deriving DecidableEq,Inhabited
structure zn where
 ino:Int
 kind:Int
 links:Int
 data:Lz
 parent:Int
 es:List z6
deriving DecidableEq,Inhabited
def z8 (xs:List zn):Prop:=xs.Pairwise fun a b=>a.ino<b.ino
def zk (n:Int) (xs:List zn):Bool:=xs.any fun x=>x.ino==n
def jD (n:Int) (xs:List zn):Nat:=(xs.filter fun x=>decide (x.ino<n)).length
def qh (n:Int) (xs:List zn):List zn:=xs.filter fun x=>x.ino != n
def X8 (n:Int) (xs:List zn):Option zn:=xs.find? fun x=>x.ino==n
def Zz (x:zn):List zn->List zn
 | []=>[x]
 | y :: r=>if x.ino<y.ino then x :: y :: r else y :: Zz x r
def qv (x:zn) (xs:List zn):List zn:=Zz x (qh x.ino xs)
theorem NM (n:Int):∀ (xs:List zn) (i:Nat),i<=xs.length->(∀ t (h:t<xs.length),t<i->xs[t].ino<n)->(∀ t (h:t<xs.length),i<=t->n<=xs[t].ino)->jD n xs=i
 | [],i,h,_,_=>by simp at h;simp[jD,h]
 | x :: r,0,_,_,h2=>by
  have hx:n<=x.ino:=h2 0 (by simp) (Wb _);have ih:=NM n r 0 (Wc _) (fun t h h'=>absurd h' (OK _)) (fun t h _=>h2 (t+1) (by simp;omega) (Wc _));unfold jD at ih ⊢;rw[O2 (by simp;omega)];exact ih
 | x :: r,i+1,h,h1,h2=>by
  have hx:x.ino<n:=h1 0 (by simp) (A4 _);have ih:=NM n r i (by simpa using h) (fun t h h'=>h1 (t+1) (by simp;omega) (by omega)) (fun t h h'=>h2 (t+1) (by simp;omega) (by omega));unfold jD at ih ⊢;rw[On (by simp;omega),Wg,ih]
theorem zlE (n:Int) (xs:List zn) (i:Nat) (hi:i<xs.length) (h1:∀ t (h:t<xs.length),t<i->xs[t].ino<n) (h2:n<=xs[i].ino) (hR:z8 xs):zk n xs=decide (xs[i].ino=n):=by
 by_cases h:xs[i].ino=n
 ·rw[Wo h];exact OA.2 ⟨xs[i],Wx hi,by simp[h]⟩
 ·rw[Wp h];apply Or.2;intro hh;obtain ⟨y,hy,e⟩:=OA.1 hh;obtain ⟨t,ht,rfl⟩:=WF hy;have e:xs[t].ino=n:=by simpa using e
  rcases Aq t i with h3 | h3 | h3
  ·have:=h1 t ht h3;omega
  ·subst h3;exact h e
  ·have:=(WV.1 hR) i t hi ht h3;omega
theorem zdV (n:Int) (xs:List zn) (h1:∀ t (h:t<xs.length),xs[t].ino<n):zk n xs=false:=by
 apply Or.2;intro hh;obtain ⟨y,hy,e⟩:=OA.1 hh;obtain ⟨t,ht,rfl⟩:=WF hy;have e:xs[t].ino=n:=by simpa using e
 have:=h1 t ht;omega
theorem N1 {n:Int} {xs:List zn} (h:zk n xs=false):X8 n xs=none:=by
 unfold X8 zk at *;rw[Bf];intro x hx hh;rw[Om]at h;exact h x hx hh
theorem zcZ (n:Int) (xs:List zn) (hR:z8 xs):∃ i,i<=xs.length/\(∀ t (h:t<xs.length),t<i->xs[t].ino<n)/\(∀ t (h:t<xs.length),i<=t->n<=xs[t].ino):=by
 induction xs with
 | nil=>exact ⟨0,Wb _,fun t h=>absurd h (OK _),fun t h=>absurd h (OK _)⟩
 | cons x r ih =>
  by_cases hx:x.ino<n
  ·obtain ⟨i,h1,h2,h3⟩:=ih (Bt.1 hR).2;refine ⟨i+1,by simp;omega,fun t h ht=>?_,fun t h ht=>?_⟩
   ·cases t with
    | zero=>exact hx
    | succ t=>exact h2 t (by simpa using h) (by omega)
   ·cases t with
    | zero=>omega
    | succ t=>exact h3 t (by simpa using h) (by omega)
  ·refine ⟨0,Wc _,fun t h ht=>absurd ht (OK _),fun t h _=>?_⟩;cases t with
   | zero=>simp;omega
   | succ t =>
    have:=(Bt.1 hR).1 (r[t]'(by simpa using h)) (Wx _);simp;omega
theorem ze3 (n:Int) (xs:List zn):jD n xs<=xs.length:=OH _ _
theorem zfq {n:Int} {xs:List zn} (hR:z8 xs):(∀ t (h:t<xs.length),t<jD n xs->xs[t].ino<n)/\(∀ t (h:t<xs.length),jD n xs<=t->n<=xs[t].ino):=by
 obtain ⟨i,h1,h2,h3⟩:=zcZ n xs hR;rw[NM n xs i h1 h2 h3];exact ⟨h2,h3⟩
theorem zku {n:Int} {xs:List zn} (hR:z8 xs) (h:zk n xs=true):∃ hlt:jD n xs<xs.length,xs[jD n xs].ino=n:=by
 obtain ⟨h2,h3⟩:=zfq (n:=n) hR;by_cases hlt:jD n xs<xs.length
 ·refine ⟨hlt,?_⟩;have:=zlE n xs _ hlt h2 (h3 _ hlt (Wb _)) hR;rw[h]at this;exact WQ this.symm
 ·have:=zdV n xs (fun t h=>h2 t h (by omega));rw[h]at this;cases this
theorem Ne {n:Int} {xs:List zn} (hR:z8 xs) (h:zk n xs=true):∃ hlt:jD n xs<xs.length,X8 n xs=some xs[jD n xs]:=by
 obtain ⟨hlt,he⟩:=zku hR h;refine ⟨hlt,?_⟩;obtain ⟨h2,h3⟩:=zfq (n:=n) hR;unfold X8;rw[Ba];exact ⟨by simp[he],_,hlt,rfl,fun j hj=>by have:=h2 j (by omega) hj;simp;omega⟩
theorem Jj {y:zn} {r:List zn}:z8 (y :: r)↔(∀ z∈r,y.ino<z.ino)/\z8 r:=Bt
theorem X6 {n:Int} {y:zn} {r:List zn} (h:y.ino<n):jD n (y :: r)=jD n r+1:=by
 unfold jD;rw[On (by simpa using h),Wg]
theorem Hf {n:Int} {xs:List zn} (h:∀ z∈xs,n<=z.ino):jD n xs=0:=by
 unfold jD;rw[Ak,AW];intro z hz;have:=h z hz;simp;omega
theorem Vc {n:Int} {xs:List zn} (h:zk n xs=false):qh n xs=xs:=by
 unfold qh;rw[BP];intro z hz;unfold zk at h;rw[Om]at h;have:=h z hz;simpa using this
theorem Zp {n:Int} {y:zn} {r:List zn} (h:y.ino<n):zk n (y :: r)=zk n r:=by
 unfold zk;rw[A7,show (y.ino==n)=false by rw[Ot];omega,O4]
theorem kX {n:Int} {xs:List zn} (h:∀ z∈xs,n<z.ino):zk n xs=false:=by
 unfold zk;rw[Om];intro z hz;have:=h z hz;simp;omega
theorem JV {n:Int} {y:zn} {r:List zn} (h:y.ino≠n):qh n (y :: r)=y :: qh n r:=by
 unfold qh;rw[On (by simpa using h)]
theorem JU {n:Int} {y:zn} {r:List zn} (h:y.ino=n):qh n (y :: r)=qh n r:=by
 unfold qh;rw[O2 (by simpa using h)]
theorem zbt {n:Int}:∀ {xs:List zn},z8 xs->zk n xs=true->xs.take (jD n xs)++xs.drop (jD n xs+1)=qh n xs
 | [],_,h=>by cases h
 | y :: r,hR,h=>by
  obtain ⟨h1,h2⟩:=Jj.1 hR;by_cases hy:y.ino<n
  ·rw[X6 hy,AH,A9,Oh,zbt h2 (by rwa [Zp hy]at h),JV (by omega)]
  ·have hr0:jD n (y :: r)=0:=Hf fun z hz=>by
    rcases WK.1 hz with rfl | hz
    ·omega
    ·have:=h1 z hz;omega
   by_cases he:y.ino=n
   ·rw[hr0,JU he,Vc (kX fun z hz=>by have:=h1 z hz;omega)];rfl
   ·exfalso
    rw[kX fun z hz=>by
     rcases WK.1 hz with rfl | hz
     ·omega
     ·have:=h1 z hz;omega]at h
    cases h
theorem zoP {x y:zn} {r:List zn} (h:y.ino<x.ino):Zz x (y :: r)=y :: Zz x r:=by
 rw[Zz,if_neg (by omega)]
theorem zln {x:zn} {xs:List zn} (h:∀ z∈xs,x.ino<z.ino):Zz x xs=x :: xs:=by
 cases xs with
 | nil=>rfl
 | cons y r=>rw[Zz,if_pos (h y Wk)]
theorem ky {x y:zn} {r:List zn} (h:y.ino<x.ino):qv x (y :: r)=y :: qv x r:=by
 unfold qv;rw[JV (by omega),zoP h]
theorem vF {x:zn}:∀ {xs:List zn},z8 xs->zk x.ino xs=true->xs.set (jD x.ino xs) x=qv x xs
 | [],_,h=>by cases h
 | y :: r,hR,h=>by
  obtain ⟨h1,h2⟩:=Jj.1 hR;by_cases hy:y.ino<x.ino
  ·rw[X6 hy,List.set_cons_succ,vF h2 (by rwa [Zp hy]at h),ky hy]
  ·have hr0:jD x.ino (y :: r)=0:=Hf fun z hz=>by
    rcases WK.1 hz with rfl | hz
    ·omega
    ·have:=h1 z hz;omega
   by_cases he:y.ino=x.ino
   ·unfold qv;rw[hr0,JU he,Vc (kX fun z hz=>by have:=h1 z hz;omega),zln fun z hz=>by have:=h1 z hz;omega];rfl
   ·exfalso
    rw[kX fun z hz=>by
     rcases WK.1 hz with rfl | hz
     ·omega
     ·have:=h1 z hz;omega]at h
    cases h
theorem yM {x:zn}:∀ {xs:List zn},z8 xs->zk x.ino xs=false->xs.take (jD x.ino xs)++x :: xs.drop (jD x.ino xs)=qv x xs
 | [],_,_=>rfl
 | y :: r,hR,h=>by
  obtain ⟨h1,h2⟩:=Jj.1 hR;by_cases hy:y.ino<x.ino
  ·rw[X6 hy,AH,A9,Oh,yM h2 (by rwa [Zp hy]at h),ky hy]
  ·have hne:y.ino≠x.ino:=by
    intro e;unfold zk at h;rw[A7,e]at h;simp at h
   have hr0:jD x.ino (y :: r)=0:=Hf fun z hz=>by
    rcases WK.1 hz with rfl | hz
    ·omega
    ·have:=h1 z hz;omega
   unfold qv;rw[hr0,Vc h,zln fun z hz=>by
    rcases WK.1 hz with rfl | hz
    ·omega
    ·have:=h1 z hz;omega]
   rfl
theorem zh1 {n:Int} {xs:List zn}:∀ x∈qh n xs,x∈xs:=fun x h=>(OC.1 h).1
theorem Nn {x:zn}:∀ {xs:List zn} {z:zn},z∈Zz x xs↔z=x∨z∈xs
 | [],z=>by simp[Zz]
 | y :: r,z=>by
  rw[Zz];split
  ·simp
  ·rw[WK,Nn,WK];constructor
   ·rintro (h | h | h)<;>simp[h]
   ·rintro (h | h | h)<;>simp[h]
theorem zov {x:zn} {xs:List zn} {z:zn} (h:z∈qv x xs):z=x∨z∈xs:=by
 rcases Nn.1 h with h | h
 ·exact .inl h
 ·exact .inr (zh1 _ h)
theorem Gw {n:Int} {xs:List zn} (h:z8 xs):z8 (qh n xs):=List.Pairwise.filter _ h
theorem xL {x:zn}:∀ {xs:List zn},z8 xs->(∀ z∈xs,z.ino≠x.ino)->z8 (Zz x xs)
 | [],_,_=>by simp[Zz,z8]
 | y :: r,h,hne=>by
  obtain ⟨h1,h2⟩:=Jj.1 h;have hy:=hne y Wk;rw[Zz];split
  ·next hlt =>
   refine Jj.2 ⟨fun z hz=>?_,h⟩;rcases WK.1 hz with rfl | hz
   ·exact hlt
   ·have:=h1 z hz;omega
  ·next hlt =>
   refine Jj.2 ⟨fun z hz=>?_,xL h2 fun z hz=>hne z (Wl _ hz)⟩;rcases Nn.1 hz with rfl | hz
   ·omega
   ·exact h1 z hz
theorem qf {x:zn} {xs:List zn} (h:z8 xs):z8 (qv x xs):=xL (Gw h) fun z hz=>by
 have:=(OC.1 hz).2;simpa using this
theorem zeH {x:zn}:∀ {xs:List zn},(Zz x xs).length=xs.length+1
 | []=>rfl
 | y :: r=>by
  rw[Zz];split
  ·rfl
  ·rw[Wg,zeH,Wg]
theorem Z1 {n:Int} {xs:List zn}:(qh n xs).length<=xs.length:=OH _ _
theorem zhk {x:zn} {xs:List zn}:(qv x xs).length<=xs.length+1:=by
 unfold qv;rw[zeH];have:=Z1 (n:=x.ino) (xs:=xs);omega
end
section
open CA CB
open Go.RowKit
abbrev N8 (e:z6):List C:=[.str e.name,.sc (.int .i64 e.ino)]
abbrev zQ (es:List z6):List (List C):=es.map N8
abbrev YB (x:zn):List C:=[.sc (.int .i64 x.ino),.sc (.int .i64 x.kind),.sc (.int .i64 x.links),.str x.data,.sc (.int .i64 x.parent),.sl 2 (zQ x.es)]
abbrev zu (xs:List zn):List (List C):=xs.map YB
structure FsV where
 maxI:Int
 maxB:Int
 next:Int
 xs:List zn
deriving DecidableEq,Inhabited
abbrev fsC (f:FsV):List C:=[.sc (.int .i64 f.maxI),.sc (.int .i64 f.maxB),.sc (.int .i64 f.next),.sl 6 (zu f.xs)]
theorem js (xs:List zn) (i:Nat) (h:i<xs.length):(zu xs)[i]?=some (YB xs[i]):=by simp[Ws,Wa h]
theorem Yx (xs:List z6) (i:Nat) (h:i<xs.length):(zQ xs)[i]?=some (N8 xs[i]):=by simp[Ws,Wa h]
def Mg:zn:=⟨0,0,0,[],0,[]⟩
def zg (n:Int) (xs:List zn):zn:=(X8 n xs).getD Mg
def UI (a b:Int):Int:=if a<b then -1 else if b<a then 1 else 0
section
variable {G:zp}
theorem zeO (a:Int):Fun Tryz.prog G 180 [.sc (.int .i64 a)] (.sc (.bool false)) 0:=by
 refine fon Tryz.func180 ?_;dsimp only[Tryz.f180];push_cast;exact dn
theorem vH (a b:Int):Fun Tryz.prog G 156 [.sc (.int .i64 a),.sc (.int .i64 b)] (.sc (.int .i64 (UI a b))) 0:=by
 refine fon Tryz.func156 ?_;dsimp only[Tryz.f156];push_cast;refine cl (zeO a) ?_;push_cast;refine cl (zeO b) ?_;push_cast;refine br (fun h=>?_) (fun h=>?_)
 ·have h:=WQ h;push_cast;exact ⟨[],rfl,rfl,by (push_cast [ze,zd,CLe,zf];simp[UI,h])⟩
 ·have h:=OP h;push_cast;refine br (fun h1=>?_) (fun h1=>?_)
  ·have h1:=WQ h1;push_cast;exact ⟨[],rfl,rfl,by (push_cast [ze,zd,CLe,zf];simp[UI,h,h1])⟩
  ·have h1:=OP h1;push_cast;exact ⟨[],rfl,rfl,by (push_cast [ze,zd,CLe,zf];simp[UI,h,h1])⟩
theorem zf2 (x:zn) (n:Int):Fun Tryz.prog G 155 [.agg (YB x),.sc (.int .i64 n)] (.sc (.int .i64 (UI x.ino n))) 0:=by
 refine fon Tryz.func155 ?_;dsimp only[Tryz.f155];push_cast;refine cl (vH x.ino n) ?_;push_cast;exact dn
theorem vk (xs:List zn) (n:Int) (hl:xs.length<=100000) (hR:z8 xs) :
  Fun Tryz.prog G 154 [.sl 6 (zu xs),.sc (.int .i64 n),.clo (.func 155) [] []] (.tup [.sc (.int .i64 (jD n xs:Nat)),.sc (.bool (zk n xs))]) 0:=by
 refine fon Tryz.func154 ?_;dsimp only[Tryz.f154];push_cast;refine loop (fun p:Nat×Nat=>⟨[(0,.sl 6 (zu xs)),(1,.sc (.int .i64 n)),(2,.clo (.func 155) [] []),(8,.sc (.int .i64 (xs.length:Nat))),(9,.sc (.int .i64 p.1)),(10,.sc (.int .i64 p.2))],[],0,0⟩)
  (fun p=>p.1<=p.2/\p.2<=xs.length/\(∀ t (h:t<xs.length),t<p.1->xs[t].ino<n)/\∀ t (h:t<xs.length),p.2<=t->n<=xs[t].ino) (fun p=>p.2-p.1) (0,xs.length) ⟨Wc _,Wb _,fun t _ h=>by (simp at h),fun t h h'=>by (dsimp only at h';omega)⟩ ?_ ?_
 ·exact wk (by push_cast [ze,zd,CLe,zf,We])
 ·rintro ⟨i,j⟩ ⟨h1,h2,h3,h4⟩;dsimp only at h1 h2 h3 h4 ⊢;by_cases h:i<j
  ·obtain ⟨m,hm⟩:∃ m,m=(i+j) / 2:=⟨_,rfl⟩;have hmi:((i:Int)+(j:Int)) / 2=(m:Int):=by omega
   have hml:m<xs.length:=by omega
   have hat:=js xs m hml;push_cast [h,hmi,hat]
   repeat refine an ?_
   refine cl (zf2 xs[m] n) ?_;push_cast;by_cases hc:xs[m].ino<n
   ·have hcv:UI xs[m].ino n = -1:=by simp[UI,hc]
    push_cast [hcv]
    repeat refine an ?_
    refine ⟨(m+1,j),⟨by omega,h2,fun t ht hlt=>?_,h4⟩,by dsimp only;omega,wk⟩;dsimp only at hlt;rcases Wr t m with q | q
    ·have:=(WV.1 hR) t m ht hml q;omega
    ·have:t=m:=by omega
     subst this;exact hc
   ·have hcv:(UI xs[m].ino n<0)=False:=WH (by unfold UI;rw[if_neg hc];split<;>omega);push_cast [hcv]
    repeat refine an ?_
    refine ⟨(i,m),⟨by omega,by omega,h3,fun t ht hge=>?_⟩,by dsimp only;omega,wk⟩;dsimp only at hge;rcases Wr m t with q | q
    ·have:=(WV.1 hR) m t hml ht q;omega
    ·have:t=m:=by omega
     subst this;omega
  ·have hij:i=j:=by omega
   subst hij;have hrk:=NM n xs i h2 h3 h4;push_cast [h];refine br (fun hx=>?_) (fun hx=>?_)
   ·have hx:i<xs.length:=by simpa using hx
    have hat:=js xs i hx;have hh:=zlE n xs i hx h3 (h4 i hx (Wb _)) hR;push_cast [hx,hat]
    repeat refine an ?_
    refine cl (zf2 xs[i] n) ?_;push_cast;have hcv:decide (UI xs[i].ino n=0)=zk n xs:=by
     rw[hh];have:=h4 i hx (Wb _);unfold UI;rw[if_neg (by omega)];split
     ·rw[Wp (by omega),Wp (by omega)]
     ·rw[Wo (by rfl),Wo (by omega)]
    push_cast [hcv];exact dn (by push_cast [ze,zd,CLe,zf,hrk])
   ·have hx:¬i<xs.length:=by simpa using hx
    have hh:=zdV n xs fun t ht=>h3 t ht (by omega);push_cast [hx];exact dn (by push_cast [ze,zd,CLe,zf,hrk,hh])
theorem zfU (f:FsV) (n:Int) (hl:f.xs.length<=100000) (hR:z8 f.xs):Fun Tryz.prog G 106 [.agg (fsC f),.sc (.int .i64 n)] (.tup [.sc (.int .i64 (jD n f.xs:Nat)),.sc (.bool (zk n f.xs))]) 0:=by
 refine fon Tryz.func106 ?_;dsimp only[Tryz.f106];push_cast;refine cl (vk f.xs n hl hR) ?_;push_cast;exact dn
end
end
section
open Go.RowKit Go.ChangeMaps Go.ChangeShapes Go.WideShapes Go.Deep Go.Joins
def xl (W:World):Env:=⟨W,fun _ _=>False,fun _=>False⟩
theorem Fun.answers {P:Program} {G:zp} {f:FuncId} {args:List C} {u:Value} {n:Nat} (h:Fun P G f args (.sc u) n) {W:World} {vs:List Value} (hg:XT G (xl W)) (ha:zy (xl W) zJ args vs) :
  Calls P f vs.toArray W fun e w'=>e = .returned u/\Below W.heap.size W w':=by
 refine (h.2 (xl W) vs hg ha).mono ?_;rintro e w' ⟨v,R',L',rfl,rfl,st,hr⟩;rw[zq]at hr;subst hr;exact ⟨rfl,st.below⟩
section
variable {H:Type} {enc:TypeId×Value->H} {P:Program} {W:World}
def Opn (enc:TypeId×Value->H) (P:Program) (W:World) (t:TypeId) (Q:C->Prop):Prop:=
 ∀ (fuel:Nat) (cs:List Value) (x:DataW H×List MemPlace),DataW.trod enc P W 0 (fun _=>true) true fuel t cs=some x->∃ v c,cs = [v]/\Q c/\Rep (xl W) zJ c v/\v.oneCell'=true
def jI (enc:TypeId×Value->H) (P:Program) (W:World) (t:TypeId) (k:Nat) (Q:List C->Prop):Prop:=
 ∀ (fuel:Nat) (cs:List Value) (x:DataW H×List MemPlace),DataW.trod enc P W 0 (fun _=>true) true fuel t cs=some x ->
  ∃ row,Q row/\row.length=k/\cs.length=k/\∀ (j:Nat) c v,row[j]?=some c->cs[j]?=some v->Rep (xl W) zJ c v/\v.oneCell'=true
theorem Opn.int {t:TypeId} {k:IntKind} (ht:P.underlying t=some (.int k)):Opn enc P W t fun c=>∃ n,c = .sc (.int k n)/\(Lit.int k n).wf=true:=fun fuel cs x h=>by
 obtain ⟨n,rfl,_,hw⟩:=DataW.trod_int ht h;exact ⟨_,_,rfl,⟨n,rfl,hw⟩,zq.2 rfl,rfl⟩
theorem Opn.bool {t:TypeId} (ht:P.underlying t=some .bool):Opn enc P W t fun c=>∃ b,c = .sc (.bool b):=fun fuel cs x h=>by
 obtain ⟨n,rfl,_⟩:=DataW.trod_bool ht h;exact ⟨_,_,rfl,⟨n,rfl⟩,zq.2 rfl,rfl⟩
theorem Opn.str {t:TypeId} (ht:P.underlying t=some .string):Opn enc P W t fun c=>∃ l:Lz,c = .str l/\l.length<=maxLen:=fun fuel cs x h=>by
 obtain ⟨s,rfl,_,hs⟩:=DataW.trod_string ht h;exact ⟨_,_,rfl,⟨s.data.toList,rfl,by rw[WW];exact hs⟩,zY.2 (by cases s;simp),rfl⟩
theorem jI.one {t:TypeId} {Q:C->Prop} (h:Opn enc P W t Q):jI enc P W t 1 fun row=>∃ c,row = [c]/\Q c:=fun fuel cs x hx=>by
 obtain ⟨v,c,rfl,hq,hr,ho⟩:=h fuel cs x hx;refine ⟨[c],⟨c,rfl,hq⟩,rfl,rfl,fun j c' v' h1 h2=>?_⟩;cases j with
 | zero=>cases h1;cases h2;exact ⟨hr,ho⟩
 | succ j=>cases h1
theorem Zo {α:Type} {Q:Nat->α->Prop}:∀ n:Nat,(∀ i,i<n->∃ x,Q i x)->∃ l:List α,l.length=n/\∀ i (h:i<l.length),Q i l[i]
 | 0,_=>⟨[],rfl,fun i h=>absurd h (OK _)⟩
 | n+1,h=>by
  obtain ⟨l,hl,hq⟩:=Zo n fun i hi=>h i (by omega);obtain ⟨x,hx⟩:=h n (by omega);refine ⟨l++[x],by simp[hl],fun i hi=>?_⟩;rcases Wr i n with h1 | h1
  ·rw[List.getElem_append_left (by omega)];exact hq i (by omega)
  ·have:i=n:=by simp[hl]at hi;omega
   subst this;rw[List.getElem_append_right (by omega)];simpa [hl] using hx
theorem jI.struct {t:TypeId} {fs:Array Field} {Qs:Nat->C->Prop} (hs:P.underlying t=some (.struct fs)) (hone:oneCellFields P fs=true) (hC:P.cellsOf t=fs.size)
  (h:∀ (j:Nat) f,fs[j]?=some f->Opn enc P W f.type (Qs j)):jI enc P W t fs.size fun row=>row.length=fs.size/\∀ (j:Nat) c,row[j]?=some c->Qs j c:=fun fuel cs x hx=>by
 obtain ⟨ys,n',hn',hy,hlen,hyl,hf⟩:=DataW.trod_struct hs hx;rw[hC]at hlen;obtain ⟨row,hl,hq⟩:=Zo (Q:=fun j (c:C)=>Qs j c/\∃ v,cs[j]?=some v/\Rep (xl W) zJ c v/\v.oneCell'=true) fs.size (fun j hj=>by
  have hfj:fs[j]?=some fs[j]:=WY hj;obtain ⟨ho,hk⟩:=hone_of hone j _ hfj;have h1:=hf j _ hfj;rw[ho,hk]at h1;have hone':(cs.drop j).take 1 = [cs[j]'(by omega)]:=by
   rw[Oe (by omega)]
   rfl
  rw[hone',Wa (by omega)]at h1;obtain ⟨v,c,e,hq,hr,hoc⟩:=h j _ hfj _ _ _ h1;cases e;exact ⟨c,hq,_,Wa (by omega),hr,hoc⟩)
 refine ⟨row,⟨hl,fun j c hj=>?_⟩,hl,hlen,fun j c v h1 h2=>?_⟩
 ·obtain ⟨hj',rfl⟩:=Wd.1 hj;exact (hq j hj').1
 ·obtain ⟨hj',rfl⟩:=Wd.1 h1;obtain ⟨_,v',e,hr,ho⟩:=hq j hj';rw[h2]at e;cases e;exact ⟨hr,ho⟩
theorem Opn.slice {t e:TypeId} {k:Nat} {Q:List C->Prop} (ht:P.underlying t=some (.slice e)) (hC:P.cellsOf e=k) (hk:0<k) (h:jI enc P W e k Q):Opn enc P W t fun c=>∃ rows,c = .sl k rows/\rows.length<=maxLen/\∀ r∈rows,Q r:=fun fuel cs x hx=>by
 rcases open_slice ht hx with h0 | ⟨a,len,cap,m,n,D,Pl,hcs,hb,hl,hm,hmm,hx,hi⟩
 ·exact ⟨_,.sl k [],h0.1,⟨[],rfl,Wc _,fun r hr=>by cases hr⟩,GG.2 ⟨none,0,rfl,Wb _,Wc _,.inl rfl⟩,rfl⟩
 ·simp only[if_true]at hmm;subst hmm;obtain ⟨rows,hrl,hq⟩:=Zo (Q:=fun i (row:List C)=>Q row/\row.length=k/\∀ (j:Nat) c,row[j]?=some c->∃ v,W.cell? (a.add (i*k+j))=some v/\Rep (xl W) zJ c v/\v.oneCell'=true) len (fun i hlt=>by
   obtain ⟨cs',hc,ht'⟩:=hi i (by omega);rw[hC]at hc;obtain ⟨row,hq,hl1,hl2,hr⟩:=h _ _ _ ht';obtain ⟨_,hcl,hat⟩:=World.cells?_some hc;refine ⟨row,hq,hl1,fun j c hj=>?_⟩;have hjl:j<k:=by have:=(Wd.1 hj).1;omega
   have hv:cs'[j]?=some (cs'[j]'(by omega)):=Wa (by omega);obtain ⟨hr1,hr2⟩:=hr j c _ hj hv;refine ⟨_,?_,hr1,hr2⟩;rw[←Go.Deep.add_add,hat j hjl,hv])
  refine ⟨_,.sl k rows,hcs,⟨rows,rfl,by omega,fun r hr=>?_⟩,?_,rfl⟩
  ·obtain ⟨i,hi',rfl⟩:=WF hr;exact (hq i hi').1
  ·refine GG.2 ⟨some a,m,by rw[hrl],by omega,by omega,?_⟩;by_cases h0:rows = []
   ·exact .inl h0
   ·have hpos:0<rows.length:=WE.2 h0;obtain ⟨b,off,spot⟩:=a;obtain ⟨_,hl0,h00⟩:=hq 0 hpos;obtain ⟨v0,hc0,_⟩:=h00 0 ((rows[0]'hpos)[0]'(by omega)) (Wa _);have hspot:spot=none:=by simpa [Addr.add] using World.cell?_spot hc0
    subst hspot;refine .inr ⟨b,off,rfl,ji fun i row hrow=>?_⟩;obtain ⟨hi',rfl⟩:=Wd.1 hrow;obtain ⟨_,hlr,hcr⟩:=hq i hi';refine ⟨hlr,qi fun j c hj=>?_⟩;obtain ⟨v,h1,h2,h3⟩:=hcr j c hj;rw[Addr.add_lit]at h1;exact ⟨v,by rw[B0];exact h1,fun hf=>hf,h2,h3⟩
theorem Opn.arg {r:Reach} {b0:Nat} {t:TypeId} {Q:C->Prop} {v:Value} {d:DataW H} {p:List MemPlace} (h:Opn enc P W t Q) (hv:v.cells = #[v]) (hd:DataW.Trod enc P W 0 (fun _=>true) true t v d p):∃ c,Q c/\Rep (xl W) zJ c v:=by
 obtain ⟨fuel,hf⟩:=hd;rw[hv]at hf;obtain ⟨v',c,e,hq,hr,_⟩:=h _ _ _ hf;cases e;exact ⟨c,hq,hr⟩
theorem jI.arg {r:Reach} {b0:Nat} {t:TypeId} {fs:Array Field} {k:Nat} {Q:List C->Prop} {v:Value} {d:DataW H} {p:List MemPlace} (h:jI enc P W t k Q) (hs:P.underlying t=some (.struct fs)) (hval:Value.okWide P W r b0 t v)
  (hd:DataW.Trod enc P W 0 (fun _=>true) true t v d p):∃ row,Q row/\Rep (xl W) zJ (.agg row) v:=by
 obtain ⟨cs,rfl,hsz⟩:=okWide_struct hs hval;obtain ⟨fuel,hf⟩:=hd;obtain ⟨row,hq,h1,h2,hr⟩:=h _ _ _ hf;refine ⟨row,hq,j7.2 ⟨cs,rfl,Yq ?_ fun i c v hc hv=>(hr i c v hc hv).1⟩⟩;have:cs.toList.length=k:=h2;omega
end
end
section
open Go.RowKit Go.ChangeMaps Go.ChangeShapes Go.WideShapes Go.Deep Go.Joins
theorem ND {α:Type} {f:α->List C} {q:α->Prop}:∀ {rows:List (List C)},(∀ r∈rows,∃ a,r=f a/\q a)->∃ xs:List α,rows=xs.map f/\∀ x∈xs,q x
 | [],_=>⟨[],rfl,fun x h=>by cases h⟩
 | r :: rows,h=>by
  obtain ⟨xs,rfl,hq⟩:=ND fun r' hr=>h r' (Wl _ hr);obtain ⟨o,rfl,ho⟩:=h r Wk;exact ⟨o :: xs,rfl,fun x hx=>by
   rcases WK.1 hx with rfl | hx
   ·exact ho
   ·exact hq x hx⟩
section
variable {H:Type} {enc:TypeId×Value->H} {W:World}
theorem zoo:jI enc Tryz.prog W 141 2 fun row=>∃ o:z6,row=N8 o/\o.name.length<=maxLen:=fun fuel cs x hx=>by
 obtain ⟨row,⟨hl,hq⟩,h1,h2,h3⟩:=jI.struct (W:=W) (enc:=enc) (Qs:=fun j c=>match j with | 0=>∃ l:Lz,c = .str l/\l.length<=maxLen | 1=>∃ n,c = .sc (.int .i64 n)/\(Lit.int .i64 n).wf=true | _=>True) Tryz.underlying141 (by kernel_rfl) (by kernel_rfl) (fun j f hj=>by
  match j,hj with
  | 0,hj=>cases hj;exact Opn.str Tryz.underlying9
  | 1,hj=>cases hj;exact Opn.int Tryz.underlying3
  | j+2,hj=>simp at hj) fuel cs x hx
 match row,h1,hq,h3 with
 | [c0,c1],_,hq,h3 =>
  obtain ⟨a,rfl,ha⟩:=hq 0 c0 rfl;obtain ⟨k,rfl,_⟩:=hq 1 c1 rfl;exact ⟨_,⟨⟨a,k⟩,rfl,ha⟩,rfl,h2,h3⟩
theorem zjR:Opn enc Tryz.prog W 94 fun c=>∃ xs:List z6,c = .sl 2 (zQ xs)/\xs.length<=maxLen/\∀ x∈xs,x.name.length<=maxLen:=fun fuel cs x hx=>by
 obtain ⟨v,c,rfl,⟨rows,rfl,hl,hr⟩,h1,h2⟩:=Opn.slice (W:=W) (enc:=enc) Tryz.underlying94 (show Tryz.prog.cellsOf 141=2 by kernel_rfl) (by decide) zoo fuel cs x hx;obtain ⟨xs,rfl,hq⟩:=ND hr;exact ⟨v,_,rfl,⟨xs,rfl,by simpa using hl,hq⟩,h1,h2⟩
def zfZ (x:zn):Prop:=x.data.length<=maxLen/\x.es.length<=maxLen/\∀ e∈x.es,e.name.length<=maxLen
theorem zhC:jI enc Tryz.prog W 96 6 fun row=>∃ o:zn,row=YB o/\zfZ o:=fun fuel cs x hx=>by
 obtain ⟨row,⟨hl,hq⟩,h1,h2,h3⟩:=jI.struct (W:=W) (enc:=enc) (Qs:=fun j c=>match j with | 0=>∃ n,c = .sc (.int .i64 n)/\(Lit.int .i64 n).wf=true | 1=>∃ n,c = .sc (.int .i64 n)/\(Lit.int .i64 n).wf=true | 2=>∃ n,c = .sc (.int .i64 n)/\(Lit.int .i64 n).wf=true | 3=>∃ l:Lz,c = .str l/\l.length<=maxLen | 4=>∃ n,c = .sc (.int .i64 n)/\(Lit.int .i64 n).wf=true | 5=>∃ xs:List z6,c = .sl 2 (zQ xs)/\xs.length<=maxLen/\∀ x∈xs,x.name.length<=maxLen | _=>True) Tryz.underlying96 (by kernel_rfl) (by kernel_rfl) (fun j f hj=>by
  match j,hj with
  | 0,hj=>cases hj;exact Opn.int Tryz.underlying3
  | 1,hj=>cases hj;exact Opn.int Tryz.underlying3
  | 2,hj=>cases hj;exact Opn.int Tryz.underlying3
  | 3,hj=>cases hj;exact Opn.str Tryz.underlying9
  | 4,hj=>cases hj;exact Opn.int Tryz.underlying3
  | 5,hj=>cases hj;exact zjR
  | j+6,hj=>simp at hj) fuel cs x hx
 match row,h1,hq,h3 with
 | [c0,c1,c2,c3,c4,c5],_,hq,h3 =>
  obtain ⟨a,rfl,_⟩:=hq 0 c0 rfl;obtain ⟨b,rfl,_⟩:=hq 1 c1 rfl;obtain ⟨c,rfl,_⟩:=hq 2 c2 rfl;obtain ⟨d,rfl,hd⟩:=hq 3 c3 rfl;obtain ⟨e,rfl,_⟩:=hq 4 c4 rfl;obtain ⟨f,rfl,hf⟩:=hq 5 c5 rfl;exact ⟨_,⟨⟨a,b,c,d,e,f⟩,rfl,hd,hf⟩,rfl,h2,h3⟩
theorem zaU:Opn enc Tryz.prog W 22 fun c=>∃ xs:List zn,c = .sl 6 (zu xs)/\xs.length<=maxLen/\∀ x∈xs,zfZ x:=fun fuel cs x hx=>by
 obtain ⟨v,c,rfl,⟨rows,rfl,hl,hr⟩,h1,h2⟩:=Opn.slice (W:=W) (enc:=enc) Tryz.underlying22 (show Tryz.prog.cellsOf 96=6 by kernel_rfl) (by decide) zhC fuel cs x hx;obtain ⟨xs,rfl,hq⟩:=ND hr;exact ⟨v,_,rfl,⟨xs,rfl,by simpa using hl,hq⟩,h1,h2⟩
theorem zrf:jI enc Tryz.prog W 24 4 fun row=>∃ f:FsV,row=fsC f/\f.xs.length<=maxLen/\∀ x∈f.xs,zfZ x:=fun fuel cs x hx=>by
 obtain ⟨row,⟨hl,hq⟩,h1,h2,h3⟩:=jI.struct (W:=W) (enc:=enc) (Qs:=fun j c=>match j with | 0=>∃ n,c = .sc (.int .i64 n)/\(Lit.int .i64 n).wf=true | 1=>∃ n,c = .sc (.int .i64 n)/\(Lit.int .i64 n).wf=true | 2=>∃ n,c = .sc (.int .i64 n)/\(Lit.int .i64 n).wf=true | 3=>∃ xs:List zn,c = .sl 6 (zu xs)/\xs.length<=maxLen/\∀ x∈xs,zfZ x | _=>True) Tryz.underlying24 (by kernel_rfl) (by kernel_rfl) (fun j f hj=>by
  match j,hj with
  | 0,hj=>cases hj;exact Opn.int Tryz.underlying3
  | 1,hj=>cases hj;exact Opn.int Tryz.underlying3
  | 2,hj=>cases hj;exact Opn.int Tryz.underlying3
  | 3,hj=>cases hj;exact zaU
  | j+4,hj=>simp at hj) fuel cs x hx
 match row,h1,hq,h3 with
 | [c0,c1,c2,c3],_,hq,h3 =>
  obtain ⟨a,rfl,_⟩:=hq 0 c0 rfl;obtain ⟨b,rfl,_⟩:=hq 1 c1 rfl;obtain ⟨c,rfl,_⟩:=hq 2 c2 rfl;obtain ⟨d,rfl,hd⟩:=hq 3 c3 rfl;exact ⟨_,⟨⟨a,b,c,d⟩,rfl,hd⟩,rfl,h2,h3⟩
end
end
section
open Go
structure zlv (κ:Type) where
 lt:κ->κ->Bool
 irr:∀ a,lt a a=false
 tr:∀ {a b c},lt a b=true->lt b c=true->lt a c=true
 tot:∀ {a b},lt a b=false->lt b a=false->a=b
theorem Z6:∀ a:Lz,Op.bytesLess a a=false
 | []=>rfl
 | c :: a=>by
  have h:¬c<c:=by simp
  simp[Op.bytesLess,Z6 a]
theorem Md:∀ {a b c:Lz},Op.bytesLess a b=true->Op.bytesLess b c=true->Op.bytesLess a c=true
 | _,[],_,h,_=>by unfold Op.bytesLess at h;cases h
 | [],y :: b,[],_,h2=>by unfold Op.bytesLess at h2;cases h2
 | [],y :: b,z :: c,_,_=>rfl
 | x :: a,y :: b,[],_,h2=>by unfold Op.bytesLess at h2;cases h2
 | x :: a,y :: b,z :: c,h1,h2=>by
  unfold Op.bytesLess at h1 h2 ⊢;simp only[Oc,Wt,W8,Oj]at h1 h2 ⊢;rcases h1 with h1 | ⟨rfl,h1⟩
  ·rcases h2 with h2 | ⟨rfl,h2⟩
   ·exact .inl (UInt8.lt_trans h1 h2)
   ·exact .inl h1
  ·rcases h2 with h2 | ⟨rfl,h2⟩
   ·exact .inl h2
   ·exact .inr ⟨rfl,Md h1 h2⟩
theorem xk:∀ {a b:Lz},Op.bytesLess a b=false->Op.bytesLess b a=false->a=b
 | [],[],_,_=>rfl
 | [],y :: b,h,_=>by unfold Op.bytesLess at h;cases h
 | x :: a,[],_,h=>by unfold Op.bytesLess at h;cases h
 | x :: a,y :: b,h1,h2=>by
  unfold Op.bytesLess at h1 h2;simp only[BG,Ow,AK,Ot]at h1 h2;obtain ⟨g1,g2⟩:=h1;obtain ⟨g3,g4⟩:=h2;have hxy:x=y:=by
   apply Ap.1;have e1:¬x.toNat<y.toNat:=fun h=>g1 (AL.2 h);have e2:¬y.toNat<x.toNat:=fun h=>g3 (AL.2 h);omega
  subst hxy;have h3:Op.bytesLess a b=false:=by rcases g2 with g | g;exact absurd rfl g;exact g
  have h4:Op.bytesLess b a=false:=by rcases g4 with g | g;exact absurd rfl g;exact g
  rw[xk h3 h4]
theorem zfE:∀ a b:Lz,(Lib.compareBytes a b<0)=(Op.bytesLess a b=true)
 | [],[]=>by simp[Lib.compareBytes,Op.bytesLess]
 | [],_ :: _=>by simp[Lib.compareBytes,Op.bytesLess]
 | _ :: _,[]=>by simp[Lib.compareBytes,Op.bytesLess]
 | a :: x,b :: y=>by
  unfold Lib.compareBytes Op.bytesLess;by_cases h1:a<b
  ·simp[h1]
  ·rw[if_neg h1];by_cases h2:b<a
   ·have:a≠b:=fun e=>by subst e;exact h1 h2
    simp[h1,h2,this]
   ·have e:a=b:=by
     apply Ap.1;have e1:¬a.toNat<b.toNat:=fun h=>h1 (AL.2 h);have e2:¬b.toNat<a.toNat:=fun h=>h2 (AL.2 h);omega
    rw[if_neg h2,zfE x y];subst e;simp[h1]
theorem zez:∀ a b:Lz,(Lib.compareBytes a b=0)=(a=b)
 | [],[]=>by simp[Lib.compareBytes]
 | [],_ :: _=>by simp[Lib.compareBytes]
 | _ :: _,[]=>by simp[Lib.compareBytes]
 | a :: x,b :: y=>by
  unfold Lib.compareBytes;by_cases h1:a<b
  ·have:a≠b:=fun e=>by subst e;simp at h1
   simp[h1,this]
  ·rw[if_neg h1];by_cases h2:b<a
   ·have:a≠b:=fun e=>by subst e;exact h1 h2
    simp[h2,this]
   ·have e:a=b:=by
     apply Ap.1;have e1:¬a.toNat<b.toNat:=fun h=>h1 (AL.2 h);have e2:¬b.toNat<a.toNat:=fun h=>h2 (AL.2 h);omega
    rw[if_neg h2,zez x y];subst e;simp
def Js:zlv Lz:=⟨Op.bytesLess,Z6,Md,xk⟩
def Jn:zlv Int:=⟨fun a b=>decide (a<b),fun a=>by simp,fun h1 h2=>by simp at h1 h2 ⊢;omega,fun h1 h2=>by simp at h1 h2;omega⟩
section
variable {α κ:Type} [DecidableEq κ] (o:zlv κ) (key:α->κ)
def qT (xs:List α):Prop:=xs.Pairwise fun a b=>o.lt (key a) (key b)=true
def qu (n:κ) (xs:List α):Nat:=(xs.filter fun x=>o.lt (key x) n).length
def Yo (n:κ) (xs:List α):Bool:=xs.any fun x=>decide (key x=n)
def jO (n:κ) (xs:List α):Option α:=xs.find? fun x=>decide (key x=n)
def X0 (n:κ) (xs:List α):List α:=xs.filter fun x=>!decide (key x=n)
def Um (x:α):List α->List α
 | []=>[x]
 | y :: r=>if o.lt (key x) (key y) then x :: y :: r else y :: Um x r
variable {o:zlv κ} {key:α->κ}
theorem zlv.asym {a b:κ} (h:o.lt a b=true):o.lt b a=false:=by
 cases h':o.lt b a with
 | false=>rfl
 | true=>have:=o.tr h h';rw[o.irr]at this;cases this
theorem ZG (n:κ):∀ (xs:List α) (i:Nat),i<=xs.length->(∀ t (h:t<xs.length),t<i->o.lt (key xs[t]) n=true)->(∀ t (h:t<xs.length),i<=t->o.lt (key xs[t]) n=false)->qu o key n xs=i
 | [],i,h,_,_=>by simp at h;simp[qu,h]
 | x :: r,0,_,_,h2=>by
  have hx:o.lt (key x) n=false:=h2 0 (by simp) (Wb _);have ih:=ZG n r 0 (Wc _) (fun t h h'=>absurd h' (OK _)) (fun t h _=>h2 (t+1) (by simp;omega) (Wc _));unfold qu at ih ⊢;rw[O2 (by simp[hx])];exact ih
 | x :: r,i+1,h,h1,h2=>by
  have hx:o.lt (key x) n=true:=h1 0 (by simp) (A4 _);have ih:=ZG n r i (by simpa using h) (fun t h h'=>h1 (t+1) (by simp;omega) (by omega)) (fun t h h'=>h2 (t+1) (by simp;omega) (by omega));unfold qu at ih ⊢;rw[On (by simp[hx]),Wg,ih]
theorem ZE (n:κ) (xs:List α):qu o key n xs<=xs.length:=OH _ _
theorem Jy {y:α} {r:List α}:qT o key (y :: r)↔(∀ z∈r,o.lt (key y) (key z)=true)/\qT o key r:=Bt
theorem zck {n:κ} {y:α} {r:List α} (h:o.lt (key y) n=true):qu o key n (y :: r)=qu o key n r+1:=by
 unfold qu;rw[On (by simpa using h),Wg]
theorem zcC {n:κ} {y:α} {r:List α} (hR:qT o key (y :: r)) (h:o.lt (key y) n=false):qu o key n (y :: r)=0:=by
 obtain ⟨h1,_⟩:=Jy.1 hR;unfold qu;rw[Ak,AW];intro z hz;rcases WK.1 hz with rfl | hz
 ·simp[h]
 ·have h3:=h1 z hz;cases h4:o.lt (key z) n with
  | false=>simp
  | true=>have:=o.tr h3 h4;rw[h]at this;cases this
theorem zfH {n:κ} {y:α} {r:List α} (hR:qT o key (y :: r)) (h:o.lt (key y) n=false):Yo key n (y :: r)=decide (key y=n):=by
 obtain ⟨h1,_⟩:=Jy.1 hR;unfold Yo;rw[A7];have:(r.any fun x=>decide (key x=n))=false:=Om.2 fun z hz=>by
  have h3:=h1 z hz;simp only[W8];rintro rfl;rw[h3]at h;cases h
 rw[this,Az]
theorem Un (n:κ):∀ {xs:List α},qT o key xs->(∀ t (h:t<xs.length),t<qu o key n xs->o.lt (key xs[t]) n=true)/\(∀ t (h:t<xs.length),qu o key n xs<=t->o.lt (key xs[t]) n=false) /\
  (Yo key n xs=true->∃ h:qu o key n xs<xs.length,key xs[qu o key n xs]=n/\jO key n xs=some xs[qu o key n xs]/\X0 key n xs=xs.take (qu o key n xs)++xs.drop (qu o key n xs+1)/\∀ x,key x=n->Um o key x (X0 key n xs)=xs.set (qu o key n xs) x) /\
  (Yo key n xs=false->jO key n xs=none/\X0 key n xs=xs/\∀ x,key x=n->Um o key x xs=xs.take (qu o key n xs)++x :: xs.drop (qu o key n xs))
 | [],_=>⟨fun t h=>absurd h (OK _),fun t h=>absurd h (OK _),fun h=>(by cases h),fun _=>⟨rfl,rfl,fun x _=>rfl⟩⟩
 | y :: r,hR=>by
  obtain ⟨h1,h2⟩:=Jy.1 hR;obtain ⟨i1,i2,i3,i4⟩:=Un n h2;cases hy:o.lt (key y) n with
  | true =>
   have hne:key y≠n:=by rintro rfl;rw[o.irr]at hy;cases hy
   have hrk:=zck (r:=r) hy;have hhas:Yo key n (y :: r)=Yo key n r:=by unfold Yo;rw[A7,Wp hne,O4]
   have hfind:jO key n (y :: r)=jO key n r:=by unfold jO;rw[Bz (by simpa using hne)]
   have hless:X0 key n (y :: r)=y :: X0 key n r:=by unfold X0;rw[On (by simpa using hne)]
   have hput:∀ x q,key x=n->Um o key x (y :: q)=y :: Um o key x q:=fun x q hx=>by
    rw[Um,hx,zlv.asym hy];rfl
   rw[hhas,hfind,hless,hrk];refine ⟨fun t h ht=>?_,fun t h ht=>?_,fun h=>?_,fun h=>?_⟩
   ·cases t with
    | zero=>exact hy
    | succ t=>exact i1 t (by simpa using h) (by omega)
   ·cases t with
    | zero=>omega
    | succ t=>exact i2 t (by simpa using h) (by omega)
   ·obtain ⟨g,g1,g2,g3,g4⟩:=i3 h;refine ⟨by simp;omega,by simpa using g1,by simpa using g2,by rw[g3];simp,fun x hx=>?_⟩;rw[hput x _ hx,g4 x hx];simp
   ·obtain ⟨g1,g2,g3⟩:=i4 h;refine ⟨g1,by rw[g2],fun x hx=>?_⟩;rw[hput x _ hx,g3 x hx];simp
  | false =>
   have hrk:=zcC hR hy;have hhas:=zfH hR hy;rw[hrk,hhas];have hno:∀ z∈r,key z≠n:=fun z hz=>by
    have h3:=h1 z hz;rintro rfl;rw[h3]at hy;cases hy
   have hlr:X0 key n r=r:=by
    unfold X0;rw[BP];intro z hz;simpa using hno z hz
   refine ⟨fun t h ht=>absurd ht (OK _),fun t h _=>?_,fun h=>?_,fun h=>?_⟩
   ·cases t with
    | zero=>exact hy
    | succ t =>
     have h3:=h1 (r[t]'(by simpa using h)) (Wx _);show o.lt (key (r[t]'(by simpa using h))) n=false;cases h4:o.lt (key (r[t]'(by simpa using h))) n with
     | false=>rfl
     | true=>have:=o.tr h3 h4;rw[hy]at this;cases this
   ·have hk:key y=n:=WQ h;have hl:X0 key n (y :: r)=r:=by
     show (y :: r).filter (fun x=>!decide (key x=n))=r;rw[O2 (by simpa using hk)];exact hlr
    refine ⟨by simp,hk,by unfold jO;rw[BA (by simpa using hk)];rfl,by rw[hl];simp,fun x hx=>?_⟩;rw[hl];cases r with
    | nil=>rfl
    | cons z q =>
     have h3:=h1 z Wk;rw[hk]at h3;rw[Um,hx,h3];rfl
   ·have hk:key y≠n:=OP h;have hny:o.lt n (key y)=true:=by
     cases h5:o.lt n (key y) with
     | true=>rfl
     | false=>exact absurd (o.tot hy h5) hk
    refine ⟨?_,?_,fun x hx=>?_⟩
    ·unfold jO;rw[Bf];intro z hz;rcases WK.1 hz with rfl | hz
     ·simpa using hk
     ·simpa using hno z hz
    ·show (y :: r).filter (fun x=>!decide (key x=n))=y :: r;rw[On (by simpa using hk)];exact WA _ hlr
    ·rw[Um,hx,hny];rfl
theorem uD (n:κ) {xs:List α} (hR:qT o key xs) {i:Nat} (hi:qu o key n xs=i) (h:i<xs.length):Yo key n xs=decide (key xs[i]=n):=by
 subst hi;obtain ⟨_,_,h3,_⟩:=Un n hR;cases hh:Yo key n xs with
 | true=>obtain ⟨_,g,_⟩:=h3 hh;rw[Wo g]
 | false =>
  symm
  rw[Ow];intro e;unfold Yo at hh;rw[Om]at hh;exact hh _ (Wx h) (Wo e)
theorem Nk (n:κ) {xs:List α} (hR:qT o key xs) (hi:qu o key n xs=xs.length):Yo key n xs=false:=by
 obtain ⟨_,_,h3,_⟩:=Un n hR;cases hh:Yo key n xs with
 | false=>rfl
 | true=>obtain ⟨g,_⟩:=h3 hh;omega
theorem kT (n:κ) {xs:List α} (h:qT o key xs):qT o key (X0 key n xs):=h.filter _
theorem QA {x y:α}:∀ {xs:List α},y∈Um o key x xs↔y=x∨y∈xs
 | []=>by simp[Um]
 | z :: r=>by
  unfold Um;split
  ·simp
  ·rw[WK,QA,WK];constructor
   ·rintro (h | h | h)
    ·exact .inr (.inl h)
    ·exact .inl h
    ·exact .inr (.inr h)
   ·rintro (h | h | h)
    ·exact .inr (.inl h)
    ·exact .inl h
    ·exact .inr (.inr h)
theorem ZJ {n:κ} {y:α} {xs:List α}:y∈X0 key n xs↔y∈xs/\key y≠n:=by unfold X0;simp
theorem VU {x:α}:∀ {xs:List α},qT o key xs->(∀ y∈xs,key y≠key x)->qT o key (Um o key x xs)
 | [],_,_=>by unfold Um qT;simp
 | y :: r,hR,hne=>by
  obtain ⟨h1,h2⟩:=Jy.1 hR;unfold Um;cases hxy:o.lt (key x) (key y) with
  | true =>
   rw[if_pos rfl,Jy];refine ⟨fun z hz=>?_,hR⟩;rcases WK.1 hz with rfl | hz
   ·exact hxy
   ·exact o.tr hxy (h1 z hz)
  | false =>
   rw[if_neg (by simp),Jy];have hyx:o.lt (key y) (key x)=true:=by
    cases h:o.lt (key y) (key x) with
    | true=>rfl
    | false=>exact absurd (o.tot h hxy) (hne y Wk)
   refine ⟨fun z hz=>?_,VU h2 fun z hz=>hne z (Wl _ hz)⟩;rcases QA.1 hz with rfl | hz
   ·exact hyx
   ·exact h1 z hz
theorem kC {x:α} {xs:List α} (h:qT o key xs):qT o key (Um o key x (X0 key (key x) xs)):=
 VU (kT _ h) fun y hy=>(ZJ.1 hy).2
theorem xj (n:κ) (xs:List α):(X0 key n xs).length<=xs.length:=OH _ _
theorem UA (x:α):∀ xs:List α,(Um o key x xs).length=xs.length+1
 | []=>rfl
 | y :: r=>by
  unfold Um;split
  ·rfl
  ·rw[Wg,UA x r];rfl
end
end
section
open Go.RowKit
section
variable {G:zp}
theorem zc0 (rows:List (List C)) (hk:∀ r∈rows,r.length=2) (hs:jl rows) (hl:rows.length<=100000) :
  Y8 Tryz.prog G 279 [.sl 2 rows] [] 0 (zhf 2 rows):=by
 refine Y8.bySlice (fun h=>?_) (fun h a cap hr=>?_)
 ·refine foX (fun i=>if i=1000000+94 then [true,true] else []) Tryz.func279 ?_;dsimp only[Tryz.f279];push_cast;refine ⟨h,QZ Zc Yt rfl rfl (by decide) rfl (zK hk) rfl (Wb _) (Wb _) (by omega) (by omega) (fun hc=>absurd hc ?_) (fun _ c hc hm=>?_)⟩
  ·have:=WE.2 h;omega
  ·push_cast;rw[Ox]at hc;refine ⟨_,_,_,⟨⟨rfl,.inl ⟨h,c,hc,hm,rfl,rfl⟩⟩,Wc _⟩,[],rfl,rfl,?_,by push_cast [ze,zd,CLe,zf]⟩;push_cast [ze,zd,CLe,zf];exact zT (zG hs)
 ·cases a with
  | none =>
   refine foX (fun i=>if i=1000000+94 then [true,true] else []) Tryz.func279 ?_;dsimp only[Tryz.f279];push_cast [hr,BW];exact ⟨_,_,_,⟨⟨rfl,.inr ⟨h,.inl ⟨rfl,rfl⟩⟩⟩,Wc _⟩,[],rfl,rfl,by push_cast [ze,zd,CLe,zf],by push_cast [ze,zd,CLe,zf]⟩
  | some a =>
   refine foX (fun i=>if i=1000000+94 then [true,true] else []) Tryz.func279 ?_;dsimp only[Tryz.f279];push_cast [hr,BX];have hx:C.xs? 2 [[]] (C.sc (.slice (some a) 0 cap))=some (0,[]):=by simp[C.xs?,hr]
   refine QZ Zc Yt hx rfl (by decide) rfl rfl rfl (Wb _) (Wb _) (by omega) (by omega) (fun _=>?_) (fun hc=>absurd hc (by omega));push_cast;exact ⟨_,_,_,⟨⟨rfl,.inr ⟨h,.inr ⟨rfl,rfl⟩⟩⟩,Wc _⟩,[],rfl,rfl,by (push_cast [ze,zd,CLe,zf];simp[spl,zf]),by push_cast [ze,zd,CLe,zf]⟩
theorem zas (rows:List (List C)) (x:List C) (i c e:Nat) (hk:∀ r∈rows,r.length=2) (hx:x.length=2) (hs:jl rows) (hsx:(x.all C.stayB)=true) (hl:rows.length<=100000) (hi:i<=rows.length) (hc:rows.length<=c) (hcm:c<=9223372036854775807) :
  Y8 Tryz.prog G 280 [.bs 0 0 2 rows.length c,.sc (.int .i64 i),.own 0 e 2 [x]] [qA 2 rows c] 1 (zrx 2 (c*2) (rows.take i++x :: rows.drop i)):=by
 refine foX (fun j=>if j=1000000+94 then [true,true] else if j=11 then [false,false,false,false,false,false,false,false,true] else if j=15 then [false,false,false,false,false,false,false,false,true] else []) Tryz.func280 ?_;dsimp only[Tryz.f280];push_cast;have hlen:(rows.take i++x :: rows.drop i).length=rows.length+1:=by simp;omega
 have hki:∀ r∈rows.take i++x :: rows.drop i,r.length=2:=fun r hr=>by
  rcases WG.1 hr with hr | hr
  ·exact hk r (Ww hr)
  ·rcases WK.1 hr with rfl | hr
   ·exact hx
   ·exact hk r (WU hr)
 have hsi:jl (rows.take i++x :: rows.drop i):=fun r hr=>by
  rcases WG.1 hr with hr | hr
  ·exact hs r (Ww hr)
  ·rcases WK.1 hr with rfl | hr
   ·exact hsx
   ·exact hs r (WU hr)
 have hbl:=JG hk hc;have hfl:=zK hk;have hxl:[x].flatten.length=1*2:=by simp[hx]
 have hpre:(qA 2 rows c).take rows.flatten.length=rows.flatten:=by unfold qA;rw[By]
 refine ⟨hc,⟨by omega,hi⟩,br (fun h=>?_) (fun h=>?_)⟩
 ·push_cast;refine QZ Zc Yt rfl rfl (by decide) rfl hxl rfl (by rw[hbl];omega) hc (by simp;omega) (by simp;omega) (fun h1=>?_) (fun h1 c' h2 h3=>?_)
  ·push_cast;have hi':i=rows.length:=WQ h;refine ⟨_,_,_,⟨⟨rfl,c,by rw[hlen];exact h1,hcm,.inl ⟨rfl,rfl⟩⟩,Wb _⟩,[],rfl,rfl,?_,by push_cast [ze,zd,CLe,zf,hlen]⟩;push_cast [ze,zd,CLe,zf];have h6:rows.length*2+2<=c*2:=by have:rows.length+1<=c:=h1;omega
   refine Jz hki hsi (by rw[hlen];exact h1) (by rw[Zq (by rw[hbl,hx];exact h6),hbl]) ?_;rw[hlen,hi',Of,AO];unfold spl;rw[←hfl,hpre,OJ (by simp[hx,hfl];omega)];simp
  ·push_cast;have hi':i=rows.length:=WQ h;have h2':rows.length+1<=c':=h2;refine ⟨_,_,_,⟨⟨rfl,c',by rw[hlen];exact h2,h3,.inr ⟨rfl,rfl⟩⟩,OR rfl⟩,[],rfl,rfl,?_,by push_cast [ze,zd,CLe,zf,hlen]⟩;push_cast [ze,zd,CLe,zf];refine ⟨XC hbl,Jz hki hsi (by rw[hlen];exact h2) (by simp[hx,hbl];omega) ?_⟩;rw[hlen,hi',Of,AO,←hfl,hpre,OJ (by simp[hx,hfl];omega)];simp
 ·have hne:i≠rows.length:=OP h;push_cast;refine ⟨⟨by omega,by omega⟩,br (fun h1=>?_) (fun h1=>?_)⟩
  ·have h1':(c:Int)<(rows.length:Int)+1:=WQ h1;push_cast
   repeat refine an ?_
   refine zmn Zc zoA Yt rfl (by decide) rfl rfl (by rw[hbl];omega) (by omega) (by omega) (by omega) (by omega) (by omega) (fun c' B h2 h3 hBl hBt=>?_);have e1:((rows.length:Int)+1-(i:Int)).toNat=rows.length+1-i:=by omega
   rw[e1]at h2 ⊢;have e2:i+(rows.length+1-i)=rows.length+1:=by omega
   rw[e2]at h2 ⊢;push_cast
   repeat refine an ?_
   refine XR Zc Yt rfl rfl hxl (by rw[hBl];omega) (fun B1 hB1 hl1=>?_);rw[hBl]at hl1;push_cast
   repeat refine an ?_
   have hbp:=XI (c:=c) hk hi;refine XR Zc Yt (Hq rfl (by rw[hbl];omega)) rfl (by rw[hbp,WZ,hfl];omega) (by rw[hl1];omega) (fun B2 hB2 hl2=>?_);rw[hl1]at hl2;have hX:[x].flatten.take (min [x].length (rows.length+1-i)*2)=x:=by
    rw[Ae,OI (by omega),Wh (by omega)];simp
   rw[hX]at hB1;rw[hbp,show min (rows.length-i) (rows.length-i)*2=(rows.length-i)*2 by omega,Wh (by rw[WZ,hfl];omega),hB1]at hB2;push_cast;refine ⟨_,_,_,⟨⟨rfl,c',by rw[hlen];exact h2,h3,.inr ⟨rfl,rfl⟩⟩,OR rfl⟩,[],rfl,rfl,?_,by push_cast [ze,zd,CLe,zf,hlen]⟩;push_cast [ze,zd,CLe,zf];refine ⟨XC hbl,Jz hki hsi (by rw[hlen];exact h2) hl2 ?_⟩;rw[hlen,←QL hk,hB2];have hg:=G5 (cs:=B) (L:=rows.flatten) (X:=x) (p:=i*2) (q:=(i+1)*2) (by omega) (by omega) (by
    rw[hBt,AQ];unfold qA;rw[OS (by omega)]) (by omega)
   rw[hfl,hx]at hg;rw[←hg];congr 1;omega
  ·have h1':¬(c:Int)<(rows.length:Int)+1:=OP h1;push_cast
   repeat refine an ?_
   refine zl7 (vS (P:=Tryz.prog) (tR:=4) Tryz.func290 (by kernel_rfl) (by kernel_rfl) (by kernel_rfl) (by kernel_rfl) Zc Yt rfl (Bi (by rw[hbl];omega)) (by simp) (by omega)) ?_;push_cast
   repeat refine an ?_
   have hbp:=XI (c:=c) hk hi;refine XR Zc Yt (Hq rfl (by rw[hbl];omega)) rfl (by simp[hbl];omega) (by rw[hbl];omega) (fun B1 hB1 hl1=>?_);rw[hbl]at hl1;rw[BY,OI (by omega),show min (rows.length+1-i) (rows.length-i)*2=(rows.length-i)*2 by omega,hbp]at hB1;push_cast
   repeat refine an ?_
   refine XR Zc Yt rfl rfl hxl (by rw[hl1];omega) (fun B2 hB2 hl2=>?_);rw[hl1]at hl2;have hX:[x].flatten.take (min [x].length (rows.length+1-i)*2)=x:=by
    rw[Ae,OI (by omega),Wh (by omega)];simp
   rw[hX,hB1]at hB2;push_cast;have hcc:rows.length+1<=c:=by omega
   refine ⟨_,_,_,⟨⟨rfl,c,by rw[hlen];exact hcc,hcm,.inl ⟨rfl,rfl⟩⟩,OR rfl⟩,[],rfl,rfl,?_,by push_cast [ze,zd,CLe,zf,hlen]⟩;push_cast [ze,zd,CLe,zf];refine Jz hki hsi (by rw[hlen];exact hcc) hl2 ?_;rw[hlen,←QL hk,hB2];have hg:=Hu (cs:=qA 2 rows c) (L:=rows.flatten) (X:=x) (p:=i*2) (q:=(i+1)*2) (by omega) (by omega) hpre (by omega);rw[hfl,hx]at hg;rw[←hg];congr 1;omega
theorem zim {e:Nat} (x:List C) (hx:x.length=2) (hsx:(x.all C.stayB)=true) :
  Y8 Tryz.prog G 280 [.sc (.slice none 0 0),.sc (.int .i64 0),.own 0 e 2 [x]] [] 1 (fun r bx' n=>n=0/\∃ c,1<=c/\c<=9223372036854775807/\r = .bs 0 0 2 1 c/\bx' = [qA 2 [x] c]):=by
 refine foX (fun j=>if j=1000000+94 then [true,true] else if j=11 then [false,false,false,false,false,false,false,false,true] else if j=15 then [false,false,false,false,false,false,false,false,true] else []) Tryz.func280 ?_;dsimp only[Tryz.f280];push_cast;refine Nu Zc Yt rfl rfl (by decide) rfl (by simp[hx]) (by simp) (by simp) (by simp) (fun c h1 h2=>?_);push_cast;refine ⟨_,_,_,⟨⟨rfl,c,h1,h2,rfl,rfl⟩,Wc _⟩,[],rfl,rfl,?_,by push_cast [ze,zd,CLe,zf]⟩;push_cast [ze,zd,CLe,zf];have:=zT (src:=[]) (n:=1) (zG (k:=2) (c:=c) (rows:=[x]) fun r hr=>by
  rw[Ob.1 hr];exact hsx)
 unfold qA at this ⊢;simpa using this
end
end
end Go.Proofs.YtaipngaejfndgaaGreatDoor.Vcg
section
namespace Go.Proofs
open YtaipngaejfndgaaGreatDoor
open Go.Shelf
def Tryz.lays169_ren:Go.Shelf.Ren:=⟨fun | 169=>175 | n=>n,fun | 70=>207 | 9=>9 | 0=>0 | 72=>209 | 37=>164 | 127=>245 | 3=>3 | 5=>5 | n=>n,fun | n=>n⟩
theorem Tryz.lays169:Go.Proofs.Lays.n169 Tryz.prog Tryz.lays169_ren:={
 mixed:=by kernel_rfl
 f169:=Tryz.func175.trans (WA some (by kernel_rfl))
 t0:=Tryz.underlying0
 a0:=Tryz.isAgg0
 z0:=Tryz.sizeOf0
 v0:=Tryz.zeroValue0
 t3:=Tryz.underlying3
 a3:=Tryz.isAgg3
 z3:=Tryz.sizeOf3
 v3:=Tryz.zeroValue3
 t9:=Tryz.underlying9
 a9:=Tryz.isAgg9
 z9:=Tryz.sizeOf9
 v9:=Tryz.zeroValue9
 t37:=Tryz.underlying164
 a37:=Tryz.isAgg164
 z37:=Tryz.sizeOf164
 v37:=Tryz.zeroValue164
 t70:=Tryz.underlying207
 a70:=Tryz.isAgg207
 z70:=Tryz.sizeOf207
 v70:=Tryz.zeroValue207
 t72:=Tryz.underlying209
 a72:=Tryz.isAgg209
 z72:=Tryz.sizeOf209
 v72:=Tryz.zeroValue209
 t127:=Tryz.underlying245
 a127:=Tryz.isAgg245
 z127:=Tryz.sizeOf245
 v127:=Tryz.zeroValue245 }
theorem Tryz.Builder_Extra_169:Builder.Extra Tryz.prog Tryz.lays169_ren:={
 sizeBuilder:=by kernel_rfl
 liesBuilder:=by kernel_rfl
 t5:=Tryz.underlying5
 a5:=Tryz.isAgg5
 z5:=Tryz.sizeOf5
 v5:=Tryz.zeroValue5
 infoByte:=by kernel_rfl
 cellsByte:=by kernel_rfl
 sizeByte:=by kernel_rfl
 neB5:=by decide }
open Go.RowKit in
theorem Tryz.Builder_String_any (B b:Nat) (l:Lz) (w:World) (h:Lib.IsBuilder 209 5 B b (Lib.byteCells l) w) (hBw:B<=w.heap.size) :
  Calls Tryz.prog 175 #[.pointer (some ⟨b,0,none⟩)] w fun e w'=>e = .returned (.string ⟨l.toArray⟩)/\Below B w w':=Any.Builder_String_any Tryz.lays169 Tryz.Builder_Extra_169 B b l w h hBw
def Tryz.lays156_ren:Go.Shelf.Ren:=⟨fun | 156=>130 | 165=>173 | 166=>174 | 169=>175 | 240=>215 | 241=>216 | 276=>249 | 277=>250 | n=>n,fun | 31=>30 | 9=>9 | 3=>3 | 4=>4 | 0=>0 | 20=>20 | 72=>209 | 76=>213 | 70=>207 | 37=>164 | 75=>212 | 127=>245 | 164=>270 | 5=>5 | 80=>215 | n=>n,fun | n=>n⟩
theorem Tryz.lays156:Go.Proofs.Lays.n156 Tryz.prog Tryz.lays156_ren:={
 mixed:=by kernel_rfl
 f156:=Tryz.func130.trans (WA some (by kernel_rfl))
 f165:=Tryz.func173.trans (WA some (by kernel_rfl))
 f166:=Tryz.func174.trans (WA some (by kernel_rfl))
 f169:=Tryz.func175.trans (WA some (by kernel_rfl))
 f240:=Tryz.func215.trans (WA some (by kernel_rfl))
 f241:=Tryz.func216.trans (WA some (by kernel_rfl))
 f276:=Tryz.func249.trans (WA some (by kernel_rfl))
 f277:=Tryz.func250.trans (WA some (by kernel_rfl))
 t0:=Tryz.underlying0
 a0:=Tryz.isAgg0
 z0:=Tryz.sizeOf0
 v0:=Tryz.zeroValue0
 t3:=Tryz.underlying3
 a3:=Tryz.isAgg3
 z3:=Tryz.sizeOf3
 v3:=Tryz.zeroValue3
 t4:=Tryz.underlying4
 a4:=Tryz.isAgg4
 z4:=Tryz.sizeOf4
 v4:=Tryz.zeroValue4
 t9:=Tryz.underlying9
 a9:=Tryz.isAgg9
 z9:=Tryz.sizeOf9
 v9:=Tryz.zeroValue9
 t20:=Tryz.underlying20
 a20:=Tryz.isAgg20
 z20:=Tryz.sizeOf20
 v20:=Tryz.zeroValue20
 t31:=Tryz.underlying30
 a31:=Tryz.isAgg30
 z31:=Tryz.sizeOf30
 v31:=Tryz.zeroValue30
 t37:=Tryz.underlying164
 a37:=Tryz.isAgg164
 z37:=Tryz.sizeOf164
 v37:=Tryz.zeroValue164
 t70:=Tryz.underlying207
 a70:=Tryz.isAgg207
 z70:=Tryz.sizeOf207
 v70:=Tryz.zeroValue207
 t72:=Tryz.underlying209
 a72:=Tryz.isAgg209
 z72:=Tryz.sizeOf209
 v72:=Tryz.zeroValue209
 t75:=Tryz.underlying212
 a75:=Tryz.isAgg212
 z75:=Tryz.sizeOf212
 v75:=Tryz.zeroValue212
 t76:=Tryz.underlying213
 a76:=Tryz.isAgg213
 z76:=Tryz.sizeOf213
 v76:=Tryz.zeroValue213
 t127:=Tryz.underlying245
 a127:=Tryz.isAgg245
 z127:=Tryz.sizeOf245
 v127:=Tryz.zeroValue245
 t164:=Tryz.underlying270
 a164:=Tryz.isAgg270
 z164:=Tryz.sizeOf270
 v164:=Tryz.zeroValue270 }
theorem Tryz.Builder_Extra_156:Builder.Extra Tryz.prog Tryz.lays156_ren:={
 sizeBuilder:=by kernel_rfl
 liesBuilder:=by kernel_rfl
 t5:=Tryz.underlying5
 a5:=Tryz.isAgg5
 z5:=Tryz.sizeOf5
 v5:=Tryz.zeroValue5
 infoByte:=by kernel_rfl
 cellsByte:=by kernel_rfl
 sizeByte:=by kernel_rfl
 neB5:=by decide }
open Go.RowKit in
theorem Tryz.strings_Join_none (a:Option Addr) (c:Nat) (sep:ByteArray) (w:World) :
  Calls Tryz.prog 130 #[.slice a 0 c,.string sep] w fun e w'=>e = .returned (.string ⟨#[]⟩)/\w'=w:=Any.strings_Join_none Tryz.lays156 Tryz.Builder_Extra_156 a c sep w
open Go.RowKit in
theorem Tryz.strings_Join (bk o c:Nat) (xs:List ByteArray) (sep:ByteArray) (w:World) (hcells:∀ (j:Nat) x,xs[j]?=some x->w.cell? ⟨bk,o+j,none⟩=some (.string x)) (hbk:bk<w.heap.size) (hN:xs.length<=140737488355328) (hcap:xs.length<=c) (hlen:(Lib.join (xs.map (·.data.toList)) sep.data.toList).length<=140737488355328) :
  Calls Tryz.prog 130 #[.slice (some ⟨bk,o,none⟩) xs.length c,.string sep] w fun e w'=>e = .returned (.string ⟨(Lib.join (xs.map (·.data.toList)) sep.data.toList).toArray⟩)/\Below w.heap.size w w':=Any.strings_Join Tryz.lays156 Tryz.Builder_Extra_156 bk o c xs sep w hcells hbk hN hcap hlen
def Tryz.lays162_ren:Go.Shelf.Ren:=⟨fun | 162=>170 | 232=>210 | 227=>206 | 234=>211 | 236=>212 | 228=>207 | 271=>247 | 151=>248 | 120=>273 | 197=>209 | 152=>204 | 260=>246 | 137=>71 | 119=>243 | 224=>244 | 225=>245 | 217=>121 | 266=>168 | n=>n,fun | 9=>9 | 4=>4 | 3=>3 | 5=>5 | 117=>235 | 116=>234 | 0=>0 | 124=>242 | 21=>21 | 105=>238 | 46=>218 | 119=>284 | 139=>287 | 138=>286 | n=>n,fun | 3=>5 | 4=>6 | n=>n⟩
theorem Tryz.lays162:Go.Proofs.Lays.n162 Tryz.prog Tryz.lays162_ren:={
 mixed:=by kernel_rfl
 f119:=Tryz.func243.trans (WA some (by kernel_rfl))
 f120:=Tryz.func273.trans (WA some (by kernel_rfl))
 f137:=Tryz.func71.trans (WA some (by kernel_rfl))
 f151:=Tryz.func248.trans (WA some (by kernel_rfl))
 f152:=Tryz.func204.trans (WA some (by kernel_rfl))
 f162:=Tryz.func170.trans (WA some (by kernel_rfl))
 f197:=Tryz.func209.trans (WA some (by kernel_rfl))
 f217:=Tryz.func121.trans (WA some (by kernel_rfl))
 f224:=Tryz.func244.trans (WA some (by kernel_rfl))
 f225:=Tryz.func245.trans (WA some (by kernel_rfl))
 f227:=Tryz.func206.trans (WA some (by kernel_rfl))
 f228:=Tryz.func207.trans (WA some (by kernel_rfl))
 f232:=Tryz.func210.trans (WA some (by kernel_rfl))
 f234:=Tryz.func211.trans (WA some (by kernel_rfl))
 f236:=Tryz.func212.trans (WA some (by kernel_rfl))
 f260:=Tryz.func246.trans (WA some (by kernel_rfl))
 f266:=Tryz.func168.trans (WA some (by kernel_rfl))
 f271:=Tryz.func247.trans (WA some (by kernel_rfl))
 t0:=Tryz.underlying0
 a0:=Tryz.isAgg0
 z0:=Tryz.sizeOf0
 v0:=Tryz.zeroValue0
 t3:=Tryz.underlying3
 a3:=Tryz.isAgg3
 z3:=Tryz.sizeOf3
 v3:=Tryz.zeroValue3
 t4:=Tryz.underlying4
 a4:=Tryz.isAgg4
 z4:=Tryz.sizeOf4
 v4:=Tryz.zeroValue4
 t5:=Tryz.underlying5
 a5:=Tryz.isAgg5
 z5:=Tryz.sizeOf5
 v5:=Tryz.zeroValue5
 t9:=Tryz.underlying9
 a9:=Tryz.isAgg9
 z9:=Tryz.sizeOf9
 v9:=Tryz.zeroValue9
 t21:=Tryz.underlying21
 a21:=Tryz.isAgg21
 z21:=Tryz.sizeOf21
 v21:=Tryz.zeroValue21
 t46:=Tryz.underlying218
 a46:=Tryz.isAgg218
 z46:=Tryz.sizeOf218
 v46:=Tryz.zeroValue218
 t105:=Tryz.underlying238
 a105:=Tryz.isAgg238
 z105:=Tryz.sizeOf238
 v105:=Tryz.zeroValue238
 t116:=Tryz.underlying234
 a116:=Tryz.isAgg234
 z116:=Tryz.sizeOf234
 t117:=Tryz.underlying235
 a117:=Tryz.isAgg235
 z117:=Tryz.sizeOf235
 v117:=Tryz.zeroValue235
 t119:=Tryz.underlying284
 a119:=Tryz.isAgg284
 z119:=Tryz.sizeOf284
 t124:=Tryz.underlying242
 a124:=Tryz.isAgg242
 z124:=Tryz.sizeOf242
 v124:=Tryz.zeroValue242
 t138:=Tryz.underlying286
 a138:=Tryz.isAgg286
 z138:=Tryz.sizeOf286
 v138:=Tryz.zeroValue286
 t139:=Tryz.underlying287
 a139:=Tryz.isAgg287
 z139:=Tryz.sizeOf287
 v139:=Tryz.zeroValue287
 g3:=by kernel_rfl
 g4:=by kernel_rfl }
def Tryz.lays119_ren:Go.Shelf.Ren:=⟨fun | 119=>243 | n=>n,fun | 21=>21 | 4=>4 | n=>n,fun | n=>n⟩
theorem Tryz.lays119:Go.Proofs.Lays.n119 Tryz.prog Tryz.lays119_ren:={
 mixed:=by kernel_rfl
 f119:=Tryz.func243.trans (WA some (by kernel_rfl))
 t4:=Tryz.underlying4
 a4:=Tryz.isAgg4
 z4:=Tryz.sizeOf4
 v4:=Tryz.zeroValue4
 t21:=Tryz.underlying21
 a21:=Tryz.isAgg21
 z21:=Tryz.sizeOf21
 v21:=Tryz.zeroValue21 }
theorem Tryz.utf8_ValidRune (r:Int) (w:World) :
  Calls Tryz.prog 243 #[.int .i32 r] w fun e w'=>e = .returned (.bool (Lib.validRune r))/\w'=w:=Any.utf8_ValidRune Tryz.lays119 r w
def Tryz.lays106_ren:Go.Shelf.Ren:=⟨fun | 106=>221 | 213=>252 | 265=>275 | n=>n,fun | 9=>9 | 3=>3 | n=>n,fun | n=>n⟩
theorem Tryz.lays106:Go.Proofs.Lays.n106 Tryz.prog Tryz.lays106_ren:={
 mixed:=by kernel_rfl
 f106:=Tryz.func221.trans (WA some (by kernel_rfl))
 f213:=Tryz.func252.trans (WA some (by kernel_rfl))
 f265:=Tryz.func275.trans (WA some (by kernel_rfl))
 t3:=Tryz.underlying3
 a3:=Tryz.isAgg3
 z3:=Tryz.sizeOf3
 v3:=Tryz.zeroValue3
 t9:=Tryz.underlying9
 a9:=Tryz.isAgg9
 z9:=Tryz.sizeOf9
 v9:=Tryz.zeroValue9 }
open Go.RowKit in
theorem Tryz.strings_Compare (a b:ByteArray) (w:World) :
  Calls Tryz.prog 221 #[.string a,.string b] w fun e w'=>e = .returned (.int .i64 (Lib.compareBytes a.data.toList b.data.toList))/\w'=w:=Any.strings_Compare Tryz.lays106 a b w
def Tryz.lays137_ren:Go.Shelf.Ren:=⟨fun | 137=>71 | 217=>121 | 266=>168 | n=>n,fun | 9=>9 | 5=>5 | 3=>3 | n=>n,fun | n=>n⟩
theorem Tryz.lays137:Go.Proofs.Lays.n137 Tryz.prog Tryz.lays137_ren:={
 mixed:=by kernel_rfl
 f137:=Tryz.func71.trans (WA some (by kernel_rfl))
 f217:=Tryz.func121.trans (WA some (by kernel_rfl))
 f266:=Tryz.func168.trans (WA some (by kernel_rfl))
 t3:=Tryz.underlying3
 a3:=Tryz.isAgg3
 z3:=Tryz.sizeOf3
 v3:=Tryz.zeroValue3
 t5:=Tryz.underlying5
 a5:=Tryz.isAgg5
 z5:=Tryz.sizeOf5
 v5:=Tryz.zeroValue5
 t9:=Tryz.underlying9
 a9:=Tryz.isAgg9
 z9:=Tryz.sizeOf9
 v9:=Tryz.zeroValue9 }
open Go.RowKit in
theorem Tryz.strings_IndexByte (s:ByteArray) (c:Int) (w:World) :
  Calls Tryz.prog 71 #[.string s,.int .u8 c] w fun e w'=>e = .returned (.int .i64 (Lib.indexByte s.data.toList c.toNat.toUInt8))/\w'=w:=Any.strings_IndexByte Tryz.lays137 s c w
def Tryz.lays143_ren:Go.Shelf.Ren:=⟨fun | 143=>177 | 219=>217 | 217=>121 | 225=>245 | 224=>244 | 267=>251 | 266=>168 | 314=>274 | n=>n,fun | 9=>9 | 3=>3 | 4=>4 | 5=>5 | 46=>218 | 146=>289 | 51=>288 | n=>n,fun | 1=>3 | n=>n⟩
theorem Tryz.lays143:Go.Proofs.Lays.n143 Tryz.prog Tryz.lays143_ren:={
 mixed:=by kernel_rfl
 f143:=Tryz.func177.trans (WA some (by kernel_rfl))
 f217:=Tryz.func121.trans (WA some (by kernel_rfl))
 f219:=Tryz.func217.trans (WA some (by kernel_rfl))
 f224:=Tryz.func244.trans (WA some (by kernel_rfl))
 f225:=Tryz.func245.trans (WA some (by kernel_rfl))
 f266:=Tryz.func168.trans (WA some (by kernel_rfl))
 f267:=Tryz.func251.trans (WA some (by kernel_rfl))
 f314:=Tryz.func274.trans (WA some (by kernel_rfl))
 t3:=Tryz.underlying3
 a3:=Tryz.isAgg3
 z3:=Tryz.sizeOf3
 v3:=Tryz.zeroValue3
 t4:=Tryz.underlying4
 a4:=Tryz.isAgg4
 z4:=Tryz.sizeOf4
 v4:=Tryz.zeroValue4
 t5:=Tryz.underlying5
 a5:=Tryz.isAgg5
 z5:=Tryz.sizeOf5
 v5:=Tryz.zeroValue5
 t9:=Tryz.underlying9
 a9:=Tryz.isAgg9
 z9:=Tryz.sizeOf9
 v9:=Tryz.zeroValue9
 t46:=Tryz.underlying218
 a46:=Tryz.isAgg218
 z46:=Tryz.sizeOf218
 v46:=Tryz.zeroValue218
 t51:=Tryz.underlying288
 a51:=Tryz.isAgg288
 z51:=Tryz.sizeOf288
 v51:=Tryz.zeroValue288
 t146:=Tryz.underlying289
 a146:=Tryz.isAgg289
 z146:=Tryz.sizeOf289
 v146:=Tryz.zeroValue289
 g1:=by kernel_rfl }
open Go.RowKit Go.Lib in
theorem Tryz.strings_Index_one (s:ByteArray) (c:UInt8) (w:World) :
  Calls Tryz.prog 177 #[.string s,.string ⟨#[c]⟩] w fun e w'=>e = .returned (.int .i64 (Lib.indexByte s.data.toList c))/\w'=w:=Any.strings_Index_one Tryz.lays143 s c w
def Tryz.lays99_ren:Go.Shelf.Ren:=⟨fun | 99=>98 | 206=>144 | n=>n,fun | 9=>9 | 4=>4 | 3=>3 | n=>n,fun | n=>n⟩
theorem Tryz.lays99:Go.Proofs.Lays.n99 Tryz.prog Tryz.lays99_ren:={
 mixed:=by kernel_rfl
 f99:=Tryz.func98.trans (WA some (by kernel_rfl))
 f206:=Tryz.func144.trans (WA some (by kernel_rfl))
 t3:=Tryz.underlying3
 a3:=Tryz.isAgg3
 z3:=Tryz.sizeOf3
 v3:=Tryz.zeroValue3
 t4:=Tryz.underlying4
 a4:=Tryz.isAgg4
 z4:=Tryz.sizeOf4
 v4:=Tryz.zeroValue4
 t9:=Tryz.underlying9
 a9:=Tryz.isAgg9
 z9:=Tryz.sizeOf9
 v9:=Tryz.zeroValue9 }
open Go.RowKit Go.Lib in
theorem Tryz.strings_HasPrefix (s p:ByteArray) (w:World) :
  Calls Tryz.prog 98 #[.string s,.string p] w fun e w'=>e = .returned (.bool (Lib.hasPrefix s.data.toList p.data.toList))/\w'=w:=Any.strings_HasPrefix Tryz.lays99 s p w
def Tryz.lays100_ren:Go.Shelf.Ren:=⟨fun | 100=>100 | 207=>146 | n=>n,fun | 9=>9 | 4=>4 | 3=>3 | n=>n,fun | n=>n⟩
theorem Tryz.lays100:Go.Proofs.Lays.n100 Tryz.prog Tryz.lays100_ren:={
 mixed:=by kernel_rfl
 f100:=Tryz.func100.trans (WA some (by kernel_rfl))
 f207:=Tryz.func146.trans (WA some (by kernel_rfl))
 t3:=Tryz.underlying3
 a3:=Tryz.isAgg3
 z3:=Tryz.sizeOf3
 v3:=Tryz.zeroValue3
 t4:=Tryz.underlying4
 a4:=Tryz.isAgg4
 z4:=Tryz.sizeOf4
 v4:=Tryz.zeroValue4
 t9:=Tryz.underlying9
 a9:=Tryz.isAgg9
 z9:=Tryz.sizeOf9
 v9:=Tryz.zeroValue9 }
open Go.RowKit Go.Lib in
theorem Tryz.strings_HasSuffix (s p:ByteArray) (w:World) (hs:s.size<=9223372036854775807) :
  Calls Tryz.prog 100 #[.string s,.string p] w fun e w'=>e = .returned (.bool (Lib.hasSuffix s.data.toList p.data.toList))/\w'=w:=Any.strings_HasSuffix Tryz.lays100 s p w hs
def Tryz.lays152_ren:Go.Shelf.Ren:=⟨fun | 152=>204 | 137=>71 | 119=>243 | 224=>244 | 225=>245 | 217=>121 | 266=>168 | n=>n,fun | 9=>9 | 21=>21 | 3=>3 | 4=>4 | 5=>5 | 0=>0 | 46=>218 | n=>n,fun | n=>n⟩
theorem Tryz.lays152:Go.Proofs.Lays.n152 Tryz.prog Tryz.lays152_ren:={
 mixed:=by kernel_rfl
 f119:=Tryz.func243.trans (WA some (by kernel_rfl))
 f137:=Tryz.func71.trans (WA some (by kernel_rfl))
 f152:=Tryz.func204.trans (WA some (by kernel_rfl))
 f217:=Tryz.func121.trans (WA some (by kernel_rfl))
 f224:=Tryz.func244.trans (WA some (by kernel_rfl))
 f225:=Tryz.func245.trans (WA some (by kernel_rfl))
 f266:=Tryz.func168.trans (WA some (by kernel_rfl))
 t0:=Tryz.underlying0
 a0:=Tryz.isAgg0
 z0:=Tryz.sizeOf0
 v0:=Tryz.zeroValue0
 t3:=Tryz.underlying3
 a3:=Tryz.isAgg3
 z3:=Tryz.sizeOf3
 v3:=Tryz.zeroValue3
 t4:=Tryz.underlying4
 a4:=Tryz.isAgg4
 z4:=Tryz.sizeOf4
 v4:=Tryz.zeroValue4
 t5:=Tryz.underlying5
 a5:=Tryz.isAgg5
 z5:=Tryz.sizeOf5
 v5:=Tryz.zeroValue5
 t9:=Tryz.underlying9
 a9:=Tryz.isAgg9
 z9:=Tryz.sizeOf9
 v9:=Tryz.zeroValue9
 t21:=Tryz.underlying21
 a21:=Tryz.isAgg21
 z21:=Tryz.sizeOf21
 v21:=Tryz.zeroValue21
 t46:=Tryz.underlying218
 a46:=Tryz.isAgg218
 z46:=Tryz.sizeOf218
 v46:=Tryz.zeroValue218 }
open Go.RowKit Go.Lib in
theorem Tryz.strings_IndexRune_ascii (s:ByteArray) (r:Int) (w:World) (h0:0<=r) (h1:r<128) :
  Calls Tryz.prog 204 #[.string s,.int .i32 r] w fun e w'=>e = .returned (.int .i64 (Lib.indexByte s.data.toList r.toNat.toUInt8))/\w'=w:=Any.strings_IndexRune_ascii Tryz.lays152 s r w h0 h1
def Tryz.lays226_ren:Go.Shelf.Ren:=⟨fun | 226=>205 | n=>n,fun | 3=>3 | 4=>4 | n=>n,fun | n=>n⟩
theorem Tryz.lays226:Go.Proofs.Lays.n226 Tryz.prog Tryz.lays226_ren:={
 mixed:=by kernel_rfl
 f226:=Tryz.func205.trans (WA some (by kernel_rfl))
 t3:=Tryz.underlying3
 a3:=Tryz.isAgg3
 z3:=Tryz.sizeOf3
 v3:=Tryz.zeroValue3
 t4:=Tryz.underlying4
 a4:=Tryz.isAgg4
 z4:=Tryz.sizeOf4
 v4:=Tryz.zeroValue4 }
open Go.RowKit Go.Lib in
theorem Tryz.strings_shouldUseASCIISet (n:Int) (w:World) :
  Calls Tryz.prog 205 #[.int .i64 n] w fun e w'=>e = .returned (.bool (decide (8<n)))/\w'=w:=Any.strings_shouldUseASCIISet Tryz.lays226 n w
def Tryz.lays153_ren:Go.Shelf.Ren:=⟨fun | 153=>167 | 152=>204 | 226=>205 | 227=>206 | 228=>207 | 137=>71 | 119=>243 | 224=>244 | 225=>245 | 217=>121 | 266=>168 | n=>n,fun | 9=>9 | 3=>3 | 4=>4 | 5=>5 | 21=>21 | 117=>235 | 116=>234 | 0=>0 | 46=>218 | 124=>242 | n=>n,fun | n=>n⟩
theorem Tryz.lays153:Go.Proofs.Lays.n153 Tryz.prog Tryz.lays153_ren:={
 mixed:=by kernel_rfl
 f119:=Tryz.func243.trans (WA some (by kernel_rfl))
 f137:=Tryz.func71.trans (WA some (by kernel_rfl))
 f152:=Tryz.func204.trans (WA some (by kernel_rfl))
 f153:=Tryz.func167.trans (WA some (by kernel_rfl))
 f217:=Tryz.func121.trans (WA some (by kernel_rfl))
 f224:=Tryz.func244.trans (WA some (by kernel_rfl))
 f225:=Tryz.func245.trans (WA some (by kernel_rfl))
 f226:=Tryz.func205.trans (WA some (by kernel_rfl))
 f227:=Tryz.func206.trans (WA some (by kernel_rfl))
 f228:=Tryz.func207.trans (WA some (by kernel_rfl))
 f266:=Tryz.func168.trans (WA some (by kernel_rfl))
 t0:=Tryz.underlying0
 a0:=Tryz.isAgg0
 z0:=Tryz.sizeOf0
 v0:=Tryz.zeroValue0
 t3:=Tryz.underlying3
 a3:=Tryz.isAgg3
 z3:=Tryz.sizeOf3
 v3:=Tryz.zeroValue3
 t4:=Tryz.underlying4
 a4:=Tryz.isAgg4
 z4:=Tryz.sizeOf4
 v4:=Tryz.zeroValue4
 t5:=Tryz.underlying5
 a5:=Tryz.isAgg5
 z5:=Tryz.sizeOf5
 v5:=Tryz.zeroValue5
 t9:=Tryz.underlying9
 a9:=Tryz.isAgg9
 z9:=Tryz.sizeOf9
 v9:=Tryz.zeroValue9
 t21:=Tryz.underlying21
 a21:=Tryz.isAgg21
 z21:=Tryz.sizeOf21
 v21:=Tryz.zeroValue21
 t46:=Tryz.underlying218
 a46:=Tryz.isAgg218
 z46:=Tryz.sizeOf218
 v46:=Tryz.zeroValue218
 t116:=Tryz.underlying234
 a116:=Tryz.isAgg234
 z116:=Tryz.sizeOf234
 t117:=Tryz.underlying235
 a117:=Tryz.isAgg235
 z117:=Tryz.sizeOf235
 v117:=Tryz.zeroValue235
 t124:=Tryz.underlying242
 a124:=Tryz.isAgg242
 z124:=Tryz.sizeOf242
 v124:=Tryz.zeroValue242 }
open Go.RowKit Go.Lib in
theorem Tryz.strings_IndexAny_long (hv116:∀ w,(zeroValue 234).run Tryz.prog w = .ok (.agg (Array.replicate 256 (.bool false))) w) (s chars:ByteArray) (w:World) (h2:2<=chars.size) (h8:8<s.size) (hs:s.size<4294967281) (hcs:chars.size<4294967281) (hascii:∀ (j:Nat) b,chars.data.toList[j]?=some b->b.toNat<128) :
  Calls Tryz.prog 167 #[.string s,.string chars] w fun e w'=>e = .returned (.int .i64 (Lib.indexAny s.data.toList chars.data.toList))/\w'=((w.alloc (.cells (Lib.setCells chars.data.toList) 234)).alloc (.cells (Lib.setCells chars.data.toList) 234)):=Any.strings_IndexAny_long Tryz.lays153 hv116 (by kernel_rfl) s chars w h2 h8 hs hcs hascii
end Go.Proofs
end
namespace Go.Proofs.YtaipngaejfndgaaGreatDoor.Vcg
variable {e k n off b q i u b1 j cap s1 size by':Nat} {v:Value} {R:Env} {L:Lay} {r args cs vs xs vs1 fargs:List C} {f:FuncId} {fn:Func} {code:Code} {l:Lz} {a:Int} {ps:List (Nat×C)} {KS:St->Prop} {H:List kS} {rest:List Oper} {dst:Option Tmp} {op:BinOp} {ty t2:TypeId} {pos:String} {af:Array Edge} {g:Option (Nat×Bool)} {fr:Fr} {us:List Operand} {ds:Option (List C)} {kd:LK} {z1 z2:Option (List Value)} {lo hi mx:Option Int} {k2:IntKind} {fp fo:Nat->Option Nat} {place:Nat->Option (Nat×Nat)} {ks1:MK} {fbx:List (List C)} {post:C->List (List C)->Nat->Prop}
section
open CA CB
open Go.RowKit
section
variable {G:zp}
theorem jp (f:FsV) (n:Int) (hl:f.xs.length<=100000) (hR:z8 f.xs):Fun Tryz.prog G 58 [.agg (fsC f),.sc (.int .i64 n)] (.tup [.agg (YB (zg n f.xs)),.sc (.bool (zk n f.xs))]) 0:=by
 refine fon Tryz.func58 ?_;dsimp only[Tryz.f58];push_cast;refine cl (zfU f n hl hR) ?_;push_cast;cases hh:zk n f.xs with
 | false =>
  have hg:zg n f.xs=Mg:=by unfold zg;rw[N1 hh];rfl
  push_cast [hh];exact dn (by push_cast [ze,zd,CLe,zf,hg,Mg])
 | true =>
  obtain ⟨hlt,hg⟩:=Ne hR hh;have hg:zg n f.xs=f.xs[jD n f.xs]:=by unfold zg;rw[hg];rfl
  have hat:=js f.xs _ hlt;push_cast [hh,hat]
  (try simp only[lS]);repeat refine an ?_
  exact dn (by push_cast [ze,zd,CLe,zf,hg])
theorem zU {xs:List zn}:∀ r∈zu xs,r.length=6:=fun r hr=>by
 obtain ⟨x,_,rfl⟩:=WR.1 hr;rfl
theorem zt {xs:List zn}:jl (zu xs):=fun r hr=>by
 obtain ⟨x,_,rfl⟩:=WR.1 hr;rfl
theorem VC (f:FsV) (x:zn) (hl:f.xs.length<=90000) (hR:z8 f.xs) :
  Fun Tryz.prog G 258 [.agg (fsC f),.agg (YB x)] (.agg [.sc (.int .i64 f.maxI),.sc (.int .i64 f.maxB),.sc (.int .i64 f.next),.own 0 96 6 (zu (qv x f.xs))]) 1:=by
 have hll:(zu f.xs).length=f.xs.length:=We ..;refine foF (fun _=>[]) Tryz.func258 ?_;dsimp only[Tryz.f258];push_cast;refine cl (zfU f x.ino (by omega) hR) ?_;push_cast;refine j6 [] [] (QQ (zu f.xs) zU zt (by omega)) rfl (by decide) (by decide) (by simp) (by push_cast) (by push_cast) (fun r bx' m hp=>?_);obtain ⟨rfl,⟨hne,c,h1,h2,rfl,rfl⟩ | ⟨he,⟨rfl,rfl⟩ | ⟨rfl,rfl⟩⟩⟩:=hp
 ·have hbl:=JG zU h1;have hre:∀ fp fo,C.reL fp fo (qA 6 (zu f.xs) c)=qA 6 (zu f.xs) c:=fun fp fo=>zD (zG zt);have hpos:=WE.2 hne;cases hh:zk x.ino f.xs with
  | true =>
   obtain ⟨hlt,_⟩:=Ne hR hh;have hst:=zar (c:=c) (rows:=zu f.xs) (row:=YB x) (i:=jD x.ino f.xs) zU rfl (by omega);have hset:zu (qv x f.xs)=(zu f.xs).set (jD x.ino f.xs) (YB x):=by rw[←vF hR hh];simp[List.map_set]
   push_cast [hh,hre,hst];refine ⟨by omega,by omega,by rw[hbl];omega,[(4,96,6,(zu f.xs).set (jD x.ino f.xs) (YB x),c)],[.inl 0],?_,rfl,rfl,by push_cast [ze,zd,CLe,zf,hset,Bq]⟩;rw[←hset];refine zB (by rw[hset];rfl) (by omega) (by rw[hset,Bq];exact h1) h2 zU zt
  | false =>
   have hset:zu (qv x f.xs)=(zu f.xs).take (jD x.ino f.xs)++YB x :: (zu f.xs).drop (jD x.ino f.xs):=by rw[←yM hR hh];simp
   have hrl:=ze3 x.ino f.xs;have hsl:(zu (qv x f.xs)).length=(zu f.xs).length+1:=by rw[hset];simp;omega
   push_cast [hh,hre];refine j6 [4] [0] (Uv (e:=96) (zu f.xs) (YB x) (jD x.ino f.xs) c zU rfl zt rfl (by omega) (by omega) h1 h2) rfl (by decide) (by decide) (by simp) (by push_cast) (by push_cast [hre]) (fun r bx' m hp=>?_);rw[←hset]at hp;have hre2:∀ fp fo c,C.reL fp fo (qA 6 (zu (qv x f.xs)) c)=qA 6 (zu (qv x f.xs)) c:=fun fp fo c=>zD (zG zt);obtain ⟨rfl,c',g1,g2,⟨rfl,rfl⟩ | ⟨rfl,rfl⟩⟩:=hp
   ·push_cast [hre2,hre];exact ⟨[(4,96,6,zu (qv x f.xs),c')],[.inl 1],zB rfl (by omega) g1 g2 zU zt,rfl,rfl,by push_cast [ze,zd,CLe,zf]⟩
   ·have hra:∀ fp fo,C.reL fp fo (List.replicate (c*6) .any)=List.replicate (c*6) .any:=fun fp fo=>zD (by simp[OL,C.stayB]);push_cast [hre2,hre,hra];exact ⟨[(5,96,6,zu (qv x f.xs),c')],[.inl 1],zB rfl (by omega) g1 g2 zU zt,rfl,rfl,by push_cast [ze,zd,CLe,zf]⟩
 ·have he:f.xs = []:=by simpa using he
  have hh:zk x.ino f.xs=false:=by rw[he];rfl
  have hr0:jD x.ino f.xs=0:=by rw[he];rfl
  have hset:qv x f.xs = [x]:=by rw[he];rfl
  push_cast [hh,hr0];refine j6 [] [0] (zbp (e:=96) (YB x) rfl rfl) rfl (by decide) (by decide) (by simp) (by push_cast) (by push_cast) (fun r bx' m hp=>?_);obtain ⟨rfl,c,g1,g2,rfl,rfl⟩:=hp;have hre:∀ fp fo,C.reL fp fo (qA 6 [YB x] c)=qA 6 [YB x] c:=fun fp fo=>zD (zG (zt (xs:=[x])));push_cast [hre];exact ⟨[(3,96,6,zu [x],c)],[.inl 1],zB rfl (by omega) g1 g2 zU zt,rfl,rfl,by push_cast [ze,zd,CLe,zf,hset]⟩
 ·have he:f.xs = []:=by simpa using he
  have hh:zk x.ino f.xs=false:=by rw[he];rfl
  have hr0:jD x.ino f.xs=0:=by rw[he];rfl
  have hset:qv x f.xs = [x]:=by rw[he];rfl
  push_cast [hh,hr0];refine j6 [3] [0] (Uv (e:=96) [] (YB x) 0 0 (fun r hr=>by cases hr) rfl (fun r hr=>by cases hr) rfl (by simp) (by simp) (by simp) (by simp)) rfl (by decide) (by decide) (by simp) (by push_cast) (by push_cast [qA]) (fun r bx' m hp=>?_);obtain ⟨rfl,c,g1,g2,hp⟩:=hp;have hre:∀ fp fo,C.reL fp fo (qA 6 [YB x] c)=qA 6 [YB x] c:=fun fp fo=>zD (zG (zt (xs:=[x])));rcases hp with ⟨rfl,rfl⟩ | ⟨rfl,rfl⟩
  ·push_cast [hre];exact ⟨[(3,96,6,zu [x],c)],[.inl 1],zB rfl (WL (AZ _) g1) g1 g2 zU zt,rfl,rfl,by push_cast [ze,zd,CLe,zf,hset]⟩
  ·push_cast [hre];exact ⟨[(4,96,6,zu [x],c)],[.inl 1],zB rfl (WL (AZ _) g1) g1 g2 zU zt,rfl,rfl,by push_cast [ze,zd,CLe,zf,hset]⟩
theorem zkQ (f:FsV) (n:Int) (hl:f.xs.length<=90000) (hR:z8 f.xs) (h0:f.xs≠[]) :
  Fun Tryz.prog G 262 [.agg (fsC f),.sc (.int .i64 n)] (.agg [.sc (.int .i64 f.maxI),.sc (.int .i64 f.maxB),.sc (.int .i64 f.next),.own 0 96 6 (zu (qh n f.xs))]) 1:=by
 have hll:(zu f.xs).length=f.xs.length:=We ..;refine foF (fun _=>[]) Tryz.func262 ?_;dsimp only[Tryz.f262];push_cast;refine cl (zfU f n (by omega) hR) ?_;push_cast;refine j6 [] [] (QQ (zu f.xs) zU zt (by omega)) rfl (by decide) (by decide) (by simp) (by push_cast) (by push_cast) (fun r bx' m hp=>?_);obtain ⟨rfl,⟨hne,c,h1,h2,rfl,rfl⟩ | ⟨he,_⟩⟩:=hp
 ·have hre:∀ fp fo,C.reL fp fo (qA 6 (zu f.xs) c)=qA 6 (zu f.xs) c:=fun fp fo=>zD (zG zt);have hpos:=WE.2 hne;cases hh:zk n f.xs with
  | true =>
   obtain ⟨hlt,_⟩:=Ne hR hh;have hset:zu (qh n f.xs)=(zu f.xs).take (jD n f.xs)++(zu f.xs).drop (jD n f.xs+1):=by rw[←zbt hR hh];simp
   have hsl:(zu (qh n f.xs)).length=(zu f.xs).length-1:=by rw[hset];simp;omega
   have hd:=zje (G:=G) (zu f.xs) (jD n f.xs) c zU zt (by omega) (by omega) h1 h2;rw[←hset,←hsl]at hd;have hre2:∀ fp fo,C.reL fp fo (qA 6 (zu (qh n f.xs)) c)=qA 6 (zu (qh n f.xs)) c:=fun fp fo=>zD (zG zt);push_cast [hh,hre]
   (try simp only[lS]);repeat refine an ?_
   rw[hll]at hd;refine Xp [3] [] hd rfl (by decide) (by decide) (by simp) (by push_cast) (by push_cast [hre]) ?_;push_cast [hre,hre2];exact ⟨[(3,96,6,zu (qh n f.xs),c)],[.inl 0],zB rfl (by omega) (by omega) h2 zU zt,rfl,rfl,by push_cast [ze,zd,CLe,zf]⟩
  | false =>
   push_cast [hh,hre];exact ⟨[(3,96,6,zu f.xs,c)],[.inl 0],zB rfl (by omega) h1 h2 zU zt,rfl,rfl,by push_cast [ze,zd,CLe,zf,Vc hh]⟩
 ·exact absurd (by simpa using he) h0
theorem zjz (f:FsV) (hl:f.xs.length<=90000) (h0:f.xs≠[]) (h1:-4611686018427387904<=f.next) (h2:f.next<=4611686018427387904) :
  Fun Tryz.prog G 256 [.agg (fsC f)] (.tup [.agg [.sc (.int .i64 f.maxI),.sc (.int .i64 f.maxB),.sc (.int .i64 (f.next+1)),.own 0 96 6 (zu f.xs)],.sc (.int .i64 f.next)]) 1:=by
 have hll:(zu f.xs).length=f.xs.length:=We ..;refine foF (fun _=>[]) Tryz.func256 ?_;dsimp only[Tryz.f256];push_cast
 (try simp only[lS]);repeat refine an ?_
 refine j6 [] [] (QQ (zu f.xs) zU zt (by omega)) rfl (by decide) (by decide) (by simp) (by push_cast) (by push_cast) (fun r bx' m hp=>?_);obtain ⟨rfl,⟨hne,c,h1,h2,rfl,rfl⟩ | ⟨he,_⟩⟩:=hp
 ·have hre:∀ fp fo,C.reL fp fo (qA 6 (zu f.xs) c)=qA 6 (zu f.xs) c:=fun fp fo=>zD (zG zt);have hpos:=WE.2 hne;push_cast [hre];exact ⟨[(3,96,6,zu f.xs,c)],[.inl 0],zB rfl (by omega) h1 h2 zU zt,rfl,rfl,by push_cast [ze,zd,CLe,zf]⟩
 ·exact absurd (by simpa using he) h0
theorem zkY {L:Loc} {id:Nat} (h:Rep R L (.own id e 6 [[.sc (.int .i64 1),.sc (.int .i64 2),.sc (.int .i64 0),.str [],.sc (.int .i64 1),.sc (.slice none 0 0)]]) v):Rep R L (.own id e 6 (zu [⟨1,2,0,[],1,[]⟩])) v:=
 zdd (by simp[RLe,zf,CLe]) h
end
end
section
open CA CB
open Go.RowKit
section
variable {G:zp}
theorem zcx {xs:List zn} (hi:i<xs.length) (h0:0<i):z8 (xs.take (i+1))↔z8 (xs.take i)/\xs[i-1].ino<xs[i].ino:=by
 rw[W1,Wa hi];unfold z8;rw[A5];simp only[Option.toList_some,Bv,true_and,Ob,forall_eq];constructor
 ·rintro ⟨h1,h2⟩;exact ⟨h1,h2 _ (AJ.2 ⟨i-1,by omega,rfl⟩)⟩
 ·rintro ⟨h1,h2⟩;refine ⟨h1,fun a ha=>?_⟩;obtain ⟨j,hj,rfl⟩:=AJ.1 ha;rcases Wr j (i-1) with q | q
  ·have:=(WV.1 h1) j (i-1) (by simp;omega) (by simp;omega) q;simp at this;omega
  ·have:j=i-1:=by omega
   subst this;exact h2
instance (xs:List zn):Decidable (z8 xs):=by unfold z8;infer_instance
theorem UE (f:FsV) (hl:f.xs.length<=100000):Fun Tryz.prog G 116 [.agg (fsC f)] (.sc (.bool (decide (z8 f.xs)))) 0:=by
 have hll:(zu f.xs).length=f.xs.length:=We ..;refine fon Tryz.func116 ?_;dsimp only[Tryz.f116];push_cast;refine loop (fun i:Nat=>⟨[(1,.ptr 0 0),(3,.sc (.int .i64 i))],[fsC f],0,0⟩) (fun i=>1<=i/\z8 (f.xs.take i)) (fun i=>f.xs.length-i) 1 ⟨Wb _,by
  cases f.xs with
  | nil=>exact List.Pairwise.nil
  | cons x r=>exact Bv _ _⟩ ?_ ?_
 ·exact wk
 ·rintro i ⟨h1,h2⟩;by_cases h:i<f.xs.length
  ·have g1:=js f.xs i h;have g2:=js f.xs (i-1) (by omega);have e1:(i:Int)-1=((i-1:Nat):Int):=by omega
   push_cast [hll,h,e1,g1,g2];by_cases hc:f.xs[i].ino<=f.xs[i-1].ino
   ·push_cast [hc]
    repeat refine an ?_
    have hn:¬z8 f.xs:=fun hR=>by
     have:=(WV.1 hR) (i-1) i (by omega) h (by omega);omega
    exact dn (by push_cast [ze,zd,CLe,zf,hn])
   ·push_cast [hc]
    repeat refine an ?_
    exact ⟨i+1,⟨by omega,(zcx h (by omega)).2 ⟨h2,by omega⟩⟩,by omega,wk⟩
  ·push_cast [hll,h];rw[Wh (by omega)]at h2;exact dn (by push_cast [ze,zd,CLe,zf,h2])
def yv (x:zn):Prop:=x.data.length<=5000/\x.es.length<=40/\∀ e∈x.es,e.name.length<=300
instance (x:zn):Decidable (yv x):=by unfold yv;infer_instance
def HE (xs:List zn):Prop:=xs.length<=40/\∀ x∈xs,yv x
instance (xs:List zn):Decidable (HE xs):=by unfold HE;infer_instance
structure FsS (f:FsV):Prop where
 len:f.xs.length<=10000
 node:∀ x∈f.xs,x.es.length<=10000/\x.data.length<=10000/\∀ e∈x.es,e.name.length<=10000
theorem HE.fs {f:FsV} (h:HE f.xs):FsS f:=⟨by have:=h.1;omega,fun x hx=>by
 obtain ⟨h1,h2,h3⟩:=h.2 x hx;exact ⟨by omega,by omega,fun e he=>by have:=h3 e he;omega⟩⟩
theorem zaY (f:FsV):Fun Tryz.prog G 113 [.agg (fsC f)] (.sc (.bool (decide (HE f.xs)))) 0:=by
 have hll:(zu f.xs).length=f.xs.length:=We ..;refine fon Tryz.func113 ?_;dsimp only[Tryz.f113];push_cast;refine loop (fun i:Nat=>⟨[(1,.ptr 0 0),(3,.sc (.int .i64 i))],[fsC f],0,0⟩) (fun i=>i<=100/\∀ t (h:t<f.xs.length),t<i->yv f.xs[t]) (fun i=>100-i) 0 ⟨Wc _,fun t h h'=>absurd h' (OK _)⟩ ?_ ?_
 ·exact wk
 ·rintro i ⟨h1,h2⟩;have hend:¬(i<f.xs.length/\i<100)->decide ((f.xs.length:Int)<=40)=decide (HE f.xs):=fun h=>by
   rw[Bb];constructor
   ·intro hle;refine ⟨by omega,fun x hx=>?_⟩;obtain ⟨t,ht,rfl⟩:=WF hx;exact h2 t ht (by omega)
   ·intro h;have:=h.1;omega
  by_cases h:i<f.xs.length
  ·by_cases h100:i<100
   ·have g1:=js f.xs i h;have h100':(i:Int)<100:=by omega
    have hbad:¬yv f.xs[i]->¬HE f.xs:=fun hs hf=>hs (hf.2 _ (Wx h));by_cases hd:5000<(f.xs[i].data.length:Int)
    ·have hn:=hbad fun hs=>by have:=hs.1;omega
     push_cast [hll,h,h100',g1,hd]
     repeat refine an ?_
     exact dn (by push_cast [ze,zd,CLe,zf,hn])
    ·by_cases he:40<(f.xs[i].es.length:Int)
     ·have hn:=hbad fun hs=>by have:=hs.2.1;omega
      push_cast [hll,h,h100',g1,hd,We,he]
      repeat refine an ?_
      exact dn (by push_cast [ze,zd,CLe,zf,hn])
     ·push_cast [hll,h,h100',g1,hd,We,he]
      repeat refine an ?_
      refine loop (fun j:Nat=>⟨[(1,.ptr 0 0),(3,.sc (.int .i64 i)),(4,.ptr 1 0),(5,.sc (.int .i64 j))],[fsC f,YB f.xs[i]],0,0⟩) (fun j=>j<=f.xs[i].es.length/\∀ t (h':t<f.xs[i].es.length),t<j->f.xs[i].es[t].name.length<=300) (fun j=>f.xs[i].es.length-j) 0 ⟨Wc _,fun t h h'=>absurd h' (OK _)⟩ ?_ ?_
      ·exact wk
      ·rintro j ⟨h3,h4⟩;by_cases hj:j<f.xs[i].es.length
       ·have g2:=Yx f.xs[i].es j hj;by_cases hs:300<(f.xs[i].es[j].name.length:Int)
        ·have hn:=hbad fun hs'=>by have:=hs'.2.2 _ (Wx hj);omega
         push_cast [We,hj,g2,hs]
         repeat refine an ?_
         exact dn (by push_cast [ze,zd,CLe,zf,hn])
        ·push_cast [We,hj,g2,hs]
         repeat refine an ?_
         refine ⟨j+1,⟨hj,fun t ht hlt=>?_⟩,by omega,wk⟩;rcases Wr t j with q | q
         ·exact h4 t ht q
         ·have:t=j:=by omega
          subst this;omega
       ·push_cast [We,hj]
        repeat refine an ?_
        refine ⟨i+1,⟨by omega,fun t ht hlt=>?_⟩,by omega,wk⟩;rcases Wr t i with q | q
        ·exact h2 t ht q
        ·have:t=i:=by omega
         subst this;refine ⟨by omega,by omega,fun e hee=>?_⟩;obtain ⟨u,hu,rfl⟩:=WF hee;exact h4 u hu (by omega)
   ·have h100':((i:Int)<100)=False:=WH (by omega);have:=hend (by omega);push_cast [hll,h,h100'];exact dn (by push_cast [ze,zd,CLe,zf,this])
  ·have:=hend (by omega);push_cast [hll,h];exact dn (by push_cast [ze,zd,CLe,zf,this])
theorem zhN (f:FsV) (n:Int) (hl:f.xs.length<=90000) :
  Fun Tryz.prog G 141 [.agg (fsC f),.sc (.int .i64 n)] (.agg [.sc (.int .i64 f.maxI),.sc (.int .i64 f.maxB),.sc (.int .i64 f.next),.own 0 96 6 (zu (qh n f.xs))]) 1:=by
 have hll:(zu f.xs).length=f.xs.length:=We ..;refine fon Tryz.func141 ?_;dsimp only[Tryz.f141];push_cast;refine loop (fun i:Nat=>⟨[(1,.sc (.int .i64 n)),(2,.ptr 0 0),(4,.ptr 1 0),(5,.own 0 96 6 (zu (qh n (f.xs.take i)))),(6,.sc (.int .i64 i))],[fsC f,[.sc (.int .i64 0),.sc (.int .i64 0),.sc (.int .i64 0),.sc (.slice none 0 0)]],1,0⟩) (fun i=>i<=f.xs.length) (fun i=>f.xs.length-i) 0 (Wc _) ?_ ?_
 ·exact wks [.inr (96,6)] (by push_cast [ze,zd,CLe,zf,qh,List.filter_nil])
 ·intro i h1;by_cases h:i<f.xs.length
  ·have g1:=js f.xs i h;have ht:qh n (f.xs.take (i+1))=qh n (f.xs.take i)++qh n [f.xs[i]]:=by
    unfold qh;rw[W1,Wa h,OW];rfl
   have hle:(qh n (f.xs.take i)).length<=i:=WM Z1 (by simp;omega);by_cases hc:f.xs[i].ino=n
   ·have ht:qh n (f.xs.take (i+1))=qh n (f.xs.take i):=by rw[ht,JU hc];simp[qh]
    push_cast [hll,h,g1,hc]
    repeat refine an ?_
    exact ⟨i+1,h,by omega,wks [.inl 0] (by push_cast [ze,zd,CLe,zf,ht])⟩
   ·have ht:qh n (f.xs.take (i+1))=qh n (f.xs.take i)++[f.xs[i]]:=by rw[ht,JV hc];simp[qh]
    push_cast [hll,h,g1,hc]
    repeat refine an ?_
    exact ⟨i+1,h,by omega,wks [.inl 0] (by push_cast [ze,zd,CLe,zf,ht,W9])⟩
  ·rw[Wh (by omega)];push_cast [hll,h];exact ⟨[.inl 0],rfl,rfl,by push_cast [ze,zd,CLe,zf]⟩
theorem zah (f:FsV) (x:zn) (hl:f.xs.length<=90000) :
  Fun Tryz.prog G 97 [.agg (fsC f),.agg (YB x)] (.agg [.sc (.int .i64 f.maxI),.sc (.int .i64 f.maxB),.sc (.int .i64 f.next),.own 0 96 6 (zu (qv x f.xs))]) 1:=by
 have hdl:(qh x.ino f.xs).length<=90000:=WM Z1 hl;have hl2:(zu (qh x.ino f.xs)).length=(qh x.ino f.xs).length:=We ..;refine fon Tryz.func97 ?_;dsimp only[Tryz.f97];push_cast;refine cl (zhN f x.ino hl) ?_;push_cast;unfold qv;generalize qh x.ino f.xs=rest at hdl hl2;refine loop (fun p:Nat×List zn×Bool=>⟨[(2,.ptr 0 0),(3,.ptr 1 0),(4,.ptr 2 0),(5,.sl 6 (zu rest)),(6,.own 0 96 6 (zu p.2.1)),(7,.sc (.bool p.2.2)),(8,.sc (.int .i64 p.1))],[fsC f,YB x,[.sc (.int .i64 0),.sc (.int .i64 0),.sc (.int .i64 0),.sc (.slice none 0 0)]],1,0⟩)
  (fun p=>p.1<=rest.length/\p.2.1.length<=p.1+p.2.2.toNat/\Zz x rest=p.2.1++(if p.2.2 then rest.drop p.1 else Zz x (rest.drop p.1))) (fun p=>rest.length-p.1) (0,[],false) ⟨Wc _,Wc _,by simp⟩ ?_ ?_
 ·exact wks [.inr (96,6)]
 ·rintro ⟨i,out,d⟩ ⟨h1,h2,h3⟩;dsimp only at h1 h2 h3 ⊢;have hlo:(zu out).length=out.length:=We ..;by_cases h:i<rest.length
  ·have g1:=js rest i h;rw[Oe h]at h3;cases d with
   | true =>
    simp only[Bool.toNat_true]at h2;push_cast [hl2,h,g1]
    repeat refine an ?_
    exact ⟨(i+1,out++[rest[i]],true),⟨h,by simp;omega,by rw[h3];simp⟩,by dsimp only;omega,wks [.inl 0] (by push_cast [ze,zd,CLe,zf,W9])⟩
   | false =>
    simp only[WN,W2,Zz]at h3;simp only[Bool.toNat_false]at h2;by_cases hc:x.ino<rest[i].ino
    ·rw[if_pos hc]at h3;push_cast [hl2,h,g1,hc]
     repeat refine an ?_
     exact ⟨(i+1,out++[x]++[rest[i]],true),⟨h,by simp;omega,by rw[h3];simp⟩,by dsimp only;omega,wks [.inl 0] (by push_cast [ze,zd,CLe,zf,W9])⟩
    ·rw[if_neg hc]at h3;push_cast [hl2,h,g1,hc]
     repeat refine an ?_
     exact ⟨(i+1,out++[rest[i]],false),⟨h,by simp;omega,by rw[h3];simp⟩,by dsimp only;omega,wks [.inl 0] (by push_cast [ze,zd,CLe,zf,W9])⟩
  ·rw[OM (by omega)]at h3;cases d with
   | true =>
    simp only[Bool.toNat_true]at h2;have h3:Zz x rest=out:=by rw[h3];simp
    push_cast [hl2,h];exact ⟨[.inl 0],rfl,rfl,by push_cast [ze,zd,CLe,zf,h3]⟩
   | false =>
    simp only[Bool.toNat_false]at h2;have h3:Zz x rest=out++[x]:=by rw[h3];simp[Zz]
    push_cast [hl2,h]
    repeat refine an ?_
    exact ⟨[.inl 0],rfl,rfl,by push_cast [ze,zd,CLe,zf,h3,W9]⟩
theorem zid (i b:Int):Fun Tryz.prog G 25 [.sc (.int .i64 i),.sc (.int .i64 b)] (.agg [.sc (.int .i64 i),.sc (.int .i64 b),.sc (.int .i64 2),.own 0 96 6 (zu [⟨1,2,0,[],1,[]⟩])]) 1:=by
 refine Fun.resX (r:=.agg [.sc (.int .i64 i),.sc (.int .i64 b),.sc (.int .i64 2),.own 0 96 6 [[.sc (.int .i64 1),.sc (.int .i64 2),.sc (.int .i64 0),.str [],.sc (.int .i64 1),.sc (.slice none 0 0)]]]) ?_ fun R L v h =>
  zbR (fun vs=>YM (fun v h=>h) (fun vs=>YM (fun v h=>h) fun vs=>YM (fun v h=>h) fun vs=>YM (fun v=>zkY) fun vs h=>h)) h
 refine fon Tryz.func25 ?_;dsimp only[Tryz.f25];push_cast;exact ⟨[.inl 0],rfl,rfl,by push_cast [ze,zd,CLe,zf]⟩
end
end
section
open Go.RowKit
section
variable {G:zp}
theorem zke {n:Int} {xs:List zn} (h:i<xs.length):zk n (xs.take (i+1))=(zk n (xs.take i)||(xs[i].ino==n)):=by
 unfold zk;rw[W1,Wa h,BL];simp
theorem zh7 {n:Int} {xs:List zn} (h:i<xs.length) (h0:zk n (xs.take i)=false) (he:xs[i].ino=n):zk n xs=true/\zg n xs=xs[i]:=by
 refine ⟨OA.2 ⟨xs[i],Wx h,by simp[he]⟩,?_⟩;unfold zg X8;rw[Ba (b:=xs[i]) |>.2 ⟨by simp[he],i,h,rfl,fun j hj=>?_⟩]
 ·rfl
 ·unfold zk at h0;rw[Om]at h0;have:=h0 xs[j] (AJ.2 ⟨j,by omega,rfl⟩);simpa using this
theorem j5 (f:FsV) (n:Int) (hl:f.xs.length<=100000):Fun Tryz.prog G 53 [.agg (fsC f),.sc (.int .i64 n)] (.tup [.agg (YB (zg n f.xs)),.sc (.bool (zk n f.xs))]) 0:=by
 have hll:(zu f.xs).length=f.xs.length:=We ..;refine fon Tryz.func53 ?_;dsimp only[Tryz.f53];push_cast;refine loop (fun i:Nat=>⟨[(1,.sc (.int .i64 n)),(2,.ptr 0 0),(4,.ptr 1 0),(6,.sc (.int .i64 i))],[fsC f,[.sc (.int .i64 0),.sc (.int .i64 0),.sc (.int .i64 0),.str [],.sc (.int .i64 0),.sc (.slice none 0 0)]],0,0⟩) (fun i=>i<=f.xs.length/\zk n (f.xs.take i)=false) (fun i=>f.xs.length-i) 0 ⟨Wc _,rfl⟩ ?_ ?_
 ·exact wk
 ·rintro i ⟨h1,h2⟩;by_cases h:i<f.xs.length
  ·have g1:=js f.xs i h;by_cases he:f.xs[i].ino=n
   ·obtain ⟨q1,q2⟩:=zh7 h h2 he;push_cast [hll,h,g1,he]
    repeat refine an ?_
    exact dn (by push_cast [ze,zd,CLe,zf,q1,q2,he])
   ·have q:=zke (n:=n) h;rw[h2,show (f.xs[i].ino==n)=false from Ot.2 he]at q;push_cast [hll,h,g1,he]
    repeat refine an ?_
    exact ⟨i+1,⟨h,q⟩,by omega,wk⟩
  ·rw[Wh (by omega)]at h2;have hg:zg n f.xs=Mg:=by unfold zg;rw[N1 h2];rfl
   push_cast [hll,h];exact dn (by push_cast [ze,zd,CLe,zf,hg,h2,Mg])
def qe (xs:List zn):Nat:=((xs.filter fun x=>decide (x.kind=1)).map fun x=>x.data.length).sum
theorem kM:∀ {xs:List zn} {n:Nat},(∀ x∈xs,x.data.length<=n)->qe xs<=xs.length*n
 | [],n,_=>by simp[qe]
 | x :: r,n,h=>by
  have ih:=kM (xs:=r) (n:=n) fun y hy=>h y (Wl _ hy);have hx:=h x Wk;unfold qe at ih ⊢;rw[Ab];split
  ·simp only[Wm,OX,Wg];rw[AV];omega
  ·rw[Wg,AV];omega
theorem FsS.bytes {f:FsV} (h:FsS f):qe f.xs<=100000000:=by
 have h1:=kM (xs:=f.xs) (n:=10000) fun x hx=>(h.node x hx).2.1;have h2:=h.len;have:f.xs.length*10000<=10000*10000:=WS _ h2;omega
theorem Gj {xs:List zn} (h:i<xs.length):qe (xs.take (i+1))=qe (xs.take i)+if xs[i].kind=1 then xs[i].data.length else 0:=by
 unfold qe;rw[W1,Wa h,OW,W9,BM];by_cases hk:xs[i].kind=1<;>simp[hk]
theorem zdZ (f:FsV) (hf:FsS f):Fun Tryz.prog G 176 [.agg (fsC f)] (.sc (.int .i64 (qe f.xs:Nat))) 0:=by
 have hll:(zu f.xs).length=f.xs.length:=We ..;have h40:=hf.len;have hb0:qe []=0:=rfl;refine fon Tryz.func176 ?_;dsimp only[Tryz.f176];push_cast;refine loop (fun i:Nat=>⟨[(1,.ptr 0 0),(3,.sc (.int .i64 (qe (f.xs.take i):Nat))),(4,.sc (.int .i64 i))],[fsC f],0,0⟩) (fun i=>i<=f.xs.length/\qe (f.xs.take i)<=i*10000) (fun i=>f.xs.length-i) 0 ⟨Wc _,Wc _⟩ ?_ ?_
 ·exact wk (by push_cast [ze,zd,CLe,zf,hb0,Oy])
 ·rintro i ⟨h1,h2⟩;by_cases h:i<f.xs.length
  ·have g1:=js f.xs i h;have hd:=(hf.node _ (Wx h)).2.1;have q:=Gj h;by_cases hk:f.xs[i].kind=1
   ·rw[if_pos hk]at q;have q':((qe (f.xs.take (i+1)):Nat):Int)=(qe (f.xs.take i):Int)+(f.xs[i].data.length:Int):=by omega
    push_cast [hll,h,g1,hk]
    repeat refine an ?_
    exact ⟨i+1,⟨h,by omega⟩,by omega,wk (by push_cast [ze,zd,CLe,zf,q'])⟩
   ·rw[if_neg hk]at q;have q':qe (f.xs.take (i+1))=qe (f.xs.take i):=by omega
    push_cast [hll,h,g1,hk]
    repeat refine an ?_
    exact ⟨i+1,⟨h,by omega⟩,by omega,wk (by push_cast [ze,zd,CLe,zf,q'])⟩
  ·rw[Wh (by omega)];push_cast [hll,h];exact dn
end
end
section
open Go.RowKit
abbrev G0:zp:=fun _=>none
abbrev zoC (l:Lz):List C:=[.str l]
def VL (s:List Lz×Lz) (b:UInt8):List Lz×Lz:=
 if b=47 then (if s.2 = [] then s.1 else s.1++[s.2],[]) else (s.1,s.2++[b])
def zlo (s:List Lz×Lz):List Lz:=if s.2 = [] then s.1 else s.1++[s.2]
def nst (l:Lz) (k:Nat):List Lz×Lz:=if k<=l.length then (l.take k).foldl VL ([],[]) else (zlo (l.foldl VL ([],[])),[])
def zm (l:Lz):List Lz:=zlo (l.foldl VL ([],[]))
theorem zbr (l:Lz):nst l 0=([],[]):=by simp[nst]
theorem zaP (l:Lz) (k:Nat) (b:UInt8) (h:l[k]?=some b):nst l (k+1)=VL (nst l k) b:=by
 have hk:k<l.length:=(Wd.1 h).1;unfold nst;rw[if_pos (by omega),if_pos (by omega),W1,h];simp
theorem zdX (l:Lz):nst l (l.length+1)=(zm l,[]):=by
 unfold nst zm;rw[if_neg (by omega)]
theorem zgW (l:Lz):zlo (nst l l.length)=zm l:=by
 unfold nst zm;rw[if_pos (Wb _),Of]
theorem Nj (l:Lz):∀ k,k<=l.length->(nst l k).1.length+(nst l k).2.length<=k
 | 0,_=>by simp[zbr]
 | k+1,h=>by
  have hk:k<l.length:=by omega
  have ih:=Nj l k (by omega);rw[zaP l k l[k] (Wa hk)];unfold VL;by_cases h47:l[k]=47
  ·rw[if_pos h47];by_cases h2:(nst l k).2 = []
   ·simp[h2];omega
   ·have:0<(nst l k).2.length:=WE.2 h2;simp[h2];omega
  ·rw[if_neg h47];simp;omega
theorem qx (l:Lz):(zm l).length<=l.length:=by
 rw[←zgW];have:=Nj l l.length (Wb _);unfold zlo;split
 ·omega
 ·rename_i h;have:0<(nst l l.length).2.length:=WE.2 h;simp;omega
theorem xX {b c:UInt8} (h:b≠c):¬((b.toNat:Int)=(c.toNat:Int)):=fun e=>h (Ap.1 (by omega))
theorem zgu {α:Type} (l:List α) (k:Nat) (b:α) (h:l[k]?=some b):(l.take (k+1)).drop k = [b]:=by
 have hk:k<l.length:=(Wd.1 h).1;rw[W1,h,List.drop_append];simp[OI (by omega:k<=l.length)]
theorem ZS (l:Lz) (h:l.length<=2000000):Fun Tryz.prog G0 17 [.str l] (.own 0 9 1 ((zm l).map zoC)) 1:=by
 refine fon Tryz.func17 ?_;dsimp only[Tryz.f17];push_cast;refine loop (fun k:Nat=>⟨[(0,.str l),(3,.own 0 9 1 ((nst l k).1.map zoC)),(4,.str (nst l k).2),(5,.sc (.int .i64 k))],[],1,0⟩) (fun k=>k<=l.length+1) (fun k=>l.length+1-k) 0 (Wc _) ?_ ?_
 ·refine JM.mk [.inr (9,1)] rfl rfl (Wb _) rfl ?_ trivial;push_cast [ze,zd,CLe,zf];simp[zbr]
 ·intro k hk;push_cast;by_cases h1:k<=l.length
  ·have hs:=Nj l k h1;by_cases h2:k<l.length
   ·obtain ⟨b,hb⟩:∃ b,l[k]?=some b:=⟨l[k],Wa h2⟩;have hn:=zaP l k b hb;by_cases h3:b=47
    ·have h3':(b.toNat:Int)=47:=by subst h3;rfl
     by_cases h4:(nst l k).2 = []
     ·push_cast [h1,h2,h3',hb,h4]
      and_intros<;>try omega
      refine ⟨k+1,by omega,by omega,JM.mk [.inl 0] rfl rfl (Wb _) rfl ?_ trivial⟩;push_cast [ze,zd,CLe,zf];simp[hn,VL,h3,h4]
     ·push_cast [h1,h2,h3',hb,h4];simp only[We,Wg,Wz]
      and_intros<;>try omega
      refine ⟨k+1,by omega,by omega,JM.mk [.inl 0] rfl rfl (Wb _) rfl ?_ trivial⟩;push_cast [ze,zd,CLe,zf];simp[hn,VL,h3,h4,zoC]
    ·have h3':¬((b.toNat:Int)=47):=xX h3;push_cast [h1,h2,h3',hb];rw[zgu l k b hb]
     and_intros<;>try omega
     ·simp;omega
     refine ⟨k+1,by omega,by omega,JM.mk [.inl 0] rfl rfl (Wb _) rfl ?_ trivial⟩;push_cast [ze,zd,CLe,zf];simp[hn,VL,h3]
   ·obtain rfl:k=l.length:=by omega
    have hl:=zgW l;have he:=zdX l;have hz:=qx l;by_cases h4:(nst l l.length).2 = []
    ·push_cast [h1,h2,h4]
     and_intros<;>try omega
     refine ⟨l.length+1,by omega,by omega,JM.mk [.inl 0] rfl rfl (Wb _) rfl ?_ trivial⟩;push_cast [ze,zd,CLe,zf];simp[he,←hl,zlo,h4]
    ·push_cast [h1,h2,h4];simp only[We,Wg,Wz]
     and_intros<;>try omega
     refine ⟨l.length+1,by omega,by omega,JM.mk [.inl 0] rfl rfl (Wb _) rfl ?_ trivial⟩;push_cast [ze,zd,CLe,zf];simp[he,←hl,zlo,h4,zoC]
  ·obtain rfl:k=l.length+1:=by omega
   have he:=zdX l;push_cast [h1];exact ⟨[.inl 0],rfl,rfl,by push_cast [ze,zd,CLe,zf,he]⟩
end
section
open Go.RowKit
abbrev zF (xs:List Lz):List (List C):=xs.map zoC
theorem vd (xs:List Lz):(zF xs).length=xs.length:=We _
theorem zfb (xs:List Lz) (x:Lz):zF xs++[[.str x]]=zF (xs++[x]):=by simp
theorem strs_get? (xs:List Lz) (k:Nat):(zF xs)[k]?=(xs[k]?).map zoC:=Ws
theorem zfe (xs:List Lz) (k:Nat):(zF xs).drop k=zF (xs.drop k):=List.map_drop.symm
theorem zfa (xs:List Lz) (k:Nat):(zF xs).take k=zF (xs.take k):=List.map_take.symm
theorem vg (xs ys:List Lz):zF xs++zF ys=zF (xs++ys):=W9.symm
theorem Ze (xs:List Lz) (k:Nat) (h:k<xs.length):(zF xs)[k]?=some [.str (xs[k]'h)]:=by rw[strs_get?,Wa h];rfl
attribute [push_cast] vd zfb zfe zfa vg
abbrev qM (b:Bool):C:=.sc (.bool b)
theorem NZ (a b:List Lz) (ha:a.length<=9223372036854775807):Fun Tryz.prog G0 15 [.sl 1 (zF a),.sl 1 (zF b)] (qM (decide (a=b))) 0:=by
 by_cases hl:a.length=b.length
 ·refine fon Tryz.func15 ?_;dsimp only[Tryz.f15];push_cast [hl];refine loop (fun k:Nat=>⟨[(0,.sl 1 (zF a)),(1,.sl 1 (zF b)),(5,.sc (.int .i64 k))],[],0,0⟩) (fun k=>k<=a.length/\a.take k=b.take k) (fun k=>a.length-k) 0 ⟨Wc _,rfl⟩ ?_ ?_
  ·exact wk
  ·intro k hk;have hk1:=hk.1;have hk2:=hk.2;by_cases h:k<a.length
   ·have hga:=Ze a k h;have hgb:=Ze b k (by omega);by_cases he:a[k]'h=b[k]'(by omega)
    ·push_cast [h,hga,hgb,he];refine ⟨by omega,by omega,by omega,k+1,⟨by omega,?_⟩,by omega,wk⟩;rw[W1,W1,hk2,Wa h,Wa (by omega:k<b.length),he]
    ·push_cast [h,hga,hgb,he];refine ⟨by omega,by omega,[],rfl,rfl,?_⟩;push_cast [ze,zd,CLe,zf];have:a≠b:=fun e=>he (by subst e;rfl);simp[this]
   ·have hkl:k=a.length:=by omega
    push_cast [h];refine ⟨[],rfl,rfl,?_⟩;push_cast [ze,zd,CLe,zf];rw[hkl,Of,hl,Of]at hk2;simp[hk2]
 ·have hl':¬((a.length:Int)=(b.length:Int)):=by omega
  refine fon Tryz.func15 ?_;dsimp only[Tryz.f15];push_cast [hl];refine ⟨[],rfl,rfl,?_⟩;push_cast [ze,zd,CLe,zf];have:a≠b:=fun e=>hl (by rw[e]);simp[this]
def few (l:List Lz):Bool:=(l.take 100).all (fun x=>decide (x.length<=300))&&decide (l.length<=40)
end
end Go.Proofs.YtaipngaejfndgaaGreatDoor.Vcg
