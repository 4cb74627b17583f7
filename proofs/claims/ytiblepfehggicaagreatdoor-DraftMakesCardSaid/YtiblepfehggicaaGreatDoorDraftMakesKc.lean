/- What the proof of DraftMakes leans on, part 3: Vcg26 Lay Vcg18 Slc0 Slc1 TabV Tab1 OpenG OpenT Srt0 SlcE Shelf Tab2 TabR Snd1 PathN Ref1. No condition beyond what each theorem states. -/
import Derived.Test.YtiblepfehggicaaGreatDoorDraftMakesKb
import Derived.Test.YtiblepfehggicaaGreatDoorProg
import Derived.Lib.Overlaps
import Derived.Laws.Externs
import Derived.WalkKit
import Derived.ProofKit
import Derived.Deep.Slices
import Derived.Deep.Fields
import Derived.ChangeSame
import Derived.ChangeOld
import Derived.Lib.SmallJoins
import Derived.Test.YtiblepfehggicaaGreatDoorRows
import Derived.Lib.Bytealg
import Derived.Shelf.Strings.Builder1
import Derived.Shelf.Strings.Builder2
import Derived.Shelf.Strings.OnBuilder
import Derived.Shelf.Strings.Trim
import Derived.Shelf.Small.Utf8
import Derived.Shelf.Small.Strs
import Derived.Shelf.Small.Wraps
import Derived.Shelf.Strings.BuilderF
import Derived.Shelf.Strings.BuilderK
import Derived.Shelf.Strings.Search1
import Derived.Shelf.Strings.Search2
import Derived.Shelf.Strings.Search3
import Derived.Shelf.LaysM
import Derived.Shelf.Strings.Shaped
import Derived.Shelf.Strings.Prefix
import Derived.Shelf.Unicode.Decode
import Derived.Shelf.Strings.Runes
import Derived.Shelf.Strings.IndexAny
import Derived.Shelf.Strings.AsciiSet
import Derived.Shelf.Strings.IndexAnyAll
import Derived.Shelf.Unicode.DecodeSlow
import Derived.Shelf.Unicode.DecodeAny
set_option linter.unusedVariables false
set_option linter.unusedSimpArgs false
set_option linter.unusedSectionVars false
set_option maxRecDepth 100000
set_option maxHeartbeats 4000000
namespace Go.Proofs.YtiblepfehggicaaGreatDoor.Vcg
section
open Go.RowKit
abbrev Fr:=List (Nat×TypeId×Nat×List (List C)×Nat)
def Vr (nx:Nat):Fr->Nat->Nat->Nat->Nat->Nat->C
 | [],_,_,_,_,_=>.any
 | (i',e,k',rows,cap) :: r,i,off,k,n,c=>if i=i'/\off=0/\k=k'/\n=rows.length/\c=cap then .own nx e k' rows else Vr (nx+1) r i off k n c
theorem Mq:∀ (fr:Fr) (nx i off k n c:Nat),Vr nx fr i off k n c = .any∨∃ j e rows,fr[j]?=some (i,e,k,rows,c)/\off=0/\n=rows.length/\Vr nx fr i off k n c = .own (nx+j) e k rows
 | [],nx,i,off,k,n,c=>.inl rfl
 | (i',e,k',rows,cap) :: r,nx,i,off,k,n,c=>by
  unfold Vr
  split
  ·rename_i h
   obtain ⟨rfl,rfl,rfl,rfl,rfl⟩:=h
   exact .inr ⟨0,e,rows,rfl,rfl,rfl,rfl⟩
  ·rcases Mq r (nx+1) i off k n c with h | ⟨j,e',rows',h1,h2,h3,h4⟩
   ·exact .inl h
   ·exact .inr ⟨j+1,e',rows',by simpa using h1,h2,h3,by rw[h4,show nx+1+j=nx+(j+1) by omega]⟩
def zfO (fr:Fr) (bx:List (List C)):Prop:=(fr.map (·.1)).Nodup/\∀ x∈fr,∃ cs,bx[x.1]?=some cs/\0<x.2.2.2.2/\x.2.2.2.1.length<=x.2.2.2.2/\x.2.2.2.2<=maxLen/\cs.length=x.2.2.2.2*x.2.2.1/\(∀ r∈x.2.2.2.1,r.length=x.2.2.1)/\(C.frzL cs).take (x.2.2.2.1.length*x.2.2.1)=x.2.2.2.1.flatten
mutual
/-- a result, at the function's end, some boxes being qr into owners -/
def C.fy (nx:Nat) (fr:Fr) (bx:List (List C)):C->C
 | .ptr i off=>if i∈fr.map (·.1) then .any else C.fz bx (.ptr i off)
 | .agg cs=>.agg (C.fyL nx fr bx cs)
 | .tup cs=>.tup (C.fyL nx fr bx cs)
 | .clo fn first cap=>.clo fn (C.fyL nx fr bx first) (C.fyL nx fr bx cap)
 | .bs i off k n c=>Vr nx fr i off k n c
 | .sc v=>.sc v
 | .str l=>.str l
 | .sl k rows=>.sl k rows
 | .tight k rows=>.tight k rows
 | .own id e k rows=>.own id e k rows
 | .mo id t ks vs=>.mo id t ks vs
 | .row cs=>.row cs
 | .any=>.any
def C.fyL (nx:Nat) (fr:Fr) (bx:List (List C)):List C->List C
 | []=>[]
 | c :: r=>c.fy nx fr bx :: C.fyL nx fr bx r
end
def frT (nx:Nat) (fr:Fr) (β:List Nat) (T:Own):Own:=fun id=>if id<nx then T id else match fr[id-nx]? with
 | some (i,e,k,rows,cap)=>(β[i]?).map fun b=>(e,k,.slice (some ⟨b,0,none⟩) rows.length cap)
 | none=>none
def frM (fr:Fr) (β:List Nat) (b o:Nat):Prop:=∃ x∈fr,β[x.1]?=some b/\x.2.2.2.1.length*x.2.2.1<=o
section
variable {P:Program} {G:zm} {E:Ctx} {σ:St}
theorem x6 {nx:Nat} {fr:Fr} {β:List Nat} {T:Own} {id e k:Nat} {v:Value} (h:frT nx fr β T id=some (e,k,v)) :
  (id<nx/\T id=some (e,k,v))∨(nx<=id/\∃ i rows cap b,fr[id-nx]?=some (i,e,k,rows,cap)/\β[i]?=some b/\v = .slice (some ⟨b,0,none⟩) rows.length cap):=by
 unfold frT at h
 split at h
 ·exact .inl ⟨by assumption,h⟩
 ·split at h
  ·rename_i i e' k' rows cap hq
   cases hb:β[i]? with
   | none=>rw[hb]at h;cases h
   | some b =>
    rw[hb]at h
    cases h
    exact .inr ⟨by omega,i,rows,cap,b,hq,hb,rfl⟩
  ·cases h
theorem zll {R':Env} {L':Loc} {fr:Fr} (hgd:Yf G E σ R' L') (hfr:zfO fr σ.bx) {F:Nat->Prop} :
  Vm E.tu ⟨R'.w,fun b o=>R'.M b o/\(b∉L'.β∨frM fr L'.β b o),F⟩ ⟨[],frT σ.nx fr L'.β L'.T⟩:=by
 have hold:∀ id e k v b,L'.T id=some (e,k,v)->v.ownB=some b->b∉L'.β:=fun id e k v b ht hv=>((hgd.fit.owns.own id e k v ht).block hv).2.2
 refine ⟨fun id e k v ht=>?_,fun id id' e k v e' k' v' b ht ht' hv hv'=>?_⟩
 ·rcases x6 ht with ⟨_,ht⟩ | ⟨_,i,rows,cap,b,hf,hb,rfl⟩
  ·exact (hgd.fit.owns.own id e k v ht).move fun g _ q2 _ q7=>⟨q2,rfl,by simp,fun o ho=>⟨ho,.inl q7⟩⟩
  ·have hmem:=List.mem_of_getElem? hf
   obtain ⟨cs,c1,c2,c3,c4,c5,c6,c7⟩:=hfr.2 _ hmem
   obtain ⟨vs,ty,e1,e2,e3,e4⟩:=hgd.fit.boxes.box i b cs hb c1
   have hl:=zt e2
   exact .inr (.inl ⟨b,rows.length,cap,vs,ty,rfl,hgd.tubx b (List.mem_of_getElem? hb),e1,c3,c4,by simpa [c5] using hl,by simp,fun o ho=>⟨e4 o,.inr ⟨_,hmem,hb,ho⟩⟩⟩)
 ·rcases x6 ht with ⟨_,ht⟩ | ⟨g1,i,rows,cap,b1,hf,hb,rfl⟩<;>rcases x6 ht' with ⟨_,ht'⟩ | ⟨g1',i',rows',cap',b1',hf',hb',rfl⟩
  ·exact hgd.fit.owns.apart id id' e k v e' k' v' b ht ht' hv hv'
  ·cases hv'
   exact absurd (List.mem_of_getElem? hb') (hold id e k v _ ht hv)
  ·cases hv
   exact absurd (List.mem_of_getElem? hb) (hold id' e' k' v' _ ht' hv')
  ·cases hv;cases hv'
   have hii:i=i':=(List.getElem?_inj (List.getElem?_eq_some_iff.1 hb).1 hgd.fit.boxes.nodup).1 (hb.trans hb'.symm)
   subst hii
   have hn:=hfr.1
   have h1:(fr.map (·.1))[id-σ.nx]?=some i:=by rw[List.getElem?_map,hf];rfl
   have h2:(fr.map (·.1))[id'-σ.nx]?=some i:=by rw[List.getElem?_map,hf'];rfl
   have:=(List.getElem?_inj (List.getElem?_eq_some_iff.1 h1).1 hn).1 (h1.trans h2.symm)
   omega
theorem kQ {R R2:Env} {L:Loc} {b:Nat} {vs:Array Value} {ty:TypeId} (he:Ext R R2) (hh:R2.w.heap[b]?=some (.cells vs ty (0,0))) {N:Nat} (hM:∀ o,o<N->¬R2.M b o):∀ (cs:List C) (us:List Value) (off:Nat),off+cs.length<=N->zu R L cs us->(∃ z,vs.toList.drop off=us++z)->(∀ v∈us,v.oneCell'=true)->zL R2 (C.frzL cs) b off
 | [],_,_,_,_,_,_=>by unfold C.frzL;exact j9
 | c :: r,us,off,hN,hr,hd,h1=>by
  obtain ⟨v,us',rfl,g1,g2⟩:=ze.1 hr
  obtain ⟨z,hd⟩:=hd
  unfold C.frzL
  simp only[List.length_cons]at hN
  have hv:vs[off]?=some v:=by
   have:=List.getElem?_drop (xs:=vs.toList) (i:=off) (j:=0)
   rw[hd]at this
   simpa using this.symm
  refine qi.2 ⟨⟨v,?_,hM off (by omega),Rep.ext he (zK.refl _) _ _ (g1.frz zI),h1 v List.mem_cons_self⟩,kQ he hh hM r us' (off+1) (by omega) g2 ⟨z,?_⟩ fun x hx=>h1 x (List.mem_cons_of_mem _ hx)⟩
  ·rw[cell_of_row R2.w b off vs ty (0,0) hh];exact hv
  ·rw[←List.drop_drop,hd];rfl
theorem MJ:∀ (n:Nat) (cs:List C),C.frzL (cs.take n)=(C.frzL cs).take n
 | 0,cs=>by simp[C.frzL]
 | n+1,[]=>by simp[C.frzL]
 | n+1,c :: r=>by
  have h:C.frzL (c :: r)=c.frz :: C.frzL r:=by rw[C.frzL]
  rw[List.take_succ_cons,h,List.take_succ_cons,←MJ n r]
  rw[C.frzL]
theorem QF {R:Env} {b k:Nat}:∀ (rows:List (List C)) (off:Nat),(∀ r∈rows,r.length=k)->zL R rows.flatten b off->zP R rows k b off
 | [],_,_,_=>by unfold zP;trivial
 | row :: r,off,hk,h=>by
  have hrow:=hk row List.mem_cons_self
  rw[List.flatten_cons]at h
  unfold zP
  refine ⟨hrow,z8 fun j c hc=>?_,QF r (off+k) (fun x hx=>hk x (List.mem_cons_of_mem _ hx)) (z8 fun j c hc=>?_)⟩
  ·exact j8 h j c (by rw[List.getElem?_append_left (List.getElem?_eq_some_iff.1 hc).1];exact hc)
  ·have:=j8 h (k+j) c (by rw[List.getElem?_append_right (by omega),hrow,Nat.add_sub_cancel_left];exact hc)
   rwa [←Nat.add_assoc]at this
mutual
theorem Rep.fy {R R2:Env} {L:Loc} {bx:List (List C)} {fr:Fr} {nx:Nat} {F:Nat->Prop} (he:Ext R R2) (hbx:jX R L bx) (h2:R2=⟨R.w,fun b o=>R.M b o/\(b∉L.β∨frM fr L.β b o),F⟩) (hfr:zfO fr bx) (hnx:∀ id,nx<=id->L.T id=none):∀ (c:C) (v:Value),Rep R L c v->Rep R2 ⟨L.β,frT nx fr L.β L.T⟩ (c.fy nx fr bx) v
 | .ptr i off,v,h=>by
  unfold C.fy
  split
  ·exact Z3
  rename_i hni
  unfold C.fz
  obtain ⟨b,hb,e⟩:=Jh.1 h
  split
  ·rename_i cs hcs
   obtain ⟨vs,ty,e1,e2,e3,e4⟩:=hbx.box i b cs hb hcs
   refine jZ.2 ⟨b,off,e,?_⟩
   rw[←VM]
   refine Uy (L:=L) he (by rw[h2];exact e1) (fun o=>?_) _ (vs.toList.drop off) off (qN off e2) rfl fun x hx=>e3 x (List.mem_of_mem_drop hx)
   rw[h2]
   rintro ⟨_,h3 | ⟨x,hx,hxb,_⟩⟩
   ·exact h3 (List.mem_of_getElem? hb)
   ·have:=(List.getElem?_inj (List.getElem?_eq_some_iff.1 hb).1 hbx.nodup).1 (hb.trans hxb.symm)
    subst this
    exact hni (List.mem_map.2 ⟨x,hx,rfl⟩)
  ·exact Z3
 | .agg cs,_,h=>by
  unfold C.fy;unfold Rep at h ⊢
  obtain ⟨vs,e,hl⟩:=h
  exact ⟨vs,e,zu.fy he hbx h2 hfr hnx cs _ hl⟩
 | .tup cs,_,h=>by
  unfold C.fy;unfold Rep at h ⊢
  obtain ⟨vs,e,hl⟩:=h
  exact ⟨vs,e,zu.fy he hbx h2 hfr hnx cs _ hl⟩
 | .clo fn first cap,_,h=>by
  unfold C.fy;unfold Rep at h ⊢
  obtain ⟨fs,cs,e,h3,h4⟩:=h
  exact ⟨fs,cs,e,zu.fy he hbx h2 hfr hnx first _ h3,zu.fy he hbx h2 hfr hnx cap _ h4⟩
 | .sc v,_,h=>by unfold C.fy;unfold Rep at h ⊢;exact h
 | .str l,_,h=>by unfold C.fy;unfold Rep at h ⊢;exact h
 | .sl k rows,v,h=>by
  unfold C.fy
  exact Rep.ext he (zK.none _) (.sl k rows) v (T:=zI) (by unfold Rep at h ⊢;exact h)
 | .tight k rows,v,h=>by
  unfold C.fy
  exact Rep.ext he (zK.none _) (.tight k rows) v (T:=zI) (by unfold Rep at h ⊢;exact h)
 | .mo id t ks vs,v,h=>by
  unfold C.fy
  unfold Rep at h ⊢
  obtain ⟨b,vvs,e,ht,hl⟩:=h
  refine ⟨b,vvs,e,?_,zu.ext he (zK.refl _) _ _ hl⟩
  have hlt:id<nx:=by
   rcases Nat.lt_or_ge id nx with q | q
   ·exact q
   ·have:=hnx id q;rw[ht]at this;cases this
  show frT nx fr L.β L.T id=_
  unfold frT
  rw[if_pos hlt];exact ht
 | .own id e k rows,v,h=>by
  unfold C.fy
  have h3:=Rep.ext he (zK.none ⟨L.β,frT nx fr L.β L.T⟩) (.sl k rows) v (T:=zI) (by unfold Rep at h ⊢;exact h.2)
  unfold Rep at h h3 ⊢
  refine ⟨?_,h3⟩
  have hlt:id<nx:=by
   rcases Nat.lt_or_ge id nx with q | q
   ·exact q
   ·have:=hnx id q;rw[h.1]at this;cases this
  show frT nx fr L.β L.T id=_
  unfold frT
  rw[if_pos hlt];exact h.1
 | .row cs,v,h=>by
  unfold C.fy
  exact Rep.ext he (zK.none _) (.row cs) v (T:=zI) (by unfold Rep at h ⊢;exact h)
 | .bs i off k n c,v,h=>by
  unfold C.fy
  obtain ⟨b,hb,ad,e,had⟩:=jp.1 h
  rcases Mq fr nx i off k n c with hq | ⟨j,e',rows,hj,rfl,rfl,hq⟩
  ·rw[hq];exact Z3
  ·rw[hq]
   have hmem:=List.mem_of_getElem? hj
   obtain ⟨cs,c1,c2,c3,c4,c5,c6,c7⟩:=hfr.2 _ hmem
   simp only at c1 c2 c3 c4 c5 c6 c7
   obtain ⟨vs,ty,e1,e2,e3,e4⟩:=hbx.box i b cs hb c1
   obtain rfl:=had (by omega)
   unfold Rep
   refine ⟨?_,some ⟨b,0,none⟩,c,e,c3,c4,.inr ⟨b,0,rfl,QF rows 0 c6 ?_⟩⟩
   ·show frT nx fr L.β L.T (nx+j)=_
    unfold frT
    rw[if_neg (by omega),Nat.add_sub_cancel_left,hj]
    simp only[hb,Option.map_some,e]
   ·rw[←c7,←MJ]
    have hlen:(cs.take (rows.length*k)).length=rows.length*k:=by
     rw[List.length_take]
     have:rows.length*k<=c*k:=Nat.mul_le_mul_right _ c3
     omega
    refine kQ (L:=L) (N:=rows.length*k) he (by rw[h2];exact e1) (fun o ho=>?_) _ (vs.toList.take (rows.length*k)) 0 (by omega) (qA _ e2) ⟨vs.toList.drop (rows.length*k),by simp⟩ fun x hx=>e3 x (List.mem_of_mem_take hx)
    rw[h2]
    rintro ⟨_,h3 | ⟨x,hx,hxb,hxo⟩⟩
    ·exact h3 (List.mem_of_getElem? hb)
    ·have hii:=(List.getElem?_inj (List.getElem?_eq_some_iff.1 hb).1 hbx.nodup).1 (hb.trans hxb.symm)
     obtain ⟨j2,hj2,hj2'⟩:=List.getElem_of_mem hx
     have g1:(fr.map (·.1))[j]?=some i:=by rw[List.getElem?_map,hj];rfl
     have g2:(fr.map (·.1))[j2]?=some i:=by rw[List.getElem?_map,List.getElem?_eq_getElem hj2,hj2',hii];rfl
     have:=(List.getElem?_inj (List.getElem?_eq_some_iff.1 g1).1 hfr.1).1 (g1.trans g2.symm)
     subst this
     rw[List.getElem?_eq_getElem hj2,hj2']at hj
     cases hj
     simp only at hxo
     omega
 | .any,_,h=>by unfold C.fy;exact Z3
theorem zu.fy {R R2:Env} {L:Loc} {bx:List (List C)} {fr:Fr} {nx:Nat} {F:Nat->Prop} (he:Ext R R2) (hbx:jX R L bx) (h2:R2=⟨R.w,fun b o=>R.M b o/\(b∉L.β∨frM fr L.β b o),F⟩) (hfr:zfO fr bx) (hnx:∀ id,nx<=id->L.T id=none):∀ (cs:List C) (vs:List Value),zu R L cs vs->zu R2 ⟨L.β,frT nx fr L.β L.T⟩ (C.fyL nx fr bx cs) vs
 | [],_,h=>by unfold C.fyL;rw[zj]at h ⊢;exact h
 | c :: r,_,h=>by
  unfold C.fyL;rw[ze]at h ⊢
  obtain ⟨v,us,e,h3,h4⟩:=h
  exact ⟨v,us,e,Rep.fy he hbx h2 hfr hnx c v h3,zu.fy he hbx h2 hfr hnx r us h4⟩
end
theorem Fun.of_awpF {f:FuncId} {fn:Func} {code:Code} {args:List C} {r:C} {n:Nat} (b:Nat->List Bool) (hm:P.follows .mixedOrders=true) (hf:P.funcs[f]?=some fn) (hb:fn.body=some code) (hnm:(fn.name == "runtime.NumGoroutine")=false) (hN:args.length<=fn.ntmps) (hok:jz fn.ntmps b code=true)
  (h:awp P G ⟨0,none,b⟩ code (zja P fn.results.toList fun c σ=>∃ (fr:Fr) (src:Src),zfO fr σ.bx/\Vp src=true/\src.length=n/\CLe src 0 (c.fy σ.nx fr σ.bx) r) ⟨V9 0 args,[],0,0⟩):Fun P G f args r n:=by
 refine ⟨by unfold Yy;rw[hf];simp[hnm,hb],fun R vs hg hargs=>?_⟩
 let E:Ctx:=⟨R.w,R.M,[],fun _=>False,fn.ntmps,[],fun _=>False,fun _=>False,fun _ h=>h,fun _ _=>True,fun _ _ _ _ _=>trivial⟩
 let R0:Env:=⟨R.w,R.M,fun _=>False⟩
 have hx:Ext R R0:=⟨fun _ _ _ h1 h2=>⟨h1,h2⟩,fun _ _ _ _ h1 h2=>⟨h1,h2⟩⟩
 have hargs0:zu R0 zI args vs:=zu.ext hx (zK.refl _) _ _ hargs
 obtain ⟨i1,i2⟩:=QN hN hargs0
 have hinv:qE G E ⟨V9 0 args,[],0,0⟩ { tmps:=vs.toArray++Array.replicate (fn.ntmps-vs.toArray.size) undef,defers:=[] } R0 zI:=
  ⟨⟨⟨hg.ext hx,⟨rfl,List.nodup_nil,fun i b cs hi=>(by simp at hi)⟩,⟨fun id e k v ht=>(by cases ht),fun id id' e k v e' k' v' b ht=>(by cases ht)⟩,fun g hg=>.inl hg⟩,rfl,rfl,rfl,Nat.le_refl _,fun _ _ _ _=>⟨rfl,fun _=>Iff.rfl⟩,⟨fun _ _ _ h1 h2=>⟨h1,h2⟩,fun _ _ _ _ h1 h2=>⟨h1,h2⟩⟩,⟨[],rfl⟩,fun b hb=>(by cases hb),fun _ h=>h.elim,fun _ _=>Iff.rfl,fun b hb=>(by cases hb),fun id e k v b ht=>(by cases ht),fun _ _=>rfl,trivial⟩,i1,⟨[],rfl,List.nodup_nil,fun d hd=>(by cases hd)⟩,i2⟩
 refine Yu (E:=E) (R:=R0) hm hf hb hok rfl rfl (Nat.zero_le _) (fun y hy=>by cases hy) h hinv ?_
 rintro σ' a' R' L' v c ⟨fr,src,hfr,h3,h4,h5⟩ hI h2
 have hgd:=hI.good
 have hblk:∀ b,b<R.w.heap.size->R'.w.heap[b]?=R.w.heap[b]?/\∀ o,(R'.M b o↔R.M b o):=fun b hb=>hgd.blk b hb (fun h=>h) fun hF=>(hgd.fz b hb).1 hF
 have hnew:∀ b∈L'.β,R.w.heap.size<=b:=fun b hb=>(hgd.tub b hb).elim id fun g=>g.elim
 let R2:Env:=⟨R'.w,fun b o=>R'.M b o/\(b∉L'.β∨frM fr L'.β b o),R.F⟩
 let T2:Own:=frT σ'.nx fr L'.β L'.T
 have hx2:Ext R' R2:=⟨fun _ _ _ h1 h2=>⟨h1,fun h=>h2 h.1⟩,fun _ _ _ _ h1 h2=>⟨h1,fun o h=>h2 o h.1⟩⟩
 have hown2:Vm E.tu R2 ⟨[],T2⟩:=zll hgd hfr
 have how:=VA (β':=[]) h3 (fun b hb=>(by cases hb)) hown2
 have hfz:Rep R2 ⟨L'.β,T2⟩ (c.fy σ'.nx fr σ'.bx) v:=Rep.fy hx2 hgd.fit.boxes rfl hfr (fun id hid=>hgd.free id hid) _ _ h2
 refine ⟨v,R2,Jk src 0 ⟨L'.β,T2⟩,rfl,rfl,⟨⟨hgd.os,hgd.tape,hgd.output,hgd.size,fun b hb=>(hblk b hb).1⟩,rfl,by simp,fun b o hb=>?_,fun id hi=>?_,fun id e k v hi hj ht=>?_,fun id id' e k v e' k' v' b hi hi2 hj hj2 h6 h7 h8 h9=>?_⟩,Rep.less _ _ _ h5 hfz⟩
 ·refine ⟨fun h=>((hblk b hb).2 o).1 h.1,fun h=>⟨((hblk b hb).2 o).2 h,.inl fun hx=>?_⟩⟩
  have:=hnew b hx;omega
 ·show Zk src T2 id=none
  unfold Zk
  rw[List.getElem?_eq_none (by omega)]
 ··refine (how.own id e k v ht).move fun g _ q2 _ q7=>⟨?_,rfl,q7,fun _ h=>h⟩
   rcases q2 with q2 | q2
   ·exact q2
   ·exact q2.elim
 ·exact how.apart id id' e k v e' k' v' b h6 h7 h8 h9
end
end
section
open Go
theorem zl4:lay Tryz.prog 3=some { kind:=LK.int IntKind.i64,size:=1,bytes:=8,zero:=some [Value.int IntKind.i64 (Int.ofNat 0)] }:=by kernel_rfl
theorem zqh:lay Tryz.prog 4=some { kind:=LK.bool,size:=1,bytes:=1,zero:=some [Value.bool false] }:=by kernel_rfl
theorem zoG:lay Tryz.prog 9=some { kind:=LK.str,size:=1,bytes:=16,zero:=some [Value.string ⟨#[]⟩] }:=by kernel_rfl
theorem zpE:lay Tryz.prog 21=some { kind:=LK.int IntKind.i32,size:=1,bytes:=4,zero:=some [Value.int IntKind.i32 (Int.ofNat 0)] }:=by kernel_rfl
theorem ZL:lay Tryz.prog 22=some { kind:=LK.slice 75,size:=1,bytes:=24,zero:=some [Value.slice none 0 0] }:=by kernel_rfl
theorem zpM:lay Tryz.prog 24=some { kind:=LK.struct [(0,1,false),(1,1,false),(2,1,false),(3,1,false)],size:=4,bytes:=48,zero:=some [Value.int IntKind.i64 (Int.ofNat 0),Value.int IntKind.i64 (Int.ofNat 0),Value.int IntKind.i64 (Int.ofNat 0),Value.slice none 0 0] }:=by kernel_rfl
theorem UK:lay Tryz.prog 25=some { kind:=LK.slice 92,size:=1,bytes:=24,zero:=some [Value.slice none 0 0] }:=by kernel_rfl
theorem zpa:lay Tryz.prog 27=some { kind:=LK.struct [(0,1,false),(1,1,false)],size:=2,bytes:=48,zero:=some [Value.slice none 0 0,Value.slice none 0 0] }:=by kernel_rfl
theorem zpr:lay Tryz.prog 29=some { kind:=LK.struct [(0,4,true),(4,2,true)],size:=6,bytes:=96,zero:=some [Value.int IntKind.i64 (Int.ofNat 0),Value.int IntKind.i64 (Int.ofNat 0),Value.int IntKind.i64 (Int.ofNat 0),Value.slice none 0 0,Value.slice none 0 0,Value.slice none 0 0] }:=by kernel_rfl
theorem zhM:lay Tryz.prog 30=some { kind:=LK.slice 63,size:=1,bytes:=24,zero:=some [Value.slice none 0 0] }:=by kernel_rfl
theorem zf0:lay Tryz.prog 33=some { kind:=LK.slice 9,size:=1,bytes:=24,zero:=some [Value.slice none 0 0] }:=by kernel_rfl
theorem zpz:lay Tryz.prog 35=some { kind:=LK.struct [(0,1,false),(1,1,false),(2,1,false)],size:=3,bytes:=56,zero:=some [Value.slice none 0 0,Value.slice none 0 0,Value.int IntKind.i64 (Int.ofNat 0)] }:=by kernel_rfl
theorem zo8:lay Tryz.prog 37=some { kind:=LK.struct [(0,6,true),(6,3,true),(9,1,false)],size:=10,bytes:=160,zero:=some [Value.int IntKind.i64 (Int.ofNat 0),Value.int IntKind.i64 (Int.ofNat 0),Value.int IntKind.i64 (Int.ofNat 0),Value.slice none 0 0,Value.slice none 0 0,Value.slice none 0 0,Value.slice none 0 0,Value.slice none 0 0,Value.int IntKind.i64 (Int.ofNat 0),Value.int IntKind.i64 (Int.ofNat 0)] }:=by kernel_rfl
theorem zo7:lay Tryz.prog 45=some { kind:=LK.struct [(0,1,false),(1,1,false),(2,1,false)],size:=3,bytes:=32,zero:=some [Value.int IntKind.i64 (Int.ofNat 0),Value.string ⟨#[]⟩,Value.int IntKind.i64 (Int.ofNat 0)] }:=by kernel_rfl
theorem zpT:lay Tryz.prog 48=some { kind:=LK.other,size:=1,bytes:=8,zero:=some [Value.nilFunc] }:=by kernel_rfl
theorem zoO:lay Tryz.prog 53=some { kind:=LK.slice 3,size:=1,bytes:=24,zero:=some [Value.slice none 0 0] }:=by kernel_rfl
theorem zp0:lay Tryz.prog 59=some { kind:=LK.int IntKind.i64,size:=1,bytes:=8,zero:=some [Value.int IntKind.i64 (Int.ofNat 0)] }:=by kernel_rfl
theorem zf9:lay Tryz.prog 63=some { kind:=LK.struct [(0,1,false),(1,1,false),(2,1,false),(3,1,false),(4,1,false)],size:=5,bytes:=64,zero:=some [Value.int IntKind.i64 (Int.ofNat 0),Value.int IntKind.i64 (Int.ofNat 0),Value.string ⟨#[]⟩,Value.string ⟨#[]⟩,Value.string ⟨#[]⟩] }:=by kernel_rfl
theorem Qa:lay Tryz.prog 73=some { kind:=LK.slice 108,size:=1,bytes:=24,zero:=some [Value.slice none 0 0] }:=by kernel_rfl
theorem Zv:lay Tryz.prog 75=some { kind:=LK.struct [(0,1,false),(1,1,false),(2,1,false),(3,1,false),(4,1,false),(5,1,false)],size:=6,bytes:=72,zero:=some [Value.int IntKind.i64 (Int.ofNat 0),Value.int IntKind.i64 (Int.ofNat 0),Value.int IntKind.i64 (Int.ofNat 0),Value.string ⟨#[]⟩,Value.int IntKind.i64 (Int.ofNat 0),Value.slice none 0 0] }:=by kernel_rfl
theorem zo9:lay Tryz.prog 78=some { kind:=LK.struct [(0,1,false),(1,1,false),(2,1,false)],size:=3,bytes:=40,zero:=some [Value.bool false,Value.slice none 0 0,Value.bool false] }:=by kernel_rfl
theorem UM:lay Tryz.prog 92=some { kind:=LK.struct [(0,1,false),(1,1,false),(2,1,false),(3,1,false)],size:=4,bytes:=40,zero:=some [Value.int IntKind.i64 (Int.ofNat 0),Value.int IntKind.i64 (Int.ofNat 0),Value.bool false,Value.string ⟨#[]⟩] }:=by kernel_rfl
theorem JZ:lay Tryz.prog 108=some { kind:=LK.struct [(0,1,false),(1,1,false)],size:=2,bytes:=24,zero:=some [Value.string ⟨#[]⟩,Value.int IntKind.i64 (Int.ofNat 0)] }:=by kernel_rfl
theorem znD:lay Tryz.prog 142=some { kind:=LK.slice 30,size:=1,bytes:=24,zero:=some [Value.slice none 0 0] }:=by kernel_rfl
theorem zmk:lay Tryz.prog 144=some { kind:=LK.slice 33,size:=1,bytes:=24,zero:=some [Value.slice none 0 0] }:=by kernel_rfl
theorem zor:lay Tryz.prog 180=some { kind:=LK.struct [(0,1,false),(1,1,false),(2,1,false)],size:=3,bytes:=3,zero:=some [Value.bool false,Value.bool false,Value.bool false] }:=by kernel_rfl
theorem zm9:lay Tryz.prog 181=some { kind:=LK.array 11 180,size:=33,bytes:=33,zero:=some [Value.bool false,Value.bool false,Value.bool false,Value.bool false,Value.bool false,Value.bool false,Value.bool false,Value.bool false,Value.bool false,Value.bool false,Value.bool false,Value.bool false,Value.bool false,Value.bool false,Value.bool false,Value.bool false,Value.bool false,Value.bool false,Value.bool false,Value.bool false,Value.bool false,Value.bool false,Value.bool false,Value.bool false,Value.bool false,Value.bool false,Value.bool false,Value.bool false,Value.bool false,Value.bool false,Value.bool false,Value.bool false,Value.bool false] }:=by kernel_rfl
theorem zmF:lay Tryz.prog 188=some { kind:=LK.struct [(0,1,false),(1,1,false),(2,1,false)],size:=3,bytes:=40,zero:=some [Value.string ⟨#[]⟩,Value.string ⟨#[]⟩,Value.int IntKind.i64 (Int.ofNat 0)] }:=by kernel_rfl
theorem znS:lay Tryz.prog 189=some { kind:=LK.array 6 188,size:=18,bytes:=240,zero:=some [Value.string ⟨#[]⟩,Value.string ⟨#[]⟩,Value.int IntKind.i64 (Int.ofNat 0),Value.string ⟨#[]⟩,Value.string ⟨#[]⟩,Value.int IntKind.i64 (Int.ofNat 0),Value.string ⟨#[]⟩,Value.string ⟨#[]⟩,Value.int IntKind.i64 (Int.ofNat 0),Value.string ⟨#[]⟩,Value.string ⟨#[]⟩,Value.int IntKind.i64 (Int.ofNat 0),Value.string ⟨#[]⟩,Value.string ⟨#[]⟩,Value.int IntKind.i64 (Int.ofNat 0),Value.string ⟨#[]⟩,Value.string ⟨#[]⟩,Value.int IntKind.i64 (Int.ofNat 0)] }:=by kernel_rfl
theorem znx:lay Tryz.prog 190=some { kind:=LK.array 23 9,size:=23,bytes:=368,zero:=some [Value.string ⟨#[]⟩,Value.string ⟨#[]⟩,Value.string ⟨#[]⟩,Value.string ⟨#[]⟩,Value.string ⟨#[]⟩,Value.string ⟨#[]⟩,Value.string ⟨#[]⟩,Value.string ⟨#[]⟩,Value.string ⟨#[]⟩,Value.string ⟨#[]⟩,Value.string ⟨#[]⟩,Value.string ⟨#[]⟩,Value.string ⟨#[]⟩,Value.string ⟨#[]⟩,Value.string ⟨#[]⟩,Value.string ⟨#[]⟩,Value.string ⟨#[]⟩,Value.string ⟨#[]⟩,Value.string ⟨#[]⟩,Value.string ⟨#[]⟩,Value.string ⟨#[]⟩,Value.string ⟨#[]⟩,Value.string ⟨#[]⟩] }:=by kernel_rfl
theorem zl7:lay Tryz.prog 196=some { kind:=LK.struct [(0,1,false),(1,1,false)],size:=2,bytes:=48,zero:=some [Value.slice none 0 0,Value.slice none 0 0] }:=by kernel_rfl
theorem zn9:lay Tryz.prog 197=some { kind:=LK.slice 196,size:=1,bytes:=24,zero:=some [Value.slice none 0 0] }:=by kernel_rfl
theorem znZ:lay Tryz.prog 212=some { kind:=LK.other,size:=1,bytes:=8,zero:=some [Value.nilFunc] }:=by kernel_rfl
theorem zmE:lay Tryz.prog 230=some { kind:=LK.int IntKind.u64,size:=1,bytes:=8,zero:=some [Value.int IntKind.u64 (Int.ofNat 0)] }:=by kernel_rfl
theorem zng:lay Tryz.prog 231=some { kind:=LK.array 14 9,size:=14,bytes:=224,zero:=some [Value.string ⟨#[]⟩,Value.string ⟨#[]⟩,Value.string ⟨#[]⟩,Value.string ⟨#[]⟩,Value.string ⟨#[]⟩,Value.string ⟨#[]⟩,Value.string ⟨#[]⟩,Value.string ⟨#[]⟩,Value.string ⟨#[]⟩,Value.string ⟨#[]⟩,Value.string ⟨#[]⟩,Value.string ⟨#[]⟩,Value.string ⟨#[]⟩,Value.string ⟨#[]⟩] }:=by kernel_rfl
theorem zmq:lay Tryz.prog 239=some { kind:=LK.other,size:=1,bytes:=8,zero:=some [Value.nilFunc] }:=by kernel_rfl
theorem zo3:UY Tryz.prog 7=some [LK.int IntKind.i64,LK.int IntKind.i64,LK.bool,LK.int IntKind.u8]:=by kernel_rfl
theorem zpp:UY Tryz.prog 8=some [LK.int IntKind.i64,LK.int IntKind.i64,LK.bool,LK.int IntKind.u8]:=by kernel_rfl
theorem zmr:UY Tryz.prog 44=some [LK.int IntKind.i64,LK.str,LK.int IntKind.i64]:=by kernel_rfl
theorem zn7:UY Tryz.prog 45=some [LK.int IntKind.i64,LK.str,LK.int IntKind.i64]:=by kernel_rfl
theorem zos:UY Tryz.prog 62=some [LK.int IntKind.i64,LK.int IntKind.i64,LK.str,LK.str,LK.str]:=by kernel_rfl
theorem zm4:UY Tryz.prog 63=some [LK.int IntKind.i64,LK.int IntKind.i64,LK.str,LK.str,LK.str]:=by kernel_rfl
theorem zm7:UY Tryz.prog 91=some [LK.int IntKind.i64,LK.int IntKind.i64,LK.bool,LK.str]:=by kernel_rfl
theorem zny:UY Tryz.prog 92=some [LK.int IntKind.i64,LK.int IntKind.i64,LK.bool,LK.str]:=by kernel_rfl
theorem zjX:UY Tryz.prog 107=some [LK.str,LK.int IntKind.i64]:=by kernel_rfl
theorem zjw:UY Tryz.prog 108=some [LK.str,LK.int IntKind.i64]:=by kernel_rfl
theorem zlx:UY Tryz.prog 126=some [LK.str,LK.int IntKind.i64]:=by kernel_rfl
theorem zjy:UY Tryz.prog 127=some [LK.str,LK.int IntKind.i64]:=by kernel_rfl
theorem zlT:UY Tryz.prog 179=some [LK.bool,LK.bool,LK.bool]:=by kernel_rfl
theorem zkr:UY Tryz.prog 180=some [LK.bool,LK.bool,LK.bool]:=by kernel_rfl
theorem zkF:UY Tryz.prog 187=some [LK.str,LK.str,LK.int IntKind.i64]:=by kernel_rfl
theorem zj8:UY Tryz.prog 188=some [LK.str,LK.str,LK.int IntKind.i64]:=by kernel_rfl
theorem zlL:UY Tryz.prog 262=some [LK.int IntKind.u8,LK.int IntKind.u8]:=by kernel_rfl
theorem zkG:UY Tryz.prog 263=some [LK.int IntKind.u8,LK.int IntKind.u8]:=by kernel_rfl
theorem zk0:zfL Tryz.prog 140=some (MKd.int IntKind.i64,C.sc Value.nilFunc):=by kernel_rfl
attribute [push_cast] zl4 zqh zoG zpE ZL zpM UK zpa zpr zhM zf0 zpz zo8 zo7 zpT zoO zp0 zf9 Qa Zv zo9 UM JZ znD zmk zor zm9 zmF znS znx zl7 zn9 znZ zmE zng zmq zo3 zpp zmr zn7 zos zm4 zm7 zny zjX zjw zlx zjy zlT zkr zkF zj8 zlL zkG zk0
end
section
open Go.RowKit
section
variable {P:Program} {G:zm} {σ σ':St} {N p lg m:Nat} {h:Hd} {yd:Option Yd} {brs:List Bool} {bf:Nat->List Bool} {bx bx':List (List C)} {ops:Array Oper} {c c' d d':C} {t t':TypeId} {K:C->Prop} {K2:C->Nat->Prop} {K3:C->St->Prop} {nx:Nat} {tm:List (Nat×C)} {x y z:Operand} {Q:Exit->St->Prop} {X Y:Prop}
def v8 (P:Program) (G:zm) (f:FuncId) (args:List C) (nx:Nat) (K:C->Nat->Prop):Prop:=∃ r n,Fun P G f args r n/\K (r.sh nx) (nx+n)
theorem v8.mk {f:FuncId} {args:List C} {r:C} {n:Nat} (h:Fun P G f args r n) (hK:K2 (r.sh nx) (nx+n)):v8 P G f args nx K2:=⟨r,n,h,hK⟩
def zmn (P:Program) (G:zm) (f:FuncId) (args fargs:List C) (σ:St) (K:C->St->Prop):Prop:=
 (∃ r n,Fun P G f fargs r n/\K (r.sh σ.nx) ⟨σ.tm,σ.bx,σ.nx+n,σ.lg⟩)∨M4 P G f args σ K∨zi6 P G f args σ K∨UI P G f args σ K∨zdV P f args σ K
def aGd (d:Option Tmp) (tm:List (Nat×C)) (want:Bool) (X Y:Prop):Prop:=match d with
 | some d=>match want with
  | true=>ziT (jy tm d) Y X Y
  | false=>ziT (jy tm d) Y Y X
 | none=>False
def znn (L:Option Lay) (c:C) (bx:List (List C)) (K:C->Prop):Prop:=
 match L with
 | none=>False
 | some L=>match c with
  | .ptr i off=>match bx[i]? with
   | some cs=>JX L (cs.drop off) K
   | none=>False
  | .row cs=>JX L cs K
  | _=>False
def zme (cs:Option (List C)) (off:Nat) (L:Lay) (K:C->Prop):Prop:=match cs with | some cs=>JX L (cs.drop off) K | none=>False
def zpc (x:Option C) (K:C->Prop):Prop:=match x with | some c=>K c | none=>False
def xc (L:Option Lay) (c:C) (f:Nat) (K:C->Prop):Prop:=
 match L with
 | some ⟨.struct fs,_,_,_⟩=>match fs[f]?,c with
  | some (off,size,agg),.agg cs =>
   if agg then off+size<=cs.length/\K (.agg ((cs.drop off).take size)) else match cs[off]? with
    | some c=>K c
    | none=>False
  | _,_=>False
 | _=>False
def VX (f:Option (Nat×Nat×Bool)) (cs:List C) (K:C->Prop):Prop:=
 match f with
 | some (off,size,agg)=>if agg then off+size<=cs.length/\K (.agg ((cs.drop off).take size)) else match cs[off]? with
    | some c=>K c
    | none=>False
 | none=>False
def zqL (L:Option Lay) (c:C) (f:Nat) (K:C->Prop):Prop:=
 match L with
 | some ⟨.struct fs,_,_,_⟩=>match fs[f]?,c with
  | some (off,size,_),.ptr i o=>if size=0 then False else K (.ptr i (o+off))
  | some (off,size,_),.row cs=>if size=0 then False else K (.row (cs.drop off))
  | _,_=>False
 | _=>False
def zoj (f:Option (Nat×Nat×Bool)) (c:C) (K:C->Prop):Prop:=
 match f,c with
  | some (off,size,_),.ptr i o=>if size=0 then False else K (.ptr i (o+off))
  | some (off,size,_),.row cs=>if size=0 then False else K (.row (cs.drop off))
  | _,_=>False
def zqF (P:Program) (L:Option Lay) (c:C) (i:C) (K:C->Prop):Prop:=
 match L,i with
 | some ⟨.slice e,_,_,_⟩,.sc (.int _ n)=>match lay P e with
  | some L=>match c with
   | .bs j off k m _=>k=L.size/\0<=n/\n<(m:Int)/\K (.ptr j (off+n.toNat*L.size))
   | c=>match c.rows? L.size with
    | some rows=>match rows[n.toNat]? with
     | some r=>0<=n/\K (.row r)
     | none=>False
    | none=>False
  | none=>False
 | some ⟨.array (m+1) e,_,_,_⟩,.sc (.int _ n)=>match lay P e with
  | some L=>match c with
   | .ptr j off=>0<=n/\n<((m+1:Nat):Int)/\K (.ptr j (off+n.toNat*L.size))
   | .row cs=>0<=n/\n<((m+1:Nat):Int)/\K (.row (cs.drop (n.toNat*L.size)))
   | _=>False
  | none=>False
 | _,_=>False
def zqo (L:Option Lay) (c:C) (n:Int) (K:C->Prop):Prop:=
 match L with
  | some L=>match c with
   | .bs j off k m _=>k=L.size/\0<=n/\n<(m:Int)/\K (.ptr j (off+n.toNat*L.size))
   | c=>match c.rows? L.size with
    | some rows=>match rows[n.toNat]? with
     | some r=>0<=n/\K (.row r)
     | none=>False
    | none=>False
  | none=>False
def zqu (rows:Option (List (List C))) (n:Int) (K:C->Prop):Prop:=
 match rows with
   | some rows=>match rows[n.toNat]? with
    | some r=>0<=n/\K (.row r)
    | none=>False
   | none=>False
def aAt (r:Option (List C)) (n:Int) (K:C->Prop):Prop:=match r with | some r=>0<=n/\K (.row r) | none=>False
def zqg (L:Option Lay) (c:C) (m:Nat) (n:Int) (K:C->Prop):Prop:=
 match L with
  | some L=>match c with
   | .ptr j off=>0<=n/\n<((m+1:Nat):Int)/\K (.ptr j (off+n.toNat*L.size))
   | .row cs=>0<=n/\n<((m+1:Nat):Int)/\K (.row (cs.drop (n.toNat*L.size)))
   | _=>False
  | none=>False
def zpB (L:Option Lay) (c i:C) (K:C->Prop):Prop:=
 match L,c,i with
 | some ⟨.str,_,_,_⟩,.str l,.sc (.int _ n)=>match l[n.toNat]? with
  | some b=>0<=n/\K (.sc (.int .u8 (b.toNat:Int)))
  | none=>False
 | _,_,_=>False
def zke (b:Option UInt8) (n:Int) (K:C->Prop):Prop:=match b with | some b=>0<=n/\K (.sc (.int .u8 (b.toNat:Int))) | none=>False
def zp3 (P:Program) (L:Option Lay) (c:C) (lo hi mx:Option Int) (K:C->Prop):Prop:=
   match L with
    | some ⟨.str,_,_,_⟩=>match c,mx with
      | .str l,none=>jR l.length lo hi/\K (.str (cut l lo hi))
      | _,_=>False
    | some ⟨.slice e,_,_,_⟩=>match lay P e with
      | some L=>match c with
        | .bs i off k n cap=>zlo L.size i off k n cap lo hi mx K
        | .sc (.slice none 0 0)=>zm0 L.size lo hi mx K
        | c=>match c.rows? L.size with
          | some rows=>match mx,hi with
            | none,_=>jR rows.length lo hi/\K (.sl L.size (cut rows lo hi))
            | some m,some h=>m=h/\jR rows.length lo hi/\K (.tight L.size (cut rows lo hi))
            | some _,none=>False
          | none=>False
      | none=>False
    | _=>False
def zqt (P:Program) (t:TypeId) (c:C) (lo hi mx:Option (Option Int)) (K:C->Prop):Prop:=
 match lo,hi,mx with
 | some lo,some hi,some mx=>zp3 P (lay P t) c lo hi mx K
 | _,_,_=>False
def zqU (L:Option Lay) (c:C) (lo hi mx:Option Int) (K:C->Prop):Prop:=
 match L with
   | some L=>match c with
    | .bs i off k n cap=>zlo L.size i off k n cap lo hi mx K
    | .sc (.slice none 0 0)=>zm0 L.size lo hi mx K
    | c=>match c.rows? L.size with
     | some rows=>match mx,hi with
      | none,_=>jR rows.length lo hi/\K (.sl L.size (cut rows lo hi))
      | some m,some h=>m=h/\jR rows.length lo hi/\K (.tight L.size (cut rows lo hi))
      | some _,none=>False
     | none=>False
   | none=>False
def zqC (rows:Option (List (List C))) (k:Nat) (lo hi mx:Option Int) (K:C->Prop):Prop:=
 match rows with
    | some rows=>match mx,hi with
     | none,_=>jR rows.length lo hi/\K (.sl k (cut rows lo hi))
     | some m,some h=>m=h/\jR rows.length lo hi/\K (.tight k (cut rows lo hi))
     | some _,none=>False
    | none=>False
def zi5 (rows:Option (List (List C))) (K:C->Prop):Prop:=match rows with | some rows=>∃ l,rows=JL l/\K (.str l) | none=>False
theorem zi5.mk {rows:List (List C)} (l:List UInt8) (h:rows=JL l) (hK:K (.str l)):zi5 (some rows) K:=⟨l,h,hK⟩
def zqE (P:Program) (D S:Option Lay) (c:C) (K:C->Prop):Prop:=
 match D with
 | some ⟨.int k,_,_,_⟩=>match c with
  | .sc (.int _ n)=>match S with | some _=>inR k n/\K (.sc (.int k n)) | none=>False
  | _=>False
 | some ⟨.str,_,_,_⟩=>match S with
  | some ⟨.str,_,_,_⟩=>match c with
   | .str l=>K (.str l)
   | _=>False
  | some ⟨.slice e,_,_,_⟩=>match lay P e with
   | some ⟨.int .u8,_,_,_⟩=>match c.rows? 1 with
    | some rows=>∃ l,rows=JL l/\K (.str l)
    | none=>False
   | _=>False
  | some ⟨.int _,_,_,_⟩=>match c with
   | .sc (.int _ n)=>K (.str (Utf8.encode n).data.toList)
   | _=>False
  | _=>False
 | some ⟨.slice e,_,_,_⟩=>match S,lay P e with
  | some ⟨.str,_,_,_⟩,some ⟨.int .u8,_,_,_⟩=>match c with
   | .str l=>((l.length:Nat):Int)<=9223372036854775807/\K (.sl 1 (JL l))
   | _=>False
  | _,_=>False
 | _=>False
def zo1 (L:Option Lay) (c:C) (K:C->Prop):Prop:=
 match L,c with
 | some ⟨.slice _,_,_,_⟩,.bs _ _ _ _ c=>K (.sc (.int .i64 (c:Int)))
 | some ⟨.slice _,_,_,_⟩,.sc (.slice none 0 0)=>K (.sc (.int .i64 0))
 | _,_=>False
def zpd (L:Option Lay) (n:Int) (K:C->Prop):Prop:=match L with | some ⟨.slice _,_,_,_⟩=>K (.sc (.int .i64 n)) | _=>False
def zpi (L:Option Lay) (n:Int) (K:C->Prop):Prop:=match L with | some ⟨.str,_,_,_⟩=>K (.sc (.int .i64 n)) | _=>False
def zpb (L:Option Lay) (parts:List (Nat×C)) (K:C->Prop):Prop:=
 match L with
 | some ⟨.struct fs,_,_,some z⟩=>(parts.all fun p=>p.2.partB)=true/\match YI (fun i=>(fs[i]?).map fun f=>(f.1,f.2.1)) (z.map zA) parts with
  | some cs=>K (.agg cs)
  | none=>False
 | _=>False
def aFl (cs:Option (List C)) (K:C->Prop):Prop:=match cs with | some cs=>K (.agg cs) | none=>False
def plS (fs:List (Nat×Nat×Bool)) (i:Nat):Option (Nat×Nat):=(fs[i]?).map fun f=>(f.1,f.2.1)
def plA (k:Nat) (i:Nat):Option (Nat×Nat):=some (i*k,k)
def ziU (pl:Option (Nat×Nat)) (place:Nat->Option (Nat×Nat)) (cs:List C) (c:List C) (rest:List (Nat×C)):Option (List C):=
 match pl with
  | none=>none
  | some (off,size)=>if c.length=size/\off+size<=cs.length then YI place (cs.take off++c++cs.drop (off+size)) rest else none
def zqn (P:Program) (L:Option Lay) (n:Nat) (parts:List (Nat×C)) (nx:Nat) (K:C->Nat->Prop):Prop:=
 match L with
 | some ⟨.slice e,_,_,_⟩=>match lay P e with
  | some ⟨_,k,_,some z⟩=>z.length=k/\0<k/\n*k<=16777216/\(parts.all fun p=>p.2.frz.partB)=true/\match YI (fun i=>some (i*k,k)) (List.replicate n (z.map zA)).flatten (parts.map fun p=>(p.1,p.2.frz)) with
   | some cs=>(cs.all C.cellB)=true/\cs.length=n*k/\K (.own nx e k (X2 k n cs)) (nx+1)
   | none=>False
  | _=>False
 | _=>False
def zqJ (L:Option Lay) (e:TypeId) (n:Nat) (parts:List (Nat×C)) (nx:Nat) (K:C->Nat->Prop):Prop:=
   match L with
    | some ⟨_,k,_,some z⟩=>z.length=k/\0<k/\n*k<=16777216/\(parts.all fun p=>p.2.frz.partB)=true/\match YI (fun i=>some (i*k,k)) (List.replicate n (z.map zA)).flatten (parts.map fun p=>(p.1,p.2.frz)) with
      | some cs=>(cs.all C.cellB)=true/\cs.length=n*k/\K (.own nx e k (X2 k n cs)) (nx+1)
      | none=>False
    | _=>False
def zqO (cs:Option (List C)) (e k n nx:Nat) (K:C->Nat->Prop):Prop:=
 match cs with
   | some cs=>(cs.all C.cellB)=true/\cs.length=n*k/\K (.own nx e k (X2 k n cs)) (nx+1)
   | none=>False
def zqs (P:Program) (L:Option Lay) (l c:C) (nx:Nat) (K:C->Nat->Prop):Prop:=
 match L,l,c with
 | some ⟨.slice e,_,_,_⟩,.sc (.int _ l),.sc (.int _ c)=>match lay P e with
  | some ⟨_,k,by',some z⟩=>z.length=k/\0<k/\(z.all Value.oneCell')=true/\0<=l/\l<=c/\(by':Int)*c<=281474976710656/\c<=9223372036854775807/\K (.own nx e k (List.replicate l.toNat (z.map zA))) (nx+1)
  | _=>False
 | _,_,_=>False
def zqw (L:Option Lay) (e:TypeId) (l c:Int) (nx:Nat) (K:C->Nat->Prop):Prop:=
 match L with
  | some ⟨_,k,by',some z⟩=>z.length=k/\0<k/\(z.all Value.oneCell')=true/\0<=l/\l<=c/\(by':Int)*c<=281474976710656/\c<=9223372036854775807/\K (.own nx e k (List.replicate l.toNat (z.map zA))) (nx+1)
  | _=>False
def zoP (P:Program) (L:Option Lay) (l c:C) (σ:St) (K:C->St->Prop):Prop:=
 match L,l,c with
 | some ⟨.slice e,_,_,_⟩,.sc (.int _ l),.sc (.int _ c)=>match lay P e with
  | some ⟨_,k,by',some z⟩=>z.length=k/\0<k/\(z.all Value.oneCell')=true/\0<=l/\l<=c/\(by':Int)*c<=281474976710656/\c<=9223372036854775807/\K (.bs σ.bx.length 0 k l.toNat c.toNat) ⟨σ.tm,σ.bx++[(List.replicate c.toNat (z.map zA)).flatten],σ.nx,σ.lg⟩
  | _=>False
 | _,_,_=>False
def zoY (L:Option Lay) (l c:Int) (σ:St) (K:C->St->Prop):Prop:=
 match L with
  | some ⟨_,k,by',some z⟩=>z.length=k/\0<k/\(z.all Value.oneCell')=true/\0<=l/\l<=c/\(by':Int)*c<=281474976710656/\c<=9223372036854775807/\K (.bs σ.bx.length 0 k l.toNat c.toNat) ⟨σ.tm,σ.bx++[(List.replicate c.toNat (z.map zA)).flatten],σ.nx,σ.lg⟩
  | _=>False
def zqM (P:Program) (L:Option Lay) (s x:C) (nx:Nat) (K:C->Nat->Prop):Prop:=
 match L with
 | some ⟨.slice e,_,_,_⟩=>match lay P e with
  | some ⟨_,k,by',some z⟩=>match x.rows? k with
   | some xs=>match s with
    | .sc (.slice none 0 0)=>z.length=k/\0<k/\xs.length<=9223372036854775807/\xs.length*by'<=140737488355328/\K (.own nx e k xs) (nx+1)
    | .tight k' rows=>k'=k/\z.length=k/\0<k/\rows.length+xs.length<=9223372036854775807/\(rows.length+xs.length)*by'<=140737488355328/\(xs = []->K (.tight k' rows) nx)/\(xs≠[]->K (.own nx e k (rows++xs)) (nx+1))
    | _=>False
   | none=>False
  | _=>False
 | _=>False
def zqe (L:Option Lay) (e:TypeId) (s x:C) (nx:Nat) (K:C->Nat->Prop):Prop:=
  match L with
  | some ⟨_,k,by',some z⟩=>match x.rows? k with
   | some xs=>match s with
    | .sc (.slice none 0 0)=>z.length=k/\0<k/\xs.length<=9223372036854775807/\xs.length*by'<=140737488355328/\K (.own nx e k xs) (nx+1)
    | .tight k' rows=>k'=k/\z.length=k/\0<k/\rows.length+xs.length<=9223372036854775807/\(rows.length+xs.length)*by'<=140737488355328/\(xs = []->K (.tight k' rows) nx)/\(xs≠[]->K (.own nx e k (rows++xs)) (nx+1))
    | _=>False
   | none=>False
  | _=>False
def zqW (xs:Option (List (List C))) (s:C) (e k by':Nat) (z:List Value) (nx:Nat) (K:C->Nat->Prop):Prop:=
 match xs with
   | some xs=>match s with
    | .sc (.slice none 0 0)=>z.length=k/\0<k/\xs.length<=9223372036854775807/\xs.length*by'<=140737488355328/\K (.own nx e k xs) (nx+1)
    | .tight k' rows=>k'=k/\z.length=k/\0<k/\rows.length+xs.length<=9223372036854775807/\(rows.length+xs.length)*by'<=140737488355328/\(xs = []->K (.tight k' rows) nx)/\(xs≠[]->K (.own nx e k (rows++xs)) (nx+1))
    | _=>False
   | none=>False
def zqP (P:Program) (L:Option Lay) (id e k:Nat) (rows:List (List C)) (x:C) (σ:St) (K:C->St->Prop):Prop:=
   match L with
    | some ⟨.slice e',_,_,_⟩=>match lay P e with
      | some ⟨_,k',by',some z⟩=>match x.rows? k with
        | some xs=>e'=e/\k'=k/\z.length=k/\0<k/\rows.length+xs.length<=9223372036854775807/\(rows.length+xs.length)*by'<=140737488355328/\K (.own id e k (rows++xs)) ⟨uN id σ.tm,MO id σ.bx,σ.nx,σ.lg⟩
        | none=>False
      | _=>False
    | _=>False
def zpQ (L:Option Lay) (e' id e k:Nat) (rows:List (List C)) (x:C) (σ:St) (K:C->St->Prop):Prop:=
  match L with
   | some ⟨_,k',by',some z⟩=>match x.rows? k with
    | some xs=>e'=e/\k'=k/\z.length=k/\0<k/\rows.length+xs.length<=9223372036854775807/\(rows.length+xs.length)*by'<=140737488355328/\K (.own id e k (rows++xs)) ⟨uN id σ.tm,MO id σ.bx,σ.nx,σ.lg⟩
    | none=>False
   | _=>False
def zpH (xs:Option (List (List C))) (by' id e k:Nat) (rows:List (List C)) (σ:St) (K:C->St->Prop):Prop:=
   match xs with
        | some xs=>rows.length+xs.length<=9223372036854775807/\(rows.length+xs.length)*by'<=140737488355328/\K (.own id e k (rows++xs)) ⟨uN id σ.tm,MO id σ.bx,σ.nx,σ.lg⟩
        | none=>False
def zqT (L:Option Lay) (σ:St) (K:C->St->Prop):Prop:=
 match L with
 | some ⟨_,_,_,some z⟩=>(z.all Value.oneCell')=true/\K (.ptr σ.bx.length 0) ⟨σ.tm,σ.bx++[z.map zA],σ.nx,σ.lg⟩
 | _=>False
def zqp (L:Option Lay) (p c:C) (σ:St) (K:C->St->Prop):Prop:=
 match L,p with
 | some L,.ptr i off=>match σ.bx[i]? with
  | some cs=>c.partB=true/\(c.cells.all C.cellB)=true/\c.cells.length=L.size/\off+L.size<=cs.length/\K .any ⟨σ.tm,σ.bx.set i (cs.take off++c.cells++cs.drop (off+L.size)),σ.nx,σ.lg⟩
  | none=>False
 | _,_=>False
def zqX (cs:Option (List C)) (i off size:Nat) (c:C) (σ:St) (K:C->St->Prop):Prop:=
 match cs with
  | some cs=>c.partB=true/\(c.cells.all C.cellB)=true/\c.cells.length=size/\off+size<=cs.length/\K .any ⟨σ.tm,σ.bx.set i (cs.take off++c.cells++cs.drop (off+size)),σ.nx,σ.lg⟩
  | none=>False
def zci (cs:Option (List C)) (off n:Nat) (K:C->Prop):Prop:=match cs with
   | some cs=>∃ l:List UInt8,l.length=n/\(cs.drop off).take n=l.map (fun b=>C.sc (.int .u8 (b.toNat:Int)))/\K (.str l)
   | none=>False
theorem zci.mk {cs:List C} {off n:Nat} {K:C->Prop} (l:List UInt8) (hl:l.length=n) (h:(cs.drop off).take n=l.map (fun b=>C.sc (.int .u8 (b.toNat:Int)))) (hK:K (.str l)):zci (some cs) off n K:=⟨l,hl,h,hK⟩
def zqf (P:Program) (L:Option Lay) (n:Nat) (parts:List (Nat×C)) (σ:St) (K:C->St->Prop):Prop:=
 match L with
 | some ⟨.slice e,_,_,_⟩=>match lay P e with
  | some ⟨_,k,_,some z⟩=>z.length=k/\0<k/\n*k<=16777216/\(parts.all fun p=>p.2.frz.partB)=true/\match YI (fun i=>some (i*k,k)) (List.replicate n (z.map zA)).flatten (parts.map fun p=>(p.1,p.2.frz)) with
   | some cs=>(cs.all C.cellB)=true/\cs.length=n*k/\K (.bs σ.bx.length 0 k n n) ⟨σ.tm,σ.bx++[cs],σ.nx,σ.lg⟩
   | none=>False
  | _=>False
 | _=>False
def zqk (L:Option Lay) (n:Nat) (parts:List (Nat×C)) (σ:St) (K:C->St->Prop):Prop:=
   match L with
    | some ⟨_,k,_,some z⟩=>z.length=k/\0<k/\n*k<=16777216/\(parts.all fun p=>p.2.frz.partB)=true/\match YI (fun i=>some (i*k,k)) (List.replicate n (z.map zA)).flatten (parts.map fun p=>(p.1,p.2.frz)) with
      | some cs=>(cs.all C.cellB)=true/\cs.length=n*k/\K (.bs σ.bx.length 0 k n n) ⟨σ.tm,σ.bx++[cs],σ.nx,σ.lg⟩
      | none=>False
    | _=>False
def zqN (cs:Option (List C)) (k n:Nat) (σ:St) (K:C->St->Prop):Prop:=
 match cs with
   | some cs=>(cs.all C.cellB)=true/\cs.length=n*k/\K (.bs σ.bx.length 0 k n n) ⟨σ.tm,σ.bx++[cs],σ.nx,σ.lg⟩
   | none=>False
def zqv (P:Program) (L:Option Lay) (p:Nat) (s x:C) (σ:St) (K:C->St->Prop):Prop:=
 match L with
 | some ⟨.slice e,_,_,_⟩=>match lay P e with
  | some ⟨_,k,by',some z⟩=>match x.xs? k σ.bx with
   | some (m,xs)=>z.length=k/\0<k/\(z.all Value.oneCell')=true/\0<m/\match s with
    | .sc (.slice none 0 0)=>m<=9223372036854775807/\m*by'<=140737488355328/\∀ c,m<=c->c<=maxLen->K (.bs σ.bx.length 0 k m c) ⟨σ.tm,σ.bx++[xs++List.replicate ((c-m)*k) .any],σ.nx,σ.lg⟩
    | .bs i 0 k' n c=>match σ.bx[i]? with
     | some cs=>k'=k/\p<=i/\cs.length=c*k/\n<=c/\c<=9223372036854775807/\n+m<=9223372036854775807/\(n+m)*by'<=140737488355328 /\
       ∀ c',n+m<=c'->c'<=maxLen->K (.bs i 0 k (n+m) c') ⟨k6 (JP i) some σ.tm,Zd i (C.reL (JP i) some (cs.take (n*k)++xs)++List.replicate ((c'-(n+m))*k) .any) σ.bx,σ.nx,σ.lg⟩
     | none=>False
    | _=>False
   | none=>False
  | _=>False
 | _=>False
def zqS (L:Option Lay) (p:Nat) (s x:C) (σ:St) (K:C->St->Prop):Prop:=
  match L with
  | some ⟨_,k,by',some z⟩=>match x.xs? k σ.bx with
   | some (m,xs)=>z.length=k/\0<k/\(z.all Value.oneCell')=true/\0<m/\match s with
    | .sc (.slice none 0 0)=>m<=9223372036854775807/\m*by'<=140737488355328/\∀ c,m<=c->c<=maxLen->K (.bs σ.bx.length 0 k m c) ⟨σ.tm,σ.bx++[xs++List.replicate ((c-m)*k) .any],σ.nx,σ.lg⟩
    | .bs i 0 k' n c=>match σ.bx[i]? with
     | some cs=>k'=k/\p<=i/\cs.length=c*k/\n<=c/\c<=9223372036854775807/\n+m<=9223372036854775807/\(n+m)*by'<=140737488355328 /\
       ∀ c',n+m<=c'->c'<=maxLen->K (.bs i 0 k (n+m) c') ⟨k6 (JP i) some σ.tm,Zd i (C.reL (JP i) some (cs.take (n*k)++xs)++List.replicate ((c'-(n+m))*k) .any) σ.bx,σ.nx,σ.lg⟩
     | none=>False
    | _=>False
   | none=>False
  | _=>False
def zqj (X:Option (Nat×List C)) (p k by':Nat) (z:List Value) (s:C) (σ:St) (K:C->St->Prop):Prop:=
  match X with
   | some (m,xs)=>z.length=k/\0<k/\(z.all Value.oneCell')=true/\0<m/\match s with
    | .sc (.slice none 0 0)=>m<=9223372036854775807/\m*by'<=140737488355328/\∀ c,m<=c->c<=maxLen->K (.bs σ.bx.length 0 k m c) ⟨σ.tm,σ.bx++[xs++List.replicate ((c-m)*k) .any],σ.nx,σ.lg⟩
    | .bs i 0 k' n c=>match σ.bx[i]? with
     | some cs=>k'=k/\p<=i/\cs.length=c*k/\n<=c/\c<=9223372036854775807/\n+m<=9223372036854775807/\(n+m)*by'<=140737488355328 /\
       ∀ c',n+m<=c'->c'<=maxLen->K (.bs i 0 k (n+m) c') ⟨k6 (JP i) some σ.tm,Zd i (C.reL (JP i) some (cs.take (n*k)++xs)++List.replicate ((c'-(n+m))*k) .any) σ.bx,σ.nx,σ.lg⟩
     | none=>False
    | _=>False
   | none=>False
def bsO (j:Option Nat) (off k n c:Nat):C:=match j with | some j=>.bs j off k n c | none=>.any
def xsB (k' k off n:Nat) (cs:Option (List C)):Option (Nat×List C):=if k'=k then cs.bind fun cs=>if off+n*k<=cs.length then some (n,(cs.drop off).take (n*k)) else none else none
def zpf (j:Option Nat) (e k:Nat) (rows:List (List C)):C:=match j with | some j=>.own j e k rows | none=>.sl k rows
def zoK (cs:Option (List C)) (off:Nat):C:=match cs with | some cs=>.row ((C.frzL cs).drop off) | none=>.any
def zlX (j:Option Nat) (off:Nat):C:=match j with | some j=>.ptr j off | none=>.any
def zla (cs:Option (List C)) (p:Option Tmp) (σ:St) (K:St->Prop):Prop:=match cs,p with
  | some cs,some p=>K ⟨(p,.ptr σ.bx.length 0) :: σ.tm,σ.bx++[cs],σ.nx,σ.lg⟩
  | _,_=>False
def zql (M:Option (MKd×C)) (t:TypeId) (r:Option C) (nx:Nat) (K:C->Nat->Prop):Prop:=
 match M with
 | some (kd,_)=>match r with
  | none=>K (.mo nx t kd.nil []) (nx+1)
  | some (.sc (.int _ _))=>K (.mo nx t kd.nil []) (nx+1)
  | _=>False
 | none=>False
def zqI (M:Option (MKd×C)) (t:TypeId) (m key:C) (ok:Bool) (K:C->Prop):Prop:=
 match M with
 | some (.int k,z)=>match m,key with
  | .mo _ t' (.int k' l) vs,.sc (.int q n)=>t'=t/\k'=k/\q=k/\kD (vX n l vs) z ok K
  | _,_=>False
 | some (.str,z)=>match m,key with
  | .mo _ t' (.str l) vs,.str s=>t'=t/\kD (vX s l vs) z ok K
  | _,_=>False
 | none=>False
def zqV (M:Option (MKd×C)) (t:TypeId) (m key x:C) (σ:St) (K:C->St->Prop):Prop:=
 match M with
 | some (.int k,_)=>match m,key with
  | .mo id t' (.int k' l) vs,.sc (.int q n)=>t'=t/\k'=k/\q=k/\HB id (.int k (UZ n x.frz l vs).1) (UZ n x.frz l vs).2 σ K
  | _,_=>False
 | some (.str,_)=>match m,key with
  | .mo id t' (.str l) vs,.str s=>t'=t/\HB id (.str (UZ s x.frz l vs).1) (UZ s x.frz l vs).2 σ K
  | _,_=>False
 | none=>False
def zp8 (x:Option (List C)):C:=match x with | some cs=>.row cs | none=>.any
structure Tag.{u} {α:Sort u} (a:α):Type where
def zm8 (M:Option (MKd×C)) (t:TypeId) (r:Option C) (nx:Nat) (K:C->Nat->Prop) (_:Tag K):Prop:=zql M t r nx K
def zov (M:Option (MKd×C)) (t:TypeId) (m key:C) (ok:Bool) (K:C->Prop) (_:Tag K):Prop:=zqI M t m key ok K
def zeR (r:Option C) (z:C) (ok:Bool) (K:C->Prop) (_:Tag K):Prop:=kD r z ok K
def zn1 (M:Option (MKd×C)) (t:TypeId) (m key x:C) (σ:St) (K:C->St->Prop) (_:Tag K):Prop:=zqV M t m key x σ K
def zeY (sz i off k n cap:Nat) (lo hi mx:Option Int) (K:C->Prop) (_:Tag K):Prop:=zlo sz i off k n cap lo hi mx K
def yG (P:Program) (t:TypeId) (s x:C) (σ:St) (K:C->St->Prop) (_:Tag K):Prop:=QZ P t s x σ K
def vJ (P:Program) (t tn:TypeId) (s x:C) (σ:St) (K:C->St->Prop) (_:Tag K):Prop:=HM P t tn s x σ K
def MF (P:Program) (t:TypeId) (d x:C) (σ:St) (K:C->St->Prop) (_:Tag K):Prop:=Qn P t d x σ K
def yt (P:Program) (t:TypeId) (x:C) (σ:St) (K:C->St->Prop) (_:Tag K):Prop:=UN P t x σ K
def znc (x y:C) (K:C->Prop) (_:Tag K):Prop:=zmT x y K
def zmP (P:Program) (t:TypeId) (c:C) (K:C->Prop) (_:Tag K):Prop:=zoa P t c K
def zeE (L:Option Lay) (c:C) (K:C->Prop) (_:Tag K):Prop:=zo1 L c K
def zeO (P:Program) (bx:List (List C)) (s d:TypeId) (c:C) (K:C->Prop) (_:Tag K):Prop:=ul P bx s d c K
def kF (P:Program) (t:TypeId) (n:Nat) (parts:List (Nat×C)) (σ:St) (K:C->St->Prop) (_:Tag K):Prop:=QO P t n parts σ K
def zmS (P:Program) (L:Option Lay) (n:Nat) (parts:List (Nat×C)) (σ:St) (K:C->St->Prop) (_:Tag K):Prop:=zqf P L n parts σ K
def znr (L:Option Lay) (n:Nat) (parts:List (Nat×C)) (σ:St) (K:C->St->Prop) (_:Tag K):Prop:=zqk L n parts σ K
def zmO (cs:Option (List C)) (k n:Nat) (σ:St) (K:C->St->Prop) (_:Tag K):Prop:=zqN cs k n σ K
def vr (P:Program) (p:Nat) (t:TypeId) (s x:C) (σ:St) (K:C->St->Prop) (_:Tag K):Prop:=V1 P p t s x σ K
def zms (P:Program) (L:Option Lay) (p:Nat) (s x:C) (σ:St) (K:C->St->Prop) (_:Tag K):Prop:=zqv P L p s x σ K
def zmH (L:Option Lay) (p:Nat) (s x:C) (σ:St) (K:C->St->Prop) (_:Tag K):Prop:=zqS L p s x σ K
def znw (X:Option (Nat×List C)) (p k by':Nat) (z:List Value) (s:C) (σ:St) (K:C->St->Prop) (_:Tag K):Prop:=zqj X p k by' z s σ K
def zjS (c:C) (X Y:Prop) (_:Tag X) (_:Tag Y):Prop:=ABr c X Y
def zib (c:C) (U X Y:Prop) (_:Tag U) (_:Tag X) (_:Tag Y):Prop:=ziT c U X Y
def JV (ops:Array Oper) (tm:List (Nat×C)) (g:Option (Nat×Bool)) (X Y:Prop) (_:Tag ops) (_:Tag X) (_:Tag Y):Prop:=qT ops tm g X Y
def zpX (d:Option Tmp) (tm:List (Nat×C)) (want:Bool) (X Y:Prop) (_:Tag X) (_:Tag Y):Prop:=aGd d tm want X Y
def ZY (P:Program) (G:zm) (h:Hd) (c:Code) (Q:Exit->St->Prop) (σ:St) (_:Tag c) (_:Tag Q):Prop:=awp P G h c Q σ
def zcY (P:Program) (G:zm) (h:Hd) (ops:Array Oper) (l:List Oper) (σ:St) (K:St->Prop) (_:Tag h) (_:Tag ops) (_:Tag l) (_:Tag K):Prop:=zoA P G h ops l σ K
def YJ (P:Program) (G:zm) (h:Hd) (ops:Array Oper) (l:List Oper) (br:List Bool) (σ:St) (K:St->Prop) (_:Tag h) (_:Tag ops) (_:Tag l) (_:Tag K):Prop:=Yi P G h ops l br σ K
def kY (P:Program) (G:zm) (h:Hd) (ops:Array Oper) (br:List Bool) (σ:St) (K:St->Prop) (_:Tag h) (_:Tag ops) (_:Tag K):Prop:=kj P G h ops br σ K
def ba2 (P:Program) (G:zm) (ops:Array Oper) (b1 b2:List (List C)) (m:Nat) (l:List Oper) (tm:List (Nat×C)) (nx:Nat) (K:List (Nat×C)->Nat->Prop) (_:Tag ops) (_:Tag l) (_:Tag K):Prop:=Z5 P G ops b1 b2 (l.take m) tm nx K
def zmQ (P:Program) (G:zm) (h:Hd) (ops:Array Oper) (all:List Oper) (s:Nat) (br:List Bool) (s0:St) (m:Nat) (l:List Oper) (σ:St) (K:St->Prop) (_:Tag h) (_:Tag ops) (_:Tag all) (_:Tag l) (_:Tag K):Prop:=Yi P G h ops (l.take m) [] σ fun σ1=>zjn P G h ops all s br s0 (l.drop (m+1)) (l[m]?) σ1 K
def zl1 (P:Program) (G:zm) (Y:Hd) (ops:Array Oper) (rest:List (Nat×MFl)) (q:Nat) (H:List UW) (fl:MFl) (oo:Option Oper) (σ:St) (K:St->Prop):Prop:=match oo with
 | none=>False
 | some o=>match fl with
  | .pure=>qT ops σ.tm o.guard (jY P G σ.bx (zx G σ.tm) o.op σ.nx fun c nx'=>mix P G Y ops rest (q+1) ((q,fun b=>jY P G b (zx G σ.tm) o.op σ.nx fun c' n'=>c'=c/\n'=nx') :: H) ⟨jU σ.tm o.dst c,σ.bx,nx',σ.lg⟩ K)
    (mix P G Y ops rest (q+1) H ⟨jU σ.tm o.dst (.sc undef),σ.bx,σ.nx,σ.lg⟩ K)
  | .bar=>qT ops σ.tm o.guard (Qv P G Y o.op σ fun c σ'=>mix P G Y ops rest (q+1) [] (σ'.put o.dst c) K) (mix P G Y ops rest (q+1) [] (σ.put o.dst (.sc undef)) K)
  | .flt fr=>o.guard=none/\znb P G o.op σ fun c bx' nx'=>YO fr bx' H/\mix P G Y ops rest (q+1) H ⟨jU σ.tm o.dst c,bx',nx',σ.lg⟩ K
def U2 (P:Program) (G:zm) (h:Hd) (ops:Array Oper) (all:List Oper) (L:List (Nat×MFl)) (q:Nat) (H:List UW) (σ:St) (K:St->Prop) (_:Tag h) (_:Tag ops) (_:Tag all) (_:Tag H) (_:Tag K):Prop:=mix P G h ops L q H σ K
def NV (P:Program) (G:zm) (h:Hd) (ops:Array Oper) (all:List Oper) (L:List (Nat×MFl)) (q:Nat) (H:List UW) (fl:MFl) (i:Nat) (l:List Oper) (σ:St) (K:St->Prop) (_:Tag h) (_:Tag ops) (_:Tag all) (_:Tag H) (_:Tag l) (_:Tag K):Prop:=zl1 P G h ops L q H fl (l[i]?) σ K
def zl5 (fr:List Nat) (b:List (List C)) (H:List UW) (_:Tag H):Prop:=YO fr b H
def zcw (P:Program) (G:zm) (f:C) (args:List C) (σ:St) (K:C->List (List C)->Nat->Prop) (_:Tag K):Prop:=yY P G f args σ K
def zp1 (P:Program) (G:zm) (f:FuncId) (args:List C) (σ:St) (K:C->List (List C)->Nat->Prop) (_:Tag K):Prop:=ziV P G f args σ K
def Y4 (P:Program) (G:zm) (ops:Array Oper) (a s:Nat) (l:List Oper) (i:Nat) (cs:Option (List C)) (σ:St) (K:St->Prop) (_:Tag ops) (_:Tag l) (_:Tag K):Prop:=jt P G ops a s l i cs σ K
def zi8 (cs:Option (List C)) (p:Option Tmp) (σ:St) (K:St->Prop) (_:Tag K):Prop:=zla cs p σ K
def ziR (L:Option Lay) (K:Prop) (_:Tag K):Prop:=zhk L K
def zi9 (L:Option Lay) (c:C) (K:C->Prop) (_:Tag K):Prop:=zgb L c K
def jx (P:Program) (G:zm) (h:Hd) (op:Op) (σ:St) (K:C->St->Prop) (_:Tag h) (_:Tag op) (_:Tag K):Prop:=Qv P G h op σ K
def Qh (P:Program) (G:zm) (f:FuncId) (args fargs:List C) (σ:St) (K:C->St->Prop) (_:Tag K):Prop:=zmn P G f args fargs σ K
def yr (P:Program) (G:zm) (h:Hd) (c:C) (args:List C) (σ:St) (K:C->St->Prop) (_:Tag h) (_:Tag K):Prop:=MA P G h c args σ K
def vz (y:Yd) (it:Option (List C)) (args:List C) (σ:St) (K:C->St->Prop) (_:Tag y) (_:Tag K):Prop:=GK y it args σ K
def zbX (P:Program) (G:zm) (p:Nat) (A B:Nat->(Exit->St->Prop)->St->Prop) (Q:Exit->St->Prop) (ps:List Tmp) (c:C) (σ:St) (_:Tag A) (_:Tag B) (_:Tag Q):Prop:=vw P G p A B Q ps c σ
def qX (P:Program) (G:zm) (bx:List (List C)) (ev:Operand->C) (op:Op) (nx:Nat) (K:C->Nat->Prop) (_:Tag ev) (_:Tag op) (_:Tag K):Prop:=jY P G bx ev op nx K
def zau (P:Program) (σ:St) (rs:List ResultVar) (K:C->Prop) (_:Tag K):Prop:=zlZ P σ rs K
def Yn (P:Program) (σ:St) (rv:ResultVar) (K:C->Prop) (_:Tag K):Prop:=JG P σ rv K
def yj (P:Program) (t:TypeId) (op:BinOp) (x y:C) (K:C->Prop) (_:Tag K):Prop:=zl0 P t op x y K
def Uj (op:BinOp) (k:IntKind) (a b:Int) (K:C->Prop) (_:Tag K):Prop:=zoB op k a b K
def ur (l:Option Lay) (op:BinOp) (x:C) (K:C->Prop) (_:Tag K):Prop:=zjD l op x K
def zeA (op:BinOp) (b:Bool) (K:C->Prop) (_:Tag K):Prop:=HA op b K
def uS (op:BinOp) (a b:List UInt8) (K:C->Prop) (_:Tag K):Prop:=zoZ op a b K
def zkC (op:BinOp) (ks:Option (List LK)) (xs ys:List C) (K:C->Prop) (_:Tag K):Prop:=zpP op ks xs ys K
def zfI (n:Bool) (ks:List LK) (xs ys:List C) (e:Bool) (K:C->Prop) (_:Tag K):Prop:=aEq n ks xs ys e K
def zpy (op:UnOp) (x:C) (K:C->Prop) (_:Tag K):Prop:=aUn op x K
def va (P:Program) (t:TypeId) (c:C) (bx:List (List C)) (K:C->Prop) (_:Tag K):Prop:=yK P t c bx K
def xT (L:Option Lay) (c:C) (bx:List (List C)) (K:C->Prop) (_:Tag K):Prop:=znn L c bx K
def zdT (cs:Option (List C)) (off:Nat) (L:Lay) (K:C->Prop) (_:Tag K):Prop:=zme cs off L K
def Ve (L:Lay) (cs:List C) (K:C->Prop) (_:Tag K):Prop:=JX L cs K
def zjG (x:Option C) (K:C->Prop) (_:Tag K):Prop:=zpc x K
def V8 (c:C) (i:Nat) (K:C->Prop) (_:Tag K):Prop:=VB c i K
def zjQ (c:C) (K:C->Prop) (_:Tag K):Prop:=zoC c K
def MQ (P:Program) (t:TypeId) (c:C) (f:Nat) (K:C->Prop) (_:Tag K):Prop:=yX P t c f K
def vq (L:Option Lay) (c:C) (f:Nat) (K:C->Prop) (_:Tag K):Prop:=xc L c f K
def vQ (f:Option (Nat×Nat×Bool)) (cs:List C) (K:C->Prop) (_:Tag K):Prop:=VX f cs K
def Qk (P:Program) (t:TypeId) (c:C) (f:Nat) (K:C->Prop) (_:Tag K):Prop:=XX P t c f K
def znB (L:Option Lay) (c:C) (f:Nat) (K:C->Prop) (_:Tag K):Prop:=zqL L c f K
def zlB (f:Option (Nat×Nat×Bool)) (c:C) (K:C->Prop) (_:Tag K):Prop:=zoj f c K
def Qp (P:Program) (t:TypeId) (c:C) (i:C) (K:C->Prop) (_:Tag K):Prop:=XO P t c i K
def zkl (P:Program) (L:Option Lay) (c:C) (i:C) (K:C->Prop) (_:Tag K):Prop:=zqF P L c i K
def zgD (L:Option Lay) (c:C) (n:Int) (K:C->Prop) (_:Tag K):Prop:=zqo L c n K
def zlb (rows:Option (List (List C))) (n:Int) (K:C->Prop) (_:Tag K):Prop:=zqu rows n K
def zp4 (r:Option (List C)) (n:Int) (K:C->Prop) (_:Tag K):Prop:=aAt r n K
def znG (L:Option Lay) (c:C) (m:Nat) (n:Int) (K:C->Prop) (_:Tag K):Prop:=zqg L c m n K
def yi (P:Program) (t:TypeId) (c i:C) (K:C->Prop) (_:Tag K):Prop:=vG P t c i K
def zmK (L:Option Lay) (c i:C) (K:C->Prop) (_:Tag K):Prop:=zpB L c i K
def zjc (b:Option UInt8) (n:Int) (K:C->Prop) (_:Tag K):Prop:=zke b n K
def xd (P:Program) (t:TypeId) (c:C) (lo hi mx:Option C) (K:C->Prop) (_:Tag K):Prop:=vF P t c lo hi mx K
def zn4 (P:Program) (t:TypeId) (c:C) (lo hi mx:Option (Option Int)) (K:C->Prop) (_:Tag K):Prop:=zqt P t c lo hi mx K
def zj5 (P:Program) (L:Option Lay) (c:C) (lo hi mx:Option Int) (K:C->Prop) (_:Tag K):Prop:=zp3 P L c lo hi mx K
def zcj (L:Option Lay) (c:C) (lo hi mx:Option Int) (K:C->Prop) (_:Tag K):Prop:=zqU L c lo hi mx K
def zmR (k:Nat) (lo hi mx:Option Int) (K:C->Prop) (_:Tag K):Prop:=zm0 k lo hi mx K
def zit (rows:Option (List (List C))) (k:Nat) (lo hi mx:Option Int) (K:C->Prop) (_:Tag K):Prop:=zqC rows k lo hi mx K
def zjd (P:Program) (s d:TypeId) (c:C) (K:C->Prop) (_:Tag K):Prop:=zhf P s d c K
def zlD (P:Program) (D S:Option Lay) (c:C) (K:C->Prop) (_:Tag K):Prop:=zqE P D S c K
def ye (P:Program) (t:TypeId) (c:C) (K:C->Prop) (_:Tag K):Prop:=zmi P t c K
def MC (L:Option Lay) (n:Int) (K:C->Prop) (_:Tag K):Prop:=zpd L n K
def zjf (L:Option Lay) (n:Int) (K:C->Prop) (_:Tag K):Prop:=zpi L n K
def yq (P:Program) (t:TypeId) (parts:List (Nat×C)) (K:C->Prop) (_:Tag K):Prop:=uf P t parts K
def zmL (L:Option Lay) (parts:List (Nat×C)) (K:C->Prop) (_:Tag K):Prop:=zpb L parts K
def zp5 (cs:Option (List C)) (K:C->Prop) (_:Tag K):Prop:=aFl cs K
def XI (P:Program) (t:TypeId) (n:Nat) (parts:List (Nat×C)) (nx:Nat) (K:C->Nat->Prop) (_:Tag K):Prop:=J3 P t n parts nx K
def Gc (P:Program) (t:TypeId) (n:Nat) (parts:List (Nat×C)) (nx:Nat) (K:C->Nat->Prop) (_:Tag K):Prop:=Gl P t n parts nx K
def znv (P:Program) (L:Option Lay) (nx:Nat) (K:C->Nat->Prop) (_:Tag K):Prop:=match L with
 | some ⟨.slice e,_,_,_⟩=>match lay P e with
  | some ⟨_,k,_,some z⟩=>z.length=k/\0<k/\K (.tight k []) nx
  | _=>False
 | _=>False
def zmM (L:Option Lay) (nx:Nat) (K:C->Nat->Prop) (_:Tag K):Prop:=match L with
  | some ⟨_,k,_,some z⟩=>z.length=k/\0<k/\K (.tight k []) nx
  | _=>False
def zou (P:Program) (L:Option Lay) (n:Nat) (parts:List (Nat×C)) (nx:Nat) (K:C->Nat->Prop) (_:Tag K):Prop:=zqn P L n parts nx K
def zmp (L:Option Lay) (e:TypeId) (n:Nat) (parts:List (Nat×C)) (nx:Nat) (K:C->Nat->Prop) (_:Tag K):Prop:=zqJ L e n parts nx K
def zmG (cs:Option (List C)) (e k n nx:Nat) (K:C->Nat->Prop) (_:Tag K):Prop:=zqO cs e k n nx K
def zjj (P:Program) (t:TypeId) (l c:C) (nx:Nat) (K:C->Nat->Prop) (_:Tag K):Prop:=zcU P t l c nx K
def Nl (P:Program) (t:TypeId) (l c:C) (σ:St) (K:C->St->Prop) (_:Tag K):Prop:=Vw P t l c σ K
def zi7 (P:Program) (L:Option Lay) (l c:C) (σ:St) (K:C->St->Prop) (_:Tag K):Prop:=zoP P L l c σ K
def zi2 (L:Option Lay) (l c:Int) (σ:St) (K:C->St->Prop) (_:Tag K):Prop:=zoY L l c σ K
def zmf (P:Program) (L:Option Lay) (l c:C) (nx:Nat) (K:C->Nat->Prop) (_:Tag K):Prop:=zqs P L l c nx K
def zm2 (L:Option Lay) (e:TypeId) (l c:Int) (nx:Nat) (K:C->Nat->Prop) (_:Tag K):Prop:=zqw L e l c nx K
def Ge (P:Program) (t:TypeId) (s x:C) (σ:St) (K:C->St->Prop) (_:Tag K):Prop:=Gq P t s x σ K
def Gu (P:Program) (t:TypeId) (s x:C) (nx:Nat) (K:C->Nat->Prop) (_:Tag K):Prop:=ZK P t s x nx K
def zni (P:Program) (L:Option Lay) (s x:C) (nx:Nat) (K:C->Nat->Prop) (_:Tag K):Prop:=zqM P L s x nx K
def zoe (L:Option Lay) (e:TypeId) (s x:C) (nx:Nat) (K:C->Nat->Prop) (_:Tag K):Prop:=zqe L e s x nx K
def znh (xs:Option (List (List C))) (s:C) (e k by':Nat) (z:List Value) (nx:Nat) (K:C->Nat->Prop) (_:Tag K):Prop:=zqW xs s e k by' z nx K
def znW (P:Program) (L:Option Lay) (id e k:Nat) (rows:List (List C)) (x:C) (σ:St) (K:C->St->Prop) (_:Tag K):Prop:=zqP P L id e k rows x σ K
def zmJ (L:Option Lay) (e' id e k:Nat) (rows:List (List C)) (x:C) (σ:St) (K:C->St->Prop) (_:Tag K):Prop:=zpQ L e' id e k rows x σ K
def znm (xs:Option (List (List C))) (by' id e k:Nat) (rows:List (List C)) (σ:St) (K:C->St->Prop) (_:Tag K):Prop:=zpH xs by' id e k rows σ K
def zcP (P:Program) (G:zm) (callee:C) (args:List C) (nx:Nat) (K:C->Nat->Prop) (_:Tag K):Prop:=ML P G callee args nx K
def MP (P:Program) (G:zm) (f:FuncId) (args:List C) (nx:Nat) (K:C->Nat->Prop) (_:Tag K):Prop:=v8 P G f args nx K
def znP (c:C) (σ:St) (K:C->St->Prop) (_:Tag K):Prop:=zpt c σ K
def zml (L:Option Lay) (σ:St) (K:C->St->Prop) (_:Tag K):Prop:=zqT L σ K
def zmA (L:Option Lay) (p c:C) (σ:St) (K:C->St->Prop) (_:Tag K):Prop:=zqp L p c σ K
def zol (cs:Option (List C)) (i off size:Nat) (c:C) (σ:St) (K:C->St->Prop) (_:Tag K):Prop:=zqX cs i off size c σ K
def zdk (p:Nat) (B:(Exit->St->Prop)->St->Prop) (Q:Exit->St->Prop) (σ:St) (_:Tag B) (_:Tag Q):Prop:=ziO p B Q σ
def vv (next:St->Prop) (Q:Exit->St->Prop) (_:Tag next) (_:Tag Q):Exit->St->Prop:=znN next Q
def Uq (id:Nat) (Q:Exit->St->Prop) (_:Tag Q):Exit->St->Prop:=N8 id Q
def GB (Q:Exit->St->Prop) (_:Tag Q):Exit->St->Prop:=zfw Q
def ue (next:St->Prop) (Q:Exit->St->Prop) (_:Tag next) (_:Tag Q):Exit->St->Prop:=zkR next Q
def zji (K:St->Prop) (_:Tag K):Exit->St->Prop:=zk5 K
def xx (m:Nat) (tm:List (Nat×C)) (st:Bool) (next:St) (Q:Exit->St->Prop) (_:Tag next) (_:Tag Q):Exit->St->Prop:=zeg m tm st next Q
def M1 (P:Program) (rs:List ResultVar) (K:C->St->Prop) (_:Tag K):Exit->St->Prop:=zja P rs K
theorem znz:ZY P G h .skip Q σ ⟨⟩ ⟨⟩=Q .normal σ:=(rfl)
theorem zkO {l:Nat}:ZY P G h (.label l) Q σ ⟨⟩ ⟨⟩=Q .normal σ:=(rfl)
theorem zmX {id:Nat}:ZY P G h (.exit id) Q σ ⟨⟩ ⟨⟩=Q (.exit id) σ:=(rfl)
theorem zpY:ZY P G h .ret Q σ ⟨⟩ ⟨⟩=Q .ret σ:=(rfl)
theorem zpJ {a b:Code}:ZY P G h (.seq a b) Q σ ⟨⟩ ⟨⟩=ZY P G h a (vv (fun σ=>ZY P G h b Q σ ⟨⟩ ⟨⟩) Q ⟨⟩ ⟨⟩) σ ⟨⟩ ⟨⟩:=(rfl)
theorem zns {cc:Operand} {a b:Code}:ZY P G h (.cond cc a b) Q ⟨tm,bx,nx,lg⟩ ⟨⟩ ⟨⟩=zjS (zx G tm cc) (ZY P G h a Q ⟨tm,bx,nx,lg⟩ ⟨⟩ ⟨⟩) (ZY P G h b Q ⟨tm,bx,nx,lg⟩ ⟨⟩ ⟨⟩) ⟨⟩ ⟨⟩:=(rfl)
theorem zlp {id:Nat} {a:Code}:ZY P G h (.block id a) Q σ ⟨⟩ ⟨⟩=ZY P G h a (Uq id Q ⟨⟩) σ ⟨⟩ ⟨⟩:=(rfl)
theorem zmo {a:Code}:ZY P G ⟨p,yd,bf⟩ (.loop a) Q σ ⟨⟩ ⟨⟩=zdk p (fun Q σ=>ZY P G ⟨p,yd,bf⟩ a Q σ ⟨⟩ ⟨⟩) Q σ ⟨⟩ ⟨⟩:=(rfl)
theorem zgV {a b:Code} {x:Operand} {ps:List Tmp}:ZY P G ⟨p,yd,bf⟩ (.rangeFunc x ps.toArray a b) Q ⟨tm,bx,nx,lg⟩ ⟨⟩ ⟨⟩=zbX P G p (fun m=>fun Q σ=>ZY P G ⟨m,yd,bf⟩ a Q σ ⟨⟩ ⟨⟩) (fun m=>fun Q σ=>ZY P G ⟨m,yd,bf⟩ b Q σ ⟨⟩ ⟨⟩) Q ps (zx G tm x) ⟨tm,bx,nx,lg⟩ ⟨⟩ ⟨⟩ ⟨⟩:=(rfl)
theorem zk8 {a:Code}:ZY P G h (.scope a) Q σ ⟨⟩ ⟨⟩=ZY P G h a (GB Q ⟨⟩) σ ⟨⟩ ⟨⟩:=(rfl)
theorem zg5 {id:Nat} {l:List Oper}:ZY P G ⟨p,yd,bf⟩ (.region id l.toArray false) Q σ ⟨⟩ ⟨⟩=zcY P G ⟨p,yd,bf⟩ l.toArray l σ (Q .normal) ⟨⟩ ⟨⟩ ⟨⟩ ⟨⟩:=(rfl)
theorem zd6 {id:Nat} {l:List Oper}:ZY P G ⟨p,yd,bf⟩ (.region id l.toArray true) Q σ ⟨⟩ ⟨⟩=kY P G ⟨p,yd,bf⟩ l.toArray (bf id) σ (Q .normal) ⟨⟩ ⟨⟩ ⟨⟩:=(rfl)
theorem zgU {KS:St->Prop} {l:List Oper}:kY P G h l.toArray [] σ KS ⟨⟩ ⟨⟩ ⟨⟩=YJ P G h l.toArray l [] σ KS ⟨⟩ ⟨⟩ ⟨⟩ ⟨⟩:=(rfl)
theorem ziK {KS:St->Prop} {l:List Oper} {r:List Bool}:kY P G h l.toArray (false :: r) σ KS ⟨⟩ ⟨⟩ ⟨⟩=YJ P G h l.toArray l (false :: r) σ KS ⟨⟩ ⟨⟩ ⟨⟩ ⟨⟩:=(rfl)
theorem zgR {KS:St->Prop} {l:List Oper} {s:Nat} {br:List Bool} (hs:(s==199)=false):kY P G h l.toArray (Xj s br) σ KS ⟨⟩ ⟨⟩ ⟨⟩=zmQ P G h l.toArray l s br σ s l σ KS ⟨⟩ ⟨⟩ ⟨⟩ ⟨⟩ ⟨⟩:=(show kj P G h l.toArray (Xj s br) σ KS=ub P G h l.toArray s br σ KS from by
 unfold kj
 rw[show UE (Xj s br)=none from rfl,X4]
 simp only[hs])
theorem zgG {KS:St->Prop} {l:List Oper} {L:List (Nat×MFl)}:kY P G h l.toArray (kN L) σ KS ⟨⟩ ⟨⟩ ⟨⟩=U2 P G h l.toArray l L 0 [] σ KS ⟨⟩ ⟨⟩ ⟨⟩ ⟨⟩ ⟨⟩:=(show kj P G h l.toArray (kN L) σ KS=mix P G h l.toArray L 0 [] σ KS from by
 unfold kj kN
 rw[show UE (Xj 199 (unR (zbK L)))=none from rfl,X4]
 simp only[uC]
 rfl)
theorem zm1 {KS:St->Prop} {all:List Oper} {q:Nat} {H:List UW}:U2 P G h ops all [] q H σ KS ⟨⟩ ⟨⟩ ⟨⟩ ⟨⟩ ⟨⟩=KS σ:=(rfl)
theorem znH {KS:St->Prop} {all:List Oper} {i q:Nat} {fl:MFl} {L:List (Nat×MFl)} {H:List UW}:U2 P G h all.toArray all ((i,fl) :: L) q H σ KS ⟨⟩ ⟨⟩ ⟨⟩ ⟨⟩ ⟨⟩=NV P G h all.toArray all L q H fl i all σ KS ⟨⟩ ⟨⟩ ⟨⟩ ⟨⟩ ⟨⟩ ⟨⟩:=(show mix P G h all.toArray ((i,fl) :: L) q H σ KS=zl1 P G h all.toArray L q H fl (all[i]?) σ KS from rfl)
theorem zmz {KS:St->Prop} {o:Oper} {all l:List Oper} {i q:Nat} {fl:MFl} {L:List (Nat×MFl)} {H:List UW}:NV P G h ops all L q H fl (i+1) (o :: l) σ KS ⟨⟩ ⟨⟩ ⟨⟩ ⟨⟩ ⟨⟩ ⟨⟩=NV P G h ops all L q H fl i l σ KS ⟨⟩ ⟨⟩ ⟨⟩ ⟨⟩ ⟨⟩ ⟨⟩:=(show zl1 P G h ops L q H fl ((o :: l)[i+1]?) σ KS=zl1 P G h ops L q H fl (l[i]?) σ KS from rfl)
theorem zmW {KS:St->Prop} {all rest:List Oper} {q:Nat} {L:List (Nat×MFl)} {H:List UW} {dst:Option Tmp} {op:Op} {ty:TypeId} {pos:String} {af:Array Edge} {g:Option (Nat×Bool)}:NV P G h ops all L q H .pure 0 (⟨dst,op,ty,pos,af,g⟩ :: rest) ⟨tm,bx,nx,lg⟩ KS ⟨⟩ ⟨⟩ ⟨⟩ ⟨⟩ ⟨⟩ ⟨⟩ =
  JV ops tm g (qX P G bx (zx G tm) op nx (fun c nx'=>U2 P G h ops all L (q+1) ((q,fun b=>qX P G b (zx G tm) op nx (fun c' n'=>c'=c/\n'=nx') ⟨⟩ ⟨⟩ ⟨⟩) :: H) ⟨jU tm dst c,bx,nx',lg⟩ KS ⟨⟩ ⟨⟩ ⟨⟩ ⟨⟩ ⟨⟩) ⟨⟩ ⟨⟩ ⟨⟩) (U2 P G h ops all L (q+1) H ⟨jU tm dst (.sc undef),bx,nx,lg⟩ KS ⟨⟩ ⟨⟩ ⟨⟩ ⟨⟩ ⟨⟩) ⟨⟩ ⟨⟩ ⟨⟩:=
 (show zl1 P G h ops L q H .pure (some ⟨dst,op,ty,pos,af,g⟩) ⟨tm,bx,nx,lg⟩ KS=_ from rfl)
theorem zne {KS:St->Prop} {all rest:List Oper} {q:Nat} {L:List (Nat×MFl)} {H:List UW} {dst:Option Tmp} {op:Op} {ty:TypeId} {pos:String} {af:Array Edge} {g:Option (Nat×Bool)}:NV P G h ops all L q H .bar 0 (⟨dst,op,ty,pos,af,g⟩ :: rest) ⟨tm,bx,nx,lg⟩ KS ⟨⟩ ⟨⟩ ⟨⟩ ⟨⟩ ⟨⟩ ⟨⟩ =
  JV ops tm g (jx P G h op ⟨tm,bx,nx,lg⟩ (fun c σ'=>U2 P G h ops all L (q+1) [] (σ'.put dst c) KS ⟨⟩ ⟨⟩ ⟨⟩ ⟨⟩ ⟨⟩) ⟨⟩ ⟨⟩ ⟨⟩) (U2 P G h ops all L (q+1) [] ((St.mk tm bx nx lg).put dst (.sc undef)) KS ⟨⟩ ⟨⟩ ⟨⟩ ⟨⟩ ⟨⟩) ⟨⟩ ⟨⟩ ⟨⟩:=
 (show zl1 P G h ops L q H .bar (some ⟨dst,op,ty,pos,af,g⟩) ⟨tm,bx,nx,lg⟩ KS=_ from rfl)
theorem zkB {KS:St->Prop} {all rest:List Oper} {q:Nat} {L:List (Nat×MFl)} {H:List UW} {fr:List Nat} {dst:Option Tmp} {ty:TypeId} {pos:String} {af:Array Edge}:NV P G h ops all L q H (.flt fr) 0 (⟨dst,.store t x y,ty,pos,af,none⟩ :: rest) ⟨tm,bx,nx,lg⟩ KS ⟨⟩ ⟨⟩ ⟨⟩ ⟨⟩ ⟨⟩ ⟨⟩ =
  jx P G h (.store t x y) ⟨tm,bx,nx,lg⟩ (fun c σ'=>zl5 fr σ'.bx H ⟨⟩/\U2 P G h ops all L (q+1) H ⟨jU tm dst c,σ'.bx,σ'.nx,lg⟩ KS ⟨⟩ ⟨⟩ ⟨⟩ ⟨⟩ ⟨⟩) ⟨⟩ ⟨⟩ ⟨⟩:=
 (show ((none:Option (Nat×Bool))=none/\Jj P t (zx G tm x) (zx G tm y) ⟨tm,bx,nx,lg⟩ fun c σ'=>YO fr σ'.bx H/\mix P G h ops L (q+1) H ⟨jU tm dst c,σ'.bx,σ'.nx,lg⟩ KS)=_ from propext ⟨fun h=>h.2,fun h=>⟨rfl,h⟩⟩)
theorem zjT {KS:St->Prop} {all rest:List Oper} {q:Nat} {L:List (Nat×MFl)} {H:List UW} {fr:List Nat} {dst:Option Tmp} {ty:TypeId} {pos:String} {af:Array Edge}:NV P G h ops all L q H (.flt fr) 0 (⟨dst,.call ⟨.builtin .copy,#[x,y],#[t,t']⟩,ty,pos,af,none⟩ :: rest) ⟨tm,bx,nx,lg⟩ KS ⟨⟩ ⟨⟩ ⟨⟩ ⟨⟩ ⟨⟩ ⟨⟩ =
  MF P t (zx G tm x) (zx G tm y) ⟨tm,bx,nx,lg⟩ (fun c σ'=>zl5 fr σ'.bx H ⟨⟩/\U2 P G h ops all L (q+1) H ⟨jU tm dst c,σ'.bx,σ'.nx,lg⟩ KS ⟨⟩ ⟨⟩ ⟨⟩ ⟨⟩ ⟨⟩) ⟨⟩:=
 (show ((none:Option (Nat×Bool))=none/\Qn P t (zx G tm x) (zx G tm y) ⟨tm,bx,nx,lg⟩ fun c σ'=>YO fr σ'.bx H/\mix P G h ops L (q+1) H ⟨jU tm dst c,σ'.bx,σ'.nx,lg⟩ KS)=_ from propext ⟨fun h=>h.2,fun h=>⟨rfl,h⟩⟩)
theorem znt {KS:St->Prop} {all rest:List Oper} {q:Nat} {L:List (Nat×MFl)} {H:List UW} {fr:List Nat} {dst:Option Tmp} {ty:TypeId} {pos:String} {af:Array Edge} {us:List Operand} {tys:Array TypeId}:NV P G h ops all L q H (.flt fr) 0 (⟨dst,.call ⟨.value x,us.toArray,tys⟩,ty,pos,af,none⟩ :: rest) ⟨tm,bx,nx,lg⟩ KS ⟨⟩ ⟨⟩ ⟨⟩ ⟨⟩ ⟨⟩ ⟨⟩ =
  zcw P G (zx G tm x) (us.map (zx G tm)) ⟨tm,bx,nx,lg⟩ (fun c b' n'=>zl5 fr b' H ⟨⟩/\U2 P G h ops all L (q+1) H ⟨jU tm dst c,b',n',lg⟩ KS ⟨⟩ ⟨⟩ ⟨⟩ ⟨⟩ ⟨⟩) ⟨⟩:=
 (show ((none:Option (Nat×Bool))=none/\yY P G (zx G tm x) (us.map (zx G tm)) ⟨tm,bx,nx,lg⟩ fun c b' n'=>YO fr b' H/\mix P G h ops L (q+1) H ⟨jU tm dst c,b',n',lg⟩ KS)=_ from propext ⟨fun h=>h.2,fun h=>⟨rfl,h⟩⟩)
theorem zj1 {K4:C->List (List C)->Nat->Prop} {f:FuncId} {fs cs args:List C}:zcw P G (.clo (.func f) fs cs) args ⟨tm,bx,nx,lg⟩ K4 ⟨⟩=zp1 P G f (fs++args++cs) ⟨tm,bx,nx,lg⟩ K4 ⟨⟩:=(rfl)
theorem zlt {p:Prop} [Decidable p]:(if p then True else True)=True:=ite_self _
theorem zoc {fr:List Nat} {b:List (List C)}:zl5 fr b [] ⟨⟩=True:=(rfl)
theorem zmC {fr:List Nat} {b:List (List C)} {k:Nat} {f:List (List C)->Prop} {r:List UW}:zl5 fr b ((k,f) :: r) ⟨⟩=((if k∈fr then f b else True)/\zl5 fr b r ⟨⟩):=(show ((match fr.contains k with | true=>f b | false=>True)/\YO fr b r)=((if k∈fr then f b else True)/\YO fr b r) from by
 cases hq:fr.contains k with
 | true=>rw[if_pos (by simpa using hq)]
 | false=>rw[if_neg fun h=>by simp[h]at hq])
theorem zpm {KS:St->Prop} {all:List Oper} {s m:Nat} {br:List Bool} {s0:St} {dst:Option Tmp} {op:Op} {ty:TypeId} {pos:String} {af:Array Edge} {g:Option (Nat×Bool)} {rest:List Oper}:zmQ P G h ops all s br s0 (m+1) (⟨dst,op,ty,pos,af,g⟩ :: rest) ⟨tm,bx,nx,lg⟩ KS ⟨⟩ ⟨⟩ ⟨⟩ ⟨⟩ ⟨⟩=JV ops tm g (qX P G bx (zx G tm) op nx (fun c nx'=>zmQ P G h ops all s br s0 m rest ⟨jU tm dst c,bx,nx',lg⟩ KS ⟨⟩ ⟨⟩ ⟨⟩ ⟨⟩ ⟨⟩) ⟨⟩ ⟨⟩ ⟨⟩) (zmQ P G h ops all s br s0 m rest ⟨jU tm dst (.sc undef),bx,nx,lg⟩ KS ⟨⟩ ⟨⟩ ⟨⟩ ⟨⟩ ⟨⟩) ⟨⟩ ⟨⟩ ⟨⟩:=
 (show (Yi P G h ops (⟨dst,op,ty,pos,af,g⟩ :: rest.take m) [] ⟨tm,bx,nx,lg⟩ fun σ1=>zjn P G h ops all s br s0 (rest.drop (m+1)) (rest[m]?) σ1 KS)=qT ops tm g (jY P G bx (zx G tm) op nx fun c nx'=>Yi P G h ops (rest.take m) [] ⟨jU tm dst c,bx,nx',lg⟩ fun σ1=>zjn P G h ops all s br s0 (rest.drop (m+1)) (rest[m]?) σ1 KS) (Yi P G h ops (rest.take m) [] ⟨jU tm dst (.sc undef),bx,nx,lg⟩ fun σ1=>zjn P G h ops all s br s0 (rest.drop (m+1)) (rest[m]?) σ1 KS) from rfl)
theorem zoU {KS:St->Prop} {all rest:List Oper} {s nx0 lg0:Nat} {br:List Bool} {tm0:List (Nat×C)} {bx0:List (List C)} {ty:TypeId} {pos:String} {af:Array Edge}:zmQ P G h ops all s br ⟨tm0,bx0,nx0,lg0⟩ 0 (⟨none,.store t x y,ty,pos,af,none⟩ :: rest) ⟨tm,bx,nx,lg⟩ KS ⟨⟩ ⟨⟩ ⟨⟩ ⟨⟩ ⟨⟩ =
  jx P G h (.store t x y) ⟨tm,bx,nx,lg⟩ (fun _ σ2=>ba2 P G ops bx0 σ2.bx s all tm0 nx0 (fun tm' nx'=>tm'=tm/\nx'=nx) ⟨⟩ ⟨⟩ ⟨⟩/\YJ P G h ops rest br σ2 KS ⟨⟩ ⟨⟩ ⟨⟩ ⟨⟩) ⟨⟩ ⟨⟩ ⟨⟩:=
 (show zjn P G h ops all s br ⟨tm0,bx0,nx0,lg0⟩ rest (some ⟨none,.store t x y,ty,pos,af,none⟩) ⟨tm,bx,nx,lg⟩ KS=_ from rfl)
theorem zqd {K20:List (Nat×C)->Nat->Prop} {b1 b2:List (List C)} {l:List Oper}:ba2 P G ops b1 b2 0 l tm nx K20 ⟨⟩ ⟨⟩ ⟨⟩=K20 tm nx:=(rfl)
theorem zqY {K20:List (Nat×C)->Nat->Prop} {b1 b2:List (List C)} {m:Nat} {dst:Option Tmp} {op:Op} {ty:TypeId} {pos:String} {af:Array Edge} {g:Option (Nat×Bool)} {rest:List Oper}:ba2 P G ops b1 b2 (m+1) (⟨dst,op,ty,pos,af,g⟩ :: rest) tm nx K20 ⟨⟩ ⟨⟩ ⟨⟩=JV ops tm g (qX P G b1 (zx G tm) op nx (fun c nx'=>qX P G b2 (zx G tm) op nx (fun c' nx''=>c'=c/\nx''=nx') ⟨⟩ ⟨⟩ ⟨⟩/\ba2 P G ops b1 b2 m rest (jU tm dst c) nx' K20 ⟨⟩ ⟨⟩ ⟨⟩) ⟨⟩ ⟨⟩ ⟨⟩) (ba2 P G ops b1 b2 m rest (jU tm dst (.sc undef)) nx K20 ⟨⟩ ⟨⟩ ⟨⟩) ⟨⟩ ⟨⟩ ⟨⟩:=
 (show Z5 P G ops b1 b2 (⟨dst,op,ty,pos,af,g⟩ :: rest.take m) tm nx K20=_ from rfl)
theorem zgr {KS:St->Prop} {l:List Oper} {a s:Nat} (h0:(s==0)=false):kY P G h l.toArray (kl a s) σ KS ⟨⟩ ⟨⟩ ⟨⟩=Y4 P G l.toArray a s l 0 none σ KS ⟨⟩ ⟨⟩ ⟨⟩:=(show kj P G h l.toArray (kl a s) σ KS=jt P G l.toArray a s l 0 none σ KS from by unfold kj;rw[Mp];simp only[h0])
theorem zfE {KS:St->Prop} {a s i:Nat} {cs:Option (List C)} {l:List Oper}:Y4 P G l.toArray a s [] i cs σ KS ⟨⟩ ⟨⟩ ⟨⟩=zi8 cs ((l[a]?).bind (·.dst)) σ KS ⟨⟩:=(show jt P G l.toArray a s [] i cs σ KS=zla cs ((l[a]?).bind (·.dst)) σ KS from by simp only[jt,zla,List.getElem?_toArray];rfl)
theorem zb9 {KS:St->Prop} {a s:Nat} {cs:Option (List C)} {dst:Option Tmp} {ty:TypeId} {pos:String} {af:Array Edge} {g:Option (Nat×Bool)} {rest:List Oper}:Y4 P G ops a s (⟨dst,.alloc t,ty,pos,af,g⟩ :: rest) a cs ⟨tm,bx,nx,lg⟩ KS ⟨⟩ ⟨⟩ ⟨⟩=ziR (lay P t) (Y4 P G ops a s rest (a+1) cs ⟨jU tm dst .any,bx,nx,lg⟩ KS ⟨⟩ ⟨⟩ ⟨⟩) ⟨⟩:=(show jt P G ops a s (⟨dst,.alloc t,ty,pos,af,g⟩ :: rest) a cs ⟨tm,bx,nx,lg⟩ KS=zhk (lay P t) (jt P G ops a s rest (a+1) cs ⟨jU tm dst .any,bx,nx,lg⟩ KS) from by simp only[jt,if_true])
theorem zfj {KS:St->Prop} {a s:Nat} {cs:Option (List C)} {dst:Option Tmp} {ty:TypeId} {pos:String} {af:Array Edge} {g:Option (Nat×Bool)} {rest:List Oper} (hsa:(s==a)=false):Y4 P G ops a s (⟨dst,.store t y x,ty,pos,af,g⟩ :: rest) s cs ⟨tm,bx,nx,lg⟩ KS ⟨⟩ ⟨⟩ ⟨⟩=zi9 (lay P t) (zx G tm x) (fun c=>Y4 P G ops a s rest (s+1) (some c.cells) ⟨jU tm dst .any,bx,nx,lg⟩ KS ⟨⟩ ⟨⟩ ⟨⟩) ⟨⟩:=(show jt P G ops a s (⟨dst,.store t y x,ty,pos,af,g⟩ :: rest) s cs ⟨tm,bx,nx,lg⟩ KS=zgb (lay P t) (zx G tm x) fun c=>jt P G ops a s rest (s+1) (some c.cells) ⟨jU tm dst .any,bx,nx,lg⟩ KS from by simp only[beq_eq_false_iff_ne]at hsa;simp only[jt,if_neg hsa,if_true])
theorem zhH {KS:St->Prop} {a s i:Nat} {cs:Option (List C)} {dst:Option Tmp} {ty:TypeId} {pos:String} {af:Array Edge} {g:Option (Nat×Bool)} {rest:List Oper} {op:Op} (hia:(i==a)=false) (his:(i==s)=false):Y4 P G ops a s (⟨dst,op,ty,pos,af,g⟩ :: rest) i cs ⟨tm,bx,nx,lg⟩ KS ⟨⟩ ⟨⟩ ⟨⟩=JV ops tm g (qX P G bx (zx G tm) op nx (fun c nx'=>Y4 P G ops a s rest (i+1) cs ⟨jU tm dst c,bx,nx',lg⟩ KS ⟨⟩ ⟨⟩ ⟨⟩) ⟨⟩ ⟨⟩ ⟨⟩) (Y4 P G ops a s rest (i+1) cs ⟨jU tm dst (.sc undef),bx,nx,lg⟩ KS ⟨⟩ ⟨⟩ ⟨⟩) ⟨⟩ ⟨⟩ ⟨⟩:=(show jt P G ops a s (⟨dst,op,ty,pos,af,g⟩ :: rest) i cs ⟨tm,bx,nx,lg⟩ KS=qT ops tm g (jY P G bx (zx G tm) op nx fun c nx'=>jt P G ops a s rest (i+1) cs ⟨jU tm dst c,bx,nx',lg⟩ KS) (jt P G ops a s rest (i+1) cs ⟨jU tm dst (.sc undef),bx,nx,lg⟩ KS) from by simp only[beq_eq_false_iff_ne]at hia his;simp only[jt,if_neg hia,if_neg his])
theorem znA {KS:St->Prop} {cs:List C} {u:Tmp}:zi8 (some cs) (some u) ⟨tm,bx,nx,lg⟩ KS ⟨⟩=KS ⟨(u,.ptr bx.length 0) :: tm,bx++[cs],nx,lg⟩:=(rfl)
theorem zoy {kd:LK} {k b1:Nat} {z1:List Value}:ziR (some ⟨kd,k,b1,some z1⟩) X ⟨⟩=(z1.length=k/\(z1.all Value.oneCell')=true/\X):=(rfl)
theorem znX {L:Lay}:zi9 (some L) c K ⟨⟩=(c.partB=true/\(c.cells.all C.cellB)=true/\c.cells.length=L.size/\K c):=(rfl)
theorem zma {KS:St->Prop}:zji KS ⟨⟩ .normal σ=KS σ:=(rfl)
theorem zds {next:St} {b:Bool}:xx m tm b next Q ⟨⟩ ⟨⟩ .normal σ=(b=false/\zH m ⟨[],σ.bx,σ.nx,σ.lg⟩ (next.wt [])):=(rfl)
theorem xa {next:St} {b:Bool}:xx m tm b next Q ⟨⟩ ⟨⟩ .ret σ=(b=true/\∃ σ':St,σ'.bx.length=m/\zH m ⟨[],σ.bx,σ.nx,σ.lg⟩ (σ'.wt [])/\Q .ret (σ'.wt tm)):=(rfl)
theorem zqH {tm2:List (Nat×C)}:St.wt ⟨tm,bx,nx,lg⟩ tm2=⟨tm2,bx,nx,lg⟩:=(rfl)
theorem zhC {cs:List C}:ZN [] cs tm=tm:=(rfl)
theorem zlR {u:Nat} {ps:List Tmp} {cs:List C}:ZN (u :: ps) (c :: cs) tm=ZN ps cs ((u,c) :: tm):=(rfl)
theorem zkA:UX m [] = []:=(rfl)
theorem zok {u:Nat} {r:List (Nat×C)}:UX m ((u,c) :: r)=(u,c.sel (kT m)) :: UX m r:=(rfl)
theorem zm6 {next:St->Prop}:vv next Q ⟨⟩ ⟨⟩ .normal σ=next σ:=(rfl)
theorem xM {next:St->Prop} {id:Nat}:vv next Q ⟨⟩ ⟨⟩ (.exit id) σ=Q (.exit id) σ:=(rfl)
theorem zaZ {next:St->Prop}:vv next Q ⟨⟩ ⟨⟩ .ret σ=Q .ret σ:=(rfl)
theorem zdc {id:Nat}:Uq id Q ⟨⟩ .normal σ=Q .normal σ:=(rfl)
theorem Ml {id:Nat}:Uq id Q ⟨⟩ (.exit id) σ=Q .normal σ:=(show N8 id Q (.exit id) σ=Q .normal σ from if_pos rfl)
theorem NT {id id2:Nat} (h:(id2==id)=false):Uq id Q ⟨⟩ (.exit id2) σ=Q (.exit id2) σ:=(show N8 id Q (.exit id2) σ=Q (.exit id2) σ from if_neg (by simpa using h))
theorem yo {id:Nat}:Uq id Q ⟨⟩ .ret σ=Q .ret σ:=(rfl)
theorem zbv:GB Q ⟨⟩ .normal σ=Q .normal σ:=(rfl)
theorem NC:GB Q ⟨⟩ .ret σ=Q .ret σ:=(rfl)
theorem zik {next:St->Prop}:ue next Q ⟨⟩ ⟨⟩ .normal σ=next σ:=(rfl)
theorem M9 {next:St->Prop} {id:Nat}:ue next Q ⟨⟩ ⟨⟩ (.exit id) σ=Q (.exit id) σ:=(rfl)
theorem zaw {next:St->Prop}:ue next Q ⟨⟩ ⟨⟩ .ret σ=Q .ret σ:=(rfl)
theorem zjB {rs:List ResultVar}:M1 P rs K3 ⟨⟩ .normal σ=zau P σ rs (fun c=>K3 c σ) ⟨⟩:=(rfl)
theorem zlO {rs:List ResultVar}:M1 P rs K3 ⟨⟩ .ret σ=zau P σ rs (fun c=>K3 c σ) ⟨⟩:=(rfl)
theorem zmd:zau P σ [] K ⟨⟩=K (.tup []):=(rfl)
theorem znq {a:ResultVar}:zau P σ [a] K ⟨⟩=Yn P σ a K ⟨⟩:=(rfl)
theorem zob {a b:ResultVar}:zau P σ [a,b] K ⟨⟩=Yn P σ a (fun c=>Yn P σ b (fun d=>K (.tup [c,d])) ⟨⟩) ⟨⟩:=(rfl)
theorem zn8 {a b c1:ResultVar}:zau P σ [a,b,c1] K ⟨⟩=Yn P σ a (fun c=>Yn P σ b (fun d=>Yn P σ c1 (fun e=>K (.tup [c,d,e])) ⟨⟩) ⟨⟩) ⟨⟩:=(rfl)
theorem zoo {u:Nat}:Yn P ⟨tm,bx,nx,lg⟩ (.tmp u) K ⟨⟩=K (jy tm u):=(rfl)
theorem znl {u:Nat}:Yn P ⟨tm,bx,nx,lg⟩ (.cell u t) K ⟨⟩=va P t (jy tm u) bx K ⟨⟩:=(rfl)
theorem zki {KS:St->Prop}:zcY P G h ops [] σ KS ⟨⟩ ⟨⟩ ⟨⟩ ⟨⟩=KS σ:=(rfl)
theorem zox {KS:St->Prop} {dst:Option Tmp} {op:Op} {ty:TypeId} {pos:String} {af:Array Edge} {g:Option (Nat×Bool)} {rest:List Oper}:zcY P G h ops (⟨dst,op,ty,pos,af,g⟩ :: rest) ⟨tm,bx,nx,lg⟩ KS ⟨⟩ ⟨⟩ ⟨⟩ ⟨⟩=JV ops tm g (jx P G h op ⟨tm,bx,nx,lg⟩ (fun c σ'=>zcY P G h ops rest (σ'.put dst c) KS ⟨⟩ ⟨⟩ ⟨⟩ ⟨⟩) ⟨⟩ ⟨⟩ ⟨⟩) (zcY P G h ops rest (St.put ⟨tm,bx,nx,lg⟩ dst (.sc undef)) KS ⟨⟩ ⟨⟩ ⟨⟩ ⟨⟩) ⟨⟩ ⟨⟩ ⟨⟩:=(rfl)
theorem ziq {KS:St->Prop}:YJ P G h ops [] brs σ KS ⟨⟩ ⟨⟩ ⟨⟩ ⟨⟩=KS σ:=(rfl)
theorem zhL {KS:St->Prop} {dst:Option Tmp} {op:Op} {ty:TypeId} {pos:String} {af:Array Edge} {g:Option (Nat×Bool)} {rest:List Oper}:YJ P G h ops (⟨dst,op,ty,pos,af,g⟩ :: rest) [] ⟨tm,bx,nx,lg⟩ KS ⟨⟩ ⟨⟩ ⟨⟩ ⟨⟩=JV ops tm g (qX P G bx (zx G tm) op nx (fun c nx'=>YJ P G h ops rest [] ⟨jU tm dst c,bx,nx',lg⟩ KS ⟨⟩ ⟨⟩ ⟨⟩ ⟨⟩) ⟨⟩ ⟨⟩ ⟨⟩) (YJ P G h ops rest [] ⟨jU tm dst (.sc undef),bx,nx,lg⟩ KS ⟨⟩ ⟨⟩ ⟨⟩ ⟨⟩) ⟨⟩ ⟨⟩ ⟨⟩:=(rfl)
theorem zfQ {KS:St->Prop} {dst:Option Tmp} {op:Op} {ty:TypeId} {pos:String} {af:Array Edge} {g:Option (Nat×Bool)} {rest:List Oper}:YJ P G h ops (⟨dst,op,ty,pos,af,g⟩ :: rest) (false :: brs) ⟨tm,bx,nx,lg⟩ KS ⟨⟩ ⟨⟩ ⟨⟩ ⟨⟩=JV ops tm g (qX P G bx (zx G tm) op nx (fun c nx'=>YJ P G h ops rest brs ⟨jU tm dst c,bx,nx',lg⟩ KS ⟨⟩ ⟨⟩ ⟨⟩ ⟨⟩) ⟨⟩ ⟨⟩ ⟨⟩) (YJ P G h ops rest brs ⟨jU tm dst (.sc undef),bx,nx,lg⟩ KS ⟨⟩ ⟨⟩ ⟨⟩ ⟨⟩) ⟨⟩ ⟨⟩ ⟨⟩:=(rfl)
theorem zhb {KS:St->Prop} {dst:Option Tmp} {op:Op} {ty:TypeId} {pos:String} {af:Array Edge} {g:Option (Nat×Bool)} {rest:List Oper}:YJ P G h ops (⟨dst,op,ty,pos,af,g⟩ :: rest) (true :: brs) ⟨tm,bx,nx,lg⟩ KS ⟨⟩ ⟨⟩ ⟨⟩ ⟨⟩=JV ops tm g (jx P G h op ⟨tm,bx,nx,lg⟩ (fun c σ'=>YJ P G h ops rest brs (σ'.put dst c) KS ⟨⟩ ⟨⟩ ⟨⟩ ⟨⟩) ⟨⟩ ⟨⟩ ⟨⟩) (YJ P G h ops rest brs ⟨jU tm dst (.sc undef),bx,nx,lg⟩ KS ⟨⟩ ⟨⟩ ⟨⟩ ⟨⟩) ⟨⟩ ⟨⟩ ⟨⟩:=(rfl)
theorem ziQ:JV ops tm none X Y ⟨⟩ ⟨⟩ ⟨⟩=X:=(rfl)
theorem zkT {l:List Oper} {j:Nat} {want:Bool}:JV l.toArray tm (some (j,want)) X Y ⟨⟩ ⟨⟩ ⟨⟩=zpX ((l[j]?).bind (·.dst)) tm want X Y ⟨⟩ ⟨⟩:=(show qT l.toArray tm (some (j,want)) X Y=aGd ((l[j]?).bind (·.dst)) tm want X Y from by simp only[qT,List.getElem?_toArray];rfl)
theorem zoq {u:Tmp}:zpX (some u) tm true X Y ⟨⟩ ⟨⟩=zib (jy tm u) Y X Y ⟨⟩ ⟨⟩ ⟨⟩:=(rfl)
theorem zmY {u:Tmp}:zpX (some u) tm false X Y ⟨⟩ ⟨⟩=zib (jy tm u) Y Y X ⟨⟩ ⟨⟩ ⟨⟩:=(rfl)
theorem zkg {U:Prop} {b:Bool}:zib (.sc (.bool b)) U X Y ⟨⟩ ⟨⟩ ⟨⟩=zjS (.sc (.bool b)) X Y ⟨⟩ ⟨⟩:=(rfl)
theorem zkq {U:Prop}:zib (.sc undef) U X Y ⟨⟩ ⟨⟩ ⟨⟩=U:=(rfl)
theorem zaH {u:Tmp}:St.put ⟨tm,bx,nx,lg⟩ (some u) c=⟨(u,c) :: tm,bx,nx,lg⟩:=(rfl)
theorem zaL:St.put ⟨tm,bx,nx,lg⟩ none c=⟨tm,bx,nx,lg⟩:=(rfl)
theorem MR {u:Tmp}:jU tm (some u) c=(u,c) :: tm:=(rfl)
theorem M8:jU tm none c=tm:=(rfl)
theorem ki {n:Nat} {ps:List (Nat×Operand)}:jx P G h (.buildSlice t n ps.toArray) ⟨tm,bx,nx,lg⟩ K3 ⟨⟩ ⟨⟩ ⟨⟩=if h.bx t then kF P t n (ps.map fun p=>(p.1,zx G tm p.2)) ⟨tm,bx,nx,lg⟩ K3 ⟨⟩ else XI P t n (ps.map fun p=>(p.1,zx G tm p.2)) nx (fun c nx'=>K3 c ⟨tm,bx,nx',lg⟩) ⟨⟩:=(rfl)
theorem U3 {n:Nat} {ps:List (Nat×Operand)} {ev:Operand->C}:qX P G bx ev (.buildSlice t n ps.toArray) nx K2 ⟨⟩ ⟨⟩ ⟨⟩=Gc P t n (ps.map fun p=>(p.1,ev p.2)) nx K2 ⟨⟩:=(rfl)
theorem zpU:Gc P t 0 [] nx K2 ⟨⟩=znv P (lay P t) nx K2 ⟨⟩:=(rfl)
theorem zoN {n:Nat} {ps:List (Nat×C)}:Gc P t (n+1) ps nx K2 ⟨⟩=XI P t (n+1) ps nx K2 ⟨⟩:=(rfl)
theorem zpA {e s b:Nat} {z1:Option (List Value)}:znv P (some ⟨.slice e,s,b,z1⟩) nx K2 ⟨⟩=zmM (lay P e) nx K2 ⟨⟩:=(rfl)
theorem zpl {kd:LK} {k b:Nat} {z1:List Value}:zmM (some ⟨kd,k,b,some z1⟩) nx K2 ⟨⟩=(z1.length=k/\0<k/\K2 (.tight k []) nx):=(rfl)
theorem Ho:jx P G h (.makeSlice t x y) ⟨tm,bx,nx,lg⟩ K3 ⟨⟩ ⟨⟩ ⟨⟩=if h.bx t then Nl P t (zx G tm x) (zx G tm y) ⟨tm,bx,nx,lg⟩ K3 ⟨⟩ else zjj P t (zx G tm x) (zx G tm y) nx (fun c nx'=>K3 c ⟨tm,bx,nx',lg⟩) ⟨⟩:=(rfl)
theorem zmx:Hd.bx ⟨p,yd,bf⟩ t=(bf (1000000+t)).headD false:=(rfl)
theorem zj4:Hd.bx2 ⟨p,yd,bf⟩ t=((bf (1000000+t)).drop 1).headD false:=(rfl)
theorem zg3:jx P G h (.move x) ⟨tm,bx,nx,lg⟩ K3 ⟨⟩ ⟨⟩ ⟨⟩=K3 (zx G tm x) ⟨tm,bx,nx,lg⟩:=(rfl)
theorem zh6 {ev:Operand->C}:qX P G bx ev (.move x) nx K2 ⟨⟩ ⟨⟩ ⟨⟩=K2 (ev x) nx:=(rfl)
theorem ux:jx P G h (.assign x) ⟨tm,bx,nx,lg⟩ K3 ⟨⟩ ⟨⟩ ⟨⟩=K3 (zx G tm x) ⟨tm,bx,nx,lg⟩:=(rfl)
theorem zaX {ev:Operand->C}:qX P G bx ev (.assign x) nx K2 ⟨⟩ ⟨⟩ ⟨⟩=K2 (ev x) nx:=(rfl)
theorem zhI:jx P G h (.pick x y z) ⟨tm,bx,nx,lg⟩ K3 ⟨⟩ ⟨⟩ ⟨⟩=zjS (zx G tm x) (K3 (zx G tm y) ⟨tm,bx,nx,lg⟩) (K3 (zx G tm z) ⟨tm,bx,nx,lg⟩) ⟨⟩ ⟨⟩:=(rfl)
theorem zhB {ev:Operand->C}:qX P G bx ev (.pick x y z) nx K2 ⟨⟩ ⟨⟩ ⟨⟩=zjS (ev x) (K2 (ev y) nx) (K2 (ev z) nx) ⟨⟩ ⟨⟩:=(rfl)
theorem zbY {ps:List (Nat×Operand)}:jx P G h (.build t ps.toArray) ⟨tm,bx,nx,lg⟩ K3 ⟨⟩ ⟨⟩ ⟨⟩=yq P t (ps.map fun p=>(p.1,zx G tm p.2)) (fun c=>K3 c ⟨tm,bx,nx,lg⟩) ⟨⟩:=(rfl)
theorem zcx {ps:List (Nat×Operand)} {ev:Operand->C}:qX P G bx ev (.build t ps.toArray) nx K2 ⟨⟩ ⟨⟩ ⟨⟩=yq P t (ps.map fun p=>(p.1,ev p.2)) (fun c=>K2 c nx) ⟨⟩:=(rfl)
theorem zgK:jx P G h (.load t x) ⟨tm,bx,nx,lg⟩ K3 ⟨⟩ ⟨⟩ ⟨⟩=va P t (zx G tm x) bx (fun c=>K3 c ⟨tm,bx,nx,lg⟩) ⟨⟩:=(rfl)
theorem zg0 {ev:Operand->C}:qX P G bx ev (.load t x) nx K2 ⟨⟩ ⟨⟩ ⟨⟩=va P t (ev x) bx (fun c=>K2 c nx) ⟨⟩:=(rfl)
theorem NP:jx P G h (.nilCheck x) ⟨tm,bx,nx,lg⟩ K3 ⟨⟩ ⟨⟩ ⟨⟩=zjQ (zx G tm x) (fun c=>K3 c ⟨tm,bx,nx,lg⟩) ⟨⟩:=(rfl)
theorem Nk {ev:Operand->C}:qX P G bx ev (.nilCheck x) nx K2 ⟨⟩ ⟨⟩ ⟨⟩=zjQ (ev x) (fun c=>K2 c nx) ⟨⟩:=(rfl)
theorem zdu {op:BinOp}:jx P G h (.binOp op t x y t') ⟨tm,bx,nx,lg⟩ K3 ⟨⟩ ⟨⟩ ⟨⟩=yj P t op (zx G tm x) (zx G tm y) (fun c=>K3 c ⟨tm,bx,nx,lg⟩) ⟨⟩:=(rfl)
theorem zd4 {op:BinOp} {ev:Operand->C}:qX P G bx ev (.binOp op t x y t') nx K2 ⟨⟩ ⟨⟩ ⟨⟩=yj P t op (ev x) (ev y) (fun c=>K2 c nx) ⟨⟩:=(rfl)
theorem zgO {op:UnOp}:jx P G h (.unOp op t x) ⟨tm,bx,nx,lg⟩ K3 ⟨⟩ ⟨⟩ ⟨⟩=zpy op (zx G tm x) (fun c=>K3 c ⟨tm,bx,nx,lg⟩) ⟨⟩:=(rfl)
theorem ziP {op:UnOp} {ev:Operand->C}:qX P G bx ev (.unOp op t x) nx K2 ⟨⟩ ⟨⟩ ⟨⟩=zpy op (ev x) (fun c=>K2 c nx) ⟨⟩:=(rfl)
theorem yu:jx P G h (.convert t t' x) ⟨tm,bx,nx,lg⟩ K3 ⟨⟩ ⟨⟩ ⟨⟩=zeO P bx t t' (zx G tm x) (fun c=>K3 c ⟨tm,bx,nx,lg⟩) ⟨⟩:=(rfl)
theorem N5 {fn:Fn} {fs cs:List Operand}:jx P G h (.makeFunc fn fs.toArray cs.toArray) ⟨tm,bx,nx,lg⟩ K3 ⟨⟩ ⟨⟩ ⟨⟩=K3 (.clo fn (fs.map (zx G tm)) (cs.map (zx G tm))) ⟨tm,bx,nx,lg⟩:=(rfl)
theorem zc6 {lo hi mx:Option Operand}:jx P G h (.slice t x lo hi mx) ⟨tm,bx,nx,lg⟩ K3 ⟨⟩ ⟨⟩ ⟨⟩=xd P t (zx G tm x) (lo.map (zx G tm)) (hi.map (zx G tm)) (mx.map (zx G tm)) (fun c=>K3 c ⟨tm,bx,nx,lg⟩) ⟨⟩:=(rfl)
theorem zeh {lo hi mx:Option Operand} {ev:Operand->C}:qX P G bx ev (.slice t x lo hi mx) nx K2 ⟨⟩ ⟨⟩ ⟨⟩=xd P t (ev x) (lo.map ev) (hi.map ev) (mx.map ev) (fun c=>K2 c nx) ⟨⟩:=(rfl)
theorem HD {f:Nat}:jx P G h (.fieldAddr t x f) ⟨tm,bx,nx,lg⟩ K3 ⟨⟩ ⟨⟩ ⟨⟩=Qk P t (zx G tm x) f (fun c=>K3 c ⟨tm,bx,nx,lg⟩) ⟨⟩:=(rfl)
theorem Hv {f:Nat} {ev:Operand->C}:qX P G bx ev (.fieldAddr t x f) nx K2 ⟨⟩ ⟨⟩ ⟨⟩=Qk P t (ev x) f (fun c=>K2 c nx) ⟨⟩:=(rfl)
theorem zdL {f:Nat}:jx P G h (.field t x f) ⟨tm,bx,nx,lg⟩ K3 ⟨⟩ ⟨⟩ ⟨⟩=MQ P t (zx G tm x) f (fun c=>K3 c ⟨tm,bx,nx,lg⟩) ⟨⟩:=(rfl)
theorem zcS {f:Nat} {ev:Operand->C}:qX P G bx ev (.field t x f) nx K2 ⟨⟩ ⟨⟩ ⟨⟩=MQ P t (ev x) f (fun c=>K2 c nx) ⟨⟩:=(rfl)
theorem GM:jx P G h (.indexAddr t x y) ⟨tm,bx,nx,lg⟩ K3 ⟨⟩ ⟨⟩ ⟨⟩=Qp P t (zx G tm x) (zx G tm y) (fun c=>K3 c ⟨tm,bx,nx,lg⟩) ⟨⟩:=(rfl)
theorem HV {ev:Operand->C}:qX P G bx ev (.indexAddr t x y) nx K2 ⟨⟩ ⟨⟩ ⟨⟩=Qp P t (ev x) (ev y) (fun c=>K2 c nx) ⟨⟩:=(rfl)
theorem zb3:jx P G h (.index t x y) ⟨tm,bx,nx,lg⟩ K3 ⟨⟩ ⟨⟩ ⟨⟩=yi P t (zx G tm x) (zx G tm y) (fun c=>K3 c ⟨tm,bx,nx,lg⟩) ⟨⟩:=(rfl)
theorem zft {ev:Operand->C}:qX P G bx ev (.index t x y) nx K2 ⟨⟩ ⟨⟩ ⟨⟩=yi P t (ev x) (ev y) (fun c=>K2 c nx) ⟨⟩:=(rfl)
theorem yy {i:Nat}:jx P G h (.extract x i) ⟨tm,bx,nx,lg⟩ K3 ⟨⟩ ⟨⟩ ⟨⟩=V8 (zx G tm x) i (fun c=>K3 c ⟨tm,bx,nx,lg⟩) ⟨⟩:=(rfl)
theorem xY {i:Nat} {ev:Operand->C}:qX P G bx ev (.extract x i) nx K2 ⟨⟩ ⟨⟩ ⟨⟩=V8 (ev x) i (fun c=>K2 c nx) ⟨⟩:=(rfl)
theorem zcG {us:List Operand} {ts:List TypeId}:jx P G h (.call ⟨.value x,us.toArray,ts.toArray⟩) ⟨tm,bx,nx,lg⟩ K3 ⟨⟩ ⟨⟩ ⟨⟩=yr P G h (zx G tm x) (us.map (zx G tm)) ⟨tm,bx,nx,lg⟩ K3 ⟨⟩ ⟨⟩:=(rfl)
theorem zei {us:List Operand} {ts:List TypeId} {ev:Operand->C}:qX P G bx ev (.call ⟨.value x,us.toArray,ts.toArray⟩) nx K2 ⟨⟩ ⟨⟩ ⟨⟩=zcP P G (ev x) (us.map ev) nx K2 ⟨⟩:=(rfl)
theorem zjo:jx P G h (.call ⟨.builtin .len,#[x],#[t]⟩) ⟨tm,bx,nx,lg⟩ K3 ⟨⟩ ⟨⟩ ⟨⟩=ye P t (zx G tm x) (fun c=>K3 c ⟨tm,bx,nx,lg⟩) ⟨⟩:=(rfl)
theorem zkJ {ev:Operand->C}:qX P G bx ev (.call ⟨.builtin .len,#[x],#[t]⟩) nx K2 ⟨⟩ ⟨⟩ ⟨⟩=ye P t (ev x) (fun c=>K2 c nx) ⟨⟩:=(rfl)
theorem xX {r:Option Operand}:jx P G h (.makeMap t r) ⟨tm,bx,nx,lg⟩ K3 ⟨⟩ ⟨⟩ ⟨⟩=zm8 (zfL P t) t (r.map (zx G tm)) nx (fun c nx'=>K3 c ⟨tm,bx,nx',lg⟩) ⟨⟩:=(rfl)
theorem zmb {kd:MKd} {z:C}:zm8 (some (kd,z)) t none nx K2 ⟨⟩=K2 (.mo nx t kd.nil []) (nx+1):=(rfl)
theorem zkk {k:IntKind}:MKd.nil (.int k) = .int k []:=(rfl)
theorem zbg {ok:Bool} {ev:Operand->C}:qX P G bx ev (.lookup t x y ok) nx K2 ⟨⟩ ⟨⟩ ⟨⟩=zov (zfL P t) t (ev x) (ev y) ok (fun c=>K2 c nx) ⟨⟩:=(rfl)
theorem zoz {k k2 q:IntKind} {z:C} {id:Nat} {t2:TypeId} {l:List Int} {vs:List C} {n:Int} {ok:Bool}:zov (some (.int k,z)) t (.mo id t2 (.int k2 l) vs) (.sc (.int q n)) ok K ⟨⟩=(t2=t/\k2=k/\q=k/\zeR (vX n l vs) z ok K ⟨⟩):=(rfl)
theorem zgJ {z:C}:zeR (some c) z false K ⟨⟩=K c:=(rfl)
theorem uP {w:Operand}:jx P G h (.insert t x y w) ⟨tm,bx,nx,lg⟩ K3 ⟨⟩ ⟨⟩ ⟨⟩=zn1 (zfL P t) t (zx G tm x) (zx G tm y) (zx G tm w) ⟨tm,bx,nx,lg⟩ K3 ⟨⟩:=(rfl)
theorem znC {k k2 q:IntKind} {z:C} {id:Nat} {t2:TypeId} {l:List Int} {vs:List C} {n:Int}:zn1 (some (.int k,z)) t (.mo id t2 (.int k2 l) vs) (.sc (.int q n)) d ⟨tm,bx,nx,lg⟩ K3 ⟨⟩=(t2=t/\k2=k/\q=k/\K3 .any ⟨zfP id (.int k (UZ n d.frz l vs).1) (UZ n d.frz l vs).2 tm,zcf id (.int k (UZ n d.frz l vs).1) (UZ n d.frz l vs).2 bx,nx,lg⟩):=(rfl)
theorem zbB:jx P G h (.call ⟨.builtin .append,#[x,y],#[t,t]⟩) ⟨tm,bx,nx,lg⟩ K3 ⟨⟩ ⟨⟩ ⟨⟩=if h.bx t then if h.bx2 t then yG P t (zx G tm x) (zx G tm y) ⟨tm,bx,nx,lg⟩ K3 ⟨⟩ else vr P h.p t (zx G tm x) (zx G tm y) ⟨tm,bx,nx,lg⟩ K3 ⟨⟩ else Ge P t (zx G tm x) (zx G tm y) ⟨tm,bx,nx,lg⟩ K3 ⟨⟩:=(show Qv P G h (.call ⟨.builtin .append,#[x,y],#[t,t]⟩) ⟨tm,bx,nx,lg⟩ K3=if h.bx t then if h.bx2 t then QZ P t (zx G tm x) (zx G tm y) ⟨tm,bx,nx,lg⟩ K3 else V1 P h.p t (zx G tm x) (zx G tm y) ⟨tm,bx,nx,lg⟩ K3 else Gq P t (zx G tm x) (zx G tm y) ⟨tm,bx,nx,lg⟩ K3 from by simp[Qv,yb])
theorem zhc (h0:(t'==t)=false):jx P G h (.call ⟨.builtin .append,#[x,y],#[t,t']⟩) ⟨tm,bx,nx,lg⟩ K3 ⟨⟩ ⟨⟩ ⟨⟩=vJ P t t' (zx G tm x) (zx G tm y) ⟨tm,bx,nx,lg⟩ K3 ⟨⟩:=(show Qv P G h (.call ⟨.builtin .append,#[x,y],#[t,t']⟩) ⟨tm,bx,nx,lg⟩ K3=HM P t t' (zx G tm x) (zx G tm y) ⟨tm,bx,nx,lg⟩ K3 from by simp only[beq_eq_false_iff_ne]at h0;simp[Qv,yb,h0])
theorem zgF:jx P G h (.call ⟨.builtin .copy,#[x,y],#[t,t']⟩) ⟨tm,bx,nx,lg⟩ K3 ⟨⟩ ⟨⟩ ⟨⟩=MF P t (zx G tm x) (zx G tm y) ⟨tm,bx,nx,lg⟩ K3 ⟨⟩:=(show Qv P G h (.call ⟨.builtin .copy,#[x,y],#[t,t']⟩) ⟨tm,bx,nx,lg⟩ K3=Qn P t (zx G tm x) (zx G tm y) ⟨tm,bx,nx,lg⟩ K3 from by simp[Qv,yb])
theorem zeC:jx P G h (.call ⟨.builtin .clear,#[x],#[t]⟩) ⟨tm,bx,nx,lg⟩ K3 ⟨⟩ ⟨⟩ ⟨⟩=yt P t (zx G tm x) ⟨tm,bx,nx,lg⟩ K3 ⟨⟩:=(show Qv P G h (.call ⟨.builtin .clear,#[x],#[t]⟩) ⟨tm,bx,nx,lg⟩ K3=UN P t (zx G tm x) ⟨tm,bx,nx,lg⟩ K3 from by simp[Qv,yb])
theorem zjL:jx P G h (.call ⟨.builtin .max,#[x,y],#[t,t']⟩) ⟨tm,bx,nx,lg⟩ K3 ⟨⟩ ⟨⟩ ⟨⟩=znc (zx G tm x) (zx G tm y) (fun c=>K3 c ⟨tm,bx,nx,lg⟩) ⟨⟩:=(rfl)
theorem zoR {k k':IntKind} {n m:Int}:znc (.sc (.int k n)) (.sc (.int k' m)) K ⟨⟩=K (.sc (.int k (if m>n then m else n))):=(rfl)
theorem zkc:jx P G h (.call ⟨.builtin .cap,#[x],#[t]⟩) ⟨tm,bx,nx,lg⟩ K3 ⟨⟩ ⟨⟩ ⟨⟩=zmP P t (zx G tm x) (fun c=>K3 c ⟨tm,bx,nx,lg⟩) ⟨⟩:=(show Qv P G h (.call ⟨.builtin .cap,#[x],#[t]⟩) ⟨tm,bx,nx,lg⟩ K3=zoa P t (zx G tm x) fun c=>K3 c ⟨tm,bx,nx,lg⟩ from by simp[Qv,yb])
theorem zpv:zmP P t c K ⟨⟩=zeE (lay P t) c K ⟨⟩:=(rfl)
theorem zhR {i off k n cap:Nat} {e s1 b1:Nat} {z1:Option (List Value)}:zeE (some ⟨.slice e,s1,b1,z1⟩) (.bs i off k n cap) K ⟨⟩=K (.sc (.int .i64 (cap:Int))):=(rfl)
theorem zcp {e s1 b1:Nat} {z1:Option (List Value)}:zeE (some ⟨.slice e,s1,b1,z1⟩) (.sc (.slice none 0 0)) K ⟨⟩=K (.sc (.int .i64 0)):=(rfl)
theorem zam {ev:Operand->C}:qX P G bx ev (.call ⟨.builtin .append,#[x,y],#[t,t]⟩) nx K2 ⟨⟩ ⟨⟩ ⟨⟩=Gu P t (ev x) (ev y) nx K2 ⟨⟩:=(show jY P G bx ev (.call ⟨.builtin .append,#[x,y],#[t,t]⟩) nx K2=ZK P t (ev x) (ev y) nx K2 from by simp[jY,NO,UB])
theorem zcu:jx P G h (.alloc t) ⟨tm,bx,nx,lg⟩ K3 ⟨⟩ ⟨⟩ ⟨⟩=zml (lay P t) ⟨tm,bx,nx,lg⟩ K3 ⟨⟩:=(rfl)
theorem zjN:jx P G h (.box t x) ⟨tm,bx,nx,lg⟩ K3 ⟨⟩ ⟨⟩ ⟨⟩=znP (zx G tm x) ⟨tm,bx,nx,lg⟩ K3 ⟨⟩:=(rfl)
theorem zdE:jx P G h (.store t x y) ⟨tm,bx,nx,lg⟩ K3 ⟨⟩ ⟨⟩ ⟨⟩=zmA (lay P t) (zx G tm x) (zx G tm y) ⟨tm,bx,nx,lg⟩ K3 ⟨⟩:=(rfl)
theorem zh5 {u:Tmp}:zx G tm (.tmp u)=jy tm u:=(rfl)
theorem zbi {v:Value}:zx G tm (.const v)=zA v:=(rfl)
theorem ze8 {f:FuncId}:zx G tm (.func f) = .clo (.func f) [] []:=(rfl)
theorem yn {g:Nat}:zx G tm (.global g)=zp8 (G g):=(rfl)
theorem x8 {cs:List C}:zp8 (some cs) = .row cs:=(rfl)
theorem zmD {u v:Nat} {r:List (Nat×C)}:jy ((u,c) :: r) v=if v=u then c else jy r v:=(rfl)
theorem xg {k:IntKind} {n:Int}:zA (.int k n) = .sc (.int k n):=(rfl)
theorem N3 {b:Bool}:zA (.bool b) = .sc (.bool b):=(rfl)
theorem yp {l:List UInt8}:zA (.string ⟨l.toArray⟩) = .str l:=(rfl)
theorem Hm {a:Option Addr} {n m:Nat}:zA (.slice a n m) = .sc (.slice a n m):=(rfl)
theorem MW {a:Option Nat}:zA (.map a) = .sc (.map a):=(rfl)
theorem NN:zA .nilFunc = .sc .nilFunc:=(rfl)
theorem zdW {op:BinOp} {k:IntKind} {a b:Int}:yj P t op (.sc (.int k a)) (.sc (.int k b)) K ⟨⟩=Uj op k a b K ⟨⟩:=(show zl0 P t op (.sc (.int k a)) (.sc (.int k b)) K=zoB op k a b K from by simp[zl0])
theorem zeG {op:BinOp} {a b:List UInt8}:yj P t op (.str a) (.str b) K ⟨⟩=uS op a b K ⟨⟩:=(rfl)
theorem zfn {op:BinOp} {cs ds:List C}:yj P t op (.agg cs) (.agg ds) K ⟨⟩=zkC op (UY P t) cs ds K ⟨⟩:=(rfl)
theorem MH {op:BinOp} {k:Nat} {rows:List (List C)}:yj P t op (.sl k rows) (.sc (.slice none 0 0)) K ⟨⟩=ur (lay P t) op (.sl k rows) K ⟨⟩:=(rfl)
theorem zfc {op:BinOp} {e0:TypeId} {k0 b0:Nat} {z0:Option (List Value)} {k:Nat} {rows:List (List C)}:ur (some ⟨.slice e0,k0,b0,z0⟩) op (.sl k rows) K ⟨⟩=(rows≠[]/\zeA op false K ⟨⟩):=(rfl)
theorem Nd {op:BinOp} {a:Option Addr} {n cap:Nat}:yj P t op (.sc (.slice a n cap)) (.sc (.slice none 0 0)) K ⟨⟩=ur (lay P t) op (.sc (.slice a n cap)) K ⟨⟩:=(rfl)
theorem zc1 {op:BinOp} {e0:TypeId} {k0 b0:Nat} {z0:Option (List Value)} {a:Option Addr} {n cap:Nat}:ur (some ⟨.slice e0,k0,b0,z0⟩) op (.sc (.slice a n cap)) K ⟨⟩=zeA op a.isNone K ⟨⟩:=(rfl)
theorem zaV {b:Bool}:zeA .eql b K ⟨⟩=K (.sc (.bool b)):=(rfl)
theorem ze0 {lk:List LK} {cs ds:List C}:zkC .eql (some lk) cs ds K ⟨⟩=zfI false lk cs ds true K ⟨⟩:=(rfl)
theorem zb5 {lk:List LK} {cs ds:List C}:zkC .neq (some lk) cs ds K ⟨⟩=zfI true lk cs ds true K ⟨⟩:=(rfl)
theorem zhD {e:Bool}:zfI false [] [] [] e K ⟨⟩=K (.sc (.bool e)):=(rfl)
theorem zaz {e:Bool}:zfI true [] [] [] e K ⟨⟩=K (.sc (.bool (!e))):=(rfl)
theorem zfT {n e:Bool} {lk:List LK} {k k1 k2:IntKind} {a b:Int} {cs ds:List C}:zfI n (.int k :: lk) (.sc (.int k1 a) :: cs) (.sc (.int k2 b) :: ds) e K ⟨⟩=(k1=k/\k2=k/\zfI n lk cs ds (e&&decide (a=b)) K ⟨⟩):=(rfl)
theorem zfm {n e:Bool} {lk:List LK} {a b:Bool} {cs ds:List C}:zfI n (.bool :: lk) (.sc (.bool a) :: cs) (.sc (.bool b) :: ds) e K ⟨⟩=zfI n lk cs ds (e&&(a==b)) K ⟨⟩:=(rfl)
theorem zgT {n e:Bool} {lk:List LK} {a b:List UInt8} {cs ds:List C}:zfI n (.str :: lk) (.str a :: cs) (.str b :: ds) e K ⟨⟩=zfI n lk cs ds (e&&decide (a=b)) K ⟨⟩:=(rfl)
theorem zbZ {k:IntKind} {a b:Int}:Uj .add k a b K ⟨⟩=(inR k (a+b)/\K (.sc (.int k (a+b)))):=(rfl)
theorem zdz {k:IntKind} {a b:Int}:Uj .sub k a b K ⟨⟩=(inR k (a-b)/\K (.sc (.int k (a-b)))):=(rfl)
theorem zcg {k:IntKind} {a b:Int}:Uj .rem k a b K ⟨⟩=(0<=a/\0<b/\K (.sc (.int k (a % b)))):=(rfl)
theorem zcE {k:IntKind} {a b:Int}:Uj .shr k a b K ⟨⟩=(b=1/\K (.sc (.int k (a / 2)))):=(rfl)
theorem zdH {k:IntKind} {a b:Int}:Uj .eql k a b K ⟨⟩=(K (.sc (.bool (decide (a=b))))):=(rfl)
theorem zcz {k:IntKind} {a b:Int}:Uj .neq k a b K ⟨⟩=(K (.sc (.bool (!decide (a=b))))):=(rfl)
theorem zdK {k:IntKind} {a b:Int}:Uj .lss k a b K ⟨⟩=(K (.sc (.bool (decide (a<b))))):=(rfl)
theorem zew {k:IntKind} {a b:Int}:Uj .leq k a b K ⟨⟩=(K (.sc (.bool (decide (a<=b))))):=(rfl)
theorem zbL {k:IntKind} {a b:Int}:Uj .gtr k a b K ⟨⟩=(K (.sc (.bool (decide (b<a))))):=(rfl)
theorem zcJ {k:IntKind} {a b:Int}:Uj .geq k a b K ⟨⟩=(K (.sc (.bool (decide (b<=a))))):=(rfl)
theorem zcM {a b:List UInt8}:uS .add a b K ⟨⟩=(((a.length+b.length:Nat):Int)<=9223372036854775807/\K (.str (a++b))):=(rfl)
theorem zd1 {a b:List UInt8}:uS .eql a b K ⟨⟩=(K (.sc (.bool (decide (a=b))))):=(rfl)
theorem zdi {a b:List UInt8}:uS .neq a b K ⟨⟩=(K (.sc (.bool (!decide (a=b))))):=(rfl)
theorem zbM {a b:List UInt8}:uS .geq a b K ⟨⟩=(K (.sc (.bool (!Op.bytesLess a b)))):=(rfl)
theorem ze9 {a b:List UInt8}:uS .gtr a b K ⟨⟩=(K (.sc (.bool (!(Op.bytesLess a b||decide (a=b)))))):=(rfl)
theorem zhp {b:Bool}:zpy .not (.sc (.bool b)) K ⟨⟩=K (.sc (.bool (!b))):=(rfl)
theorem zeQ {cs:List C} {i:Nat}:V8 (.tup cs) i K ⟨⟩=zjG (cs[i]?) K ⟨⟩:=(rfl)
theorem zo6:zjG (some c) K ⟨⟩=K c:=(rfl)
theorem zfB {i off:Nat}:zjQ (.ptr i off) K ⟨⟩=K (.ptr i off):=(rfl)
theorem zno:va P t c bx K ⟨⟩=xT (lay P t) c bx K ⟨⟩:=(rfl)
theorem uA {L:Lay} {i off:Nat}:xT (some L) (.ptr i off) bx K ⟨⟩=zdT (bx[i]?) off L K ⟨⟩:=(rfl)
theorem zbt {L:Lay} {cs:List C}:xT (some L) (.row cs) bx K ⟨⟩=Ve L cs K ⟨⟩:=(rfl)
theorem zjt {L:Lay} {off:Nat} {cs:List C}:zdT (some cs) off L K ⟨⟩=Ve L (cs.drop off) K ⟨⟩:=(rfl)
theorem Hl {fs:List (Nat×Nat×Bool)} {s b:Nat} {z1:Option (List Value)} {cs:List C}:Ve ⟨.struct fs,s,b,z1⟩ cs K ⟨⟩=(s<=cs.length/\K (.agg (cs.take s))):=(show JX ⟨.struct fs,s,b,z1⟩ cs K=(s<=cs.length/\K (.agg (cs.take s))) from by simp[JX,LK.agg])
theorem zaF {ik:IntKind} {s b:Nat} {z1:Option (List Value)} {r:List C}:Ve ⟨.int ik,s,b,z1⟩ (c :: r) K ⟨⟩=K c:=(show JX ⟨.int ik,s,b,z1⟩ (c :: r) K=K c from by simp[JX,LK.agg])
theorem xu {s b:Nat} {z1:Option (List Value)} {r:List C}:Ve ⟨.bool,s,b,z1⟩ (c :: r) K ⟨⟩=K c:=(show JX ⟨.bool,s,b,z1⟩ (c :: r) K=K c from by simp[JX,LK.agg])
theorem za7 {s b:Nat} {z1:Option (List Value)} {r:List C}:Ve ⟨.str,s,b,z1⟩ (c :: r) K ⟨⟩=K c:=(show JX ⟨.str,s,b,z1⟩ (c :: r) K=K c from by simp[JX,LK.agg])
theorem Mz {e:TypeId} {s b:Nat} {z1:Option (List Value)} {r:List C}:Ve ⟨.slice e,s,b,z1⟩ (c :: r) K ⟨⟩=K c:=(show JX ⟨.slice e,s,b,z1⟩ (c :: r) K=K c from by simp[JX,LK.agg])
theorem Nn {s b:Nat} {z1:Option (List Value)} {r:List C}:Ve ⟨.other,s,b,z1⟩ (c :: r) K ⟨⟩=K c:=(show JX ⟨.other,s,b,z1⟩ (c :: r) K=K c from by simp[JX,LK.agg])
theorem zlV {f:Nat}:MQ P t c f K ⟨⟩=vq (lay P t) c f K ⟨⟩:=(rfl)
theorem zgE {fs:List (Nat×Nat×Bool)} {s b:Nat} {z1:Option (List Value)} {cs:List C} {f:Nat}:vq (some ⟨.struct fs,s,b,z1⟩) (.agg cs) f K ⟨⟩=vQ (fs[f]?) cs K ⟨⟩:=(show xc (some ⟨.struct fs,s,b,z1⟩) (.agg cs) f K=VX (fs[f]?) cs K from by unfold xc VX;simp only[];cases fs[f]?<;>simp)
theorem zco {off size:Nat} {cs:List C}:vQ (some (off,size,false)) cs K ⟨⟩=zjG (cs[off]?) K ⟨⟩:=(show VX (some (off,size,false)) cs K=zpc (cs[off]?) K from by unfold VX zpc;simp)
theorem zqq {f:Nat}:Qk P t c f K ⟨⟩=znB (lay P t) c f K ⟨⟩:=(rfl)
theorem zoT {fs:List (Nat×Nat×Bool)} {s b:Nat} {z1:Option (List Value)} {f:Nat}:znB (some ⟨.struct fs,s,b,z1⟩) c f K ⟨⟩=zlB (fs[f]?) c K ⟨⟩:=(rfl)
theorem zhm {off size i q:Nat} {g:Bool}:zlB (some (off,size+1,g)) (.ptr i q) K ⟨⟩=K (.ptr i (q+off)):=(show zoj (some (off,size+1,g)) (.ptr i q) K=K (.ptr i (q+off)) from by simp[zoj])
theorem ziv {off size:Nat} {g:Bool} {cs:List C}:zlB (some (off,size+1,g)) (.row cs) K ⟨⟩=K (.row (cs.drop off)):=(show zoj (some (off,size+1,g)) (.row cs) K=K (.row (cs.drop off)) from by simp[zoj])
theorem zqy:Qp P t c d K ⟨⟩=zkl P (lay P t) c d K ⟨⟩:=(rfl)
theorem zal {e s b:Nat} {z1:Option (List Value)} {k:IntKind} {n:Int}:zkl P (some ⟨.slice e,s,b,z1⟩) c (.sc (.int k n)) K ⟨⟩=zgD (lay P e) c n K ⟨⟩:=(rfl)
theorem uF {m e s b:Nat} {z1:Option (List Value)} {k:IntKind} {n:Int}:zkl P (some ⟨.array (m+1) e,s,b,z1⟩) c (.sc (.int k n)) K ⟨⟩=znG (lay P e) c m n K ⟨⟩:=(rfl)
theorem zdt {k:Nat} {rows:List (List C)} {L:Lay} {n:Int}:zgD (some L) (.sl k rows) n K ⟨⟩=zlb (C.rows? L.size (.sl k rows)) n K ⟨⟩:=(rfl)
theorem zeB {k:Nat} {rows:List (List C)} {L:Lay} {lo hi mx:Option Int}:zcj (some L) (.sl k rows) lo hi mx K ⟨⟩=zit (C.rows? L.size (.sl k rows)) L.size lo hi mx K ⟨⟩:=(rfl)
theorem zax {id e k:Nat} {rows:List (List C)} {L:Lay} {n:Int}:zgD (some L) (.own id e k rows) n K ⟨⟩=zlb (C.rows? L.size (.own id e k rows)) n K ⟨⟩:=(rfl)
theorem zbb {id e k:Nat} {rows:List (List C)} {L:Lay} {lo hi mx:Option Int}:zcj (some L) (.own id e k rows) lo hi mx K ⟨⟩=zit (C.rows? L.size (.own id e k rows)) L.size lo hi mx K ⟨⟩:=(rfl)
theorem zao {L:Lay} {lo hi mx:Option Int}:zcj (some L) (.sc (.slice none 0 0)) lo hi mx K ⟨⟩=zmR L.size lo hi mx K ⟨⟩:=(rfl)
theorem zpN {k:Nat} {lo hi:Option Int}:zmR k lo hi none K ⟨⟩=(jR 0 lo hi/\K (.sc (.slice none 0 0))):=(rfl)
theorem uU {v:Value} :zeO P bx t t' (.sc v) K ⟨⟩=zjd P t t' (.sc v) K ⟨⟩:=(rfl)
theorem ze7 {L:Lay} {n:Int} {j off k m1 cap:Nat}:zgD (some L) (.bs j off k m1 cap) n K ⟨⟩=(k=L.size/\0<=n/\n<(m1:Int)/\K (.ptr j (off+n.toNat*L.size))):=(rfl)
theorem zd7 {L:Lay} {lo hi mx:Option Int} {i off k n cap:Nat}:zcj (some L) (.bs i off k n cap) lo hi mx K ⟨⟩=zeY L.size i off k n cap lo hi mx K ⟨⟩:=(rfl)
theorem zgh {b:Int} {sz i off k n cap:Nat}:zeY sz i off k n cap none (some b) none K ⟨⟩=(n<=cap/\(0<=b/\b<=(cap:Int))/\K (.bs i off k b.toNat cap)):=(rfl)
theorem zg8 {a:Int} {sz i off k n cap:Nat}:zeY sz i off k n cap (some a) none none K ⟨⟩=(sz=k/\n<=cap/\(0<=a/\a<=(n:Int))/\K (.bs i (off+a.toNat*k) k (n-a.toNat) (cap-a.toNat))):=(rfl)
theorem zf5 {a b:Int} {sz i off k n cap:Nat}:zeY sz i off k n cap (some a) (some b) none K ⟨⟩=(sz=k/\(0<=a/\a<=b/\b<=(cap:Int))/\K (.bs i (off+a.toNat*k) k (b.toNat-a.toNat) (cap-a.toNat))):=(rfl)
theorem zhZ {a b m1:Int} {sz i off k n cap:Nat}:zeY sz i off k n cap (some a) (some b) (some m1) K ⟨⟩=(sz=k/\(0<=a/\a<=b/\b<=m1/\m1<=(cap:Int))/\K (.bs i (off+a.toNat*k) k (b.toNat-a.toNat) (m1.toNat-a.toNat))):=(rfl)
theorem zii {i off k n cap:Nat}:ye P t (.bs i off k n cap) K ⟨⟩=MC (lay P t) (n:Int) K ⟨⟩:=(rfl)
theorem zqB {n:Nat} {ps:List (Nat×C)}:kF P t n ps ⟨tm,bx,nx,lg⟩ K3 ⟨⟩=zmS P (lay P t) n ps ⟨tm,bx,nx,lg⟩ K3 ⟨⟩:=(rfl)
theorem zpC {e s b n:Nat} {z1:Option (List Value)} {ps:List (Nat×C)}:zmS P (some ⟨.slice e,s,b,z1⟩) n ps σ K3 ⟨⟩=znr (lay P e) n ps σ K3 ⟨⟩:=(rfl)
theorem zpe {kd:LK} {k b n:Nat} {z1:List Value} {ps:List (Nat×C)}:znr (some ⟨kd,k,b,some z1⟩) n ps σ K3 ⟨⟩=(z1.length=k/\0<k/\n*k<=16777216/\(ps.all fun p=>p.2.frz.partB)=true/\zmO (YI (plA k) (List.replicate n (z1.map zA)).flatten (ps.map fun p=>(p.1,p.2.frz))) k n σ K3 ⟨⟩):=(rfl)
theorem zoW {cs:List C} {k n:Nat}:zmO (some cs) k n ⟨tm,bx,nx,lg⟩ K3 ⟨⟩=((cs.all C.cellB)=true/\cs.length=n*k/\K3 (.bs bx.length 0 k n n) ⟨tm,bx++[cs],nx,lg⟩):=(rfl)
theorem zqx:vr P p t c d ⟨tm,bx,nx,lg⟩ K3 ⟨⟩=zms P (lay P t) p c d ⟨tm,bx,nx,lg⟩ K3 ⟨⟩:=(rfl)
theorem zpS {e s b:Nat} {z1:Option (List Value)}:zms P (some ⟨.slice e,s,b,z1⟩) p c d σ K3 ⟨⟩=zmH (lay P e) p c d σ K3 ⟨⟩:=(rfl)
theorem zoQ {kd:LK} {k b:Nat} {z1:List Value}:zmH (some ⟨kd,k,b,some z1⟩) p c d ⟨tm,bx,nx,lg⟩ K3 ⟨⟩=znw (d.xs? k bx) p k b z1 c ⟨tm,bx,nx,lg⟩ K3 ⟨⟩:=(rfl)
theorem zlH {i off k k2 n cap:Nat}:C.xs? k bx (.bs i off k2 n cap)=xsB k2 k off n (bx[i]?):=(rfl)
theorem zm3 {k off n:Nat} {cs:List C}:xsB k k off n (some cs)=if off+n*k<=cs.length then some (n,(cs.drop off).take (n*k)) else none:=(show xsB k k off n (some cs)=if off+n*k<=cs.length then some (n,(cs.drop off).take (n*k)) else none from by simp[xsB])
theorem zjr {i:Nat} {cs:List C}:Zd i cs bx=(GT (JP i) some bx).set i cs:=(rfl)
theorem zku {i j:Nat}:JP i j=if j=i then none else some j:=(rfl)
theorem zhJ {i off k n cap:Nat}:C.frz (.bs i off k n cap) = .any:=(show C.frz (.bs i off k n cap) = .any from by rw[C.frz])
theorem zlP {i off k n cap:Nat} {fp fo:Nat->Option Nat}:C.re fp fo (.bs i off k n cap)=bsO (fp i) off k n cap:=(show C.re fp fo (.bs i off k n cap)=bsO (fp i) off k n cap from by rw[C.re];rfl)
theorem zop {j off k n cap:Nat}:bsO (some j) off k n cap = .bs j off k n cap:=(rfl)
theorem znj {off k n cap:Nat}:bsO none off k n cap = .any:=(rfl)
theorem zbs {i off k n cap:Nat}:C.cellB (.bs i off k n cap)=true:=(rfl)
theorem zbm {i off k n cap:Nat}:C.partB (.bs i off k n cap)=true:=(rfl)
theorem za8 {i off k n cap:Nat}:C.cells (.bs i off k n cap) = [.bs i off k n cap]:=(rfl)
theorem zon {rows:List (List C)} {n:Int}:zlb (some rows) n K ⟨⟩=zp4 (rows[n.toNat]?) n K ⟨⟩:=(rfl)
theorem zqQ {r:List C} {n:Int}:zp4 (some r) n K ⟨⟩=(0<=n/\K (.row r)):=(rfl)
theorem zle {L:Lay} {m:Nat} {n:Int} {cs:List C}:znG (some L) (.row cs) m n K ⟨⟩=(0<=n/\n<((m+1:Nat):Int)/\K (.row (cs.drop (n.toNat*L.size)))):=(rfl)
theorem zqi:yi P t c d K ⟨⟩=zmK (lay P t) c d K ⟨⟩:=(rfl)
theorem zo2 {s b:Nat} {z1:Option (List Value)} {l:List UInt8} {k:IntKind} {n:Int}:zmK (some ⟨.str,s,b,z1⟩) (.str l) (.sc (.int k n)) K ⟨⟩=zjc (l[n.toNat]?) n K ⟨⟩:=(show zpB (some ⟨.str,s,b,z1⟩) (.str l) (.sc (.int k n)) K=zke (l[n.toNat]?) n K from by unfold zpB zke;simp)
theorem zmy {b:UInt8} {n:Int}:zjc (some b) n K ⟨⟩=(0<=n/\K (.sc (.int .u8 (b.toNat:Int)))):=(rfl)
theorem zqm {lo hi mx:Option C}:xd P t c lo hi mx K ⟨⟩=zn4 P t c (vS lo) (vS hi) (vS mx) K ⟨⟩:=(rfl)
theorem zoV {lo hi mx:Option Int}:zn4 P t c (some lo) (some hi) (some mx) K ⟨⟩=zj5 P (lay P t) c lo hi mx K ⟨⟩:=(rfl)
theorem uI:vS none=some none:=(rfl)
theorem zdQ {k:IntKind} {n:Int}:vS (some (.sc (.int k n)))=some (some n):=(rfl)
theorem zif {s b:Nat} {z1:Option (List Value)} {l:List UInt8} {lo hi:Option Int}:zj5 P (some ⟨.str,s,b,z1⟩) (.str l) lo hi none K ⟨⟩=(jR l.length lo hi/\K (.str (cut l lo hi))):=(rfl)
theorem uM {e s b:Nat} {z1:Option (List Value)} {lo hi mx:Option Int}:zj5 P (some ⟨.slice e,s,b,z1⟩) c lo hi mx K ⟨⟩=zcj (lay P e) c lo hi mx K ⟨⟩:=(rfl)
theorem znf {rows:List (List C)} {k:Nat} {lo hi:Option Int}:zit (some rows) k lo hi none K ⟨⟩=(jR rows.length lo hi/\K (.sl k (cut rows lo hi))):=(rfl)
theorem zmc {rows:List (List C)} {k:Nat} {lo:Option Int} {h m:Int}:zit (some rows) k lo (some h) (some m) K ⟨⟩=(m=h/\jR rows.length lo (some h)/\K (.tight k (cut rows lo (some h)))):=(rfl)
theorem zga {α:Type} {l:List α} {a:Int}:cut l (some a) none=l.drop a.toNat:=(rfl)
theorem zhE {α:Type} {l:List α} {b:Int}:cut l none (some b)=l.take b.toNat:=(rfl)
theorem ziz {α:Type} {l:List α} {a b:Int}:cut l (some a) (some b)=(l.take b.toNat).drop a.toNat:=(rfl)
theorem uR {n:Nat} {a:Int}:jR n (some a) none=(0<=a/\a<=(n:Int)):=(rfl)
theorem zag {n:Nat} {b:Int}:jR n none (some b)=(0<=b/\b<=(n:Int)):=(rfl)
theorem uY {n:Nat} {a b:Int}:jR n (some a) (some b)=(0<=a/\a<=b/\b<=(n:Int)):=(rfl)
theorem zek {k:Nat} {rows:List (List C)}:C.rows? k (.sl k rows)=some rows:=(show C.rows? k (.sl k rows)=some rows from by simp[C.rows?])
theorem uz {id e:Nat} {k:Nat} {rows:List (List C)}:C.rows? k (.own id e k rows)=some rows:=(show C.rows? k (.own id e k rows)=some rows from by simp[C.rows?])
theorem znY:zjd P t t' c K ⟨⟩=zlD P (lay P t') (lay P t) c K ⟨⟩:=(rfl)
theorem zaI {k k0:IntKind} {n:Int} {s b:Nat} {z1:Option (List Value)} {L:Lay}:zlD P (some ⟨.int k,s,b,z1⟩) (some L) (.sc (.int k0 n)) K ⟨⟩=(inR k n/\K (.sc (.int k n))):=(rfl)
theorem zhs {s b s2 b2:Nat} {z1 z2:Option (List Value)} {k k0:IntKind} {n:Int}:zlD P (some ⟨.str,s,b,z1⟩) (some ⟨.int k,s2,b2,z2⟩) (.sc (.int k0 n)) K ⟨⟩=K (.str (Utf8.encode n).data.toList):=(rfl)
theorem zcL {l:List UInt8}:ye P t (.str l) K ⟨⟩=zjf (lay P t) (l.length:Int) K ⟨⟩:=(rfl)
theorem zh4 {k:Nat} {rows:List (List C)}:ye P t (.sl k rows) K ⟨⟩=MC (lay P t) (rows.length:Int) K ⟨⟩:=(rfl)
theorem zcc {id e:Nat} {k:Nat} {rows:List (List C)}:ye P t (.own id e k rows) K ⟨⟩=MC (lay P t) (rows.length:Int) K ⟨⟩:=(rfl)
theorem zfk:ye P t (.sc (.slice none 0 0)) K ⟨⟩=MC (lay P t) 0 K ⟨⟩:=(rfl)
theorem zl9 {e s b:Nat} {z1:Option (List Value)} {n:Int}:MC (some ⟨.slice e,s,b,z1⟩) n K ⟨⟩=K (.sc (.int .i64 n)):=(rfl)
theorem zmt {s b:Nat} {z1:Option (List Value)} {n:Int}:zjf (some ⟨.str,s,b,z1⟩) n K ⟨⟩=K (.sc (.int .i64 n)):=(rfl)
theorem zkN {ps:List (Nat×C)}:yq P t ps K ⟨⟩=zmL (lay P t) ps K ⟨⟩:=(rfl)
theorem zha {fs:List (Nat×Nat×Bool)} {s b:Nat} {z1:List Value} {ps:List (Nat×C)}:zmL (some ⟨.struct fs,s,b,some z1⟩) ps K ⟨⟩=((ps.all fun p=>p.2.partB)=true/\zp5 (YI (plS fs) (z1.map zA) ps) K ⟨⟩):=(show zpb (some ⟨.struct fs,s,b,some z1⟩) ps K=((ps.all fun p=>p.2.partB)=true/\aFl (YI (plS fs) (z1.map zA) ps) K) from by unfold zpb aFl;simp only[];rfl)
theorem zqR {cs:List C}:zp5 (some cs) K ⟨⟩=K (.agg cs):=(rfl)
theorem zkj {place:Nat->Option (Nat×Nat)} {cs:List C}:YI place cs []=some cs:=(rfl)
theorem znK {place:Nat->Option (Nat×Nat)} {cs:List C} {i:Nat} {rest:List (Nat×C)}:YI place cs ((i,c) :: rest)=ziU (place i) place cs c.cells rest:=(rfl)
theorem zjZ {place:Nat->Option (Nat×Nat)} {cs l:List C} {off size:Nat} {rest:List (Nat×C)}:ziU (some (off,size)) place cs l rest=(if l.length=size/\off+size<=cs.length then YI place (cs.take off++l++cs.drop (off+size)) rest else none):=(rfl)
theorem zpO {fs:List (Nat×Nat×Bool)} {i:Nat}:plS fs i=(fs[i]?).map fun f=>(f.1,f.2.1):=(rfl)
theorem zpR {k i:Nat}:plA k i=some (i*k,k):=(rfl)
theorem zqr {n:Nat} {ps:List (Nat×C)}:XI P t n ps nx K2 ⟨⟩=zou P (lay P t) n ps nx K2 ⟨⟩:=(rfl)
theorem zpD {e s b n:Nat} {z1:Option (List Value)} {ps:List (Nat×C)}:zou P (some ⟨.slice e,s,b,z1⟩) n ps nx K2 ⟨⟩=zmp (lay P e) e n ps nx K2 ⟨⟩:=(rfl)
theorem zo5 {kd:LK} {k b e n:Nat} {z1:List Value} {ps:List (Nat×C)}:zmp (some ⟨kd,k,b,some z1⟩) e n ps nx K2 ⟨⟩=(z1.length=k/\0<k/\n*k<=16777216/\(ps.all fun p=>p.2.frz.partB)=true/\zmG (YI (plA k) (List.replicate n (z1.map zA)).flatten (ps.map fun p=>(p.1,p.2.frz))) e k n nx K2 ⟨⟩):=(rfl)
theorem zpx {cs:List C} {e k n:Nat}:zmG (some cs) e k n nx K2 ⟨⟩=((cs.all C.cellB)=true/\cs.length=n*k/\K2 (.own nx e k (X2 k n cs)) (nx+1)):=(rfl)
theorem zpu:Nl P t c d ⟨tm,bx,nx,lg⟩ K3 ⟨⟩=zi7 P (lay P t) c d ⟨tm,bx,nx,lg⟩ K3 ⟨⟩:=(rfl)
theorem znp {e s b:Nat} {z1:Option (List Value)} {k k2:IntKind} {l m:Int}:zi7 P (some ⟨.slice e,s,b,z1⟩) (.sc (.int k l)) (.sc (.int k2 m)) ⟨tm,bx,nx,lg⟩ K3 ⟨⟩=zi2 (lay P e) l m ⟨tm,bx,nx,lg⟩ K3 ⟨⟩:=(rfl)
theorem zna {kd:LK} {k b:Nat} {z1:List Value} {l m:Int}:zi2 (some ⟨kd,k,b,some z1⟩) l m ⟨tm,bx,nx,lg⟩ K3 ⟨⟩=(z1.length=k/\0<k/\(z1.all Value.oneCell')=true/\0<=l/\l<=m/\(b:Int)*m<=281474976710656/\m<=9223372036854775807/\K3 (.bs bx.length 0 k l.toNat m.toNat) ⟨tm,bx++[(List.replicate m.toNat (z1.map zA)).flatten],nx,lg⟩):=(rfl)
theorem zqK:zjj P t c d nx K2 ⟨⟩=zmf P (lay P t) c d nx K2 ⟨⟩:=(rfl)
theorem zpF {e s b:Nat} {z1:Option (List Value)} {k k2:IntKind} {l m:Int}:zmf P (some ⟨.slice e,s,b,z1⟩) (.sc (.int k l)) (.sc (.int k2 m)) nx K2 ⟨⟩=zm2 (lay P e) e l m nx K2 ⟨⟩:=(rfl)
theorem zpI {kd:LK} {k b e:Nat} {z1:List Value} {l m:Int}:zm2 (some ⟨kd,k,b,some z1⟩) e l m nx K2 ⟨⟩=(z1.length=k/\0<k/\(z1.all Value.oneCell')=true/\0<=l/\l<=m/\(b:Int)*m<=281474976710656/\m<=9223372036854775807/\K2 (.own nx e k (List.replicate l.toNat (z1.map zA))) (nx+1)):=(rfl)
theorem zd2 {id e k:Nat} {rows:List (List C)}:Ge P t (.own id e k rows) d ⟨tm,bx,nx,lg⟩ K3 ⟨⟩=znW P (lay P t) id e k rows d ⟨tm,bx,nx,lg⟩ K3 ⟨⟩:=(rfl)
theorem xh {k:Nat} {rows:List (List C)}:Ge P t (.tight k rows) d ⟨tm,bx,nx,lg⟩ K3 ⟨⟩=Gu P t (.tight k rows) d nx (fun c nx'=>K3 c ⟨tm,bx,nx',lg⟩) ⟨⟩:=(rfl)
theorem zmj:Gu P t c d nx K2 ⟨⟩=zni P (lay P t) c d nx K2 ⟨⟩:=(rfl)
theorem zo0 {e s b:Nat} {z1:Option (List Value)}:zni P (some ⟨.slice e,s,b,z1⟩) c d nx K2 ⟨⟩=zoe (lay P e) e c d nx K2 ⟨⟩:=(rfl)
theorem zoL {kd:LK} {k b e:Nat} {z1:List Value}:zoe (some ⟨kd,k,b,some z1⟩) e c d nx K2 ⟨⟩=znh (d.rows? k) c e k b z1 nx K2 ⟨⟩:=(rfl)
theorem zog {k k0 b e:Nat} {z1:List Value} {xs rows:List (List C)}:znh (some xs) (.tight k0 rows) e k b z1 nx K2 ⟨⟩=(k0=k/\z1.length=k/\0<k/\rows.length+xs.length<=9223372036854775807/\(rows.length+xs.length)*b<=140737488355328/\(xs = []->K2 (.tight k0 rows) nx)/\(¬xs = []->K2 (.own nx e k (rows++xs)) (nx+1))):=(rfl)
theorem zi {a b:Nat} (h:Nat.ble a b=true):a<=b:=Nat.le_of_ble_eq_true h
theorem lS:(∀ {α:Type} (a b:List α),(a++b).length=a.length+b.length)/\(∀ {α:Type} (a:α) (b:List α),(a :: b).length=b.length+1)/\(∀ {α:Type},([]:List α).length=0)/\(∀ {α β:Type} (f:α->β) (l:List α),(l.map f).length=l.length)/\(∀ {α:Type} (n:Nat) (l:List α),(l.take n).length=min n l.length)/\∀ {α:Type} (n:Nat) (l:List α),(l.drop n).length=l.length-n:=⟨fun _ _=>List.length_append,fun _ _=>List.length_cons,List.length_nil,fun _ _=>List.length_map _,fun _ _=>List.length_take,fun _ _=>List.length_drop⟩
theorem zpg {α:Type} {x:α} {l:List α}:((x :: l) = [])=False:=by simp
theorem zqb {p:Prop}:(True->p)=p:=by simp
theorem zqD {p:Prop}:(False->p)=True:=by simp
theorem zqa:(¬True)=False:=by simp
theorem zqG:(¬False)=True:=by simp
theorem zo4 {e0 s b id e k:Nat} {z1:Option (List Value)} {rows:List (List C)}:znW P (some ⟨.slice e0,s,b,z1⟩) id e k rows c σ K3 ⟨⟩=zmJ (lay P e) e0 id e k rows c σ K3 ⟨⟩:=(rfl)
theorem zpq {kd:LK} {k0 b e0 id e k:Nat} {z1:List Value} {rows:List (List C)}:zmJ (some ⟨kd,k0,b,some z1⟩) e0 id e k rows c σ K3 ⟨⟩=(e0=e/\k0=k/\z1.length=k/\0<k/\znm (c.rows? k) b id e k rows σ K3 ⟨⟩):=(show zpQ (some ⟨kd,k0,b,some z1⟩) e0 id e k rows c σ K3=(e0=e/\k0=k/\z1.length=k/\0<k/\zpH (c.rows? k) b id e k rows σ K3) from by unfold zpQ zpH;simp only[];cases c.rows? k<;>simp)
theorem zpw {xs rows:List (List C)} {b id e k:Nat}:znm (some xs) b id e k rows ⟨tm,bx,nx,lg⟩ K3 ⟨⟩=(rows.length+xs.length<=9223372036854775807/\(rows.length+xs.length)*b<=140737488355328/\K3 (.own id e k (rows++xs)) ⟨uN id tm,MO id bx,nx,lg⟩):=(rfl)
theorem zlJ {f:FuncId} {fs cs args:List C}:yr P G h (.clo (.func f) fs cs) args ⟨tm,bx,nx,lg⟩ K3 ⟨⟩ ⟨⟩=Qh P G f (fs++args++cs) (C.frzL (fs++args++cs)) ⟨tm,bx,nx,lg⟩ K3 ⟨⟩:=(rfl)
theorem zlN {l:Nat} {items:List (List C)} {sf:Nat->Bool} {args:List C}:yr P G ⟨p,some ⟨l,items,sf⟩,bf⟩ (.sc (.func (.yield l) #[] #[])) args ⟨tm,bx,nx,lg⟩ K3 ⟨⟩ ⟨⟩=vz ⟨l,items,sf⟩ (items[lg]?) args ⟨tm,bx,nx,lg⟩ K3 ⟨⟩ ⟨⟩:=(show MA P G ⟨p,some ⟨l,items,sf⟩,bf⟩ (.sc (.func (.yield l) #[] #[])) args ⟨tm,bx,nx,lg⟩ K3=GK ⟨l,items,sf⟩ (items[lg]?) args ⟨tm,bx,nx,lg⟩ K3 from by simp[MA,vH])
theorem zij {l:Nat} {items:List (List C)} {sf:Nat->Bool} {args it:List C}:vz ⟨l,items,sf⟩ (some it) args ⟨tm,bx,nx,lg⟩ K3 ⟨⟩ ⟨⟩=(zd [] 0 args it/\(∀ j,j<lg->sf j=false)/\K3 (.sc (.bool (!sf lg))) ⟨tm,bx,nx,lg+1⟩):=(rfl)
theorem zmg {ι:List Nat} {j:Nat}:upB ι m j=match ι[j]? with | some i=>some i | none=>some (m+(j-ι.length)):=(rfl)
theorem zpo {x1 i:Nat} {r:List Nat}:Xn (x1 :: r) i=if i=x1 then some 0 else (Xn r i).map (·+1):=(rfl)
theorem zjK {fp fo:Nat->Option Nat}:k6 fp fo [] = []:=(rfl)
theorem znV {fp fo:Nat->Option Nat} {u:Nat} {r:List (Nat×C)}:k6 fp fo ((u,c) :: r)=(u,c.re fp fo) :: k6 fp fo r:=(rfl)
theorem zkK {fp fo:Nat->Option Nat}:GT fp fo [] = []:=(rfl)
theorem zmw {fp fo:Nat->Option Nat} {cs:List C} {r:List (List C)}:GT fp fo (cs :: r)=C.reL fp fo cs :: GT fp fo r:=(rfl)
theorem zhA {l:List (List C)}:ZT [] l bx=bx:=(rfl)
theorem zgN {i:Nat} {ι:List Nat} {cs:List C} {r:List (List C)}:ZT (i :: ι) (cs :: r) bx=ZT ι r (bx.set i cs):=(rfl)
theorem ziI {ι κ:List Nat} {n:Nat}:QA ι κ bx' n ⟨tm,bx,nx,lg⟩=⟨k6 some (Qw κ) tm,ZT ι (GT (upB ι bx.length) (upO nx) bx') (GT some (Qw κ) bx)++GT (upB ι bx.length) (upO nx) (bx'.drop ι.length),nx+n,lg⟩:=(rfl)
theorem zjU {κ:List Nat} {i:Nat}:Qw κ i=if i∈κ then none else some i:=(rfl)
theorem zgf {i:Nat}:kT m i=if i<m then some i else none:=(rfl)
theorem zgQ {i:Nat}:YR m i=if i<m then none else some (i-m):=(rfl)
theorem zlz {f:FuncId} {fs cs args:List C}:zcP P G (.clo (.func f) fs cs) args nx K2 ⟨⟩=MP P G f (C.frzL (fs++args++cs)) nx K2 ⟨⟩:=(rfl)
theorem zpW {kd:LK} {s b:Nat} {z1:List Value}:zml (some ⟨kd,s,b,some z1⟩) ⟨tm,bx,nx,lg⟩ K3 ⟨⟩=((z1.all Value.oneCell')=true/\K3 (.ptr bx.length 0) ⟨tm,bx++[z1.map zA],nx,lg⟩):=(rfl)
theorem zpG:znP c ⟨tm,bx,nx,lg⟩ K3 ⟨⟩=(c.partB=true/\(c.cells.all C.cellB)=true/\K3 (.ptr bx.length 0) ⟨tm,bx++[c.cells],nx,lg⟩):=(rfl)
theorem zoJ {L:Lay} {i off:Nat}:zmA (some L) (.ptr i off) c ⟨tm,bx,nx,lg⟩ K3 ⟨⟩=zol (bx[i]?) i off L.size c ⟨tm,bx,nx,lg⟩ K3 ⟨⟩:=(rfl)
theorem zoS {cs:List C} {i off size:Nat}:zol (some cs) i off size c ⟨tm,bx,nx,lg⟩ K3 ⟨⟩=(c.partB=true/\(c.cells.all C.cellB)=true/\c.cells.length=size/\off+size<=cs.length/\K3 .any ⟨tm,bx.set i (cs.take off++c.cells++cs.drop (off+size)),nx,lg⟩):=(rfl)
theorem ziC {v:Value}:C.frz (.sc v) = .sc v:=(show C.frz (.sc v) = .sc v from by rw[C.frz])
theorem zjA {v:Value} {id:Nat}:C.dg id (.sc v) = .sc v:=(show C.dg id (.sc v) = .sc v from by rw[C.dg])
theorem zky {v:Value} {n:Nat}:C.sh n (.sc v) = .sc v:=(show C.sh n (.sc v) = .sc v from by rw[C.sh])
theorem zcX {l:List UInt8}:C.frz (.str l) = .str l:=(show C.frz (.str l) = .str l from by rw[C.frz])
theorem zin {l:List UInt8} {id:Nat}:C.dg id (.str l) = .str l:=(show C.dg id (.str l) = .str l from by rw[C.dg])
theorem zhi {l:List UInt8} {n:Nat}:C.sh n (.str l) = .str l:=(show C.sh n (.str l) = .str l from by rw[C.sh])
theorem zfZ {k:Nat} {rows:List (List C)}:C.frz (.sl k rows) = .sl k rows:=(show C.frz (.sl k rows) = .sl k rows from by rw[C.frz])
theorem zlj {k:Nat} {rows:List (List C)} {id:Nat}:C.dg id (.sl k rows) = .sl k rows:=(show C.dg id (.sl k rows) = .sl k rows from by rw[C.dg])
theorem zlf {k:Nat} {rows:List (List C)} {n:Nat}:C.sh n (.sl k rows) = .sl k rows:=(show C.sh n (.sl k rows) = .sl k rows from by rw[C.sh])
theorem zaj {k:Nat} {rows:List (List C)} {id:Nat}:C.dg id (.tight k rows) = .tight k rows:=(show C.dg id (.tight k rows) = .tight k rows from by rw[C.dg])
theorem zbU {cs:List C}:C.frz (.row cs) = .row cs:=(show C.frz (.row cs) = .row cs from by rw[C.frz])
theorem zio {cs:List C} {id:Nat}:C.dg id (.row cs) = .row cs:=(show C.dg id (.row cs) = .row cs from by rw[C.dg])
theorem zhl {cs:List C} {n:Nat}:C.sh n (.row cs) = .row cs:=(show C.sh n (.row cs) = .row cs from by rw[C.sh])
theorem zhT {id:Nat}:C.dg id (.any) = .any:=(show C.dg id (.any) = .any from by rw[C.dg])
theorem zkZ {i:Nat} {t2:TypeId} {ks:MK} {vs:List C} {n:Nat}:C.sh n (.mo i t2 ks vs) = .mo (n+i) t2 ks vs:=(show C.sh n (.mo i t2 ks vs) = .mo (n+i) t2 ks vs from by rw[C.sh])
theorem zls {i:Nat} {t2:TypeId} {ks:MK} {vs:List C}:C.fz bx (.mo i t2 ks vs) = .mo i t2 ks vs:=(show C.fz bx (.mo i t2 ks vs) = .mo i t2 ks vs from by rw[C.fz])
theorem zlU {v:Value} {id:Nat} {ks1:MK} {vs1:List C}:C.up id ks1 vs1 (.sc v) = .sc v:=(show C.up id ks1 vs1 (.sc v) = .sc v from by rw[C.up])
theorem zlm {i:Nat} {t2:TypeId} {ks:MK} {vs:List C} {id:Nat} {ks1:MK} {vs1:List C}:C.up id ks1 vs1 (.mo i t2 ks vs)=if i=id then .mo i t2 ks1 vs1 else .mo i t2 ks vs:=(show C.up id ks1 vs1 (.mo i t2 ks vs)=if i=id then .mo i t2 ks1 vs1 else .mo i t2 ks vs from by rw[C.up])
theorem uy {id:Nat} {ks1:MK} {vs1:List C}:zfP id ks1 vs1 [] = []:=(rfl)
theorem zn3 {u:Nat} {r:List (Nat×C)} {id:Nat} {ks1:MK} {vs1:List C}:zfP id ks1 vs1 ((u,c) :: r)=(u,c.up id ks1 vs1) :: zfP id ks1 vs1 r:=(rfl)
theorem zaD {id:Nat} {ks1:MK} {vs1:List C}:zcf id ks1 vs1 [] = []:=(rfl)
theorem zeD {id e k:Nat} {rows:List (List C)}:C.frz (.own id e k rows) = .sl k rows:=(show C.frz (.own id e k rows) = .sl k rows from by rw[C.frz])
theorem zfC {i off:Nat}:C.frz (.ptr i off) = .any:=(show C.frz (.ptr i off) = .any from by rw[C.frz])
theorem zgW {id i off:Nat}:C.dg id (.ptr i off) = .ptr i off:=(show C.dg id (.ptr i off) = .ptr i off from by rw[C.dg])
theorem zf2 {id i e k:Nat} {rows:List (List C)}:C.dg id (.own i e k rows)=if i=id then .sl k rows else .own i e k rows:=(show C.dg id (.own i e k rows)=if i=id then .sl k rows else .own i e k rows from by rw[C.dg])
theorem zg9 {n i e k:Nat} {rows:List (List C)}:C.sh n (.own i e k rows) = .own (n+i) e k rows:=(show C.sh n (.own i e k rows) = .own (n+i) e k rows from by rw[C.sh])
theorem zk3 {v:Value} {fp fo:Nat->Option Nat}:C.re fp fo (.sc v) = .sc v:=(show C.re fp fo (.sc v) = .sc v from by rw[C.re])
theorem zgS {v:Value} {fp:Nat->Option Nat}:C.sel fp (.sc v) = .sc v:=(show C.sel fp (.sc v) = .sc v from by rw[C.sel])
theorem zgc {l:List UInt8} {fp fo:Nat->Option Nat}:C.re fp fo (.str l) = .str l:=(show C.re fp fo (.str l) = .str l from by rw[C.re])
theorem zdF {l:List UInt8} {fp:Nat->Option Nat}:C.sel fp (.str l) = .str l:=(show C.sel fp (.str l) = .str l from by rw[C.sel])
theorem zlk {k:Nat} {rows:List (List C)} {fp fo:Nat->Option Nat}:C.re fp fo (.sl k rows) = .sl k rows:=(show C.re fp fo (.sl k rows) = .sl k rows from by rw[C.re])
theorem zh8 {k:Nat} {rows:List (List C)} {fp:Nat->Option Nat}:C.sel fp (.sl k rows) = .sl k rows:=(show C.sel fp (.sl k rows) = .sl k rows from by rw[C.sel])
theorem zai {k:Nat} {rows:List (List C)} {fp fo:Nat->Option Nat}:C.re fp fo (.tight k rows) = .tight k rows:=(show C.re fp fo (.tight k rows) = .tight k rows from by rw[C.re])
theorem ziJ {cs:List C} {fp fo:Nat->Option Nat}:C.re fp fo (.row cs) = .row cs:=(show C.re fp fo (.row cs) = .row cs from by rw[C.re])
theorem zcA {cs:List C} {fp:Nat->Option Nat}:C.sel fp (.row cs) = .row cs:=(show C.sel fp (.row cs) = .row cs from by rw[C.sel])
theorem zhw {fp fo:Nat->Option Nat}:C.re fp fo (.any) = .any:=(show C.re fp fo (.any) = .any from by rw[C.re])
theorem zkS {v:Value}:C.fz bx (.sc v) = .sc v:=(show C.fz bx (.sc v) = .sc v from by rw[C.fz])
theorem zhr {l:List UInt8}:C.fz bx (.str l) = .str l:=(show C.fz bx (.str l) = .str l from by rw[C.fz])
theorem zk1 {k:Nat} {rows:List (List C)}:C.fz bx (.sl k rows) = .sl k rows:=(show C.fz bx (.sl k rows) = .sl k rows from by rw[C.fz])
theorem zaO {k:Nat} {rows:List (List C)}:C.fz bx (.tight k rows) = .tight k rows:=(show C.fz bx (.tight k rows) = .tight k rows from by rw[C.fz])
theorem zf1 {id e k:Nat} {rows:List (List C)}:C.fz bx (.own id e k rows) = .own id e k rows:=(show C.fz bx (.own id e k rows) = .own id e k rows from by rw[C.fz])
theorem zgY {cs:List C}:C.fz bx (.row cs) = .row cs:=(show C.fz bx (.row cs) = .row cs from by rw[C.fz])
theorem zht {i off:Nat}:C.fz bx (.ptr i off)=zoK (bx[i]?) off:=(show C.fz bx (.ptr i off)=zoK (bx[i]?) off from by rw[C.fz];rfl)
theorem zlg {off:Nat} {cs:List C}:zoK (some cs) off = .row ((C.frzL cs).drop off):=(rfl)
theorem zbG {f:Fn} {a b:Array Value}:Value.oneCell' (.func f a b)=true:=(rfl)
theorem zgI {id e k:Nat} {rows:List (List C)} {fp fo:Nat->Option Nat}:C.re fp fo (.own id e k rows)=zpf (fo id) e k rows:=(show C.re fp fo (.own id e k rows)=zpf (fo id) e k rows from by rw[C.re];rfl)
theorem zhK {i off:Nat} {fp fo:Nat->Option Nat}:C.re fp fo (.ptr i off)=zlX (fp i) off:=(show C.re fp fo (.ptr i off)=zlX (fp i) off from by rw[C.re];rfl)
theorem zfD {i off:Nat} {fp:Nat->Option Nat}:C.sel fp (.ptr i off)=zlX (fp i) off:=(show C.sel fp (.ptr i off)=zlX (fp i) off from by rw[C.sel];rfl)
theorem zj0 {j e k:Nat} {rows:List (List C)}:zpf (some j) e k rows = .own j e k rows:=(rfl)
theorem zkb {j off:Nat}:zlX (some j) off = .ptr j off:=(rfl)
theorem zkx {off:Nat}:zlX none off = .any:=(rfl)
theorem zli {v:Value} {fr:Fr}:C.fy nx fr bx (.sc v) = .sc v:=(show C.fy nx fr bx (.sc v) = .sc v from by rw[C.fy])
theorem zk2 {k:Nat} {rows:List (List C)} {fr:Fr}:C.fy nx fr bx (.sl k rows) = .sl k rows:=(show C.fy nx fr bx (.sl k rows) = .sl k rows from by rw[C.fy])
theorem zlr {i off k n cap:Nat} {fr:Fr}:C.fy nx fr bx (.bs i off k n cap)=Vr nx fr i off k n cap:=(show C.fy nx fr bx (.bs i off k n cap)=Vr nx fr i off k n cap from by rw[C.fy])
theorem ziL {i off k n cap i2 e k2 cap2:Nat} {rows:List (List C)} {r:Fr}:Vr nx ((i2,e,k2,rows,cap2) :: r) i off k n cap=if i=i2/\off=0/\k=k2/\n=rows.length/\cap=cap2 then .own nx e k2 rows else Vr (nx+1) r i off k n cap:=(show Vr nx ((i2,e,k2,rows,cap2) :: r) i off k n cap=if i=i2/\off=0/\k=k2/\n=rows.length/\cap=cap2 then .own nx e k2 rows else Vr (nx+1) r i off k n cap from by rw[Vr])
theorem ziw {cs:List C} {fp fo:Nat->Option Nat}:C.re fp fo (.agg cs) = .agg (C.reL fp fo cs):=(show C.re fp fo (.agg cs) = .agg (C.reL fp fo cs) from by rw[C.re])
theorem zh9 {cs:List C} {fp fo:Nat->Option Nat}:C.re fp fo (.tup cs) = .tup (C.reL fp fo cs):=(show C.re fp fo (.tup cs) = .tup (C.reL fp fo cs) from by rw[C.re])
theorem zgX {fn:Fn} {fs cs:List C} {fp fo:Nat->Option Nat}:C.re fp fo (.clo fn fs cs) = .clo fn (C.reL fp fo fs) (C.reL fp fo cs):=(show C.re fp fo (.clo fn fs cs) = .clo fn (C.reL fp fo fs) (C.reL fp fo cs) from by rw[C.re])
theorem zfi {fp fo:Nat->Option Nat}:C.reL fp fo [] = []:=(show C.reL fp fo [] = [] from by rw[C.reL])
theorem zah {r:List C} {fp fo:Nat->Option Nat}:C.reL fp fo (c :: r)=C.re fp fo c :: C.reL fp fo r:=(show C.reL fp fo (c :: r)=C.re fp fo c :: C.reL fp fo r from by rw[C.reL])
theorem zeU {cs:List C} {fp:Nat->Option Nat}:C.sel fp (.agg cs) = .agg (C.selL fp cs):=(show C.sel fp (.agg cs) = .agg (C.selL fp cs) from by rw[C.sel])
theorem zb8 {fn:Fn} {fs cs:List C} {fp:Nat->Option Nat}:C.sel fp (.clo fn fs cs) = .clo fn (C.selL fp fs) (C.selL fp cs):=(show C.sel fp (.clo fn fs cs) = .clo fn (C.selL fp fs) (C.selL fp cs) from by rw[C.sel])
theorem zbD {fp:Nat->Option Nat}:C.selL fp [] = []:=(show C.selL fp [] = [] from by rw[C.selL])
theorem MS {r:List C} {fp:Nat->Option Nat}:C.selL fp (c :: r)=C.sel fp c :: C.selL fp r:=(show C.selL fp (c :: r)=C.sel fp c :: C.selL fp r from by rw[C.selL])
theorem zfV {cs:List C} :C.fz bx (.agg cs) = .agg (C.fzL bx cs):=(show C.fz bx (.agg cs) = .agg (C.fzL bx cs) from by rw[C.fz])
theorem zf7 {cs:List C} :C.fz bx (.tup cs) = .tup (C.fzL bx cs):=(show C.fz bx (.tup cs) = .tup (C.fzL bx cs) from by rw[C.fz])
theorem zf6 {fn:Fn} {fs cs:List C} :C.fz bx (.clo fn fs cs) = .clo fn (C.fzL bx fs) (C.fzL bx cs):=(show C.fz bx (.clo fn fs cs) = .clo fn (C.fzL bx fs) (C.fzL bx cs) from by rw[C.fz])
theorem zd8:C.fzL bx [] = []:=(show C.fzL bx [] = [] from by rw[C.fzL])
theorem za1 {r:List C} :C.fzL bx (c :: r)=C.fz bx c :: C.fzL bx r:=(show C.fzL bx (c :: r)=C.fz bx c :: C.fzL bx r from by rw[C.fzL])
theorem zh0 {cs:List C} {fr:Fr}:C.fy nx fr bx (.agg cs) = .agg (C.fyL nx fr bx cs):=(show C.fy nx fr bx (.agg cs) = .agg (C.fyL nx fr bx cs) from by rw[C.fy])
theorem zg1 {cs:List C} {fr:Fr}:C.fy nx fr bx (.tup cs) = .tup (C.fyL nx fr bx cs):=(show C.fy nx fr bx (.tup cs) = .tup (C.fyL nx fr bx cs) from by rw[C.fy])
theorem ze4 {fr:Fr}:C.fyL nx fr bx [] = []:=(show C.fyL nx fr bx [] = [] from by rw[C.fyL])
theorem zaE {r:List C} {fr:Fr}:C.fyL nx fr bx (c :: r)=C.fy nx fr bx c :: C.fyL nx fr bx r:=(show C.fyL nx fr bx (c :: r)=C.fy nx fr bx c :: C.fyL nx fr bx r from by rw[C.fyL])
theorem zdX {cs:List C}:C.frz (.agg cs) = .agg (C.frzL cs):=(show C.frz (.agg cs) = .agg (C.frzL cs) from by rw[C.frz])
theorem zfh {fn:Fn} {fs cs:List C}:C.frz (.clo fn fs cs) = .clo fn (C.frzL fs) (C.frzL cs):=(show C.frz (.clo fn fs cs) = .clo fn (C.frzL fs) (C.frzL cs) from by rw[C.frz])
theorem uQ:C.frzL [] = []:=(show C.frzL [] = [] from by rw[C.frzL])
theorem xp {r:List C}:C.frzL (c :: r)=C.frz c :: C.frzL r:=(show C.frzL (c :: r)=C.frz c :: C.frzL r from by rw[C.frzL])
theorem zgC {cs:List C} {id:Nat}:C.dg id (.agg cs) = .agg (C.dgL id cs):=(show C.dg id (.agg cs) = .agg (C.dgL id cs) from by rw[C.dg])
theorem zhy {cs:List C} {id:Nat}:C.dg id (.tup cs) = .tup (C.dgL id cs):=(show C.dg id (.tup cs) = .tup (C.dgL id cs) from by rw[C.dg])
theorem zgi {fn:Fn} {fs cs:List C} {id:Nat}:C.dg id (.clo fn fs cs) = .clo fn (C.dgL id fs) (C.dgL id cs):=(show C.dg id (.clo fn fs cs) = .clo fn (C.dgL id fs) (C.dgL id cs) from by rw[C.dg])
theorem zfs {id:Nat}:C.dgL id [] = []:=(show C.dgL id [] = [] from by rw[C.dgL])
theorem uZ {r:List C} {id:Nat}:C.dgL id (c :: r)=C.dg id c :: C.dgL id r:=(show C.dgL id (c :: r)=C.dg id c :: C.dgL id r from by rw[C.dgL])
theorem zgn {cs:List C} {n:Nat}:C.sh n (.agg cs) = .agg (C.shL n cs):=(show C.sh n (.agg cs) = .agg (C.shL n cs) from by rw[C.sh])
theorem zfU {cs:List C} {n:Nat}:C.sh n (.tup cs) = .tup (C.shL n cs):=(show C.sh n (.tup cs) = .tup (C.shL n cs) from by rw[C.sh])
theorem zix {fn:Fn} {fs cs:List C} {n:Nat}:C.sh n (.clo fn fs cs) = .clo fn (C.shL n fs) (C.shL n cs):=(show C.sh n (.clo fn fs cs) = .clo fn (C.shL n fs) (C.shL n cs) from by rw[C.sh])
theorem zfq {n:Nat}:C.shL n [] = []:=(show C.shL n [] = [] from by rw[C.shL])
theorem uV {r:List C} {n:Nat}:C.shL n (c :: r)=C.sh n c :: C.shL n r:=(show C.shL n (c :: r)=C.sh n c :: C.shL n r from by rw[C.shL])
theorem zan {id:Nat}:uN id [] = []:=(rfl)
theorem znF {id u:Nat} {r:List (Nat×C)}:uN id ((u,c) :: r)=(u,c.dg id) :: uN id r:=(rfl)
theorem zbw {id:Nat}:MO id [] = []:=(rfl)
theorem zof {id:Nat} {cs:List C} {r:List (List C)}:MO id (cs :: r)=C.dgL id cs :: MO id r:=(rfl)
theorem yl {l:List UInt8}:C.cellB (.str l)=true:=(rfl)
theorem MV {l:List UInt8}:C.partB (.str l)=true:=(rfl)
theorem yJ {l:List UInt8}:C.cells (.str l) = [.str l]:=(rfl)
theorem za3 {k:Nat} {rows:List (List C)}:C.cellB (.sl k rows)=true:=(rfl)
theorem zbn {k:Nat} {rows:List (List C)}:C.partB (.sl k rows)=true:=(rfl)
theorem zad {k:Nat} {rows:List (List C)}:C.cells (.sl k rows) = [.sl k rows]:=(rfl)
theorem Hr {k:Nat} {rows:List (List C)}:C.cellB (.tight k rows)=true:=(rfl)
theorem HT {k:Nat} {rows:List (List C)}:C.partB (.tight k rows)=true:=(rfl)
theorem HC {k:Nat} {rows:List (List C)}:C.cells (.tight k rows) = [.tight k rows]:=(rfl)
theorem xS {id e k:Nat} {rows:List (List C)}:C.cellB (.own id e k rows)=true:=(rfl)
theorem xi {id e k:Nat} {rows:List (List C)}:C.partB (.own id e k rows)=true:=(rfl)
theorem xH {id e k:Nat} {rows:List (List C)}:C.cells (.own id e k rows) = [.own id e k rows]:=(rfl)
theorem yC {fn:Fn} {fs cs:List C}:C.cellB (.clo fn fs cs)=true:=(rfl)
theorem xb {fn:Fn} {fs cs:List C}:C.partB (.clo fn fs cs)=true:=(rfl)
theorem yS {fn:Fn} {fs cs:List C}:C.cells (.clo fn fs cs) = [.clo fn fs cs]:=(rfl)
theorem zbf {v:Value}:C.cellB (.sc v)=v.oneCell':=(rfl)
theorem zbl {v:Value}:C.partB (.sc v)=v.oneCell':=(rfl)
theorem zaJ {v:Value}:C.cells (.sc v) = [.sc v]:=(rfl)
theorem yx {cs:List C}:C.partB (.agg cs)=true:=(rfl)
theorem yH {cs:List C}:C.cells (.agg cs)=cs:=(rfl)
theorem zfo {k:IntKind} {n:Int}:Value.oneCell' (.int k n)=true:=(rfl)
theorem u7 {b:Bool}:Value.oneCell' (.bool b)=true:=(rfl)
theorem yQ {a:Option Addr} {n m:Nat}:Value.oneCell' (.slice a n m)=true:=(rfl)
theorem Ne {s:ByteArray}:Value.oneCell' (.string s)=true:=(rfl)
theorem zjP {k:Nat} {cs:List C}:X2 k 0 cs = []:=(rfl)
theorem zlK {k n:Nat} {cs:List C}:X2 k (n+1) cs=cs.take k :: X2 k n (cs.drop k):=(rfl)
theorem zjJ {i:Nat}:V9 i [] = []:=(rfl)
theorem znE {i:Nat} {r:List C}:V9 i (c :: r)=(i,c) :: V9 (i+1) r:=(rfl)
theorem zeb:zjS (.sc (.bool true)) X Y ⟨⟩ ⟨⟩=X:=zfY
theorem uT:zjS (.sc (.bool false)) X Y ⟨⟩ ⟨⟩=Y:=zd0
theorem br {b:Bool} (hx:b=true->X) (hy:b=false->Y):zjS (.sc (.bool b)) X Y ⟨⟩ ⟨⟩:=ABr.mk hx hy
theorem Jx {f:FuncId} {args fargs a1:List C} {fbx:List (List C)} {q:Nat} {post:C->List (List C)->Nat->Prop} (ι κ:List Nat) (hf:JI P G f a1 fbx q post) (hq:κ.length=q) (hι:ι.Nodup) (hκ:κ.Nodup) (hb:∀ i∈ι,i<bx.length)
  (ha:C.reL (Xn ι) (Xn κ) args=a1) (hx:(ι.map fun i=>C.reL (Xn ι) (Xn κ) (bx.getD i []))=fbx) (hK:∀ r fbx' n,post r fbx' n->K3 (r.re (upB ι bx.length) (upO nx)) (QA ι κ fbx' n ⟨tm,bx,nx,lg⟩)):Qh P G f args fargs ⟨tm,bx,nx,lg⟩ K3 ⟨⟩:=
 .inr <| .inr <| .inr <| .inl ⟨ι,κ,post,hι,hκ,hb,by rw[ha,hq];exact hx▸hf,hK⟩
theorem zjv {K4:C->List (List C)->Nat->Prop} {f:FuncId} {args a1:List C} {fbx:List (List C)} {post:C->List (List C)->Nat->Prop} (ι:List Nat) (hf:JI P G f a1 fbx 0 post) (hι:ι.Nodup) (hb:∀ i∈ι,i<bx.length)
  (ha:C.reL (Xn ι) (Xn []) args=a1) (hx:(ι.map fun i=>C.reL (Xn ι) (Xn []) (bx.getD i []))=fbx) (hK:∀ r fbx' n,post r fbx' n->K4 (r.re (upB ι bx.length) (upO nx)) (QA ι [] fbx' n ⟨tm,bx,nx,lg⟩).bx (nx+n)):zp1 P G f args ⟨tm,bx,nx,lg⟩ K4 ⟨⟩:=
 ⟨ι,post,hι,hb,by rw[ha];exact hx▸hf,hK⟩
theorem zlA {f:FuncId} {args fargs:List C} {r:C} (hf:zps P f args bx r) (hK:K3 r ⟨tm,bx,nx,lg⟩):Qh P G f args fargs ⟨tm,bx,nx,lg⟩ K3 ⟨⟩:=.inr <| .inr <| .inr <| .inr ⟨r,hf,hK⟩
theorem zkf {e s1 b1 k by' m i off n cap:Nat} {kd:LK} {z1 z:Option (List Value)} {xs cs:List C} (hl:lay P t=some ⟨.slice e,s1,b1,z1⟩) (hle:lay P e=some ⟨kd,k,by',z⟩) (hx:d.xs? k bx=some (m,xs)) (hb:bx[i]?=some cs) (hxl:xs.length=m*k) (hfit:off+n*k<=cs.length)
  (hK:K3 (.sc (.int .i64 ((min m n:Nat):Int))) ⟨tm,bx.set i (spl cs off (xs.take (min m n*k))),nx,lg⟩):MF P t (.bs i off k n cap) d ⟨tm,bx,nx,lg⟩ K3 ⟨⟩:=by
 show Qn P t _ _ _ _
 unfold Qn
 simp only[hl,hle,hx,hb]
 exact ⟨trivial,hxl,hfit,hK⟩
theorem znI {e s1 b1 k by' m:Nat} {c:C} {kd:LK} {z1 z:Option (List Value)} {xs:List C} (hl:lay P t=some ⟨.slice e,s1,b1,z1⟩) (hle:lay P e=some ⟨kd,k,by',z⟩) (hx:d.xs? k bx=some (m,xs)) (hc:c.rows? k=some []) (hb:∀ i off k n c',c≠.bs i off k n c') (hxl:xs.length=m*k)
  (hK:K3 (.sc (.int .i64 0)) ⟨tm,bx,nx,lg⟩):MF P t c d ⟨tm,bx,nx,lg⟩ K3 ⟨⟩:=by
 show Qn P t _ _ _ _
 unfold Qn
 simp only[hl,hle,hx]
 cases c<;>first
  | exact absurd rfl (hb _ _ _ _ _)
  | (simp only[hc];exact ⟨hxl,hK⟩)
theorem znL {e s1 b1 k by' i off n cap:Nat} {kd:LK} {z1:Option (List Value)} {z:List Value} {cs:List C} (hl:lay P t=some ⟨.slice e,s1,b1,z1⟩) (hle:lay P e=some ⟨kd,k,by',some z⟩) (hb:bx[i]?=some cs) (hz:z.length=k) (hk:0<k) (h1:(z.all Value.oneCell')=true) (hfit:off+n*k<=cs.length)
  (hK:K3 .any ⟨tm,bx.set i (spl cs off (List.replicate n (z.map zA)).flatten),nx,lg⟩):yt P t (.bs i off k n cap) ⟨tm,bx,nx,lg⟩ K3 ⟨⟩:=by
 show UN P t _ _ _
 unfold UN
 simp only[hl,hle,hb]
 exact ⟨trivial,hz,hk,h1,hfit,hK⟩
theorem Hq {e s1 b1 k by' m:Nat} {kd:LK} {z1:Option (List Value)} {z:List Value} {xs:List C} (hl:lay P t=some ⟨.slice e,s1,b1,z1⟩) (hle:lay P e=some ⟨kd,k,by',some z⟩) (hx:d.xs? k bx=some (m,xs)) (hz:z.length=k) (hk:0<k) (h1:(z.all Value.oneCell')=true) (hxl:xs.length=m*k) (hm:0<m) (h63:m<=9223372036854775807) (hby:m*by'<=140737488355328)
  (hK:∀ cap,m<=cap->cap<=9223372036854775807->K3 (.bs bx.length 0 k m cap) ⟨tm,bx++[xs++List.replicate ((cap-m)*k) .any],nx,lg⟩):yG P t (.sc (.slice none 0 0)) d ⟨tm,bx,nx,lg⟩ K3 ⟨⟩:=by
 show QZ P t _ _ _ _
 unfold QZ
 simp only[hl,hle,hx]
 exact ⟨hz,hk,h1,hxl,hm,h63,hby,fun c h1 h2=>hK c h1 (by unfold maxLen at h2;omega)⟩
theorem Qy {e s1 b1 k by' m i off n cap:Nat} {kd:LK} {z1:Option (List Value)} {z:List Value} {xs cs:List C} (hl:lay P t=some ⟨.slice e,s1,b1,z1⟩) (hle:lay P e=some ⟨kd,k,by',some z⟩) (hx:d.xs? k bx=some (m,xs)) (hz:z.length=k) (hk:0<k) (h1:(z.all Value.oneCell')=true) (hxl:xs.length=m*k)
  (hb:bx[i]?=some cs) (hfit:off+cap*k<=cs.length) (hn:n<=cap) (h63:n+m<=9223372036854775807) (hby:(n+m)*by'<=140737488355328)
  (hK1:n+m<=cap->K3 (.bs i off k (n+m) cap) ⟨tm,bx.set i (spl cs (off+n*k) xs),nx,lg⟩)
  (hK2:cap<n+m->∀ c',n+m<=c'->c'<=9223372036854775807->K3 (.bs bx.length 0 k (n+m) c') ⟨tm,bx++[(cs.drop off).take (n*k)++xs++List.replicate ((c'-(n+m))*k) .any],nx,lg⟩):yG P t (.bs i off k n cap) d ⟨tm,bx,nx,lg⟩ K3 ⟨⟩:=by
 show QZ P t _ _ _ _
 unfold QZ
 simp only[hl,hle,hx,hb]
 exact ⟨hz,hk,h1,hxl,trivial,hfit,hn,h63,hby,hK1,fun h c h1 h2=>hK2 h c h1 (by unfold maxLen at h2;omega)⟩
theorem zdq {tn e s1 b1 s2 b2 k by':Nat} {kn kq:IntKind} {kd:LK} {z1 z2:Option (List Value)} {z:List Value} {q:Int} (hl:lay P t=some ⟨.slice e,s1,b1,z1⟩) (hln:lay P tn=some ⟨.int kn,s2,b2,z2⟩) (hle:lay P e=some ⟨kd,k,by',some z⟩) (hz:z.length=k) (hk:0<k) (h1:(z.all Value.oneCell')=true)
  (hq:0<q) (h63:q<=9223372036854775807) (hby:q*by'<=140737488355328) (hK:∀ c',q.toNat<=c'->c'<=maxLen->K3 (.bs bx.length 0 k q.toNat c') ⟨tm,bx++[(List.replicate q.toNat (z.map zA)).flatten++List.replicate ((c'-q.toNat)*k) .any],nx,lg⟩) :
  vJ P t tn (.sc (.slice none 0 0)) (.sc (.int kq q)) ⟨tm,bx,nx,lg⟩ K3 ⟨⟩:=by
 show HM P t tn _ _ _ _
 unfold HM
 simp only[hl,hln,hle]
 exact ⟨hz,hk,h1,hq,h63,hby,hK⟩
theorem zqz {tn e s1 b1 s2 b2 k by' i off n cap:Nat} {kn kq:IntKind} {kd:LK} {z1 z2:Option (List Value)} {z:List Value} {cs:List C} {q:Int} (hl:lay P t=some ⟨.slice e,s1,b1,z1⟩) (hln:lay P tn=some ⟨.int kn,s2,b2,z2⟩) (hle:lay P e=some ⟨kd,k,by',some z⟩) (hz:z.length=k) (hk:0<k) (h1:(z.all Value.oneCell')=true)
  (hb:bx[i]?=some cs) (hfit:off+cap*k<=cs.length) (hn:n<=cap) (hq:0<q) (h63:(n:Int)+q<=9223372036854775807) (hby:((n:Int)+q)*by'<=140737488355328) (hg:(cap:Int)<n+q)
  (hK:∀ c',n+q.toNat<=c'->c'<=9223372036854775807->K3 (.bs bx.length 0 k (n+q.toNat) c') ⟨tm,bx++[(cs.drop off).take (n*k)++(List.replicate q.toNat (z.map zA)).flatten++List.replicate ((c'-(n+q.toNat))*k) .any],nx,lg⟩):vJ P t tn (.bs i off k n cap) (.sc (.int kq q)) ⟨tm,bx,nx,lg⟩ K3 ⟨⟩:=by
 show HM P t tn _ _ _ _
 unfold HM
 simp only[hl,hln,hle,hb]
 exact ⟨hz,hk,h1,trivial,hfit,hn,hq,h63,hby,hg,fun c h1 h2=>hK c h1 (by unfold maxLen at h2;omega)⟩
def opB (P:Program) (fn:Func) (code:Code) (b:Nat->List Bool):Bool:=P.follows .mixedOrders&&(!(fn.name == "runtime.NumGoroutine")&&jz fn.ntmps b code)
theorem znU {fn:Func} {code:Code} {b:Nat->List Bool} (h:opB P fn code b=true):P.follows .mixedOrders=true:=(Bool.and_eq_true_iff.1 h).1
theorem zot {fn:Func} {code:Code} {b:Nat->List Bool} (h:opB P fn code b=true):(fn.name == "runtime.NumGoroutine")=false:=by
 have:=(Bool.and_eq_true_iff.1 (Bool.and_eq_true_iff.1 h).2).1
 simpa using this
theorem znQ {fn:Func} {code:Code} {b:Nat->List Bool} (h:opB P fn code b=true):jz fn.ntmps b code=true:=(Bool.and_eq_true_iff.1 (Bool.and_eq_true_iff.1 h).2).2
theorem Fun.ofF {f:FuncId} {fn:Func} {code:Code} {args:List C} {r:C} {n:Nat} (b:Nat->List Bool) (hf:P.funcs[f]?=some fn) (hb:fn.body=some code) (hN:args.length<=fn.ntmps) (ho:opB P fn code b=true)
  (h:ZY P G ⟨0,none,b⟩ code (M1 P fn.results.toList (fun c σ=>∃ (fr:Fr) (src:Src),zfO fr σ.bx/\Vp src=true/\src.length=n/\CLe src 0 (c.fy σ.nx fr σ.bx) r) ⟨⟩) ⟨V9 0 args,[],0,0⟩ ⟨⟩ ⟨⟩):Fun P G f args r n:=Fun.of_awpF b (znU ho) hf hb (zot ho) hN (znQ ho) h
theorem JI.of {f:FuncId} {fn:Func} {code:Code} {args:List C} {bx:List (List C)} {q:Nat} {post:C->List (List C)->Nat->Prop} (b:Nat->List Bool) (hf:P.funcs[f]?=some fn) (hb:fn.body=some code) (hN:args.length<=fn.ntmps) (ho:opB P fn code b=true)
  (h:ZY P G ⟨bx.length,none,b⟩ code (M1 P fn.results.toList (fun c σ=>∃ r bx' n,(post r bx' n/\bx.length<=bx'.length)/\∃ src:Src,Vp src=true/\src.length=n/\za src bx'.length σ.bx bx'/\CLe src bx'.length c r) ⟨⟩) ⟨V9 0 args,bx,q,0⟩ ⟨⟩ ⟨⟩):JI P G f args bx q post:=JI.of_awp b (znU ho) hf hb (zot ho) hN (znQ ho) h
theorem znJ {f:FuncId} {args fargs:List C} {r:C} {n:Nat} (gargs:List C) (hf:Fun P G f gargs r n) (hr:r.freshB=true) (hl:Xh bx args gargs) (hK:K3 (r.sh nx) ⟨tm,bx,nx+n,lg⟩):Qh P G f args fargs ⟨tm,bx,nx,lg⟩ K3 ⟨⟩:=.inr <| .inr <| .inl ⟨gargs,r,n,hl,hf,hr,hK⟩
theorem call {f:FuncId} {args fargs:List C} {r:C} {n:Nat} (hf:Fun P G f fargs r n) (hK:K3 (r.sh nx) ⟨tm,bx,nx+n,lg⟩):Qh P G f args fargs ⟨tm,bx,nx,lg⟩ K3 ⟨⟩:=.inl ⟨r,n,hf,hK⟩
theorem kh {f:FuncId} {args:List C} {r:C} {n:Nat} (hf:Fun P G f args r n) (hK:K2 (r.sh nx) (nx+n)):MP P G f args nx K2 ⟨⟩:=v8.mk hf hK
theorem Fun.less {f:FuncId} {args args':List C} {r:C} {n:Nat} (hf:Fun P G f args' r n) (hl:zd [] 0 args args'):Fun P G f args r n:=⟨hf.1,fun R vs hg ha=>hf.2 R vs hg (by
 have:=zu.less _ _ _ hl ha
 refine zu.ext (Ext.refl R) ⟨fun i b hb=>?_,fun id x hx=>?_⟩ _ _ this
 ·simp at hb
 ·have hx:Zk [] zI.T id=some x:=hx
  simp[Zk]at hx)⟩
theorem x4 {f:FuncId} {args fargs a1:List C} {fbx fbx':List (List C)} {r:C} {n q:Nat} (ι κ:List Nat) (hf:Vd P G f a1 fbx q r fbx' n) (hq:κ.length=q) (hι:ι.Nodup) (hκ:κ.Nodup) (hb:∀ i∈ι,i<bx.length)
  (ha:C.reL (Xn ι) (Xn κ) args=a1) (hx:(ι.map fun i=>C.reL (Xn ι) (Xn κ) (bx.getD i []))=fbx) (hK:K3 (r.re (upB ι bx.length) (upO nx)) (QA ι κ fbx' n ⟨tm,bx,nx,lg⟩)):Qh P G f args fargs ⟨tm,bx,nx,lg⟩ K3 ⟨⟩:=
 .inr <| .inl ⟨ι,κ,r,fbx',n,hι,hκ,hb,by rw[ha,hq];exact hx▸hf,hK⟩
theorem range {A B:Nat->(Exit->St->Prop)->St->Prop} {ps:List Tmp} {f:FuncId} {first cap first' cap':List C} {bx':List (List C)} (items:List (List C)) (sf:Nat->Bool) (m:Nat) (I:Nat->St) (hit:ko P G f first' cap' bx' items) (e1:C.selL (YR m) first=first') (e2:C.selL (YR m) cap=cap') (e3:(bx.drop m).map (C.selL (YR m))=bx')
  (hp:p<=m) (hm:m<=bx.length) (hlen:∀ it∈items,it.length=ps.length) (hI:∀ k,k<=items.length->(I k).bx.length=m) (hw:zH m ⟨[],bx,nx,lg⟩ ((I 0).wt []))
  (hbody:∀ k it,items[k]?=some it->(∀ j,j<k->sf j=false)->A m (zji (B m (xx m (UX m tm) (sf k) (I (k+1)) Q ⟨⟩ ⟨⟩)) ⟨⟩) ((I k).wt (ZN ps it (UX m tm))))
  (hdone:(∀ j,j<items.length->sf j=false)->Q .normal ((I items.length).wt (UX m tm))):zbX P G p A B Q ps (.clo (.func f) first cap) ⟨tm,bx,nx,lg⟩ ⟨⟩ ⟨⟩ ⟨⟩:=
 ⟨items,sf,m,I,hp,hm,by rw[e1,e2];exact e3▸hit,hlen,hI,hw,hbody,hdone⟩
theorem loop {B:(Exit->St->Prop)->St->Prop} {ι:Type} (I:ι->St) (ok:ι->Prop) (μ:ι->Nat) (i0:ι) (h0:ok i0) (hw:zH p σ (I i0))
  (hr:∀ i,ok i->B (ue (fun σ'=>∃ j,ok j/\μ j<μ i/\zH p σ' (I j)) Q ⟨⟩ ⟨⟩) (I i)):zdk p B Q σ ⟨⟩ ⟨⟩:=⟨ι,I,ok,μ,i0,h0,hw,hr⟩
theorem Fun.of {f:FuncId} {fn:Func} {code:Code} {args:List C} {r:C} {n:Nat} (b:Nat->List Bool) (hf:P.funcs[f]?=some fn) (hb:fn.body=some code) (hN:args.length<=fn.ntmps) (ho:opB P fn code b=true)
  (h:ZY P G ⟨0,none,b⟩ code (M1 P fn.results.toList (fun c σ=>∃ src:Src,Vp src=true/\src.length=n/\CLe src 0 (c.fz σ.bx) r) ⟨⟩) ⟨V9 0 args,[],0,0⟩ ⟨⟩ ⟨⟩):Fun P G f args r n:=Fun.of_awp b (znU ho) hf hb (zot ho) hN (znQ ho) h
theorem Vd.of {f:FuncId} {fn:Func} {code:Code} {args:List C} {bx bx':List (List C)} {r:C} {q n:Nat} (b:Nat->List Bool) (hf:P.funcs[f]?=some fn) (hb:fn.body=some code) (hN:args.length<=fn.ntmps) (ho:opB P fn code b=true) (hlen:bx.length<=bx'.length)
  (h:ZY P G ⟨bx.length,none,b⟩ code (M1 P fn.results.toList (fun c σ=>∃ src:Src,Vp src=true/\src.length=n/\za src bx'.length σ.bx bx'/\CLe src bx'.length c r) ⟨⟩) ⟨V9 0 args,bx,q,0⟩ ⟨⟩ ⟨⟩):Vd P G f args bx q r bx' n:=Vd.of_awp b (znU ho) hf hb (zot ho) hN (znQ ho) hlen h
theorem ko.of {f:FuncId} {fn:Func} {code:Code} {first cap:List C} {bx items:List (List C)} (b:Nat->List Bool) (hf:P.funcs[f]?=some fn) (hb:fn.body=some code) (hN:first.length+1+cap.length<=fn.ntmps) (ho:opB P fn code b=true)
  (h:∀ (l:Nat) (sf:Nat->Bool),ZY P G ⟨0,some ⟨l,items,sf⟩,b⟩ code (M1 P fn.results.toList (fun c σ=>zlI items sf σ.lg) ⟨⟩) ⟨V9 0 (first++[.sc (.func (.yield l) #[] #[])]++cap),bx,0,0⟩ ⟨⟩ ⟨⟩):ko P G f first cap bx items:=ko.of_awp b (znU ho) hf hb (zot ho) hN (znQ ho) h
theorem zpj {i m k n cap b:Nat} {cs xs:List C} {z1:List Value} (A:List C) (hbx:bx[i]?=some cs) (h1:z1.length=k) (h2:0<k) (h3:(z1.all Value.oneCell')=true) (h4:0<m) (hp:p<=i) (hl:cs.length=cap*k) (hn:n<=cap) (hc:cap<=9223372036854775807)
  (h5:n+m<=9223372036854775807) (h6:(n+m)*b<=140737488355328) (hA:C.reL (JP i) some (cs.take (n*k)++xs)=A)
  (hK:∀ c',n+m<=c'->c'<=9223372036854775807->K3 (.bs i 0 k (n+m) c') ⟨k6 (JP i) some tm,Zd i (A++List.replicate ((c'-(n+m))*k) .any) bx,nx,lg⟩):znw (some (m,xs)) p k b z1 (.bs i 0 k n cap) ⟨tm,bx,nx,lg⟩ K3 ⟨⟩:=by
 refine ⟨h1,h2,h3,h4,?_⟩
 simp only[hbx]
 exact ⟨trivial,hp,hl,hn,hc,h5,h6,fun c' q1 q2=>by rw[hA];exact hK c' q1 (by unfold maxLen at q2;omega)⟩
theorem zaT (k:Nat):((k:Int)+1).toNat=k+1:=by omega
theorem ziO.mk {B:(Exit->St->Prop)->St->Prop} {ι:Type} (I:ι->St) (ok:ι->Prop) (μ:ι->Nat) (i0:ι) (h0:ok i0) (hw:zH p σ (I i0))
  (hr:∀ i,ok i->B (zkR (fun σ'=>∃ j,ok j/\μ j<μ i/\zH p σ' (I j)) Q) (I i)):ziO p B Q σ:=⟨ι,I,ok,μ,i0,h0,hw,hr⟩
end
attribute [push_cast] eq_self iff_self List.append_eq zpg zqb zqD zqa zqG zpU zoN zpA zpl zao zpN zlt zgR zgG zm1 znH zmz zmW zne zkB zjT znt zj1 zoc zmC zpm zoU zqd zqY zjL zoR znz zkO zmX zpY zpJ zns zlp zmo zgV zk8 zg5 zd6 zgU ziK zgr zfE zb9 zfj zhH znA zoy znX zma zds xa zqH zhC zlR zkA zok zm6 xM zaZ zdc Ml NT yo zbv NC zik M9 zaw zjB zlO zmd znq zob zn8 zoo znl zki zox ziq zhL zfQ zhb ziQ zkT zoq zmY zkg zkq zaH zaL MR M8 ki U3 Ho zmx zj4 zg3 zh6 ux zaX zhI zhB zbY zcx zgK zg0 NP Nk zdu zd4 zgO ziP yu N5 zc6 zeh HD Hv zdL zcS GM HV zb3 zft yy xY zcG zei zjo zkJ xX zmb zkk zbg zoz zgJ uP znC zbB zhc zgF zeC zkc zpv zhR zcp zam zcu zjN zdE zh5 zbi ze8 yn x8 zmD xg N3 yp Hm MW NN zdW zeG zfn MH zfc Nd zc1 zaV ze0 zb5 zhD zaz zfT zfm zgT zbZ zdz zcg zcE zdH zcz zdK zew zbL zcJ zcM zd1 zdi zbM ze9 zhp zeQ zo6 zfB zno uA zbt zjt Hl zaF xu za7 Mz Nn zlV zgE zco zqq zoT zhm ziv zqy zal uF zdt zeB zax zbb uU ze7 zd7 zgh zg8 zf5 zhZ zii zqB zpC zpe zoW zqx zpS zoQ zlH zm3 zjr zku zhJ zlP zop znj zbs zbm za8 zon zqQ zle zqi zo2 zmy zqm zoV uI zdQ zif uM znf zmc zga zhE ziz uR zag uY zek uz znY zaI zhs zcL zh4 zcc zfk zl9 zmt zkN zha zqR zkj znK zjZ zpO zpR zqr zpD zo5 zpx zpu znp zna zqK zpF zpI zd2 xh zmj zo0 zoL zog zo4 zpq zpw zlJ zlN zij zmg zpo zjK znV zkK zmw zhA zgN ziI zjU zgf zgQ zlz zpW zpG zoJ zoS ziC zjA zky zcX zin zhi zfZ zlj zlf zaj zbU zio zhl zhT zkZ zls zlU zlm uy zn3 zaD zeD zfC zgW zf2 zg9 zk3 zgS zgc zdF zlk zh8 zai ziJ zcA zhw zkS zhr zk1 zaO zf1 zgY zht zlg zbG zgI zhK zfD zj0 zkb zkx zli zk2 zlr ziL ziw zh9 zgX zfi zah zeU zb8 zbD MS zfV zf7 zf6 zd8 za1 zh0 zg1 ze4 zaE zdX zfh uQ xp zgC zhy zgi zfs uZ zgn zfU zix zfq uV zan znF zbw zof yl MV yJ za3 zbn zad Hr HT HC xS xi xH yC xb yS zbf zbl zaJ yx yH zfo u7 yQ Ne zjP zlK zjJ znE zeb uT
attribute [push_cast] Int.ofNat_eq_natCast Bool.not_false Bool.not_true Bool.true_beq Bool.false_beq beq_self_eq_true Bool.true_and zjM zlw zn2 zj6 zly List.map_cons List.map_nil List.getElem?_cons_zero List.getElem?_cons_succ List.getElem?_toArray List.getElem?_nil List.drop_zero List.drop_succ_cons List.drop_nil List.take_succ_cons List.take_zero List.take_nil List.length_cons List.length_nil List.getD_cons_zero List.getD_cons_succ List.set_cons_zero List.set_cons_succ List.cons_append List.nil_append List.append_nil List.all_cons List.all_nil List.tail_cons List.tail_nil List.headD_cons List.headD_nil List.flatten_cons List.flatten_nil List.replicate_succ List.replicate_zero Bool.and_self Bool.and_true Bool.true_and Bool.not_true Bool.not_false Option.bind_some Option.map_some Option.map_none if_true if_false true_and and_true and_self decide_true decide_false Int.ofNat_le Int.ofNat_lt Int.natCast_inj zaT Int.toNat_natCast Nat.zero_add Nat.add_zero List.toList_toArray Int.add_zero Int.zero_add Bool.not_not Int.sub_zero Int.natCast_pos Nat.sub_zero Int.cast_ofNat_Int Nat.one_mul Nat.mul_one
namespace CA
theorem cl {P:Program} {G:zm} {f:FuncId} {args fargs:List C} {r:C} {n nx lg:Nat} {tm:List (Nat×C)} {bx:List (List C)} {K3:C->St->Prop} (hf:Fun P G f fargs r n) (hK:K3 (r.sh nx) ⟨tm,bx,nx+n,lg⟩):Qh P G f args fargs ⟨tm,bx,nx,lg⟩ K3 ⟨⟩:=call hf hK
end CA
namespace CB
theorem cl {P:Program} {G:zm} {f:FuncId} {args:List C} {r:C} {n nx:Nat} {K2:C->Nat->Prop} (hf:Fun P G f args r n) (hK:K2 (r.sh nx) (nx+n)):MP P G f args nx K2 ⟨⟩:=kh hf hK
end CB
end
section
open Go.RowKit
def C.stayB:C->Bool
 | .sc _ | .str _ | .sl _ _ | .tight _ _ | .row _ | .any=>true
 | _=>false
theorem zgk {c:C} (h:c.stayB=true):c.frz=c:=by cases c<;>simp[C.stayB]at h<;>simp[C.frz]
theorem zjE {c:C} {fp fo:Nat->Option Nat} (h:c.stayB=true):c.re fp fo=c:=by cases c<;>simp[C.stayB]at h<;>simp[C.re]
theorem zk9 {c:C} {src:Src} {n:Nat} (h:c.stayB=true):CLe src n c c:=by cases c<;>simp[C.stayB]at h<;>simp[CLe]
theorem Me:∀ {cs:List C},(cs.all C.stayB)=true->C.frzL cs=cs
 | [],_=>by simp[C.frzL]
 | c :: r,h=>by
  simp only[List.all_cons,Bool.and_eq_true]at h
  rw[C.frzL,zgk h.1,Me h.2]
theorem zD {fp fo:Nat->Option Nat}:∀ {cs:List C},(cs.all C.stayB)=true->C.reL fp fo cs=cs
 | [],_=>by simp[C.reL]
 | c :: r,h=>by
  simp only[List.all_cons,Bool.and_eq_true]at h
  rw[C.reL,zjE h.1,zD h.2]
theorem zX {src:Src} {n:Nat}:∀ {cs:List C},(cs.all C.stayB)=true->zd src n cs cs
 | [],_=>by simp[zd]
 | c :: r,h=>by
  simp only[List.all_cons,Bool.and_eq_true]at h
  rw[zd]
  exact ⟨zk9 h.1,zX h.2⟩
theorem zkL {src:Src} {n:Nat} (c:C):CLe src n c .any:=by cases c<;>simp[CLe]
theorem YV {src:Src} {n:Nat}:∀ {cs:List C} {m:Nat},cs.length=m->zd src n cs (List.replicate m .any)
 | [],_,h=>by subst h;simp[zd]
 | c :: r,_,h=>by
  subst h
  rw[List.length_cons,List.replicate_succ,zd]
  exact ⟨zkL c,YV rfl⟩
theorem zbR {src:Src} {n:Nat}:∀ {a b c d:List C},zd src n a c->zd src n b d->zd src n (a++b) (c++d)
 | [],b,[],d,_,h=>h
 | [],b,x :: c,d,h,_=>by simp[zd]at h
 | x :: a,b,[],d,h,_=>by simp[zd]at h
 | x :: a,b,y :: c,d,h,h'=>by
  rw[List.cons_append,List.cons_append,zd]
  rw[zd]at h
  exact ⟨h.1,zbR h.2 h'⟩
def qo (k:Nat) (rows:List (List C)) (c:Nat):List C:=rows.flatten++List.replicate ((c-rows.length)*k) .any
theorem qm {k:Nat}:∀ {rows:List (List C)},(∀ r∈rows,r.length=k)->rows.flatten.length=rows.length*k
 | [],_=>by simp
 | r :: rs,h=>by
  rw[List.flatten_cons,List.length_append,h r List.mem_cons_self,qm fun x hx=>h x (List.mem_cons_of_mem _ hx),List.length_cons,Nat.succ_mul,Nat.add_comm]
theorem Jq {k c:Nat} {rows:List (List C)} (h:∀ r∈rows,r.length=k) (hc:rows.length<=c):(qo k rows c).length=c*k:=by
 unfold qo
 rw[List.length_append,qm h,List.length_replicate,←Nat.add_mul]
 congr 1;omega
abbrev jq (rows:List (List C)):Prop:=∀ r∈rows,(r.all C.stayB)=true
theorem XP {rows:List (List C)} (h:jq rows):(rows.flatten.all C.stayB)=true:=by
 rw[List.all_eq_true]
 intro c hc
 obtain ⟨r,hr,hc⟩:=List.mem_flatten.1 hc
 exact List.all_eq_true.1 (h r hr) c hc
theorem zC {k c:Nat} {rows:List (List C)} (h:jq rows):((qo k rows c).all C.stayB)=true:=by
 unfold qo
 rw[List.all_append,XP h,Bool.true_and,List.all_eq_true]
 intro c hc
 obtain ⟨_,rfl⟩:=List.mem_replicate.1 hc
 rfl
theorem Ze {k n:Nat}:∀ {rows:List (List C)},(∀ r∈rows,r.length=k)->rows.flatten.take (n*k)=(rows.take n).flatten:=by
 induction n with
 | zero=>intro rows _;simp
 | succ n ih =>
  intro rows h
  cases rows with
  | nil=>simp
  | cons r rs =>
   have hr:=h r List.mem_cons_self
   rw[List.take_succ_cons,List.flatten_cons,List.flatten_cons,List.take_append,List.take_of_length_le (by rw[hr,Nat.succ_mul];omega),hr,show (n+1)*k-k=n*k by rw[Nat.succ_mul];omega,ih fun x hx=>h x (List.mem_cons_of_mem _ hx)]
theorem UQ {k n:Nat}:∀ {rows:List (List C)},(∀ r∈rows,r.length=k)->rows.flatten.drop (n*k)=(rows.drop n).flatten:=by
 induction n with
 | zero=>intro rows _;simp
 | succ n ih =>
  intro rows h
  cases rows with
  | nil=>simp
  | cons r rs =>
   have hr:=h r List.mem_cons_self
   rw[List.drop_succ_cons,List.flatten_cons,List.drop_append,List.drop_of_length_le (by rw[hr,Nat.succ_mul];omega),hr,List.nil_append,show (n+1)*k-k=n*k by rw[Nat.succ_mul];omega,ih fun x hx=>h x (List.mem_cons_of_mem _ hx)]
theorem Jp {src:Src} {m k c:Nat} {rows:List (List C)} {cs:List C} (hk:∀ r∈rows,r.length=k) (hs:jq rows) (hc:rows.length<=c) (hl:cs.length=c*k) (ht:cs.take (rows.length*k)=rows.flatten):zd src m cs (qo k rows c):=by
 have h1:cs=rows.flatten++cs.drop (rows.length*k):=by rw[←ht,List.take_append_drop]
 rw[h1]
 unfold qo
 refine zbR (zX (XP hs)) (YV ?_)
 rw[List.length_drop,hl,←Nat.sub_mul]
theorem Qb {cs xs:List C} {p:Nat} (h:p+xs.length<=cs.length):(spl cs p xs).length=cs.length:=by
 simp[spl];omega
theorem Us {cs L X:List C} {p q:Nat} (hp:p<=L.length) (hq:q=p+X.length) (hL:cs.take L.length=L) (hc:L.length+X.length<=cs.length) :
  (spl (spl cs q (L.drop p)) p X).take (L.length+X.length)=L.take p++(X++L.drop p):=by
 subst hq
 apply List.ext_getElem?
 intro j
 have hcur:∀ j,j<L.length->cs[j]?=L[j]?:=fun j hj=>by
  have h:=congrArg (fun l=>l[j]?) hL
  simp only[List.getElem?_take,if_pos hj]at h
  exact h
 simp only[spl,List.getElem?_take,List.getElem?_append,List.getElem?_drop,List.length_take,List.length_append,List.length_drop]
 repeat' (first | split | omega)
 all_goals (first | rfl | omega | exact (List.getElem?_eq_none (by omega)).symm | (congr 1;omega) | (rw[hcur _ (by omega)];first | done | (congr 1;omega)) | (symm;rw[List.getElem?_eq_none];simp;omega) | (rw[List.getElem?_eq_none];simp;omega) | skip)
theorem Gr {cs L X:List C} {p q:Nat} (hp:p<=L.length) (hq:q=p+X.length) (hL:cs.take p=L.take p) (hc:L.length+X.length<=cs.length) :
  (spl (spl cs p X) q (L.drop p)).take (L.length+X.length)=L.take p++(X++L.drop p):=by
 subst hq
 apply List.ext_getElem?
 intro j
 have hcur:∀ j,j<p->cs[j]?=L[j]?:=fun j hj=>by
  have h:=congrArg (fun l=>l[j]?) hL
  simp only[List.getElem?_take,if_pos hj]at h
  exact h
 simp only[spl,List.getElem?_take,List.getElem?_append,List.getElem?_drop,List.length_take,List.length_append,List.length_drop]
 repeat' (first | split | omega)
 all_goals (first | rfl | omega | exact (List.getElem?_eq_none (by omega)).symm | (congr 1;omega) | (rw[hcur _ (by omega)];first | done | (congr 1;omega)) | (symm;rw[List.getElem?_eq_none];simp;omega) | (rw[List.getElem?_eq_none];simp;omega) | skip)
theorem zjC {cs L Z:List C} {p q n:Nat} (hq:q<=L.length) (hpq:p<=q) (hL:cs.take L.length=L) (hn:n=p+(L.length-q)) (hc:L.length<=cs.length) (hz:n+Z.length<=cs.length) :
  (spl (spl cs p (L.drop q)) n Z).take n=L.take p++L.drop q:=by
 subst hn
 apply List.ext_getElem?
 intro j
 have hcur:∀ j,j<L.length->cs[j]?=L[j]?:=fun j hj=>by
  have h:=congrArg (fun l=>l[j]?) hL
  simp only[List.getElem?_take,if_pos hj]at h
  exact h
 simp only[spl,List.getElem?_take,List.getElem?_append,List.getElem?_drop,List.length_take,List.length_append,List.length_drop]
 repeat' (first | split | omega)
 all_goals (first | rfl | omega | exact (List.getElem?_eq_none (by omega)).symm | (congr 1;omega) | (rw[hcur _ (by omega)];first | done | (congr 1;omega)) | (symm;rw[List.getElem?_eq_none];simp;omega) | (rw[List.getElem?_eq_none];simp;omega) | skip)
theorem ya {P:Program} {f:FuncId} {fn:Func} {t e tR:TypeId} {s1 b1 k by':Nat} {kd:LK} {z1 z:Option (List Value)} (hf:P.funcs[f]?=some fn) (hname:(fn.name == "runtime.NumGoroutine")=false) (hb:fn.body.isNone=true) (hn:Extern.findNext fn=none)
  (he:Extern.find fn=some (Extern.SlicesOverlaps.overlaps #[t,t] #[tR])) (hl:lay P t=some ⟨.slice e,s1,b1,z1⟩) (hle:lay P e=some ⟨kd,k,by',z⟩) {id e' k' i off n c:Nat} {rows bx:List (List C)} {cs:List C} (hbx:bx[i]?=some cs) (hcs:cs≠[]) (hrows:rows≠[]) (hn0:0<n) :
  zps P f [.own id e' k' rows,.bs i off k n c] bx (.sc (.bool false)):=by
 intro B R L vs hB hO hr
 obtain ⟨v1,us,rfl,h1,hr⟩:=ze.1 hr
 obtain ⟨v2,us,rfl,h2,hr⟩:=ze.1 hr
 rw[zj]at hr
 subst hr
 refine ⟨.bool false,?_,zo.2 rfl⟩
 rw[run_callFunc_extern hf hname hb hn he]
 have ht:=z6 hl rfl
 have hz:∀ w,(Go.sizeOf e).run P w = .ok k w:=fun w=>qG hle w
 obtain ⟨hT,a,cap,hv1,_⟩:=Yx.1 h1
 obtain ⟨b,hbi,ad,rfl,had⟩:=jp.1 h2
 obtain ⟨us,ty,e1,e2,e3,e4⟩:=hB.box i b cs hbi hbx
 have hsz:us.size≠0:=by
  have:=zt e2
  simp only[Array.length_toList]at this
  rw[this]
  exact fun h=>hcs (List.eq_nil_of_length_eq_zero h)
 rcases hO.own id e' k' v1 hT with hnil | ⟨g,n',cap',cur,ty',q1,q2,q3,q4,q5,q6,q7,q8⟩ | ⟨_,_,_,_,hmap,_⟩
 rotate_right
 ·rw[hv1]at hmap;unfold Uk at hmap;cases hmap
 ·rw[hnil]at hv1
  obtain ⟨_,h0,_⟩:=Value.slice.inj hv1
  exact absurd (List.eq_nil_of_length_eq_zero h0.symm) hrows
 ·rw[q1]
  obtain rfl:=had (by omega)
  have hne:g≠b:=fun h=>q7 (h▸List.mem_of_getElem? hbi)
  rw[Lib.run_overlaps_apart R.w t tR e ht k hz ⟨g,0,none⟩ ⟨b,off,none⟩ n' cap' n c hne ty' ty cur.size us.size (by simp[World.shape?,q3]) (by simp[World.shape?,e1]) hsz (frozen_of_row R.w g 0 _ _ q3) (frozen_of_row R.w g _ _ _ q3)]
  rfl
theorem Z8 {m k:Nat} {z:List C} (hz:z.length=k):(List.replicate m z).flatten.length=m*k:=by
 have h:=qm (k:=k) (rows:=List.replicate m z) fun r hr=>by rw[(List.mem_replicate.1 hr).2];exact hz
 rw[h,List.length_replicate]
section
variable {P:Program} {t tn e s1 b1 s2 b2 k by' m i off n cap nx lg:Nat} {kd:LK} {kn kq:IntKind} {z1 z2 z3:Option (List Value)} {z:List Value} {cs xs:List C} {bx:List (List C)} {tm:List (Nat×C)} {d:C} {q:Int} {K3:C->St->Prop}
theorem zjq (hl:lay P t=some ⟨.slice e,s1,b1,z1⟩) (hln:lay P tn=some ⟨.int kn,s2,b2,z2⟩) (hle:lay P e=some ⟨kd,k,by',some z⟩) (hz:z.length=k) (hk:0<k) (h1:(z.all Value.oneCell')=true)
  (hb:bx[i]?=some cs) (hfit:off+cap*k<=cs.length) (hn:n<=cap) (hq:0<q) (h63:(n:Int)+q<=9223372036854775807) (hby:((n:Int)+q)*by'<=140737488355328) (hg:(cap:Int)<n+q)
  (hK:∀ c' B,n+q.toNat<=c'->c'<=9223372036854775807->B.length=c'*k->B.take (n*k)=(cs.drop off).take (n*k)->K3 (.bs bx.length 0 k (n+q.toNat) c') ⟨tm,bx++[B],nx,lg⟩):vJ P t tn (.bs i off k n cap) (.sc (.int kq q)) ⟨tm,bx,nx,lg⟩ K3 ⟨⟩:=by
 have hnk:n*k<=cap*k:=Nat.mul_le_mul_right _ hn
 refine zqz hl hln hle hz hk h1 hb hfit hn hq h63 hby hg fun c' g1 g2=>hK c' _ g1 g2 ?_ ?_
 ·rw[List.length_append,List.length_append,Z8 (k:=k) (by simpa using hz),List.length_replicate,List.length_take,List.length_drop,Nat.min_eq_left (by omega),←Nat.add_mul,←Nat.add_mul]
  congr 1;omega
 ·rw[List.append_assoc,List.take_left' (by rw[List.length_take,List.length_drop];omega)]
theorem Xg (hl:lay P t=some ⟨.slice e,s1,b1,z1⟩) (hle:lay P e=some ⟨kd,k,by',z3⟩) (hx:d.xs? k bx=some (m,xs)) (hb:bx[i]?=some cs) (hxl:xs.length=m*k) (hfit:off+n*k<=cs.length)
  (hK:∀ B,B=spl cs off (xs.take (min m n*k))->B.length=cs.length->K3 (.sc (.int .i64 ((min m n:Nat):Int))) ⟨tm,bx.set i B,nx,lg⟩):MF P t (.bs i off k n cap) d ⟨tm,bx,nx,lg⟩ K3 ⟨⟩:=
 zkf hl hle hx hb hxl hfit (hK _ rfl (by
  have h1:min m n*k<=n*k:=Nat.mul_le_mul_right _ (Nat.min_le_right _ _)
  exact Qb (by rw[List.length_take];omega)))
theorem zkm (hl:lay P t=some ⟨.slice e,s1,b1,z1⟩) (hle:lay P e=some ⟨kd,k,by',some z⟩) (hb:bx[i]?=some cs) (hz:z.length=k) (hk:0<k) (h1:(z.all Value.oneCell')=true) (hfit:off+n*k<=cs.length)
  (hK:∀ B Z,B=spl cs off Z->Z.length=n*k->B.length=cs.length->K3 .any ⟨tm,bx.set i B,nx,lg⟩):yt P t (.bs i off k n cap) ⟨tm,bx,nx,lg⟩ K3 ⟨⟩:=by
 have hZ:(List.replicate n (z.map zA)).flatten.length=n*k:=Z8 (by simpa using hz)
 exact znL hl hle hb hz hk h1 hfit (hK _ _ rfl hZ (Qb (by omega)))
end
theorem V2 {k i off n c:Nat} {bx:List (List C)} {cs:List C} (hb:bx[i]?=some cs) (h:off+n*k<=cs.length):C.xs? k bx (.bs i off k n c)=some (n,(cs.drop off).take (n*k)):=by
 simp[C.xs?,hb,h]
theorem YY {k c i:Nat} {rows:List (List C)} (hk:∀ r∈rows,r.length=k) (hi:i<=rows.length):((qo k rows c).drop (i*k)).take ((rows.length-i)*k)=rows.flatten.drop (i*k):=by
 have hf:=qm hk
 have h1:i*k<=rows.length*k:=Nat.mul_le_mul_right _ hi
 unfold qo
 rw[List.drop_append_of_le_length (by omega),List.take_left' (by rw[List.length_drop,hf,Nat.sub_mul])]
theorem XR {k i:Nat} {rows:List (List C)} {x:List C} (hk:∀ r∈rows,r.length=k):rows.flatten.take (i*k)++(x++rows.flatten.drop (i*k))=(rows.take i++x :: rows.drop i).flatten:=by
 rw[Ze hk,UQ hk];simp
theorem GN {bx:List (List C)} {i e k c:Nat} {rows:List (List C)} {cs:List C} (hb:bx[i]?=some cs) (hc:0<c) (h1:rows.length<=c) (h2:c<=9223372036854775807) (hl:cs.length=c*k) (hk:∀ r∈rows,r.length=k) (hs:(cs.all C.stayB)=true) (ht:cs.take (rows.length*k)=rows.flatten) :
  zfO [(i,e,k,rows,c)] bx:=by
 refine ⟨by simp,fun x hx=>?_⟩
 rw[List.mem_singleton]at hx
 subst hx
 exact ⟨cs,hb,hc,h1,by unfold maxLen;exact h2,hl,hk,by rw[Me hs];exact ht⟩
theorem zcT {k c:Nat} {rows:List (List C)} (hk:∀ r∈rows,r.length=k):(qo k rows c).take (rows.length*k)=rows.flatten:=by
 unfold qo;rw[List.take_left' (qm hk)]
theorem zw {bx:List (List C)} {i e k c:Nat} {rows:List (List C)} (hb:bx[i]?=some (qo k rows c)) (hc:0<c) (h1:rows.length<=c) (h2:c<=9223372036854775807) (hk:∀ r∈rows,r.length=k) (hs:jq rows):zfO [(i,e,k,rows,c)] bx:=
 GN hb hc h1 h2 (Jq hk h1) hk (zC hs) (zcT hk)
theorem uq {k c i:Nat} {rows:List (List C)} {row:List C} (hk:∀ r∈rows,r.length=k) (hr:row.length=k) (hi:i<rows.length):(qo k rows c).take (i*k)++row++(qo k rows c).drop (i*k+k)=qo k (rows.set i row) c:=by
 have hf:=qm hk
 have h1:(i+1)*k<=rows.length*k:=Nat.mul_le_mul_right _ hi
 rw[Nat.succ_mul]at h1
 unfold qo
 rw[List.take_append_of_le_length (by omega),List.drop_append_of_le_length (by omega),←Nat.succ_mul,Ze hk,UQ hk,List.length_set,←List.append_assoc]
 congr 1
 rw[List.set_eq_take_append_cons_drop,if_pos hi]
 simp
def RLe:List (List C)->List (List C)->Prop
 | [],[]=>True
 | a :: r,b :: s=>zd [] 0 a b/\RLe r s
 | _,_=>False
theorem RLe.len:∀ {a b:List (List C)},RLe a b->a.length=b.length
 | [],[],_=>rfl
 | _ :: r,_ :: s,h=>by rw[List.length_cons,List.length_cons,RLe.len h.2]
theorem zd.len {src:Src} {n:Nat}:∀ {a b:List C},zd src n a b->a.length=b.length
 | [],[],_=>rfl
 | [],_ :: _,h=>by simp[zd]at h
 | _ :: _,[],h=>by simp[zd]at h
 | _ :: r,_ :: s,h=>by
  rw[zd]at h
  rw[List.length_cons,List.length_cons,zd.len h.2]
theorem zdm {R:Env} {c d:C} {v:Value} (h:CLe [] 0 c d) (hr:Rep R zI c v):Rep R zI d v:=by
 refine Rep.ext (Ext.refl R) (T:=Jk [] 0 zI) ⟨fun i b hb=>?_,fun id x hx=>?_⟩ _ _ (Rep.less _ _ _ h hr)
 ·simp at hb
 ·have hx:Zk [] zI.T id=some x:=hx
  simp[Zk]at hx
theorem Uc {R:Env} {b:Nat}:∀ {cs ds:List C} {o:Nat},zd [] 0 cs ds->zL R cs b o->zL R ds b o
 | [],[],_,_,h=>h
 | [],_ :: _,_,h,_=>by simp[zd]at h
 | _ :: _,[],_,h,_=>by simp[zd]at h
 | c :: r,d :: s,o,h,hr=>by
  rw[zd]at h
  obtain ⟨⟨v,h1,h2,h3,h4⟩,h5⟩:=qi.1 hr
  exact qi.2 ⟨⟨v,h1,h2,zdm h.1 h3,h4⟩,Uc h.2 h5⟩
theorem Hh {R:Env} {k b:Nat}:∀ {a c:List (List C)} {o:Nat},RLe a c->zP R a k b o->zP R c k b o
 | [],[],_,_,h=>h
 | x :: r,y :: s,o,h,hr=>by
  unfold zP at hr ⊢
  exact ⟨(zd.len h.1).symm.trans hr.1,Uc h.1 hr.2.1,Hh h.2 hr.2.2⟩
theorem za6 {R:Env} {L:Loc} {id e k:Nat} {a c:List (List C)} {v:Value} (h:RLe a c) (hr:Rep R L (.own id e k a) v):Rep R L (.own id e k c) v:=by
 obtain ⟨h1,ad,cap,h2,h3,h4,h5⟩:=Yx.1 hr
 refine Yx.2 ⟨h1,ad,cap,by rw[h2,h.len],by rw[←h.len];exact h3,h4,?_⟩
 rcases h5 with h5 | ⟨b,o,h5,h6⟩
 ·subst h5
  have:=h.len
  exact .inl (List.eq_nil_of_length_eq_zero (by simpa using this.symm))
 ·exact .inr ⟨b,o,h5,Hh h h6⟩
theorem Fun.resX {P:Program} {G:zm} {f:FuncId} {args:List C} {r r':C} {n:Nat} (hf:Fun P G f args r n) (h:∀ R L v,Rep R L r v->Rep R L r' v):Fun P G f args r' n:=
 ⟨hf.1,fun R vs hg ha=>(hf.2 R vs hg ha).mono fun e w' ⟨v,R',L',h1,h2,h3,h4⟩=>⟨v,R',L',h1,h2,h3,h _ _ _ h4⟩⟩
theorem zaQ {R:Env} {L:Loc} {cs ds:List C} {v:Value} (h:∀ vs,zu R L cs vs->zu R L ds vs) (hr:Rep R L (.agg cs) v):Rep R L (.agg ds) v:=by
 obtain ⟨vs,h1,h2⟩:=jL.1 hr
 exact jL.2 ⟨vs,h1,h _ h2⟩
theorem Yq {R:Env} {L:Loc} {c d:C} {cs ds:List C} {vs:List Value} (h:∀ v,Rep R L c v->Rep R L d v) (h':∀ vs,zu R L cs vs->zu R L ds vs) (hr:zu R L (c :: cs) vs):zu R L (d :: ds) vs:=by
 obtain ⟨v,us,rfl,h1,h2⟩:=ze.1 hr
 exact ze.2 ⟨v,us,rfl,h _ h1,h' _ h2⟩
end
section
open Go.RowKit
def zfx (k:Nat) (rows:List (List C)) (r:C) (bx':List (List C)) (n:Nat):Prop:=
 n=0/\((rows≠[]/\∃ c,rows.length<=c/\c<=9223372036854775807/\r = .bs 1 0 k rows.length c/\bx' = [[],qo k rows c])∨(rows = []/\(r = .sc (.slice none 0 0)/\bx' = []∨r = .bs 0 0 k 0 0/\bx' = [[]])))
def zoF (k m:Nat) (ins:List (List C)) (r:C) (bx':List (List C)) (n:Nat):Prop:=
 n=0/\∃ c,ins.length<=c/\c<=9223372036854775807/\(r = .bs 0 0 k ins.length c/\bx' = [qo k ins c]∨r = .bs 1 0 k ins.length c/\bx' = [List.replicate m .any,qo k ins c])
section
variable {G:zm}
theorem XN (rows:List (List C)) (hk:∀ r∈rows,r.length=6) (hs:jq rows) (hl:rows.length<=100000) :
  JI Tryz.prog G 178 [.sl 6 rows] [] 0 (zfx 6 rows):=by
 refine JI.bySlice (fun h=>?_) (fun h a cap hr=>?_)
 ·refine JI.of (fun i=>if i=1000000+22 then [true,true] else []) Tryz.func178 rfl (zi rfl) (by kernel_rfl) ?_;dsimp only[Tryz.f178]
  push_cast -dsimp
  refine ⟨h,Qy ZL Zv rfl rfl (by decide) rfl (qm hk) rfl (Nat.le_refl _) (Nat.le_refl _) (by omega) (by omega) (fun hc=>absurd hc ?_) (fun _ c hc hm=>?_)⟩
  ·have:=List.length_pos_iff.2 h;omega
  ·push_cast -dsimp
   rw[Nat.zero_add]at hc
   refine ⟨_,_,_,⟨⟨rfl,.inl ⟨h,c,hc,hm,rfl,rfl⟩⟩,Nat.zero_le _⟩,[],rfl,rfl,?_,by push_cast -dsimp [zb,za,CLe,zd]⟩
   push_cast -dsimp [zb,za,CLe,zd]
   exact zX (zC hs)
 ·cases a with
  | none =>
   refine JI.of (fun i=>if i=1000000+22 then [true,true] else []) Tryz.func178 rfl (zi rfl) (by kernel_rfl) ?_;dsimp only[Tryz.f178]
   push_cast -dsimp [hr,Option.isNone_none]
   exact ⟨_,_,_,⟨⟨rfl,.inr ⟨h,.inl ⟨rfl,rfl⟩⟩⟩,Nat.zero_le _⟩,[],rfl,rfl,by push_cast -dsimp [zb,za,CLe,zd],by push_cast -dsimp [zb,za,CLe,zd]⟩
  | some a =>
   refine JI.of (fun i=>if i=1000000+22 then [true,true] else []) Tryz.func178 rfl (zi rfl) (by kernel_rfl) ?_;dsimp only[Tryz.f178]
   push_cast -dsimp [hr,Option.isNone_some]
   have hx:C.xs? 6 [[]] (C.sc (.slice (some a) 0 cap))=some (0,[]):=by simp[C.xs?,hr]
   refine Qy ZL Zv hx rfl (by decide) rfl rfl rfl (Nat.le_refl _) (Nat.le_refl _) (by omega) (by omega) (fun _=>?_) (fun hc=>absurd hc (by omega))
   push_cast -dsimp
   exact ⟨_,_,_,⟨⟨rfl,.inr ⟨h,.inr ⟨rfl,rfl⟩⟩⟩,Nat.zero_le _⟩,[],rfl,rfl,by (push_cast -dsimp [zb,za,CLe,zd];simp[spl,zd]),by push_cast -dsimp [zb,za,CLe,zd]⟩
theorem Vz (rows:List (List C)) (x:List C) (i c e:Nat) (hk:∀ r∈rows,r.length=6) (hx:x.length=6) (hs:jq rows) (hsx:(x.all C.stayB)=true) (hl:rows.length<=100000) (hi:i<=rows.length) (hc:rows.length<=c) (hcm:c<=9223372036854775807) :
  JI Tryz.prog G 177 [.bs 0 0 6 rows.length c,.sc (.int .i64 i),.own 0 e 6 [x]] [qo 6 rows c] 1 (zoF 6 (c*6) (rows.take i++x :: rows.drop i)):=by
 refine JI.of (fun j=>if j=1000000+22 then [true,true] else if j=11 then [false,false,false,false,false,false,false,false,true] else if j=15 then [false,false,false,false,false,false,false,false,true] else []) Tryz.func177 rfl (zi rfl) (by kernel_rfl) ?_;dsimp only[Tryz.f177]
 push_cast -dsimp
 have hlen:(rows.take i++x :: rows.drop i).length=rows.length+1:=by simp;omega
 have hki:∀ r∈rows.take i++x :: rows.drop i,r.length=6:=fun r hr=>by
  rcases List.mem_append.1 hr with hr | hr
  ·exact hk r (List.mem_of_mem_take hr)
  ·rcases List.mem_cons.1 hr with rfl | hr
   ·exact hx
   ·exact hk r (List.mem_of_mem_drop hr)
 have hsi:jq (rows.take i++x :: rows.drop i):=fun r hr=>by
  rcases List.mem_append.1 hr with hr | hr
  ·exact hs r (List.mem_of_mem_take hr)
  ·rcases List.mem_cons.1 hr with rfl | hr
   ·exact hsx
   ·exact hs r (List.mem_of_mem_drop hr)
 have hbl:=Jq hk hc
 have hfl:=qm hk
 have hxl:[x].flatten.length=1*6:=by simp[hx]
 have hpre:(qo 6 rows c).take rows.flatten.length=rows.flatten:=by unfold qo;rw[List.take_left]
 refine ⟨hc,⟨by omega,hi⟩,br (fun h=>?_) (fun h=>?_)⟩
 ·push_cast -dsimp
  refine Qy ZL Zv rfl rfl (by decide) rfl hxl rfl (by rw[hbl];omega) hc (by simp;omega) (by simp;omega) (fun h1=>?_) (fun h1 c' h2 h3=>?_)
  ·push_cast -dsimp
   have hi':i=rows.length:=of_decide_eq_true h
   refine ⟨_,_,_,⟨⟨rfl,c,by rw[hlen];exact h1,hcm,.inl ⟨rfl,rfl⟩⟩,Nat.le_refl _⟩,[],rfl,rfl,?_,by push_cast -dsimp [zb,za,CLe,zd,hlen]⟩
   push_cast -dsimp [zb,za,CLe,zd]
   have h6:rows.length*6+6<=c*6:=by have:rows.length+1<=c:=h1;omega
   refine Jp hki hsi (by rw[hlen];exact h1) (by rw[Qb (by rw[hbl,hx];exact h6),hbl]) ?_
   rw[hlen,hi',List.take_length,List.drop_length]
   unfold spl
   rw[←hfl,hpre,List.take_left' (by simp[hx,hfl];omega)]
   simp
  ·push_cast -dsimp
   have hi':i=rows.length:=of_decide_eq_true h
   have h2':rows.length+1<=c':=h2
   refine ⟨_,_,_,⟨⟨rfl,c',by rw[hlen];exact h2,h3,.inr ⟨rfl,rfl⟩⟩,Nat.le_of_ble_eq_true rfl⟩,[],rfl,rfl,?_,by push_cast -dsimp [zb,za,CLe,zd,hlen]⟩
   push_cast -dsimp [zb,za,CLe,zd]
   refine ⟨YV hbl,Jp hki hsi (by rw[hlen];exact h2) (by simp[hx,hbl];omega) ?_⟩
   rw[hlen,hi',List.take_length,List.drop_length,←hfl,hpre,List.take_left' (by simp[hx,hfl];omega)]
   simp
 ·have hne:i≠rows.length:=of_decide_eq_false h
  push_cast -dsimp
  refine ⟨⟨by omega,by omega⟩,br (fun h1=>?_) (fun h1=>?_)⟩
  ·have h1':(c:Int)<(rows.length:Int)+1:=of_decide_eq_true h1
   push_cast -dsimp
   (try simp only[lS]);repeat refine And.intro (by omega) ?_
   refine zjq ZL zl4 Zv rfl (by decide) rfl rfl (by rw[hbl];omega) (by omega) (by omega) (by omega) (by omega) (by omega) (fun c' B h2 h3 hBl hBt=>?_)
   have e1:((rows.length:Int)+1-(i:Int)).toNat=rows.length+1-i:=by omega
   rw[e1]at h2 ⊢
   have e2:i+(rows.length+1-i)=rows.length+1:=by omega
   rw[e2]at h2 ⊢
   push_cast -dsimp
   (try simp only[lS]);repeat refine And.intro (by omega) ?_
   refine Xg ZL Zv rfl rfl hxl (by rw[hBl];omega) (fun B1 hB1 hl1=>?_)
   rw[hBl]at hl1
   push_cast -dsimp
   (try simp only[lS]);repeat refine And.intro (by omega) ?_
   have hbp:=YY (c:=c) hk hi
   refine Xg ZL Zv (V2 rfl (by rw[hbl];omega)) rfl (by rw[hbp,List.length_drop,hfl];omega) (by rw[hl1];omega) (fun B2 hB2 hl2=>?_)
   rw[hl1]at hl2
   have hX:[x].flatten.take (min [x].length (rows.length+1-i)*6)=x:=by
    rw[List.length_singleton,Nat.min_eq_left (by omega),List.take_of_length_le (by omega)];simp
   rw[hX]at hB1
   rw[hbp,show min (rows.length-i) (rows.length-i)*6=(rows.length-i)*6 by omega,List.take_of_length_le (by rw[List.length_drop,hfl];omega),hB1]at hB2
   push_cast -dsimp
   refine ⟨_,_,_,⟨⟨rfl,c',by rw[hlen];exact h2,h3,.inr ⟨rfl,rfl⟩⟩,Nat.le_of_ble_eq_true rfl⟩,[],rfl,rfl,?_,by push_cast -dsimp [zb,za,CLe,zd,hlen]⟩
   push_cast -dsimp [zb,za,CLe,zd]
   refine ⟨YV hbl,Jp hki hsi (by rw[hlen];exact h2) hl2 ?_⟩
   rw[hlen,←XR hk,hB2]
   have hg:=Gr (cs:=B) (L:=rows.flatten) (X:=x) (p:=i*6) (q:=(i+1)*6) (by omega) (by omega) (by
    rw[hBt,List.drop_zero];unfold qo;rw[List.take_append_of_le_length (by omega)]) (by omega)
   rw[hfl,hx]at hg
   rw[←hg]
   congr 1;omega
  ·have h1':¬(c:Int)<(rows.length:Int)+1:=of_decide_eq_false h1
   push_cast -dsimp
   (try simp only[lS]);repeat refine And.intro (by omega) ?_
   refine zlA (ya (P:=Tryz.prog) (tR:=4) Tryz.func211 (by kernel_rfl) (by kernel_rfl) (by kernel_rfl) (by kernel_rfl) ZL Zv rfl (List.ne_nil_of_length_pos (by rw[hbl];omega)) (by simp) (by omega)) ?_
   push_cast -dsimp
   (try simp only[lS]);repeat refine And.intro (by omega) ?_
   have hbp:=YY (c:=c) hk hi
   refine Xg ZL Zv (V2 rfl (by rw[hbl];omega)) rfl (by simp[hbl];omega) (by rw[hbl];omega) (fun B1 hB1 hl1=>?_)
   rw[hbl]at hl1
   rw[List.take_take,Nat.min_eq_left (by omega),show min (rows.length+1-i) (rows.length-i)*6=(rows.length-i)*6 by omega,hbp]at hB1
   push_cast -dsimp
   (try simp only[lS]);repeat refine And.intro (by omega) ?_
   refine Xg ZL Zv rfl rfl hxl (by rw[hl1];omega) (fun B2 hB2 hl2=>?_)
   rw[hl1]at hl2
   have hX:[x].flatten.take (min [x].length (rows.length+1-i)*6)=x:=by
    rw[List.length_singleton,Nat.min_eq_left (by omega),List.take_of_length_le (by omega)];simp
   rw[hX,hB1]at hB2
   push_cast -dsimp
   have hcc:rows.length+1<=c:=by omega
   refine ⟨_,_,_,⟨⟨rfl,c,by rw[hlen];exact hcc,hcm,.inl ⟨rfl,rfl⟩⟩,Nat.le_of_ble_eq_true rfl⟩,[],rfl,rfl,?_,by push_cast -dsimp [zb,za,CLe,zd,hlen]⟩
   push_cast -dsimp [zb,za,CLe,zd]
   refine Jp hki hsi (by rw[hlen];exact hcc) hl2 ?_
   rw[hlen,←XR hk,hB2]
   have hg:=Us (cs:=qo 6 rows c) (L:=rows.flatten) (X:=x) (p:=i*6) (q:=(i+1)*6) (by omega) (by omega) hpre (by omega)
   rw[hfl,hx]at hg
   rw[←hg]
   congr 1;omega
theorem vU {e:Nat} (x:List C) (hx:x.length=6) (hsx:(x.all C.stayB)=true) :
  JI Tryz.prog G 177 [.sc (.slice none 0 0),.sc (.int .i64 0),.own 0 e 6 [x]] [] 1 (fun r bx' n=>n=0/\∃ c,1<=c/\c<=9223372036854775807/\r = .bs 0 0 6 1 c/\bx' = [qo 6 [x] c]):=by
 refine JI.of (fun j=>if j=1000000+22 then [true,true] else if j=11 then [false,false,false,false,false,false,false,false,true] else if j=15 then [false,false,false,false,false,false,false,false,true] else []) Tryz.func177 rfl (zi rfl) (by kernel_rfl) ?_;dsimp only[Tryz.f177]
 push_cast -dsimp
 refine Hq ZL Zv rfl rfl (by decide) rfl (by simp[hx]) (by simp) (by simp) (by simp) (fun c h1 h2=>?_)
 push_cast -dsimp
 refine ⟨_,_,_,⟨⟨rfl,c,h1,h2,rfl,rfl⟩,Nat.zero_le _⟩,[],rfl,rfl,?_,by push_cast -dsimp [zb,za,CLe,zd]⟩
 push_cast -dsimp [zb,za,CLe,zd]
 have:=zX (src:=[]) (n:=1) (zC (k:=6) (c:=c) (rows:=[x]) fun r hr=>by
  rw[List.mem_singleton.1 hr];exact hsx)
 unfold qo at this ⊢
 simpa using this
theorem ziy (rows:List (List C)) (i c:Nat) (hk:∀ r∈rows,r.length=6) (hs:jq rows) (hl:rows.length<=100000) (hi:i<rows.length) (hc:rows.length<=c) (hcm:c<=9223372036854775807) :
  Vd Tryz.prog G 236 [.bs 0 0 6 rows.length c,.sc (.int .i64 i),.sc (.int .i64 ((i:Int)+1))] [qo 6 rows c] 0 (.bs 0 0 6 (rows.length-1) c) [qo 6 (rows.take i++rows.drop (i+1)) c] 0:=by
 refine Vd.of (fun j=>if j=1000000+22 then [true,true] else if j=5 then [false,false,false,false,false,false,true,false] else []) Tryz.func236 rfl (zi rfl) (by kernel_rfl) (zi rfl) ?_;dsimp only[Tryz.f236]
 have h1:((i:Int)=(i:Int)+1)=False:=eq_false (by omega)
 have hbl:=Jq hk hc
 have hfl:=qm hk
 have hpre:(qo 6 rows c).take rows.flatten.length=rows.flatten:=by unfold qo;rw[List.take_left]
 have hlen:(rows.take i++rows.drop (i+1)).length=rows.length-1:=by simp;omega
 have hki:∀ r∈rows.take i++rows.drop (i+1),r.length=6:=fun r hr=>by
  rcases List.mem_append.1 hr with hr | hr
  ·exact hk r (List.mem_of_mem_take hr)
  ·exact hk r (List.mem_of_mem_drop hr)
 have hsi:jq (rows.take i++rows.drop (i+1)):=fun r hr=>by
  rcases List.mem_append.1 hr with hr | hr
  ·exact hs r (List.mem_of_mem_take hr)
  ·exact hs r (List.mem_of_mem_drop hr)
 have hbp:=YY (c:=c) (i:=i+1) hk hi
 push_cast -dsimp [h1]
 (try simp only[lS]);repeat refine And.intro (by omega) ?_
 have hxl:(List.drop ((i+1)*6) rows.flatten).length=(rows.length-(i+1))*6:=by rw[List.length_drop,hfl];omega
 refine Qy ZL Zv (V2 rfl (by rw[hbl];omega)) rfl (by decide) rfl (by rw[hbp,hxl]) rfl (by rw[hbl];omega) (by omega) (by omega) (by omega) (fun _=>?_) (fun h=>absurd h (by omega))
 rw[hbp]
 have e1:i+(rows.length-(i+1))=rows.length-1:=by omega
 rw[e1]
 generalize hB1:spl (qo 6 rows c) (0+i*6) (List.drop ((i+1)*6) rows.flatten)=B1
 have hl1:B1.length=c*6:=by rw[←hB1,Qb (by rw[hbl,hxl];omega),hbl]
 push_cast -dsimp
 (try simp only[lS]);repeat refine And.intro (by omega) ?_
 refine zkm ZL Zv rfl rfl (by decide) rfl (by rw[hl1];omega) (fun B2 Z hB2 hZ hl2=>?_)
 rw[hl1]at hl2
 push_cast -dsimp
 refine ⟨[],rfl,rfl,?_,by push_cast -dsimp [zb,za,CLe,zd]⟩
 push_cast -dsimp [zb,za,CLe,zd]
 refine Jp hki hsi (by rw[hlen];omega) hl2 ?_
 have hg:=zjC (cs:=qo 6 rows c) (L:=rows.flatten) (Z:=Z) (p:=i*6) (q:=(i+1)*6) (n:=(rows.length-1)*6) (by omega) (by omega) hpre (by omega) (by omega) (by rw[hZ];omega)
 rw[hlen,hB2,←hB1,List.flatten_append,←Ze hk,←UQ hk,←hg,Nat.zero_add]
end
end
section
structure zZ where
 name:List UInt8
 ino:Int
deriving DecidableEq,Inhabited
structure zy where
 ino:Int
 kind:Int
 links:Int
 data:List UInt8
 parent:Int
 es:List zZ
deriving DecidableEq,Inhabited
def qc (xs:List zy):Prop:=xs.Pairwise fun a b=>a.ino<b.ino
def zF (n:Int) (xs:List zy):Bool:=xs.any fun x=>x.ino==n
def ji (n:Int) (xs:List zy):Nat:=(xs.filter fun x=>decide (x.ino<n)).length
def qk (n:Int) (xs:List zy):List zy:=xs.filter fun x=>x.ino != n
def YU (n:Int) (xs:List zy):Option zy:=xs.find? fun x=>x.ino==n
def QX (x:zy):List zy->List zy
 | []=>[x]
 | y :: r=>if x.ino<y.ino then x :: y :: r else y :: QX x r
def qH (x:zy) (xs:List zy):List zy:=QX x (qk x.ino xs)
theorem Hw (n:Int):∀ (xs:List zy) (i:Nat),i<=xs.length->(∀ t (h:t<xs.length),t<i->xs[t].ino<n)->(∀ t (h:t<xs.length),i<=t->n<=xs[t].ino)->ji n xs=i
 | [],i,h,_,_=>by simp at h;simp[ji,h]
 | x :: r,0,_,_,h2=>by
  have hx:n<=x.ino:=h2 0 (by simp) (Nat.le_refl _)
  have ih:=Hw n r 0 (Nat.zero_le _) (fun t h h'=>absurd h' (Nat.not_lt_zero _)) (fun t h _=>h2 (t+1) (by simp;omega) (Nat.zero_le _))
  unfold ji at ih ⊢
  rw[List.filter_cons_of_neg (by simp;omega)]
  exact ih
 | x :: r,i+1,h,h1,h2=>by
  have hx:x.ino<n:=h1 0 (by simp) (Nat.succ_pos _)
  have ih:=Hw n r i (by simpa using h) (fun t h h'=>h1 (t+1) (by simp;omega) (by omega)) (fun t h h'=>h2 (t+1) (by simp;omega) (by omega))
  unfold ji at ih ⊢
  rw[List.filter_cons_of_pos (by simp;omega),List.length_cons,ih]
theorem zje (n:Int) (xs:List zy) (i:Nat) (hi:i<xs.length) (h1:∀ t (h:t<xs.length),t<i->xs[t].ino<n) (h2:n<=xs[i].ino) (hR:qc xs):zF n xs=decide (xs[i].ino=n):=by
 by_cases h:xs[i].ino=n
 ·rw[decide_eq_true h]
  exact List.any_eq_true.2 ⟨xs[i],List.getElem_mem hi,by simp[h]⟩
 ·rw[decide_eq_false h]
  apply Bool.eq_false_iff.2
  intro hh
  obtain ⟨y,hy,e⟩:=List.any_eq_true.1 hh
  obtain ⟨t,ht,rfl⟩:=List.getElem_of_mem hy
  have e:xs[t].ino=n:=by simpa using e
  rcases Nat.lt_trichotomy t i with h3 | h3 | h3
  ·have:=h1 t ht h3;omega
  ·subst h3;exact h e
  ·have:=(List.pairwise_iff_getElem.1 hR) i t hi ht h3;omega
theorem zdD (n:Int) (xs:List zy) (h1:∀ t (h:t<xs.length),xs[t].ino<n):zF n xs=false:=by
 apply Bool.eq_false_iff.2
 intro hh
 obtain ⟨y,hy,e⟩:=List.any_eq_true.1 hh
 obtain ⟨t,ht,rfl⟩:=List.getElem_of_mem hy
 have e:xs[t].ino=n:=by simpa using e
 have:=h1 t ht
 omega
theorem Hz {n:Int} {xs:List zy} (h:zF n xs=false):YU n xs=none:=by
 unfold YU zF at *
 rw[List.find?_eq_none]
 intro x hx hh
 rw[List.any_eq_false]at h
 exact h x hx hh
theorem u6 (n:Int) (xs:List zy) (hR:qc xs):∃ i,i<=xs.length/\(∀ t (h:t<xs.length),t<i->xs[t].ino<n)/\(∀ t (h:t<xs.length),i<=t->n<=xs[t].ino):=by
 induction xs with
 | nil=>exact ⟨0,Nat.le_refl _,fun t h=>absurd h (Nat.not_lt_zero _),fun t h=>absurd h (Nat.not_lt_zero _)⟩
 | cons x r ih =>
  by_cases hx:x.ino<n
  ·obtain ⟨i,h1,h2,h3⟩:=ih (List.pairwise_cons.1 hR).2
   refine ⟨i+1,by simp;omega,fun t h ht=>?_,fun t h ht=>?_⟩
   ·cases t with
    | zero=>exact hx
    | succ t=>exact h2 t (by simpa using h) (by omega)
   ·cases t with
    | zero=>omega
    | succ t=>exact h3 t (by simpa using h) (by omega)
  ·refine ⟨0,Nat.zero_le _,fun t h ht=>absurd ht (Nat.not_lt_zero _),fun t h _=>?_⟩
   cases t with
   | zero=>simp;omega
   | succ t =>
    have:=(List.pairwise_cons.1 hR).1 (r[t]'(by simpa using h)) (List.getElem_mem _)
    simp;omega
theorem zjR (n:Int) (xs:List zy):ji n xs<=xs.length:=List.length_filter_le _ _
theorem zez {n:Int} {xs:List zy} (hR:qc xs):(∀ t (h:t<xs.length),t<ji n xs->xs[t].ino<n)/\(∀ t (h:t<xs.length),ji n xs<=t->n<=xs[t].ino):=by
 obtain ⟨i,h1,h2,h3⟩:=u6 n xs hR
 rw[Hw n xs i h1 h2 h3]
 exact ⟨h2,h3⟩
theorem zhS {n:Int} {xs:List zy} (hR:qc xs) (h:zF n xs=true):∃ hlt:ji n xs<xs.length,xs[ji n xs].ino=n:=by
 obtain ⟨h2,h3⟩:=zez (n:=n) hR
 by_cases hlt:ji n xs<xs.length
 ·refine ⟨hlt,?_⟩
  have:=zje n xs _ hlt h2 (h3 _ hlt (Nat.le_refl _)) hR
  rw[h]at this
  exact of_decide_eq_true this.symm
 ·have:=zdD n xs (fun t h=>h2 t h (by omega))
  rw[h]at this;cases this
theorem HL {n:Int} {xs:List zy} (hR:qc xs) (h:zF n xs=true):∃ hlt:ji n xs<xs.length,YU n xs=some xs[ji n xs]:=by
 obtain ⟨hlt,he⟩:=zhS hR h
 refine ⟨hlt,?_⟩
 obtain ⟨h2,h3⟩:=zez (n:=n) hR
 unfold YU
 rw[List.find?_eq_some_iff_getElem]
 exact ⟨by simp[he],_,hlt,rfl,fun j hj=>by have:=h2 j (by omega) hj;simp;omega⟩
theorem jI {y:zy} {r:List zy}:qc (y :: r)↔(∀ z∈r,y.ino<z.ino)/\qc r:=List.pairwise_cons
theorem Xv {n:Int} {y:zy} {r:List zy} (h:y.ino<n):ji n (y :: r)=ji n r+1:=by
 unfold ji
 rw[List.filter_cons_of_pos (by simpa using h),List.length_cons]
theorem Ur {n:Int} {xs:List zy} (h:∀ z∈xs,n<=z.ino):ji n xs=0:=by
 unfold ji
 rw[List.length_eq_zero_iff,List.filter_eq_nil_iff]
 intro z hz
 have:=h z hz
 simp;omega
theorem XW {n:Int} {xs:List zy} (h:zF n xs=false):qk n xs=xs:=by
 unfold qk
 rw[List.filter_eq_self]
 intro z hz
 unfold zF at h
 rw[List.any_eq_false]at h
 have:=h z hz
 simpa using this
theorem Qo {n:Int} {y:zy} {r:List zy} (h:y.ino<n):zF n (y :: r)=zF n r:=by
 unfold zF
 rw[List.any_cons,show (y.ino==n)=false by rw[beq_eq_false_iff_ne];omega,Bool.false_or]
theorem ZV {n:Int} {xs:List zy} (h:∀ z∈xs,n<z.ino):zF n xs=false:=by
 unfold zF
 rw[List.any_eq_false]
 intro z hz
 have:=h z hz
 simp;omega
theorem Jy {n:Int} {y:zy} {r:List zy} (h:y.ino≠n):qk n (y :: r)=y :: qk n r:=by
 unfold qk
 rw[List.filter_cons_of_pos (by simpa using h)]
theorem j7 {n:Int} {y:zy} {r:List zy} (h:y.ino=n):qk n (y :: r)=qk n r:=by
 unfold qk
 rw[List.filter_cons_of_neg (by simpa using h)]
theorem vj {n:Int}:∀ {xs:List zy},qc xs->zF n xs=true->xs.take (ji n xs)++xs.drop (ji n xs+1)=qk n xs
 | [],_,h=>by cases h
 | y :: r,hR,h=>by
  obtain ⟨h1,h2⟩:=jI.1 hR
  by_cases hy:y.ino<n
  ·rw[Xv hy,List.take_succ_cons,List.drop_succ_cons,List.cons_append,vj h2 (by rwa [Qo hy]at h),Jy (by omega)]
  ·have hr0:ji n (y :: r)=0:=Ur fun z hz=>by
    rcases List.mem_cons.1 hz with rfl | hz
    ·omega
    ·have:=h1 z hz;omega
   by_cases he:y.ino=n
   ·rw[hr0,j7 he,XW (ZV fun z hz=>by have:=h1 z hz;omega)];rfl
   ·exfalso
    rw[ZV fun z hz=>by
     rcases List.mem_cons.1 hz with rfl | hz
     ·omega
     ·have:=h1 z hz;omega]at h
    cases h
theorem znM {x y:zy} {r:List zy} (h:y.ino<x.ino):QX x (y :: r)=y :: QX x r:=by
 rw[QX,if_neg (by omega)]
theorem zep {x:zy} {xs:List zy} (h:∀ z∈xs,x.ino<z.ino):QX x xs=x :: xs:=by
 cases xs with
 | nil=>rfl
 | cons y r=>rw[QX,if_pos (h y List.mem_cons_self)]
theorem Qt {x y:zy} {r:List zy} (h:y.ino<x.ino):qH x (y :: r)=y :: qH x r:=by
 unfold qH
 rw[Jy (by omega),znM h]
theorem MY {x:zy}:∀ {xs:List zy},qc xs->zF x.ino xs=true->xs.set (ji x.ino xs) x=qH x xs
 | [],_,h=>by cases h
 | y :: r,hR,h=>by
  obtain ⟨h1,h2⟩:=jI.1 hR
  by_cases hy:y.ino<x.ino
  ·rw[Xv hy,List.set_cons_succ,MY h2 (by rwa [Qo hy]at h),Qt hy]
  ·have hr0:ji x.ino (y :: r)=0:=Ur fun z hz=>by
    rcases List.mem_cons.1 hz with rfl | hz
    ·omega
    ·have:=h1 z hz;omega
   by_cases he:y.ino=x.ino
   ·unfold qH
    rw[hr0,j7 he,XW (ZV fun z hz=>by have:=h1 z hz;omega),zep fun z hz=>by have:=h1 z hz;omega];rfl
   ·exfalso
    rw[ZV fun z hz=>by
     rcases List.mem_cons.1 hz with rfl | hz
     ·omega
     ·have:=h1 z hz;omega]at h
    cases h
theorem zbO {x:zy}:∀ {xs:List zy},qc xs->zF x.ino xs=false->xs.take (ji x.ino xs)++x :: xs.drop (ji x.ino xs)=qH x xs
 | [],_,_=>rfl
 | y :: r,hR,h=>by
  obtain ⟨h1,h2⟩:=jI.1 hR
  by_cases hy:y.ino<x.ino
  ·rw[Xv hy,List.take_succ_cons,List.drop_succ_cons,List.cons_append,zbO h2 (by rwa [Qo hy]at h),Qt hy]
  ·have hne:y.ino≠x.ino:=by
    intro e
    unfold zF at h
    rw[List.any_cons,e]at h
    simp at h
   have hr0:ji x.ino (y :: r)=0:=Ur fun z hz=>by
    rcases List.mem_cons.1 hz with rfl | hz
    ·omega
    ·have:=h1 z hz;omega
   unfold qH
   rw[hr0,XW h,zep fun z hz=>by
    rcases List.mem_cons.1 hz with rfl | hz
    ·omega
    ·have:=h1 z hz;omega]
   rfl
theorem yU {x:zy}:∀ {xs:List zy} {z:zy},z∈QX x xs↔z=x∨z∈xs
 | [],z=>by simp[QX]
 | y :: r,z=>by
  rw[QX]
  split
  ·simp
  ·rw[List.mem_cons,yU,List.mem_cons]
   constructor
   ·rintro (h | h | h)<;>simp[h]
   ·rintro (h | h | h)<;>simp[h]
theorem kr {n:Int} {xs:List zy} (h:qc xs):qc (qk n xs):=List.Pairwise.filter _ h
theorem Nx {x:zy}:∀ {xs:List zy},qc xs->(∀ z∈xs,z.ino≠x.ino)->qc (QX x xs)
 | [],_,_=>by simp[QX,qc]
 | y :: r,h,hne=>by
  obtain ⟨h1,h2⟩:=jI.1 h
  have hy:=hne y List.mem_cons_self
  rw[QX]
  split
  ·next hlt =>
   refine jI.2 ⟨fun z hz=>?_,h⟩
   rcases List.mem_cons.1 hz with rfl | hz
   ·exact hlt
   ·have:=h1 z hz;omega
  ·next hlt =>
   refine jI.2 ⟨fun z hz=>?_,Nx h2 fun z hz=>hne z (List.mem_cons_of_mem _ hz)⟩
   rcases yU.1 hz with rfl | hz
   ·omega
   ·exact h1 z hz
theorem qd {x:zy} {xs:List zy} (h:qc xs):qc (qH x xs):=Nx (kr h) fun z hz=>by
 have:=(List.mem_filter.1 hz).2
 simpa using this
theorem zdB {x:zy}:∀ {xs:List zy},(QX x xs).length=xs.length+1
 | []=>rfl
 | y :: r=>by
  rw[QX]
  split
  ·rfl
  ·rw[List.length_cons,zdB,List.length_cons]
theorem Q9 {n:Int} {xs:List zy}:(qk n xs).length<=xs.length:=List.length_filter_le _ _
theorem zer {x:zy} {xs:List zy}:(qH x xs).length<=xs.length+1:=by
 unfold qH
 rw[zdB]
 have:=Q9 (n:=x.ino) (xs:=xs)
 omega
end
section
open CA CB
open Go.RowKit
abbrev Gz (e:zZ):List C:=[.str e.name,.sc (.int .i64 e.ino)]
abbrev zG (es:List zZ):List (List C):=es.map Gz
abbrev JU (x:zy):List C:=[.sc (.int .i64 x.ino),.sc (.int .i64 x.kind),.sc (.int .i64 x.links),.str x.data,.sc (.int .i64 x.parent),.sl 2 (zG x.es)]
abbrev zp (xs:List zy):List (List C):=xs.map JU
structure FsV where
 maxI:Int
 maxB:Int
 next:Int
 xs:List zy
deriving DecidableEq,Inhabited
abbrev fsC (f:FsV):List C:=[.sc (.int .i64 f.maxI),.sc (.int .i64 f.maxB),.sc (.int .i64 f.next),.sl 6 (zp f.xs)]
theorem qS (xs:List zy) (i:Nat) (h:i<xs.length):(zp xs)[i]?=some (JU xs[i]):=by simp[List.getElem?_map,List.getElem?_eq_getElem h]
theorem j0 (xs:List zZ) (i:Nat) (h:i<xs.length):(zG xs)[i]?=some (Gz xs[i]):=by simp[List.getElem?_map,List.getElem?_eq_getElem h]
def zj7:zy:=⟨0,0,0,[],0,[]⟩
def zg (n:Int) (xs:List zy):zy:=(YU n xs).getD zj7
def VH (a b:Int):Int:=if a<b then -1 else if b<a then 1 else 0
section
variable {G:zm}
theorem zce (a:Int):Fun Tryz.prog G 237 [.sc (.int .i64 a)] (.sc (.bool false)) 0:=by
 refine Fun.of (fun _=>[]) Tryz.func237 rfl (zi rfl) (by kernel_rfl) ?_;dsimp only[Tryz.f237]
 push_cast -dsimp
 exact ⟨[],rfl,rfl,by push_cast -dsimp [zb,za,CLe,zd]⟩
theorem xQ (a b:Int):Fun Tryz.prog G 210 [.sc (.int .i64 a),.sc (.int .i64 b)] (.sc (.int .i64 (VH a b))) 0:=by
 refine Fun.of (fun _=>[]) Tryz.func210 rfl (zi rfl) (by kernel_rfl) ?_;dsimp only[Tryz.f210]
 push_cast -dsimp
 refine cl (zce a) ?_;push_cast -dsimp
 refine cl (zce b) ?_;push_cast -dsimp
 refine br (fun h=>?_) (fun h=>?_)
 ·have h:=of_decide_eq_true h
  push_cast -dsimp
  exact ⟨[],rfl,rfl,by (push_cast -dsimp [zb,za,CLe,zd];simp[VH,h])⟩
 ·have h:=of_decide_eq_false h
  push_cast -dsimp
  refine br (fun h1=>?_) (fun h1=>?_)
  ·have h1:=of_decide_eq_true h1
   push_cast -dsimp
   exact ⟨[],rfl,rfl,by (push_cast -dsimp [zb,za,CLe,zd];simp[VH,h,h1])⟩
  ·have h1:=of_decide_eq_false h1
   push_cast -dsimp
   exact ⟨[],rfl,rfl,by (push_cast -dsimp [zb,za,CLe,zd];simp[VH,h,h1])⟩
theorem zbS (x:zy) (n:Int):Fun Tryz.prog G 225 [.agg (JU x),.sc (.int .i64 n)] (.sc (.int .i64 (VH x.ino n))) 0:=by
 refine Fun.of (fun _=>[]) Tryz.func225 rfl (zi rfl) (by kernel_rfl) ?_;dsimp only[Tryz.f225]
 push_cast -dsimp
 refine cl (xQ x.ino n) ?_;push_cast -dsimp
 exact ⟨[],rfl,rfl,by push_cast -dsimp [zb,za,CLe,zd]⟩
theorem yT (xs:List zy) (n:Int) (hl:xs.length<=100000) (hR:qc xs) :
  Fun Tryz.prog G 208 [.sl 6 (zp xs),.sc (.int .i64 n),.clo (.func 225) [] []] (.tup [.sc (.int .i64 (ji n xs:Nat)),.sc (.bool (zF n xs))]) 0:=by
 refine Fun.of (fun _=>[]) Tryz.func208 rfl (zi rfl) (by kernel_rfl) ?_;dsimp only[Tryz.f208]
 push_cast -dsimp
 refine loop (fun p:Nat×Nat=>⟨[(0,.sl 6 (zp xs)),(1,.sc (.int .i64 n)),(2,.clo (.func 225) [] []),(8,.sc (.int .i64 (xs.length:Nat))),(9,.sc (.int .i64 p.1)),(10,.sc (.int .i64 p.2))],[],0,0⟩)
  (fun p=>p.1<=p.2/\p.2<=xs.length/\(∀ t (h:t<xs.length),t<p.1->xs[t].ino<n)/\∀ t (h:t<xs.length),p.2<=t->n<=xs[t].ino) (fun p=>p.2-p.1) (0,xs.length) ⟨Nat.zero_le _,Nat.le_refl _,fun t _ h=>by (simp at h),fun t h h'=>by (dsimp only at h';omega)⟩ ?_ ?_
 ·exact zH.mk [] rfl rfl (Nat.le_refl _) rfl (by push_cast -dsimp [zb,za,CLe,zd,List.length_map]) (by push_cast -dsimp [zb,za,CLe,zd])
 ·rintro ⟨i,j⟩ ⟨h1,h2,h3,h4⟩
  dsimp only at h1 h2 h3 h4 ⊢
  by_cases h:i<j
  ·obtain ⟨m,hm⟩:∃ m,m=(i+j) / 2:=⟨_,rfl⟩
   have hmi:((i:Int)+(j:Int)) / 2=(m:Int):=by omega
   have hml:m<xs.length:=by omega
   have hat:=qS xs m hml
   push_cast -dsimp [h,hmi,hat]
   (try simp only[lS]);repeat refine And.intro (by omega) ?_
   refine cl (zbS xs[m] n) ?_;push_cast -dsimp
   by_cases hc:xs[m].ino<n
   ·have hcv:VH xs[m].ino n = -1:=by simp[VH,hc]
    push_cast -dsimp [hcv]
    (try simp only[lS]);repeat refine And.intro (by omega) ?_
    refine ⟨(m+1,j),⟨by omega,h2,fun t ht hlt=>?_,h4⟩,by dsimp only;omega,zH.mk [] rfl rfl (Nat.le_refl _) rfl (by push_cast -dsimp [zb,za,CLe,zd]) (by push_cast -dsimp [zb,za,CLe,zd])⟩
    dsimp only at hlt
    rcases Nat.lt_or_ge t m with q | q
    ·have:=(List.pairwise_iff_getElem.1 hR) t m ht hml q;omega
    ·have:t=m:=by omega
     subst this;exact hc
   ·have hcv:(VH xs[m].ino n<0)=False:=eq_false (by unfold VH;rw[if_neg hc];split<;>omega)
    push_cast -dsimp [hcv]
    (try simp only[lS]);repeat refine And.intro (by omega) ?_
    refine ⟨(i,m),⟨by omega,by omega,h3,fun t ht hge=>?_⟩,by dsimp only;omega,zH.mk [] rfl rfl (Nat.le_refl _) rfl (by push_cast -dsimp [zb,za,CLe,zd]) (by push_cast -dsimp [zb,za,CLe,zd])⟩
    dsimp only at hge
    rcases Nat.lt_or_ge m t with q | q
    ·have:=(List.pairwise_iff_getElem.1 hR) m t hml ht q;omega
    ·have:t=m:=by omega
     subst this;omega
  ·have hij:i=j:=by omega
   subst hij
   have hrk:=Hw n xs i h2 h3 h4
   push_cast -dsimp [h]
   refine br (fun hx=>?_) (fun hx=>?_)
   ·have hx:i<xs.length:=by simpa using hx
    have hat:=qS xs i hx
    have hh:=zje n xs i hx h3 (h4 i hx (Nat.le_refl _)) hR
    push_cast -dsimp [hx,hat]
    (try simp only[lS]);repeat refine And.intro (by omega) ?_
    refine cl (zbS xs[i] n) ?_;push_cast -dsimp
    have hcv:decide (VH xs[i].ino n=0)=zF n xs:=by
     rw[hh]
     have:=h4 i hx (Nat.le_refl _)
     unfold VH
     rw[if_neg (by omega)]
     split
     ·rw[decide_eq_false (by omega),decide_eq_false (by omega)]
     ·rw[decide_eq_true (by rfl),decide_eq_true (by omega)]
    push_cast -dsimp [hcv]
    exact ⟨[],rfl,rfl,by push_cast -dsimp [zb,za,CLe,zd,hrk]⟩
   ·have hx:¬i<xs.length:=by simpa using hx
    have hh:=zdD n xs fun t ht=>h3 t ht (by omega)
    push_cast -dsimp [hx]
    exact ⟨[],rfl,rfl,by push_cast -dsimp [zb,za,CLe,zd,hrk,hh]⟩
theorem zdC (f:FsV) (n:Int) (hl:f.xs.length<=100000) (hR:qc f.xs):Fun Tryz.prog G 193 [.agg (fsC f),.sc (.int .i64 n)] (.tup [.sc (.int .i64 (ji n f.xs:Nat)),.sc (.bool (zF n f.xs))]) 0:=by
 refine Fun.of (fun _=>[]) Tryz.func193 rfl (zi rfl) (by kernel_rfl) ?_;dsimp only[Tryz.f193]
 push_cast -dsimp
 refine cl (yT f.xs n hl hR) ?_;push_cast -dsimp
 exact ⟨[],rfl,rfl,by push_cast -dsimp [zb,za,CLe,zd]⟩
end
end
section
open Go.RowKit Go.ChangeMaps Go.ChangeShapes Go.WideShapes Go.Deep Go.Joins
def GZ (W:World):Env:=⟨W,fun _ _=>False,fun _=>False⟩
theorem Fun.answers {P:Program} {G:zm} {f:FuncId} {args:List C} {u:Value} {n:Nat} (h:Fun P G f args (.sc u) n) {W:World} {vs:List Value} (hg:Xe G (GZ W)) (ha:zu (GZ W) zI args vs) :
  Calls P f vs.toArray W fun e w'=>e = .returned u/\Below W.heap.size W w':=by
 refine (h.2 (GZ W) vs hg ha).mono ?_
 rintro e w' ⟨v,R',L',rfl,rfl,st,hr⟩
 rw[zo]at hr
 subst hr
 exact ⟨rfl,st.below⟩
section
variable {H:Type} {enc:TypeId×Value->H} {P:Program} {W:World}
def Opn (enc:TypeId×Value->H) (P:Program) (W:World) (t:TypeId) (Q:C->Prop):Prop:=
 ∀ (fuel:Nat) (cs:List Value) (x:DataW H×List MemPlace),DataW.trod enc P W 0 (fun _=>true) true fuel t cs=some x->∃ v c,cs = [v]/\Q c/\Rep (GZ W) zI c v/\v.oneCell'=true
def jd (enc:TypeId×Value->H) (P:Program) (W:World) (t:TypeId) (k:Nat) (Q:List C->Prop):Prop:=
 ∀ (fuel:Nat) (cs:List Value) (x:DataW H×List MemPlace),DataW.trod enc P W 0 (fun _=>true) true fuel t cs=some x ->
  ∃ row,Q row/\row.length=k/\cs.length=k/\∀ (j:Nat) c v,row[j]?=some c->cs[j]?=some v->Rep (GZ W) zI c v/\v.oneCell'=true
theorem Opn.int {t:TypeId} {k:IntKind} (ht:P.underlying t=some (.int k)):Opn enc P W t fun c=>∃ n,c = .sc (.int k n)/\(Lit.int k n).wf=true:=fun fuel cs x h=>by
 obtain ⟨n,rfl,_,hw⟩:=DataW.trod_int ht h
 exact ⟨_,_,rfl,⟨n,rfl,hw⟩,zo.2 rfl,rfl⟩
theorem Opn.bool {t:TypeId} (ht:P.underlying t=some .bool):Opn enc P W t fun c=>∃ b,c = .sc (.bool b):=fun fuel cs x h=>by
 obtain ⟨n,rfl,_⟩:=DataW.trod_bool ht h
 exact ⟨_,_,rfl,⟨n,rfl⟩,zo.2 rfl,rfl⟩
theorem Opn.str {t:TypeId} (ht:P.underlying t=some .string):Opn enc P W t fun c=>∃ l:List UInt8,c = .str l/\l.length<=maxLen:=fun fuel cs x h=>by
 obtain ⟨s,rfl,_,hs⟩:=DataW.trod_string ht h
 exact ⟨_,_,rfl,⟨s.data.toList,rfl,by rw[Array.length_toList];exact hs⟩,zU.2 (by cases s;simp),rfl⟩
theorem jd.one {t:TypeId} {Q:C->Prop} (h:Opn enc P W t Q):jd enc P W t 1 fun row=>∃ c,row = [c]/\Q c:=fun fuel cs x hx=>by
 obtain ⟨v,c,rfl,hq,hr,ho⟩:=h fuel cs x hx
 refine ⟨[c],⟨c,rfl,hq⟩,rfl,rfl,fun j c' v' h1 h2=>?_⟩
 cases j with
 | zero=>cases h1;cases h2;exact ⟨hr,ho⟩
 | succ j=>cases h1
theorem Qm {α:Type} {Q:Nat->α->Prop}:∀ n:Nat,(∀ i,i<n->∃ x,Q i x)->∃ l:List α,l.length=n/\∀ i (h:i<l.length),Q i l[i]
 | 0,_=>⟨[],rfl,fun i h=>absurd h (Nat.not_lt_zero _)⟩
 | n+1,h=>by
  obtain ⟨l,hl,hq⟩:=Qm n fun i hi=>h i (by omega)
  obtain ⟨x,hx⟩:=h n (by omega)
  refine ⟨l++[x],by simp[hl],fun i hi=>?_⟩
  rcases Nat.lt_or_ge i n with h1 | h1
  ·rw[List.getElem_append_left (by omega)];exact hq i (by omega)
  ·have:i=n:=by simp[hl]at hi;omega
   subst this
   rw[List.getElem_append_right (by omega)]
   simpa [hl] using hx
theorem jd.struct {t:TypeId} {fs:Array Field} {Qs:Nat->C->Prop} (hs:P.underlying t=some (.struct fs)) (hone:oneCellFields P fs=true) (hC:P.cellsOf t=fs.size)
  (h:∀ (j:Nat) f,fs[j]?=some f->Opn enc P W f.type (Qs j)):jd enc P W t fs.size fun row=>row.length=fs.size/\∀ (j:Nat) c,row[j]?=some c->Qs j c:=fun fuel cs x hx=>by
 obtain ⟨ys,n',hn',hy,hlen,hyl,hf⟩:=DataW.trod_struct hs hx
 rw[hC]at hlen
 obtain ⟨row,hl,hq⟩:=Qm (Q:=fun j (c:C)=>Qs j c/\∃ v,cs[j]?=some v/\Rep (GZ W) zI c v/\v.oneCell'=true) fs.size (fun j hj=>by
  have hfj:fs[j]?=some fs[j]:=Array.getElem?_eq_getElem hj
  obtain ⟨ho,hk⟩:=hone_of hone j _ hfj
  have h1:=hf j _ hfj
  rw[ho,hk]at h1
  have hone':(cs.drop j).take 1 = [cs[j]'(by omega)]:=by
   rw[List.drop_eq_getElem_cons (by omega)]
   rfl
  rw[hone',List.getElem?_eq_getElem (by omega)]at h1
  obtain ⟨v,c,e,hq,hr,hoc⟩:=h j _ hfj _ _ _ h1
  cases e
  exact ⟨c,hq,_,List.getElem?_eq_getElem (by omega),hr,hoc⟩)
 refine ⟨row,⟨hl,fun j c hj=>?_⟩,hl,hlen,fun j c v h1 h2=>?_⟩
 ·obtain ⟨hj',rfl⟩:=List.getElem?_eq_some_iff.1 hj
  exact (hq j hj').1
 ·obtain ⟨hj',rfl⟩:=List.getElem?_eq_some_iff.1 h1
  obtain ⟨_,v',e,hr,ho⟩:=hq j hj'
  rw[h2]at e;cases e
  exact ⟨hr,ho⟩
theorem Opn.slice {t e:TypeId} {k:Nat} {Q:List C->Prop} (ht:P.underlying t=some (.slice e)) (hC:P.cellsOf e=k) (hk:0<k) (h:jd enc P W e k Q):Opn enc P W t fun c=>∃ rows,c = .sl k rows/\rows.length<=maxLen/\∀ r∈rows,Q r:=fun fuel cs x hx=>by
 rcases open_slice ht hx with h0 | ⟨a,len,cap,m,n,D,Pl,hcs,hb,hl,hm,hmm,hx,hi⟩
 ·exact ⟨_,.sl k [],h0.1,⟨[],rfl,Nat.zero_le _,fun r hr=>by cases hr⟩,kE.2 ⟨none,0,rfl,Nat.le_refl _,Nat.zero_le _,.inl rfl⟩,rfl⟩
 ·simp only[if_true]at hmm
  subst hmm
  obtain ⟨rows,hrl,hq⟩:=Qm (Q:=fun i (row:List C)=>Q row/\row.length=k/\∀ (j:Nat) c,row[j]?=some c->∃ v,W.cell? (a.add (i*k+j))=some v/\Rep (GZ W) zI c v/\v.oneCell'=true) len (fun i hlt=>by
   obtain ⟨cs',hc,ht'⟩:=hi i (by omega)
   rw[hC]at hc
   obtain ⟨row,hq,hl1,hl2,hr⟩:=h _ _ _ ht'
   obtain ⟨_,hcl,hat⟩:=World.cells?_some hc
   refine ⟨row,hq,hl1,fun j c hj=>?_⟩
   have hjl:j<k:=by have:=(List.getElem?_eq_some_iff.1 hj).1;omega
   have hv:cs'[j]?=some (cs'[j]'(by omega)):=List.getElem?_eq_getElem (by omega)
   obtain ⟨hr1,hr2⟩:=hr j c _ hj hv
   refine ⟨_,?_,hr1,hr2⟩
   rw[←Go.Deep.add_add,hat j hjl,hv])
  refine ⟨_,.sl k rows,hcs,⟨rows,rfl,by omega,fun r hr=>?_⟩,?_,rfl⟩
  ·obtain ⟨i,hi',rfl⟩:=List.getElem_of_mem hr
   exact (hq i hi').1
  ·refine kE.2 ⟨some a,m,by rw[hrl],by omega,by omega,?_⟩
   by_cases h0:rows = []
   ·exact .inl h0
   ·have hpos:0<rows.length:=List.length_pos_iff.2 h0
    obtain ⟨b,off,spot⟩:=a
    obtain ⟨_,hl0,h00⟩:=hq 0 hpos
    obtain ⟨v0,hc0,_⟩:=h00 0 ((rows[0]'hpos)[0]'(by omega)) (List.getElem?_eq_getElem _)
    have hspot:spot=none:=by simpa [Addr.add] using World.cell?_spot hc0
    subst hspot
    refine .inr ⟨b,off,rfl,qP fun i row hrow=>?_⟩
    obtain ⟨hi',rfl⟩:=List.getElem?_eq_some_iff.1 hrow
    obtain ⟨_,hlr,hcr⟩:=hq i hi'
    refine ⟨hlr,z8 fun j c hj=>?_⟩
    obtain ⟨v,h1,h2,h3⟩:=hcr j c hj
    rw[Addr.add_lit]at h1
    exact ⟨v,by rw[Nat.add_assoc];exact h1,fun hf=>hf,h2,h3⟩
theorem Opn.arg {r:Reach} {b0:Nat} {t:TypeId} {Q:C->Prop} {v:Value} {d:DataW H} {p:List MemPlace} (h:Opn enc P W t Q) (hv:v.cells = #[v]) (hd:DataW.Trod enc P W 0 (fun _=>true) true t v d p):∃ c,Q c/\Rep (GZ W) zI c v:=by
 obtain ⟨fuel,hf⟩:=hd
 rw[hv]at hf
 obtain ⟨v',c,e,hq,hr,_⟩:=h _ _ _ hf
 cases e
 exact ⟨c,hq,hr⟩
theorem jd.arg {r:Reach} {b0:Nat} {t:TypeId} {fs:Array Field} {k:Nat} {Q:List C->Prop} {v:Value} {d:DataW H} {p:List MemPlace} (h:jd enc P W t k Q) (hs:P.underlying t=some (.struct fs)) (hval:Value.okWide P W r b0 t v)
  (hd:DataW.Trod enc P W 0 (fun _=>true) true t v d p):∃ row,Q row/\Rep (GZ W) zI (.agg row) v:=by
 obtain ⟨cs,rfl,hsz⟩:=okWide_struct hs hval
 obtain ⟨fuel,hf⟩:=hd
 obtain ⟨row,hq,h1,h2,hr⟩:=h _ _ _ hf
 refine ⟨row,hq,jL.2 ⟨cs,rfl,J8 ?_ fun i c v hc hv=>(hr i c v hc hv).1⟩⟩
 have:cs.toList.length=k:=h2
 omega
end
end
section
open Go.RowKit Go.ChangeMaps Go.ChangeShapes Go.WideShapes Go.Deep Go.Joins
theorem H1 {α:Type} {f:α->List C} {q:α->Prop}:∀ {rows:List (List C)},(∀ r∈rows,∃ a,r=f a/\q a)->∃ xs:List α,rows=xs.map f/\∀ x∈xs,q x
 | [],_=>⟨[],rfl,fun x h=>by cases h⟩
 | r :: rows,h=>by
  obtain ⟨xs,rfl,hq⟩:=H1 fun r' hr=>h r' (List.mem_cons_of_mem _ hr)
  obtain ⟨o,rfl,ho⟩:=h r List.mem_cons_self
  exact ⟨o :: xs,rfl,fun x hx=>by
   rcases List.mem_cons.1 hx with rfl | hx
   ·exact ho
   ·exact hq x hx⟩
section
variable {H:Type} {enc:TypeId×Value->H} {W:World}
theorem zlE:jd enc Tryz.prog W 108 2 fun row=>∃ o:zZ,row=Gz o/\o.name.length<=maxLen:=fun fuel cs x hx=>by
 obtain ⟨row,⟨hl,hq⟩,h1,h2,h3⟩:=jd.struct (W:=W) (enc:=enc) (Qs:=fun j c=>match j with | 0=>∃ l:List UInt8,c = .str l/\l.length<=maxLen | 1=>∃ n,c = .sc (.int .i64 n)/\(Lit.int .i64 n).wf=true | _=>True) Tryz.underlying108 (by kernel_rfl) (by kernel_rfl) (fun j f hj=>by
  match j,hj with
  | 0,hj=>cases hj;exact Opn.str Tryz.underlying9
  | 1,hj=>cases hj;exact Opn.int Tryz.underlying3
  | j+2,hj=>simp at hj) fuel cs x hx
 match row,h1,hq,h3 with
 | [c0,c1],_,hq,h3 =>
  obtain ⟨a,rfl,ha⟩:=hq 0 c0 rfl
  obtain ⟨k,rfl,_⟩:=hq 1 c1 rfl
  exact ⟨_,⟨⟨a,k⟩,rfl,ha⟩,rfl,h2,h3⟩
theorem zhV:Opn enc Tryz.prog W 73 fun c=>∃ xs:List zZ,c = .sl 2 (zG xs)/\xs.length<=maxLen/\∀ x∈xs,x.name.length<=maxLen:=fun fuel cs x hx=>by
 obtain ⟨v,c,rfl,⟨rows,rfl,hl,hr⟩,h1,h2⟩:=Opn.slice (W:=W) (enc:=enc) Tryz.underlying73 (show Tryz.prog.cellsOf 108=2 by kernel_rfl) (by decide) zlE fuel cs x hx
 obtain ⟨xs,rfl,hq⟩:=H1 hr
 exact ⟨v,_,rfl,⟨xs,rfl,by simpa using hl,hq⟩,h1,h2⟩
def zdj (x:zy):Prop:=x.data.length<=maxLen/\x.es.length<=maxLen/\∀ e∈x.es,e.name.length<=maxLen
theorem zfp:jd enc Tryz.prog W 75 6 fun row=>∃ o:zy,row=JU o/\zdj o:=fun fuel cs x hx=>by
 obtain ⟨row,⟨hl,hq⟩,h1,h2,h3⟩:=jd.struct (W:=W) (enc:=enc) (Qs:=fun j c=>match j with | 0=>∃ n,c = .sc (.int .i64 n)/\(Lit.int .i64 n).wf=true | 1=>∃ n,c = .sc (.int .i64 n)/\(Lit.int .i64 n).wf=true | 2=>∃ n,c = .sc (.int .i64 n)/\(Lit.int .i64 n).wf=true | 3=>∃ l:List UInt8,c = .str l/\l.length<=maxLen | 4=>∃ n,c = .sc (.int .i64 n)/\(Lit.int .i64 n).wf=true | 5=>∃ xs:List zZ,c = .sl 2 (zG xs)/\xs.length<=maxLen/\∀ x∈xs,x.name.length<=maxLen | _=>True) Tryz.underlying75 (by kernel_rfl) (by kernel_rfl) (fun j f hj=>by
  match j,hj with
  | 0,hj=>cases hj;exact Opn.int Tryz.underlying3
  | 1,hj=>cases hj;exact Opn.int Tryz.underlying3
  | 2,hj=>cases hj;exact Opn.int Tryz.underlying3
  | 3,hj=>cases hj;exact Opn.str Tryz.underlying9
  | 4,hj=>cases hj;exact Opn.int Tryz.underlying3
  | 5,hj=>cases hj;exact zhV
  | j+6,hj=>simp at hj) fuel cs x hx
 match row,h1,hq,h3 with
 | [c0,c1,c2,c3,c4,c5],_,hq,h3 =>
  obtain ⟨a,rfl,_⟩:=hq 0 c0 rfl
  obtain ⟨b,rfl,_⟩:=hq 1 c1 rfl
  obtain ⟨c,rfl,_⟩:=hq 2 c2 rfl
  obtain ⟨d,rfl,hd⟩:=hq 3 c3 rfl
  obtain ⟨e,rfl,_⟩:=hq 4 c4 rfl
  obtain ⟨f,rfl,hf⟩:=hq 5 c5 rfl
  exact ⟨_,⟨⟨a,b,c,d,e,f⟩,rfl,hd,hf⟩,rfl,h2,h3⟩
theorem vm:Opn enc Tryz.prog W 22 fun c=>∃ xs:List zy,c = .sl 6 (zp xs)/\xs.length<=maxLen/\∀ x∈xs,zdj x:=fun fuel cs x hx=>by
 obtain ⟨v,c,rfl,⟨rows,rfl,hl,hr⟩,h1,h2⟩:=Opn.slice (W:=W) (enc:=enc) Tryz.underlying22 (show Tryz.prog.cellsOf 75=6 by kernel_rfl) (by decide) zfp fuel cs x hx
 obtain ⟨xs,rfl,hq⟩:=H1 hr
 exact ⟨v,_,rfl,⟨xs,rfl,by simpa using hl,hq⟩,h1,h2⟩
theorem znd:jd enc Tryz.prog W 24 4 fun row=>∃ f:FsV,row=fsC f/\f.xs.length<=maxLen/\∀ x∈f.xs,zdj x:=fun fuel cs x hx=>by
 obtain ⟨row,⟨hl,hq⟩,h1,h2,h3⟩:=jd.struct (W:=W) (enc:=enc) (Qs:=fun j c=>match j with | 0=>∃ n,c = .sc (.int .i64 n)/\(Lit.int .i64 n).wf=true | 1=>∃ n,c = .sc (.int .i64 n)/\(Lit.int .i64 n).wf=true | 2=>∃ n,c = .sc (.int .i64 n)/\(Lit.int .i64 n).wf=true | 3=>∃ xs:List zy,c = .sl 6 (zp xs)/\xs.length<=maxLen/\∀ x∈xs,zdj x | _=>True) Tryz.underlying24 (by kernel_rfl) (by kernel_rfl) (fun j f hj=>by
  match j,hj with
  | 0,hj=>cases hj;exact Opn.int Tryz.underlying3
  | 1,hj=>cases hj;exact Opn.int Tryz.underlying3
  | 2,hj=>cases hj;exact Opn.int Tryz.underlying3
  | 3,hj=>cases hj;exact vm
  | j+4,hj=>simp at hj) fuel cs x hx
 match row,h1,hq,h3 with
 | [c0,c1,c2,c3],_,hq,h3 =>
  obtain ⟨a,rfl,_⟩:=hq 0 c0 rfl
  obtain ⟨b,rfl,_⟩:=hq 1 c1 rfl
  obtain ⟨c,rfl,_⟩:=hq 2 c2 rfl
  obtain ⟨d,rfl,hd⟩:=hq 3 c3 rfl
  exact ⟨_,⟨⟨a,b,c,d⟩,rfl,hd⟩,rfl,h2,h3⟩
end
end
section
open Go
structure zi4 (κ:Type) where
 lt:κ->κ->Bool
 irr:∀ a,lt a a=false
 tr:∀ {a b c},lt a b=true->lt b c=true->lt a c=true
 tot:∀ {a b},lt a b=false->lt b a=false->a=b
theorem VQ:∀ a:List UInt8,Op.bytesLess a a=false
 | []=>rfl
 | c :: a=>by
  have h:¬c<c:=by simp
  simp[Op.bytesLess,VQ a]
theorem Gj:∀ {a b c:List UInt8},Op.bytesLess a b=true->Op.bytesLess b c=true->Op.bytesLess a c=true
 | _,[],_,h,_=>by unfold Op.bytesLess at h;cases h
 | [],y :: b,[],_,h2=>by unfold Op.bytesLess at h2;cases h2
 | [],y :: b,z :: c,_,_=>rfl
 | x :: a,y :: b,[],_,h2=>by unfold Op.bytesLess at h2;cases h2
 | x :: a,y :: b,z :: c,h1,h2=>by
  unfold Op.bytesLess at h1 h2 ⊢
  simp only[Bool.or_eq_true,Bool.and_eq_true,decide_eq_true_eq,beq_iff_eq]at h1 h2 ⊢
  rcases h1 with h1 | ⟨rfl,h1⟩
  ·rcases h2 with h2 | ⟨rfl,h2⟩
   ·exact .inl (UInt8.lt_trans h1 h2)
   ·exact .inl h1
  ·rcases h2 with h2 | ⟨rfl,h2⟩
   ·exact .inl h2
   ·exact .inr ⟨rfl,Gj h1 h2⟩
theorem Ug:∀ {a b:List UInt8},Op.bytesLess a b=false->Op.bytesLess b a=false->a=b
 | [],[],_,_=>rfl
 | [],y :: b,h,_=>by unfold Op.bytesLess at h;cases h
 | x :: a,[],_,h=>by unfold Op.bytesLess at h;cases h
 | x :: a,y :: b,h1,h2=>by
  unfold Op.bytesLess at h1 h2
  simp only[Bool.or_eq_false_iff,decide_eq_false_iff_not,Bool.and_eq_false_iff,beq_eq_false_iff_ne]at h1 h2
  obtain ⟨g1,g2⟩:=h1
  obtain ⟨g3,g4⟩:=h2
  have hxy:x=y:=by
   apply UInt8.toNat_inj.1
   have e1:¬x.toNat<y.toNat:=fun h=>g1 (UInt8.lt_iff_toNat_lt.2 h)
   have e2:¬y.toNat<x.toNat:=fun h=>g3 (UInt8.lt_iff_toNat_lt.2 h)
   omega
  subst hxy
  have h3:Op.bytesLess a b=false:=by rcases g2 with g | g;exact absurd rfl g;exact g
  have h4:Op.bytesLess b a=false:=by rcases g4 with g | g;exact absurd rfl g;exact g
  rw[Ug h3 h4]
theorem zfa:∀ a b:List UInt8,(Lib.compareBytes a b<0)=(Op.bytesLess a b=true)
 | [],[]=>by simp[Lib.compareBytes,Op.bytesLess]
 | [],_ :: _=>by simp[Lib.compareBytes,Op.bytesLess]
 | _ :: _,[]=>by simp[Lib.compareBytes,Op.bytesLess]
 | a :: x,b :: y=>by
  unfold Lib.compareBytes Op.bytesLess
  by_cases h1:a<b
  ·simp[h1]
  ·rw[if_neg h1]
   by_cases h2:b<a
   ·have:a≠b:=fun e=>by subst e;exact h1 h2
    simp[h1,h2,this]
   ·have e:a=b:=by
     apply UInt8.toNat_inj.1
     have e1:¬a.toNat<b.toNat:=fun h=>h1 (UInt8.lt_iff_toNat_lt.2 h)
     have e2:¬b.toNat<a.toNat:=fun h=>h2 (UInt8.lt_iff_toNat_lt.2 h)
     omega
    rw[if_neg h2,zfa x y]
    subst e
    simp[h1]
theorem zfH:∀ a b:List UInt8,(Lib.compareBytes a b=0)=(a=b)
 | [],[]=>by simp[Lib.compareBytes]
 | [],_ :: _=>by simp[Lib.compareBytes]
 | _ :: _,[]=>by simp[Lib.compareBytes]
 | a :: x,b :: y=>by
  unfold Lib.compareBytes
  by_cases h1:a<b
  ·have:a≠b:=fun e=>by subst e;simp at h1
   simp[h1,this]
  ·rw[if_neg h1]
   by_cases h2:b<a
   ·have:a≠b:=fun e=>by subst e;exact h1 h2
    simp[h2,this]
   ·have e:a=b:=by
     apply UInt8.toNat_inj.1
     have e1:¬a.toNat<b.toNat:=fun h=>h1 (UInt8.lt_iff_toNat_lt.2 h)
     have e2:¬b.toNat<a.toNat:=fun h=>h2 (UInt8.lt_iff_toNat_lt.2 h)
     omega
    rw[if_neg h2,zfH x y]
    subst e
    simp
def js:zi4 (List UInt8):=⟨Op.bytesLess,VQ,Gj,Ug⟩
def jD:zi4 Int:=⟨fun a b=>decide (a<b),fun a=>by simp,fun h1 h2=>by simp at h1 h2 ⊢;omega,fun h1 h2=>by simp at h1 h2;omega⟩
section
variable {α κ:Type} [DecidableEq κ] (o:zi4 κ) (key:α->κ)
def qF (xs:List α):Prop:=xs.Pairwise fun a b=>o.lt (key a) (key b)=true
def ql (n:κ) (xs:List α):Nat:=(xs.filter fun x=>o.lt (key x) n).length
def JO (n:κ) (xs:List α):Bool:=xs.any fun x=>decide (key x=n)
def Ji (n:κ) (xs:List α):Option α:=xs.find? fun x=>decide (key x=n)
def JE (n:κ) (xs:List α):List α:=xs.filter fun x=>!decide (key x=n)
def Xa (x:α):List α->List α
 | []=>[x]
 | y :: r=>if o.lt (key x) (key y) then x :: y :: r else y :: Xa x r
variable {o:zi4 κ} {key:α->κ}
theorem zi4.asym {a b:κ} (h:o.lt a b=true):o.lt b a=false:=by
 cases h':o.lt b a with
 | false=>rfl
 | true=>have:=o.tr h h';rw[o.irr]at this;cases this
theorem Qx (n:κ):∀ (xs:List α) (i:Nat),i<=xs.length->(∀ t (h:t<xs.length),t<i->o.lt (key xs[t]) n=true)->(∀ t (h:t<xs.length),i<=t->o.lt (key xs[t]) n=false)->ql o key n xs=i
 | [],i,h,_,_=>by simp at h;simp[ql,h]
 | x :: r,0,_,_,h2=>by
  have hx:o.lt (key x) n=false:=h2 0 (by simp) (Nat.le_refl _)
  have ih:=Qx n r 0 (Nat.zero_le _) (fun t h h'=>absurd h' (Nat.not_lt_zero _)) (fun t h _=>h2 (t+1) (by simp;omega) (Nat.zero_le _))
  unfold ql at ih ⊢
  rw[List.filter_cons_of_neg (by simp[hx])]
  exact ih
 | x :: r,i+1,h,h1,h2=>by
  have hx:o.lt (key x) n=true:=h1 0 (by simp) (Nat.succ_pos _)
  have ih:=Qx n r i (by simpa using h) (fun t h h'=>h1 (t+1) (by simp;omega) (by omega)) (fun t h h'=>h2 (t+1) (by simp;omega) (by omega))
  unfold ql at ih ⊢
  rw[List.filter_cons_of_pos (by simp[hx]),List.length_cons,ih]
theorem QH (n:κ) (xs:List α):ql o key n xs<=xs.length:=List.length_filter_le _ _
theorem Jm {y:α} {r:List α}:qF o key (y :: r)↔(∀ z∈r,o.lt (key y) (key z)=true)/\qF o key r:=List.pairwise_cons
theorem zbj {n:κ} {y:α} {r:List α} (h:o.lt (key y) n=true):ql o key n (y :: r)=ql o key n r+1:=by
 unfold ql
 rw[List.filter_cons_of_pos (by simpa using h),List.length_cons]
theorem zas {n:κ} {y:α} {r:List α} (hR:qF o key (y :: r)) (h:o.lt (key y) n=false):ql o key n (y :: r)=0:=by
 obtain ⟨h1,_⟩:=Jm.1 hR
 unfold ql
 rw[List.length_eq_zero_iff,List.filter_eq_nil_iff]
 intro z hz
 rcases List.mem_cons.1 hz with rfl | hz
 ·simp[h]
 ·have h3:=h1 z hz
  cases h4:o.lt (key z) n with
  | false=>simp
  | true=>have:=o.tr h3 h4;rw[h]at this;cases this
theorem zcd {n:κ} {y:α} {r:List α} (hR:qF o key (y :: r)) (h:o.lt (key y) n=false):JO key n (y :: r)=decide (key y=n):=by
 obtain ⟨h1,_⟩:=Jm.1 hR
 unfold JO
 rw[List.any_cons]
 have:(r.any fun x=>decide (key x=n))=false:=List.any_eq_false.2 fun z hz=>by
  have h3:=h1 z hz
  simp only[decide_eq_true_eq]
  rintro rfl
  rw[h3]at h;cases h
 rw[this,Bool.or_false]
theorem Vo (n:κ):∀ {xs:List α},qF o key xs->(∀ t (h:t<xs.length),t<ql o key n xs->o.lt (key xs[t]) n=true)/\(∀ t (h:t<xs.length),ql o key n xs<=t->o.lt (key xs[t]) n=false) /\
  (JO key n xs=true->∃ h:ql o key n xs<xs.length,key xs[ql o key n xs]=n/\Ji key n xs=some xs[ql o key n xs]/\JE key n xs=xs.take (ql o key n xs)++xs.drop (ql o key n xs+1)/\∀ x,key x=n->Xa o key x (JE key n xs)=xs.set (ql o key n xs) x) /\
  (JO key n xs=false->Ji key n xs=none/\JE key n xs=xs/\∀ x,key x=n->Xa o key x xs=xs.take (ql o key n xs)++x :: xs.drop (ql o key n xs))
 | [],_=>⟨fun t h=>absurd h (Nat.not_lt_zero _),fun t h=>absurd h (Nat.not_lt_zero _),fun h=>(by cases h),fun _=>⟨rfl,rfl,fun x _=>rfl⟩⟩
 | y :: r,hR=>by
  obtain ⟨h1,h2⟩:=Jm.1 hR
  obtain ⟨i1,i2,i3,i4⟩:=Vo n h2
  cases hy:o.lt (key y) n with
  | true =>
   have hne:key y≠n:=by rintro rfl;rw[o.irr]at hy;cases hy
   have hrk:=zbj (r:=r) hy
   have hhas:JO key n (y :: r)=JO key n r:=by unfold JO;rw[List.any_cons,decide_eq_false hne,Bool.false_or]
   have hfind:Ji key n (y :: r)=Ji key n r:=by unfold Ji;rw[List.find?_cons_of_neg (by simpa using hne)]
   have hless:JE key n (y :: r)=y :: JE key n r:=by unfold JE;rw[List.filter_cons_of_pos (by simpa using hne)]
   have hput:∀ x q,key x=n->Xa o key x (y :: q)=y :: Xa o key x q:=fun x q hx=>by
    rw[Xa,hx,zi4.asym hy];rfl
   rw[hhas,hfind,hless,hrk]
   refine ⟨fun t h ht=>?_,fun t h ht=>?_,fun h=>?_,fun h=>?_⟩
   ·cases t with
    | zero=>exact hy
    | succ t=>exact i1 t (by simpa using h) (by omega)
   ·cases t with
    | zero=>omega
    | succ t=>exact i2 t (by simpa using h) (by omega)
   ·obtain ⟨g,g1,g2,g3,g4⟩:=i3 h
    refine ⟨by simp;omega,by simpa using g1,by simpa using g2,by rw[g3];simp,fun x hx=>?_⟩
    rw[hput x _ hx,g4 x hx];simp
   ·obtain ⟨g1,g2,g3⟩:=i4 h
    refine ⟨g1,by rw[g2],fun x hx=>?_⟩
    rw[hput x _ hx,g3 x hx];simp
  | false =>
   have hrk:=zas hR hy
   have hhas:=zcd hR hy
   rw[hrk,hhas]
   have hno:∀ z∈r,key z≠n:=fun z hz=>by
    have h3:=h1 z hz
    rintro rfl
    rw[h3]at hy;cases hy
   have hlr:JE key n r=r:=by
    unfold JE
    rw[List.filter_eq_self]
    intro z hz
    simpa using hno z hz
   refine ⟨fun t h ht=>absurd ht (Nat.not_lt_zero _),fun t h _=>?_,fun h=>?_,fun h=>?_⟩
   ·cases t with
    | zero=>exact hy
    | succ t =>
     have h3:=h1 (r[t]'(by simpa using h)) (List.getElem_mem _)
     show o.lt (key (r[t]'(by simpa using h))) n=false
     cases h4:o.lt (key (r[t]'(by simpa using h))) n with
     | false=>rfl
     | true=>have:=o.tr h3 h4;rw[hy]at this;cases this
   ·have hk:key y=n:=of_decide_eq_true h
    have hl:JE key n (y :: r)=r:=by
     show (y :: r).filter (fun x=>!decide (key x=n))=r
     rw[List.filter_cons_of_neg (by simpa using hk)];exact hlr
    refine ⟨by simp,hk,by unfold Ji;rw[List.find?_cons_of_pos (by simpa using hk)];rfl,by rw[hl];simp,fun x hx=>?_⟩
    rw[hl]
    cases r with
    | nil=>rfl
    | cons z q =>
     have h3:=h1 z List.mem_cons_self
     rw[hk]at h3
     rw[Xa,hx,h3];rfl
   ·have hk:key y≠n:=of_decide_eq_false h
    have hny:o.lt n (key y)=true:=by
     cases h5:o.lt n (key y) with
     | true=>rfl
     | false=>exact absurd (o.tot hy h5) hk
    refine ⟨?_,?_,fun x hx=>?_⟩
    ·unfold Ji
     rw[List.find?_eq_none]
     intro z hz
     rcases List.mem_cons.1 hz with rfl | hz
     ·simpa using hk
     ·simpa using hno z hz
    ·show (y :: r).filter (fun x=>!decide (key x=n))=y :: r
     rw[List.filter_cons_of_pos (by simpa using hk)]
     exact congrArg _ hlr
    ·rw[Xa,hx,hny];rfl
theorem x7 (n:κ) {xs:List α} (hR:qF o key xs) {i:Nat} (hi:ql o key n xs=i) (h:i<xs.length):JO key n xs=decide (key xs[i]=n):=by
 subst hi
 obtain ⟨_,_,h3,_⟩:=Vo n hR
 cases hh:JO key n xs with
 | true=>obtain ⟨_,g,_⟩:=h3 hh;rw[decide_eq_true g]
 | false =>
  symm
  rw[decide_eq_false_iff_not]
  intro e
  unfold JO at hh
  rw[List.any_eq_false]at hh
  exact hh _ (List.getElem_mem h) (decide_eq_true e)
theorem H6 (n:κ) {xs:List α} (hR:qF o key xs) (hi:ql o key n xs=xs.length):JO key n xs=false:=by
 obtain ⟨_,_,h3,_⟩:=Vo n hR
 cases hh:JO key n xs with
 | false=>rfl
 | true=>obtain ⟨g,_⟩:=h3 hh;omega
theorem UR (n:κ) {xs:List α} (h:qF o key xs):qF o key (JE key n xs):=h.filter _
theorem QT {x y:α}:∀ {xs:List α},y∈Xa o key x xs↔y=x∨y∈xs
 | []=>by simp[Xa]
 | z :: r=>by
  unfold Xa
  split
  ·simp
  ·rw[List.mem_cons,QT,List.mem_cons]
   constructor
   ·rintro (h | h | h)
    ·exact .inr (.inl h)
    ·exact .inl h
    ·exact .inr (.inr h)
   ·rintro (h | h | h)
    ·exact .inr (.inl h)
    ·exact .inl h
    ·exact .inr (.inr h)
theorem VV {n:κ} {y:α} {xs:List α}:y∈JE key n xs↔y∈xs/\key y≠n:=by unfold JE;simp
theorem Zo {x:α}:∀ {xs:List α},qF o key xs->(∀ y∈xs,key y≠key x)->qF o key (Xa o key x xs)
 | [],_,_=>by unfold Xa qF;simp
 | y :: r,hR,hne=>by
  obtain ⟨h1,h2⟩:=Jm.1 hR
  unfold Xa
  cases hxy:o.lt (key x) (key y) with
  | true =>
   rw[if_pos rfl,Jm]
   refine ⟨fun z hz=>?_,hR⟩
   rcases List.mem_cons.1 hz with rfl | hz
   ·exact hxy
   ·exact o.tr hxy (h1 z hz)
  | false =>
   rw[if_neg (by simp),Jm]
   have hyx:o.lt (key y) (key x)=true:=by
    cases h:o.lt (key y) (key x) with
    | true=>rfl
    | false=>exact absurd (o.tot h hxy) (hne y List.mem_cons_self)
   refine ⟨fun z hz=>?_,Zo h2 fun z hz=>hne z (List.mem_cons_of_mem _ hz)⟩
   rcases QT.1 hz with rfl | hz
   ·exact hyx
   ·exact h1 z hz
theorem VO {x:α} {xs:List α} (h:qF o key xs):qF o key (Xa o key x (JE key (key x) xs)):=
 Zo (UR _ h) fun y hy=>(VV.1 hy).2
theorem YE (n:κ) (xs:List α):(JE key n xs).length<=xs.length:=List.length_filter_le _ _
theorem VF (x:α):∀ xs:List α,(Xa o key x xs).length=xs.length+1
 | []=>rfl
 | y :: r=>by
  unfold Xa
  split
  ·rfl
  ·rw[List.length_cons,VF x r];rfl
end
end
section
open Go.RowKit
section
variable {G:zm}
theorem zaN (rows:List (List C)) (hk:∀ r∈rows,r.length=2) (hs:jq rows) (hl:rows.length<=100000) :
  JI Tryz.prog G 232 [.sl 2 rows] [] 0 (zfx 2 rows):=by
 refine JI.bySlice (fun h=>?_) (fun h a cap hr=>?_)
 ·refine JI.of (fun i=>if i=1000000+73 then [true,true] else []) Tryz.func232 rfl (zi rfl) (by kernel_rfl) ?_;dsimp only[Tryz.f232]
  push_cast -dsimp
  refine ⟨h,Qy Qa JZ rfl rfl (by decide) rfl (qm hk) rfl (Nat.le_refl _) (Nat.le_refl _) (by omega) (by omega) (fun hc=>absurd hc ?_) (fun _ c hc hm=>?_)⟩
  ·have:=List.length_pos_iff.2 h;omega
  ·push_cast -dsimp
   rw[Nat.zero_add]at hc
   refine ⟨_,_,_,⟨⟨rfl,.inl ⟨h,c,hc,hm,rfl,rfl⟩⟩,Nat.zero_le _⟩,[],rfl,rfl,?_,by push_cast -dsimp [zb,za,CLe,zd]⟩
   push_cast -dsimp [zb,za,CLe,zd]
   exact zX (zC hs)
 ·cases a with
  | none =>
   refine JI.of (fun i=>if i=1000000+73 then [true,true] else []) Tryz.func232 rfl (zi rfl) (by kernel_rfl) ?_;dsimp only[Tryz.f232]
   push_cast -dsimp [hr,Option.isNone_none]
   exact ⟨_,_,_,⟨⟨rfl,.inr ⟨h,.inl ⟨rfl,rfl⟩⟩⟩,Nat.zero_le _⟩,[],rfl,rfl,by push_cast -dsimp [zb,za,CLe,zd],by push_cast -dsimp [zb,za,CLe,zd]⟩
  | some a =>
   refine JI.of (fun i=>if i=1000000+73 then [true,true] else []) Tryz.func232 rfl (zi rfl) (by kernel_rfl) ?_;dsimp only[Tryz.f232]
   push_cast -dsimp [hr,Option.isNone_some]
   have hx:C.xs? 2 [[]] (C.sc (.slice (some a) 0 cap))=some (0,[]):=by simp[C.xs?,hr]
   refine Qy Qa JZ hx rfl (by decide) rfl rfl rfl (Nat.le_refl _) (Nat.le_refl _) (by omega) (by omega) (fun _=>?_) (fun hc=>absurd hc (by omega))
   push_cast -dsimp
   exact ⟨_,_,_,⟨⟨rfl,.inr ⟨h,.inr ⟨rfl,rfl⟩⟩⟩,Nat.zero_le _⟩,[],rfl,rfl,by (push_cast -dsimp [zb,za,CLe,zd];simp[spl,zd]),by push_cast -dsimp [zb,za,CLe,zd]⟩
theorem uo (rows:List (List C)) (x:List C) (i c e:Nat) (hk:∀ r∈rows,r.length=2) (hx:x.length=2) (hs:jq rows) (hsx:(x.all C.stayB)=true) (hl:rows.length<=100000) (hi:i<=rows.length) (hc:rows.length<=c) (hcm:c<=9223372036854775807) :
  JI Tryz.prog G 233 [.bs 0 0 2 rows.length c,.sc (.int .i64 i),.own 0 e 2 [x]] [qo 2 rows c] 1 (zoF 2 (c*2) (rows.take i++x :: rows.drop i)):=by
 refine JI.of (fun j=>if j=1000000+73 then [true,true] else if j=11 then [false,false,false,false,false,false,false,false,true] else if j=15 then [false,false,false,false,false,false,false,false,true] else []) Tryz.func233 rfl (zi rfl) (by kernel_rfl) ?_;dsimp only[Tryz.f233]
 push_cast -dsimp
 have hlen:(rows.take i++x :: rows.drop i).length=rows.length+1:=by simp;omega
 have hki:∀ r∈rows.take i++x :: rows.drop i,r.length=2:=fun r hr=>by
  rcases List.mem_append.1 hr with hr | hr
  ·exact hk r (List.mem_of_mem_take hr)
  ·rcases List.mem_cons.1 hr with rfl | hr
   ·exact hx
   ·exact hk r (List.mem_of_mem_drop hr)
 have hsi:jq (rows.take i++x :: rows.drop i):=fun r hr=>by
  rcases List.mem_append.1 hr with hr | hr
  ·exact hs r (List.mem_of_mem_take hr)
  ·rcases List.mem_cons.1 hr with rfl | hr
   ·exact hsx
   ·exact hs r (List.mem_of_mem_drop hr)
 have hbl:=Jq hk hc
 have hfl:=qm hk
 have hxl:[x].flatten.length=1*2:=by simp[hx]
 have hpre:(qo 2 rows c).take rows.flatten.length=rows.flatten:=by unfold qo;rw[List.take_left]
 refine ⟨hc,⟨by omega,hi⟩,br (fun h=>?_) (fun h=>?_)⟩
 ·push_cast -dsimp
  refine Qy Qa JZ rfl rfl (by decide) rfl hxl rfl (by rw[hbl];omega) hc (by simp;omega) (by simp;omega) (fun h1=>?_) (fun h1 c' h2 h3=>?_)
  ·push_cast -dsimp
   have hi':i=rows.length:=of_decide_eq_true h
   refine ⟨_,_,_,⟨⟨rfl,c,by rw[hlen];exact h1,hcm,.inl ⟨rfl,rfl⟩⟩,Nat.le_refl _⟩,[],rfl,rfl,?_,by push_cast -dsimp [zb,za,CLe,zd,hlen]⟩
   push_cast -dsimp [zb,za,CLe,zd]
   have h6:rows.length*2+2<=c*2:=by have:rows.length+1<=c:=h1;omega
   refine Jp hki hsi (by rw[hlen];exact h1) (by rw[Qb (by rw[hbl,hx];exact h6),hbl]) ?_
   rw[hlen,hi',List.take_length,List.drop_length]
   unfold spl
   rw[←hfl,hpre,List.take_left' (by simp[hx,hfl];omega)]
   simp
  ·push_cast -dsimp
   have hi':i=rows.length:=of_decide_eq_true h
   have h2':rows.length+1<=c':=h2
   refine ⟨_,_,_,⟨⟨rfl,c',by rw[hlen];exact h2,h3,.inr ⟨rfl,rfl⟩⟩,Nat.le_of_ble_eq_true rfl⟩,[],rfl,rfl,?_,by push_cast -dsimp [zb,za,CLe,zd,hlen]⟩
   push_cast -dsimp [zb,za,CLe,zd]
   refine ⟨YV hbl,Jp hki hsi (by rw[hlen];exact h2) (by simp[hx,hbl];omega) ?_⟩
   rw[hlen,hi',List.take_length,List.drop_length,←hfl,hpre,List.take_left' (by simp[hx,hfl];omega)]
   simp
 ·have hne:i≠rows.length:=of_decide_eq_false h
  push_cast -dsimp
  refine ⟨⟨by omega,by omega⟩,br (fun h1=>?_) (fun h1=>?_)⟩
  ·have h1':(c:Int)<(rows.length:Int)+1:=of_decide_eq_true h1
   push_cast -dsimp
   (try simp only[lS]);repeat refine And.intro (by omega) ?_
   refine zjq Qa zl4 JZ rfl (by decide) rfl rfl (by rw[hbl];omega) (by omega) (by omega) (by omega) (by omega) (by omega) (fun c' B h2 h3 hBl hBt=>?_)
   have e1:((rows.length:Int)+1-(i:Int)).toNat=rows.length+1-i:=by omega
   rw[e1]at h2 ⊢
   have e2:i+(rows.length+1-i)=rows.length+1:=by omega
   rw[e2]at h2 ⊢
   push_cast -dsimp
   (try simp only[lS]);repeat refine And.intro (by omega) ?_
   refine Xg Qa JZ rfl rfl hxl (by rw[hBl];omega) (fun B1 hB1 hl1=>?_)
   rw[hBl]at hl1
   push_cast -dsimp
   (try simp only[lS]);repeat refine And.intro (by omega) ?_
   have hbp:=YY (c:=c) hk hi
   refine Xg Qa JZ (V2 rfl (by rw[hbl];omega)) rfl (by rw[hbp,List.length_drop,hfl];omega) (by rw[hl1];omega) (fun B2 hB2 hl2=>?_)
   rw[hl1]at hl2
   have hX:[x].flatten.take (min [x].length (rows.length+1-i)*2)=x:=by
    rw[List.length_singleton,Nat.min_eq_left (by omega),List.take_of_length_le (by omega)];simp
   rw[hX]at hB1
   rw[hbp,show min (rows.length-i) (rows.length-i)*2=(rows.length-i)*2 by omega,List.take_of_length_le (by rw[List.length_drop,hfl];omega),hB1]at hB2
   push_cast -dsimp
   refine ⟨_,_,_,⟨⟨rfl,c',by rw[hlen];exact h2,h3,.inr ⟨rfl,rfl⟩⟩,Nat.le_of_ble_eq_true rfl⟩,[],rfl,rfl,?_,by push_cast -dsimp [zb,za,CLe,zd,hlen]⟩
   push_cast -dsimp [zb,za,CLe,zd]
   refine ⟨YV hbl,Jp hki hsi (by rw[hlen];exact h2) hl2 ?_⟩
   rw[hlen,←XR hk,hB2]
   have hg:=Gr (cs:=B) (L:=rows.flatten) (X:=x) (p:=i*2) (q:=(i+1)*2) (by omega) (by omega) (by
    rw[hBt,List.drop_zero];unfold qo;rw[List.take_append_of_le_length (by omega)]) (by omega)
   rw[hfl,hx]at hg
   rw[←hg]
   congr 1;omega
  ·have h1':¬(c:Int)<(rows.length:Int)+1:=of_decide_eq_false h1
   push_cast -dsimp
   (try simp only[lS]);repeat refine And.intro (by omega) ?_
   refine zlA (ya (P:=Tryz.prog) (tR:=4) Tryz.func254 (by kernel_rfl) (by kernel_rfl) (by kernel_rfl) (by kernel_rfl) Qa JZ rfl (List.ne_nil_of_length_pos (by rw[hbl];omega)) (by simp) (by omega)) ?_
   push_cast -dsimp
   (try simp only[lS]);repeat refine And.intro (by omega) ?_
   have hbp:=YY (c:=c) hk hi
   refine Xg Qa JZ (V2 rfl (by rw[hbl];omega)) rfl (by simp[hbl];omega) (by rw[hbl];omega) (fun B1 hB1 hl1=>?_)
   rw[hbl]at hl1
   rw[List.take_take,Nat.min_eq_left (by omega),show min (rows.length+1-i) (rows.length-i)*2=(rows.length-i)*2 by omega,hbp]at hB1
   push_cast -dsimp
   (try simp only[lS]);repeat refine And.intro (by omega) ?_
   refine Xg Qa JZ rfl rfl hxl (by rw[hl1];omega) (fun B2 hB2 hl2=>?_)
   rw[hl1]at hl2
   have hX:[x].flatten.take (min [x].length (rows.length+1-i)*2)=x:=by
    rw[List.length_singleton,Nat.min_eq_left (by omega),List.take_of_length_le (by omega)];simp
   rw[hX,hB1]at hB2
   push_cast -dsimp
   have hcc:rows.length+1<=c:=by omega
   refine ⟨_,_,_,⟨⟨rfl,c,by rw[hlen];exact hcc,hcm,.inl ⟨rfl,rfl⟩⟩,Nat.le_of_ble_eq_true rfl⟩,[],rfl,rfl,?_,by push_cast -dsimp [zb,za,CLe,zd,hlen]⟩
   push_cast -dsimp [zb,za,CLe,zd]
   refine Jp hki hsi (by rw[hlen];exact hcc) hl2 ?_
   rw[hlen,←XR hk,hB2]
   have hg:=Us (cs:=qo 2 rows c) (L:=rows.flatten) (X:=x) (p:=i*2) (q:=(i+1)*2) (by omega) (by omega) hpre (by omega)
   rw[hfl,hx]at hg
   rw[←hg]
   congr 1;omega
theorem zge {e:Nat} (x:List C) (hx:x.length=2) (hsx:(x.all C.stayB)=true) :
  JI Tryz.prog G 233 [.sc (.slice none 0 0),.sc (.int .i64 0),.own 0 e 2 [x]] [] 1 (fun r bx' n=>n=0/\∃ c,1<=c/\c<=9223372036854775807/\r = .bs 0 0 2 1 c/\bx' = [qo 2 [x] c]):=by
 refine JI.of (fun j=>if j=1000000+73 then [true,true] else if j=11 then [false,false,false,false,false,false,false,false,true] else if j=15 then [false,false,false,false,false,false,false,false,true] else []) Tryz.func233 rfl (zi rfl) (by kernel_rfl) ?_;dsimp only[Tryz.f233]
 push_cast -dsimp
 refine Hq Qa JZ rfl rfl (by decide) rfl (by simp[hx]) (by simp) (by simp) (by simp) (fun c h1 h2=>?_)
 push_cast -dsimp
 refine ⟨_,_,_,⟨⟨rfl,c,h1,h2,rfl,rfl⟩,Nat.zero_le _⟩,[],rfl,rfl,?_,by push_cast -dsimp [zb,za,CLe,zd]⟩
 push_cast -dsimp [zb,za,CLe,zd]
 have:=zX (src:=[]) (n:=1) (zC (k:=2) (c:=c) (rows:=[x]) fun r hr=>by
  rw[List.mem_singleton.1 hr];exact hsx)
 unfold qo at this ⊢
 simpa using this
end
end
end Go.Proofs.YtiblepfehggicaaGreatDoor.Vcg
section
namespace Go.Proofs
open Go.Shelf
def Tryz.lays169_ren:Go.Shelf.Ren:=⟨fun | 169=>119 | n=>n,fun | 70=>156 | 9=>9 | 0=>0 | 72=>159 | 37=>157 | 127=>199 | 3=>3 | 5=>5 | n=>n,fun | n=>n⟩
theorem Tryz.lays169:Go.Proofs.Lays.n169 Tryz.prog Tryz.lays169_ren:={
 mixed:=by kernel_rfl
 f169:=Tryz.func119.trans (congrArg some (by kernel_rfl))
 t0:=Tryz.underlying0
 a0:=Tryz.isAgg0
 z0:=Tryz.sizeOf0
 v0:=Tryz.zeroValue0
 t3:=Tryz.underlying3
 a3:=Tryz.isAgg3
 z3:=Tryz.sizeOf3
 v3:=Tryz.zeroValue3
 t9:=Tryz.underlying9
 a9:=Tryz.isAgg9
 z9:=Tryz.sizeOf9
 v9:=Tryz.zeroValue9
 t37:=Tryz.underlying157
 a37:=Tryz.isAgg157
 z37:=Tryz.sizeOf157
 v37:=Tryz.zeroValue157
 t70:=Tryz.underlying156
 a70:=Tryz.isAgg156
 z70:=Tryz.sizeOf156
 v70:=Tryz.zeroValue156
 t72:=Tryz.underlying159
 a72:=Tryz.isAgg159
 z72:=Tryz.sizeOf159
 v72:=Tryz.zeroValue159
 t127:=Tryz.underlying199
 a127:=Tryz.isAgg199
 z127:=Tryz.sizeOf199
 v127:=Tryz.zeroValue199 }
theorem Tryz.Builder_Extra_169:Builder.Extra Tryz.prog Tryz.lays169_ren:={
 sizeBuilder:=by kernel_rfl
 liesBuilder:=by kernel_rfl
 t5:=Tryz.underlying5
 a5:=Tryz.isAgg5
 z5:=Tryz.sizeOf5
 v5:=Tryz.zeroValue5
 infoByte:=by kernel_rfl
 cellsByte:=by kernel_rfl
 sizeByte:=by kernel_rfl
 neB5:=by decide }
open Go.RowKit in
theorem Tryz.Builder_String_any (B b:Nat) (l:List UInt8) (w:World) (h:Lib.IsBuilder 159 5 B b (Lib.byteCells l) w) (hBw:B<=w.heap.size) :
  Calls Tryz.prog 119 #[.pointer (some ⟨b,0,none⟩)] w fun e w'=>e = .returned (.string ⟨l.toArray⟩)/\Below B w w':=Any.Builder_String_any Tryz.lays169 Tryz.Builder_Extra_169 B b l w h hBw
def Tryz.lays156_ren:Go.Shelf.Ren:=⟨fun | 156=>78 | 165=>117 | 166=>118 | 169=>119 | 240=>159 | 241=>160 | 276=>194 | 277=>195 | n=>n,fun | 31=>33 | 9=>9 | 3=>3 | 4=>4 | 0=>0 | 20=>20 | 72=>159 | 76=>163 | 70=>156 | 37=>157 | 75=>162 | 127=>199 | 164=>233 | 5=>5 | 80=>165 | n=>n,fun | n=>n⟩
theorem Tryz.lays156:Go.Proofs.Lays.n156 Tryz.prog Tryz.lays156_ren:={
 mixed:=by kernel_rfl
 f156:=Tryz.func78.trans (congrArg some (by kernel_rfl))
 f165:=Tryz.func117.trans (congrArg some (by kernel_rfl))
 f166:=Tryz.func118.trans (congrArg some (by kernel_rfl))
 f169:=Tryz.func119.trans (congrArg some (by kernel_rfl))
 f240:=Tryz.func159.trans (congrArg some (by kernel_rfl))
 f241:=Tryz.func160.trans (congrArg some (by kernel_rfl))
 f276:=Tryz.func194.trans (congrArg some (by kernel_rfl))
 f277:=Tryz.func195.trans (congrArg some (by kernel_rfl))
 t0:=Tryz.underlying0
 a0:=Tryz.isAgg0
 z0:=Tryz.sizeOf0
 v0:=Tryz.zeroValue0
 t3:=Tryz.underlying3
 a3:=Tryz.isAgg3
 z3:=Tryz.sizeOf3
 v3:=Tryz.zeroValue3
 t4:=Tryz.underlying4
 a4:=Tryz.isAgg4
 z4:=Tryz.sizeOf4
 v4:=Tryz.zeroValue4
 t9:=Tryz.underlying9
 a9:=Tryz.isAgg9
 z9:=Tryz.sizeOf9
 v9:=Tryz.zeroValue9
 t20:=Tryz.underlying20
 a20:=Tryz.isAgg20
 z20:=Tryz.sizeOf20
 v20:=Tryz.zeroValue20
 t31:=Tryz.underlying33
 a31:=Tryz.isAgg33
 z31:=Tryz.sizeOf33
 v31:=Tryz.zeroValue33
 t37:=Tryz.underlying157
 a37:=Tryz.isAgg157
 z37:=Tryz.sizeOf157
 v37:=Tryz.zeroValue157
 t70:=Tryz.underlying156
 a70:=Tryz.isAgg156
 z70:=Tryz.sizeOf156
 v70:=Tryz.zeroValue156
 t72:=Tryz.underlying159
 a72:=Tryz.isAgg159
 z72:=Tryz.sizeOf159
 v72:=Tryz.zeroValue159
 t75:=Tryz.underlying162
 a75:=Tryz.isAgg162
 z75:=Tryz.sizeOf162
 v75:=Tryz.zeroValue162
 t76:=Tryz.underlying163
 a76:=Tryz.isAgg163
 z76:=Tryz.sizeOf163
 v76:=Tryz.zeroValue163
 t127:=Tryz.underlying199
 a127:=Tryz.isAgg199
 z127:=Tryz.sizeOf199
 v127:=Tryz.zeroValue199
 t164:=Tryz.underlying233
 a164:=Tryz.isAgg233
 z164:=Tryz.sizeOf233
 v164:=Tryz.zeroValue233 }
theorem Tryz.Builder_Extra_156:Builder.Extra Tryz.prog Tryz.lays156_ren:={
 sizeBuilder:=by kernel_rfl
 liesBuilder:=by kernel_rfl
 t5:=Tryz.underlying5
 a5:=Tryz.isAgg5
 z5:=Tryz.sizeOf5
 v5:=Tryz.zeroValue5
 infoByte:=by kernel_rfl
 cellsByte:=by kernel_rfl
 sizeByte:=by kernel_rfl
 neB5:=by decide }
open Go.RowKit in
theorem Tryz.strings_Join_none (a:Option Addr) (c:Nat) (sep:ByteArray) (w:World) :
  Calls Tryz.prog 78 #[.slice a 0 c,.string sep] w fun e w'=>e = .returned (.string ⟨#[]⟩)/\w'=w:=Any.strings_Join_none Tryz.lays156 Tryz.Builder_Extra_156 a c sep w
open Go.RowKit in
theorem Tryz.strings_Join (bk o c:Nat) (xs:List ByteArray) (sep:ByteArray) (w:World) (hcells:∀ (j:Nat) x,xs[j]?=some x->w.cell? ⟨bk,o+j,none⟩=some (.string x)) (hbk:bk<w.heap.size) (hN:xs.length<=140737488355328) (hcap:xs.length<=c) (hlen:(Lib.join (xs.map (·.data.toList)) sep.data.toList).length<=140737488355328) :
  Calls Tryz.prog 78 #[.slice (some ⟨bk,o,none⟩) xs.length c,.string sep] w fun e w'=>e = .returned (.string ⟨(Lib.join (xs.map (·.data.toList)) sep.data.toList).toArray⟩)/\Below w.heap.size w w':=Any.strings_Join Tryz.lays156 Tryz.Builder_Extra_156 bk o c xs sep w hcells hbk hN hcap hlen
def Tryz.lays162_ren:Go.Shelf.Ren:=⟨fun | 162=>153 | 232=>187 | 227=>188 | 234=>189 | 236=>190 | 228=>222 | 271=>223 | 151=>224 | 120=>248 | 197=>185 | 152=>249 | 260=>220 | 137=>260 | 119=>261 | 224=>246 | 225=>245 | 217=>244 | 266=>258 | n=>n,fun | 9=>9 | 4=>4 | 3=>3 | 5=>5 | 117=>224 | 116=>223 | 0=>0 | 124=>227 | 21=>21 | 105=>218 | 46=>230 | 119=>261 | 139=>264 | 138=>263 | n=>n,fun | 3=>5 | 4=>6 | n=>n⟩
theorem Tryz.lays162:Go.Proofs.Lays.n162 Tryz.prog Tryz.lays162_ren:={
 mixed:=by kernel_rfl
 f119:=Tryz.func261.trans (congrArg some (by kernel_rfl))
 f120:=Tryz.func248.trans (congrArg some (by kernel_rfl))
 f137:=Tryz.func260.trans (congrArg some (by kernel_rfl))
 f151:=Tryz.func224.trans (congrArg some (by kernel_rfl))
 f152:=Tryz.func249.trans (congrArg some (by kernel_rfl))
 f162:=Tryz.func153.trans (congrArg some (by kernel_rfl))
 f197:=Tryz.func185.trans (congrArg some (by kernel_rfl))
 f217:=Tryz.func244.trans (congrArg some (by kernel_rfl))
 f224:=Tryz.func246.trans (congrArg some (by kernel_rfl))
 f225:=Tryz.func245.trans (congrArg some (by kernel_rfl))
 f227:=Tryz.func188.trans (congrArg some (by kernel_rfl))
 f228:=Tryz.func222.trans (congrArg some (by kernel_rfl))
 f232:=Tryz.func187.trans (congrArg some (by kernel_rfl))
 f234:=Tryz.func189.trans (congrArg some (by kernel_rfl))
 f236:=Tryz.func190.trans (congrArg some (by kernel_rfl))
 f260:=Tryz.func220.trans (congrArg some (by kernel_rfl))
 f266:=Tryz.func258.trans (congrArg some (by kernel_rfl))
 f271:=Tryz.func223.trans (congrArg some (by kernel_rfl))
 t0:=Tryz.underlying0
 a0:=Tryz.isAgg0
 z0:=Tryz.sizeOf0
 v0:=Tryz.zeroValue0
 t3:=Tryz.underlying3
 a3:=Tryz.isAgg3
 z3:=Tryz.sizeOf3
 v3:=Tryz.zeroValue3
 t4:=Tryz.underlying4
 a4:=Tryz.isAgg4
 z4:=Tryz.sizeOf4
 v4:=Tryz.zeroValue4
 t5:=Tryz.underlying5
 a5:=Tryz.isAgg5
 z5:=Tryz.sizeOf5
 v5:=Tryz.zeroValue5
 t9:=Tryz.underlying9
 a9:=Tryz.isAgg9
 z9:=Tryz.sizeOf9
 v9:=Tryz.zeroValue9
 t21:=Tryz.underlying21
 a21:=Tryz.isAgg21
 z21:=Tryz.sizeOf21
 v21:=Tryz.zeroValue21
 t46:=Tryz.underlying230
 a46:=Tryz.isAgg230
 z46:=Tryz.sizeOf230
 v46:=Tryz.zeroValue230
 t105:=Tryz.underlying218
 a105:=Tryz.isAgg218
 z105:=Tryz.sizeOf218
 v105:=Tryz.zeroValue218
 t116:=Tryz.underlying223
 a116:=Tryz.isAgg223
 z116:=Tryz.sizeOf223
 t117:=Tryz.underlying224
 a117:=Tryz.isAgg224
 z117:=Tryz.sizeOf224
 v117:=Tryz.zeroValue224
 t119:=Tryz.underlying261
 a119:=Tryz.isAgg261
 z119:=Tryz.sizeOf261
 t124:=Tryz.underlying227
 a124:=Tryz.isAgg227
 z124:=Tryz.sizeOf227
 v124:=Tryz.zeroValue227
 t138:=Tryz.underlying263
 a138:=Tryz.isAgg263
 z138:=Tryz.sizeOf263
 v138:=Tryz.zeroValue263
 t139:=Tryz.underlying264
 a139:=Tryz.isAgg264
 z139:=Tryz.sizeOf264
 v139:=Tryz.zeroValue264
 g3:=by kernel_rfl
 g4:=by kernel_rfl }
def Tryz.lays119_ren:Go.Shelf.Ren:=⟨fun | 119=>261 | n=>n,fun | 21=>21 | 4=>4 | n=>n,fun | n=>n⟩
theorem Tryz.lays119:Go.Proofs.Lays.n119 Tryz.prog Tryz.lays119_ren:={
 mixed:=by kernel_rfl
 f119:=Tryz.func261.trans (congrArg some (by kernel_rfl))
 t4:=Tryz.underlying4
 a4:=Tryz.isAgg4
 z4:=Tryz.sizeOf4
 v4:=Tryz.zeroValue4
 t21:=Tryz.underlying21
 a21:=Tryz.isAgg21
 z21:=Tryz.sizeOf21
 v21:=Tryz.zeroValue21 }
theorem Tryz.utf8_ValidRune (r:Int) (w:World) :
  Calls Tryz.prog 261 #[.int .i32 r] w fun e w'=>e = .returned (.bool (Lib.validRune r))/\w'=w:=Any.utf8_ValidRune Tryz.lays119 r w
def Tryz.lays106_ren:Go.Shelf.Ren:=⟨fun | 106=>253 | 213=>263 | 265=>266 | n=>n,fun | 9=>9 | 3=>3 | n=>n,fun | n=>n⟩
theorem Tryz.lays106:Go.Proofs.Lays.n106 Tryz.prog Tryz.lays106_ren:={
 mixed:=by kernel_rfl
 f106:=Tryz.func253.trans (congrArg some (by kernel_rfl))
 f213:=Tryz.func263.trans (congrArg some (by kernel_rfl))
 f265:=Tryz.func266.trans (congrArg some (by kernel_rfl))
 t3:=Tryz.underlying3
 a3:=Tryz.isAgg3
 z3:=Tryz.sizeOf3
 v3:=Tryz.zeroValue3
 t9:=Tryz.underlying9
 a9:=Tryz.isAgg9
 z9:=Tryz.sizeOf9
 v9:=Tryz.zeroValue9 }
open Go.RowKit in
theorem Tryz.strings_Compare (a b:ByteArray) (w:World) :
  Calls Tryz.prog 253 #[.string a,.string b] w fun e w'=>e = .returned (.int .i64 (Lib.compareBytes a.data.toList b.data.toList))/\w'=w:=Any.strings_Compare Tryz.lays106 a b w
def Tryz.lays137_ren:Go.Shelf.Ren:=⟨fun | 137=>260 | 217=>244 | 266=>258 | n=>n,fun | 9=>9 | 5=>5 | 3=>3 | n=>n,fun | n=>n⟩
theorem Tryz.lays137:Go.Proofs.Lays.n137 Tryz.prog Tryz.lays137_ren:={
 mixed:=by kernel_rfl
 f137:=Tryz.func260.trans (congrArg some (by kernel_rfl))
 f217:=Tryz.func244.trans (congrArg some (by kernel_rfl))
 f266:=Tryz.func258.trans (congrArg some (by kernel_rfl))
 t3:=Tryz.underlying3
 a3:=Tryz.isAgg3
 z3:=Tryz.sizeOf3
 v3:=Tryz.zeroValue3
 t5:=Tryz.underlying5
 a5:=Tryz.isAgg5
 z5:=Tryz.sizeOf5
 v5:=Tryz.zeroValue5
 t9:=Tryz.underlying9
 a9:=Tryz.isAgg9
 z9:=Tryz.sizeOf9
 v9:=Tryz.zeroValue9 }
open Go.RowKit in
theorem Tryz.strings_IndexByte (s:ByteArray) (c:Int) (w:World) :
  Calls Tryz.prog 260 #[.string s,.int .u8 c] w fun e w'=>e = .returned (.int .i64 (Lib.indexByte s.data.toList c.toNat.toUInt8))/\w'=w:=Any.strings_IndexByte Tryz.lays137 s c w
def Tryz.lays143_ren:Go.Shelf.Ren:=⟨fun | 143=>186 | 219=>221 | 217=>244 | 225=>245 | 224=>246 | 267=>247 | 266=>258 | 314=>259 | n=>n,fun | 9=>9 | 3=>3 | 4=>4 | 5=>5 | 46=>230 | 146=>273 | 51=>272 | n=>n,fun | 1=>4 | n=>n⟩
theorem Tryz.lays143:Go.Proofs.Lays.n143 Tryz.prog Tryz.lays143_ren:={
 mixed:=by kernel_rfl
 f143:=Tryz.func186.trans (congrArg some (by kernel_rfl))
 f217:=Tryz.func244.trans (congrArg some (by kernel_rfl))
 f219:=Tryz.func221.trans (congrArg some (by kernel_rfl))
 f224:=Tryz.func246.trans (congrArg some (by kernel_rfl))
 f225:=Tryz.func245.trans (congrArg some (by kernel_rfl))
 f266:=Tryz.func258.trans (congrArg some (by kernel_rfl))
 f267:=Tryz.func247.trans (congrArg some (by kernel_rfl))
 f314:=Tryz.func259.trans (congrArg some (by kernel_rfl))
 t3:=Tryz.underlying3
 a3:=Tryz.isAgg3
 z3:=Tryz.sizeOf3
 v3:=Tryz.zeroValue3
 t4:=Tryz.underlying4
 a4:=Tryz.isAgg4
 z4:=Tryz.sizeOf4
 v4:=Tryz.zeroValue4
 t5:=Tryz.underlying5
 a5:=Tryz.isAgg5
 z5:=Tryz.sizeOf5
 v5:=Tryz.zeroValue5
 t9:=Tryz.underlying9
 a9:=Tryz.isAgg9
 z9:=Tryz.sizeOf9
 v9:=Tryz.zeroValue9
 t46:=Tryz.underlying230
 a46:=Tryz.isAgg230
 z46:=Tryz.sizeOf230
 v46:=Tryz.zeroValue230
 t51:=Tryz.underlying272
 a51:=Tryz.isAgg272
 z51:=Tryz.sizeOf272
 v51:=Tryz.zeroValue272
 t146:=Tryz.underlying273
 a146:=Tryz.isAgg273
 z146:=Tryz.sizeOf273
 v146:=Tryz.zeroValue273
 g1:=by kernel_rfl }
open Go.RowKit Go.Lib in
theorem Tryz.strings_Index_one (s:ByteArray) (c:UInt8) (w:World) :
  Calls Tryz.prog 186 #[.string s,.string ⟨#[c]⟩] w fun e w'=>e = .returned (.int .i64 (Lib.indexByte s.data.toList c))/\w'=w:=Any.strings_Index_one Tryz.lays143 s c w
def Tryz.lays99_ren:Go.Shelf.Ren:=⟨fun | 99=>81 | 206=>122 | n=>n,fun | 9=>9 | 4=>4 | 3=>3 | n=>n,fun | n=>n⟩
theorem Tryz.lays99:Go.Proofs.Lays.n99 Tryz.prog Tryz.lays99_ren:={
 mixed:=by kernel_rfl
 f99:=Tryz.func81.trans (congrArg some (by kernel_rfl))
 f206:=Tryz.func122.trans (congrArg some (by kernel_rfl))
 t3:=Tryz.underlying3
 a3:=Tryz.isAgg3
 z3:=Tryz.sizeOf3
 v3:=Tryz.zeroValue3
 t4:=Tryz.underlying4
 a4:=Tryz.isAgg4
 z4:=Tryz.sizeOf4
 v4:=Tryz.zeroValue4
 t9:=Tryz.underlying9
 a9:=Tryz.isAgg9
 z9:=Tryz.sizeOf9
 v9:=Tryz.zeroValue9 }
open Go.RowKit Go.Lib in
theorem Tryz.strings_HasPrefix (s p:ByteArray) (w:World) :
  Calls Tryz.prog 81 #[.string s,.string p] w fun e w'=>e = .returned (.bool (Lib.hasPrefix s.data.toList p.data.toList))/\w'=w:=Any.strings_HasPrefix Tryz.lays99 s p w
def Tryz.lays100_ren:Go.Shelf.Ren:=⟨fun | 100=>38 | 207=>73 | n=>n,fun | 9=>9 | 4=>4 | 3=>3 | n=>n,fun | n=>n⟩
theorem Tryz.lays100:Go.Proofs.Lays.n100 Tryz.prog Tryz.lays100_ren:={
 mixed:=by kernel_rfl
 f100:=Tryz.func38.trans (congrArg some (by kernel_rfl))
 f207:=Tryz.func73.trans (congrArg some (by kernel_rfl))
 t3:=Tryz.underlying3
 a3:=Tryz.isAgg3
 z3:=Tryz.sizeOf3
 v3:=Tryz.zeroValue3
 t4:=Tryz.underlying4
 a4:=Tryz.isAgg4
 z4:=Tryz.sizeOf4
 v4:=Tryz.zeroValue4
 t9:=Tryz.underlying9
 a9:=Tryz.isAgg9
 z9:=Tryz.sizeOf9
 v9:=Tryz.zeroValue9 }
open Go.RowKit Go.Lib in
theorem Tryz.strings_HasSuffix (s p:ByteArray) (w:World) (hs:s.size<=9223372036854775807) :
  Calls Tryz.prog 38 #[.string s,.string p] w fun e w'=>e = .returned (.bool (Lib.hasSuffix s.data.toList p.data.toList))/\w'=w:=Any.strings_HasSuffix Tryz.lays100 s p w hs
def Tryz.lays152_ren:Go.Shelf.Ren:=⟨fun | 152=>249 | 137=>260 | 119=>261 | 224=>246 | 225=>245 | 217=>244 | 266=>258 | n=>n,fun | 9=>9 | 21=>21 | 3=>3 | 4=>4 | 5=>5 | 0=>0 | 46=>230 | n=>n,fun | n=>n⟩
theorem Tryz.lays152:Go.Proofs.Lays.n152 Tryz.prog Tryz.lays152_ren:={
 mixed:=by kernel_rfl
 f119:=Tryz.func261.trans (congrArg some (by kernel_rfl))
 f137:=Tryz.func260.trans (congrArg some (by kernel_rfl))
 f152:=Tryz.func249.trans (congrArg some (by kernel_rfl))
 f217:=Tryz.func244.trans (congrArg some (by kernel_rfl))
 f224:=Tryz.func246.trans (congrArg some (by kernel_rfl))
 f225:=Tryz.func245.trans (congrArg some (by kernel_rfl))
 f266:=Tryz.func258.trans (congrArg some (by kernel_rfl))
 t0:=Tryz.underlying0
 a0:=Tryz.isAgg0
 z0:=Tryz.sizeOf0
 v0:=Tryz.zeroValue0
 t3:=Tryz.underlying3
 a3:=Tryz.isAgg3
 z3:=Tryz.sizeOf3
 v3:=Tryz.zeroValue3
 t4:=Tryz.underlying4
 a4:=Tryz.isAgg4
 z4:=Tryz.sizeOf4
 v4:=Tryz.zeroValue4
 t5:=Tryz.underlying5
 a5:=Tryz.isAgg5
 z5:=Tryz.sizeOf5
 v5:=Tryz.zeroValue5
 t9:=Tryz.underlying9
 a9:=Tryz.isAgg9
 z9:=Tryz.sizeOf9
 v9:=Tryz.zeroValue9
 t21:=Tryz.underlying21
 a21:=Tryz.isAgg21
 z21:=Tryz.sizeOf21
 v21:=Tryz.zeroValue21
 t46:=Tryz.underlying230
 a46:=Tryz.isAgg230
 z46:=Tryz.sizeOf230
 v46:=Tryz.zeroValue230 }
open Go.RowKit Go.Lib in
theorem Tryz.strings_IndexRune_ascii (s:ByteArray) (r:Int) (w:World) (h0:0<=r) (h1:r<128) :
  Calls Tryz.prog 249 #[.string s,.int .i32 r] w fun e w'=>e = .returned (.int .i64 (Lib.indexByte s.data.toList r.toNat.toUInt8))/\w'=w:=Any.strings_IndexRune_ascii Tryz.lays152 s r w h0 h1
def Tryz.lays226_ren:Go.Shelf.Ren:=⟨fun | 226=>262 | n=>n,fun | 3=>3 | 4=>4 | n=>n,fun | n=>n⟩
theorem Tryz.lays226:Go.Proofs.Lays.n226 Tryz.prog Tryz.lays226_ren:={
 mixed:=by kernel_rfl
 f226:=Tryz.func262.trans (congrArg some (by kernel_rfl))
 t3:=Tryz.underlying3
 a3:=Tryz.isAgg3
 z3:=Tryz.sizeOf3
 v3:=Tryz.zeroValue3
 t4:=Tryz.underlying4
 a4:=Tryz.isAgg4
 z4:=Tryz.sizeOf4
 v4:=Tryz.zeroValue4 }
open Go.RowKit Go.Lib in
theorem Tryz.strings_shouldUseASCIISet (n:Int) (w:World) :
  Calls Tryz.prog 262 #[.int .i64 n] w fun e w'=>e = .returned (.bool (decide (8<n)))/\w'=w:=Any.strings_shouldUseASCIISet Tryz.lays226 n w
def Tryz.lays153_ren:Go.Shelf.Ren:=⟨fun | 153=>250 | 152=>249 | 226=>262 | 227=>188 | 228=>222 | 137=>260 | 119=>261 | 224=>246 | 225=>245 | 217=>244 | 266=>258 | n=>n,fun | 9=>9 | 3=>3 | 4=>4 | 5=>5 | 21=>21 | 117=>224 | 116=>223 | 0=>0 | 46=>230 | 124=>227 | n=>n,fun | n=>n⟩
theorem Tryz.lays153:Go.Proofs.Lays.n153 Tryz.prog Tryz.lays153_ren:={
 mixed:=by kernel_rfl
 f119:=Tryz.func261.trans (congrArg some (by kernel_rfl))
 f137:=Tryz.func260.trans (congrArg some (by kernel_rfl))
 f152:=Tryz.func249.trans (congrArg some (by kernel_rfl))
 f153:=Tryz.func250.trans (congrArg some (by kernel_rfl))
 f217:=Tryz.func244.trans (congrArg some (by kernel_rfl))
 f224:=Tryz.func246.trans (congrArg some (by kernel_rfl))
 f225:=Tryz.func245.trans (congrArg some (by kernel_rfl))
 f226:=Tryz.func262.trans (congrArg some (by kernel_rfl))
 f227:=Tryz.func188.trans (congrArg some (by kernel_rfl))
 f228:=Tryz.func222.trans (congrArg some (by kernel_rfl))
 f266:=Tryz.func258.trans (congrArg some (by kernel_rfl))
 t0:=Tryz.underlying0
 a0:=Tryz.isAgg0
 z0:=Tryz.sizeOf0
 v0:=Tryz.zeroValue0
 t3:=Tryz.underlying3
 a3:=Tryz.isAgg3
 z3:=Tryz.sizeOf3
 v3:=Tryz.zeroValue3
 t4:=Tryz.underlying4
 a4:=Tryz.isAgg4
 z4:=Tryz.sizeOf4
 v4:=Tryz.zeroValue4
 t5:=Tryz.underlying5
 a5:=Tryz.isAgg5
 z5:=Tryz.sizeOf5
 v5:=Tryz.zeroValue5
 t9:=Tryz.underlying9
 a9:=Tryz.isAgg9
 z9:=Tryz.sizeOf9
 v9:=Tryz.zeroValue9
 t21:=Tryz.underlying21
 a21:=Tryz.isAgg21
 z21:=Tryz.sizeOf21
 v21:=Tryz.zeroValue21
 t46:=Tryz.underlying230
 a46:=Tryz.isAgg230
 z46:=Tryz.sizeOf230
 v46:=Tryz.zeroValue230
 t116:=Tryz.underlying223
 a116:=Tryz.isAgg223
 z116:=Tryz.sizeOf223
 t117:=Tryz.underlying224
 a117:=Tryz.isAgg224
 z117:=Tryz.sizeOf224
 v117:=Tryz.zeroValue224
 t124:=Tryz.underlying227
 a124:=Tryz.isAgg227
 z124:=Tryz.sizeOf227
 v124:=Tryz.zeroValue227 }
open Go.RowKit Go.Lib in
theorem Tryz.strings_IndexAny_long (hv116:∀ w,(zeroValue 223).run Tryz.prog w = .ok (.agg (Array.replicate 256 (.bool false))) w) (s chars:ByteArray) (w:World) (h2:2<=chars.size) (h8:8<s.size) (hs:s.size<4294967281) (hcs:chars.size<4294967281) (hascii:∀ (j:Nat) b,chars.data.toList[j]?=some b->b.toNat<128) :
  Calls Tryz.prog 250 #[.string s,.string chars] w fun e w'=>e = .returned (.int .i64 (Lib.indexAny s.data.toList chars.data.toList))/\w'=((w.alloc (.cells (Lib.setCells chars.data.toList) 223)).alloc (.cells (Lib.setCells chars.data.toList) 223)):=Any.strings_IndexAny_long Tryz.lays153 hv116 (by kernel_rfl) s chars w h2 h8 hs hcs hascii
end Go.Proofs
end
namespace Go.Proofs.YtiblepfehggicaaGreatDoor.Vcg
section
open CA CB
open Go.RowKit
section
variable {G:zm}
theorem jP (f:FsV) (n:Int) (hl:f.xs.length<=100000) (hR:qc f.xs):Fun Tryz.prog G 158 [.agg (fsC f),.sc (.int .i64 n)] (.tup [.agg (JU (zg n f.xs)),.sc (.bool (zF n f.xs))]) 0:=by
 refine Fun.of (fun _=>[]) Tryz.func158 rfl (zi rfl) (by kernel_rfl) ?_;dsimp only[Tryz.f158]
 push_cast -dsimp
 refine cl (zdC f n hl hR) ?_;push_cast -dsimp
 cases hh:zF n f.xs with
 | false =>
  have hg:zg n f.xs=zj7:=by unfold zg;rw[Hz hh];rfl
  push_cast -dsimp [hh]
  exact ⟨[],rfl,rfl,by push_cast -dsimp [zb,za,CLe,zd,hg,zj7]⟩
 | true =>
  obtain ⟨hlt,hg⟩:=HL hR hh
  have hg:zg n f.xs=f.xs[ji n f.xs]:=by unfold zg;rw[hg];rfl
  have hat:=qS f.xs _ hlt
  push_cast -dsimp [hh,hat]
  (try simp only[lS]);repeat refine And.intro (by omega) ?_
  exact ⟨[],rfl,rfl,by push_cast -dsimp [zb,za,CLe,zd,hg]⟩
theorem zS {xs:List zy}:∀ r∈zp xs,r.length=6:=fun r hr=>by
 obtain ⟨x,_,rfl⟩:=List.mem_map.1 hr;rfl
theorem zq {xs:List zy}:jq (zp xs):=fun r hr=>by
 obtain ⟨x,_,rfl⟩:=List.mem_map.1 hr;rfl
theorem YC (f:FsV) (x:zy) (hl:f.xs.length<=90000) (hR:qc f.xs) :
  Fun Tryz.prog G 203 [.agg (fsC f),.agg (JU x)] (.agg [.sc (.int .i64 f.maxI),.sc (.int .i64 f.maxB),.sc (.int .i64 f.next),.own 0 75 6 (zp (qH x f.xs))]) 1:=by
 have hll:(zp f.xs).length=f.xs.length:=List.length_map ..
 refine Fun.ofF (fun _=>[]) Tryz.func203 rfl (zi rfl) (by kernel_rfl) ?_;dsimp only[Tryz.f203]
 push_cast -dsimp
 refine cl (zdC f x.ino (by omega) hR) ?_;push_cast -dsimp
 refine Jx [] [] (XN (zp f.xs) zS zq (by omega)) rfl (by decide) (by decide) (by simp) (by push_cast -dsimp) (by push_cast -dsimp) (fun r bx' m hp=>?_)
 obtain ⟨rfl,⟨hne,c,h1,h2,rfl,rfl⟩ | ⟨he,⟨rfl,rfl⟩ | ⟨rfl,rfl⟩⟩⟩:=hp
 ·have hbl:=Jq zS h1
  have hre:∀ fp fo,C.reL fp fo (qo 6 (zp f.xs) c)=qo 6 (zp f.xs) c:=fun fp fo=>zD (zC zq)
  have hpos:=List.length_pos_iff.2 hne
  cases hh:zF x.ino f.xs with
  | true =>
   obtain ⟨hlt,_⟩:=HL hR hh
   have hst:=uq (c:=c) (rows:=zp f.xs) (row:=JU x) (i:=ji x.ino f.xs) zS rfl (by omega)
   have hset:zp (qH x f.xs)=(zp f.xs).set (ji x.ino f.xs) (JU x):=by rw[←MY hR hh];simp[List.map_set]
   push_cast -dsimp [hh,hre,hst]
   refine ⟨by omega,by omega,by rw[hbl];omega,[(4,75,6,(zp f.xs).set (ji x.ino f.xs) (JU x),c)],[.inl 0],?_,rfl,rfl,by push_cast -dsimp [zb,za,CLe,zd,hset,List.length_set]⟩
   rw[←hset]
   refine zw (by rw[hset];rfl) (by omega) (by rw[hset,List.length_set];exact h1) h2 zS zq
  | false =>
   have hset:zp (qH x f.xs)=(zp f.xs).take (ji x.ino f.xs)++JU x :: (zp f.xs).drop (ji x.ino f.xs):=by rw[←zbO hR hh];simp
   have hrl:=zjR x.ino f.xs
   have hsl:(zp (qH x f.xs)).length=(zp f.xs).length+1:=by rw[hset];simp;omega
   push_cast -dsimp [hh,hre]
   refine Jx [4] [0] (Vz (e:=75) (zp f.xs) (JU x) (ji x.ino f.xs) c zS rfl zq rfl (by omega) (by omega) h1 h2) rfl (by decide) (by decide) (by simp) (by push_cast -dsimp) (by push_cast -dsimp [hre]) (fun r bx' m hp=>?_)
   rw[←hset]at hp
   have hre2:∀ fp fo c,C.reL fp fo (qo 6 (zp (qH x f.xs)) c)=qo 6 (zp (qH x f.xs)) c:=fun fp fo c=>zD (zC zq)
   obtain ⟨rfl,c',g1,g2,⟨rfl,rfl⟩ | ⟨rfl,rfl⟩⟩:=hp
   ·push_cast -dsimp [hre2,hre]
    exact ⟨[(4,75,6,zp (qH x f.xs),c')],[.inl 1],zw rfl (by omega) g1 g2 zS zq,rfl,rfl,by push_cast -dsimp [zb,za,CLe,zd]⟩
   ·have hra:∀ fp fo,C.reL fp fo (List.replicate (c*6) .any)=List.replicate (c*6) .any:=fun fp fo=>zD (by simp[List.all_replicate,C.stayB])
    push_cast -dsimp [hre2,hre,hra]
    exact ⟨[(5,75,6,zp (qH x f.xs),c')],[.inl 1],zw rfl (by omega) g1 g2 zS zq,rfl,rfl,by push_cast -dsimp [zb,za,CLe,zd]⟩
 ·have he:f.xs = []:=by simpa using he
  have hh:zF x.ino f.xs=false:=by rw[he];rfl
  have hr0:ji x.ino f.xs=0:=by rw[he];rfl
  have hset:qH x f.xs = [x]:=by rw[he];rfl
  push_cast -dsimp [hh,hr0]
  refine Jx [] [0] (vU (e:=75) (JU x) rfl rfl) rfl (by decide) (by decide) (by simp) (by push_cast -dsimp) (by push_cast -dsimp) (fun r bx' m hp=>?_)
  obtain ⟨rfl,c,g1,g2,rfl,rfl⟩:=hp
  have hre:∀ fp fo,C.reL fp fo (qo 6 [JU x] c)=qo 6 [JU x] c:=fun fp fo=>zD (zC (zq (xs:=[x])))
  push_cast -dsimp [hre]
  exact ⟨[(3,75,6,zp [x],c)],[.inl 1],zw rfl (by omega) g1 g2 zS zq,rfl,rfl,by push_cast -dsimp [zb,za,CLe,zd,hset]⟩
 ·have he:f.xs = []:=by simpa using he
  have hh:zF x.ino f.xs=false:=by rw[he];rfl
  have hr0:ji x.ino f.xs=0:=by rw[he];rfl
  have hset:qH x f.xs = [x]:=by rw[he];rfl
  push_cast -dsimp [hh,hr0]
  refine Jx [3] [0] (Vz (e:=75) [] (JU x) 0 0 (fun r hr=>by cases hr) rfl (fun r hr=>by cases hr) rfl (by simp) (by simp) (by simp) (by simp)) rfl (by decide) (by decide) (by simp) (by push_cast -dsimp) (by push_cast -dsimp [qo]) (fun r bx' m hp=>?_)
  obtain ⟨rfl,c,g1,g2,hp⟩:=hp
  have hre:∀ fp fo,C.reL fp fo (qo 6 [JU x] c)=qo 6 [JU x] c:=fun fp fo=>zD (zC (zq (xs:=[x])))
  rcases hp with ⟨rfl,rfl⟩ | ⟨rfl,rfl⟩
  ·push_cast -dsimp [hre]
   exact ⟨[(3,75,6,zp [x],c)],[.inl 1],zw rfl (Nat.lt_of_lt_of_le (Nat.zero_lt_succ _) g1) g1 g2 zS zq,rfl,rfl,by push_cast -dsimp [zb,za,CLe,zd,hset]⟩
  ·push_cast -dsimp [hre]
   exact ⟨[(4,75,6,zp [x],c)],[.inl 1],zw rfl (Nat.lt_of_lt_of_le (Nat.zero_lt_succ _) g1) g1 g2 zS zq,rfl,rfl,by push_cast -dsimp [zb,za,CLe,zd,hset]⟩
theorem zgd (f:FsV) (n:Int) (hl:f.xs.length<=90000) (hR:qc f.xs) (h0:f.xs≠[]) :
  Fun Tryz.prog G 207 [.agg (fsC f),.sc (.int .i64 n)] (.agg [.sc (.int .i64 f.maxI),.sc (.int .i64 f.maxB),.sc (.int .i64 f.next),.own 0 75 6 (zp (qk n f.xs))]) 1:=by
 have hll:(zp f.xs).length=f.xs.length:=List.length_map ..
 refine Fun.ofF (fun _=>[]) Tryz.func207 rfl (zi rfl) (by kernel_rfl) ?_;dsimp only[Tryz.f207]
 push_cast -dsimp
 refine cl (zdC f n (by omega) hR) ?_;push_cast -dsimp
 refine Jx [] [] (XN (zp f.xs) zS zq (by omega)) rfl (by decide) (by decide) (by simp) (by push_cast -dsimp) (by push_cast -dsimp) (fun r bx' m hp=>?_)
 obtain ⟨rfl,⟨hne,c,h1,h2,rfl,rfl⟩ | ⟨he,_⟩⟩:=hp
 ·have hre:∀ fp fo,C.reL fp fo (qo 6 (zp f.xs) c)=qo 6 (zp f.xs) c:=fun fp fo=>zD (zC zq)
  have hpos:=List.length_pos_iff.2 hne
  cases hh:zF n f.xs with
  | true =>
   obtain ⟨hlt,_⟩:=HL hR hh
   have hset:zp (qk n f.xs)=(zp f.xs).take (ji n f.xs)++(zp f.xs).drop (ji n f.xs+1):=by rw[←vj hR hh];simp
   have hsl:(zp (qk n f.xs)).length=(zp f.xs).length-1:=by rw[hset];simp;omega
   have hd:=ziy (G:=G) (zp f.xs) (ji n f.xs) c zS zq (by omega) (by omega) h1 h2
   rw[←hset,←hsl]at hd
   have hre2:∀ fp fo,C.reL fp fo (qo 6 (zp (qk n f.xs)) c)=qo 6 (zp (qk n f.xs)) c:=fun fp fo=>zD (zC zq)
   push_cast -dsimp [hh,hre]
   (try simp only[lS]);repeat refine And.intro (by omega) ?_
   rw[hll]at hd
   refine x4 [3] [] hd rfl (by decide) (by decide) (by simp) (by push_cast -dsimp) (by push_cast -dsimp [hre]) ?_
   push_cast -dsimp [hre,hre2]
   exact ⟨[(3,75,6,zp (qk n f.xs),c)],[.inl 0],zw rfl (by omega) (by omega) h2 zS zq,rfl,rfl,by push_cast -dsimp [zb,za,CLe,zd]⟩
  | false =>
   push_cast -dsimp [hh,hre]
   exact ⟨[(3,75,6,zp f.xs,c)],[.inl 0],zw rfl (by omega) h1 h2 zS zq,rfl,rfl,by push_cast -dsimp [zb,za,CLe,zd,XW hh]⟩
 ·exact absurd (by simpa using he) h0
theorem zgu (f:FsV) (hl:f.xs.length<=90000) (h0:f.xs≠[]) (h1:-4611686018427387904<=f.next) (h2:f.next<=4611686018427387904) :
  Fun Tryz.prog G 201 [.agg (fsC f)] (.tup [.agg [.sc (.int .i64 f.maxI),.sc (.int .i64 f.maxB),.sc (.int .i64 (f.next+1)),.own 0 75 6 (zp f.xs)],.sc (.int .i64 f.next)]) 1:=by
 have hll:(zp f.xs).length=f.xs.length:=List.length_map ..
 refine Fun.ofF (fun _=>[]) Tryz.func201 rfl (zi rfl) (by kernel_rfl) ?_;dsimp only[Tryz.f201]
 push_cast -dsimp
 (try simp only[lS]);repeat refine And.intro (by omega) ?_
 refine Jx [] [] (XN (zp f.xs) zS zq (by omega)) rfl (by decide) (by decide) (by simp) (by push_cast -dsimp) (by push_cast -dsimp) (fun r bx' m hp=>?_)
 obtain ⟨rfl,⟨hne,c,h1,h2,rfl,rfl⟩ | ⟨he,_⟩⟩:=hp
 ·have hre:∀ fp fo,C.reL fp fo (qo 6 (zp f.xs) c)=qo 6 (zp f.xs) c:=fun fp fo=>zD (zC zq)
  have hpos:=List.length_pos_iff.2 hne
  push_cast -dsimp [hre]
  exact ⟨[(3,75,6,zp f.xs,c)],[.inl 0],zw rfl (by omega) h1 h2 zS zq,rfl,rfl,by push_cast -dsimp [zb,za,CLe,zd]⟩
 ·exact absurd (by simpa using he) h0
theorem zis {R:Env} {L:Loc} {id e:Nat} {v:Value} (h:Rep R L (.own id e 6 [[.sc (.int .i64 1),.sc (.int .i64 2),.sc (.int .i64 0),.str [],.sc (.int .i64 1),.sc (.slice none 0 0)]]) v):Rep R L (.own id e 6 (zp [⟨1,2,0,[],1,[]⟩])) v:=
 za6 (by simp[RLe,zd,CLe]) h
theorem XK {α:Type} {a b:List α} {i:Nat} (ha:i<a.length) (hb:i<b.length) (h:a.take i=b.take i):(a.take (i+1)=b.take (i+1))↔a[i]=b[i]:=by
 rw[List.take_add_one,List.take_add_one,h,List.append_right_inj,List.getElem?_eq_getElem ha,List.getElem?_eq_getElem hb]
 simp
theorem zn6 (a b:zZ):(decide (a.name=b.name)&&decide (a.ino=b.ino))=decide (a=b):=by
 cases a;cases b;simp
theorem zn0 (a b:zy):a=b↔a.ino=b.ino/\a.kind=b.kind/\a.links=b.links/\a.data=b.data/\a.parent=b.parent/\a.es=b.es:=by
 cases a;cases b;simp
theorem zoH (a b:FsV):a=b↔a.maxI=b.maxI/\a.maxB=b.maxB/\a.next=b.next/\a.xs=b.xs:=by
 cases a;cases b;simp
end
end
section
open CA CB
open Go.RowKit
section
variable {G:zm}
theorem NX (a b:List zZ) (ha:a.length<=9223372036854775807):Fun Tryz.prog G 132 [.sl 2 (zG a),.sl 2 (zG b)] (.sc (.bool (decide (a=b)))) 0:=by
 refine Fun.of (fun _=>[]) Tryz.func132 rfl (zi rfl) (by kernel_rfl) ?_;dsimp only[Tryz.f132]
 have hla:(zG a).length=a.length:=List.length_map ..
 have hlb:(zG b).length=b.length:=List.length_map ..
 by_cases hab:a.length=b.length
 ·push_cast -dsimp [hla,hlb,hab]
  refine loop (fun i:Nat=>⟨[(0,.sl 2 (zG a)),(1,.sl 2 (zG b)),(5,.sc (.int .i64 i))],[],0,0⟩) (fun i=>i<=b.length/\a.take i=b.take i) (fun i=>b.length-i) 0 ⟨Nat.zero_le _,rfl⟩ ?_ ?_
  ·exact zH.mk [] rfl rfl (Nat.le_refl _) rfl (by push_cast -dsimp [zb,za,CLe,zd]) (by push_cast -dsimp [zb,za,CLe,zd])
  ·rintro i ⟨h1,h2⟩
   by_cases h:i<b.length
   ·have g1:=j0 a i (by omega)
    have g2:=j0 b i h
    push_cast -dsimp [hla,hab,h,g1,g2]
    (try simp only[lS]);repeat refine And.intro (by omega) ?_
    have hd:=zn6 a[i] b[i]
    by_cases he:a[i]=b[i]
    ·have hd:(decide (a[i].name=b[i].name)&&decide (a[i].ino=b[i].ino))=true:=by rw[hd,decide_eq_true he]
     push_cast -dsimp [hd]
     (try simp only[lS]);repeat refine And.intro (by omega) ?_
     exact ⟨i+1,⟨h,(XK (by omega) h h2).2 he⟩,by omega,zH.mk [] rfl rfl (Nat.le_refl _) rfl (by push_cast -dsimp [zb,za,CLe,zd]) (by push_cast -dsimp [zb,za,CLe,zd])⟩
    ·have hd:(decide (a[i].name=b[i].name)&&decide (a[i].ino=b[i].ino))=false:=by rw[hd,decide_eq_false he]
     push_cast -dsimp [hd]
     have:a≠b:=fun h=>he (by subst h;rfl)
     exact ⟨[],rfl,rfl,by push_cast -dsimp [zb,za,CLe,zd,this]⟩
   ·push_cast -dsimp [hla,hab,h]
    have:a=b:=by rw[←List.take_of_length_le (l:=a) (i:=i) (by omega),h2,List.take_of_length_le (by omega)]
    exact ⟨[],rfl,rfl,by push_cast -dsimp [zb,za,CLe,zd,this]⟩
 ·push_cast -dsimp [hla,hlb,hab]
  have:a≠b:=fun h=>hab (by rw[h])
  exact ⟨[],rfl,rfl,by push_cast -dsimp [zb,za,CLe,zd,this]⟩
theorem zkh (x y:zy) (hx:x.es.length<=9223372036854775807):Fun Tryz.prog G 97 [.agg (JU x),.agg (JU y)] (.sc (.bool (decide (x=y)))) 0:=by
 refine Fun.of (fun _=>[]) Tryz.func97 rfl (zi rfl) (by kernel_rfl) ?_;dsimp only[Tryz.f97]
 by_cases e0:x.ino=y.ino
 case neg =>
  have hn:¬x=y:=fun h=>e0 (by rw[h])
  push_cast -dsimp [e0]
  exact ⟨[],rfl,rfl,by push_cast -dsimp [zb,za,CLe,zd,hn]⟩
 by_cases e1:x.kind=y.kind
 case neg =>
  have hn:¬x=y:=fun h=>e1 (by rw[h])
  push_cast -dsimp [e0,e1]
  exact ⟨[],rfl,rfl,by push_cast -dsimp [zb,za,CLe,zd,hn]⟩
 by_cases e2:x.links=y.links
 case neg =>
  have hn:¬x=y:=fun h=>e2 (by rw[h])
  push_cast -dsimp [e0,e1,e2]
  exact ⟨[],rfl,rfl,by push_cast -dsimp [zb,za,CLe,zd,hn]⟩
 by_cases e3:x.data=y.data
 case neg =>
  have hn:¬x=y:=fun h=>e3 (by rw[h])
  push_cast -dsimp [e0,e1,e2,e3]
  exact ⟨[],rfl,rfl,by push_cast -dsimp [zb,za,CLe,zd,hn]⟩
 by_cases e4:x.parent=y.parent
 case neg =>
  have hn:¬x=y:=fun h=>e4 (by rw[h])
  push_cast -dsimp [e0,e1,e2,e3,e4]
  exact ⟨[],rfl,rfl,by push_cast -dsimp [zb,za,CLe,zd,hn]⟩
 by_cases e5:x.es=y.es
 case neg =>
  have hn:¬x=y:=fun h=>e5 (by rw[h])
  push_cast -dsimp [e0,e1,e2,e3,e4]
  refine cl (NX x.es y.es hx) ?_;push_cast -dsimp [e5,hn]
  exact ⟨[],rfl,rfl,by push_cast -dsimp [zb,za,CLe,zd,hn]⟩
 have hn:x=y:=(zn0 x y).2 ⟨e0,e1,e2,e3,e4,e5⟩
 push_cast -dsimp [e0,e1,e2,e3,e4]
 refine cl (NX x.es y.es hx) ?_;push_cast -dsimp [e5]
 exact ⟨[],rfl,rfl,by push_cast -dsimp [zb,za,CLe,zd,hn]⟩
theorem Gg (a b:List zy) (ha:a.length<=100000) (he:∀ x∈a,x.es.length<=9223372036854775807):Fun Tryz.prog G 55 [.sl 6 (zp a),.sl 6 (zp b)] (.sc (.bool (decide (a=b)))) 0:=by
 refine Fun.of (fun _=>[]) Tryz.func55 rfl (zi rfl) (by kernel_rfl) ?_;dsimp only[Tryz.f55]
 have hla:(zp a).length=a.length:=List.length_map ..
 have hlb:(zp b).length=b.length:=List.length_map ..
 by_cases hab:a.length=b.length
 ·push_cast -dsimp [hla,hlb,hab]
  refine loop (fun i:Nat=>⟨[(0,.sl 6 (zp a)),(1,.sl 6 (zp b)),(5,.sc (.int .i64 i))],[],0,0⟩) (fun i=>i<=b.length/\a.take i=b.take i) (fun i=>b.length-i) 0 ⟨Nat.zero_le _,rfl⟩ ?_ ?_
  ·exact zH.mk [] rfl rfl (Nat.le_refl _) rfl (by push_cast -dsimp [zb,za,CLe,zd]) (by push_cast -dsimp [zb,za,CLe,zd])
  ·rintro i ⟨h1,h2⟩
   by_cases h:i<b.length
   ·have g1:=qS a i (by omega)
    have g2:=qS b i h
    push_cast -dsimp [hla,hab,h,g1,g2]
    (try simp only[lS]);repeat refine And.intro (by omega) ?_
    refine cl (zkh a[i] b[i] (he _ (List.getElem_mem _))) ?_;push_cast -dsimp
    by_cases he:a[i]=b[i]
    ·push_cast -dsimp [decide_eq_true he]
     (try simp only[lS]);repeat refine And.intro (by omega) ?_
     exact ⟨i+1,⟨h,(XK (by omega) h h2).2 he⟩,by omega,zH.mk [] rfl rfl (Nat.le_refl _) rfl (by push_cast -dsimp [zb,za,CLe,zd]) (by push_cast -dsimp [zb,za,CLe,zd])⟩
    ·push_cast -dsimp [decide_eq_false he]
     have:a≠b:=fun h=>he (by subst h;rfl)
     exact ⟨[],rfl,rfl,by push_cast -dsimp [zb,za,CLe,zd,this]⟩
   ·push_cast -dsimp [hla,hab,h]
    have:a=b:=by rw[←List.take_of_length_le (l:=a) (i:=i) (by omega),h2,List.take_of_length_le (by omega)]
    exact ⟨[],rfl,rfl,by push_cast -dsimp [zb,za,CLe,zd,this]⟩
 ·push_cast -dsimp [hla,hlb,hab]
  have:a≠b:=fun h=>hab (by rw[h])
  exact ⟨[],rfl,rfl,by push_cast -dsimp [zb,za,CLe,zd,this]⟩
theorem zda (x y:FsV) (ha:x.xs.length<=100000) (he:∀ z∈x.xs,z.es.length<=9223372036854775807):Fun Tryz.prog G 54 [.agg (fsC x),.agg (fsC y)] (.sc (.bool (decide (x=y)))) 0:=by
 refine Fun.of (fun _=>[]) Tryz.func54 rfl (zi rfl) (by kernel_rfl) ?_;dsimp only[Tryz.f54]
 by_cases e0:x.maxI=y.maxI
 case neg =>
  have hn:¬x=y:=fun h=>e0 (by rw[h])
  push_cast -dsimp [e0]
  exact ⟨[],rfl,rfl,by push_cast -dsimp [zb,za,CLe,zd,hn]⟩
 by_cases e1:x.maxB=y.maxB
 case neg =>
  have hn:¬x=y:=fun h=>e1 (by rw[h])
  push_cast -dsimp [e0,e1]
  exact ⟨[],rfl,rfl,by push_cast -dsimp [zb,za,CLe,zd,hn]⟩
 by_cases e2:x.next=y.next
 case neg =>
  have hn:¬x=y:=fun h=>e2 (by rw[h])
  push_cast -dsimp [e0,e1,e2]
  exact ⟨[],rfl,rfl,by push_cast -dsimp [zb,za,CLe,zd,hn]⟩
 by_cases e3:x.xs=y.xs
 case neg =>
  have hn:¬x=y:=fun h=>e3 (by rw[h])
  push_cast -dsimp [e0,e1,e2]
  refine cl (Gg x.xs y.xs ha he) ?_;push_cast -dsimp [e3,hn]
  exact ⟨[],rfl,rfl,by push_cast -dsimp [zb,za,CLe,zd,hn]⟩
 have hn:x=y:=(zoH x y).2 ⟨e0,e1,e2,e3⟩
 push_cast -dsimp [e0,e1,e2]
 refine cl (Gg x.xs y.xs ha he) ?_;push_cast -dsimp [e3]
 exact ⟨[],rfl,rfl,by push_cast -dsimp [zb,za,CLe,zd,hn]⟩
theorem zbh {xs:List zy} {i:Nat} (hi:i<xs.length) (h0:0<i):qc (xs.take (i+1))↔qc (xs.take i)/\xs[i-1].ino<xs[i].ino:=by
 rw[List.take_add_one,List.getElem?_eq_getElem hi]
 unfold qc
 rw[List.pairwise_append]
 simp only[Option.toList_some,List.pairwise_singleton,true_and,List.mem_singleton,forall_eq]
 constructor
 ·rintro ⟨h1,h2⟩
  exact ⟨h1,h2 _ (List.mem_take_iff_getElem.2 ⟨i-1,by omega,rfl⟩)⟩
 ·rintro ⟨h1,h2⟩
  refine ⟨h1,fun a ha=>?_⟩
  obtain ⟨j,hj,rfl⟩:=List.mem_take_iff_getElem.1 ha
  rcases Nat.lt_or_ge j (i-1) with q | q
  ·have:=(List.pairwise_iff_getElem.1 h1) j (i-1) (by simp;omega) (by simp;omega) q
   simp at this
   omega
  ·have:j=i-1:=by omega
   subst this;exact h2
instance (xs:List zy):Decidable (qc xs):=by unfold qc;infer_instance
theorem VD (f:FsV) (hl:f.xs.length<=100000):Fun Tryz.prog G 49 [.agg (fsC f)] (.sc (.bool (decide (qc f.xs)))) 0:=by
 have hll:(zp f.xs).length=f.xs.length:=List.length_map ..
 refine Fun.of (fun _=>[]) Tryz.func49 rfl (zi rfl) (by kernel_rfl) ?_;dsimp only[Tryz.f49]
 push_cast -dsimp
 refine loop (fun i:Nat=>⟨[(1,.ptr 0 0),(3,.sc (.int .i64 i))],[fsC f],0,0⟩) (fun i=>1<=i/\qc (f.xs.take i)) (fun i=>f.xs.length-i) 1 ⟨Nat.le_refl _,by
  cases f.xs with
  | nil=>exact List.Pairwise.nil
  | cons x r=>exact List.pairwise_singleton _ _⟩ ?_ ?_
 ·exact zH.mk [] rfl rfl (Nat.zero_le _) rfl (by push_cast -dsimp [zb,za,CLe,zd]) (by push_cast -dsimp [zb,za,CLe,zd])
 ·rintro i ⟨h1,h2⟩
  by_cases h:i<f.xs.length
  ·have g1:=qS f.xs i h
   have g2:=qS f.xs (i-1) (by omega)
   have e1:(i:Int)-1=((i-1:Nat):Int):=by omega
   push_cast -dsimp [hll,h,e1,g1,g2]
   by_cases hc:f.xs[i].ino<=f.xs[i-1].ino
   ·push_cast -dsimp [hc]
    (try simp only[lS]);repeat refine And.intro (by omega) ?_
    have hn:¬qc f.xs:=fun hR=>by
     have:=(List.pairwise_iff_getElem.1 hR) (i-1) i (by omega) h (by omega)
     omega
    exact ⟨[],rfl,rfl,by push_cast -dsimp [zb,za,CLe,zd,hn]⟩
   ·push_cast -dsimp [hc]
    (try simp only[lS]);repeat refine And.intro (by omega) ?_
    exact ⟨i+1,⟨by omega,(zbh h (by omega)).2 ⟨h2,by omega⟩⟩,by omega,zH.mk [] rfl rfl (Nat.zero_le _) rfl (by push_cast -dsimp [zb,za,CLe,zd]) (by push_cast -dsimp [zb,za,CLe,zd])⟩
  ·push_cast -dsimp [hll,h]
   rw[List.take_of_length_le (by omega)]at h2
   exact ⟨[],rfl,rfl,by push_cast -dsimp [zb,za,CLe,zd,h2]⟩
def NS (x:zy):Prop:=x.data.length<=5000/\x.es.length<=40/\∀ e∈x.es,e.name.length<=300
instance (x:zy):Decidable (NS x):=by unfold NS;infer_instance
def Vi (xs:List zy):Prop:=xs.length<=40/\∀ x∈xs,NS x
instance (xs:List zy):Decidable (Vi xs):=by unfold Vi;infer_instance
structure FsS (f:FsV):Prop where
 len:f.xs.length<=10000
 node:∀ x∈f.xs,x.es.length<=10000/\x.data.length<=10000/\∀ e∈x.es,e.name.length<=10000
theorem Vi.fs {f:FsV} (h:Vi f.xs):FsS f:=⟨by have:=h.1;omega,fun x hx=>by
 obtain ⟨h1,h2,h3⟩:=h.2 x hx
 exact ⟨by omega,by omega,fun e he=>by have:=h3 e he;omega⟩⟩
theorem vc (f:FsV):Fun Tryz.prog G 36 [.agg (fsC f)] (.sc (.bool (decide (Vi f.xs)))) 0:=by
 have hll:(zp f.xs).length=f.xs.length:=List.length_map ..
 refine Fun.of (fun _=>[]) Tryz.func36 rfl (zi rfl) (by kernel_rfl) ?_;dsimp only[Tryz.f36]
 push_cast -dsimp
 refine loop (fun i:Nat=>⟨[(1,.ptr 0 0),(3,.sc (.int .i64 i))],[fsC f],0,0⟩) (fun i=>i<=100/\∀ t (h:t<f.xs.length),t<i->NS f.xs[t]) (fun i=>100-i) 0 ⟨Nat.zero_le _,fun t h h'=>absurd h' (Nat.not_lt_zero _)⟩ ?_ ?_
 ·exact zH.mk [] rfl rfl (Nat.zero_le _) rfl (by push_cast -dsimp [zb,za,CLe,zd]) (by push_cast -dsimp [zb,za,CLe,zd])
 ·rintro i ⟨h1,h2⟩
  have hend:¬(i<f.xs.length/\i<100)->decide ((f.xs.length:Int)<=40)=decide (Vi f.xs):=fun h=>by
   rw[decide_eq_decide]
   constructor
   ·intro hle
    refine ⟨by omega,fun x hx=>?_⟩
    obtain ⟨t,ht,rfl⟩:=List.getElem_of_mem hx
    exact h2 t ht (by omega)
   ·intro h;have:=h.1;omega
  by_cases h:i<f.xs.length
  ·by_cases h100:i<100
   ·have g1:=qS f.xs i h
    have h100':(i:Int)<100:=by omega
    have hbad:¬NS f.xs[i]->¬Vi f.xs:=fun hs hf=>hs (hf.2 _ (List.getElem_mem h))
    by_cases hd:5000<(f.xs[i].data.length:Int)
    ·have hn:=hbad fun hs=>by have:=hs.1;omega
     push_cast -dsimp [hll,h,h100',g1,hd]
     (try simp only[lS]);repeat refine And.intro (by omega) ?_
     exact ⟨[],rfl,rfl,by push_cast -dsimp [zb,za,CLe,zd,hn]⟩
    ·by_cases he:40<(f.xs[i].es.length:Int)
     ·have hn:=hbad fun hs=>by have:=hs.2.1;omega
      push_cast -dsimp [hll,h,h100',g1,hd,List.length_map,he]
      (try simp only[lS]);repeat refine And.intro (by omega) ?_
      exact ⟨[],rfl,rfl,by push_cast -dsimp [zb,za,CLe,zd,hn]⟩
     ·push_cast -dsimp [hll,h,h100',g1,hd,List.length_map,he]
      (try simp only[lS]);repeat refine And.intro (by omega) ?_
      refine loop (fun j:Nat=>⟨[(1,.ptr 0 0),(3,.sc (.int .i64 i)),(4,.ptr 1 0),(5,.sc (.int .i64 j))],[fsC f,JU f.xs[i]],0,0⟩) (fun j=>j<=f.xs[i].es.length/\∀ t (h':t<f.xs[i].es.length),t<j->f.xs[i].es[t].name.length<=300) (fun j=>f.xs[i].es.length-j) 0 ⟨Nat.zero_le _,fun t h h'=>absurd h' (Nat.not_lt_zero _)⟩ ?_ ?_
      ·exact zH.mk [] rfl rfl (Nat.zero_le _) rfl (by push_cast -dsimp [zb,za,CLe,zd]) (by push_cast -dsimp [zb,za,CLe,zd])
      ·rintro j ⟨h3,h4⟩
       by_cases hj:j<f.xs[i].es.length
       ·have g2:=j0 f.xs[i].es j hj
        by_cases hs:300<(f.xs[i].es[j].name.length:Int)
        ·have hn:=hbad fun hs'=>by have:=hs'.2.2 _ (List.getElem_mem hj);omega
         push_cast -dsimp [List.length_map,hj,g2,hs]
         (try simp only[lS]);repeat refine And.intro (by omega) ?_
         exact ⟨[],rfl,rfl,by push_cast -dsimp [zb,za,CLe,zd,hn]⟩
        ·push_cast -dsimp [List.length_map,hj,g2,hs]
         (try simp only[lS]);repeat refine And.intro (by omega) ?_
         refine ⟨j+1,⟨hj,fun t ht hlt=>?_⟩,by omega,zH.mk [] rfl rfl (Nat.zero_le _) rfl (by push_cast -dsimp [zb,za,CLe,zd]) (by push_cast -dsimp [zb,za,CLe,zd])⟩
         rcases Nat.lt_or_ge t j with q | q
         ·exact h4 t ht q
         ·have:t=j:=by omega
          subst this;omega
       ·push_cast -dsimp [List.length_map,hj]
        (try simp only[lS]);repeat refine And.intro (by omega) ?_
        refine ⟨i+1,⟨by omega,fun t ht hlt=>?_⟩,by omega,zH.mk [] rfl rfl (Nat.zero_le _) rfl (by push_cast -dsimp [zb,za,CLe,zd]) (by push_cast -dsimp [zb,za,CLe,zd])⟩
        rcases Nat.lt_or_ge t i with q | q
        ·exact h2 t ht q
        ·have:t=i:=by omega
         subst this
         refine ⟨by omega,by omega,fun e hee=>?_⟩
         obtain ⟨u,hu,rfl⟩:=List.getElem_of_mem hee
         exact h4 u hu (by omega)
   ·have h100':((i:Int)<100)=False:=eq_false (by omega)
    have:=hend (by omega)
    push_cast -dsimp [hll,h,h100']
    exact ⟨[],rfl,rfl,by push_cast -dsimp [zb,za,CLe,zd,this]⟩
  ·have:=hend (by omega)
   push_cast -dsimp [hll,h]
   exact ⟨[],rfl,rfl,by push_cast -dsimp [zb,za,CLe,zd,this]⟩
theorem Nb (f:FsV) (n:Int) (hl:f.xs.length<=90000) :
  Fun Tryz.prog G 107 [.agg (fsC f),.sc (.int .i64 n)] (.agg [.sc (.int .i64 f.maxI),.sc (.int .i64 f.maxB),.sc (.int .i64 f.next),.own 0 75 6 (zp (qk n f.xs))]) 1:=by
 have hll:(zp f.xs).length=f.xs.length:=List.length_map ..
 refine Fun.of (fun _=>[]) Tryz.func107 rfl (zi rfl) (by kernel_rfl) ?_;dsimp only[Tryz.f107]
 push_cast -dsimp
 refine loop (fun i:Nat=>⟨[(1,.sc (.int .i64 n)),(2,.ptr 0 0),(4,.ptr 1 0),(5,.own 0 75 6 (zp (qk n (f.xs.take i)))),(6,.sc (.int .i64 i))],[fsC f,[.sc (.int .i64 0),.sc (.int .i64 0),.sc (.int .i64 0),.sc (.slice none 0 0)]],1,0⟩) (fun i=>i<=f.xs.length) (fun i=>f.xs.length-i) 0 (Nat.zero_le _) ?_ ?_
 ·exact zH.mk [.inr (75,6)] rfl rfl (Nat.zero_le _) rfl (by push_cast -dsimp [zb,za,CLe,zd,qk,List.filter_nil]) (by push_cast -dsimp [zb,za,CLe,zd])
 ·intro i h1
  by_cases h:i<f.xs.length
  ·have g1:=qS f.xs i h
   have ht:qk n (f.xs.take (i+1))=qk n (f.xs.take i)++qk n [f.xs[i]]:=by
    unfold qk;rw[List.take_add_one,List.getElem?_eq_getElem h,List.filter_append];rfl
   have hle:(qk n (f.xs.take i)).length<=i:=Nat.le_trans Q9 (by simp;omega)
   by_cases hc:f.xs[i].ino=n
   ·have ht:qk n (f.xs.take (i+1))=qk n (f.xs.take i):=by rw[ht,j7 hc];simp[qk]
    push_cast -dsimp [hll,h,g1,hc]
    (try simp only[lS]);repeat refine And.intro (by omega) ?_
    exact ⟨i+1,h,by omega,zH.mk [.inl 0] rfl rfl (Nat.zero_le _) rfl (by push_cast -dsimp [zb,za,CLe,zd,ht]) (by push_cast -dsimp [zb,za,CLe,zd])⟩
   ·have ht:qk n (f.xs.take (i+1))=qk n (f.xs.take i)++[f.xs[i]]:=by rw[ht,Jy hc];simp[qk]
    push_cast -dsimp [hll,h,g1,hc]
    (try simp only[lS]);repeat refine And.intro (by omega) ?_
    exact ⟨i+1,h,by omega,zH.mk [.inl 0] rfl rfl (Nat.zero_le _) rfl (by push_cast -dsimp [zb,za,CLe,zd,ht,List.map_append]) (by push_cast -dsimp [zb,za,CLe,zd])⟩
  ·rw[List.take_of_length_le (by omega)]
   push_cast -dsimp [hll,h]
   exact ⟨[.inl 0],rfl,rfl,by push_cast -dsimp [zb,za,CLe,zd]⟩
theorem jV (f:FsV) (x:zy) (hl:f.xs.length<=90000) :
  Fun Tryz.prog G 63 [.agg (fsC f),.agg (JU x)] (.agg [.sc (.int .i64 f.maxI),.sc (.int .i64 f.maxB),.sc (.int .i64 f.next),.own 0 75 6 (zp (qH x f.xs))]) 1:=by
 have hdl:(qk x.ino f.xs).length<=90000:=Nat.le_trans Q9 hl
 have hl2:(zp (qk x.ino f.xs)).length=(qk x.ino f.xs).length:=List.length_map ..
 refine Fun.of (fun _=>[]) Tryz.func63 rfl (zi rfl) (by kernel_rfl) ?_;dsimp only[Tryz.f63]
 push_cast -dsimp
 refine cl (Nb f x.ino hl) ?_;push_cast -dsimp
 unfold qH
 generalize qk x.ino f.xs=rest at hdl hl2
 refine loop (fun p:Nat×List zy×Bool=>⟨[(2,.ptr 0 0),(3,.ptr 1 0),(4,.ptr 2 0),(5,.sl 6 (zp rest)),(6,.own 0 75 6 (zp p.2.1)),(7,.sc (.bool p.2.2)),(8,.sc (.int .i64 p.1))],[fsC f,JU x,[.sc (.int .i64 0),.sc (.int .i64 0),.sc (.int .i64 0),.sc (.slice none 0 0)]],1,0⟩)
  (fun p=>p.1<=rest.length/\p.2.1.length<=p.1+p.2.2.toNat/\QX x rest=p.2.1++(if p.2.2 then rest.drop p.1 else QX x (rest.drop p.1))) (fun p=>rest.length-p.1) (0,[],false) ⟨Nat.zero_le _,Nat.zero_le _,by simp⟩ ?_ ?_
 ·exact zH.mk [.inr (75,6)] rfl rfl (Nat.zero_le _) rfl (by push_cast -dsimp [zb,za,CLe,zd]) (by push_cast -dsimp [zb,za,CLe,zd])
 ·rintro ⟨i,out,d⟩ ⟨h1,h2,h3⟩
  dsimp only at h1 h2 h3 ⊢
  have hlo:(zp out).length=out.length:=List.length_map ..
  by_cases h:i<rest.length
  ·have g1:=qS rest i h
   rw[List.drop_eq_getElem_cons h]at h3
   cases d with
   | true =>
    simp only[Bool.toNat_true]at h2
    push_cast -dsimp [hl2,h,g1]
    (try simp only[lS]);repeat refine And.intro (by omega) ?_
    exact ⟨(i+1,out++[rest[i]],true),⟨h,by simp;omega,by rw[h3];simp⟩,by dsimp only;omega,zH.mk [.inl 0] rfl rfl (Nat.zero_le _) rfl (by push_cast -dsimp [zb,za,CLe,zd,List.map_append]) (by push_cast -dsimp [zb,za,CLe,zd])⟩
   | false =>
    simp only[Bool.false_eq_true,if_false,QX]at h3
    simp only[Bool.toNat_false]at h2
    by_cases hc:x.ino<rest[i].ino
    ·rw[if_pos hc]at h3
     push_cast -dsimp [hl2,h,g1,hc]
     (try simp only[lS]);repeat refine And.intro (by omega) ?_
     exact ⟨(i+1,out++[x]++[rest[i]],true),⟨h,by simp;omega,by rw[h3];simp⟩,by dsimp only;omega,zH.mk [.inl 0] rfl rfl (Nat.zero_le _) rfl (by push_cast -dsimp [zb,za,CLe,zd,List.map_append]) (by push_cast -dsimp [zb,za,CLe,zd])⟩
    ·rw[if_neg hc]at h3
     push_cast -dsimp [hl2,h,g1,hc]
     (try simp only[lS]);repeat refine And.intro (by omega) ?_
     exact ⟨(i+1,out++[rest[i]],false),⟨h,by simp;omega,by rw[h3];simp⟩,by dsimp only;omega,zH.mk [.inl 0] rfl rfl (Nat.zero_le _) rfl (by push_cast -dsimp [zb,za,CLe,zd,List.map_append]) (by push_cast -dsimp [zb,za,CLe,zd])⟩
  ·rw[List.drop_of_length_le (by omega)]at h3
   cases d with
   | true =>
    simp only[Bool.toNat_true]at h2
    have h3:QX x rest=out:=by rw[h3];simp
    push_cast -dsimp [hl2,h]
    exact ⟨[.inl 0],rfl,rfl,by push_cast -dsimp [zb,za,CLe,zd,h3]⟩
   | false =>
    simp only[Bool.toNat_false]at h2
    have h3:QX x rest=out++[x]:=by rw[h3];simp[QX]
    push_cast -dsimp [hl2,h]
    (try simp only[lS]);repeat refine And.intro (by omega) ?_
    exact ⟨[.inl 0],rfl,rfl,by push_cast -dsimp [zb,za,CLe,zd,h3,List.map_append]⟩
theorem zim (i b:Int):Fun Tryz.prog G 62 [.sc (.int .i64 i),.sc (.int .i64 b)] (.agg [.sc (.int .i64 i),.sc (.int .i64 b),.sc (.int .i64 2),.own 0 75 6 (zp [⟨1,2,0,[],1,[]⟩])]) 1:=by
 refine Fun.resX (r:=.agg [.sc (.int .i64 i),.sc (.int .i64 b),.sc (.int .i64 2),.own 0 75 6 [[.sc (.int .i64 1),.sc (.int .i64 2),.sc (.int .i64 0),.str [],.sc (.int .i64 1),.sc (.slice none 0 0)]]]) ?_ fun R L v h =>
  zaQ (fun vs=>Yq (fun v h=>h) (fun vs=>Yq (fun v h=>h) fun vs=>Yq (fun v h=>h) fun vs=>Yq (fun v=>zis) fun vs h=>h)) h
 refine Fun.of (fun _=>[]) Tryz.func62 rfl (zi rfl) (by kernel_rfl) ?_;dsimp only[Tryz.f62]
 push_cast -dsimp
 exact ⟨[.inl 0],rfl,rfl,by push_cast -dsimp [zb,za,CLe,zd]⟩
end
end
section
open Go.RowKit
section
variable {G:zm}
theorem zho {n:Int} {xs:List zy} {i:Nat} (h:i<xs.length):zF n (xs.take (i+1))=(zF n (xs.take i)||(xs[i].ino==n)):=by
 unfold zF
 rw[List.take_add_one,List.getElem?_eq_getElem h,List.any_append]
 simp
theorem ziH {n:Int} {xs:List zy} {i:Nat} (h:i<xs.length) (h0:zF n (xs.take i)=false) (he:xs[i].ino=n):zF n xs=true/\zg n xs=xs[i]:=by
 refine ⟨List.any_eq_true.2 ⟨xs[i],List.getElem_mem h,by simp[he]⟩,?_⟩
 unfold zg YU
 rw[List.find?_eq_some_iff_getElem (b:=xs[i]) |>.2 ⟨by simp[he],i,h,rfl,fun j hj=>?_⟩]
 ·rfl
 ·unfold zF at h0
  rw[List.any_eq_false]at h0
  have:=h0 xs[j] (List.mem_take_iff_getElem.2 ⟨j,by omega,rfl⟩)
  simpa using this
theorem qC (f:FsV) (n:Int) (hl:f.xs.length<=100000):Fun Tryz.prog G 52 [.agg (fsC f),.sc (.int .i64 n)] (.tup [.agg (JU (zg n f.xs)),.sc (.bool (zF n f.xs))]) 0:=by
 have hll:(zp f.xs).length=f.xs.length:=List.length_map ..
 refine Fun.of (fun _=>[]) Tryz.func52 rfl (zi rfl) (by kernel_rfl) ?_;dsimp only[Tryz.f52]
 push_cast -dsimp
 refine loop (fun i:Nat=>⟨[(1,.sc (.int .i64 n)),(2,.ptr 0 0),(4,.ptr 1 0),(6,.sc (.int .i64 i))],[fsC f,[.sc (.int .i64 0),.sc (.int .i64 0),.sc (.int .i64 0),.str [],.sc (.int .i64 0),.sc (.slice none 0 0)]],0,0⟩) (fun i=>i<=f.xs.length/\zF n (f.xs.take i)=false) (fun i=>f.xs.length-i) 0 ⟨Nat.zero_le _,rfl⟩ ?_ ?_
 ·exact zH.mk [] rfl rfl (Nat.zero_le _) rfl (by push_cast -dsimp [zb,za,CLe,zd]) (by push_cast -dsimp [zb,za,CLe,zd])
 ·rintro i ⟨h1,h2⟩
  by_cases h:i<f.xs.length
  ·have g1:=qS f.xs i h
   by_cases he:f.xs[i].ino=n
   ·obtain ⟨q1,q2⟩:=ziH h h2 he
    push_cast -dsimp [hll,h,g1,he]
    (try simp only[lS]);repeat refine And.intro (by omega) ?_
    exact ⟨[],rfl,rfl,by push_cast -dsimp [zb,za,CLe,zd,q1,q2,he]⟩
   ·have q:=zho (n:=n) h
    rw[h2,show (f.xs[i].ino==n)=false from beq_eq_false_iff_ne.2 he]at q
    push_cast -dsimp [hll,h,g1,he]
    (try simp only[lS]);repeat refine And.intro (by omega) ?_
    exact ⟨i+1,⟨h,q⟩,by omega,zH.mk [] rfl rfl (Nat.zero_le _) rfl (by push_cast -dsimp [zb,za,CLe,zd]) (by push_cast -dsimp [zb,za,CLe,zd])⟩
  ·rw[List.take_of_length_le (by omega)]at h2
   have hg:zg n f.xs=zj7:=by unfold zg;rw[Hz h2];rfl
   push_cast -dsimp [hll,h]
   exact ⟨[],rfl,rfl,by push_cast -dsimp [zb,za,CLe,zd,hg,h2,zj7]⟩
def ja (xs:List zy):Nat:=((xs.filter fun x=>decide (x.kind=1)).map fun x=>x.data.length).sum
theorem Uo:∀ {xs:List zy} {n:Nat},(∀ x∈xs,x.data.length<=n)->ja xs<=xs.length*n
 | [],n,_=>by simp[ja]
 | x :: r,n,h=>by
  have ih:=Uo (xs:=r) (n:=n) fun y hy=>h y (List.mem_cons_of_mem _ hy)
  have hx:=h x List.mem_cons_self
  unfold ja at ih ⊢
  rw[List.filter_cons]
  split
  ·simp only[List.map_cons,List.sum_cons,List.length_cons]
   rw[Nat.succ_mul];omega
  ·rw[List.length_cons,Nat.succ_mul];omega
theorem FsS.bytes {f:FsV} (h:FsS f):ja f.xs<=100000000:=by
 have h1:=Uo (xs:=f.xs) (n:=10000) fun x hx=>(h.node x hx).2.1
 have h2:=h.len
 have:f.xs.length*10000<=10000*10000:=Nat.mul_le_mul_right _ h2
 omega
theorem kZ {xs:List zy} {i:Nat} (h:i<xs.length):ja (xs.take (i+1))=ja (xs.take i)+if xs[i].kind=1 then xs[i].data.length else 0:=by
 unfold ja
 rw[List.take_add_one,List.getElem?_eq_getElem h,List.filter_append,List.map_append,List.sum_append]
 by_cases hk:xs[i].kind=1<;>simp[hk]
theorem Mu (f:FsV) (hf:FsS f):Fun Tryz.prog G 114 [.agg (fsC f)] (.sc (.int .i64 (ja f.xs:Nat))) 0:=by
 have hll:(zp f.xs).length=f.xs.length:=List.length_map ..
 have h40:=hf.len
 have hb0:ja []=0:=rfl
 refine Fun.of (fun _=>[]) Tryz.func114 rfl (zi rfl) (by kernel_rfl) ?_;dsimp only[Tryz.f114]
 push_cast -dsimp
 refine loop (fun i:Nat=>⟨[(1,.ptr 0 0),(3,.sc (.int .i64 (ja (f.xs.take i):Nat))),(4,.sc (.int .i64 i))],[fsC f],0,0⟩) (fun i=>i<=f.xs.length/\ja (f.xs.take i)<=i*10000) (fun i=>f.xs.length-i) 0 ⟨Nat.zero_le _,Nat.zero_le _⟩ ?_ ?_
 ·exact zH.mk [] rfl rfl (Nat.zero_le _) rfl (by push_cast -dsimp [zb,za,CLe,zd,hb0,List.take_zero]) (by push_cast -dsimp [zb,za,CLe,zd])
 ·rintro i ⟨h1,h2⟩
  by_cases h:i<f.xs.length
  ·have g1:=qS f.xs i h
   have hd:=(hf.node _ (List.getElem_mem h)).2.1
   have q:=kZ h
   by_cases hk:f.xs[i].kind=1
   ·rw[if_pos hk]at q
    have q':((ja (f.xs.take (i+1)):Nat):Int)=(ja (f.xs.take i):Int)+(f.xs[i].data.length:Int):=by omega
    push_cast -dsimp [hll,h,g1,hk]
    (try simp only[lS]);repeat refine And.intro (by omega) ?_
    exact ⟨i+1,⟨h,by omega⟩,by omega,zH.mk [] rfl rfl (Nat.zero_le _) rfl (by push_cast -dsimp [zb,za,CLe,zd,q']) (by push_cast -dsimp [zb,za,CLe,zd])⟩
   ·rw[if_neg hk]at q
    have q':ja (f.xs.take (i+1))=ja (f.xs.take i):=by omega
    push_cast -dsimp [hll,h,g1,hk]
    (try simp only[lS]);repeat refine And.intro (by omega) ?_
    exact ⟨i+1,⟨h,by omega⟩,by omega,zH.mk [] rfl rfl (Nat.zero_le _) rfl (by push_cast -dsimp [zb,za,CLe,zd,q']) (by push_cast -dsimp [zb,za,CLe,zd])⟩
  ·rw[List.take_of_length_le (by omega)]
   push_cast -dsimp [hll,h]
   exact ⟨[],rfl,rfl,by push_cast -dsimp [zb,za,CLe,zd]⟩
end
end
section
open Go.RowKit
abbrev G0:zm:=fun _=>none
abbrev zl3 (l:List UInt8):List C:=[.str l]
def Zx (s:List (List UInt8)×List UInt8) (b:UInt8):List (List UInt8)×List UInt8:=
 if b=47 then (if s.2 = [] then s.1 else s.1++[s.2],[]) else (s.1,s.2++[b])
def ziW (s:List (List UInt8)×List UInt8):List (List UInt8):=if s.2 = [] then s.1 else s.1++[s.2]
def nst (l:List UInt8) (k:Nat):List (List UInt8)×List UInt8:=if k<=l.length then (l.take k).foldl Zx ([],[]) else (ziW (l.foldl Zx ([],[])),[])
def zJ (l:List UInt8):List (List UInt8):=ziW (l.foldl Zx ([],[]))
theorem vZ (l:List UInt8):nst l 0=([],[]):=by simp[nst]
theorem vl (l:List UInt8) (k:Nat) (b:UInt8) (h:l[k]?=some b):nst l (k+1)=Zx (nst l k) b:=by
 have hk:k<l.length:=(List.getElem?_eq_some_iff.1 h).1
 unfold nst
 rw[if_pos (by omega),if_pos (by omega),List.take_add_one,h]
 simp
theorem zdp (l:List UInt8):nst l (l.length+1)=(zJ l,[]):=by
 unfold nst zJ
 rw[if_neg (by omega)]
theorem zdY (l:List UInt8):ziW (nst l l.length)=zJ l:=by
 unfold nst zJ
 rw[if_pos (Nat.le_refl _),List.take_length]
theorem H4 (l:List UInt8):∀ k,k<=l.length->(nst l k).1.length+(nst l k).2.length<=k
 | 0,_=>by simp[vZ]
 | k+1,h=>by
  have hk:k<l.length:=by omega
  have ih:=H4 l k (by omega)
  rw[vl l k l[k] (List.getElem?_eq_getElem hk)]
  unfold Zx
  by_cases h47:l[k]=47
  ·rw[if_pos h47]
   by_cases h2:(nst l k).2 = []
   ·simp[h2];omega
   ·have:0<(nst l k).2.length:=List.length_pos_iff.2 h2
    simp[h2];omega
  ·rw[if_neg h47];simp;omega
theorem j6 (l:List UInt8):(zJ l).length<=l.length:=by
 rw[←zdY]
 have:=H4 l l.length (Nat.le_refl _)
 unfold ziW
 split
 ·omega
 ·rename_i h
  have:0<(nst l l.length).2.length:=List.length_pos_iff.2 h
  simp;omega
theorem zh7 {b c:UInt8} (h:b≠c):¬((b.toNat:Int)=(c.toNat:Int)):=fun e=>h (UInt8.toNat_inj.1 (by omega))
theorem zfe {α:Type} (l:List α) (k:Nat) (b:α) (h:l[k]?=some b):(l.take (k+1)).drop k = [b]:=by
 have hk:k<l.length:=(List.getElem?_eq_some_iff.1 h).1
 rw[List.take_add_one,h,List.drop_append]
 simp[Nat.min_eq_left (by omega:k<=l.length)]
theorem V0 (l:List UInt8) (h:l.length<=100000):Fun Tryz.prog G0 74 [.str l] (.own 0 9 1 ((zJ l).map zl3)) 1:=by
 refine Fun.of (fun _=>[]) Tryz.func74 rfl (zi rfl) (by kernel_rfl) ?_;dsimp only[Tryz.f74]
 push_cast -dsimp
 refine loop (fun k:Nat=>⟨[(0,.str l),(3,.own 0 9 1 ((nst l k).1.map zl3)),(4,.str (nst l k).2),(5,.sc (.int .i64 k))],[],1,0⟩) (fun k=>k<=l.length+1) (fun k=>l.length+1-k) 0 (Nat.zero_le _) ?_ ?_
 ·refine zH.mk [.inr (9,1)] rfl rfl (Nat.le_refl _) rfl ?_ trivial
  push_cast -dsimp [zb,za,CLe,zd]
  simp[vZ]
 ·intro k hk
  push_cast -dsimp
  by_cases h1:k<=l.length
  ·have hs:=H4 l k h1
   by_cases h2:k<l.length
   ·obtain ⟨b,hb⟩:∃ b,l[k]?=some b:=⟨l[k],List.getElem?_eq_getElem h2⟩
    have hn:=vl l k b hb
    by_cases h3:b=47
    ·have h3':(b.toNat:Int)=47:=by subst h3;rfl
     by_cases h4:(nst l k).2 = []
     ·push_cast -dsimp [h1,h2,h3',hb,h4]
      and_intros<;>try omega
      refine ⟨k+1,by omega,by omega,zH.mk [.inl 0] rfl rfl (Nat.le_refl _) rfl ?_ trivial⟩
      push_cast -dsimp [zb,za,CLe,zd]
      simp[hn,Zx,h3,h4]
     ·push_cast -dsimp [h1,h2,h3',hb,h4]
      simp only[List.length_map,List.length_cons,List.length_nil]
      and_intros<;>try omega
      refine ⟨k+1,by omega,by omega,zH.mk [.inl 0] rfl rfl (Nat.le_refl _) rfl ?_ trivial⟩
      push_cast -dsimp [zb,za,CLe,zd]
      simp[hn,Zx,h3,h4,zl3]
    ·have h3':¬((b.toNat:Int)=47):=zh7 h3
     push_cast -dsimp [h1,h2,h3',hb]
     rw[zfe l k b hb]
     and_intros<;>try omega
     ·simp;omega
     refine ⟨k+1,by omega,by omega,zH.mk [.inl 0] rfl rfl (Nat.le_refl _) rfl ?_ trivial⟩
     push_cast -dsimp [zb,za,CLe,zd]
     simp[hn,Zx,h3]
   ·obtain rfl:k=l.length:=by omega
    have hl:=zdY l
    have he:=zdp l
    have hz:=j6 l
    by_cases h4:(nst l l.length).2 = []
    ·push_cast -dsimp [h1,h2,h4]
     and_intros<;>try omega
     refine ⟨l.length+1,by omega,by omega,zH.mk [.inl 0] rfl rfl (Nat.le_refl _) rfl ?_ trivial⟩
     push_cast -dsimp [zb,za,CLe,zd]
     simp[he,←hl,ziW,h4]
    ·push_cast -dsimp [h1,h2,h4]
     simp only[List.length_map,List.length_cons,List.length_nil]
     and_intros<;>try omega
     refine ⟨l.length+1,by omega,by omega,zH.mk [.inl 0] rfl rfl (Nat.le_refl _) rfl ?_ trivial⟩
     push_cast -dsimp [zb,za,CLe,zd]
     simp[he,←hl,ziW,h4,zl3]
  ·obtain rfl:k=l.length+1:=by omega
   have he:=zdp l
   push_cast -dsimp [h1]
   exact ⟨[.inl 0],rfl,rfl,by push_cast -dsimp [zb,za,CLe,zd,he]⟩
end
section
open Go.RowKit
abbrev qZ (xs:List (List UInt8)):List (List C):=xs.map zl3
theorem xB (xs:List (List UInt8)):(qZ xs).length=xs.length:=List.length_map _
theorem zca (xs:List (List UInt8)) (x:List UInt8):qZ xs++[[.str x]]=qZ (xs++[x]):=by simp
theorem strs_get? (xs:List (List UInt8)) (k:Nat):(qZ xs)[k]?=(xs[k]?).map zl3:=List.getElem?_map
theorem ze2 (xs:List (List UInt8)) (k:Nat):(qZ xs).drop k=qZ (xs.drop k):=List.map_drop.symm
theorem zcD (xs:List (List UInt8)) (k:Nat):(qZ xs).take k=qZ (xs.take k):=List.map_take.symm
theorem yI (xs ys:List (List UInt8)):qZ xs++qZ ys=qZ (xs++ys):=List.map_append.symm
theorem ZM (xs:List (List UInt8)) (k:Nat) (h:k<xs.length):(qZ xs)[k]?=some [.str (xs[k]'h)]:=by rw[strs_get?,List.getElem?_eq_getElem h];rfl
attribute [push_cast] xB zca ze2 zcD yI
abbrev qD (b:Bool):C:=.sc (.bool b)
theorem zgw (a b:List (List UInt8)) (ha:a.length<=9223372036854775807):Fun Tryz.prog G0 61 [.sl 1 (qZ a),.sl 1 (qZ b)] (qD (decide (a=b))) 0:=by
 by_cases hl:a.length=b.length
 ·refine Fun.of (fun _=>[]) Tryz.func61 rfl (zi rfl) (by kernel_rfl) ?_;dsimp only[Tryz.f61]
  push_cast -dsimp [hl]
  refine loop (fun k:Nat=>⟨[(0,.sl 1 (qZ a)),(1,.sl 1 (qZ b)),(5,.sc (.int .i64 k))],[],0,0⟩) (fun k=>k<=a.length/\a.take k=b.take k) (fun k=>a.length-k) 0 ⟨Nat.zero_le _,rfl⟩ ?_ ?_
  ·exact zH.mk [] rfl rfl (Nat.le_refl _) rfl (by push_cast -dsimp [zb,za,CLe,zd]) (by push_cast -dsimp [zb,za,CLe,zd])
  ·intro k hk
   have hk1:=hk.1
   have hk2:=hk.2
   by_cases h:k<a.length
   ·have hga:=ZM a k h
    have hgb:=ZM b k (by omega)
    by_cases he:a[k]'h=b[k]'(by omega)
    ·push_cast -dsimp [h,hga,hgb,he]
     refine ⟨by omega,by omega,by omega,k+1,⟨by omega,?_⟩,by omega,zH.mk [] rfl rfl (Nat.le_refl _) rfl (by push_cast -dsimp [zb,za,CLe,zd]) (by push_cast -dsimp [zb,za,CLe,zd])⟩
     rw[List.take_add_one,List.take_add_one,hk2,List.getElem?_eq_getElem h,List.getElem?_eq_getElem (by omega:k<b.length),he]
    ·push_cast -dsimp [h,hga,hgb,he]
     refine ⟨by omega,by omega,[],rfl,rfl,?_⟩
     push_cast -dsimp [zb,za,CLe,zd]
     have:a≠b:=fun e=>he (by subst e;rfl)
     simp[this]
   ·have hkl:k=a.length:=by omega
    push_cast -dsimp [h]
    refine ⟨[],rfl,rfl,?_⟩
    push_cast -dsimp [zb,za,CLe,zd]
    rw[hkl,List.take_length,hl,List.take_length]at hk2
    simp[hk2]
 ·have hl':¬((a.length:Int)=(b.length:Int)):=by omega
  refine Fun.of (fun _=>[]) Tryz.func61 rfl (zi rfl) (by kernel_rfl) ?_;dsimp only[Tryz.f61]
  push_cast -dsimp [hl]
  refine ⟨[],rfl,rfl,?_⟩
  push_cast -dsimp [zb,za,CLe,zd]
  have:a≠b:=fun e=>hl (by rw[e])
  simp[this]
def few (l:List (List UInt8)):Bool:=(l.take 100).all (fun x=>decide (x.length<=300))&&decide (l.length<=40)
end
end Go.Proofs.YtiblepfehggicaaGreatDoor.Vcg
