/- What the proof of DraftMakes leans on, part 2: Vcg24 Vcg25 Vcg13 Vcg14 Vcg15 Vcg16 Vcg20 Vcg21 Vcg22 Vcg27 Vcg30 Vcg31 Vcg32 Vcg33 Vcg34 Vcg17. No condition beyond what each theorem states. -/
import Derived.Test.YtiblepfehggicaaGreatDoorDraftMakesKa
import Derived.Lib.AppendZerosOnto
import Derived.RangeFuncSeq
import Derived.OrdersIn
import Derived.RangeFuncNested
import Derived.RangeFuncLeaves
set_option linter.unusedVariables false
set_option linter.unusedSimpArgs false
set_option linter.unusedSectionVars false
set_option maxRecDepth 100000
set_option maxHeartbeats 4000000
namespace Go.Proofs.YtiblepfehggicaaGreatDoor.Vcg
section
open Go.RowKit
def C.flatB:C->Bool
 | .sc _=>true
 | .str _=>true
 | _=>false
mutual
/-- what leans on no memory but its own owners' -/
def C.freshB:C->Bool
 | .sc _=>true
 | .str _=>true
 | .agg cs=>C.freshL cs
 | .tup cs=>C.freshL cs
 | .own _ _ _ rows=>rows.all fun r=>r.all C.flatB
 | _=>false
def C.freshL:List C->Bool
 | []=>true
 | c :: r=>c.freshB&&C.freshL r
end
mutual
/-- what is lent: a slice over a box as the rows that stand there; all else as handed in by value -/
def Xq (bx:List (List C)):C->C->Prop
 | .bs i off k n c,d=>∃ rows cs,d = .sl k rows/\rows.length=n/\n<=c/\c<=maxLen/\bx[i]?=some cs/\(∀ r∈rows,r.length=k)/\C.frzL ((cs.drop off).take (n*k))=rows.flatten
 | .agg cs,d=>∃ ds,d = .agg ds/\Xh bx cs ds
 | .ptr i off,d=>∃ cs,bx[i]?=some cs/\d = .row ((C.frzL cs).drop off)
 | .clo fn first cap,d=>∃ fs cs,d = .clo fn fs cs/\Xh bx first fs/\Xh bx cap cs
 | c,d=>d=c.frz
def Xh (bx:List (List C)):List C->List C->Prop
 | [],d=>d = []
 | c :: r,d=>∃ e s,d=e :: s/\Xq bx c e/\Xh bx r s
end
section
variable {P:Program} {G:zm} {E:Ctx} {σ:St} {o:Oper} {a:Act} {R R':Env} {L L':Loc} {bx:List (List C)} {B:Nat->Prop}
def Nv (R:Env) (L:Loc):Env:=⟨R.w,fun b o=>R.M b o/\b∉L.β,R.F⟩
theorem jn (R:Env) (L:Loc):Ext R (Nv R L):=⟨fun b o v h h'=>⟨h,fun x=>h' x.1⟩,fun _ _ _ _ h h'=>⟨h,fun o x=>h' o x.1⟩⟩
theorem zgx {c:C} {v:Value} (hc:c.flatB=true) (h:Rep R L c v):Rep R' L' c v:=by
 cases c<;>simp[C.flatB]at hc
 ·rw[zo]at h ⊢;exact h
 ·rw[zU]at h ⊢;exact h
theorem Gw:∀ (cs:List C) (i:Nat),(C.frzL cs)[i]?=(cs[i]?).map C.frz
 | [],i=>by simp[C.frzL]
 | c :: r,0=>by rw[C.frzL];rfl
 | c :: r,i+1=>by rw[C.frzL,List.getElem?_cons_succ,List.getElem?_cons_succ];exact Gw r i
theorem zeH {rows:List (List C)} {cs:List C} {vs:Array Value} {ty:TypeId} {b off k n:Nat} (hh:R.w.heap[b]?=some (.cells vs ty (0,0))) (hrep:zu R L cs vs.toList) (hone:∀ v∈vs.toList,v.oneCell'=true) (hb:b∈L.β)
  (hk:∀ r∈rows,r.length=k) (hn:rows.length=n) (hflat:C.frzL ((cs.drop off).take (n*k))=rows.flatten):zP (Nv R L) rows k b off:=by
 refine qP fun i row hrow=>⟨hk row (List.mem_of_getElem? hrow),z8 fun j c hc=>?_⟩
 have hj:j<k:=by rw[←hk row (List.mem_of_getElem? hrow)];exact (List.getElem?_eq_some_iff.1 hc).1
 have hf:=Y6 hk i j row hrow hj
 rw[hc,←hflat,Gw,List.getElem?_take]at hf
 split at hf
 ·rw[List.getElem?_drop,Option.map_eq_some_iff]at hf
  obtain ⟨c0,hf,rfl⟩:=hf
  obtain ⟨v,hv,hr⟩:=Jd hrep _ _ hf
  refine ⟨v,?_,fun h=>h.2 hb,Rep.ext (jn R L) (zK.refl _) _ _ (Rep.frz zI _ _ hr),hone v (List.mem_of_getElem? hv)⟩
  show R.w.cell? _=_
  rw[cell_of_row R.w b _ vs ty (0,0) hh,show off+i*k+j=off+(i*k+j) by omega]
  simpa using hv
 ·cases hf
mutual
theorem zfy (hb:jX R L bx):∀ (c d:C) (v:Value),Xq bx c d->Rep R L c v->Rep (Nv R L) zI d v
 | .bs i off k n cap,d,v,h,hv=>by
  unfold Xq at h
  obtain ⟨rows,cs,rfl,hn,hc,hm,hbx,hk,hflat⟩:=h
  unfold Rep at hv
  obtain ⟨b,hbi,ad,rfl,had⟩:=hv
  obtain ⟨vs,ty,e1,e2,e3,e4⟩:=hb.box i b cs hbi hbx
  unfold Rep
  refine ⟨some ad,cap,by rw[hn],by omega,hm,?_⟩
  cases rows with
  | nil=>exact .inl rfl
  | cons r0 rs=>exact .inr ⟨b,off,congrArg some (had (by simp at hn;omega)),zeH e1 e2 e3 (List.mem_of_getElem? hbi) hk hn hflat⟩
 | .agg cs,d,v,h,hv=>by
  unfold Xq at h
  obtain ⟨ds,rfl,h⟩:=h
  unfold Rep at hv ⊢
  obtain ⟨vs,e,hl⟩:=hv
  exact ⟨vs,e,YS hb cs ds _ h hl⟩
 | .sc u,d,v,h,hv=>by unfold Xq at h;subst h;exact Rep.ext (jn R L) (zK.refl _) _ _ (Rep.frz zI _ _ hv)
 | .str u,d,v,h,hv=>by unfold Xq at h;subst h;exact Rep.ext (jn R L) (zK.refl _) _ _ (Rep.frz zI _ _ hv)
 | .tup u,d,v,h,hv=>by unfold Xq at h;subst h;exact Rep.ext (jn R L) (zK.refl _) _ _ (Rep.frz zI _ _ hv)
 | .sl k u,d,v,h,hv=>by unfold Xq at h;subst h;exact Rep.ext (jn R L) (zK.refl _) _ _ (Rep.frz zI _ _ hv)
 | .tight k u,d,v,h,hv=>by unfold Xq at h;subst h;exact Rep.ext (jn R L) (zK.refl _) _ _ (Rep.frz zI _ _ hv)
 | .own i e k u,d,v,h,hv=>by unfold Xq at h;subst h;exact Rep.ext (jn R L) (zK.refl _) _ _ (Rep.frz zI _ _ hv)
 | .ptr i off,d,v,h,hv=>by
  unfold Xq at h
  obtain ⟨cs,hbx,rfl⟩:=h
  obtain ⟨b,hbi,e⟩:=Jh.1 hv
  obtain ⟨vs,ty,e1,e2,e3,e4⟩:=hb.box i b cs hbi hbx
  refine jZ.2 ⟨b,off,e,z8 fun j c hc=>?_⟩
  rw[List.getElem?_drop,Gw,Option.map_eq_some_iff]at hc
  obtain ⟨c0,hc,rfl⟩:=hc
  obtain ⟨u,hu,hr⟩:=Jd e2 _ _ hc
  refine ⟨u,?_,fun h=>h.2 (List.mem_of_getElem? hbi),Rep.ext (jn R L) (zK.refl _) _ _ (Rep.frz zI _ _ hr),e3 u (List.mem_of_getElem? hu)⟩
  show R.w.cell? _=_
  rw[cell_of_row R.w b _ vs ty (0,0) e1]
  simpa using hu
 | .mo i t u w,d,v,h,hv=>by unfold Xq at h;subst h;exact Rep.ext (jn R L) (zK.refl _) _ _ (Rep.frz zI _ _ hv)
 | .row u,d,v,h,hv=>by unfold Xq at h;subst h;exact Rep.ext (jn R L) (zK.refl _) _ _ (Rep.frz zI _ _ hv)
 | .clo f u w,d,v,h,hv=>by
  unfold Xq at h
  obtain ⟨fs,cs,rfl,h1,h2⟩:=h
  unfold Rep at hv ⊢
  obtain ⟨us,ws,e,h3,h4⟩:=hv
  exact ⟨us,ws,e,YS hb u fs _ h1 h3,YS hb w cs _ h2 h4⟩
 | .any,d,v,h,hv=>by unfold Xq at h;subst h;exact Rep.ext (jn R L) (zK.refl _) _ _ (Rep.frz zI _ _ hv)
theorem YS (hb:jX R L bx):∀ (cs ds:List C) (vs:List Value),Xh bx cs ds->zu R L cs vs->zu (Nv R L) zI ds vs
 | [],ds,vs,h,hv=>by
  unfold Xh at h;subst h
  rw[zj]at hv ⊢;exact hv
 | c :: r,ds,vs,h,hv=>by
  unfold Xh at h
  obtain ⟨e,s,rfl,h1,h2⟩:=h
  obtain ⟨v,us,rfl,g1,g2⟩:=ze.1 hv
  exact ze.2 ⟨v,us,rfl,zfy hb c e v h1 g1,YS hb r s us h2 g2⟩
end
def zia (R R':Env) (L:Loc):Env:=⟨R'.w,fun b o=>R'.M b o∨(b∈L.β/\R.M b o),R'.F⟩
mutual
theorem GV (hT:∀ id e k v,L'.T id=some (e,k,v)->∀ b,v.ownB=some b->b∉L.β):∀ (c:C) (v:Value),c.freshB=true->Rep R' L' c v->Rep (zia R R' L) L' c v
 | .sc u,v,_,h=>by rw[zo]at h ⊢;exact h
 | .str u,v,_,h=>by rw[zU]at h ⊢;exact h
 | .agg cs,v,hf,h=>by
  unfold C.freshB at hf
  unfold Rep at h ⊢
  obtain ⟨vs,e,hl⟩:=h
  exact ⟨vs,e,ZR hT cs _ hf hl⟩
 | .tup cs,v,hf,h=>by
  unfold C.freshB at hf
  unfold Rep at h ⊢
  obtain ⟨vs,e,hl⟩:=h
  exact ⟨vs,e,ZR hT cs _ hf hl⟩
 | .own id e k rows,v,hf,h=>by
  unfold C.freshB at hf
  unfold Rep at h ⊢
  obtain ⟨ht,a,cap,e1,h1,h2,h3⟩:=h
  refine ⟨ht,a,cap,e1,h1,h2,?_⟩
  rcases h3 with h3 | ⟨b,o,rfl,h3⟩
  ·exact .inl h3
  ·refine .inr ⟨b,o,rfl,qP fun i row hrow=>?_⟩
   obtain ⟨q1,q2⟩:=jk h3 i row hrow
   refine ⟨q1,z8 fun j c hc=>?_⟩
   obtain ⟨u,u1,u2,u3,u4⟩:=j8 q2 j c hc
   have hcf:c.flatB=true:=List.all_eq_true.1 (List.all_eq_true.1 hf row (List.mem_of_getElem? hrow)) c (List.mem_of_getElem? hc)
   refine ⟨u,u1,?_,zgx hcf u3,u4⟩
   rintro (g | ⟨g,_⟩)
   ·exact u2 g
   ·exact hT id e k v ht b (by rw[e1];rfl) g
 | .tight k rows,v,hf,h=>by simp[C.freshB]at hf
 | .sl k rows,v,hf,h=>by simp[C.freshB]at hf
 | .ptr i off,v,hf,h=>by simp[C.freshB]at hf
 | .row cs,v,hf,h=>by simp[C.freshB]at hf
 | .clo f a b,v,hf,h=>by simp[C.freshB]at hf
 | .bs i off k n c,v,hf,h=>by simp[C.freshB]at hf
 | .any,v,hf,h=>by simp[C.freshB]at hf
theorem ZR (hT:∀ id e k v,L'.T id=some (e,k,v)->∀ b,v.ownB=some b->b∉L.β):∀ (cs:List C) (vs:List Value),C.freshL cs=true->zu R' L' cs vs->zu (zia R R' L) L' cs vs
 | [],vs,_,h=>by rw[zj]at h ⊢;exact h
 | c :: r,vs,hf,h=>by
  simp only[C.freshL,Bool.and_eq_true]at hf
  obtain ⟨v,us,rfl,g1,g2⟩:=ze.1 h
  exact ze.2 ⟨v,us,rfl,GV hT c v hf.1 g1,ZR hT r us hf.2 g2⟩
end
theorem qp.back {n:Nat} (hβ:∀ b∈L.β,b<R.w.heap.size) (h:qp 0 n (Nv R L) zI R' L'):qp 0 n R zI (zia R R' L) L':=by
 refine ⟨h.below,h.fgn,h.box,fun b o hb=>?_,h.old,fun id e k v h1 h2 h3=>?_,h.apart⟩
 ·have hm:=h.mt b o hb
  show (R'.M b o∨(b∈L.β/\R.M b o))↔R.M b o
  rw[hm]
  show ((R.M b o/\b∉L.β)∨_)↔_
  by_cases hx:b∈L.β<;>simp[hx]
 ·exact (h.new id e k v h1 h2 h3).move fun g _ e2 _ e7=>⟨e2,rfl,e7,fun o ho=>.inl ho⟩
theorem qp.own_new {n:Nat} (hβ:∀ b∈L.β,b<R.w.heap.size) (h:qp 0 n (Nv R L) zI R' L'):∀ id e k v,L'.T id=some (e,k,v)->∀ b,v.ownB=some b->b∉L.β:=fun id e k v ht b hv hb=>by
 rcases Nat.lt_or_ge id n with hi | hi
 ·have e2:R.w.heap.size<=b:=((h.new id e k v (Nat.zero_le _) hi ht).block hv).1
  have:=hβ b hb
  omega
 ·rw[h.old id (.inr hi)]at ht;cases ht
theorem zak {ev:Operand->C} {nx:Nat} {c:Call} {f:Operand} (ho:o.op = .call c) (hc:c.callee = .value f) {fid:FuncId} {first cap:List C} (hev:ev f = .clo (.func fid) first cap) {fargs:List C} (hl:Xh bx (first++c.args.toList.map ev++cap) fargs) {r:C} {n:Nat} (hfun:Fun P G fid fargs r n) (hfr:r.freshB=true) :
  zB P G bx ev nx o (r.sh nx) (nx+n):=by
 refine ⟨by omega,fun B R L ρ hf hfree hr=>?_⟩
 have hx:=hr f;rw[hev,JH]at hx
 obtain ⟨fs,cs,e1,h1,h2⟩:=hx
 have hargs:zu (Nv R L) zI fargs (fs.toList++c.args.toList.map ρ++cs.toList):=
  YS hf.boxes _ _ _ hl (zn (zn h1 (Yr hr _)) h2)
 have hcall:=hfun.2 (Nv R L) _ (hf.glob.ext (jn R L)) hargs
 have hrun:(execOp ρ o).run P R.w = .ok (.enter fid (fs.toList++c.args.toList.map ρ++cs.toList).toArray) R.w:=by
  unfold execOp
  simp only[ho,resolve,hc,e1]
  have e2:(Deferred.ofValue (.func (.func fid) fs cs) (c.args.map ρ)).run P R.w = .ok { target:=.fn (.func fid) cs,args:=fs++c.args.map ρ } R.w:=by
   simp[Deferred.ofValue]
  rw[Sem.run_bind,e2]
  simp only[Result.andThen_ok,invoke]
  rw[QJ hfun.1]
  congr 2
  apply Array.ext'
  simp
 unfold je
 rw[hrun]
 refine hcall.mono fun e w'=>?_
 rintro ⟨v,R1,L',rfl,hw,hst1,hrep1⟩
 have hst:=hst1.back hf.β_lt
 have hrep:=GV (R:=R) (hst1.own_new hf.β_lt) _ _ hfr hrep1
 have hst':=hst.caller (nx:=nx) hf.β_lt
 refine ⟨v,rfl,zia R R1 L,_,hw,hst',?_⟩
 refine Rep.sh (fun i b hb=>?_) (fun i x hi=>?_) _ _ hrep
 ·rw[hst.box]at hb;simp at hb
 ·show (if nx<=nx+i/\nx+i<nx+n then L'.T (nx+i-nx) else _)=some x
  have hin:i<n:=by
   rcases Nat.lt_or_ge i n with h | h
   ·exact h
   ·rw[hst.old i (.inr h)]at hi;cases hi
  rw[if_pos ⟨by omega,by omega⟩,Nat.add_sub_cancel_left];exact hi
def zi6 (P:Program) (G:zm) (f:FuncId) (args:List C) (σ:St) (K:C->St->Prop):Prop:=
 ∃ (fargs:List C) (r:C) (n:Nat),Xh σ.bx args fargs/\Fun P G f fargs r n/\r.freshB=true/\K (r.sh σ.nx) ⟨σ.tm,σ.bx,σ.nx+n,σ.lg⟩
end
end
section
open Go.RowKit
section
variable {P:Program} {G:zm} {E:Ctx} {σ:St} {o:Oper} {a:Act}
def spl (cs:List C) (at':Nat) (xs:List C):List C:=cs.take at'++xs++cs.drop (at'+xs.length)
def Qn (P:Program) (t:TypeId) (d x:C) (σ:St) (K:C->St->Prop):Prop:=
 match lay P t with
 | some ⟨.slice e,_,_,_⟩=>match lay P e with
  | some ⟨_,k,_,_⟩=>match x.xs? k σ.bx with
   | some (m,xs)=>match d with
    | .bs i off k' n c=>match σ.bx[i]? with
     | some cs=>k'=k/\xs.length=m*k/\off+n*k<=cs.length/\K (.sc (.int .i64 ((min m n:Nat):Int))) ⟨σ.tm,σ.bx.set i (spl cs off (xs.take (min m n*k))),σ.nx,σ.lg⟩
     | none=>False
    | d=>match d.rows? k with
     | some []=>xs.length=m*k/\K (.sc (.int .i64 0)) σ
     | _=>False
   | none=>False
  | _=>False
 | _=>False
theorem Ue {t t':TypeId} {d x:Operand} (ho:o.op = .call { callee:=.builtin .copy,args:=#[d,x],argTypes:=#[t,t'] }) {K:C->St->Prop} {R:Env} {L:Loc} (h:qE G E σ a R L) (hK:Qn P t (zx G σ.tm d) (zx G σ.tm x) σ K):je P o a.eval R.w (y6 G E a σ.nx L K):=by
 unfold Qn at hK
 split at hK<;>try exact hK.elim
 rename_i e s1 b1 z1 hl
 have ht:=z6 hl rfl
 split at hK<;>try exact hK.elim
 rename_i kd k by' z hle
 obtain ⟨i,dd,hi,hd,_,hsz,hbyt,hzz⟩:=qf hle
 simp only at hsz hbyt hzz
 split at hK<;>try exact hK.elim
 rename_i m xs hxs
 have hss0:(sizeOf e).run P R.w = .ok k R.w:=by simp[sizeOf,typeInfo,hi,←hsz]
 have hexec:∀ v' w',(Builtin.copy_ #[t,t'] o.type #[a.eval d,a.eval x]).run P R.w = .ok v' w'->(execOp a.eval o).run P R.w = .ok (.value v') w':=fun v' w' hrun=>by
  unfold execOp
  simp only[ho,resolve,invoke,builtin,Sem.run_bind,Sem.run_pure,Result.andThen_ok,List.map_toArray,List.map_cons,List.map_nil,hrun]
 obtain ⟨ad,capx,ex,hx⟩:=xW h.good.fit (h.ev x) hxs
 split at hK
 rotate_left
 ·split at hK<;>try exact hK.elim
  rename_i hr
  obtain ⟨hxl,hK⟩:=hK
  obtain ⟨a0,cap0,es,_⟩:=(h.ev d).rows hr
  refine je.value (hexec (goInt ((0:Nat):Int)) R.w ?_) ⟨_,_,R,L,rfl,h,zo.2 rfl,hK,fun _ _ h=>h⟩
  rw[es,ex]
  simp only[Builtin.copy_,Builtin.lenOf,Sem.run_bind,Sem.run_pure,Result.andThen_ok,run_underlying ht,hss0]
  have hfc:(Builtin.firstCells k 0 (.slice ad m capx)).run P R.w = .ok #[] R.w:=by
   cases ad with
   | none=>simp[Builtin.firstCells]
   | some ad=>simp[Builtin.firstCells,loadCells,loadCellsFrom]
  cases a0<;>simp[hfc,storeCells,run_underlying ht,hss0]
 rename_i bi off k' n c hev
 split at hK<;>try exact hK.elim
 rename_i cs hcs
 obtain ⟨rfl,hxl,hfit,hK⟩:=hK
 have hss:=hss0
 have hs:=h.ev d;rw[hev,jp]at hs
 obtain ⟨b,hb,ad0,es,had0⟩:=hs
 obtain ⟨vs,ty,e1,e2,e3,e4⟩:=h.good.fit.boxes.box bi b cs hb hcs
 have hvl:=zt e2
 have hbil:bi<σ.bx.length:=(List.getElem?_eq_some_iff.1 hcs).1
 by_cases h0:min m n*k'=0
 ·have hspl:spl cs off (xs.take (min m n*k'))=cs:=by
   rw[h0];simp[spl]
  have hset:σ.bx.set bi cs=σ.bx:=by
   apply List.ext_getElem?
   intro j
   by_cases hj:bi=j
   ·subst hj;rw[List.getElem?_set_self hbil,hcs]
   ·rw[List.getElem?_set_ne hj]
  rw[hspl,hset]at hK
  refine je.value (hexec (goInt ((Nat.min m n:Nat):Int)) R.w ?_) ⟨_,_,R,L,rfl,h,zo.2 rfl,hK,fun _ _ h=>h⟩
  rw[es,ex]
  simp only[Builtin.copy_,Builtin.lenOf,Sem.run_bind,Sem.run_pure,Result.andThen_ok,run_underlying ht,hss]
  have hm0:Nat.min m n*k'=0:=h0
  have hfc:(Builtin.firstCells k' (Nat.min m n) (.slice ad m capx)).run P R.w = .ok #[] R.w:=by
   cases ad with
   | none=>simp[Builtin.firstCells]
   | some ad=>simp[Builtin.firstCells,hm0,loadCells,loadCellsFrom]
  simp[hfc,storeCells,run_underlying ht,hss]
 ·have hpos:0<m:=by
   rcases Nat.eq_zero_or_pos m with q | q
   ·subst q;simp at h0
   ·exact q
  have hnpos:0<n:=by
   rcases Nat.eq_zero_or_pos n with q | q
   ·subst q;simp at h0
   ·exact q
  obtain ⟨bb,offx,news,rfl,n1,n2,n3,n4⟩:=hx hpos
  obtain rfl:=had0 (by omega)
  have hmn:min m n*k'<=m*k':=Nat.mul_le_mul_right _ (Nat.min_le_left _ _)
  have hmn2:min m n*k'<=n*k':=Nat.mul_le_mul_right _ (Nat.min_le_right _ _)
  have hnl:(news.take (min m n*k')).length=min m n*k':=by rw[List.length_take];omega
  have hfc:=run_firstCells_some (P:=P) R.w k' (min m n) ⟨bb,offx,none⟩ m capx (news.take (min m n*k')) hnl (fun j u hj=>n2 j u (by
   rw[List.getElem?_take]at hj
   split at hj
   ·exact hj
   ·cases hj))
  have hst:=run_storeCells_at P b off ty (news.take (min m n*k')) 0 vs R.w e1 (by simp only[Array.length_toList]at hvl;omega) (fun v hv=>n4 v (List.mem_of_mem_take hv))
  simp only[Nat.add_zero]at hst
  have hrun:(Builtin.copy_ #[t,t'] o.type #[a.eval d,a.eval x]).run P R.w = .ok (goInt ((Nat.min m n:Nat):Int)) (R.w.setRow b (vs.toList.take off++news.take (min m n*k')++vs.toList.drop (off+(news.take (min m n*k')).length)).toArray):=by
   rw[es,ex]
   have hfc':(Builtin.firstCells k' (Nat.min m n) (.slice (some ⟨bb,offx,none⟩) m capx)).run P R.w = .ok (news.take (min m n*k')).toArray R.w:=hfc
   simp only[Builtin.copy_,Builtin.lenOf,Sem.run_bind,Sem.run_pure,Result.andThen_ok,run_underlying ht,hss]
   simp[hfc',hst,run_underlying ht,hss]
  have hxtl:(xs.take (min m n*k')).length=(news.take (min m n*k')).length:=by rw[hnl,List.length_take];omega
  have hinv:=h.setBox hb hcs e1 e4 (cs':=spl cs off (xs.take (min m n*k'))) (us:=(vs.toList.take off++news.take (min m n*k')++vs.toList.drop (off+(news.take (min m n*k')).length)).toArray) (by
    unfold spl
    rw[hxtl]
    exact zn (zn (qA _ e2) (qA _ n3)) (qN _ e2)) (fun v hv=>by
    simp only[List.mem_append]at hv
    rcases hv with (hv | hv) | hv
    ·exact e3 v (List.mem_of_mem_take hv)
    ·exact n4 v (List.mem_of_mem_take hv)
    ·exact e3 v (List.mem_of_mem_drop hv))
  exact je.value (hexec _ _ hrun) ⟨_,_,_,L,rfl,hinv,zo.2 rfl,hK,fun _ _ h=>h⟩
theorem zaM {t t':TypeId} {d x:Operand} (ho:o.op = .call { callee:=.builtin .copy,args:=#[d,x],argTypes:=#[t,t'] }) {K:C->St->Prop} {R:Env} {L:Loc} (h:qE G E σ a R L) (hK:Qn P t (zx G σ.tm d) (zx G σ.tm x) σ K):je P o a.eval R.w (Yg G E a K):=(Ue ho h hK).mono fun _ _ h=>h.after
def UN (P:Program) (t:TypeId) (x:C) (σ:St) (K:C->St->Prop):Prop:=
 match lay P t with
 | some ⟨.slice e,_,_,_⟩=>match lay P e with
  | some ⟨_,k,_,some z⟩=>match x with
   | .bs i off k' n c=>match σ.bx[i]? with
    | some cs=>k'=k/\z.length=k/\0<k/\(z.all Value.oneCell')=true/\off+n*k<=cs.length/\K .any ⟨σ.tm,σ.bx.set i (spl cs off (List.replicate n (z.map zA)).flatten),σ.nx,σ.lg⟩
    | none=>False
   | _=>False
  | _=>False
 | _=>False
theorem Y3 {R:Env} {L:Loc} (zc:Array Value) (k n:Nat) (hz:zc.size=k) (hk:0<k):zu R L (List.replicate n (zc.toList.map zA)).flatten (Builtin.zeroCells zc n).toList:=by
 have h:=zu.ext (Ext.refl R) (zK.none L) _ _ (XF (R:=R) (L:=zI) zc k n hz hk)
 simp only[Builtin.zeroCells,hz]
 rw[hz]at h
 exact h
theorem xr {t:TypeId} {x:Operand} (ho:o.op = .call { callee:=.builtin .clear,args:=#[x],argTypes:=#[t] }) {K:C->St->Prop} {R:Env} {L:Loc} (h:qE G E σ a R L) (hK:UN P t (zx G σ.tm x) σ K):je P o a.eval R.w (Yg G E a K):=by
 unfold UN at hK
 split at hK<;>try exact hK.elim
 rename_i e s1 b1 z1 hl
 have ht:=z6 hl rfl
 split at hK<;>try exact hK.elim
 rename_i kd k by' z hle
 obtain ⟨i,dd,hi,hd,_,hsz,hbyt,hzz⟩:=qf hle
 simp only at hsz hbyt hzz
 split at hK<;>try exact hK.elim
 rename_i bi off k' n c hev
 split at hK<;>try exact hK.elim
 rename_i cs hcs
 obtain ⟨rfl,hzk,hk0,hz1,hfit,hK⟩:=hK
 cases hiz:i.zero with
 | none=>simp[hiz]at hzz
 | some zv =>
  simp only[hiz,Option.map_some,Option.some.injEq]at hzz
  subst hzz
  have hs:=h.ev x;rw[hev,jp]at hs
  obtain ⟨b,hb,ad0,es,had0⟩:=hs
  obtain ⟨vs,ty,e1,e2,e3,e4⟩:=h.good.fit.boxes.box bi b cs hb hcs
  have hvl:=zt e2
  have hbil:bi<σ.bx.length:=(List.getElem?_eq_some_iff.1 hcs).1
  have hzv:∀ w,(zeroValue e).run P w = .ok zv w:=fun w=>by simp[zeroValue,typeInfo,hi,hiz]
  have hexec:∀ v' w',(Builtin.clear_ #[t] o.type #[a.eval x]).run P R.w = .ok v' w'->(execOp a.eval o).run P R.w = .ok (.value v') w':=fun v' w' hrun=>by
   unfold execOp
   simp only[ho,resolve,invoke,builtin,Sem.run_bind,Sem.run_pure,Result.andThen_ok,List.map_toArray,List.map_cons,List.map_nil,hrun]
  have hzl:(Builtin.zeroCells zv.cells n).toList.length=n*k':=by rw[Array.length_toList,size_zeroCells];simpa using congrArg (n * ·) hzk
  have hzr:=Y3 (R:=R) (L:=L) zv.cells k' n (by simpa using hzk) hk0
  have hxl:(List.replicate n (zv.cells.toList.map zA)).flatten.length=n*k':=by rw[←hzl];exact (zt hzr).symm
  cases n with
  | zero =>
   have hspl:spl cs off (List.replicate 0 (zv.cells.toList.map zA)).flatten=cs:=by simp[spl]
   have hset:σ.bx.set bi cs=σ.bx:=by
    apply List.ext_getElem?
    intro j
    by_cases hj:bi=j
    ·subst hj;rw[List.getElem?_set_self hbil,hcs]
    ·rw[List.getElem?_set_ne hj]
   rw[hspl,hset]at hK
   refine je.value (hexec (.tuple #[]) R.w ?_) ⟨_,_,R,L,rfl,h,by unfold Rep;trivial,hK⟩
   rw[es]
   simp[Builtin.clear_,run_underlying ht]
  | succ n =>
   obtain rfl:=had0 (by omega)
   have hst:=run_storeCells_at P b off ty (Builtin.zeroCells zv.cells (n+1)).toList 0 vs R.w e1 (by rw[hzl];simp only[Array.length_toList]at hvl;omega) (jF hz1 _)
   simp only[Nat.add_zero]at hst
   have hinv:=h.setBox hb hcs e1 e4 (cs':=spl cs off (List.replicate (n+1) (zv.cells.toList.map zA)).flatten) (us:=(vs.toList.take off++(Builtin.zeroCells zv.cells (n+1)).toList++vs.toList.drop (off+(Builtin.zeroCells zv.cells (n+1)).toList.length)).toArray) (by
     unfold spl
     rw[hzl,hxl]
     exact zn (zn (qA _ e2) hzr) (qN _ e2)) (fun v hv=>by
     simp only[List.mem_append]at hv
     rcases hv with (hv | hv) | hv
     ·exact e3 v (List.mem_of_mem_take hv)
     ·exact jF hz1 _ v hv
     ·exact e3 v (List.mem_of_mem_drop hv))
   refine je.value (hexec (.tuple #[]) _ ?_) ⟨_,_,_,L,rfl,hinv,by unfold Rep;trivial,hK⟩
   rw[es]
   simp[Builtin.clear_,run_underlying ht,hzv,hst]
def QZ (P:Program) (t:TypeId) (s x:C) (σ:St) (K:C->St->Prop):Prop:=
 match lay P t with
 | some ⟨.slice e,_,_,_⟩=>match lay P e with
  | some ⟨_,k,by',some z⟩=>match x.xs? k σ.bx with
   | some (m,xs)=>z.length=k/\0<k/\(z.all Value.oneCell')=true/\xs.length=m*k/\match s with
    | .sc (.slice none 0 0)=>0<m/\m<=9223372036854775807/\m*by'<=140737488355328/\∀ c,m<=c->c<=maxLen->K (.bs σ.bx.length 0 k m c) ⟨σ.tm,σ.bx++[xs++List.replicate ((c-m)*k) .any],σ.nx,σ.lg⟩
    | .bs i off k' n c=>match σ.bx[i]? with
     | some cs=>k'=k/\off+c*k<=cs.length/\n<=c/\n+m<=9223372036854775807/\(n+m)*by'<=140737488355328 /\
       (n+m<=c->K (.bs i off k (n+m) c) ⟨σ.tm,σ.bx.set i (spl cs (off+n*k) xs),σ.nx,σ.lg⟩) /\
       (c<n+m->∀ c',n+m<=c'->c'<=maxLen->K (.bs σ.bx.length 0 k (n+m) c') ⟨σ.tm,σ.bx++[(cs.drop off).take (n*k)++xs++List.replicate ((c'-(n+m))*k) .any],σ.nx,σ.lg⟩)
     | none=>False
    | _=>False
   | none=>False
  | _=>False
 | _=>False
def HM (P:Program) (t tn:TypeId) (s x:C) (σ:St) (K:C->St->Prop):Prop:=
 match lay P t,lay P tn with
 | some ⟨.slice e,_,_,_⟩,some ⟨.int _,_,_,_⟩=>match lay P e with
  | some ⟨_,k,by',some z⟩=>match s,x with
   | .bs i off k' n c,.sc (.int _ q)=>match σ.bx[i]? with
     | some cs=>z.length=k/\0<k/\(z.all Value.oneCell')=true/\k'=k/\off+c*k<=cs.length/\n<=c/\0<q/\(n:Int)+q<=9223372036854775807/\((n:Int)+q)*by'<=140737488355328/\(c:Int)<n+q /\
       ∀ c',n+q.toNat<=c'->c'<=maxLen->K (.bs σ.bx.length 0 k (n+q.toNat) c') ⟨σ.tm,σ.bx++[(cs.drop off).take (n*k)++(List.replicate q.toNat (z.map zA)).flatten++List.replicate ((c'-(n+q.toNat))*k) .any],σ.nx,σ.lg⟩
     | none=>False
   | .sc (.slice none 0 0),.sc (.int _ q)=>z.length=k/\0<k/\(z.all Value.oneCell')=true/\0<q/\q<=9223372036854775807/\q*by'<=140737488355328 /\
     ∀ c',q.toNat<=c'->c'<=maxLen->K (.bs σ.bx.length 0 k q.toNat c') ⟨σ.tm,σ.bx++[(List.replicate q.toNat (z.map zA)).flatten++List.replicate ((c'-q.toNat)*k) .any],σ.nx,σ.lg⟩
   | _,_=>False
  | _=>False
 | _,_=>False
theorem qE.setSame {R:Env} {L:Loc} (h:qE G E σ a R L) {i:Nat} {cs:List C} (hc:σ.bx[i]?=some cs):σ.bx.set i cs=σ.bx:=by
 have hil:i<σ.bx.length:=(List.getElem?_eq_some_iff.1 hc).1
 apply List.ext_getElem?
 intro j
 by_cases hj:i=j
 ·subst hj;rw[List.getElem?_set_self hil,hc]
 ·rw[List.getElem?_set_ne hj]
theorem yz {t:TypeId} {s x:Operand} (ho:o.op = .call { callee:=.builtin .append,args:=#[s,x],argTypes:=#[t,t] }) {K:C->St->Prop} {R:Env} {L:Loc} (h:qE G E σ a R L) (hK:QZ P t (zx G σ.tm s) (zx G σ.tm x) σ K):je P o a.eval R.w (Yg G E a K):=by
 unfold QZ at hK
 split at hK<;>try exact hK.elim
 rename_i e s1 b1 z1 hl
 have ht:=z6 hl rfl
 split at hK<;>try exact hK.elim
 rename_i kd k by' z hle
 obtain ⟨i,d,hi,hd,_,hsz,hbyt,hzz⟩:=qf hle
 simp only at hsz hbyt hzz
 split at hK<;>try exact hK.elim
 rename_i m xs hxs
 obtain ⟨hzk,hk0,hz1,hxl,hK⟩:=hK
 have hexec:∀ v' w',(Builtin.append_ #[t,t] o.type #[a.eval s,a.eval x]).run P R.w = .ok v' w'->(execOp a.eval o).run P R.w = .ok (.value v') w':=fun v' w' hrun=>by
  unfold execOp
  simp only[ho,resolve,invoke,builtin,Sem.run_bind,Sem.run_pure,Result.andThen_ok,List.map_toArray,List.map_cons,List.map_nil,hrun]
 cases hiz:i.zero with
 | none=>simp[hiz]at hzz
 | some zv =>
  simp only[hiz,Option.map_some,Option.some.injEq]at hzz
  have hzc:zv.cells.size=k:=by rw[←hzk,hzz];simp
  obtain ⟨ad,capx,ex,hx⟩:=xW h.good.fit (h.ev x) hxs
  have hzone:∀ n,∀ v∈(Builtin.zeroCells zv.cells n).toList,v.oneCell'=true:=jF (by rw[←hzz];exact hz1)
  split at hK
  ·rename_i hev
   obtain ⟨hm,h63,hby,hK⟩:=hK
   obtain ⟨bb,off,news,rfl,n1,n2,n3,n4⟩:=hx hm
   have hs:=h.ev s;rw[hev,zo]at hs
   have hrun:=run_append_nil (P:=P) R.w t o.type e i zv ht hi hiz ⟨bb,off,none⟩ m capx news (by rw[n1,hsz]) n2 hm (by omega) (by rw[←hbyt];omega)
   rw[←hs,←ex]at hrun
   have hge:=grownCap_ge R.w m 0 e
   have hgm:grownCap R.w m 0 e<=maxLen:=grownCap_le_maxLen _ _ _ _ (by unfold maxLen;omega)
   generalize grownCap R.w m 0 e=nc at hrun hge hgm
   have hb:Below R.w.heap.size R.w (R.w.drew.alloc (.cells (news.toArray++Builtin.zeroCells zv.cells (nc-m)) e)):=((Below.refl _ _).drew).alloc (Nat.le_refl _) _
   have hzl:(Builtin.zeroCells zv.cells (nc-m)).toList.length=(nc-m)*k:=by rw[Array.length_toList,size_zeroCells,hzc]
   obtain ⟨R',L',e1,e2,e3⟩:=h.newBoxW hb (Nat.le_refl _) (xs++List.replicate ((nc-m)*k) .any) (news.toArray++Builtin.zeroCells zv.cells (nc-m)) e (heap_alloc_new R.w.drew _) (fun M' hM _ _=>by
    simp only[Array.toList_append]
    refine zn (zu.ext (R:=R) (Ext.of_below hb hM) (zK.refl L) _ _ n3) ?_
    rw[←hzl];exact Yp _) (fun v hv=>by
    simp only[Array.toList_append]at hv
    rcases List.mem_append.1 hv with hv | hv
    ·exact n4 v hv
    ·exact hzone _ v hv)
   exact je.value (hexec _ _ hrun) ⟨_,_,R',L',e1,e2,jp.2 ⟨_,e3,_,rfl,fun _=>rfl⟩,hK nc hge hgm⟩
  ·rename_i bi off k' n c hev
   split at hK<;>try exact hK.elim
   rename_i cs hcs
   obtain ⟨rfl,hcl,hnc,h63,hby,hK1,hK2⟩:=hK
   have hs:=h.ev s;rw[hev,jp]at hs
   obtain ⟨b,hb,ad0,es,had0⟩:=hs
   obtain ⟨vs,ty,e1,e2,e3,e4⟩:=h.good.fit.boxes.box bi b cs hb hcs
   have hvl:=zt e2
   simp only[Array.length_toList]at hvl
   have hnk:n*k'<=c*k':=Nat.mul_le_mul_right _ hnc
   have hadd:(n+m)*k'=n*k'+m*k':=Nat.add_mul _ _ _
   by_cases hroom:n+m<=c
   ·have hck:(n+m)*k'<=c*k':=Nat.mul_le_mul_right _ hroom
    rcases Nat.eq_zero_or_pos m with hm | hm
    ·subst hm
     have hx0:xs = []:=List.eq_nil_of_length_eq_zero (by simpa using hxl)
     subst hx0
     have hK:=hK1 hroom
     have hspl:spl cs (off+n*k') []=cs:=by simp[spl]
     rw[hspl,h.setSame hcs]at hK
     refine je.value (hexec (.slice (some ad0) n c) R.w ?_) ⟨_,_,R,L,rfl,h,jp.2 ⟨b,hb,ad0,rfl,had0⟩,hK⟩
     rw[es,ex]
     exact Jg ht hi R.w _ _ _ _ _ hnc
    ·obtain rfl:=had0 (by omega)
     obtain ⟨bb,offx,news,rfl,n1,n2,n3,n4⟩:=hx hm
     have hst:=run_storeCells_at P b (off+n*k') ty news 0 vs R.w e1 (by rw[n1];omega) n4
     simp only[Nat.add_zero]at hst
     have hfc:=run_firstCells_some (P:=P) R.w k' m ⟨bb,offx,none⟩ m capx news n1 n2
     have hrun:(Builtin.append_ #[t,t] o.type #[a.eval s,a.eval x]).run P R.w = .ok (.slice (some ⟨b,off,none⟩) (n+m) c) (R.w.setRow b (vs.toList.take (off+n*k')++news++vs.toList.drop (off+n*k'+news.length)).toArray):=by
      rw[es,ex]
      simp[Builtin.append_,run_underlying ht,sizeOf,typeInfo,hi,Builtin.lenOf,hroom,←hsz,hfc,Addr.add_none,hst]
     have hnx:news.length=xs.length:=by rw[n1,hxl]
     have hinv:=h.setBox hb hcs e1 e4 (cs':=spl cs (off+n*k') xs) (us:=(vs.toList.take (off+n*k')++news++vs.toList.drop (off+n*k'+news.length)).toArray) (by
       unfold spl
       rw[hnx]
       exact zn (zn (qA _ e2) n3) (qN _ e2)) (fun v hv=>by
       simp only[List.mem_append]at hv
       rcases hv with (hv | hv) | hv
       ·exact e3 v (List.mem_of_mem_take hv)
       ·exact n4 v hv
       ·exact e3 v (List.mem_of_mem_drop hv))
     exact je.value (hexec _ _ hrun) ⟨_,_,_,L,rfl,hinv,jp.2 ⟨_,hb,_,rfl,fun _=>rfl⟩,hK1 hroom⟩
   ·have hm:0<m:=by omega
    obtain ⟨bb,offx,news,rfl,n1,n2,n3,n4⟩:=hx hm
    have hol:((vs.toList.drop off).take (n*k')).length=n*k':=by simp;omega
    have hrun:=run_append_grow (P:=P) R.w t o.type e i zv ht hi hiz ad0 n c ((vs.toList.drop off).take (n*k')) (by rw[hol,hsz]) (fun j v hj=>by
      obtain rfl:=had0 (by
       rcases Nat.eq_zero_or_pos n with h0 | h0
       ·subst h0;simp at hj
       ·omega)
      rw[Addr.add_none,cell_of_row R.w b (off+j) vs ty (0,0) e1]
      rw[List.getElem?_take]at hj
      split at hj
      ·rw[List.getElem?_drop]at hj;simpa using hj
      ·cases hj) ⟨bb,offx,none⟩ m capx news (by rw[n1,hsz]) n2 (by omega) (by omega) (growslice_fits (by omega) (by rw[←hbyt];exact hby))
    rw[←es,←ex]at hrun
    have hge:=grownCap_ge R.w (n+m) c e
    have hgm:grownCap R.w (n+m) c e<=maxLen:=grownCap_le_maxLen _ _ _ _ (by unfold maxLen;omega)
    generalize grownCap R.w (n+m) c e=nc at hrun hge hgm
    have hbel:Below R.w.heap.size R.w (R.w.drew.alloc (.cells (((vs.toList.drop off).take (n*k')).toArray++news.toArray++Builtin.zeroCells zv.cells (nc-(n+m))) e)):=((Below.refl _ _).drew).alloc (Nat.le_refl _) _
    have hzl:(Builtin.zeroCells zv.cells (nc-(n+m))).toList.length=(nc-(n+m))*k':=by rw[Array.length_toList,size_zeroCells,hzc]
    obtain ⟨R',L',f1,f2,f3⟩:=h.newBoxW hbel (Nat.le_refl _) ((cs.drop off).take (n*k')++xs++List.replicate ((nc-(n+m))*k') .any) (((vs.toList.drop off).take (n*k')).toArray++news.toArray++Builtin.zeroCells zv.cells (nc-(n+m))) e (heap_alloc_new R.w.drew _) (fun M' hM _ _=>by
     simp only[Array.toList_append]
     refine zn (zu.ext (R:=R) (Ext.of_below hbel hM) (zK.refl L) _ _ (zn (qA _ (qN _ e2)) n3)) ?_
     rw[←hzl];exact Yp _) (fun v hv=>by
     simp only[Array.toList_append,List.mem_append]at hv
     rcases hv with (hv | hv) | hv
     ·exact e3 v (List.mem_of_mem_drop (List.mem_of_mem_take hv))
     ·exact n4 v hv
     ·exact hzone _ v hv)
    exact je.value (hexec _ _ hrun) ⟨_,_,R',L',f1,f2,jp.2 ⟨_,f3,_,rfl,fun _=>rfl⟩,hK2 (by omega) nc hge hgm⟩
  ·exact hK.elim
theorem zay {t tn:TypeId} {s x:Operand} (ho:o.op = .call { callee:=.builtin .append,args:=#[s,x],argTypes:=#[t,tn] }) {K:C->St->Prop} {R:Env} {L:Loc} (h:qE G E σ a R L) (hK:HM P t tn (zx G σ.tm s) (zx G σ.tm x) σ K):je P o a.eval R.w (Yg G E a K):=by
 unfold HM at hK
 split at hK<;>try exact hK.elim
 rename_i e s1 b1 z1 kn s2 b2 z2 hl hln
 have ht:=z6 hl rfl
 have htn:=ZF hln rfl
 split at hK<;>try exact hK.elim
 rename_i kd k by' z hle
 obtain ⟨i,d,hi,hd,_,hsz,hbyt,hzz⟩:=qf hle
 simp only at hsz hbyt hzz
 have hexec:∀ v' w',(Builtin.append_ #[t,tn] o.type #[a.eval s,a.eval x]).run P R.w = .ok v' w'->(execOp a.eval o).run P R.w = .ok (.value v') w':=fun v' w' hrun=>by
  unfold execOp
  simp only[ho,resolve,invoke,builtin,Sem.run_bind,Sem.run_pure,Result.andThen_ok,List.map_toArray,List.map_cons,List.map_nil,hrun]
 split at hK<;>try exact hK.elim
 rotate_left
 ·rename_i kq q hev hevx
  obtain ⟨hzk,hk0,hz1,hq0,h63,hby,hK⟩:=hK
  cases hiz:i.zero with
  | none=>simp[hiz]at hzz
  | some zv =>
   simp only[hiz,Option.map_some,Option.some.injEq]at hzz
   have hzc:zv.cells.size=k:=by rw[←hzk,hzz];simp
   have hzone:∀ n,∀ v∈(Builtin.zeroCells zv.cells n).toList,v.oneCell'=true:=jF (by rw[←hzz];exact hz1)
   have hs:=h.ev s;rw[hev,zo]at hs
   have hxv:=h.ev x;rw[hevx,zo]at hxv
   obtain ⟨m,rfl⟩:∃ m:Nat,q=(m:Int):=⟨q.toNat,by omega⟩
   simp only[Int.toNat_natCast]at hK
   have hby':m*by'<=140737488355328:=by
    have:((m*by':Nat):Int)<=140737488355328:=by
     rw[Int.natCast_mul];exact hby
    omega
   have hold:∀ w,w.heap=R.w.heap->(Builtin.firstCells i.size 0 (.slice none 0 0)).run P w = .ok ([]:List Value).toArray w:=fun w hw=>by simp[Builtin.firstCells]
   have hmb:m*i.bytes<=281474976710656:=by rw[←hbyt];omega
   have hrun:=Lib.run_append_grow_zeros (P:=P) R.w t tn o.type e i zv kq kn ht htn hi hiz none 0 0 [] (hold R.w.drew rfl) m (by omega) (by omega) (by omega) (by omega) hmb (growslice_fits (by omega) (by rw[←hbyt];simpa using hby'))
   rw[←hs,←hxv]at hrun
   have hge:=grownCap_ge R.w (0+m) 0 e
   have hgm:grownCap R.w (0+m) 0 e<=maxLen:=grownCap_le_maxLen _ _ _ _ (by unfold maxLen;omega)
   generalize grownCap R.w (0+m) 0 e=nc at hrun hge hgm
   have hbel:Below R.w.heap.size R.w (R.w.drew.alloc (.cells (([]:List Value).toArray++Builtin.zeroCells zv.cells m++Builtin.zeroCells zv.cells (nc-(0+m))) e)):=((Below.refl _ _).drew).alloc (Nat.le_refl _) _
   have hzl:(Builtin.zeroCells zv.cells (nc-(0+m))).toList.length=(nc-(0+m))*k:=by rw[Array.length_toList,size_zeroCells,hzc]
   obtain ⟨R',L',f1,f2,f3⟩:=h.newBoxW hbel (Nat.le_refl _) ((List.replicate m (z.map zA)).flatten++List.replicate ((nc-m)*k) .any) (([]:List Value).toArray++Builtin.zeroCells zv.cells m++Builtin.zeroCells zv.cells (nc-(0+m))) e (heap_alloc_new R.w.drew _) (fun M' hM _ _=>by
    simp only[Array.toList_append,List.nil_append]
    refine zn ?_ ?_
    ·rw[hzz];exact Y3 _ k m hzc hk0
    ·rw[show nc-m=nc-(0+m) by omega,←hzl];exact Yp _) (fun v hv=>by
    simp only[Array.toList_append,List.mem_append,List.nil_append]at hv
    rcases hv with hv | hv
    ·exact hzone _ v hv
    ·exact hzone _ v hv)
   refine je.value (hexec _ _ hrun) ⟨_,_,R',L',f1,f2,jp.2 ⟨_,f3,_,?_,fun _=>rfl⟩,hK nc (by omega) hgm⟩
   simp
 rename_i bi off k' n c kq q hev hevx
 split at hK<;>try exact hK.elim
 rename_i cs hcs
 obtain ⟨hzk,hk0,hz1,rfl,hcl,hnc,hq0,h63,hby,hg,hK⟩:=hK
 cases hiz:i.zero with
 | none=>simp[hiz]at hzz
 | some zv =>
  simp only[hiz,Option.map_some,Option.some.injEq]at hzz
  have hzc:zv.cells.size=k':=by rw[←hzk,hzz];simp
  have hzone:∀ n,∀ v∈(Builtin.zeroCells zv.cells n).toList,v.oneCell'=true:=jF (by rw[←hzz];exact hz1)
  have hs:=h.ev s;rw[hev,jp]at hs
  have hxv:=h.ev x;rw[hevx,zo]at hxv
  obtain ⟨b,hb,ad0,es,had0⟩:=hs
  obtain ⟨vs,ty,e1,e2,e3,e4⟩:=h.good.fit.boxes.box bi b cs hb hcs
  have hvl:=zt e2
  simp only[Array.length_toList]at hvl
  have hnk:n*k'<=c*k':=Nat.mul_le_mul_right _ hnc
  obtain ⟨m,rfl⟩:∃ m:Nat,q=(m:Int):=⟨q.toNat,by omega⟩
  simp only[Int.toNat_natCast]at hK
  have hby':(n+m)*by'<=140737488355328:=by
   have:(((n+m)*by':Nat):Int)<=140737488355328:=by
    rw[Int.natCast_mul,Int.natCast_add];exact hby
   omega
  have hol:((vs.toList.drop off).take (n*k')).length=n*k':=by simp;omega
  have hold:∀ w,w.heap=R.w.heap->(Builtin.firstCells i.size n (.slice (some ad0) n c)).run P w = .ok ((vs.toList.drop off).take (n*k')).toArray w:=fun w hw=>by
   refine run_firstCells_some (P:=P) w i.size n ad0 n c _ (by rw[hol,hsz]) fun j v hj=>?_
   obtain rfl:=had0 (by
    rcases Nat.eq_zero_or_pos n with h0 | h0
    ·subst h0;simp at hj
    ·omega)
   rw[Addr.add_none,cell_of_row w b (off+j) vs ty (0,0) (by rw[hw];exact e1)]
   rw[List.getElem?_take]at hj
   split at hj
   ·rw[List.getElem?_drop]at hj;simpa using hj
   ·cases hj
  have hmb:m*i.bytes<=281474976710656:=by
   have:m*by'<=(n+m)*by':=Nat.mul_le_mul_right _ (by omega)
   rw[←hbyt];omega
  have hrun:=Lib.run_append_grow_zeros (P:=P) R.w t tn o.type e i zv kq kn ht htn hi hiz (some ad0) n c ((vs.toList.drop off).take (n*k')) (hold R.w.drew rfl) m (by omega) (by omega) (by omega) (by omega) hmb (growslice_fits (by omega) (by rw[←hbyt];exact hby'))
  rw[←es,←hxv]at hrun
  have hge:=grownCap_ge R.w (n+m) c e
  have hgm:grownCap R.w (n+m) c e<=maxLen:=grownCap_le_maxLen _ _ _ _ (by unfold maxLen;omega)
  generalize grownCap R.w (n+m) c e=nc at hrun hge hgm
  have hbel:Below R.w.heap.size R.w (R.w.drew.alloc (.cells (((vs.toList.drop off).take (n*k')).toArray++Builtin.zeroCells zv.cells m++Builtin.zeroCells zv.cells (nc-(n+m))) e)):=((Below.refl _ _).drew).alloc (Nat.le_refl _) _
  have hzl:(Builtin.zeroCells zv.cells (nc-(n+m))).toList.length=(nc-(n+m))*k':=by rw[Array.length_toList,size_zeroCells,hzc]
  obtain ⟨R',L',f1,f2,f3⟩:=h.newBoxW hbel (Nat.le_refl _) ((cs.drop off).take (n*k')++(List.replicate m (z.map zA)).flatten++List.replicate ((nc-(n+m))*k') .any) (((vs.toList.drop off).take (n*k')).toArray++Builtin.zeroCells zv.cells m++Builtin.zeroCells zv.cells (nc-(n+m))) e (heap_alloc_new R.w.drew _) (fun M' hM _ _=>by
   simp only[Array.toList_append]
   refine zn (zn (zu.ext (R:=R) (Ext.of_below hbel hM) (zK.refl L) _ _ (qA _ (qN _ e2))) ?_) ?_
   ·rw[hzz];exact Y3 _ k' m hzc hk0
   ·rw[←hzl];exact Yp _) (fun v hv=>by
   simp only[Array.toList_append,List.mem_append]at hv
   rcases hv with (hv | hv) | hv
   ·exact e3 v (List.mem_of_mem_drop (List.mem_of_mem_take hv))
   ·exact hzone _ v hv
   ·exact hzone _ v hv)
  exact je.value (hexec _ _ hrun) ⟨_,_,R',L',f1,f2,jp.2 ⟨_,f3,_,rfl,fun _=>rfl⟩,hK nc hge hgm⟩
end
end
section
open Go.RowKit
section
variable {P:Program} {G:zm} {E:Ctx} {σ:St} {o:Oper} {a:Act} {N p:Nat}
def Gq (P:Program) (t:TypeId) (s x:C) (σ:St) (K:C->St->Prop):Prop:=
 match s with
 | .own id e k rows=>xL P t (.own id e k rows) x σ K
 | s=>ZK P t s x σ.nx fun c nx'=>K c ⟨σ.tm,σ.bx,nx',σ.lg⟩
structure Yd where
 l:Nat
 items:List (List C)
 st:Nat->Bool
structure Far (R R':Env):Prop where
 os:R'.w.os=R.w.os
 tape:R'.w.tape=R.w.tape
 output:R'.w.output=R.w.output
 size:R.w.heap.size<=R'.w.heap.size
 ext:Ext R R'
 fgn:∀ b,b<R.w.heap.size->(R'.F b↔R.F b)
 flt:∀ b,R'.F b->b<R'.w.heap.size
 blk:∀ b,b<R.w.heap.size->¬R.F b->R'.w.heap[b]?=R.w.heap[b]?/\∀ o,(R'.M b o↔R.M b o)
def YOk (P:Program) (y:Yd) (J:Nat->Env->Prop):Prop:=∀ (k:Nat) (R:Env) (it:List C) (vs:List Value),J k R->(∀ b,R.F b->b<R.w.heap.size)->(∀ j,j<k->y.st j=false)->y.items[k]?=some it->zu R zI it vs ->
 YieldAt Fence.wide 0 P y.l vs.toArray R.w fun e w'=>e = .returned (.bool (!y.st k))/\∃ R',R'.w=w'/\Far R R'/\J (k+1) R'
structure Hd where
 p:Nat
 y:Option Yd
 b:Nat->List Bool
structure zhd (P:Program) (h:Hd) (E:Ctx):Prop where
 yd:∀ y,h.y=some y->YOk P y E.J
 box:E.β0.length<=h.p
def GK (y:Yd) (it:Option (List C)) (args:List C) (σ:St) (K:C->St->Prop):Prop:=
 match it with
 | some it=>zd [] 0 args it/\(∀ j,j<σ.lg->y.st j=false)/\K (.sc (.bool (!y.st σ.lg))) ⟨σ.tm,σ.bx,σ.nx,σ.lg+1⟩
 | none=>False
def vH (Y:Option Yd) (l:Nat) (args:List C) (σ:St) (K:C->St->Prop):Prop:=
 match Y with
 | some y=>l=y.l/\GK y y.items[σ.lg]? args σ K
 | none=>False
def MA (P:Program) (G:zm) (Y:Hd) (callee:C) (args:List C) (σ:St) (K:C->St->Prop):Prop:=
 match callee with
 | .sc (.func (.yield l) fs cs)=>fs = #[]/\cs = #[]/\vH Y.y l args σ K
 | .clo (.func f) first cap=>ML P G (.clo (.func f) first cap) args σ.nx (fun c nx'=>K c ⟨σ.tm,σ.bx,nx',σ.lg⟩)∨M4 P G f (first++args++cap) σ K∨zi6 P G f (first++args++cap) σ K∨UI P G f (first++args++cap) σ K∨zdV P f (first++args++cap) σ K
 | _=>False
def Hd.bx (Y:Hd) (t:TypeId):Bool:=(Y.b (1000000+t)).headD false
def Hd.bx2 (Y:Hd) (t:TypeId):Bool:=((Y.b (1000000+t)).drop 1).headD false
def zoa (P:Program) (t:TypeId) (c:C) (K:C->Prop):Prop:=
 match lay P t,c with
 | some ⟨.slice _,_,_,_⟩,.bs _ _ _ _ c=>K (.sc (.int .i64 (c:Int)))
 | some ⟨.slice _,_,_,_⟩,.sc (.slice none 0 0)=>K (.sc (.int .i64 0))
 | _,_=>False
def yb (P:Program) (G:zm) (Y:Hd) (b:Builtin) (args:List Operand) (tys:List TypeId) (σ:St) (K:C->St->Prop):Prop:=
 match b,args,tys with
 | .len,[x],[t]=>zmi P t (zx G σ.tm x) fun c=>K c σ
 | .append,[s,x],[t,t']=>if t'=t then (if Y.bx t then (if Y.bx2 t then QZ P t (zx G σ.tm s) (zx G σ.tm x) σ K else V1 P Y.p t (zx G σ.tm s) (zx G σ.tm x) σ K) else Gq P t (zx G σ.tm s) (zx G σ.tm x) σ K) else HM P t t' (zx G σ.tm s) (zx G σ.tm x) σ K
 | .copy,[d,x],[t,t']=>Qn P t (zx G σ.tm d) (zx G σ.tm x) σ K
 | .clear,[x],[t]=>UN P t (zx G σ.tm x) σ K
 | .cap,[x],[t]=>zoa P t (zx G σ.tm x) fun c=>K c σ
 | .max,[x,y],[_,_]=>zmT (zx G σ.tm x) (zx G σ.tm y) fun c=>K c σ
 | _,_,_=>False
def Qv (P:Program) (G:zm) (Y:Hd) (op:Op) (σ:St) (K:C->St->Prop):Prop:=
 match op with
 | .alloc t=>zc7 P t σ K
 | .box _ x=>zpt (zx G σ.tm x) σ K
 | .store t p x=>Jj P t (zx G σ.tm p) (zx G σ.tm x) σ K
 | .call c=>match c.callee with
  | .value f=>MA P G Y (zx G σ.tm f) (c.args.toList.map (zx G σ.tm)) σ K
  | .builtin b=>yb P G Y b c.args.toList c.argTypes.toList σ K
  | _=>False
 | .buildSlice t n parts=>if Y.bx t then QO P t n (parts.toList.map fun p=>(p.1,zx G σ.tm p.2)) σ K else J3 P t n (parts.toList.map fun p=>(p.1,zx G σ.tm p.2)) σ.nx fun c nx'=>K c ⟨σ.tm,σ.bx,nx',σ.lg⟩
 | .mapUpdate t m k x=>Gh P t (zx G σ.tm m) (zx G σ.tm k) (zx G σ.tm x) σ K
 | .insert t m k x=>Gh P t (zx G σ.tm m) (zx G σ.tm k) (zx G σ.tm x) σ K
 | .makeSlice t l c=>if Y.bx t then Vw P t (zx G σ.tm l) (zx G σ.tm c) σ K else zcU P t (zx G σ.tm l) (zx G σ.tm c) σ.nx fun c nx'=>K c ⟨σ.tm,σ.bx,nx',σ.lg⟩
 | op=>jY P G σ.bx (zx G σ.tm) op σ.nx fun c nx'=>K c ⟨σ.tm,σ.bx,nx',σ.lg⟩
theorem Yf.far {R R':Env} {L:Loc} (h:Yf G E σ R L) (hf:Far R R') {lg:Nat} (hJ:E.J lg R'):Yf G E ⟨σ.tm,σ.bx,σ.nx,lg⟩ R' L:=by
 refine ⟨⟨h.fit.glob.ext hf.ext,⟨h.fit.boxes.len,h.fit.boxes.nodup,fun i b cs hi hc=>?_⟩,⟨fun id e k v ht=>?_,h.fit.owns.apart⟩,fun g hg=>h.fit.base g (Nat.le_trans hf.size hg)⟩,hf.os.trans h.os,hf.tape.trans h.tape,hf.output.trans h.output,Nat.le_trans h.size hf.size,fun b hb hx hF=>?_,h.ext.trans hf.ext,h.box,h.tub,hf.flt,fun b hb=>(hf.fgn b (Nat.lt_of_lt_of_le hb h.size)).trans (h.fz b hb),fun b hb hF=>?_,fun id e k v b ht hv hF=>?_,h.free,hJ⟩
 ·obtain ⟨vs,ty,e1,e2,e3,e4⟩:=h.fit.boxes.box i b cs hi hc
  obtain ⟨g1,g2⟩:=hf.blk b (z7 e1) (h.fbx b (List.mem_of_getElem? hi))
  exact ⟨vs,ty,g1.trans e1,zu.ext hf.ext (zK.refl _) _ _ e2,e3,fun o=>(g2 o).2 (e4 o)⟩
 ·refine (h.fit.owns.own id e k v ht).move fun g hv q2 hlt q7=>?_
  obtain ⟨g1,g2⟩:=hf.blk g hlt (h.fow id e k v g ht hv)
  exact ⟨q2,g1,q7,fun o ho=>(g2 o).2 ho⟩
 ·have hlt:=Nat.lt_of_lt_of_le hb h.size
  have hF':¬R.F b:=fun h'=>hF ((hf.fgn b hlt).2 h')
  obtain ⟨g1,g2⟩:=hf.blk b hlt hF'
  obtain ⟨k1,k2⟩:=h.blk b hb hx hF'
  exact ⟨g1.trans k1,fun o=>(g2 o).trans (k2 o)⟩
 ·exact h.fbx b hb ((hf.fgn b (h.fit.β_lt b hb)).1 hF)
 ·exact h.fow id e k v b ht hv ((hf.fgn b ((h.fit.owns.own id e k v ht).block hv).2.1).1 hF)
theorem GS.far {ds:List Deferred} {R R':Env} (h:GS E ds R) (hf:Far R R'):GS E ds R':=by
 obtain ⟨l,e,hl,h⟩:=h
 refine ⟨l,e,hl,fun d hd=>?_⟩
 obtain ⟨h1,h2,h3⟩:=h d hd
 exact ⟨(hf.blk d (z7 h1) h3).1.trans h1,h2,fun h'=>h3 ((hf.fgn d (z7 h1)).1 h')⟩
theorem qE.far {R R':Env} {L:Loc} (h:qE G E σ a R L) (hf:Far R R') {lg:Nat} (hJ:E.J lg R'):qE G E ⟨σ.tm,σ.bx,σ.nx,lg⟩ a R' L:=
 ⟨h.good.far hf hJ,h.size,h.df.far hf,fun t=>Rep.ext hf.ext (zK.refl _) _ _ (h.tm t)⟩
theorem xz {Y:Option Yd} (hY:∀ y,Y=some y->YOk P y E.J) {c:Call} {f:Operand} (ho:o.op = .call c) (hc:c.callee = .value f) {l:Nat} (hev:zx G σ.tm f = .sc (.func (.yield l) #[] #[])) {K:C->St->Prop} {R:Env} {L:Loc} (h:qE G E σ a R L)
  (hK:vH Y l (c.args.toList.map (zx G σ.tm)) σ K):je P o a.eval R.w (Yg G E a K):=by
 unfold vH at hK
 split at hK<;>try exact hK.elim
 rename_i y
 obtain ⟨rfl,hK⟩:=hK
 unfold GK at hK
 split at hK<;>try exact hK.elim
 rename_i it hit
 obtain ⟨hle,hst,hK⟩:=hK
 have hf:=h.ev f;rw[hev,zo]at hf
 have hargs:=zu.less _ _ _ hle (Yr h.ev c.args.toList)
 have hargs0:zu R zI it (c.args.toList.map a.eval):=by
  refine zu.ext (Ext.refl R) (T:=Jk [] 0 L) ⟨fun i b hb=>?_,fun id x hx=>?_⟩ _ _ hargs
  ·simp at hb
  ·have hx:Zk [] L.T id=some x:=hx
   simp[Zk]at hx
 obtain ⟨fn,tmps,assign,body,hrun,hround⟩:=hY y rfl σ.lg R it _ h.good.log h.good.flt hst hit hargs0
 have hexec:(execOp a.eval o).run P R.w = .ok (.round y.l fn tmps assign body) R.w:=by
  unfold execOp
  simp only[ho,resolve,hc,hf]
  have e2:(Deferred.ofValue (.func (.yield y.l) #[] #[]) (c.args.map a.eval)).run P R.w = .ok { target:=.fn (.yield y.l) #[],args:=c.args.map a.eval } R.w:=by
   simp[Deferred.ofValue]
  rw[Sem.run_bind,e2]
  simp only[Result.andThen_ok,invoke]
  have e3:(c.args.toList.map a.eval).toArray=c.args.map a.eval:=by apply Array.ext';simp
  rw[e3]at hrun
  simpa using hrun
 unfold je
 rw[hexec]
 refine hround.mono ?_
 rintro e w' ⟨rfl,R',rfl,hfar,hJ⟩
 exact ⟨_,rfl,_,_,R',L,rfl,h.far hfar hJ,zo.2 rfl,hK⟩
theorem zfF {t:TypeId} {x:Operand} (ho:o.op = .call { callee:=.builtin .cap,args:=#[x],argTypes:=#[t] }) {K:C->St->Prop} {R:Env} {L:Loc} (h:qE G E σ a R L) (hK:zoa P t (zx G σ.tm x) fun c=>K c σ):je P o a.eval R.w (Yg G E a K):=by
 unfold zoa at hK
 split at hK<;>try exact hK.elim
 ·rename_i e s1 b1 z1 i off k n c hl hev
  have hs:=h.ev x;rw[hev,jp]at hs
  obtain ⟨b,hb,ad,es,_⟩:=hs
  refine je.value (w':=R.w) (v:=goInt (c:Int)) ?_ ⟨_,_,R,L,rfl,h,zo.2 rfl,hK⟩
  unfold execOp
  simp only[ho,resolve,invoke,builtin,Sem.run_bind,Sem.run_pure,Result.andThen_ok,List.map_toArray,List.map_cons,List.map_nil,es]
  simp[Builtin.cap_,run_underlying (z6 hl rfl)]
 ·rename_i e s1 b1 z1 hl hev
  have hs:=h.ev x;rw[hev,zo]at hs
  refine je.value (w':=R.w) (v:=goInt ((0:Nat):Int)) ?_ ⟨_,_,R,L,rfl,h,zo.2 rfl,hK⟩
  unfold execOp
  simp only[ho,resolve,invoke,builtin,Sem.run_bind,Sem.run_pure,Result.andThen_ok,List.map_toArray,List.map_cons,List.map_nil,hs]
  simp[Builtin.cap_,run_underlying (z6 hl rfl)]
theorem XU {Y:Hd} (hY:zhd P Y E) {K:C->St->Prop} (hK:Qv P G Y o.op σ K) {R:Env} {L:Loc} (h:qE G E σ a R L):je P o a.eval R.w (Yg G E a K):=by
 have pure1:jY P G σ.bx (zx G σ.tm) o.op σ.nx (fun c nx'=>K c ⟨σ.tm,σ.bx,nx',σ.lg⟩)->je P o a.eval R.w (Yg G E a K):=fun hp=>by
  obtain ⟨c,nx',h1,h2⟩:=UL _ hp
  exact Zr h1 h h2
 unfold Qv at hK
 split at hK
 ·exact xK (by assumption) h hK
 ·exact ze5 (by assumption) h hK
 ·exact xD (by assumption) h hK
 ·rename_i c ho
  split at hK
  ·rename_i f hc
   unfold MA at hK
   split at hK
   ·rename_i l fs cs hev
    obtain ⟨rfl,rfl,hK⟩:=hK
    exact xz hY.yd ho hc hev h hK
   ·rename_i fid first cap hev
    rcases hK with hK | hK | hK | hK | hK
    ·exact pure1 (by rw[ho];simp only[jY,NO,hc];rw[hev];exact hK)
    ·exact yf ho hc hev h hK
    ·obtain ⟨fargs,r,n,h1,h2,h3,h4⟩:=hK
     exact Zr (zak ho hc hev h1 h2 h3) h h4
    ·exact Ui ho hc hev h hK
    ·exact x5 ho hc hev h hK
   ·exact hK.elim
  ·rename_i b hc
   unfold yb at hK
   split at hK
   ·rename_i x t h1 h2
    exact pure1 (by rw[ho];simp only[jY,NO,hc,UB,h1,h2];exact hK)
   ·rename_i s x t t' h1 h2
    split at hK
    rotate_left
    ·obtain ⟨callee,args,argTypes⟩:=c
     simp only at hc h1 h2
     rw[qx h1,qx h2,hc]at ho
     exact zay ho h hK
    subst_vars
    split at hK
    ·obtain ⟨callee,args,argTypes⟩:=c
     simp only at hc h1 h2
     rw[qx h1,qx h2,hc]at ho
     split at hK
     ·exact yz ho h hK
     ·exact Mc hY.box ho h hK
    ·unfold Gq at hK
     split at hK
     ·rename_i id e k rows hev
      rw[←hev]at hK
      obtain ⟨callee,args,argTypes⟩:=c
      simp only at hc h1 h2
      rw[qx h1,qx h2,hc]at ho
      exact N4 ho h hK
     ·exact pure1 (by rw[ho];simp only[jY,NO,hc,UB,h1,h2];exact ⟨trivial,hK⟩)
   ·rename_i d x t t' h1 h2
    obtain ⟨callee,args,argTypes⟩:=c
    simp only at hc h1 h2
    rw[qx h1,qx h2,hc]at ho
    exact zaM ho h hK
   ·rename_i x t h1 h2
    obtain ⟨callee,args,argTypes⟩:=c
    simp only at hc h1 h2
    rw[JS h1,JS h2,hc]at ho
    exact xr ho h hK
   ·rename_i x t h1 h2
    obtain ⟨callee,args,argTypes⟩:=c
    simp only at hc h1 h2
    rw[JS h1,JS h2,hc]at ho
    exact zfF ho h hK
   ·rename_i x y t t' h1 h2
    exact pure1 (by rw[ho];simp only[jY,NO,hc,UB,h1,h2];exact hK)
   ·exact hK.elim
  ·exact hK.elim
 ·rename_i t n parts ho
  split at hK
  ·exact U5 ho h hK
  ·obtain ⟨c,nx',h1,h2⟩:=Xz ho _ hK
   exact Zr h1 h h2
 ·exact Z9 (.inl (by assumption)) h hK
 ·exact Z9 (.inr (by assumption)) h hK
 ·rename_i t l c ho
  split at hK
  ·exact GI ho h hK
  ·exact pure1 (by rw[ho];exact hK)
 ·exact pure1 hK
end
end
section
open Go.RowKit
abbrev Fl (r:Option Nat):Fence:={ fn:=fun _=>True,depth:=none,alive:=false,round:=r }
theorem Hj {r:Option Nat} {n:Nat} {P:Program} {f:FuncId} {args:Array Value} {w:World} {R:Ending->World->Prop} (h:Calls P f args w R):CallsIn (Fl r) n P f args w R:=by
 have:=(callsIn_wide (n:=n)).2 h
 cases r with
 | none=>exact this
 | some l=>exact this
theorem u0 {r:Option Nat} {n:Nat} {P:Program} {l:Nat} {f:FuncId} {tmps:Array Value} {assign body:Code} {w:World} {R:Ending->World->Prop} (h:RoundIn Fence.wide 0 P l f tmps assign body w R):RoundIn (Fl r) n P l f tmps assign body w R:=by
 have:RoundIn (Fl none) n P l f tmps assign body w R:=⟨h.1,fun c cs _=>h.2 c cs (room_wide _)⟩
 cases r with
 | none=>exact this
 | some l=>exact this
section
variable {P:Program} {G:zm} {E:Ctx} {σ:St} {o:Oper} {a:Act} {N p:Nat}
theorem jm {r:Option Nat} {n:Nat} {w:World} {next:Act->World->Prop} {Q:Exit->Act->World->Prop} (h:je P o a.eval w fun v w'=>next (a.put o.dst v) w'):o.wpIn (Fl r) n P a w next Q:=by
 have hnd:∀ c,o.op≠.defer c:=fun c hc=>by
  unfold je at h
  have:(execOp a.eval o).run P w=((resolve a.eval c o.type).run P w).andThen fun d w'=>.ok (.defer d) w':=by
   unfold execOp;simp only[hc,Sem.run_bind,Sem.run_pure]
  rw[this]at h
  cases hr:(resolve a.eval c o.type).run P w with
  | ok d w'=>rw[hr]at h;exact h
  | halt x w'=>rw[hr]at h;cases x<;>exact h
 refine ⟨fun f _=>trivial,?_⟩
 rw[Oper.semAt_eq _ _ _ hnd]
 unfold je at h
 split at h
 ·rename_i v w' hr;rw[hr];exact h
 ·rename_i w' hr;rw[hr];exact h
 ·rename_i f args w' hr
  rw[hr]
  refine ⟨fun hx=>by simp at hx,Hj (h.mono ?_)⟩
  rintro e w'' ⟨v,rfl,hv⟩
  exact hv
 ·rename_i l f tmps assign body w' hr
  rw[hr]
  refine ⟨fun hx=>by simp at hx,u0 (h.mono ?_)⟩
  rintro e w'' ⟨v,rfl,hv⟩
  exact hv
 ·exact h.elim
def qT (ops:Array Oper) (tm:List (Nat×C)) (g:Option (Nat×Bool)) (X Y:Prop):Prop:=
 match g with
 | none=>X
 | some (j,want)=>match (ops[j]?).bind (·.dst) with
  | some d=>match want with
   | true=>ziT (jy tm d) Y X Y
   | false=>ziT (jy tm d) Y Y X
  | none=>False
def JW (ops:Array Oper) (tm:List (Nat×C)) (g:Option (Nat×Bool)) (b:Bool):Prop:=
 match g with
 | none=>b=true
 | some (j,want)=>∃ d,(ops[j]?).bind (·.dst)=some d/\((∃ t,jy tm d = .sc (.bool t)/\b=(t==want))∨((∃ vs,jy tm d = .sc (.tuple vs))/\b=false))
theorem qT.out {ops:Array Oper} {tm:List (Nat×C)} {g:Option (Nat×Bool)} {X Y:Prop} (h:qT ops tm g X Y):∃ b,JW ops tm g b/\(b=true->X)/\(b=false->Y):=by
 unfold qT at h
 split at h
 ·exact ⟨true,rfl,fun _=>h,fun h=>by cases h⟩
 ·rename_i j want
  split at h
  ·rename_i d hd
   split at h
   ·rcases h.out with ⟨t,ht,h1,h2⟩ | ⟨hu,h1⟩
    ·exact ⟨t==true,⟨d,hd,.inl ⟨t,ht,rfl⟩⟩,fun e=>h1 (by simpa using e),fun e=>h2 (by simpa using e)⟩
    ·exact ⟨false,⟨d,hd,.inr ⟨hu,rfl⟩⟩,fun e=>(by cases e),fun _=>h1⟩
   ·rcases h.out with ⟨t,ht,h1,h2⟩ | ⟨hu,h1⟩
    ·exact ⟨t==false,⟨d,hd,.inl ⟨t,ht,rfl⟩⟩,fun e=>h2 (by simpa using e),fun e=>h1 (by simpa using e)⟩
    ·exact ⟨false,⟨d,hd,.inr ⟨hu,rfl⟩⟩,fun e=>(by cases e),fun _=>h1⟩
  ·exact h.elim
theorem jC {ops:Array Oper} {g:Option (Nat×Bool)} {b:Bool} {tm:List (Nat×C)} (hg:o.guard=g) (h:JW ops tm g b) {R:Env} {L:Loc} (hd:∀ j want d,g=some (j,want)->(ops[j]?).bind (·.dst)=some d->d<a.tmps.size/\Rep R L (jy tm d) (a.tmps.getD d undef)) :
  Region.wanted o (yielded ops a.tmps)=b:=by
 unfold Region.wanted
 rw[hg]
 unfold JW at h
 cases g with
 | none=>exact h.symm
 | some jw =>
  obtain ⟨j,want⟩:=jw
  obtain ⟨d,h1,h2⟩:=h
  obtain ⟨hlt,hr⟩:=hd j want d rfl h1
  have hget:a.tmps[d]?=some (a.tmps.getD d undef):=by rw[Array.getElem?_eq_getElem hlt,Array.getD_eq_getD_getElem?,Array.getElem?_eq_getElem hlt];rfl
  rcases h2 with ⟨t,h2,rfl⟩ | ⟨⟨vs,h2⟩,rfl⟩
  ·rw[h2,zo]at hr
   have hy:yielded ops a.tmps j=some t:=by
    unfold yielded
    rw[h1]
    simp[hget,hr]
   simp only[hy]
   cases t<;>cases want<;>rfl
  ·rw[h2,zo]at hr
   have hy:yielded ops a.tmps j=none:=by
    unfold yielded
    rw[h1]
    simp[hget,hr]
   simp only[hy]
   rfl
def jU (tm:List (Nat×C)) (dst:Option Tmp) (c:C):List (Nat×C):=match dst with | some d=>(d,c) :: tm | none=>tm
def Yi (P:Program) (G:zm) (Y:Hd) (ops:Array Oper):List Oper->List Bool->St->(St->Prop)->Prop
 | [],_,σ,K=>K σ
 | o :: rest,br,σ,K=>qT ops σ.tm o.guard
   (match br.headD false with
    | true=>Qv P G Y o.op σ fun c σ'=>Yi P G Y ops rest br.tail (σ'.put o.dst c) K
    | false=>jY P G σ.bx (zx G σ.tm) o.op σ.nx fun c nx'=>Yi P G Y ops rest br.tail ⟨jU σ.tm o.dst c,σ.bx,nx',σ.lg⟩ K)
   (Yi P G Y ops rest br.tail ⟨jU σ.tm o.dst (.sc undef),σ.bx,σ.nx,σ.lg⟩ K)
theorem MX {bx:List (List C)} {ev ev':Operand->C} {nx:Nat} {K:C->Nat->Prop} (op:Op) (h:∀ x∈op.operands,ev x=ev' x):jY P G bx ev op nx K=jY P G bx ev' op nx K:=by
 have parts:∀ l:List (Nat×Operand),(∀ x∈l.map (·.2),ev x=ev' x)->l.map (fun p=>(p.1,ev p.2))=l.map fun p=>(p.1,ev' p.2):=fun l hl =>
  List.map_congr_left fun p hp=>by rw[hl p.2 (List.mem_map.2 ⟨p,hp,rfl⟩)]
 have many:∀ l:List Operand,(∀ x∈l,ev x=ev' x)->l.map ev=l.map ev':=fun l hl=>List.map_congr_left hl
 cases op<;>simp only[Op.operands]at h<;>simp only[jY]
 case move x=>rw[h x (by simp)]
 case assign x=>rw[h x (by simp)]
 case pick c a b=>rw[h c (by simp),h a (by simp),h b (by simp)]
 case build t ps=>rw[parts _ fun x hx=>h x (by simpa using hx)]
 case buildSlice t n ps=>rw[parts _ fun x hx=>h x (by simpa using hx)]
 case load t x=>rw[h x (by simp)]
 case nilCheck x=>rw[h x (by simp)]
 case store t p x=>rw[h p (by simp),h x (by simp)]
 case lookup t m k ok=>rw[h m (by simp),h k (by simp)]
 case makeMap t r =>
  have e1:r.map ev=r.map ev':=by cases r with | none=>rfl | some y=>simp[h y (by simp)]
  rw[e1]
 case binOp op t x y t'=>rw[h x (by simp),h y (by simp)]
 case unOp op t x=>rw[h x (by simp)]
 case convert s d x=>rw[h x (by simp)]
 case makeFunc fn first cap=>rw[many first.toList fun x hx=>h x (by simp at hx ⊢;exact .inl hx),many cap.toList fun x hx=>h x (by simp at hx ⊢;exact .inr hx)]
 case makeSlice t l c=>rw[h l (by simp),h c (by simp)]
 case slice t x lo hi mx =>
  rw[h x (by simp)]
  have e1:lo.map ev=lo.map ev':=by cases lo with | none=>rfl | some y=>simp[h y (by simp)]
  have e2:hi.map ev=hi.map ev':=by cases hi with | none=>rfl | some y=>simp[h y (by simp)]
  have e3:mx.map ev=mx.map ev':=by cases mx with | none=>rfl | some y=>simp[h y (by simp)]
  rw[e1,e2,e3]
 case fieldAddr t x f=>rw[h x (by simp)]
 case field t x f=>rw[h x (by simp)]
 case indexAddr t x i=>rw[h x (by simp),h i (by simp)]
 case index t x i=>rw[h x (by simp),h i (by simp)]
 case extract t i=>rw[h t (by simp)]
 case call c =>
  unfold NO
  have hargs:∀ x∈c.args.toList,ev x=ev' x:=fun x hx=>h x (by unfold Call.operands;simp at hx ⊢;exact .inr hx)
  split
  ·rename_i f hc
   rw[h f (by unfold Call.operands;rw[hc];simp),many _ hargs]
  ·unfold UB
   split
   ·rename_i x t h1 h2 _
    rw[hargs x (by rw[h1];simp)]
   ·rename_i s x t t' h1 h2 _
    rw[hargs s (by rw[h1];simp),hargs x (by rw[h1];simp)]
   ·rename_i s x t t' h1 h2 _
    rw[hargs s (by rw[h1];simp),hargs x (by rw[h1];simp)]
   ·rfl
  ·rfl
open Classical in
/-- the operands of an operation alone -/
noncomputable def YL (o:Oper) (ev:Operand->C):Operand->C:=fun x=>if x∈o.op.operands then ev x else .any
theorem Jn {bx:List (List C)} {ev:Operand->C} {nx:Nat} {K:C->Nat->Prop} (h:jY P G bx ev o.op nx K):∃ c nx',zB P G bx (YL o ev) nx o c nx'/\K c nx':=by
 rw[MX (ev':=YL o ev) o.op fun x hx=>by unfold YL;rw[if_pos hx]]at h
 exact UL K h
structure Ya where
 T:Nat->List (Nat×C)
 X:Nat->Nat
 c:Nat->C
 wn:Nat->Bool
structure Qe (P:Program) (G:zm) (bx:List (List C)) (ops:Array Oper) (l:List Oper) (m m':Nat) (D:Ya):Prop where
 step:∀ (i:Nat) o,m<=i->i<m'->l[i]?=some o->D.T (i+1)=jU (D.T i) o.dst (D.c i)/\D.X i<=D.X (i+1)/\JW ops (D.T i) o.guard (D.wn i) /\
  (D.wn i=true->zB P G bx (YL o (zx G (D.T i))) (D.X i) o (D.c i) (D.X (i+1)))/\(D.wn i=false->D.c i = .sc undef/\D.X (i+1)=D.X i)
structure Hg (l:List Oper) (m m':Nat) (D:Ya):Prop where
 step:∀ (i:Nat) o,m<=i->i<m'->l[i]?=some o->D.T (i+1)=jU (D.T i) o.dst (D.c i)/\D.X i<=D.X (i+1)
theorem Qe.skel {bx:List (List C)} {ops:Array Oper} {l:List Oper} {m m':Nat} {D:Ya} (h:Qe P G bx ops l m m' D):Hg l m m' D:=⟨fun i o a b c=>⟨(h.step i o a b c).1,(h.step i o a b c).2.1⟩⟩
theorem Zb {Y:Hd} {ops:Array Oper} {all:List Oper} {K:St->Prop}:∀ (l:List Oper) (br:List Bool) (m:Nat) (σ:St),all.drop m=l->m<=all.length->Yi P G Y ops l br σ K ->
  ∃ (m':Nat) (D:Ya),m<=m'/\m'<=all.length/\D.T m=σ.tm/\D.X m=σ.nx/\Qe P G σ.bx ops all m m' D /\
   ((m'=all.length/\K ⟨D.T m',σ.bx,D.X m',σ.lg⟩)∨(m'<all.length/\br[m'-m]?=some true/\Yi P G Y ops (all.drop m') (br.drop (m'-m)) ⟨D.T m',σ.bx,D.X m',σ.lg⟩ K))
 | [],br,m,σ,hl,hm,h=>by
  have:m=all.length:=by
   have:=congrArg List.length hl
   simp at this;omega
  subst this
  exact ⟨_,⟨fun _=>σ.tm,fun _=>σ.nx,fun _=>.any,fun _=>true⟩,Nat.le_refl _,Nat.le_refl _,rfl,rfl,⟨fun i o h1 h2=>by omega⟩,.inl ⟨rfl,h⟩⟩
 | o :: rest,br,m,σ,hl,hm,h=>by
  have hlt:m<all.length:=by
   rcases Nat.lt_or_ge m all.length with g | g
   ·exact g
   ·rw[List.drop_eq_nil_of_le g]at hl;cases hl
  have hom:all[m]?=some o:=by
   have:=List.getElem?_drop (xs:=all) (i:=m) (j:=0)
   rw[hl]at this;simpa using this.symm
  have hrest:all.drop (m+1)=rest:=by
   have:=congrArg List.tail hl
   simpa using this
  cases hbr:br.headD false with
  | true =>
   refine ⟨m,⟨fun _=>σ.tm,fun _=>σ.nx,fun _=>.any,fun _=>true⟩,Nat.le_refl _,by omega,rfl,rfl,⟨fun i o h1 h2=>by omega⟩,.inr ⟨hlt,?_,?_⟩⟩
   ·cases br with
    | nil=>simp at hbr
    | cons x r=>simp at hbr;simp[hbr]
   ·rw[hl,Nat.sub_self];exact h
  | false =>
   unfold Yi at h
   obtain ⟨b,hg,h1,h2⟩:=qT.out h
   simp only[hbr]at h1
   have key:∀ (c:C) (nx':Nat),(b=true->zB P G σ.bx (YL o (zx G σ.tm)) σ.nx o c nx')->(b=false->c = .sc undef/\nx'=σ.nx)->σ.nx<=nx'->Yi P G Y ops rest br.tail ⟨jU σ.tm o.dst c,σ.bx,nx',σ.lg⟩ K ->
     ∃ (m':Nat) (D:Ya),m<=m'/\m'<=all.length/\D.T m=σ.tm/\D.X m=σ.nx/\Qe P G σ.bx ops all m m' D /\
      ((m'=all.length/\K ⟨D.T m',σ.bx,D.X m',σ.lg⟩)∨(m'<all.length/\br[m'-m]?=some true/\Yi P G Y ops (all.drop m') (br.drop (m'-m)) ⟨D.T m',σ.bx,D.X m',σ.lg⟩ K)):=fun c nx' hp hq hle hrst=>by
    obtain ⟨m',D,d1,d2,d3,d4,d5,d6⟩:=Zb rest br.tail (m+1) _ hrest (by omega) hrst
    refine ⟨m',⟨fun i=>if i<=m then σ.tm else D.T i,fun i=>if i<=m then σ.nx else D.X i,fun i=>if i=m then c else D.c i,fun i=>if i=m then b else D.wn i⟩,by omega,d2,by simp,by simp,⟨fun i o' hi hi' hio=>?_⟩,?_⟩
    ·by_cases him:i=m
     ·subst him
      rw[hom]at hio;cases hio
      simp only[Nat.le_refl,if_true,show ¬i+1<=i by omega,if_false]
      refine ⟨d3,by rw[d4];exact hle,hg,fun hb=>?_,fun hb=>?_⟩
      ·rw[d4];exact hp hb
      ·rw[d4];exact hq hb
     ·simp only[if_neg him,if_neg (show ¬i<=m by omega),if_neg (show ¬i+1<=m by omega)]
      exact d5.step i o' (by omega) hi' hio
    ·simp only[if_neg (show ¬m'<=m by omega)]
     rcases d6 with ⟨g1,g2⟩ | ⟨g1,g2,g3⟩
     ·exact .inl ⟨g1,g2⟩
     ·refine .inr ⟨g1,?_,?_⟩
      ·cases br with
       | nil=>simp at g2
       | cons x r =>
        rw[show m'-m=(m'-(m+1))+1 by omega]
        simpa using g2
      ·cases br with
       | nil=>simp at g2
       | cons x r =>
        rw[show m'-m=(m'-(m+1))+1 by omega]
        simpa using g3
   cases b with
   | true =>
    obtain ⟨c,nx',hp,hK⟩:=Jn (h1 rfl)
    exact key c nx' (fun _=>hp) (fun h=>by cases h) hp.1 hK
   | false=>exact key (.sc undef) σ.nx (fun h=>by cases h) (fun _=>⟨rfl,rfl⟩) (Nat.le_refl _) (h2 rfl)
end
end
section
open Go.RowKit
def qe (l:List Oper):Nat->List Nat
 | 0=>[]
 | m+1=>qe l m++[match l[m]? with
  | some o=>o.after.toList.foldl (fun acc e=>if Region.binds .any e then acc ||| 2 ^ e.on ||| (qe l m).getD e.on 0 else acc) 0
  | none=>0]
def inC (cl:List Nat) (i j:Nat):Bool:=(cl.getD i 0).testBit j
theorem X5 (l:List Oper):∀ m,(qe l m).length=m
 | 0=>rfl
 | m+1=>by simp[qe,X5 l m]
theorem Mx {p:List Nat} {x:Nat}:∀ (l:List Edge) (acc:Nat),(l.foldl (fun acc e=>if Region.binds .any e then acc ||| 2 ^ e.on ||| p.getD e.on 0 else acc) acc).testBit x=true ->
  acc.testBit x=true∨∃ e∈l,Region.binds .any e=true/\(x=e.on∨inC p e.on x=true)
 | [],acc,h=>.inl h
 | e :: l,acc,h=>by
  rw[List.foldl_cons]at h
  rcases Mx l _ h with h | ⟨e',h1,h2⟩
  ·split at h
   ·rename_i hb
    simp only[Nat.testBit_or,Bool.or_eq_true,Nat.testBit_two_pow,decide_eq_true_eq]at h
    rcases h with (h | h) | h
    ·exact .inl h
    ·exact .inr ⟨e,List.mem_cons_self,hb,.inl h.symm⟩
    ·exact .inr ⟨e,List.mem_cons_self,hb,.inr h⟩
   ·exact .inl h
  ·exact .inr ⟨e',List.mem_cons_of_mem _ h1,h2⟩
def qR (ops:Array Oper) (o:Oper):List Tmp:=o.looksAt ops++o.dst.toList
def zcb (ops:Array Oper) (cl:List Nat) (i:Nat) (o:Oper) (j:Nat) (o':Oper):Bool:=
 i==j||match o'.dst with
  | none=>true
  | some d=>!((qR ops o).contains d)||(if j<i then inC cl i j else inC cl j i)
def Jo (ops:Array Oper):Bool:=
 let cl:=qe ops.toList ops.size
 ops.toList.zipIdx.all fun (o,i)=>(o.after.toList.all fun e=>!Region.binds .any e||decide (e.on<i))&&ops.toList.zipIdx.all fun (o',j)=>zcb ops cl i o j o'
def qz (l:List Oper) (D:Nat->Bool):Prop:=∀ (i:Nat) o,l[i]?=some o->D i=true->∀ e∈o.after.toList,Region.binds .any e=true->D e.on=true
theorem jT {l:List Oper} {D:Nat->Bool} (hD:qz l D):∀ (m i x:Nat),inC (qe l m) i x=true->D i=true->D x=true
 | 0,i,x,h,_=>by simp[qe,inC]at h
 | m+1,i,x,h,hi=>by
  have hl:=X5 l m
  simp only[qe,inC]at h
  rcases Nat.lt_or_ge i m with hlt | hge
  ·rw[List.getD_eq_getElem?_getD,List.getElem?_append_left (by omega),←List.getD_eq_getElem?_getD]at h
   exact jT hD m i x h hi
  ·rw[List.getD_eq_getElem?_getD,List.getElem?_append_right (by omega),←List.getD_eq_getElem?_getD]at h
   rcases Nat.lt_or_ge m i with h1 | h1
   ·rw[List.getD_eq_getElem?_getD,List.getElem?_eq_none (by simp;omega)]at h
    simp at h
   ·have:i=m:=by omega
    subst this
    rw[hl,Nat.sub_self]at h
    simp only[List.getD_cons_zero]at h
    cases ho:l[i]? with
    | none=>rw[ho]at h;simp at h
    | some o =>
     rw[ho]at h
     rcases Mx _ _ h with h | ⟨e,he,hb,hx⟩
     ·simp at h
     ·have hon:=hD i o ho hi e he hb
      rcases hx with rfl | hx
      ·exact hon
      ·exact jT hD i e.on x hx hon
def val (T0:List (Nat×C)) (l:List Oper) (c:Nat->C) (D:Nat->Bool):Nat->Nat->C
 | 0,t=>jy T0 t
 | m+1,t=>if D m=true/\(l[m]?).bind (·.dst)=some t then c m else val T0 l c D m t
section
variable {P:Program} {G:zm} {E:Ctx} {σ:St} {a:Act} {N p:Nat} {bx:List (List C)} {ops:Array Oper}
theorem Yv {D:Ya} {l:List Oper} {m m':Nat} (hl:m'<=l.length) (h:Hg l m m' D) (t:Nat):∀ k,m<=k->k<=m'->jy (D.T k) t=val (D.T m) l D.c (fun j=>decide (m<=j)) k t
 | k,hm,hk=>by
  rcases Nat.lt_or_ge m k with hlt | hge
  ·obtain ⟨k,rfl⟩:∃ j,k=j+1:=⟨k-1,by omega⟩
   obtain ⟨h1,_⟩:=h.step k l[k] (by omega) (by omega) (List.getElem?_eq_getElem (by omega))
   rw[h1]
   simp only[val,List.getElem?_eq_getElem (show k<l.length by omega),Option.bind_some]
   have hmk:m<=k:=by omega
   cases hd:(l[k]).dst with
   | none=>simp[jU,Yv hl h t k hmk (by omega)]
   | some d =>
    simp only[jU,jy]
    by_cases ht:t=d
    ·simp[ht,hmk]
    ·have:¬d=t:=fun e=>ht e.symm
     simp[ht,this,Yv hl h t k hmk (by omega)]
  ·obtain rfl:k=m:=by omega
   have:∀ n,n<=k->val (D.T k) l D.c (fun j=>decide (k<=j)) n t=jy (D.T k) t:=fun n=>by
    induction n with
    | zero=>intro _;rfl
    | succ n ih =>
     intro hn
     simp only[val]
     rw[if_neg (by simp;omega),ih (by omega)]
   exact (this k (Nat.le_refl _)).symm
theorem qw {T0:List (Nat×C)} {l:List Oper} {c:Nat->C} {D D':Nat->Bool} {t:Nat}:∀ m,(∀ j,j<m->(l[j]?).bind (·.dst)=some t->D j=D' j)->val T0 l c D m t=val T0 l c D' m t
 | 0,_=>rfl
 | m+1,h=>by
  simp only[val]
  rw[qw m fun j hj=>h j (by omega)]
  by_cases hd:(l[m]?).bind (·.dst)=some t
  ·rw[h m (by omega) hd]
  ·simp[hd]
theorem ju {T0:List (Nat×C)} {l:List Oper} {c:Nat->C} {D:Nat->Bool} {t:Nat} (i:Nat):∀ m,i<=m->(∀ j,i<=j->j<m->(l[j]?).bind (·.dst)=some t->D j=false)->val T0 l c D m t=val T0 l c D i t
 | 0,hi,_=>by rw[show i=0 by omega]
 | m+1,hi,h=>by
  rcases Nat.lt_or_ge m i with h1 | h1
  ·rw[show i=m+1 by omega]
  ·simp only[val]
   rw[ju i m h1 fun j hj hj'=>h j hj (by omega)]
   by_cases hd:(l[m]?).bind (·.dst)=some t
   ·rw[h m h1 (by omega) hd];simp
   ·simp[hd]
structure YN (G:zm) (E:Ctx) (bx:List (List C)) (lg:Nat) (l:List Oper) (m m':Nat) (D:Ya) (S:Nat->Bool) (a:Act) (R:Env) (L:Loc):Prop where
 good:Yf G E ⟨[],bx,D.X m',lg⟩ R L
 free:∀ id,D.X m<=id->(∀ i,m<=i->i<m'->S i=true->¬(D.X i<=id/\id<D.X (i+1)))->L.T id=none
 size:a.tmps.size=E.N
 df:GS E a.defers R
 tm:∀ t,Rep R L (val (D.T m) l D.c (fun j=>decide (m<=j)&&S j) l.length t) (a.tmps.getD t undef)
theorem QS {D:Ya} {l:List Oper} {m m':Nat} (hl:m'<=l.length) (h:Hg l m m' D):∀ (i j:Nat),m<=i->i<=j->j<=m'->D.X i<=D.X j
 | i,0,_,hij,_=>by rw[show i=0 by omega];exact Nat.le_refl _
 | i,j+1,hm,hij,hj=>by
  rcases Nat.lt_or_ge j i with h1 | h1
  ·rw[show i=j+1 by omega];exact Nat.le_refl _
  ·obtain ⟨_,h2⟩:=h.step j l[j] (by omega) (by omega) (List.getElem?_eq_getElem (by omega))
   exact Nat.le_trans (QS hl h i j hm h1 (by omega)) h2
theorem zjI {D:Ya} {l:List Oper} {m m':Nat} (hl:m'<=l.length) (h:Hg l m m' D) {i j id:Nat} (hmi:m<=i) (hmj:m<=j) (hi:i<m') (hj:j<m') (h1:D.X i<=id) (h2:id<D.X (i+1)) (h3:D.X j<=id) (h4:id<D.X (j+1)):i=j:=by
 rcases Nat.lt_trichotomy i j with g | g | g
 ·have:=QS hl h (i+1) j (by omega) (by omega) (by omega);omega
 ·exact g
 ·have:=QS hl h (j+1) i (by omega) (by omega) (by omega);omega
theorem zaG (h:Jo ops=true) {i:Nat} {o:Oper} (ho:ops.toList[i]?=some o):∀ e∈o.after.toList,Region.binds .any e=true->e.on<i:=by
 unfold Jo at h
 have h1:=List.all_eq_true.1 h (o,i) (List.mem_zipIdx_iff_getElem?.2 ho)
 simp only[Bool.and_eq_true]at h1
 intro e he hb
 have:=List.all_eq_true.1 h1.1 e he
 simpa [hb] using this
theorem uW (h:Jo ops=true) {i j:Nat} {o o':Oper} (ho:ops.toList[i]?=some o) (ho':ops.toList[j]?=some o'):zcb ops (qe ops.toList ops.size) i o j o'=true:=by
 unfold Jo at h
 have h1:=List.all_eq_true.1 h (o,i) (List.mem_zipIdx_iff_getElem?.2 ho)
 simp only[Bool.and_eq_true]at h1
 exact List.all_eq_true.1 h1.2 (o',j) (List.mem_zipIdx_iff_getElem?.2 ho')
theorem zaB (h:Jo ops=true) {S:Nat->Bool} (hS:qz ops.toList S) {i:Nat} {o:Oper} (ho:ops.toList[i]?=some o) (hi:S i=false) (hpre:∀ e∈o.after.toList,Region.binds .any e=true->S e.on=true)
  {j t:Nat} (hj:(ops.toList[j]?).bind (·.dst)=some t) (ht:t∈qR ops o) (hne:j≠i):S j=decide (j<i):=by
 cases ho':ops.toList[j]? with
 | none=>rw[ho']at hj;cases hj
 | some o' =>
  rw[ho']at hj
  have hd:o'.dst=some t:=hj
  have hp:=uW h ho ho'
  unfold zcb at hp
  have hij:(i==j)=false:=by simp;omega
  rw[hij,hd]at hp
  have htc:(qR ops o).contains t=true:=by simpa using ht
  simp only[Bool.false_or,htc,Bool.not_true]at hp
  by_cases hlt:j<i
  ·rw[if_pos hlt]at hp
   have hmem:inC (qe ops.toList ops.size) i j=true:=by simpa using hp
   rw[decide_eq_true hlt]
   -- S' closes over i
   have hS':qz ops.toList (fun x=>S x||x==i):=fun k q hq hk e he hb=>by
    simp only[Bool.or_eq_true,beq_iff_eq]at hk ⊢
    rcases hk with hk | hk
    ·exact .inl (hS k q hq hk e he hb)
    ·subst hk
     rw[ho]at hq;cases hq
     exact .inl (hpre e he hb)
   have:=jT hS' _ i j hmem (by simp)
   simp only[Bool.or_eq_true,beq_iff_eq]at this
   exact this.resolve_right hne
  ·rw[if_neg hlt]at hp
   have hmem:inC (qe ops.toList ops.size) j i=true:=by simpa using hp
   rw[decide_eq_false hlt]
   cases hsj:S j with
   | false=>rfl
   | true =>
    have:=jT hS _ j i hmem hsj
    rw[hi]at this;cases this
theorem YN.ev {D:Ya} {S:Nat->Bool} {m m' lg:Nat} {R:Env} {L:Loc} (hl:m'<=ops.toList.length) (hc:Hg ops.toList m m' D) (hok:Jo ops=true) (hS:qz ops.toList S) (h:YN G E bx lg ops.toList m m' D S a R L) {i:Nat} {o:Oper} (hmi:m<=i) (hmi':i<m') (ho:ops.toList[i]?=some o) (hi:S i=false)
  (hpre:∀ e∈o.after.toList,Region.binds .any e=true->S e.on=true):∀ t∈qR ops o,Rep R L (jy (D.T i) t) (a.tmps.getD t undef):=fun t ht=>by
 have hlt:i<ops.toList.length:=(List.getElem?_eq_some_iff.1 ho).1
 have h1:=h.tm t
 have e1:val (D.T m) ops.toList D.c (fun j=>decide (m<=j)&&S j) ops.toList.length t=val (D.T m) ops.toList D.c (fun j=>decide (m<=j)&&S j) i t:=by
  refine ju i _ (by omega) fun j hj hj' hd=>?_
  simp only[Bool.and_eq_false_iff]
  by_cases hne:j=i
  ·rw[hne];exact .inr hi
  ·rw[zaB hok hS ho hi hpre hd ht hne];exact .inr (decide_eq_false (by omega))
 have e2:val (D.T m) ops.toList D.c (fun j=>decide (m<=j)&&S j) i t=val (D.T m) ops.toList D.c (fun j=>decide (m<=j)) i t:=qw i fun j hj hd=>by
  rw[zaB hok hS ho hi hpre hd ht (by omega),decide_eq_true hj,Bool.and_true]
 rw[e1,e2,←Yv hl hc t i hmi (by omega)]at h1
 exact h1
theorem YN.freeAt {D:Ya} {S:Nat->Bool} {m m' lg:Nat} {R:Env} {L:Loc} (hl:m'<=ops.toList.length) (hc:Hg ops.toList m m' D) (h:YN G E bx lg ops.toList m m' D S a R L) {i:Nat} (hmi:m<=i) (hmi':i<m') (hi:S i=false):zlY L (D.X i) (D.X (i+1)):=fun id h1 h2 =>
 h.free id (Nat.le_trans (QS hl hc m i (Nat.le_refl _) hmi (by omega)) h1) fun j hmj hj hsj hx=>by
  have:=zjI hl hc hmi hmj hmi' hj h1 h2 hx.1 hx.2
  subst this;rw[hi]at hsj;cases hsj
theorem YN.put {D:Ya} {S:Nat->Bool} {m m' lg:Nat} {R R':Env} {L L':Loc} (hl:m'<=ops.toList.length) (hc:Hg ops.toList m m' D) (hok:Jo ops=true) (hS:qz ops.toList S) (h:YN G E bx lg ops.toList m m' D S a R L) {i:Nat} {o:Oper} (hmi:m<=i) (hmi':i<m') (ho:ops.toList[i]?=some o) (hi:S i=false)
  (hpre:∀ e∈o.after.toList,Region.binds .any e=true->S e.on=true) (hd:Yc E.N o.dst) {v:Value} (st:qp (D.X i) (D.X (i+1)) R L R' L') (hv:Rep R' L' (D.c i) v) :
  YN G E bx lg ops.toList m m' D (fun x=>S x||x==i) (a.put o.dst v) R' L':=by
 have hlt:i<ops.toList.length:=(List.getElem?_eq_some_iff.1 ho).1
 have hfree:=h.freeAt hl hc hmi hmi' hi
 have hxm:=QS hl hc (i+1) m' (by omega) (by omega) (Nat.le_refl _)
 refine ⟨?_,fun id h1 h2=>?_,?_,?_,fun t=>?_⟩
 ·refine h.good.move (st.near _ _).nigh (h.good.fit.step hfree st) ⟨[],by rw[st.box,List.append_nil],fun b hb=>by cases hb⟩ (fun id e k v b ht hv=>?_) fun id hid=>?_
  ·rcases st.cases ht with g | ⟨g1,g2⟩
   ·exact .inl ⟨id,e,k,v,g,hv⟩
   ·exact .inr ((st.new id e k v g1 g2 ht).block hv).1
  ·rw[st.old id (.inr (by omega))];exact h.good.free id hid
 ·have hni:=h2 i hmi hmi' (by simp)
  rw[st.old id (by omega)]
  exact h.free id h1 fun j hmj hj hsj=>h2 j hmj hj (by simp[hsj])
 ·cases hdst:o.dst<;>simpa [Act.put] using h.size
 ·have hdf:=h.df.near (st.near _ _)
  cases hdst:o.dst<;>exact hdf
 ·have hold:∀ t,Rep R' L' (val (D.T m) ops.toList D.c (fun j=>decide (m<=j)&&S j) ops.toList.length t) (a.tmps.getD t undef):=fun t=>Rep.ext st.ext (st.le hfree) _ _ (h.tm t)
  by_cases hdt:o.dst=some t
  ·have hlt2:t<a.tmps.size:=by rw[hdt]at hd;rw[h.size];exact hd
   have e1:val (D.T m) ops.toList D.c (fun j=>decide (m<=j)&&(S j||j==i)) ops.toList.length t=D.c i:=by
    rw[ju (i+1) _ (by omega) fun j hj hj' hdj=>?_]
    ·simp[val,ho,hdt,hmi]
    ·have hag:=zaB hok hS ho hi hpre hdj (by simp[qR,hdt]) (by omega)
     simp only[Bool.and_eq_false_iff,Bool.or_eq_false_iff]
     exact .inr ⟨by rw[hag];exact decide_eq_false (by omega),by simp;omega⟩
   rw[e1,hdt]
   have:(a.put (some t) v).tmps.getD t undef=v:=by simp[Act.put,Array.getD_eq_getD_getElem?,hlt2]
   rw[this];exact hv
  ·have e1:val (D.T m) ops.toList D.c (fun j=>decide (m<=j)&&(S j||j==i)) ops.toList.length t=val (D.T m) ops.toList D.c (fun j=>decide (m<=j)&&S j) ops.toList.length t:=qw _ fun j hj hdj=>by
    have hji:j≠i:=fun e=>by
     subst e;rw[ho]at hdj;exact hdt hdj
    have hj2:(j==i)=false:=by simpa using hji
    show (decide (m<=j)&&(S j||j==i))=(decide (m<=j)&&S j)
    rw[hj2,Bool.or_false]
   rw[e1]
   have e2:(a.put o.dst v).tmps.getD t undef=a.tmps.getD t undef:=by
    cases hdst:o.dst with
    | none=>rfl
    | some d =>
     have hne:d≠t:=fun e=>hdt (by rw[hdst,e])
     simp[Act.put,Array.getD_eq_getD_getElem?,Array.getElem?_setIfInBounds_ne hne]
   rw[e2];exact hold t
def XJ (ops:Array Oper) (br:List Bool):Bool:=
 let cl:=qe ops.toList ops.size
 (List.range ops.size).all fun i=>!(br.getD i false)||(List.range ops.size).all fun j=>j==i||if j<i then inC cl i j else inC cl j i
theorem Ng {br:List Bool} (h:XJ ops br=true) {i j:Nat} (hi:i<ops.size) (hb:br.getD i false=true) (hji:j<i):inC (qe ops.toList ops.size) i j=true:=by
 unfold XJ at h
 have h1:=List.all_eq_true.1 h i (by simpa using hi)
 rw[hb]at h1
 simp only[Bool.not_true,Bool.false_or]at h1
 have h2:=List.all_eq_true.1 h1 j (by simp;omega)
 rw[if_pos hji]at h2
 have:(j==i)=false:=by simp;omega
 rw[this]at h2
 simpa using h2
theorem HF {br:List Bool} (h:XJ ops br=true) {i j:Nat} (hi:i<ops.size) (hj:j<ops.size) (hb:br.getD i false=true) (hji:i<j):inC (qe ops.toList ops.size) j i=true:=by
 unfold XJ at h
 have h1:=List.all_eq_true.1 h i (by simpa using hi)
 rw[hb]at h1
 simp only[Bool.not_true,Bool.false_or]at h1
 have h2:=List.all_eq_true.1 h1 j (by simpa using hj)
 rw[if_neg (by omega)]at h2
 have:(j==i)=false:=by simp;omega
 rw[this]at h2
 simpa using h2
end
end
section
open Go.RowKit
section
variable {P:Program} {G:zm} {E:Ctx} {σ:St} {a:Act} {N p:Nat} {bx:List (List C)} {ops:Array Oper}
theorem qV {listed:Array Bool} {i:Nat} (h:i∈Region.ready .any ops listed):∃ o,ops.toList[i]?=some o/\listed.getD i true=false/\∀ e∈o.after.toList,Region.binds .any e=true->listed.getD e.on false=true:=by
 unfold Region.ready at h
 rw[List.mem_filter]at h
 obtain ⟨h1,h2⟩:=h
 simp only[Bool.and_eq_true,Bool.not_eq_true']at h2
 have hi:i<ops.size:=by simpa using h1
 rw[Array.getElem?_eq_getElem hi]at h2
 simp only[Option.map_some,Option.getD_some,Array.all_eq_true_iff_forall_mem]at h2
 refine ⟨ops[i],by simp[hi],h2.1,fun e he hb=>?_⟩
 have:=h2.2 e (by simpa using he)
 simpa [hb] using this
theorem JR {listed:Array Bool} (hok:Jo ops=true) (hsz:listed.size=ops.size) (h:Region.ready .any ops listed = []):∀ i,i<ops.size->listed.getD i false=true:=by
 intro i
 induction i using Nat.strongRecOn with
 | _ i ih =>
  intro hi
  cases hl:listed.getD i false with
  | true=>rfl
  | false =>
   exfalso
   have:i∈Region.ready .any ops listed:=by
    unfold Region.ready
    rw[List.mem_filter]
    refine ⟨by simpa using hi,?_⟩
    have h1:listed.getD i true=false:=by
     rw[Array.getD_eq_getD_getElem?,Array.getElem?_eq_getElem (by omega)]at hl ⊢
     simpa using hl
    rw[h1,Array.getElem?_eq_getElem hi]
    simp only[Bool.not_false,Bool.true_and,Option.map_some,Option.getD_some,Array.all_eq_true_iff_forall_mem]
    intro e he
    cases hb:Region.binds .any e with
    | false=>simp
    | true =>
     have hlt:=zaG hok (i:=i) (o:=ops[i]) (by simp[hi]) e (by simpa using he) hb
     simp[ih e.on hlt (by omega)]
   rw[h]at this;cases this
theorem jr {l:List Bool} {i:Nat} (hi:l[i]?=some false):(l.set i true).count false+1=l.count false:=by
 have hlt:i<l.length:=(List.getElem?_eq_some_iff.1 hi).1
 have hv:l[i]=false:=(List.getElem?_eq_some_iff.1 hi).2
 rw[List.count_set hlt,hv]
 have hpos:0<l.count false:=List.count_pos_iff.2 (List.mem_of_getElem? hi)
 simp;omega
theorem MI {br:List Bool} {listed:Array Bool} {i m':Nat} {o:Oper} (hbr:XJ ops br=true) (hbm:br.getD m' false=true) (hcl:qz ops.toList (fun i=>listed.getD i false)) (hm:listed.getD m' false=false) (ho:ops.toList[i]?=some o)
  (hpre:∀ e∈o.after.toList,Region.binds .any e=true->listed.getD e.on false=true) (hlt:m'<i) (hm':m'<ops.size):False:=by
 have hi:i<ops.size:=by simpa using (List.getElem?_eq_some_iff.1 ho).1
 have hmem:=HF hbr hm' hi hbm hlt
 have hS':qz ops.toList (fun x=>listed.getD x false||x==i):=fun k q hq hk e he hb=>by
  simp only[Bool.or_eq_true,beq_iff_eq]at hk ⊢
  rcases hk with hk | hk
  ·exact .inl (hcl k q hq hk e he hb)
  ·subst hk;rw[ho]at hq;cases hq
   exact .inl (hpre e he hb)
 have:=jT hS' _ i m' hmem (by simp)
 simp only[Bool.or_eq_true,beq_iff_eq]at this
 rcases this with h | h
 ·rw[hm]at h;cases h
 ·omega
theorem Mh {br:List Bool} {listed:Array Bool} {i j:Nat} {o:Oper} (hbr:XJ ops br=true) (hbm:br.getD i false=true) (hcl:qz ops.toList (fun i=>listed.getD i false)) (ho:ops.toList[i]?=some o)
  (hpre:∀ e∈o.after.toList,Region.binds .any e=true->listed.getD e.on false=true) (hlt:j<i):listed.getD j false=true:=by
 have hi:i<ops.size:=by simpa using (List.getElem?_eq_some_iff.1 ho).1
 have hmem:=Ng hbr hi hbm hlt
 have hS':qz ops.toList (fun x=>listed.getD x false||x==i):=fun k q hq hk e he hb=>by
  simp only[Bool.or_eq_true,beq_iff_eq]at hk ⊢
  rcases hk with hk | hk
  ·exact .inl (hcl k q hq hk e he hb)
  ·subst hk;rw[ho]at hq;cases hq
   exact .inl (hpre e he hb)
 have:=jT hS' _ i j hmem (by simp)
 simp only[Bool.or_eq_true,beq_iff_eq]at this
 rcases this with h | h
 ·exact h
 ·omega
theorem qn {listed:Array Bool} {i:Nat} (hsz:listed.size=ops.size) (hi:i<ops.size) (h:listed.getD i true=false):listed.getD i false=false/\listed.toList[i]?=some false:=by
 have hil:i<listed.size:=by omega
 rw[Array.getD_eq_getD_getElem?,Array.getElem?_eq_getElem hil]at h ⊢
 refine ⟨by simpa using h,by simp[hil];simpa using h⟩
theorem qy {listed:Array Bool} {i:Nat} (hil:i<listed.size):(fun x=>(listed.setIfInBounds i true).getD x false)=fun x=>(listed.getD x false||x==i):=by
 funext x
 by_cases hx:x=i
 ·subst hx;simp[Array.getD_eq_getD_getElem?,hil]
 ·have:i≠x:=fun e=>hx e.symm
  simp[Array.getD_eq_getD_getElem?,Array.getElem?_setIfInBounds_ne this,hx]
theorem Ja {listed:Array Bool} {i:Nat} {o:Oper} (hil:i<listed.size) (hcl:qz ops.toList (fun i=>listed.getD i false)) (ho:ops.toList[i]?=some o)
  (hpre:∀ e∈o.after.toList,Region.binds .any e=true->listed.getD e.on false=true):qz ops.toList (fun x=>(listed.setIfInBounds i true).getD x false):=by
 rw[qy hil]
 intro k q hq hk e he hb
 simp only[Bool.or_eq_true,beq_iff_eq]at hk ⊢
 rcases hk with hk | hk
 ·exact .inl (hcl k q hq hk e he hb)
 ·subst hk;rw[ho]at hq;cases hq
  exact .inl (hpre e he hb)
theorem vY {r:Option Nat} {n m m' lg:Nat} {Q:Exit->Act->World->Prop} {D:Ya} (hN:∀ o∈ops.toList,Yc E.N o.dst) (hok:Jo ops=true) (hmm:m<=m') (hl:m'<=ops.toList.length) (hrdy:∀ (listed:Array Bool) (i:Nat) (o:Oper),m'<=i->i<ops.size->qz ops.toList (fun i=>listed.getD i false)->ops.toList[i]?=some o->(∀ e∈o.after.toList,Region.binds .any e=true->listed.getD e.on false=true)->(∀ i,m'<=i->listed.getD i false=false)->∀ j,j<m'->listed.getD j false=true) (hc:Qe P G bx ops ops.toList m m' D)
  (hEnd:∀ (fuel:Nat) (listed:Array Bool) (a:Act) (R:Env) (L:Loc),listed.size=ops.size->listed.toList.count false<=fuel->qz ops.toList (fun i=>listed.getD i false)->(∀ i,i<m'->listed.getD i false=true)->(∀ i,m'<=i->listed.getD i false=false) ->
   qE G E ⟨D.T m',bx,D.X m',lg⟩ a R L->wpAnyIn (Fl r) n P .any ops Q fuel listed a R.w):∀ (fuel:Nat) (listed:Array Bool) (a:Act) (R:Env) (L:Loc),listed.size=ops.size->listed.toList.count false<=fuel ->
  qz ops.toList (fun i=>listed.getD i false)->(∀ i,i<m->listed.getD i false=true)->(∀ i,m'<=i->listed.getD i false=false)->YN G E bx lg ops.toList m m' D (fun i=>listed.getD i false) a R L->wpAnyIn (Fl r) n P .any ops Q fuel listed a R.w:=by
 have done:∀ (fuel:Nat) (listed:Array Bool) (a:Act) (R:Env) (L:Loc),listed.size=ops.size->listed.toList.count false<=fuel->qz ops.toList (fun i=>listed.getD i false)->(∀ i,i<m'->listed.getD i false=true)->(∀ i,m'<=i->listed.getD i false=false)->YN G E bx lg ops.toList m m' D (fun i=>listed.getD i false) a R L->wpAnyIn (Fl r) n P .any ops Q fuel listed a R.w:=fun fuel listed a R L hsz hcnt hcl h1 h2 h=>by
  refine hEnd fuel listed a R L hsz hcnt hcl h1 h2 ⟨{ h.good with },h.size,h.df,fun t=>?_⟩
  have ht:=h.tm t
  rw[ju m' _ hl fun j hj _ _=>by simp[h2 j hj]]at ht
  rw[Yv hl hc.skel t m' hmm (Nat.le_refl _),qw (D':=fun j=>decide (m<=j)&&listed.getD j false) m' fun j hj _=>by rw[h1 j hj,Bool.and_true]]
  exact ht
 intro fuel
 induction fuel with
 | zero =>
  intro listed a R L hsz hcnt hcl h1 h2 h
  refine done 0 listed a R L hsz hcnt hcl (fun i hi=>?_) h2 h
  have hil:i<listed.size:=by simp at hl;omega
  cases hq:listed.getD i false with
  | true=>rfl
  | false =>
   have:listed.toList[i]?=some false:=by
    rw[Array.getD_eq_getD_getElem?,Array.getElem?_eq_getElem hil]at hq
    simp[hil];simpa using hq
   have hpos:0<listed.toList.count false:=List.count_pos_iff.2 (List.mem_of_getElem? this)
   omega
 | succ fuel ih =>
  intro listed a R L hsz hcnt hcl h1 h2 h
  by_cases hall:∀ i,i<m'->listed.getD i false=true
  ·exact done _ listed a R L hsz hcnt hcl hall h2 h
  refine ⟨fun hr=>absurd (fun i hi=>JR hok hsz hr i (by simp at hl;omega)) hall,fun i hi=>?_⟩
  obtain ⟨o,ho,hl0,hpre⟩:=qV hi
  have hio:i<ops.size:=by simpa using (List.getElem?_eq_some_iff.1 ho).1
  obtain ⟨hlf,hil'⟩:=qn hsz hio hl0
  have hil:i<listed.size:=by omega
  have hmi:m<=i:=by
   rcases Nat.lt_or_ge i m with g | g
   ·rw[h1 i g]at hlf;cases hlf
   ·exact g
  have hmi':i<m':=by
   rcases Nat.lt_trichotomy i m' with g | g | g
   ·exact g
   ·exact absurd (hrdy listed i o (by omega) hio hcl ho hpre h2) hall
   ·exact absurd (hrdy listed i o (by omega) hio hcl ho hpre h2) hall
  have hcnt':(listed.setIfInBounds i true).toList.count false<=fuel:=by
   have:=jr hil'
   rw[Array.toList_setIfInBounds];omega
  have next:∀ (v:Value) (R':Env) (L':Loc),qp (D.X i) (D.X (i+1)) R L R' L'->Rep R' L' (D.c i) v->wpAnyIn (Fl r) n P .any ops Q fuel (listed.setIfInBounds i true) (a.put o.dst v) R'.w:=fun v R' L' st hv =>
   ih _ _ R' L' (by simpa using hsz) hcnt' (Ja hil hcl ho hpre) (fun j hj=>by have:=congrFun (qy hil) j;rw[this,h1 j hj];rfl)
    (fun j hj=>by have:=congrFun (qy hil) j;rw[this,h2 j hj];simp;omega) (by rw[qy hil];exact h.put hl hc.skel hok hcl hmi hmi' ho hlf hpre (hN o (List.mem_of_getElem? ho)) st hv)
  obtain ⟨c1,c2,c3,c4,c5⟩:=hc.step i o hmi hmi' ho
  have hev:=h.ev hl hc.skel hok hcl hmi hmi' ho hlf hpre
  have hguard:Region.wanted o (yielded ops a.tmps)=D.wn i:=jC (tm:=D.T i) rfl c3 fun j want d hg hd=>by
   have ht:d∈qR ops o:=by
    unfold qR Oper.looksAt
    rw[hg]
    simp[hd]
   refine ⟨?_,hev d ht⟩
   rw[h.size]
   cases hj:ops[j]? with
   | none=>rw[hj]at hd;cases hd
   | some o' =>
    rw[hj]at hd
    have hd':o'.dst=some d:=hd
    have:=hN o' (by rw[Array.mem_toList_iff];exact Array.mem_of_getElem? hj)
    rw[hd']at this;exact this
  unfold wpOpIn
  have hoa:ops[i]?=some o:=by simpa using ho
  rw[hoa]
  simp only[hguard]
  cases hw:D.wn i with
  | true =>
   simp only[if_true]
   refine jm ?_
   refine ((c4 hw).2 _ R L a.eval h.good.fit (h.freeAt hl hc.skel hmi hmi' hlf) fun x=>?_).mono fun v w' ⟨R',L',hw',st,hv⟩=>?_
   ·unfold YL
    split
    ·rename_i hx
     cases x with
     | tmp t =>
      refine hev t ?_
      unfold qR Oper.looksAt
      exact List.mem_append_left _ (List.mem_append_left _ (List.mem_filterMap.2 ⟨.tmp t,by simpa using hx,rfl⟩))
     | const v=>exact jh R L v
     | global g =>
      simp only[zx]
      cases hg:G g with
      | none=>unfold Rep;trivial
      | some cs=>exact jZ.2 ⟨g,0,rfl,(h.good.fit.glob g cs hg).1⟩
     | func f=>exact JH.2 ⟨#[],#[],rfl,zj.2 rfl,zj.2 rfl⟩
    ·unfold Rep;trivial
   ·rw[←hw'];exact next v R' L' st hv
  | false =>
   simp only[Bool.false_eq_true,if_false]
   refine ⟨fun f _=>trivial,?_⟩
   obtain ⟨d1,d2⟩:=c5 hw
   have st:qp (D.X i) (D.X (i+1)) R L R L:=by rw[d2];exact qp.refl _ _ _
   exact next undef R L st (by rw[d1];exact zo.2 rfl)
theorem vD {r:Option Nat} {n:Nat} {Q:Exit->Act->World->Prop} {K:St->Prop} {Y:Hd} {br:List Bool} (hY:zhd P Y E) (hN:∀ o∈ops.toList,Yc E.N o.dst) (hok:Jo ops=true) (hbr:XJ ops br=true)
  (hQ:∀ a R L σ,K σ->qE G E σ a R L->Q .normal a R.w):∀ (k m:Nat) (fuel:Nat) (listed:Array Bool) (σ:St) (a:Act) (R:Env) (L:Loc),ops.size-m=k->m<=ops.size->listed.size=ops.size->listed.toList.count false<=fuel ->
  qz ops.toList (fun i=>listed.getD i false)->(∀ i,i<m->listed.getD i false=true)->(∀ i,m<=i->listed.getD i false=false)->Yi P G Y ops (ops.toList.drop m) (br.drop m) σ K->qE G E σ a R L->wpAnyIn (Fl r) n P .any ops Q fuel listed a R.w:=by
 intro k
 induction k using Nat.strongRecOn with
 | _ k ih =>
  intro m fuel listed σ a R L hk hm hsz hcnt hcl h1 h2 hA hI
  obtain ⟨m',D,d1,d2,d3,d4,d5,d6⟩:=Zb _ _ m σ rfl (by simpa using hm) hA
  have hd2:m'<=ops.size:=by simpa using d2
  have hlf:∀ j,m<=j->listed.getD j false=false:=h2
  have hInit:YN G E σ.bx σ.lg ops.toList m m' D (fun i=>listed.getD i false) a R L:=by
   have hx:=QS d2 d5.skel m m' (Nat.le_refl _) d1 (Nat.le_refl _)
   refine ⟨{ hI.good with free:=fun id hid=>hI.good.free id (by rw[d4]at hx;exact Nat.le_trans hx hid) },fun id hid _=>hI.good.free id (by rw[d4]at hid;exact hid),hI.size,hI.df,fun t=>?_⟩
   rw[qw (D':=fun _=>false) _ fun j _ _=>by
    by_cases hj:m<=j
    ·simp[hlf j hj]
    ·simp[hj],ju 0 _ (Nat.zero_le _) fun _ _ _ _=>rfl]
   show Rep R L (jy (D.T m) t) _
   rw[d3];exact hI.tm t
  have hbar:m'<ops.size->br.getD m' false=true:=fun hlt=>by
   rcases d6 with ⟨g,_⟩ | ⟨g,g2,_⟩
   ·simp at g;omega
   ·rw[List.getElem?_drop,show m+(m'-m)=m' by omega]at g2
    rw[List.getD_eq_getElem?_getD,g2];rfl
  refine vY (lg:=σ.lg) hN hok d1 d2 (fun listed i o q1 q2 q3 q4 q5 q6 j hj=>by
   rcases Nat.lt_or_ge m' i with g | g
   ·exact (MI hbr (hbar (by omega)) q3 (q6 m' (Nat.le_refl _)) q4 q5 g (by omega)).elim
   ·have:i=m':=by omega
    subst this
    exact Mh hbr (hbar q2) q3 q4 q5 hj) d5 ?_ fuel listed a R L hsz hcnt hcl h1 (fun i hi=>hlf i (by omega)) hInit
  clear hInit hI hcnt hcl h1 h2 hlf hA hsz
  intro fuel listed a R L hsz hcnt hcl h1 h2 hI
  rcases d6 with ⟨g,hK⟩ | ⟨g,g2,hA⟩
  ·have hms:m'=ops.size:=by simpa using g
   have hre:Region.ready .any ops listed = []:=by
    cases hq:Region.ready .any ops listed with
    | nil=>rfl
    | cons i rest =>
     obtain ⟨o,ho,h3,_⟩:=qV (ops:=ops) (listed:=listed) (i:=i) (by rw[hq];simp)
     have hio:i<ops.size:=by simpa using (List.getElem?_eq_some_iff.1 ho).1
     have:=(qn hsz hio h3).1
     rw[h1 i (by omega)]at this;cases this
   have hq:=hQ a R L _ hK hI
   cases fuel with
   | zero=>exact ⟨hre,hq⟩
   | succ fuel=>exact ⟨fun _=>hq,fun i hi=>by rw[hre]at hi;cases hi⟩
  ·have hms:m'<ops.size:=by simpa using g
   have hlm:=h2 m' (Nat.le_refl _)
   obtain ⟨fuel,rfl⟩:∃ f,fuel=f+1:=by
    have hil:m'<listed.size:=by omega
    have:listed.toList[m']?=some false:=by
     rw[Array.getD_eq_getD_getElem?,Array.getElem?_eq_getElem hil]at hlm
     simp[hil];simpa using hlm
    have hpos:0<listed.toList.count false:=List.count_pos_iff.2 (List.mem_of_getElem? this)
    exact ⟨fuel-1,by omega⟩
   refine ⟨fun hr=>?_,fun i hi=>?_⟩
   ·have:=JR hok hsz hr m' hms
    rw[hlm]at this;cases this
   ·obtain ⟨o,ho,hl0,hpre⟩:=qV hi
    have hio:i<ops.size:=by simpa using (List.getElem?_eq_some_iff.1 ho).1
    obtain ⟨hlf,hil'⟩:=qn hsz hio hl0
    have hil:i<listed.size:=by omega
    have him:i=m':=by
     rcases Nat.lt_trichotomy i m' with g | g | g
     ·rw[h1 i g]at hlf;cases hlf
     ·exact g
     ·exact (MI hbr (hbar hms) hcl hlm ho hpre g hms).elim
    subst him
    have hcnt':(listed.setIfInBounds i true).toList.count false<=fuel:=by
     have:=jr hil'
     rw[Array.toList_setIfInBounds];omega
    have hdrop:ops.toList.drop i=o :: ops.toList.drop (i+1):=by
     have hlt:i<ops.toList.length:=by simpa using hio
     rw[List.drop_eq_getElem_cons hlt]
     congr 1
     have:=List.getElem?_eq_getElem hlt
     rw[ho]at this
     exact (Option.some.inj this).symm
    have hbrd:(br.drop m).drop (i-m)=br.drop i:=by rw[List.drop_drop];congr 1;omega
    rw[hdrop,hbrd]at hA
    unfold Yi at hA
    have hhead:(br.drop i).headD false=true:=by
     have:=hbar hms
     rw[List.getD_eq_getElem?_getD]at this
     cases hq:br[i]? with
     | none=>rw[hq]at this;cases this
     | some x =>
      rw[hq]at this
      simp at this
      rw[List.headD_eq_head?_getD,List.head?_drop,hq,this];rfl
    have htail:(br.drop i).tail=br.drop (i+1):=by simp
    rw[hhead,htail]at hA
    have next:∀ (σ':St) (a':Act) (R':Env) (L':Loc),Yi P G Y ops (ops.toList.drop (i+1)) (br.drop (i+1)) σ' K->qE G E σ' a' R' L'->wpAnyIn (Fl r) n P .any ops Q fuel (listed.setIfInBounds i true) a' R'.w:=fun σ' a' R' L' hA' hI' =>
     ih (ops.size-(i+1)) (by omega) (i+1) fuel _ σ' a' R' L' rfl (by omega) (by simpa using hsz) hcnt' (Ja hil hcl ho hpre) (fun j hj=>by
      have:=congrFun (qy hil) j
      rw[this]
      rcases Nat.lt_or_ge j i with g | g
      ·rw[h1 j g];rfl
      ·have:j=i:=by omega
       simp[this]) (fun j hj=>by
      have:=congrFun (qy hil) j
      rw[this,h2 j (by omega)];simp;omega) hA' hI'
    have hd:=hN o (List.mem_of_getElem? ho)
    obtain ⟨b,hg,hA1,hA2⟩:=qT.out hA
    have hguard:Region.wanted o (yielded ops a.tmps)=b:=jC (tm:=D.T i) (R:=R) (L:=L) rfl hg fun j want d hgd hdd=>by
     refine ⟨?_,hI.tm d⟩
     rw[hI.size]
     cases hj:ops[j]? with
     | none=>rw[hj]at hdd;cases hdd
     | some o' =>
      rw[hj]at hdd
      have hd':o'.dst=some d:=hdd
      have:=hN o' (by rw[Array.mem_toList_iff];exact Array.mem_of_getElem? hj)
      rw[hd']at this;exact this
    unfold wpOpIn
    have hoa:ops[i]?=some o:=by simpa using ho
    rw[hoa]
    simp only[hguard]
    cases b with
    | true =>
     simp only[if_true]
     refine jm ((XU hY (hA1 rfl) hI).mono fun v w'=>?_)
     rintro ⟨c,σ',R',L',rfl,hI',hv,hK⟩
     exact next _ _ R' L' hK (hI'.put hd hv)
    | false =>
     simp only[Bool.false_eq_true,if_false]
     refine ⟨fun f _=>trivial,next _ _ R L (hA2 rfl) ?_⟩
     have:=hI.put (dst:=o.dst) (c:=.sc undef) (v:=undef) hd (zo.2 rfl)
     cases hdst:o.dst with
     | none=>rw[hdst]at this;exact this
     | some d=>rw[hdst]at this;exact this
theorem zbd {r:Option Nat} {n id:Nat} {Q:Exit->Act->World->Prop} {K:St->Prop} {Y:Hd} {br:List Bool} {w:World} (hY:zhd P Y E) (hm:P.follows .mixedOrders=true) (hN:∀ o∈ops.toList,Yc E.N o.dst) (hok:Jo ops=true) (hbr:XJ ops br=true)
  (h:Yi P G Y ops ops.toList br σ K) (hI:Inv G E σ a w) (hQ:∀ a' w' σ',K σ'->Inv G E σ' a' w'->Q .normal a' w'):(Code.region id ops true).wpIn (Fl r) n P Q a w:=by
 obtain ⟨R,L,rfl,hI⟩:=hI
 refine wpIn_region_any hm ?_
 let R':Env:=⟨{ R.w with drawn:=R.w.drawn+1 },R.M,R.F⟩
 have hext:Ext R R':=⟨fun b o v h1 h2=>⟨h1,h2⟩,fun _ _ _ _ h1 h2=>⟨h1,h2⟩⟩
 have hnear:Gy E.w0 E.ex R R':=⟨rfl,rfl,rfl,Nat.le_refl _,rfl,hext,fun b _=>.inl ⟨rfl,fun _=>Iff.rfl⟩⟩
 have hg:=hI.good
 have hinv:qE G E σ a R' L:=by
  refine ⟨hg.move hnear.nigh ⟨hg.fit.glob.ext hext,⟨hg.fit.boxes.len,hg.fit.boxes.nodup,fun i b cs hi hc=>?_⟩,⟨fun id e k v ht=>?_,hg.fit.owns.apart⟩,hg.fit.base⟩ ⟨[],by rw[List.append_nil],fun b hb=>by cases hb⟩ (fun id e k v b ht hv=>.inl ⟨id,e,k,v,ht,hv⟩) hg.free,hI.size,hI.df.near hnear,fun t=>Rep.ext hext (zK.refl _) _ _ (hI.tm t)⟩
  ·obtain ⟨vs,ty,e1,e2,e3,e4⟩:=hg.fit.boxes.box i b cs hi hc
   exact ⟨vs,ty,e1,zu.ext hext (zK.refl _) _ _ e2,e3,e4⟩
  ·exact (hg.fit.owns.own id e k v ht).move fun g _ q2 _ q7=>⟨q2,rfl,q7,fun _ h=>h⟩
 have hlist:∀ i,(Array.replicate ops.size false).getD i false=false:=fun i=>by
  rw[Array.getD_eq_getD_getElem?,Array.getElem?_replicate];split<;>rfl
 refine vD (E:=E) (R:=R') (L:=L) hY hN hok hbr (fun a1 R1 L1 σ1 hK h1=>hQ a1 R1.w σ1 hK ⟨R1,L1,rfl,h1⟩) _ 0 ops.size _ σ a rfl (Nat.zero_le _) (by simp) ?_ (fun i o hi h=>?_) (fun i hi=>by omega) (fun i _=>hlist i) (by simpa using h) hinv
 ·rw[Array.toList_replicate,List.count_replicate_self];exact Nat.le_refl _
 ·have h:(Array.replicate ops.size false).getD i false=true:=h
  rw[hlist]at h;cases h
theorem Ys {listed:Array Bool} {i j:Nat} {o:Oper} (hmem:inC (qe ops.toList ops.size) i j=true) (hcl:qz ops.toList (fun i=>listed.getD i false)) (ho:ops.toList[i]?=some o)
  (hpre:∀ e∈o.after.toList,Region.binds .any e=true->listed.getD e.on false=true) (hne:j≠i):listed.getD j false=true:=by
 have hS':qz ops.toList (fun x=>listed.getD x false||x==i):=fun k q hq hk e he hb=>by
  simp only[Bool.or_eq_true,beq_iff_eq]at hk ⊢
  rcases hk with hk | hk
  ·exact .inl (hcl k q hq hk e he hb)
  ·subst hk;rw[ho]at hq;cases hq
   exact .inl (hpre e he hb)
 have:=jT hS' _ i j hmem (by simp)
 simp only[Bool.or_eq_true,beq_iff_eq]at this
 rcases this with h | h
 ·exact h
 ·exact absurd h hne
theorem zgM {r:Option Nat} {n:Nat} {Q:Exit->Act->World->Prop} {K:St->Prop} {Y:Hd} (hY:zhd P Y E) (hN:∀ o∈ops.toList,Yc E.N o.dst) (hok:Jo ops=true) (T:Array Bool->St->Prop)
  (hT:∀ (listed:Array Bool) (σ:St),listed.size=ops.size->qz ops.toList (fun i=>listed.getD i false)->T listed σ->((∀ i,i<ops.size->listed.getD i false=true)->K σ)/\∀ (i:Nat) (o:Oper),ops.toList[i]?=some o->listed.getD i false=false ->
   (∀ e∈o.after.toList,Region.binds .any e=true->listed.getD e.on false=true)->o.guard=none/\∃ Kσ:C->St->Prop,Qv P G Y o.op σ Kσ/\∀ c σ',Kσ c σ'->T (listed.setIfInBounds i true) (σ'.put o.dst c))
  (hQ:∀ a R L σ,K σ->qE G E σ a R L->Q .normal a R.w):∀ (fuel:Nat) (listed:Array Bool) (σ:St) (a:Act) (R:Env) (L:Loc),listed.size=ops.size->listed.toList.count false<=fuel ->
  qz ops.toList (fun i=>listed.getD i false)->T listed σ->qE G E σ a R L->wpAnyIn (Fl r) n P .any ops Q fuel listed a R.w:=by
 intro fuel
 induction fuel with
 | zero =>
  intro listed σ a R L hsz hcnt hcl hTl hI
  have hall:∀ i,i<ops.size->listed.getD i false=true:=fun i hi=>by
   have hil:i<listed.size:=by omega
   cases hq:listed.getD i false with
   | true=>rfl
   | false =>
    have:listed.toList[i]?=some false:=by
     rw[Array.getD_eq_getD_getElem?,Array.getElem?_eq_getElem hil]at hq
     simp[hil];simpa using hq
    have hpos:0<listed.toList.count false:=List.count_pos_iff.2 (List.mem_of_getElem? this)
    omega
  refine ⟨?_,hQ a R L _ ((hT listed σ hsz hcl hTl).1 hall) hI⟩
  cases hq:Region.ready .any ops listed with
  | nil=>rfl
  | cons i rest =>
   obtain ⟨o,ho,h3,_⟩:=qV (ops:=ops) (listed:=listed) (i:=i) (by rw[hq];simp)
   have hio:i<ops.size:=by simpa using (List.getElem?_eq_some_iff.1 ho).1
   have:=(qn hsz hio h3).1
   rw[hall i hio]at this;cases this
 | succ fuel ih =>
  intro listed σ a R L hsz hcnt hcl hTl hI
  refine ⟨fun hr=>hQ a R L _ ((hT listed σ hsz hcl hTl).1 (JR hok hsz hr)) hI,fun i hi=>?_⟩
  obtain ⟨o,ho,hl0,hpre⟩:=qV hi
  have hio:i<ops.size:=by simpa using (List.getElem?_eq_some_iff.1 ho).1
  obtain ⟨hlf,hil'⟩:=qn hsz hio hl0
  have hil:i<listed.size:=by omega
  have hcnt':(listed.setIfInBounds i true).toList.count false<=fuel:=by
   have:=jr hil'
   rw[Array.toList_setIfInBounds];omega
  obtain ⟨hg,Kσ,hE,hnext⟩:=(hT listed σ hsz hcl hTl).2 i o ho hlf hpre
  have hd:=hN o (List.mem_of_getElem? ho)
  unfold wpOpIn
  have hoa:ops[i]?=some o:=by simpa using ho
  rw[hoa]
  have hguard:Region.wanted o (yielded ops a.tmps)=true:=by unfold Region.wanted;rw[hg]
  simp only[hguard,if_true]
  refine jm ((XU hY hE hI).mono fun v w'=>?_)
  rintro ⟨c,σ',R',L',rfl,hI',hv,hK⟩
  exact ih _ _ _ R' L' (by simpa using hsz) hcnt' (Ja hil hcl ho hpre) (hnext c σ' hK) (hI'.put hd hv)
def zgm (P:Program) (G:zm) (Y:Hd) (l:List Oper) (σ:St) (K:St->Prop):Prop:=match l with
 | [a,b,c]=>(Qv P G Y a.op σ fun ca s1=>Qv P G Y b.op (s1.put a.dst ca) fun cb s2=>Qv P G Y c.op (s2.put b.dst cb) fun cc s3=>K (s3.put c.dst cc)) /\
  (Qv P G Y b.op σ fun cb s1=>Qv P G Y a.op (s1.put b.dst cb) fun ca s2=>Qv P G Y c.op (s2.put a.dst ca) fun cc s3=>K (s3.put c.dst cc))
 | _=>False
def vt (ops:Array Oper) (m:Nat):Bool:=
 let cl:=qe ops.toList ops.size
 decide (m+3=ops.size)&&((ops.toList.drop m).all fun o=>o.guard.isNone)&&((List.range m).all fun j=>inC cl m j&&inC cl (m+1) j&&inC cl (m+2) j)&&inC cl (m+2) m&&inC cl (m+2) (m+1)
theorem zgq {α:Type}:∀ {l:List α},l.length=3->∃ a b c,l = [a,b,c]
 | [x,y,z],_=>⟨x,y,z,rfl⟩
theorem zaC {r:Option Nat} {n id m:Nat} {Q:Exit->Act->World->Prop} {K:St->Prop} {Y:Hd} {w:World} (hY:zhd P Y E) (hm:P.follows .mixedOrders=true) (hN:∀ o∈ops.toList,Yc E.N o.dst) (hok:Jo ops=true) (htw:vt ops m=true)
  (h:Yi P G Y ops (ops.toList.take m) [] σ fun σ'=>zgm P G Y (ops.toList.drop m) σ' K) (hI:Inv G E σ a w) (hQ:∀ a' w' σ',K σ'->Inv G E σ' a' w'->Q .normal a' w'):(Code.region id ops true).wpIn (Fl r) n P Q a w:=by
 obtain ⟨R,L,rfl,hI⟩:=hI
 refine wpIn_region_any hm ?_
 let R':Env:=⟨{ R.w with drawn:=R.w.drawn+1 },R.M,R.F⟩
 have hext:Ext R R':=⟨fun b o v h1 h2=>⟨h1,h2⟩,fun _ _ _ _ h1 h2=>⟨h1,h2⟩⟩
 have hnear:Gy E.w0 E.ex R R':=⟨rfl,rfl,rfl,Nat.le_refl _,rfl,hext,fun b _=>.inl ⟨rfl,fun _=>Iff.rfl⟩⟩
 have hg:=hI.good
 have hinv:qE G E σ a R' L:=by
  refine ⟨hg.move hnear.nigh ⟨hg.fit.glob.ext hext,⟨hg.fit.boxes.len,hg.fit.boxes.nodup,fun i b cs hi hc=>?_⟩,⟨fun id e k v ht=>?_,hg.fit.owns.apart⟩,hg.fit.base⟩ ⟨[],by rw[List.append_nil],fun b hb=>by cases hb⟩ (fun id e k v b ht hv=>.inl ⟨id,e,k,v,ht,hv⟩) hg.free,hI.size,hI.df.near hnear,fun t=>Rep.ext hext (zK.refl _) _ _ (hI.tm t)⟩
  ·obtain ⟨vs,ty,e1,e2,e3,e4⟩:=hg.fit.boxes.box i b cs hi hc
   exact ⟨vs,ty,e1,zu.ext hext (zK.refl _) _ _ e2,e3,e4⟩
  ·exact (hg.fit.owns.own id e k v ht).move fun g _ q2 _ q7=>⟨q2,rfl,q7,fun _ h=>h⟩
 have hlist:∀ i,(Array.replicate ops.size false).getD i false=false:=fun i=>by
  rw[Array.getD_eq_getD_getElem?,Array.getElem?_replicate];split<;>rfl
 unfold vt at htw
 simp only[Bool.and_eq_true,decide_eq_true_eq]at htw
 obtain ⟨⟨⟨⟨t1,t2⟩,t3⟩,t4⟩,t5⟩:=htw
 have t3':∀ j,j<m->inC (qe ops.toList ops.size) m j=true/\inC (qe ops.toList ops.size) (m+1) j=true/\inC (qe ops.toList ops.size) (m+2) j=true:=fun j hj=>by
  have:=List.all_eq_true.1 t3 j (by simpa using hj)
  simp only[Bool.and_eq_true]at this
  exact ⟨this.1.1,this.1.2,this.2⟩
 have hml:(ops.toList.take m).length=m:=by simp;omega
 obtain ⟨m',D,d1,d2,d3,d4,d5,d6⟩:=Zb (all:=ops.toList.take m) _ _ 0 σ rfl (Nat.zero_le _) h
 have hm':m'=m/\zgm P G Y (ops.toList.drop m) ⟨D.T m',σ.bx,D.X m',σ.lg⟩ K:=by
  rcases d6 with ⟨g,hK⟩ | ⟨g,g2,_⟩
  ·exact ⟨g.trans hml,hK⟩
  ·simp at g2
 obtain ⟨rfl,hA⟩:=hm'
 have hc:Qe P G σ.bx ops ops.toList 0 m' D:=⟨fun i o h1 h2 h3=>d5.step i o h1 h2 (by rw[List.getElem?_take,if_pos h2];exact h3)⟩
 have hInit:YN G E σ.bx σ.lg ops.toList 0 m' D (fun i=>(Array.replicate ops.size false).getD i false) a R' L:=by
  have hx:=QS (l:=ops.toList) (by simp;omega) hc.skel 0 m' (Nat.le_refl _) d1 (Nat.le_refl _)
  refine ⟨{ hinv.good with free:=fun id hid=>hinv.good.free id (by rw[d4]at hx;exact Nat.le_trans hx hid) },fun id hid _=>hinv.good.free id (by rw[d4]at hid;exact hid),hinv.size,hinv.df,fun t=>?_⟩
  rw[qw (D':=fun _=>false) _ fun j _ _=>by simp[hlist j],ju 0 _ (Nat.zero_le _) fun _ _ _ _=>rfl]
  show Rep R' L (jy (D.T 0) t) _
  rw[d3];exact hinv.tm t
 refine vY (lg:=σ.lg) hN hok (Nat.zero_le _) (by simp;omega) (fun listed i o q1 q2 q3 q4 q5 q6 j hj=>?_) hc ?_ ops.size _ a R' L (by simp) ?_ (fun i o hi h=>?_) (fun i hi=>by omega) (fun i _=>hlist i) hInit
 ·obtain ⟨u1,u2,u3⟩:=t3' j hj
  have:i=m'∨i=m'+1∨i=m'+2:=by omega
  rcases this with rfl | rfl | rfl
  ·exact Ys u1 q3 q4 q5 (by omega)
  ·exact Ys u2 q3 q4 q5 (by omega)
  ·exact Ys u3 q3 q4 q5 (by omega)
 ·clear hInit hI hinv hnear hext hg
  intro fuel listed a R L hsz hcnt hcl h1 h2 hI
  obtain ⟨oa,ob,oc,hdr⟩:∃ oa ob oc,ops.toList.drop m' = [oa,ob,oc]:=by
   have hlen:(ops.toList.drop m').length=3:=by simp;omega
   exact zgq hlen
  rw[hdr]at hA t2
  simp only[List.all_cons,List.all_nil,Bool.and_true,Bool.and_eq_true,Option.isNone_iff_eq_none]at t2
  obtain ⟨g1,g2,g3⟩:=t2
  have hat:∀ d,ops.toList[m'+d]? = [oa,ob,oc][d]?:=fun d=>by rw[←hdr,List.getElem?_drop]
  have ha:ops.toList[m']?=some oa:=hat 0
  have hb:ops.toList[m'+1]?=some ob:=hat 1
  have hc3:ops.toList[m'+2]?=some oc:=hat 2
  refine zgM hY hN hok (K:=K) (fun listed σ'=>(∀ i,i<m'->listed.getD i false=true) /\
   ((listed.getD m' false=false/\listed.getD (m'+1) false=false/\listed.getD (m'+2) false=false/\zgm P G Y [oa,ob,oc] σ' K) ∨
   (listed.getD m' false=true/\listed.getD (m'+1) false=false/\listed.getD (m'+2) false=false/\Qv P G Y ob.op σ' fun cb s2=>Qv P G Y oc.op (s2.put ob.dst cb) fun cc s3=>K (s3.put oc.dst cc)) ∨
   (listed.getD m' false=false/\listed.getD (m'+1) false=true/\listed.getD (m'+2) false=false/\Qv P G Y oa.op σ' fun ca s2=>Qv P G Y oc.op (s2.put oa.dst ca) fun cc s3=>K (s3.put oc.dst cc)) ∨
   (listed.getD m' false=true/\listed.getD (m'+1) false=true/\listed.getD (m'+2) false=false/\Qv P G Y oc.op σ' fun cc s3=>K (s3.put oc.dst cc)) ∨
   (listed.getD m' false=true/\listed.getD (m'+1) false=true/\listed.getD (m'+2) false=true/\K σ')))
   ?_ (fun a R L σ hK h=>hQ a R.w σ hK ⟨R,L,rfl,h⟩) fuel listed ⟨D.T m',σ.bx,D.X m',σ.lg⟩ a R L hsz hcnt hcl ⟨h1,.inl ⟨h2 _ (Nat.le_refl _),h2 _ (by omega),h2 _ (by omega),hA⟩⟩ hI
  clear hcl hsz hcnt h1 h2 hI hA
  intro listed σ' hsz hcl ⟨h1,hT⟩
  refine ⟨fun hall=>?_,fun i o ho hlf hpre=>?_⟩
  ·have e1:=hall m' (by omega)
   have e2:=hall (m'+1) (by omega)
   have e3:=hall (m'+2) (by omega)
   rcases hT with ⟨q,_⟩ | ⟨_,q,_⟩ | ⟨q,_⟩ | ⟨_,_,q,_⟩ | ⟨_,_,_,q⟩
   ·rw[e1]at q;cases q
   ·rw[e2]at q;cases q
   ·rw[e1]at q;cases q
   ·rw[e3]at q;cases q
   ·exact q
  ·have hio:i<ops.size:=by simpa using (List.getElem?_eq_some_iff.1 ho).1
   have hil:i<listed.size:=by omega
   have hset:∀ x,(listed.setIfInBounds i true).getD x false=(listed.getD x false||x==i):=fun x=>congrFun (qy hil) x
   have hi3:i=m'∨i=m'+1∨i=m'+2:=by
    rcases Nat.lt_or_ge i m' with g | g
    ·rw[h1 i g]at hlf;cases hlf
    ·omega
   have hold:∀ x,x<m'->(listed.setIfInBounds i true).getD x false=true:=fun x hx=>by rw[hset,h1 x hx];rfl
   have n1:(m'==m'+1)=false:=by simp
   have n2:(m'==m'+2)=false:=by simp
   have n3:(m'+1==m')=false:=by simp
   have n4:(m'+1==m'+2)=false:=by simp
   have n5:(m'+2==m')=false:=by simp
   have n6:(m'+2==m'+1)=false:=by simp
   rcases hi3 with rfl | rfl | rfl
   ·rw[ha]at ho;cases ho
    refine ⟨g1,?_⟩
    rcases hT with ⟨q1,q2,q3,q⟩ | ⟨q1,q2,q3,q⟩ | ⟨q1,q2,q3,q⟩ | ⟨q1,q2,q3,q⟩ | ⟨q1,q2,q3,q⟩
    ·exact ⟨_,q.1,fun c s' hs=>⟨hold,.inr (.inl ⟨by rw[hset,q1];simp,by rw[hset,q2,n3];rfl,by rw[hset,q3,n5];rfl,hs⟩)⟩⟩
    ·rw[hlf]at q1;cases q1
    ·exact ⟨_,q,fun c s' hs=>⟨hold,.inr (.inr (.inr (.inl ⟨by rw[hset,q1];simp,by rw[hset,q2,n3];rfl,by rw[hset,q3,n5];rfl,hs⟩)))⟩⟩
    ·rw[hlf]at q1;cases q1
    ·rw[hlf]at q1;cases q1
   ·rw[hb]at ho;cases ho
    refine ⟨g2,?_⟩
    rcases hT with ⟨q1,q2,q3,q⟩ | ⟨q1,q2,q3,q⟩ | ⟨q1,q2,q3,q⟩ | ⟨q1,q2,q3,q⟩ | ⟨q1,q2,q3,q⟩
    ·exact ⟨_,q.2,fun c s' hs=>⟨hold,.inr (.inr (.inl ⟨by rw[hset,q1,n1];rfl,by rw[hset,q2];simp,by rw[hset,q3,n6];rfl,hs⟩))⟩⟩
    ·exact ⟨_,q,fun c s' hs=>⟨hold,.inr (.inr (.inr (.inl ⟨by rw[hset,q1,n1];rfl,by rw[hset,q2];simp,by rw[hset,q3,n6];rfl,hs⟩)))⟩⟩
    ·rw[hlf]at q2;cases q2
    ·rw[hlf]at q2;cases q2
    ·rw[hlf]at q2;cases q2
   ·rw[hc3]at ho;cases ho
    refine ⟨g3,?_⟩
    have e1:=Ys t4 hcl hc3 hpre (by omega)
    have e2:=Ys t5 hcl hc3 hpre (by omega)
    rcases hT with ⟨q1,q2,q3,q⟩ | ⟨q1,q2,q3,q⟩ | ⟨q1,q2,q3,q⟩ | ⟨q1,q2,q3,q⟩ | ⟨q1,q2,q3,q⟩
    ·rw[e1]at q1;cases q1
    ·rw[e2]at q2;cases q2
    ·rw[e1]at q1;cases q1
    ·exact ⟨_,q,fun c s' hs=>⟨hold,.inr (.inr (.inr (.inr ⟨by rw[hset,q1];rfl,by rw[hset,q2];rfl,by rw[hset];simp,hs⟩)))⟩⟩
    ·rw[hlf]at q3;cases q3
 ·rw[Array.toList_replicate,List.count_replicate_self];exact Nat.le_refl _
 ·have h:(Array.replicate ops.size false).getD i false=true:=h
  rw[hlist]at h;cases h
end
end
section
open Go.RowKit
mutual
/-- a value as seen by whoever has some of the boxes, and no owner -/
def C.sel (fp:Nat->Option Nat):C->C
 | .own _ _ k rows=>.sl k rows
 | .ptr i off=>match fp i with
  | some j=>.ptr j off
  | none=>.any
 | .bs i off k n c=>match fp i with
  | some j=>.bs j off k n c
  | none=>.any
 | .mo _ _ _ _=>.any
 | .agg cs=>.agg (C.selL fp cs)
 | .tup cs=>.tup (C.selL fp cs)
 | .clo fn first cap=>.clo fn (C.selL fp first) (C.selL fp cap)
 | .sc v=>.sc v
 | .str l=>.str l
 | .sl k rows=>.sl k rows
 | .tight k rows=>.tight k rows
 | .row cs=>.row cs
 | .any=>.any
def C.selL (fp:Nat->Option Nat):List C->List C
 | []=>[]
 | c :: r=>c.sel fp :: C.selL fp r
end
section
variable {fp:Nat->Option Nat} {R R':Env} {L L':Loc}
mutual
theorem Rep.sel (he:Ext R R') (hb:∀ i j b,fp i=some j->L.β[i]?=some b->L'.β[j]?=some b):∀ (c:C) (v:Value),Rep R L c v->Rep R' L' (c.sel fp) v
 | .sc _,_,h=>by unfold C.sel;unfold Rep at h ⊢;exact h
 | .str _,_,h=>by unfold C.sel;unfold Rep at h ⊢;exact h
 | .agg cs,_,h=>by
  unfold C.sel;unfold Rep at h ⊢
  obtain ⟨vs,e,hl⟩:=h
  exact ⟨vs,e,zu.sel he hb cs _ hl⟩
 | .tup cs,_,h=>by
  unfold C.sel;unfold Rep at h ⊢
  obtain ⟨vs,e,hl⟩:=h
  exact ⟨vs,e,zu.sel he hb cs _ hl⟩
 | .sl k rows,v,h=>by
  unfold C.sel
  have:=Rep.ext he (zK.none L') (.sl k rows) v (T:=zI) (by unfold Rep at h ⊢;exact h)
  exact this
 | .tight k rows,v,h=>by
  unfold C.sel
  exact Rep.ext he (zK.none L') (.tight k rows) v (T:=zI) (by unfold Rep at h ⊢;exact h)
 | .mo id t ks vs,v,h=>by unfold C.sel;unfold Rep;trivial
 | .own id e k rows,v,h=>by
  unfold C.sel
  exact Rep.ext he (zK.none L') (.sl k rows) v (T:=zI) (by unfold Rep at h ⊢;exact h.2)
 | .ptr i off,_,h=>by
  unfold C.sel;unfold Rep at h
  split
  ·rename_i j hj
   obtain ⟨b,e,h⟩:=h
   unfold Rep
   exact ⟨b,hb _ _ _ hj e,h⟩
  ·unfold Rep;trivial
 | .bs i off k n c,_,h=>by
  unfold C.sel;unfold Rep at h
  split
  ·rename_i j hj
   obtain ⟨b,e,h⟩:=h
   unfold Rep
   exact ⟨b,hb _ _ _ hj e,h⟩
  ·unfold Rep;trivial
 | .row cs,v,h=>by
  unfold C.sel
  exact Rep.ext he (zK.none L') (.row cs) v (T:=zI) (by unfold Rep at h ⊢;exact h)
 | .clo fn first cap,_,h=>by
  unfold C.sel;unfold Rep at h ⊢
  obtain ⟨fs,cs,e,h1,h2⟩:=h
  exact ⟨fs,cs,e,zu.sel he hb first _ h1,zu.sel he hb cap _ h2⟩
 | .any,_,_=>by unfold C.sel;unfold Rep;trivial
theorem zu.sel (he:Ext R R') (hb:∀ i j b,fp i=some j->L.β[i]?=some b->L'.β[j]?=some b):∀ (cs:List C) (vs:List Value),zu R L cs vs->zu R' L' (C.selL fp cs) vs
 | [],_,h=>by unfold C.selL;rw[zj]at h ⊢;exact h
 | c :: r,_,h=>by
  unfold C.selL;rw[ze]at h ⊢
  obtain ⟨v,us,e,h1,h2⟩:=h
  exact ⟨v,us,e,Rep.sel he hb c v h1,zu.sel he hb r us h2⟩
end
end
mutual
/-- what is left of it where the boxes are qr no more -/
def C.fz (bx:List (List C)):C->C
 | .ptr i off=>match bx[i]? with
  | some cs=>.row ((C.frzL cs).drop off)
  | none=>.any
 | .agg cs=>.agg (C.fzL bx cs)
 | .tup cs=>.tup (C.fzL bx cs)
 | .clo fn first cap=>.clo fn (C.fzL bx first) (C.fzL bx cap)
 | .bs _ _ _ _ _=>.any
 | .own id e k rows=>.own id e k rows
 | .mo id t ks vs=>.mo id t ks vs
 | .sc v=>.sc v
 | .str l=>.str l
 | .sl k rows=>.sl k rows
 | .tight k rows=>.tight k rows
 | .row cs=>.row cs
 | .any=>.any
def C.fzL (bx:List (List C)):List C->List C
 | []=>[]
 | c :: r=>c.fz bx :: C.fzL bx r
end
def kT (m i:Nat):Option Nat:=if i<m then some i else none
def YR (m i:Nat):Option Nat:=if i<m then none else some (i-m)
def UX (m:Nat):List (Nat×C)->List (Nat×C)
 | []=>[]
 | (t,c) :: r=>(t,c.sel (kT m)) :: UX m r
theorem yE (m:Nat):∀ (tm:List (Nat×C)) (t:Nat),jy (UX m tm) t=(jy tm t).sel (kT m)
 | [],t=>by simp only[UX,jy];unfold C.sel;rfl
 | (u,c) :: r,t=>by
  simp only[UX,jy]
  split
  ·rfl
  ·exact yE m r t
def St.wt (σ:St) (tm:List (Nat×C)):St:=⟨tm,σ.bx,σ.nx,σ.lg⟩
theorem Yf.wt {G:zm} {E:Ctx} {σ:St} {R:Env} {L:Loc} (h:Yf G E σ R L) (tm:List (Nat×C)):Yf G E (σ.wt tm) R L:={ h with }
section
variable {P:Program} {G:zm} {E:Ctx} {σ σ':St} {a:Act} {R R':Env} {L L':Loc}
theorem Yf.stay (h:Yf G E σ R L) (hn:zbJ E.w0 E.ex R R') (ht:∀ b,Xd L b->R'.w.heap[b]?=R.w.heap[b]?/\∀ o,(R'.M b o↔R.M b o)):Yf G E σ R' L:=by
 refine h.move (tm':=σ.tm) (bx':=σ.bx) (nx':=σ.nx) hn ⟨h.fit.glob.ext hn.ext,⟨h.fit.boxes.len,h.fit.boxes.nodup,fun i b cs hi hc=>?_⟩,⟨fun id e k v hid=>?_,h.fit.owns.apart⟩,fun g hg=>h.fit.base g (Nat.le_trans hn.size hg)⟩ ⟨[],by rw[List.append_nil],fun b hb=>by cases hb⟩ (fun id e k v b ht hv=>.inl ⟨id,e,k,v,ht,hv⟩) h.free
 ·obtain ⟨vs,ty,e1,e2,e3,e4⟩:=h.fit.boxes.box i b cs hi hc
  obtain ⟨g1,g2⟩:=ht b (.inl (List.mem_of_getElem? hi))
  exact ⟨vs,ty,g1.trans e1,zu.ext hn.ext (zK.refl _) _ _ e2,e3,fun o=>(g2 o).2 (e4 o)⟩
 ·refine (h.fit.owns.own id e k v hid).move fun g hv q2 _ q7=>?_
  obtain ⟨g1,g2⟩:=ht g (.inr ⟨id,e,k,v,hid,hv⟩)
  exact ⟨q2,g1,q7,fun o ho=>(g2 o).2 ho⟩
theorem GS.stay {ds:List Deferred} (h:GS E ds R) (hf:∀ b,R'.F b↔R.F b) (hd:∀ d,JK d∈ds->R.w.heap[d]?=some (.deferred (some []))->R'.w.heap[d]?=R.w.heap[d]?):GS E ds R':=by
 obtain ⟨l,e,hl,h⟩:=h
 refine ⟨l,e,hl,fun d hdl=>?_⟩
 obtain ⟨h1,h2,h3⟩:=h d hdl
 exact ⟨(hd d (by rw[e];exact List.mem_append_left _ (List.mem_map.2 ⟨d,hdl,rfl⟩)) h1).trans h1,h2,fun h'=>h3 ((hf d).1 h')⟩
theorem Y9 {l:Nat} {o:Obj} (hl:E.tu l) (hF:¬R.F l) (hc:∀ cs t f,R.w.heap[l]?≠some (.cells cs t f)):zbJ E.w0 E.ex R ⟨R.w.putObj l o,R.M,R.F⟩:=
 ⟨rfl,rfl,rfl,by simp,rfl,⟨fun b off v hcell hm=>⟨by
  by_cases hb:b=l
  ·subst hb
   exfalso
   unfold World.cell? at hcell
   cases hh:R.w.heap[b]? with
   | none=>simp[hh]at hcell
   | some x =>
    cases x with
    | cells cs t f=>exact hc cs t f hh
    | _=>simp[hh]at hcell
  ·rw[World.cell?_of_block (w':=R.w.putObj l o) (w:=R.w) (World.putObj_heap_other hb)];exact hcell,hm⟩,fun b cs ty fl hcell hm=>⟨by
  have hb:b≠l:=fun e=>hc cs ty fl (e▸hcell)
  show (R.w.putObj l o).heap[b]?=_
  rw[World.putObj_heap_other hb];exact hcell,hm⟩⟩,fun b hb=>by
  by_cases hbl:b=l
  ·subst hbl;exact .inr ⟨hl,hF⟩
  ·exact .inl ⟨World.putObj_heap_other hbl,fun _=>Iff.rfl⟩⟩
def Ctx.at (E:Ctx) (R:Env) (L:Loc) (β0:List Nat) (df:List Deferred) (hs:E.w0.heap.size<=R.w.heap.size) (ht:∀ b,Xd L b->E.tu b):Ctx:=
 {w0:=R.w,M0:=R.M,β0:=β0,ex:=Xd L,N:=E.N,df:=df,F0:=R.F,bo:=fun b=>b∈L.β,bex:=fun b hb=>.inl hb,J:=E.J,
  stab:=fun k A B hJ hn=>E.stab k A B hJ ⟨hn.os,hn.tape,hn.output,hn.size,hn.fgn,hn.ext,fun b hb=>(hn.blk b hb).imp id fun ⟨g1,g2⟩=>⟨by
   rcases g1 with g1 | g1
   ·exact .inl (Nat.le_trans hs g1)
   ·exact ht b g1,g2⟩⟩ }
theorem Yf.fresh (h:Yf G E σ R L) {β0 more:List Nat} (hβ:L.β=β0++more) (hsz:a.tmps.size=E.N) (htm:∀ t,Rep R L (jy σ.tm t) (a.tmps.getD t undef)):qE G (E.at R L β0 a.defers h.size fun b hb=>(h.turf hb).1) σ a R L:=by
 refine ⟨⟨⟨h.fit.glob,h.fit.boxes,⟨fun id e k v ht=>?_,h.fit.owns.apart⟩,fun g hg=>.inl hg⟩,rfl,rfl,rfl,Nat.le_refl _,fun b _ _ _=>⟨rfl,fun _=>Iff.rfl⟩,⟨fun b o v h1 h2=>⟨h1,h2⟩,fun _ _ _ _ h1 h2=>⟨h1,h2⟩⟩,⟨more,hβ⟩,fun b hb=>.inr hb,h.flt,fun b _=>Iff.rfl,h.fbx,h.fow,h.free,h.log⟩,hsz,⟨[],rfl,List.nodup_nil,fun d hd=>by cases hd⟩,htm⟩
 exact (h.fit.owns.own id e k v ht).move fun g hv q2 _ q7=>⟨.inr (.inr ⟨id,e,k,v,ht,hv⟩),rfl,q7,fun _ h=>h⟩
section
variable {β0:List Nat} {df:List Deferred} {hs:E.w0.heap.size<=R.w.heap.size} {ht:∀ b,Xd L b->E.tu b}
theorem Ctx.at_tu {b:Nat} (h:(E.at R L β0 df hs ht).tu b):E.tu b:=by
 rcases h with h | h
 ·exact .inl (Nat.le_trans hs h)
 ·exact ht b h
theorem Yf.at_blk (h':Yf G (E.at R L β0 df hs ht) σ' R' L') {b:Nat} (hb:b<R.w.heap.size) (hT:¬Xd L b) (hF:¬R.F b):R'.w.heap[b]?=R.w.heap[b]?/\∀ o,(R'.M b o↔R.M b o):=
 h'.blk b hb hT fun hx=>hF ((h'.fz b hb).1 hx)
theorem Yf.back (h:Yf G E σ R L) (hβ:∃ more,β0=E.β0++more) (h':Yf G (E.at R L β0 df hs ht) σ' R' L'):Yf G E σ' R' L':=by
 obtain ⟨more,hm⟩:=hβ
 obtain ⟨more',hm'⟩:=h'.box
 have hm':L'.β=β0++more':=hm'
 refine ⟨⟨h'.fit.glob,h'.fit.boxes,⟨fun id e k v ht=>(h'.fit.owns.own id e k v ht).base fun g hg=>Ctx.at_tu hg,h'.fit.owns.apart⟩,fun g hg=>Ctx.at_tu (h'.fit.base g hg)⟩,h'.os.trans h.os,h'.tape.trans h.tape,h'.output.trans h.output,Nat.le_trans h.size h'.size,fun b hb hx hF=>?_,h.ext.trans ⟨h'.ext.cell,h'.ext.whole⟩,⟨more++more',by rw[hm',hm,List.append_assoc]⟩,fun b hb=>(h'.tub b hb).elim (fun g=>.inl (Nat.le_trans hs g)) (h.tub b),h'.flt,fun b hb=>(h'.fz b (Nat.lt_of_lt_of_le hb h.size)).trans (h.fz b hb),h'.fbx,h'.fow,h'.free,h'.log⟩
 have hlt:=Nat.lt_of_lt_of_le hb h.size
 have hF':¬R.F b:=fun hq=>hF ((h'.fz b hlt).2 hq)
 have hT:¬Xd L b:=fun hq=>by
  rcases ht b hq with g | g
  ·omega
  ·exact hx g
 obtain ⟨g1,g2⟩:=h'.at_blk hlt hT hF'
 obtain ⟨k1,k2⟩:=h.blk b hb hx hF'
 exact ⟨g1.trans k1,fun o=>(g2 o).trans (k2 o)⟩
theorem Yf.at_turf (h':Yf G (E.at R L β0 df hs ht) σ' R' L') {b:Nat} (hb:b<R.w.heap.size) (hT:Xd L' b):Xd L b:=by
 rcases (h'.turf hT).1 with g | g
 ·have g:R.w.heap.size<=b:=g
  omega
 ·exact g
end
def zlI (items:List (List C)) (st:Nat->Bool) (k:Nat):Prop:=(k=items.length/\∀ j,j<k->st j=false)∨(0<k/\st (k-1)=true)
def ko (P:Program) (G:zm) (f:FuncId) (first cap:List C) (bx:List (List C)) (items:List (List C)):Prop:=
 Yy P f=true/\∀ (l:Nat) (st:Nat->Bool) (J:Nat->Env->Prop) (R:Env) (L:Loc) (us vs:List Value),Xe G R->jX R L bx->(∀ id,L.T id=none)->(∀ b,R.F b->b<R.w.heap.size)->(∀ b∈L.β,¬R.F b) ->
  (∀ k A B,J k A->zbJ R.w (fun b=>b∈L.β) A B->J k B)->YOk P ⟨l,items,st⟩ J->J 0 R->zu R L first us->zu R L cap vs ->
  Calls P f (us++[Value.func (.yield l) #[] #[]]++vs).toArray R.w fun e w'=>∃ v R' k,e = .returned v/\R'.w=w'/\J k R'/\zlI items st k
def ZN:List Tmp->List C->List (Nat×C)->List (Nat×C)
 | p :: ps,c :: cs,tm=>ZN ps cs ((p,c) :: tm)
 | _,_,tm=>tm
theorem NY {R:Env} {L:Loc}:∀ (ps:List Tmp) (it:List C) (vs:List Value) (tm:List (Nat×C)) (tmps:Array Value),zu R L it vs->(∀ p∈ps,p<tmps.size)->(∀ t,Rep R L (jy tm t) (tmps.getD t undef)) ->
  ∀ t,Rep R L (jy (ZN ps it tm) t) (((ps.zip vs).foldl (fun t (p:Nat×Value)=>t.setIfInBounds p.1 p.2) tmps).getD t undef)
 | [],it,vs,tm,tmps,h1,h2,h3,t=>by
  simp only[ZN,List.zip_nil_left,List.foldl_nil];exact h3 t
 | p :: ps,[],vs,tm,tmps,h1,h2,h3,t=>by
  rw[zj.1 h1]
  simp only[ZN,List.zip_nil_right,List.foldl_nil];exact h3 t
 | p :: ps,c :: cs,vs,tm,tmps,h1,h2,h3,t=>by
  obtain ⟨v,us,rfl,g1,g2⟩:=ze.1 h1
  simp only[ZN,List.zip_cons_cons,List.foldl_cons]
  refine NY ps cs us _ _ g2 (fun q hq=>by simpa using h2 q (List.mem_cons_of_mem _ hq)) (fun u=>?_) t
  have hlt:=h2 p List.mem_cons_self
  simp only[jy]
  split
  ·subst_vars
   simpa [Array.getD_eq_getD_getElem?,hlt] using g1
  ·rename_i hne
   have hne':p≠u:=fun e=>hne e.symm
   have:=h3 u
   simpa [Array.getD_eq_getD_getElem?,Array.getElem?_setIfInBounds_ne hne'] using this
theorem kB:∀ (l:List (Nat×Value)) (tmps:Array Value),(l.foldl (fun t (p:Nat×Value)=>t.setIfInBounds p.1 p.2) tmps).size=tmps.size
 | [],_=>rfl
 | x :: r,tmps=>by rw[List.foldl_cons,kB r];simp
def zeg (m:Nat) (tm:List (Nat×C)) (st:Bool) (next:St) (Q:Exit->St->Prop):Exit->St->Prop
 | .normal,σ=>st=false/\zH m ⟨[],σ.bx,σ.nx,σ.lg⟩ (next.wt [])
 | .ret,σ=>st=true/\∃ σ':St,σ'.bx.length=m/\zH m ⟨[],σ.bx,σ.nx,σ.lg⟩ (σ'.wt [])/\Q .ret (σ'.wt tm)
 | .exit id,σ=>st=true/\∃ σ':St,σ'.bx.length=m/\zH m ⟨[],σ.bx,σ.nx,σ.lg⟩ (σ'.wt [])/\Q (.exit id) (σ'.wt tm)
 | .goto t,σ=>st=true/\∃ σ':St,σ'.bx.length=m/\zH m ⟨[],σ.bx,σ.nx,σ.lg⟩ (σ'.wt [])/\Q (.goto t) (σ'.wt tm)
 | _,_=>False
def zk5 (K:St->Prop):Exit->St->Prop
 | .normal,σ=>K σ
 | _,_=>False
def vw (P:Program) (G:zm) (p:Nat) (A B:Nat->(Exit->St->Prop)->St->Prop) (Q:Exit->St->Prop) (ps:List Tmp) (c:C) (σ:St):Prop:=
 match c with
 | .clo (.func f) first cap=>∃ (items:List (List C)) (st:Nat->Bool) (m:Nat) (I:Nat->St),
   p<=m/\m<=σ.bx.length/\ko P G f (C.selL (YR m) first) (C.selL (YR m) cap) ((σ.bx.drop m).map (C.selL (YR m))) items/\(∀ it∈items,it.length=ps.length)/\(∀ k,k<=items.length->(I k).bx.length=m) /\
   zH m ⟨[],σ.bx,σ.nx,σ.lg⟩ ((I 0).wt []) /\
   (∀ k it,items[k]?=some it->(∀ j,j<k->st j=false)->A m (zk5 (B m (zeg m (UX m σ.tm) (st k) (I (k+1)) Q))) ((I k).wt (ZN ps it (UX m σ.tm)))) /\
   ((∀ j,j<items.length->st j=false)->Q .normal ((I items.length).wt (UX m σ.tm)))
 | _=>False
end
end
section
open Go.RowKit
def xk (r:Option Nat) (E:Ctx):Prop:=∀ l0,r=some l0->l0<E.w0.heap.size/\¬E.ex l0/\¬E.F0 l0/\∃ r0,E.w0.heap[l0]?=some (.loop r0)
section
variable {P:Program} {G:zm} {E:Ctx} {σ σ':St} {a:Act} {R R':Env} {L L':Loc}
theorem zbc {r:Option Nat} (hr:xk r E) (h:Yf G E σ R L) (fn:FuncId) (tmps:Array Value) (ps:Array Tmp) (assign body:Code) :
  ∃ (l:Nat) (ds:List Nat) (W:World) (D:Nat),(Instr.enterLoop fn tmps ps assign body r).run P R.w = .ok (l,ds.map JK) W/\Below R.w.heap.size R.w W/\R.w.heap.size<=l /\
   W.heap[l]?=some (.loop { state:=.ready,pending:=none,fn,tmps,params:=ps,assign,body,defers:=D })/\ds.Nodup/\∀ d∈ds,R.w.heap.size<=d/\d≠l/\W.heap[d]?=some (.deferred (some [])):=by
 cases r with
 | none =>
  have hrun:=run_enterLoop_outer (P:=P) (w:=R.w) fn tmps ps assign body
  have hnew:=World.alloc_heap_new (R.w.alloc (.deferred (some []))) (.loop { state:=.ready,pending:=none,fn,tmps,params:=ps,assign,body,defers:=R.w.heap.size })
  rw[World.size_alloc]at hnew
  refine ⟨R.w.heap.size+1,[R.w.heap.size],_,_,hrun,((Below.refl _ _).alloc (Nat.le_refl _) _).alloc (by simp) _,by omega,hnew,by simp,fun d hd=>?_⟩
  obtain rfl:d=R.w.heap.size:=by simpa using hd
  exact ⟨Nat.le_refl _,by omega,(Below.heap_alloc _ _ _ (by simp)).trans (World.alloc_heap_new R.w _)⟩
 | some l0 =>
  obtain ⟨h1,h2,h3,r0,h4⟩:=hr l0 rfl
  have hl0:R.w.heap[l0]?=some (.loop r0):=(h.blk l0 h1 h2 fun hx=>h3 ((h.fz l0 h1).1 hx)).1.trans h4
  have hrun:=run_enterLoop_inner (P:=P) hl0 fn tmps ps assign body
  exact ⟨R.w.heap.size,[],_,_,hrun,(Below.refl _ _).alloc (Nat.le_refl _) _,Nat.le_refl _,World.alloc_heap_new R.w _,List.nodup_nil,fun d hd=>by cases hd⟩
def Mk (E:Ctx) (ds:List Deferred) (d:Nat):Prop:=∃ l:List Nat,ds=l.map JK++E.df/\d∈l
theorem GS.stay2 {ds:List Deferred} (h:GS E ds R) (hf:∀ d,Mk E ds d->(R'.F d↔R.F d)) (hd:∀ d,Mk E ds d->R.w.heap[d]?=some (.deferred (some []))->R'.w.heap[d]?=R.w.heap[d]?):GS E ds R':=by
 obtain ⟨l,e,hl,h⟩:=h
 refine ⟨l,e,hl,fun d hdl=>?_⟩
 obtain ⟨h1,h2,h3⟩:=h d hdl
 exact ⟨(hd d ⟨l,e,hdl⟩ h1).trans h1,h2,fun h'=>h3 ((hf d ⟨l,e,hdl⟩).1 h')⟩
theorem GS.mk {ds:List Deferred} (h:GS E ds R) {d:Nat} (hd:Mk E ds d):R.w.heap[d]?=some (.deferred (some []))/\E.w0.heap.size<=d/\¬R.F d:=by
 obtain ⟨l,e,hl,h⟩:=h
 obtain ⟨l',e',hd⟩:=hd
 have:l.map JK=l'.map JK:=List.append_cancel_right (e.symm.trans e')
 have hinj:Function.Injective JK:=fun x y hxy=>by
  have:=congrArg Deferred.target hxy
  simpa using this
 have:=(List.map_inj_right fun x y hxy=>hinj hxy).1 this
 subst this
 exact h d hd
structure Y7 (G:zm) (E:Ctx) (R1:Env) (β1:List Nat) (l:Nat) (ds:List Deferred) (σ:St) (Rp:Env) (o:Obj) (Lk:Loc) (Fo:Nat->Prop):Prop where
 ext:Ext R1 Rp
 β:Lk.β=β1
 good:Yf G E σ ⟨Rp.w,Rp.M,Fo⟩ Lk
 df:GS E ds ⟨Rp.w,Rp.M,Fo⟩
 rcd:Rp.w.heap[l]?=some o
 fl:¬Fo l
 f1:∀ b,Fo b->Rp.F b
 f2:∀ b,Xd Lk b->Rp.F b
 f3:Rp.F l
 f4:∀ d,Mk E ds d->Rp.F d
theorem Y7.stab {R1:Env} {β1:List Nat} {l:Nat} {ds:List Deferred} {A B:Env} {o:Obj} {Lk:Loc} {Fo:Nat->Prop} {ex:Nat->Prop} {w1:World} (hw:E.w0.heap.size<=w1.heap.size) (hx:∀ b,ex b->E.tu b) (h:Y7 G E R1 β1 l ds σ A o Lk Fo) (hn:zbJ w1 ex A B):Y7 G E R1 β1 l ds σ B o Lk Fo:=by
 have hsame:∀ b,b<A.w.heap.size->A.F b->B.w.heap[b]?=A.w.heap[b]?/\∀ o,(B.M b o↔A.M b o):=fun b hb hF=>by
  rcases hn.blk b hb with g | ⟨_,g⟩
  ·exact g
  ·exact absurd hF g
 have hlt:∀ {b:Nat} {o:Obj},A.w.heap[b]?=some o->b<A.w.heap.size:=fun h=>z7 h
 refine ⟨h.ext.trans hn.ext,h.β,h.good.stay ⟨hn.os,hn.tape,hn.output,hn.size,rfl,⟨hn.ext.cell,hn.ext.whole⟩,fun b hb=>(hn.blk b hb).imp id fun ⟨g1,g2⟩=>⟨?_,fun hF=>g2 (h.f1 b hF)⟩⟩ fun b hb=>hsame b (h.good.turf hb).2.2.1 (h.f2 b hb),
  h.df.stay2 (fun _ _=>Iff.rfl) fun d hd hh=>(hsame d (hlt hh) (h.f4 d hd)).1,(hsame l (hlt h.rcd) h.f3).1.trans h.rcd,h.fl,fun b hb=>by rw[hn.fgn];exact h.f1 b hb,fun b hb=>by rw[hn.fgn];exact h.f2 b hb,by rw[hn.fgn];exact h.f3,fun d hd=>by rw[hn.fgn];exact h.f4 d hd⟩
 rcases g1 with g1 | g1
 ·exact .inl (Nat.le_trans hw g1)
 ·exact hx b g1
end
end
section
open Go.RowKit
def zl6 (G:zm) (E:Ctx) (Q:Exit->St->Prop):Exit->Act->World->Prop:=fun e a w=>∃ σ,Q e σ/\Inv G E σ a w
def zmu:Exit->Option Code
 | .ret=>some .ret
 | .exit id=>some (.exit id)
 | .goto t=>some (.goto t)
 | _=>none
abbrev GR (fn:FuncId) (tmps:Array Value) (ps:Array Tmp) (assign body:Code) (D:Nat) (s:LoopState) (p:Option Code):Loop:={ state:=s,pending:=p,fn,tmps,params:=ps,assign,body,defers:=D }
def JC (G:zm) (E:Ctx) (R1:Env) (β1:List Nat) (l m:Nat) (ds:List Deferred) (rc:LoopState->Option Code->Loop) (st:Nat->Bool) (I:Nat->St) (tm:List (Nat×C)) (Q:Exit->St->Prop) (k:Nat) (Rp:Env):Prop:=
 ((∀ j,j<k->st j=false)/\∃ Lk Fo,Y7 G E R1 β1 l ds (I k) Rp (.loop (rc .ready none)) Lk Fo) ∨
 (0<k/\st (k-1)=true/\∃ e jc σ',zmu e=some jc/\Q e (σ'.wt tm)/\∃ Lk Fo,Y7 G E R1 β1 l ds σ' Rp (.loop (rc .done (some jc))) Lk Fo)
section
variable {P:Program} {G:zm} {E:Ctx} {σ σ':St} {a:Act} {R R':Env} {L L':Loc}
theorem JC.stab {R1:Env} {β1:List Nat} {l m:Nat} {ds:List Deferred} {rc:LoopState->Option Code->Loop} {st:Nat->Bool} {I:Nat->St} {tm:List (Nat×C)} {Q:Exit->St->Prop} {ex:Nat->Prop} {w1:World} (hw:E.w0.heap.size<=w1.heap.size) (hx:∀ b,ex b->E.tu b) :
  ∀ k A B,JC G E R1 β1 l m ds rc st I tm Q k A->zbJ w1 ex A B->JC G E R1 β1 l m ds rc st I tm Q k B:=fun k A B h hn=>by
 rcases h with ⟨h1,Lk,Fo,hb⟩ | ⟨h1,h2,e,jc,σ',h3,h4,Lk,Fo,hb⟩
 ·exact .inl ⟨h1,Lk,Fo,hb.stab hw hx hn⟩
 ·exact .inr ⟨h1,h2,e,jc,σ',h3,h4,Lk,Fo,hb.stab hw hx hn⟩
theorem zgl {ps:Array Tmp} {assign body:Code} {Q:Exit->St->Prop} {A B:Nat->(Exit->St->Prop)->St->Prop} {fn:FuncId} {tmps:Array Value} {D l m:Nat} {ds:List Deferred} {R1:Env} {L1:Loc} {tm0:List (Nat×C)} {items:List (List C)} {st:Nat->Bool} {I:Nat->St}
  (hsA:∀ (E':Ctx) (Q':Exit->St->Prop) (σ':St) (a':Act) (w':World),E'.N=E.N->E'.β0.length<=m->E'.J=E.J->xk (some l) E'->A m Q' σ'->Inv G E' σ' a' w'->assign.wpIn (Fl (some l)) 0 P (zl6 G E' Q') a' w')
  (hsB:∀ (E':Ctx) (Q':Exit->St->Prop) (σ':St) (a':Act) (w':World),E'.N=E.N->E'.β0.length<=m->E'.J=E.J->xk (some l) E'->B m Q' σ'->Inv G E' σ' a' w'->body.wpIn (Fl (some l)) 0 P (zl6 G E' Q') a' w')
  (hl:E.w0.heap.size<=l) (hps:∀ p∈ps.toList,p<E.N) (hN:tmps.size=E.N) (htm0:∀ t,Rep R1 L1 (jy tm0 t) (tmps.getD t undef)) (hlen:∀ it∈items,it.length=ps.toList.length) (hIm:∀ k,k<=items.length->(I k).bx.length=m)
  (hbody:∀ k it,items[k]?=some it->(∀ j,j<k->st j=false)->A m (zk5 (B m (zeg m (UX m tm0) (st k) (I (k+1)) Q))) ((I k).wt (ZN ps.toList it (UX m tm0)))) :
  YOk P ⟨l,items,st⟩ (JC G E R1 (L1.β.take m) l m ds (GR fn tmps ps assign body D) st I (UX m tm0) Q):=by
 intro k R it vs hJ hflt hst hit hvs
 have hJ':∃ Lk Fo,Y7 G E R1 (L1.β.take m) l ds (I k) R (.loop (GR fn tmps ps assign body D .ready none)) Lk Fo:=by
  rcases hJ with ⟨_,h⟩ | ⟨hk0,hk1,_⟩
  ·exact h
  ·have:=hst (k-1) (by omega)
   exact absurd (hk1.symm.trans this) (by decide)
 obtain ⟨Lk,Fo,hb⟩:=hJ'
 have hit':items[k]?=some it:=hit
 have hk:k<items.length:=(List.getElem?_eq_some_iff.1 hit').1
 have hpl:=hlen it (List.mem_of_getElem? hit')
 have hvl:=zt hvs
 have hps':ps.size=ps.toList.length:=by simp
 have hy:=run_yield (P:=P) (args:=vs.toArray) hb.rcd (by simp only[List.size_toArray];omega)
 refine ⟨fn,_,assign,body,hy,roundIn_of_wpIn trivial ?_⟩
 clear hy
 have hfold:Array.foldl (fun (t:Array Value) (p:Nat×Value)=>t.setIfInBounds p.1 p.2) tmps (ps.zip vs.toArray)=(ps.toList.zip vs).foldl (fun t (p:Nat×Value)=>t.setIfInBounds p.1 p.2) tmps:=by
  rw[←Array.foldl_toList,Array.toList_zip]
 have hbase:∀ t,Rep ⟨R.w,R.M,Fo⟩ Lk (jy (UX m tm0) t) (tmps.getD t undef):=fun t=>by
  rw[yE]
  refine Rep.sel (R':=⟨R.w,R.M,Fo⟩) (L':=Lk) ⟨hb.ext.cell,hb.ext.whole⟩ (fun i j b hij hb1=>?_) _ _ (htm0 t)
  unfold kT at hij
  split at hij
  ·cases hij
   rw[hb.β,List.getElem?_take,if_pos (by assumption)];exact hb1
  ·cases hij
 have hvs':zu ⟨R.w,R.M,Fo⟩ Lk it vs:=zu.ext (R:=R) (R':=⟨R.w,R.M,Fo⟩) (T:=zI) ⟨fun b o v h1 h2=>⟨h1,h2⟩,fun _ _ _ _ h1 h2=>⟨h1,h2⟩⟩ (zK.none _) _ _ hvs
 have htm:=NY ps.toList it vs (UX m tm0) tmps hvs' (fun p hp=>by rw[hN];exact hps p hp) hbase
 have hfr:=(hb.good.wt (ZN ps.toList it (UX m tm0))).fresh (β0:=Lk.β) (more:=[]) (by simp) (a:=⟨(ps.toList.zip vs).foldl (fun t (p:Nat×Value)=>t.setIfInBounds p.1 p.2) tmps,[]⟩) (by rw[kB];exact hN) htm
 have hlm:Lk.β.length=m:=by rw[hb.good.fit.boxes.len,hIm k (by omega)]
 have hlR:l<R.w.heap.size:=z7 hb.rcd
 have hnT:¬Xd Lk l:=fun hT=>by
  obtain ⟨_,_,_,hc⟩:=hb.good.turf hT
  have hr:=hb.rcd
  rcases hc with ⟨cs,t,f,hc⟩ | ⟨cs,t,hc⟩<;>exact nomatch hr.symm.trans hc
 refine wpIn_mono (hsA (E.at (Env.mk R.w R.M Fo) Lk Lk.β [] hb.good.size fun b hx=>(hb.good.turf hx).1) _ _ _ R.w rfl (by show Lk.β.length<=m;omega) rfl (fun l0 hl0=>by cases hl0;exact ⟨hlR,hnT,hb.fl,_,hb.rcd⟩) (hbody k it hit' hst) ⟨Env.mk R.w R.M Fo,Lk,rfl,by rw[←hfold]at hfr;exact hfr⟩) ?_
 rintro e a1 w1 ⟨σ1,hq,Ra,La,rfl,hIa⟩
 cases e<;>try exact hq.elim
 -- the record is ready yet
 have hga:=hb.good.wt (ZN ps.toList it (UX m tm0)) |>.back hb.good.box hIa.good
 have hra:=hIa.good.at_blk (b:=l) hlR hnT hb.fl
 have hrecA:Ra.w.heap[l]?=some (.loop (GR fn tmps ps assign body D .ready none)):=hra.1.trans hb.rcd
 have hFa:¬Ra.F l:=fun hx=>hb.fl ((hIa.good.fz l hlR).1 hx)
 have hTa:¬Xd La l:=fun hT=>by
  obtain ⟨_,_,_,hc⟩:=hga.turf hT
  rcases hc with ⟨cs,t,f,hc⟩ | ⟨cs,t,hc⟩<;>exact nomatch hrecA.symm.trans hc
 refine ⟨_,run_beginRound hrecA rfl,?_⟩
 have hlA:l<Ra.w.heap.size:=z7 hrecA
 have hni:=Y9 (E:=E) (R:=Ra) (o:=.loop { GR fn tmps ps assign body D .ready none with state:=.busy }) (.inl hl) hFa (fun cs t f hc=>by rw[hrecA]at hc;cases hc)
 have hsame:∀ (o:Obj) (R:Env) (L:Loc),(¬Xd L l)->∀ b,Xd L b->(R.w.putObj l o).heap[b]?=R.w.heap[b]?/\∀ o,(R.M b o↔R.M b o):=fun o R L hT b hb=>⟨World.putObj_heap_other fun e=>hT (e▸hb),fun _=>Iff.rfl⟩
 have hgb:=hga.stay hni (hsame _ Ra La hTa)
 have hrecB:(Ra.w.putObj l (.loop { GR fn tmps ps assign body D .ready none with state:=.busy })).heap[l]?=some (.loop (GR fn tmps ps assign body D .busy none)):=World.putObj_heap_same hlA
 obtain ⟨moreA,hmA⟩:=hIa.good.box
 have hmA:La.β=Lk.β++moreA:=hmA
 have hfrB:=hgb.fresh hmA (a:=a1) hIa.size fun t=>Rep.ext hni.ext (zK.refl _) _ _ (hIa.tm t)
 refine wpIn_mono (hsB (E.at (Env.mk (Ra.w.putObj l (.loop { GR fn tmps ps assign body D .ready none with state:=.busy })) Ra.M Ra.F) La Lk.β a1.defers hgb.size fun b hx=>(hgb.turf hx).1) _ σ1 a1 _ rfl (by show Lk.β.length<=m;omega) rfl (fun l0 hl0=>by cases hl0;exact ⟨by simpa [Ctx.at] using hlA,hTa,hFa,_,hrecB⟩) hq ⟨_,La,rfl,hfrB⟩) ?_
 rintro e a3 w3 ⟨σ3,hq3,Rc,Lc,rfl,hIc⟩
 have hgc:=hgb.back hb.good.box hIc.good
 have hlB:l<(Ra.w.putObj l (.loop { GR fn tmps ps assign body D .ready none with state:=.busy })).heap.size:=by simpa using hlA
 have hrc:=hIc.good.at_blk (b:=l) hlB hTa hFa
 have hrecC:Rc.w.heap[l]?=some (.loop (GR fn tmps ps assign body D .busy none)):=hrc.1.trans hrecB
 have hFc:¬Rc.F l:=fun hx=>hFa ((hIc.good.fz l hlB).1 hx)
 have hTc:¬Xd Lc l:=fun hT=>by
  obtain ⟨_,_,_,hc⟩:=hgc.turf hT
  rcases hc with ⟨cs,t,f,hc⟩ | ⟨cs,t,hc⟩<;>exact nomatch hrecC.symm.trans hc
 have hszA:R.w.heap.size<=Ra.w.heap.size:=hIa.good.size
 have hszC:Ra.w.heap.size<=Rc.w.heap.size:=by have:=hIc.good.size;simpa [Ctx.at] using this
 -- what is none of the loop's lies as it lay
 have hfar:∀ b,b<R.w.heap.size->¬R.F b->(Rc.w.heap[b]?=R.w.heap[b]?/\∀ o,(Rc.M b o↔R.M b o))/\(¬Rc.F b):=fun b hbl hbF=>by
  have hbF0:¬Fo b:=fun hx=>hbF (hb.f1 b hx)
  have hbT:¬Xd Lk b:=fun hx=>hbF (hb.f2 b hx)
  have hbl':b≠l:=fun e=>hbF (e▸hb.f3)
  have h1:=hIa.good.at_blk (b:=b) hbl hbT hbF0
  have hFa':¬Ra.F b:=fun hx=>hbF0 ((hIa.good.fz b hbl).1 hx)
  have hTa':¬Xd La b:=fun hx=>hbT (hIa.good.at_turf hbl hx)
  have hlt2:b<(Ra.w.putObj l (.loop { GR fn tmps ps assign body D .ready none with state:=.busy })).heap.size:=by simp;omega
  have h2:=hIc.good.at_blk (b:=b) hlt2 hTa' hFa'
  refine ⟨⟨(h2.1.trans (World.putObj_heap_other hbl')).trans h1.1,fun o=>(h2.2 o).trans (h1.2 o)⟩,fun hx=>hFa' ((hIc.good.fz b hlt2).1 hx)⟩
 have hturf:∀ b,b<R.w.heap.size->Xd Lc b->R.F b:=fun b hbl hx=>by
  refine hb.f2 b (hIa.good.at_turf hbl (hIc.good.at_turf ?_ hx))
  simp;omega
 have hext:Ext R Rc:=by
  have e1:Ext (Env.mk R.w R.M Fo) Ra:=⟨hIa.good.ext.cell,hIa.good.ext.whole⟩
  have e2:Ext (Env.mk (Ra.w.putObj l (.loop { GR fn tmps ps assign body D .ready none with state:=.busy })) Ra.M Ra.F) Rc:=⟨hIc.good.ext.cell,hIc.good.ext.whole⟩
  exact (Ext.trans (A:=R) (B:=Ra) ⟨e1.cell,e1.whole⟩ hni.ext).trans e2
 -- the end of a round
 have fin:∀ (jump:Option Code) (σ':St),σ'.bx.length=m->zH m ⟨[],σ3.bx,σ3.nx,σ3.lg⟩ (σ'.wt []) ->
   (Instr.endRound l jump).run P Rc.w = .ok (.bool jump.isNone) (Rc.w.putObj l (.loop (GR fn tmps ps assign body D (if jump.isNone then .ready else .done) jump))) /\
   ∃ R',R'.w=Rc.w.putObj l (.loop (GR fn tmps ps assign body D (if jump.isNone then .ready else .done) jump))/\Far R R' /\
    ∃ Lk' Fo',Y7 G E R1 (L1.β.take m) l ds σ' R' (.loop (GR fn tmps ps assign body D (if jump.isNone then .ready else .done) jump)) Lk' Fo':=fun jump σ' hm' hw=>by
  have hrun:=run_endRound (P:=P) jump hrecC
  generalize hrc':GR fn tmps ps assign body D (if jump.isNone then .ready else .done) jump=rc'
  have hrun':(Instr.endRound l jump).run P Rc.w = .ok (.bool jump.isNone) (Rc.w.putObj l (.loop rc')):=by rw[←hrc'];exact hrun
  have hni2:=Y9 (E:=E) (R:=Rc) (o:=.loop rc') (.inl hl) hFc (fun cs t f hc=>by rw[hrecC]at hc;cases hc)
  have hgd:=hgc.stay hni2 (hsame _ Rc Lc hTc)
  obtain ⟨src,_,hgw⟩:=Yf.weak (p:=m) (σ:=⟨[],σ3.bx,σ3.nx,σ3.lg⟩) (σ':=σ'.wt []) (by
   obtain ⟨more0,hm0⟩:=hb.good.box
   have:=congrArg List.length hm0
   simp at this;omega) hw (hgd.wt [])
  obtain ⟨moreC,hmC⟩:=hIc.good.box
  have hmC:Lc.β=Lk.β++moreC:=hmC
  have hβ':Lc.β.take (σ'.wt []).bx.length=L1.β.take m:=by
   show Lc.β.take σ'.bx.length=_
   rw[hm',hmC,List.take_append_of_le_length (by omega),List.take_of_length_le (by omega),hb.β]
  refine ⟨hrun',⟨Rc.w.putObj l (.loop rc'),Rc.M,fun b=>R.F b∨(R.w.heap.size<=b/\b<Rc.w.heap.size)⟩,rfl,⟨?_,?_,?_,?_,?_,fun b hbl=>⟨fun hx=>hx.elim id fun h=>by omega,.inl⟩,fun b hx=>?_,fun b hbl hbF=>?_⟩,Jk src (σ'.wt []).bx.length Lc,Rc.F,⟨?_,hβ',?_,?_,World.putObj_heap_same (z7 hrecC),hFc,fun b hx=>?_,fun b hx=>?_,.inl hb.f3,fun d hd=>.inl (hb.f4 d hd)⟩⟩
  ·exact hIc.good.os.trans hIa.good.os
  ·exact hIc.good.tape.trans hIa.good.tape
  ·exact hIc.good.output.trans hIa.good.output
  ·simp;omega
  ·exact hext.trans ⟨hni2.ext.cell,hni2.ext.whole⟩
  ·simp only[World.putObj_size]
   rcases hx with hx | hx
   ·have:=hflt b hx;omega
   ·exact hx.2
  ·have hbl':b≠l:=fun e=>hbF (e▸hb.f3)
   obtain ⟨⟨g1,g2⟩,_⟩:=hfar b hbl hbF
   exact ⟨(World.putObj_heap_other hbl').trans g1,g2⟩
  ·exact (hb.ext.trans hext).trans ⟨hni2.ext.cell,hni2.ext.whole⟩
  ·exact { hgw with }
  ·have hdf:=hb.df
   refine hdf.stay2 (fun d hd=>?_) fun d hd hh=>?_
   ·have hdm:=hdf.mk hd
    have hlt:d<R.w.heap.size:=z7 hdm.1
    exact ((hIc.good.fz d (by simp[Ctx.at];omega)).trans (hIa.good.fz d hlt))
   ·have hdm:=hdf.mk hd
    have hlt:d<R.w.heap.size:=z7 hdm.1
    have hdF0:¬Fo d:=hdm.2.2
    have hdT:¬Xd Lk d:=fun hT=>by
     obtain ⟨_,_,_,hc⟩:=hb.good.turf hT
     have hh:R.w.heap[d]?=some (.deferred (some [])):=hh
     rcases hc with ⟨cs,t,f,hc⟩ | ⟨cs,t,hc⟩<;>exact nomatch hh.symm.trans hc
    have hdl:d≠l:=fun e=>by
     subst e
     have hh:R.w.heap[d]?=some (.deferred (some [])):=hh
     rw[hb.rcd]at hh;cases hh
    have h1:=hIa.good.at_blk (b:=d) hlt hdT hdF0
    have hFa':¬Ra.F d:=fun hx=>hdF0 ((hIa.good.fz d hlt).1 hx)
    have hTa':¬Xd La d:=fun hx=>hdT (hIa.good.at_turf hlt hx)
    have hlt2:d<(Ra.w.putObj l (.loop { GR fn tmps ps assign body D .ready none with state:=.busy })).heap.size:=by simp;omega
    have h2:=hIc.good.at_blk (b:=d) hlt2 hTa' hFa'
    exact (World.putObj_heap_other hdl).trans ((h2.1.trans (World.putObj_heap_other hdl)).trans h1.1)
  ·rcases Nat.lt_or_ge b R.w.heap.size with g | g
   ·exact .inl (Classical.byContradiction fun hn=>(hfar b g hn).2 hx)
   ·exact .inr ⟨g,hIc.good.flt b hx⟩
  ·obtain ⟨h1,h2,h3,_⟩:=hgw.turf hx
   rcases Nat.lt_or_ge b R.w.heap.size with g | g
   ·refine .inl (hturf b g ?_)
    rcases hx with hx | ⟨id,e,k,v,ht,hv⟩
    ·exact .inl (List.mem_of_mem_take hx)
    ·obtain ⟨i,_,hi⟩:=YQ (R:=R) ht hv
     exact .inr ⟨i,e,k,v,hi,hv⟩
   ·exact .inr ⟨g,by simpa using h3⟩
 cases e with
 | normal =>
  obtain ⟨hs,hw⟩:=hq3
  obtain ⟨hrun,R',hR',hf,Lk',Fo',hbt⟩:=fin none (I (k+1)) (hIm _ (by omega)) hw
  refine ⟨_,_,hrun,?_,R',hR',hf,.inl ⟨fun j hj=>?_,Lk',Fo',hbt⟩⟩
  ·show Ending.returned (.bool true) = .returned (.bool (!st k))
   rw[hs];rfl
  ·rcases Nat.lt_or_ge j k with g | g
   ·exact hst j g
   ·rw[show j=k by omega];exact hs
 | ret =>
  obtain ⟨hs,σ',hm',hw,hQ⟩:=hq3
  obtain ⟨hrun,R',hR',hf,Lk',Fo',hbt⟩:=fin (some .ret) σ' hm' hw
  refine ⟨_,_,hrun,?_,R',hR',hf,.inr ⟨by omega,hs,.ret,_,σ',rfl,hQ,Lk',Fo',hbt⟩⟩
  show Ending.returned (.bool false) = .returned (.bool (!st k))
  rw[hs];rfl
 | exit id =>
  obtain ⟨hs,σ',hm',hw,hQ⟩:=hq3
  obtain ⟨hrun,R',hR',hf,Lk',Fo',hbt⟩:=fin (some (.exit id)) σ' hm' hw
  refine ⟨_,_,hrun,?_,R',hR',hf,.inr ⟨by omega,hs,.exit id,_,σ',rfl,hQ,Lk',Fo',hbt⟩⟩
  show Ending.returned (.bool false) = .returned (.bool (!st k))
  rw[hs];rfl
 | goto t =>
  obtain ⟨hs,σ',hm',hw,hQ⟩:=hq3
  obtain ⟨hrun,R',hR',hf,Lk',Fo',hbt⟩:=fin (some (.goto t)) σ' hm' hw
  refine ⟨_,_,hrun,?_,R',hR',hf,.inr ⟨by omega,hs,.goto t,_,σ',rfl,hQ,Lk',Fo',hbt⟩⟩
  show Ending.returned (.bool false) = .returned (.bool (!st k))
  rw[hs];rfl
 | panic ch=>exact hq3.elim
 | outgrown=>exact hq3.elim
theorem xj {r:Option Nat} {n p:Nat} {f:Operand} {ps:Array Tmp} {assign body:Code} {Q:Exit->St->Prop} {A B:Nat->(Exit->St->Prop)->St->Prop} {w:World}
  (hsA:∀ (E':Ctx) (m l:Nat) (Q':Exit->St->Prop) (σ':St) (a':Act) (w':World),E'.N=E.N->E'.β0.length<=m->E'.J=E.J->xk (some l) E'->A m Q' σ'->Inv G E' σ' a' w'->assign.wpIn (Fl (some l)) 0 P (zl6 G E' Q') a' w')
  (hsB:∀ (E':Ctx) (m l:Nat) (Q':Exit->St->Prop) (σ':St) (a':Act) (w':World),E'.N=E.N->E'.β0.length<=m->E'.J=E.J->xk (some l) E'->B m Q' σ'->Inv G E' σ' a' w'->body.wpIn (Fl (some l)) 0 P (zl6 G E' Q') a' w')
  (hps:∀ p∈ps.toList,p<E.N) (hp:E.β0.length<=p) (hr:xk r E) (hA:vw P G p A B Q ps.toList (zx G σ.tm f) σ) (hI:Inv G E σ a w):(Code.rangeFunc f ps assign body).wpIn (Fl r) n P (zl6 G E Q) a w:=by
 obtain ⟨R,L,rfl,hI⟩:=hI
 unfold vw at hA
 split at hA<;>try exact hA.elim
 rename_i gf first cap hev
 obtain ⟨items,st,m,I,hpm,hmb,hit,hlen,hIm,hw0,hbody,hdone⟩:=hA
 have hcl:=hI.ev f
 rw[hev,JH]at hcl
 obtain ⟨fs,cs,hfv,hfs,hcs⟩:=hcl
 refine wpIn_rangeFunc ?_
 intro fn hfn
 obtain ⟨l,dl,W,D,hrun,hbl,hlR,hrec,hnd,hds⟩:=zbc hr hI.good fn a.tmps ps assign body
 have hg:=hI.good
 let R1:Env:=⟨W,R.M,R.F⟩
 have hnear:zbJ E.w0 E.ex R R1:=⟨hbl.os,hbl.tape,hbl.output,hbl.size,rfl,Ext.of_below hbl fun _ _ _=>Iff.rfl,fun b hb=>.inl ⟨hbl.block b hb,fun _=>Iff.rfl⟩⟩
 have hg1:Yf G E σ R1 L:=hg.stay hnear fun b hb=>⟨hbl.block b (hg.turf hb).2.2.1,fun _=>Iff.rfl⟩
 obtain ⟨src,_,hgw⟩:=Yf.weak (p:=m) (σ:=⟨[],σ.bx,σ.nx,σ.lg⟩) (σ':=(I 0).wt []) (by omega) hw0 (hg1.wt [])
 have hm0:(I 0).bx.length=m:=hIm 0 (Nat.zero_le _)
 have hm0':((I 0).wt []).bx.length=m:=hm0
 have hdf1:GS E (dl.map JK++a.defers) R1:=by
  obtain ⟨l0,e0,hn0,h0⟩:=hI.df
  refine ⟨dl++l0,by rw[List.map_append,e0,List.append_assoc],?_,fun d hd=>?_⟩
  ·rw[List.nodup_append]
   refine ⟨hnd,hn0,fun x hx y hy e=>?_⟩
   subst e
   have:=(hds x hx).1
   have:=z7 (h0 x hy).1
   omega
  ·rcases List.mem_append.1 hd with hd | hd
   ·obtain ⟨h1,_,h3⟩:=hds d hd
    exact ⟨h3,Nat.le_trans hg.size h1,fun hF=>by have:=hg.flt d hF;omega⟩
   ·obtain ⟨h1,h2,h3⟩:=h0 d hd
    exact ⟨(hbl.block d (z7 h1)).trans h1,h2,h3⟩
 have hlE:E.w0.heap.size<=l:=Nat.le_trans hg.size hlR
 have hFl:¬R.F l:=fun hF=>by have:=hg.flt l hF;omega
 let Rp:Env:=⟨W,R.M,fun b=>R.F b∨Xd (Jk src m L) b∨b=l∨Mk E (dl.map JK++a.defers) b⟩
 have hturfLt:∀ b,Xd (Jk src m L) b->b<R.w.heap.size/\Xd L b:=fun b hb=>by
  have:Xd L b:=by
   rcases hb with hb | ⟨id,e,k,v,ht,hv⟩
   ·exact .inl (List.mem_of_mem_take hb)
   ·obtain ⟨i,_,hi⟩:=YQ (R:=R) ht hv
    exact .inr ⟨i,e,k,v,hi,hv⟩
  exact ⟨(hg.turf this).2.2.1,this⟩
 have hbt:Y7 G E R1 (L.β.take m) l (dl.map JK++a.defers) (I 0) Rp (.loop (GR fn a.tmps ps assign body D .ready none)) (Jk src m L) R.F:=by
  rw[hm0']at hgw
  refine ⟨⟨fun b o v h1 h2=>⟨h1,h2⟩,fun _ _ _ _ h1 h2=>⟨h1,h2⟩⟩,rfl,{ hgw with },hdf1.stay2 (fun _ _=>Iff.rfl) (fun _ _ _=>rfl),hrec,hFl,fun b hb=>.inl hb,fun b hb=>.inr (.inl hb),.inr (.inr (.inl rfl)),fun d hd=>.inr (.inr (.inr hd))⟩
 have hround:=zgl (G:=G) (E:=E) (P:=P) (R1:=R1) (L1:=L) (tm0:=σ.tm) (ds:=dl.map JK++a.defers) (D:=D) (fn:=fn) (tmps:=a.tmps) (fun E'=>hsA E' m l) (fun E'=>hsB E' m l) hlE hps hI.size (fun t=>Rep.ext hnear.ext (zK.refl _) _ _ (hI.tm t)) hlen hIm hbody
 have hEw:E.w0.heap.size<=W.heap.size:=Nat.le_trans hg.size hbl.size
 have hnodup:=hg.fit.boxes.nodup
 have hblen:=hg.fit.boxes.len
 have htake:∀ b∈L.β.drop m,b∉L.β.take m:=fun b hb hb'=>by
  have h:=hnodup
  rw[←List.take_append_drop m L.β,List.nodup_append]at h
  exact h.2.2 b hb' b hb rfl
 have hdropF:∀ b∈L.β.drop m,¬Rp.F b:=fun b hb hF=>by
  have hbL:b∈L.β:=List.mem_of_mem_drop hb
  obtain ⟨_,t2,t3,hc⟩:=hg.turf (.inl hbL)
  obtain ⟨cs',t,f',hc⟩:∃ cs t f,R.w.heap[b]?=some (.cells cs t f):=by
   obtain ⟨i,hi,rfl⟩:=List.getElem_of_mem hbL
   have hl0:=hg.fit.boxes.len
   obtain ⟨vs,ty,g,_⟩:=hg.fit.boxes.box i L.β[i] (σ.bx[i]'(by omega)) (List.getElem?_eq_getElem hi) (List.getElem?_eq_getElem (by omega))
   exact ⟨_,_,_,g⟩
  rcases hF with hF | hF | hF | hF
  ·exact t2 hF
  ·rcases hF with hF | ⟨id,e,k,v,ht,hv⟩
   ·exact htake b hb hF
   ·obtain ⟨i,_,hi⟩:=YQ (R:=R) ht hv
    exact ((hg.fit.owns.own i e k v hi).block hv).2.2 hbL
  ·omega
  ·have:=(hdf1.mk hF).1
   have hc1:W.heap[b]?=some (.cells cs' t f'):=(hbl.block b t3).trans hc
   have:W.heap[b]?=some (.deferred (some [])):=this
   rw[hc1]at this;cases this
 have hfl:∀ b,Rp.F b->b<Rp.w.heap.size:=fun b hF=>by
  rcases hF with hF | hF | hF | hF
  ·exact Nat.lt_of_lt_of_le (hg.flt b hF) hbl.size
  ·exact Nat.lt_of_lt_of_le (hturfLt b hF).1 hbl.size
  ·rw[hF];exact z7 hrec
  ·exact z7 (hdf1.mk hF).1
 have hb1:=hg1.fit.boxes
 have hdropR:∀ i j b,YR m i=some j->L.β[i]?=some b->(L.β.drop m)[j]?=some b:=fun i j b hij hb=>by
  unfold YR at hij
  split at hij
  ·cases hij
  ·cases hij
   rw[List.getElem?_drop,show m+(i-m)=i by omega];exact hb
 have hsel:∀ cs vs,zu R L cs vs->zu Rp ⟨L.β.drop m,fun _=>none⟩ (C.selL (YR m) cs) vs:=fun cs vs h=>zu.sel (R':=Rp) (L':=⟨L.β.drop m,fun _=>none⟩) ⟨hnear.ext.cell,hnear.ext.whole⟩ hdropR _ _ h
 have hsel1:∀ cs vs,zu R1 L cs vs->zu Rp ⟨L.β.drop m,fun _=>none⟩ (C.selL (YR m) cs) vs:=fun cs vs h=>zu.sel (R:=R1) (R':=Rp) (L':=⟨L.β.drop m,fun _=>none⟩) ⟨fun b o v h1 h2=>⟨h1,h2⟩,fun _ _ _ _ h1 h2=>⟨h1,h2⟩⟩ hdropR _ _ h
 have hcall:=hit.2 l st _ Rp ⟨L.β.drop m,fun _=>none⟩ fs.toList cs.toList (hg.fit.glob.ext ⟨hnear.ext.cell,hnear.ext.whole⟩)
  ⟨by simp[hblen],hnodup.sublist (List.drop_sublist _ _),fun i b cs' hi hc=>by
   have hi':L.β[m+i]?=some b:=by rw[←List.getElem?_drop];exact hi
   rw[List.getElem?_map,List.getElem?_drop]at hc
   cases hq:σ.bx[m+i]? with
   | none=>rw[hq]at hc;cases hc
   | some c0 =>
    rw[hq]at hc;cases hc
    obtain ⟨vs,ty,e1,e2,e3,e4⟩:=hb1.box (m+i) b c0 hi' hq
    exact ⟨vs,ty,e1,hsel1 _ _ e2,e3,e4⟩⟩
  (fun _=>rfl) hfl hdropF (JC.stab (E:=E) (w1:=W) (ex:=fun b=>b∈L.β.drop m) hEw fun b hb=>hg.tubx b (List.mem_of_mem_drop hb)) hround (.inl ⟨fun j hj=>by omega,_,_,hbt⟩) (hsel _ _ hfs) (hsel _ _ hcs)
 refine ⟨l,dl.map JK,W,{ target:=.fn (.func gf) cs,args:=fs++#[.func (.yield l) #[] #[]] },W,gf,(fs.toList++[Value.func (.yield l) #[] #[]]++cs.toList).toArray,W,hrun,?_,fun _ _=>trivial,?_,fun hx=>by simp at hx,?_⟩
 ·simp only[resolve,hfv]
  simp[Deferred.ofValue,Act.eval]
 ·simp only[invoke]
  rw[QJ hit.1]
  congr 2
  apply Array.ext'
  simp
 ·refine (Hj (r:=r) (n:=n-1) hcall).mono ?_
  rintro e w' ⟨v,Re,k,rfl,rfl,hJ,hEnd⟩
  have wrap:∀ (σ':St) (o:Obj) (Lk:Loc) (Fo:Nat->Prop) (o':Obj),((∀ cs t f,o≠.cells cs t f)/\∀ es cl,o≠.map es cl)->Y7 G E R1 (L.β.take m) l (dl.map JK++a.defers) σ' Re o Lk Fo->Inv G E (σ'.wt (UX m σ.tm)) { a with defers:=dl.map JK++a.defers } (Re.w.putObj l o'):=fun σ' o Lk Fo o' ho hb=>by
   have hnT:¬Xd Lk l:=fun hT=>by
    obtain ⟨_,_,_,hc⟩:=hb.good.turf hT
    have hr:=hb.rcd
    rcases hc with ⟨cs,t,f,hc⟩ | ⟨cs,t,hc⟩
    ·exact ho.1 _ _ _ (Option.some.inj (hr.symm.trans hc))
    ·exact ho.2 _ _ (Option.some.inj (hr.symm.trans hc))
   have hni:=Y9 (E:=E) (R:=Env.mk Re.w Re.M Fo) (o:=o') (.inl hlE) hb.fl (fun cs t f hc=>by
    have hc:Re.w.heap[l]?=some (.cells cs t f):=hc
    rw[hb.rcd]at hc;cases hc;exact ho.1 _ _ _ rfl)
   refine ⟨_,Lk,rfl,(hb.good.stay hni fun b hbT=>⟨World.putObj_heap_other fun e=>hnT (e▸hbT),fun _=>Iff.rfl⟩).wt _,hI.size,hb.df.stay2 (fun _ _=>Iff.rfl) fun d hd hh=>World.putObj_heap_other fun e=>?_,fun t=>?_⟩
   ·subst e
    have hh:Re.w.heap[d]?=some (.deferred (some [])):=hh
    rw[hb.rcd]at hh
    cases hh
    have:=(hdf1.mk hd).1
    have:W.heap[d]?=some (.deferred (some [])):=this
    rw[hrec]at this;cases this
   ·show Rep _ _ (jy (UX m σ.tm) t) _
    rw[yE]
    refine Rep.sel (R:=R) (L:=L) ⟨fun b o v h1 h2=>?_,fun b cs ty fl h1 h2=>?_⟩ (fun i j b hij hb1=>?_) _ _ (hI.tm t)
    ·obtain ⟨g1,g2⟩:=hnear.ext.cell b o v h1 h2
     obtain ⟨k1,k2⟩:=hb.ext.cell b o v g1 g2
     exact hni.ext.cell b o v k1 k2
    ·obtain ⟨g1,g2⟩:=hnear.ext.whole b cs ty fl h1 h2
     obtain ⟨k1,k2⟩:=hb.ext.whole b cs ty fl g1 g2
     exact hni.ext.whole b cs ty fl k1 k2
    ·unfold kT at hij
     split at hij
     ·cases hij
      rw[hb.β,List.getElem?_take,if_pos (by assumption)];exact hb1
     ·cases hij
  rcases hJ with ⟨hns,Lk,Fo,hb⟩ | ⟨hk0,hk1,e,jc,σ',hj,hQ,Lk,Fo,hb⟩
  ·have hk:k=items.length:=by
    rcases hEnd with ⟨g,_⟩ | ⟨g1,g2⟩
    ·exact g
    ·have:=hns (k-1) (by omega)
     rw[g2]at this;cases this
   subst hk
   exact ⟨none,_,run_endLoop hb.rcd (by simp),_,hdone hns,wrap _ _ _ _ _ ⟨fun cs t f h=>(by cases h),fun es cl h=>(by cases h)⟩ hb⟩
  ·have hinv:=wrap σ' _ Lk Fo (.loop { GR fn a.tmps ps assign body D .done (some jc) with state:=.exhausted }) ⟨fun cs t f h=>(by cases h),fun es cl h=>(by cases h)⟩ hb
   refine ⟨some jc,_,run_endLoop hb.rcd (by simp),?_⟩
   cases e with
   | ret=>cases hj;exact wpIn_ret ⟨_,hQ,hinv⟩
   | exit id=>cases hj;exact wpIn_exit ⟨_,hQ,hinv⟩
   | goto t=>cases hj;exact wpIn_goto ⟨_,hQ,hinv⟩
   | normal=>cases hj
   | panic ch=>cases hj
   | outgrown=>cases hj
end
end
section
open Go.RowKit
def kl (a s:Nat):List Bool:=true :: true :: true :: (List.replicate a false++true :: List.replicate s false)
def ZP:List Bool->Nat×List Bool
 | false :: r=>((ZP r).1+1,(ZP r).2)
 | r=>(0,r)
def UE:List Bool->Option (Nat×Nat)
 | true :: true :: true :: r=>some ((ZP r).1,(ZP r).2.tail.length)
 | _=>none
theorem VZ:∀ (a:Nat) (r:List Bool),ZP (List.replicate a false++true :: r)=(a,true :: r)
 | 0,r=>by simp[ZP]
 | a+1,r=>by rw[List.replicate_succ,List.cons_append,ZP,VZ a r]
theorem Mp (a s:Nat):UE (kl a s)=some (a,s):=by
 show some ((ZP (List.replicate a false++true :: List.replicate s false)).1,(ZP (List.replicate a false++true :: List.replicate s false)).2.tail.length)=_
 rw[VZ];simp
def Z2 (ops:Array Oper) (a s:Nat):Bool:=
 match ops[a]?,ops[s]? with
 | some ⟨some p,.alloc t,_,_,_,none⟩,some ⟨none,.store t' (.tmp p') x,_,_,_,none⟩ =>
  t==t'&&p==p'&&decide (a<s)&&inC (qe ops.toList ops.size) s a&&ops.toList.zipIdx.all fun (o,i)=>i==a||!(o.dst==some p)
 | _,_=>false
def zgb (L:Option Lay) (c:C) (K:C->Prop):Prop:=match L with
 | some L=>c.partB=true/\(c.cells.all C.cellB)=true/\c.cells.length=L.size/\K c
 | none=>False
def zhk (L:Option Lay) (K:Prop):Prop:=match L with
 | some ⟨_,k,_,some z⟩=>z.length=k/\(z.all Value.oneCell')=true/\K
 | _=>False
section
variable {P:Program} {G:zm} {E:Ctx} {σ:St} {a:Act} {N p:Nat} {bx:List (List C)} {ops:Array Oper}
def jt (P:Program) (G:zm) (ops:Array Oper) (a s:Nat):List Oper->Nat->Option (List C)->St->(St->Prop)->Prop
 | [],_,cs,σ,K=>match cs,(ops[a]?).bind (·.dst) with
  | some cs,some p=>K ⟨(p,.ptr σ.bx.length 0) :: σ.tm,σ.bx++[cs],σ.nx,σ.lg⟩
  | _,_=>False
 | o :: rest,i,cs,σ,K =>
  if i=a then match o.op with
   | .alloc t=>zhk (lay P t) (jt P G ops a s rest (i+1) cs ⟨jU σ.tm o.dst .any,σ.bx,σ.nx,σ.lg⟩ K)
   | _=>False
  else if i=s then match o.op with
   | .store t _ x=>zgb (lay P t) (zx G σ.tm x) fun c=>jt P G ops a s rest (i+1) (some c.cells) ⟨jU σ.tm o.dst .any,σ.bx,σ.nx,σ.lg⟩ K
   | _=>False
  else qT ops σ.tm o.guard (jY P G σ.bx (zx G σ.tm) o.op σ.nx fun c nx'=>jt P G ops a s rest (i+1) cs ⟨jU σ.tm o.dst c,σ.bx,nx',σ.lg⟩ K)
   (jt P G ops a s rest (i+1) cs ⟨jU σ.tm o.dst (.sc undef),σ.bx,σ.nx,σ.lg⟩ K)
structure Nf (P:Program) (G:zm) (bx:List (List C)) (ops:Array Oper) (a s:Nat) (l:List Oper) (m m':Nat) (D:Ya):Prop where
  step:∀ (i:Nat) o,m<=i->i<m'->l[i]?=some o->D.T (i+1)=jU (D.T i) o.dst (D.c i)/\D.X i<=D.X (i+1) /\
    ((i=a/\D.c i = .any/\D.X (i+1)=D.X i/\∃ t kd k b z,o.op = .alloc t/\lay P t=some ⟨kd,k,b,some z⟩/\z.length=k/\(z.all Value.oneCell')=true) ∨
     (i≠a/\i=s/\D.c i = .any/\D.X (i+1)=D.X i/\∃ t q x L,o.op = .store t q x/\lay P t=some L/\(zx G (D.T i) x).partB=true/\((zx G (D.T i) x).cells.all C.cellB)=true/\(zx G (D.T i) x).cells.length=L.size) ∨
     (i≠a/\i≠s/\JW ops (D.T i) o.guard (D.wn i)/\(D.wn i=true->zB P G bx (YL o (zx G (D.T i))) (D.X i) o (D.c i) (D.X (i+1)))/\(D.wn i=false->D.c i = .sc undef/\D.X (i+1)=D.X i)))
theorem Nf.skel {a s:Nat} {l:List Oper} {m m':Nat} {D:Ya} (h:Nf P G bx ops a s l m m' D):Hg l m m' D:=⟨fun i o a b c=>⟨(h.step i o a b c).1,(h.step i o a b c).2.1⟩⟩
theorem kz {ops:Array Oper} {a s:Nat} {all:List Oper} {K:St->Prop}:∀ (l:List Oper) (m:Nat) (cs:Option (List C)) (σ:St),all.drop m=l->m<=all.length->jt P G ops a s l m cs σ K ->
    ∃ (D:Ya) (p:Nat) (ct:List C),D.T m=σ.tm/\D.X m=σ.nx/\Nf P G σ.bx ops a s all m all.length D/\(ops[a]?).bind (·.dst)=some p/\K ⟨(p,.ptr σ.bx.length 0) :: D.T all.length,σ.bx++[ct],D.X all.length,σ.lg⟩ /\
      (cs=some ct∨(m<=s/\s<all.length/\∀ o t q x,all[s]?=some o->o.op = .store t q x->ct=(zx G (D.T s) x).cells))
  | [],m,cs,σ,hl,hm,h=>by
    have:m=all.length:=by
      have:=congrArg List.length hl
      simp at this;omega
    subst this
    unfold jt at h
    split at h
    · rename_i cs p hp
      exact ⟨⟨fun _=>σ.tm,fun _=>σ.nx,fun _=>.any,fun _=>true⟩,p,cs,rfl,rfl,⟨fun i o h1 h2=>by omega⟩,hp,h,.inl rfl⟩
    · exact h.elim
  | o :: rest,m,cs,σ,hl,hm,h=>by
    have hlt:m<all.length:=by
      rcases Nat.lt_or_ge m all.length with g | g
      · exact g
      · rw[List.drop_eq_nil_of_le g]at hl;cases hl
    have hom:all[m]?=some o:=by
      have:=List.getElem?_drop (xs:=all) (i:=m) (j:=0)
      rw[hl]at this;simpa using this.symm
    have hrest:all.drop (m+1)=rest:=by
      have:=congrArg List.tail hl
      simpa using this
    have key:∀ (c:C) (nx':Nat) (b:Bool) (cs':Option (List C)),σ.nx<=nx' ->
        ((m=a/\c = .any/\nx'=σ.nx/\∃ t kd k b z,o.op = .alloc t/\lay P t=some ⟨kd,k,b,some z⟩/\z.length=k/\(z.all Value.oneCell')=true) ∨
         (m≠a/\m=s/\c = .any/\nx'=σ.nx/\∃ t q x L,o.op = .store t q x/\lay P t=some L/\(zx G σ.tm x).partB=true/\((zx G σ.tm x).cells.all C.cellB)=true/\(zx G σ.tm x).cells.length=L.size) ∨
         (m≠a/\m≠s/\JW ops σ.tm o.guard b/\(b=true->zB P G σ.bx (YL o (zx G σ.tm)) σ.nx o c nx')/\(b=false->c = .sc undef/\nx'=σ.nx))) ->
        (cs'=cs∨(m=s/\∀ t q x,o.op = .store t q x->cs'=some (zx G σ.tm x).cells)) ->
        jt P G ops a s rest (m+1) cs' ⟨jU σ.tm o.dst c,σ.bx,nx',σ.lg⟩ K ->
        ∃ (D:Ya) (p:Nat) (ct:List C),D.T m=σ.tm/\D.X m=σ.nx/\Nf P G σ.bx ops a s all m all.length D/\(ops[a]?).bind (·.dst)=some p/\K ⟨(p,.ptr σ.bx.length 0) :: D.T all.length,σ.bx++[ct],D.X all.length,σ.lg⟩ /\
          (cs=some ct∨(m<=s/\s<all.length/\∀ o t q x,all[s]?=some o->o.op = .store t q x->ct=(zx G (D.T s) x).cells)):=fun c nx' b cs' hle hcase hcs hr=>by
      obtain ⟨D,p,ct,d1,d2,d3,d4,d5,d6⟩:=kz rest (m+1) cs' _ hrest (by omega) hr
      refine ⟨⟨fun i=>if i<=m then σ.tm else D.T i,fun i=>if i<=m then σ.nx else D.X i,fun i=>if i=m then c else D.c i,fun i=>if i=m then b else D.wn i⟩,p,ct,by simp,by simp,⟨fun i o' hi hi' hio=>?_⟩,d4,?_,?_⟩
      · by_cases him:i=m
        · subst him
          rw[hom]at hio;cases hio
          simp only[Nat.le_refl,if_true,show ¬i+1<=i by omega,if_false]
          exact ⟨d1,by rw[d2];exact hle,by rw[d2];exact hcase⟩
        · simp only[if_neg him,if_neg (show ¬i<=m by omega),if_neg (show ¬i+1<=m by omega)]
          exact d3.step i o' (by omega) hi' hio
      · simp only[if_neg (show ¬all.length<=m by omega)]
        exact d5
      · rcases d6 with g | ⟨g1,g2,g3⟩
        · rcases hcs with e | ⟨e1,e2⟩
          · exact .inl (by rw[←e];exact g)
          · refine .inr ⟨by omega,by omega,fun o' t q x ho hop=>?_⟩
            subst e1
            rw[hom]at ho;cases ho
            simp only[Nat.le_refl,if_true]
            have:=e2 t q x hop
            rw[g]at this
            exact Option.some.inj this
        · refine .inr ⟨by omega,g2,fun o' t q x ho hop=>?_⟩
          simp only[if_neg (show ¬s<=m by omega)]
          exact g3 o' t q x ho hop
    unfold jt at h
    split at h
    · rename_i hma
      split at h
      · rename_i t ho
        unfold zhk at h
        split at h
        · rename_i kd k b z hl'
          exact key .any σ.nx true cs (Nat.le_refl _) (.inl ⟨hma,rfl,rfl,t,kd,k,b,z,ho,hl',h.1,h.2.1⟩) (.inl rfl) h.2.2
        · exact h.elim
      · exact h.elim
    · rename_i hma
      split at h
      · rename_i hms
        split at h
        · rename_i t q x ho
          unfold zgb at h
          split at h
          · rename_i L hL
            obtain ⟨h1,h2,h3,h4⟩:=h
            exact key .any σ.nx true (some (zx G σ.tm x).cells) (Nat.le_refl _) (.inr (.inl ⟨hma,hms,rfl,rfl,t,q,x,L,ho,hL,h1,h2,h3⟩)) (.inr ⟨hms,fun t' q' x' ho'=>by rw[ho]at ho';cases ho';rfl⟩) h4
          · exact h.elim
        · exact h.elim
      · rename_i hms
        obtain ⟨b,hg,h1,h2⟩:=qT.out h
        cases b with
        | true =>
          obtain ⟨c,nx',hp,hK⟩:=Jn (h1 rfl)
          exact key c nx' true cs hp.1 (.inr (.inr ⟨hma,hms,hg,fun _=>hp,(fun h=>by cases h)⟩)) (.inl rfl) hK
        | false=>exact key (.sc undef) σ.nx false cs (Nat.le_refl _) (.inr (.inr ⟨hma,hms,hg,(fun h=>by cases h),fun _=>⟨rfl,rfl⟩⟩)) (.inl rfl) (h2 rfl)
structure U8 (E:Ctx) (R:Env) (L:Loc) (p:Nat) (a:Act) (g:Nat) (vs:Array Value) (ty:TypeId):Prop where
 ptr:a.tmps.getD p undef = .pointer (some ⟨g,0,none⟩)
 heap:R.w.heap[g]?=some (.cells vs ty (0,0))
 turn:∀ o,R.M g o
 new:E.w0.heap.size<=g
 fgn:¬R.F g
 box:g∉L.β
 own:∀ id e k v,L.T id=some (e,k,v)->v.ownB≠some g
 one:∀ v∈vs.toList,v.oneCell'=true
theorem U8.step {R R':Env} {L L':Loc} {p nx nx' g:Nat} {a:Act} {vs:Array Value} {ty:TypeId} (h:U8 E R L p a g vs ty) (st:qp nx nx' R L R' L') {dst:Option Tmp} {v:Value} (hd:dst≠some p):U8 E R' L' p (a.put dst v) g vs ty:=by
 have hlt:=z7 h.heap
 refine ⟨?_,(st.below.block g hlt).trans h.heap,fun o=>(st.mt g o hlt).2 (h.turn o),h.new,by rw[st.fgn];exact h.fgn,by rw[st.box];exact h.box,fun id e k v ht hv=>?_,h.one⟩
 ·rw[←h.ptr]
  cases dst with
  | none=>rfl
  | some d =>
   have hne:d≠p:=fun e=>hd (by rw[e])
   simp[Act.put,Array.getD_eq_getD_getElem?,Array.getElem?_setIfInBounds_ne hne]
 ·rcases st.cases ht with hi | ⟨hi,hj⟩
  ·exact h.own id e k v hi hv
  ·have:=((st.new id e k v hi hj ht).block hv).1;omega
theorem qE.adopt {tm:List (Nat×C)} {nx lg p g:Nat} {R:Env} {L:Loc} {cs:List C} {vs:Array Value} {ty:TypeId} (h:qE G E ⟨tm,bx,nx,lg⟩ a R L) (hs:U8 E R L p a g vs ty) (hr:zu R L cs vs.toList) :
  qE G E ⟨(p,.ptr bx.length 0) :: tm,bx++[cs],nx,lg⟩ a R ⟨L.β++[g],L.T⟩:=by
 have hg:=h.good
 have hlen:=hg.fit.boxes.len
 have hlen:L.β.length=bx.length:=hlen
 have hle:zK L ⟨L.β++[g],L.T⟩:=⟨fun i b e=>by
  show (L.β++[g])[i]?=some b
  rw[List.getElem?_append_left (List.getElem?_eq_some_iff.1 e).1];exact e,fun _ _ e=>e⟩
 refine ⟨⟨⟨hg.fit.glob,⟨by simp[hlen],?_,fun i b cs' hi hc=>?_⟩,⟨fun id e k v ht=>?_,hg.fit.owns.apart⟩,hg.fit.base⟩,hg.os,hg.tape,hg.output,hg.size,hg.blk,hg.ext,?_,fun b hb=>?_,hg.flt,hg.fz,fun b hb=>?_,hg.fow,hg.free,hg.log⟩,h.size,h.df,fun t=>?_⟩
 ·show (L.β++[g]).Nodup
  rw[List.nodup_append]
  refine ⟨hg.fit.boxes.nodup,by simp,fun x hx y hy e=>?_⟩
  simp at hy;subst hy;subst e
  exact hs.box hx
 ·have hi:(L.β++[g])[i]?=some b:=hi
  rcases Nat.lt_or_ge i L.β.length with hl | hl
  ·rw[List.getElem?_append_left hl]at hi
   rw[List.getElem?_append_left (by omega)]at hc
   obtain ⟨us,ty',e1,e2,e3,e4⟩:=hg.fit.boxes.box i b cs' hi hc
   exact ⟨us,ty',e1,zu.ext (Ext.refl R) hle _ _ e2,e3,e4⟩
  ·rw[List.getElem?_append_right hl]at hi
   rw[List.getElem?_append_right (by omega)]at hc
   have h0:i-L.β.length=0:=by
    have:=(List.getElem?_eq_some_iff.1 hi).1
    simp at this;omega
   rw[h0]at hi
   rw[show i-bx.length=0 by omega]at hc
   simp at hi hc
   subst hi hc
   exact ⟨vs,ty,hs.heap,zu.ext (Ext.refl R) hle _ _ hr,hs.one,hs.turn⟩
 ·refine (hg.fit.owns.own id e k v ht).move fun g' hv q2 _ q7=>⟨q2,rfl,fun hx=>?_,fun _ h=>h⟩
  have hx:g'∈L.β++[g]:=hx
  rcases List.mem_append.1 hx with hx | hx
  ·exact q7 hx
  ·simp at hx;subst hx
   exact hs.own id e k v ht hv
 ·obtain ⟨more,hm⟩:=hg.box
  exact ⟨more++[g],by show L.β++[g]=_;rw[hm,List.append_assoc]⟩
 ·have hb:b∈L.β++[g]:=hb
  rcases List.mem_append.1 hb with hb | hb
  ·exact hg.tub b hb
  ·simp at hb;subst hb;exact .inl hs.new
 ·have hb:b∈L.β++[g]:=hb
  rcases List.mem_append.1 hb with hb | hb
  ·exact hg.fbx b hb
  ·simp at hb;subst hb;exact hs.fgn
 ·show Rep R _ (if t=p then _ else jy tm t) _
  split
  ·subst_vars
   exact Jh.2 ⟨g,by show (L.β++[g])[bx.length]?=_;rw[←hlen];simp,hs.ptr⟩
  ·exact Rep.ext (Ext.refl R) hle _ _ (h.tm t)
theorem Yf.fill {σ:St} {R:Env} {L:Loc} {p g:Nat} {vs us:Array Value} {ty:TypeId} (h:Yf G E σ R L) (hs:U8 E R L p a g vs ty):zbJ E.w0 E.ex R ⟨R.w.setRow g us,R.M,R.F⟩/\Yf G E σ ⟨R.w.setRow g us,R.M,R.F⟩ L:=by
 have hext:Ext R ⟨R.w.setRow g us,R.M,R.F⟩:=⟨fun b' o v hcell hm=>⟨by
  have hne:b'≠g:=fun e=>hm (e▸hs.turn o)
  rw[jJ R.w g us b' o hne];exact hcell,hm⟩,fun c cs ty fl hc hm=>⟨by rw[setRow_other R.w g c us fun e=>hm 0 (e▸hs.turn 0)];exact hc,hm⟩⟩
 have hn:zbJ E.w0 E.ex R ⟨R.w.setRow g us,R.M,R.F⟩:=⟨rfl,rfl,rfl,by rw[size_setRow];exact Nat.le_refl _,rfl,hext,fun k hk=>by
  by_cases hkb:k=g
  ·subst hkb;exact .inr ⟨.inl hs.new,hs.fgn⟩
  ·exact .inl ⟨setRow_other R.w g k us hkb,fun _=>Iff.rfl⟩⟩
 refine ⟨hn,h.move hn ⟨h.fit.glob.ext hext,⟨h.fit.boxes.len,h.fit.boxes.nodup,fun i b cs hi hc=>?_⟩,⟨fun id e k v ht=>?_,h.fit.owns.apart⟩,fun q hq=>?_⟩ ⟨[],by rw[List.append_nil],fun b hb=>by cases hb⟩ (fun id e k v b ht hv=>.inl ⟨id,e,k,v,ht,hv⟩) h.free⟩
 ·obtain ⟨ws,ty',e1,e2,e3,e4⟩:=h.fit.boxes.box i b cs hi hc
  have hne:b≠g:=fun e=>hs.box (e▸List.mem_of_getElem? hi)
  exact ⟨ws,ty',(setRow_other R.w g b us hne).trans e1,zu.ext hext (zK.refl _) _ _ e2,e3,e4⟩
 ·exact (h.fit.owns.own id e k v ht).move fun g' hv q2 _ q7=>⟨q2,setRow_other R.w g g' us fun e'=>hs.own id e k v ht (by rw[←e'];exact hv),q7,fun _ h=>h⟩
 ·exact h.fit.base q (by
   have hq:(R.w.setRow g us).heap.size<=q:=hq
   rwa [size_setRow]at hq)
theorem Z2.out {al st:Nat} (h:Z2 ops al st=true):∃ oa os p t x,ops.toList[al]?=some oa/\ops.toList[st]?=some os/\oa.dst=some p/\oa.op = .alloc t/\oa.guard=none/\os.dst=none/\os.op = .store t (.tmp p) x/\os.guard=none/\al<st /\
  inC (qe ops.toList ops.size) st al=true/\∀ (i:Nat) o,ops.toList[i]?=some o->i≠al->o.dst≠some p:=by
 unfold Z2 at h
 split at h
 ·rename_i p t ty1 pos1 af1 t' p' x ty2 pos2 af2 h1 h2
  simp only[Bool.and_eq_true,beq_iff_eq,decide_eq_true_eq]at h
  obtain ⟨⟨⟨⟨rfl,rfl⟩,h3⟩,h4⟩,h5⟩:=h
  refine ⟨_,_,p,t,x,by rw[Array.getElem?_toList];exact h1,by rw[Array.getElem?_toList];exact h2,rfl,rfl,rfl,rfl,rfl,rfl,h3,h4,fun i o ho hne hd=>?_⟩
  have:=List.all_eq_true.1 h5 (o,i) (List.mem_zipIdx_iff_getElem?.2 ho)
  simp[hd,hne]at this
 ·cases h
theorem k8 {l:Array Bool} {o:Oper} (h:o.guard=none) (f:Nat->Option Bool):Region.wanted o f=true:=by
 unfold Region.wanted;rw[h]
theorem zfl {t:TypeId} {o:Oper} {p g:Nat} {x:Operand} {R:Env} {L:Loc} {vs:Array Value} {ty:TypeId} {Ly:Lay} {c:C} (ho:o.op = .store t (.tmp p) x) (hl:lay P t=some Ly) (hs:U8 E R L p a g vs ty) (hx:Rep R L c (a.eval x)) (h1:c.partB=true) (h2:(c.cells.all C.cellB)=true) (h3:c.cells.length=Ly.size) (hsz:vs.size=Ly.size) :
  ∃ us:Array Value,(execOp a.eval o).run P R.w = .ok .skip (R.w.setRow g us)/\zu R L c.cells us.toList/\us.size=Ly.size/\∀ v∈us.toList,v.oneCell'=true:=by
 have hxc:=Xt hx h1
 have hxl:=zt hxc
 simp only[Array.length_toList]at hxl
 have hone:=YZ hxc h2
 have hst:=run_storeCells_at P g 0 ty (a.eval x).cells.toList 0 vs R.w hs.heap (by simp;omega) hone
 simp only[Nat.add_zero,Nat.zero_add]at hst
 have hpv:a.eval (.tmp p) = .pointer (some ⟨g,0,none⟩):=hs.ptr
 have hall:(vs.toList.take 0++(a.eval x).cells.toList++vs.toList.drop ((a.eval x).cells.toList.length))=(a.eval x).cells.toList:=by
  rw[List.take_zero,List.nil_append,List.drop_of_length_le (by simp;omega),List.append_nil]
 rw[hall]at hst
 refine ⟨(a.eval x).cells,?_,hxc,by omega,hone⟩
 have hszz:=qG hl R.w
 unfold execOp
 simp only[ho,hpv,Instr.storeAt,Instr.sureAddr,storeVar,Sem.run_bind,Sem.run_pure,Result.andThen_ok,hszz]
 rw[if_neg (by omega)]
 simp only[Sem.run_bind,hst,Result.andThen_ok,Sem.run_pure]
theorem zgZ {r:Option Nat} {n lg al st p:Nat} {ct:List C} {Q:Exit->Act->World->Prop} {D:Ya} (hN:∀ o∈ops.toList,Yc E.N o.dst) (hok:Jo ops=true) (hlo:Z2 ops al st=true) (hc:Nf P G bx ops al st ops.toList 0 ops.toList.length D)
  (hp:(ops[al]?).bind (·.dst)=some p) (hct:∀ o t q x,ops.toList[st]?=some o->o.op = .store t q x->ct=(zx G (D.T st) x).cells)
  (hEnd:∀ (a:Act) (R:Env) (L:Loc),qE G E ⟨(p,.ptr bx.length 0) :: D.T ops.toList.length,bx++[ct],D.X ops.toList.length,lg⟩ a R L->Q .normal a R.w):∀ (fuel:Nat) (listed:Array Bool) (a:Act) (R:Env) (L:Loc),listed.size=ops.size->listed.toList.count false<=fuel ->
  qz ops.toList (fun i=>listed.getD i false)->(∀ i,ops.size<=i->listed.getD i false=false)->YN G E bx lg ops.toList 0 ops.toList.length D (fun i=>listed.getD i false) a R L ->
  (listed.getD al false=true->∃ g vs ty,U8 E R L p a g vs ty/\(∀ kd k b z t,lay P t=some ⟨kd,k,b,z⟩->(∃ o,ops.toList[al]?=some o/\o.op = .alloc t)->vs.size=k)/\(listed.getD st false=true->zu R L ct vs.toList))->wpAnyIn (Fl r) n P .any ops Q fuel listed a R.w:=by
 obtain ⟨oa,os,p',t,x,la1,ls1,la2,la3,la4,ls2,ls3,ls4,hlt,hcl0,honly⟩:=Z2.out hlo
 have hpp:p'=p:=by
  have:ops[al]?=some oa:=by rw[←Array.getElem?_toList];exact la1
  rw[this]at hp
  have hp:oa.dst=some p:=hp
  rw[la2]at hp;exact Option.some.inj hp
 subst hpp
 have hl:ops.toList.length<=ops.toList.length:=Nat.le_refl _
 have done:∀ (listed:Array Bool) (a:Act) (R:Env) (L:Loc),listed.size=ops.size->(∀ i,i<ops.size->listed.getD i false=true)->YN G E bx lg ops.toList 0 ops.toList.length D (fun i=>listed.getD i false) a R L ->
   (listed.getD al false=true->∃ g vs ty,U8 E R L p' a g vs ty/\(∀ kd k b z t,lay P t=some ⟨kd,k,b,z⟩->(∃ o,ops.toList[al]?=some o/\o.op = .alloc t)->vs.size=k)/\(listed.getD st false=true->zu R L ct vs.toList))->Q .normal a R.w:=fun listed a R L hsz h1 h hside=>by
  have hsl:st<ops.size:=by simpa using (List.getElem?_eq_some_iff.1 ls1).1
  obtain ⟨g,vs,ty,q1,_,q2⟩:=hside (h1 al (by omega))
  refine hEnd a R ⟨L.β++[g],L.T⟩ (qE.adopt (tm:=D.T ops.toList.length) (nx:=D.X ops.toList.length) (lg:=lg) (cs:=ct) (p:=p') (g:=g) (vs:=vs) (ty:=ty) ⟨{ h.good with },h.size,h.df,fun t=>?_⟩ q1 (q2 (h1 st hsl)))
  have ht:=h.tm t
  rw[qw (D':=fun j=>decide (0<=j)) ops.toList.length fun j hj _=>by rw[h1 j (by simpa using hj)];simp]at ht
  show Rep R L (jy (D.T ops.toList.length) t) _
  rw[Yv hl hc.skel t _ (Nat.zero_le _) (Nat.le_refl _)]
  exact ht
 intro fuel
 induction fuel with
 | zero =>
  intro listed a R L hsz hcnt hcl h2 h hside
  have hall:∀ i,i<ops.size->listed.getD i false=true:=fun i hi=>by
   cases hq:listed.getD i false with
   | true=>rfl
   | false =>
    have:listed.toList[i]?=some false:=by
     rw[Array.getD_eq_getD_getElem?,Array.getElem?_eq_getElem (by omega)]at hq
     simp[show i<listed.size by omega];simpa using hq
    have hpos:0<listed.toList.count false:=List.count_pos_iff.2 (List.mem_of_getElem? this)
    omega
  have hre:Region.ready .any ops listed = []:=by
   cases hq:Region.ready .any ops listed with
   | nil=>rfl
   | cons i rest =>
    obtain ⟨o,ho,h3,_⟩:=qV (ops:=ops) (listed:=listed) (i:=i) (by rw[hq];simp)
    have hio:i<ops.size:=by simpa using (List.getElem?_eq_some_iff.1 ho).1
    have:=(qn hsz hio h3).1
    rw[hall i hio]at this;cases this
  exact ⟨hre,done listed a R L hsz hall h hside⟩
 | succ fuel ih =>
  intro listed a R L hsz hcnt hcl h2 h hside
  refine ⟨fun hr=>done listed a R L hsz (JR hok hsz hr) h hside,fun i hi=>?_⟩
  obtain ⟨o,ho,hl0,hpre⟩:=qV hi
  have hio:i<ops.size:=by simpa using (List.getElem?_eq_some_iff.1 ho).1
  obtain ⟨hlf,hil'⟩:=qn hsz hio hl0
  have hil:i<listed.size:=by omega
  have hcnt':(listed.setIfInBounds i true).toList.count false<=fuel:=by
   have:=jr hil'
   rw[Array.toList_setIfInBounds];omega
  have hset:∀ j,(listed.setIfInBounds i true).getD j false=(listed.getD j false||j==i):=fun j=>congrFun (qy hil) j
  have next:∀ (a':Act) (R':Env) (L':Loc),YN G E bx lg ops.toList 0 ops.toList.length D (fun x=>listed.getD x false||x==i) a' R' L' ->
    ((listed.getD al false||al==i)=true->∃ g vs ty,U8 E R' L' p' a' g vs ty/\(∀ kd k b z t,lay P t=some ⟨kd,k,b,z⟩->(∃ o,ops.toList[al]?=some o/\o.op = .alloc t)->vs.size=k)/\((listed.getD st false||st==i)=true->zu R' L' ct vs.toList)) ->
    wpAnyIn (Fl r) n P .any ops Q fuel (listed.setIfInBounds i true) a' R'.w:=fun a' R' L' hi' hs' =>
   ih _ _ R' L' (by simpa using hsz) hcnt' (Ja hil hcl ho hpre) (fun j hj=>by rw[hset,h2 j hj];simp;omega) (by rw[qy hil];exact hi') (by rw[hset,hset];exact hs')
  obtain ⟨c1,c2,c3⟩:=hc.step i o (Nat.zero_le _) (by simpa using hio) ho
  have hmi':i<ops.toList.length:=by simpa using hio
  have hev:=h.ev hl hc.skel hok hcl (Nat.zero_le _) hmi' ho hlf hpre
  have hop:∀ x∈o.op.operands,Rep R L (zx G (D.T i) x) (a.eval x):=fun x hx=>by
   cases x with
   | tmp t =>
    refine hev t ?_
    unfold qR Oper.looksAt
    exact List.mem_append_left _ (List.mem_append_left _ (List.mem_filterMap.2 ⟨.tmp t,by simpa using hx,rfl⟩))
   | const v=>exact jh R L v
   | global g =>
    simp only[zx]
    cases hg:G g with
    | none=>unfold Rep;trivial
    | some cs=>exact jZ.2 ⟨g,0,rfl,(h.good.fit.glob g cs hg).1⟩
   | func f=>exact JH.2 ⟨#[],#[],rfl,zj.2 rfl,zj.2 rfl⟩
  have hoa:ops[i]?=some o:=by simpa using ho
  unfold wpOpIn
  rw[hoa]
  simp only
  rcases c3 with ⟨hia,hca,hxa,t1,kd,k,b,z,hot,hly,hzk,hz1⟩ | ⟨hna,his,hca,hxs,t1,q,x1,Ly,hot,hly,h1,h2',h3⟩ | ⟨hna,hns,c3,c4,c5⟩
  ·-- the variable is laid
   subst hia
   rw[la1]at ho;cases ho
   rw[la3]at hot;cases hot
   have hw:Region.wanted oa (yielded ops a.tmps)=true:=k8 (l:=listed) la4 _
   simp only[hw,if_true]
   obtain ⟨ti,d,hti,htd,_,_,_,hz⟩:=qf hly
   cases hiz:ti.zero with
   | none=>simp[hiz]at hz
   | some zv =>
    simp only[hiz,Option.map_some,Option.some.injEq]at hz
    subst hz
    have hzz:(zeroValue t).run P R.w = .ok zv R.w:=by simp[zeroValue,typeInfo,hti,hiz]
    refine jm (je.value (w':=R.w.alloc (.cells zv.cells t (0,0))) (v:=.pointer (some ⟨R.w.heap.size,0,none⟩)) (by
     unfold execOp
     simp[la3,Instr.alloc,hzz,newVar,newRow]) ?_)
    have hbel:Below R.w.heap.size R.w (R.w.alloc (.cells zv.cells t (0,0))):=(Below.refl _ _).alloc (Nat.le_refl _) _
    have hmt:∀ b o,b<R.w.heap.size->(((b<R.w.heap.size/\R.M b o)∨b=R.w.heap.size)↔R.M b o):=fun b o hlt=>⟨fun h'=>by rcases h' with h' | h';exact h'.2;omega,fun h'=>.inl ⟨hlt,h'⟩⟩
    have stp:qp (D.X i) (D.X (i+1)) R L ⟨R.w.alloc (.cells zv.cells t (0,0)),fun b o=>(b<R.w.heap.size/\R.M b o)∨b=R.w.heap.size,R.F⟩ L:=by
     rw[hxa]
     exact ⟨hbel,rfl,rfl,hmt,fun _ _=>rfl,fun id e k v h h'=>by omega,fun id id' e k v e' k' v' b h h'=>by omega⟩
    have hst0:listed.getD st false=false:=by
     cases hq:listed.getD st false with
     | false=>rfl
     | true =>
      have:=jT hcl _ st i hcl0 hq
      rw[this]at hlf;cases hlf
    refine next _ _ L (h.put hl hc.skel hok hcl (Nat.zero_le _) hmi' la1 hlf hpre (hN _ (List.mem_of_getElem? la1)) stp (by rw[hca];unfold Rep;trivial)) fun _=>⟨R.w.heap.size,zv.cells,t,⟨?_,heap_alloc_new _ _,fun o=>.inr rfl,h.good.size,fun hF=>?_,fun hb=>?_,fun id e k v ht hv=>?_,fun v hv=>List.all_eq_true.1 hz1 v hv⟩,fun kd' k' b' z' t' hl' ⟨o',ho',hop'⟩=>?_,fun hst=>?_⟩
    ·have hd:=hN _ (List.mem_of_getElem? la1)
     rw[la2]at hd ⊢
     have hlt2:p'<a.tmps.size:=by rw[h.size];exact hd
     simp[Act.put,Array.getD_eq_getD_getElem?,hlt2]
    ·have:=h.good.flt _ hF;omega
    ·have:=h.good.fit.β_lt _ hb;omega
    ·have:=((h.good.fit.owns.own id e k v ht).block hv).2.1;omega
    ·rw[la1]at ho';cases ho'
     rw[la3]at hop';cases hop'
     rw[hly]at hl';cases hl'
     simpa using hzk
    ·rw[hst0]at hst
     have:st=i:=by simpa using hst
     omega
  ·-- the variable is filled
   subst his
   rw[ls1]at ho;cases ho
   have hot0:=hot
   rw[ls3]at hot;cases hot
   have hw:Region.wanted os (yielded ops a.tmps)=true:=k8 (l:=listed) ls4 _
   simp only[hw,if_true]
   have hal:listed.getD al false=true:=by
    have hS':qz ops.toList (fun x=>listed.getD x false||x==i):=fun k q hq hk e he hb=>by
     simp only[Bool.or_eq_true,beq_iff_eq]at hk ⊢
     rcases hk with hk | hk
     ·exact .inl (hcl k q hq hk e he hb)
     ·subst hk;rw[ls1]at hq;cases hq
      exact .inl (hpre e he hb)
    have:=jT hS' _ i al hcl0 (by simp)
    simp only[Bool.or_eq_true,beq_iff_eq]at this
    exact this.resolve_right (by omega)
   obtain ⟨g,vs,ty,q1,q2,_⟩:=hside hal
   have hsize:vs.size=Ly.size:=q2 _ _ _ _ t hly ⟨oa,la1,la3⟩
   obtain ⟨us,u1,u2,u3,u4⟩:=zfl ls3 hly q1 (hop x (by rw[ls3];simp[Op.operands])) h1 h2' h3 hsize
   obtain ⟨hn,hgood⟩:=h.good.fill (us:=us) q1
   have hput:∀ v,a.put os.dst v=a:=fun v=>by rw[ls2];rfl
   refine jm ?_
   unfold je
   rw[u1]
   show wpAnyIn _ _ _ _ _ _ _ _ (a.put os.dst undef) _
   rw[hput]
   have hs':U8 E ⟨R.w.setRow g us,R.M,R.F⟩ L p' a g us ty:=⟨q1.ptr,setRow_heap R.w g vs us ty (0,0) q1.heap,q1.turn,q1.new,q1.fgn,q1.box,q1.own,u4⟩
   refine next a ⟨R.w.setRow g us,R.M,R.F⟩ L ⟨hgood,fun id hid hfr=>h.free id hid fun j hmj hj hsj=>hfr j hmj hj (by simp[hsj]),h.size,?_,fun t=>?_⟩ fun _=>⟨g,us,ty,hs',fun kd' k' b' z' t' hl' ⟨o',ho',hop'⟩=>?_,fun _=>?_⟩
   ·obtain ⟨l,e,hl',hd⟩:=h.df
    refine ⟨l,e,hl',fun d hdm=>?_⟩
    obtain ⟨g1,g2,g3⟩:=hd d hdm
    refine ⟨?_,g2,g3⟩
    have hne:d≠g:=fun e=>by rw[e,q1.heap]at g1;cases g1
    exact (setRow_other R.w g d us hne).trans g1
   ·have hold:=Rep.ext hn.ext (zK.refl _) _ _ (h.tm t)
    have e1:val (D.T 0) ops.toList D.c (fun j=>decide (0<=j)&&(listed.getD j false||j==i)) ops.toList.length t=val (D.T 0) ops.toList D.c (fun j=>decide (0<=j)&&listed.getD j false) ops.toList.length t:=qw _ fun j hj hdj=>by
     have hji:j≠i:=fun e=>by
      subst e;rw[ls1]at hdj
      have hdj:os.dst=some t:=hdj
      rw[ls2]at hdj;cases hdj
     have hj2:(j==i)=false:=by simpa using hji
     show (decide (0<=j)&&(listed.getD j false||j==i))=_
     rw[hj2,Bool.or_false]
    rw[e1];exact hold
   ·rw[u3,←hsize]
    exact q2 kd' k' b' z' t' hl' ⟨o',ho',hop'⟩
   ·rw[hct os t (.tmp p') x ls1 ls3]
    exact zu.ext hn.ext (zK.refl _) _ _ u2
  ·-- any other one
   have hdp:o.dst≠some p':=honly i o ho hna
   have hstep:∀ (v:Value) (R':Env) (L':Loc),qp (D.X i) (D.X (i+1)) R L R' L'->Rep R' L' (D.c i) v->wpAnyIn (Fl r) n P .any ops Q fuel (listed.setIfInBounds i true) (a.put o.dst v) R'.w:=fun v R' L' stp hv =>
    next _ R' L' (h.put hl hc.skel hok hcl (Nat.zero_le _) hmi' ho hlf hpre (hN o (List.mem_of_getElem? ho)) stp hv) fun hal=>by
     have hal':listed.getD al false=true:=by
      simp only[Bool.or_eq_true,beq_iff_eq]at hal
      exact hal.resolve_right fun e=>hna e.symm
     obtain ⟨g,vs,ty,q1,q2,q3⟩:=hside hal'
     refine ⟨g,vs,ty,q1.step stp hdp,q2,fun hst=>?_⟩
     have hst':listed.getD st false=true:=by
      simp only[Bool.or_eq_true,beq_iff_eq]at hst
      exact hst.resolve_right fun e=>hns e.symm
     exact zu.ext stp.ext (stp.le (h.freeAt hl hc.skel (Nat.zero_le _) hmi' hlf)) _ _ (q3 hst')
   have hguard:Region.wanted o (yielded ops a.tmps)=D.wn i:=jC (tm:=D.T i) rfl c3 fun j want d hg hd=>by
    have ht:d∈qR ops o:=by
     unfold qR Oper.looksAt
     rw[hg]
     simp[hd]
    refine ⟨?_,hev d ht⟩
    rw[h.size]
    cases hj:ops[j]? with
    | none=>rw[hj]at hd;cases hd
    | some o' =>
     rw[hj]at hd
     have hd':o'.dst=some d:=hd
     have:=hN o' (by rw[Array.mem_toList_iff];exact Array.mem_of_getElem? hj)
     rw[hd']at this;exact this
   simp only[hguard]
   cases hw:D.wn i with
   | true =>
    simp only[if_true]
    refine jm ?_
    refine ((c4 hw).2 _ R L a.eval h.good.fit (h.freeAt hl hc.skel (Nat.zero_le _) hmi' hlf) fun x=>?_).mono fun v w' ⟨R',L',hw',stp,hv⟩=>?_
    ·unfold YL
     split
     ·rename_i hx;exact hop x hx
     ·unfold Rep;trivial
    ·rw[←hw'];exact hstep v R' L' stp hv
   | false =>
    simp only[Bool.false_eq_true,if_false]
    refine ⟨fun f _=>trivial,?_⟩
    obtain ⟨d1,d2⟩:=c5 hw
    have stp:qp (D.X i) (D.X (i+1)) R L R L:=by rw[d2];exact qp.refl _ _ _
    exact hstep undef R L stp (by rw[d1];exact zo.2 rfl)
theorem uE {r:Option Nat} {n id al st:Nat} {Q:Exit->Act->World->Prop} {K:St->Prop} {w:World} (hm:P.follows .mixedOrders=true) (hN:∀ o∈ops.toList,Yc E.N o.dst) (hok:Jo ops=true) (hlo:Z2 ops al st=true)
  (h:jt P G ops al st ops.toList 0 none σ K) (hI:Inv G E σ a w) (hQ:∀ a' w' σ',K σ'->Inv G E σ' a' w'->Q .normal a' w'):(Code.region id ops true).wpIn (Fl r) n P Q a w:=by
 obtain ⟨R,L,rfl,hI⟩:=hI
 refine wpIn_region_any hm ?_
 let R':Env:=⟨{ R.w with drawn:=R.w.drawn+1 },R.M,R.F⟩
 have hext:Ext R R':=⟨fun b o v h1 h2=>⟨h1,h2⟩,fun _ _ _ _ h1 h2=>⟨h1,h2⟩⟩
 have hnear:Gy E.w0 E.ex R R':=⟨rfl,rfl,rfl,Nat.le_refl _,rfl,hext,fun b _=>.inl ⟨rfl,fun _=>Iff.rfl⟩⟩
 have hg:=hI.good
 have hinv:qE G E σ a R' L:=by
  refine ⟨hg.move hnear.nigh ⟨hg.fit.glob.ext hext,⟨hg.fit.boxes.len,hg.fit.boxes.nodup,fun i b cs hi hc=>?_⟩,⟨fun id e k v ht=>?_,hg.fit.owns.apart⟩,hg.fit.base⟩ ⟨[],by rw[List.append_nil],fun b hb=>by cases hb⟩ (fun id e k v b ht hv=>.inl ⟨id,e,k,v,ht,hv⟩) hg.free,hI.size,hI.df.near hnear,fun t=>Rep.ext hext (zK.refl _) _ _ (hI.tm t)⟩
  ·obtain ⟨vs,ty,e1,e2,e3,e4⟩:=hg.fit.boxes.box i b cs hi hc
   exact ⟨vs,ty,e1,zu.ext hext (zK.refl _) _ _ e2,e3,e4⟩
  ·exact (hg.fit.owns.own id e k v ht).move fun g _ q2 _ q7=>⟨q2,rfl,q7,fun _ h=>h⟩
 have hlist:∀ i,(Array.replicate ops.size false).getD i false=false:=fun i=>by
  rw[Array.getD_eq_getD_getElem?,Array.getElem?_replicate];split<;>rfl
 obtain ⟨D,p,ct,d1,d2,d3,d4,d5,d6⟩:=kz _ 0 none σ rfl (Nat.zero_le _) h
 have hct:∀ o t q x,ops.toList[st]?=some o->o.op = .store t q x->ct=(zx G (D.T st) x).cells:=by
  rcases d6 with g | ⟨_,_,g⟩
  ·cases g
  ·exact g
 refine zgZ (lg:=σ.lg) (D:=D) hN hok hlo d3 d4 hct (fun a1 R1 L1 h1=>hQ a1 R1.w _ d5 ⟨R1,L1,rfl,h1⟩) ops.size _ a R' L (by simp) ?_ (fun i o hi h=>?_) (fun i _=>hlist i) ?_ (fun h=>by rw[hlist]at h;cases h)
 ·rw[Array.toList_replicate,List.count_replicate_self];exact Nat.le_refl _
 ·have h:(Array.replicate ops.size false).getD i false=true:=h
  rw[hlist]at h;cases h
 ·have hx:=QS (Nat.le_refl _) d3.skel 0 ops.toList.length (Nat.le_refl _) (Nat.zero_le _) (Nat.le_refl _)
  refine ⟨{ hinv.good with free:=fun id hid=>hinv.good.free id (by rw[d2]at hx;exact Nat.le_trans hx hid) },fun id hid _=>hinv.good.free id (by rw[d2]at hid;exact hid),hinv.size,hinv.df,fun t=>?_⟩
  rw[qw (D':=fun _=>false) _ fun j _ _=>by simp[hlist j],ju 0 _ (Nat.zero_le _) fun _ _ _ _=>rfl]
  show Rep R' L (jy (D.T 0) t) _
  rw[d1];exact hinv.tm t
end
end
section
open Go.RowKit
section
variable {P:Program} {G:zm} {E:Ctx} {σ:St} {a:Act} {N p:Nat} {bx:List (List C)} {ops:Array Oper}
def zfN (T0:List (Nat×C)) (l:List Oper) (c:Nat->C) (D:Nat->Bool):Nat->List (Nat×C)
 | 0=>T0
 | m+1=>if D m=true then jU (zfN T0 l c D m) ((l[m]?).bind (·.dst)) (c m) else zfN T0 l c D m
theorem Jw (T0:List (Nat×C)) (l:List Oper) (c:Nat->C) (D:Nat->Bool) (t:Nat):∀ n,jy (zfN T0 l c D n) t=val T0 l c D n t
 | 0=>rfl
 | m+1=>by
  unfold zfN val
  cases hD:D m with
  | false=>simp only[Bool.false_eq_true,if_false,false_and];exact Jw T0 l c D t m
  | true =>
   simp only[if_true,true_and]
   cases hd:(l[m]?).bind (·.dst) with
   | none=>simp only[jU,reduceCtorEq,if_false];exact Jw T0 l c D t m
   | some d =>
    simp only[jU,jy,Option.some.injEq]
    by_cases h:t=d
    ·rw[if_pos h,if_pos h.symm]
    ·rw[if_neg h,if_neg fun e=>h e.symm];exact Jw T0 l c D t m
theorem YN.toV {D:Ya} {S:Nat->Bool} {m m' lg:Nat} {R:Env} {L:Loc} {l:List Oper} (h:YN G E bx lg l m m' D S a R L):qE G E ⟨zfN (D.T m) l D.c (fun j=>decide (m<=j)&&S j) l.length,bx,D.X m',lg⟩ a R L:=
 ⟨{ h.good with },h.size,h.df,fun t=>by rw[Jw];exact h.tm t⟩
theorem zjm {D:Ya} {S:Nat->Bool} {m m':Nat} (hl:m'<=ops.toList.length) (hc:Hg ops.toList m m' D) (hok:Jo ops=true) (hS:qz ops.toList S) {i:Nat} {o:Oper} (hmi:m<=i) (hmi':i<=m') (ho:ops.toList[i]?=some o) (hi:S i=false)
  (hpre:∀ e∈o.after.toList,Region.binds .any e=true->S e.on=true):∀ t∈qR ops o,val (D.T m) ops.toList D.c (fun j=>decide (m<=j)&&S j) ops.toList.length t=jy (D.T i) t:=fun t ht=>by
 have hlt:i<ops.toList.length:=(List.getElem?_eq_some_iff.1 ho).1
 have e1:val (D.T m) ops.toList D.c (fun j=>decide (m<=j)&&S j) ops.toList.length t=val (D.T m) ops.toList D.c (fun j=>decide (m<=j)&&S j) i t:=by
  refine ju i _ (by omega) fun j hj hj' hd=>?_
  simp only[Bool.and_eq_false_iff]
  by_cases hne:j=i
  ·rw[hne];exact .inr hi
  ·rw[zaB hok hS ho hi hpre hd ht hne];exact .inr (decide_eq_false (by omega))
 have e2:val (D.T m) ops.toList D.c (fun j=>decide (m<=j)&&S j) i t=val (D.T m) ops.toList D.c (fun j=>decide (m<=j)) i t:=qw i fun j hj hd=>by
  rw[zaB hok hS ho hi hpre hd ht (by omega),decide_eq_true hj,Bool.and_true]
 rw[e1,e2,←Yv hl hc t i hmi hmi']
theorem GU {t:TypeId} {p c:C} {tm1 tm2:List (Nat×C)} {nx1 nx2 lg:Nat} {K:C->St->Prop} (h:Jj P t p c ⟨tm1,bx,nx1,lg⟩ K) :
  ∃ bx2,K .any ⟨tm1,bx2,nx1,lg⟩/\Jj P t p c ⟨tm2,bx,nx2,lg⟩ fun c' σ'=>c' = .any/\σ'=⟨tm2,bx2,nx2,lg⟩:=by
 unfold Jj at h ⊢
 split at h
 ·rename_i Ly i off hl
  split at h
  ·rename_i cs hcs
   obtain ⟨h1,h2,h3,h4,hK⟩:=h
   refine ⟨_,hK,?_⟩
   have hcs':(St.mk tm2 bx nx2 lg).bx[i]?=some cs:=hcs
   rw[hcs']
   exact ⟨h1,h2,h3,h4,rfl,rfl⟩
  ·exact h.elim
 ·exact h.elim
theorem yA {t:TypeId} {p c:C} {K K':C->St->Prop} (h:Jj P t p c σ K) (hk:∀ c' σ',K c' σ'->K' c' σ'):Jj P t p c σ K':=by
 unfold Jj at h ⊢
 split at h
 ·split at h
  ·rename_i cs hcs
   obtain ⟨h1,h2,h3,h4,hK⟩:=h
   exact ⟨h1,h2,h3,h4,hk _ _ hK⟩
  ·exact h.elim
 ·exact h.elim
theorem YN.store {D:Ya} {S:Nat->Bool} {m m' s lg n1:Nat} {R:Env} {L:Loc} (hl:m'<=ops.toList.length) (hc:Hg ops.toList m m' D) (hok:Jo ops=true) (hS:qz ops.toList S) (h:YN G E bx lg ops.toList m m' D S a R L) {o:Oper} {t:TypeId} {q x:Operand}
  (hmi:m<=s) (hmi':s<=m') (ho:ops.toList[s]?=some o) (hop:o.op = .store t q x) (hd:o.dst=none) (hi:S s=false) (hpre:∀ e∈o.after.toList,Region.binds .any e=true->S e.on=true) {K:C->St->Prop}
  (hK:Jj P t (zx G (D.T s) q) (zx G (D.T s) x) ⟨D.T s,bx,n1,lg⟩ K) :
  ∃ bx2,K .any ⟨D.T s,bx2,n1,lg⟩/\je P o a.eval R.w fun v w'=>∃ R',R'.w=w'/\YN G E bx2 lg ops.toList m m' D (fun y=>S y||y==s) (a.put o.dst v) R' L:=by
 have hev:=zjm hl hc hok hS hmi hmi' ho hi hpre
 have hop2:∀ y,y∈o.op.operands->zx G (zfN (D.T m) ops.toList D.c (fun j=>decide (m<=j)&&S j) ops.toList.length) y=zx G (D.T s) y:=fun y hy=>by
  cases y with
  | tmp u =>
   show jy _ u=jy _ u
   rw[Jw]
   refine hev u ?_
   unfold qR Oper.looksAt
   exact List.mem_append_left _ (List.mem_append_left _ (List.mem_filterMap.2 ⟨.tmp u,by simpa using hy,rfl⟩))
  | const v=>rfl
  | global g=>rfl
  | func f=>rfl
 have hq:=hop2 q (by rw[hop];simp[Op.operands])
 have hx:=hop2 x (by rw[hop];simp[Op.operands])
 rw[←hq,←hx]at hK
 obtain ⟨bx2,hK1,hK2⟩:=GU (tm2:=zfN (D.T m) ops.toList D.c (fun j=>decide (m<=j)&&S j) ops.toList.length) (nx2:=D.X m') hK
 refine ⟨bx2,hK1,(XE (σ:=⟨zfN (D.T m) ops.toList D.c (fun j=>decide (m<=j)&&S j) ops.toList.length,bx,D.X m',lg⟩) hop h.toV hK2).mono fun v w'=>?_⟩
 rintro ⟨c,σ',R',rfl,hI,hext,hr,rfl,rfl⟩
 refine ⟨R',rfl,{ hI.good with },fun id h1 h2=>h.free id h1 fun i g1 g2 g3=>h2 i g1 g2 (by rw[g3];rfl),?_,?_,fun u=>?_⟩
 ·rw[hd];exact hI.size
 ·rw[hd];exact hI.df
 ·have h1:=hI.tm u
  rw[Jw]at h1
  have e:val (D.T m) ops.toList D.c (fun j=>decide (m<=j)&&(S j||j==s)) ops.toList.length u=val (D.T m) ops.toList D.c (fun j=>decide (m<=j)&&S j) ops.toList.length u:=qw _ fun j hj hdj=>by
   have hne:j≠s:=fun e=>by
    subst e
    rw[ho]at hdj
    simp[hd]at hdj
   have:(j==s)=false:=by simpa using hne
   rw[this,Bool.or_false]
  rw[e,hd]
  exact h1
theorem My {r:Option Nat} {n s lg fuel:Nat} {Q:Exit->Act->World->Prop} {D:Ya} (hN:∀ o∈ops.toList,Yc E.N o.dst) (hok:Jo ops=true) (hc:Qe P G bx ops ops.toList 0 s D) (hsk:Hg ops.toList 0 (s+1) D) (hl:s+1<=ops.toList.length)
  {listed:Array Bool} {R:Env} {L:Loc} (hcl:qz ops.toList (fun i=>listed.getD i false)) (h:YN G E bx lg ops.toList 0 (s+1) D (fun i=>listed.getD i false) a R L) {i:Nat} {o:Oper} (his:i<s) (ho:ops.toList[i]?=some o) (hlf:listed.getD i false=false)
  (hpre:∀ e∈o.after.toList,Region.binds .any e=true->listed.getD e.on false=true)
  (hnext:∀ (v:Value) (R':Env) (L':Loc),YN G E bx lg ops.toList 0 (s+1) D (fun x=>listed.getD x false||x==i) (a.put o.dst v) R' L'->wpAnyIn (Fl r) n P .any ops Q fuel (listed.setIfInBounds i true) (a.put o.dst v) R'.w) :
  wpOpIn (Fl r) n P ops Q i (wpAnyIn (Fl r) n P .any ops Q fuel (listed.setIfInBounds i true)) a R.w:=by
 have next:∀ (v:Value) (R':Env) (L':Loc),qp (D.X i) (D.X (i+1)) R L R' L'->Rep R' L' (D.c i) v->wpAnyIn (Fl r) n P .any ops Q fuel (listed.setIfInBounds i true) (a.put o.dst v) R'.w:=fun v R' L' st hv =>
  hnext v R' L' (h.put hl hsk hok hcl (Nat.zero_le _) (Nat.lt_succ_of_lt his) ho hlf hpre (hN o (List.mem_of_getElem? ho)) st hv)
 obtain ⟨c1,c2,c3,c4,c5⟩:=hc.step i o (Nat.zero_le _) his ho
 have hev:=h.ev hl hsk hok hcl (Nat.zero_le _) (Nat.lt_succ_of_lt his) ho hlf hpre
 have hguard:Region.wanted o (yielded ops a.tmps)=D.wn i:=jC (tm:=D.T i) rfl c3 fun j want d hg hd=>by
  have ht:d∈qR ops o:=by
   unfold qR Oper.looksAt
   rw[hg]
   simp[hd]
  refine ⟨?_,hev d ht⟩
  rw[h.size]
  cases hj:ops[j]? with
  | none=>rw[hj]at hd;cases hd
  | some o' =>
   rw[hj]at hd
   have hd':o'.dst=some d:=hd
   have:=hN o' (by rw[Array.mem_toList_iff];exact Array.mem_of_getElem? hj)
   rw[hd']at this;exact this
 unfold wpOpIn
 have hoa:ops[i]?=some o:=by simpa using ho
 rw[hoa]
 simp only[hguard]
 cases hw:D.wn i with
 | true =>
  simp only[if_true]
  refine jm ?_
  refine ((c4 hw).2 _ R L a.eval h.good.fit (h.freeAt hl hsk (Nat.zero_le _) (Nat.lt_succ_of_lt his) hlf) fun x=>?_).mono fun v w' ⟨R',L',hw',st,hv⟩=>?_
  ·unfold YL
   split
   ·rename_i hx
    cases x with
    | tmp t =>
     refine hev t ?_
     unfold qR Oper.looksAt
     exact List.mem_append_left _ (List.mem_append_left _ (List.mem_filterMap.2 ⟨.tmp t,by simpa using hx,rfl⟩))
    | const v=>exact jh R L v
    | global g =>
     simp only[zx]
     cases hg:G g with
     | none=>unfold Rep;trivial
     | some cs=>exact jZ.2 ⟨g,0,rfl,(h.good.fit.glob g cs hg).1⟩
    | func f=>exact JH.2 ⟨#[],#[],rfl,zj.2 rfl,zj.2 rfl⟩
   ·unfold Rep;trivial
  ·rw[←hw'];exact next v R' L' st hv
 | false =>
  simp only[Bool.false_eq_true,if_false]
  refine ⟨fun f _=>trivial,?_⟩
  obtain ⟨d1,d2⟩:=c5 hw
  have st:qp (D.X i) (D.X (i+1)) R L R L:=by rw[d2];exact qp.refl _ _ _
  exact next undef R L st (by rw[d1];exact zo.2 rfl)
theorem zdP {r:Option Nat} {n s lg:Nat} {bx2:List (List C)} {Q:Exit->Act->World->Prop} {D:Ya} (hN:∀ o∈ops.toList,Yc E.N o.dst) (hok:Jo ops=true) (hc:Qe P G bx ops ops.toList 0 s D) (hc2:Qe P G bx2 ops ops.toList 0 s D) (hsk:Hg ops.toList 0 (s+1) D) (hl:s+1<=ops.toList.length)
  {os:Oper} {t:TypeId} {q x:Operand} (hos:ops.toList[s]?=some os) (hop:os.op = .store t q x) (hod:os.dst=none) (hog:os.guard=none)
  (hSt:Jj P t (zx G (D.T s) q) (zx G (D.T s) x) ⟨D.T s,bx,D.X s,lg⟩ fun _ σ'=>σ'=⟨D.T s,bx2,D.X s,lg⟩)
  (hrdy:∀ (listed:Array Bool) (i:Nat) (o:Oper),s+1<=i->i<ops.size->qz ops.toList (fun i=>listed.getD i false)->ops.toList[i]?=some o->(∀ e∈o.after.toList,Region.binds .any e=true->listed.getD e.on false=true)->(∀ i,s+1<=i->listed.getD i false=false)->∀ j,j<s+1->listed.getD j false=true)
  (hEnd:∀ (fuel:Nat) (listed:Array Bool) (a:Act) (R:Env) (L:Loc),listed.size=ops.size->listed.toList.count false<=fuel->qz ops.toList (fun i=>listed.getD i false)->(∀ i,i<s+1->listed.getD i false=true)->(∀ i,s+1<=i->listed.getD i false=false) ->
   qE G E ⟨D.T (s+1),bx2,D.X (s+1),lg⟩ a R L->wpAnyIn (Fl r) n P .any ops Q fuel listed a R.w):∀ (fuel:Nat) (listed:Array Bool) (a:Act) (R:Env) (L:Loc),listed.size=ops.size->listed.toList.count false<=fuel ->
  qz ops.toList (fun i=>listed.getD i false)->(∀ i,s+1<=i->listed.getD i false=false) ->
  ((listed.getD s false=false/\YN G E bx lg ops.toList 0 (s+1) D (fun i=>listed.getD i false) a R L)∨(listed.getD s false=true/\YN G E bx2 lg ops.toList 0 (s+1) D (fun i=>listed.getD i false) a R L))->wpAnyIn (Fl r) n P .any ops Q fuel listed a R.w:=by
 have hls:s+1<=ops.size:=by simpa using hl
 have done:∀ (fuel:Nat) (listed:Array Bool) (a:Act) (R:Env) (L:Loc),listed.size=ops.size->listed.toList.count false<=fuel->qz ops.toList (fun i=>listed.getD i false)->(∀ i,i<s+1->listed.getD i false=true)->(∀ i,s+1<=i->listed.getD i false=false) ->
   ((listed.getD s false=false/\YN G E bx lg ops.toList 0 (s+1) D (fun i=>listed.getD i false) a R L)∨(listed.getD s false=true/\YN G E bx2 lg ops.toList 0 (s+1) D (fun i=>listed.getD i false) a R L))->wpAnyIn (Fl r) n P .any ops Q fuel listed a R.w:=fun fuel listed a R L hsz hcnt hcl h1 h2 hI=>by
  rcases hI with ⟨g,_⟩ | ⟨_,h⟩
  ·rw[h1 s (Nat.lt_succ_self s)]at g;cases g
  refine hEnd fuel listed a R L hsz hcnt hcl h1 h2 ⟨{ h.good with },h.size,h.df,fun t=>?_⟩
  have ht:=h.tm t
  rw[ju (s+1) _ hl fun j hj _ _=>by simp[h2 j hj]]at ht
  rw[Yv hl hsk t (s+1) (Nat.zero_le _) (Nat.le_refl _),qw (D':=fun j=>decide (0<=j)&&listed.getD j false) (s+1) fun j hj _=>by rw[h1 j hj,Bool.and_true]]
  exact ht
 intro fuel
 induction fuel with
 | zero =>
  intro listed a R L hsz hcnt hcl h2 h
  refine done 0 listed a R L hsz hcnt hcl (fun i hi=>?_) h2 h
  have hil:i<listed.size:=by omega
  cases hq:listed.getD i false with
  | true=>rfl
  | false =>
   have:listed.toList[i]?=some false:=by
    rw[Array.getD_eq_getD_getElem?,Array.getElem?_eq_getElem hil]at hq
    simp[hil];simpa using hq
   have hpos:0<listed.toList.count false:=List.count_pos_iff.2 (List.mem_of_getElem? this)
   omega
 | succ fuel ih =>
  intro listed a R L hsz hcnt hcl h2 h
  by_cases hall:∀ i,i<s+1->listed.getD i false=true
  ·exact done _ listed a R L hsz hcnt hcl hall h2 h
  refine ⟨fun hr=>absurd (fun i hi=>JR hok hsz hr i (by omega)) hall,fun i hi=>?_⟩
  obtain ⟨o,ho,hl0,hpre⟩:=qV hi
  have hio:i<ops.size:=by simpa using (List.getElem?_eq_some_iff.1 ho).1
  obtain ⟨hlf,hil'⟩:=qn hsz hio hl0
  have hil:i<listed.size:=by omega
  have hcnt':(listed.setIfInBounds i true).toList.count false<=fuel:=by
   have:=jr hil'
   rw[Array.toList_setIfInBounds];omega
  have hset:∀ x,(listed.setIfInBounds i true).getD x false=(listed.getD x false||x==i):=fun x=>congrFun (qy hil) x
  have hcl':=Ja hil hcl ho hpre
  rcases Nat.lt_trichotomy i s with g | g | g
  ·have hns:(s==i)=false:=by simp;omega
   have h2':∀ k,s+1<=k->(listed.setIfInBounds i true).getD k false=false:=fun k hk=>by
    rw[hset,h2 k hk];simp;omega
   rcases h with ⟨e,h⟩ | ⟨e,h⟩
   ·exact My hN hok hc hsk hl hcl h g ho hlf hpre fun v R' L' hI=>ih _ _ R' L' (by simpa using hsz) hcnt' hcl' h2' (.inl ⟨by rw[hset,e,hns];rfl,by rw[qy hil];exact hI⟩)
   ·exact My hN hok hc2 hsk hl hcl h g ho hlf hpre fun v R' L' hI=>ih _ _ R' L' (by simpa using hsz) hcnt' hcl' h2' (.inr ⟨by rw[hset,e];rfl,by rw[qy hil];exact hI⟩)
  ·subst g
   rw[hos]at ho;cases ho
   rcases h with ⟨e,h⟩ | ⟨e,h⟩
   ·obtain ⟨bx3,e3,hrun⟩:=h.store hl hsk hok hcl (Nat.zero_le _) (Nat.le_succ _) hos hop hod hlf hpre hSt
    cases e3
    have h2':∀ k,i+1<=k->(listed.setIfInBounds i true).getD k false=false:=fun k hk=>by
     rw[hset,h2 k hk];simp;omega
    unfold wpOpIn
    have hoa:ops[i]?=some os:=by simpa using hos
    rw[hoa]
    have hguard:Region.wanted os (yielded ops a.tmps)=true:=by unfold Region.wanted;rw[hog]
    simp only[hguard,if_true]
    refine jm (hrun.mono fun v w'=>?_)
    rintro ⟨R',rfl,hI⟩
    exact ih _ _ R' L (by simpa using hsz) hcnt' hcl' h2' (.inr ⟨by rw[hset];simp,by rw[qy hil];exact hI⟩)
   ·rw[hlf]at e;cases e
  ·exact absurd (hrdy listed i o (by omega) hio hcl ho hpre h2) hall
def Z5 (P:Program) (G:zm) (ops:Array Oper) (b1 b2:List (List C)):List Oper->List (Nat×C)->Nat->(List (Nat×C)->Nat->Prop)->Prop
 | [],tm,nx,K=>K tm nx
 | o :: rest,tm,nx,K=>qT ops tm o.guard
   (jY P G b1 (zx G tm) o.op nx fun c nx'=>jY P G b2 (zx G tm) o.op nx (fun c' nx''=>c'=c/\nx''=nx')/\Z5 P G ops b1 b2 rest (jU tm o.dst c) nx' K)
   (Z5 P G ops b1 b2 rest (jU tm o.dst (.sc undef)) nx K)
theorem kU {b1 b2:List (List C)} {all:List Oper} {K:List (Nat×C)->Nat->Prop}:∀ (l:List Oper) (m:Nat) (tm:List (Nat×C)) (nx:Nat),all.drop m=l->m<=all.length->Z5 P G ops b1 b2 l tm nx K ->
  ∃ D:Ya,D.T m=tm/\D.X m=nx/\Qe P G b1 ops all m all.length D/\Qe P G b2 ops all m all.length D/\K (D.T all.length) (D.X all.length)
 | [],m,tm,nx,hl,hm,h=>by
  have:m=all.length:=by
   have:=congrArg List.length hl
   simp at this;omega
  subst this
  exact ⟨⟨fun _=>tm,fun _=>nx,fun _=>.any,fun _=>true⟩,rfl,rfl,⟨fun i o h1 h2=>by omega⟩,⟨fun i o h1 h2=>by omega⟩,h⟩
 | o :: rest,m,tm,nx,hl,hm,h=>by
  have hlt:m<all.length:=by
   rcases Nat.lt_or_ge m all.length with g | g
   ·exact g
   ·rw[List.drop_eq_nil_of_le g]at hl;cases hl
  have hom:all[m]?=some o:=by
   have:=List.getElem?_drop (xs:=all) (i:=m) (j:=0)
   rw[hl]at this;simpa using this.symm
  have hrest:all.drop (m+1)=rest:=by
   have:=congrArg List.tail hl
   simpa using this
  unfold Z5 at h
  obtain ⟨b,hg,h1,h2⟩:=qT.out h
  have key:∀ (c:C) (nx':Nat),(b=true->zB P G b1 (YL o (zx G tm)) nx o c nx')->(b=true->zB P G b2 (YL o (zx G tm)) nx o c nx')->(b=false->c = .sc undef/\nx'=nx)->nx<=nx'->Z5 P G ops b1 b2 rest (jU tm o.dst c) nx' K ->
    ∃ D:Ya,D.T m=tm/\D.X m=nx/\Qe P G b1 ops all m all.length D/\Qe P G b2 ops all m all.length D/\K (D.T all.length) (D.X all.length):=fun c nx' hp hp2 hq hle hrst=>by
   obtain ⟨D,d3,d4,d5,d5',d6⟩:=kU rest (m+1) _ _ hrest (by omega) hrst
   refine ⟨⟨fun i=>if i<=m then tm else D.T i,fun i=>if i<=m then nx else D.X i,fun i=>if i=m then c else D.c i,fun i=>if i=m then b else D.wn i⟩,by simp,by simp,⟨fun i o' hi hi' hio=>?_⟩,⟨fun i o' hi hi' hio=>?_⟩,?_⟩
   ·by_cases him:i=m
    ·subst him
     rw[hom]at hio;cases hio
     simp only[Nat.le_refl,if_true,show ¬i+1<=i by omega,if_false]
     refine ⟨d3,by rw[d4];exact hle,hg,fun hb=>?_,fun hb=>?_⟩
     ·rw[d4];exact hp hb
     ·rw[d4];exact hq hb
    ·simp only[if_neg him,if_neg (show ¬i<=m by omega),if_neg (show ¬i+1<=m by omega)]
     exact d5.step i o' (by omega) hi' hio
   ·by_cases him:i=m
    ·subst him
     rw[hom]at hio;cases hio
     simp only[Nat.le_refl,if_true,show ¬i+1<=i by omega,if_false]
     refine ⟨d3,by rw[d4];exact hle,hg,fun hb=>?_,fun hb=>?_⟩
     ·rw[d4];exact hp2 hb
     ·rw[d4];exact hq hb
    ·simp only[if_neg him,if_neg (show ¬i<=m by omega),if_neg (show ¬i+1<=m by omega)]
     exact d5'.step i o' (by omega) hi' hio
   ·simp only[if_neg (show ¬all.length<=m by omega)]
    exact d6
  cases b with
  | true =>
   obtain ⟨c,nx',hp,hK,hK2⟩:=Jn (h1 rfl)
   obtain ⟨c2,nx2,hp2,e1,e2⟩:=Jn hK
   subst e1 e2
   exact key c2 nx2 (fun _=>hp) (fun _=>hp2) (fun h=>by cases h) hp.1 hK2
  | false=>exact key (.sc undef) nx (fun h=>by cases h) (fun h=>by cases h) (fun _=>⟨rfl,rfl⟩) (Nat.le_refl _) (h2 rfl)
def Xj (s:Nat) (br:List Bool):List Bool:=true :: true :: false :: true :: (List.replicate s false++true :: br)
def VK:List Bool->Option (Nat×List Bool)
 | true :: true :: false :: true :: r=>some ((ZP r).1,(ZP r).2.tail)
 | _=>none
theorem X4 (s:Nat) (br:List Bool):VK (Xj s br)=some (s,br):=by
 show some ((ZP (List.replicate s false++true :: br)).1,(ZP (List.replicate s false++true :: br)).2.tail)=_
 rw[VZ];rfl
def zjn (P:Program) (G:zm) (Y:Hd) (ops:Array Oper) (all:List Oper) (s:Nat) (br:List Bool) (s0:St) (rest:List Oper) (o:Option Oper) (σ1:St) (K:St->Prop):Prop:=match o with
 | some ⟨none,.store t q x,_,_,_,none⟩=>Jj P t (zx G σ1.tm q) (zx G σ1.tm x) σ1 fun _ σ2 =>
   Z5 P G ops s0.bx σ2.bx (all.take s) s0.tm s0.nx (fun tm nx=>tm=σ1.tm/\nx=σ1.nx)/\Yi P G Y ops rest br σ2 K
 | _=>False
def ub (P:Program) (G:zm) (Y:Hd) (ops:Array Oper) (s:Nat) (br:List Bool) (σ:St) (K:St->Prop):Prop:=
 Yi P G Y ops (ops.toList.take s) [] σ fun σ1=>zjn P G Y ops ops.toList s br σ (ops.toList.drop (s+1)) (ops.toList[s]?) σ1 K
def H7 (ops:Array Oper) (s:Nat) (br:List Bool):Bool:=
 let cl:=qe ops.toList ops.size
 decide (s<ops.size)&&((List.range (ops.size-(s+1))).all fun d=>(List.range (s+1)).all fun j=>inC cl (s+1+d) j)&&XJ ops (List.replicate (s+1) false++br)
theorem yO {r:Option Nat} {n id s:Nat} {br:List Bool} {Q:Exit->Act->World->Prop} {K:St->Prop} {Y:Hd} {w:World} (hY:zhd P Y E) (hm:P.follows .mixedOrders=true) (hN:∀ o∈ops.toList,Yc E.N o.dst) (hok:Jo ops=true) (hfl:H7 ops s br=true)
  (h:ub P G Y ops s br σ K) (hI:Inv G E σ a w) (hQ:∀ a' w' σ',K σ'->Inv G E σ' a' w'->Q .normal a' w'):(Code.region id ops true).wpIn (Fl r) n P Q a w:=by
 obtain ⟨R,L,rfl,hI⟩:=hI
 refine wpIn_region_any hm ?_
 let R':Env:=⟨{ R.w with drawn:=R.w.drawn+1 },R.M,R.F⟩
 have hext:Ext R R':=⟨fun b o v h1 h2=>⟨h1,h2⟩,fun _ _ _ _ h1 h2=>⟨h1,h2⟩⟩
 have hnear:Gy E.w0 E.ex R R':=⟨rfl,rfl,rfl,Nat.le_refl _,rfl,hext,fun b _=>.inl ⟨rfl,fun _=>Iff.rfl⟩⟩
 have hg:=hI.good
 have hinv:qE G E σ a R' L:=by
  refine ⟨hg.move hnear.nigh ⟨hg.fit.glob.ext hext,⟨hg.fit.boxes.len,hg.fit.boxes.nodup,fun i b cs hi hc=>?_⟩,⟨fun id e k v ht=>?_,hg.fit.owns.apart⟩,hg.fit.base⟩ ⟨[],by rw[List.append_nil],fun b hb=>by cases hb⟩ (fun id e k v b ht hv=>.inl ⟨id,e,k,v,ht,hv⟩) hg.free,hI.size,hI.df.near hnear,fun t=>Rep.ext hext (zK.refl _) _ _ (hI.tm t)⟩
  ·obtain ⟨vs,ty,e1,e2,e3,e4⟩:=hg.fit.boxes.box i b cs hi hc
   exact ⟨vs,ty,e1,zu.ext hext (zK.refl _) _ _ e2,e3,e4⟩
  ·exact (hg.fit.owns.own id e k v ht).move fun g _ q2 _ q7=>⟨q2,rfl,q7,fun _ h=>h⟩
 have hlist:∀ i,(Array.replicate ops.size false).getD i false=false:=fun i=>by
  rw[Array.getD_eq_getD_getElem?,Array.getElem?_replicate];split<;>rfl
 unfold H7 at hfl
 simp only[Bool.and_eq_true,decide_eq_true_eq]at hfl
 obtain ⟨⟨t1,t2⟩,t3⟩:=hfl
 have t2':∀ i j,s+1<=i->i<ops.size->j<s+1->inC (qe ops.toList ops.size) i j=true:=fun i j h1 h2 h3=>by
  have q1:=List.all_eq_true.1 t2 (i-(s+1)) (by simp;omega)
  have q2:=List.all_eq_true.1 q1 j (by simpa using h3)
  rw[show s+1+(i-(s+1))=i by omega]at q2
  exact q2
 have hml:(ops.toList.take s).length=s:=by simp;omega
 unfold ub at h
 obtain ⟨m',D0,d1,d2,d3,d4,d5,d6⟩:=Zb (all:=ops.toList.take s) _ _ 0 σ rfl (Nat.zero_le _) h
 have hA:∃ tm1 nx1,zjn P G Y ops ops.toList s br σ (ops.toList.drop (s+1)) (ops.toList[s]?) ⟨tm1,σ.bx,nx1,σ.lg⟩ K:=by
  rcases d6 with ⟨g,hK⟩ | ⟨g,g2,_⟩
  ·exact ⟨_,_,hK⟩
  ·simp at g2
 clear d1 d2 d3 d4 d5 d6 h
 obtain ⟨tm1,nx1,hA⟩:=hA
 unfold zjn at hA
 split at hA
 ·rename_i t q x ty pos af hos
  obtain ⟨bx2,⟨hag,hrest⟩,hSt⟩:=GU (tm2:=tm1) (nx2:=nx1) hA
  simp only at hag hrest
  obtain ⟨D,e1,e2,e3,e4,e5,e6⟩:=kU (all:=ops.toList.take s) _ 0 _ _ rfl (Nat.zero_le _) hag
  rw[hml]at e3 e4 e5 e6
  obtain ⟨D',hT,hX,hc',hw'⟩:∃ D':Ya,(∀ i,D'.T i=if i<=s then D.T i else D.T s)/\(∀ i,D'.X i=if i<=s then D.X i else D.X s)/\D'.c=D.c/\D'.wn=D.wn:=⟨⟨fun i=>if i<=s then D.T i else D.T s,fun i=>if i<=s then D.X i else D.X s,D.c,D.wn⟩,fun _=>rfl,fun _=>rfl,rfl,rfl⟩
  have conv:∀ {b:List (List C)},Qe P G b ops (ops.toList.take s) 0 s D->Qe P G b ops ops.toList 0 s D':=fun {b} hc=>⟨fun i o h1 h2 h3=>by
   have:=hc.step i o h1 h2 (by rw[List.getElem?_take,if_pos h2];exact h3)
   rw[hT,hT,hX,hX,hc',hw',if_pos (by omega),if_pos (by omega),if_pos (by omega),if_pos (by omega)]
   exact this⟩
  have c1:=conv e3
  have c2:=conv e4
  have hTs:D'.T s=tm1:=by rw[hT,if_pos (Nat.le_refl _)];exact e5
  have hXs:D'.X s=nx1:=by rw[hX,if_pos (Nat.le_refl _)];exact e6
  have hT1:D'.T (s+1)=tm1:=by rw[hT,if_neg (by omega)];exact e5
  have hX1:D'.X (s+1)=nx1:=by rw[hX,if_neg (by omega)];exact e6
  have hT0:D'.T 0=σ.tm:=by rw[hT,if_pos (Nat.zero_le _)];exact e1
  have hX0:D'.X 0=σ.nx:=by rw[hX,if_pos (Nat.zero_le _)];exact e2
  have hsk:Hg ops.toList 0 (s+1) D':=⟨fun i o h1 h2 h3=>by
   by_cases his:i=s
   ·subst his
    rw[hos]at h3;cases h3
    exact ⟨by rw[hT1,hTs];rfl,by rw[hX1,hXs];exact Nat.le_refl _⟩
   ·exact c1.skel.step i o h1 (by omega) h3⟩
  have hl:s+1<=ops.toList.length:=by simp;omega
  have hInit:YN G E σ.bx σ.lg ops.toList 0 (s+1) D' (fun i=>(Array.replicate ops.size false).getD i false) a R' L:=by
   have hx:=QS (l:=ops.toList) hl hsk 0 (s+1) (Nat.le_refl _) (Nat.zero_le _) (Nat.le_refl _)
   refine ⟨{ hinv.good with free:=fun id hid=>hinv.good.free id (by rw[hX0]at hx;exact Nat.le_trans hx hid) },fun id hid _=>hinv.good.free id (by rw[hX0]at hid;exact hid),hinv.size,hinv.df,fun t=>?_⟩
   rw[qw (D':=fun _=>false) _ fun j _ _=>by simp[hlist j],ju 0 _ (Nat.zero_le _) fun _ _ _ _=>rfl]
   show Rep R' L (jy (D'.T 0) t) _
   rw[hT0];exact hinv.tm t
  refine zdP (lg:=σ.lg) (bx:=σ.bx) (bx2:=bx2) (D:=D') hN hok c1 c2 hsk hl hos rfl rfl rfl ?_ (fun listed i o q1 q2 q3 q4 q5 q6 j hj=>Ys (t2' i j q1 q2 hj) q3 q4 q5 (by omega)) ?_ ops.size _ a R' L (by simp) ?_ (fun i o hi h=>?_) (fun i _=>hlist i) (.inl ⟨hlist s,hInit⟩)
  ·rw[hTs,hXs]
   exact yA hSt fun c' σ' h=>h.2
  ·intro fuel listed a R L hsz hcnt hcl h1 h2 hI
   rw[hT1,hX1]at hI
   refine vD hY hN hok t3 (fun a1 R1 L1 σ1 hK h1=>hQ a1 R1.w σ1 hK ⟨R1,L1,rfl,h1⟩) _ (s+1) fuel listed _ a R L rfl (by omega) hsz hcnt hcl h1 h2 ?_ hI
   rw[List.drop_left' (by simp)]
   exact hrest
  ·rw[Array.toList_replicate,List.count_replicate_self];exact Nat.le_refl _
  ·have h:(Array.replicate ops.size false).getD i false=true:=h
   rw[hlist]at h;cases h
 ·exact hA.elim
end
end
section
open Go.RowKit
inductive MFl where
 | pure
 | bar
 | flt (free:List Nat)
abbrev UW:=Nat×(List (List C)->Prop)
def YO (fr:List Nat) (b:List (List C)):List UW->Prop
 | []=>True
 | (k,f) :: r=>(match fr.contains k with | true=>f b | false=>True)/\YO fr b r
theorem YO.out {fr:List Nat} {b:List (List C)}:∀ {H:List UW},YO fr b H->∀ k f,(k,f)∈H->k∈fr->f b
 | [],_,k,f,h,_=>by cases h
 | (k0,f0) :: r,h,k,f,hm,hk=>by
  obtain ⟨h1,h2⟩:=h
  rcases List.mem_cons.1 hm with e | hm
  ·cases e
   rw[show fr.contains k0=true by simpa using hk]at h1
   exact h1
  ·exact YO.out h2 k f hm hk
def ziV (P:Program) (G:zm) (f:FuncId) (args:List C) (σ:St) (K:C->List (List C)->Nat->Prop):Prop:=
 ∃ (ι:List Nat) (post:C->List (List C)->Nat->Prop),ι.Nodup/\(∀ i∈ι,i<σ.bx.length) /\
  JI P G f (C.reL (Xn ι) (Xn []) args) (ι.map fun i=>C.reL (Xn ι) (Xn []) (σ.bx.getD i [])) 0 post/\∀ r bx' n,post r bx' n->K (r.re (upB ι σ.bx.length) (upO σ.nx)) (QA ι [] bx' n σ).bx (σ.nx+n)
def zmm (P:Program) (G:zm) (args:List Operand) (tys:List TypeId) (σ:St) (K:C->List (List C)->Nat->Prop):Prop:=match args,tys with
 | [d,x],[t,_]=>Qn P t (zx G σ.tm d) (zx G σ.tm x) σ fun c σ'=>K c σ'.bx σ'.nx
 | _,_=>False
def yY (P:Program) (G:zm) (f:C) (args:List C) (σ:St) (K:C->List (List C)->Nat->Prop):Prop:=match f with
 | .clo (.func f) first cap=>ziV P G f (first++args++cap) σ K
 | _=>False
def znb (P:Program) (G:zm) (op:Op) (σ:St) (K:C->List (List C)->Nat->Prop):Prop:=match op with
 | .store t p x=>Jj P t (zx G σ.tm p) (zx G σ.tm x) σ fun c σ'=>K c σ'.bx σ'.nx
 | .call c=>match c.callee with
  | .value f=>yY P G (zx G σ.tm f) (c.args.toList.map (zx G σ.tm)) σ K
  | .builtin .copy=>zmm P G c.args.toList c.argTypes.toList σ K
  | _=>False
 | _=>False
def zfK (P:Program) (G:zm) (Y:Hd) (ops:Array Oper):List Oper->List MFl->Nat->List UW->St->(St->Prop)->Prop
 | [],_,_,_,σ,K=>K σ
 | o :: rest,fs,q,H,σ,K=>match fs.headD .pure with
  | .pure=>qT ops σ.tm o.guard (jY P G σ.bx (zx G σ.tm) o.op σ.nx fun c nx'=>zfK P G Y ops rest fs.tail (q+1) ((q,fun b=>jY P G b (zx G σ.tm) o.op σ.nx fun c' n'=>c'=c/\n'=nx') :: H) ⟨jU σ.tm o.dst c,σ.bx,nx',σ.lg⟩ K)
    (zfK P G Y ops rest fs.tail (q+1) H ⟨jU σ.tm o.dst (.sc undef),σ.bx,σ.nx,σ.lg⟩ K)
  | .bar=>qT ops σ.tm o.guard (Qv P G Y o.op σ fun c σ'=>zfK P G Y ops rest fs.tail (q+1) [] (σ'.put o.dst c) K) (zfK P G Y ops rest fs.tail (q+1) [] (σ.put o.dst (.sc undef)) K)
  | .flt fr=>o.guard=none/\znb P G o.op σ fun c bx' nx'=>YO fr bx' H/\zfK P G Y ops rest fs.tail (q+1) H ⟨jU σ.tm o.dst c,bx',nx',σ.lg⟩ K
def zm5 (cl:List Nat) (n i:Nat):MFl->Bool
 | .pure=>true
 | .bar=>(List.range n).all fun j=>j==i||if j<i then inC cl i j else inC cl j i
 | .flt fr=>(List.range n).all fun j=>j==i||if j<i then inC cl i j||fr.contains j else inC cl j i
def xI (ops:Array Oper) (fs:List MFl):Bool:=
 let cl:=qe ops.toList ops.size
 (List.range ops.size).all fun i=>zm5 cl ops.size i (fs.getD i .pure)
section
variable {P:Program} {G:zm} {E:Ctx} {σ:St} {o:Oper} {a:Act} {N p:Nat} {bx:List (List C)} {ops:Array Oper}
theorem GL {fs:List MFl} (h:xI ops fs=true) {i:Nat} (hi:i<ops.size):zm5 (qe ops.toList ops.size) ops.size i (fs.getD i .pure)=true:=by
 unfold xI at h
 exact List.all_eq_true.1 h i (by simpa using hi)
theorem Vb {fs:List MFl} (h:xI ops fs=true) {i j:Nat} (hi:i<ops.size) (hf:fs.getD i .pure≠.pure) (hj:j<ops.size) (hij:i<j):inC (qe ops.toList ops.size) j i=true:=by
 have h1:=GL h hi
 have hne:(j==i)=false:=by simp;omega
 cases hq:fs.getD i .pure with
 | pure=>exact absurd hq hf
 | bar =>
  rw[hq]at h1
  have h2:=List.all_eq_true.1 h1 j (by simpa using hj)
  rw[if_neg (by omega),hne]at h2
  simpa using h2
 | flt fr =>
  rw[hq]at h1
  have h2:=List.all_eq_true.1 h1 j (by simpa using hj)
  rw[if_neg (by omega),hne]at h2
  simpa using h2
theorem zdx {fs:List MFl} (h:xI ops fs=true) {i j:Nat} (hi:i<ops.size) (hf:fs.getD i .pure = .bar) (hij:j<i):inC (qe ops.toList ops.size) i j=true:=by
 have h1:=GL h hi
 have hne:(j==i)=false:=by simp;omega
 rw[hf]at h1
 have h2:=List.all_eq_true.1 h1 j (by simp;omega)
 rw[if_pos hij,hne]at h2
 simpa using h2
theorem zbQ {fs:List MFl} {fr:List Nat} (h:xI ops fs=true) {i j:Nat} (hi:i<ops.size) (hf:fs.getD i .pure = .flt fr) (hij:j<i):inC (qe ops.toList ops.size) i j=true∨j∈fr:=by
 have h1:=GL h hi
 have hne:(j==i)=false:=by simp;omega
 rw[hf]at h1
 have h2:=List.all_eq_true.1 h1 j (by simp;omega)
 rw[if_pos hij,hne]at h2
 simpa using h2
mutual
theorem zcs:∀ c:C,c.re some (Qw [])=c
 | .own id e k rows=>by unfold C.re;simp[Qw]
 | .ptr i off=>by unfold C.re;rfl
 | .bs i off k n c=>by unfold C.re;rfl
 | .mo id t ks vs=>by unfold C.re;simp[Qw]
 | .agg cs=>by unfold C.re;rw[QV cs]
 | .tup cs=>by unfold C.re;rw[QV cs]
 | .clo fn first cap=>by unfold C.re;rw[QV first,QV cap]
 | .sc v=>by unfold C.re;rfl
 | .str l=>by unfold C.re;rfl
 | .sl k rows=>by unfold C.re;rfl
 | .tight k rows=>by unfold C.re;rfl
 | .row cs=>by unfold C.re;rfl
 | .any=>by unfold C.re;rfl
theorem QV:∀ cs:List C,C.reL some (Qw []) cs=cs
 | []=>by unfold C.reL;rfl
 | c :: r=>by unfold C.reL;rw[zcs c,QV r]
end
theorem NH:∀ tm:List (Nat×C),k6 some (Qw []) tm=tm
 | []=>rfl
 | (t,c) :: r=>by simp only[k6,zcs,NH r]
abbrev zmh (G:zm) (E:Ctx) (a:Act) (tm2:List (Nat×C)) (nx lg:Nat) (L:Loc) (K:C->List (List C)->Nat->Prop) (v:Value) (w':World):Prop:=
 ∃ c bx' nx' R' L',R'.w=w'/\qE G E ⟨tm2,bx',nx',lg⟩ a R' L'/\Rep R' L' c v/\K c bx' nx'/\nx<=nx'/\∀ id,id<nx->L.T id=none->L'.T id=none
theorem zfX {t:TypeId} {p c:C} {tm1 tm2:List (Nat×C)} {nx lg:Nat} {K:C->List (List C)->Nat->Prop} (h:Jj P t p c ⟨tm1,bx,nx,lg⟩ fun c σ'=>K c σ'.bx σ'.nx) :
  Jj P t p c ⟨tm2,bx,nx,lg⟩ fun c σ'=>∃ bx',σ'=⟨tm2,bx',nx,lg⟩/\K c bx' nx:=by
 unfold Jj at h ⊢
 split at h
 ·split at h
  ·rename_i cs hcs
   obtain ⟨h1,h2,h3,h4,hK⟩:=h
   have hcs':(St.mk tm2 bx nx lg).bx[_]?=some cs:=hcs
   rw[hcs']
   exact ⟨h1,h2,h3,h4,_,rfl,hK⟩
  ·exact h.elim
 ·exact h.elim
theorem zkd {t:TypeId} {d x:C} {tm1 tm2:List (Nat×C)} {nx lg:Nat} {K:C->List (List C)->Nat->Prop} (h:Qn P t d x ⟨tm1,bx,nx,lg⟩ fun c σ'=>K c σ'.bx σ'.nx) :
  Qn P t d x ⟨tm2,bx,nx,lg⟩ fun c σ'=>∃ bx',σ'=⟨tm2,bx',nx,lg⟩/\K c bx' nx:=by
 unfold Qn at h ⊢
 split at h<;>try exact h.elim
 split at h<;>try exact h.elim
 rename_i hx
 split at h<;>try exact h.elim
 rename_i hxs
 have hxs':C.xs? _ (St.mk tm2 bx nx lg).bx _=_:=hxs
 rw[hxs']
 simp only
 split at h
 ·split at h<;>try exact h.elim
  rename_i cs hcs
  obtain ⟨h1,h2,h3,hK⟩:=h
  have hcs':(St.mk tm2 bx nx lg).bx[_]?=some cs:=hcs
  rw[hcs']
  exact ⟨h1,h2,h3,_,rfl,hK⟩
 ·split at h<;>try exact h.elim
  exact ⟨h.1,_,rfl,h.2⟩
theorem ziM {tm1 tm2:List (Nat×C)} {nx lg:Nat} {K:C->List (List C)->Nat->Prop} {R:Env} {L:Loc} (h:znb P G o.op ⟨tm1,bx,nx,lg⟩ K) (hop:∀ x∈o.op.operands,zx G tm2 x=zx G tm1 x) (hI:qE G E ⟨tm2,bx,nx,lg⟩ a R L) :
  je P o a.eval R.w (zmh G E a tm2 nx lg L K):=by
 unfold znb at h
 split at h
 ·rename_i t p x ho
  have h:=zfX (tm2:=tm2) h
  rw[ho]at hop
  have e1:zx G tm2 p=zx G tm1 p:=hop p (by simp[Op.operands])
  have e2:zx G tm2 x=zx G tm1 x:=hop x (by simp[Op.operands])
  simp only at h
  rw[←e1,←e2]at h
  refine (XE ho hI h).mono fun v w'=>?_
  rintro ⟨c,σ',R',hw,hI',_,hr,bx',rfl,hK⟩
  exact ⟨c,bx',nx,R',L,hw,hI',hr,hK,Nat.le_refl _,fun _ _ h=>h⟩
 ·rename_i c ho
  rw[ho]at hop
  split at h
  ·rename_i f hc
   unfold yY at h
   split at h
   ·rename_i fid first cap hev
    have ef:zx G tm2 f=zx G tm1 f:=hop f (by simp[Op.operands,Call.operands,hc])
    have ea:c.args.toList.map (zx G tm2)=c.args.toList.map (zx G tm1):=List.map_congr_left fun x hx=>hop x (by
     unfold Op.operands Call.operands
     simp at hx ⊢;exact .inr hx)
    simp only at hev h
    rw[←ea]at h
    obtain ⟨ι,post,h1,h2,h3,hK⟩:=h
    have hX:UI P G fid (first++c.args.toList.map (zx G tm2)++cap) ⟨tm2,bx,nx,lg⟩ fun c' σ'=>∃ bx' nx',σ'=⟨tm2,bx',nx',lg⟩/\nx<=nx'/\K c' bx' nx':=by
     refine ⟨ι,[],post,h1,List.nodup_nil,h2,h3,fun r bx' n hp=>⟨_,nx+n,?_,Nat.le_add_right _ _,hK r bx' n hp⟩⟩
     unfold QA
     rw[NH]
    refine (Vc ho hc (ef.trans hev) hI hX).mono fun v w'=>?_
    rintro ⟨c',σ',R',L',hw,hI',hr,⟨bx',nx',rfl,hle,hK⟩,hfr⟩
    exact ⟨c',bx',nx',R',L',hw,hI',hr,hK,hle,hfr⟩
   ·exact h.elim
  ·rename_i hc
   unfold zmm at h
   split at h
   ·rename_i d x t t' h1 h2
    obtain ⟨callee,args,argTypes⟩:=c
    simp only at hc h1 h2
    have e1:zx G tm2 d=zx G tm1 d:=hop d (by unfold Op.operands Call.operands;simp;exact .inr (by rw[←Array.mem_toList_iff,h1];simp))
    have e2:zx G tm2 x=zx G tm1 x:=hop x (by unfold Op.operands Call.operands;simp;exact .inr (by rw[←Array.mem_toList_iff,h1];simp))
    have h:=zkd (tm2:=tm2) h
    simp only at h
    rw[←e1,←e2]at h
    rw[qx h1,qx h2,hc]at ho
    refine (Ue ho hI h).mono fun v w'=>?_
    rintro ⟨c,σ',R',L',hw,hI',hr,⟨bx',rfl,hK⟩,hfr⟩
    exact ⟨c,bx',nx,R',L',hw,hI',hr,hK,Nat.le_refl _,hfr⟩
   ·exact h.elim
  ·exact h.elim
 ·exact h.elim
end
end
section
open Go.RowKit
section
variable {P:Program} {G:zm} {E:Ctx} {σ:St} {o:Oper} {a:Act} {N p:Nat} {bx:List (List C)} {ops:Array Oper}
theorem ZB {T0:List (Nat×C)} {l:List Oper} {c c':Nat->C} {S:Nat->Bool} {t:Nat}:∀ n,(∀ j,j<n->S j=true->c j=c' j)->val T0 l c S n t=val T0 l c' S n t
 | 0,_=>rfl
 | n+1,h=>by
  simp only[val]
  rw[ZB n fun j hj=>h j (by omega)]
  by_cases hs:S n=true/\(l[n]?).bind (·.dst)=some t
  ·rw[if_pos hs,if_pos hs,h n (by omega) hs.1]
  ·rw[if_neg hs,if_neg hs]
def Ya.ext (D:Ya) (q:Nat) (T:List (Nat×C)) (X:Nat) (c:C) (b:Bool):Ya:=
 ⟨fun i=>if i<=q then D.T i else T,fun i=>if i<=q then D.X i else X,fun i=>if i=q then c else D.c i,fun i=>if i=q then b else D.wn i⟩
theorem yv {D:Ya} {q:Nat} {T:List (Nat×C)} {X:Nat} {c:C} {b:Bool} {i:Nat} (h:i<=q):(D.ext q T X c b).T i=D.T i:=if_pos h
theorem ZU {D:Ya} {q:Nat} {T:List (Nat×C)} {X:Nat} {c:C} {b:Bool} {i:Nat} (h:i<=q):(D.ext q T X c b).X i=D.X i:=if_pos h
theorem zfW {D:Ya} {q:Nat} {T:List (Nat×C)} {X:Nat} {c:C} {b:Bool} {i:Nat} (h:i≠q):(D.ext q T X c b).c i=D.c i:=if_neg h
theorem zoI {D:Ya} {q:Nat} {T:List (Nat×C)} {X:Nat} {c:C} {b:Bool} {i:Nat} (h:i≠q):(D.ext q T X c b).wn i=D.wn i:=if_neg h
theorem uh {D:Ya} {q:Nat} {T:List (Nat×C)} {X:Nat} {c:C} {b:Bool}:(D.ext q T X c b).T (q+1)=T:=if_neg (by omega)
theorem Vf {D:Ya} {q:Nat} {T:List (Nat×C)} {X:Nat} {c:C} {b:Bool}:(D.ext q T X c b).X (q+1)=X:=if_neg (by omega)
theorem zed {D:Ya} {q:Nat} {T:List (Nat×C)} {X:Nat} {c:C} {b:Bool}:(D.ext q T X c b).c q=c:=if_pos rfl
theorem znT {D:Ya} {q:Nat} {T:List (Nat×C)} {X:Nat} {c:C} {b:Bool}:(D.ext q T X c b).wn q=b:=if_pos rfl
theorem Hg.ext {D:Ya} {l:List Oper} {m q:Nat} {T:List (Nat×C)} {X:Nat} {c:C} {b:Bool} {o:Oper} (h:Hg l m q D) (ho:l[q]?=some o) (hT:T=jU (D.T q) o.dst c) (hX:D.X q<=X):Hg l m (q+1) (D.ext q T X c b):=⟨fun i o' h1 h2 h3=>by
 by_cases hi:i=q
 ·subst hi
  rw[ho]at h3;cases h3
  rw[uh,Vf,zed,yv (Nat.le_refl _),ZU (Nat.le_refl _)]
  exact ⟨hT,hX⟩
 ·rw[yv (by omega),yv (by omega),ZU (by omega),ZU (by omega),zfW hi]
  exact h.step i o' h1 (by omega) h3⟩
theorem YN.more {D:Ya} {S:Nat->Bool} {l:List Oper} {m q lg:Nat} {R:Env} {L:Loc} {T:List (Nat×C)} {X:Nat} {c:C} {b:Bool} (h:YN G E bx lg l m q D S a R L) (hm:m<=q) (hX:D.X q<=X) (hS:∀ i,q<=i->S i=false) :
  YN G E bx lg l m (q+1) (D.ext q T X c b) S a R L:=by
 refine ⟨?_,fun id h1 h2=>?_,h.size,h.df,fun t=>?_⟩
 ·rw[Vf]
  exact { h.good with free:=fun id hid=>h.good.free id (Nat.le_trans hX hid) }
 ·rw[ZU hm]at h1
  refine h.free id h1 fun i hmi hi hs hx=>h2 i hmi (by omega) hs ?_
  rw[ZU (by omega),ZU (by omega)];exact hx
 ·rw[yv hm,ZB (c':=D.c) _ fun j _ hj=>zfW fun e=>?_]
  ·exact h.tm t
  ·subst e
   simp only[Bool.and_eq_true]at hj
   rw[hS j (Nat.le_refl _)]at hj;cases hj.2
theorem YN.all {D:Ya} {listed:Array Bool} {m q lg:Nat} {R:Env} {L:Loc} (hl:q<=ops.toList.length) (hm:m<=q) (hsk:Hg ops.toList m q D) (h1:∀ i,i<q->listed.getD i false=true) (h2:∀ i,q<=i->listed.getD i false=false)
  (h:YN G E bx lg ops.toList m q D (fun i=>listed.getD i false) a R L):qE G E ⟨D.T q,bx,D.X q,lg⟩ a R L:=by
 refine ⟨{ h.good with },h.size,h.df,fun t=>?_⟩
 have ht:=h.tm t
 rw[ju q _ hl fun j hj _ _=>by simp[h2 j hj]]at ht
 rw[Yv hl hsk t q hm (Nat.le_refl _),qw (D':=fun j=>decide (m<=j)&&listed.getD j false) q fun j hj _=>by rw[h1 j hj,Bool.and_true]]
 exact ht
theorem YN.eff {D:Ya} {S:Nat->Bool} {m q lg nx':Nat} {R R':Env} {L L':Loc} {bx':List (List C)} {c:C} {v:Value} (hl:q<ops.toList.length) (hok:Jo ops=true) (hS:qz ops.toList S) (h:YN G E bx lg ops.toList m q D S a R L) (hm:m<=q)
  (ho:ops.toList[q]?=some o) (hi:S q=false) (hpre:∀ e∈o.after.toList,Region.binds .any e=true->S e.on=true) (hd:Yc E.N o.dst) (hI:qE G E ⟨zfN (D.T m) ops.toList D.c (fun j=>decide (m<=j)&&S j) ops.toList.length,bx',nx',lg⟩ a R' L') (hr:Rep R' L' c v)
  (hle:D.X q<=nx') (hfr:∀ id,id<D.X q->L.T id=none->L'.T id=none) :
  YN G E bx' lg ops.toList m (q+1) (D.ext q (jU (D.T q) o.dst c) nx' c true) (fun x=>S x||x==q) (a.put o.dst v) R' L':=by
 refine ⟨?_,fun id h1 h2=>?_,?_,?_,fun t=>?_⟩
 ·rw[Vf];exact { hI.good with }
 ·rw[ZU hm]at h1
  rcases Nat.lt_or_ge id (D.X q) with g | g
  ·refine hfr id g (h.free id h1 fun i hmi hi hs hx=>h2 i hmi (by omega) (by rw[hs];rfl) ?_)
   rw[ZU (by omega),ZU (by omega)];exact hx
  ·have h3:=h2 q hm (by omega) (by simp)
   rw[ZU (Nat.le_refl _),Vf]at h3
   exact hI.good.free id (by show nx'<=id;omega)
 ·cases hdst:o.dst<;>simpa [Act.put] using hI.size
 ·have hdf:=hI.df
  cases hdst:o.dst<;>exact hdf
 ·have hold:∀ t,Rep R' L' (val (D.T m) ops.toList D.c (fun j=>decide (m<=j)&&S j) ops.toList.length t) (a.tmps.getD t undef):=fun t=>by
   have:=hI.tm t
   rw[Jw]at this;exact this
  rw[yv hm]
  by_cases hdt:o.dst=some t
  ·have hlt2:t<a.tmps.size:=by rw[hdt]at hd;rw[hI.size];exact hd
   have e1:val (D.T m) ops.toList (D.ext q (jU (D.T q) o.dst c) nx' c true).c (fun j=>decide (m<=j)&&(S j||j==q)) ops.toList.length t=c:=by
    rw[ju (q+1) _ (by omega) fun j hj hj' hdj=>?_]
    ·simp[val,ho,hdt,hm,zed]
    ·have hag:=zaB hok hS ho hi hpre hdj (by simp[qR,hdt]) (by omega)
     simp only[Bool.and_eq_false_iff,Bool.or_eq_false_iff]
     exact .inr ⟨by rw[hag];exact decide_eq_false (by omega),by simp;omega⟩
   rw[e1,hdt]
   have:(a.put (some t) v).tmps.getD t undef=v:=by simp[Act.put,Array.getD_eq_getD_getElem?,hlt2]
   rw[this];exact hr
  ·have e1:val (D.T m) ops.toList (D.ext q (jU (D.T q) o.dst c) nx' c true).c (fun j=>decide (m<=j)&&(S j||j==q)) ops.toList.length t=val (D.T m) ops.toList (D.ext q (jU (D.T q) o.dst c) nx' c true).c (fun j=>decide (m<=j)&&S j) ops.toList.length t:=qw _ fun j hj hdj=>by
    have hji:j≠q:=fun e=>by
     subst e;rw[ho]at hdj;exact hdt hdj
    have hj2:(j==q)=false:=by simpa using hji
    show (decide (m<=j)&&(S j||j==q))=(decide (m<=j)&&S j)
    rw[hj2,Bool.or_false]
   rw[e1,ZB (c':=D.c) _ fun j _ hj=>zfW fun e=>?_]
   ·have e2:(a.put o.dst v).tmps.getD t undef=a.tmps.getD t undef:=by
     cases hdst:o.dst with
     | none=>rfl
     | some d =>
      have hne:d≠t:=fun e=>hdt (by rw[hdst,e])
      simp[Act.put,Array.getD_eq_getD_getElem?,Array.getElem?_setIfInBounds_ne hne]
    rw[e2];exact hold t
   ·subst e
    simp only[Bool.and_eq_true]at hj
    rw[hi]at hj;cases hj.2
theorem zaf {r:Option Nat} {n m q lg fuel:Nat} {Q:Exit->Act->World->Prop} {D:Ya} (hN:∀ o∈ops.toList,Yc E.N o.dst) (hok:Jo ops=true) (hsk:Hg ops.toList m q D) (hl:q<=ops.toList.length)
  {listed:Array Bool} {R:Env} {L:Loc} (hcl:qz ops.toList (fun i=>listed.getD i false)) (h:YN G E bx lg ops.toList m q D (fun i=>listed.getD i false) a R L) {i:Nat} {o:Oper} (hmi:m<=i) (his:i<q) (ho:ops.toList[i]?=some o) (hlf:listed.getD i false=false)
  (hpre:∀ e∈o.after.toList,Region.binds .any e=true->listed.getD e.on false=true) (c3:JW ops (D.T i) o.guard (D.wn i)) (c4:D.wn i=true->zB P G bx (YL o (zx G (D.T i))) (D.X i) o (D.c i) (D.X (i+1))) (c5:D.wn i=false->D.c i = .sc undef/\D.X (i+1)=D.X i)
  (hnext:∀ (v:Value) (R':Env) (L':Loc),YN G E bx lg ops.toList m q D (fun x=>listed.getD x false||x==i) (a.put o.dst v) R' L'->wpAnyIn (Fl r) n P .any ops Q fuel (listed.setIfInBounds i true) (a.put o.dst v) R'.w) :
  wpOpIn (Fl r) n P ops Q i (wpAnyIn (Fl r) n P .any ops Q fuel (listed.setIfInBounds i true)) a R.w:=by
 have next:∀ (v:Value) (R':Env) (L':Loc),qp (D.X i) (D.X (i+1)) R L R' L'->Rep R' L' (D.c i) v->wpAnyIn (Fl r) n P .any ops Q fuel (listed.setIfInBounds i true) (a.put o.dst v) R'.w:=fun v R' L' st hv =>
  hnext v R' L' (h.put hl hsk hok hcl hmi his ho hlf hpre (hN o (List.mem_of_getElem? ho)) st hv)
 have hev:=h.ev hl hsk hok hcl hmi his ho hlf hpre
 have hguard:Region.wanted o (yielded ops a.tmps)=D.wn i:=jC (tm:=D.T i) rfl c3 fun j want d hg hd=>by
  have ht:d∈qR ops o:=by
   unfold qR Oper.looksAt
   rw[hg]
   simp[hd]
  refine ⟨?_,hev d ht⟩
  rw[h.size]
  cases hj:ops[j]? with
  | none=>rw[hj]at hd;cases hd
  | some o' =>
   rw[hj]at hd
   have hd':o'.dst=some d:=hd
   have:=hN o' (by rw[Array.mem_toList_iff];exact Array.mem_of_getElem? hj)
   rw[hd']at this;exact this
 unfold wpOpIn
 have hoa:ops[i]?=some o:=by simpa using ho
 rw[hoa]
 simp only[hguard]
 cases hw:D.wn i with
 | true =>
  simp only[if_true]
  refine jm ?_
  refine ((c4 hw).2 _ R L a.eval h.good.fit (h.freeAt hl hsk hmi his hlf) fun x=>?_).mono fun v w' ⟨R',L',hw',st,hv⟩=>?_
  ·unfold YL
   split
   ·rename_i hx
    cases x with
    | tmp t =>
     refine hev t ?_
     unfold qR Oper.looksAt
     exact List.mem_append_left _ (List.mem_append_left _ (List.mem_filterMap.2 ⟨.tmp t,by simpa using hx,rfl⟩))
    | const v=>exact jh R L v
    | global g =>
     simp only[zx]
     cases hg:G g with
     | none=>unfold Rep;trivial
     | some cs=>exact jZ.2 ⟨g,0,rfl,(h.good.fit.glob g cs hg).1⟩
    | func f=>exact JH.2 ⟨#[],#[],rfl,zj.2 rfl,zj.2 rfl⟩
   ·unfold Rep;trivial
  ·rw[←hw'];exact next v R' L' st hv
 | false =>
  simp only[Bool.false_eq_true,if_false]
  refine ⟨fun f _=>trivial,?_⟩
  obtain ⟨d1,d2⟩:=c5 hw
  have st:qp (D.X i) (D.X (i+1)) R L R L:=by rw[d2];exact qp.refl _ _ _
  exact next undef R L st (by rw[d1];exact zo.2 rfl)
theorem zaa {listed:Array Bool} {n:Nat} (hsz:listed.size=n) (h:listed.toList.count false<=0) {i:Nat} (hi:i<n):listed.getD i false=true:=by
 have hil:i<listed.size:=by omega
 cases hq:listed.getD i false with
 | true=>rfl
 | false =>
  have:listed.toList[i]?=some false:=by
   rw[Array.getD_eq_getD_getElem?,Array.getElem?_eq_getElem hil]at hq
   simp[hil];simpa using hq
  have hpos:0<listed.toList.count false:=List.count_pos_iff.2 (List.mem_of_getElem? this)
  omega
theorem zcB {listed:Array Bool} (hsz:listed.size=ops.size) (h:∀ i,i<ops.size->listed.getD i false=true):Region.ready .any ops listed = []:=by
 cases hq:Region.ready .any ops listed with
 | nil=>rfl
 | cons i rest =>
  obtain ⟨o,ho,h3,_⟩:=qV (ops:=ops) (listed:=listed) (i:=i) (by rw[hq];simp)
  have hio:i<ops.size:=by simpa using (List.getElem?_eq_some_iff.1 ho).1
  have:=(qn hsz hio h3).1
  rw[h i hio]at this;cases this
theorem xo {r:Option Nat} {n m q lg:Nat} {Q:Exit->Act->World->Prop} {D:Ya} {F:Nat->Prop} (hN:∀ o∈ops.toList,Yc E.N o.dst) (hok:Jo ops=true) (hsk:Hg ops.toList m q D) (hq:q<=ops.size)
  (hbeh:∀ i,q<i->i<ops.size->inC (qe ops.toList ops.size) i q=true)
  (hp:∀ (i:Nat) o,m<=i->i<q->ops.toList[i]?=some o->(∃ e,F e/\(e=i∨inC (qe ops.toList ops.size) e i=true)) ∨
   (JW ops (D.T i) o.guard (D.wn i)/\(D.wn i=true->zB P G bx (YL o (zx G (D.T i))) (D.X i) o (D.c i) (D.X (i+1)))/\(D.wn i=false->D.c i = .sc undef/\D.X (i+1)=D.X i)))
  (hEnd:q=ops.size->∀ (listed:Array Bool) (a:Act) (R:Env) (L:Loc),listed.size=ops.size->(∀ i,i<q->listed.getD i false=true)->(∀ i,q<=i->listed.getD i false=false)->YN G E bx lg ops.toList m q D (fun i=>listed.getD i false) a R L->Q .normal a R.w)
  (hNext:∀ (o:Oper) (fuel:Nat) (listed:Array Bool) (a:Act) (R:Env) (L:Loc),ops.toList[q]?=some o->listed.size=ops.size->qz ops.toList (fun i=>listed.getD i false)->(∀ i,i<m->listed.getD i false=true)->(∀ i,q<=i->listed.getD i false=false)->(∀ e,F e->listed.getD e false=true) ->
   (∀ e∈o.after.toList,Region.binds .any e=true->listed.getD e.on false=true)->(listed.setIfInBounds q true).toList.count false<=fuel->YN G E bx lg ops.toList m q D (fun i=>listed.getD i false) a R L ->
   wpOpIn (Fl r) n P ops Q q (wpAnyIn (Fl r) n P .any ops Q fuel (listed.setIfInBounds q true)) a R.w):∀ (fuel:Nat) (listed:Array Bool) (a:Act) (R:Env) (L:Loc),listed.size=ops.size->listed.toList.count false<=fuel ->
  qz ops.toList (fun i=>listed.getD i false)->(∀ i,i<m->listed.getD i false=true)->(∀ i,q<=i->listed.getD i false=false)->(∀ e,F e->listed.getD e false=true)->YN G E bx lg ops.toList m q D (fun i=>listed.getD i false) a R L->wpAnyIn (Fl r) n P .any ops Q fuel listed a R.w:=by
 have hl:q<=ops.toList.length:=by simpa using hq
 have fin:∀ (listed:Array Bool),(∀ i,i<ops.size->listed.getD i false=true)->(∀ i,q<=i->listed.getD i false=false)->q=ops.size:=fun listed h h2=>by
  rcases Nat.lt_or_ge q ops.size with g | g
  ·have:=h q g
   rw[h2 q (Nat.le_refl _)]at this;cases this
  ·omega
 intro fuel
 induction fuel with
 | zero =>
  intro listed a R L hsz hcnt hcl h1 h2 hF h
  have hall:=fun i hi=>zaa (i:=i) hsz hcnt hi
  have hqe:=fin listed hall h2
  exact ⟨zcB hsz hall,hEnd hqe listed a R L hsz (fun i hi=>hall i (by omega)) h2 h⟩
 | succ fuel ih =>
  intro listed a R L hsz hcnt hcl h1 h2 hF h
  refine ⟨fun hr=>?_,fun i hi=>?_⟩
  ·have hall:=JR hok hsz hr
   exact hEnd (fin listed hall h2) listed a R L hsz (fun i hi=>hall i (by omega)) h2 h
  obtain ⟨o,ho,hl0,hpre⟩:=qV hi
  have hio:i<ops.size:=by simpa using (List.getElem?_eq_some_iff.1 ho).1
  obtain ⟨hlf,hil'⟩:=qn hsz hio hl0
  have hil:i<listed.size:=by omega
  have hcnt':(listed.setIfInBounds i true).toList.count false<=fuel:=by
   have:=jr hil'
   rw[Array.toList_setIfInBounds];omega
  have hset:∀ x,(listed.setIfInBounds i true).getD x false=(listed.getD x false||x==i):=fun x=>congrFun (qy hil) x
  have hmi:m<=i:=by
   rcases Nat.lt_or_ge i m with g | g
   ·rw[h1 i g]at hlf;cases hlf
   ·exact g
  rcases Nat.lt_trichotomy i q with g | g | g
  ·rcases hp i o hmi g ho with ⟨e,he,hei⟩ | ⟨c3,c4,c5⟩
   ·have hle:=hF e he
    rcases hei with rfl | hei
    ·rw[hle]at hlf;cases hlf
    ·have:=jT hcl _ e i hei hle
     rw[this]at hlf;cases hlf
   ·exact zaf hN hok hsk hl hcl h hmi g ho hlf hpre c3 c4 c5 fun v R' L' hI=>ih _ _ R' L' (by simpa using hsz) hcnt' (Ja hil hcl ho hpre) (fun k hk=>by rw[hset,h1 k hk];rfl) (fun k hk=>by rw[hset,h2 k hk];simp;omega)
     (fun e he=>by rw[hset,hF e he];rfl) (by rw[qy hil];exact hI)
  ·subst g
   exact hNext o fuel listed a R L ho hsz hcl h1 h2 hF hpre hcnt' h
  ·have:=Ys (hbeh i g hio) hcl ho hpre (by omega)
   rw[h2 q (Nat.le_refl _)]at this;cases this
end
end
section
open Go.RowKit
section
variable {P:Program} {G:zm} {E:Ctx} {σ:St} {o:Oper} {a:Act} {N p:Nat} {bx:List (List C)} {ops:Array Oper}
def HOk (P:Program) (G:zm) (ops:Array Oper) (fs:List MFl) (B:List (List C)) (H:List UW) (m q:Nat) (D:Ya):Prop:=
 ∀ (i:Nat) o,m<=i->i<q->ops.toList[i]?=some o->fs.getD i .pure = .pure->JW ops (D.T i) o.guard (D.wn i)/\(D.wn i=false->D.c i = .sc undef/\D.X (i+1)=D.X i) /\
  ((∃ e,(e<q/\fs.getD e .pure≠.pure)/\inC (qe ops.toList ops.size) e i=true) ∨
   (D.wn i=true->zB P G B (YL o (zx G (D.T i))) (D.X i) o (D.c i) (D.X (i+1))/\(i,fun b=>jY P G b (zx G (D.T i)) o.op (D.X i) fun c' n'=>c'=D.c i/\n'=D.X (i+1))∈H))
theorem HOk.ext {fs:List MFl} {B B':List (List C)} {H H':List UW} {m q:Nat} {D:Ya} {T:List (Nat×C)} {X:Nat} {c:C} {b:Bool} {o:Oper} (h:HOk P G ops fs B H m q D) (ho:ops.toList[q]?=some o)
  (hq:fs.getD q .pure = .pure->JW ops (D.T q) o.guard b/\(b=false->c = .sc undef/\X=D.X q)/\(b=true->zB P G B' (YL o (zx G (D.T q))) (D.X q) o c X/\(q,fun bb=>jY P G bb (zx G (D.T q)) o.op (D.X q) fun c' n'=>c'=c/\n'=X)∈H'))
  (hB:∀ (i:Nat) o',m<=i->i<q->ops.toList[i]?=some o'->fs.getD i .pure = .pure->D.wn i=true->zB P G B (YL o' (zx G (D.T i))) (D.X i) o' (D.c i) (D.X (i+1))/\(i,fun b=>jY P G b (zx G (D.T i)) o'.op (D.X i) fun c' n'=>c'=D.c i/\n'=D.X (i+1))∈H ->
   (fs.getD q .pure≠.pure/\inC (qe ops.toList ops.size) q i=true)∨(zB P G B' (YL o' (zx G (D.T i))) (D.X i) o' (D.c i) (D.X (i+1))/\(i,fun b=>jY P G b (zx G (D.T i)) o'.op (D.X i) fun c' n'=>c'=D.c i/\n'=D.X (i+1))∈H')) :
  HOk P G ops fs B' H' m (q+1) (D.ext q T X c b):=by
 intro i o' hmi hi ho' hf
 by_cases hiq:i=q
 ·subst hiq
  rw[ho]at ho';cases ho'
  obtain ⟨q1,q2,q3⟩:=hq hf
  rw[yv (Nat.le_refl _),ZU (Nat.le_refl _),Vf,zed,znT]
  exact ⟨q1,q2,.inr q3⟩
 ·obtain ⟨q1,q2,q3⟩:=h i o' hmi (by omega) ho' hf
  rw[yv (by omega),ZU (by omega),ZU (by omega),zfW hiq,zoI hiq]
  refine ⟨q1,q2,?_⟩
  rcases q3 with ⟨e,⟨e1,e2⟩,e3⟩ | q3
  ·exact .inl ⟨e,⟨by omega,e2⟩,e3⟩
  ·cases hw:D.wn i with
   | false=>exact .inr fun h=>by cases h
   | true =>
    rcases hB i o' hmi (by omega) ho' hf hw (q3 hw) with ⟨g1,g2⟩ | g
    ·exact .inl ⟨q,⟨by omega,g1⟩,g2⟩
    ·exact .inr fun _=>g
theorem HOk.seg {fs:List MFl} {B:List (List C)} {H:List UW} {m q:Nat} {D:Ya} (h:HOk P G ops fs B H m q D):∀ (i:Nat) o,m<=i->i<q->ops.toList[i]?=some o->(∃ e,(e<q/\fs.getD e .pure≠.pure)/\(e=i∨inC (qe ops.toList ops.size) e i=true)) ∨
   (JW ops (D.T i) o.guard (D.wn i)/\(D.wn i=true->zB P G B (YL o (zx G (D.T i))) (D.X i) o (D.c i) (D.X (i+1)))/\(D.wn i=false->D.c i = .sc undef/\D.X (i+1)=D.X i)):=fun i o hmi hi ho=>by
 by_cases hf:fs.getD i .pure = .pure
 ·obtain ⟨q1,q2,q3⟩:=h i o hmi hi ho hf
  rcases q3 with ⟨e,e1,e2⟩ | q3
  ·exact .inl ⟨e,e1,.inr e2⟩
  ·exact .inr ⟨q1,fun hw=>(q3 hw).1,q2⟩
 ·exact .inl ⟨i,⟨hi,hf⟩,.inl rfl⟩
theorem zkz {r:Option Nat} {n:Nat} {Q:Exit->Act->World->Prop} {K:St->Prop} {Y:Hd} {fs:List MFl} (hY:zhd P Y E) (hN:∀ o∈ops.toList,Yc E.N o.dst) (hok:Jo ops=true) (hmx:xI ops fs=true)
  (hQ:∀ a R L σ,K σ->qE G E σ a R L->Q .normal a R.w):∀ (k m q:Nat) (H:List UW) (B:List (List C)) (lg:Nat) (D:Ya) (fuel:Nat) (listed:Array Bool) (a:Act) (R:Env) (L:Loc),ops.size-q=k->q<=ops.size->m<=q->listed.size=ops.size->listed.toList.count false<=fuel ->
  qz ops.toList (fun i=>listed.getD i false)->(∀ i,i<m->listed.getD i false=true)->(∀ i,q<=i->listed.getD i false=false)->(∀ e,(e<q/\fs.getD e .pure≠.pure)->listed.getD e false=true)->Hg ops.toList m q D->HOk P G ops fs B H m q D ->
  YN G E B lg ops.toList m q D (fun i=>listed.getD i false) a R L->zfK P G Y ops (ops.toList.drop q) (fs.drop q) q H ⟨D.T q,B,D.X q,lg⟩ K->wpAnyIn (Fl r) n P .any ops Q fuel listed a R.w:=by
 intro k
 induction k with
 | zero =>
  intro m q H B lg D fuel listed a R L hk hq hm hsz hcnt hcl h1 h2 hF hsk hH hI hA
  have hqe:q=ops.size:=by omega
  have hql:q<=ops.toList.length:=by simpa using hq
  rw[List.drop_of_length_le (by simp;omega)]at hA
  have hA:K ⟨D.T q,B,D.X q,lg⟩:=hA
  refine xo (F:=fun e=>e<q/\fs.getD e .pure≠.pure) hN hok hsk hq (fun i g1 g2=>by omega) hH.seg (fun _ listed a R L hsz h1 h2 hI=>hQ a R L _ hA (hI.all hql hm hsk h1 h2)) (fun o fuel listed a R L ho=>?_) fuel listed a R L hsz hcnt hcl h1 h2 hF hI
  have:=(List.getElem?_eq_some_iff.1 ho).1
  simp at this;omega
 | succ k ih =>
  intro m q H B lg D fuel listed a R L hk hq hm hsz hcnt hcl h1 h2 hF hsk hH hI hA
  have hqs:q<ops.size:=by omega
  have hql:q<ops.toList.length:=by simpa using hqs
  obtain ⟨o,ho⟩:∃ o,ops.toList[q]?=some o:=⟨_,List.getElem?_eq_getElem hql⟩
  have hdrop:ops.toList.drop q=o :: ops.toList.drop (q+1):=by
   rw[List.drop_eq_getElem_cons hql]
   congr 1
   have:=List.getElem?_eq_getElem hql
   rw[ho]at this
   exact (Option.some.inj this).symm
  have hhead:(fs.drop q).headD .pure=fs.getD q .pure:=by
   rw[List.headD_eq_head?_getD,List.head?_drop,List.getD_eq_getElem?_getD]
  have htail:(fs.drop q).tail=fs.drop (q+1):=by simp
  have hd:=hN o (List.mem_of_getElem? ho)
  rw[hdrop]at hA
  unfold zfK at hA
  rw[hhead,htail]at hA
  cases hfl:fs.getD q .pure with
  | pure =>
   rw[hfl]at hA
   simp only at hA
   obtain ⟨b,hg,hA1,hA2⟩:=qT.out hA
   cases b with
   | true =>
    obtain ⟨c,nx',hp,hK⟩:=Jn (hA1 rfl)
    refine ih m (q+1) _ B lg (D.ext q (jU (D.T q) o.dst c) nx' c true) fuel listed a R L (by omega) (by omega) (by omega) hsz hcnt hcl h1 (fun i hi=>h2 i (by omega)) (fun e he=>hF e ⟨?_,he.2⟩) (hsk.ext ho rfl hp.1) (hH.ext (B':=B) ho (fun _=>⟨hg,fun h=>(by cases h),fun _=>⟨hp,List.mem_cons_self⟩⟩) fun i o' _ _ _ _ _ h=>.inr ⟨h.1,List.mem_cons_of_mem _ h.2⟩) (hI.more hm hp.1 h2) (by rw[uh,Vf];exact hK)
    rcases Nat.lt_or_ge e q with g | g
    ·exact g
    ·have:e=q:=by omega
     subst this;exact absurd hfl he.2
   | false =>
    refine ih m (q+1) _ B lg (D.ext q (jU (D.T q) o.dst (.sc undef)) (D.X q) (.sc undef) false) fuel listed a R L (by omega) (by omega) (by omega) hsz hcnt hcl h1 (fun i hi=>h2 i (by omega)) (fun e he=>hF e ⟨?_,he.2⟩) (hsk.ext ho rfl (Nat.le_refl _)) (hH.ext (B':=B) ho (fun _=>⟨hg,fun _=>⟨rfl,rfl⟩,fun h=>(by cases h)⟩) fun i o' _ _ _ _ _ h=>.inr h) (hI.more hm (Nat.le_refl _) h2) (by rw[uh,Vf];exact hA2 rfl)
    rcases Nat.lt_or_ge e q with g | g
    ·exact g
    ·have:e=q:=by omega
     subst this;exact absurd hfl he.2
  | bar =>
   rw[hfl]at hA
   simp only at hA
   refine xo (F:=fun e=>e<q/\fs.getD e .pure≠.pure) hN hok hsk hq (fun i g1 g2=>Vb hmx hqs (by rw[hfl];intro h;cases h) g2 g1) hH.seg (fun hqe=>by omega) (fun o' fuel listed a R L ho' hsz hcl h1 h2 hF hpre hcnt hI=>?_) fuel listed a R L hsz hcnt hcl h1 h2 hF hI
   rw[ho]at ho';cases ho'
   have hil:q<listed.size:=by omega
   have hall:∀ j,j<q->listed.getD j false=true:=fun j hj=>Ys (zdx hmx hqs hfl hj) hcl ho hpre (by omega)
   have hIV:=hI.all (by omega) hm hsk hall h2
   have hset:∀ x,(listed.setIfInBounds q true).getD x false=(listed.getD x false||x==q):=fun x=>congrFun (qy hil) x
   have next:∀ (σ':St) (a':Act) (R':Env) (L':Loc),zfK P G Y ops (ops.toList.drop (q+1)) (fs.drop (q+1)) (q+1) [] σ' K->qE G E σ' a' R' L'->wpAnyIn (Fl r) n P .any ops Q fuel (listed.setIfInBounds q true) a' R'.w:=fun σ' a' R' L' hA' hI'=>by
    have hlq:∀ i,i<q+1->(listed.setIfInBounds q true).getD i false=true:=fun i hi=>by
     rw[hset]
     rcases Nat.lt_or_ge i q with g | g
     ·rw[hall i g];rfl
     ·have:i=q:=by omega
      simp[this]
    have hlq2:∀ i,q+1<=i->(listed.setIfInBounds q true).getD i false=false:=fun i hi=>by
     rw[hset,h2 i (by omega)];simp;omega
    refine ih (q+1) (q+1) [] σ'.bx σ'.lg ⟨fun _=>σ'.tm,fun _=>σ'.nx,fun _=>.any,fun _=>true⟩ fuel _ a' R' L' (by omega) (by omega) (Nat.le_refl _) (by simpa using hsz) hcnt (Ja hil hcl ho hpre) hlq hlq2 (fun e he=>hlq e he.1) ⟨fun i o h1 h2=>by omega⟩ (fun i o h1 h2=>by omega) ?_ hA'
    refine ⟨{ hI'.good with },fun id hid _=>hI'.good.free id hid,hI'.size,hI'.df,fun t=>?_⟩
    rw[qw (D':=fun _=>false) _ fun j _ _=>by
     by_cases hj:q+1<=j
     ·simp[hlq2 j hj]
     ·simp[hj],ju 0 _ (Nat.zero_le _) fun _ _ _ _=>rfl]
    exact hI'.tm t
   obtain ⟨b,hg,hA1,hA2⟩:=qT.out hA
   have hguard:Region.wanted o (yielded ops a.tmps)=b:=jC (tm:=D.T q) (R:=R) (L:=L) rfl hg fun j want d hgd hdd=>by
    refine ⟨?_,hIV.tm d⟩
    rw[hIV.size]
    cases hj:ops[j]? with
    | none=>rw[hj]at hdd;cases hdd
    | some o' =>
     rw[hj]at hdd
     have hd':o'.dst=some d:=hdd
     have:=hN o' (by rw[Array.mem_toList_iff];exact Array.mem_of_getElem? hj)
     rw[hd']at this;exact this
   unfold wpOpIn
   have hoa:ops[q]?=some o:=by simpa using ho
   rw[hoa]
   simp only[hguard]
   cases b with
   | true =>
    simp only[if_true]
    refine jm ((XU hY (hA1 rfl) hIV).mono fun v w'=>?_)
    rintro ⟨c,σ',R',L',rfl,hI',hv,hK⟩
    exact next _ _ R' L' hK (hI'.put hd hv)
   | false =>
    simp only[Bool.false_eq_true,if_false]
    refine ⟨fun f _=>trivial,next _ _ R L (hA2 rfl) ?_⟩
    have:=hIV.put (dst:=o.dst) (c:=.sc undef) (v:=undef) hd (zo.2 rfl)
    cases hdst:o.dst with
    | none=>rw[hdst]at this;exact this
    | some d=>rw[hdst]at this;exact this
  | flt fr =>
   rw[hfl]at hA
   simp only at hA
   obtain ⟨hgn,hE⟩:=hA
   refine xo (F:=fun e=>e<q/\fs.getD e .pure≠.pure) hN hok hsk hq (fun i g1 g2=>Vb hmx hqs (by rw[hfl];intro h;cases h) g2 g1) hH.seg (fun hqe=>by omega) (fun o' fuel listed a R L ho' hsz hcl h1 h2 hF hpre hcnt hI=>?_) fuel listed a R L hsz hcnt hcl h1 h2 hF hI
   rw[ho]at ho';cases ho'
   have hil:q<listed.size:=by omega
   have hset:∀ x,(listed.setIfInBounds q true).getD x false=(listed.getD x false||x==q):=fun x=>congrFun (qy hil) x
   have hlf:=h2 q (Nat.le_refl _)
   have hev:=zjm (D:=D) (m:=m) (m':=q) (Nat.le_of_lt hql) hsk hok hcl hm (Nat.le_refl _) ho hlf hpre
   have hop2:∀ y,y∈o.op.operands->zx G (zfN (D.T m) ops.toList D.c (fun j=>decide (m<=j)&&listed.getD j false) ops.toList.length) y=zx G (D.T q) y:=fun y hy=>by
    cases y with
    | tmp u =>
     show jy _ u=jy _ u
     rw[Jw]
     refine hev u ?_
     unfold qR Oper.looksAt
     exact List.mem_append_left _ (List.mem_append_left _ (List.mem_filterMap.2 ⟨.tmp u,by simpa using hy,rfl⟩))
    | const v=>rfl
    | global g=>rfl
    | func f=>rfl
   unfold wpOpIn
   have hoa:ops[q]?=some o:=by simpa using ho
   rw[hoa]
   have hguard:Region.wanted o (yielded ops a.tmps)=true:=by unfold Region.wanted;rw[hgn]
   simp only[hguard,if_true]
   refine jm ((ziM hE hop2 hI.toV).mono fun v w'=>?_)
   rintro ⟨c,bx',nx',R',L',rfl,hI',hr,⟨hck,hK⟩,hle,hfr⟩
   refine ih m (q+1) H bx' lg (D.ext q (jU (D.T q) o.dst c) nx' c true) fuel _ (a.put o.dst v) R' L' (by omega) (by omega) (by omega) (by simpa using hsz) hcnt (Ja hil hcl ho hpre) (fun i hi=>by rw[hset,h1 i hi];rfl) (fun i hi=>by rw[hset,h2 i (by omega)];simp;omega) (fun e he=>?_) (hsk.ext ho rfl hle)
    (hH.ext (B':=bx') ho (fun h=>by rw[hfl]at h;cases h) fun i o' hmi hi ho' hf hw h=>?_) (by rw[qy hil];exact YN.eff hql hok hcl hI hm ho hlf hpre hd hI' hr hle hfr) (by rw[uh,Vf];exact hK)
   ·rw[hset]
    rcases Nat.lt_or_ge e q with g | g
    ·rw[hF e ⟨g,he.2⟩];rfl
    ·have:e=q:=by omega
     simp[this]
   ·rcases zbQ hmx hqs hfl hi with g | g
    ·exact .inl ⟨(by rw[hfl];intro h;cases h),g⟩
    ·have h3:=hck.out _ _ h.2 g
     obtain ⟨c2,nx2,hp,e1,e2⟩:=Jn h3
     subst e1 e2
     exact .inr ⟨hp,h.2⟩
end
end
section
open Go.RowKit
def mix (P:Program) (G:zm) (Y:Hd) (ops:Array Oper):List (Nat×MFl)->Nat->List UW->St->(St->Prop)->Prop
 | [],_,_,σ,K=>K σ
 | (i,fl) :: rest,q,H,σ,K=>match ops.toList[i]? with
  | none=>False
  | some o=>match fl with
   | .pure=>qT ops σ.tm o.guard (jY P G σ.bx (zx G σ.tm) o.op σ.nx fun c nx'=>mix P G Y ops rest (q+1) ((q,fun b=>jY P G b (zx G σ.tm) o.op σ.nx fun c' n'=>c'=c/\n'=nx') :: H) ⟨jU σ.tm o.dst c,σ.bx,nx',σ.lg⟩ K)
     (mix P G Y ops rest (q+1) H ⟨jU σ.tm o.dst (.sc undef),σ.bx,σ.nx,σ.lg⟩ K)
   | .bar=>qT ops σ.tm o.guard (Qv P G Y o.op σ fun c σ'=>mix P G Y ops rest (q+1) [] (σ'.put o.dst c) K) (mix P G Y ops rest (q+1) [] (σ.put o.dst (.sc undef)) K)
   | .flt fr=>o.guard=none/\znb P G o.op σ fun c bx' nx'=>YO fr bx' H/\mix P G Y ops rest (q+1) H ⟨jU σ.tm o.dst c,bx',nx',σ.lg⟩ K
def X8 (π:List Nat) (i:Nat):Nat:=(Xn π i).getD π.length
def reO (π:List Nat) (o:Oper):Oper:={ o with after:=o.after.map fun e=>{ e with on:=X8 π e.on },guard:=o.guard.map fun g=>(X8 π g.1,g.2) }
def Yh (π:List Nat) (ops:Array Oper):Array Oper:=(π.map fun i=>reO π (ops.getD i default)).toArray
structure J0 (π:List Nat) (n:Nat):Prop where
 len:π.length=n
 nd:π.Nodup
 lt:∀ i∈π,i<n
 all:∀ i,i<n->i∈π
def zkI (π:List Nat) (n:Nat):Bool:=π.length==n&&decide π.Nodup&&(π.all fun i=>decide (i<n))&&(List.range n).all fun i=>π.contains i
theorem zhP {π:List Nat} {n:Nat} (h:zkI π n=true):J0 π n:=by
 unfold zkI at h
 simp only[Bool.and_eq_true,beq_iff_eq,decide_eq_true_eq,List.all_eq_true,List.mem_range,List.contains_iff_mem]at h
 exact ⟨h.1.1.1,h.1.1.2,h.1.2,h.2⟩
theorem uj:∀ (l:List Nat) (i:Nat),i∈l->∃ j,Xn l i=some j
 | [],i,h=>by cases h
 | x :: r,i,h=>by
  unfold Xn
  by_cases hx:i=x
  ·exact ⟨0,if_pos hx⟩
  ·rw[if_neg hx]
   obtain ⟨j,hj⟩:=uj r i ((List.mem_cons.1 h).resolve_left hx)
   exact ⟨j+1,by rw[hj];rfl⟩
section
variable {P:Program} {G:zm} {E:Ctx} {σ:St} {o:Oper} {a:Act} {N p n:Nat} {bx:List (List C)} {ops:Array Oper} {π:List Nat}
theorem Q0 (h:J0 π n) {i:Nat} (hi:i<n):π[X8 π i]?=some i:=by
 obtain ⟨j,hj⟩:=uj π i (h.all i hi)
 unfold X8
 rw[hj]
 exact Zi π i j hj
theorem GO (h:J0 π n) {i:Nat} (hi:i<n):X8 π i<n:=by
 have:=(List.getElem?_eq_some_iff.1 (Q0 h hi)).1
 rw[h.len]at this;exact this
theorem zk4 (h:J0 π n) {k i:Nat} (hk:π[k]?=some i):X8 π i=k:=by
 have hi:=h.lt i (List.mem_of_getElem? hk)
 exact (List.getElem?_inj (by rw[h.len];exact GO h hi) h.nd).1 ((Q0 h hi).trans hk.symm)
theorem vu (h:J0 π n) {i:Nat} (hi:n<=i):X8 π i=n:=by
 unfold X8
 cases hq:Xn π i with
 | none=>rw[←h.len];rfl
 | some j =>
  have:=h.lt i (List.mem_of_getElem? (Zi π i j hq));omega
theorem XQ (h:J0 π ops.size):(Yh π ops).size=ops.size:=by
 unfold Yh
 simp[h.len]
theorem Q7 (h:J0 π ops.size) {i:Nat} {o:Oper} (hi:ops[i]?=some o):(Yh π ops)[X8 π i]?=some (reO π o):=by
 have hlt:i<ops.size:=(Array.getElem?_eq_some_iff.1 hi).1
 unfold Yh
 rw[List.getElem?_toArray,List.getElem?_map,Q0 h hlt]
 simp only[Option.map_some]
 rw[Array.getD_eq_getD_getElem?,hi];rfl
theorem zdo (h:J0 π ops.size) {i:Nat} (hi:ops.size<=i):(Yh π ops)[X8 π i]?=none:=by
 rw[vu h hi]
 exact Array.getElem?_eq_none (by rw[XQ h];exact Nat.le_refl _)
theorem MG (h:J0 π ops.size) (j:Nat):((Yh π ops)[X8 π j]?).bind (·.dst)=(ops[j]?).bind (·.dst):=by
 cases hq:ops[j]? with
 | none=>rw[zdo h (by simpa using hq)]
 | some o=>rw[Q7 h hq];rfl
theorem NL (h:J0 π ops.size) (tm:List (Nat×C)) (g:Option (Nat×Bool)) (X Y:Prop):qT (Yh π ops) tm (g.map fun g=>(X8 π g.1,g.2)) X Y=qT ops tm g X Y:=by
 cases g with
 | none=>rfl
 | some g =>
  obtain ⟨j,want⟩:=g
  unfold qT
  simp only[Option.map_some]
  rw[MG h]
theorem ziS {Y:Hd} {K:St->Prop} (h:J0 π ops.size):∀ (L:List (Nat×MFl)) (q:Nat) (H:List UW) (σ:St),(∀ x∈L,x.1<ops.size) ->
  mix P G Y ops L q H σ K=zfK P G Y (Yh π ops) (L.map fun x=>reO π (ops.getD x.1 default)) (L.map (·.2)) q H σ K
 | [],q,H,σ,_=>rfl
 | (i,fl) :: rest,q,H,σ,hL=>by
  have hi:i<ops.size:=hL _ List.mem_cons_self
  have ih:=fun q H σ=>ziS (Y:=Y) (K:=K) h rest q H σ fun x hx=>hL x (List.mem_cons_of_mem _ hx)
  have hget:ops.toList[i]?=some ops[i]:=by simp[hi]
  have hgd:ops.getD i default=ops[i]:=by rw[Array.getD_eq_getD_getElem?,Array.getElem?_eq_getElem hi];rfl
  simp only[mix,zfK,List.map_cons,hget,hgd,List.headD_cons,List.tail_cons]
  cases fl with
  | pure =>
   simp only[ih]
   exact (NL h _ _ _ _).symm
  | bar =>
   simp only[ih]
   exact (NL h _ _ _ _).symm
  | flt fr =>
   simp only[ih]
   have:(reO π ops[i]).guard=none↔ops[i].guard=none:=by simp[reO]
   rw[this];rfl
theorem zeL {l:Array Bool} {i:Nat} (h:i<l.size):l[i]?=some (l.getD i false):=by
 rw[Array.getD_eq_getD_getElem?,Array.getElem?_eq_getElem h];rfl
def zbW (π:List Nat) (n:Nat) (listed listed':Array Bool):Prop:=listed.size=n/\listed'.size=n/\∀ i,i<n->listed'.getD (X8 π i) false=listed.getD i false
theorem vV (h:J0 π ops.size) {listed listed':Array Bool} (hL:zbW π ops.size listed listed') {i:Nat} (hi:i∈Region.ready .any ops listed):X8 π i∈Region.ready .any (Yh π ops) listed':=by
 obtain ⟨o,ho,hl0,hpre⟩:=qV hi
 have hio:i<ops.size:=by simpa using (List.getElem?_eq_some_iff.1 ho).1
 obtain ⟨hlf,_⟩:=qn hL.1 hio hl0
 have hoa:ops[i]?=some o:=by simpa using ho
 unfold Region.ready
 rw[List.mem_filter]
 refine ⟨by rw[XQ h];simpa using GO h hio,?_⟩
 have h1:listed'.getD (X8 π i) true=false:=by
  have h2:=hL.2.2 i hio
  rw[hlf]at h2
  rw[Array.getD_eq_getD_getElem?,zeL (by rw[hL.2.1];exact GO h hio),h2];rfl
 rw[h1,Q7 h hoa]
 simp only[Bool.not_false,Bool.true_and,Option.map_some,Option.getD_some]
 rw[Array.all_eq_true_iff_forall_mem]
 intro e he
 simp only[reO,Array.mem_map]at he
 obtain ⟨e0,he0,rfl⟩:=he
 cases hb:Region.binds .any e0 with
 | false =>
  have:Region.binds .any { e0 with on:=X8 π e0.on }=false:=hb
  rw[this];rfl
 | true =>
  have h3:=hpre e0 (by simpa using he0) hb
  have hlt:e0.on<ops.size:=by
   rcases Nat.lt_or_ge e0.on ops.size with g | g
   ·exact g
   ·rw[Array.getD_eq_getD_getElem?,Array.getElem?_eq_none (by rw[hL.1];exact g)]at h3;cases h3
  have h4:=hL.2.2 e0.on hlt
  rw[h3]at h4
  show (!_||listed'.getD (X8 π e0.on) false)=true
  rw[h4];simp
theorem zg6 (h:J0 π ops.size) {listed listed':Array Bool} (hL:zbW π ops.size listed listed') (hr:Region.ready .any ops listed = []):Region.ready .any (Yh π ops) listed' = []:=by
 cases hq:Region.ready .any (Yh π ops) listed' with
 | nil=>rfl
 | cons k rest =>
  exfalso
  have hsz:=XQ h
  obtain ⟨o',ho',hl0,hpre⟩:=qV (ops:=Yh π ops) (listed:=listed') (i:=k) (by rw[hq];simp)
  have hk:k<ops.size:=by rw[←hsz];simpa using (List.getElem?_eq_some_iff.1 ho').1
  have hkl:k<π.length:=by rw[h.len];exact hk
  have hki:π[k]?=some π[k]:=List.getElem?_eq_getElem hkl
  have hi:=h.lt _ (List.mem_of_getElem? hki)
  have hpk:=zk4 h hki
  have hoi:ops[π[k]]?=some ops[π[k]]:=Array.getElem?_eq_getElem hi
  have hg:=Q7 h hoi
  rw[hpk]at hg
  have ho2:(Yh π ops)[k]?=some o':=by simpa using ho'
  rw[hg]at ho2
  cases ho2
  obtain ⟨hlf,_⟩:=qn (ops:=Yh π ops) (by rw[hL.2.1,hsz]) (by rw[hsz];exact hk) hl0
  have h2:=hL.2.2 _ hi
  rw[hpk,hlf]at h2
  have:π[k]∈Region.ready .any ops listed:=by
   unfold Region.ready
   rw[List.mem_filter]
   refine ⟨by simpa using hi,?_⟩
   have h1:listed.getD π[k] true=false:=by
    rw[Array.getD_eq_getD_getElem?,zeL (by rw[hL.1];exact hi),←h2];rfl
   rw[h1,hoi]
   simp only[Bool.not_false,Bool.true_and,Option.map_some,Option.getD_some]
   rw[Array.all_eq_true_iff_forall_mem]
   intro e he
   cases hb:Region.binds .any e with
   | false=>rfl
   | true =>
    have h3:=hpre { e with on:=X8 π e.on } (by simp[reO];exact ⟨e,by simpa using he,rfl,rfl⟩) hb
    have h3:listed'.getD (X8 π e.on) false=true:=h3
    rcases Nat.lt_or_ge e.on ops.size with g | g
    ·rw[hL.2.2 _ g]at h3
     rw[h3];rfl
    ·rw[vu h g,Array.getD_eq_getD_getElem?,Array.getElem?_eq_none (by rw[hL.2.1];exact Nat.le_refl _)]at h3;cases h3
  rw[hr]at this;cases this
theorem zj2 (h:J0 π n) {listed listed':Array Bool} (hL:zbW π n listed listed') {i:Nat} (hi:i<n):zbW π n (listed.setIfInBounds i true) (listed'.setIfInBounds (X8 π i) true):=by
 refine ⟨by simpa using hL.1,by simpa using hL.2.1,fun j hj=>?_⟩
 have e1:=congrFun (qy (listed:=listed) (i:=i) (by rw[hL.1];exact hi)) j
 have e2:=congrFun (qy (listed:=listed') (i:=X8 π i) (by rw[hL.2.1];exact GO h hi)) (X8 π j)
 rw[show (listed.setIfInBounds i true).getD j false=(listed.getD j false||j==i) from e1,show (listed'.setIfInBounds (X8 π i) true).getD (X8 π j) false=(listed'.getD (X8 π j) false||X8 π j==X8 π i) from e2,hL.2.2 j hj]
 by_cases hji:j=i
 ·subst hji;simp
 ·have:X8 π j≠X8 π i:=fun e=>by
   have h1:=Q0 h hj
   rw[e,Q0 h hi]at h1
   exact hji (Option.some.inj h1).symm
  rw[show (X8 π j==X8 π i)=false by rw[beq_eq_false_iff_ne];exact this,show (j==i)=false by rw[beq_eq_false_iff_ne];exact hji]
theorem uu {r:Option Nat} {m:Nat} {Q:Exit->Act->World->Prop} (h:J0 π ops.size):∀ (fuel:Nat) (listed listed':Array Bool) (a:Act) (w:World),zbW π ops.size listed listed' ->
  wpAnyIn (Fl r) m P .any (Yh π ops) Q fuel listed' a w->wpAnyIn (Fl r) m P .any ops Q fuel listed a w
 | 0,listed,listed',a,w,hL,⟨h1,h2⟩=>by
  refine ⟨?_,h2⟩
  cases hq:Region.ready .any ops listed with
  | nil=>rfl
  | cons i rest =>
   have:=vV h hL (i:=i) (by rw[hq];simp)
   rw[h1]at this;cases this
 | fuel+1,listed,listed',a,w,hL,⟨h1,h2⟩=>by
  refine ⟨fun hr=>h1 (zg6 h hL hr),fun i hi=>?_⟩
  obtain ⟨o,ho,hl0,hpre⟩:=qV hi
  have hio:i<ops.size:=by simpa using (List.getElem?_eq_some_iff.1 ho).1
  have hoa:ops[i]?=some o:=by simpa using ho
  have h3:=wpOpIn_mono (K':=wpAnyIn (Fl r) m P .any ops Q fuel (listed.setIfInBounds i true)) (fun a w hh=>uu h fuel _ _ a w (zj2 h hL hio) hh) (h2 _ (vV h hL hi))
  unfold wpOpIn at h3 ⊢
  rw[Q7 h hoa]at h3
  rw[hoa]
  have hw:Region.wanted (reO π o) (yielded (Yh π ops) a.tmps)=Region.wanted o (yielded ops a.tmps):=by
   unfold Region.wanted
   show (match o.guard.map fun g=>(X8 π g.1,g.2) with | none=>true | some (j,want)=>yielded (Yh π ops) a.tmps j==some want)=_
   cases o.guard with
   | none=>rfl
   | some g =>
    simp only[Option.map_some]
    unfold yielded
    rw[MG h]
  simp only[hw]at h3
  exact h3
def zbK:List (Nat×MFl)->List Nat
 | []=>[]
 | (i,.pure) :: r=>(4*i) :: zbK r
 | (i,.bar) :: r=>(4*i+1) :: zbK r
 | (i,.flt fr) :: r=>(4*i+2) :: (fr.map (fun k=>4*k+3)++zbK r)
def zcH:List Nat->List Nat
 | n :: r=>if n % 4=3 then n / 4 :: zcH r else []
 | []=>[]
def zbI:List Nat->List (Nat×MFl)
 | []=>[]
 | n :: r=>if n % 4=0 then (n / 4,.pure) :: zbI r else if n % 4=1 then (n / 4,.bar) :: zbI r else if n % 4=2 then (n / 4,.flt (zcH r)) :: zbI r else zbI r
theorem NA:∀ (fr:List Nat) (L:List (Nat×MFl)),zcH (fr.map (fun k=>4*k+3)++zbK L)=fr
 | [],L=>by
  cases L with
  | nil=>rfl
  | cons x r =>
   obtain ⟨i,fl⟩:=x
   cases fl<;>simp only[List.map_nil,List.nil_append,zbK,zcH]<;>exact if_neg (by omega)
 | k :: fr,L=>by
  simp only[List.map_cons,List.cons_append,zcH]
  rw[if_pos (by omega),NA fr L,show (4*k+3) / 4=k by omega]
theorem uw:∀ (fr:List Nat) (l:List Nat),zbI (fr.map (fun k=>4*k+3)++l)=zbI l
 | [],l=>rfl
 | k :: fr,l=>by
  simp only[List.map_cons,List.cons_append,zbI]
  rw[if_neg (by omega),if_neg (by omega),if_neg (by omega),uw fr l]
theorem QM:∀ L:List (Nat×MFl),zbI (zbK L)=L
 | []=>rfl
 | (i,.pure) :: r=>by
  simp only[zbK,zbI]
  rw[if_pos (by omega),QM r,show 4*i / 4=i by omega]
 | (i,.bar) :: r=>by
  simp only[zbK,zbI]
  rw[if_neg (by omega),if_pos (by omega),QM r,show (4*i+1) / 4=i by omega]
 | (i,.flt fr) :: r=>by
  simp only[zbK,zbI]
  rw[if_neg (by omega),if_neg (by omega),if_pos (by omega),NA,uw,QM r,show (4*i+2) / 4=i by omega]
def unR:List Nat->List Bool
 | []=>[]
 | n :: r=>List.replicate n false++true :: unR r
def zlv:Nat->List Bool->List Nat
 | _,[]=>[]
 | k,false :: r=>zlv (k+1) r
 | k,true :: r=>k :: zlv 0 r
theorem vK:∀ (n k:Nat) (l:List Bool),zlv k (List.replicate n false++true :: l)=(k+n) :: zlv 0 l
 | 0,k,l=>rfl
 | n+1,k,l=>by
  rw[List.replicate_succ,List.cons_append]
  simp only[zlv]
  rw[vK n (k+1) l]
  congr 1;omega
theorem v6:∀ l:List Nat,zlv 0 (unR l)=l
 | []=>rfl
 | n :: r=>by
  simp only[unR]
  rw[vK,v6 r,Nat.zero_add]
def kN (L:List (Nat×MFl)):List Bool:=Xj 199 (unR (zbK L))
def zey (br:List Bool):List (Nat×MFl):=zbI (zlv 0 br)
theorem uC (L:List (Nat×MFl)):zey (unR (zbK L))=L:=by
 unfold zey
 rw[v6,QM]
def y4 (ops:Array Oper) (L:List (Nat×MFl)):Bool:=zkI (L.map (·.1)) ops.size&&(Jo (Yh (L.map (·.1)) ops)&&xI (Yh (L.map (·.1)) ops) (L.map (·.2)))
theorem zdI {r:Option Nat} {n id:Nat} {L0:List (Nat×MFl)} {Q:Exit->Act->World->Prop} {K:St->Prop} {Y:Hd} {w:World} (hY:zhd P Y E) (hm:P.follows .mixedOrders=true) (hN:∀ o∈ops.toList,Yc E.N o.dst) (hall:y4 ops L0=true)
  (h:mix P G Y ops L0 0 [] σ K) (hI:Inv G E σ a w) (hQ:∀ a' w' σ',K σ'->Inv G E σ' a' w'->Q .normal a' w'):(Code.region id ops true).wpIn (Fl r) n P Q a w:=by
 unfold y4 at hall
 simp only[Bool.and_eq_true]at hall
 obtain ⟨hpm,hok,hmx⟩:=hall
 have hπ:=zhP hpm
 rw[ziS hπ L0 0 [] σ fun x hx=>hπ.lt _ (List.mem_map_of_mem hx)]at h
 have hlst:(L0.map fun x=>reO (L0.map (·.1)) (ops.getD x.1 default))=(Yh (L0.map (·.1)) ops).toList:=by
  unfold Yh
  simp
 rw[hlst]at h
 have hsz:=XQ hπ
 have hN':∀ o∈(Yh (L0.map (·.1)) ops).toList,Yc E.N o.dst:=fun o ho=>by
  rw[←hlst]at ho
  obtain ⟨x,hx,rfl⟩:=List.mem_map.1 ho
  have hi:=hπ.lt _ (List.mem_map_of_mem hx)
  have:ops.getD x.1 default=ops[x.1]:=by rw[Array.getD_eq_getD_getElem?,Array.getElem?_eq_getElem hi];rfl
  rw[this]
  exact hN ops[x.1] (by simp)
 obtain ⟨R,L,rfl,hI⟩:=hI
 refine wpIn_region_any hm ?_
 let R':Env:=⟨{ R.w with drawn:=R.w.drawn+1 },R.M,R.F⟩
 have hext:Ext R R':=⟨fun b o v h1 h2=>⟨h1,h2⟩,fun _ _ _ _ h1 h2=>⟨h1,h2⟩⟩
 have hnear:Gy E.w0 E.ex R R':=⟨rfl,rfl,rfl,Nat.le_refl _,rfl,hext,fun b _=>.inl ⟨rfl,fun _=>Iff.rfl⟩⟩
 have hg:=hI.good
 have hinv:qE G E σ a R' L:=by
  refine ⟨hg.move hnear.nigh ⟨hg.fit.glob.ext hext,⟨hg.fit.boxes.len,hg.fit.boxes.nodup,fun i b cs hi hc=>?_⟩,⟨fun id e k v ht=>?_,hg.fit.owns.apart⟩,hg.fit.base⟩ ⟨[],by rw[List.append_nil],fun b hb=>by cases hb⟩ (fun id e k v b ht hv=>.inl ⟨id,e,k,v,ht,hv⟩) hg.free,hI.size,hI.df.near hnear,fun t=>Rep.ext hext (zK.refl _) _ _ (hI.tm t)⟩
  ·obtain ⟨vs,ty,e1,e2,e3,e4⟩:=hg.fit.boxes.box i b cs hi hc
   exact ⟨vs,ty,e1,zu.ext hext (zK.refl _) _ _ e2,e3,e4⟩
  ·exact (hg.fit.owns.own id e k v ht).move fun g _ q2 _ q7=>⟨q2,rfl,q7,fun _ h=>h⟩
 have hlist:∀ i,(Array.replicate ops.size false).getD i false=false:=fun i=>by
  rw[Array.getD_eq_getD_getElem?,Array.getElem?_replicate];split<;>rfl
 refine uu (π:=L0.map (·.1)) hπ ops.size _ (Array.replicate ops.size false) a R'.w ⟨by simp,by simp,fun i _=>by rw[hlist,hlist]⟩ ?_
 refine zkz (E:=E) (R:=R') (L:=L) (fs:=L0.map (·.2)) hY hN' hok hmx (fun a1 R1 L1 σ1 hK h1=>hQ a1 R1.w σ1 hK ⟨R1,L1,rfl,h1⟩) _ 0 0 [] σ.bx σ.lg ⟨fun _=>σ.tm,fun _=>σ.nx,fun _=>.any,fun _=>true⟩ ops.size _ a rfl (Nat.zero_le _) (Nat.le_refl _) (by simp[hsz]) ?_ (fun i o hi h=>?_) (fun i hi=>by omega) (fun i _=>hlist i) (fun e he=>by omega) ⟨fun i o h1 h2=>by omega⟩ (fun i o h1 h2=>by omega) ?_ (by simpa using h)
 ·rw[Array.toList_replicate,List.count_replicate_self];exact Nat.le_refl _
 ·have h:(Array.replicate ops.size false).getD i false=true:=h
  rw[hlist]at h;cases h
 ·refine ⟨{ hinv.good with },fun id hid _=>hinv.good.free id hid,hinv.size,hinv.df,fun t=>?_⟩
  rw[qw (D':=fun _=>false) _ fun j _ _=>by simp[hlist j],ju 0 _ (Nat.zero_le _) fun _ _ _ _=>rfl]
  exact hinv.tm t
end
end
section
open Go.RowKit
def znN (next:St->Prop) (Q:Exit->St->Prop):Exit->St->Prop
 | .normal,σ=>next σ
 | e,σ=>Q e σ
def N8 (id:Nat) (Q:Exit->St->Prop):Exit->St->Prop
 | .exit id',σ=>if id'=id then Q .normal σ else Q (.exit id') σ
 | e,σ=>Q e σ
def zfw (Q:Exit->St->Prop):Exit->St->Prop
 | .goto _,_=>False
 | e,σ=>Q e σ
def zkR (next:St->Prop) (Q:Exit->St->Prop):Exit->St->Prop
 | .normal,σ=>next σ
 | e,σ=>Q e σ
def ziO (p:Nat) (B:(Exit->St->Prop)->St->Prop) (Q:Exit->St->Prop) (σ:St):Prop:=
 ∃ (ι:Type) (I:ι->St) (ok:ι->Prop) (μ:ι->Nat) (i0:ι),ok i0/\zH p σ (I i0)/\∀ i,ok i->B (zkR (fun σ'=>∃ j,ok j/\μ j<μ i/\zH p σ' (I j)) Q) (I i)
def zoA (P:Program) (G:zm) (Y:Hd) (ops:Array Oper):List Oper->St->(St->Prop)->Prop
 | [],σ,K=>K σ
 | o :: rest,σ,K=>qT ops σ.tm o.guard (Qv P G Y o.op σ fun c σ'=>zoA P G Y ops rest (σ'.put o.dst c) K) (zoA P G Y ops rest (σ.put o.dst (.sc undef)) K)
def kj (P:Program) (G:zm) (h:Hd) (ops:Array Oper) (br:List Bool) (σ:St) (K:St->Prop):Prop:=
 match UE br with
 | some (a,s)=>match s==0 with
  | true=>Yi P G h ops (ops.toList.take a) [] σ fun σ'=>zgm P G h (ops.toList.drop a) σ' K
  | false=>jt P G ops a s ops.toList 0 none σ K
 | none=>match VK br with
  | some (s,br')=>match s==199 with
   | true=>mix P G h ops (zey br') 0 [] σ K
   | false=>ub P G h ops s br' σ K
  | none=>Yi P G h ops ops.toList br σ K
def awp (P:Program) (G:zm):Hd->Code->(Exit->St->Prop)->St->Prop
 | _,.skip,Q,σ=>Q .normal σ
 | _,.label _,Q,σ=>Q .normal σ
 | _,.exit id,Q,σ=>Q (.exit id) σ
 | _,.goto l,Q,σ=>Q (.goto l) σ
 | _,.ret,Q,σ=>Q .ret σ
 | h,.seq x y,Q,σ=>awp P G h x (znN (awp P G h y Q) Q) σ
 | h,.cond c x y,Q,σ=>ABr (zx G σ.tm c) (awp P G h x Q σ) (awp P G h y Q σ)
 | h,.block id c,Q,σ=>awp P G h c (N8 id Q) σ
 | h,.loop c,Q,σ=>ziO h.p (awp P G h c) Q σ
 | h,.scope c,Q,σ=>awp P G h c (zfw Q) σ
 | h,.region id ops draw,Q,σ=>match draw with
  | true=>kj P G h ops (h.b id) σ (Q .normal)
  | false=>zoA P G h ops ops.toList σ (Q .normal)
 | h,.rangeFunc f ps x y,Q,σ=>vw P G h.p (fun m=>awp P G ⟨m,h.y,h.b⟩ x) (fun m=>awp P G ⟨m,h.y,h.b⟩ y) Q ps.toList (zx G σ.tm f) σ
 | _,.refuse _,_,_=>False
def jz (N:Nat) (b:Nat->List Bool):Code->Bool
 | .seq x y=>jz N b x&&jz N b y
 | .cond _ x y=>jz N b x&&jz N b y
 | .block _ c=>jz N b c
 | .loop c=>jz N b c
 | .scope c=>jz N b c
 | .region id ops draw=>(ops.toList.all fun o=>match o.dst with | some d=>decide (d<N) | none=>true)&&(!draw||(Jo ops&&match UE (b id) with | some (a,s)=>if s==0 then vt ops a else Z2 ops a s | none=>match VK (b id) with | some (s,br')=>if s==199 then y4 ops (zey br') else H7 ops s br' | none=>XJ ops (b id)))
 | .rangeFunc _ ps x y=>(ps.toList.all fun p=>decide (p<N))&&jz N b x&&jz N b y
 | _=>true
section
variable {P:Program} {G:zm} {E:Ctx} {σ:St} {a:Act} {N p:Nat} {bx:List (List C)} {ops:Array Oper}
theorem ziD {l:List Oper} (h:(l.all fun o=>match o.dst with | some d=>decide (d<N) | none=>true)=true):∀ o∈l,Yc N o.dst:=fun o ho=>by
 have:=List.all_eq_true.1 h o ho
 unfold Yc
 cases hd:o.dst with
 | none=>trivial
 | some d=>simpa [hd] using this
theorem Zn {Y:Hd} (hY:zhd P Y E) {r:Option Nat} {n:Nat} {Q:Exit->Act->World->Prop} {K:St->Prop} (hQ:∀ a' w' σ',K σ'->Inv G E σ' a' w'->Q .normal a' w'):∀ (l:List Oper) (σ:St) (a:Act) (w:World),(∀ o∈l,Yc E.N o.dst)->zoA P G Y ops l σ K->Inv G E σ a w ->
  (∀ (j:Nat) (o:Oper),ops[j]?=some o->Yc E.N o.dst)->wpListIn (Fl r) n P ops Q l a w
 | [],σ,a,w,_,h,hI,_=>hQ a w σ h hI
 | o :: rest,σ,a,w,hd,h,hI,hops=>by
  obtain ⟨b,hg,h1,h2⟩:=qT.out h
  obtain ⟨R,L,rfl,hI⟩:=hI
  have hguard:Region.wanted o (yielded ops a.tmps)=b:=jC (tm:=σ.tm) (R:=R) (L:=L) rfl hg fun j want d hgd hdd=>by
   refine ⟨?_,hI.tm d⟩
   rw[hI.size]
   cases hj:ops[j]? with
   | none=>rw[hj]at hdd;cases hdd
   | some o' =>
    rw[hj]at hdd
    have hd':o'.dst=some d:=hdd
    have:=hops j o' hj
    rw[hd']at this;exact this
  have hdo:=hd o List.mem_cons_self
  have hdr:∀ o'∈rest,Yc E.N o'.dst:=fun o' ho'=>hd o' (List.mem_cons_of_mem _ ho')
  simp only[wpListIn,hguard]
  cases b with
  | true =>
   simp only[if_true]
   refine jm ((XU hY (h1 rfl) hI).mono fun v w'=>?_)
   rintro ⟨c,σ',R',L',rfl,hI',hv,hK⟩
   exact Zn hY hQ rest _ _ _ hdr hK ⟨R',L',rfl,hI'.put hdo hv⟩ hops
  | false =>
   simp only[Bool.false_eq_true,if_false]
   exact ⟨fun f _=>trivial,Zn hY hQ rest _ _ _ hdr (h2 rfl) ⟨R,L,rfl,hI.put hdo (zo.2 rfl)⟩ hops⟩
theorem X9 {F:Fence} {n:Nat} {c:Code} {Q:Exit->Act->World->Prop} {w:World} (h:c.wpIn F n P (Exit.noGoto Q) a w):(Code.scope c).wpIn F n P Q a w:=by
 intro b k cs hro hb hr
 obtain ⟨e,a₁,w₁,hq,harr⟩:=h b (.inScope c :: k) cs hro hb hr
 have h0:StepsIn (Machine.fenced P F) P (lone (b.atR a (.code (.scope c) :: k)) cs w) (lone (b.atR a (.code c :: .inScope c :: k)) cs w):=
  .one (fenced_calm hb hr rfl) (step_lone_go (by simp[stepG,stepG.exec,Frame.atR]))
 cases e with
 | normal=>exact ⟨.normal,a₁,w₁,hq,.trans (.trans h0 harr) (.one (fenced_calm hb hr rfl) (step_lone_go (by simp[stepG,stepG.exec,Frame.atR])))⟩
 | exit id=>exact ⟨.exit id,a₁,w₁,hq,fun k' hk=>StepsIn.trans h0 (harr.1 k' (by simp[exitTo,hk])),fun hr hk=>let ⟨k₁,h1,h2⟩:=harr.2 hr (by simp[exitTo,hk]);⟨k₁,h1,StepsIn.trans h0 h2⟩⟩
 | goto l=>exact hq.elim
 | ret=>exact ⟨_,a₁,w₁,hq,.of_steps h0 harr⟩
 | panic ch=>exact ⟨_,a₁,w₁,hq,.of_steps h0 harr⟩
 | outgrown=>exact ⟨_,a₁,w₁,hq,.of_steps (b:=b) (k:=k) (cs:=cs) (e:=.outgrown) h0 harr⟩
theorem zdw (hm:P.follows .mixedOrders=true):∀ (c:Code) (h:Hd) (E:Ctx) (r:Option Nat) (n:Nat),E.β0.length<=h.p->(∀ y,h.y=some y->YOk P y E.J)->xk r E->∀ (Q:Exit->St->Prop) (σ:St) (a:Act) (w:World),jz E.N h.b c=true->awp P G h c Q σ->Inv G E σ a w->c.wpIn (Fl r) n P (zl6 G E Q) a w:=by
  intro c
  induction c with
  | skip=>exact fun h E r n _ _ _ Q σ a w _ hA hI=>wpIn_skip ⟨σ,hA,hI⟩
  | label l=>exact fun h E r n _ _ _ Q σ a w _ hA hI=>wpIn_label ⟨σ,hA,hI⟩
  | exit id=>exact fun h E r n _ _ _ Q σ a w _ hA hI=>wpIn_exit ⟨σ,hA,hI⟩
  | goto l=>exact fun h E r n _ _ _ Q σ a w _ hA hI=>wpIn_goto ⟨σ,hA,hI⟩
  | ret=>exact fun h E r n _ _ _ Q σ a w _ hA hI=>wpIn_ret ⟨σ,hA,hI⟩
  | refuse s=>exact fun h E r n _ _ _ Q σ a w _ hA hI=>hA.elim
  | rangeFunc f ps x y ihx ihy =>
    intro h E r n hp hY hr Q σ a w hc hA hI
    simp only[jz,Bool.and_eq_true]at hc
    exact xj (fun E' m l Q' σ' a' w' hN hβ hJ hr' hA' hI'=>ihx ⟨m,h.y,h.b⟩ E' (some l) 0 hβ (fun y hy=>by rw[hJ];exact hY y hy) hr' Q' σ' a' w' (by rw[hN];exact hc.1.2) hA' hI')
      (fun E' m l Q' σ' a' w' hN hβ hJ hr' hA' hI'=>ihy ⟨m,h.y,h.b⟩ E' (some l) 0 hβ (fun y hy=>by rw[hJ];exact hY y hy) hr' Q' σ' a' w' (by rw[hN];exact hc.2) hA' hI')
      (fun p hp=>by have:=List.all_eq_true.1 hc.1.1 p hp;simpa using this) hp hr hA hI
  | seq x y ihx ihy =>
    intro h E r n hp hY hr Q σ a w hc hA hI
    simp only[jz,Bool.and_eq_true]at hc
    refine wpIn_seq (wpIn_mono (ihx h E r n hp hY hr _ σ a w hc.1 hA hI) ?_)
    rintro e a' w' ⟨σ',hq,hI'⟩
    cases e<;>first | exact ihy h E r n hp hY hr Q σ' a' w' hc.2 hq hI' | exact ⟨σ',hq,hI'⟩
  | cond c x y ihx ihy =>
    intro h E r n hp hY hr Q σ a w hc hA hI
    simp only[jz,Bool.and_eq_true]at hc
    obtain ⟨b,hb,h1,h2⟩:=ABr.out hA
    obtain ⟨R,L,rfl,hI⟩:=hI
    have hev:=hI.ev c
    rw[hb,zo]at hev
    refine wpIn_cond hev ?_
    cases b with
    | true=>exact ihx h E r n hp hY hr Q σ a _ hc.1 (h1 rfl) ⟨R,L,rfl,hI⟩
    | false=>exact ihy h E r n hp hY hr Q σ a _ hc.2 (h2 rfl) ⟨R,L,rfl,hI⟩
  | block id c ih =>
    intro h E r n hp hY hr Q σ a w hc hA hI
    refine wpIn_block (wpIn_mono (ih h E r n hp hY hr _ σ a w hc hA hI) ?_)
    rintro e a' w' ⟨σ',hq,hI'⟩
    cases e<;>first
      | exact ⟨σ',hq,hI'⟩
      | (simp only[N8]at hq
         simp only[Exit.inBlock]
         split at hq
         · rw[if_pos (by assumption)];exact ⟨σ',hq,hI'⟩
         · rw[if_neg (by assumption)];exact ⟨σ',hq,hI'⟩)
  | scope c ih =>
    intro h E r n hp hY hr Q σ a w hc hA hI
    refine X9 (wpIn_mono (ih h E r n hp hY hr _ σ a w hc hA hI) ?_)
    rintro e a' w' ⟨σ',hq,hI'⟩
    cases e<;>first | exact hq.elim | exact ⟨σ',hq,hI'⟩
  | loop c ih =>
    intro h E r n hp hY hr Q σ a w hc hA hI
    obtain ⟨ι,I,ok,μ,i0,h0,hw,hrd⟩:=hA
    refine wpIn_loop_ghost (fun m a w=>∃ i,ok i/\μ i=m/\Inv G E (I i) a w) (μ i0) ⟨i0,h0,rfl,hI.weak hp hw⟩ ?_
    rintro m a w ⟨i,hi,rfl,hI⟩
    refine wpIn_mono (ih h E r n hp hY hr _ _ a w hc (hrd i hi) hI) ?_
    rintro e a' w' ⟨σ',hq,hI'⟩
    cases e<;>first
      | exact ⟨σ',hq,hI'⟩
      | (obtain ⟨j,hj,hlt,hw'⟩:=hq
         exact ⟨_,hlt,j,hj,rfl,hI'.weak hp hw'⟩)
  | region id ops draw =>
    intro h E r n hp hY hr Q σ a w hc hA hI
    simp only[jz,Bool.and_eq_true]at hc
    have hd:=ziD hc.1
    cases draw with
    | true =>
      have hok:Jo ops=true/\(match UE (h.b id) with | some (a,s)=>if s==0 then vt ops a else Z2 ops a s | none=>match VK (h.b id) with | some (s,br')=>if s==199 then y4 ops (zey br') else H7 ops s br' | none=>XJ ops (h.b id))=true:=by simpa using hc.2
      obtain ⟨ho1,ho2⟩:=hok
      have hA:kj P G h ops (h.b id) σ (Q .normal):=hA
      unfold kj at hA
      cases hl:UE (h.b id) with
      | none =>
        rw[hl]at ho2 hA
        simp only at ho2 hA
        cases hfl:VK (h.b id) with
        | none =>
          rw[hfl]at ho2 hA
          exact zbd ⟨hY,hp⟩ hm hd ho1 ho2 hA hI fun a' w' σ' hK hI'=>⟨_,hK,hI'⟩
        | some q =>
          obtain ⟨s,br'⟩:=q
          rw[hfl]at ho2 hA
          simp only at ho2 hA
          cases hs:s==199 with
          | true =>
            rw[hs]at ho2 hA
            exact zdI ⟨hY,hp⟩ hm hd (by simpa using ho2) hA hI fun a' w' σ' hK hI'=>⟨_,hK,hI'⟩
          | false =>
            rw[hs]at ho2 hA
            exact yO ⟨hY,hp⟩ hm hd ho1 (by simpa using ho2) hA hI fun a' w' σ' hK hI'=>⟨_,hK,hI'⟩
      | some q =>
        obtain ⟨qa,qs⟩:=q
        rw[hl]at ho2 hA
        simp only at ho2 hA
        cases hqs:qs==0 with
        | true =>
          rw[hqs]at ho2 hA
          exact zaC ⟨hY,hp⟩ hm hd ho1 (by simpa using ho2) hA hI fun a' w' σ' hK hI'=>⟨_,hK,hI'⟩
        | false =>
          rw[hqs]at ho2 hA
          exact uE hm hd ho1 (by simpa using ho2) hA hI fun a' w' σ' hK hI'=>⟨_,hK,hI'⟩
    | false =>
      refine wpIn_region_list (Zn ⟨hY,hp⟩ (K:=Q .normal) (fun a' w' σ' hK hI'=>⟨σ',hK,hI'⟩) _ σ a w hd hA hI fun j o hj=>?_)
      exact hd o (by rw[Array.mem_toList_iff];exact Array.mem_of_getElem? hj)
def JG (P:Program) (σ:St) (rv:ResultVar) (K:C->Prop):Prop:=
 match rv with
 | .tmp t=>K (jy σ.tm t)
 | .cell b t=>yK P t (jy σ.tm b) σ.bx K
def zlZ (P:Program) (σ:St) (rs:List ResultVar) (K:C->Prop):Prop:=
 match rs with
 | []=>K (.tup [])
 | [x]=>JG P σ x K
 | [x,y]=>JG P σ x fun c=>JG P σ y fun d=>K (.tup [c,d])
 | [x,y,z]=>JG P σ x fun c=>JG P σ y fun d=>JG P σ z fun e=>K (.tup [c,d,e])
 | [x,y,z,u]=>JG P σ x fun c=>JG P σ y fun d=>JG P σ z fun e=>JG P σ u fun f=>K (.tup [c,d,e,f])
 | _=>False
def Mg (tmps:Array Value):ResultVar->Sem Value
 | .tmp t=>pure (tmps.getD t undef)
 | .cell b t=>do loadVar t (←asAddr (tmps.getD b undef))
theorem qO {R:Env} {L:Loc} (h:qE G E σ a R L) {rv:ResultVar} {K:C->Prop} (hK:JG P σ rv K):∃ v c,(Mg a.tmps rv).run P R.w = .ok v R.w/\Rep R L c v/\K c:=by
 cases rv with
 | tmp t=>exact ⟨_,_,rfl,h.tm t,hK⟩
 | cell b t =>
  obtain ⟨c,h1,h2⟩:=zch K (show yK P t (jy σ.tm b) σ.bx K from hK)
  obtain ⟨v,ad,e1,e2,e3⟩:=h1 R L (a.tmps.getD b undef) h.good.fit.boxes (h.tm b)
  refine ⟨v,c,?_,e3,h2⟩
  rw[e1]at e2
  simp only[Instr.loadAt,Instr.sureAddr,Sem.run_bind,Sem.run_pure,Result.andThen_ok]at e2
  simp only[Mg,e1,asAddr,Sem.run_bind,Sem.run_pure,Result.andThen_ok,e2]
theorem xA {fn:Func} {rs:List ResultVar} (hrs:fn.results.toList=rs) (tmps:Array Value) (w:World):(results fn tmps).run P w=(((rs.mapM (Mg tmps)).run P w).andThen fun vs w'=>.ok (if h:vs.length=1 then vs[0]'(by omega) else .tuple vs.toArray) w'):=by
 have e0:fn.results=rs.toArray:=by rw[←hrs]
 unfold results
 rw[e0,Array.mapM_eq_mapM_toList]
 change (Sem.run P (do
  let vs ←List.toArray <$> List.mapM (Mg tmps) rs
  pure (if h:vs.size=1 then vs[0] else Value.tuple vs)) w)=_
 simp only[Sem.run_bind,Sem.run_map]
 cases h:(rs.mapM (Mg tmps)).run P w with
 | ok vs w' =>
  simp
 | halt x w'=>simp
theorem ziu {fn:Func} {R:Env} {L:Loc} (h:qE G E σ a R L) {rs:List ResultVar} (hrs:fn.results.toList=rs) {K:C->Prop} (hK:zlZ P σ rs K):∃ v c,(results fn a.tmps).run P R.w = .ok v R.w/\Rep R L c v/\K c:=by
 rw[xA hrs]
 unfold zlZ at hK
 split at hK
 ·exact ⟨.tuple #[],_,by simp,ZO.2 ⟨_,rfl,zj.2 rfl⟩,hK⟩
 ·rename_i x
  obtain ⟨v,c,h1,h2,h3⟩:=qO h hK
  exact ⟨v,c,by simp[h1],h2,h3⟩
 ·rename_i x y
  obtain ⟨v,c,h1,h2,hK⟩:=qO h hK
  obtain ⟨v2,c2,g1,g2,hK⟩:=qO h hK
  exact ⟨_,_,by simp[h1,g1],ZO.2 ⟨#[v,v2],rfl,ze.2 ⟨_,_,rfl,h2,ze.2 ⟨_,_,rfl,g2,zj.2 rfl⟩⟩⟩,hK⟩
 ·rename_i x y z
  obtain ⟨v,c,h1,h2,hK⟩:=qO h hK
  obtain ⟨v2,c2,g1,g2,hK⟩:=qO h hK
  obtain ⟨v3,c3,k1,k2,hK⟩:=qO h hK
  exact ⟨_,_,by simp[h1,g1,k1],ZO.2 ⟨#[v,v2,v3],rfl,ze.2 ⟨_,_,rfl,h2,ze.2 ⟨_,_,rfl,g2,ze.2 ⟨_,_,rfl,k2,zj.2 rfl⟩⟩⟩⟩,hK⟩
 ·rename_i x y z u
  obtain ⟨v,c,h1,h2,hK⟩:=qO h hK
  obtain ⟨v2,c2,g1,g2,hK⟩:=qO h hK
  obtain ⟨v3,c3,k1,k2,hK⟩:=qO h hK
  obtain ⟨v4,c4,l1,l2,hK⟩:=qO h hK
  exact ⟨_,_,by simp[h1,g1,k1,l1],ZO.2 ⟨#[v,v2,v3,v4],rfl,ze.2 ⟨_,_,rfl,h2,ze.2 ⟨_,_,rfl,g2,ze.2 ⟨_,_,rfl,k2,ze.2 ⟨_,_,rfl,l2,zj.2 rfl⟩⟩⟩⟩⟩,hK⟩
 ·exact hK.elim
def zja (P:Program) (rs:List ResultVar) (K:C->St->Prop):Exit->St->Prop
 | .normal,σ=>zlZ P σ rs fun c=>K c σ
 | .ret,σ=>zlZ P σ rs fun c=>K c σ
 | _,_=>False
def V9:Nat->List C->List (Nat×C)
 | _,[]=>[]
 | i,c :: r=>(i,c) :: V9 (i+1) r
theorem vk {R:Env} {L:Loc}:∀ (cs:List C) (vs:List Value) (i:Nat) (f:Nat->Value),zu R L cs vs->(∀ (j:Nat) v,vs[j]?=some v->f (i+j)=v)->∀ t,Rep R L (jy (V9 i cs) t) (f t)
 | [],vs,i,f,h,hf,t=>by unfold V9 jy Rep;trivial
 | c :: r,vs,i,f,h,hf,t=>by
  obtain ⟨v,us,rfl,h1,h2⟩:=ze.1 h
  simp only[V9,jy]
  split
  ·subst_vars
   have:=hf 0 v rfl
   rw[Nat.add_zero]at this
   rw[this];exact h1
  ·exact vk r us (i+1) f h2 (fun j v hj=>by
    have:=hf (j+1) v (by simpa using hj)
    rwa [show i+1+j=i+(j+1) by omega]) t
theorem Z7 {L:Loc} {Rr:Ending->World->Prop} {fn:Func} (hE:E.df = []):∀ (l:List Nat) (a:Act) (R:Env),a.defers=l.map JK->l.Nodup->(∀ d∈l,R.w.heap[d]?=some (.deferred (some []))/\E.w0.heap.size<=d/\¬R.F d)->qE G E σ a R L ->
  (∀ a' R',a'.tmps=a.tmps->qE G E σ a' R' L->∃ v,(results fn a.tmps).run P R'.w = .ok v R'.w/\Rr (.returned v) R'.w)->LeavesInM Fence.wide 0 P fn a.tmps Rr a.defers .returning R.w
 | [],a,R,hd,_,_,hI,hk=>by
  rw[hd]
  obtain ⟨v,h1,h2⟩:=hk a R rfl hI
  exact ⟨v,h1,h2⟩
 | d :: l,a,R,hd,hn,hl,hI,hk=>by
  obtain ⟨h1,h2,h3⟩:=hl d List.mem_cons_self
  rw[hd]
  refine ⟨by simp,.inl ⟨d,_,rfl,run_takeDeferred h1,?_⟩⟩
  have hni:=Y9 (E:=E) (R:=R) (o:=.deferred none) (.inl h2) h3 (fun cs t f hc=>by rw[h1]at hc;cases hc)
  have hnT:¬Xd L d:=fun hb=>by
   obtain ⟨_,_,_,hc⟩:=hI.good.turf hb
   rcases hc with ⟨cs,t,f,hc⟩ | ⟨cs,t,hc⟩<;>exact nomatch h1.symm.trans hc
  have hg:=hI.good.stay hni fun b hb=>⟨World.putObj_heap_other fun e=>hnT (e▸hb),fun _=>Iff.rfl⟩
  have hl':∀ x∈l,(R.w.putObj d (.deferred none)).heap[x]?=some (.deferred (some []))/\E.w0.heap.size<=x/\¬R.F x:=fun x hx=>by
   obtain ⟨g1,g2,g3⟩:=hl x (List.mem_cons_of_mem _ hx)
   exact ⟨(World.putObj_heap_other fun e:x=d=>(List.nodup_cons.1 hn).1 (by rw[←e];exact hx)).trans g1,g2,g3⟩
  exact Z7 hE l { a with defers:=l.map JK } ⟨R.w.putObj d (.deferred none),R.M,R.F⟩ rfl (List.nodup_cons.1 hn).2 hl'
   ⟨hg,hI.size,⟨l,by rw[hE,List.append_nil],(List.nodup_cons.1 hn).2,hl'⟩,fun t=>Rep.ext hni.ext (zK.refl _) _ _ (hI.tm t)⟩ hk
theorem Yu {h:Hd} {R:Env} {L:Loc} {f:FuncId} {fn:Func} {code:Code} {vs:List Value} {K:C->St->Prop} {Rr:Ending->World->Prop} (hm:P.follows .mixedOrders=true) (hf:P.funcs[f]?=some fn) (hb:fn.body=some code) (hok:jz fn.ntmps h.b code=true)
  (hN:E.N=fn.ntmps) (hdf:E.df = []) (hp:E.β0.length<=h.p) (hY:∀ y,h.y=some y->YOk P y E.J) (hA:awp P G h code (zja P fn.results.toList K) σ)
  (hI:qE G E σ { tmps:=vs.toArray++Array.replicate (fn.ntmps-vs.toArray.size) undef,defers:=[] } R L)
  (hK:∀ σ' a' R' L' v c,K c σ'->qE G E σ' a' R' L'->Rep R' L' c v->Rr (.returned v) R'.w):Calls P f vs.toArray R.w Rr:=by
 refine (callsIn_wide (n:=0)).1 (callsIn_of_wp_marks hf hb trivial (wpIn_mono (zdw hm code h E none 0 hp hY (fun l0 hl0=>by cases hl0) _ σ _ _ (by rw[hN];exact hok) hA ⟨R,L,rfl,hI⟩) ?_))
 have fin:∀ a' w' σ',zlZ P σ' fn.results.toList (fun c=>K c σ')->Inv G E σ' a' w'->LeavesInM Fence.wide 0 P fn a'.tmps Rr a'.defers .returning w':=by
  rintro a' w' σ' hres ⟨R',L',rfl,hI'⟩
  obtain ⟨l,e,hn,hl⟩:=hI'.df
  rw[hdf,List.append_nil]at e
  refine Z7 hdf l a' R' e hn hl hI' fun a2 R2 ha hI2=>?_
  obtain ⟨v,c,h1,h2,h3⟩:=ziu (fn:=fn) hI2 rfl hres
  rw[ha]at h1
  exact ⟨v,h1,hK σ' a2 R2 L' v c h3 hI2 h2⟩
 rintro e a' w' ⟨σ',hq,hI'⟩
 cases e<;>first | exact hq.elim | exact fin a' w' σ' hq hI'
theorem QN {R:Env} {L:Loc} {args:List C} {vs:List Value} {n:Nat} (hN:args.length<=n) (hargs:zu R L args vs):(vs.toArray++Array.replicate (n-vs.toArray.size) undef).size=n/\∀ t,Rep R L (jy (V9 0 args) t) ((vs.toArray++Array.replicate (n-vs.toArray.size) undef).getD t undef):=by
 have hvl:=zt hargs
 refine ⟨by simp;omega,vk args vs 0 _ hargs fun j v hj=>?_⟩
 have hj':j<vs.length:=(List.getElem?_eq_some_iff.1 hj).1
 rw[Nat.zero_add,Array.getD_eq_getD_getElem?,Array.getElem?_append_left (by simpa using hj')]
 simp[hj]
theorem Uy {R R2:Env} {L:Loc} {b:Nat} {vs:Array Value} {ty:TypeId} (he:Ext R R2) (hh:R2.w.heap[b]?=some (.cells vs ty (0,0))) (hM:∀ o,¬R2.M b o):∀ (cs:List C) (us:List Value) (off:Nat),zu R L cs us->vs.toList.drop off=us->(∀ v∈us,v.oneCell'=true)->zL R2 (C.frzL cs) b off
 | [],_,_,_,_,_=>by unfold C.frzL;exact j9
 | c :: r,us,off,hr,hd,h1=>by
  obtain ⟨v,us',rfl,g1,g2⟩:=ze.1 hr
  unfold C.frzL
  have hv:vs[off]?=some v:=by
   have:=List.getElem?_drop (xs:=vs.toList) (i:=off) (j:=0)
   rw[hd]at this
   simpa using this.symm
  refine qi.2 ⟨⟨v,?_,hM off,Rep.ext he (zK.refl _) _ _ (g1.frz zI),h1 v List.mem_cons_self⟩,Uy he hh hM r us' (off+1) g2 ?_ fun x hx=>h1 x (List.mem_cons_of_mem _ hx)⟩
  ·rw[cell_of_row R2.w b off vs ty (0,0) hh];exact hv
  ·rw[←List.drop_drop,hd];rfl
theorem VM:∀ (n:Nat) (cs:List C),C.frzL (cs.drop n)=(C.frzL cs).drop n
 | 0,_=>rfl
 | n+1,[]=>by simp[C.frzL]
 | n+1,c :: r=>by
  have h:C.frzL (c :: r)=c.frz :: C.frzL r:=by rw[C.frzL]
  rw[h];exact VM n r
mutual
theorem Rep.fz {R R2:Env} {L:Loc} {bx:List (List C)} (he:Ext R R2) (hbx:jX R L bx) (hw:R2.w=R.w) (hM:∀ b∈L.β,∀ o,¬R2.M b o):∀ (c:C) (v:Value),Rep R L c v->Rep R2 L (c.fz bx) v
 | .ptr i off,_,h=>by
  unfold C.fz
  obtain ⟨b,hb,e⟩:=Jh.1 h
  split
  ·rename_i cs hcs
   obtain ⟨vs,ty,e1,e2,e3,e4⟩:=hbx.box i b cs hb hcs
   refine jZ.2 ⟨b,off,e,?_⟩
   rw[←VM]
   refine Uy (L:=L) he (by rw[hw];exact e1) (hM b (List.mem_of_getElem? hb)) _ (vs.toList.drop off) off (qN off e2) rfl fun x hx=>e3 x (List.mem_of_mem_drop hx)
  ·exact Z3
 | .agg cs,_,h=>by
  unfold C.fz;unfold Rep at h ⊢
  obtain ⟨vs,e,hl⟩:=h
  exact ⟨vs,e,zu.fz he hbx hw hM cs _ hl⟩
 | .tup cs,_,h=>by
  unfold C.fz;unfold Rep at h ⊢
  obtain ⟨vs,e,hl⟩:=h
  exact ⟨vs,e,zu.fz he hbx hw hM cs _ hl⟩
 | .clo fn first cap,_,h=>by
  unfold C.fz;unfold Rep at h ⊢
  obtain ⟨fs,cs,e,h1,h2⟩:=h
  exact ⟨fs,cs,e,zu.fz he hbx hw hM first _ h1,zu.fz he hbx hw hM cap _ h2⟩
 | .sc v,_,h=>Rep.ext he (zK.refl _) _ _ h
 | .str l,_,h=>Rep.ext he (zK.refl _) _ _ h
 | .sl k rows,_,h=>Rep.ext he (zK.refl _) _ _ h
 | .tight k rows,_,h=>Rep.ext he (zK.refl _) _ _ h
 | .own id e k rows,_,h=>Rep.ext he (zK.refl _) _ _ h
 | .mo id t ks vs,_,h=>Rep.ext he (zK.refl _) _ _ h
 | .row cs,_,h=>Rep.ext he (zK.refl _) _ _ h
 | .bs i off k n c,_,h=>by unfold C.fz;exact Z3
 | .any,_,h=>Rep.ext he (zK.refl _) _ _ h
theorem zu.fz {R R2:Env} {L:Loc} {bx:List (List C)} (he:Ext R R2) (hbx:jX R L bx) (hw:R2.w=R.w) (hM:∀ b∈L.β,∀ o,¬R2.M b o):∀ (cs:List C) (vs:List Value),zu R L cs vs->zu R2 L (C.fzL bx cs) vs
 | [],_,h=>by unfold C.fzL;rw[zj]at h ⊢;exact h
 | c :: r,_,h=>by
  unfold C.fzL;rw[ze]at h ⊢
  obtain ⟨v,us,e,h1,h2⟩:=h
  exact ⟨v,us,e,Rep.fz he hbx hw hM c v h1,zu.fz he hbx hw hM r us h2⟩
end
theorem Fun.of_awp {f:FuncId} {fn:Func} {code:Code} {args:List C} {r:C} {n:Nat} (b:Nat->List Bool) (hm:P.follows .mixedOrders=true) (hf:P.funcs[f]?=some fn) (hb:fn.body=some code) (hnm:(fn.name == "runtime.NumGoroutine")=false) (hN:args.length<=fn.ntmps) (hok:jz fn.ntmps b code=true)
  (h:awp P G ⟨0,none,b⟩ code (zja P fn.results.toList fun c σ=>∃ src:Src,Vp src=true/\src.length=n/\CLe src 0 (c.fz σ.bx) r) ⟨V9 0 args,[],0,0⟩):Fun P G f args r n:=by
 refine ⟨by unfold Yy;rw[hf];simp[hnm,hb],fun R vs hg hargs=>?_⟩
 let E:Ctx:=⟨R.w,R.M,[],fun _=>False,fn.ntmps,[],fun _=>False,fun _=>False,fun _ h=>h,fun _ _=>True,fun _ _ _ _ _=>trivial⟩
 let R0:Env:=⟨R.w,R.M,fun _=>False⟩
 have hx:Ext R R0:=⟨fun _ _ _ h1 h2=>⟨h1,h2⟩,fun _ _ _ _ h1 h2=>⟨h1,h2⟩⟩
 have hargs0:zu R0 zI args vs:=zu.ext hx (zK.refl _) _ _ hargs
 obtain ⟨i1,i2⟩:=QN hN hargs0
 have hinv:qE G E ⟨V9 0 args,[],0,0⟩ { tmps:=vs.toArray++Array.replicate (fn.ntmps-vs.toArray.size) undef,defers:=[] } R0 zI:=
  ⟨⟨⟨hg.ext hx,⟨rfl,List.nodup_nil,fun i b cs hi=>(by simp at hi)⟩,⟨fun id e k v ht=>(by cases ht),fun id id' e k v e' k' v' b ht=>(by cases ht)⟩,fun g hg=>.inl hg⟩,rfl,rfl,rfl,Nat.le_refl _,fun _ _ _ _=>⟨rfl,fun _=>Iff.rfl⟩,⟨fun _ _ _ h1 h2=>⟨h1,h2⟩,fun _ _ _ _ h1 h2=>⟨h1,h2⟩⟩,⟨[],rfl⟩,fun b hb=>(by cases hb),fun _ h=>h.elim,fun _ _=>Iff.rfl,fun b hb=>(by cases hb),fun id e k v b ht=>(by cases ht),fun _ _=>rfl,trivial⟩,i1,⟨[],rfl,List.nodup_nil,fun d hd=>(by cases hd)⟩,i2⟩
 refine Yu (E:=E) (R:=R0) hm hf hb hok rfl rfl (Nat.zero_le _) (fun y hy=>by cases hy) h hinv ?_
 rintro σ' a' R' L' v c ⟨src,h3,h4,h5⟩ hI h2
 have hgd:=hI.good
 have hblk:∀ b,b<R.w.heap.size->R'.w.heap[b]?=R.w.heap[b]?/\∀ o,(R'.M b o↔R.M b o):=fun b hb=>hgd.blk b hb (fun h=>h) fun hF=>(hgd.fz b hb).1 hF
 have hx':Ext R' ⟨R'.w,fun b o=>R'.M b o/\b∉L'.β,R.F⟩:=⟨fun _ _ _ h1 h2=>⟨h1,fun h=>h2 h.1⟩,fun _ _ _ _ h1 h2=>⟨h1,fun o h=>h2 o h.1⟩⟩
 have how:=VA (β':=[]) h3 (fun b hb=>(by cases hb)) hgd.fit.owns
 have hnew:∀ b∈L'.β,R.w.heap.size<=b:=fun b hb=>(hgd.tub b hb).elim id fun g=>g.elim
 have hfz:Rep ⟨R'.w,fun b o=>R'.M b o/\b∉L'.β,R.F⟩ L' (c.fz σ'.bx) v:=Rep.fz hx' hgd.fit.boxes rfl (fun b hb o h=>h.2 hb) _ _ h2
 refine ⟨v,⟨R'.w,fun b o=>R'.M b o/\b∉L'.β,R.F⟩,Jk src 0 L',rfl,rfl,⟨⟨hgd.os,hgd.tape,hgd.output,hgd.size,fun b hb=>(hblk b hb).1⟩,rfl,by simp,fun b o hb=>?_,fun id hi=>?_,fun id e k v hi hj ht=>?_,fun id id' e k v e' k' v' b hi hi2 hj hj2 h6 h7 h8 h9=>?_⟩,Rep.less _ _ _ h5 hfz⟩
 ·refine ⟨fun h=>((hblk b hb).2 o).1 h.1,fun h=>⟨((hblk b hb).2 o).2 h,fun hx=>?_⟩⟩
  have:=hnew b hx;omega
 ·show Zk src L'.T id=none
  unfold Zk
  rw[List.getElem?_eq_none (by omega)]
 ·have hob:=hgd.fit.owns
  ·refine (how.own id e k v ht).move fun g hv q2 hlt q7=>?_
   have hnb:g∉L'.β:=by
    obtain ⟨i,_,hi2⟩:=YQ (R:=R) ht hv
    exact ((hob.own i e k v hi2).block hv).2.2
   refine ⟨?_,rfl,q7,fun o ho=>⟨ho,hnb⟩⟩
   rcases q2 with q2 | q2
   ·exact q2
   ·exact q2.elim
 ·exact how.apart id id' e k v e' k' v' b h6 h7 h8 h9
theorem JI.of_awpK {f:FuncId} {fn:Func} {code:Code} {args:List C} {bx:List (List C)} {q:Nat} {post:C->List (List C)->Nat->Prop} {K0:C->St->Prop} (b:Nat->List Bool) (hm:P.follows .mixedOrders=true) (hf:P.funcs[f]?=some fn) (hb:fn.body=some code) (hnm:(fn.name == "runtime.NumGoroutine")=false) (hN:args.length<=fn.ntmps) (hok:jz fn.ntmps b code=true)
  (h:awp P G ⟨bx.length,none,b⟩ code (zja P fn.results.toList K0) ⟨V9 0 args,bx,q,0⟩) (hK0:∀ c σ,K0 c σ->∃ r bx' n,(post r bx' n/\bx.length<=bx'.length)/\∃ src:Src,Vp src=true/\src.length=n/\za src bx'.length σ.bx bx'/\CLe src bx'.length c r):JI P G f args bx q post:=by
 refine ⟨by unfold Yy;rw[hf];simp[hnm,hb],fun R L vs hg hbx how hfree hflt hFT hargs=>?_⟩
 let E:Ctx:=⟨R.w,R.M,L.β,Xd L,fn.ntmps,[],fun _=>False,fun b=>b∈L.β,fun _ h=>.inl h,fun _ _=>True,fun _ _ _ _ _=>trivial⟩
 let R0:Env:=⟨R.w,R.M,fun _=>False⟩
 have hx:Ext R R0:=⟨fun _ _ _ h1 h2=>⟨h1,h2⟩,fun _ _ _ _ h1 h2=>⟨h1,h2⟩⟩
 have hargs0:zu R0 L args vs:=zu.ext hx (zK.refl _) _ _ hargs
 obtain ⟨i1,i2⟩:=QN hN hargs0
 have hinv:qE G E ⟨V9 0 args,bx,q,0⟩ { tmps:=vs.toArray++Array.replicate (fn.ntmps-vs.toArray.size) undef,defers:=[] } R0 L:=by
  refine ⟨⟨⟨hg.ext hx,⟨hbx.len,hbx.nodup,fun i b cs hi hc=>?_⟩,⟨fun id e k v ht=>?_,how.apart⟩,fun g hg=>.inl hg⟩,rfl,rfl,rfl,Nat.le_refl _,fun _ _ _ _=>⟨rfl,fun _=>Iff.rfl⟩,⟨fun _ _ _ h1 h2=>⟨h1,h2⟩,fun _ _ _ _ h1 h2=>⟨h1,h2⟩⟩,⟨[],by simp[E]⟩,fun b hb=>.inr hb,fun _ h=>h.elim,fun _ _=>Iff.rfl,fun b hb h=>h,fun id e k v b ht hv h=>h,hfree,trivial⟩,i1,⟨[],rfl,List.nodup_nil,fun d hd=>(by cases hd)⟩,i2⟩
  ·obtain ⟨vs,ty,e1,e2,e3,e4⟩:=hbx.box i b cs hi hc
   exact ⟨vs,ty,e1,zu.ext hx (zK.refl _) _ _ e2,e3,e4⟩
  ·exact (how.own id e k v ht).move fun g hv q2 _ q7=>⟨.inr (.inr ⟨id,e,k,v,ht,hv⟩),rfl,q7,fun _ h=>h⟩
 refine Yu (E:=E) (R:=R0) hm hf hb hok rfl rfl (by show L.β.length<=bx.length;rw[hbx.len];exact Nat.le_refl _) (fun y hy=>by cases hy) h hinv ?_
 rintro σ' a' R' L' v c h0 hI h2
 obtain ⟨r,bx',n,⟨hpost,hlen⟩,src,h3,h4,h5,h6⟩:=hK0 _ _ h0
 have hgd:=hI.good
 have hwk:zH bx.length ⟨[],σ'.bx,σ'.nx,σ'.lg⟩ ⟨[],bx',n,σ'.lg⟩:=⟨src,h3,h4,hlen,rfl,trivial,h5⟩
 have hx':Ext R' ⟨R'.w,R'.M,R.F⟩:=⟨fun _ _ _ h1 h2=>⟨h1,h2⟩,fun _ _ _ _ h1 h2=>⟨h1,h2⟩⟩
 have hblen:σ'.bx.length=L'.β.length:=hgd.fit.boxes.len.symm
 have hle:bx'.length<=σ'.bx.length:=by
  rcases Nat.lt_or_ge σ'.bx.length bx'.length with hx | hx
  ·obtain ⟨cs,hc,_⟩:=YK h5 σ'.bx.length (bx'[σ'.bx.length]) (List.getElem?_eq_getElem hx)
   simp at hc
  ·exact hx
 obtain ⟨more,hm1⟩:=hgd.box
 have hm1:L'.β=L.β++more:=hm1
 have hbl:=hbx.len
 have hown:=VA (β':=L'.β.take bx'.length) h3 (fun b hb=>List.mem_of_mem_take hb) hgd.fit.owns
 have hblk:∀ b,b<R.w.heap.size->¬Xd L b->R'.w.heap[b]?=R.w.heap[b]?/\∀ o,(R'.M b o↔R.M b o):=fun b hb hT=>hgd.blk b hb hT fun hF=>(hgd.fz b hb).1 hF
 have hcells:∀ b,Xd L b->(∃ cs t f,R.w.heap[b]?=some (.cells cs t f))∨∃ es cl,R.w.heap[b]?=some (.map es cl):=fun b hT=>by
  rcases hT with hT | ⟨id,e,k,v,ht,hv⟩
  ·obtain ⟨i,hi,rfl⟩:=List.getElem_of_mem hT
   obtain ⟨vs,ty,g,_⟩:=hbx.box i L.β[i] (bx[i]'(by omega)) (List.getElem?_eq_getElem hi) (List.getElem?_eq_getElem (by omega))
   exact .inl ⟨_,_,_,g⟩
  ·exact (how.own id e k v ht).held hv
 refine ⟨r,bx',n,⟨hpost,hlen⟩,v,⟨R'.w,R'.M,R.F⟩,Jk src bx'.length L',rfl,rfl,⟨hgd.os,hgd.tape,hgd.output,hgd.size,rfl,⟨hgd.ext.cell,hgd.ext.whole⟩,fun b hb=>?_⟩,⟨by simp;omega,hgd.fit.boxes.nodup.sublist (List.take_sublist _ _),fun i b cs' hi hc=>?_⟩,⟨fun id e k v ht=>?_,hown.apart⟩,⟨more.take (bx'.length-L.β.length),?_,fun b hb=>?_⟩,fun id hi=>?_,Rep.ext hx' (zK.refl _) _ _ (Rep.less _ _ _ h6 h2)⟩
 ·by_cases hT:Xd L b
  ·exact .inr ⟨.inr hT,hFT b hT,hcells b hT⟩
  ·exact .inl (hblk b hb hT)
 ·obtain ⟨cs,hc1,hc2⟩:=YK h5 i cs' hc
  have hi':L'.β[i]?=some b:=by
   have hi:(L'.β.take bx'.length)[i]?=some b:=hi
   rw[List.getElem?_take]at hi
   split at hi
   ·exact hi
   ·cases hi
  obtain ⟨vs,ty,e1,e2,e3,e4⟩:=hgd.fit.boxes.box i b cs hi' hc1
  exact ⟨vs,ty,e1,zu.ext hx' (zK.refl _) _ _ (zu.less _ _ _ hc2 e2),e3,e4⟩
 ·exact (hown.own id e k v ht).move fun g _ q2 _ q7=>⟨q2,rfl,q7,fun _ h=>h⟩
 ·show L'.β.take bx'.length=_
  rw[hm1,List.take_append,List.take_of_length_le (by omega)]
 ·have hb':b∈more:=List.mem_of_mem_take hb
  have hbm:b∈L'.β:=by rw[hm1];exact List.mem_append_right _ hb'
  rcases hgd.tub b hbm with g | g
  ·exact g
  ·have hn:=hgd.fit.boxes.nodup
   rw[hm1,List.nodup_append]at hn
   exact absurd rfl (hn.2.2 b g b hb')
 ·show Zk src L'.T id=none
  unfold Zk
  rw[List.getElem?_eq_none (by omega)]
theorem JI.of_awp {f:FuncId} {fn:Func} {code:Code} {args:List C} {bx:List (List C)} {q:Nat} {post:C->List (List C)->Nat->Prop} (b:Nat->List Bool) (hm:P.follows .mixedOrders=true) (hf:P.funcs[f]?=some fn) (hb:fn.body=some code) (hnm:(fn.name == "runtime.NumGoroutine")=false) (hN:args.length<=fn.ntmps) (hok:jz fn.ntmps b code=true)
  (h:awp P G ⟨bx.length,none,b⟩ code (zja P fn.results.toList fun c σ=>∃ r bx' n,(post r bx' n/\bx.length<=bx'.length)/\∃ src:Src,Vp src=true/\src.length=n/\za src bx'.length σ.bx bx'/\CLe src bx'.length c r) ⟨V9 0 args,bx,q,0⟩):JI P G f args bx q post:=
 JI.of_awpK b hm hf hb hnm hN hok h fun _ _ h=>h
theorem Vd.of_awp {f:FuncId} {fn:Func} {code:Code} {args:List C} {bx bx':List (List C)} {r:C} {q n:Nat} (b:Nat->List Bool) (hm:P.follows .mixedOrders=true) (hf:P.funcs[f]?=some fn) (hb:fn.body=some code) (hnm:(fn.name == "runtime.NumGoroutine")=false) (hN:args.length<=fn.ntmps) (hok:jz fn.ntmps b code=true) (hlen:bx.length<=bx'.length)
  (h:awp P G ⟨bx.length,none,b⟩ code (zja P fn.results.toList fun c σ=>∃ src:Src,Vp src=true/\src.length=n/\za src bx'.length σ.bx bx'/\CLe src bx'.length c r) ⟨V9 0 args,bx,q,0⟩):Vd P G f args bx q r bx' n:=
 JI.of_awpK b hm hf hb hnm hN hok h fun c σ h=>⟨r,bx',n,⟨⟨rfl,rfl,rfl⟩,hlen⟩,h⟩
theorem ko.of_awp {f:FuncId} {fn:Func} {code:Code} {first cap:List C} {bx items:List (List C)} (b:Nat->List Bool) (hm:P.follows .mixedOrders=true) (hf:P.funcs[f]?=some fn) (hb:fn.body=some code) (hnm:(fn.name == "runtime.NumGoroutine")=false) (hN:first.length+1+cap.length<=fn.ntmps) (hok:jz fn.ntmps b code=true)
  (h:∀ (l:Nat) (st:Nat->Bool),awp P G ⟨0,some ⟨l,items,st⟩,b⟩ code (zja P fn.results.toList fun c σ=>zlI items st σ.lg) ⟨V9 0 (first++[.sc (.func (.yield l) #[] #[])]++cap),bx,0,0⟩):ko P G f first cap bx items:=by
 refine ⟨by unfold Yy;rw[hf];simp[hnm,hb],fun l st J R L us vs hg hbx hT hflt hfb hstab hYk hJ hus hvs=>?_⟩
 let E:Ctx:=⟨R.w,R.M,[],fun b=>b∈L.β,fn.ntmps,[],R.F,fun b=>b∈L.β,fun _ h=>h,J,hstab⟩
 have hargs:zu R L (first++[.sc (.func (.yield l) #[] #[])]++cap) (us++[Value.func (.yield l) #[] #[]]++vs):=zn (zn hus (ze.2 ⟨_,_,rfl,zo.2 rfl,zj.2 rfl⟩)) hvs
 obtain ⟨i1,i2⟩:=QN (n:=fn.ntmps) (by simp;omega) hargs
 have hinv:qE G E ⟨V9 0 (first++[.sc (.func (.yield l) #[] #[])]++cap),bx,0,0⟩ { tmps:=(us++[Value.func (.yield l) #[] #[]]++vs).toArray++Array.replicate (fn.ntmps-(us++[Value.func (.yield l) #[] #[]]++vs).toArray.size) undef,defers:=[] } R L:=
  ⟨⟨⟨hg,hbx,⟨fun id e k v ht=>(by rw[hT]at ht;cases ht),fun id id' e k v e' k' v' b ht=>(by rw[hT]at ht;cases ht)⟩,fun g hg=>.inl hg⟩,rfl,rfl,rfl,Nat.le_refl _,fun _ _ _ _=>⟨rfl,fun _=>Iff.rfl⟩,⟨fun _ _ _ h1 h2=>⟨h1,h2⟩,fun _ _ _ _ h1 h2=>⟨h1,h2⟩⟩,⟨L.β,rfl⟩,fun b hb=>.inr hb,hflt,fun _ _=>Iff.rfl,hfb,fun id e k v b ht=>(by rw[hT]at ht;cases ht),fun id _=>hT id,hJ⟩,i1,⟨[],rfl,List.nodup_nil,fun d hd=>(by cases hd)⟩,i2⟩
 refine Yu (E:=E) hm hf hb hok rfl rfl (Nat.zero_le _) (fun y hy=>by cases hy;exact hYk) (h l st) hinv ?_
 rintro σ' a' R' L' v c hend hI h2
 exact ⟨v,R',σ'.lg,rfl,rfl,hI.good.log,hend⟩
end
end
end Go.Proofs.YtiblepfehggicaaGreatDoor.Vcg
