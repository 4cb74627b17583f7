/- What the proof of LnsPlaces leans on, part 2: Vcg24 Vcg25 Vcg13 Vcg14 Vcg15 Vcg16 Vcg20 Vcg21 Vcg22 Vcg27 Vcg35 Vcg30 Vcg31 Vcg32 Vcg33 Vcg34 Vcg17. No condition beyond what each theorem states. -/
import Derived.Test.YtaipngaejfndgaaGreatDoorLnsPlacesKa
import Derived.Lib.AppendZerosOnto
import Derived.RangeFuncSeq
import Derived.OrdersIn
import Derived.RangeFuncNested
import Derived.RangeFuncLeaves
set_option linter.unusedVariables false
set_option linter.unusedSimpArgs false
set_option linter.unusedSectionVars false
set_option maxRecDepth 100000
set_option maxHeartbeats 4000000
namespace Go.Proofs.YtaipngaejfndgaaGreatDoor.Vcg
variable {c:C} {vs:Array Value} {ty t:TypeId} {b:Bool} {n nx g X m' lg i q:Nat} {f:FuncId} {x:Operand} {R R':Env} {L:Loc} {ds:List Deferred} {r:Option Nat} {args:List C} {w:World} {l:List Oper} {Q:Exit->Act->World->Prop} {tm tm1 tm2 T:List (Nat×C)} {K:St->Prop} {S:Nat->Bool} {listed:Array Bool} {o:Oper} {fn:Func} {code:Code}
section
open Go.RowKit
def C.flatB:C->Bool
 | .sc _=>true
 | .str _=>true
 | _=>false
mutual
/-- what leans on no memory but its own owners' -/
def C.freshB:C->Bool
 | .sc _=>true
 | .str _=>true
 | .agg cs=>C.freshL cs
 | .tup cs=>C.freshL cs
 | .own _ _ _ rows=>rows.all fun r=>r.all C.flatB
 | _=>false
def C.freshL:List C->Bool
 | []=>true
 | c :: r=>c.freshB&&C.freshL r
end
mutual
/-- what is lent: a slice over a box as the rows that stand there; all else as handed in by value -/
def Yf (bx:List (List C)):C->C->Prop
 | .bs i off k n c,d=>∃ rows cs,d = .sl k rows/\rows.length=n/\n<=c/\c<=maxLen/\bx[i]?=some cs/\(∀ r∈rows,r.length=k)/\C.frzL ((cs.drop off).take (n*k))=rows.flatten
 | .agg cs,d=>∃ ds,d = .agg ds/\Ju bx cs ds
 | .ptr i off,d=>∃ cs,bx[i]?=some cs/\d = .row ((C.frzL cs).drop off)
 | .clo fn first cap,d=>∃ fs cs,d = .clo fn fs cs/\Ju bx first fs/\Ju bx cap cs
 | c,d=>d=c.frz
def Ju (bx:List (List C)):List C->List C->Prop
 | [],d=>d = []
 | c :: r,d=>∃ e s,d=e :: s/\Yf bx c e/\Ju bx r s
end
section
variable {P:Program} {G:zp} {E:Ctx} {σ:St} {o:Oper} {a:Act} {R R':Env} {L L':Loc} {bx:List (List C)} {B:Nat->Prop}
def MH (R:Env) (L:Loc):Env:=⟨R.w,fun b o=>R.M b o/\b∉L.β,R.F⟩
theorem jE (R:Env) (L:Loc):Ext R (MH R L):=⟨fun b o v h h'=>⟨h,fun x=>h' x.1⟩,fun _ _ _ _ h h'=>⟨h,fun o x=>h' o x.1⟩⟩
theorem zkc {v:Value} (hc:c.flatB=true) (h:Rep R L c v):Rep R' L' c v:=by
 cases c<;>simp[C.flatB]at hc
 ·rw[zq]at h ⊢;exact h
 ·rw[zY]at h ⊢;exact h
theorem GS:∀ (cs:List C) (i:Nat),(C.frzL cs)[i]?=(cs[i]?).map C.frz
 | [],i=>by simp[C.frzL]
 | c :: r,0=>by rw[C.frzL];rfl
 | c :: r,i+1=>by rw[C.frzL,Bu,Bu];exact GS r i
theorem zhI {rows:List (List C)} {cs:List C} {b off k:Nat} (hh:R.w.heap[b]?=some (.cells vs ty (0,0))) (hrep:zy R L cs vs.toList) (hone:∀ v∈vs.toList,v.oneCell'=true) (hb:b∈L.β)
  (hk:∀ r∈rows,r.length=k) (hn:rows.length=n) (hflat:C.frzL ((cs.drop off).take (n*k))=rows.flatten):zS (MH R L) rows k b off:=by
 refine ji fun i row hrow=>⟨hk row (Wf hrow),qi fun j c hc=>?_⟩;have hj:j<k:=by rw[←hk row (Wf hrow)];exact (Wd.1 hc).1
 have hf:=XF hk i j row hrow hj;rw[hc,←hflat,GS,WJ]at hf;split at hf
 ·rw[W4,AB]at hf;obtain ⟨c0,hf,rfl⟩:=hf;obtain ⟨v,hv,hr⟩:=Jo hrep _ _ hf;refine ⟨v,?_,fun h=>h.2 hb,Rep.ext (jE R L) (zM.refl _) _ _ (Rep.frz zJ _ _ hr),hone v (Wf hv)⟩;show R.w.cell? _=_;rw[Al R.w b _ vs ty (0,0) hh,show off+i*k+j=off+(i*k+j) by omega];simpa using hv
 ·cases hf
mutual
theorem zeS (hb:jR R L bx):∀ (c d:C) (v:Value),Yf bx c d->Rep R L c v->Rep (MH R L) zJ d v
 | .bs i off k n cap,d,v,h,hv=>by
  unfold Yf at h;obtain ⟨rows,cs,rfl,hn,hc,hm,hbx,hk,hflat⟩:=h;unfold Rep at hv;obtain ⟨b,hbi,ad,rfl,had⟩:=hv;obtain ⟨vs,ty,e1,e2,e3,e4⟩:=hb.box i b cs hbi hbx;unfold Rep;refine ⟨some ad,cap,by rw[hn],by omega,hm,?_⟩;cases rows with
  | nil=>exact .inl rfl
  | cons r0 rs=>exact .inr ⟨b,off,WA some (had (by simp at hn;omega)),zhI e1 e2 e3 (Wf hbi) hk hn hflat⟩
 | .agg cs,d,v,h,hv=>by
  unfold Yf at h;obtain ⟨ds,rfl,h⟩:=h;unfold Rep at hv ⊢;obtain ⟨vs,e,hl⟩:=hv;exact ⟨vs,e,Xb hb cs ds _ h hl⟩
 | .sc u,d,v,h,hv=>by unfold Yf at h;subst h;exact Rep.ext (jE R L) (zM.refl _) _ _ (Rep.frz zJ _ _ hv)
 | .str u,d,v,h,hv=>by unfold Yf at h;subst h;exact Rep.ext (jE R L) (zM.refl _) _ _ (Rep.frz zJ _ _ hv)
 | .tup u,d,v,h,hv=>by unfold Yf at h;subst h;exact Rep.ext (jE R L) (zM.refl _) _ _ (Rep.frz zJ _ _ hv)
 | .sl k u,d,v,h,hv=>by unfold Yf at h;subst h;exact Rep.ext (jE R L) (zM.refl _) _ _ (Rep.frz zJ _ _ hv)
 | .tight k u,d,v,h,hv=>by unfold Yf at h;subst h;exact Rep.ext (jE R L) (zM.refl _) _ _ (Rep.frz zJ _ _ hv)
 | .own i e k u,d,v,h,hv=>by unfold Yf at h;subst h;exact Rep.ext (jE R L) (zM.refl _) _ _ (Rep.frz zJ _ _ hv)
 | .ptr i off,d,v,h,hv=>by
  unfold Yf at h;obtain ⟨cs,hbx,rfl⟩:=h;obtain ⟨b,hbi,e⟩:=Jr.1 hv;obtain ⟨vs,ty,e1,e2,e3,e4⟩:=hb.box i b cs hbi hbx;refine Jd.2 ⟨b,off,e,qi fun j c hc=>?_⟩;rw[W4,GS,AB]at hc;obtain ⟨c0,hc,rfl⟩:=hc;obtain ⟨u,hu,hr⟩:=Jo e2 _ _ hc;refine ⟨u,?_,fun h=>h.2 (Wf hbi),Rep.ext (jE R L) (zM.refl _) _ _ (Rep.frz zJ _ _ hr),e3 u (Wf hu)⟩;show R.w.cell? _=_;rw[Al R.w b _ vs ty (0,0) e1];simpa using hu
 | .mo i t u w,d,v,h,hv=>by unfold Yf at h;subst h;exact Rep.ext (jE R L) (zM.refl _) _ _ (Rep.frz zJ _ _ hv)
 | .row u,d,v,h,hv=>by unfold Yf at h;subst h;exact Rep.ext (jE R L) (zM.refl _) _ _ (Rep.frz zJ _ _ hv)
 | .clo f u w,d,v,h,hv=>by
  unfold Yf at h;obtain ⟨fs,cs,rfl,h1,h2⟩:=h;unfold Rep at hv ⊢;obtain ⟨us,ws,e,h3,h4⟩:=hv;exact ⟨us,ws,e,Xb hb u fs _ h1 h3,Xb hb w cs _ h2 h4⟩
 | .any,d,v,h,hv=>by unfold Yf at h;subst h;exact Rep.ext (jE R L) (zM.refl _) _ _ (Rep.frz zJ _ _ hv)
theorem Xb (hb:jR R L bx):∀ (cs ds:List C) (vs:List Value),Ju bx cs ds->zy R L cs vs->zy (MH R L) zJ ds vs
 | [],ds,vs,h,hv=>by
  unfold Ju at h;subst h;rw[zl]at hv ⊢;exact hv
 | c :: r,ds,vs,h,hv=>by
  unfold Ju at h;obtain ⟨e,s,rfl,h1,h2⟩:=h;obtain ⟨v,us,rfl,g1,g2⟩:=zh.1 hv;exact zh.2 ⟨v,us,rfl,zeS hb c e v h1 g1,Xb hb r s us h2 g2⟩
end
def zjw (R R':Env) (L:Loc):Env:=⟨R'.w,fun b o=>R'.M b o∨(b∈L.β/\R.M b o),R'.F⟩
mutual
theorem x9 (hT:∀ id e k v,L'.T id=some (e,k,v)->∀ b,v.ownB=some b->b∉L.β):∀ (c:C) (v:Value),c.freshB=true->Rep R' L' c v->Rep (zjw R R' L) L' c v
 | .sc u,v,_,h=>by rw[zq]at h ⊢;exact h
 | .str u,v,_,h=>by rw[zY]at h ⊢;exact h
 | .agg cs,v,hf,h=>by
  unfold C.freshB at hf;unfold Rep at h ⊢;obtain ⟨vs,e,hl⟩:=h;exact ⟨vs,e,VI hT cs _ hf hl⟩
 | .tup cs,v,hf,h=>by
  unfold C.freshB at hf;unfold Rep at h ⊢;obtain ⟨vs,e,hl⟩:=h;exact ⟨vs,e,VI hT cs _ hf hl⟩
 | .own id e k rows,v,hf,h=>by
  unfold C.freshB at hf;unfold Rep at h ⊢;obtain ⟨ht,a,cap,e1,h1,h2,h3⟩:=h;refine ⟨ht,a,cap,e1,h1,h2,?_⟩;rcases h3 with h3 | ⟨b,o,rfl,h3⟩
  ·exact .inl h3
  ·refine .inr ⟨b,o,rfl,ji fun i row hrow=>?_⟩;obtain ⟨q1,q2⟩:=jC h3 i row hrow;refine ⟨q1,qi fun j c hc=>?_⟩;obtain ⟨u,u1,u2,u3,u4⟩:=Jg q2 j c hc;have hcf:c.flatB=true:=WC.1 (WC.1 hf row (Wf hrow)) c (Wf hc);refine ⟨u,u1,?_,zkc hcf u3,u4⟩;rintro (g | ⟨g,_⟩)
   ·exact u2 g
   ·exact hT id e k v ht b (by rw[e1];rfl) g
 | .tight k rows,v,hf,h=>by simp[C.freshB]at hf
 | .sl k rows,v,hf,h=>by simp[C.freshB]at hf
 | .ptr i off,v,hf,h=>by simp[C.freshB]at hf
 | .row cs,v,hf,h=>by simp[C.freshB]at hf
 | .clo f a b,v,hf,h=>by simp[C.freshB]at hf
 | .bs i off k n c,v,hf,h=>by simp[C.freshB]at hf
 | .any,v,hf,h=>by simp[C.freshB]at hf
theorem VI (hT:∀ id e k v,L'.T id=some (e,k,v)->∀ b,v.ownB=some b->b∉L.β):∀ (cs:List C) (vs:List Value),C.freshL cs=true->zy R' L' cs vs->zy (zjw R R' L) L' cs vs
 | [],vs,_,h=>by rw[zl]at h ⊢;exact h
 | c :: r,vs,hf,h=>by
  simp only[C.freshL,Wt]at hf;obtain ⟨v,us,rfl,g1,g2⟩:=zh.1 h;exact zh.2 ⟨v,us,rfl,x9 hT c v hf.1 g1,VI hT r us hf.2 g2⟩
end
theorem qw.back (hβ:∀ b∈L.β,b<R.w.heap.size) (h:qw 0 n (MH R L) zJ R' L'):qw 0 n R zJ (zjw R R' L) L':=by
 refine ⟨h.below,h.fgn,h.box,fun b o hb=>?_,h.old,fun id e k v h1 h2 h3=>?_,h.apart⟩
 ·have hm:=h.mt b o hb;show (R'.M b o∨(b∈L.β/\R.M b o))↔R.M b o;rw[hm];show ((R.M b o/\b∉L.β)∨_)↔_;by_cases hx:b∈L.β<;>simp[hx]
 ·exact (h.new id e k v h1 h2 h3).move fun g _ e2 _ e7=>⟨e2,rfl,e7,fun o ho=>.inl ho⟩
theorem qw.own_new (hβ:∀ b∈L.β,b<R.w.heap.size) (h:qw 0 n (MH R L) zJ R' L'):∀ id e k v,L'.T id=some (e,k,v)->∀ b,v.ownB=some b->b∉L.β:=fun id e k v ht b hv hb=>by
 rcases Wr id n with hi | hi
 ·have e2:R.w.heap.size<=b:=((h.new id e k v (Wc _) hi ht).block hv).1;have:=hβ b hb;omega
 ·rw[h.old id (.inr hi)]at ht;cases ht
theorem zbY {ev:Operand->C} {c:Call} {f:Operand} (ho:o.op = .call c) (hc:c.callee = .value f) {fid:FuncId} {first cap:List C} (hev:ev f = .clo (.func fid) first cap) {fargs:List C} (hl:Ju bx (first++c.args.toList.map ev++cap) fargs) {r:C} {n:Nat} (hfun:Fun P G fid fargs r n) (hfr:r.freshB=true) :
  zH P G bx ev nx o (r.sh nx) (nx+n):=by
 refine ⟨by omega,fun B R L ρ hf hfree hr=>?_⟩;have hx:=hr f;rw[hev,J6]at hx;obtain ⟨fs,cs,e1,h1,h2⟩:=hx;have hargs:zy (MH R L) zJ fargs (fs.toList++c.args.toList.map ρ++cs.toList):=
  Xb hf.boxes _ _ _ hl (zo (zo h1 (YU hr _)) h2)
 have hcall:=hfun.2 (MH R L) _ (hf.glob.ext (jE R L)) hargs;have hrun:(execOp ρ o).run P R.w = .ok (.enter fid (fs.toList++c.args.toList.map ρ++cs.toList).toArray) R.w:=by
  unfold execOp;simp only[ho,resolve,hc,e1];have e2:(Deferred.ofValue (.func (.func fid) fs cs) (c.args.map ρ)).run P R.w = .ok { target:=.fn (.func fid) cs,args:=fs++c.args.map ρ } R.w:=by
   simp[Deferred.ofValue]
  rw[Wn,e2];simp only[Wi,invoke];rw[Z8 hfun.1];congr 2;apply Br;simp
 unfold jo;rw[hrun];refine hcall.mono fun e w'=>?_;rintro ⟨v,R1,L',rfl,hw,hst1,hrep1⟩;have hst:=hst1.back hf.β_lt;have hrep:=x9 (R:=R) (hst1.own_new hf.β_lt) _ _ hfr hrep1;have hst':=hst.caller (nx:=nx) hf.β_lt;refine ⟨v,rfl,zjw R R1 L,_,hw,hst',?_⟩;refine Rep.sh (fun i b hb=>?_) (fun i x hi=>?_) _ _ hrep
 ·rw[hst.box]at hb;simp at hb
 ·show (if nx<=nx+i/\nx+i<nx+n then L'.T (nx+i-nx) else _)=some x;have hin:i<n:=by
   rcases Wr i n with h | h
   ·exact h
   ·rw[hst.old i (.inr h)]at hi;cases hi
  rw[if_pos ⟨by omega,by omega⟩,O1];exact hi
def zlH (P:Program) (G:zp) (f:FuncId) (args:List C) (σ:St) (K:C->St->Prop):Prop:=
 ∃ (fargs:List C) (r:C) (n:Nat),Ju σ.bx args fargs/\Fun P G f fargs r n/\r.freshB=true/\K (r.sh σ.nx) ⟨σ.tm,σ.bx,σ.nx+n,σ.lg⟩
end
end
section
open Go.RowKit
section
variable {P:Program} {G:zp} {E:Ctx} {σ:St} {o:Oper} {a:Act}
def spl (cs:List C) (at':Nat) (xs:List C):List C:=cs.take at'++xs++cs.drop (at'+xs.length)
def Zl (P:Program) (t:TypeId) (d x:C) (σ:St) (K:C->St->Prop):Prop:=
 match lay P t with
 | some ⟨.slice e,_,_,_⟩=>match lay P e with
  | some ⟨_,k,_,_⟩=>match x.xs? k σ.bx with
   | some (m,xs)=>match d with
    | .bs i off k' n c=>match σ.bx[i]? with
     | some cs=>k'=k/\xs.length=m*k/\off+n*k<=cs.length/\K (.sc (.int .i64 ((min m n:Nat):Int))) ⟨σ.tm,σ.bx.set i (spl cs off (xs.take (min m n*k))),σ.nx,σ.lg⟩
     | none=>False
    | d=>match d.rows? k with
     | some []=>xs.length=m*k/\K (.sc (.int .i64 0)) σ
     | _=>False
   | none=>False
  | _=>False
 | _=>False
theorem Hk {t':TypeId} {d:Operand} (ho:o.op = .call { callee:=.builtin .copy,args:=#[d,x],argTypes:=#[t,t'] }) {K:C->St->Prop} {R:Env} {L:Loc} (h:qH G E σ a R L) (hK:Zl P t (zr G σ.tm d) (zr G σ.tm x) σ K):jo P o a.eval R.w (GM G E a σ.nx L K):=by
 unfold Zl at hK;split at hK<;>try exact hK.elim
 rename_i e s1 b1 z1 hl;have ht:=qg hl rfl;split at hK<;>try exact hK.elim
 rename_i kd k by' z hle;obtain ⟨i,dd,hi,hd,_,hsz,hbyt,hzz⟩:=qj hle;simp only at hsz hbyt hzz;split at hK<;>try exact hK.elim
 rename_i m xs hxs;have hss0:(sizeOf e).run P R.w = .ok k R.w:=by simp[sizeOf,typeInfo,hi,←hsz]
 have hexec:∀ v' w',(Builtin.copy_ #[t,t'] o.type #[a.eval d,a.eval x]).run P R.w = .ok v' w'->(execOp a.eval o).run P R.w = .ok (.value v') w':=fun v' w' hrun=>by
  unfold execOp;simp only[ho,resolve,invoke,builtin,Wn,WB,Wi,OG,Wm,Wv,hrun]
 obtain ⟨ad,capx,ex,hx⟩:=yO h.good.fit (h.ev x) hxs;split at hK
 rotate_left
 ·split at hK<;>try exact hK.elim
  rename_i hr;obtain ⟨hxl,hK⟩:=hK;obtain ⟨a0,cap0,es,_⟩:=(h.ev d).rows hr;refine jo.value (hexec (goInt ((0:Nat):Int)) R.w ?_) ⟨_,_,R,L,rfl,h,zq.2 rfl,hK,fun _ _ h=>h⟩;rw[es,ex];simp only[Builtin.copy_,Builtin.lenOf,Wn,WB,Wi,WD ht,hss0];have hfc:(Builtin.firstCells k 0 (.slice ad m capx)).run P R.w = .ok #[] R.w:=by
   cases ad with
   | none=>simp[Builtin.firstCells]
   | some ad=>simp[Builtin.firstCells,loadCells,loadCellsFrom]
  cases a0<;>simp[hfc,storeCells,WD ht,hss0]
 rename_i bi off k' n c hev;split at hK<;>try exact hK.elim
 rename_i cs hcs;obtain ⟨rfl,hxl,hfit,hK⟩:=hK;have hss:=hss0;have hs:=h.ev d;rw[hev,jx]at hs;obtain ⟨b,hb,ad0,es,had0⟩:=hs;obtain ⟨vs,ty,e1,e2,e3,e4⟩:=h.good.fit.boxes.box bi b cs hb hcs;have hvl:=zA e2;have hbil:bi<σ.bx.length:=(Wd.1 hcs).1;by_cases h0:min m n*k'=0
 ·have hspl:spl cs off (xs.take (min m n*k'))=cs:=by
   rw[h0];simp[spl]
  have hset:σ.bx.set bi cs=σ.bx:=by
   apply O3;intro j;by_cases hj:bi=j
   ·subst hj;rw[OD hbil,hcs]
   ·rw[Ou hj]
  rw[hspl,hset]at hK;refine jo.value (hexec (goInt ((Nat.min m n:Nat):Int)) R.w ?_) ⟨_,_,R,L,rfl,h,zq.2 rfl,hK,fun _ _ h=>h⟩;rw[es,ex];simp only[Builtin.copy_,Builtin.lenOf,Wn,WB,Wi,WD ht,hss];have hm0:Nat.min m n*k'=0:=h0;have hfc:(Builtin.firstCells k' (Nat.min m n) (.slice ad m capx)).run P R.w = .ok #[] R.w:=by
   cases ad with
   | none=>simp[Builtin.firstCells]
   | some ad=>simp[Builtin.firstCells,hm0,loadCells,loadCellsFrom]
  simp[hfc,storeCells,WD ht,hss]
 ·have hpos:0<m:=by
   rcases O7 m with q | q
   ·subst q;simp at h0
   ·exact q
  have hnpos:0<n:=by
   rcases O7 n with q | q
   ·subst q;simp at h0
   ·exact q
  obtain ⟨bb,offx,news,rfl,n1,n2,n3,n4⟩:=hx hpos;obtain rfl:=had0 (by omega);have hmn:min m n*k'<=m*k':=WS _ (Nat.min_le_left _ _);have hmn2:min m n*k'<=n*k':=WS _ (Nat.min_le_right _ _);have hnl:(news.take (min m n*k')).length=min m n*k':=by rw[W6];omega
  have hfc:=Bk (P:=P) R.w k' (min m n) ⟨bb,offx,none⟩ m capx (news.take (min m n*k')) hnl (fun j u hj=>n2 j u (by
   rw[WJ]at hj;split at hj
   ·exact hj
   ·cases hj))
  have hst:=AR P b off ty (news.take (min m n*k')) 0 vs R.w e1 (by simp only[WW]at hvl;omega) (fun v hv=>n4 v (Ww hv));simp only[Ag]at hst;have hrun:(Builtin.copy_ #[t,t'] o.type #[a.eval d,a.eval x]).run P R.w = .ok (goInt ((Nat.min m n:Nat):Int)) (R.w.setRow b (vs.toList.take off++news.take (min m n*k')++vs.toList.drop (off+(news.take (min m n*k')).length)).toArray):=by
   rw[es,ex];have hfc':(Builtin.firstCells k' (Nat.min m n) (.slice (some ⟨bb,offx,none⟩) m capx)).run P R.w = .ok (news.take (min m n*k')).toArray R.w:=hfc;simp only[Builtin.copy_,Builtin.lenOf,Wn,WB,Wi,WD ht,hss];simp[hfc',hst,WD ht,hss]
  have hxtl:(xs.take (min m n*k')).length=(news.take (min m n*k')).length:=by rw[hnl,W6];omega
  have hinv:=h.setBox hb hcs e1 e4 (cs':=spl cs off (xs.take (min m n*k'))) (us:=(vs.toList.take off++news.take (min m n*k')++vs.toList.drop (off+(news.take (min m n*k')).length)).toArray) (by
    unfold spl;rw[hxtl];exact zo (zo (qI _ e2) (qI _ n3)) (qZ _ e2)) (fun v hv=>by
    simp only[WG]at hv;rcases hv with (hv | hv) | hv
    ·exact e3 v (Ww hv)
    ·exact n4 v (Ww hv)
    ·exact e3 v (WU hv))
  exact jo.value (hexec _ _ hrun) ⟨_,_,_,L,rfl,hinv,zq.2 rfl,hK,fun _ _ h=>h⟩
theorem zdf {t':TypeId} {d:Operand} (ho:o.op = .call { callee:=.builtin .copy,args:=#[d,x],argTypes:=#[t,t'] }) {K:C->St->Prop} {R:Env} {L:Loc} (h:qH G E σ a R L) (hK:Zl P t (zr G σ.tm d) (zr G σ.tm x) σ K):jo P o a.eval R.w (YD G E a K):=(Hk ho h hK).mono fun _ _ h=>h.after
def Hj (P:Program) (t:TypeId) (x:C) (σ:St) (K:C->St->Prop):Prop:=
 match lay P t with
 | some ⟨.slice e,_,_,_⟩=>match lay P e with
  | some ⟨_,k,_,some z⟩=>match x with
   | .bs i off k' n c=>match σ.bx[i]? with
    | some cs=>k'=k/\z.length=k/\0<k/\(z.all Value.oneCell')=true/\off+n*k<=cs.length/\K .any ⟨σ.tm,σ.bx.set i (spl cs off (List.replicate n (z.map zC)).flatten),σ.nx,σ.lg⟩
    | none=>False
   | _=>False
  | _=>False
 | _=>False
theorem Xw (zc:Array Value) (k n:Nat) (hz:zc.size=k) (hk:0<k):zy R L (List.replicate n (zc.toList.map zC)).flatten (Builtin.zeroCells zc n).toList:=by
 have h:=zy.ext (Ext.refl R) (zM.none L) _ _ (X7 (R:=R) (L:=zJ) zc k n hz hk);simp only[Builtin.zeroCells,hz];rw[hz]at h;exact h
theorem uC (ho:o.op = .call { callee:=.builtin .clear,args:=#[x],argTypes:=#[t] }) {K:C->St->Prop} {R:Env} {L:Loc} (h:qH G E σ a R L) (hK:Hj P t (zr G σ.tm x) σ K):jo P o a.eval R.w (YD G E a K):=by
 unfold Hj at hK;split at hK<;>try exact hK.elim
 rename_i e s1 b1 z1 hl;have ht:=qg hl rfl;split at hK<;>try exact hK.elim
 rename_i kd k by' z hle;obtain ⟨i,dd,hi,hd,_,hsz,hbyt,hzz⟩:=qj hle;simp only at hsz hbyt hzz;split at hK<;>try exact hK.elim
 rename_i bi off k' n c hev;split at hK<;>try exact hK.elim
 rename_i cs hcs;obtain ⟨rfl,hzk,hk0,hz1,hfit,hK⟩:=hK;cases hiz:i.zero with
 | none=>simp[hiz]at hzz
 | some zv =>
  simp only[hiz,WI,Option.some.injEq]at hzz;subst hzz;have hs:=h.ev x;rw[hev,jx]at hs;obtain ⟨b,hb,ad0,es,had0⟩:=hs;obtain ⟨vs,ty,e1,e2,e3,e4⟩:=h.good.fit.boxes.box bi b cs hb hcs;have hvl:=zA e2;have hbil:bi<σ.bx.length:=(Wd.1 hcs).1;have hzv:∀ w,(zeroValue e).run P w = .ok zv w:=fun w=>by simp[zeroValue,typeInfo,hi,hiz]
  have hexec:∀ v' w',(Builtin.clear_ #[t] o.type #[a.eval x]).run P R.w = .ok v' w'->(execOp a.eval o).run P R.w = .ok (.value v') w':=fun v' w' hrun=>by
   unfold execOp;simp only[ho,resolve,invoke,builtin,Wn,WB,Wi,OG,Wm,Wv,hrun]
  have hzl:(Builtin.zeroCells zv.cells n).toList.length=n*k':=by rw[WW,AD];simpa using WA (n * ·) hzk
  have hzr:=Xw (R:=R) (L:=L) zv.cells k' n (by simpa using hzk) hk0;have hxl:(List.replicate n (zv.cells.toList.map zC)).flatten.length=n*k':=by rw[←hzl];exact (zA hzr).symm
  cases n with
  | zero =>
   have hspl:spl cs off (List.replicate 0 (zv.cells.toList.map zC)).flatten=cs:=by simp[spl]
   have hset:σ.bx.set bi cs=σ.bx:=by
    apply O3;intro j;by_cases hj:bi=j
    ·subst hj;rw[OD hbil,hcs]
    ·rw[Ou hj]
   rw[hspl,hset]at hK;refine jo.value (hexec (.tuple #[]) R.w ?_) ⟨_,_,R,L,rfl,h,by unfold Rep;trivial,hK⟩;rw[es];simp[Builtin.clear_,WD ht]
  | succ n =>
   obtain rfl:=had0 (by omega);have hst:=AR P b off ty (Builtin.zeroCells zv.cells (n+1)).toList 0 vs R.w e1 (by rw[hzl];simp only[WW]at hvl;omega) (jZ hz1 _);simp only[Ag]at hst;have hinv:=h.setBox hb hcs e1 e4 (cs':=spl cs off (List.replicate (n+1) (zv.cells.toList.map zC)).flatten) (us:=(vs.toList.take off++(Builtin.zeroCells zv.cells (n+1)).toList++vs.toList.drop (off+(Builtin.zeroCells zv.cells (n+1)).toList.length)).toArray) (by
     unfold spl;rw[hzl,hxl];exact zo (zo (qI _ e2) hzr) (qZ _ e2)) (fun v hv=>by
     simp only[WG]at hv;rcases hv with (hv | hv) | hv
     ·exact e3 v (Ww hv)
     ·exact jZ hz1 _ v hv
     ·exact e3 v (WU hv))
   refine jo.value (hexec (.tuple #[]) _ ?_) ⟨_,_,_,L,rfl,hinv,by unfold Rep;trivial,hK⟩;rw[es];simp[Builtin.clear_,WD ht,hzv,hst]
def JP (P:Program) (t:TypeId) (s x:C) (σ:St) (K:C->St->Prop):Prop:=
 match lay P t with
 | some ⟨.slice e,_,_,_⟩=>match lay P e with
  | some ⟨_,k,by',some z⟩=>match x.xs? k σ.bx with
   | some (m,xs)=>z.length=k/\0<k/\(z.all Value.oneCell')=true/\xs.length=m*k/\match s with
    | .sc (.slice none 0 0)=>0<m/\m<=9223372036854775807/\m*by'<=140737488355328/\∀ c,m<=c->c<=maxLen->K (.bs σ.bx.length 0 k m c) ⟨σ.tm,σ.bx++[xs++List.replicate ((c-m)*k) .any],σ.nx,σ.lg⟩
    | .tight k' []=>k'=k/\m<=9223372036854775807/\m*by'<=140737488355328/\(m=0->K (.tight k' []) σ)/\(0<m->∀ c,m<=c->c<=maxLen->K (.bs σ.bx.length 0 k m c) ⟨σ.tm,σ.bx++[xs++List.replicate ((c-m)*k) .any],σ.nx,σ.lg⟩)
    | .bs i off k' n c=>match σ.bx[i]? with
     | some cs=>k'=k/\off+c*k<=cs.length/\n<=c/\n+m<=9223372036854775807/\(n+m)*by'<=140737488355328 /\
       (n+m<=c->K (.bs i off k (n+m) c) ⟨σ.tm,σ.bx.set i (spl cs (off+n*k) xs),σ.nx,σ.lg⟩) /\
       (c<n+m->∀ c',n+m<=c'->c'<=maxLen->K (.bs σ.bx.length 0 k (n+m) c') ⟨σ.tm,σ.bx++[(cs.drop off).take (n*k)++xs++List.replicate ((c'-(n+m))*k) .any],σ.nx,σ.lg⟩)
     | none=>False
    | _=>False
   | none=>False
  | _=>False
 | _=>False
def GV (P:Program) (t tn:TypeId) (s x:C) (σ:St) (K:C->St->Prop):Prop:=
 match lay P t,lay P tn with
 | some ⟨.slice e,_,_,_⟩,some ⟨.int _,_,_,_⟩=>match lay P e with
  | some ⟨_,k,by',some z⟩=>match s,x with
   | .bs i off k' n c,.sc (.int _ q)=>match σ.bx[i]? with
     | some cs=>z.length=k/\0<k/\(z.all Value.oneCell')=true/\k'=k/\off+c*k<=cs.length/\n<=c/\0<q/\(n:Int)+q<=9223372036854775807/\((n:Int)+q)*by'<=140737488355328/\(c:Int)<n+q /\
       ∀ c',n+q.toNat<=c'->c'<=maxLen->K (.bs σ.bx.length 0 k (n+q.toNat) c') ⟨σ.tm,σ.bx++[(cs.drop off).take (n*k)++(List.replicate q.toNat (z.map zC)).flatten++List.replicate ((c'-(n+q.toNat))*k) .any],σ.nx,σ.lg⟩
     | none=>False
   | .sc (.slice none 0 0),.sc (.int _ q)=>z.length=k/\0<k/\(z.all Value.oneCell')=true/\0<q/\q<=9223372036854775807/\q*by'<=140737488355328 /\
     ∀ c',q.toNat<=c'->c'<=maxLen->K (.bs σ.bx.length 0 k q.toNat c') ⟨σ.tm,σ.bx++[(List.replicate q.toNat (z.map zC)).flatten++List.replicate ((c'-q.toNat)*k) .any],σ.nx,σ.lg⟩
   | _,_=>False
  | _=>False
 | _,_=>False
theorem qH.setSame (h:qH G E σ a R L) {i:Nat} {cs:List C} (hc:σ.bx[i]?=some cs):σ.bx.set i cs=σ.bx:=by
 have hil:i<σ.bx.length:=(Wd.1 hc).1;apply O3;intro j;by_cases hj:i=j
 ·subst hj;rw[OD hil,hc]
 ·rw[Ou hj]
theorem Ub {s:Operand} (ho:o.op = .call { callee:=.builtin .append,args:=#[s,x],argTypes:=#[t,t] }) {K:C->St->Prop} {R:Env} {L:Loc} (h:qH G E σ a R L) (hK:JP P t (zr G σ.tm s) (zr G σ.tm x) σ K):jo P o a.eval R.w (GM G E a σ.nx L K):=by
 unfold JP at hK;split at hK<;>try exact hK.elim
 rename_i e s1 b1 z1 hl;have ht:=qg hl rfl;split at hK<;>try exact hK.elim
 rename_i kd k by' z hle;obtain ⟨i,d,hi,hd,_,hsz,hbyt,hzz⟩:=qj hle;simp only at hsz hbyt hzz;split at hK<;>try exact hK.elim
 rename_i m xs hxs;obtain ⟨hzk,hk0,hz1,hxl,hK⟩:=hK;have hexec:∀ v' w',(Builtin.append_ #[t,t] o.type #[a.eval s,a.eval x]).run P R.w = .ok v' w'->(execOp a.eval o).run P R.w = .ok (.value v') w':=fun v' w' hrun=>by
  unfold execOp;simp only[ho,resolve,invoke,builtin,Wn,WB,Wi,OG,Wm,Wv,hrun]
 cases hiz:i.zero with
 | none=>simp[hiz]at hzz
 | some zv =>
  simp only[hiz,WI,Option.some.injEq]at hzz;have hzc:zv.cells.size=k:=by rw[←hzk,hzz];simp
  obtain ⟨ad,capx,ex,hx⟩:=yO h.good.fit (h.ev x) hxs;have hzone:∀ n,∀ v∈(Builtin.zeroCells zv.cells n).toList,v.oneCell'=true:=jZ (by rw[←hzz];exact hz1);split at hK
  ·rename_i hev;obtain ⟨hm,h63,hby,hK⟩:=hK;obtain ⟨bb,off,news,rfl,n1,n2,n3,n4⟩:=hx hm;have hs:=h.ev s;rw[hev,zq]at hs;have hrun:=BU (P:=P) R.w t o.type e i zv ht hi hiz ⟨bb,off,none⟩ m capx news (by rw[n1,hsz]) n2 hm (by omega) (by rw[←hbyt];omega);rw[←hs,←ex]at hrun;have hge:=A2 R.w m 0 e;have hgm:grownCap R.w m 0 e<=maxLen:=O6 _ _ _ _ (by unfold maxLen;omega);generalize grownCap R.w m 0 e=nc at hrun hge hgm;have hb:Below R.w.heap.size R.w (R.w.drew.alloc (.cells (news.toArray++Builtin.zeroCells zv.cells (nc-m)) e)):=((W3 _ _).drew).alloc (Wb _) _;have hzl:(Builtin.zeroCells zv.cells (nc-m)).toList.length=(nc-m)*k:=by rw[WW,AD,hzc]
   obtain ⟨R',L',e1,e2,e3,eT⟩:=h.newBoxT hb (Wb _) (xs++List.replicate ((nc-m)*k) .any) (news.toArray++Builtin.zeroCells zv.cells (nc-m)) e (OF R.w.drew _) (fun M' hM _ _=>by
    simp only[Ok];refine zo (zy.ext (R:=R) (Ext.of_below hb hM) (zM.refl L) _ _ n3) ?_;rw[←hzl];exact Yc _) (fun v hv=>by
    simp only[Ok]at hv;rcases WG.1 hv with hv | hv
    ·exact n4 v hv
    ·exact hzone _ v hv)
   exact jo.value (hexec _ _ hrun) ⟨_,_,R',L',e1,e2,jx.2 ⟨_,e3,_,rfl,fun _=>rfl⟩,hK nc hge hgm,fun id _ ht=>by rw[eT];exact ht⟩
  ·rename_i k' hev;obtain ⟨rfl,h63,hby,hK0,hK⟩:=hK;have hs:=h.ev s;rw[hev]at hs;obtain ⟨aa0,e0,_,_⟩:=Jq.1 hs;rcases O7 m with hm | hm
   ·subst hm;refine jo.value (hexec (.slice aa0 0 0) R.w ?_) ⟨_,_,R,L,rfl,h,Jq.2 ⟨aa0,rfl,Wc _,.inl rfl⟩,hK0 rfl,fun _ _ h=>h⟩;rw[show a.eval s = .slice aa0 0 0 from e0,ex];exact jT ht hi R.w _ _ _ _ _ (Wb _)
   ·obtain ⟨bb,off,news,rfl,n1,n2,n3,n4⟩:=hx hm;have hrun:=XW (P:=P) (ty:=o.type) ht hi hiz R.w aa0 0 [] (by simp) (.inl rfl) ⟨bb,off,none⟩ m capx news (by rw[n1,hsz]) n2 hm (by omega) (by rw[←hbyt,Ox];exact hby);rw[←ex,show (.slice aa0 0 0:Value)=a.eval s from e0.symm]at hrun;simp only[Ox]at hrun;have hge:=A2 R.w m 0 e;have hgm:grownCap R.w m 0 e<=maxLen:=O6 _ _ _ _ (by unfold maxLen;omega);generalize grownCap R.w m 0 e=nc at hrun hge hgm;have hb:Below R.w.heap.size R.w (R.w.drew.alloc (.cells (([]:List Value).toArray++news.toArray++Builtin.zeroCells zv.cells (nc-m)) e)):=((W3 _ _).drew).alloc (Wb _) _;have hzl:(Builtin.zeroCells zv.cells (nc-m)).toList.length=(nc-m)*k':=by rw[WW,AD,hzc]
    obtain ⟨R',L',e1,e2,e3,eT⟩:=h.newBoxT hb (Wb _) (xs++List.replicate ((nc-m)*k') .any) (([]:List Value).toArray++news.toArray++Builtin.zeroCells zv.cells (nc-m)) e (OF R.w.drew _) (fun M' hM _ _=>by
     simp only[Ok,OB];refine zo (zy.ext (R:=R) (Ext.of_below hb hM) (zM.refl L) _ _ n3) ?_;rw[←hzl];exact Yc _) (fun v hv=>by
     simp only[Ok,OB]at hv;rcases WG.1 hv with hv | hv
     ·exact n4 v hv
     ·exact hzone _ v hv)
    exact jo.value (hexec _ _ hrun) ⟨_,_,R',L',e1,e2,jx.2 ⟨_,e3,_,rfl,fun _=>rfl⟩,hK hm nc hge hgm,fun id _ ht=>by rw[eT];exact ht⟩
  ·rename_i bi off k' n c hev;split at hK<;>try exact hK.elim
   rename_i cs hcs;obtain ⟨rfl,hcl,hnc,h63,hby,hK1,hK2⟩:=hK;have hs:=h.ev s;rw[hev,jx]at hs;obtain ⟨b,hb,ad0,es,had0⟩:=hs;obtain ⟨vs,ty,e1,e2,e3,e4⟩:=h.good.fit.boxes.box bi b cs hb hcs;have hvl:=zA e2;simp only[WW]at hvl;have hnk:n*k'<=c*k':=WS _ hnc;have hadd:(n+m)*k'=n*k'+m*k':=Oq _ _ _;by_cases hroom:n+m<=c
   ·have hck:(n+m)*k'<=c*k':=WS _ hroom;rcases O7 m with hm | hm
    ·subst hm;have hx0:xs = []:=WO (by simpa using hxl);subst hx0;have hK:=hK1 hroom;have hspl:spl cs (off+n*k') []=cs:=by simp[spl]
     rw[hspl,h.setSame hcs]at hK;refine jo.value (hexec (.slice (some ad0) n c) R.w ?_) ⟨_,_,R,L,rfl,h,jx.2 ⟨b,hb,ad0,rfl,had0⟩,hK,fun _ _ h=>h⟩;rw[es,ex];exact jT ht hi R.w _ _ _ _ _ hnc
    ·obtain rfl:=had0 (by omega);obtain ⟨bb,offx,news,rfl,n1,n2,n3,n4⟩:=hx hm;have hst:=AR P b (off+n*k') ty news 0 vs R.w e1 (by rw[n1];omega) n4;simp only[Ag]at hst;have hfc:=Bk (P:=P) R.w k' m ⟨bb,offx,none⟩ m capx news n1 n2;have hrun:(Builtin.append_ #[t,t] o.type #[a.eval s,a.eval x]).run P R.w = .ok (.slice (some ⟨b,off,none⟩) (n+m) c) (R.w.setRow b (vs.toList.take (off+n*k')++news++vs.toList.drop (off+n*k'+news.length)).toArray):=by
      rw[es,ex];simp[Builtin.append_,WD ht,sizeOf,typeInfo,hi,Builtin.lenOf,hroom,←hsz,hfc,Addr.add_none,hst]
     have hnx:news.length=xs.length:=by rw[n1,hxl]
     have hinv:=h.setBox hb hcs e1 e4 (cs':=spl cs (off+n*k') xs) (us:=(vs.toList.take (off+n*k')++news++vs.toList.drop (off+n*k'+news.length)).toArray) (by
       unfold spl;rw[hnx];exact zo (zo (qI _ e2) n3) (qZ _ e2)) (fun v hv=>by
       simp only[WG]at hv;rcases hv with (hv | hv) | hv
       ·exact e3 v (Ww hv)
       ·exact n4 v hv
       ·exact e3 v (WU hv))
     exact jo.value (hexec _ _ hrun) ⟨_,_,_,L,rfl,hinv,jx.2 ⟨_,hb,_,rfl,fun _=>rfl⟩,hK1 hroom,fun _ _ h=>h⟩
   ·have hm:0<m:=by omega
    obtain ⟨bb,offx,news,rfl,n1,n2,n3,n4⟩:=hx hm;have hol:((vs.toList.drop off).take (n*k')).length=n*k':=by simp;omega
    have hrun:=Bp (P:=P) R.w t o.type e i zv ht hi hiz ad0 n c ((vs.toList.drop off).take (n*k')) (by rw[hol,hsz]) (fun j v hj=>by
      obtain rfl:=had0 (by
       rcases O7 n with h0 | h0
       ·subst h0;simp at hj
       ·omega)
      rw[Addr.add_none,Al R.w b (off+j) vs ty (0,0) e1];rw[WJ]at hj;split at hj
      ·rw[W4]at hj;simpa using hj
      ·cases hj) ⟨bb,offx,none⟩ m capx news (by rw[n1,hsz]) n2 (by omega) (by omega) (Bh (by omega) (by rw[←hbyt];exact hby))
    rw[←es,←ex]at hrun;have hge:=A2 R.w (n+m) c e;have hgm:grownCap R.w (n+m) c e<=maxLen:=O6 _ _ _ _ (by unfold maxLen;omega);generalize grownCap R.w (n+m) c e=nc at hrun hge hgm;have hbel:Below R.w.heap.size R.w (R.w.drew.alloc (.cells (((vs.toList.drop off).take (n*k')).toArray++news.toArray++Builtin.zeroCells zv.cells (nc-(n+m))) e)):=((W3 _ _).drew).alloc (Wb _) _;have hzl:(Builtin.zeroCells zv.cells (nc-(n+m))).toList.length=(nc-(n+m))*k':=by rw[WW,AD,hzc]
    obtain ⟨R',L',f1,f2,f3,fT⟩:=h.newBoxT hbel (Wb _) ((cs.drop off).take (n*k')++xs++List.replicate ((nc-(n+m))*k') .any) (((vs.toList.drop off).take (n*k')).toArray++news.toArray++Builtin.zeroCells zv.cells (nc-(n+m))) e (OF R.w.drew _) (fun M' hM _ _=>by
     simp only[Ok];refine zo (zy.ext (R:=R) (Ext.of_below hbel hM) (zM.refl L) _ _ (zo (qI _ (qZ _ e2)) n3)) ?_;rw[←hzl];exact Yc _) (fun v hv=>by
     simp only[Ok,WG]at hv;rcases hv with (hv | hv) | hv
     ·exact e3 v (WU (Ww hv))
     ·exact n4 v hv
     ·exact hzone _ v hv)
    exact jo.value (hexec _ _ hrun) ⟨_,_,R',L',f1,f2,jx.2 ⟨_,f3,_,rfl,fun _=>rfl⟩,hK2 (by omega) nc hge hgm,fun id _ ht=>by rw[fT];exact ht⟩
  ·exact hK.elim
theorem uB {s:Operand} (ho:o.op = .call { callee:=.builtin .append,args:=#[s,x],argTypes:=#[t,t] }) {K:C->St->Prop} {R:Env} {L:Loc} (h:qH G E σ a R L) (hK:JP P t (zr G σ.tm s) (zr G σ.tm x) σ K):jo P o a.eval R.w (YD G E a K):=
 (Ub ho h hK).mono fun _ _ h=>GM.after h
theorem zbD {tn:TypeId} {s:Operand} (ho:o.op = .call { callee:=.builtin .append,args:=#[s,x],argTypes:=#[t,tn] }) {K:C->St->Prop} {R:Env} {L:Loc} (h:qH G E σ a R L) (hK:GV P t tn (zr G σ.tm s) (zr G σ.tm x) σ K):jo P o a.eval R.w (YD G E a K):=by
 unfold GV at hK;split at hK<;>try exact hK.elim
 rename_i e s1 b1 z1 kn s2 b2 z2 hl hln;have ht:=qg hl rfl;have htn:=Vq hln rfl;split at hK<;>try exact hK.elim
 rename_i kd k by' z hle;obtain ⟨i,d,hi,hd,_,hsz,hbyt,hzz⟩:=qj hle;simp only at hsz hbyt hzz;have hexec:∀ v' w',(Builtin.append_ #[t,tn] o.type #[a.eval s,a.eval x]).run P R.w = .ok v' w'->(execOp a.eval o).run P R.w = .ok (.value v') w':=fun v' w' hrun=>by
  unfold execOp;simp only[ho,resolve,invoke,builtin,Wn,WB,Wi,OG,Wm,Wv,hrun]
 split at hK<;>try exact hK.elim
 rotate_left
 ·rename_i kq q hev hevx;obtain ⟨hzk,hk0,hz1,hq0,h63,hby,hK⟩:=hK;cases hiz:i.zero with
  | none=>simp[hiz]at hzz
  | some zv =>
   simp only[hiz,WI,Option.some.injEq]at hzz;have hzc:zv.cells.size=k:=by rw[←hzk,hzz];simp
   have hzone:∀ n,∀ v∈(Builtin.zeroCells zv.cells n).toList,v.oneCell'=true:=jZ (by rw[←hzz];exact hz1);have hs:=h.ev s;rw[hev,zq]at hs;have hxv:=h.ev x;rw[hevx,zq]at hxv;obtain ⟨m,rfl⟩:∃ m:Nat,q=(m:Int):=⟨q.toNat,by omega⟩;simp only[Oz]at hK;have hby':m*by'<=140737488355328:=by
    have:((m*by':Nat):Int)<=140737488355328:=by
     rw[Int.natCast_mul];exact hby
    omega
   have hold:∀ w,w.heap=R.w.heap->(Builtin.firstCells i.size 0 (.slice none 0 0)).run P w = .ok ([]:List Value).toArray w:=fun w hw=>by simp[Builtin.firstCells]
   have hmb:m*i.bytes<=281474976710656:=by rw[←hbyt];omega
   have hrun:=Lib.run_append_grow_zeros (P:=P) R.w t tn o.type e i zv kq kn ht htn hi hiz none 0 0 [] (hold R.w.drew rfl) m (by omega) (by omega) (by omega) (by omega) hmb (Bh (by omega) (by rw[←hbyt];simpa using hby'));rw[←hs,←hxv]at hrun;have hge:=A2 R.w (0+m) 0 e;have hgm:grownCap R.w (0+m) 0 e<=maxLen:=O6 _ _ _ _ (by unfold maxLen;omega);generalize grownCap R.w (0+m) 0 e=nc at hrun hge hgm;have hbel:Below R.w.heap.size R.w (R.w.drew.alloc (.cells (([]:List Value).toArray++Builtin.zeroCells zv.cells m++Builtin.zeroCells zv.cells (nc-(0+m))) e)):=((W3 _ _).drew).alloc (Wb _) _;have hzl:(Builtin.zeroCells zv.cells (nc-(0+m))).toList.length=(nc-(0+m))*k:=by rw[WW,AD,hzc]
   obtain ⟨R',L',f1,f2,f3⟩:=h.newBoxW hbel (Wb _) ((List.replicate m (z.map zC)).flatten++List.replicate ((nc-m)*k) .any) (([]:List Value).toArray++Builtin.zeroCells zv.cells m++Builtin.zeroCells zv.cells (nc-(0+m))) e (OF R.w.drew _) (fun M' hM _ _=>by
    simp only[Ok,OB];refine zo ?_ ?_
    ·rw[hzz];exact Xw _ k m hzc hk0
    ·rw[show nc-m=nc-(0+m) by omega,←hzl];exact Yc _) (fun v hv=>by
    simp only[Ok,WG,OB]at hv;rcases hv with hv | hv
    ·exact hzone _ v hv
    ·exact hzone _ v hv)
   refine jo.value (hexec _ _ hrun) ⟨_,_,R',L',f1,f2,jx.2 ⟨_,f3,_,?_,fun _=>rfl⟩,hK nc (by omega) hgm⟩;simp
 rename_i bi off k' n c kq q hev hevx;split at hK<;>try exact hK.elim
 rename_i cs hcs;obtain ⟨hzk,hk0,hz1,rfl,hcl,hnc,hq0,h63,hby,hg,hK⟩:=hK;cases hiz:i.zero with
 | none=>simp[hiz]at hzz
 | some zv =>
  simp only[hiz,WI,Option.some.injEq]at hzz;have hzc:zv.cells.size=k':=by rw[←hzk,hzz];simp
  have hzone:∀ n,∀ v∈(Builtin.zeroCells zv.cells n).toList,v.oneCell'=true:=jZ (by rw[←hzz];exact hz1);have hs:=h.ev s;rw[hev,jx]at hs;have hxv:=h.ev x;rw[hevx,zq]at hxv;obtain ⟨b,hb,ad0,es,had0⟩:=hs;obtain ⟨vs,ty,e1,e2,e3,e4⟩:=h.good.fit.boxes.box bi b cs hb hcs;have hvl:=zA e2;simp only[WW]at hvl;have hnk:n*k'<=c*k':=WS _ hnc;obtain ⟨m,rfl⟩:∃ m:Nat,q=(m:Int):=⟨q.toNat,by omega⟩;simp only[Oz]at hK;have hby':(n+m)*by'<=140737488355328:=by
   have:(((n+m)*by':Nat):Int)<=140737488355328:=by
    rw[Int.natCast_mul,Int.natCast_add];exact hby
   omega
  have hol:((vs.toList.drop off).take (n*k')).length=n*k':=by simp;omega
  have hold:∀ w,w.heap=R.w.heap->(Builtin.firstCells i.size n (.slice (some ad0) n c)).run P w = .ok ((vs.toList.drop off).take (n*k')).toArray w:=fun w hw=>by
   refine Bk (P:=P) w i.size n ad0 n c _ (by rw[hol,hsz]) fun j v hj=>?_;obtain rfl:=had0 (by
    rcases O7 n with h0 | h0
    ·subst h0;simp at hj
    ·omega)
   rw[Addr.add_none,Al w b (off+j) vs ty (0,0) (by rw[hw];exact e1)];rw[WJ]at hj;split at hj
   ·rw[W4]at hj;simpa using hj
   ·cases hj
  have hmb:m*i.bytes<=281474976710656:=by
   have:m*by'<=(n+m)*by':=WS _ (by omega);rw[←hbyt];omega
  have hrun:=Lib.run_append_grow_zeros (P:=P) R.w t tn o.type e i zv kq kn ht htn hi hiz (some ad0) n c ((vs.toList.drop off).take (n*k')) (hold R.w.drew rfl) m (by omega) (by omega) (by omega) (by omega) hmb (Bh (by omega) (by rw[←hbyt];exact hby'));rw[←es,←hxv]at hrun;have hge:=A2 R.w (n+m) c e;have hgm:grownCap R.w (n+m) c e<=maxLen:=O6 _ _ _ _ (by unfold maxLen;omega);generalize grownCap R.w (n+m) c e=nc at hrun hge hgm;have hbel:Below R.w.heap.size R.w (R.w.drew.alloc (.cells (((vs.toList.drop off).take (n*k')).toArray++Builtin.zeroCells zv.cells m++Builtin.zeroCells zv.cells (nc-(n+m))) e)):=((W3 _ _).drew).alloc (Wb _) _;have hzl:(Builtin.zeroCells zv.cells (nc-(n+m))).toList.length=(nc-(n+m))*k':=by rw[WW,AD,hzc]
  obtain ⟨R',L',f1,f2,f3⟩:=h.newBoxW hbel (Wb _) ((cs.drop off).take (n*k')++(List.replicate m (z.map zC)).flatten++List.replicate ((nc-(n+m))*k') .any) (((vs.toList.drop off).take (n*k')).toArray++Builtin.zeroCells zv.cells m++Builtin.zeroCells zv.cells (nc-(n+m))) e (OF R.w.drew _) (fun M' hM _ _=>by
   simp only[Ok];refine zo (zo (zy.ext (R:=R) (Ext.of_below hbel hM) (zM.refl L) _ _ (qI _ (qZ _ e2))) ?_) ?_
   ·rw[hzz];exact Xw _ k' m hzc hk0
   ·rw[←hzl];exact Yc _) (fun v hv=>by
   simp only[Ok,WG]at hv;rcases hv with (hv | hv) | hv
   ·exact e3 v (WU (Ww hv))
   ·exact hzone _ v hv
   ·exact hzone _ v hv)
  exact jo.value (hexec _ _ hrun) ⟨_,_,R',L',f1,f2,jx.2 ⟨_,f3,_,rfl,fun _=>rfl⟩,hK nc hge hgm⟩
end
end
section
open Go.RowKit
section
variable {P:Program} {G:zp} {E:Ctx} {σ:St} {o:Oper} {a:Act} {N p:Nat}
def GY (P:Program) (t:TypeId) (s x:C) (σ:St) (K:C->St->Prop):Prop:=
 match s with
 | .own id e k rows=>vX P t (.own id e k rows) x σ K
 | s=>VK P t s x σ.nx fun c nx'=>K c ⟨σ.tm,σ.bx,nx',σ.lg⟩
structure Yd where
 l:Nat
 items:List (List C)
 st:Nat->Bool
structure Far (R R':Env):Prop where
 os:R'.w.os=R.w.os
 tape:R'.w.tape=R.w.tape
 output:R'.w.output=R.w.output
 size:R.w.heap.size<=R'.w.heap.size
 ext:Ext R R'
 fgn:∀ b,b<R.w.heap.size->(R'.F b↔R.F b)
 flt:∀ b,R'.F b->b<R'.w.heap.size
 blk:∀ b,b<R.w.heap.size->¬R.F b->R'.w.heap[b]?=R.w.heap[b]?/\∀ o,(R'.M b o↔R.M b o)
def YOk (P:Program) (y:Yd) (J:Nat->Env->Prop):Prop:=∀ (k:Nat) (R:Env) (it:List C) (vs:List Value),J k R->(∀ b,R.F b->b<R.w.heap.size)->(∀ j,j<k->y.st j=false)->y.items[k]?=some it->zy R zJ it vs ->
 YieldAt Fence.wide 0 P y.l vs.toArray R.w fun e w'=>e = .returned (.bool (!y.st k))/\∃ R',R'.w=w'/\Far R R'/\J (k+1) R'
structure Hd where
 p:Nat
 y:Option Yd
 b:Nat->List Bool
structure zoy (P:Program) (h:Hd) (E:Ctx):Prop where
 yd:∀ y,h.y=some y->YOk P y E.J
 box:E.β0.length<=h.p
def NC (y:Yd) (it:Option (List C)) (args:List C) (σ:St) (K:C->St->Prop):Prop:=
 match it with
 | some it=>zf [] 0 args it/\(∀ j,j<σ.lg->y.st j=false)/\K (.sc (.bool (!y.st σ.lg))) ⟨σ.tm,σ.bx,σ.nx,σ.lg+1⟩
 | none=>False
def zaA (Y:Option Yd) (l:Nat) (args:List C) (σ:St) (K:C->St->Prop):Prop:=
 match Y with
 | some y=>l=y.l/\NC y y.items[σ.lg]? args σ K
 | none=>False
def MN (P:Program) (G:zp) (Y:Hd) (callee:C) (args:List C) (σ:St) (K:C->St->Prop):Prop:=
 match callee with
 | .sc (.func (.yield l) fs cs)=>fs = #[]/\cs = #[]/\zaA Y.y l args σ K
 | .clo (.func f) first cap=>xi P G (.clo (.func f) first cap) args σ.nx (fun c nx'=>K c ⟨σ.tm,σ.bx,nx',σ.lg⟩)∨vL P G f (first++args++cap) σ K∨zlH P G f (first++args++cap) σ K∨kp P G f (first++args++cap) σ K∨zeA P f (first++args++cap) σ K
 | _=>False
def Hd.bx (Y:Hd) (t:TypeId):Bool:=(Y.b (1000000+t)).headD false
def Hd.bx2 (Y:Hd) (t:TypeId):Bool:=((Y.b (1000000+t)).drop 1).headD false
def zoT (P:Program) (t:TypeId) (c:C) (K:C->Prop):Prop:=
 match lay P t,c with
 | some ⟨.slice _,_,_,_⟩,.bs _ _ _ _ c=>K (.sc (.int .i64 (c:Int)))
 | some ⟨.slice _,_,_,_⟩,.sc (.slice none 0 0)=>K (.sc (.int .i64 0))
 | _,_=>False
def uq (P:Program) (G:zp) (Y:Hd) (b:Builtin) (args:List Operand) (tys:List TypeId) (σ:St) (K:C->St->Prop):Prop:=
 match b,args,tys with
 | .len,[x],[t]=>zqf P t (zr G σ.tm x) fun c=>K c σ
 | .append,[s,x],[t,t']=>if t'=t then (if Y.bx t then (if Y.bx2 t then JP P t (zr G σ.tm s) (zr G σ.tm x) σ K else U5 P Y.p t (zr G σ.tm s) (zr G σ.tm x) σ K) else GY P t (zr G σ.tm s) (zr G σ.tm x) σ K) else GV P t t' (zr G σ.tm s) (zr G σ.tm x) σ K
 | .copy,[d,x],[t,t']=>Zl P t (zr G σ.tm d) (zr G σ.tm x) σ K
 | .clear,[x],[t]=>Hj P t (zr G σ.tm x) σ K
 | .cap,[x],[t]=>zoT P t (zr G σ.tm x) fun c=>K c σ
 | .max,[x,y],[_,_]=>zoQ (zr G σ.tm x) (zr G σ.tm y) fun c=>K c σ
 | _,_,_=>False
def Mn (P:Program) (G:zp) (Y:Hd) (op:Op) (σ:St) (K:C->St->Prop):Prop:=
 match op with
 | .alloc t=>zfS P t σ K
 | .box _ x=>zsv (zr G σ.tm x) σ K
 | .store t p x=>Zy P t (zr G σ.tm p) (zr G σ.tm x) σ K
 | .call c=>match c.callee with
  | .value f=>MN P G Y (zr G σ.tm f) (c.args.toList.map (zr G σ.tm)) σ K
  | .builtin b=>uq P G Y b c.args.toList c.argTypes.toList σ K
  | _=>False
 | .buildSlice t n parts=>if Y.bx t then Z3 P t n (parts.toList.map fun p=>(p.1,zr G σ.tm p.2)) σ K else Yw P t n (parts.toList.map fun p=>(p.1,zr G σ.tm p.2)) σ.nx fun c nx'=>K c ⟨σ.tm,σ.bx,nx',σ.lg⟩
 | .mapUpdate t m k x=>Nr P t (zr G σ.tm m) (zr G σ.tm k) (zr G σ.tm x) σ K
 | .insert t m k x=>Nr P t (zr G σ.tm m) (zr G σ.tm k) (zr G σ.tm x) σ K
 | .makeSlice t l c=>if Y.bx t then Uu P t (zr G σ.tm l) (zr G σ.tm c) σ K else zet P t (zr G σ.tm l) (zr G σ.tm c) σ.nx fun c nx'=>K c ⟨σ.tm,σ.bx,nx',σ.lg⟩
 | op=>Jl P G σ.bx (zr G σ.tm) op σ.nx fun c nx'=>K c ⟨σ.tm,σ.bx,nx',σ.lg⟩
theorem YF.far (h:YF G E σ R L) (hf:Far R R') {lg:Nat} (hJ:E.J lg R'):YF G E ⟨σ.tm,σ.bx,σ.nx,lg⟩ R' L:=by
 refine ⟨⟨h.fit.glob.ext hf.ext,⟨h.fit.boxes.len,h.fit.boxes.nodup,fun i b cs hi hc=>?_⟩,⟨fun id e k v ht=>?_,h.fit.owns.apart⟩,fun g hg=>h.fit.base g (WM hf.size hg)⟩,hf.os.trans h.os,hf.tape.trans h.tape,hf.output.trans h.output,WM h.size hf.size,fun b hb hx hF=>?_,h.ext.trans hf.ext,h.box,h.tub,hf.flt,fun b hb=>(hf.fgn b (WL hb h.size)).trans (h.fz b hb),fun b hb hF=>?_,fun id e k v b ht hv hF=>?_,h.free,hJ⟩
 ·obtain ⟨vs,ty,e1,e2,e3,e4⟩:=h.fit.boxes.box i b cs hi hc;obtain ⟨g1,g2⟩:=hf.blk b (qc e1) (h.fbx b (Wf hi));exact ⟨vs,ty,g1.trans e1,zy.ext hf.ext (zM.refl _) _ _ e2,e3,fun o=>(g2 o).2 (e4 o)⟩
 ·refine (h.fit.owns.own id e k v ht).move fun g hv q2 hlt q7=>?_;obtain ⟨g1,g2⟩:=hf.blk g hlt (h.fow id e k v g ht hv);exact ⟨q2,g1,q7,fun o ho=>(g2 o).2 ho⟩
 ·have hlt:=WL hb h.size;have hF':¬R.F b:=fun h'=>hF ((hf.fgn b hlt).2 h');obtain ⟨g1,g2⟩:=hf.blk b hlt hF';obtain ⟨k1,k2⟩:=h.blk b hb hx hF';exact ⟨g1.trans k1,fun o=>(g2 o).trans (k2 o)⟩
 ·exact h.fbx b hb ((hf.fgn b (h.fit.β_lt b hb)).1 hF)
 ·exact h.fow id e k v b ht hv ((hf.fgn b ((h.fit.owns.own id e k v ht).block hv).2.1).1 hF)
theorem Mm.far (h:Mm E ds R) (hf:Far R R'):Mm E ds R':=by
 obtain ⟨l,e,hl,h⟩:=h;refine ⟨l,e,hl,fun d hd=>?_⟩;obtain ⟨h1,h2,h3⟩:=h d hd;exact ⟨(hf.blk d (qc h1) h3).1.trans h1,h2,fun h'=>h3 ((hf.fgn d (qc h1)).1 h')⟩
theorem qH.far (h:qH G E σ a R L) (hf:Far R R') {lg:Nat} (hJ:E.J lg R'):qH G E ⟨σ.tm,σ.bx,σ.nx,lg⟩ a R' L:=
 ⟨h.good.far hf hJ,h.size,h.df.far hf,fun t=>Rep.ext hf.ext (zM.refl _) _ _ (h.tm t)⟩
theorem vG {Y:Option Yd} (hY:∀ y,Y=some y->YOk P y E.J) {c:Call} {f:Operand} (ho:o.op = .call c) (hc:c.callee = .value f) {l:Nat} (hev:zr G σ.tm f = .sc (.func (.yield l) #[] #[])) {K:C->St->Prop} {R:Env} {L:Loc} (h:qH G E σ a R L)
  (hK:zaA Y l (c.args.toList.map (zr G σ.tm)) σ K):jo P o a.eval R.w (YD G E a K):=by
 unfold zaA at hK;split at hK<;>try exact hK.elim
 rename_i y;obtain ⟨rfl,hK⟩:=hK;unfold NC at hK;split at hK<;>try exact hK.elim
 rename_i it hit;obtain ⟨hle,hst,hK⟩:=hK;have hf:=h.ev f;rw[hev,zq]at hf;have hargs:=zy.less _ _ _ hle (YU h.ev c.args.toList);have hargs0:zy R zJ it (c.args.toList.map a.eval):=by
  refine zy.ext (Ext.refl R) (T:=Jp [] 0 L) ⟨fun i b hb=>?_,fun id x hx=>?_⟩ _ _ hargs
  ·simp at hb
  ·have hx:Vj [] L.T id=some x:=hx;simp[Vj]at hx
 obtain ⟨fn,tmps,assign,body,hrun,hround⟩:=hY y rfl σ.lg R it _ h.good.log h.good.flt hst hit hargs0;have hexec:(execOp a.eval o).run P R.w = .ok (.round y.l fn tmps assign body) R.w:=by
  unfold execOp;simp only[ho,resolve,hc,hf];have e2:(Deferred.ofValue (.func (.yield y.l) #[] #[]) (c.args.map a.eval)).run P R.w = .ok { target:=.fn (.yield y.l) #[],args:=c.args.map a.eval } R.w:=by
   simp[Deferred.ofValue]
  rw[Wn,e2];simp only[Wi,invoke];have e3:(c.args.toList.map a.eval).toArray=c.args.map a.eval:=by apply Br;simp
  rw[e3]at hrun;simpa using hrun
 unfold jo;rw[hexec];refine hround.mono ?_;rintro e w' ⟨rfl,R',rfl,hfar,hJ⟩;exact ⟨_,rfl,_,_,R',L,rfl,h.far hfar hJ,zq.2 rfl,hK⟩
theorem zfM (ho:o.op = .call { callee:=.builtin .cap,args:=#[x],argTypes:=#[t] }) {K:C->St->Prop} {R:Env} {L:Loc} (h:qH G E σ a R L) (hK:zoT P t (zr G σ.tm x) fun c=>K c σ):jo P o a.eval R.w (YD G E a K):=by
 unfold zoT at hK;split at hK<;>try exact hK.elim
 ·rename_i e s1 b1 z1 i off k n c hl hev;have hs:=h.ev x;rw[hev,jx]at hs;obtain ⟨b,hb,ad,es,_⟩:=hs;refine jo.value (w':=R.w) (v:=goInt (c:Int)) ?_ ⟨_,_,R,L,rfl,h,zq.2 rfl,hK⟩;unfold execOp;simp only[ho,resolve,invoke,builtin,Wn,WB,Wi,OG,Wm,Wv,es];simp[Builtin.cap_,WD (qg hl rfl)]
 ·rename_i e s1 b1 z1 hl hev;have hs:=h.ev x;rw[hev,zq]at hs;refine jo.value (w':=R.w) (v:=goInt ((0:Nat):Int)) ?_ ⟨_,_,R,L,rfl,h,zq.2 rfl,hK⟩;unfold execOp;simp only[ho,resolve,invoke,builtin,Wn,WB,Wi,OG,Wm,Wv,hs];simp[Builtin.cap_,WD (qg hl rfl)]
theorem Vm {Y:Hd} (hY:zoy P Y E) {K:C->St->Prop} (hK:Mn P G Y o.op σ K) {R:Env} {L:Loc} (h:qH G E σ a R L):jo P o a.eval R.w (YD G E a K):=by
 have pure1:Jl P G σ.bx (zr G σ.tm) o.op σ.nx (fun c nx'=>K c ⟨σ.tm,σ.bx,nx',σ.lg⟩)->jo P o a.eval R.w (YD G E a K):=fun hp=>by
  obtain ⟨c,nx',h1,h2⟩:=UX _ hp;exact Vo h1 h h2
 unfold Mn at hK;split at hK
 ·exact uF (by assumption) h hK
 ·exact zhu (by assumption) h hK
 ·exact uA (by assumption) h hK
 ·rename_i c ho;split at hK
  ·rename_i f hc;unfold MN at hK;split at hK
   ·rename_i l fs cs hev;obtain ⟨rfl,rfl,hK⟩:=hK;exact vG hY.yd ho hc hev h hK
   ·rename_i fid first cap hev
    rcases hK with hK | hK | hK | hK | hK
    ·exact pure1 (by rw[ho];simp only[Jl,xJ,hc];rw[hev];exact hK)
    ·exact yJ ho hc hev h hK
    ·obtain ⟨fargs,r,n,h1,h2,h3,h4⟩:=hK;exact Vo (zbY ho hc hev h1 h2 h3) h h4
    ·exact kH ho hc hev h hK
    ·exact yK ho hc hev h hK
   ·exact hK.elim
  ·rename_i b hc;unfold uq at hK;split at hK
   ·rename_i x t h1 h2;exact pure1 (by rw[ho];simp only[Jl,xJ,hc,UY,h1,h2];exact hK)
   ·rename_i s x t t' h1 h2;split at hK
    rotate_left
    ·obtain ⟨callee,args,argTypes⟩:=c;simp only at hc h1 h2;rw[qy h1,qy h2,hc]at ho;exact zbD ho h hK
    subst_vars
    split at hK
    ·obtain ⟨callee,args,argTypes⟩:=c;simp only at hc h1 h2;rw[qy h1,qy h2,hc]at ho;split at hK
     ·exact uB ho h hK
     ·exact xw hY.box ho h hK
    ·unfold GY at hK;split at hK
     ·rename_i id e k rows hev;rw[←hev]at hK;obtain ⟨callee,args,argTypes⟩:=c;simp only at hc h1 h2;rw[qy h1,qy h2,hc]at ho;exact xE ho h hK
     ·exact pure1 (by rw[ho];simp only[Jl,xJ,hc,UY,h1,h2];exact ⟨trivial,hK⟩)
   ·rename_i d x t t' h1 h2;obtain ⟨callee,args,argTypes⟩:=c;simp only at hc h1 h2;rw[qy h1,qy h2,hc]at ho;exact zdf ho h hK
   ·rename_i x t h1 h2;obtain ⟨callee,args,argTypes⟩:=c;simp only at hc h1 h2;rw[Yn h1,Yn h2,hc]at ho;exact uC ho h hK
   ·rename_i x t h1 h2;obtain ⟨callee,args,argTypes⟩:=c;simp only at hc h1 h2;rw[Yn h1,Yn h2,hc]at ho;exact zfM ho h hK
   ·rename_i x y t t' h1 h2;exact pure1 (by rw[ho];simp only[Jl,xJ,hc,UY,h1,h2];exact hK)
   ·exact hK.elim
  ·exact hK.elim
 ·rename_i t n parts ho;split at hK
  ·exact HF ho h hK
  ·obtain ⟨c,nx',h1,h2⟩:=Qm ho _ hK;exact Vo h1 h h2
 ·exact Ui (.inl (by assumption)) h hK
 ·exact Ui (.inr (by assumption)) h hK
 ·rename_i t l c ho;split at hK
  ·exact NI ho h hK
  ·exact pure1 (by rw[ho];exact hK)
 ·exact pure1 hK
end
end
section
open Go.RowKit
abbrev Fl (r:Option Nat):Fence:={ fn:=fun _=>True,depth:=none,alive:=false,round:=r }
theorem Gy {P:Program} {args:Array Value} {R:Ending->World->Prop} (h:Calls P f args w R):CallsIn (Fl r) n P f args w R:=by
 have:=(callsIn_wide (n:=n)).2 h;cases r with
 | none=>exact this
 | some l=>exact this
theorem zdh {P:Program} {l:Nat} {tmps:Array Value} {assign body:Code} {R:Ending->World->Prop} (h:RoundIn Fence.wide 0 P l f tmps assign body w R):RoundIn (Fl r) n P l f tmps assign body w R:=by
 have:RoundIn (Fl none) n P l f tmps assign body w R:=⟨h.1,fun c cs _=>h.2 c cs (room_wide _)⟩;cases r with
 | none=>exact this
 | some l=>exact this
section
variable {P:Program} {G:zp} {E:Ctx} {σ:St} {o:Oper} {a:Act} {N p:Nat}
theorem jG {next:Act->World->Prop} (h:jo P o a.eval w fun v w'=>next (a.put o.dst v) w'):o.wpIn (Fl r) n P a w next Q:=by
 have hnd:∀ c,o.op≠.defer c:=fun c hc=>by
  unfold jo at h;have:(execOp a.eval o).run P w=((resolve a.eval c o.type).run P w).andThen fun d w'=>.ok (.defer d) w':=by
   unfold execOp;simp only[hc,Wn,WB]
  rw[this]at h;cases hr:(resolve a.eval c o.type).run P w with
  | ok d w'=>rw[hr]at h;exact h
  | halt x w'=>rw[hr]at h;cases x<;>exact h
 refine ⟨fun f _=>trivial,?_⟩;rw[Oper.semAt_eq _ _ _ hnd];unfold jo at h;split at h
 ·rename_i v w' hr;rw[hr];exact h
 ·rename_i w' hr;rw[hr];exact h
 ·rename_i f args w' hr;rw[hr];refine ⟨fun hx=>by simp at hx,Gy (h.mono ?_)⟩;rintro e w'' ⟨v,rfl,hv⟩;exact hv
 ·rename_i l f tmps assign body w' hr;rw[hr];refine ⟨fun hx=>by simp at hx,zdh (h.mono ?_)⟩;rintro e w'' ⟨v,rfl,hv⟩;exact hv
 ·exact h.elim
def jj (ops:Array Oper) (tm:List (Nat×C)) (g:Option (Nat×Bool)) (X Y:Prop):Prop:=
 match g with
 | none=>X
 | some (j,want)=>match (ops[j]?).bind (·.dst) with
  | some d=>match want with
   | true=>zlA (jU tm d) Y X Y
   | false=>zlA (jU tm d) Y Y X
  | none=>False
def JZ (ops:Array Oper) (tm:List (Nat×C)) (g:Option (Nat×Bool)) (b:Bool):Prop:=
 match g with
 | none=>b=true
 | some (j,want)=>∃ d,(ops[j]?).bind (·.dst)=some d/\((∃ t,jU tm d = .sc (.bool t)/\b=(t==want))∨((∃ vs,jU tm d = .sc (.tuple vs))/\b=false))
theorem jj.out {ops:Array Oper} {g:Option (Nat×Bool)} {X Y:Prop} (h:jj ops tm g X Y):∃ b,JZ ops tm g b/\(b=true->X)/\(b=false->Y):=by
 unfold jj at h;split at h
 ·exact ⟨true,rfl,fun _=>h,fun h=>by cases h⟩
 ·rename_i j want;split at h
  ·rename_i d hd;split at h
   ·rcases h.out with ⟨t,ht,h1,h2⟩ | ⟨hu,h1⟩
    ·exact ⟨t==true,⟨d,hd,.inl ⟨t,ht,rfl⟩⟩,fun e=>h1 (by simpa using e),fun e=>h2 (by simpa using e)⟩
    ·exact ⟨false,⟨d,hd,.inr ⟨hu,rfl⟩⟩,fun e=>(by cases e),fun _=>h1⟩
   ·rcases h.out with ⟨t,ht,h1,h2⟩ | ⟨hu,h1⟩
    ·exact ⟨t==false,⟨d,hd,.inl ⟨t,ht,rfl⟩⟩,fun e=>h2 (by simpa using e),fun e=>h1 (by simpa using e)⟩
    ·exact ⟨false,⟨d,hd,.inr ⟨hu,rfl⟩⟩,fun e=>(by cases e),fun _=>h1⟩
  ·exact h.elim
theorem jS {ops:Array Oper} {g:Option (Nat×Bool)} (hg:o.guard=g) (h:JZ ops tm g b) {R:Env} {L:Loc} (hd:∀ j want d,g=some (j,want)->(ops[j]?).bind (·.dst)=some d->d<a.tmps.size/\Rep R L (jU tm d) (a.tmps.getD d undef)) :
  Region.wanted o (yielded ops a.tmps)=b:=by
 unfold Region.wanted;rw[hg];unfold JZ at h;cases g with
 | none=>exact h.symm
 | some jw =>
  obtain ⟨j,want⟩:=jw;obtain ⟨d,h1,h2⟩:=h;obtain ⟨hlt,hr⟩:=hd j want d rfl h1;have hget:a.tmps[d]?=some (a.tmps.getD d undef):=by rw[WY hlt,Wq,WY hlt];rfl
  rcases h2 with ⟨t,h2,rfl⟩ | ⟨⟨vs,h2⟩,rfl⟩
  ·rw[h2,zq]at hr;have hy:yielded ops a.tmps j=some t:=by
    unfold yielded;rw[h1];simp[hget,hr]
   simp only[hy];cases t<;>cases want<;>rfl
  ·rw[h2,zq]at hr;have hy:yielded ops a.tmps j=none:=by
    unfold yielded;rw[h1];simp[hget,hr]
   simp only[hy]
   rfl
def jH (tm:List (Nat×C)) (dst:Option Tmp) (c:C):List (Nat×C):=match dst with | some d=>(d,c) :: tm | none=>tm
def ZM (P:Program) (G:zp) (Y:Hd) (ops:Array Oper):List Oper->List Bool->St->(St->Prop)->Prop
 | [],_,σ,K=>K σ
 | o :: rest,br,σ,K=>jj ops σ.tm o.guard
   (match br.headD false with
    | true=>Mn P G Y o.op σ fun c σ'=>ZM P G Y ops rest br.tail (σ'.put o.dst c) K
    | false=>Jl P G σ.bx (zr G σ.tm) o.op σ.nx fun c nx'=>ZM P G Y ops rest br.tail ⟨jH σ.tm o.dst c,σ.bx,nx',σ.lg⟩ K)
   (ZM P G Y ops rest br.tail ⟨jH σ.tm o.dst (.sc undef),σ.bx,σ.nx,σ.lg⟩ K)
theorem uP {bx:List (List C)} {ev ev':Operand->C} {K:C->Nat->Prop} (op:Op) (h:∀ x∈op.operands,ev x=ev' x):Jl P G bx ev op nx K=Jl P G bx ev' op nx K:=by
 have parts:∀ l:List (Nat×Operand),(∀ x∈l.map (·.2),ev x=ev' x)->l.map (fun p=>(p.1,ev p.2))=l.map fun p=>(p.1,ev' p.2):=fun l hl =>
  A8 fun p hp=>by rw[hl p.2 (WR.2 ⟨p,hp,rfl⟩)]
 have many:∀ l:List Operand,(∀ x∈l,ev x=ev' x)->l.map ev=l.map ev':=fun l hl=>A8 hl;cases op<;>simp only[Op.operands]at h<;>simp only[Jl]
 case move x=>rw[h x (by simp)]
 case assign x=>rw[h x (by simp)]
 case pick c a b=>rw[h c (by simp),h a (by simp),h b (by simp)]
 case build t ps=>rw[parts _ fun x hx=>h x (by simpa using hx)]
 case buildSlice t n ps=>rw[parts _ fun x hx=>h x (by simpa using hx)]
 case load t x=>rw[h x (by simp)]
 case nilCheck x=>rw[h x (by simp)]
 case store t p x=>rw[h p (by simp),h x (by simp)]
 case lookup t m k ok=>rw[h m (by simp),h k (by simp)]
 case makeMap t r =>
  have e1:r.map ev=r.map ev':=by cases r with | none=>rfl | some y=>simp[h y (by simp)]
  rw[e1]
 case binOp op t x y t'=>rw[h x (by simp),h y (by simp)]
 case unOp op t x=>rw[h x (by simp)]
 case convert s d x=>rw[h x (by simp)]
 case makeFunc fn first cap=>rw[many first.toList fun x hx=>h x (by simp at hx ⊢;exact .inl hx),many cap.toList fun x hx=>h x (by simp at hx ⊢;exact .inr hx)]
 case makeSlice t l c=>rw[h l (by simp),h c (by simp)]
 case slice t x lo hi mx =>
  rw[h x (by simp)];have e1:lo.map ev=lo.map ev':=by cases lo with | none=>rfl | some y=>simp[h y (by simp)]
  have e2:hi.map ev=hi.map ev':=by cases hi with | none=>rfl | some y=>simp[h y (by simp)]
  have e3:mx.map ev=mx.map ev':=by cases mx with | none=>rfl | some y=>simp[h y (by simp)]
  rw[e1,e2,e3]
 case fieldAddr t x f=>rw[h x (by simp)]
 case field t x f=>rw[h x (by simp)]
 case indexAddr t x i=>rw[h x (by simp),h i (by simp)]
 case index t x i=>rw[h x (by simp),h i (by simp)]
 case extract t i=>rw[h t (by simp)]
 case call c =>
  unfold xJ;have hargs:∀ x∈c.args.toList,ev x=ev' x:=fun x hx=>h x (by unfold Call.operands;simp at hx ⊢;exact .inr hx);split
  ·rename_i f hc;rw[h f (by unfold Call.operands;rw[hc];simp),many _ hargs]
  ·unfold UY;split
   ·rename_i x t h1 h2 _;rw[hargs x (by rw[h1];simp)]
   ·rename_i s x t t' h1 h2 _;rw[hargs s (by rw[h1];simp),hargs x (by rw[h1];simp)]
   ·rename_i s x t t' h1 h2 _;rw[hargs s (by rw[h1];simp),hargs x (by rw[h1];simp)]
   ·rfl
  ·rfl
open Classical in
/-- the operands of an operation alone -/
noncomputable def XQ (o:Oper) (ev:Operand->C):Operand->C:=fun x=>if x∈o.op.operands then ev x else .any
theorem Yr {bx:List (List C)} {ev:Operand->C} {K:C->Nat->Prop} (h:Jl P G bx ev o.op nx K):∃ c nx',zH P G bx (XQ o ev) nx o c nx'/\K c nx':=by
 rw[uP (ev':=XQ o ev) o.op fun x hx=>by unfold XQ;rw[if_pos hx]]at h;exact UX K h
structure YC where
 T:Nat->List (Nat×C)
 X:Nat->Nat
 c:Nat->C
 wn:Nat->Bool
structure zhg (P:Program) (G:zp) (bx:List (List C)) (ops:Array Oper) (l:List Oper) (m m':Nat) (D:YC):Prop where
 step:∀ (i:Nat) o,m<=i->i<m'->l[i]?=some o->D.T (i+1)=jH (D.T i) o.dst (D.c i)/\D.X i<=D.X (i+1)/\JZ ops (D.T i) o.guard (D.wn i) /\
  (D.wn i=true->zH P G bx (XQ o (zr G (D.T i))) (D.X i) o (D.c i) (D.X (i+1)))/\(D.wn i=false->D.c i = .sc undef/\D.X (i+1)=D.X i)
structure MQ (l:List Oper) (m m':Nat) (D:YC):Prop where
 step:∀ (i:Nat) o,m<=i->i<m'->l[i]?=some o->D.T (i+1)=jH (D.T i) o.dst (D.c i)/\D.X i<=D.X (i+1)
theorem zhg.skel {bx:List (List C)} {ops:Array Oper} {m:Nat} {D:YC} (h:zhg P G bx ops l m m' D):MQ l m m' D:=⟨fun i o a b c=>⟨(h.step i o a b c).1,(h.step i o a b c).2.1⟩⟩
theorem yC {Y:Hd} {ops:Array Oper} {all:List Oper} {K:St->Prop}:∀ (l:List Oper) (br:List Bool) (m:Nat) (σ:St),all.drop m=l->m<=all.length->ZM P G Y ops l br σ K ->
  ∃ (m':Nat) (D:YC),m<=m'/\m'<=all.length/\D.T m=σ.tm/\D.X m=σ.nx/\zhg P G σ.bx ops all m m' D /\
   ((m'=all.length/\K ⟨D.T m',σ.bx,D.X m',σ.lg⟩)∨(m'<all.length/\br[m'-m]?=some true/\ZM P G Y ops (all.drop m') (br.drop (m'-m)) ⟨D.T m',σ.bx,D.X m',σ.lg⟩ K))
 | [],br,m,σ,hl,hm,h=>by
  have:m=all.length:=by
   have:=WA List.length hl;simp at this;omega
  subst this;exact ⟨_,⟨fun _=>σ.tm,fun _=>σ.nx,fun _=>.any,fun _=>true⟩,Wb _,Wb _,rfl,rfl,⟨fun i o h1 h2=>by omega⟩,.inl ⟨rfl,h⟩⟩
 | o :: rest,br,m,σ,hl,hm,h=>by
  have hlt:m<all.length:=by
   rcases Wr m all.length with g | g
   ·exact g
   ·rw[AE g]at hl;cases hl
  have hom:all[m]?=some o:=by
   have:=W4 (xs:=all) (i:=m) (j:=0);rw[hl]at this;simpa using this.symm
  have hrest:all.drop (m+1)=rest:=by
   have:=WA List.tail hl;simpa using this
  cases hbr:br.headD false with
  | true =>
   refine ⟨m,⟨fun _=>σ.tm,fun _=>σ.nx,fun _=>.any,fun _=>true⟩,Wb _,by omega,rfl,rfl,⟨fun i o h1 h2=>by omega⟩,.inr ⟨hlt,?_,?_⟩⟩
   ·cases br with
    | nil=>simp at hbr
    | cons x r=>simp at hbr;simp[hbr]
   ·rw[hl,Nat.sub_self];exact h
  | false =>
   unfold ZM at h;obtain ⟨b,hg,h1,h2⟩:=jj.out h;simp only[hbr]at h1;have key:∀ (c:C) (nx':Nat),(b=true->zH P G σ.bx (XQ o (zr G σ.tm)) σ.nx o c nx')->(b=false->c = .sc undef/\nx'=σ.nx)->σ.nx<=nx'->ZM P G Y ops rest br.tail ⟨jH σ.tm o.dst c,σ.bx,nx',σ.lg⟩ K ->
     ∃ (m':Nat) (D:YC),m<=m'/\m'<=all.length/\D.T m=σ.tm/\D.X m=σ.nx/\zhg P G σ.bx ops all m m' D /\
      ((m'=all.length/\K ⟨D.T m',σ.bx,D.X m',σ.lg⟩)∨(m'<all.length/\br[m'-m]?=some true/\ZM P G Y ops (all.drop m') (br.drop (m'-m)) ⟨D.T m',σ.bx,D.X m',σ.lg⟩ K)):=fun c nx' hp hq hle hrst=>by
    obtain ⟨m',D,d1,d2,d3,d4,d5,d6⟩:=yC rest br.tail (m+1) _ hrest (by omega) hrst;refine ⟨m',⟨fun i=>if i<=m then σ.tm else D.T i,fun i=>if i<=m then σ.nx else D.X i,fun i=>if i=m then c else D.c i,fun i=>if i=m then b else D.wn i⟩,by omega,d2,by simp,by simp,⟨fun i o' hi hi' hio=>?_⟩,?_⟩
    ·by_cases him:i=m
     ·subst him;rw[hom]at hio;cases hio;simp only[Wb,if_true,show ¬i+1<=i by omega,W2];refine ⟨d3,by rw[d4];exact hle,hg,fun hb=>?_,fun hb=>?_⟩
      ·rw[d4];exact hp hb
      ·rw[d4];exact hq hb
     ·simp only[if_neg him,if_neg (show ¬i<=m by omega),if_neg (show ¬i+1<=m by omega)];exact d5.step i o' (by omega) hi' hio
    ·simp only[if_neg (show ¬m'<=m by omega)];rcases d6 with ⟨g1,g2⟩ | ⟨g1,g2,g3⟩
     ·exact .inl ⟨g1,g2⟩
     ·refine .inr ⟨g1,?_,?_⟩
      ·cases br with
       | nil=>simp at g2
       | cons x r =>
        rw[show m'-m=(m'-(m+1))+1 by omega];simpa using g2
      ·cases br with
       | nil=>simp at g2
       | cons x r =>
        rw[show m'-m=(m'-(m+1))+1 by omega];simpa using g3
   cases b with
   | true =>
    obtain ⟨c,nx',hp,hK⟩:=Yr (h1 rfl);exact key c nx' (fun _=>hp) (fun h=>by cases h) hp.1 hK
   | false=>exact key (.sc undef) σ.nx (fun h=>by cases h) (fun _=>⟨rfl,rfl⟩) (Wb _) (h2 rfl)
end
end
variable {D:YC}
section
open Go.RowKit
def qz (l:List Oper):Nat->List Nat
 | 0=>[]
 | m+1=>qz l m++[match l[m]? with
  | some o=>o.after.toList.foldl (fun acc e=>if Region.binds .any e then acc ||| 2 ^ e.on ||| (qz l m).getD e.on 0 else acc) 0
  | none=>0]
def inC (cl:List Nat) (i j:Nat):Bool:=(cl.getD i 0).testBit j
theorem Q3 (l:List Oper):∀ m,(qz l m).length=m
 | 0=>rfl
 | m+1=>by simp[qz,Q3 l m]
theorem xp {p:List Nat} {x:Nat}:∀ (l:List Edge) (acc:Nat),(l.foldl (fun acc e=>if Region.binds .any e then acc ||| 2 ^ e.on ||| p.getD e.on 0 else acc) acc).testBit x=true ->
  acc.testBit x=true∨∃ e∈l,Region.binds .any e=true/\(x=e.on∨inC p e.on x=true)
 | [],acc,h=>.inl h
 | e :: l,acc,h=>by
  rw[Bo]at h;rcases xp l _ h with h | ⟨e',h1,h2⟩
  ·split at h
   ·rename_i hb;simp only[Nat.testBit_or,Oc,Nat.testBit_two_pow,W8]at h;rcases h with (h | h) | h
    ·exact .inl h
    ·exact .inr ⟨e,Wk,hb,.inl h.symm⟩
    ·exact .inr ⟨e,Wk,hb,.inr h⟩
   ·exact .inl h
  ·exact .inr ⟨e',Wl _ h1,h2⟩
def jr (ops:Array Oper) (o:Oper):List Tmp:=o.looksAt ops++o.dst.toList
def zf6 (ops:Array Oper) (cl:List Nat) (i:Nat) (o:Oper) (j:Nat) (o':Oper):Bool:=
 i==j||match o'.dst with
  | none=>true
  | some d=>!((jr ops o).contains d)||(if j<i then inC cl i j else inC cl j i)
def YA (ops:Array Oper):Bool:=
 let cl:=qz ops.toList ops.size
 ops.toList.zipIdx.all fun (o,i)=>(o.after.toList.all fun e=>!Region.binds .any e||decide (e.on<i))&&ops.toList.zipIdx.all fun (o',j)=>zf6 ops cl i o j o'
def jk (l:List Oper) (D:Nat->Bool):Prop:=∀ (i:Nat) o,l[i]?=some o->D i=true->∀ e∈o.after.toList,Region.binds .any e=true->D e.on=true
theorem jF {l:List Oper} {D:Nat->Bool} (hD:jk l D):∀ (m i x:Nat),inC (qz l m) i x=true->D i=true->D x=true
 | 0,i,x,h,_=>by simp[qz,inC]at h
 | m+1,i,x,h,hi=>by
  have hl:=Q3 l m;simp only[qz,inC]at h;rcases Wr i m with hlt | hge
  ·rw[W7,Wu (by omega),←W7]at h;exact jF hD m i x h hi
  ·rw[W7,WP (by omega),←W7]at h;rcases Wr m i with h1 | h1
   ·rw[W7,W0 (by simp;omega)]at h;simp at h
   ·have:i=m:=by omega
    subst this;rw[hl,Nat.sub_self]at h;simp only[List.getD_cons_zero]at h;cases ho:l[i]? with
    | none=>rw[ho]at h;simp at h
    | some o =>
     rw[ho]at h;rcases xp _ _ h with h | ⟨e,he,hb,hx⟩
     ·simp at h
     ·have hon:=hD i o ho hi e he hb;rcases hx with rfl | hx
      ·exact hon
      ·exact jF hD i e.on x hx hon
def val (T0:List (Nat×C)) (l:List Oper) (c:Nat->C) (D:Nat->Bool):Nat->Nat->C
 | 0,t=>jU T0 t
 | m+1,t=>if D m=true/\(l[m]?).bind (·.dst)=some t then c m else val T0 l c D m t
section
variable {P:Program} {G:zp} {E:Ctx} {σ:St} {a:Act} {N p:Nat} {bx:List (List C)} {ops:Array Oper}
theorem YK {D:YC} {l:List Oper} {m m':Nat} (hl:m'<=l.length) (h:MQ l m m' D) (t:Nat):∀ k,m<=k->k<=m'->jU (D.T k) t=val (D.T m) l D.c (fun j=>decide (m<=j)) k t
 | k,hm,hk=>by
  rcases Wr m k with hlt | hge
  ·obtain ⟨k,rfl⟩:∃ j,k=j+1:=⟨k-1,by omega⟩;obtain ⟨h1,_⟩:=h.step k l[k] (by omega) (by omega) (Wa (by omega));rw[h1];simp only[val,Wa (show k<l.length by omega),AN];have hmk:m<=k:=by omega
   cases hd:(l[k]).dst with
   | none=>simp[jH,YK hl h t k hmk (by omega)]
   | some d =>
    simp only[jH,jU];by_cases ht:t=d
    ·simp[ht,hmk]
    ·have:¬d=t:=fun e=>ht e.symm;simp[ht,this,YK hl h t k hmk (by omega)]
  ·obtain rfl:k=m:=by omega
   have:∀ n,n<=k->val (D.T k) l D.c (fun j=>decide (k<=j)) n t=jU (D.T k) t:=fun n=>by
    induction n with
    | zero=>intro _;rfl
    | succ n ih =>
     intro hn;simp only[val];rw[if_neg (by simp;omega),ih (by omega)]
   exact (this k (Wb _)).symm
theorem qL {T0:List (Nat×C)} {l:List Oper} {c:Nat->C} {D D':Nat->Bool} {t:Nat}:∀ m,(∀ j,j<m->(l[j]?).bind (·.dst)=some t->D j=D' j)->val T0 l c D m t=val T0 l c D' m t
 | 0,_=>rfl
 | m+1,h=>by
  simp only[val];rw[qL m fun j hj=>h j (by omega)];by_cases hd:(l[m]?).bind (·.dst)=some t
  ·rw[h m (by omega) hd]
  ·simp[hd]
theorem Jb {T0:List (Nat×C)} {l:List Oper} {c:Nat->C} {D:Nat->Bool} {t:Nat} (i:Nat):∀ m,i<=m->(∀ j,i<=j->j<m->(l[j]?).bind (·.dst)=some t->D j=false)->val T0 l c D m t=val T0 l c D i t
 | 0,hi,_=>by rw[show i=0 by omega]
 | m+1,hi,h=>by
  rcases Wr m i with h1 | h1
  ·rw[show i=m+1 by omega]
  ·simp only[val];rw[Jb i m h1 fun j hj hj'=>h j hj (by omega)];by_cases hd:(l[m]?).bind (·.dst)=some t
   ·rw[h m h1 (by omega) hd];simp
   ·simp[hd]
structure QX (G:zp) (E:Ctx) (bx:List (List C)) (lg:Nat) (l:List Oper) (m m':Nat) (D:YC) (S:Nat->Bool) (a:Act) (R:Env) (L:Loc):Prop where
 good:YF G E ⟨[],bx,D.X m',lg⟩ R L
 free:∀ id,D.X m<=id->(∀ i,m<=i->i<m'->S i=true->¬(D.X i<=id/\id<D.X (i+1)))->L.T id=none
 size:a.tmps.size=E.N
 df:Mm E a.defers R
 tm:∀ t,Rep R L (val (D.T m) l D.c (fun j=>decide (m<=j)&&S j) l.length t) (a.tmps.getD t undef)
theorem V2 {D:YC} {l:List Oper} {m m':Nat} (hl:m'<=l.length) (h:MQ l m m' D):∀ (i j:Nat),m<=i->i<=j->j<=m'->D.X i<=D.X j
 | i,0,_,hij,_=>by rw[show i=0 by omega];exact Wb _
 | i,j+1,hm,hij,hj=>by
  rcases Wr j i with h1 | h1
  ·rw[show i=j+1 by omega];exact Wb _
  ·obtain ⟨_,h2⟩:=h.step j l[j] (by omega) (by omega) (Wa (by omega));exact WM (V2 hl h i j hm h1 (by omega)) h2
theorem znA {m:Nat} (hl:m'<=l.length) (h:MQ l m m' D) {i j id:Nat} (hmi:m<=i) (hmj:m<=j) (hi:i<m') (hj:j<m') (h1:D.X i<=id) (h2:id<D.X (i+1)) (h3:D.X j<=id) (h4:id<D.X (j+1)):i=j:=by
 rcases Aq i j with g | g | g
 ·have:=V2 hl h (i+1) j (by omega) (by omega) (by omega);omega
 ·exact g
 ·have:=V2 hl h (j+1) i (by omega) (by omega) (by omega);omega
theorem zcN (h:YA ops=true) {i:Nat} {o:Oper} (ho:ops.toList[i]?=some o):∀ e∈o.after.toList,Region.binds .any e=true->e.on<i:=by
 unfold YA at h;have h1:=WC.1 h (o,i) (AS.2 ho);simp only[Wt]at h1;intro e he hb;have:=WC.1 h1.1 e he;simpa [hb] using this
theorem zcp (h:YA ops=true) {i j:Nat} {o o':Oper} (ho:ops.toList[i]?=some o) (ho':ops.toList[j]?=some o'):zf6 ops (qz ops.toList ops.size) i o j o'=true:=by
 unfold YA at h;have h1:=WC.1 h (o,i) (AS.2 ho);simp only[Wt]at h1;exact WC.1 h1.2 (o',j) (AS.2 ho')
theorem zcW (h:YA ops=true) {S:Nat->Bool} (hS:jk ops.toList S) {i:Nat} {o:Oper} (ho:ops.toList[i]?=some o) (hi:S i=false) (hpre:∀ e∈o.after.toList,Region.binds .any e=true->S e.on=true)
  {j t:Nat} (hj:(ops.toList[j]?).bind (·.dst)=some t) (ht:t∈jr ops o) (hne:j≠i):S j=decide (j<i):=by
 cases ho':ops.toList[j]? with
 | none=>rw[ho']at hj;cases hj
 | some o' =>
  rw[ho']at hj;have hd:o'.dst=some t:=hj;have hp:=zcp h ho ho';unfold zf6 at hp;have hij:(i==j)=false:=by simp;omega
  rw[hij,hd]at hp;have htc:(jr ops o).contains t=true:=by simpa using ht
  simp only[O4,htc,AY]at hp;by_cases hlt:j<i
  ·rw[if_pos hlt]at hp;have hmem:inC (qz ops.toList ops.size) i j=true:=by simpa using hp
   rw[Wo hlt]
   -- S' closes over i
   have hS':jk ops.toList (fun x=>S x||x==i):=fun k q hq hk e he hb=>by
    simp only[Oc,Oj]at hk ⊢;rcases hk with hk | hk
    ·exact .inl (hS k q hq hk e he hb)
    ·subst hk;rw[ho]at hq;cases hq;exact .inl (hpre e he hb)
   have:=jF hS' _ i j hmem (by simp);simp only[Oc,Oj]at this;exact this.resolve_right hne
  ·rw[if_neg hlt]at hp;have hmem:inC (qz ops.toList ops.size) j i=true:=by simpa using hp
   rw[Wp hlt];cases hsj:S j with
   | false=>rfl
   | true =>
    have:=jF hS _ j i hmem hsj;rw[hi]at this;cases this
theorem QX.ev {m:Nat} (hl:m'<=ops.toList.length) (hc:MQ ops.toList m m' D) (hok:YA ops=true) (hS:jk ops.toList S) (h:QX G E bx lg ops.toList m m' D S a R L) {i:Nat} {o:Oper} (hmi:m<=i) (hmi':i<m') (ho:ops.toList[i]?=some o) (hi:S i=false)
  (hpre:∀ e∈o.after.toList,Region.binds .any e=true->S e.on=true):∀ t∈jr ops o,Rep R L (jU (D.T i) t) (a.tmps.getD t undef):=fun t ht=>by
 have hlt:i<ops.toList.length:=(Wd.1 ho).1;have h1:=h.tm t;have e1:val (D.T m) ops.toList D.c (fun j=>decide (m<=j)&&S j) ops.toList.length t=val (D.T m) ops.toList D.c (fun j=>decide (m<=j)&&S j) i t:=by
  refine Jb i _ (by omega) fun j hj hj' hd=>?_;simp only[AK];by_cases hne:j=i
  ·rw[hne];exact .inr hi
  ·rw[zcW hok hS ho hi hpre hd ht hne];exact .inr (Wp (by omega))
 have e2:val (D.T m) ops.toList D.c (fun j=>decide (m<=j)&&S j) i t=val (D.T m) ops.toList D.c (fun j=>decide (m<=j)) i t:=qL i fun j hj hd=>by
  rw[zcW hok hS ho hi hpre hd ht (by omega),Wo hj,Bg]
 rw[e1,e2,←YK hl hc t i hmi (by omega)]at h1;exact h1
theorem QX.freeAt {m:Nat} (hl:m'<=ops.toList.length) (hc:MQ ops.toList m m' D) (h:QX G E bx lg ops.toList m m' D S a R L) {i:Nat} (hmi:m<=i) (hmi':i<m') (hi:S i=false):znt L (D.X i) (D.X (i+1)):=fun id h1 h2 =>
 h.free id (WM (V2 hl hc m i (Wb _) hmi (by omega)) h1) fun j hmj hj hsj hx=>by
  have:=znA hl hc hmi hmj hmi' hj h1 h2 hx.1 hx.2;subst this;rw[hi]at hsj;cases hsj
theorem QX.put {m:Nat} {L':Loc} (hl:m'<=ops.toList.length) (hc:MQ ops.toList m m' D) (hok:YA ops=true) (hS:jk ops.toList S) (h:QX G E bx lg ops.toList m m' D S a R L) {i:Nat} {o:Oper} (hmi:m<=i) (hmi':i<m') (ho:ops.toList[i]?=some o) (hi:S i=false)
  (hpre:∀ e∈o.after.toList,Region.binds .any e=true->S e.on=true) (hd:Xt E.N o.dst) {v:Value} (st:qw (D.X i) (D.X (i+1)) R L R' L') (hv:Rep R' L' (D.c i) v) :
  QX G E bx lg ops.toList m m' D (fun x=>S x||x==i) (a.put o.dst v) R' L':=by
 have hlt:i<ops.toList.length:=(Wd.1 ho).1;have hfree:=h.freeAt hl hc hmi hmi' hi;have hxm:=V2 hl hc (i+1) m' (by omega) (by omega) (Wb _);refine ⟨?_,fun id h1 h2=>?_,?_,?_,fun t=>?_⟩
 ·refine h.good.move (st.near _ _).nigh (h.good.fit.step hfree st) ⟨[],by rw[st.box,Oi],fun b hb=>by cases hb⟩ (fun id e k v b ht hv=>?_) fun id hid=>?_
  ·rcases st.cases ht with g | ⟨g1,g2⟩
   ·exact .inl ⟨id,e,k,v,g,hv⟩
   ·exact .inr ((st.new id e k v g1 g2 ht).block hv).1
  ·rw[st.old id (.inr (by omega))];exact h.good.free id hid
 ·have hni:=h2 i hmi hmi' (by simp);rw[st.old id (by omega)];exact h.free id h1 fun j hmj hj hsj=>h2 j hmj hj (by simp[hsj])
 ·cases hdst:o.dst<;>simpa [Act.put] using h.size
 ·have hdf:=h.df.near (st.near _ _);cases hdst:o.dst<;>exact hdf
 ·have hold:∀ t,Rep R' L' (val (D.T m) ops.toList D.c (fun j=>decide (m<=j)&&S j) ops.toList.length t) (a.tmps.getD t undef):=fun t=>Rep.ext st.ext (st.le hfree) _ _ (h.tm t);by_cases hdt:o.dst=some t
  ·have hlt2:t<a.tmps.size:=by rw[hdt]at hd;rw[h.size];exact hd
   have e1:val (D.T m) ops.toList D.c (fun j=>decide (m<=j)&&(S j||j==i)) ops.toList.length t=D.c i:=by
    rw[Jb (i+1) _ (by omega) fun j hj hj' hdj=>?_]
    ·simp[val,ho,hdt,hmi]
    ·have hag:=zcW hok hS ho hi hpre hdj (by simp[jr,hdt]) (by omega);simp only[AK,BG];exact .inr ⟨by rw[hag];exact Wp (by omega),by simp;omega⟩
   rw[e1,hdt];have:(a.put (some t) v).tmps.getD t undef=v:=by simp[Act.put,Wq,hlt2]
   rw[this];exact hv
  ·have e1:val (D.T m) ops.toList D.c (fun j=>decide (m<=j)&&(S j||j==i)) ops.toList.length t=val (D.T m) ops.toList D.c (fun j=>decide (m<=j)&&S j) ops.toList.length t:=qL _ fun j hj hdj=>by
    have hji:j≠i:=fun e=>by
     subst e;rw[ho]at hdj;exact hdt hdj
    have hj2:(j==i)=false:=by simpa using hji
    show (decide (m<=j)&&(S j||j==i))=(decide (m<=j)&&S j);rw[hj2,Az]
   rw[e1];have e2:(a.put o.dst v).tmps.getD t undef=a.tmps.getD t undef:=by
    cases hdst:o.dst with
    | none=>rfl
    | some d =>
     have hne:d≠t:=fun e=>hdt (by rw[hdst,e]);simp[Act.put,Wq,OY hne]
   rw[e2];exact hold t
def Q0 (ops:Array Oper) (br:List Bool):Bool:=
 let cl:=qz ops.toList ops.size
 (List.range ops.size).all fun i=>!(br.getD i false)||(List.range ops.size).all fun j=>j==i||if j<i then inC cl i j else inC cl j i
theorem x6 {br:List Bool} (h:Q0 ops br=true) {i j:Nat} (hi:i<ops.size) (hb:br.getD i false=true) (hji:j<i):inC (qz ops.toList ops.size) i j=true:=by
 unfold Q0 at h;have h1:=WC.1 h i (by simpa using hi);rw[hb]at h1;simp only[AY,O4]at h1;have h2:=WC.1 h1 j (by simp;omega);rw[if_pos hji]at h2;have:(j==i)=false:=by simp;omega
 rw[this]at h2;simpa using h2
theorem Nh {br:List Bool} (h:Q0 ops br=true) {i j:Nat} (hi:i<ops.size) (hj:j<ops.size) (hb:br.getD i false=true) (hji:i<j):inC (qz ops.toList ops.size) j i=true:=by
 unfold Q0 at h;have h1:=WC.1 h i (by simpa using hi);rw[hb]at h1;simp only[AY,O4]at h1;have h2:=WC.1 h1 j (by simpa using hj);rw[if_neg (by omega)]at h2;have:(j==i)=false:=by simp;omega
 rw[this]at h2;simpa using h2
end
end
section
open Go.RowKit
section
variable {P:Program} {G:zp} {E:Ctx} {σ:St} {a:Act} {N p:Nat} {bx:List (List C)} {ops:Array Oper}
theorem jJ (h:i∈Region.ready .any ops listed):∃ o,ops.toList[i]?=some o/\listed.getD i true=false/\∀ e∈o.after.toList,Region.binds .any e=true->listed.getD e.on false=true:=by
 unfold Region.ready at h;rw[OC]at h;obtain ⟨h1,h2⟩:=h;simp only[Wt,Ar]at h2;have hi:i<ops.size:=by simpa using h1
 rw[WY hi]at h2;simp only[WI,W5,AF]at h2;refine ⟨ops[i],by simp[hi],h2.1,fun e he hb=>?_⟩;have:=h2.2 e (by simpa using he);simpa [hb] using this
theorem Xr (hok:YA ops=true) (hsz:listed.size=ops.size) (h:Region.ready .any ops listed = []):∀ i,i<ops.size->listed.getD i false=true:=by
 intro i
 induction i using Nat.strongRecOn with
 | _ i ih =>
  intro hi;cases hl:listed.getD i false with
  | true=>rfl
  | false =>
   exfalso
   have:i∈Region.ready .any ops listed:=by
    unfold Region.ready;rw[OC];refine ⟨by simpa using hi,?_⟩;have h1:listed.getD i true=false:=by
     rw[Wq,WY (by omega)]at hl ⊢;simpa using hl
    rw[h1,WY hi];simp only[O8,Ol,WI,W5,AF];intro e he;cases hb:Region.binds .any e with
    | false=>simp
    | true =>
     have hlt:=zcN hok (i:=i) (o:=ops[i]) (by simp[hi]) e (by simpa using he) hb;simp[ih e.on hlt (by omega)]
   rw[h]at this;cases this
theorem j9 {l:List Bool} (hi:l[i]?=some false):(l.set i true).count false+1=l.count false:=by
 have hlt:i<l.length:=(Wd.1 hi).1;have hv:l[i]=false:=(Wd.1 hi).2;rw[List.count_set hlt,hv];have hpos:0<l.count false:=A0.2 (Wf hi);simp;omega
theorem xu {br:List Bool} (hbr:Q0 ops br=true) (hbm:br.getD m' false=true) (hcl:jk ops.toList (fun i=>listed.getD i false)) (hm:listed.getD m' false=false) (ho:ops.toList[i]?=some o)
  (hpre:∀ e∈o.after.toList,Region.binds .any e=true->listed.getD e.on false=true) (hlt:m'<i) (hm':m'<ops.size):False:=by
 have hi:i<ops.size:=by simpa using (Wd.1 ho).1
 have hmem:=Nh hbr hm' hi hbm hlt;have hS':jk ops.toList (fun x=>listed.getD x false||x==i):=fun k q hq hk e he hb=>by
  simp only[Oc,Oj]at hk ⊢;rcases hk with hk | hk
  ·exact .inl (hcl k q hq hk e he hb)
  ·subst hk;rw[ho]at hq;cases hq;exact .inl (hpre e he hb)
 have:=jF hS' _ i m' hmem (by simp);simp only[Oc,Oj]at this;rcases this with h | h
 ·rw[hm]at h;cases h
 ·omega
theorem MM {br:List Bool} {j:Nat} (hbr:Q0 ops br=true) (hbm:br.getD i false=true) (hcl:jk ops.toList (fun i=>listed.getD i false)) (ho:ops.toList[i]?=some o)
  (hpre:∀ e∈o.after.toList,Region.binds .any e=true->listed.getD e.on false=true) (hlt:j<i):listed.getD j false=true:=by
 have hi:i<ops.size:=by simpa using (Wd.1 ho).1
 have hmem:=x6 hbr hi hbm hlt;have hS':jk ops.toList (fun x=>listed.getD x false||x==i):=fun k q hq hk e he hb=>by
  simp only[Oc,Oj]at hk ⊢;rcases hk with hk | hk
  ·exact .inl (hcl k q hq hk e he hb)
  ·subst hk;rw[ho]at hq;cases hq;exact .inl (hpre e he hb)
 have:=jF hS' _ i j hmem (by simp);simp only[Oc,Oj]at this;rcases this with h | h
 ·exact h
 ·omega
theorem qE (hsz:listed.size=ops.size) (hi:i<ops.size) (h:listed.getD i true=false):listed.getD i false=false/\listed.toList[i]?=some false:=by
 have hil:i<listed.size:=by omega
 rw[Wq,WY hil]at h ⊢;refine ⟨by simpa using h,by simp[hil];simpa using h⟩
theorem qU (hil:i<listed.size):(fun x=>(listed.setIfInBounds i true).getD x false)=fun x=>(listed.getD x false||x==i):=by
 funext x;by_cases hx:x=i
 ·subst hx;simp[Wq,hil]
 ·have:i≠x:=fun e=>hx e.symm;simp[Wq,OY this,hx]
theorem JA (hil:i<listed.size) (hcl:jk ops.toList (fun i=>listed.getD i false)) (ho:ops.toList[i]?=some o)
  (hpre:∀ e∈o.after.toList,Region.binds .any e=true->listed.getD e.on false=true):jk ops.toList (fun x=>(listed.setIfInBounds i true).getD x false):=by
 rw[qU hil];intro k q hq hk e he hb;simp only[Oc,Oj]at hk ⊢;rcases hk with hk | hk
 ·exact .inl (hcl k q hq hk e he hb)
 ·subst hk;rw[ho]at hq;cases hq;exact .inl (hpre e he hb)
theorem zkU {m:Nat} (hN:∀ o∈ops.toList,Xt E.N o.dst) (hok:YA ops=true) (hmm:m<=m') (hl:m'<=ops.toList.length) (hrdy:∀ (listed:Array Bool) (i:Nat) (o:Oper),m'<=i->i<ops.size->jk ops.toList (fun i=>listed.getD i false)->ops.toList[i]?=some o->(∀ e∈o.after.toList,Region.binds .any e=true->listed.getD e.on false=true)->(∀ i,m'<=i->listed.getD i false=false)->∀ j,j<m'->listed.getD j false=true) (hc:zhg P G bx ops ops.toList m m' D)
  (hEnd:∀ (fuel:Nat) (listed:Array Bool) (a:Act) (R:Env) (L:Loc),listed.size=ops.size->listed.toList.count false<=fuel->jk ops.toList (fun i=>listed.getD i false)->(∀ i,i<m'->listed.getD i false=true)->(∀ i,m'<=i->listed.getD i false=false) ->
   qH G E ⟨D.T m',bx,D.X m',lg⟩ a R L->wpAnyIn (Fl r) n P .any ops Q fuel listed a R.w):∀ (fuel:Nat) (listed:Array Bool) (a:Act) (R:Env) (L:Loc),listed.size=ops.size->listed.toList.count false<=fuel ->
  jk ops.toList (fun i=>listed.getD i false)->(∀ i,i<m->listed.getD i false=true)->(∀ i,m'<=i->listed.getD i false=false)->QX G E bx lg ops.toList m m' D (fun i=>listed.getD i false) a R L->wpAnyIn (Fl r) n P .any ops Q fuel listed a R.w:=by
 have done:∀ (fuel:Nat) (listed:Array Bool) (a:Act) (R:Env) (L:Loc),listed.size=ops.size->listed.toList.count false<=fuel->jk ops.toList (fun i=>listed.getD i false)->(∀ i,i<m'->listed.getD i false=true)->(∀ i,m'<=i->listed.getD i false=false)->QX G E bx lg ops.toList m m' D (fun i=>listed.getD i false) a R L->wpAnyIn (Fl r) n P .any ops Q fuel listed a R.w:=fun fuel listed a R L hsz hcnt hcl h1 h2 h=>by
  refine hEnd fuel listed a R L hsz hcnt hcl h1 h2 ⟨{ h.good with },h.size,h.df,fun t=>?_⟩;have ht:=h.tm t;rw[Jb m' _ hl fun j hj _ _=>by simp[h2 j hj]]at ht;rw[YK hl hc.skel t m' hmm (Wb _),qL (D':=fun j=>decide (m<=j)&&listed.getD j false) m' fun j hj _=>by rw[h1 j hj,Bg]];exact ht
 intro fuel
 induction fuel with
 | zero =>
  intro listed a R L hsz hcnt hcl h1 h2 h;refine done 0 listed a R L hsz hcnt hcl (fun i hi=>?_) h2 h;have hil:i<listed.size:=by simp at hl;omega
  cases hq:listed.getD i false with
  | true=>rfl
  | false =>
   have:listed.toList[i]?=some false:=by
    rw[Wq,WY hil]at hq;simp[hil];simpa using hq
   have hpos:0<listed.toList.count false:=A0.2 (Wf this);omega
 | succ fuel ih =>
  intro listed a R L hsz hcnt hcl h1 h2 h;by_cases hall:∀ i,i<m'->listed.getD i false=true
  ·exact done _ listed a R L hsz hcnt hcl hall h2 h
  refine ⟨fun hr=>absurd (fun i hi=>Xr hok hsz hr i (by simp at hl;omega)) hall,fun i hi=>?_⟩;obtain ⟨o,ho,hl0,hpre⟩:=jJ hi;have hio:i<ops.size:=by simpa using (Wd.1 ho).1
  obtain ⟨hlf,hil'⟩:=qE hsz hio hl0;have hil:i<listed.size:=by omega
  have hmi:m<=i:=by
   rcases Wr i m with g | g
   ·rw[h1 i g]at hlf;cases hlf
   ·exact g
  have hmi':i<m':=by
   rcases Aq i m' with g | g | g
   ·exact g
   ·exact absurd (hrdy listed i o (by omega) hio hcl ho hpre h2) hall
   ·exact absurd (hrdy listed i o (by omega) hio hcl ho hpre h2) hall
  have hcnt':(listed.setIfInBounds i true).toList.count false<=fuel:=by
   have:=j9 hil';rw[Am];omega
  have next:∀ (v:Value) (R':Env) (L':Loc),qw (D.X i) (D.X (i+1)) R L R' L'->Rep R' L' (D.c i) v->wpAnyIn (Fl r) n P .any ops Q fuel (listed.setIfInBounds i true) (a.put o.dst v) R'.w:=fun v R' L' st hv =>
   ih _ _ R' L' (by simpa using hsz) hcnt' (JA hil hcl ho hpre) (fun j hj=>by have:=Bm (qU hil) j;rw[this,h1 j hj];rfl)
    (fun j hj=>by have:=Bm (qU hil) j;rw[this,h2 j hj];simp;omega) (by rw[qU hil];exact h.put hl hc.skel hok hcl hmi hmi' ho hlf hpre (hN o (Wf ho)) st hv)
  obtain ⟨c1,c2,c3,c4,c5⟩:=hc.step i o hmi hmi' ho;have hev:=h.ev hl hc.skel hok hcl hmi hmi' ho hlf hpre;have hguard:Region.wanted o (yielded ops a.tmps)=D.wn i:=jS (tm:=D.T i) rfl c3 fun j want d hg hd=>by
   have ht:d∈jr ops o:=by
    unfold jr Oper.looksAt;rw[hg];simp[hd]
   refine ⟨?_,hev d ht⟩;rw[h.size];cases hj:ops[j]? with
   | none=>rw[hj]at hd;cases hd
   | some o' =>
    rw[hj]at hd;have hd':o'.dst=some d:=hd;have:=hN o' (by rw[OE];exact OZ hj);rw[hd']at this;exact this
  unfold wpOpIn;have hoa:ops[i]?=some o:=by simpa using ho
  rw[hoa];simp only[hguard];cases hw:D.wn i with
  | true =>
   simp only[if_true];refine jG ?_;refine ((c4 hw).2 _ R L a.eval h.good.fit (h.freeAt hl hc.skel hmi hmi' hlf) fun x=>?_).mono fun v w' ⟨R',L',hw',st,hv⟩=>?_
   ·unfold XQ;split
    ·rename_i hx;cases x with
     | tmp t =>
      refine hev t ?_;unfold jr Oper.looksAt;exact Ov _ (Ov _ (Bd.2 ⟨.tmp t,by simpa using hx,rfl⟩))
     | const v=>exact jz R L v
     | global g =>
      simp only[zr];cases hg:G g with
      | none=>unfold Rep;trivial
      | some cs=>exact Jd.2 ⟨g,0,rfl,(h.good.fit.glob g cs hg).1⟩
     | func f=>exact J6.2 ⟨#[],#[],rfl,zl.2 rfl,zl.2 rfl⟩
    ·unfold Rep;trivial
   ·rw[←hw'];exact next v R' L' st hv
  | false =>
   simp only[WN,W2];refine ⟨fun f _=>trivial,?_⟩;obtain ⟨d1,d2⟩:=c5 hw;have st:qw (D.X i) (D.X (i+1)) R L R L:=by rw[d2];exact qw.refl _ _ _
   exact next undef R L st (by rw[d1];exact zq.2 rfl)
theorem zjb {Y:Hd} {br:List Bool} (hY:zoy P Y E) (hN:∀ o∈ops.toList,Xt E.N o.dst) (hok:YA ops=true) (hbr:Q0 ops br=true)
  (hQ:∀ a R L σ,K σ->qH G E σ a R L->Q .normal a R.w):∀ (k m:Nat) (fuel:Nat) (listed:Array Bool) (σ:St) (a:Act) (R:Env) (L:Loc),ops.size-m=k->m<=ops.size->listed.size=ops.size->listed.toList.count false<=fuel ->
  jk ops.toList (fun i=>listed.getD i false)->(∀ i,i<m->listed.getD i false=true)->(∀ i,m<=i->listed.getD i false=false)->ZM P G Y ops (ops.toList.drop m) (br.drop m) σ K->qH G E σ a R L->wpAnyIn (Fl r) n P .any ops Q fuel listed a R.w:=by
 intro k
 induction k using Nat.strongRecOn with
 | _ k ih =>
  intro m fuel listed σ a R L hk hm hsz hcnt hcl h1 h2 hA hI;obtain ⟨m',D,d1,d2,d3,d4,d5,d6⟩:=yC _ _ m σ rfl (by simpa using hm) hA;have hd2:m'<=ops.size:=by simpa using d2
  have hlf:∀ j,m<=j->listed.getD j false=false:=h2;have hInit:QX G E σ.bx σ.lg ops.toList m m' D (fun i=>listed.getD i false) a R L:=by
   have hx:=V2 d2 d5.skel m m' (Wb _) d1 (Wb _);refine ⟨{ hI.good with free:=fun id hid=>hI.good.free id (by rw[d4]at hx;exact WM hx hid) },fun id hid _=>hI.good.free id (by rw[d4]at hid;exact hid),hI.size,hI.df,fun t=>?_⟩;rw[qL (D':=fun _=>false) _ fun j _ _=>by
    by_cases hj:m<=j
    ·simp[hlf j hj]
    ·simp[hj],Jb 0 _ (Wc _) fun _ _ _ _=>rfl]
   show Rep R L (jU (D.T m) t) _;rw[d3];exact hI.tm t
  have hbar:m'<ops.size->br.getD m' false=true:=fun hlt=>by
   rcases d6 with ⟨g,_⟩ | ⟨g,g2,_⟩
   ·simp at g;omega
   ·rw[W4,show m+(m'-m)=m' by omega]at g2;rw[W7,g2];rfl
  refine zkU (lg:=σ.lg) hN hok d1 d2 (fun listed i o q1 q2 q3 q4 q5 q6 j hj=>by
   rcases Wr m' i with g | g
   ·exact (xu hbr (hbar (by omega)) q3 (q6 m' (Wb _)) q4 q5 g (by omega)).elim
   ·have:i=m':=by omega
    subst this;exact MM hbr (hbar q2) q3 q4 q5 hj) d5 ?_ fuel listed a R L hsz hcnt hcl h1 (fun i hi=>hlf i (by omega)) hInit
  clear hInit hI hcnt hcl h1 h2 hlf hA hsz;intro fuel listed a R L hsz hcnt hcl h1 h2 hI;rcases d6 with ⟨g,hK⟩ | ⟨g,g2,hA⟩
  ·have hms:m'=ops.size:=by simpa using g
   have hre:Region.ready .any ops listed = []:=by
    cases hq:Region.ready .any ops listed with
    | nil=>rfl
    | cons i rest =>
     obtain ⟨o,ho,h3,_⟩:=jJ (ops:=ops) (listed:=listed) (i:=i) (by rw[hq];simp);have hio:i<ops.size:=by simpa using (Wd.1 ho).1
     have:=(qE hsz hio h3).1;rw[h1 i (by omega)]at this;cases this
   have hq:=hQ a R L _ hK hI;cases fuel with
   | zero=>exact ⟨hre,hq⟩
   | succ fuel=>exact ⟨fun _=>hq,fun i hi=>by rw[hre]at hi;cases hi⟩
  ·have hms:m'<ops.size:=by simpa using g
   have hlm:=h2 m' (Wb _);obtain ⟨fuel,rfl⟩:∃ f,fuel=f+1:=by
    have hil:m'<listed.size:=by omega
    have:listed.toList[m']?=some false:=by
     rw[Wq,WY hil]at hlm;simp[hil];simpa using hlm
    have hpos:0<listed.toList.count false:=A0.2 (Wf this);exact ⟨fuel-1,by omega⟩
   refine ⟨fun hr=>?_,fun i hi=>?_⟩
   ·have:=Xr hok hsz hr m' hms;rw[hlm]at this;cases this
   ·obtain ⟨o,ho,hl0,hpre⟩:=jJ hi;have hio:i<ops.size:=by simpa using (Wd.1 ho).1
    obtain ⟨hlf,hil'⟩:=qE hsz hio hl0;have hil:i<listed.size:=by omega
    have him:i=m':=by
     rcases Aq i m' with g | g | g
     ·rw[h1 i g]at hlf;cases hlf
     ·exact g
     ·exact (xu hbr (hbar hms) hcl hlm ho hpre g hms).elim
    subst him;have hcnt':(listed.setIfInBounds i true).toList.count false<=fuel:=by
     have:=j9 hil';rw[Am];omega
    have hdrop:ops.toList.drop i=o :: ops.toList.drop (i+1):=by
     have hlt:i<ops.toList.length:=by simpa using hio
     rw[Oe hlt];congr 1;have:=Wa hlt;rw[ho]at this;exact (Option.some.inj this).symm
    have hbrd:(br.drop m).drop (i-m)=br.drop i:=by rw[AC];congr 1;omega
    rw[hdrop,hbrd]at hA;unfold ZM at hA;have hhead:(br.drop i).headD false=true:=by
     have:=hbar hms;rw[W7]at this;cases hq:br[i]? with
     | none=>rw[hq]at this;cases this
     | some x =>
      rw[hq]at this;simp at this;rw[List.headD_eq_head?_getD,List.head?_drop,hq,this];rfl
    have htail:(br.drop i).tail=br.drop (i+1):=by simp
    rw[hhead,htail]at hA;have next:∀ (σ':St) (a':Act) (R':Env) (L':Loc),ZM P G Y ops (ops.toList.drop (i+1)) (br.drop (i+1)) σ' K->qH G E σ' a' R' L'->wpAnyIn (Fl r) n P .any ops Q fuel (listed.setIfInBounds i true) a' R'.w:=fun σ' a' R' L' hA' hI' =>
     ih (ops.size-(i+1)) (by omega) (i+1) fuel _ σ' a' R' L' rfl (by omega) (by simpa using hsz) hcnt' (JA hil hcl ho hpre) (fun j hj=>by
      have:=Bm (qU hil) j;rw[this];rcases Wr j i with g | g
      ·rw[h1 j g];rfl
      ·have:j=i:=by omega
       simp[this]) (fun j hj=>by
      have:=Bm (qU hil) j;rw[this,h2 j (by omega)];simp;omega) hA' hI'
    have hd:=hN o (Wf ho);obtain ⟨b,hg,hA1,hA2⟩:=jj.out hA;have hguard:Region.wanted o (yielded ops a.tmps)=b:=jS (tm:=D.T i) (R:=R) (L:=L) rfl hg fun j want d hgd hdd=>by
     refine ⟨?_,hI.tm d⟩;rw[hI.size];cases hj:ops[j]? with
     | none=>rw[hj]at hdd;cases hdd
     | some o' =>
      rw[hj]at hdd;have hd':o'.dst=some d:=hdd;have:=hN o' (by rw[OE];exact OZ hj);rw[hd']at this;exact this
    unfold wpOpIn;have hoa:ops[i]?=some o:=by simpa using ho
    rw[hoa];simp only[hguard];cases b with
    | true =>
     simp only[if_true];refine jG ((Vm hY (hA1 rfl) hI).mono fun v w'=>?_);rintro ⟨c,σ',R',L',rfl,hI',hv,hK⟩;exact next _ _ R' L' hK (hI'.put hd hv)
    | false =>
     simp only[WN,W2];refine ⟨fun f _=>trivial,next _ _ R L (hA2 rfl) ?_⟩;have:=hI.put (dst:=o.dst) (c:=.sc undef) (v:=undef) hd (zq.2 rfl);cases hdst:o.dst with
     | none=>rw[hdst]at this;exact this
     | some d=>rw[hdst]at this;exact this
theorem zc7 {id:Nat} {Y:Hd} {br:List Bool} (hY:zoy P Y E) (hm:P.follows .mixedOrders=true) (hN:∀ o∈ops.toList,Xt E.N o.dst) (hok:YA ops=true) (hbr:Q0 ops br=true)
  (h:ZM P G Y ops ops.toList br σ K) (hI:Inv G E σ a w) (hQ:∀ a' w' σ',K σ'->Inv G E σ' a' w'->Q .normal a' w'):(Code.region id ops true).wpIn (Fl r) n P Q a w:=by
 obtain ⟨R,L,rfl,hI⟩:=hI;refine wpIn_region_any hm ?_
 let R':Env:=⟨{ R.w with drawn:=R.w.drawn+1 },R.M,R.F⟩
 have hext:Ext R R':=⟨fun b o v h1 h2=>⟨h1,h2⟩,fun _ _ _ _ h1 h2=>⟨h1,h2⟩⟩;have hnear:Ml E.w0 E.ex R R':=⟨rfl,rfl,rfl,Wb _,rfl,hext,fun b _=>.inl ⟨rfl,fun _=>Iff.rfl⟩⟩;have hg:=hI.good;have hinv:qH G E σ a R' L:=by
  refine ⟨hg.move hnear.nigh ⟨hg.fit.glob.ext hext,⟨hg.fit.boxes.len,hg.fit.boxes.nodup,fun i b cs hi hc=>?_⟩,⟨fun id e k v ht=>?_,hg.fit.owns.apart⟩,hg.fit.base⟩ ⟨[],by rw[Oi],fun b hb=>by cases hb⟩ (fun id e k v b ht hv=>.inl ⟨id,e,k,v,ht,hv⟩) hg.free,hI.size,hI.df.near hnear,fun t=>Rep.ext hext (zM.refl _) _ _ (hI.tm t)⟩
  ·obtain ⟨vs,ty,e1,e2,e3,e4⟩:=hg.fit.boxes.box i b cs hi hc;exact ⟨vs,ty,e1,zy.ext hext (zM.refl _) _ _ e2,e3,e4⟩
  ·exact (hg.fit.owns.own id e k v ht).move fun g _ q2 _ q7=>⟨q2,rfl,q7,fun _ h=>h⟩
 have hlist:∀ i,(Array.replicate ops.size false).getD i false=false:=fun i=>by
  rw[Wq,A6];split<;>rfl
 refine zjb (E:=E) (R:=R') (L:=L) hY hN hok hbr (fun a1 R1 L1 σ1 hK h1=>hQ a1 R1.w σ1 hK ⟨R1,L1,rfl,h1⟩) _ 0 ops.size _ σ a rfl (Wc _) (by simp) ?_ (fun i o hi h=>?_) (fun i hi=>by omega) (fun i _=>hlist i) (by simpa using h) hinv
 ·rw[Be,A1];exact Wb _
 ·have h:(Array.replicate ops.size false).getD i false=true:=h;rw[hlist]at h;cases h
theorem zbv {j:Nat} (hmem:inC (qz ops.toList ops.size) i j=true) (hcl:jk ops.toList (fun i=>listed.getD i false)) (ho:ops.toList[i]?=some o)
  (hpre:∀ e∈o.after.toList,Region.binds .any e=true->listed.getD e.on false=true) (hne:j≠i):listed.getD j false=true:=by
 have hS':jk ops.toList (fun x=>listed.getD x false||x==i):=fun k q hq hk e he hb=>by
  simp only[Oc,Oj]at hk ⊢;rcases hk with hk | hk
  ·exact .inl (hcl k q hq hk e he hb)
  ·subst hk;rw[ho]at hq;cases hq;exact .inl (hpre e he hb)
 have:=jF hS' _ i j hmem (by simp);simp only[Oc,Oj]at this;rcases this with h | h
 ·exact h
 ·exact absurd h hne
end
end
section
open Go.RowKit
mutual
/-- a value as seen by whoever has some of the boxes, and no owner -/
def C.sel (fp:Nat->Option Nat):C->C
 | .own _ _ k rows=>.sl k rows
 | .ptr i off=>match fp i with
  | some j=>.ptr j off
  | none=>.any
 | .bs i off k n c=>match fp i with
  | some j=>.bs j off k n c
  | none=>.any
 | .mo _ _ _ _=>.any
 | .agg cs=>.agg (C.selL fp cs)
 | .tup cs=>.tup (C.selL fp cs)
 | .clo fn first cap=>.clo fn (C.selL fp first) (C.selL fp cap)
 | .sc v=>.sc v
 | .str l=>.str l
 | .sl k rows=>.sl k rows
 | .tight k rows=>.tight k rows
 | .row cs=>.row cs
 | .any=>.any
def C.selL (fp:Nat->Option Nat):List C->List C
 | []=>[]
 | c :: r=>c.sel fp :: C.selL fp r
end
section
variable {fp:Nat->Option Nat} {R R':Env} {L L':Loc}
mutual
theorem Rep.sel (he:Ext R R') (hb:∀ i j b,fp i=some j->L.β[i]?=some b->L'.β[j]?=some b):∀ (c:C) (v:Value),Rep R L c v->Rep R' L' (c.sel fp) v
 | .sc _,_,h=>by unfold C.sel;unfold Rep at h ⊢;exact h
 | .str _,_,h=>by unfold C.sel;unfold Rep at h ⊢;exact h
 | .agg cs,_,h=>by
  unfold C.sel;unfold Rep at h ⊢;obtain ⟨vs,e,hl⟩:=h;exact ⟨vs,e,zy.sel he hb cs _ hl⟩
 | .tup cs,_,h=>by
  unfold C.sel;unfold Rep at h ⊢;obtain ⟨vs,e,hl⟩:=h;exact ⟨vs,e,zy.sel he hb cs _ hl⟩
 | .sl k rows,v,h=>by
  unfold C.sel;have:=Rep.ext he (zM.none L') (.sl k rows) v (T:=zJ) (by unfold Rep at h ⊢;exact h);exact this
 | .tight k rows,v,h=>by
  unfold C.sel;exact Rep.ext he (zM.none L') (.tight k rows) v (T:=zJ) (by unfold Rep at h ⊢;exact h)
 | .mo id t ks vs,v,h=>by unfold C.sel;unfold Rep;trivial
 | .own id e k rows,v,h=>by
  unfold C.sel;exact Rep.ext he (zM.none L') (.sl k rows) v (T:=zJ) (by unfold Rep at h ⊢;exact h.2)
 | .ptr i off,_,h=>by
  unfold C.sel;unfold Rep at h;split
  ·rename_i j hj;obtain ⟨b,e,h⟩:=h;unfold Rep;exact ⟨b,hb _ _ _ hj e,h⟩
  ·unfold Rep;trivial
 | .bs i off k n c,_,h=>by
  unfold C.sel;unfold Rep at h;split
  ·rename_i j hj;obtain ⟨b,e,h⟩:=h;unfold Rep;exact ⟨b,hb _ _ _ hj e,h⟩
  ·unfold Rep;trivial
 | .row cs,v,h=>by
  unfold C.sel;exact Rep.ext he (zM.none L') (.row cs) v (T:=zJ) (by unfold Rep at h ⊢;exact h)
 | .clo fn first cap,_,h=>by
  unfold C.sel;unfold Rep at h ⊢;obtain ⟨fs,cs,e,h1,h2⟩:=h;exact ⟨fs,cs,e,zy.sel he hb first _ h1,zy.sel he hb cap _ h2⟩
 | .any,_,_=>by unfold C.sel;unfold Rep;trivial
theorem zy.sel (he:Ext R R') (hb:∀ i j b,fp i=some j->L.β[i]?=some b->L'.β[j]?=some b):∀ (cs:List C) (vs:List Value),zy R L cs vs->zy R' L' (C.selL fp cs) vs
 | [],_,h=>by unfold C.selL;rw[zl]at h ⊢;exact h
 | c :: r,_,h=>by
  unfold C.selL;rw[zh]at h ⊢;obtain ⟨v,us,e,h1,h2⟩:=h;exact ⟨v,us,e,Rep.sel he hb c v h1,zy.sel he hb r us h2⟩
end
end
mutual
/-- what is left of it where the boxes are qD no more -/
def C.fz (bx:List (List C)):C->C
 | .ptr i off=>match bx[i]? with
  | some cs=>.row ((C.frzL cs).drop off)
  | none=>.any
 | .agg cs=>.agg (C.fzL bx cs)
 | .tup cs=>.tup (C.fzL bx cs)
 | .clo fn first cap=>.clo fn (C.fzL bx first) (C.fzL bx cap)
 | .bs _ _ _ _ _=>.any
 | .own id e k rows=>.own id e k rows
 | .mo id t ks vs=>.mo id t ks vs
 | .sc v=>.sc v
 | .str l=>.str l
 | .sl k rows=>.sl k rows
 | .tight k rows=>.tight k rows
 | .row cs=>.row cs
 | .any=>.any
def C.fzL (bx:List (List C)):List C->List C
 | []=>[]
 | c :: r=>c.fz bx :: C.fzL bx r
end
def HZ (m i:Nat):Option Nat:=if i<m then some i else none
def Xn (m i:Nat):Option Nat:=if i<m then none else some (i-m)
def Hz (m:Nat):List (Nat×C)->List (Nat×C)
 | []=>[]
 | (t,c) :: r=>(t,c.sel (HZ m)) :: Hz m r
theorem vJ (m:Nat):∀ (tm:List (Nat×C)) (t:Nat),jU (Hz m tm) t=(jU tm t).sel (HZ m)
 | [],t=>by simp only[Hz,jU];unfold C.sel;rfl
 | (u,c) :: r,t=>by
  simp only[Hz,jU];split
  ·rfl
  ·exact vJ m r t
def St.wt (σ:St) (tm:List (Nat×C)):St:=⟨tm,σ.bx,σ.nx,σ.lg⟩
theorem YF.wt {G:zp} {E:Ctx} {σ:St} (h:YF G E σ R L) (tm:List (Nat×C)):YF G E (σ.wt tm) R L:={ h with }
section
variable {P:Program} {G:zp} {E:Ctx} {σ σ':St} {a:Act} {R R':Env} {L L':Loc}
theorem YF.stay (h:YF G E σ R L) (hn:zdN E.w0 E.ex R R') (ht:∀ b,Xv L b->R'.w.heap[b]?=R.w.heap[b]?/\∀ o,(R'.M b o↔R.M b o)):YF G E σ R' L:=by
 refine h.move (tm':=σ.tm) (bx':=σ.bx) (nx':=σ.nx) hn ⟨h.fit.glob.ext hn.ext,⟨h.fit.boxes.len,h.fit.boxes.nodup,fun i b cs hi hc=>?_⟩,⟨fun id e k v hid=>?_,h.fit.owns.apart⟩,fun g hg=>h.fit.base g (WM hn.size hg)⟩ ⟨[],by rw[Oi],fun b hb=>by cases hb⟩ (fun id e k v b ht hv=>.inl ⟨id,e,k,v,ht,hv⟩) h.free
 ·obtain ⟨vs,ty,e1,e2,e3,e4⟩:=h.fit.boxes.box i b cs hi hc;obtain ⟨g1,g2⟩:=ht b (.inl (Wf hi));exact ⟨vs,ty,g1.trans e1,zy.ext hn.ext (zM.refl _) _ _ e2,e3,fun o=>(g2 o).2 (e4 o)⟩
 ·refine (h.fit.owns.own id e k v hid).move fun g hv q2 _ q7=>?_;obtain ⟨g1,g2⟩:=ht g (.inr ⟨id,e,k,v,hid,hv⟩);exact ⟨q2,g1,q7,fun o ho=>(g2 o).2 ho⟩
theorem Mm.stay (h:Mm E ds R) (hf:∀ b,R'.F b↔R.F b) (hd:∀ d,J8 d∈ds->R.w.heap[d]?=some (.deferred (some []))->R'.w.heap[d]?=R.w.heap[d]?):Mm E ds R':=by
 obtain ⟨l,e,hl,h⟩:=h;refine ⟨l,e,hl,fun d hdl=>?_⟩;obtain ⟨h1,h2,h3⟩:=h d hdl;exact ⟨(hd d (by rw[e];exact Ov _ (WR.2 ⟨d,hdl,rfl⟩)) h1).trans h1,h2,fun h'=>h3 ((hf d).1 h')⟩
theorem Xz {l:Nat} {o:Obj} (hl:E.tu l) (hF:¬R.F l) (hc:∀ cs t f,R.w.heap[l]?≠some (.cells cs t f)):zdN E.w0 E.ex R ⟨R.w.putObj l o,R.M,R.F⟩:=
 ⟨rfl,rfl,rfl,by simp,rfl,⟨fun b off v hcell hm=>⟨by
  by_cases hb:b=l
  ·subst hb
   exfalso
   unfold World.cell? at hcell;cases hh:R.w.heap[b]? with
   | none=>simp[hh]at hcell
   | some x =>
    cases x with
    | cells cs t f=>exact hc cs t f hh
    | _=>simp[hh]at hcell
  ·rw[World.cell?_of_block (w':=R.w.putObj l o) (w:=R.w) (WX hb)];exact hcell,hm⟩,fun b cs ty fl hcell hm=>⟨by
  have hb:b≠l:=fun e=>hc cs ty fl (e▸hcell);show (R.w.putObj l o).heap[b]?=_;rw[WX hb];exact hcell,hm⟩⟩,fun b hb=>by
  by_cases hbl:b=l
  ·subst hbl;exact .inr ⟨hl,hF⟩
  ·exact .inl ⟨WX hbl,fun _=>Iff.rfl⟩⟩
def Ctx.at (E:Ctx) (R:Env) (L:Loc) (β0:List Nat) (df:List Deferred) (hs:E.w0.heap.size<=R.w.heap.size) (ht:∀ b,Xv L b->E.tu b):Ctx:=
 {w0:=R.w,M0:=R.M,β0:=β0,ex:=Xv L,N:=E.N,df:=df,F0:=R.F,bo:=fun b=>b∈L.β,bex:=fun b hb=>.inl hb,J:=E.J,
  stab:=fun k A B hJ hn=>E.stab k A B hJ ⟨hn.os,hn.tape,hn.output,hn.size,hn.fgn,hn.ext,fun b hb=>(hn.blk b hb).imp id fun ⟨g1,g2⟩=>⟨by
   rcases g1 with g1 | g1
   ·exact .inl (WM hs g1)
   ·exact ht b g1,g2⟩⟩ }
theorem YF.fresh (h:YF G E σ R L) {β0 more:List Nat} (hβ:L.β=β0++more) (hsz:a.tmps.size=E.N) (htm:∀ t,Rep R L (jU σ.tm t) (a.tmps.getD t undef)):qH G (E.at R L β0 a.defers h.size fun b hb=>(h.turf hb).1) σ a R L:=by
 refine ⟨⟨⟨h.fit.glob,h.fit.boxes,⟨fun id e k v ht=>?_,h.fit.owns.apart⟩,fun g hg=>.inl hg⟩,rfl,rfl,rfl,Wb _,fun b _ _ _=>⟨rfl,fun _=>Iff.rfl⟩,⟨fun b o v h1 h2=>⟨h1,h2⟩,fun _ _ _ _ h1 h2=>⟨h1,h2⟩⟩,⟨more,hβ⟩,fun b hb=>.inr hb,h.flt,fun b _=>Iff.rfl,h.fbx,h.fow,h.free,h.log⟩,hsz,⟨[],rfl,An,fun d hd=>by cases hd⟩,htm⟩;exact (h.fit.owns.own id e k v ht).move fun g hv q2 _ q7=>⟨.inr (.inr ⟨id,e,k,v,ht,hv⟩),rfl,q7,fun _ h=>h⟩
section
variable {β0:List Nat} {df:List Deferred} {hs:E.w0.heap.size<=R.w.heap.size} {ht:∀ b,Xv L b->E.tu b}
theorem Ctx.at_tu {b:Nat} (h:(E.at R L β0 df hs ht).tu b):E.tu b:=by
 rcases h with h | h
 ·exact .inl (WM hs h)
 ·exact ht b h
theorem YF.at_blk (h':YF G (E.at R L β0 df hs ht) σ' R' L') {b:Nat} (hb:b<R.w.heap.size) (hT:¬Xv L b) (hF:¬R.F b):R'.w.heap[b]?=R.w.heap[b]?/\∀ o,(R'.M b o↔R.M b o):=
 h'.blk b hb hT fun hx=>hF ((h'.fz b hb).1 hx)
theorem YF.back (h:YF G E σ R L) (hβ:∃ more,β0=E.β0++more) (h':YF G (E.at R L β0 df hs ht) σ' R' L'):YF G E σ' R' L':=by
 obtain ⟨more,hm⟩:=hβ;obtain ⟨more',hm'⟩:=h'.box;have hm':L'.β=β0++more':=hm';refine ⟨⟨h'.fit.glob,h'.fit.boxes,⟨fun id e k v ht=>(h'.fit.owns.own id e k v ht).base fun g hg=>Ctx.at_tu hg,h'.fit.owns.apart⟩,fun g hg=>Ctx.at_tu (h'.fit.base g hg)⟩,h'.os.trans h.os,h'.tape.trans h.tape,h'.output.trans h.output,WM h.size h'.size,fun b hb hx hF=>?_,h.ext.trans ⟨h'.ext.cell,h'.ext.whole⟩,⟨more++more',by rw[hm',hm,WT]⟩,fun b hb=>(h'.tub b hb).elim (fun g=>.inl (WM hs g)) (h.tub b),h'.flt,fun b hb=>(h'.fz b (WL hb h.size)).trans (h.fz b hb),h'.fbx,h'.fow,h'.free,h'.log⟩;have hlt:=WL hb h.size;have hF':¬R.F b:=fun hq=>hF ((h'.fz b hlt).2 hq);have hT:¬Xv L b:=fun hq=>by
  rcases ht b hq with g | g
  ·omega
  ·exact hx g
 obtain ⟨g1,g2⟩:=h'.at_blk hlt hT hF';obtain ⟨k1,k2⟩:=h.blk b hb hx hF';exact ⟨g1.trans k1,fun o=>(g2 o).trans (k2 o)⟩
theorem YF.at_turf (h':YF G (E.at R L β0 df hs ht) σ' R' L') {b:Nat} (hb:b<R.w.heap.size) (hT:Xv L' b):Xv L b:=by
 rcases (h'.turf hT).1 with g | g
 ·have g:R.w.heap.size<=b:=g;omega
 ·exact g
end
def zmx (items:List (List C)) (st:Nat->Bool) (k:Nat):Prop:=(k=items.length/\∀ j,j<k->st j=false)∨(0<k/\st (k-1)=true)
def yD (P:Program) (G:zp) (f:FuncId) (first cap:List C) (bx:List (List C)) (items:List (List C)):Prop:=
 Y1 P f=true/\∀ (l:Nat) (st:Nat->Bool) (J:Nat->Env->Prop) (R:Env) (L:Loc) (us vs:List Value),XT G R->jR R L bx->(∀ id,L.T id=none)->(∀ b,R.F b->b<R.w.heap.size)->(∀ b∈L.β,¬R.F b) ->
  (∀ k A B,J k A->zdN R.w (fun b=>b∈L.β) A B->J k B)->YOk P ⟨l,items,st⟩ J->J 0 R->zy R L first us->zy R L cap vs ->
  Calls P f (us++[Value.func (.yield l) #[] #[]]++vs).toArray R.w fun e w'=>∃ v R' k,e = .returned v/\R'.w=w'/\J k R'/\zmx items st k
def Vx:List Tmp->List C->List (Nat×C)->List (Nat×C)
 | p :: ps,c :: cs,tm=>Vx ps cs ((p,c) :: tm)
 | _,_,tm=>tm
theorem My {R:Env} {L:Loc}:∀ (ps:List Tmp) (it:List C) (vs:List Value) (tm:List (Nat×C)) (tmps:Array Value),zy R L it vs->(∀ p∈ps,p<tmps.size)->(∀ t,Rep R L (jU tm t) (tmps.getD t undef)) ->
  ∀ t,Rep R L (jU (Vx ps it tm) t) (((ps.zip vs).foldl (fun t (p:Nat×Value)=>t.setIfInBounds p.1 p.2) tmps).getD t undef)
 | [],it,vs,tm,tmps,h1,h2,h3,t=>by
  simp only[Vx,List.zip_nil_left,BV];exact h3 t
 | p :: ps,[],vs,tm,tmps,h1,h2,h3,t=>by
  rw[zl.1 h1];simp only[Vx,List.zip_nil_right,BV];exact h3 t
 | p :: ps,c :: cs,vs,tm,tmps,h1,h2,h3,t=>by
  obtain ⟨v,us,rfl,g1,g2⟩:=zh.1 h1;simp only[Vx,List.zip_cons_cons,Bo];refine My ps cs us _ _ g2 (fun q hq=>by simpa using h2 q (Wl _ hq)) (fun u=>?_) t;have hlt:=h2 p Wk;simp only[jU];split
  ·subst_vars
   simpa [Wq,hlt] using g1
  ·rename_i hne;have hne':p≠u:=fun e=>hne e.symm;have:=h3 u;simpa [Wq,OY hne'] using this
theorem Gc:∀ (l:List (Nat×Value)) (tmps:Array Value),(l.foldl (fun t (p:Nat×Value)=>t.setIfInBounds p.1 p.2) tmps).size=tmps.size
 | [],_=>rfl
 | x :: r,tmps=>by rw[Bo,Gc r];simp
def zht (m:Nat) (tm:List (Nat×C)) (st:Bool) (next:St) (Q:Exit->St->Prop):Exit->St->Prop
 | .normal,σ=>st=false/\JM m ⟨[],σ.bx,σ.nx,σ.lg⟩ (next.wt [])
 | .ret,σ=>st=true/\∃ σ':St,σ'.bx.length=m/\JM m ⟨[],σ.bx,σ.nx,σ.lg⟩ (σ'.wt [])/\Q .ret (σ'.wt tm)
 | .exit id,σ=>st=true/\∃ σ':St,σ'.bx.length=m/\JM m ⟨[],σ.bx,σ.nx,σ.lg⟩ (σ'.wt [])/\Q (.exit id) (σ'.wt tm)
 | .goto t,σ=>st=true/\∃ σ':St,σ'.bx.length=m/\JM m ⟨[],σ.bx,σ.nx,σ.lg⟩ (σ'.wt [])/\Q (.goto t) (σ'.wt tm)
 | _,_=>False
def zmF (K:St->Prop):Exit->St->Prop
 | .normal,σ=>K σ
 | _,_=>False
def za2 (P:Program) (G:zp) (p:Nat) (A B:Nat->(Exit->St->Prop)->St->Prop) (Q:Exit->St->Prop) (ps:List Tmp) (c:C) (σ:St):Prop:=
 match c with
 | .clo (.func f) first cap=>∃ (items:List (List C)) (st:Nat->Bool) (m:Nat) (I:Nat->St),
   p<=m/\m<=σ.bx.length/\yD P G f (C.selL (Xn m) first) (C.selL (Xn m) cap) ((σ.bx.drop m).map (C.selL (Xn m))) items/\(∀ it∈items,it.length=ps.length)/\(∀ k,k<=items.length->(I k).bx.length=m) /\
   JM m ⟨[],σ.bx,σ.nx,σ.lg⟩ ((I 0).wt []) /\
   (∀ k it,items[k]?=some it->(∀ j,j<k->st j=false)->A m (zmF (B m (zht m (Hz m σ.tm) (st k) (I (k+1)) Q))) ((I k).wt (Vx ps it (Hz m σ.tm)))) /\
   ((∀ j,j<items.length->st j=false)->Q .normal ((I items.length).wt (Hz m σ.tm)))
 | _=>False
end
end
section
open Go.RowKit
def uE (r:Option Nat) (E:Ctx):Prop:=∀ l0,r=some l0->l0<E.w0.heap.size/\¬E.ex l0/\¬E.F0 l0/\∃ r0,E.w0.heap[l0]?=some (.loop r0)
section
variable {P:Program} {G:zp} {E:Ctx} {σ σ':St} {a:Act} {R R':Env} {L L':Loc}
theorem zb8 (hr:uE r E) (h:YF G E σ R L) (fn:FuncId) (tmps:Array Value) (ps:Array Tmp) (assign body:Code) :
  ∃ (l:Nat) (ds:List Nat) (W:World) (D:Nat),(Instr.enterLoop fn tmps ps assign body r).run P R.w = .ok (l,ds.map J8) W/\Below R.w.heap.size R.w W/\R.w.heap.size<=l /\
   W.heap[l]?=some (.loop { state:=.ready,pending:=none,fn,tmps,params:=ps,assign,body,defers:=D })/\ds.Nodup/\∀ d∈ds,R.w.heap.size<=d/\d≠l/\W.heap[d]?=some (.deferred (some [])):=by
 cases r with
 | none =>
  have hrun:=run_enterLoop_outer (P:=P) (w:=R.w) fn tmps ps assign body;have hnew:=BH (R.w.alloc (.deferred (some []))) (.loop { state:=.ready,pending:=none,fn,tmps,params:=ps,assign,body,defers:=R.w.heap.size });rw[World.size_alloc]at hnew;refine ⟨R.w.heap.size+1,[R.w.heap.size],_,_,hrun,((W3 _ _).alloc (Wb _) _).alloc (by simp) _,by omega,hnew,by simp,fun d hd=>?_⟩;obtain rfl:d=R.w.heap.size:=by simpa using hd
  exact ⟨Wb _,by omega,(Below.heap_alloc _ _ _ (by simp)).trans (BH R.w _)⟩
 | some l0 =>
  obtain ⟨h1,h2,h3,r0,h4⟩:=hr l0 rfl;have hl0:R.w.heap[l0]?=some (.loop r0):=(h.blk l0 h1 h2 fun hx=>h3 ((h.fz l0 h1).1 hx)).1.trans h4;have hrun:=run_enterLoop_inner (P:=P) hl0 fn tmps ps assign body;exact ⟨R.w.heap.size,[],_,_,hrun,(W3 _ _).alloc (Wb _) _,Wb _,BH R.w _,An,fun d hd=>by cases hd⟩
def Mk (E:Ctx) (ds:List Deferred) (d:Nat):Prop:=∃ l:List Nat,ds=l.map J8++E.df/\d∈l
theorem Mm.stay2 (h:Mm E ds R) (hf:∀ d,Mk E ds d->(R'.F d↔R.F d)) (hd:∀ d,Mk E ds d->R.w.heap[d]?=some (.deferred (some []))->R'.w.heap[d]?=R.w.heap[d]?):Mm E ds R':=by
 obtain ⟨l,e,hl,h⟩:=h;refine ⟨l,e,hl,fun d hdl=>?_⟩;obtain ⟨h1,h2,h3⟩:=h d hdl;exact ⟨(hd d ⟨l,e,hdl⟩ h1).trans h1,h2,fun h'=>h3 ((hf d ⟨l,e,hdl⟩).1 h')⟩
theorem Mm.mk (h:Mm E ds R) {d:Nat} (hd:Mk E ds d):R.w.heap[d]?=some (.deferred (some []))/\E.w0.heap.size<=d/\¬R.F d:=by
 obtain ⟨l,e,hl,h⟩:=h;obtain ⟨l',e',hd⟩:=hd;have:l.map J8=l'.map J8:=List.append_cancel_right (e.symm.trans e');have hinj:Function.Injective J8:=fun x y hxy=>by
  have:=WA Deferred.target hxy;simpa using this
 have:=(List.map_inj_right fun x y hxy=>hinj hxy).1 this;subst this;exact h d hd
structure XK (G:zp) (E:Ctx) (R1:Env) (β1:List Nat) (l:Nat) (ds:List Deferred) (σ:St) (Rp:Env) (o:Obj) (Lk:Loc) (Fo:Nat->Prop):Prop where
 ext:Ext R1 Rp
 β:Lk.β=β1
 good:YF G E σ ⟨Rp.w,Rp.M,Fo⟩ Lk
 df:Mm E ds ⟨Rp.w,Rp.M,Fo⟩
 rcd:Rp.w.heap[l]?=some o
 fl:¬Fo l
 f1:∀ b,Fo b->Rp.F b
 f2:∀ b,Xv Lk b->Rp.F b
 f3:Rp.F l
 f4:∀ d,Mk E ds d->Rp.F d
theorem XK.stab {R1:Env} {β1:List Nat} {l:Nat} {A B:Env} {o:Obj} {Lk:Loc} {Fo:Nat->Prop} {ex:Nat->Prop} {w1:World} (hw:E.w0.heap.size<=w1.heap.size) (hx:∀ b,ex b->E.tu b) (h:XK G E R1 β1 l ds σ A o Lk Fo) (hn:zdN w1 ex A B):XK G E R1 β1 l ds σ B o Lk Fo:=by
 have hsame:∀ b,b<A.w.heap.size->A.F b->B.w.heap[b]?=A.w.heap[b]?/\∀ o,(B.M b o↔A.M b o):=fun b hb hF=>by
  rcases hn.blk b hb with g | ⟨_,g⟩
  ·exact g
  ·exact absurd hF g
 have hlt:∀ {b:Nat} {o:Obj},A.w.heap[b]?=some o->b<A.w.heap.size:=fun h=>qc h;refine ⟨h.ext.trans hn.ext,h.β,h.good.stay ⟨hn.os,hn.tape,hn.output,hn.size,rfl,⟨hn.ext.cell,hn.ext.whole⟩,fun b hb=>(hn.blk b hb).imp id fun ⟨g1,g2⟩=>⟨?_,fun hF=>g2 (h.f1 b hF)⟩⟩ fun b hb=>hsame b (h.good.turf hb).2.2.1 (h.f2 b hb),
  h.df.stay2 (fun _ _=>Iff.rfl) fun d hd hh=>(hsame d (hlt hh) (h.f4 d hd)).1,(hsame l (hlt h.rcd) h.f3).1.trans h.rcd,h.fl,fun b hb=>by rw[hn.fgn];exact h.f1 b hb,fun b hb=>by rw[hn.fgn];exact h.f2 b hb,by rw[hn.fgn];exact h.f3,fun d hd=>by rw[hn.fgn];exact h.f4 d hd⟩
 rcases g1 with g1 | g1
 ·exact .inl (WM hw g1)
 ·exact hx b g1
end
end
section
open Go.RowKit
def zox (G:zp) (E:Ctx) (Q:Exit->St->Prop):Exit->Act->World->Prop:=fun e a w=>∃ σ,Q e σ/\Inv G E σ a w
def zrg:Exit->Option Code
 | .ret=>some .ret
 | .exit id=>some (.exit id)
 | .goto t=>some (.goto t)
 | _=>none
abbrev Mh (fn:FuncId) (tmps:Array Value) (ps:Array Tmp) (assign body:Code) (D:Nat) (s:LoopState) (p:Option Code):Loop:={ state:=s,pending:=p,fn,tmps,params:=ps,assign,body,defers:=D }
def JC (G:zp) (E:Ctx) (R1:Env) (β1:List Nat) (l m:Nat) (ds:List Deferred) (rc:LoopState->Option Code->Loop) (st:Nat->Bool) (I:Nat->St) (tm:List (Nat×C)) (Q:Exit->St->Prop) (k:Nat) (Rp:Env):Prop:=
 ((∀ j,j<k->st j=false)/\∃ Lk Fo,XK G E R1 β1 l ds (I k) Rp (.loop (rc .ready none)) Lk Fo) ∨
 (0<k/\st (k-1)=true/\∃ e jc σ',zrg e=some jc/\Q e (σ'.wt tm)/\∃ Lk Fo,XK G E R1 β1 l ds σ' Rp (.loop (rc .done (some jc))) Lk Fo)
section
variable {P:Program} {G:zp} {E:Ctx} {σ σ':St} {a:Act} {R R':Env} {L L':Loc}
theorem JC.stab {R1:Env} {β1:List Nat} {l m:Nat} {rc:LoopState->Option Code->Loop} {st:Nat->Bool} {I:Nat->St} {Q:Exit->St->Prop} {ex:Nat->Prop} {w1:World} (hw:E.w0.heap.size<=w1.heap.size) (hx:∀ b,ex b->E.tu b) :
  ∀ k A B,JC G E R1 β1 l m ds rc st I tm Q k A->zdN w1 ex A B->JC G E R1 β1 l m ds rc st I tm Q k B:=fun k A B h hn=>by
 rcases h with ⟨h1,Lk,Fo,hb⟩ | ⟨h1,h2,e,jc,σ',h3,h4,Lk,Fo,hb⟩
 ·exact .inl ⟨h1,Lk,Fo,hb.stab hw hx hn⟩
 ·exact .inr ⟨h1,h2,e,jc,σ',h3,h4,Lk,Fo,hb.stab hw hx hn⟩
theorem ziH {ps:Array Tmp} {assign body:Code} {Q:Exit->St->Prop} {A B:Nat->(Exit->St->Prop)->St->Prop} {fn:FuncId} {tmps:Array Value} {D l m:Nat} {R1:Env} {L1:Loc} {tm0:List (Nat×C)} {items:List (List C)} {st:Nat->Bool} {I:Nat->St}
  (hsA:∀ (E':Ctx) (Q':Exit->St->Prop) (σ':St) (a':Act) (w':World),E'.N=E.N->E'.β0.length<=m->E'.J=E.J->uE (some l) E'->A m Q' σ'->Inv G E' σ' a' w'->assign.wpIn (Fl (some l)) 0 P (zox G E' Q') a' w')
  (hsB:∀ (E':Ctx) (Q':Exit->St->Prop) (σ':St) (a':Act) (w':World),E'.N=E.N->E'.β0.length<=m->E'.J=E.J->uE (some l) E'->B m Q' σ'->Inv G E' σ' a' w'->body.wpIn (Fl (some l)) 0 P (zox G E' Q') a' w')
  (hl:E.w0.heap.size<=l) (hps:∀ p∈ps.toList,p<E.N) (hN:tmps.size=E.N) (htm0:∀ t,Rep R1 L1 (jU tm0 t) (tmps.getD t undef)) (hlen:∀ it∈items,it.length=ps.toList.length) (hIm:∀ k,k<=items.length->(I k).bx.length=m)
  (hbody:∀ k it,items[k]?=some it->(∀ j,j<k->st j=false)->A m (zmF (B m (zht m (Hz m tm0) (st k) (I (k+1)) Q))) ((I k).wt (Vx ps.toList it (Hz m tm0)))) :
  YOk P ⟨l,items,st⟩ (JC G E R1 (L1.β.take m) l m ds (Mh fn tmps ps assign body D) st I (Hz m tm0) Q):=by
 intro k R it vs hJ hflt hst hit hvs;have hJ':∃ Lk Fo,XK G E R1 (L1.β.take m) l ds (I k) R (.loop (Mh fn tmps ps assign body D .ready none)) Lk Fo:=by
  rcases hJ with ⟨_,h⟩ | ⟨hk0,hk1,_⟩
  ·exact h
  ·have:=hst (k-1) (by omega);exact absurd (hk1.symm.trans this) (by decide)
 obtain ⟨Lk,Fo,hb⟩:=hJ';have hit':items[k]?=some it:=hit;have hk:k<items.length:=(Wd.1 hit').1;have hpl:=hlen it (Wf hit');have hvl:=zA hvs;have hps':ps.size=ps.toList.length:=by simp
 have hy:=run_yield (P:=P) (args:=vs.toArray) hb.rcd (by simp only[Bw];omega);refine ⟨fn,_,assign,body,hy,roundIn_of_wpIn trivial ?_⟩;clear hy;have hfold:Array.foldl (fun (t:Array Value) (p:Nat×Value)=>t.setIfInBounds p.1 p.2) tmps (ps.zip vs.toArray)=(ps.toList.zip vs).foldl (fun t (p:Nat×Value)=>t.setIfInBounds p.1 p.2) tmps:=by
  rw[←Array.foldl_toList,Array.toList_zip]
 have hbase:∀ t,Rep ⟨R.w,R.M,Fo⟩ Lk (jU (Hz m tm0) t) (tmps.getD t undef):=fun t=>by
  rw[vJ];refine Rep.sel (R':=⟨R.w,R.M,Fo⟩) (L':=Lk) ⟨hb.ext.cell,hb.ext.whole⟩ (fun i j b hij hb1=>?_) _ _ (htm0 t);unfold HZ at hij;split at hij
  ·cases hij;rw[hb.β,WJ,if_pos (by assumption)];exact hb1
  ·cases hij
 have hvs':zy ⟨R.w,R.M,Fo⟩ Lk it vs:=zy.ext (R:=R) (R':=⟨R.w,R.M,Fo⟩) (T:=zJ) ⟨fun b o v h1 h2=>⟨h1,h2⟩,fun _ _ _ _ h1 h2=>⟨h1,h2⟩⟩ (zM.none _) _ _ hvs;have htm:=My ps.toList it vs (Hz m tm0) tmps hvs' (fun p hp=>by rw[hN];exact hps p hp) hbase;have hfr:=(hb.good.wt (Vx ps.toList it (Hz m tm0))).fresh (β0:=Lk.β) (more:=[]) (by simp) (a:=⟨(ps.toList.zip vs).foldl (fun t (p:Nat×Value)=>t.setIfInBounds p.1 p.2) tmps,[]⟩) (by rw[Gc];exact hN) htm;have hlm:Lk.β.length=m:=by rw[hb.good.fit.boxes.len,hIm k (by omega)]
 have hlR:l<R.w.heap.size:=qc hb.rcd;have hnT:¬Xv Lk l:=fun hT=>by
  obtain ⟨_,_,_,hc⟩:=hb.good.turf hT;have hr:=hb.rcd;rcases hc with ⟨cs,t,f,hc⟩ | ⟨cs,t,hc⟩<;>exact nomatch hr.symm.trans hc
 refine BT (hsA (E.at (Env.mk R.w R.M Fo) Lk Lk.β [] hb.good.size fun b hx=>(hb.good.turf hx).1) _ _ _ R.w rfl (by show Lk.β.length<=m;omega) rfl (fun l0 hl0=>by cases hl0;exact ⟨hlR,hnT,hb.fl,_,hb.rcd⟩) (hbody k it hit' hst) ⟨Env.mk R.w R.M Fo,Lk,rfl,by rw[←hfold]at hfr;exact hfr⟩) ?_;rintro e a1 w1 ⟨σ1,hq,Ra,La,rfl,hIa⟩;cases e<;>try exact hq.elim
 -- the record is ready yet
 have hga:=hb.good.wt (Vx ps.toList it (Hz m tm0)) |>.back hb.good.box hIa.good;have hra:=hIa.good.at_blk (b:=l) hlR hnT hb.fl;have hrecA:Ra.w.heap[l]?=some (.loop (Mh fn tmps ps assign body D .ready none)):=hra.1.trans hb.rcd;have hFa:¬Ra.F l:=fun hx=>hb.fl ((hIa.good.fz l hlR).1 hx);have hTa:¬Xv La l:=fun hT=>by
  obtain ⟨_,_,_,hc⟩:=hga.turf hT;rcases hc with ⟨cs,t,f,hc⟩ | ⟨cs,t,hc⟩<;>exact nomatch hrecA.symm.trans hc
 refine ⟨_,run_beginRound hrecA rfl,?_⟩;have hlA:l<Ra.w.heap.size:=qc hrecA;have hni:=Xz (E:=E) (R:=Ra) (o:=.loop { Mh fn tmps ps assign body D .ready none with state:=.busy }) (.inl hl) hFa (fun cs t f hc=>by rw[hrecA]at hc;cases hc);have hsame:∀ (o:Obj) (R:Env) (L:Loc),(¬Xv L l)->∀ b,Xv L b->(R.w.putObj l o).heap[b]?=R.w.heap[b]?/\∀ o,(R.M b o↔R.M b o):=fun o R L hT b hb=>⟨WX fun e=>hT (e▸hb),fun _=>Iff.rfl⟩;have hgb:=hga.stay hni (hsame _ Ra La hTa);have hrecB:(Ra.w.putObj l (.loop { Mh fn tmps ps assign body D .ready none with state:=.busy })).heap[l]?=some (.loop (Mh fn tmps ps assign body D .busy none)):=Bc hlA;obtain ⟨moreA,hmA⟩:=hIa.good.box;have hmA:La.β=Lk.β++moreA:=hmA;have hfrB:=hgb.fresh hmA (a:=a1) hIa.size fun t=>Rep.ext hni.ext (zM.refl _) _ _ (hIa.tm t);refine BT (hsB (E.at (Env.mk (Ra.w.putObj l (.loop { Mh fn tmps ps assign body D .ready none with state:=.busy })) Ra.M Ra.F) La Lk.β a1.defers hgb.size fun b hx=>(hgb.turf hx).1) _ σ1 a1 _ rfl (by show Lk.β.length<=m;omega) rfl (fun l0 hl0=>by cases hl0;exact ⟨by simpa [Ctx.at] using hlA,hTa,hFa,_,hrecB⟩) hq ⟨_,La,rfl,hfrB⟩) ?_;rintro e a3 w3 ⟨σ3,hq3,Rc,Lc,rfl,hIc⟩;have hgc:=hgb.back hb.good.box hIc.good;have hlB:l<(Ra.w.putObj l (.loop { Mh fn tmps ps assign body D .ready none with state:=.busy })).heap.size:=by simpa using hlA
 have hrc:=hIc.good.at_blk (b:=l) hlB hTa hFa;have hrecC:Rc.w.heap[l]?=some (.loop (Mh fn tmps ps assign body D .busy none)):=hrc.1.trans hrecB;have hFc:¬Rc.F l:=fun hx=>hFa ((hIc.good.fz l hlB).1 hx);have hTc:¬Xv Lc l:=fun hT=>by
  obtain ⟨_,_,_,hc⟩:=hgc.turf hT;rcases hc with ⟨cs,t,f,hc⟩ | ⟨cs,t,hc⟩<;>exact nomatch hrecC.symm.trans hc
 have hszA:R.w.heap.size<=Ra.w.heap.size:=hIa.good.size;have hszC:Ra.w.heap.size<=Rc.w.heap.size:=by have:=hIc.good.size;simpa [Ctx.at] using this
 -- what is none of the loop's lies as it lay
 have hfar:∀ b,b<R.w.heap.size->¬R.F b->(Rc.w.heap[b]?=R.w.heap[b]?/\∀ o,(Rc.M b o↔R.M b o))/\(¬Rc.F b):=fun b hbl hbF=>by
  have hbF0:¬Fo b:=fun hx=>hbF (hb.f1 b hx);have hbT:¬Xv Lk b:=fun hx=>hbF (hb.f2 b hx);have hbl':b≠l:=fun e=>hbF (e▸hb.f3);have h1:=hIa.good.at_blk (b:=b) hbl hbT hbF0;have hFa':¬Ra.F b:=fun hx=>hbF0 ((hIa.good.fz b hbl).1 hx);have hTa':¬Xv La b:=fun hx=>hbT (hIa.good.at_turf hbl hx);have hlt2:b<(Ra.w.putObj l (.loop { Mh fn tmps ps assign body D .ready none with state:=.busy })).heap.size:=by simp;omega
  have h2:=hIc.good.at_blk (b:=b) hlt2 hTa' hFa';refine ⟨⟨(h2.1.trans (WX hbl')).trans h1.1,fun o=>(h2.2 o).trans (h1.2 o)⟩,fun hx=>hFa' ((hIc.good.fz b hlt2).1 hx)⟩
 have hturf:∀ b,b<R.w.heap.size->Xv Lc b->R.F b:=fun b hbl hx=>by
  refine hb.f2 b (hIa.good.at_turf hbl (hIc.good.at_turf ?_ hx));simp;omega
 have hext:Ext R Rc:=by
  have e1:Ext (Env.mk R.w R.M Fo) Ra:=⟨hIa.good.ext.cell,hIa.good.ext.whole⟩;have e2:Ext (Env.mk (Ra.w.putObj l (.loop { Mh fn tmps ps assign body D .ready none with state:=.busy })) Ra.M Ra.F) Rc:=⟨hIc.good.ext.cell,hIc.good.ext.whole⟩;exact (Ext.trans (A:=R) (B:=Ra) ⟨e1.cell,e1.whole⟩ hni.ext).trans e2
 -- the end of a round
 have fin:∀ (jump:Option Code) (σ':St),σ'.bx.length=m->JM m ⟨[],σ3.bx,σ3.nx,σ3.lg⟩ (σ'.wt []) ->
   (Instr.endRound l jump).run P Rc.w = .ok (.bool jump.isNone) (Rc.w.putObj l (.loop (Mh fn tmps ps assign body D (if jump.isNone then .ready else .done) jump))) /\
   ∃ R',R'.w=Rc.w.putObj l (.loop (Mh fn tmps ps assign body D (if jump.isNone then .ready else .done) jump))/\Far R R' /\
    ∃ Lk' Fo',XK G E R1 (L1.β.take m) l ds σ' R' (.loop (Mh fn tmps ps assign body D (if jump.isNone then .ready else .done) jump)) Lk' Fo':=fun jump σ' hm' hw=>by
  have hrun:=run_endRound (P:=P) jump hrecC;generalize hrc':Mh fn tmps ps assign body D (if jump.isNone then .ready else .done) jump=rc';have hrun':(Instr.endRound l jump).run P Rc.w = .ok (.bool jump.isNone) (Rc.w.putObj l (.loop rc')):=by rw[←hrc'];exact hrun
  have hni2:=Xz (E:=E) (R:=Rc) (o:=.loop rc') (.inl hl) hFc (fun cs t f hc=>by rw[hrecC]at hc;cases hc);have hgd:=hgc.stay hni2 (hsame _ Rc Lc hTc);obtain ⟨src,_,hgw⟩:=YF.weak (p:=m) (σ:=⟨[],σ3.bx,σ3.nx,σ3.lg⟩) (σ':=σ'.wt []) (by
   obtain ⟨more0,hm0⟩:=hb.good.box;have:=WA List.length hm0;simp at this;omega) hw (hgd.wt [])
  obtain ⟨moreC,hmC⟩:=hIc.good.box;have hmC:Lc.β=Lk.β++moreC:=hmC;have hβ':Lc.β.take (σ'.wt []).bx.length=L1.β.take m:=by
   show Lc.β.take σ'.bx.length=_;rw[hm',hmC,OS (by omega),Wh (by omega),hb.β]
  refine ⟨hrun',⟨Rc.w.putObj l (.loop rc'),Rc.M,fun b=>R.F b∨(R.w.heap.size<=b/\b<Rc.w.heap.size)⟩,rfl,⟨?_,?_,?_,?_,?_,fun b hbl=>⟨fun hx=>hx.elim id fun h=>by omega,.inl⟩,fun b hx=>?_,fun b hbl hbF=>?_⟩,Jp src (σ'.wt []).bx.length Lc,Rc.F,⟨?_,hβ',?_,?_,Bc (qc hrecC),hFc,fun b hx=>?_,fun b hx=>?_,.inl hb.f3,fun d hd=>.inl (hb.f4 d hd)⟩⟩
  ·exact hIc.good.os.trans hIa.good.os
  ·exact hIc.good.tape.trans hIa.good.tape
  ·exact hIc.good.output.trans hIa.good.output
  ·simp;omega
  ·exact hext.trans ⟨hni2.ext.cell,hni2.ext.whole⟩
  ·simp only[World.putObj_size];rcases hx with hx | hx
   ·have:=hflt b hx;omega
   ·exact hx.2
  ·have hbl':b≠l:=fun e=>hbF (e▸hb.f3);obtain ⟨⟨g1,g2⟩,_⟩:=hfar b hbl hbF;exact ⟨(WX hbl').trans g1,g2⟩
  ·exact (hb.ext.trans hext).trans ⟨hni2.ext.cell,hni2.ext.whole⟩
  ·exact { hgw with }
  ·have hdf:=hb.df;refine hdf.stay2 (fun d hd=>?_) fun d hd hh=>?_
   ·have hdm:=hdf.mk hd;have hlt:d<R.w.heap.size:=qc hdm.1;exact ((hIc.good.fz d (by simp[Ctx.at];omega)).trans (hIa.good.fz d hlt))
   ·have hdm:=hdf.mk hd;have hlt:d<R.w.heap.size:=qc hdm.1;have hdF0:¬Fo d:=hdm.2.2;have hdT:¬Xv Lk d:=fun hT=>by
     obtain ⟨_,_,_,hc⟩:=hb.good.turf hT;have hh:R.w.heap[d]?=some (.deferred (some [])):=hh;rcases hc with ⟨cs,t,f,hc⟩ | ⟨cs,t,hc⟩<;>exact nomatch hh.symm.trans hc
    have hdl:d≠l:=fun e=>by
     subst e;have hh:R.w.heap[d]?=some (.deferred (some [])):=hh;rw[hb.rcd]at hh;cases hh
    have h1:=hIa.good.at_blk (b:=d) hlt hdT hdF0;have hFa':¬Ra.F d:=fun hx=>hdF0 ((hIa.good.fz d hlt).1 hx);have hTa':¬Xv La d:=fun hx=>hdT (hIa.good.at_turf hlt hx);have hlt2:d<(Ra.w.putObj l (.loop { Mh fn tmps ps assign body D .ready none with state:=.busy })).heap.size:=by simp;omega
    have h2:=hIc.good.at_blk (b:=d) hlt2 hTa' hFa';exact (WX hdl).trans ((h2.1.trans (WX hdl)).trans h1.1)
  ·rcases Wr b R.w.heap.size with g | g
   ·exact .inl (AI fun hn=>(hfar b g hn).2 hx)
   ·exact .inr ⟨g,hIc.good.flt b hx⟩
  ·obtain ⟨h1,h2,h3,_⟩:=hgw.turf hx;rcases Wr b R.w.heap.size with g | g
   ·refine .inl (hturf b g ?_);rcases hx with hx | ⟨id,e,k,v,ht,hv⟩
    ·exact .inl (Ww hx)
    ·obtain ⟨i,_,hi⟩:=Xh (R:=R) ht hv;exact .inr ⟨i,e,k,v,hi,hv⟩
   ·exact .inr ⟨g,by simpa using h3⟩
 cases e with
 | normal =>
  obtain ⟨hs,hw⟩:=hq3;obtain ⟨hrun,R',hR',hf,Lk',Fo',hbt⟩:=fin none (I (k+1)) (hIm _ (by omega)) hw;refine ⟨_,_,hrun,?_,R',hR',hf,.inl ⟨fun j hj=>?_,Lk',Fo',hbt⟩⟩
  ·show Ending.returned (.bool true) = .returned (.bool (!st k));rw[hs];rfl
  ·rcases Wr j k with g | g
   ·exact hst j g
   ·rw[show j=k by omega];exact hs
 | ret =>
  obtain ⟨hs,σ',hm',hw,hQ⟩:=hq3;obtain ⟨hrun,R',hR',hf,Lk',Fo',hbt⟩:=fin (some .ret) σ' hm' hw;refine ⟨_,_,hrun,?_,R',hR',hf,.inr ⟨by omega,hs,.ret,_,σ',rfl,hQ,Lk',Fo',hbt⟩⟩;show Ending.returned (.bool false) = .returned (.bool (!st k));rw[hs];rfl
 | exit id =>
  obtain ⟨hs,σ',hm',hw,hQ⟩:=hq3;obtain ⟨hrun,R',hR',hf,Lk',Fo',hbt⟩:=fin (some (.exit id)) σ' hm' hw;refine ⟨_,_,hrun,?_,R',hR',hf,.inr ⟨by omega,hs,.exit id,_,σ',rfl,hQ,Lk',Fo',hbt⟩⟩;show Ending.returned (.bool false) = .returned (.bool (!st k));rw[hs];rfl
 | goto t =>
  obtain ⟨hs,σ',hm',hw,hQ⟩:=hq3;obtain ⟨hrun,R',hR',hf,Lk',Fo',hbt⟩:=fin (some (.goto t)) σ' hm' hw;refine ⟨_,_,hrun,?_,R',hR',hf,.inr ⟨by omega,hs,.goto t,_,σ',rfl,hQ,Lk',Fo',hbt⟩⟩;show Ending.returned (.bool false) = .returned (.bool (!st k));rw[hs];rfl
 | panic ch=>exact hq3.elim
 | outgrown=>exact hq3.elim
theorem yX {p:Nat} {f:Operand} {ps:Array Tmp} {assign body:Code} {Q:Exit->St->Prop} {A B:Nat->(Exit->St->Prop)->St->Prop}
  (hsA:∀ (E':Ctx) (m l:Nat) (Q':Exit->St->Prop) (σ':St) (a':Act) (w':World),E'.N=E.N->E'.β0.length<=m->E'.J=E.J->uE (some l) E'->A m Q' σ'->Inv G E' σ' a' w'->assign.wpIn (Fl (some l)) 0 P (zox G E' Q') a' w')
  (hsB:∀ (E':Ctx) (m l:Nat) (Q':Exit->St->Prop) (σ':St) (a':Act) (w':World),E'.N=E.N->E'.β0.length<=m->E'.J=E.J->uE (some l) E'->B m Q' σ'->Inv G E' σ' a' w'->body.wpIn (Fl (some l)) 0 P (zox G E' Q') a' w')
  (hps:∀ p∈ps.toList,p<E.N) (hp:E.β0.length<=p) (hr:uE r E) (hA:za2 P G p A B Q ps.toList (zr G σ.tm f) σ) (hI:Inv G E σ a w):(Code.rangeFunc f ps assign body).wpIn (Fl r) n P (zox G E Q) a w:=by
 obtain ⟨R,L,rfl,hI⟩:=hI;unfold za2 at hA;split at hA<;>try exact hA.elim
 rename_i gf first cap hev
 obtain ⟨items,st,m,I,hpm,hmb,hit,hlen,hIm,hw0,hbody,hdone⟩:=hA;have hcl:=hI.ev f;rw[hev,J6]at hcl;obtain ⟨fs,cs,hfv,hfs,hcs⟩:=hcl;refine wpIn_rangeFunc ?_;intro fn hfn;obtain ⟨l,dl,W,D,hrun,hbl,hlR,hrec,hnd,hds⟩:=zb8 hr hI.good fn a.tmps ps assign body;have hg:=hI.good
 let R1:Env:=⟨W,R.M,R.F⟩
 have hnear:zdN E.w0 E.ex R R1:=⟨hbl.os,hbl.tape,hbl.output,hbl.size,rfl,Ext.of_below hbl fun _ _ _=>Iff.rfl,fun b hb=>.inl ⟨hbl.block b hb,fun _=>Iff.rfl⟩⟩;have hg1:YF G E σ R1 L:=hg.stay hnear fun b hb=>⟨hbl.block b (hg.turf hb).2.2.1,fun _=>Iff.rfl⟩;obtain ⟨src,_,hgw⟩:=YF.weak (p:=m) (σ:=⟨[],σ.bx,σ.nx,σ.lg⟩) (σ':=(I 0).wt []) (by omega) hw0 (hg1.wt []);have hm0:(I 0).bx.length=m:=hIm 0 (Wc _);have hm0':((I 0).wt []).bx.length=m:=hm0;have hdf1:Mm E (dl.map J8++a.defers) R1:=by
  obtain ⟨l0,e0,hn0,h0⟩:=hI.df;refine ⟨dl++l0,by rw[W9,e0,WT],?_,fun d hd=>?_⟩
  ·rw[Ah];refine ⟨hnd,hn0,fun x hx y hy e=>?_⟩;subst e;have:=(hds x hx).1;have:=qc (h0 x hy).1;omega
  ·rcases WG.1 hd with hd | hd
   ·obtain ⟨h1,_,h3⟩:=hds d hd;exact ⟨h3,WM hg.size h1,fun hF=>by have:=hg.flt d hF;omega⟩
   ·obtain ⟨h1,h2,h3⟩:=h0 d hd;exact ⟨(hbl.block d (qc h1)).trans h1,h2,h3⟩
 have hlE:E.w0.heap.size<=l:=WM hg.size hlR;have hFl:¬R.F l:=fun hF=>by have:=hg.flt l hF;omega
 let Rp:Env:=⟨W,R.M,fun b=>R.F b∨Xv (Jp src m L) b∨b=l∨Mk E (dl.map J8++a.defers) b⟩
 have hturfLt:∀ b,Xv (Jp src m L) b->b<R.w.heap.size/\Xv L b:=fun b hb=>by
  have:Xv L b:=by
   rcases hb with hb | ⟨id,e,k,v,ht,hv⟩
   ·exact .inl (Ww hb)
   ·obtain ⟨i,_,hi⟩:=Xh (R:=R) ht hv;exact .inr ⟨i,e,k,v,hi,hv⟩
  exact ⟨(hg.turf this).2.2.1,this⟩
 have hbt:XK G E R1 (L.β.take m) l (dl.map J8++a.defers) (I 0) Rp (.loop (Mh fn a.tmps ps assign body D .ready none)) (Jp src m L) R.F:=by
  rw[hm0']at hgw;refine ⟨⟨fun b o v h1 h2=>⟨h1,h2⟩,fun _ _ _ _ h1 h2=>⟨h1,h2⟩⟩,rfl,{ hgw with },hdf1.stay2 (fun _ _=>Iff.rfl) (fun _ _ _=>rfl),hrec,hFl,fun b hb=>.inl hb,fun b hb=>.inr (.inl hb),.inr (.inr (.inl rfl)),fun d hd=>.inr (.inr (.inr hd))⟩
 have hround:=ziH (G:=G) (E:=E) (P:=P) (R1:=R1) (L1:=L) (tm0:=σ.tm) (ds:=dl.map J8++a.defers) (D:=D) (fn:=fn) (tmps:=a.tmps) (fun E'=>hsA E' m l) (fun E'=>hsB E' m l) hlE hps hI.size (fun t=>Rep.ext hnear.ext (zM.refl _) _ _ (hI.tm t)) hlen hIm hbody;have hEw:E.w0.heap.size<=W.heap.size:=WM hg.size hbl.size;have hnodup:=hg.fit.boxes.nodup;have hblen:=hg.fit.boxes.len;have htake:∀ b∈L.β.drop m,b∉L.β.take m:=fun b hb hb'=>by
  have h:=hnodup;rw[←Og m L.β,Ah]at h;exact h.2.2 b hb' b hb rfl
 have hdropF:∀ b∈L.β.drop m,¬Rp.F b:=fun b hb hF=>by
  have hbL:b∈L.β:=WU hb;obtain ⟨_,t2,t3,hc⟩:=hg.turf (.inl hbL);obtain ⟨cs',t,f',hc⟩:∃ cs t f,R.w.heap[b]?=some (.cells cs t f):=by
   obtain ⟨i,hi,rfl⟩:=WF hbL;have hl0:=hg.fit.boxes.len;obtain ⟨vs,ty,g,_⟩:=hg.fit.boxes.box i L.β[i] (σ.bx[i]'(by omega)) (Wa hi) (Wa (by omega));exact ⟨_,_,_,g⟩
  rcases hF with hF | hF | hF | hF
  ·exact t2 hF
  ·rcases hF with hF | ⟨id,e,k,v,ht,hv⟩
   ·exact htake b hb hF
   ·obtain ⟨i,_,hi⟩:=Xh (R:=R) ht hv;exact ((hg.fit.owns.own i e k v hi).block hv).2.2 hbL
  ·omega
  ·have:=(hdf1.mk hF).1;have hc1:W.heap[b]?=some (.cells cs' t f'):=(hbl.block b t3).trans hc;have:W.heap[b]?=some (.deferred (some [])):=this;rw[hc1]at this;cases this
 have hfl:∀ b,Rp.F b->b<Rp.w.heap.size:=fun b hF=>by
  rcases hF with hF | hF | hF | hF
  ·exact WL (hg.flt b hF) hbl.size
  ·exact WL (hturfLt b hF).1 hbl.size
  ·rw[hF];exact qc hrec
  ·exact qc (hdf1.mk hF).1
 have hb1:=hg1.fit.boxes;have hdropR:∀ i j b,Xn m i=some j->L.β[i]?=some b->(L.β.drop m)[j]?=some b:=fun i j b hij hb=>by
  unfold Xn at hij;split at hij
  ·cases hij
  ·cases hij;rw[W4,show m+(i-m)=i by omega];exact hb
 have hsel:∀ cs vs,zy R L cs vs->zy Rp ⟨L.β.drop m,fun _=>none⟩ (C.selL (Xn m) cs) vs:=fun cs vs h=>zy.sel (R':=Rp) (L':=⟨L.β.drop m,fun _=>none⟩) ⟨hnear.ext.cell,hnear.ext.whole⟩ hdropR _ _ h;have hsel1:∀ cs vs,zy R1 L cs vs->zy Rp ⟨L.β.drop m,fun _=>none⟩ (C.selL (Xn m) cs) vs:=fun cs vs h=>zy.sel (R:=R1) (R':=Rp) (L':=⟨L.β.drop m,fun _=>none⟩) ⟨fun b o v h1 h2=>⟨h1,h2⟩,fun _ _ _ _ h1 h2=>⟨h1,h2⟩⟩ hdropR _ _ h;have hcall:=hit.2 l st _ Rp ⟨L.β.drop m,fun _=>none⟩ fs.toList cs.toList (hg.fit.glob.ext ⟨hnear.ext.cell,hnear.ext.whole⟩)
  ⟨by simp[hblen],hnodup.sublist (List.drop_sublist _ _),fun i b cs' hi hc=>by
   have hi':L.β[m+i]?=some b:=by rw[←W4];exact hi
   rw[Ws,W4]at hc;cases hq:σ.bx[m+i]? with
   | none=>rw[hq]at hc;cases hc
   | some c0 =>
    rw[hq]at hc;cases hc;obtain ⟨vs,ty,e1,e2,e3,e4⟩:=hb1.box (m+i) b c0 hi' hq;exact ⟨vs,ty,e1,hsel1 _ _ e2,e3,e4⟩⟩
  (fun _=>rfl) hfl hdropF (JC.stab (E:=E) (w1:=W) (ex:=fun b=>b∈L.β.drop m) hEw fun b hb=>hg.tubx b (WU hb)) hround (.inl ⟨fun j hj=>by omega,_,_,hbt⟩) (hsel _ _ hfs) (hsel _ _ hcs)
 refine ⟨l,dl.map J8,W,{ target:=.fn (.func gf) cs,args:=fs++#[.func (.yield l) #[] #[]] },W,gf,(fs.toList++[Value.func (.yield l) #[] #[]]++cs.toList).toArray,W,hrun,?_,fun _ _=>trivial,?_,fun hx=>by simp at hx,?_⟩
 ·simp only[resolve,hfv];simp[Deferred.ofValue,Act.eval]
 ·simp only[invoke];rw[Z8 hit.1];congr 2;apply Br;simp
 ·refine (Gy (r:=r) (n:=n-1) hcall).mono ?_;rintro e w' ⟨v,Re,k,rfl,rfl,hJ,hEnd⟩;have wrap:∀ (σ':St) (o:Obj) (Lk:Loc) (Fo:Nat->Prop) (o':Obj),((∀ cs t f,o≠.cells cs t f)/\∀ es cl,o≠.map es cl)->XK G E R1 (L.β.take m) l (dl.map J8++a.defers) σ' Re o Lk Fo->Inv G E (σ'.wt (Hz m σ.tm)) { a with defers:=dl.map J8++a.defers } (Re.w.putObj l o'):=fun σ' o Lk Fo o' ho hb=>by
   have hnT:¬Xv Lk l:=fun hT=>by
    obtain ⟨_,_,_,hc⟩:=hb.good.turf hT;have hr:=hb.rcd;rcases hc with ⟨cs,t,f,hc⟩ | ⟨cs,t,hc⟩
    ·exact ho.1 _ _ _ (Option.some.inj (hr.symm.trans hc))
    ·exact ho.2 _ _ (Option.some.inj (hr.symm.trans hc))
   have hni:=Xz (E:=E) (R:=Env.mk Re.w Re.M Fo) (o:=o') (.inl hlE) hb.fl (fun cs t f hc=>by
    have hc:Re.w.heap[l]?=some (.cells cs t f):=hc;rw[hb.rcd]at hc;cases hc;exact ho.1 _ _ _ rfl)
   refine ⟨_,Lk,rfl,(hb.good.stay hni fun b hbT=>⟨WX fun e=>hnT (e▸hbT),fun _=>Iff.rfl⟩).wt _,hI.size,hb.df.stay2 (fun _ _=>Iff.rfl) fun d hd hh=>WX fun e=>?_,fun t=>?_⟩
   ·subst e;have hh:Re.w.heap[d]?=some (.deferred (some [])):=hh;rw[hb.rcd]at hh;cases hh;have:=(hdf1.mk hd).1;have:W.heap[d]?=some (.deferred (some [])):=this;rw[hrec]at this;cases this
   ·show Rep _ _ (jU (Hz m σ.tm) t) _;rw[vJ];refine Rep.sel (R:=R) (L:=L) ⟨fun b o v h1 h2=>?_,fun b cs ty fl h1 h2=>?_⟩ (fun i j b hij hb1=>?_) _ _ (hI.tm t)
    ·obtain ⟨g1,g2⟩:=hnear.ext.cell b o v h1 h2;obtain ⟨k1,k2⟩:=hb.ext.cell b o v g1 g2;exact hni.ext.cell b o v k1 k2
    ·obtain ⟨g1,g2⟩:=hnear.ext.whole b cs ty fl h1 h2;obtain ⟨k1,k2⟩:=hb.ext.whole b cs ty fl g1 g2;exact hni.ext.whole b cs ty fl k1 k2
    ·unfold HZ at hij;split at hij
     ·cases hij;rw[hb.β,WJ,if_pos (by assumption)];exact hb1
     ·cases hij
  rcases hJ with ⟨hns,Lk,Fo,hb⟩ | ⟨hk0,hk1,e,jc,σ',hj,hQ,Lk,Fo,hb⟩
  ·have hk:k=items.length:=by
    rcases hEnd with ⟨g,_⟩ | ⟨g1,g2⟩
    ·exact g
    ·have:=hns (k-1) (by omega);rw[g2]at this;cases this
   subst hk;exact ⟨none,_,run_endLoop hb.rcd (by simp),_,hdone hns,wrap _ _ _ _ _ ⟨fun cs t f h=>(by cases h),fun es cl h=>(by cases h)⟩ hb⟩
  ·have hinv:=wrap σ' _ Lk Fo (.loop { Mh fn a.tmps ps assign body D .done (some jc) with state:=.exhausted }) ⟨fun cs t f h=>(by cases h),fun es cl h=>(by cases h)⟩ hb;refine ⟨some jc,_,run_endLoop hb.rcd (by simp),?_⟩;cases e with
   | ret=>cases hj;exact wpIn_ret ⟨_,hQ,hinv⟩
   | exit id=>cases hj;exact wpIn_exit ⟨_,hQ,hinv⟩
   | goto t=>cases hj;exact wpIn_goto ⟨_,hQ,hinv⟩
   | normal=>cases hj
   | panic ch=>cases hj
   | outgrown=>cases hj
end
end
section
open Go.RowKit
def J4 (a s:Nat):List Bool:=true :: true :: true :: (List.replicate a false++true :: List.replicate s false)
def YH:List Bool->Nat×List Bool
 | false :: r=>((YH r).1+1,(YH r).2)
 | r=>(0,r)
def H4:List Bool->Option (Nat×Nat)
 | true :: true :: true :: r=>some ((YH r).1,(YH r).2.tail.length)
 | _=>none
theorem ZX:∀ (a:Nat) (r:List Bool),YH (List.replicate a false++true :: r)=(a,true :: r)
 | 0,r=>by simp[YH]
 | a+1,r=>by rw[AT,Oh,YH,ZX a r]
theorem xI (a s:Nat):H4 (J4 a s)=some (a,s):=by
 show some ((YH (List.replicate a false++true :: List.replicate s false)).1,(YH (List.replicate a false++true :: List.replicate s false)).2.tail.length)=_;rw[ZX];simp
def YO (ops:Array Oper) (a s:Nat):Bool:=
 match ops[a]?,ops[s]? with
 | some ⟨some p,.alloc t,_,_,_,none⟩,some ⟨none,.store t' (.tmp p') x,_,_,_,none⟩ =>
  t==t'&&p==p'&&decide (a<s)&&inC (qz ops.toList ops.size) s a&&ops.toList.zipIdx.all fun (o,i)=>i==a||!(o.dst==some p)
 | _,_=>false
def HT (L:Option Lay) (c:C) (K:C->Prop):Prop:=match L with
 | some L=>c.partB=true/\(c.cells.all C.cellB)=true/\c.cells.length=L.size/\K c
 | none=>False
def M3 (L:Option Lay) (K:Prop):Prop:=match L with
 | some ⟨_,k,_,some z⟩=>z.length=k/\(z.all Value.oneCell')=true/\K
 | _=>False
section
variable {P:Program} {G:zp} {E:Ctx} {σ:St} {a:Act} {N p:Nat} {bx:List (List C)} {ops:Array Oper}
def jN (P:Program) (G:zp) (ops:Array Oper) (a s:Nat):List Oper->Nat->Option (List C)->St->(St->Prop)->Prop
 | [],_,cs,σ,K=>match cs,(ops[a]?).bind (·.dst) with
  | some cs,some p=>K ⟨(p,.ptr σ.bx.length 0) :: σ.tm,σ.bx++[cs],σ.nx,σ.lg⟩
  | _,_=>False
 | o :: rest,i,cs,σ,K =>
  if i=a then match o.op with
   | .alloc t=>M3 (lay P t) (jN P G ops a s rest (i+1) cs ⟨jH σ.tm o.dst .any,σ.bx,σ.nx,σ.lg⟩ K)
   | _=>False
  else if i=s then match o.op with
   | .store t _ x=>HT (lay P t) (zr G σ.tm x) fun c=>jN P G ops a s rest (i+1) (some c.cells) ⟨jH σ.tm o.dst .any,σ.bx,σ.nx,σ.lg⟩ K
   | _=>False
  else jj ops σ.tm o.guard (Jl P G σ.bx (zr G σ.tm) o.op σ.nx fun c nx'=>jN P G ops a s rest (i+1) cs ⟨jH σ.tm o.dst c,σ.bx,nx',σ.lg⟩ K)
   (jN P G ops a s rest (i+1) cs ⟨jH σ.tm o.dst (.sc undef),σ.bx,σ.nx,σ.lg⟩ K)
structure x8 (P:Program) (G:zp) (bx:List (List C)) (ops:Array Oper) (a s:Nat) (l:List Oper) (m m':Nat) (D:YC):Prop where
  step:∀ (i:Nat) o,m<=i->i<m'->l[i]?=some o->D.T (i+1)=jH (D.T i) o.dst (D.c i)/\D.X i<=D.X (i+1) /\
    ((i=a/\D.c i = .any/\D.X (i+1)=D.X i/\∃ t kd k b z,o.op = .alloc t/\lay P t=some ⟨kd,k,b,some z⟩/\z.length=k/\(z.all Value.oneCell')=true) ∨
     (i≠a/\i=s/\D.c i = .any/\D.X (i+1)=D.X i/\∃ t q x L,o.op = .store t q x/\lay P t=some L/\(zr G (D.T i) x).partB=true/\((zr G (D.T i) x).cells.all C.cellB)=true/\(zr G (D.T i) x).cells.length=L.size) ∨
     (i≠a/\i≠s/\JZ ops (D.T i) o.guard (D.wn i)/\(D.wn i=true->zH P G bx (XQ o (zr G (D.T i))) (D.X i) o (D.c i) (D.X (i+1)))/\(D.wn i=false->D.c i = .sc undef/\D.X (i+1)=D.X i)))
theorem x8.skel {a s:Nat} {m:Nat} (h:x8 P G bx ops a s l m m' D):MQ l m m' D:=⟨fun i o a b c=>⟨(h.step i o a b c).1,(h.step i o a b c).2.1⟩⟩
theorem Gu {ops:Array Oper} {a s:Nat} {all:List Oper} {K:St->Prop}:∀ (l:List Oper) (m:Nat) (cs:Option (List C)) (σ:St),all.drop m=l->m<=all.length->jN P G ops a s l m cs σ K ->
    ∃ (D:YC) (p:Nat) (ct:List C),D.T m=σ.tm/\D.X m=σ.nx/\x8 P G σ.bx ops a s all m all.length D/\(ops[a]?).bind (·.dst)=some p/\K ⟨(p,.ptr σ.bx.length 0) :: D.T all.length,σ.bx++[ct],D.X all.length,σ.lg⟩ /\
      (cs=some ct∨(m<=s/\s<all.length/\∀ o t q x,all[s]?=some o->o.op = .store t q x->ct=(zr G (D.T s) x).cells))
  | [],m,cs,σ,hl,hm,h=>by
    have:m=all.length:=by
      have:=WA List.length hl;simp at this;omega
    subst this;unfold jN at h;split at h
    · rename_i cs p hp;exact ⟨⟨fun _=>σ.tm,fun _=>σ.nx,fun _=>.any,fun _=>true⟩,p,cs,rfl,rfl,⟨fun i o h1 h2=>by omega⟩,hp,h,.inl rfl⟩
    · exact h.elim
  | o :: rest,m,cs,σ,hl,hm,h=>by
    have hlt:m<all.length:=by
      rcases Wr m all.length with g | g
      · exact g
      · rw[AE g]at hl;cases hl
    have hom:all[m]?=some o:=by
      have:=W4 (xs:=all) (i:=m) (j:=0);rw[hl]at this;simpa using this.symm
    have hrest:all.drop (m+1)=rest:=by
      have:=WA List.tail hl;simpa using this
    have key:∀ (c:C) (nx':Nat) (b:Bool) (cs':Option (List C)),σ.nx<=nx' ->
        ((m=a/\c = .any/\nx'=σ.nx/\∃ t kd k b z,o.op = .alloc t/\lay P t=some ⟨kd,k,b,some z⟩/\z.length=k/\(z.all Value.oneCell')=true) ∨
         (m≠a/\m=s/\c = .any/\nx'=σ.nx/\∃ t q x L,o.op = .store t q x/\lay P t=some L/\(zr G σ.tm x).partB=true/\((zr G σ.tm x).cells.all C.cellB)=true/\(zr G σ.tm x).cells.length=L.size) ∨
         (m≠a/\m≠s/\JZ ops σ.tm o.guard b/\(b=true->zH P G σ.bx (XQ o (zr G σ.tm)) σ.nx o c nx')/\(b=false->c = .sc undef/\nx'=σ.nx))) ->
        (cs'=cs∨(m=s/\∀ t q x,o.op = .store t q x->cs'=some (zr G σ.tm x).cells)) ->
        jN P G ops a s rest (m+1) cs' ⟨jH σ.tm o.dst c,σ.bx,nx',σ.lg⟩ K ->
        ∃ (D:YC) (p:Nat) (ct:List C),D.T m=σ.tm/\D.X m=σ.nx/\x8 P G σ.bx ops a s all m all.length D/\(ops[a]?).bind (·.dst)=some p/\K ⟨(p,.ptr σ.bx.length 0) :: D.T all.length,σ.bx++[ct],D.X all.length,σ.lg⟩ /\
          (cs=some ct∨(m<=s/\s<all.length/\∀ o t q x,all[s]?=some o->o.op = .store t q x->ct=(zr G (D.T s) x).cells)):=fun c nx' b cs' hle hcase hcs hr=>by
      obtain ⟨D,p,ct,d1,d2,d3,d4,d5,d6⟩:=Gu rest (m+1) cs' _ hrest (by omega) hr;refine ⟨⟨fun i=>if i<=m then σ.tm else D.T i,fun i=>if i<=m then σ.nx else D.X i,fun i=>if i=m then c else D.c i,fun i=>if i=m then b else D.wn i⟩,p,ct,by simp,by simp,⟨fun i o' hi hi' hio=>?_⟩,d4,?_,?_⟩
      · by_cases him:i=m
        · subst him;rw[hom]at hio;cases hio;simp only[Wb,if_true,show ¬i+1<=i by omega,W2];exact ⟨d1,by rw[d2];exact hle,by rw[d2];exact hcase⟩
        · simp only[if_neg him,if_neg (show ¬i<=m by omega),if_neg (show ¬i+1<=m by omega)];exact d3.step i o' (by omega) hi' hio
      · simp only[if_neg (show ¬all.length<=m by omega)];exact d5
      · rcases d6 with g | ⟨g1,g2,g3⟩
        · rcases hcs with e | ⟨e1,e2⟩
          · exact .inl (by rw[←e];exact g)
          · refine .inr ⟨by omega,by omega,fun o' t q x ho hop=>?_⟩;subst e1;rw[hom]at ho;cases ho;simp only[Wb,if_true];have:=e2 t q x hop;rw[g]at this;exact Option.some.inj this
        · refine .inr ⟨by omega,g2,fun o' t q x ho hop=>?_⟩;simp only[if_neg (show ¬s<=m by omega)];exact g3 o' t q x ho hop
    unfold jN at h;split at h
    · rename_i hma;split at h
      · rename_i t ho;unfold M3 at h;split at h
        · rename_i kd k b z hl';exact key .any σ.nx true cs (Wb _) (.inl ⟨hma,rfl,rfl,t,kd,k,b,z,ho,hl',h.1,h.2.1⟩) (.inl rfl) h.2.2
        · exact h.elim
      · exact h.elim
    · rename_i hma;split at h
      · rename_i hms;split at h
        · rename_i t q x ho;unfold HT at h;split at h
          · rename_i L hL;obtain ⟨h1,h2,h3,h4⟩:=h;exact key .any σ.nx true (some (zr G σ.tm x).cells) (Wb _) (.inr (.inl ⟨hma,hms,rfl,rfl,t,q,x,L,ho,hL,h1,h2,h3⟩)) (.inr ⟨hms,fun t' q' x' ho'=>by rw[ho]at ho';cases ho';rfl⟩) h4
          · exact h.elim
        · exact h.elim
      · rename_i hms;obtain ⟨b,hg,h1,h2⟩:=jj.out h;cases b with
        | true =>
          obtain ⟨c,nx',hp,hK⟩:=Yr (h1 rfl);exact key c nx' true cs hp.1 (.inr (.inr ⟨hma,hms,hg,fun _=>hp,(fun h=>by cases h)⟩)) (.inl rfl) hK
        | false=>exact key (.sc undef) σ.nx false cs (Wb _) (.inr (.inr ⟨hma,hms,hg,(fun h=>by cases h),fun _=>⟨rfl,rfl⟩⟩)) (.inl rfl) (h2 rfl)
structure QW (E:Ctx) (R:Env) (L:Loc) (p:Nat) (a:Act) (g:Nat) (vs:Array Value) (ty:TypeId):Prop where
 ptr:a.tmps.getD p undef = .pointer (some ⟨g,0,none⟩)
 heap:R.w.heap[g]?=some (.cells vs ty (0,0))
 turn:∀ o,R.M g o
 new:E.w0.heap.size<=g
 fgn:¬R.F g
 box:g∉L.β
 own:∀ id e k v,L.T id=some (e,k,v)->v.ownB≠some g
 one:∀ v∈vs.toList,v.oneCell'=true
theorem QW.step {R R':Env} {L L':Loc} {p nx nx' g:Nat} {a:Act} {vs:Array Value} {ty:TypeId} (h:QW E R L p a g vs ty) (st:qw nx nx' R L R' L') {dst:Option Tmp} {v:Value} (hd:dst≠some p):QW E R' L' p (a.put dst v) g vs ty:=by
 have hlt:=qc h.heap;refine ⟨?_,(st.below.block g hlt).trans h.heap,fun o=>(st.mt g o hlt).2 (h.turn o),h.new,by rw[st.fgn];exact h.fgn,by rw[st.box];exact h.box,fun id e k v ht hv=>?_,h.one⟩
 ·rw[←h.ptr];cases dst with
  | none=>rfl
  | some d =>
   have hne:d≠p:=fun e=>hd (by rw[e]);simp[Act.put,Wq,OY hne]
 ·rcases st.cases ht with hi | ⟨hi,hj⟩
  ·exact h.own id e k v hi hv
  ·have:=((st.new id e k v hi hj ht).block hv).1;omega
theorem qH.adopt {p:Nat} {cs:List C} (h:qH G E ⟨tm,bx,nx,lg⟩ a R L) (hs:QW E R L p a g vs ty) (hr:zy R L cs vs.toList) :
  qH G E ⟨(p,.ptr bx.length 0) :: tm,bx++[cs],nx,lg⟩ a R ⟨L.β++[g],L.T⟩:=by
 have hg:=h.good;have hlen:=hg.fit.boxes.len;have hlen:L.β.length=bx.length:=hlen;have hle:zM L ⟨L.β++[g],L.T⟩:=⟨fun i b e=>by
  show (L.β++[g])[i]?=some b;rw[Wu (Wd.1 e).1];exact e,fun _ _ e=>e⟩
 refine ⟨⟨⟨hg.fit.glob,⟨by simp[hlen],?_,fun i b cs' hi hc=>?_⟩,⟨fun id e k v ht=>?_,hg.fit.owns.apart⟩,hg.fit.base⟩,hg.os,hg.tape,hg.output,hg.size,hg.blk,hg.ext,?_,fun b hb=>?_,hg.flt,hg.fz,fun b hb=>?_,hg.fow,hg.free,hg.log⟩,h.size,h.df,fun t=>?_⟩
 ·show (L.β++[g]).Nodup;rw[Ah];refine ⟨hg.fit.boxes.nodup,by simp,fun x hx y hy e=>?_⟩;simp at hy;subst hy;subst e;exact hs.box hx
 ·have hi:(L.β++[g])[i]?=some b:=hi;rcases Wr i L.β.length with hl | hl
  ·rw[Wu hl]at hi;rw[Wu (by omega)]at hc;obtain ⟨us,ty',e1,e2,e3,e4⟩:=hg.fit.boxes.box i b cs' hi hc;exact ⟨us,ty',e1,zy.ext (Ext.refl R) hle _ _ e2,e3,e4⟩
  ·rw[WP hl]at hi;rw[WP (by omega)]at hc;have h0:i-L.β.length=0:=by
    have:=(Wd.1 hi).1;simp at this;omega
   rw[h0]at hi;rw[show i-bx.length=0 by omega]at hc;simp at hi hc;subst hi hc;exact ⟨vs,ty,hs.heap,zy.ext (Ext.refl R) hle _ _ hr,hs.one,hs.turn⟩
 ·refine (hg.fit.owns.own id e k v ht).move fun g' hv q2 _ q7=>⟨q2,rfl,fun hx=>?_,fun _ h=>h⟩;have hx:g'∈L.β++[g]:=hx;rcases WG.1 hx with hx | hx
  ·exact q7 hx
  ·simp at hx;subst hx;exact hs.own id e k v ht hv
 ·obtain ⟨more,hm⟩:=hg.box;exact ⟨more++[g],by show L.β++[g]=_;rw[hm,WT]⟩
 ·have hb:b∈L.β++[g]:=hb;rcases WG.1 hb with hb | hb
  ·exact hg.tub b hb
  ·simp at hb;subst hb;exact .inl hs.new
 ·have hb:b∈L.β++[g]:=hb;rcases WG.1 hb with hb | hb
  ·exact hg.fbx b hb
  ·simp at hb;subst hb;exact hs.fgn
 ·show Rep R _ (if t=p then _ else jU tm t) _;split
  ·subst_vars
   exact Jr.2 ⟨g,by show (L.β++[g])[bx.length]?=_;rw[←hlen];simp,hs.ptr⟩
  ·exact Rep.ext (Ext.refl R) hle _ _ (h.tm t)
theorem YF.fill {σ:St} {p:Nat} {us:Array Value} (h:YF G E σ R L) (hs:QW E R L p a g vs ty):zdN E.w0 E.ex R ⟨R.w.setRow g us,R.M,R.F⟩/\YF G E σ ⟨R.w.setRow g us,R.M,R.F⟩ L:=by
 have hext:Ext R ⟨R.w.setRow g us,R.M,R.F⟩:=⟨fun b' o v hcell hm=>⟨by
  have hne:b'≠g:=fun e=>hm (e▸hs.turn o);rw[j4 R.w g us b' o hne];exact hcell,hm⟩,fun c cs ty fl hc hm=>⟨by rw[Ai R.w g c us fun e=>hm 0 (e▸hs.turn 0)];exact hc,hm⟩⟩
 have hn:zdN E.w0 E.ex R ⟨R.w.setRow g us,R.M,R.F⟩:=⟨rfl,rfl,rfl,by rw[BZ];exact Wb _,rfl,hext,fun k hk=>by
  by_cases hkb:k=g
  ·subst hkb;exact .inr ⟨.inl hs.new,hs.fgn⟩
  ·exact .inl ⟨Ai R.w g k us hkb,fun _=>Iff.rfl⟩⟩
 refine ⟨hn,h.move hn ⟨h.fit.glob.ext hext,⟨h.fit.boxes.len,h.fit.boxes.nodup,fun i b cs hi hc=>?_⟩,⟨fun id e k v ht=>?_,h.fit.owns.apart⟩,fun q hq=>?_⟩ ⟨[],by rw[Oi],fun b hb=>by cases hb⟩ (fun id e k v b ht hv=>.inl ⟨id,e,k,v,ht,hv⟩) h.free⟩
 ·obtain ⟨ws,ty',e1,e2,e3,e4⟩:=h.fit.boxes.box i b cs hi hc;have hne:b≠g:=fun e=>hs.box (e▸Wf hi);exact ⟨ws,ty',(Ai R.w g b us hne).trans e1,zy.ext hext (zM.refl _) _ _ e2,e3,e4⟩
 ·exact (h.fit.owns.own id e k v ht).move fun g' hv q2 _ q7=>⟨q2,Ai R.w g g' us fun e'=>hs.own id e k v ht (by rw[←e'];exact hv),q7,fun _ h=>h⟩
 ·exact h.fit.base q (by
   have hq:(R.w.setRow g us).heap.size<=q:=hq;rwa [BZ]at hq)
theorem YO.out {al st:Nat} (h:YO ops al st=true):∃ oa os p t x,ops.toList[al]?=some oa/\ops.toList[st]?=some os/\oa.dst=some p/\oa.op = .alloc t/\oa.guard=none/\os.dst=none/\os.op = .store t (.tmp p) x/\os.guard=none/\al<st /\
  inC (qz ops.toList ops.size) st al=true/\∀ (i:Nat) o,ops.toList[i]?=some o->i≠al->o.dst≠some p:=by
 unfold YO at h;split at h
 ·rename_i p t ty1 pos1 af1 t' p' x ty2 pos2 af2 h1 h2;simp only[Wt,Oj,W8]at h;obtain ⟨⟨⟨⟨rfl,rfl⟩,h3⟩,h4⟩,h5⟩:=h;refine ⟨_,_,p,t,x,by rw[At];exact h1,by rw[At];exact h2,rfl,rfl,rfl,rfl,rfl,rfl,h3,h4,fun i o ho hne hd=>?_⟩;have:=WC.1 h5 (o,i) (AS.2 ho);simp[hd,hne]at this
 ·cases h
theorem Qz {l:Array Bool} (h:o.guard=none) (f:Nat->Option Bool):Region.wanted o f=true:=by
 unfold Region.wanted;rw[h]
theorem yf {p:Nat} {Ly:Lay} (ho:o.op = .store t (.tmp p) x) (hl:lay P t=some Ly) (hs:QW E R L p a g vs ty) (hx:Rep R L c (a.eval x)) (h1:c.partB=true) (h2:(c.cells.all C.cellB)=true) (h3:c.cells.length=Ly.size) (hsz:vs.size=Ly.size) :
  ∃ us:Array Value,(execOp a.eval o).run P R.w = .ok .skip (R.w.setRow g us)/\zy R L c.cells us.toList/\us.size=Ly.size/\∀ v∈us.toList,v.oneCell'=true:=by
 have hxc:=Qi hx h1;have hxl:=zA hxc;simp only[WW]at hxl;have hone:=XE hxc h2;have hst:=AR P g 0 ty (a.eval x).cells.toList 0 vs R.w hs.heap (by simp;omega) hone;simp only[Ag,Ox]at hst;have hpv:a.eval (.tmp p) = .pointer (some ⟨g,0,none⟩):=hs.ptr;have hall:(vs.toList.take 0++(a.eval x).cells.toList++vs.toList.drop ((a.eval x).cells.toList.length))=(a.eval x).cells.toList:=by
  rw[Oy,OB,OM (by simp;omega),Oi]
 rw[hall]at hst;refine ⟨(a.eval x).cells,?_,hxc,by omega,hone⟩;have hszz:=qQ hl R.w;unfold execOp;simp only[ho,hpv,Instr.storeAt,Instr.sureAddr,storeVar,Wn,WB,Wi,hszz];rw[if_neg (by omega)];simp only[Wn,hst,Wi,WB]
theorem zk8 {al st p:Nat} {ct:List C} (hN:∀ o∈ops.toList,Xt E.N o.dst) (hok:YA ops=true) (hlo:YO ops al st=true) (hc:x8 P G bx ops al st ops.toList 0 ops.toList.length D)
  (hp:(ops[al]?).bind (·.dst)=some p) (hct:∀ o t q x,ops.toList[st]?=some o->o.op = .store t q x->ct=(zr G (D.T st) x).cells)
  (hEnd:∀ (a:Act) (R:Env) (L:Loc),qH G E ⟨(p,.ptr bx.length 0) :: D.T ops.toList.length,bx++[ct],D.X ops.toList.length,lg⟩ a R L->Q .normal a R.w):∀ (fuel:Nat) (listed:Array Bool) (a:Act) (R:Env) (L:Loc),listed.size=ops.size->listed.toList.count false<=fuel ->
  jk ops.toList (fun i=>listed.getD i false)->(∀ i,ops.size<=i->listed.getD i false=false)->QX G E bx lg ops.toList 0 ops.toList.length D (fun i=>listed.getD i false) a R L ->
  (listed.getD al false=true->∃ g vs ty,QW E R L p a g vs ty/\(∀ kd k b z t,lay P t=some ⟨kd,k,b,z⟩->(∃ o,ops.toList[al]?=some o/\o.op = .alloc t)->vs.size=k)/\(listed.getD st false=true->zy R L ct vs.toList))->wpAnyIn (Fl r) n P .any ops Q fuel listed a R.w:=by
 obtain ⟨oa,os,p',t,x,la1,ls1,la2,la3,la4,ls2,ls3,ls4,hlt,hcl0,honly⟩:=YO.out hlo;have hpp:p'=p:=by
  have:ops[al]?=some oa:=by rw[←At];exact la1
  rw[this]at hp;have hp:oa.dst=some p:=hp;rw[la2]at hp;exact Option.some.inj hp
 subst hpp;have hl:ops.toList.length<=ops.toList.length:=Wb _;have done:∀ (listed:Array Bool) (a:Act) (R:Env) (L:Loc),listed.size=ops.size->(∀ i,i<ops.size->listed.getD i false=true)->QX G E bx lg ops.toList 0 ops.toList.length D (fun i=>listed.getD i false) a R L ->
   (listed.getD al false=true->∃ g vs ty,QW E R L p' a g vs ty/\(∀ kd k b z t,lay P t=some ⟨kd,k,b,z⟩->(∃ o,ops.toList[al]?=some o/\o.op = .alloc t)->vs.size=k)/\(listed.getD st false=true->zy R L ct vs.toList))->Q .normal a R.w:=fun listed a R L hsz h1 h hside=>by
  have hsl:st<ops.size:=by simpa using (Wd.1 ls1).1
  obtain ⟨g,vs,ty,q1,_,q2⟩:=hside (h1 al (by omega));refine hEnd a R ⟨L.β++[g],L.T⟩ (qH.adopt (tm:=D.T ops.toList.length) (nx:=D.X ops.toList.length) (lg:=lg) (cs:=ct) (p:=p') (g:=g) (vs:=vs) (ty:=ty) ⟨{ h.good with },h.size,h.df,fun t=>?_⟩ q1 (q2 (h1 st hsl)));have ht:=h.tm t;rw[qL (D':=fun j=>decide (0<=j)) ops.toList.length fun j hj _=>by rw[h1 j (by simpa using hj)];simp]at ht;show Rep R L (jU (D.T ops.toList.length) t) _;rw[YK hl hc.skel t _ (Wc _) (Wb _)];exact ht
 intro fuel
 induction fuel with
 | zero =>
  intro listed a R L hsz hcnt hcl h2 h hside;have hall:∀ i,i<ops.size->listed.getD i false=true:=fun i hi=>by
   cases hq:listed.getD i false with
   | true=>rfl
   | false =>
    have:listed.toList[i]?=some false:=by
     rw[Wq,WY (by omega)]at hq;simp[show i<listed.size by omega];simpa using hq
    have hpos:0<listed.toList.count false:=A0.2 (Wf this);omega
  have hre:Region.ready .any ops listed = []:=by
   cases hq:Region.ready .any ops listed with
   | nil=>rfl
   | cons i rest =>
    obtain ⟨o,ho,h3,_⟩:=jJ (ops:=ops) (listed:=listed) (i:=i) (by rw[hq];simp);have hio:i<ops.size:=by simpa using (Wd.1 ho).1
    have:=(qE hsz hio h3).1;rw[hall i hio]at this;cases this
  exact ⟨hre,done listed a R L hsz hall h hside⟩
 | succ fuel ih =>
  intro listed a R L hsz hcnt hcl h2 h hside;refine ⟨fun hr=>done listed a R L hsz (Xr hok hsz hr) h hside,fun i hi=>?_⟩;obtain ⟨o,ho,hl0,hpre⟩:=jJ hi;have hio:i<ops.size:=by simpa using (Wd.1 ho).1
  obtain ⟨hlf,hil'⟩:=qE hsz hio hl0;have hil:i<listed.size:=by omega
  have hcnt':(listed.setIfInBounds i true).toList.count false<=fuel:=by
   have:=j9 hil';rw[Am];omega
  have hset:∀ j,(listed.setIfInBounds i true).getD j false=(listed.getD j false||j==i):=fun j=>Bm (qU hil) j;have next:∀ (a':Act) (R':Env) (L':Loc),QX G E bx lg ops.toList 0 ops.toList.length D (fun x=>listed.getD x false||x==i) a' R' L' ->
    ((listed.getD al false||al==i)=true->∃ g vs ty,QW E R' L' p' a' g vs ty/\(∀ kd k b z t,lay P t=some ⟨kd,k,b,z⟩->(∃ o,ops.toList[al]?=some o/\o.op = .alloc t)->vs.size=k)/\((listed.getD st false||st==i)=true->zy R' L' ct vs.toList)) ->
    wpAnyIn (Fl r) n P .any ops Q fuel (listed.setIfInBounds i true) a' R'.w:=fun a' R' L' hi' hs' =>
   ih _ _ R' L' (by simpa using hsz) hcnt' (JA hil hcl ho hpre) (fun j hj=>by rw[hset,h2 j hj];simp;omega) (by rw[qU hil];exact hi') (by rw[hset,hset];exact hs')
  obtain ⟨c1,c2,c3⟩:=hc.step i o (Wc _) (by simpa using hio) ho;have hmi':i<ops.toList.length:=by simpa using hio
  have hev:=h.ev hl hc.skel hok hcl (Wc _) hmi' ho hlf hpre;have hop:∀ x∈o.op.operands,Rep R L (zr G (D.T i) x) (a.eval x):=fun x hx=>by
   cases x with
   | tmp t =>
    refine hev t ?_;unfold jr Oper.looksAt;exact Ov _ (Ov _ (Bd.2 ⟨.tmp t,by simpa using hx,rfl⟩))
   | const v=>exact jz R L v
   | global g =>
    simp only[zr];cases hg:G g with
    | none=>unfold Rep;trivial
    | some cs=>exact Jd.2 ⟨g,0,rfl,(h.good.fit.glob g cs hg).1⟩
   | func f=>exact J6.2 ⟨#[],#[],rfl,zl.2 rfl,zl.2 rfl⟩
  have hoa:ops[i]?=some o:=by simpa using ho
  unfold wpOpIn;rw[hoa];simp only;rcases c3 with ⟨hia,hca,hxa,t1,kd,k,b,z,hot,hly,hzk,hz1⟩ | ⟨hna,his,hca,hxs,t1,q,x1,Ly,hot,hly,h1,h2',h3⟩ | ⟨hna,hns,c3,c4,c5⟩
  ·-- the variable is laid
   subst hia;rw[la1]at ho;cases ho;rw[la3]at hot;cases hot;have hw:Region.wanted oa (yielded ops a.tmps)=true:=Qz (l:=listed) la4 _;simp only[hw,if_true];obtain ⟨ti,d,hti,htd,_,_,_,hz⟩:=qj hly;cases hiz:ti.zero with
   | none=>simp[hiz]at hz
   | some zv =>
    simp only[hiz,WI,Option.some.injEq]at hz;subst hz;have hzz:(zeroValue t).run P R.w = .ok zv R.w:=by simp[zeroValue,typeInfo,hti,hiz]
    refine jG (jo.value (w':=R.w.alloc (.cells zv.cells t (0,0))) (v:=.pointer (some ⟨R.w.heap.size,0,none⟩)) (by
     unfold execOp;simp[la3,Instr.alloc,hzz,newVar,newRow]) ?_)
    have hbel:Below R.w.heap.size R.w (R.w.alloc (.cells zv.cells t (0,0))):=(W3 _ _).alloc (Wb _) _;have hmt:∀ b o,b<R.w.heap.size->(((b<R.w.heap.size/\R.M b o)∨b=R.w.heap.size)↔R.M b o):=fun b o hlt=>⟨fun h'=>by rcases h' with h' | h';exact h'.2;omega,fun h'=>.inl ⟨hlt,h'⟩⟩;have stp:qw (D.X i) (D.X (i+1)) R L ⟨R.w.alloc (.cells zv.cells t (0,0)),fun b o=>(b<R.w.heap.size/\R.M b o)∨b=R.w.heap.size,R.F⟩ L:=by
     rw[hxa];exact ⟨hbel,rfl,rfl,hmt,fun _ _=>rfl,fun id e k v h h'=>by omega,fun id id' e k v e' k' v' b h h'=>by omega⟩
    have hst0:listed.getD st false=false:=by
     cases hq:listed.getD st false with
     | false=>rfl
     | true =>
      have:=jF hcl _ st i hcl0 hq;rw[this]at hlf;cases hlf
    refine next _ _ L (h.put hl hc.skel hok hcl (Wc _) hmi' la1 hlf hpre (hN _ (Wf la1)) stp (by rw[hca];unfold Rep;trivial)) fun _=>⟨R.w.heap.size,zv.cells,t,⟨?_,OF _ _,fun o=>.inr rfl,h.good.size,fun hF=>?_,fun hb=>?_,fun id e k v ht hv=>?_,fun v hv=>WC.1 hz1 v hv⟩,fun kd' k' b' z' t' hl' ⟨o',ho',hop'⟩=>?_,fun hst=>?_⟩
    ·have hd:=hN _ (Wf la1);rw[la2]at hd ⊢;have hlt2:p'<a.tmps.size:=by rw[h.size];exact hd
     simp[Act.put,Wq,hlt2]
    ·have:=h.good.flt _ hF;omega
    ·have:=h.good.fit.β_lt _ hb;omega
    ·have:=((h.good.fit.owns.own id e k v ht).block hv).2.1;omega
    ·rw[la1]at ho';cases ho';rw[la3]at hop';cases hop';rw[hly]at hl';cases hl';simpa using hzk
    ·rw[hst0]at hst;have:st=i:=by simpa using hst
     omega
  ·-- the variable is filled
   subst his;rw[ls1]at ho;cases ho;have hot0:=hot;rw[ls3]at hot;cases hot;have hw:Region.wanted os (yielded ops a.tmps)=true:=Qz (l:=listed) ls4 _;simp only[hw,if_true];have hal:listed.getD al false=true:=by
    have hS':jk ops.toList (fun x=>listed.getD x false||x==i):=fun k q hq hk e he hb=>by
     simp only[Oc,Oj]at hk ⊢;rcases hk with hk | hk
     ·exact .inl (hcl k q hq hk e he hb)
     ·subst hk;rw[ls1]at hq;cases hq;exact .inl (hpre e he hb)
    have:=jF hS' _ i al hcl0 (by simp);simp only[Oc,Oj]at this;exact this.resolve_right (by omega)
   obtain ⟨g,vs,ty,q1,q2,_⟩:=hside hal;have hsize:vs.size=Ly.size:=q2 _ _ _ _ t hly ⟨oa,la1,la3⟩;obtain ⟨us,u1,u2,u3,u4⟩:=yf ls3 hly q1 (hop x (by rw[ls3];simp[Op.operands])) h1 h2' h3 hsize;obtain ⟨hn,hgood⟩:=h.good.fill (us:=us) q1;have hput:∀ v,a.put os.dst v=a:=fun v=>by rw[ls2];rfl
   refine jG ?_;unfold jo;rw[u1];show wpAnyIn _ _ _ _ _ _ _ _ (a.put os.dst undef) _;rw[hput];have hs':QW E ⟨R.w.setRow g us,R.M,R.F⟩ L p' a g us ty:=⟨q1.ptr,setRow_heap R.w g vs us ty (0,0) q1.heap,q1.turn,q1.new,q1.fgn,q1.box,q1.own,u4⟩;refine next a ⟨R.w.setRow g us,R.M,R.F⟩ L ⟨hgood,fun id hid hfr=>h.free id hid fun j hmj hj hsj=>hfr j hmj hj (by simp[hsj]),h.size,?_,fun t=>?_⟩ fun _=>⟨g,us,ty,hs',fun kd' k' b' z' t' hl' ⟨o',ho',hop'⟩=>?_,fun _=>?_⟩
   ·obtain ⟨l,e,hl',hd⟩:=h.df;refine ⟨l,e,hl',fun d hdm=>?_⟩;obtain ⟨g1,g2,g3⟩:=hd d hdm;refine ⟨?_,g2,g3⟩;have hne:d≠g:=fun e=>by rw[e,q1.heap]at g1;cases g1
    exact (Ai R.w g d us hne).trans g1
   ·have hold:=Rep.ext hn.ext (zM.refl _) _ _ (h.tm t);have e1:val (D.T 0) ops.toList D.c (fun j=>decide (0<=j)&&(listed.getD j false||j==i)) ops.toList.length t=val (D.T 0) ops.toList D.c (fun j=>decide (0<=j)&&listed.getD j false) ops.toList.length t:=qL _ fun j hj hdj=>by
     have hji:j≠i:=fun e=>by
      subst e;rw[ls1]at hdj;have hdj:os.dst=some t:=hdj;rw[ls2]at hdj;cases hdj
     have hj2:(j==i)=false:=by simpa using hji
     show (decide (0<=j)&&(listed.getD j false||j==i))=_;rw[hj2,Az]
    rw[e1];exact hold
   ·rw[u3,←hsize];exact q2 kd' k' b' z' t' hl' ⟨o',ho',hop'⟩
   ·rw[hct os t (.tmp p') x ls1 ls3];exact zy.ext hn.ext (zM.refl _) _ _ u2
  ·-- any other one
   have hdp:o.dst≠some p':=honly i o ho hna;have hstep:∀ (v:Value) (R':Env) (L':Loc),qw (D.X i) (D.X (i+1)) R L R' L'->Rep R' L' (D.c i) v->wpAnyIn (Fl r) n P .any ops Q fuel (listed.setIfInBounds i true) (a.put o.dst v) R'.w:=fun v R' L' stp hv =>
    next _ R' L' (h.put hl hc.skel hok hcl (Wc _) hmi' ho hlf hpre (hN o (Wf ho)) stp hv) fun hal=>by
     have hal':listed.getD al false=true:=by
      simp only[Oc,Oj]at hal;exact hal.resolve_right fun e=>hna e.symm
     obtain ⟨g,vs,ty,q1,q2,q3⟩:=hside hal';refine ⟨g,vs,ty,q1.step stp hdp,q2,fun hst=>?_⟩;have hst':listed.getD st false=true:=by
      simp only[Oc,Oj]at hst;exact hst.resolve_right fun e=>hns e.symm
     exact zy.ext stp.ext (stp.le (h.freeAt hl hc.skel (Wc _) hmi' hlf)) _ _ (q3 hst')
   have hguard:Region.wanted o (yielded ops a.tmps)=D.wn i:=jS (tm:=D.T i) rfl c3 fun j want d hg hd=>by
    have ht:d∈jr ops o:=by
     unfold jr Oper.looksAt;rw[hg];simp[hd]
    refine ⟨?_,hev d ht⟩;rw[h.size];cases hj:ops[j]? with
    | none=>rw[hj]at hd;cases hd
    | some o' =>
     rw[hj]at hd;have hd':o'.dst=some d:=hd;have:=hN o' (by rw[OE];exact OZ hj);rw[hd']at this;exact this
   simp only[hguard];cases hw:D.wn i with
   | true =>
    simp only[if_true];refine jG ?_;refine ((c4 hw).2 _ R L a.eval h.good.fit (h.freeAt hl hc.skel (Wc _) hmi' hlf) fun x=>?_).mono fun v w' ⟨R',L',hw',stp,hv⟩=>?_
    ·unfold XQ;split
     ·rename_i hx;exact hop x hx
     ·unfold Rep;trivial
    ·rw[←hw'];exact hstep v R' L' stp hv
   | false =>
    simp only[WN,W2];refine ⟨fun f _=>trivial,?_⟩;obtain ⟨d1,d2⟩:=c5 hw;have stp:qw (D.X i) (D.X (i+1)) R L R L:=by rw[d2];exact qw.refl _ _ _
    exact hstep undef R L stp (by rw[d1];exact zq.2 rfl)
theorem zcd {id al st:Nat} (hm:P.follows .mixedOrders=true) (hN:∀ o∈ops.toList,Xt E.N o.dst) (hok:YA ops=true) (hlo:YO ops al st=true)
  (h:jN P G ops al st ops.toList 0 none σ K) (hI:Inv G E σ a w) (hQ:∀ a' w' σ',K σ'->Inv G E σ' a' w'->Q .normal a' w'):(Code.region id ops true).wpIn (Fl r) n P Q a w:=by
 obtain ⟨R,L,rfl,hI⟩:=hI;refine wpIn_region_any hm ?_
 let R':Env:=⟨{ R.w with drawn:=R.w.drawn+1 },R.M,R.F⟩
 have hext:Ext R R':=⟨fun b o v h1 h2=>⟨h1,h2⟩,fun _ _ _ _ h1 h2=>⟨h1,h2⟩⟩;have hnear:Ml E.w0 E.ex R R':=⟨rfl,rfl,rfl,Wb _,rfl,hext,fun b _=>.inl ⟨rfl,fun _=>Iff.rfl⟩⟩;have hg:=hI.good;have hinv:qH G E σ a R' L:=by
  refine ⟨hg.move hnear.nigh ⟨hg.fit.glob.ext hext,⟨hg.fit.boxes.len,hg.fit.boxes.nodup,fun i b cs hi hc=>?_⟩,⟨fun id e k v ht=>?_,hg.fit.owns.apart⟩,hg.fit.base⟩ ⟨[],by rw[Oi],fun b hb=>by cases hb⟩ (fun id e k v b ht hv=>.inl ⟨id,e,k,v,ht,hv⟩) hg.free,hI.size,hI.df.near hnear,fun t=>Rep.ext hext (zM.refl _) _ _ (hI.tm t)⟩
  ·obtain ⟨vs,ty,e1,e2,e3,e4⟩:=hg.fit.boxes.box i b cs hi hc;exact ⟨vs,ty,e1,zy.ext hext (zM.refl _) _ _ e2,e3,e4⟩
  ·exact (hg.fit.owns.own id e k v ht).move fun g _ q2 _ q7=>⟨q2,rfl,q7,fun _ h=>h⟩
 have hlist:∀ i,(Array.replicate ops.size false).getD i false=false:=fun i=>by
  rw[Wq,A6];split<;>rfl
 obtain ⟨D,p,ct,d1,d2,d3,d4,d5,d6⟩:=Gu _ 0 none σ rfl (Wc _) h;have hct:∀ o t q x,ops.toList[st]?=some o->o.op = .store t q x->ct=(zr G (D.T st) x).cells:=by
  rcases d6 with g | ⟨_,_,g⟩
  ·cases g
  ·exact g
 refine zk8 (lg:=σ.lg) (D:=D) hN hok hlo d3 d4 hct (fun a1 R1 L1 h1=>hQ a1 R1.w _ d5 ⟨R1,L1,rfl,h1⟩) ops.size _ a R' L (by simp) ?_ (fun i o hi h=>?_) (fun i _=>hlist i) ?_ (fun h=>by rw[hlist]at h;cases h)
 ·rw[Be,A1];exact Wb _
 ·have h:(Array.replicate ops.size false).getD i false=true:=h;rw[hlist]at h;cases h
 ·have hx:=V2 (Wb _) d3.skel 0 ops.toList.length (Wb _) (Wc _) (Wb _);refine ⟨{ hinv.good with free:=fun id hid=>hinv.good.free id (by rw[d2]at hx;exact WM hx hid) },fun id hid _=>hinv.good.free id (by rw[d2]at hid;exact hid),hinv.size,hinv.df,fun t=>?_⟩;rw[qL (D':=fun _=>false) _ fun j _ _=>by simp[hlist j],Jb 0 _ (Wc _) fun _ _ _ _=>rfl];show Rep R' L (jU (D.T 0) t) _;rw[d1];exact hinv.tm t
end
end
section
open Go.RowKit
def Ga (a s b t:Nat):List Bool:=true :: true :: true :: true :: true :: (List.replicate a false++true :: (List.replicate s false++true :: (List.replicate b false++true :: List.replicate t false)))
def Qc:List Bool->Option (Nat×Nat×Nat×Nat)
 | true :: true :: true :: true :: true :: r=>some ((YH r).1,(YH (YH r).2.tail).1,(YH (YH (YH r).2.tail).2.tail).1,(YH (YH (YH r).2.tail).2.tail).2.tail.length)
 | _=>none
theorem HQ (a s b t:Nat):Qc (Ga a s b t)=some (a,s,b,t):=by
 unfold Qc Ga;simp only[ZX,List.tail_cons,Ad]
def sel {α:Type} (u v:α):Bool->α
 | false=>u
 | true=>v
def NW (ops:Array Oper) (a s b t:Nat):Bool:=YO ops a s&&YO ops b t&&!(a==b)&&!(s==t)&&!(a==t)&&!(b==s)
def Za (P:Program) (G:zp) (ops:Array Oper) (a s b t:Nat):List Oper->Nat->Option (List C)->Option (List C)->St->(St->Prop)->Prop
 | [],_,cs,ds,σ,K=>match cs,ds,(ops[a]?).bind (·.dst),(ops[b]?).bind (·.dst) with
  | some cs,some ds,some p,some q=>K ⟨(q,.ptr (σ.bx++[cs]).length 0) :: (p,.ptr σ.bx.length 0) :: σ.tm,σ.bx++[cs]++[ds],σ.nx,σ.lg⟩
  | _,_,_,_=>False
 | o :: rest,i,cs,ds,σ,K =>
  if i=a∨i=b then match o.op with
   | .alloc ty=>M3 (lay P ty) (Za P G ops a s b t rest (i+1) cs ds ⟨jH σ.tm o.dst .any,σ.bx,σ.nx,σ.lg⟩ K)
   | _=>False
  else if i=s then match o.op with
   | .store ty _ x=>HT (lay P ty) (zr G σ.tm x) fun c=>Za P G ops a s b t rest (i+1) (some c.cells) ds ⟨jH σ.tm o.dst .any,σ.bx,σ.nx,σ.lg⟩ K
   | _=>False
  else if i=t then match o.op with
   | .store ty _ x=>HT (lay P ty) (zr G σ.tm x) fun c=>Za P G ops a s b t rest (i+1) cs (some c.cells) ⟨jH σ.tm o.dst .any,σ.bx,σ.nx,σ.lg⟩ K
   | _=>False
  else jj ops σ.tm o.guard (Jl P G σ.bx (zr G σ.tm) o.op σ.nx fun c nx'=>Za P G ops a s b t rest (i+1) cs ds ⟨jH σ.tm o.dst c,σ.bx,nx',σ.lg⟩ K)
   (Za P G ops a s b t rest (i+1) cs ds ⟨jH σ.tm o.dst (.sc undef),σ.bx,σ.nx,σ.lg⟩ K)
section
variable {P:Program} {G:zp} {E:Ctx} {σ:St} {a:Act} {N p:Nat} {bx:List (List C)} {ops:Array Oper}
def zoN (P:Program) (G:zp) (bx:List (List C)) (ops:Array Oper) (al st:Bool->Nat) (i:Nat) (o:Oper) (T:List (Nat×C)) (X X':Nat) (c:C) (wn:Bool):Prop:=
 ((∃ x,i=al x)/\c = .any/\X'=X/\∃ t kd k b z,o.op = .alloc t/\lay P t=some ⟨kd,k,b,some z⟩/\z.length=k/\(z.all Value.oneCell')=true) ∨
 ((∀ x,i≠al x)/\(∃ x,i=st x)/\c = .any/\X'=X/\∃ t q x L,o.op = .store t q x/\lay P t=some L/\(zr G T x).partB=true/\((zr G T x).cells.all C.cellB)=true/\(zr G T x).cells.length=L.size) ∨
 ((∀ x,i≠al x/\i≠st x)/\JZ ops T o.guard wn/\(wn=true->zH P G bx (XQ o (zr G T)) X o c X')/\(wn=false->c = .sc undef/\X'=X))
structure U1 (P:Program) (G:zp) (bx:List (List C)) (ops:Array Oper) (al st:Bool->Nat) (l:List Oper) (m m':Nat) (D:YC):Prop where
 step:∀ (i:Nat) o,m<=i->i<m'->l[i]?=some o->D.T (i+1)=jH (D.T i) o.dst (D.c i)/\D.X i<=D.X (i+1)/\zoN P G bx ops al st i o (D.T i) (D.X i) (D.X (i+1)) (D.c i) (D.wn i)
theorem U1.skel {al st:Bool->Nat} {m:Nat} (h:U1 P G bx ops al st l m m' D):MQ l m m' D:=⟨fun i o a b c=>⟨(h.step i o a b c).1,(h.step i o a b c).2.1⟩⟩
theorem Hl {ops:Array Oper} {a s b t:Nat} {all:List Oper} {K:St->Prop}:∀ (l:List Oper) (m:Nat) (cs ds:Option (List C)) (σ:St),all.drop m=l->m<=all.length->Za P G ops a s b t l m cs ds σ K ->
  ∃ (D:YC) (p q:Nat) (ct dt:List C),D.T m=σ.tm/\D.X m=σ.nx/\U1 P G σ.bx ops (sel a b) (sel s t) all m all.length D/\(ops[a]?).bind (·.dst)=some p/\(ops[b]?).bind (·.dst)=some q/\K ⟨(q,.ptr (σ.bx++[ct]).length 0) :: (p,.ptr σ.bx.length 0) :: D.T all.length,σ.bx++[ct]++[dt],D.X all.length,σ.lg⟩ /\
   (cs=some ct∨(m<=s/\s<all.length/\∀ o t q x,all[s]?=some o->o.op = .store t q x->ct=(zr G (D.T s) x).cells))/\(ds=some dt∨(m<=t/\t<all.length/\∀ o ty q x,all[t]?=some o->o.op = .store ty q x->dt=(zr G (D.T t) x).cells))
 | [],m,cs,ds,σ,hl,hm,h=>by
  have:m=all.length:=by
   have:=WA List.length hl;simp at this;omega
  subst this;unfold Za at h;split at h
  ·rename_i cs ds p q hp hq;exact ⟨⟨fun _=>σ.tm,fun _=>σ.nx,fun _=>.any,fun _=>true⟩,p,q,cs,ds,rfl,rfl,⟨fun i o h1 h2=>by omega⟩,hp,hq,h,.inl rfl,.inl rfl⟩
  ·exact h.elim
 | o :: rest,m,cs,ds,σ,hl,hm,h=>by
  have hlt:m<all.length:=by
   rcases Wr m all.length with g | g
   ·exact g
   ·rw[AE g]at hl;cases hl
  have hom:all[m]?=some o:=by
   have:=W4 (xs:=all) (i:=m) (j:=0);rw[hl]at this;simpa using this.symm
  have hrest:all.drop (m+1)=rest:=by
   have:=WA List.tail hl;simpa using this
  have key:∀ (c:C) (nx':Nat) (w:Bool) (cs' ds':Option (List C)),σ.nx<=nx'->zoN P G σ.bx ops (sel a b) (sel s t) m o σ.tm σ.nx nx' c w ->
    (cs'=cs∨(m=s/\∀ ty q x,o.op = .store ty q x->cs'=some (zr G σ.tm x).cells))->(ds'=ds∨(m=t/\∀ ty q x,o.op = .store ty q x->ds'=some (zr G σ.tm x).cells)) ->
    Za P G ops a s b t rest (m+1) cs' ds' ⟨jH σ.tm o.dst c,σ.bx,nx',σ.lg⟩ K ->
    ∃ (D:YC) (p q:Nat) (ct dt:List C),D.T m=σ.tm/\D.X m=σ.nx/\U1 P G σ.bx ops (sel a b) (sel s t) all m all.length D/\(ops[a]?).bind (·.dst)=some p/\(ops[b]?).bind (·.dst)=some q/\K ⟨(q,.ptr (σ.bx++[ct]).length 0) :: (p,.ptr σ.bx.length 0) :: D.T all.length,σ.bx++[ct]++[dt],D.X all.length,σ.lg⟩ /\
     (cs=some ct∨(m<=s/\s<all.length/\∀ o t q x,all[s]?=some o->o.op = .store t q x->ct=(zr G (D.T s) x).cells))/\(ds=some dt∨(m<=t/\t<all.length/\∀ o ty q x,all[t]?=some o->o.op = .store ty q x->dt=(zr G (D.T t) x).cells)):=fun c nx' w cs' ds' hle hcase hcs hds hr=>by
   obtain ⟨D,p,q,ct,dt,d1,d2,d3,d4,d4',d5,d6,d7⟩:=Hl rest (m+1) cs' ds' _ hrest (by omega) hr;have carry:∀ {u:Nat} {es es':Option (List C)} {et:List C},(es'=some et∨(m+1<=u/\u<all.length/\∀ o t q x,all[u]?=some o->o.op = .store t q x->et=(zr G (D.T u) x).cells))->(es'=es∨(m=u/\∀ ty q x,o.op = .store ty q x->es'=some (zr G σ.tm x).cells)) ->
     (es=some et∨(m<=u/\u<all.length/\∀ o t q x,all[u]?=some o->o.op = .store t q x->et=(zr G (if u<=m then σ.tm else D.T u) x).cells)):=fun {u es es' et} h6 he=>by
    rcases h6 with g | ⟨g1,g2,g3⟩
    ·rcases he with e | ⟨e1,e2⟩
     ·exact .inl (by rw[←e];exact g)
     ·refine .inr ⟨by omega,by omega,fun o' t q x ho hop=>?_⟩;subst e1;rw[hom]at ho;cases ho;rw[if_pos (Wb _)];have:=e2 t q x hop;rw[g]at this;exact Option.some.inj this
    ·refine .inr ⟨by omega,g2,fun o' t q x ho hop=>?_⟩;rw[if_neg (show ¬u<=m by omega)];exact g3 o' t q x ho hop
   refine ⟨⟨fun i=>if i<=m then σ.tm else D.T i,fun i=>if i<=m then σ.nx else D.X i,fun i=>if i=m then c else D.c i,fun i=>if i=m then w else D.wn i⟩,p,q,ct,dt,by simp,by simp,⟨fun i o' hi hi' hio=>?_⟩,d4,d4',?_,carry d6 hcs,carry d7 hds⟩
   ·by_cases him:i=m
    ·subst him;rw[hom]at hio;cases hio;simp only[Wb,if_true,show ¬i+1<=i by omega,W2];exact ⟨d1,by rw[d2];exact hle,by rw[d2];exact hcase⟩
    ·simp only[if_neg him,if_neg (show ¬i<=m by omega),if_neg (show ¬i+1<=m by omega)];exact d3.step i o' (by omega) hi' hio
   ·simp only[if_neg (show ¬all.length<=m by omega)];exact d5
  unfold Za at h;split at h
  ·rename_i hma;split at h
   ·rename_i ty ho;unfold M3 at h;split at h
    ·rename_i kd k b' z hl';exact key .any σ.nx true cs ds (Wb _) (.inl ⟨by rcases hma with q | q;exact ⟨false,q⟩;exact ⟨true,q⟩,rfl,rfl,ty,kd,k,b',z,ho,hl',h.1,h.2.1⟩) (.inl rfl) (.inl rfl) h.2.2
    ·exact h.elim
   ·exact h.elim
  ·rename_i hma;have hna:∀ x,m≠sel a b x:=fun x q=>hma (by cases x;exact .inl q;exact .inr q);split at h
   ·rename_i hms;split at h
    ·rename_i ty q x ho;unfold HT at h;split at h
     ·rename_i L hL;obtain ⟨h1,h2,h3,h4⟩:=h;exact key .any σ.nx true (some (zr G σ.tm x).cells) ds (Wb _) (.inr (.inl ⟨hna,⟨false,hms⟩,rfl,rfl,ty,q,x,L,ho,hL,h1,h2,h3⟩)) (.inr ⟨hms,fun t' q' x' ho'=>by rw[ho]at ho';cases ho';rfl⟩) (.inl rfl) h4
     ·exact h.elim
    ·exact h.elim
   ·rename_i hms;split at h
    ·rename_i hmt;split at h
     ·rename_i ty q x ho;unfold HT at h;split at h
      ·rename_i L hL;obtain ⟨h1,h2,h3,h4⟩:=h;exact key .any σ.nx true cs (some (zr G σ.tm x).cells) (Wb _) (.inr (.inl ⟨hna,⟨true,hmt⟩,rfl,rfl,ty,q,x,L,ho,hL,h1,h2,h3⟩)) (.inl rfl) (.inr ⟨hmt,fun t' q' x' ho'=>by rw[ho]at ho';cases ho';rfl⟩) h4
      ·exact h.elim
     ·exact h.elim
    ·rename_i hmt;have hns:∀ x,m≠sel a b x/\m≠sel s t x:=fun x=>⟨hna x,fun q=>by cases x;exact hms q;exact hmt q⟩;obtain ⟨w,hg,h1,h2⟩:=jj.out h;cases w with
     | true =>
      obtain ⟨c,nx',hp,hK⟩:=Yr (h1 rfl);exact key c nx' true cs ds hp.1 (.inr (.inr ⟨hns,hg,fun _=>hp,(fun h=>by cases h)⟩)) (.inl rfl) (.inl rfl) hK
     | false=>exact key (.sc undef) σ.nx false cs ds (Wb _) (.inr (.inr ⟨hns,hg,(fun h=>by cases h),fun _=>⟨rfl,rfl⟩⟩)) (.inl rfl) (.inl rfl) (h2 rfl)
theorem QW.other {p g':Nat} {a:Act} {us:Array Value} (h:QW E R L p a g vs ty) (hg:g≠g'):QW E ⟨R.w.setRow g' us,R.M,R.F⟩ L p a g vs ty:=
 ⟨h.ptr,(Ai R.w g' g us hg).trans h.heap,h.turn,h.new,h.fgn,h.box,h.own,h.one⟩
def zjJ (P:Program) (ops:Array Oper) (E:Ctx) (al st:Nat) (p:Tmp) (ct:List C) (lst:Nat->Bool) (a:Act) (R:Env) (L:Loc) (g:Nat):Prop:=
 lst al=true->∃ vs ty,QW E R L p a g vs ty/\(∀ kd k b z t,lay P t=some ⟨kd,k,b,z⟩->(∃ o,ops.toList[al]?=some o/\o.op = .alloc t)->vs.size=k)/\(lst st=true->zy R L ct vs.toList)
theorem zfG {al st:Bool->Nat} {pp:Bool->Tmp} {ct:Bool->List C} (hN:∀ o∈ops.toList,Xt E.N o.dst) (hok:YA ops=true) (hlo:∀ x,YO ops (al x) (st x)=true) (hal2:∀ x y,al x=al y->x=y) (hst2:∀ x y,st x=st y->x=y) (hx2:∀ x y,al x≠st y)
  (hc:U1 P G bx ops al st ops.toList 0 ops.toList.length D) (hp:∀ x,(ops[al x]?).bind (·.dst)=some (pp x)) (hct:∀ x o t q y,ops.toList[st x]?=some o->o.op = .store t q y->ct x=(zr G (D.T (st x)) y).cells)
  (hEnd:∀ (a:Act) (R:Env) (L:Loc),qH G E ⟨(pp true,.ptr (bx++[ct false]).length 0) :: (pp false,.ptr bx.length 0) :: D.T ops.toList.length,bx++[ct false]++[ct true],D.X ops.toList.length,lg⟩ a R L->Q .normal a R.w):∀ (fuel:Nat) (listed:Array Bool) (a:Act) (R:Env) (L:Loc),listed.size=ops.size->listed.toList.count false<=fuel ->
  jk ops.toList (fun i=>listed.getD i false)->(∀ i,ops.size<=i->listed.getD i false=false)->QX G E bx lg ops.toList 0 ops.toList.length D (fun i=>listed.getD i false) a R L ->
  (∃ g:Bool->Nat,g false≠g true/\∀ x,zjJ P ops E (al x) (st x) (pp x) (ct x) (fun i=>listed.getD i false) a R L (g x))->wpAnyIn (Fl r) n P .any ops Q fuel listed a R.w:=by
 have hout:∀ x,∃ oa os t y,ops.toList[al x]?=some oa/\ops.toList[st x]?=some os/\oa.dst=some (pp x)/\oa.op = .alloc t/\oa.guard=none/\os.dst=none/\os.op = .store t (.tmp (pp x)) y/\os.guard=none/\al x<st x/\inC (qz ops.toList ops.size) (st x) (al x)=true/\∀ (i:Nat) o,ops.toList[i]?=some o->i≠al x->o.dst≠some (pp x):=fun x=>by
  obtain ⟨oa,os,p',t,y,la1,ls1,la2,la3,la4,ls2,ls3,ls4,hlt,hcl0,honly⟩:=YO.out (hlo x);have hpp:p'=pp x:=by
   have:ops[al x]?=some oa:=by rw[←At];exact la1
   have h:=hp x;rw[this]at h;have h:oa.dst=some (pp x):=h;rw[la2]at h;exact Option.some.inj h
  subst hpp;exact ⟨oa,os,t,y,la1,ls1,la2,la3,la4,ls2,ls3,ls4,hlt,hcl0,honly⟩
 have hl:ops.toList.length<=ops.toList.length:=Wb _;have done:∀ (listed:Array Bool) (a:Act) (R:Env) (L:Loc),listed.size=ops.size->(∀ i,i<ops.size->listed.getD i false=true)->QX G E bx lg ops.toList 0 ops.toList.length D (fun i=>listed.getD i false) a R L ->
   (∃ g:Bool->Nat,g false≠g true/\∀ x,zjJ P ops E (al x) (st x) (pp x) (ct x) (fun i=>listed.getD i false) a R L (g x))->Q .normal a R.w:=fun listed a R L hsz h1 h ⟨g,hg,hside⟩=>by
  have hsl:∀ x,st x<ops.size:=fun x=>by
   obtain ⟨_,_,_,_,_,ls1,_⟩:=hout x;simpa using (Wd.1 ls1).1
  have hlt:∀ x,al x<st x:=fun x=>by obtain ⟨_,_,_,_,_,_,_,_,_,_,_,_,q,_⟩:=hout x;exact q
  obtain ⟨vs,ty,q1,_,q2⟩:=hside false (h1 _ (by have:=hlt false;have:=hsl false;omega));obtain ⟨us,uy,u1,_,u2⟩:=hside true (h1 _ (by have:=hlt true;have:=hsl true;omega));have i1:=qH.adopt (tm:=D.T ops.toList.length) (nx:=D.X ops.toList.length) (lg:=lg) (cs:=ct false) (p:=pp false) (g:=g false) (vs:=vs) (ty:=ty) ⟨{ h.good with },h.size,h.df,fun t=>?_⟩ q1 (q2 (h1 _ (hsl false)))
  ·have s2:QW E R ⟨L.β++[g false],L.T⟩ (pp true) a (g true) us uy:=⟨u1.ptr,u1.heap,u1.turn,u1.new,u1.fgn,fun hb=>by
    have hb:g true∈L.β++[g false]:=hb;rcases WG.1 hb with hb | hb
    ·exact u1.box hb
    ·exact hg (Ob.1 hb).symm,u1.own,u1.one⟩
   have hle:zM L ⟨L.β++[g false],L.T⟩:=⟨fun i b e=>by
    show (L.β++[g false])[i]?=some b;rw[Wu (Wd.1 e).1];exact e,fun _ _ e=>e⟩
   exact hEnd a R _ (qH.adopt (bx:=bx++[ct false]) (lg:=lg) (cs:=ct true) (p:=pp true) (g:=g true) (vs:=us) (ty:=uy) i1 s2 (zy.ext (Ext.refl R) hle _ _ (u2 (h1 _ (hsl true)))))
  ·have ht:=h.tm t;rw[qL (D':=fun j=>decide (0<=j)) ops.toList.length fun j hj _=>by rw[h1 j (by simpa using hj)];simp]at ht;show Rep R L (jU (D.T ops.toList.length) t) _;rw[YK hl hc.skel t _ (Wc _) (Wb _)];exact ht
 intro fuel
 induction fuel with
 | zero =>
  intro listed a R L hsz hcnt hcl h2 h hside;have hall:∀ i,i<ops.size->listed.getD i false=true:=fun i hi=>by
   cases hq:listed.getD i false with
   | true=>rfl
   | false =>
    have:listed.toList[i]?=some false:=by
     rw[Wq,WY (by omega)]at hq;simp[show i<listed.size by omega];simpa using hq
    have hpos:0<listed.toList.count false:=A0.2 (Wf this);omega
  have hre:Region.ready .any ops listed = []:=by
   cases hq:Region.ready .any ops listed with
   | nil=>rfl
   | cons i rest =>
    obtain ⟨o,ho,h3,_⟩:=jJ (ops:=ops) (listed:=listed) (i:=i) (by rw[hq];simp);have hio:i<ops.size:=by simpa using (Wd.1 ho).1
    have:=(qE hsz hio h3).1;rw[hall i hio]at this;cases this
  exact ⟨hre,done listed a R L hsz hall h hside⟩
 | succ fuel ih =>
  intro listed a R L hsz hcnt hcl h2 h hside;refine ⟨fun hr=>done listed a R L hsz (Xr hok hsz hr) h hside,fun i hi=>?_⟩;obtain ⟨o,ho,hl0,hpre⟩:=jJ hi;have hio:i<ops.size:=by simpa using (Wd.1 ho).1
  obtain ⟨hlf,hil'⟩:=qE hsz hio hl0;have hil:i<listed.size:=by omega
  have hcnt':(listed.setIfInBounds i true).toList.count false<=fuel:=by
   have:=j9 hil';rw[Am];omega
  have hset:∀ j,(listed.setIfInBounds i true).getD j false=(listed.getD j false||j==i):=fun j=>Bm (qU hil) j;have next:∀ (a':Act) (R':Env) (L':Loc),QX G E bx lg ops.toList 0 ops.toList.length D (fun x=>listed.getD x false||x==i) a' R' L' ->
    (∃ g:Bool->Nat,g false≠g true/\∀ x,zjJ P ops E (al x) (st x) (pp x) (ct x) (fun x=>listed.getD x false||x==i) a' R' L' (g x)) ->
    wpAnyIn (Fl r) n P .any ops Q fuel (listed.setIfInBounds i true) a' R'.w:=fun a' R' L' hi' hs' =>
   ih _ _ R' L' (by simpa using hsz) hcnt' (JA hil hcl ho hpre) (fun j hj=>by rw[hset,h2 j hj];simp;omega) (by rw[qU hil];exact hi') (by rw[qU hil];exact hs')
  obtain ⟨c1,c2,c3⟩:=hc.step i o (Wc _) (by simpa using hio) ho;have hmi':i<ops.toList.length:=by simpa using hio
  have hev:=h.ev hl hc.skel hok hcl (Wc _) hmi' ho hlf hpre;have hop:∀ x∈o.op.operands,Rep R L (zr G (D.T i) x) (a.eval x):=fun x hx=>by
   cases x with
   | tmp t =>
    refine hev t ?_;unfold jr Oper.looksAt;exact Ov _ (Ov _ (Bd.2 ⟨.tmp t,by simpa using hx,rfl⟩))
   | const v=>exact jz R L v
   | global g =>
    simp only[zr];cases hg:G g with
    | none=>unfold Rep;trivial
    | some cs=>exact Jd.2 ⟨g,0,rfl,(h.good.fit.glob g cs hg).1⟩
   | func f=>exact J6.2 ⟨#[],#[],rfl,zl.2 rfl,zl.2 rfl⟩
  have hoa:ops[i]?=some o:=by simpa using ho
  unfold wpOpIn;rw[hoa];simp only;obtain ⟨g,hg,hside⟩:=hside
  -- the variables that this step doesn't lay, nor fill
  have hdp:∀ x,i≠al x->o.dst≠some (pp x):=fun x hx=>by
   obtain ⟨_,_,_,_,_,_,_,_,_,_,_,_,_,_,honly⟩:=hout x;exact honly i o ho hx
  have keep:∀ x (v:Value) (R':Env) (L':Loc),i≠al x->i≠st x->qw (D.X i) (D.X (i+1)) R L R' L'->znt L (D.X i) (D.X (i+1))->zjJ P ops E (al x) (st x) (pp x) (ct x) (fun x=>listed.getD x false||x==i) (a.put o.dst v) R' L' (g x):=fun x v R' L' h1 h2 stp hfr hal=>by
   have hal':listed.getD (al x) false=true:=by
    simp only[Oc,Oj]at hal;exact hal.resolve_right fun e=>h1 e.symm
   obtain ⟨vs,ty,q1,q2,q3⟩:=hside x hal';refine ⟨vs,ty,q1.step stp (hdp x h1),q2,fun hst=>?_⟩;have hst':listed.getD (st x) false=true:=by
    simp only[Oc,Oj]at hst;exact hst.resolve_right fun e=>h2 e.symm
   exact zy.ext stp.ext (stp.le hfr) _ _ (q3 hst')
  rcases c3 with ⟨⟨x0,hia⟩,hca,hxa,t1,kd,k,b,z,hot,hly,hzk,hz1⟩ | ⟨hna,⟨x0,his⟩,hca,hxs,t1,q,x1,Ly,hot,hly,h1,h2',h3⟩ | ⟨hns,c3,c4,c5⟩
  ·-- a variable is laid
   obtain ⟨oa,os,t,y,la1,ls1,la2,la3,la4,ls2,ls3,ls4,hlt,hcl0,honly⟩:=hout x0;rw[←hia]at la1 hcl0;rw[la1]at ho;cases ho;rw[la3]at hot;cases hot;have hw:Region.wanted o (yielded ops a.tmps)=true:=Qz (l:=listed) la4 _;simp only[hw,if_true];obtain ⟨ti,d,hti,htd,_,_,_,hz⟩:=qj hly;cases hiz:ti.zero with
   | none=>simp[hiz]at hz
   | some zv =>
    simp only[hiz,WI,Option.some.injEq]at hz;subst hz;have hzz:(zeroValue t1).run P R.w = .ok zv R.w:=by simp[zeroValue,typeInfo,hti,hiz]
    refine jG (jo.value (w':=R.w.alloc (.cells zv.cells t1 (0,0))) (v:=.pointer (some ⟨R.w.heap.size,0,none⟩)) (by
     unfold execOp;simp[la3,Instr.alloc,hzz,newVar,newRow]) ?_)
    have hbel:Below R.w.heap.size R.w (R.w.alloc (.cells zv.cells t1 (0,0))):=(W3 _ _).alloc (Wb _) _;have hmt:∀ b o,b<R.w.heap.size->(((b<R.w.heap.size/\R.M b o)∨b=R.w.heap.size)↔R.M b o):=fun b o hlt=>⟨fun h'=>by rcases h' with h' | h';exact h'.2;omega,fun h'=>.inl ⟨hlt,h'⟩⟩;have stp:qw (D.X i) (D.X (i+1)) R L ⟨R.w.alloc (.cells zv.cells t1 (0,0)),fun b o=>(b<R.w.heap.size/\R.M b o)∨b=R.w.heap.size,R.F⟩ L:=by
     rw[hxa];exact ⟨hbel,rfl,rfl,hmt,fun _ _=>rfl,fun id e k v h h'=>by omega,fun id id' e k v e' k' v' b h h'=>by omega⟩
    have hst0:listed.getD (st x0) false=false:=by
     cases hq:listed.getD (st x0) false with
     | false=>rfl
     | true =>
      have:=jF hcl _ (st x0) i hcl0 hq;rw[this]at hlf;cases hlf
    have hglt:∀ x,listed.getD (al x) false=true->g x<R.w.heap.size:=fun x hx=>by
     obtain ⟨vs,ty,q1,_⟩:=hside x hx;exact qc q1.heap
    refine next _ _ L (h.put hl hc.skel hok hcl (Wc _) hmi' la1 hlf hpre (hN _ (Wf la1)) stp (by rw[hca];unfold Rep;trivial)) ⟨fun x=>if x=x0 then R.w.heap.size else if listed.getD (al x) false=true then g x else R.w.heap.size+1,?_,fun x=>?_⟩
    ·cases x0
     ·show R.w.heap.size≠(if listed.getD (al true) false=true then g true else R.w.heap.size+1);split
      ·rename_i q;have:=hglt true q;omega
      ·omega
     ·show (if listed.getD (al false) false=true then g false else R.w.heap.size+1)≠R.w.heap.size;split
      ·rename_i q;have:=hglt false q;omega
      ·omega
    ·dsimp only;by_cases hxx:x=x0
     ·subst hxx;rw[if_pos rfl];refine fun _=>⟨zv.cells,t1,⟨?_,OF _ _,fun o=>.inr rfl,h.good.size,fun hF=>?_,fun hb=>?_,fun id e k v ht hv=>?_,fun v hv=>WC.1 hz1 v hv⟩,fun kd' k' b' z' t' hl' ⟨o',ho',hop'⟩=>?_,fun hst=>?_⟩
      ·have hd:=hN _ (Wf la1);rw[la2]at hd ⊢;have hlt2:pp x<a.tmps.size:=by rw[h.size];exact hd
       simp[Act.put,Wq,hlt2]
      ·have:=h.good.flt _ hF;omega
      ·have:=h.good.fit.β_lt _ hb;omega
      ·have:=((h.good.fit.owns.own id e k v ht).block hv).2.1;omega
      ·rw[←hia,la1]at ho';cases ho';rw[la3]at hop';cases hop';rw[hly]at hl';cases hl';simpa using hzk
      ·have hst:(listed.getD (st x) false||st x==i)=true:=hst;rw[hst0]at hst;have:st x=i:=by simpa using hst
       omega
     ·rw[if_neg hxx];intro hal;have h1:i≠al x:=fun e=>hxx (hal2 _ _ (e.symm.trans hia));have h2x:i≠st x:=fun e=>hx2 x0 x (hia.symm.trans e);have hal':listed.getD (al x) false=true:=by
       simp only[Oc,Oj]at hal;exact hal.resolve_right fun e=>h1 e.symm
      rw[if_pos hal'];exact keep x _ _ _ h1 h2x stp (h.freeAt hl hc.skel (Wc _) hmi' hlf) hal
  ·-- a variable is filled
   obtain ⟨oa,os,t,y,la1,ls1,la2,la3,la4,ls2,ls3,ls4,hlt,hcl0,honly⟩:=hout x0;rw[←his]at ls1 hcl0 hlt;rw[ls1]at ho;cases ho;rw[ls3]at hot;cases hot;have hw:Region.wanted o (yielded ops a.tmps)=true:=Qz (l:=listed) ls4 _;simp only[hw,if_true];have hal:listed.getD (al x0) false=true:=by
    have hS':jk ops.toList (fun x=>listed.getD x false||x==i):=fun k q hq hk e he hb=>by
     simp only[Oc,Oj]at hk ⊢;rcases hk with hk | hk
     ·exact .inl (hcl k q hq hk e he hb)
     ·subst hk;rw[ls1]at hq;cases hq;exact .inl (hpre e he hb)
    have:=jF hS' _ i (al x0) hcl0 (by simp);simp only[Oc,Oj]at this;exact this.resolve_right (by omega)
   obtain ⟨vs,ty,q1,q2,_⟩:=hside x0 hal;have hsize:vs.size=Ly.size:=q2 _ _ _ _ t1 hly ⟨oa,la1,la3⟩;obtain ⟨us,u1,u2,u3,u4⟩:=yf ls3 hly q1 (hop _ (by rw[ls3];simp[Op.operands])) h1 h2' h3 hsize;obtain ⟨hn,hgood⟩:=h.good.fill (us:=us) q1;have hput:∀ v,a.put o.dst v=a:=fun v=>by rw[ls2];rfl
   refine jG ?_;unfold jo;rw[u1];show wpAnyIn _ _ _ _ _ _ _ _ (a.put o.dst undef) _;rw[hput];have hs':QW E ⟨R.w.setRow (g x0) us,R.M,R.F⟩ L (pp x0) a (g x0) us ty:=⟨q1.ptr,setRow_heap R.w (g x0) vs us ty (0,0) q1.heap,q1.turn,q1.new,q1.fgn,q1.box,q1.own,u4⟩;refine next a ⟨R.w.setRow (g x0) us,R.M,R.F⟩ L ⟨hgood,fun id hid hfr=>h.free id hid fun j hmj hj hsj=>hfr j hmj hj (by simp[hsj]),h.size,?_,fun t=>?_⟩ ⟨g,hg,fun x=>?_⟩
   ·obtain ⟨l,e,hl',hd⟩:=h.df;refine ⟨l,e,hl',fun d hdm=>?_⟩;obtain ⟨g1,g2,g3⟩:=hd d hdm;refine ⟨?_,g2,g3⟩;have hne:d≠g x0:=fun e=>by rw[e,q1.heap]at g1;cases g1
    exact (Ai R.w (g x0) d us hne).trans g1
   ·have hold:=Rep.ext hn.ext (zM.refl _) _ _ (h.tm t);have e1:val (D.T 0) ops.toList D.c (fun j=>decide (0<=j)&&(listed.getD j false||j==i)) ops.toList.length t=val (D.T 0) ops.toList D.c (fun j=>decide (0<=j)&&listed.getD j false) ops.toList.length t:=qL _ fun j hj hdj=>by
     have hji:j≠i:=fun e=>by
      subst e;rw[ls1]at hdj;have hdj:o.dst=some t:=hdj;rw[ls2]at hdj;cases hdj
     have hj2:(j==i)=false:=by simpa using hji
     show (decide (0<=j)&&(listed.getD j false||j==i))=_;rw[hj2,Az]
    rw[e1];exact hold
   ·by_cases hxx:x=x0
    ·subst hxx;refine fun _=>⟨us,ty,hs',fun kd' k' b' z' t' hl' ⟨o',ho',hop'⟩=>?_,fun _=>?_⟩
     ·rw[u3,←hsize];exact q2 kd' k' b' z' t' hl' ⟨o',ho',hop'⟩
     ·rw[hct x _ t1 (.tmp (pp x)) x1 (by rw[←his];exact ls1) ls3,←his];exact zy.ext hn.ext (zM.refl _) _ _ u2
    ·intro hal';have hal':listed.getD (al x) false=true:=by
      simp only[Oc,Oj]at hal';exact hal'.resolve_right fun e=>hx2 x x0 (e.trans his)
     obtain ⟨ws,wy,w1,w2,w3⟩:=hside x hal';have hgx:g x≠g x0:=fun e=>by
      cases x<;>cases x0
      ·exact hxx rfl
      ·exact hg e
      ·exact hg e.symm
      ·exact hxx rfl
     refine ⟨ws,wy,w1.other hgx,w2,fun hst=>?_⟩;have hst':listed.getD (st x) false=true:=by
      simp only[Oc,Oj]at hst;exact hst.resolve_right fun e=>hxx (hst2 _ _ (e.trans his))
     exact zy.ext hn.ext (zM.refl _) _ _ (w3 hst')
  ·-- any other one
   have hstep:∀ (v:Value) (R':Env) (L':Loc),qw (D.X i) (D.X (i+1)) R L R' L'->Rep R' L' (D.c i) v->wpAnyIn (Fl r) n P .any ops Q fuel (listed.setIfInBounds i true) (a.put o.dst v) R'.w:=fun v R' L' stp hv =>
    next _ R' L' (h.put hl hc.skel hok hcl (Wc _) hmi' ho hlf hpre (hN o (Wf ho)) stp hv) ⟨g,hg,fun x=>keep x v R' L' (hns x).1 (hns x).2 stp (h.freeAt hl hc.skel (Wc _) hmi' hlf)⟩
   have hguard:Region.wanted o (yielded ops a.tmps)=D.wn i:=jS (tm:=D.T i) rfl c3 fun j want d hg hd=>by
    have ht:d∈jr ops o:=by
     unfold jr Oper.looksAt;rw[hg];simp[hd]
    refine ⟨?_,hev d ht⟩;rw[h.size];cases hj:ops[j]? with
    | none=>rw[hj]at hd;cases hd
    | some o' =>
     rw[hj]at hd;have hd':o'.dst=some d:=hd;have:=hN o' (by rw[OE];exact OZ hj);rw[hd']at this;exact this
   simp only[hguard];cases hw:D.wn i with
   | true =>
    simp only[if_true];refine jG ?_;refine ((c4 hw).2 _ R L a.eval h.good.fit (h.freeAt hl hc.skel (Wc _) hmi' hlf) fun x=>?_).mono fun v w' ⟨R',L',hw',stp,hv⟩=>?_
    ·unfold XQ;split
     ·rename_i hx;exact hop x hx
     ·unfold Rep;trivial
    ·rw[←hw'];exact hstep v R' L' stp hv
   | false =>
    simp only[WN,W2];refine ⟨fun f _=>trivial,?_⟩;obtain ⟨d1,d2⟩:=c5 hw;have stp:qw (D.X i) (D.X (i+1)) R L R L:=by rw[d2];exact qw.refl _ _ _
    exact hstep undef R L stp (by rw[d1];exact zq.2 rfl)
theorem vu {id al st bl tt:Nat} (hm:P.follows .mixedOrders=true) (hN:∀ o∈ops.toList,Xt E.N o.dst) (hok:YA ops=true) (hlo:NW ops al st bl tt=true)
  (h:Za P G ops al st bl tt ops.toList 0 none none σ K) (hI:Inv G E σ a w) (hQ:∀ a' w' σ',K σ'->Inv G E σ' a' w'->Q .normal a' w'):(Code.region id ops true).wpIn (Fl r) n P Q a w:=by
 unfold NW at hlo;simp only[Wt,Ar,Ot]at hlo;obtain ⟨⟨⟨⟨⟨l1,l2⟩,n1⟩,n2⟩,n3⟩,n4⟩:=hlo;obtain ⟨_,_,_,_,_,_,_,_,_,_,_,_,_,o1,_⟩:=YO.out l1;obtain ⟨_,_,_,_,_,_,_,_,_,_,_,_,_,o2,_⟩:=YO.out l2;obtain ⟨R,L,rfl,hI⟩:=hI;refine wpIn_region_any hm ?_
 let R':Env:=⟨{ R.w with drawn:=R.w.drawn+1 },R.M,R.F⟩
 have hext:Ext R R':=⟨fun b o v h1 h2=>⟨h1,h2⟩,fun _ _ _ _ h1 h2=>⟨h1,h2⟩⟩;have hnear:Ml E.w0 E.ex R R':=⟨rfl,rfl,rfl,Wb _,rfl,hext,fun b _=>.inl ⟨rfl,fun _=>Iff.rfl⟩⟩;have hg:=hI.good;have hinv:qH G E σ a R' L:=by
  refine ⟨hg.move hnear.nigh ⟨hg.fit.glob.ext hext,⟨hg.fit.boxes.len,hg.fit.boxes.nodup,fun i b cs hi hc=>?_⟩,⟨fun id e k v ht=>?_,hg.fit.owns.apart⟩,hg.fit.base⟩ ⟨[],by rw[Oi],fun b hb=>by cases hb⟩ (fun id e k v b ht hv=>.inl ⟨id,e,k,v,ht,hv⟩) hg.free,hI.size,hI.df.near hnear,fun t=>Rep.ext hext (zM.refl _) _ _ (hI.tm t)⟩
  ·obtain ⟨vs,ty,e1,e2,e3,e4⟩:=hg.fit.boxes.box i b cs hi hc;exact ⟨vs,ty,e1,zy.ext hext (zM.refl _) _ _ e2,e3,e4⟩
  ·exact (hg.fit.owns.own id e k v ht).move fun g _ q2 _ q7=>⟨q2,rfl,q7,fun _ h=>h⟩
 have hlist:∀ i,(Array.replicate ops.size false).getD i false=false:=fun i=>by
  rw[Wq,A6];split<;>rfl
 obtain ⟨D,p,q,ct,dt,d1,d2,d3,d4,d4',d5,d6,d7⟩:=Hl _ 0 none none σ rfl (Wc _) h;have hct:∀ o t q x,ops.toList[st]?=some o->o.op = .store t q x->ct=(zr G (D.T st) x).cells:=by
  rcases d6 with g | ⟨_,_,g⟩
  ·cases g
  ·exact g
 have hdt:∀ o t q x,ops.toList[tt]?=some o->o.op = .store t q x->dt=(zr G (D.T tt) x).cells:=by
  rcases d7 with g | ⟨_,_,g⟩
  ·cases g
  ·exact g
 refine zfG (lg:=σ.lg) (D:=D) (al:=sel al bl) (st:=sel st tt) (pp:=sel p q) (ct:=sel ct dt) hN hok (fun x=>by cases x;exact l1;exact l2) (fun x y e=>by cases x<;>cases y<;>first | rfl | exact absurd e n1 | exact absurd e.symm n1) (fun x y e=>by cases x<;>cases y<;>first | rfl | exact absurd e n2 | exact absurd e.symm n2) (fun x y e=>by
  cases x<;>cases y
  ·have e:al=st:=e;omega
  ·exact n3 e
  ·exact n4 e
  ·have e:bl=tt:=e;omega) d3 (fun x=>by cases x;exact d4;exact d4') (fun x=>by cases x;exact hct;exact hdt) (fun a1 R1 L1 h1=>hQ a1 R1.w _ d5 ⟨R1,L1,rfl,h1⟩) ops.size _ a R' L (by simp) ?_ (fun i o hi h=>?_) (fun i _=>hlist i) ?_ ⟨fun x=>if x then 1 else 0,by simp,fun x h=>by
   have h:(Array.replicate ops.size false).getD _ false=true:=h;rw[hlist]at h;cases h⟩
 ·rw[Be,A1];exact Wb _
 ·have h:(Array.replicate ops.size false).getD i false=true:=h;rw[hlist]at h;cases h
 ·have hx:=V2 (Wb _) d3.skel 0 ops.toList.length (Wb _) (Wc _) (Wb _);refine ⟨{ hinv.good with free:=fun id hid=>hinv.good.free id (by rw[d2]at hx;exact WM hx hid) },fun id hid _=>hinv.good.free id (by rw[d2]at hid;exact hid),hinv.size,hinv.df,fun t=>?_⟩;rw[qL (D':=fun _=>false) _ fun j _ _=>by simp[hlist j],Jb 0 _ (Wc _) fun _ _ _ _=>rfl];show Rep R' L (jU (D.T 0) t) _;rw[d1];exact hinv.tm t
end
end
section
open Go.RowKit
section
variable {P:Program} {G:zp} {E:Ctx} {σ:St} {a:Act} {N p:Nat} {bx:List (List C)} {ops:Array Oper}
def zns (T0:List (Nat×C)) (l:List Oper) (c:Nat->C) (D:Nat->Bool):Nat->List (Nat×C)
 | 0=>T0
 | m+1=>if D m=true then jH (zns T0 l c D m) ((l[m]?).bind (·.dst)) (c m) else zns T0 l c D m
theorem Xq (T0:List (Nat×C)) (l:List Oper) (c:Nat->C) (D:Nat->Bool) (t:Nat):∀ n,jU (zns T0 l c D n) t=val T0 l c D n t
 | 0=>rfl
 | m+1=>by
  unfold zns val;cases hD:D m with
  | false=>simp only[WN,W2,AG];exact Xq T0 l c D t m
  | true =>
   simp only[if_true,true_and];cases hd:(l[m]?).bind (·.dst) with
   | none=>simp only[jH,reduceCtorEq,W2];exact Xq T0 l c D t m
   | some d =>
    simp only[jH,jU,Option.some.injEq];by_cases h:t=d
    ·rw[if_pos h,if_pos h.symm]
    ·rw[if_neg h,if_neg fun e=>h e.symm];exact Xq T0 l c D t m
theorem QX.toV {m:Nat} (h:QX G E bx lg l m m' D S a R L):qH G E ⟨zns (D.T m) l D.c (fun j=>decide (m<=j)&&S j) l.length,bx,D.X m',lg⟩ a R L:=
 ⟨{ h.good with },h.size,h.df,fun t=>by rw[Xq];exact h.tm t⟩
theorem zpA {m:Nat} (hl:m'<=ops.toList.length) (hc:MQ ops.toList m m' D) (hok:YA ops=true) (hS:jk ops.toList S) {i:Nat} {o:Oper} (hmi:m<=i) (hmi':i<=m') (ho:ops.toList[i]?=some o) (hi:S i=false)
  (hpre:∀ e∈o.after.toList,Region.binds .any e=true->S e.on=true):∀ t∈jr ops o,val (D.T m) ops.toList D.c (fun j=>decide (m<=j)&&S j) ops.toList.length t=jU (D.T i) t:=fun t ht=>by
 have hlt:i<ops.toList.length:=(Wd.1 ho).1;have e1:val (D.T m) ops.toList D.c (fun j=>decide (m<=j)&&S j) ops.toList.length t=val (D.T m) ops.toList D.c (fun j=>decide (m<=j)&&S j) i t:=by
  refine Jb i _ (by omega) fun j hj hj' hd=>?_;simp only[AK];by_cases hne:j=i
  ·rw[hne];exact .inr hi
  ·rw[zcW hok hS ho hi hpre hd ht hne];exact .inr (Wp (by omega))
 have e2:val (D.T m) ops.toList D.c (fun j=>decide (m<=j)&&S j) i t=val (D.T m) ops.toList D.c (fun j=>decide (m<=j)) i t:=qL i fun j hj hd=>by
  rw[zcW hok hS ho hi hpre hd ht (by omega),Wo hj,Bg]
 rw[e1,e2,←YK hl hc t i hmi hmi']
def zbn (s:Nat) (br:List Bool):List Bool:=true :: true :: false :: true :: (List.replicate s false++true :: br)
def He:List Bool->Option (Nat×List Bool)
 | true :: true :: false :: true :: r=>some ((YH r).1,(YH r).2.tail)
 | _=>none
theorem HD (s:Nat) (br:List Bool):He (zbn s br)=some (s,br):=by
 show some ((YH (List.replicate s false++true :: br)).1,(YH (List.replicate s false++true :: br)).2.tail)=_;rw[ZX];rfl
end
end
section
open Go.RowKit
inductive MFl where
 | pure
 | bar
 | flt (free:List Nat)
abbrev kS:=Nat×(List (List C)->Prop)
def YJ (fr:List Nat) (b:List (List C)):List kS->Prop
 | []=>True
 | (k,f) :: r=>(match fr.contains k with | true=>f b | false=>True)/\YJ fr b r
theorem YJ.out {fr:List Nat} {b:List (List C)}:∀ {H:List kS},YJ fr b H->∀ k f,(k,f)∈H->k∈fr->f b
 | [],_,k,f,h,_=>by cases h
 | (k0,f0) :: r,h,k,f,hm,hk=>by
  obtain ⟨h1,h2⟩:=h;rcases WK.1 hm with e | hm
  ·cases e;rw[show fr.contains k0=true by simpa using hk]at h1;exact h1
  ·exact YJ.out h2 k f hm hk
def zlj (P:Program) (G:zp) (f:FuncId) (args:List C) (σ:St) (K:C->List (List C)->Nat->Prop):Prop:=
 ∃ (ι:List Nat) (post:C->List (List C)->Nat->Prop),ι.Nodup/\(∀ i∈ι,i<σ.bx.length) /\
  Y8 P G f (C.reL (XV ι) (XV []) args) (ι.map fun i=>C.reL (XV ι) (XV []) (σ.bx.getD i [])) 0 post/\∀ r bx' n,post r bx' n->K (r.re (upB ι σ.bx.length) (upO σ.nx)) (ZF ι [] bx' n σ).bx (σ.nx+n)
def zqk (P:Program) (G:zp) (args:List Operand) (tys:List TypeId) (σ:St) (K:C->List (List C)->Nat->Prop):Prop:=match args,tys with
 | [d,x],[t,_]=>Zl P t (zr G σ.tm d) (zr G σ.tm x) σ fun c σ'=>K c σ'.bx σ'.nx
 | _,_=>False
def zs5 (P:Program) (G:zp) (args:List Operand) (tys:List TypeId) (σ:St) (K:C->List (List C)->Nat->Prop):Prop:=match args,tys with
 | [s,x],[t,t']=>t'=t/\JP P t (zr G σ.tm s) (zr G σ.tm x) σ fun c σ'=>K c σ'.bx σ'.nx
 | _,_=>False
def za7 (P:Program) (G:zp) (f:C) (args:List C) (σ:St) (K:C->List (List C)->Nat->Prop):Prop:=match f with
 | .clo (.func f) first cap=>zlj P G f (first++args++cap) σ K
 | _=>False
def zoZ (P:Program) (G:zp) (op:Op) (σ:St) (K:C->List (List C)->Nat->Prop):Prop:=match op with
 | .store t p x=>Zy P t (zr G σ.tm p) (zr G σ.tm x) σ fun c σ'=>K c σ'.bx σ'.nx
 | .call c=>match c.callee with
  | .value f=>za7 P G (zr G σ.tm f) (c.args.toList.map (zr G σ.tm)) σ K
  | .builtin .copy=>zqk P G c.args.toList c.argTypes.toList σ K
  | .builtin .append=>zs5 P G c.args.toList c.argTypes.toList σ K
  | _=>False
 | _=>False
def zhU (P:Program) (G:zp) (Y:Hd) (ops:Array Oper):List Oper->List MFl->Nat->List kS->St->(St->Prop)->Prop
 | [],_,_,_,σ,K=>K σ
 | o :: rest,fs,q,H,σ,K=>match fs.headD .pure with
  | .pure=>jj ops σ.tm o.guard (Jl P G σ.bx (zr G σ.tm) o.op σ.nx fun c nx'=>zhU P G Y ops rest fs.tail (q+1) ((q,fun b=>Jl P G b (zr G σ.tm) o.op σ.nx fun c' n'=>c'=c/\n'=nx') :: H) ⟨jH σ.tm o.dst c,σ.bx,nx',σ.lg⟩ K)
    (zhU P G Y ops rest fs.tail (q+1) H ⟨jH σ.tm o.dst (.sc undef),σ.bx,σ.nx,σ.lg⟩ K)
  | .bar=>jj ops σ.tm o.guard (Mn P G Y o.op σ fun c σ'=>zhU P G Y ops rest fs.tail (q+1) [] (σ'.put o.dst c) K) (zhU P G Y ops rest fs.tail (q+1) [] (σ.put o.dst (.sc undef)) K)
  | .flt fr=>o.guard=none/\zoZ P G o.op σ fun c bx' nx'=>YJ fr bx' H/\zhU P G Y ops rest fs.tail (q+1) H ⟨jH σ.tm o.dst c,bx',nx',σ.lg⟩ K
def zqO (cl:List Nat) (n i:Nat):MFl->Bool
 | .pure=>true
 | .bar=>(List.range n).all fun j=>j==i||if j<i then inC cl i j else inC cl j i
 | .flt fr=>(List.range n).all fun j=>j==i||if j<i then inC cl i j||fr.contains j else inC cl j i
def vZ (ops:Array Oper) (fs:List MFl):Bool:=
 let cl:=qz ops.toList ops.size
 (List.range ops.size).all fun i=>zqO cl ops.size i (fs.getD i .pure)
section
variable {P:Program} {G:zp} {E:Ctx} {σ:St} {o:Oper} {a:Act} {N p:Nat} {bx:List (List C)} {ops:Array Oper}
theorem Nx {fs:List MFl} (h:vZ ops fs=true) {i:Nat} (hi:i<ops.size):zqO (qz ops.toList ops.size) ops.size i (fs.getD i .pure)=true:=by
 unfold vZ at h;exact WC.1 h i (by simpa using hi)
theorem Ug {fs:List MFl} (h:vZ ops fs=true) {i j:Nat} (hi:i<ops.size) (hf:fs.getD i .pure≠.pure) (hj:j<ops.size) (hij:i<j):inC (qz ops.toList ops.size) j i=true:=by
 have h1:=Nx h hi;have hne:(j==i)=false:=by simp;omega
 cases hq:fs.getD i .pure with
 | pure=>exact absurd hq hf
 | bar =>
  rw[hq]at h1;have h2:=WC.1 h1 j (by simpa using hj);rw[if_neg (by omega),hne]at h2;simpa using h2
 | flt fr =>
  rw[hq]at h1;have h2:=WC.1 h1 j (by simpa using hj);rw[if_neg (by omega),hne]at h2;simpa using h2
theorem zhh {fs:List MFl} (h:vZ ops fs=true) {i j:Nat} (hi:i<ops.size) (hf:fs.getD i .pure = .bar) (hij:j<i):inC (qz ops.toList ops.size) i j=true:=by
 have h1:=Nx h hi;have hne:(j==i)=false:=by simp;omega
 rw[hf]at h1;have h2:=WC.1 h1 j (by simp;omega);rw[if_pos hij,hne]at h2;simpa using h2
theorem zgL {fs:List MFl} {fr:List Nat} (h:vZ ops fs=true) {i j:Nat} (hi:i<ops.size) (hf:fs.getD i .pure = .flt fr) (hij:j<i):inC (qz ops.toList ops.size) i j=true∨j∈fr:=by
 have h1:=Nx h hi;have hne:(j==i)=false:=by simp;omega
 rw[hf]at h1;have h2:=WC.1 h1 j (by simp;omega);rw[if_pos hij,hne]at h2;simpa using h2
mutual
theorem zgQ:∀ c:C,c.re some (ZC [])=c
 | .own id e k rows=>by unfold C.re;simp[ZC]
 | .ptr i off=>by unfold C.re;rfl
 | .bs i off k n c=>by unfold C.re;rfl
 | .mo id t ks vs=>by unfold C.re;simp[ZC]
 | .agg cs=>by unfold C.re;rw[ZK cs]
 | .tup cs=>by unfold C.re;rw[ZK cs]
 | .clo fn first cap=>by unfold C.re;rw[ZK first,ZK cap]
 | .sc v=>by unfold C.re;rfl
 | .str l=>by unfold C.re;rfl
 | .sl k rows=>by unfold C.re;rfl
 | .tight k rows=>by unfold C.re;rfl
 | .row cs=>by unfold C.re;rfl
 | .any=>by unfold C.re;rfl
theorem ZK:∀ cs:List C,C.reL some (ZC []) cs=cs
 | []=>by unfold C.reL;rfl
 | c :: r=>by unfold C.reL;rw[zgQ c,ZK r]
end
theorem xM:∀ tm:List (Nat×C),Gh some (ZC []) tm=tm
 | []=>rfl
 | (t,c) :: r=>by simp only[Gh,zgQ,xM r]
abbrev zqI (G:zp) (E:Ctx) (a:Act) (tm2:List (Nat×C)) (nx lg:Nat) (L:Loc) (K:C->List (List C)->Nat->Prop) (v:Value) (w':World):Prop:=
 ∃ c bx' nx' R' L',R'.w=w'/\qH G E ⟨tm2,bx',nx',lg⟩ a R' L'/\Rep R' L' c v/\K c bx' nx'/\nx<=nx'/\∀ id,id<nx->L.T id=none->L'.T id=none
theorem zi3 {p:C} {K:C->List (List C)->Nat->Prop} (h:Zy P t p c ⟨tm1,bx,nx,lg⟩ fun c σ'=>K c σ'.bx σ'.nx) :
  Zy P t p c ⟨tm2,bx,nx,lg⟩ fun c σ'=>∃ bx',σ'=⟨tm2,bx',nx,lg⟩/\K c bx' nx:=by
 unfold Zy at h ⊢;split at h
 ·split at h
  ·rename_i cs hcs;obtain ⟨h1,h2,h3,h4,hK⟩:=h;have hcs':(St.mk tm2 bx nx lg).bx[_]?=some cs:=hcs;rw[hcs'];exact ⟨h1,h2,h3,h4,_,rfl,hK⟩
  ·exact h.elim
 ·exact h.elim
theorem zlO {d x:C} {K:C->List (List C)->Nat->Prop} (h:Zl P t d x ⟨tm1,bx,nx,lg⟩ fun c σ'=>K c σ'.bx σ'.nx) :
  Zl P t d x ⟨tm2,bx,nx,lg⟩ fun c σ'=>∃ bx',σ'=⟨tm2,bx',nx,lg⟩/\K c bx' nx:=by
 unfold Zl at h ⊢;split at h<;>try exact h.elim
 split at h<;>try exact h.elim
 rename_i hx;split at h<;>try exact h.elim
 rename_i hxs;have hxs':C.xs? _ (St.mk tm2 bx nx lg).bx _=_:=hxs;rw[hxs'];simp only;split at h
 ·split at h<;>try exact h.elim
  rename_i cs hcs;obtain ⟨h1,h2,h3,hK⟩:=h;have hcs':(St.mk tm2 bx nx lg).bx[_]?=some cs:=hcs;rw[hcs'];exact ⟨h1,h2,h3,_,rfl,hK⟩
 ·split at h<;>try exact h.elim
  exact ⟨h.1,_,rfl,h.2⟩
theorem zkl {d x:C} {K:C->List (List C)->Nat->Prop} (h:JP P t d x ⟨tm1,bx,nx,lg⟩ fun c σ'=>K c σ'.bx σ'.nx) :
  JP P t d x ⟨tm2,bx,nx,lg⟩ fun c σ'=>∃ bx',σ'=⟨tm2,bx',nx,lg⟩/\K c bx' nx:=by
 unfold JP at h ⊢;split at h<;>try exact h.elim
 split at h<;>try exact h.elim
 split at h<;>try exact h.elim
 rename_i hxs;have hxs':C.xs? _ (St.mk tm2 bx nx lg).bx _=_:=hxs;rw[hxs'];simp only;obtain ⟨h1,h2,h3,h4,h⟩:=h;refine ⟨h1,h2,h3,h4,?_⟩;split at h
 ·exact ⟨h.1,h.2.1,h.2.2.1,fun c g1 g2=>⟨_,rfl,h.2.2.2 c g1 g2⟩⟩
 ·exact ⟨h.1,h.2.1,h.2.2.1,fun e=>⟨_,rfl,h.2.2.2.1 e⟩,fun e c g1 g2=>⟨_,rfl,h.2.2.2.2 e c g1 g2⟩⟩
 ·split at h<;>try exact h.elim
  rename_i cs hcs;have hcs':(St.mk tm2 bx nx lg).bx[_]?=some cs:=hcs;rw[hcs'];exact ⟨h.1,h.2.1,h.2.2.1,h.2.2.2.1,h.2.2.2.2.1,fun e=>⟨_,rfl,h.2.2.2.2.2.1 e⟩,fun e c g1 g2=>⟨_,rfl,h.2.2.2.2.2.2 e c g1 g2⟩⟩
 ·exact h.elim
theorem zko {K:C->List (List C)->Nat->Prop} (h:zoZ P G o.op ⟨tm1,bx,nx,lg⟩ K) (hop:∀ x∈o.op.operands,zr G tm2 x=zr G tm1 x) (hI:qH G E ⟨tm2,bx,nx,lg⟩ a R L) :
  jo P o a.eval R.w (zqI G E a tm2 nx lg L K):=by
 unfold zoZ at h;split at h
 ·rename_i t p x ho;have h:=zi3 (tm2:=tm2) h;rw[ho]at hop;have e1:zr G tm2 p=zr G tm1 p:=hop p (by simp[Op.operands]);have e2:zr G tm2 x=zr G tm1 x:=hop x (by simp[Op.operands]);simp only at h;rw[←e1,←e2]at h;refine (V4 ho hI h).mono fun v w'=>?_;rintro ⟨c,σ',R',hw,hI',_,hr,bx',rfl,hK⟩;exact ⟨c,bx',nx,R',L,hw,hI',hr,hK,Wb _,fun _ _ h=>h⟩
 ·rename_i c ho;rw[ho]at hop;split at h
  ·rename_i f hc;unfold za7 at h;split at h
   ·rename_i fid first cap hev
    have ef:zr G tm2 f=zr G tm1 f:=hop f (by simp[Op.operands,Call.operands,hc]);have ea:c.args.toList.map (zr G tm2)=c.args.toList.map (zr G tm1):=A8 fun x hx=>hop x (by
     unfold Op.operands Call.operands;simp at hx ⊢;exact .inr hx)
    simp only at hev h;rw[←ea]at h;obtain ⟨ι,post,h1,h2,h3,hK⟩:=h;have hX:kp P G fid (first++c.args.toList.map (zr G tm2)++cap) ⟨tm2,bx,nx,lg⟩ fun c' σ'=>∃ bx' nx',σ'=⟨tm2,bx',nx',lg⟩/\nx<=nx'/\K c' bx' nx':=by
     refine ⟨ι,[],post,h1,An,h2,h3,fun r bx' n hp=>⟨_,nx+n,?_,BF _ _,hK r bx' n hp⟩⟩;unfold ZF;rw[xM]
    refine (VW ho hc (ef.trans hev) hI hX).mono fun v w'=>?_;rintro ⟨c',σ',R',L',hw,hI',hr,⟨bx',nx',rfl,hle,hK⟩,hfr⟩;exact ⟨c',bx',nx',R',L',hw,hI',hr,hK,hle,hfr⟩
   ·exact h.elim
  ·rename_i hc;unfold zqk at h;split at h
   ·rename_i d x t t' h1 h2;obtain ⟨callee,args,argTypes⟩:=c;simp only at hc h1 h2;have e1:zr G tm2 d=zr G tm1 d:=hop d (by unfold Op.operands Call.operands;simp;exact .inr (by rw[←OE,h1];simp));have e2:zr G tm2 x=zr G tm1 x:=hop x (by unfold Op.operands Call.operands;simp;exact .inr (by rw[←OE,h1];simp));have h:=zlO (tm2:=tm2) h;simp only at h;rw[←e1,←e2]at h;rw[qy h1,qy h2,hc]at ho;refine (Hk ho hI h).mono fun v w'=>?_;rintro ⟨c,σ',R',L',hw,hI',hr,⟨bx',rfl,hK⟩,hfr⟩;exact ⟨c,bx',nx,R',L',hw,hI',hr,hK,Wb _,hfr⟩
   ·exact h.elim
  ·rename_i hc;unfold zs5 at h;split at h
   ·rename_i d x t t' h1 h2;obtain ⟨rfl,h⟩:=h;obtain ⟨callee,args,argTypes⟩:=c;simp only at hc h1 h2;have e1:zr G tm2 d=zr G tm1 d:=hop d (by unfold Op.operands Call.operands;simp;exact .inr (by rw[←OE,h1];simp));have e2:zr G tm2 x=zr G tm1 x:=hop x (by unfold Op.operands Call.operands;simp;exact .inr (by rw[←OE,h1];simp));have h:=zkl (tm2:=tm2) h;simp only at h;rw[←e1,←e2]at h;rw[qy h1,qy h2,hc]at ho;refine (Ub ho hI h).mono fun v w'=>?_;rintro ⟨c,σ',R',L',hw,hI',hr,⟨bx',rfl,hK⟩,hfr⟩;exact ⟨c,bx',nx,R',L',hw,hI',hr,hK,Wb _,hfr⟩
   ·exact h.elim
  ·exact h.elim
 ·exact h.elim
end
end
section
open Go.RowKit
section
variable {P:Program} {G:zp} {E:Ctx} {σ:St} {o:Oper} {a:Act} {N p:Nat} {bx:List (List C)} {ops:Array Oper}
theorem Vz {T0:List (Nat×C)} {l:List Oper} {c c':Nat->C} {S:Nat->Bool} {t:Nat}:∀ n,(∀ j,j<n->S j=true->c j=c' j)->val T0 l c S n t=val T0 l c' S n t
 | 0,_=>rfl
 | n+1,h=>by
  simp only[val];rw[Vz n fun j hj=>h j (by omega)];by_cases hs:S n=true/\(l[n]?).bind (·.dst)=some t
  ·rw[if_pos hs,if_pos hs,h n (by omega) hs.1]
  ·rw[if_neg hs,if_neg hs]
def YC.ext (D:YC) (q:Nat) (T:List (Nat×C)) (X:Nat) (c:C) (b:Bool):YC:=
 ⟨fun i=>if i<=q then D.T i else T,fun i=>if i<=q then D.X i else X,fun i=>if i=q then c else D.c i,fun i=>if i=q then b else D.wn i⟩
theorem uO (h:i<=q):(D.ext q T X c b).T i=D.T i:=if_pos h
theorem Vn (h:i<=q):(D.ext q T X c b).X i=D.X i:=if_pos h
theorem ziF (h:i≠q):(D.ext q T X c b).c i=D.c i:=if_neg h
theorem zrS (h:i≠q):(D.ext q T X c b).wn i=D.wn i:=if_neg h
theorem zbb:(D.ext q T X c b).T (q+1)=T:=if_neg (by omega)
theorem V5:(D.ext q T X c b).X (q+1)=X:=if_neg (by omega)
theorem zd6:(D.ext q T X c b).c q=c:=if_pos rfl
theorem zq0:(D.ext q T X c b).wn q=b:=if_pos rfl
theorem MQ.ext {m:Nat} {o:Oper} (h:MQ l m q D) (ho:l[q]?=some o) (hT:T=jH (D.T q) o.dst c) (hX:D.X q<=X):MQ l m (q+1) (D.ext q T X c b):=⟨fun i o' h1 h2 h3=>by
 by_cases hi:i=q
 ·subst hi;rw[ho]at h3;cases h3;rw[zbb,V5,zd6,uO (Wb _),Vn (Wb _)];exact ⟨hT,hX⟩
 ·rw[uO (by omega),uO (by omega),Vn (by omega),Vn (by omega),ziF hi];exact h.step i o' h1 (by omega) h3⟩
theorem QX.more {m:Nat} (h:QX G E bx lg l m q D S a R L) (hm:m<=q) (hX:D.X q<=X) (hS:∀ i,q<=i->S i=false) :
  QX G E bx lg l m (q+1) (D.ext q T X c b) S a R L:=by
 refine ⟨?_,fun id h1 h2=>?_,h.size,h.df,fun t=>?_⟩
 ·rw[V5];exact { h.good with free:=fun id hid=>h.good.free id (WM hX hid) }
 ·rw[Vn hm]at h1;refine h.free id h1 fun i hmi hi hs hx=>h2 i hmi (by omega) hs ?_;rw[Vn (by omega),Vn (by omega)];exact hx
 ·rw[uO hm,Vz (c':=D.c) _ fun j _ hj=>ziF fun e=>?_]
  ·exact h.tm t
  ·subst e;simp only[Wt]at hj;rw[hS j (Wb _)]at hj;cases hj.2
theorem QX.all {m:Nat} (hl:q<=ops.toList.length) (hm:m<=q) (hsk:MQ ops.toList m q D) (h1:∀ i,i<q->listed.getD i false=true) (h2:∀ i,q<=i->listed.getD i false=false)
  (h:QX G E bx lg ops.toList m q D (fun i=>listed.getD i false) a R L):qH G E ⟨D.T q,bx,D.X q,lg⟩ a R L:=by
 refine ⟨{ h.good with },h.size,h.df,fun t=>?_⟩;have ht:=h.tm t;rw[Jb q _ hl fun j hj _ _=>by simp[h2 j hj]]at ht;rw[YK hl hsk t q hm (Wb _),qL (D':=fun j=>decide (m<=j)&&listed.getD j false) q fun j hj _=>by rw[h1 j hj,Bg]];exact ht
theorem QX.eff {m nx':Nat} {L':Loc} {bx':List (List C)} {v:Value} (hl:q<ops.toList.length) (hok:YA ops=true) (hS:jk ops.toList S) (h:QX G E bx lg ops.toList m q D S a R L) (hm:m<=q)
  (ho:ops.toList[q]?=some o) (hi:S q=false) (hpre:∀ e∈o.after.toList,Region.binds .any e=true->S e.on=true) (hd:Xt E.N o.dst) (hI:qH G E ⟨zns (D.T m) ops.toList D.c (fun j=>decide (m<=j)&&S j) ops.toList.length,bx',nx',lg⟩ a R' L') (hr:Rep R' L' c v)
  (hle:D.X q<=nx') (hfr:∀ id,id<D.X q->L.T id=none->L'.T id=none) :
  QX G E bx' lg ops.toList m (q+1) (D.ext q (jH (D.T q) o.dst c) nx' c true) (fun x=>S x||x==q) (a.put o.dst v) R' L':=by
 refine ⟨?_,fun id h1 h2=>?_,?_,?_,fun t=>?_⟩
 ·rw[V5];exact { hI.good with }
 ·rw[Vn hm]at h1;rcases Wr id (D.X q) with g | g
  ·refine hfr id g (h.free id h1 fun i hmi hi hs hx=>h2 i hmi (by omega) (by rw[hs];rfl) ?_);rw[Vn (by omega),Vn (by omega)];exact hx
  ·have h3:=h2 q hm (by omega) (by simp);rw[Vn (Wb _),V5]at h3;exact hI.good.free id (by show nx'<=id;omega)
 ·cases hdst:o.dst<;>simpa [Act.put] using hI.size
 ·have hdf:=hI.df;cases hdst:o.dst<;>exact hdf
 ·have hold:∀ t,Rep R' L' (val (D.T m) ops.toList D.c (fun j=>decide (m<=j)&&S j) ops.toList.length t) (a.tmps.getD t undef):=fun t=>by
   have:=hI.tm t;rw[Xq]at this;exact this
  rw[uO hm];by_cases hdt:o.dst=some t
  ·have hlt2:t<a.tmps.size:=by rw[hdt]at hd;rw[hI.size];exact hd
   have e1:val (D.T m) ops.toList (D.ext q (jH (D.T q) o.dst c) nx' c true).c (fun j=>decide (m<=j)&&(S j||j==q)) ops.toList.length t=c:=by
    rw[Jb (q+1) _ (by omega) fun j hj hj' hdj=>?_]
    ·simp[val,ho,hdt,hm,zd6]
    ·have hag:=zcW hok hS ho hi hpre hdj (by simp[jr,hdt]) (by omega);simp only[AK,BG];exact .inr ⟨by rw[hag];exact Wp (by omega),by simp;omega⟩
   rw[e1,hdt];have:(a.put (some t) v).tmps.getD t undef=v:=by simp[Act.put,Wq,hlt2]
   rw[this];exact hr
  ·have e1:val (D.T m) ops.toList (D.ext q (jH (D.T q) o.dst c) nx' c true).c (fun j=>decide (m<=j)&&(S j||j==q)) ops.toList.length t=val (D.T m) ops.toList (D.ext q (jH (D.T q) o.dst c) nx' c true).c (fun j=>decide (m<=j)&&S j) ops.toList.length t:=qL _ fun j hj hdj=>by
    have hji:j≠q:=fun e=>by
     subst e;rw[ho]at hdj;exact hdt hdj
    have hj2:(j==q)=false:=by simpa using hji
    show (decide (m<=j)&&(S j||j==q))=(decide (m<=j)&&S j);rw[hj2,Az]
   rw[e1,Vz (c':=D.c) _ fun j _ hj=>ziF fun e=>?_]
   ·have e2:(a.put o.dst v).tmps.getD t undef=a.tmps.getD t undef:=by
     cases hdst:o.dst with
     | none=>rfl
     | some d =>
      have hne:d≠t:=fun e=>hdt (by rw[hdst,e]);simp[Act.put,Wq,OY hne]
    rw[e2];exact hold t
   ·subst e;simp only[Wt]at hj;rw[hi]at hj;cases hj.2
theorem zbA {m fuel:Nat} (hN:∀ o∈ops.toList,Xt E.N o.dst) (hok:YA ops=true) (hsk:MQ ops.toList m q D) (hl:q<=ops.toList.length)
  {listed:Array Bool} {R:Env} {L:Loc} (hcl:jk ops.toList (fun i=>listed.getD i false)) (h:QX G E bx lg ops.toList m q D (fun i=>listed.getD i false) a R L) {i:Nat} {o:Oper} (hmi:m<=i) (his:i<q) (ho:ops.toList[i]?=some o) (hlf:listed.getD i false=false)
  (hpre:∀ e∈o.after.toList,Region.binds .any e=true->listed.getD e.on false=true) (c3:JZ ops (D.T i) o.guard (D.wn i)) (c4:D.wn i=true->zH P G bx (XQ o (zr G (D.T i))) (D.X i) o (D.c i) (D.X (i+1))) (c5:D.wn i=false->D.c i = .sc undef/\D.X (i+1)=D.X i)
  (hnext:∀ (v:Value) (R':Env) (L':Loc),QX G E bx lg ops.toList m q D (fun x=>listed.getD x false||x==i) (a.put o.dst v) R' L'->wpAnyIn (Fl r) n P .any ops Q fuel (listed.setIfInBounds i true) (a.put o.dst v) R'.w) :
  wpOpIn (Fl r) n P ops Q i (wpAnyIn (Fl r) n P .any ops Q fuel (listed.setIfInBounds i true)) a R.w:=by
 have next:∀ (v:Value) (R':Env) (L':Loc),qw (D.X i) (D.X (i+1)) R L R' L'->Rep R' L' (D.c i) v->wpAnyIn (Fl r) n P .any ops Q fuel (listed.setIfInBounds i true) (a.put o.dst v) R'.w:=fun v R' L' st hv =>
  hnext v R' L' (h.put hl hsk hok hcl hmi his ho hlf hpre (hN o (Wf ho)) st hv)
 have hev:=h.ev hl hsk hok hcl hmi his ho hlf hpre;have hguard:Region.wanted o (yielded ops a.tmps)=D.wn i:=jS (tm:=D.T i) rfl c3 fun j want d hg hd=>by
  have ht:d∈jr ops o:=by
   unfold jr Oper.looksAt;rw[hg];simp[hd]
  refine ⟨?_,hev d ht⟩;rw[h.size];cases hj:ops[j]? with
  | none=>rw[hj]at hd;cases hd
  | some o' =>
   rw[hj]at hd;have hd':o'.dst=some d:=hd;have:=hN o' (by rw[OE];exact OZ hj);rw[hd']at this;exact this
 unfold wpOpIn;have hoa:ops[i]?=some o:=by simpa using ho
 rw[hoa];simp only[hguard];cases hw:D.wn i with
 | true =>
  simp only[if_true];refine jG ?_;refine ((c4 hw).2 _ R L a.eval h.good.fit (h.freeAt hl hsk hmi his hlf) fun x=>?_).mono fun v w' ⟨R',L',hw',st,hv⟩=>?_
  ·unfold XQ;split
   ·rename_i hx;cases x with
    | tmp t =>
     refine hev t ?_;unfold jr Oper.looksAt;exact Ov _ (Ov _ (Bd.2 ⟨.tmp t,by simpa using hx,rfl⟩))
    | const v=>exact jz R L v
    | global g =>
     simp only[zr];cases hg:G g with
     | none=>unfold Rep;trivial
     | some cs=>exact Jd.2 ⟨g,0,rfl,(h.good.fit.glob g cs hg).1⟩
    | func f=>exact J6.2 ⟨#[],#[],rfl,zl.2 rfl,zl.2 rfl⟩
   ·unfold Rep;trivial
  ·rw[←hw'];exact next v R' L' st hv
 | false =>
  simp only[WN,W2];refine ⟨fun f _=>trivial,?_⟩;obtain ⟨d1,d2⟩:=c5 hw;have st:qw (D.X i) (D.X (i+1)) R L R L:=by rw[d2];exact qw.refl _ _ _
  exact next undef R L st (by rw[d1];exact zq.2 rfl)
theorem zcv (hsz:listed.size=n) (h:listed.toList.count false<=0) {i:Nat} (hi:i<n):listed.getD i false=true:=by
 have hil:i<listed.size:=by omega
 cases hq:listed.getD i false with
 | true=>rfl
 | false =>
  have:listed.toList[i]?=some false:=by
   rw[Wq,WY hil]at hq;simp[hil];simpa using hq
  have hpos:0<listed.toList.count false:=A0.2 (Wf this);omega
theorem zfT (hsz:listed.size=ops.size) (h:∀ i,i<ops.size->listed.getD i false=true):Region.ready .any ops listed = []:=by
 cases hq:Region.ready .any ops listed with
 | nil=>rfl
 | cons i rest =>
  obtain ⟨o,ho,h3,_⟩:=jJ (ops:=ops) (listed:=listed) (i:=i) (by rw[hq];simp);have hio:i<ops.size:=by simpa using (Wd.1 ho).1
  have:=(qE hsz hio h3).1;rw[h i hio]at this;cases this
theorem ve {m:Nat} {F:Nat->Prop} (hN:∀ o∈ops.toList,Xt E.N o.dst) (hok:YA ops=true) (hsk:MQ ops.toList m q D) (hq:q<=ops.size)
  (hbeh:∀ i,q<i->i<ops.size->inC (qz ops.toList ops.size) i q=true)
  (hp:∀ (i:Nat) o,m<=i->i<q->ops.toList[i]?=some o->(∃ e,F e/\(e=i∨inC (qz ops.toList ops.size) e i=true)) ∨
   (JZ ops (D.T i) o.guard (D.wn i)/\(D.wn i=true->zH P G bx (XQ o (zr G (D.T i))) (D.X i) o (D.c i) (D.X (i+1)))/\(D.wn i=false->D.c i = .sc undef/\D.X (i+1)=D.X i)))
  (hEnd:q=ops.size->∀ (listed:Array Bool) (a:Act) (R:Env) (L:Loc),listed.size=ops.size->(∀ i,i<q->listed.getD i false=true)->(∀ i,q<=i->listed.getD i false=false)->QX G E bx lg ops.toList m q D (fun i=>listed.getD i false) a R L->Q .normal a R.w)
  (hNext:∀ (o:Oper) (fuel:Nat) (listed:Array Bool) (a:Act) (R:Env) (L:Loc),ops.toList[q]?=some o->listed.size=ops.size->jk ops.toList (fun i=>listed.getD i false)->(∀ i,i<m->listed.getD i false=true)->(∀ i,q<=i->listed.getD i false=false)->(∀ e,F e->listed.getD e false=true) ->
   (∀ e∈o.after.toList,Region.binds .any e=true->listed.getD e.on false=true)->(listed.setIfInBounds q true).toList.count false<=fuel->QX G E bx lg ops.toList m q D (fun i=>listed.getD i false) a R L ->
   wpOpIn (Fl r) n P ops Q q (wpAnyIn (Fl r) n P .any ops Q fuel (listed.setIfInBounds q true)) a R.w):∀ (fuel:Nat) (listed:Array Bool) (a:Act) (R:Env) (L:Loc),listed.size=ops.size->listed.toList.count false<=fuel ->
  jk ops.toList (fun i=>listed.getD i false)->(∀ i,i<m->listed.getD i false=true)->(∀ i,q<=i->listed.getD i false=false)->(∀ e,F e->listed.getD e false=true)->QX G E bx lg ops.toList m q D (fun i=>listed.getD i false) a R L->wpAnyIn (Fl r) n P .any ops Q fuel listed a R.w:=by
 have hl:q<=ops.toList.length:=by simpa using hq
 have fin:∀ (listed:Array Bool),(∀ i,i<ops.size->listed.getD i false=true)->(∀ i,q<=i->listed.getD i false=false)->q=ops.size:=fun listed h h2=>by
  rcases Wr q ops.size with g | g
  ·have:=h q g;rw[h2 q (Wb _)]at this;cases this
  ·omega
 intro fuel
 induction fuel with
 | zero =>
  intro listed a R L hsz hcnt hcl h1 h2 hF h;have hall:=fun i hi=>zcv (i:=i) hsz hcnt hi;have hqe:=fin listed hall h2;exact ⟨zfT hsz hall,hEnd hqe listed a R L hsz (fun i hi=>hall i (by omega)) h2 h⟩
 | succ fuel ih =>
  intro listed a R L hsz hcnt hcl h1 h2 hF h;refine ⟨fun hr=>?_,fun i hi=>?_⟩
  ·have hall:=Xr hok hsz hr;exact hEnd (fin listed hall h2) listed a R L hsz (fun i hi=>hall i (by omega)) h2 h
  obtain ⟨o,ho,hl0,hpre⟩:=jJ hi;have hio:i<ops.size:=by simpa using (Wd.1 ho).1
  obtain ⟨hlf,hil'⟩:=qE hsz hio hl0;have hil:i<listed.size:=by omega
  have hcnt':(listed.setIfInBounds i true).toList.count false<=fuel:=by
   have:=j9 hil';rw[Am];omega
  have hset:∀ x,(listed.setIfInBounds i true).getD x false=(listed.getD x false||x==i):=fun x=>Bm (qU hil) x;have hmi:m<=i:=by
   rcases Wr i m with g | g
   ·rw[h1 i g]at hlf;cases hlf
   ·exact g
  rcases Aq i q with g | g | g
  ·rcases hp i o hmi g ho with ⟨e,he,hei⟩ | ⟨c3,c4,c5⟩
   ·have hle:=hF e he;rcases hei with rfl | hei
    ·rw[hle]at hlf;cases hlf
    ·have:=jF hcl _ e i hei hle;rw[this]at hlf;cases hlf
   ·exact zbA hN hok hsk hl hcl h hmi g ho hlf hpre c3 c4 c5 fun v R' L' hI=>ih _ _ R' L' (by simpa using hsz) hcnt' (JA hil hcl ho hpre) (fun k hk=>by rw[hset,h1 k hk];rfl) (fun k hk=>by rw[hset,h2 k hk];simp;omega)
     (fun e he=>by rw[hset,hF e he];rfl) (by rw[qU hil];exact hI)
  ·subst g;exact hNext o fuel listed a R L ho hsz hcl h1 h2 hF hpre hcnt' h
  ·have:=zbv (hbeh i g hio) hcl ho hpre (by omega);rw[h2 q (Wb _)]at this;cases this
end
end
section
open Go.RowKit
section
variable {P:Program} {G:zp} {E:Ctx} {σ:St} {o:Oper} {a:Act} {N p:Nat} {bx:List (List C)} {ops:Array Oper}
def HOk (P:Program) (G:zp) (ops:Array Oper) (fs:List MFl) (B:List (List C)) (H:List kS) (m q:Nat) (D:YC):Prop:=
 ∀ (i:Nat) o,m<=i->i<q->ops.toList[i]?=some o->fs.getD i .pure = .pure->JZ ops (D.T i) o.guard (D.wn i)/\(D.wn i=false->D.c i = .sc undef/\D.X (i+1)=D.X i) /\
  ((∃ e,(e<q/\fs.getD e .pure≠.pure)/\inC (qz ops.toList ops.size) e i=true) ∨
   (D.wn i=true->zH P G B (XQ o (zr G (D.T i))) (D.X i) o (D.c i) (D.X (i+1))/\(i,fun b=>Jl P G b (zr G (D.T i)) o.op (D.X i) fun c' n'=>c'=D.c i/\n'=D.X (i+1))∈H))
theorem HOk.ext {fs:List MFl} {B B':List (List C)} {H H':List kS} {m:Nat} {o:Oper} (h:HOk P G ops fs B H m q D) (ho:ops.toList[q]?=some o)
  (hq:fs.getD q .pure = .pure->JZ ops (D.T q) o.guard b/\(b=false->c = .sc undef/\X=D.X q)/\(b=true->zH P G B' (XQ o (zr G (D.T q))) (D.X q) o c X/\(q,fun bb=>Jl P G bb (zr G (D.T q)) o.op (D.X q) fun c' n'=>c'=c/\n'=X)∈H'))
  (hB:∀ (i:Nat) o',m<=i->i<q->ops.toList[i]?=some o'->fs.getD i .pure = .pure->D.wn i=true->zH P G B (XQ o' (zr G (D.T i))) (D.X i) o' (D.c i) (D.X (i+1))/\(i,fun b=>Jl P G b (zr G (D.T i)) o'.op (D.X i) fun c' n'=>c'=D.c i/\n'=D.X (i+1))∈H ->
   (fs.getD q .pure≠.pure/\inC (qz ops.toList ops.size) q i=true)∨(zH P G B' (XQ o' (zr G (D.T i))) (D.X i) o' (D.c i) (D.X (i+1))/\(i,fun b=>Jl P G b (zr G (D.T i)) o'.op (D.X i) fun c' n'=>c'=D.c i/\n'=D.X (i+1))∈H')) :
  HOk P G ops fs B' H' m (q+1) (D.ext q T X c b):=by
 intro i o' hmi hi ho' hf;by_cases hiq:i=q
 ·subst hiq;rw[ho]at ho';cases ho';obtain ⟨q1,q2,q3⟩:=hq hf;rw[uO (Wb _),Vn (Wb _),V5,zd6,zq0];exact ⟨q1,q2,.inr q3⟩
 ·obtain ⟨q1,q2,q3⟩:=h i o' hmi (by omega) ho' hf;rw[uO (by omega),Vn (by omega),Vn (by omega),ziF hiq,zrS hiq];refine ⟨q1,q2,?_⟩;rcases q3 with ⟨e,⟨e1,e2⟩,e3⟩ | q3
  ·exact .inl ⟨e,⟨by omega,e2⟩,e3⟩
  ·cases hw:D.wn i with
   | false=>exact .inr fun h=>by cases h
   | true =>
    rcases hB i o' hmi (by omega) ho' hf hw (q3 hw) with ⟨g1,g2⟩ | g
    ·exact .inl ⟨q,⟨by omega,g1⟩,g2⟩
    ·exact .inr fun _=>g
theorem HOk.seg {fs:List MFl} {B:List (List C)} {H:List kS} {m:Nat} (h:HOk P G ops fs B H m q D):∀ (i:Nat) o,m<=i->i<q->ops.toList[i]?=some o->(∃ e,(e<q/\fs.getD e .pure≠.pure)/\(e=i∨inC (qz ops.toList ops.size) e i=true)) ∨
   (JZ ops (D.T i) o.guard (D.wn i)/\(D.wn i=true->zH P G B (XQ o (zr G (D.T i))) (D.X i) o (D.c i) (D.X (i+1)))/\(D.wn i=false->D.c i = .sc undef/\D.X (i+1)=D.X i)):=fun i o hmi hi ho=>by
 by_cases hf:fs.getD i .pure = .pure
 ·obtain ⟨q1,q2,q3⟩:=h i o hmi hi ho hf;rcases q3 with ⟨e,e1,e2⟩ | q3
  ·exact .inl ⟨e,e1,.inr e2⟩
  ·exact .inr ⟨q1,fun hw=>(q3 hw).1,q2⟩
 ·exact .inl ⟨i,⟨hi,hf⟩,.inl rfl⟩
theorem zmi {Y:Hd} {fs:List MFl} (hY:zoy P Y E) (hN:∀ o∈ops.toList,Xt E.N o.dst) (hok:YA ops=true) (hmx:vZ ops fs=true)
  (hQ:∀ a R L σ,K σ->qH G E σ a R L->Q .normal a R.w):∀ (k m q:Nat) (H:List kS) (B:List (List C)) (lg:Nat) (D:YC) (fuel:Nat) (listed:Array Bool) (a:Act) (R:Env) (L:Loc),ops.size-q=k->q<=ops.size->m<=q->listed.size=ops.size->listed.toList.count false<=fuel ->
  jk ops.toList (fun i=>listed.getD i false)->(∀ i,i<m->listed.getD i false=true)->(∀ i,q<=i->listed.getD i false=false)->(∀ e,(e<q/\fs.getD e .pure≠.pure)->listed.getD e false=true)->MQ ops.toList m q D->HOk P G ops fs B H m q D ->
  QX G E B lg ops.toList m q D (fun i=>listed.getD i false) a R L->zhU P G Y ops (ops.toList.drop q) (fs.drop q) q H ⟨D.T q,B,D.X q,lg⟩ K->wpAnyIn (Fl r) n P .any ops Q fuel listed a R.w:=by
 intro k
 induction k with
 | zero =>
  intro m q H B lg D fuel listed a R L hk hq hm hsz hcnt hcl h1 h2 hF hsk hH hI hA;have hqe:q=ops.size:=by omega
  have hql:q<=ops.toList.length:=by simpa using hq
  rw[OM (by simp;omega)]at hA;have hA:K ⟨D.T q,B,D.X q,lg⟩:=hA;refine ve (F:=fun e=>e<q/\fs.getD e .pure≠.pure) hN hok hsk hq (fun i g1 g2=>by omega) hH.seg (fun _ listed a R L hsz h1 h2 hI=>hQ a R L _ hA (hI.all hql hm hsk h1 h2)) (fun o fuel listed a R L ho=>?_) fuel listed a R L hsz hcnt hcl h1 h2 hF hI;have:=(Wd.1 ho).1;simp at this;omega
 | succ k ih =>
  intro m q H B lg D fuel listed a R L hk hq hm hsz hcnt hcl h1 h2 hF hsk hH hI hA;have hqs:q<ops.size:=by omega
  have hql:q<ops.toList.length:=by simpa using hqs
  obtain ⟨o,ho⟩:∃ o,ops.toList[q]?=some o:=⟨_,Wa hql⟩;have hdrop:ops.toList.drop q=o :: ops.toList.drop (q+1):=by
   rw[Oe hql];congr 1;have:=Wa hql;rw[ho]at this;exact (Option.some.inj this).symm
  have hhead:(fs.drop q).headD .pure=fs.getD q .pure:=by
   rw[List.headD_eq_head?_getD,List.head?_drop,W7]
  have htail:(fs.drop q).tail=fs.drop (q+1):=by simp
  have hd:=hN o (Wf ho);rw[hdrop]at hA;unfold zhU at hA;rw[hhead,htail]at hA;cases hfl:fs.getD q .pure with
  | pure =>
   rw[hfl]at hA;simp only at hA;obtain ⟨b,hg,hA1,hA2⟩:=jj.out hA;cases b with
   | true =>
    obtain ⟨c,nx',hp,hK⟩:=Yr (hA1 rfl);refine ih m (q+1) _ B lg (D.ext q (jH (D.T q) o.dst c) nx' c true) fuel listed a R L (by omega) (by omega) (by omega) hsz hcnt hcl h1 (fun i hi=>h2 i (by omega)) (fun e he=>hF e ⟨?_,he.2⟩) (hsk.ext ho rfl hp.1) (hH.ext (B':=B) ho (fun _=>⟨hg,fun h=>(by cases h),fun _=>⟨hp,Wk⟩⟩) fun i o' _ _ _ _ _ h=>.inr ⟨h.1,Wl _ h.2⟩) (hI.more hm hp.1 h2) (by rw[zbb,V5];exact hK);rcases Wr e q with g | g
    ·exact g
    ·have:e=q:=by omega
     subst this;exact absurd hfl he.2
   | false =>
    refine ih m (q+1) _ B lg (D.ext q (jH (D.T q) o.dst (.sc undef)) (D.X q) (.sc undef) false) fuel listed a R L (by omega) (by omega) (by omega) hsz hcnt hcl h1 (fun i hi=>h2 i (by omega)) (fun e he=>hF e ⟨?_,he.2⟩) (hsk.ext ho rfl (Wb _)) (hH.ext (B':=B) ho (fun _=>⟨hg,fun _=>⟨rfl,rfl⟩,fun h=>(by cases h)⟩) fun i o' _ _ _ _ _ h=>.inr h) (hI.more hm (Wb _) h2) (by rw[zbb,V5];exact hA2 rfl);rcases Wr e q with g | g
    ·exact g
    ·have:e=q:=by omega
     subst this;exact absurd hfl he.2
  | bar =>
   rw[hfl]at hA;simp only at hA;refine ve (F:=fun e=>e<q/\fs.getD e .pure≠.pure) hN hok hsk hq (fun i g1 g2=>Ug hmx hqs (by rw[hfl];intro h;cases h) g2 g1) hH.seg (fun hqe=>by omega) (fun o' fuel listed a R L ho' hsz hcl h1 h2 hF hpre hcnt hI=>?_) fuel listed a R L hsz hcnt hcl h1 h2 hF hI;rw[ho]at ho';cases ho';have hil:q<listed.size:=by omega
   have hall:∀ j,j<q->listed.getD j false=true:=fun j hj=>zbv (zhh hmx hqs hfl hj) hcl ho hpre (by omega);have hIV:=hI.all (by omega) hm hsk hall h2;have hset:∀ x,(listed.setIfInBounds q true).getD x false=(listed.getD x false||x==q):=fun x=>Bm (qU hil) x;have next:∀ (σ':St) (a':Act) (R':Env) (L':Loc),zhU P G Y ops (ops.toList.drop (q+1)) (fs.drop (q+1)) (q+1) [] σ' K->qH G E σ' a' R' L'->wpAnyIn (Fl r) n P .any ops Q fuel (listed.setIfInBounds q true) a' R'.w:=fun σ' a' R' L' hA' hI'=>by
    have hlq:∀ i,i<q+1->(listed.setIfInBounds q true).getD i false=true:=fun i hi=>by
     rw[hset];rcases Wr i q with g | g
     ·rw[hall i g];rfl
     ·have:i=q:=by omega
      simp[this]
    have hlq2:∀ i,q+1<=i->(listed.setIfInBounds q true).getD i false=false:=fun i hi=>by
     rw[hset,h2 i (by omega)];simp;omega
    refine ih (q+1) (q+1) [] σ'.bx σ'.lg ⟨fun _=>σ'.tm,fun _=>σ'.nx,fun _=>.any,fun _=>true⟩ fuel _ a' R' L' (by omega) (by omega) (Wb _) (by simpa using hsz) hcnt (JA hil hcl ho hpre) hlq hlq2 (fun e he=>hlq e he.1) ⟨fun i o h1 h2=>by omega⟩ (fun i o h1 h2=>by omega) ?_ hA';refine ⟨{ hI'.good with },fun id hid _=>hI'.good.free id hid,hI'.size,hI'.df,fun t=>?_⟩;rw[qL (D':=fun _=>false) _ fun j _ _=>by
     by_cases hj:q+1<=j
     ·simp[hlq2 j hj]
     ·simp[hj],Jb 0 _ (Wc _) fun _ _ _ _=>rfl]
    exact hI'.tm t
   obtain ⟨b,hg,hA1,hA2⟩:=jj.out hA;have hguard:Region.wanted o (yielded ops a.tmps)=b:=jS (tm:=D.T q) (R:=R) (L:=L) rfl hg fun j want d hgd hdd=>by
    refine ⟨?_,hIV.tm d⟩;rw[hIV.size];cases hj:ops[j]? with
    | none=>rw[hj]at hdd;cases hdd
    | some o' =>
     rw[hj]at hdd;have hd':o'.dst=some d:=hdd;have:=hN o' (by rw[OE];exact OZ hj);rw[hd']at this;exact this
   unfold wpOpIn;have hoa:ops[q]?=some o:=by simpa using ho
   rw[hoa];simp only[hguard];cases b with
   | true =>
    simp only[if_true];refine jG ((Vm hY (hA1 rfl) hIV).mono fun v w'=>?_);rintro ⟨c,σ',R',L',rfl,hI',hv,hK⟩;exact next _ _ R' L' hK (hI'.put hd hv)
   | false =>
    simp only[WN,W2];refine ⟨fun f _=>trivial,next _ _ R L (hA2 rfl) ?_⟩;have:=hIV.put (dst:=o.dst) (c:=.sc undef) (v:=undef) hd (zq.2 rfl);cases hdst:o.dst with
    | none=>rw[hdst]at this;exact this
    | some d=>rw[hdst]at this;exact this
  | flt fr =>
   rw[hfl]at hA;simp only at hA;obtain ⟨hgn,hE⟩:=hA;refine ve (F:=fun e=>e<q/\fs.getD e .pure≠.pure) hN hok hsk hq (fun i g1 g2=>Ug hmx hqs (by rw[hfl];intro h;cases h) g2 g1) hH.seg (fun hqe=>by omega) (fun o' fuel listed a R L ho' hsz hcl h1 h2 hF hpre hcnt hI=>?_) fuel listed a R L hsz hcnt hcl h1 h2 hF hI;rw[ho]at ho';cases ho';have hil:q<listed.size:=by omega
   have hset:∀ x,(listed.setIfInBounds q true).getD x false=(listed.getD x false||x==q):=fun x=>Bm (qU hil) x;have hlf:=h2 q (Wb _);have hev:=zpA (D:=D) (m:=m) (m':=q) (Nat.le_of_lt hql) hsk hok hcl hm (Wb _) ho hlf hpre;have hop2:∀ y,y∈o.op.operands->zr G (zns (D.T m) ops.toList D.c (fun j=>decide (m<=j)&&listed.getD j false) ops.toList.length) y=zr G (D.T q) y:=fun y hy=>by
    cases y with
    | tmp u =>
     show jU _ u=jU _ u;rw[Xq];refine hev u ?_;unfold jr Oper.looksAt;exact Ov _ (Ov _ (Bd.2 ⟨.tmp u,by simpa using hy,rfl⟩))
    | const v=>rfl
    | global g=>rfl
    | func f=>rfl
   unfold wpOpIn;have hoa:ops[q]?=some o:=by simpa using ho
   rw[hoa];have hguard:Region.wanted o (yielded ops a.tmps)=true:=by unfold Region.wanted;rw[hgn]
   simp only[hguard,if_true];refine jG ((zko hE hop2 hI.toV).mono fun v w'=>?_);rintro ⟨c,bx',nx',R',L',rfl,hI',hr,⟨hck,hK⟩,hle,hfr⟩;refine ih m (q+1) H bx' lg (D.ext q (jH (D.T q) o.dst c) nx' c true) fuel _ (a.put o.dst v) R' L' (by omega) (by omega) (by omega) (by simpa using hsz) hcnt (JA hil hcl ho hpre) (fun i hi=>by rw[hset,h1 i hi];rfl) (fun i hi=>by rw[hset,h2 i (by omega)];simp;omega) (fun e he=>?_) (hsk.ext ho rfl hle)
    (hH.ext (B':=bx') ho (fun h=>by rw[hfl]at h;cases h) fun i o' hmi hi ho' hf hw h=>?_) (by rw[qU hil];exact QX.eff hql hok hcl hI hm ho hlf hpre hd hI' hr hle hfr) (by rw[zbb,V5];exact hK)
   ·rw[hset];rcases Wr e q with g | g
    ·rw[hF e ⟨g,he.2⟩];rfl
    ·have:e=q:=by omega
     simp[this]
   ·rcases zgL hmx hqs hfl hi with g | g
    ·exact .inl ⟨(by rw[hfl];intro h;cases h),g⟩
    ·have h3:=hck.out _ _ h.2 g;obtain ⟨c2,nx2,hp,e1,e2⟩:=Yr h3;subst e1 e2;exact .inr ⟨hp,h.2⟩
end
end
section
open Go.RowKit
def mix (P:Program) (G:zp) (Y:Hd) (ops:Array Oper):List (Nat×MFl)->Nat->List kS->St->(St->Prop)->Prop
 | [],_,_,σ,K=>K σ
 | (i,fl) :: rest,q,H,σ,K=>match ops.toList[i]? with
  | none=>False
  | some o=>match fl with
   | .pure=>jj ops σ.tm o.guard (Jl P G σ.bx (zr G σ.tm) o.op σ.nx fun c nx'=>mix P G Y ops rest (q+1) ((q,fun b=>Jl P G b (zr G σ.tm) o.op σ.nx fun c' n'=>c'=c/\n'=nx') :: H) ⟨jH σ.tm o.dst c,σ.bx,nx',σ.lg⟩ K)
     (mix P G Y ops rest (q+1) H ⟨jH σ.tm o.dst (.sc undef),σ.bx,σ.nx,σ.lg⟩ K)
   | .bar=>jj ops σ.tm o.guard (Mn P G Y o.op σ fun c σ'=>mix P G Y ops rest (q+1) [] (σ'.put o.dst c) K) (mix P G Y ops rest (q+1) [] (σ.put o.dst (.sc undef)) K)
   | .flt fr=>o.guard=none/\zoZ P G o.op σ fun c bx' nx'=>YJ fr bx' H/\mix P G Y ops rest (q+1) H ⟨jH σ.tm o.dst c,bx',nx',σ.lg⟩ K
def Q9 (π:List Nat) (i:Nat):Nat:=(XV π i).getD π.length
def reO (π:List Nat) (o:Oper):Oper:={ o with after:=o.after.map fun e=>{ e with on:=Q9 π e.on },guard:=o.guard.map fun g=>(Q9 π g.1,g.2) }
def YE (π:List Nat) (ops:Array Oper):Array Oper:=(π.map fun i=>reO π (ops.getD i default)).toArray
structure Yy (π:List Nat) (n:Nat):Prop where
 len:π.length=n
 nd:π.Nodup
 lt:∀ i∈π,i<n
 all:∀ i,i<n->i∈π
def zm2 (π:List Nat) (n:Nat):Bool:=π.length==n&&decide π.Nodup&&(π.all fun i=>decide (i<n))&&(List.range n).all fun i=>π.contains i
theorem zjO {π:List Nat} (h:zm2 π n=true):Yy π n:=by
 unfold zm2 at h;simp only[Wt,Oj,W8,WC,List.mem_range,List.contains_iff_mem]at h;exact ⟨h.1.1.1,h.1.1.2,h.1.2,h.2⟩
theorem zaJ:∀ (l:List Nat) (i:Nat),i∈l->∃ j,XV l i=some j
 | [],i,h=>by cases h
 | x :: r,i,h=>by
  unfold XV;by_cases hx:i=x
  ·exact ⟨0,if_pos hx⟩
  ·rw[if_neg hx];obtain ⟨j,hj⟩:=zaJ r i ((WK.1 h).resolve_left hx);exact ⟨j+1,by rw[hj];rfl⟩
section
variable {P:Program} {G:zp} {E:Ctx} {σ:St} {o:Oper} {a:Act} {N p n:Nat} {bx:List (List C)} {ops:Array Oper} {π:List Nat}
theorem ZQ (h:Yy π n) {i:Nat} (hi:i<n):π[Q9 π i]?=some i:=by
 obtain ⟨j,hj⟩:=zaJ π i (h.all i hi);unfold Q9;rw[hj];exact ZH π i j hj
theorem G3 (h:Yy π n) {i:Nat} (hi:i<n):Q9 π i<n:=by
 have:=(Wd.1 (ZQ h hi)).1;rw[h.len]at this;exact this
theorem zmC (h:Yy π n) {k i:Nat} (hk:π[k]?=some i):Q9 π i=k:=by
 have hi:=h.lt i (Wf hk);exact (Aj (by rw[h.len];exact G3 h hi) h.nd).1 ((ZQ h hi).trans hk.symm)
theorem zaN (h:Yy π n) {i:Nat} (hi:n<=i):Q9 π i=n:=by
 unfold Q9;cases hq:XV π i with
 | none=>rw[←h.len];rfl
 | some j =>
  have:=h.lt i (Wf (ZH π i j hq));omega
theorem QG (h:Yy π ops.size):(YE π ops).size=ops.size:=by
 unfold YE;simp[h.len]
theorem ZL (h:Yy π ops.size) {i:Nat} {o:Oper} (hi:ops[i]?=some o):(YE π ops)[Q9 π i]?=some (reO π o):=by
 have hlt:i<ops.size:=(AA.1 hi).1;unfold YE;rw[Ac,Ws,ZQ h hlt];simp only[WI];rw[Wq,hi];rfl
theorem zfv (h:Yy π ops.size) {i:Nat} (hi:ops.size<=i):(YE π ops)[Q9 π i]?=none:=by
 rw[zaN h hi];exact Bx (by rw[QG h];exact Wb _)
theorem yg (h:Yy π ops.size) (j:Nat):((YE π ops)[Q9 π j]?).bind (·.dst)=(ops[j]?).bind (·.dst):=by
 cases hq:ops[j]? with
 | none=>rw[zfv h (by simpa using hq)]
 | some o=>rw[ZL h hq];rfl
theorem M4 (h:Yy π ops.size) (tm:List (Nat×C)) (g:Option (Nat×Bool)) (X Y:Prop):jj (YE π ops) tm (g.map fun g=>(Q9 π g.1,g.2)) X Y=jj ops tm g X Y:=by
 cases g with
 | none=>rfl
 | some g =>
  obtain ⟨j,want⟩:=g;unfold jj;simp only[WI];rw[yg h]
theorem zk9 {Y:Hd} {K:St->Prop} (h:Yy π ops.size):∀ (L:List (Nat×MFl)) (q:Nat) (H:List kS) (σ:St),(∀ x∈L,x.1<ops.size) ->
  mix P G Y ops L q H σ K=zhU P G Y (YE π ops) (L.map fun x=>reO π (ops.getD x.1 default)) (L.map (·.2)) q H σ K
 | [],q,H,σ,_=>rfl
 | (i,fl) :: rest,q,H,σ,hL=>by
  have hi:i<ops.size:=hL _ Wk;have ih:=fun q H σ=>zk9 (Y:=Y) (K:=K) h rest q H σ fun x hx=>hL x (Wl _ hx);have hget:ops.toList[i]?=some ops[i]:=by simp[hi]
  have hgd:ops.getD i default=ops[i]:=by rw[Wq,WY hi];rfl
  simp only[mix,zhU,Wm,hget,hgd,List.headD_cons,List.tail_cons];cases fl with
  | pure =>
   simp only[ih];exact (M4 h _ _ _ _).symm
  | bar =>
   simp only[ih];exact (M4 h _ _ _ _).symm
  | flt fr =>
   simp only[ih];have:(reO π ops[i]).guard=none↔ops[i].guard=none:=by simp[reO]
   rw[this];rfl
theorem zeY {l:Array Bool} (h:i<l.size):l[i]?=some (l.getD i false):=by
 rw[Wq,WY h];rfl
def zf8 (π:List Nat) (n:Nat) (listed listed':Array Bool):Prop:=listed.size=n/\listed'.size=n/\∀ i,i<n->listed'.getD (Q9 π i) false=listed.getD i false
theorem zaf (h:Yy π ops.size) {listed listed':Array Bool} (hL:zf8 π ops.size listed listed') {i:Nat} (hi:i∈Region.ready .any ops listed):Q9 π i∈Region.ready .any (YE π ops) listed':=by
 obtain ⟨o,ho,hl0,hpre⟩:=jJ hi;have hio:i<ops.size:=by simpa using (Wd.1 ho).1
 obtain ⟨hlf,_⟩:=qE hL.1 hio hl0;have hoa:ops[i]?=some o:=by simpa using ho
 unfold Region.ready;rw[OC];refine ⟨by rw[QG h];simpa using G3 h hio,?_⟩;have h1:listed'.getD (Q9 π i) true=false:=by
  have h2:=hL.2.2 i hio;rw[hlf]at h2;rw[Wq,zeY (by rw[hL.2.1];exact G3 h hio),h2];rfl
 rw[h1,ZL h hoa];simp only[O8,Ol,WI,W5];rw[AF];intro e he;simp only[reO,Array.mem_map]at he;obtain ⟨e0,he0,rfl⟩:=he;cases hb:Region.binds .any e0 with
 | false =>
  have:Region.binds .any { e0 with on:=Q9 π e0.on }=false:=hb;rw[this];rfl
 | true =>
  have h3:=hpre e0 (by simpa using he0) hb;have hlt:e0.on<ops.size:=by
   rcases Wr e0.on ops.size with g | g
   ·exact g
   ·rw[Wq,Bx (by rw[hL.1];exact g)]at h3;cases h3
  have h4:=hL.2.2 e0.on hlt;rw[h3]at h4;show (!_||listed'.getD (Q9 π e0.on) false)=true;rw[h4];simp
theorem zkd (h:Yy π ops.size) {listed listed':Array Bool} (hL:zf8 π ops.size listed listed') (hr:Region.ready .any ops listed = []):Region.ready .any (YE π ops) listed' = []:=by
 cases hq:Region.ready .any (YE π ops) listed' with
 | nil=>rfl
 | cons k rest =>
  exfalso
  have hsz:=QG h;obtain ⟨o',ho',hl0,hpre⟩:=jJ (ops:=YE π ops) (listed:=listed') (i:=k) (by rw[hq];simp);have hk:k<ops.size:=by rw[←hsz];simpa using (Wd.1 ho').1
  have hkl:k<π.length:=by rw[h.len];exact hk
  have hki:π[k]?=some π[k]:=Wa hkl;have hi:=h.lt _ (Wf hki);have hpk:=zmC h hki;have hoi:ops[π[k]]?=some ops[π[k]]:=WY hi;have hg:=ZL h hoi;rw[hpk]at hg;have ho2:(YE π ops)[k]?=some o':=by simpa using ho'
  rw[hg]at ho2;cases ho2;obtain ⟨hlf,_⟩:=qE (ops:=YE π ops) (by rw[hL.2.1,hsz]) (by rw[hsz];exact hk) hl0;have h2:=hL.2.2 _ hi;rw[hpk,hlf]at h2;have:π[k]∈Region.ready .any ops listed:=by
   unfold Region.ready;rw[OC];refine ⟨by simpa using hi,?_⟩;have h1:listed.getD π[k] true=false:=by
    rw[Wq,zeY (by rw[hL.1];exact hi),←h2];rfl
   rw[h1,hoi];simp only[O8,Ol,WI,W5];rw[AF];intro e he;cases hb:Region.binds .any e with
   | false=>rfl
   | true =>
    have h3:=hpre { e with on:=Q9 π e.on } (by simp[reO];exact ⟨e,by simpa using he,rfl,rfl⟩) hb;have h3:listed'.getD (Q9 π e.on) false=true:=h3;rcases Wr e.on ops.size with g | g
    ·rw[hL.2.2 _ g]at h3;rw[h3];rfl
    ·rw[zaN h g,Wq,Bx (by rw[hL.2.1];exact Wb _)]at h3;cases h3
  rw[hr]at this;cases this
theorem zm7 (h:Yy π n) {listed listed':Array Bool} (hL:zf8 π n listed listed') {i:Nat} (hi:i<n):zf8 π n (listed.setIfInBounds i true) (listed'.setIfInBounds (Q9 π i) true):=by
 refine ⟨by simpa using hL.1,by simpa using hL.2.1,fun j hj=>?_⟩;have e1:=Bm (qU (listed:=listed) (i:=i) (by rw[hL.1];exact hi)) j;have e2:=Bm (qU (listed:=listed') (i:=Q9 π i) (by rw[hL.2.1];exact G3 h hi)) (Q9 π j);rw[show (listed.setIfInBounds i true).getD j false=(listed.getD j false||j==i) from e1,show (listed'.setIfInBounds (Q9 π i) true).getD (Q9 π j) false=(listed'.getD (Q9 π j) false||Q9 π j==Q9 π i) from e2,hL.2.2 j hj];by_cases hji:j=i
 ·subst hji;simp
 ·have:Q9 π j≠Q9 π i:=fun e=>by
   have h1:=ZQ h hj;rw[e,ZQ h hi]at h1;exact hji (Option.some.inj h1).symm
  rw[show (Q9 π j==Q9 π i)=false by rw[Ot];exact this,show (j==i)=false by rw[Ot];exact hji]
theorem zaE {r:Option Nat} {m:Nat} {Q:Exit->Act->World->Prop} (h:Yy π ops.size):∀ (fuel:Nat) (listed listed':Array Bool) (a:Act) (w:World),zf8 π ops.size listed listed' ->
  wpAnyIn (Fl r) m P .any (YE π ops) Q fuel listed' a w->wpAnyIn (Fl r) m P .any ops Q fuel listed a w
 | 0,listed,listed',a,w,hL,⟨h1,h2⟩=>by
  refine ⟨?_,h2⟩;cases hq:Region.ready .any ops listed with
  | nil=>rfl
  | cons i rest =>
   have:=zaf h hL (i:=i) (by rw[hq];simp);rw[h1]at this;cases this
 | fuel+1,listed,listed',a,w,hL,⟨h1,h2⟩=>by
  refine ⟨fun hr=>h1 (zkd h hL hr),fun i hi=>?_⟩;obtain ⟨o,ho,hl0,hpre⟩:=jJ hi;have hio:i<ops.size:=by simpa using (Wd.1 ho).1
  have hoa:ops[i]?=some o:=by simpa using ho
  have h3:=wpOpIn_mono (K':=wpAnyIn (Fl r) m P .any ops Q fuel (listed.setIfInBounds i true)) (fun a w hh=>zaE h fuel _ _ a w (zm7 h hL hio) hh) (h2 _ (zaf h hL hi));unfold wpOpIn at h3 ⊢;rw[ZL h hoa]at h3;rw[hoa];have hw:Region.wanted (reO π o) (yielded (YE π ops) a.tmps)=Region.wanted o (yielded ops a.tmps):=by
   unfold Region.wanted;show (match o.guard.map fun g=>(Q9 π g.1,g.2) with | none=>true | some (j,want)=>yielded (YE π ops) a.tmps j==some want)=_
   cases o.guard with
   | none=>rfl
   | some g =>
    simp only[WI];unfold yielded;rw[yg h]
  simp only[hw]at h3;exact h3
def zc4:List (Nat×MFl)->List Nat
 | []=>[]
 | (i,.pure) :: r=>(4*i) :: zc4 r
 | (i,.bar) :: r=>(4*i+1) :: zc4 r
 | (i,.flt fr) :: r=>(4*i+2) :: (fr.map (fun k=>4*k+3)++zc4 r)
def zhz:List Nat->List Nat
 | n :: r=>if n % 4=3 then n / 4 :: zhz r else []
 | []=>[]
def zdO:List Nat->List (Nat×MFl)
 | []=>[]
 | n :: r=>if n % 4=0 then (n / 4,.pure) :: zdO r else if n % 4=1 then (n / 4,.bar) :: zdO r else if n % 4=2 then (n / 4,.flt (zhz r)) :: zdO r else zdO r
theorem yo:∀ (fr:List Nat) (L:List (Nat×MFl)),zhz (fr.map (fun k=>4*k+3)++zc4 L)=fr
 | [],L=>by
  cases L with
  | nil=>rfl
  | cons x r =>
   obtain ⟨i,fl⟩:=x;cases fl<;>simp only[Wv,OB,zc4,zhz]<;>exact if_neg (by omega)
 | k :: fr,L=>by
  simp only[Wm,Oh,zhz];rw[if_pos (by omega),yo fr L,show (4*k+3) / 4=k by omega]
theorem zbc:∀ (fr:List Nat) (l:List Nat),zdO (fr.map (fun k=>4*k+3)++l)=zdO l
 | [],l=>rfl
 | k :: fr,l=>by
  simp only[Wm,Oh,zdO];rw[if_neg (by omega),if_neg (by omega),if_neg (by omega),zbc fr l]
theorem ZN:∀ L:List (Nat×MFl),zdO (zc4 L)=L
 | []=>rfl
 | (i,.pure) :: r=>by
  simp only[zc4,zdO];rw[if_pos (by omega),ZN r,show 4*i / 4=i by omega]
 | (i,.bar) :: r=>by
  simp only[zc4,zdO];rw[if_neg (by omega),if_pos (by omega),ZN r,show (4*i+1) / 4=i by omega]
 | (i,.flt fr) :: r=>by
  simp only[zc4,zdO];rw[if_neg (by omega),if_neg (by omega),if_pos (by omega),yo,zbc,ZN r,show (4*i+2) / 4=i by omega]
def unR:List Nat->List Bool
 | []=>[]
 | n :: r=>List.replicate n false++true :: unR r
def zni:Nat->List Bool->List Nat
 | _,[]=>[]
 | k,false :: r=>zni (k+1) r
 | k,true :: r=>k :: zni 0 r
theorem zbm:∀ (n k:Nat) (l:List Bool),zni k (List.replicate n false++true :: l)=(k+n) :: zni 0 l
 | 0,k,l=>rfl
 | n+1,k,l=>by
  rw[AT,Oh];simp only[zni];rw[zbm n (k+1) l];congr 1;omega
theorem zbj:∀ l:List Nat,zni 0 (unR l)=l
 | []=>rfl
 | n :: r=>by
  simp only[unR];rw[zbm,zbj r,Ox]
def X5 (L:List (Nat×MFl)):List Bool:=zbn 199 (unR (zc4 L))
def zhJ (br:List Bool):List (Nat×MFl):=zdO (zni 0 br)
theorem zdA (L:List (Nat×MFl)):zhJ (unR (zc4 L))=L:=by
 unfold zhJ;rw[zbj,ZN]
def zaB (ops:Array Oper) (L:List (Nat×MFl)):Bool:=zm2 (L.map (·.1)) ops.size&&(YA (YE (L.map (·.1)) ops)&&vZ (YE (L.map (·.1)) ops) (L.map (·.2)))
theorem zft {n id:Nat} {L0:List (Nat×MFl)} {Y:Hd} (hY:zoy P Y E) (hm:P.follows .mixedOrders=true) (hN:∀ o∈ops.toList,Xt E.N o.dst) (hall:zaB ops L0=true)
  (h:mix P G Y ops L0 0 [] σ K) (hI:Inv G E σ a w) (hQ:∀ a' w' σ',K σ'->Inv G E σ' a' w'->Q .normal a' w'):(Code.region id ops true).wpIn (Fl r) n P Q a w:=by
 unfold zaB at hall;simp only[Wt]at hall;obtain ⟨hpm,hok,hmx⟩:=hall;have hπ:=zjO hpm;rw[zk9 hπ L0 0 [] σ fun x hx=>hπ.lt _ (BO hx)]at h;have hlst:(L0.map fun x=>reO (L0.map (·.1)) (ops.getD x.1 default))=(YE (L0.map (·.1)) ops).toList:=by
  unfold YE;simp
 rw[hlst]at h;have hsz:=QG hπ;have hN':∀ o∈(YE (L0.map (·.1)) ops).toList,Xt E.N o.dst:=fun o ho=>by
  rw[←hlst]at ho;obtain ⟨x,hx,rfl⟩:=WR.1 ho;have hi:=hπ.lt _ (BO hx);have:ops.getD x.1 default=ops[x.1]:=by rw[Wq,WY hi];rfl
  rw[this];exact hN ops[x.1] (by simp)
 obtain ⟨R,L,rfl,hI⟩:=hI;refine wpIn_region_any hm ?_
 let R':Env:=⟨{ R.w with drawn:=R.w.drawn+1 },R.M,R.F⟩
 have hext:Ext R R':=⟨fun b o v h1 h2=>⟨h1,h2⟩,fun _ _ _ _ h1 h2=>⟨h1,h2⟩⟩;have hnear:Ml E.w0 E.ex R R':=⟨rfl,rfl,rfl,Wb _,rfl,hext,fun b _=>.inl ⟨rfl,fun _=>Iff.rfl⟩⟩;have hg:=hI.good;have hinv:qH G E σ a R' L:=by
  refine ⟨hg.move hnear.nigh ⟨hg.fit.glob.ext hext,⟨hg.fit.boxes.len,hg.fit.boxes.nodup,fun i b cs hi hc=>?_⟩,⟨fun id e k v ht=>?_,hg.fit.owns.apart⟩,hg.fit.base⟩ ⟨[],by rw[Oi],fun b hb=>by cases hb⟩ (fun id e k v b ht hv=>.inl ⟨id,e,k,v,ht,hv⟩) hg.free,hI.size,hI.df.near hnear,fun t=>Rep.ext hext (zM.refl _) _ _ (hI.tm t)⟩
  ·obtain ⟨vs,ty,e1,e2,e3,e4⟩:=hg.fit.boxes.box i b cs hi hc;exact ⟨vs,ty,e1,zy.ext hext (zM.refl _) _ _ e2,e3,e4⟩
  ·exact (hg.fit.owns.own id e k v ht).move fun g _ q2 _ q7=>⟨q2,rfl,q7,fun _ h=>h⟩
 have hlist:∀ i,(Array.replicate ops.size false).getD i false=false:=fun i=>by
  rw[Wq,A6];split<;>rfl
 refine zaE (π:=L0.map (·.1)) hπ ops.size _ (Array.replicate ops.size false) a R'.w ⟨by simp,by simp,fun i _=>by rw[hlist,hlist]⟩ ?_;refine zmi (E:=E) (R:=R') (L:=L) (fs:=L0.map (·.2)) hY hN' hok hmx (fun a1 R1 L1 σ1 hK h1=>hQ a1 R1.w σ1 hK ⟨R1,L1,rfl,h1⟩) _ 0 0 [] σ.bx σ.lg ⟨fun _=>σ.tm,fun _=>σ.nx,fun _=>.any,fun _=>true⟩ ops.size _ a rfl (Wc _) (Wb _) (by simp[hsz]) ?_ (fun i o hi h=>?_) (fun i hi=>by omega) (fun i _=>hlist i) (fun e he=>by omega) ⟨fun i o h1 h2=>by omega⟩ (fun i o h1 h2=>by omega) ?_ (by simpa using h)
 ·rw[Be,A1];exact Wb _
 ·have h:(Array.replicate ops.size false).getD i false=true:=h;rw[hlist]at h;cases h
 ·refine ⟨{ hinv.good with },fun id hid _=>hinv.good.free id hid,hinv.size,hinv.df,fun t=>?_⟩;rw[qL (D':=fun _=>false) _ fun j _ _=>by simp[hlist j],Jb 0 _ (Wc _) fun _ _ _ _=>rfl];exact hinv.tm t
end
end
section
open Go.RowKit
def zrk (next:St->Prop) (Q:Exit->St->Prop):Exit->St->Prop
 | .normal,σ=>next σ
 | e,σ=>Q e σ
def xK (id:Nat) (Q:Exit->St->Prop):Exit->St->Prop
 | .exit id',σ=>if id'=id then Q .normal σ else Q (.exit id') σ
 | e,σ=>Q e σ
def zgz (Q:Exit->St->Prop):Exit->St->Prop
 | .goto _,_=>False
 | e,σ=>Q e σ
def zm5 (next:St->Prop) (Q:Exit->St->Prop):Exit->St->Prop
 | .normal,σ=>next σ
 | e,σ=>Q e σ
def zj2 (p:Nat) (B:(Exit->St->Prop)->St->Prop) (Q:Exit->St->Prop) (σ:St):Prop:=
 ∃ (ι:Type) (I:ι->St) (ok:ι->Prop) (μ:ι->Nat) (i0:ι),ok i0/\JM p σ (I i0)/\∀ i,ok i->B (zm5 (fun σ'=>∃ j,ok j/\μ j<μ i/\JM p σ' (I j)) Q) (I i)
def zpF (P:Program) (G:zp) (Y:Hd) (ops:Array Oper):List Oper->St->(St->Prop)->Prop
 | [],σ,K=>K σ
 | o :: rest,σ,K=>jj ops σ.tm o.guard (Mn P G Y o.op σ fun c σ'=>zpF P G Y ops rest (σ'.put o.dst c) K) (zpF P G Y ops rest (σ.put o.dst (.sc undef)) K)
def HR (P:Program) (G:zp) (h:Hd) (ops:Array Oper) (br:List Bool) (σ:St) (K:St->Prop):Prop:=
 match Qc br with
 | some (a,s,b,t)=>Za P G ops a s b t ops.toList 0 none none σ K
 | none=>match H4 br with
  | some (a,s)=>jN P G ops a s ops.toList 0 none σ K
  | none=>match He br with
   | some (_,br')=>mix P G h ops (zhJ br') 0 [] σ K
   | none=>ZM P G h ops ops.toList br σ K
def awp (P:Program) (G:zp):Hd->Code->(Exit->St->Prop)->St->Prop
 | _,.skip,Q,σ=>Q .normal σ
 | _,.label _,Q,σ=>Q .normal σ
 | _,.exit id,Q,σ=>Q (.exit id) σ
 | _,.goto l,Q,σ=>Q (.goto l) σ
 | _,.ret,Q,σ=>Q .ret σ
 | h,.seq x y,Q,σ=>awp P G h x (zrk (awp P G h y Q) Q) σ
 | h,.cond c x y,Q,σ=>ABr (zr G σ.tm c) (awp P G h x Q σ) (awp P G h y Q σ)
 | h,.block id c,Q,σ=>awp P G h c (xK id Q) σ
 | h,.loop c,Q,σ=>zj2 h.p (awp P G h c) Q σ
 | h,.scope c,Q,σ=>awp P G h c (zgz Q) σ
 | h,.region id ops draw,Q,σ=>match draw with
  | true=>HR P G h ops (h.b id) σ (Q .normal)
  | false=>zpF P G h ops ops.toList σ (Q .normal)
 | h,.rangeFunc f ps x y,Q,σ=>za2 P G h.p (fun m=>awp P G ⟨m,h.y,h.b⟩ x) (fun m=>awp P G ⟨m,h.y,h.b⟩ y) Q ps.toList (zr G σ.tm f) σ
 | _,.refuse _,_,_=>False
def jX (N:Nat) (b:Nat->List Bool):Code->Bool
 | .seq x y=>jX N b x&&jX N b y
 | .cond _ x y=>jX N b x&&jX N b y
 | .block _ c=>jX N b c
 | .loop c=>jX N b c
 | .scope c=>jX N b c
 | .region id ops draw=>(ops.toList.all fun o=>match o.dst with | some d=>decide (d<N) | none=>true)&&(!draw||(YA ops&&match Qc (b id) with | some (a,s,c,t)=>NW ops a s c t | none=>match H4 (b id) with | some (a,s)=>YO ops a s | none=>match He (b id) with | some (_,br')=>zaB ops (zhJ br') | none=>Q0 ops (b id)))
 | .rangeFunc _ ps x y=>(ps.toList.all fun p=>decide (p<N))&&jX N b x&&jX N b y
 | _=>true
section
variable {P:Program} {G:zp} {E:Ctx} {σ:St} {a:Act} {N p:Nat} {bx:List (List C)} {ops:Array Oper}
theorem ziL (h:(l.all fun o=>match o.dst with | some d=>decide (d<N) | none=>true)=true):∀ o∈l,Xt N o.dst:=fun o ho=>by
 have:=WC.1 h o ho;unfold Xt;cases hd:o.dst with
 | none=>trivial
 | some d=>simpa [hd] using this
theorem Vt {Y:Hd} (hY:zoy P Y E) {r:Option Nat} {n:Nat} {Q:Exit->Act->World->Prop} {K:St->Prop} (hQ:∀ a' w' σ',K σ'->Inv G E σ' a' w'->Q .normal a' w'):∀ (l:List Oper) (σ:St) (a:Act) (w:World),(∀ o∈l,Xt E.N o.dst)->zpF P G Y ops l σ K->Inv G E σ a w ->
  (∀ (j:Nat) (o:Oper),ops[j]?=some o->Xt E.N o.dst)->wpListIn (Fl r) n P ops Q l a w
 | [],σ,a,w,_,h,hI,_=>hQ a w σ h hI
 | o :: rest,σ,a,w,hd,h,hI,hops=>by
  obtain ⟨b,hg,h1,h2⟩:=jj.out h;obtain ⟨R,L,rfl,hI⟩:=hI;have hguard:Region.wanted o (yielded ops a.tmps)=b:=jS (tm:=σ.tm) (R:=R) (L:=L) rfl hg fun j want d hgd hdd=>by
   refine ⟨?_,hI.tm d⟩;rw[hI.size];cases hj:ops[j]? with
   | none=>rw[hj]at hdd;cases hdd
   | some o' =>
    rw[hj]at hdd;have hd':o'.dst=some d:=hdd;have:=hops j o' hj;rw[hd']at this;exact this
  have hdo:=hd o Wk;have hdr:∀ o'∈rest,Xt E.N o'.dst:=fun o' ho'=>hd o' (Wl _ ho');simp only[wpListIn,hguard];cases b with
  | true =>
   simp only[if_true];refine jG ((Vm hY (h1 rfl) hI).mono fun v w'=>?_);rintro ⟨c,σ',R',L',rfl,hI',hv,hK⟩;exact Vt hY hQ rest _ _ _ hdr hK ⟨R',L',rfl,hI'.put hdo hv⟩ hops
  | false =>
   simp only[WN,W2];exact ⟨fun f _=>trivial,Vt hY hQ rest _ _ _ hdr (h2 rfl) ⟨R,L,rfl,hI.put hdo (zq.2 rfl)⟩ hops⟩
theorem Zh {F:Fence} {c:Code} (h:c.wpIn F n P (Exit.noGoto Q) a w):(Code.scope c).wpIn F n P Q a w:=by
 intro b k cs hro hb hr;obtain ⟨e,a₁,w₁,hq,harr⟩:=h b (.inScope c :: k) cs hro hb hr;have h0:StepsIn (Machine.fenced P F) P (lone (b.atR a (.code (.scope c) :: k)) cs w) (lone (b.atR a (.code c :: .inScope c :: k)) cs w):=
  .one (fenced_calm hb hr rfl) (step_lone_go (by simp[stepG,stepG.exec,Frame.atR]))
 cases e with
 | normal=>exact ⟨.normal,a₁,w₁,hq,.trans (.trans h0 harr) (.one (fenced_calm hb hr rfl) (step_lone_go (by simp[stepG,stepG.exec,Frame.atR])))⟩
 | exit id=>exact ⟨.exit id,a₁,w₁,hq,fun k' hk=>StepsIn.trans h0 (harr.1 k' (by simp[exitTo,hk])),fun hr hk=>let ⟨k₁,h1,h2⟩:=harr.2 hr (by simp[exitTo,hk]);⟨k₁,h1,StepsIn.trans h0 h2⟩⟩
 | goto l=>exact hq.elim
 | ret=>exact ⟨_,a₁,w₁,hq,.of_steps h0 harr⟩
 | panic ch=>exact ⟨_,a₁,w₁,hq,.of_steps h0 harr⟩
 | outgrown=>exact ⟨_,a₁,w₁,hq,.of_steps (b:=b) (k:=k) (cs:=cs) (e:=.outgrown) h0 harr⟩
theorem zdR (hm:P.follows .mixedOrders=true):∀ (c:Code) (h:Hd) (E:Ctx) (r:Option Nat) (n:Nat),E.β0.length<=h.p->(∀ y,h.y=some y->YOk P y E.J)->uE r E->∀ (Q:Exit->St->Prop) (σ:St) (a:Act) (w:World),jX E.N h.b c=true->awp P G h c Q σ->Inv G E σ a w->c.wpIn (Fl r) n P (zox G E Q) a w:=by
  intro c
  induction c with
  | skip=>exact fun h E r n _ _ _ Q σ a w _ hA hI=>wpIn_skip ⟨σ,hA,hI⟩
  | label l=>exact fun h E r n _ _ _ Q σ a w _ hA hI=>wpIn_label ⟨σ,hA,hI⟩
  | exit id=>exact fun h E r n _ _ _ Q σ a w _ hA hI=>wpIn_exit ⟨σ,hA,hI⟩
  | goto l=>exact fun h E r n _ _ _ Q σ a w _ hA hI=>wpIn_goto ⟨σ,hA,hI⟩
  | ret=>exact fun h E r n _ _ _ Q σ a w _ hA hI=>wpIn_ret ⟨σ,hA,hI⟩
  | refuse s=>exact fun h E r n _ _ _ Q σ a w _ hA hI=>hA.elim
  | rangeFunc f ps x y ihx ihy =>
    intro h E r n hp hY hr Q σ a w hc hA hI;simp only[jX,Wt]at hc;exact yX (fun E' m l Q' σ' a' w' hN hβ hJ hr' hA' hI'=>ihx ⟨m,h.y,h.b⟩ E' (some l) 0 hβ (fun y hy=>by rw[hJ];exact hY y hy) hr' Q' σ' a' w' (by rw[hN];exact hc.1.2) hA' hI')
      (fun E' m l Q' σ' a' w' hN hβ hJ hr' hA' hI'=>ihy ⟨m,h.y,h.b⟩ E' (some l) 0 hβ (fun y hy=>by rw[hJ];exact hY y hy) hr' Q' σ' a' w' (by rw[hN];exact hc.2) hA' hI')
      (fun p hp=>by have:=WC.1 hc.1.1 p hp;simpa using this) hp hr hA hI
  | seq x y ihx ihy =>
    intro h E r n hp hY hr Q σ a w hc hA hI;simp only[jX,Wt]at hc;refine wpIn_seq (BT (ihx h E r n hp hY hr _ σ a w hc.1 hA hI) ?_);rintro e a' w' ⟨σ',hq,hI'⟩;cases e<;>first | exact ihy h E r n hp hY hr Q σ' a' w' hc.2 hq hI' | exact ⟨σ',hq,hI'⟩
  | cond c x y ihx ihy =>
    intro h E r n hp hY hr Q σ a w hc hA hI;simp only[jX,Wt]at hc;obtain ⟨b,hb,h1,h2⟩:=ABr.out hA;obtain ⟨R,L,rfl,hI⟩:=hI;have hev:=hI.ev c;rw[hb,zq]at hev;refine wpIn_cond hev ?_;cases b with
    | true=>exact ihx h E r n hp hY hr Q σ a _ hc.1 (h1 rfl) ⟨R,L,rfl,hI⟩
    | false=>exact ihy h E r n hp hY hr Q σ a _ hc.2 (h2 rfl) ⟨R,L,rfl,hI⟩
  | block id c ih =>
    intro h E r n hp hY hr Q σ a w hc hA hI;refine wpIn_block (BT (ih h E r n hp hY hr _ σ a w hc hA hI) ?_);rintro e a' w' ⟨σ',hq,hI'⟩;cases e<;>first
      | exact ⟨σ',hq,hI'⟩
      | (simp only[xK]at hq
         simp only[Exit.inBlock];split at hq
         · rw[if_pos (by assumption)];exact ⟨σ',hq,hI'⟩
         · rw[if_neg (by assumption)];exact ⟨σ',hq,hI'⟩)
  | scope c ih =>
    intro h E r n hp hY hr Q σ a w hc hA hI;refine Zh (BT (ih h E r n hp hY hr _ σ a w hc hA hI) ?_);rintro e a' w' ⟨σ',hq,hI'⟩;cases e<;>first | exact hq.elim | exact ⟨σ',hq,hI'⟩
  | loop c ih =>
    intro h E r n hp hY hr Q σ a w hc hA hI;obtain ⟨ι,I,ok,μ,i0,h0,hw,hrd⟩:=hA;refine wpIn_loop_ghost (fun m a w=>∃ i,ok i/\μ i=m/\Inv G E (I i) a w) (μ i0) ⟨i0,h0,rfl,hI.weak hp hw⟩ ?_;rintro m a w ⟨i,hi,rfl,hI⟩;refine BT (ih h E r n hp hY hr _ _ a w hc (hrd i hi) hI) ?_;rintro e a' w' ⟨σ',hq,hI'⟩;cases e<;>first
      | exact ⟨σ',hq,hI'⟩
      | (obtain ⟨j,hj,hlt,hw'⟩:=hq
         exact ⟨_,hlt,j,hj,rfl,hI'.weak hp hw'⟩)
  | region id ops draw =>
    intro h E r n hp hY hr Q σ a w hc hA hI;simp only[jX,Wt]at hc;have hd:=ziL hc.1;cases draw with
    | true =>
      have hok:YA ops=true/\(match Qc (h.b id) with | some (a,s,c,t)=>NW ops a s c t | none=>match H4 (h.b id) with | some (a,s)=>YO ops a s | none=>match He (h.b id) with | some (_,br')=>zaB ops (zhJ br') | none=>Q0 ops (h.b id))=true:=by simpa using hc.2
      obtain ⟨ho1,ho2⟩:=hok;have hA:HR P G h ops (h.b id) σ (Q .normal):=hA;unfold HR at hA;cases hl2:Qc (h.b id) with
      | some q =>
        obtain ⟨qa,qs,qb,qt⟩:=q;rw[hl2]at ho2 hA;exact vu hm hd ho1 ho2 hA hI fun a' w' σ' hK hI'=>⟨_,hK,hI'⟩
      | none =>
        rw[hl2]at ho2 hA;simp only at ho2 hA;cases hl:H4 (h.b id) with
        | none =>
          rw[hl]at ho2 hA;simp only at ho2 hA;cases hfl:He (h.b id) with
          | none =>
            rw[hfl]at ho2 hA;exact zc7 ⟨hY,hp⟩ hm hd ho1 ho2 hA hI fun a' w' σ' hK hI'=>⟨_,hK,hI'⟩
          | some q =>
            obtain ⟨s,br'⟩:=q;rw[hfl]at ho2 hA;exact zft ⟨hY,hp⟩ hm hd ho2 hA hI fun a' w' σ' hK hI'=>⟨_,hK,hI'⟩
        | some q =>
          obtain ⟨qa,qs⟩:=q;rw[hl]at ho2 hA;exact zcd hm hd ho1 ho2 hA hI fun a' w' σ' hK hI'=>⟨_,hK,hI'⟩
    | false =>
      refine wpIn_region_list (Vt ⟨hY,hp⟩ (K:=Q .normal) (fun a' w' σ' hK hI'=>⟨σ',hK,hI'⟩) _ σ a w hd hA hI fun j o hj=>?_);exact hd o (by rw[OE];exact OZ hj)
def J3 (P:Program) (σ:St) (rv:ResultVar) (K:C->Prop):Prop:=
 match rv with
 | .tmp t=>K (jU σ.tm t)
 | .cell b t=>vm P t (jU σ.tm b) σ.bx K
def zoB (P:Program) (σ:St) (rs:List ResultVar) (K:C->Prop):Prop:=
 match rs with
 | []=>K (.tup [])
 | [x]=>J3 P σ x K
 | [x,y]=>J3 P σ x fun c=>J3 P σ y fun d=>K (.tup [c,d])
 | [x,y,z]=>J3 P σ x fun c=>J3 P σ y fun d=>J3 P σ z fun e=>K (.tup [c,d,e])
 | [x,y,z,u]=>J3 P σ x fun c=>J3 P σ y fun d=>J3 P σ z fun e=>J3 P σ u fun f=>K (.tup [c,d,e,f])
 | _=>False
def yi (tmps:Array Value):ResultVar->Sem Value
 | .tmp t=>pure (tmps.getD t undef)
 | .cell b t=>do loadVar t (←asAddr (tmps.getD b undef))
theorem jf (h:qH G E σ a R L) {rv:ResultVar} {K:C->Prop} (hK:J3 P σ rv K):∃ v c,(yi a.tmps rv).run P R.w = .ok v R.w/\Rep R L c v/\K c:=by
 cases rv with
 | tmp t=>exact ⟨_,_,rfl,h.tm t,hK⟩
 | cell b t =>
  obtain ⟨c,h1,h2⟩:=zhM K (show vm P t (jU σ.tm b) σ.bx K from hK);obtain ⟨v,ad,e1,e2,e3⟩:=h1 R L (a.tmps.getD b undef) h.good.fit.boxes (h.tm b);refine ⟨v,c,?_,e3,h2⟩;rw[e1]at e2;simp only[Instr.loadAt,Instr.sureAddr,Wn,WB,Wi]at e2;simp only[yi,e1,asAddr,Wn,WB,Wi,e2]
theorem vT {rs:List ResultVar} (hrs:fn.results.toList=rs) (tmps:Array Value) (w:World):(results fn tmps).run P w=(((rs.mapM (yi tmps)).run P w).andThen fun vs w'=>.ok (if h:vs.length=1 then vs[0]'(by omega) else .tuple vs.toArray) w'):=by
 have e0:fn.results=rs.toArray:=by rw[←hrs]
 unfold results;rw[e0,Array.mapM_eq_mapM_toList];change (Sem.run P (do
  let vs ←List.toArray <$> List.mapM (yi tmps) rs
  pure (if h:vs.size=1 then vs[0] else Value.tuple vs)) w)=_
 simp only[Wn,Sem.run_map];cases h:(rs.mapM (yi tmps)).run P w with
 | ok vs w' =>
  simp
 | halt x w'=>simp
theorem ziz (h:qH G E σ a R L) {rs:List ResultVar} (hrs:fn.results.toList=rs) {K:C->Prop} (hK:zoB P σ rs K):∃ v c,(results fn a.tmps).run P R.w = .ok v R.w/\Rep R L c v/\K c:=by
 rw[vT hrs];unfold zoB at hK;split at hK
 ·exact ⟨.tuple #[],_,by simp,VD.2 ⟨_,rfl,zl.2 rfl⟩,hK⟩
 ·rename_i x;obtain ⟨v,c,h1,h2,h3⟩:=jf h hK;exact ⟨v,c,by simp[h1],h2,h3⟩
 ·rename_i x y;obtain ⟨v,c,h1,h2,hK⟩:=jf h hK;obtain ⟨v2,c2,g1,g2,hK⟩:=jf h hK;exact ⟨_,_,by simp[h1,g1],VD.2 ⟨#[v,v2],rfl,zh.2 ⟨_,_,rfl,h2,zh.2 ⟨_,_,rfl,g2,zl.2 rfl⟩⟩⟩,hK⟩
 ·rename_i x y z;obtain ⟨v,c,h1,h2,hK⟩:=jf h hK;obtain ⟨v2,c2,g1,g2,hK⟩:=jf h hK;obtain ⟨v3,c3,k1,k2,hK⟩:=jf h hK;exact ⟨_,_,by simp[h1,g1,k1],VD.2 ⟨#[v,v2,v3],rfl,zh.2 ⟨_,_,rfl,h2,zh.2 ⟨_,_,rfl,g2,zh.2 ⟨_,_,rfl,k2,zl.2 rfl⟩⟩⟩⟩,hK⟩
 ·rename_i x y z u;obtain ⟨v,c,h1,h2,hK⟩:=jf h hK;obtain ⟨v2,c2,g1,g2,hK⟩:=jf h hK;obtain ⟨v3,c3,k1,k2,hK⟩:=jf h hK;obtain ⟨v4,c4,l1,l2,hK⟩:=jf h hK;exact ⟨_,_,by simp[h1,g1,k1,l1],VD.2 ⟨#[v,v2,v3,v4],rfl,zh.2 ⟨_,_,rfl,h2,zh.2 ⟨_,_,rfl,g2,zh.2 ⟨_,_,rfl,k2,zh.2 ⟨_,_,rfl,l2,zl.2 rfl⟩⟩⟩⟩⟩,hK⟩
 ·exact hK.elim
def zlG (P:Program) (rs:List ResultVar) (K:C->St->Prop):Exit->St->Prop
 | .normal,σ=>zoB P σ rs fun c=>K c σ
 | .ret,σ=>zoB P σ rs fun c=>K c σ
 | _,_=>False
def UD:Nat->List C->List (Nat×C)
 | _,[]=>[]
 | i,c :: r=>(i,c) :: UD (i+1) r
theorem zbl {R:Env} {L:Loc}:∀ (cs:List C) (vs:List Value) (i:Nat) (f:Nat->Value),zy R L cs vs->(∀ (j:Nat) v,vs[j]?=some v->f (i+j)=v)->∀ t,Rep R L (jU (UD i cs) t) (f t)
 | [],vs,i,f,h,hf,t=>by unfold UD jU Rep;trivial
 | c :: r,vs,i,f,h,hf,t=>by
  obtain ⟨v,us,rfl,h1,h2⟩:=zh.1 h;simp only[UD,jU];split
  ·subst_vars
   have:=hf 0 v rfl;rw[Ag]at this;rw[this];exact h1
  ·exact zbl r us (i+1) f h2 (fun j v hj=>by
    have:=hf (j+1) v (by simpa using hj);rwa [show i+1+j=i+(j+1) by omega]) t
theorem Ue {L:Loc} {Rr:Ending->World->Prop} {fn:Func} (hE:E.df = []):∀ (l:List Nat) (a:Act) (R:Env),a.defers=l.map J8->l.Nodup->(∀ d∈l,R.w.heap[d]?=some (.deferred (some []))/\E.w0.heap.size<=d/\¬R.F d)->qH G E σ a R L ->
  (∀ a' R',a'.tmps=a.tmps->qH G E σ a' R' L->∃ v,(results fn a.tmps).run P R'.w = .ok v R'.w/\Rr (.returned v) R'.w)->LeavesInM Fence.wide 0 P fn a.tmps Rr a.defers .returning R.w
 | [],a,R,hd,_,_,hI,hk=>by
  rw[hd];obtain ⟨v,h1,h2⟩:=hk a R rfl hI;exact ⟨v,h1,h2⟩
 | d :: l,a,R,hd,hn,hl,hI,hk=>by
  obtain ⟨h1,h2,h3⟩:=hl d Wk;rw[hd];refine ⟨by simp,.inl ⟨d,_,rfl,run_takeDeferred h1,?_⟩⟩;have hni:=Xz (E:=E) (R:=R) (o:=.deferred none) (.inl h2) h3 (fun cs t f hc=>by rw[h1]at hc;cases hc);have hnT:¬Xv L d:=fun hb=>by
   obtain ⟨_,_,_,hc⟩:=hI.good.turf hb;rcases hc with ⟨cs,t,f,hc⟩ | ⟨cs,t,hc⟩<;>exact nomatch h1.symm.trans hc
  have hg:=hI.good.stay hni fun b hb=>⟨WX fun e=>hnT (e▸hb),fun _=>Iff.rfl⟩;have hl':∀ x∈l,(R.w.putObj d (.deferred none)).heap[x]?=some (.deferred (some []))/\E.w0.heap.size<=x/\¬R.F x:=fun x hx=>by
   obtain ⟨g1,g2,g3⟩:=hl x (Wl _ hx);exact ⟨(WX fun e:x=d=>(OT.1 hn).1 (by rw[←e];exact hx)).trans g1,g2,g3⟩
  exact Ue hE l { a with defers:=l.map J8 } ⟨R.w.putObj d (.deferred none),R.M,R.F⟩ rfl (OT.1 hn).2 hl'
   ⟨hg,hI.size,⟨l,by rw[hE,Oi],(OT.1 hn).2,hl'⟩,fun t=>Rep.ext hni.ext (zM.refl _) _ _ (hI.tm t)⟩ hk
theorem YR {h:Hd} {vs:List Value} {K:C->St->Prop} {Rr:Ending->World->Prop} (hm:P.follows .mixedOrders=true) (hf:P.funcs[f]?=some fn) (hb:fn.body=some code) (hok:jX fn.ntmps h.b code=true)
  (hN:E.N=fn.ntmps) (hdf:E.df = []) (hp:E.β0.length<=h.p) (hY:∀ y,h.y=some y->YOk P y E.J) (hA:awp P G h code (zlG P fn.results.toList K) σ)
  (hI:qH G E σ { tmps:=vs.toArray++Array.replicate (fn.ntmps-vs.toArray.size) undef,defers:=[] } R L)
  (hK:∀ σ' a' R' L' v c,K c σ'->qH G E σ' a' R' L'->Rep R' L' c v->Rr (.returned v) R'.w):Calls P f vs.toArray R.w Rr:=by
 refine (callsIn_wide (n:=0)).1 (callsIn_of_wp_marks hf hb trivial (BT (zdR hm code h E none 0 hp hY (fun l0 hl0=>by cases hl0) _ σ _ _ (by rw[hN];exact hok) hA ⟨R,L,rfl,hI⟩) ?_));have fin:∀ a' w' σ',zoB P σ' fn.results.toList (fun c=>K c σ')->Inv G E σ' a' w'->LeavesInM Fence.wide 0 P fn a'.tmps Rr a'.defers .returning w':=by
  rintro a' w' σ' hres ⟨R',L',rfl,hI'⟩;obtain ⟨l,e,hn,hl⟩:=hI'.df;rw[hdf,Oi]at e;refine Ue hdf l a' R' e hn hl hI' fun a2 R2 ha hI2=>?_;obtain ⟨v,c,h1,h2,h3⟩:=ziz (fn:=fn) hI2 rfl hres;rw[ha]at h1;exact ⟨v,h1,hK σ' a2 R2 L' v c h3 hI2 h2⟩
 rintro e a' w' ⟨σ',hq,hI'⟩;cases e<;>first | exact hq.elim | exact fin a' w' σ' hq hI'
theorem ZY {vs:List Value} (hN:args.length<=n) (hargs:zy R L args vs):(vs.toArray++Array.replicate (n-vs.toArray.size) undef).size=n/\∀ t,Rep R L (jU (UD 0 args) t) ((vs.toArray++Array.replicate (n-vs.toArray.size) undef).getD t undef):=by
 have hvl:=zA hargs;refine ⟨by simp;omega,zbl args vs 0 _ hargs fun j v hj=>?_⟩;have hj':j<vs.length:=(Wd.1 hj).1;rw[Ox,Wq,Array.getElem?_append_left (by simpa using hj')];simp[hj]
theorem ko {R R2:Env} {L:Loc} {b:Nat} {vs:Array Value} {ty:TypeId} (he:Ext R R2) (hh:R2.w.heap[b]?=some (.cells vs ty (0,0))) (hM:∀ o,¬R2.M b o):∀ (cs:List C) (us:List Value) (off:Nat),zy R L cs us->vs.toList.drop off=us->(∀ v∈us,v.oneCell'=true)->zN R2 (C.frzL cs) b off
 | [],_,_,_,_,_=>by unfold C.frzL;exact Jk
 | c :: r,us,off,hr,hd,h1=>by
  obtain ⟨v,us',rfl,g1,g2⟩:=zh.1 hr;unfold C.frzL;have hv:vs[off]?=some v:=by
   have:=W4 (xs:=vs.toList) (i:=off) (j:=0);rw[hd]at this;simpa using this.symm
  refine qo.2 ⟨⟨v,?_,hM off,Rep.ext he (zM.refl _) _ _ (g1.frz zJ),h1 v Wk⟩,ko he hh hM r us' (off+1) g2 ?_ fun x hx=>h1 x (Wl _ hx)⟩
  ·rw[Al R2.w b off vs ty (0,0) hh];exact hv
  ·rw[←AC,hd];rfl
theorem Ht:∀ (n:Nat) (cs:List C),C.frzL (cs.drop n)=(C.frzL cs).drop n
 | 0,_=>rfl
 | n+1,[]=>by simp[C.frzL]
 | n+1,c :: r=>by
  have h:C.frzL (c :: r)=c.frz :: C.frzL r:=by rw[C.frzL]
  rw[h];exact Ht n r
mutual
theorem Rep.fz {R2:Env} {bx:List (List C)} (he:Ext R R2) (hbx:jR R L bx) (hw:R2.w=R.w) (hM:∀ b∈L.β,∀ o,¬R2.M b o):∀ (c:C) (v:Value),Rep R L c v->Rep R2 L (c.fz bx) v
 | .ptr i off,_,h=>by
  unfold C.fz;obtain ⟨b,hb,e⟩:=Jr.1 h;split
  ·rename_i cs hcs;obtain ⟨vs,ty,e1,e2,e3,e4⟩:=hbx.box i b cs hb hcs;refine Jd.2 ⟨b,off,e,?_⟩;rw[←Ht];refine ko (L:=L) he (by rw[hw];exact e1) (hM b (Wf hb)) _ (vs.toList.drop off) off (qZ off e2) rfl fun x hx=>e3 x (WU hx)
  ·exact V3
 | .agg cs,_,h=>by
  unfold C.fz;unfold Rep at h ⊢;obtain ⟨vs,e,hl⟩:=h;exact ⟨vs,e,zy.fz he hbx hw hM cs _ hl⟩
 | .tup cs,_,h=>by
  unfold C.fz;unfold Rep at h ⊢;obtain ⟨vs,e,hl⟩:=h;exact ⟨vs,e,zy.fz he hbx hw hM cs _ hl⟩
 | .clo fn first cap,_,h=>by
  unfold C.fz;unfold Rep at h ⊢;obtain ⟨fs,cs,e,h1,h2⟩:=h;exact ⟨fs,cs,e,zy.fz he hbx hw hM first _ h1,zy.fz he hbx hw hM cap _ h2⟩
 | .sc v,_,h=>Rep.ext he (zM.refl _) _ _ h
 | .str l,_,h=>Rep.ext he (zM.refl _) _ _ h
 | .sl k rows,_,h=>Rep.ext he (zM.refl _) _ _ h
 | .tight k rows,_,h=>Rep.ext he (zM.refl _) _ _ h
 | .own id e k rows,_,h=>Rep.ext he (zM.refl _) _ _ h
 | .mo id t ks vs,_,h=>Rep.ext he (zM.refl _) _ _ h
 | .row cs,_,h=>Rep.ext he (zM.refl _) _ _ h
 | .bs i off k n c,_,h=>by unfold C.fz;exact V3
 | .any,_,h=>Rep.ext he (zM.refl _) _ _ h
theorem zy.fz {R2:Env} {bx:List (List C)} (he:Ext R R2) (hbx:jR R L bx) (hw:R2.w=R.w) (hM:∀ b∈L.β,∀ o,¬R2.M b o):∀ (cs:List C) (vs:List Value),zy R L cs vs->zy R2 L (C.fzL bx cs) vs
 | [],_,h=>by unfold C.fzL;rw[zl]at h ⊢;exact h
 | c :: r,_,h=>by
  unfold C.fzL;rw[zh]at h ⊢;obtain ⟨v,us,e,h1,h2⟩:=h;exact ⟨v,us,e,Rep.fz he hbx hw hM c v h1,zy.fz he hbx hw hM r us h2⟩
end
theorem Fun.of_awp {r:C} (b:Nat->List Bool) (hm:P.follows .mixedOrders=true) (hf:P.funcs[f]?=some fn) (hb:fn.body=some code) (hnm:(fn.name == "runtime.NumGoroutine")=false) (hN:args.length<=fn.ntmps) (hok:jX fn.ntmps b code=true)
  (h:awp P G ⟨0,none,b⟩ code (zlG P fn.results.toList fun c σ=>∃ src:Src,QU src=true/\src.length=n/\CLe src 0 (c.fz σ.bx) r) ⟨UD 0 args,[],0,0⟩):Fun P G f args r n:=by
 refine ⟨by unfold Y1;rw[hf];simp[hnm,hb],fun R vs hg hargs=>?_⟩
 let E:Ctx:=⟨R.w,R.M,[],fun _=>False,fn.ntmps,[],fun _=>False,fun _=>False,fun _ h=>h,fun _ _=>True,fun _ _ _ _ _=>trivial⟩
 let R0:Env:=⟨R.w,R.M,fun _=>False⟩
 have hx:Ext R R0:=⟨fun _ _ _ h1 h2=>⟨h1,h2⟩,fun _ _ _ _ h1 h2=>⟨h1,h2⟩⟩;have hargs0:zy R0 zJ args vs:=zy.ext hx (zM.refl _) _ _ hargs;obtain ⟨i1,i2⟩:=ZY hN hargs0;have hinv:qH G E ⟨UD 0 args,[],0,0⟩ { tmps:=vs.toArray++Array.replicate (fn.ntmps-vs.toArray.size) undef,defers:=[] } R0 zJ:=
  ⟨⟨⟨hg.ext hx,⟨rfl,An,fun i b cs hi=>(by simp at hi)⟩,⟨fun id e k v ht=>(by cases ht),fun id id' e k v e' k' v' b ht=>(by cases ht)⟩,fun g hg=>.inl hg⟩,rfl,rfl,rfl,Wb _,fun _ _ _ _=>⟨rfl,fun _=>Iff.rfl⟩,⟨fun _ _ _ h1 h2=>⟨h1,h2⟩,fun _ _ _ _ h1 h2=>⟨h1,h2⟩⟩,⟨[],rfl⟩,fun b hb=>(by cases hb),fun _ h=>h.elim,fun _ _=>Iff.rfl,fun b hb=>(by cases hb),fun id e k v b ht=>(by cases ht),fun _ _=>rfl,trivial⟩,i1,⟨[],rfl,An,fun d hd=>(by cases hd)⟩,i2⟩
 refine YR (E:=E) (R:=R0) hm hf hb hok rfl rfl (Wc _) (fun y hy=>by cases hy) h hinv ?_;rintro σ' a' R' L' v c ⟨src,h3,h4,h5⟩ hI h2;have hgd:=hI.good;have hblk:∀ b,b<R.w.heap.size->R'.w.heap[b]?=R.w.heap[b]?/\∀ o,(R'.M b o↔R.M b o):=fun b hb=>hgd.blk b hb (fun h=>h) fun hF=>(hgd.fz b hb).1 hF;have hx':Ext R' ⟨R'.w,fun b o=>R'.M b o/\b∉L'.β,R.F⟩:=⟨fun _ _ _ h1 h2=>⟨h1,fun h=>h2 h.1⟩,fun _ _ _ _ h1 h2=>⟨h1,fun o h=>h2 o h.1⟩⟩;have how:=UF (β':=[]) h3 (fun b hb=>(by cases hb)) hgd.fit.owns;have hnew:∀ b∈L'.β,R.w.heap.size<=b:=fun b hb=>(hgd.tub b hb).elim id fun g=>g.elim;have hfz:Rep ⟨R'.w,fun b o=>R'.M b o/\b∉L'.β,R.F⟩ L' (c.fz σ'.bx) v:=Rep.fz hx' hgd.fit.boxes rfl (fun b hb o h=>h.2 hb) _ _ h2;refine ⟨v,⟨R'.w,fun b o=>R'.M b o/\b∉L'.β,R.F⟩,Jp src 0 L',rfl,rfl,⟨⟨hgd.os,hgd.tape,hgd.output,hgd.size,fun b hb=>(hblk b hb).1⟩,rfl,by simp,fun b o hb=>?_,fun id hi=>?_,fun id e k v hi hj ht=>?_,fun id id' e k v e' k' v' b hi hi2 hj hj2 h6 h7 h8 h9=>?_⟩,Rep.less _ _ _ h5 hfz⟩
 ·refine ⟨fun h=>((hblk b hb).2 o).1 h.1,fun h=>⟨((hblk b hb).2 o).2 h,fun hx=>?_⟩⟩;have:=hnew b hx;omega
 ·show Vj src L'.T id=none;unfold Vj;rw[W0 (by omega)]
 ·have hob:=hgd.fit.owns
  ·refine (how.own id e k v ht).move fun g hv q2 hlt q7=>?_;have hnb:g∉L'.β:=by
    obtain ⟨i,_,hi2⟩:=Xh (R:=R) ht hv;exact ((hob.own i e k v hi2).block hv).2.2
   refine ⟨?_,rfl,q7,fun o ho=>⟨ho,hnb⟩⟩;rcases q2 with q2 | q2
   ·exact q2
   ·exact q2.elim
 ·exact how.apart id id' e k v e' k' v' b h6 h7 h8 h9
theorem Y8.of_awpK {bx:List (List C)} {post:C->List (List C)->Nat->Prop} {K0:C->St->Prop} (b:Nat->List Bool) (hm:P.follows .mixedOrders=true) (hf:P.funcs[f]?=some fn) (hb:fn.body=some code) (hnm:(fn.name == "runtime.NumGoroutine")=false) (hN:args.length<=fn.ntmps) (hok:jX fn.ntmps b code=true)
  (h:awp P G ⟨bx.length,none,b⟩ code (zlG P fn.results.toList K0) ⟨UD 0 args,bx,q,0⟩) (hK0:∀ c σ,K0 c σ->∃ r bx' n,(post r bx' n/\bx.length<=bx'.length)/\∃ src:Src,QU src=true/\src.length=n/\zd src bx'.length σ.bx bx'/\CLe src bx'.length c r):Y8 P G f args bx q post:=by
 refine ⟨by unfold Y1;rw[hf];simp[hnm,hb],fun R L vs hg hbx how hfree hflt hFT hargs=>?_⟩
 let E:Ctx:=⟨R.w,R.M,L.β,Xv L,fn.ntmps,[],fun _=>False,fun b=>b∈L.β,fun _ h=>.inl h,fun _ _=>True,fun _ _ _ _ _=>trivial⟩
 let R0:Env:=⟨R.w,R.M,fun _=>False⟩
 have hx:Ext R R0:=⟨fun _ _ _ h1 h2=>⟨h1,h2⟩,fun _ _ _ _ h1 h2=>⟨h1,h2⟩⟩;have hargs0:zy R0 L args vs:=zy.ext hx (zM.refl _) _ _ hargs;obtain ⟨i1,i2⟩:=ZY hN hargs0;have hinv:qH G E ⟨UD 0 args,bx,q,0⟩ { tmps:=vs.toArray++Array.replicate (fn.ntmps-vs.toArray.size) undef,defers:=[] } R0 L:=by
  refine ⟨⟨⟨hg.ext hx,⟨hbx.len,hbx.nodup,fun i b cs hi hc=>?_⟩,⟨fun id e k v ht=>?_,how.apart⟩,fun g hg=>.inl hg⟩,rfl,rfl,rfl,Wb _,fun _ _ _ _=>⟨rfl,fun _=>Iff.rfl⟩,⟨fun _ _ _ h1 h2=>⟨h1,h2⟩,fun _ _ _ _ h1 h2=>⟨h1,h2⟩⟩,⟨[],by simp[E]⟩,fun b hb=>.inr hb,fun _ h=>h.elim,fun _ _=>Iff.rfl,fun b hb h=>h,fun id e k v b ht hv h=>h,hfree,trivial⟩,i1,⟨[],rfl,An,fun d hd=>(by cases hd)⟩,i2⟩
  ·obtain ⟨vs,ty,e1,e2,e3,e4⟩:=hbx.box i b cs hi hc;exact ⟨vs,ty,e1,zy.ext hx (zM.refl _) _ _ e2,e3,e4⟩
  ·exact (how.own id e k v ht).move fun g hv q2 _ q7=>⟨.inr (.inr ⟨id,e,k,v,ht,hv⟩),rfl,q7,fun _ h=>h⟩
 refine YR (E:=E) (R:=R0) hm hf hb hok rfl rfl (by show L.β.length<=bx.length;rw[hbx.len];exact Wb _) (fun y hy=>by cases hy) h hinv ?_;rintro σ' a' R' L' v c h0 hI h2;obtain ⟨r,bx',n,⟨hpost,hlen⟩,src,h3,h4,h5,h6⟩:=hK0 _ _ h0;have hgd:=hI.good;have hwk:JM bx.length ⟨[],σ'.bx,σ'.nx,σ'.lg⟩ ⟨[],bx',n,σ'.lg⟩:=⟨src,h3,h4,hlen,rfl,trivial,h5⟩;have hx':Ext R' ⟨R'.w,R'.M,R.F⟩:=⟨fun _ _ _ h1 h2=>⟨h1,h2⟩,fun _ _ _ _ h1 h2=>⟨h1,h2⟩⟩;have hblen:σ'.bx.length=L'.β.length:=hgd.fit.boxes.len.symm;have hle:bx'.length<=σ'.bx.length:=by
  rcases Wr σ'.bx.length bx'.length with hx | hx
  ·obtain ⟨cs,hc,_⟩:=Xj h5 σ'.bx.length (bx'[σ'.bx.length]) (Wa hx);simp at hc
  ·exact hx
 obtain ⟨more,hm1⟩:=hgd.box;have hm1:L'.β=L.β++more:=hm1;have hbl:=hbx.len;have hown:=UF (β':=L'.β.take bx'.length) h3 (fun b hb=>Ww hb) hgd.fit.owns;have hblk:∀ b,b<R.w.heap.size->¬Xv L b->R'.w.heap[b]?=R.w.heap[b]?/\∀ o,(R'.M b o↔R.M b o):=fun b hb hT=>hgd.blk b hb hT fun hF=>(hgd.fz b hb).1 hF;have hcells:∀ b,Xv L b->(∃ cs t f,R.w.heap[b]?=some (.cells cs t f))∨∃ es cl,R.w.heap[b]?=some (.map es cl):=fun b hT=>by
  rcases hT with hT | ⟨id,e,k,v,ht,hv⟩
  ·obtain ⟨i,hi,rfl⟩:=WF hT;obtain ⟨vs,ty,g,_⟩:=hbx.box i L.β[i] (bx[i]'(by omega)) (Wa hi) (Wa (by omega));exact .inl ⟨_,_,_,g⟩
  ·exact (how.own id e k v ht).held hv
 refine ⟨r,bx',n,⟨hpost,hlen⟩,v,⟨R'.w,R'.M,R.F⟩,Jp src bx'.length L',rfl,rfl,⟨hgd.os,hgd.tape,hgd.output,hgd.size,rfl,⟨hgd.ext.cell,hgd.ext.whole⟩,fun b hb=>?_⟩,⟨by simp;omega,hgd.fit.boxes.nodup.sublist (List.take_sublist _ _),fun i b cs' hi hc=>?_⟩,⟨fun id e k v ht=>?_,hown.apart⟩,⟨more.take (bx'.length-L.β.length),?_,fun b hb=>?_⟩,fun id hi=>?_,Rep.ext hx' (zM.refl _) _ _ (Rep.less _ _ _ h6 h2)⟩
 ·by_cases hT:Xv L b
  ·exact .inr ⟨.inr hT,hFT b hT,hcells b hT⟩
  ·exact .inl (hblk b hb hT)
 ·obtain ⟨cs,hc1,hc2⟩:=Xj h5 i cs' hc;have hi':L'.β[i]?=some b:=by
   have hi:(L'.β.take bx'.length)[i]?=some b:=hi;rw[WJ]at hi;split at hi
   ·exact hi
   ·cases hi
  obtain ⟨vs,ty,e1,e2,e3,e4⟩:=hgd.fit.boxes.box i b cs hi' hc1;exact ⟨vs,ty,e1,zy.ext hx' (zM.refl _) _ _ (zy.less _ _ _ hc2 e2),e3,e4⟩
 ·exact (hown.own id e k v ht).move fun g _ q2 _ q7=>⟨q2,rfl,q7,fun _ h=>h⟩
 ·show L'.β.take bx'.length=_;rw[hm1,Ax,Wh (by omega)]
 ·have hb':b∈more:=Ww hb;have hbm:b∈L'.β:=by rw[hm1];exact List.mem_append_right _ hb'
  rcases hgd.tub b hbm with g | g
  ·exact g
  ·have hn:=hgd.fit.boxes.nodup;rw[hm1,Ah]at hn;exact absurd rfl (hn.2.2 b g b hb')
 ·show Vj src L'.T id=none;unfold Vj;rw[W0 (by omega)]
theorem Y8.of_awp {bx:List (List C)} {post:C->List (List C)->Nat->Prop} (b:Nat->List Bool) (hm:P.follows .mixedOrders=true) (hf:P.funcs[f]?=some fn) (hb:fn.body=some code) (hnm:(fn.name == "runtime.NumGoroutine")=false) (hN:args.length<=fn.ntmps) (hok:jX fn.ntmps b code=true)
  (h:awp P G ⟨bx.length,none,b⟩ code (zlG P fn.results.toList fun c σ=>∃ r bx' n,(post r bx' n/\bx.length<=bx'.length)/\∃ src:Src,QU src=true/\src.length=n/\zd src bx'.length σ.bx bx'/\CLe src bx'.length c r) ⟨UD 0 args,bx,q,0⟩):Y8 P G f args bx q post:=
 Y8.of_awpK b hm hf hb hnm hN hok h fun _ _ h=>h
theorem yc.of_awp {bx bx':List (List C)} {r:C} (b:Nat->List Bool) (hm:P.follows .mixedOrders=true) (hf:P.funcs[f]?=some fn) (hb:fn.body=some code) (hnm:(fn.name == "runtime.NumGoroutine")=false) (hN:args.length<=fn.ntmps) (hok:jX fn.ntmps b code=true) (hlen:bx.length<=bx'.length)
  (h:awp P G ⟨bx.length,none,b⟩ code (zlG P fn.results.toList fun c σ=>∃ src:Src,QU src=true/\src.length=n/\zd src bx'.length σ.bx bx'/\CLe src bx'.length c r) ⟨UD 0 args,bx,q,0⟩):yc P G f args bx q r bx' n:=
 Y8.of_awpK b hm hf hb hnm hN hok h fun c σ h=>⟨r,bx',n,⟨⟨rfl,rfl,rfl⟩,hlen⟩,h⟩
theorem yD.of_awp {first cap:List C} {bx items:List (List C)} (b:Nat->List Bool) (hm:P.follows .mixedOrders=true) (hf:P.funcs[f]?=some fn) (hb:fn.body=some code) (hnm:(fn.name == "runtime.NumGoroutine")=false) (hN:first.length+1+cap.length<=fn.ntmps) (hok:jX fn.ntmps b code=true)
  (h:∀ (l:Nat) (st:Nat->Bool),awp P G ⟨0,some ⟨l,items,st⟩,b⟩ code (zlG P fn.results.toList fun c σ=>zmx items st σ.lg) ⟨UD 0 (first++[.sc (.func (.yield l) #[] #[])]++cap),bx,0,0⟩):yD P G f first cap bx items:=by
 refine ⟨by unfold Y1;rw[hf];simp[hnm,hb],fun l st J R L us vs hg hbx hT hflt hfb hstab hYk hJ hus hvs=>?_⟩
 let E:Ctx:=⟨R.w,R.M,[],fun b=>b∈L.β,fn.ntmps,[],R.F,fun b=>b∈L.β,fun _ h=>h,J,hstab⟩
 have hargs:zy R L (first++[.sc (.func (.yield l) #[] #[])]++cap) (us++[Value.func (.yield l) #[] #[]]++vs):=zo (zo hus (zh.2 ⟨_,_,rfl,zq.2 rfl,zl.2 rfl⟩)) hvs;obtain ⟨i1,i2⟩:=ZY (n:=fn.ntmps) (by simp;omega) hargs;have hinv:qH G E ⟨UD 0 (first++[.sc (.func (.yield l) #[] #[])]++cap),bx,0,0⟩ { tmps:=(us++[Value.func (.yield l) #[] #[]]++vs).toArray++Array.replicate (fn.ntmps-(us++[Value.func (.yield l) #[] #[]]++vs).toArray.size) undef,defers:=[] } R L:=
  ⟨⟨⟨hg,hbx,⟨fun id e k v ht=>(by rw[hT]at ht;cases ht),fun id id' e k v e' k' v' b ht=>(by rw[hT]at ht;cases ht)⟩,fun g hg=>.inl hg⟩,rfl,rfl,rfl,Wb _,fun _ _ _ _=>⟨rfl,fun _=>Iff.rfl⟩,⟨fun _ _ _ h1 h2=>⟨h1,h2⟩,fun _ _ _ _ h1 h2=>⟨h1,h2⟩⟩,⟨L.β,rfl⟩,fun b hb=>.inr hb,hflt,fun _ _=>Iff.rfl,hfb,fun id e k v b ht=>(by rw[hT]at ht;cases ht),fun id _=>hT id,hJ⟩,i1,⟨[],rfl,An,fun d hd=>(by cases hd)⟩,i2⟩
 refine YR (E:=E) hm hf hb hok rfl rfl (Wc _) (fun y hy=>by cases hy;exact hYk) (h l st) hinv ?_;rintro σ' a' R' L' v c hend hI h2;exact ⟨v,R',σ'.lg,rfl,rfl,hI.good.log,hend⟩
end
end
end Go.Proofs.YtaipngaejfndgaaGreatDoor.Vcg
