/- What the proof of CpsTree leans on, part 2. No condition beyond what each theorem states. -/
import Derived.Test.YtnpdbhbmakdklaaGreatDoorCpsTreeKa
import Derived.Lib.AppendZerosOnto
import Derived.RangeFuncSeq
import Derived.OrdersIn
import Derived.RangeFuncNested
import Derived.RangeFuncLeaves
import Derived.Test.YtnpdbhbmakdklaaGreatDoorProg
set_option linter.unusedVariables false
set_option linter.unusedSimpArgs false
set_option linter.unusedSectionVars false
set_option maxRecDepth 100000
set_option maxHeartbeats 4000000
namespace Go.Proofs.YtnpdbhbmakdklaaGreatDoor.Vcg
variable {c:C} {v:Value} {vs:Array Value} {ty t:TypeId} {b:Bool} {n nx X m' lg i q:Nat} {f:FuncId} {x:Operand} {R R':Env} {L:Loc} {ds:List Deferred} {r:Option Nat} {args:List C} {w:World} {l:List Oper} {Q:Exit->Act->World->Prop} {tm tm1 tm2 T:List (Nat×C)} {K:St->Prop} {S:Nat->Bool} {listed:Array Bool} {o:Oper} {fn:Func} {code:Code}
section
open Go.RowKit
def C.flatB:C->Bool
 | .sc _=>true
 | .str _=>true
 | _=>false
mutual
/-- what leans on no memory but its own owners' -/
def C.freshB:C->Bool
 | .sc _=>true
 | .str _=>true
 | .agg cs=>C.freshL cs
 | .tup cs=>C.freshL cs
 | .own _ _ _ rows=>rows.all fun r=>r.all C.flatB
 | _=>false
def C.freshL:List C->Bool
 | []=>true
 | c :: r=>c.freshB&&C.freshL r
end
mutual
/-- what is lent: a slice over a box as the rows that stand there; all else as handed in by value -/
def YR (bx:List (List C)):C->C->Prop
 | .bs i off k n c,d=>∃ rows cs,d = .sl k rows/\rows.length=n/\n<=c/\c<=maxLen/\bx[i]?=some cs/\(∀ r∈rows,r.length=k)/\C.frzL ((cs.drop off).take (n*k))=rows.flatten
 | .agg cs,d=>∃ ds,d = .agg ds/\jH bx cs ds
 | .ptr i off,d=>∃ cs,bx[i]?=some cs/\d = .row ((C.frzL cs).drop off)
 | .clo fn first cap,d=>∃ fs cs,d = .clo fn fs cs/\jH bx first fs/\jH bx cap cs
 | c,d=>d=c.frz
def jH (bx:List (List C)):List C->List C->Prop
 | [],d=>d = []
 | c :: r,d=>∃ e s,d=e :: s/\YR bx c e/\jH bx r s
end
section
variable {P:Program} {G:zq} {E:Ctx} {σ:St} {o:Oper} {a:Act} {R R':Env} {L L':Loc} {bx:List (List C)} {B:Nat->Prop}
def xJ (R:Env) (L:Loc):Env:=⟨R.w,fun b o=>R.M b o/\b∉L.β,R.F⟩
theorem jI (R:Env) (L:Loc):Ext R (xJ R L):=⟨fun b o v h h'=>⟨h,fun x=>h' x.1⟩,fun _ _ _ _ h h'=>⟨h,fun o x=>h' o x.1⟩⟩
theorem zkO (hc:c.flatB=true) (h:Rep R L c v):Rep R' L' c v:=by
 cases c<;>simp[C.flatB]at hc
 ·rw[zp]at h ⊢;exact h
 ·rw[qc]at h ⊢;exact h
theorem NT:∀ (cs:List C) (i:Nat),(C.frzL cs)[i]?=(cs[i]?).map C.frz
 | [],i=>by simp[C.frzL]
 | c :: r,0=>by rw[C.frzL];rfl
 | c :: r,i+1=>by rw[C.frzL,Bu,Bu];exact NT r i
theorem zg1 {rows:List (List C)} {cs:List C} {b off k:Nat} (hh:R.w.heap[b]?=some (.cells vs ty (0,0))) (hrep:zx R L cs vs.toList) (hone:∀ v∈vs.toList,v.oneCell'=true) (hb:b∈L.β)
  (hk:∀ r∈rows,r.length=k) (hn:rows.length=n) (hflat:C.frzL ((cs.drop off).take (n*k))=rows.flatten):zW (xJ R L) rows k b off:=by
 refine ji fun i row hrow=>⟨hk row (Wf hrow),qi fun j c hc=>?_⟩;have hj:j<k:=by rw[←hk row (Wf hrow)];exact (Wc.1 hc).1
 have hf:=X0 hk i j row hrow hj;rw[hc,←hflat,NT,WF]at hf;split at hf
 ·rw[W3,Ap]at hf;obtain ⟨c0,hf,rfl⟩:=hf;obtain ⟨v,hv,hr⟩:=JF hrep _ _ hf;refine ⟨v,?_,fun h=>h.2 hb,Rep.ext (jI R L) (zR.refl _) _ _ (Rep.frz zU _ _ hr),hone v (Wf hv)⟩;show R.w.cell? _=_;rw[Ac R.w b _ vs ty (0,0) hh,show off+i*k+j=off+(i*k+j) by omega];simpa using hv
 ·cases hf
mutual
theorem zfX (hb:j4 R L bx):∀ (c d:C) (v:Value),YR bx c d->Rep R L c v->Rep (xJ R L) zU d v
 | .bs i off k n cap,d,v,h,hv=>by
  unfold YR at h;obtain ⟨rows,cs,rfl,hn,hc,hm,hbx,hk,hflat⟩:=h;unfold Rep at hv;obtain ⟨b,hbi,ad,rfl,had⟩:=hv;obtain ⟨vs,ty,e1,e2,e3,e4⟩:=hb.box i b cs hbi hbx;unfold Rep;refine ⟨some ad,cap,by rw[hn],by omega,hm,?_⟩;cases rows with
  | nil=>exact .inl rfl
  | cons r0 rs=>exact .inr ⟨b,off,Wv some (had (by simp at hn;omega)),zg1 e1 e2 e3 (Wf hbi) hk hn hflat⟩
 | .agg cs,d,v,h,hv=>by
  unfold YR at h;obtain ⟨ds,rfl,h⟩:=h;unfold Rep at hv ⊢;obtain ⟨vs,e,hl⟩:=hv;exact ⟨vs,e,XD hb cs ds _ h hl⟩
 | .sc u,d,v,h,hv=>by unfold YR at h;subst h;exact Rep.ext (jI R L) (zR.refl _) _ _ (Rep.frz zU _ _ hv)
 | .str u,d,v,h,hv=>by unfold YR at h;subst h;exact Rep.ext (jI R L) (zR.refl _) _ _ (Rep.frz zU _ _ hv)
 | .tup u,d,v,h,hv=>by unfold YR at h;subst h;exact Rep.ext (jI R L) (zR.refl _) _ _ (Rep.frz zU _ _ hv)
 | .sl k u,d,v,h,hv=>by unfold YR at h;subst h;exact Rep.ext (jI R L) (zR.refl _) _ _ (Rep.frz zU _ _ hv)
 | .tight k u,d,v,h,hv=>by unfold YR at h;subst h;exact Rep.ext (jI R L) (zR.refl _) _ _ (Rep.frz zU _ _ hv)
 | .own i e k u,d,v,h,hv=>by unfold YR at h;subst h;exact Rep.ext (jI R L) (zR.refl _) _ _ (Rep.frz zU _ _ hv)
 | .ptr i off,d,v,h,hv=>by
  unfold YR at h;obtain ⟨cs,hbx,rfl⟩:=h;obtain ⟨b,hbi,e⟩:=JD.1 hv;obtain ⟨vs,ty,e1,e2,e3,e4⟩:=hb.box i b cs hbi hbx;refine Jz.2 ⟨b,off,e,qi fun j c hc=>?_⟩;rw[W3,NT,Ap]at hc;obtain ⟨c0,hc,rfl⟩:=hc;obtain ⟨u,hu,hr⟩:=JF e2 _ _ hc;refine ⟨u,?_,fun h=>h.2 (Wf hbi),Rep.ext (jI R L) (zR.refl _) _ _ (Rep.frz zU _ _ hr),e3 u (Wf hu)⟩;show R.w.cell? _=_;rw[Ac R.w b _ vs ty (0,0) e1];simpa using hu
 | .mo i t u w,d,v,h,hv=>by unfold YR at h;subst h;exact Rep.ext (jI R L) (zR.refl _) _ _ (Rep.frz zU _ _ hv)
 | .row u,d,v,h,hv=>by unfold YR at h;subst h;exact Rep.ext (jI R L) (zR.refl _) _ _ (Rep.frz zU _ _ hv)
 | .clo f u w,d,v,h,hv=>by
  unfold YR at h;obtain ⟨fs,cs,rfl,h1,h2⟩:=h;unfold Rep at hv ⊢;obtain ⟨us,ws,e,h3,h4⟩:=hv;exact ⟨us,ws,e,XD hb u fs _ h1 h3,XD hb w cs _ h2 h4⟩
 | .any,d,v,h,hv=>by unfold YR at h;subst h;exact Rep.ext (jI R L) (zR.refl _) _ _ (Rep.frz zU _ _ hv)
theorem XD (hb:j4 R L bx):∀ (cs ds:List C) (vs:List Value),jH bx cs ds->zx R L cs vs->zx (xJ R L) zU ds vs
 | [],ds,vs,h,hv=>by
  unfold jH at h;subst h;rw[zm]at hv ⊢;exact hv
 | c :: r,ds,vs,h,hv=>by
  unfold jH at h;obtain ⟨e,s,rfl,h1,h2⟩:=h;obtain ⟨v,us,rfl,g1,g2⟩:=zg.1 hv;exact zg.2 ⟨v,us,rfl,zfX hb c e v h1 g1,XD hb r s us h2 g2⟩
end
def zj7 (R R':Env) (L:Loc):Env:=⟨R'.w,fun b o=>R'.M b o∨(b∈L.β/\R.M b o),R'.F⟩
mutual
theorem xc (hT:∀ id e k v,L'.T id=some (e,k,v)->∀ b,v.ownB=some b->b∉L.β):∀ (c:C) (v:Value),c.freshB=true->Rep R' L' c v->Rep (zj7 R R' L) L' c v
 | .sc u,v,_,h=>by rw[zp]at h ⊢;exact h
 | .str u,v,_,h=>by rw[qc]at h ⊢;exact h
 | .agg cs,v,hf,h=>by
  unfold C.freshB at hf;unfold Rep at h ⊢;obtain ⟨vs,e,hl⟩:=h;exact ⟨vs,e,VC hT cs _ hf hl⟩
 | .tup cs,v,hf,h=>by
  unfold C.freshB at hf;unfold Rep at h ⊢;obtain ⟨vs,e,hl⟩:=h;exact ⟨vs,e,VC hT cs _ hf hl⟩
 | .own id e k rows,v,hf,h=>by
  unfold C.freshB at hf;unfold Rep at h ⊢;obtain ⟨ht,a,cap,e1,h1,h2,h3⟩:=h;refine ⟨ht,a,cap,e1,h1,h2,?_⟩;rcases h3 with h3 | ⟨b,o,rfl,h3⟩
  ·exact .inl h3
  ·refine .inr ⟨b,o,rfl,ji fun i row hrow=>?_⟩;obtain ⟨q1,q2⟩:=jE h3 i row hrow;refine ⟨q1,qi fun j c hc=>?_⟩;obtain ⟨u,u1,u2,u3,u4⟩:=Jm q2 j c hc;have hcf:c.flatB=true:=Ws.1 (Ws.1 hf row (Wf hrow)) c (Wf hc);refine ⟨u,u1,?_,zkO hcf u3,u4⟩;rintro (g | ⟨g,_⟩)
   ·exact u2 g
   ·exact hT id e k v ht b (by rw[e1];rfl) g
 | .tight k rows,v,hf,h=>by simp[C.freshB]at hf
 | .sl k rows,v,hf,h=>by simp[C.freshB]at hf
 | .ptr i off,v,hf,h=>by simp[C.freshB]at hf
 | .row cs,v,hf,h=>by simp[C.freshB]at hf
 | .clo f a b,v,hf,h=>by simp[C.freshB]at hf
 | .bs i off k n c,v,hf,h=>by simp[C.freshB]at hf
 | .any,v,hf,h=>by simp[C.freshB]at hf
theorem VC (hT:∀ id e k v,L'.T id=some (e,k,v)->∀ b,v.ownB=some b->b∉L.β):∀ (cs:List C) (vs:List Value),C.freshL cs=true->zx R' L' cs vs->zx (zj7 R R' L) L' cs vs
 | [],vs,_,h=>by rw[zm]at h ⊢;exact h
 | c :: r,vs,hf,h=>by
  simp only[C.freshL,Wo]at hf;obtain ⟨v,us,rfl,g1,g2⟩:=zg.1 h;exact zg.2 ⟨v,us,rfl,xc hT c v hf.1 g1,VC hT r us hf.2 g2⟩
end
theorem qK.back (hβ:∀ b∈L.β,b<R.w.heap.size) (h:qK 0 n (xJ R L) zU R' L'):qK 0 n R zU (zj7 R R' L) L':=by
 refine ⟨h.below,h.fgn,h.box,fun b o hb=>?_,h.old,fun id e k v h1 h2 h3=>?_,h.apart⟩
 ·have hm:=h.mt b o hb;show (R'.M b o∨(b∈L.β/\R.M b o))↔R.M b o;rw[hm];show ((R.M b o/\b∉L.β)∨_)↔_;by_cases hx:b∈L.β<;>simp[hx]
 ·exact (h.new id e k v h1 h2 h3).move fun g _ e2 _ e7=>⟨e2,rfl,e7,fun o ho=>.inl ho⟩
theorem qK.own_new (hβ:∀ b∈L.β,b<R.w.heap.size) (h:qK 0 n (xJ R L) zU R' L'):∀ id e k v,L'.T id=some (e,k,v)->∀ b,v.ownB=some b->b∉L.β:=fun id e k v ht b hv hb=>by
 rcases Wp id n with hi | hi
 ·have e2:R.w.heap.size<=b:=((h.new id e k v (Wd _) hi ht).block hv).1;have:=hβ b hb;omega
 ·rw[h.old id (.inr hi)]at ht;cases ht
theorem zcT {ev:Operand->C} {c:Call} {f:Operand} (ho:o.op = .call c) (hc:c.callee = .value f) {fid:FuncId} {first cap:List C} (hev:ev f = .clo (.func fid) first cap) {fargs:List C} (hl:jH bx (first++c.args.toList.map ev++cap) fargs) {r:C} {n:Nat} (hfun:Fun P G fid fargs r n) (hfr:r.freshB=true) :
  zG P G bx ev nx o (r.sh nx) (nx+n):=by
 refine ⟨by omega,fun B R L ρ hf hfree hr=>?_⟩;have hx:=hr f;rw[hev,YI]at hx;obtain ⟨fs,cs,e1,h1,h2⟩:=hx;have hargs:zx (xJ R L) zU fargs (fs.toList++c.args.toList.map ρ++cs.toList):=
  XD hf.boxes _ _ _ hl (zo (zo h1 (YY hr _)) h2)
 have hcall:=hfun.2 (xJ R L) _ (hf.glob.ext (jI R L)) hargs;have hrun:(execOp ρ o).run P R.w = .ok (.enter fid (fs.toList++c.args.toList.map ρ++cs.toList).toArray) R.w:=by
  unfold execOp;simp only[ho,resolve,hc,e1];have e2:(Deferred.ofValue (.func (.func fid) fs cs) (c.args.map ρ)).run P R.w = .ok { target:=.fn (.func fid) cs,args:=fs++c.args.map ρ } R.w:=by
   simp[Deferred.ofValue]
  rw[Wm,e2];simp only[Wh,invoke];rw[ZX hfun.1];congr 2;apply Bq;simp
 unfold jv;rw[hrun];refine hcall.mono fun e w'=>?_;rintro ⟨v,R1,L',rfl,hw,hst1,hrep1⟩;have hst:=hst1.back hf.β_lt;have hrep:=xc (R:=R) (hst1.own_new hf.β_lt) _ _ hfr hrep1;have hst':=hst.caller (nx:=nx) hf.β_lt;refine ⟨v,rfl,zj7 R R1 L,_,hw,hst',?_⟩;refine Rep.sh (fun i b hb=>?_) (fun i x hi=>?_) _ _ hrep
 ·rw[hst.box]at hb;simp at hb
 ·show (if nx<=nx+i/\nx+i<nx+n then L'.T (nx+i-nx) else _)=some x;have hin:i<n:=by
   rcases Wp i n with h | h
   ·exact h
   ·rw[hst.old i (.inr h)]at hi;cases hi
  rw[if_pos ⟨by omega,by omega⟩,OW];exact hi
def zll (P:Program) (G:zq) (f:FuncId) (args:List C) (σ:St) (K:C->St->Prop):Prop:=
 ∃ (fargs:List C) (r:C) (n:Nat),jH σ.bx args fargs/\Fun P G f fargs r n/\r.freshB=true/\K (r.sh σ.nx) ⟨σ.tm,σ.bx,σ.nx+n,σ.lg⟩
end
end
section
open Go.RowKit
section
variable {P:Program} {G:zq} {E:Ctx} {σ:St} {o:Oper} {a:Act}
def spl (cs:List C) (at':Nat) (xs:List C):List C:=cs.take at'++xs++cs.drop (at'+xs.length)
def Zu (P:Program) (t:TypeId) (d x:C) (σ:St) (K:C->St->Prop):Prop:=
 match lay P t with
 | some ⟨.slice e,_,_,_⟩=>match lay P e with
  | some ⟨_,k,_,_⟩=>match x.xs? k σ.bx with
   | some (m,xs)=>match d with
    | .bs i off k' n c=>match σ.bx[i]? with
     | some cs=>k'=k/\xs.length=m*k/\off+n*k<=cs.length/\K (.sc (.int .i64 ((min m n:Nat):Int))) ⟨σ.tm,σ.bx.set i (spl cs off (xs.take (min m n*k))),σ.nx,σ.lg⟩
     | none=>False
    | d=>match d.rows? k with
     | some []=>xs.length=m*k/\K (.sc (.int .i64 0)) σ
     | _=>False
   | none=>False
  | _=>False
 | _=>False
theorem U4 {t':TypeId} {d:Operand} (ho:o.op = .call { callee:=.builtin .copy,args:=#[d,x],argTypes:=#[t,t'] }) {K:C->St->Prop} {R:Env} {L:Loc} (h:qT G E σ a R L) (hK:Zu P t (zB G σ.tm d) (zB G σ.tm x) σ K):jv P o a.eval R.w (Gm G E a σ.nx L K):=by
 unfold Zu at hK;split at hK<;>try exact hK.elim
 rename_i e s1 b1 z1 hl;have ht:=qe hl rfl;split at hK<;>try exact hK.elim
 rename_i kd k by' z hle;obtain ⟨i,dd,hi,hd,_,hsz,hbyt,hzz⟩:=qk hle;simp only at hsz hbyt hzz;split at hK<;>try exact hK.elim
 rename_i m xs hxs;have hss0:(sizeOf e).run P R.w = .ok k R.w:=by simp[sizeOf,typeInfo,hi,←hsz]
 have hexec:∀ v' w',(Builtin.copy_ #[t,t'] o.type #[a.eval d,a.eval x]).run P R.w = .ok v' w'->(execOp a.eval o).run P R.w = .ok (.value v') w':=fun v' w' hrun=>by
  unfold execOp;simp only[ho,resolve,invoke,builtin,Wm,WA,Wh,OC,WC,Oo,hrun]
 obtain ⟨ad,capx,ex,hx⟩:=yH h.good.fit (h.ev x) hxs;split at hK
 rotate_left
 ·split at hK<;>try exact hK.elim
  rename_i hr;obtain ⟨hxl,hK⟩:=hK;obtain ⟨a0,cap0,es,_⟩:=(h.ev d).rows hr;refine jv.value (hexec (goInt ((0:Nat):Int)) R.w ?_) ⟨_,_,R,L,rfl,h,zp.2 rfl,hK,fun _ _ h=>h⟩;rw[es,ex];simp only[Builtin.copy_,Builtin.lenOf,Wm,WA,Wh,WD ht,hss0];have hfc:(Builtin.firstCells k 0 (.slice ad m capx)).run P R.w = .ok #[] R.w:=by
   cases ad with
   | none=>simp[Builtin.firstCells]
   | some ad=>simp[Builtin.firstCells,loadCells,loadCellsFrom]
  cases a0<;>simp[hfc,storeCells,WD ht,hss0]
 rename_i bi off k' n c hev;split at hK<;>try exact hK.elim
 rename_i cs hcs;obtain ⟨rfl,hxl,hfit,hK⟩:=hK;have hss:=hss0;have hs:=h.ev d;rw[hev,jy]at hs;obtain ⟨b,hb,ad0,es,had0⟩:=hs;obtain ⟨vs,ty,e1,e2,e3,e4⟩:=h.good.fit.boxes.box bi b cs hb hcs;have hvl:=zy e2;have hbil:bi<σ.bx.length:=(Wc.1 hcs).1;by_cases h0:min m n*k'=0
 ·have hspl:spl cs off (xs.take (min m n*k'))=cs:=by
   rw[h0];simp[spl]
  have hset:σ.bx.set bi cs=σ.bx:=by
   apply OX;intro j;by_cases hj:bi=j
   ·subst hj;rw[Oy hbil,hcs]
   ·rw[Ou hj]
  rw[hspl,hset]at hK;refine jv.value (hexec (goInt ((Nat.min m n:Nat):Int)) R.w ?_) ⟨_,_,R,L,rfl,h,zp.2 rfl,hK,fun _ _ h=>h⟩;rw[es,ex];simp only[Builtin.copy_,Builtin.lenOf,Wm,WA,Wh,WD ht,hss];have hm0:Nat.min m n*k'=0:=h0;have hfc:(Builtin.firstCells k' (Nat.min m n) (.slice ad m capx)).run P R.w = .ok #[] R.w:=by
   cases ad with
   | none=>simp[Builtin.firstCells]
   | some ad=>simp[Builtin.firstCells,hm0,loadCells,loadCellsFrom]
  simp[hfc,storeCells,WD ht,hss]
 ·have hpos:0<m:=by
   rcases O2 m with q | q
   ·subst q;simp at h0
   ·exact q
  have hnpos:0<n:=by
   rcases O2 n with q | q
   ·subst q;simp at h0
   ·exact q
  obtain ⟨bb,offx,news,rfl,n1,n2,n3,n4⟩:=hx hpos;obtain rfl:=had0 (by omega);have hmn:min m n*k'<=m*k':=WM _ (Nat.min_le_left _ _);have hmn2:min m n*k'<=n*k':=WM _ (Nat.min_le_right _ _);have hnl:(news.take (min m n*k')).length=min m n*k':=by rw[W2];omega
  have hfc:=Bh (P:=P) R.w k' (min m n) ⟨bb,offx,none⟩ m capx (news.take (min m n*k')) hnl (fun j u hj=>n2 j u (by
   rw[WF]at hj;split at hj
   ·exact hj
   ·cases hj))
  have hst:=AG P b off ty (news.take (min m n*k')) 0 vs R.w e1 (by simp only[WS]at hvl;omega) (fun v hv=>n4 v (Ww hv));simp only[O8]at hst;have hrun:(Builtin.copy_ #[t,t'] o.type #[a.eval d,a.eval x]).run P R.w = .ok (goInt ((Nat.min m n:Nat):Int)) (R.w.setRow b (vs.toList.take off++news.take (min m n*k')++vs.toList.drop (off+(news.take (min m n*k')).length)).toArray):=by
   rw[es,ex];have hfc':(Builtin.firstCells k' (Nat.min m n) (.slice (some ⟨bb,offx,none⟩) m capx)).run P R.w = .ok (news.take (min m n*k')).toArray R.w:=hfc;simp only[Builtin.copy_,Builtin.lenOf,Wm,WA,Wh,WD ht,hss];simp[hfc',hst,WD ht,hss]
  have hxtl:(xs.take (min m n*k')).length=(news.take (min m n*k')).length:=by rw[hnl,W2];omega
  have hinv:=h.setBox hb hcs e1 e4 (cs':=spl cs off (xs.take (min m n*k'))) (us:=(vs.toList.take off++news.take (min m n*k')++vs.toList.drop (off+(news.take (min m n*k')).length)).toArray) (by
    unfold spl;rw[hxtl];exact zo (zo (qR _ e2) (qR _ n3)) (jg _ e2)) (fun v hv=>by
    simp only[WB]at hv;rcases hv with (hv | hv) | hv
    ·exact e3 v (Ww hv)
    ·exact n4 v (Ww hv)
    ·exact e3 v (WU hv))
  exact jv.value (hexec _ _ hrun) ⟨_,_,_,L,rfl,hinv,zp.2 rfl,hK,fun _ _ h=>h⟩
theorem zcP {t':TypeId} {d:Operand} (ho:o.op = .call { callee:=.builtin .copy,args:=#[d,x],argTypes:=#[t,t'] }) {K:C->St->Prop} {R:Env} {L:Loc} (h:qT G E σ a R L) (hK:Zu P t (zB G σ.tm d) (zB G σ.tm x) σ K):jv P o a.eval R.w (YV G E a K):=(U4 ho h hK).mono fun _ _ h=>h.after
def Hm (P:Program) (t:TypeId) (x:C) (σ:St) (K:C->St->Prop):Prop:=
 match lay P t with
 | some ⟨.slice e,_,_,_⟩=>match lay P e with
  | some ⟨_,k,_,some z⟩=>match x with
   | .bs i off k' n c=>match σ.bx[i]? with
    | some cs=>k'=k/\z.length=k/\0<k/\(z.all Value.oneCell')=true/\off+n*k<=cs.length/\K .any ⟨σ.tm,σ.bx.set i (spl cs off (List.replicate n (z.map zD)).flatten),σ.nx,σ.lg⟩
    | none=>False
   | _=>False
  | _=>False
 | _=>False
theorem XX (zc:Array Value) (k n:Nat) (hz:zc.size=k) (hk:0<k):zx R L (List.replicate n (zc.toList.map zD)).flatten (Builtin.zeroCells zc n).toList:=by
 have h:=zx.ext (Ext.refl R) (zR.none L) _ _ (Qn (R:=R) (L:=zU) zc k n hz hk);simp only[Builtin.zeroCells,hz];rw[hz]at h;exact h
theorem yI (ho:o.op = .call { callee:=.builtin .clear,args:=#[x],argTypes:=#[t] }) {K:C->St->Prop} {R:Env} {L:Loc} (h:qT G E σ a R L) (hK:Hm P t (zB G σ.tm x) σ K):jv P o a.eval R.w (YV G E a K):=by
 unfold Hm at hK;split at hK<;>try exact hK.elim
 rename_i e s1 b1 z1 hl;have ht:=qe hl rfl;split at hK<;>try exact hK.elim
 rename_i kd k by' z hle;obtain ⟨i,dd,hi,hd,_,hsz,hbyt,hzz⟩:=qk hle;simp only at hsz hbyt hzz;split at hK<;>try exact hK.elim
 rename_i bi off k' n c hev;split at hK<;>try exact hK.elim
 rename_i cs hcs;obtain ⟨rfl,hzk,hk0,hz1,hfit,hK⟩:=hK;cases hiz:i.zero with
 | none=>simp[hiz]at hzz
 | some zv =>
  simp only[hiz,Wu,Option.some.injEq]at hzz;subst hzz;have hs:=h.ev x;rw[hev,jy]at hs;obtain ⟨b,hb,ad0,es,had0⟩:=hs;obtain ⟨vs,ty,e1,e2,e3,e4⟩:=h.good.fit.boxes.box bi b cs hb hcs;have hvl:=zy e2;have hbil:bi<σ.bx.length:=(Wc.1 hcs).1;have hzv:∀ w,(zeroValue e).run P w = .ok zv w:=fun w=>by simp[zeroValue,typeInfo,hi,hiz]
  have hexec:∀ v' w',(Builtin.clear_ #[t] o.type #[a.eval x]).run P R.w = .ok v' w'->(execOp a.eval o).run P R.w = .ok (.value v') w':=fun v' w' hrun=>by
   unfold execOp;simp only[ho,resolve,invoke,builtin,Wm,WA,Wh,OC,WC,Oo,hrun]
  have hzl:(Builtin.zeroCells zv.cells n).toList.length=n*k':=by rw[WS,As];simpa using Wv (n * ·) hzk
  have hzr:=XX (R:=R) (L:=L) zv.cells k' n (by simpa using hzk) hk0;have hxl:(List.replicate n (zv.cells.toList.map zD)).flatten.length=n*k':=by rw[←hzl];exact (zy hzr).symm
  cases n with
  | zero =>
   have hspl:spl cs off (List.replicate 0 (zv.cells.toList.map zD)).flatten=cs:=by simp[spl]
   have hset:σ.bx.set bi cs=σ.bx:=by
    apply OX;intro j;by_cases hj:bi=j
    ·subst hj;rw[Oy hbil,hcs]
    ·rw[Ou hj]
   rw[hspl,hset]at hK;refine jv.value (hexec (.tuple #[]) R.w ?_) ⟨_,_,R,L,rfl,h,by unfold Rep;trivial,hK⟩;rw[es];simp[Builtin.clear_,WD ht]
  | succ n =>
   obtain rfl:=had0 (by omega);have hst:=AG P b off ty (Builtin.zeroCells zv.cells (n+1)).toList 0 vs R.w e1 (by rw[hzl];simp only[WS]at hvl;omega) (Jb hz1 _);simp only[O8]at hst;have hinv:=h.setBox hb hcs e1 e4 (cs':=spl cs off (List.replicate (n+1) (zv.cells.toList.map zD)).flatten) (us:=(vs.toList.take off++(Builtin.zeroCells zv.cells (n+1)).toList++vs.toList.drop (off+(Builtin.zeroCells zv.cells (n+1)).toList.length)).toArray) (by
     unfold spl;rw[hzl,hxl];exact zo (zo (qR _ e2) hzr) (jg _ e2)) (fun v hv=>by
     simp only[WB]at hv;rcases hv with (hv | hv) | hv
     ·exact e3 v (Ww hv)
     ·exact Jb hz1 _ v hv
     ·exact e3 v (WU hv))
   refine jv.value (hexec (.tuple #[]) _ ?_) ⟨_,_,_,L,rfl,hinv,by unfold Rep;trivial,hK⟩;rw[es];simp[Builtin.clear_,WD ht,hzv,hst]
def YW (P:Program) (t:TypeId) (s x:C) (σ:St) (K:C->St->Prop):Prop:=
 match lay P t with
 | some ⟨.slice e,_,_,_⟩=>match lay P e with
  | some ⟨_,k,by',some z⟩=>match x.xs? k σ.bx with
   | some (m,xs)=>z.length=k/\0<k/\(z.all Value.oneCell')=true/\xs.length=m*k/\match s with
    | .sc (.slice none 0 0)=>0<m/\m<=9223372036854775807/\m*by'<=140737488355328/\∀ c,m<=c->c<=maxLen->K (.bs σ.bx.length 0 k m c) ⟨σ.tm,σ.bx++[xs++List.replicate ((c-m)*k) .any],σ.nx,σ.lg⟩
    | .tight k' []=>k'=k/\m<=9223372036854775807/\m*by'<=140737488355328/\(m=0->K (.tight k' []) σ)/\(0<m->∀ c,m<=c->c<=maxLen->K (.bs σ.bx.length 0 k m c) ⟨σ.tm,σ.bx++[xs++List.replicate ((c-m)*k) .any],σ.nx,σ.lg⟩)
    | .bs i off k' n c=>match σ.bx[i]? with
     | some cs=>k'=k/\off+c*k<=cs.length/\n<=c/\n+m<=9223372036854775807/\(n+m)*by'<=140737488355328 /\
       (n+m<=c->K (.bs i off k (n+m) c) ⟨σ.tm,σ.bx.set i (spl cs (off+n*k) xs),σ.nx,σ.lg⟩) /\
       (c<n+m->∀ c',n+m<=c'->c'<=maxLen->K (.bs σ.bx.length 0 k (n+m) c') ⟨σ.tm,σ.bx++[(cs.drop off).take (n*k)++xs++List.replicate ((c'-(n+m))*k) .any],σ.nx,σ.lg⟩)
     | none=>False
    | _=>False
   | none=>False
  | _=>False
 | _=>False
def Np (P:Program) (t tn:TypeId) (s x:C) (σ:St) (K:C->St->Prop):Prop:=
 match lay P t,lay P tn with
 | some ⟨.slice e,_,_,_⟩,some ⟨.int _,_,_,_⟩=>match lay P e with
  | some ⟨_,k,by',some z⟩=>match s,x with
   | .bs i off k' n c,.sc (.int _ q)=>match σ.bx[i]? with
     | some cs=>z.length=k/\0<k/\(z.all Value.oneCell')=true/\k'=k/\off+c*k<=cs.length/\n<=c/\0<q/\(n:Int)+q<=9223372036854775807/\((n:Int)+q)*by'<=140737488355328/\(c:Int)<n+q /\
       ∀ c',n+q.toNat<=c'->c'<=maxLen->K (.bs σ.bx.length 0 k (n+q.toNat) c') ⟨σ.tm,σ.bx++[(cs.drop off).take (n*k)++(List.replicate q.toNat (z.map zD)).flatten++List.replicate ((c'-(n+q.toNat))*k) .any],σ.nx,σ.lg⟩
     | none=>False
   | .sc (.slice none 0 0),.sc (.int _ q)=>z.length=k/\0<k/\(z.all Value.oneCell')=true/\0<q/\q<=9223372036854775807/\q*by'<=140737488355328 /\
     ∀ c',q.toNat<=c'->c'<=maxLen->K (.bs σ.bx.length 0 k q.toNat c') ⟨σ.tm,σ.bx++[(List.replicate q.toNat (z.map zD)).flatten++List.replicate ((c'-q.toNat)*k) .any],σ.nx,σ.lg⟩
   | _,_=>False
  | _=>False
 | _,_=>False
theorem qT.setSame (h:qT G E σ a R L) {i:Nat} {cs:List C} (hc:σ.bx[i]?=some cs):σ.bx.set i cs=σ.bx:=by
 have hil:i<σ.bx.length:=(Wc.1 hc).1;apply OX;intro j;by_cases hj:i=j
 ·subst hj;rw[Oy hil,hc]
 ·rw[Ou hj]
theorem Uy {s:Operand} (ho:o.op = .call { callee:=.builtin .append,args:=#[s,x],argTypes:=#[t,t] }) {K:C->St->Prop} {R:Env} {L:Loc} (h:qT G E σ a R L) (hK:YW P t (zB G σ.tm s) (zB G σ.tm x) σ K):jv P o a.eval R.w (Gm G E a σ.nx L K):=by
 unfold YW at hK;split at hK<;>try exact hK.elim
 rename_i e s1 b1 z1 hl;have ht:=qe hl rfl;split at hK<;>try exact hK.elim
 rename_i kd k by' z hle;obtain ⟨i,d,hi,hd,_,hsz,hbyt,hzz⟩:=qk hle;simp only at hsz hbyt hzz;split at hK<;>try exact hK.elim
 rename_i m xs hxs;obtain ⟨hzk,hk0,hz1,hxl,hK⟩:=hK;have hexec:∀ v' w',(Builtin.append_ #[t,t] o.type #[a.eval s,a.eval x]).run P R.w = .ok v' w'->(execOp a.eval o).run P R.w = .ok (.value v') w':=fun v' w' hrun=>by
  unfold execOp;simp only[ho,resolve,invoke,builtin,Wm,WA,Wh,OC,WC,Oo,hrun]
 cases hiz:i.zero with
 | none=>simp[hiz]at hzz
 | some zv =>
  simp only[hiz,Wu,Option.some.injEq]at hzz;have hzc:zv.cells.size=k:=by rw[←hzk,hzz];simp
  obtain ⟨ad,capx,ex,hx⟩:=yH h.good.fit (h.ev x) hxs;have hzone:∀ n,∀ v∈(Builtin.zeroCells zv.cells n).toList,v.oneCell'=true:=Jb (by rw[←hzz];exact hz1);split at hK
  ·rename_i hev;obtain ⟨hm,h63,hby,hK⟩:=hK;obtain ⟨bb,off,news,rfl,n1,n2,n3,n4⟩:=hx hm;have hs:=h.ev s;rw[hev,zp]at hs;have hrun:=BO (P:=P) R.w t o.type e i zv ht hi hiz ⟨bb,off,none⟩ m capx news (by rw[n1,hsz]) n2 hm (by omega) (by rw[←hbyt];omega);rw[←hs,←ex]at hrun;have hge:=AX R.w m 0 e;have hgm:grownCap R.w m 0 e<=maxLen:=O1 _ _ _ _ (by unfold maxLen;omega);generalize grownCap R.w m 0 e=nc at hrun hge hgm;have hb:Below R.w.heap.size R.w (R.w.drew.alloc (.cells (news.toArray++Builtin.zeroCells zv.cells (nc-m)) e)):=((Ob _ _).drew).alloc (Wb _) _;have hzl:(Builtin.zeroCells zv.cells (nc-m)).toList.length=(nc-m)*k:=by rw[WS,As,hzc]
   obtain ⟨R',L',e1,e2,e3,eT⟩:=h.newBoxT hb (Wb _) (xs++List.replicate ((nc-m)*k) .any) (news.toArray++Builtin.zeroCells zv.cells (nc-m)) e (OH R.w.drew _) (fun M' hM _ _=>by
    simp only[Og];refine zo (zx.ext (R:=R) (Ext.of_below hb hM) (zR.refl L) _ _ n3) ?_;rw[←hzl];exact Yo _) (fun v hv=>by
    simp only[Og]at hv;rcases WB.1 hv with hv | hv
    ·exact n4 v hv
    ·exact hzone _ v hv)
   exact jv.value (hexec _ _ hrun) ⟨_,_,R',L',e1,e2,jy.2 ⟨_,e3,_,rfl,fun _=>rfl⟩,hK nc hge hgm,fun id _ ht=>by rw[eT];exact ht⟩
  ·rename_i k' hev;obtain ⟨rfl,h63,hby,hK0,hK⟩:=hK;have hs:=h.ev s;rw[hev]at hs;obtain ⟨aa0,e0,_,_⟩:=Jy.1 hs;rcases O2 m with hm | hm
   ·subst hm;refine jv.value (hexec (.slice aa0 0 0) R.w ?_) ⟨_,_,R,L,rfl,h,Jy.2 ⟨aa0,rfl,Wd _,.inl rfl⟩,hK0 rfl,fun _ _ h=>h⟩;rw[show a.eval s = .slice aa0 0 0 from e0,ex];exact jY ht hi R.w _ _ _ _ _ (Wb _)
   ·obtain ⟨bb,off,news,rfl,n1,n2,n3,n4⟩:=hx hm;have hrun:=X7 (P:=P) (ty:=o.type) ht hi hiz R.w aa0 0 [] (by simp) (.inl rfl) ⟨bb,off,none⟩ m capx news (by rw[n1,hsz]) n2 hm (by omega) (by rw[←hbyt,Ov];exact hby);rw[←ex,show (.slice aa0 0 0:Value)=a.eval s from e0.symm]at hrun;simp only[Ov]at hrun;have hge:=AX R.w m 0 e;have hgm:grownCap R.w m 0 e<=maxLen:=O1 _ _ _ _ (by unfold maxLen;omega);generalize grownCap R.w m 0 e=nc at hrun hge hgm;have hb:Below R.w.heap.size R.w (R.w.drew.alloc (.cells (([]:List Value).toArray++news.toArray++Builtin.zeroCells zv.cells (nc-m)) e)):=((Ob _ _).drew).alloc (Wb _) _;have hzl:(Builtin.zeroCells zv.cells (nc-m)).toList.length=(nc-m)*k':=by rw[WS,As,hzc]
    obtain ⟨R',L',e1,e2,e3,eT⟩:=h.newBoxT hb (Wb _) (xs++List.replicate ((nc-m)*k') .any) (([]:List Value).toArray++news.toArray++Builtin.zeroCells zv.cells (nc-m)) e (OH R.w.drew _) (fun M' hM _ _=>by
     simp only[Og,Om];refine zo (zx.ext (R:=R) (Ext.of_below hb hM) (zR.refl L) _ _ n3) ?_;rw[←hzl];exact Yo _) (fun v hv=>by
     simp only[Og,Om]at hv;rcases WB.1 hv with hv | hv
     ·exact n4 v hv
     ·exact hzone _ v hv)
    exact jv.value (hexec _ _ hrun) ⟨_,_,R',L',e1,e2,jy.2 ⟨_,e3,_,rfl,fun _=>rfl⟩,hK hm nc hge hgm,fun id _ ht=>by rw[eT];exact ht⟩
  ·rename_i bi off k' n c hev;split at hK<;>try exact hK.elim
   rename_i cs hcs;obtain ⟨rfl,hcl,hnc,h63,hby,hK1,hK2⟩:=hK;have hs:=h.ev s;rw[hev,jy]at hs;obtain ⟨b,hb,ad0,es,had0⟩:=hs;obtain ⟨vs,ty,e1,e2,e3,e4⟩:=h.good.fit.boxes.box bi b cs hb hcs;have hvl:=zy e2;simp only[WS]at hvl;have hnk:n*k'<=c*k':=WM _ hnc;have hadd:(n+m)*k'=n*k'+m*k':=On _ _ _;by_cases hroom:n+m<=c
   ·have hck:(n+m)*k'<=c*k':=WM _ hroom;rcases O2 m with hm | hm
    ·subst hm;have hx0:xs = []:=WV (by simpa using hxl);subst hx0;have hK:=hK1 hroom;have hspl:spl cs (off+n*k') []=cs:=by simp[spl]
     rw[hspl,h.setSame hcs]at hK;refine jv.value (hexec (.slice (some ad0) n c) R.w ?_) ⟨_,_,R,L,rfl,h,jy.2 ⟨b,hb,ad0,rfl,had0⟩,hK,fun _ _ h=>h⟩;rw[es,ex];exact jY ht hi R.w _ _ _ _ _ hnc
    ·obtain rfl:=had0 (by omega);obtain ⟨bb,offx,news,rfl,n1,n2,n3,n4⟩:=hx hm;have hst:=AG P b (off+n*k') ty news 0 vs R.w e1 (by rw[n1];omega) n4;simp only[O8]at hst;have hfc:=Bh (P:=P) R.w k' m ⟨bb,offx,none⟩ m capx news n1 n2;have hrun:(Builtin.append_ #[t,t] o.type #[a.eval s,a.eval x]).run P R.w = .ok (.slice (some ⟨b,off,none⟩) (n+m) c) (R.w.setRow b (vs.toList.take (off+n*k')++news++vs.toList.drop (off+n*k'+news.length)).toArray):=by
      rw[es,ex];simp[Builtin.append_,WD ht,sizeOf,typeInfo,hi,Builtin.lenOf,hroom,←hsz,hfc,Addr.add_none,hst]
     have hnx:news.length=xs.length:=by rw[n1,hxl]
     have hinv:=h.setBox hb hcs e1 e4 (cs':=spl cs (off+n*k') xs) (us:=(vs.toList.take (off+n*k')++news++vs.toList.drop (off+n*k'+news.length)).toArray) (by
       unfold spl;rw[hnx];exact zo (zo (qR _ e2) n3) (jg _ e2)) (fun v hv=>by
       simp only[WB]at hv;rcases hv with (hv | hv) | hv
       ·exact e3 v (Ww hv)
       ·exact n4 v hv
       ·exact e3 v (WU hv))
     exact jv.value (hexec _ _ hrun) ⟨_,_,_,L,rfl,hinv,jy.2 ⟨_,hb,_,rfl,fun _=>rfl⟩,hK1 hroom,fun _ _ h=>h⟩
   ·have hm:0<m:=by omega
    obtain ⟨bb,offx,news,rfl,n1,n2,n3,n4⟩:=hx hm;have hol:((vs.toList.drop off).take (n*k')).length=n*k':=by simp;omega
    have hrun:=Bo (P:=P) R.w t o.type e i zv ht hi hiz ad0 n c ((vs.toList.drop off).take (n*k')) (by rw[hol,hsz]) (fun j v hj=>by
      obtain rfl:=had0 (by
       rcases O2 n with h0 | h0
       ·subst h0;simp at hj
       ·omega)
      rw[Addr.add_none,Ac R.w b (off+j) vs ty (0,0) e1];rw[WF]at hj;split at hj
      ·rw[W3]at hj;simpa using hj
      ·cases hj) ⟨bb,offx,none⟩ m capx news (by rw[n1,hsz]) n2 (by omega) (by omega) (Bb (by omega) (by rw[←hbyt];exact hby))
    rw[←es,←ex]at hrun;have hge:=AX R.w (n+m) c e;have hgm:grownCap R.w (n+m) c e<=maxLen:=O1 _ _ _ _ (by unfold maxLen;omega);generalize grownCap R.w (n+m) c e=nc at hrun hge hgm;have hbel:Below R.w.heap.size R.w (R.w.drew.alloc (.cells (((vs.toList.drop off).take (n*k')).toArray++news.toArray++Builtin.zeroCells zv.cells (nc-(n+m))) e)):=((Ob _ _).drew).alloc (Wb _) _;have hzl:(Builtin.zeroCells zv.cells (nc-(n+m))).toList.length=(nc-(n+m))*k':=by rw[WS,As,hzc]
    obtain ⟨R',L',f1,f2,f3,fT⟩:=h.newBoxT hbel (Wb _) ((cs.drop off).take (n*k')++xs++List.replicate ((nc-(n+m))*k') .any) (((vs.toList.drop off).take (n*k')).toArray++news.toArray++Builtin.zeroCells zv.cells (nc-(n+m))) e (OH R.w.drew _) (fun M' hM _ _=>by
     simp only[Og];refine zo (zx.ext (R:=R) (Ext.of_below hbel hM) (zR.refl L) _ _ (zo (qR _ (jg _ e2)) n3)) ?_;rw[←hzl];exact Yo _) (fun v hv=>by
     simp only[Og,WB]at hv;rcases hv with (hv | hv) | hv
     ·exact e3 v (WU (Ww hv))
     ·exact n4 v hv
     ·exact hzone _ v hv)
    exact jv.value (hexec _ _ hrun) ⟨_,_,R',L',f1,f2,jy.2 ⟨_,f3,_,rfl,fun _=>rfl⟩,hK2 (by omega) nc hge hgm,fun id _ ht=>by rw[fT];exact ht⟩
  ·exact hK.elim
theorem yv {s:Operand} (ho:o.op = .call { callee:=.builtin .append,args:=#[s,x],argTypes:=#[t,t] }) {K:C->St->Prop} {R:Env} {L:Loc} (h:qT G E σ a R L) (hK:YW P t (zB G σ.tm s) (zB G σ.tm x) σ K):jv P o a.eval R.w (YV G E a K):=
 (Uy ho h hK).mono fun _ _ h=>Gm.after h
theorem zbB {tn:TypeId} {s:Operand} (ho:o.op = .call { callee:=.builtin .append,args:=#[s,x],argTypes:=#[t,tn] }) {K:C->St->Prop} {R:Env} {L:Loc} (h:qT G E σ a R L) (hK:Np P t tn (zB G σ.tm s) (zB G σ.tm x) σ K):jv P o a.eval R.w (YV G E a K):=by
 unfold Np at hK;split at hK<;>try exact hK.elim
 rename_i e s1 b1 z1 kn s2 b2 z2 hl hln;have ht:=qe hl rfl;have htn:=VF hln rfl;split at hK<;>try exact hK.elim
 rename_i kd k by' z hle;obtain ⟨i,d,hi,hd,_,hsz,hbyt,hzz⟩:=qk hle;simp only at hsz hbyt hzz;have hexec:∀ v' w',(Builtin.append_ #[t,tn] o.type #[a.eval s,a.eval x]).run P R.w = .ok v' w'->(execOp a.eval o).run P R.w = .ok (.value v') w':=fun v' w' hrun=>by
  unfold execOp;simp only[ho,resolve,invoke,builtin,Wm,WA,Wh,OC,WC,Oo,hrun]
 split at hK<;>try exact hK.elim
 rotate_left
 ·rename_i kq q hev hevx;obtain ⟨hzk,hk0,hz1,hq0,h63,hby,hK⟩:=hK;cases hiz:i.zero with
  | none=>simp[hiz]at hzz
  | some zv =>
   simp only[hiz,Wu,Option.some.injEq]at hzz;have hzc:zv.cells.size=k:=by rw[←hzk,hzz];simp
   have hzone:∀ n,∀ v∈(Builtin.zeroCells zv.cells n).toList,v.oneCell'=true:=Jb (by rw[←hzz];exact hz1);have hs:=h.ev s;rw[hev,zp]at hs;have hxv:=h.ev x;rw[hevx,zp]at hxv;obtain ⟨m,rfl⟩:∃ m:Nat,q=(m:Int):=⟨q.toNat,by omega⟩;simp only[At]at hK;have hby':m*by'<=140737488355328:=by
    have:((m*by':Nat):Int)<=140737488355328:=by
     rw[Int.natCast_mul];exact hby
    omega
   have hold:∀ w,w.heap=R.w.heap->(Builtin.firstCells i.size 0 (.slice none 0 0)).run P w = .ok ([]:List Value).toArray w:=fun w hw=>by simp[Builtin.firstCells]
   have hmb:m*i.bytes<=281474976710656:=by rw[←hbyt];omega
   have hrun:=Lib.run_append_grow_zeros (P:=P) R.w t tn o.type e i zv kq kn ht htn hi hiz none 0 0 [] (hold R.w.drew rfl) m (by omega) (by omega) (by omega) (by omega) hmb (Bb (by omega) (by rw[←hbyt];simpa using hby'));rw[←hs,←hxv]at hrun;have hge:=AX R.w (0+m) 0 e;have hgm:grownCap R.w (0+m) 0 e<=maxLen:=O1 _ _ _ _ (by unfold maxLen;omega);generalize grownCap R.w (0+m) 0 e=nc at hrun hge hgm;have hbel:Below R.w.heap.size R.w (R.w.drew.alloc (.cells (([]:List Value).toArray++Builtin.zeroCells zv.cells m++Builtin.zeroCells zv.cells (nc-(0+m))) e)):=((Ob _ _).drew).alloc (Wb _) _;have hzl:(Builtin.zeroCells zv.cells (nc-(0+m))).toList.length=(nc-(0+m))*k:=by rw[WS,As,hzc]
   obtain ⟨R',L',f1,f2,f3⟩:=h.newBoxW hbel (Wb _) ((List.replicate m (z.map zD)).flatten++List.replicate ((nc-m)*k) .any) (([]:List Value).toArray++Builtin.zeroCells zv.cells m++Builtin.zeroCells zv.cells (nc-(0+m))) e (OH R.w.drew _) (fun M' hM _ _=>by
    simp only[Og,Om];refine zo ?_ ?_
    ·rw[hzz];exact XX _ k m hzc hk0
    ·rw[show nc-m=nc-(0+m) by omega,←hzl];exact Yo _) (fun v hv=>by
    simp only[Og,WB,Om]at hv;rcases hv with hv | hv
    ·exact hzone _ v hv
    ·exact hzone _ v hv)
   refine jv.value (hexec _ _ hrun) ⟨_,_,R',L',f1,f2,jy.2 ⟨_,f3,_,?_,fun _=>rfl⟩,hK nc (by omega) hgm⟩;simp
 rename_i bi off k' n c kq q hev hevx;split at hK<;>try exact hK.elim
 rename_i cs hcs;obtain ⟨hzk,hk0,hz1,rfl,hcl,hnc,hq0,h63,hby,hg,hK⟩:=hK;cases hiz:i.zero with
 | none=>simp[hiz]at hzz
 | some zv =>
  simp only[hiz,Wu,Option.some.injEq]at hzz;have hzc:zv.cells.size=k':=by rw[←hzk,hzz];simp
  have hzone:∀ n,∀ v∈(Builtin.zeroCells zv.cells n).toList,v.oneCell'=true:=Jb (by rw[←hzz];exact hz1);have hs:=h.ev s;rw[hev,jy]at hs;have hxv:=h.ev x;rw[hevx,zp]at hxv;obtain ⟨b,hb,ad0,es,had0⟩:=hs;obtain ⟨vs,ty,e1,e2,e3,e4⟩:=h.good.fit.boxes.box bi b cs hb hcs;have hvl:=zy e2;simp only[WS]at hvl;have hnk:n*k'<=c*k':=WM _ hnc;obtain ⟨m,rfl⟩:∃ m:Nat,q=(m:Int):=⟨q.toNat,by omega⟩;simp only[At]at hK;have hby':(n+m)*by'<=140737488355328:=by
   have:(((n+m)*by':Nat):Int)<=140737488355328:=by
    rw[Int.natCast_mul,Int.natCast_add];exact hby
   omega
  have hol:((vs.toList.drop off).take (n*k')).length=n*k':=by simp;omega
  have hold:∀ w,w.heap=R.w.heap->(Builtin.firstCells i.size n (.slice (some ad0) n c)).run P w = .ok ((vs.toList.drop off).take (n*k')).toArray w:=fun w hw=>by
   refine Bh (P:=P) w i.size n ad0 n c _ (by rw[hol,hsz]) fun j v hj=>?_;obtain rfl:=had0 (by
    rcases O2 n with h0 | h0
    ·subst h0;simp at hj
    ·omega)
   rw[Addr.add_none,Ac w b (off+j) vs ty (0,0) (by rw[hw];exact e1)];rw[WF]at hj;split at hj
   ·rw[W3]at hj;simpa using hj
   ·cases hj
  have hmb:m*i.bytes<=281474976710656:=by
   have:m*by'<=(n+m)*by':=WM _ (by omega);rw[←hbyt];omega
  have hrun:=Lib.run_append_grow_zeros (P:=P) R.w t tn o.type e i zv kq kn ht htn hi hiz (some ad0) n c ((vs.toList.drop off).take (n*k')) (hold R.w.drew rfl) m (by omega) (by omega) (by omega) (by omega) hmb (Bb (by omega) (by rw[←hbyt];exact hby'));rw[←es,←hxv]at hrun;have hge:=AX R.w (n+m) c e;have hgm:grownCap R.w (n+m) c e<=maxLen:=O1 _ _ _ _ (by unfold maxLen;omega);generalize grownCap R.w (n+m) c e=nc at hrun hge hgm;have hbel:Below R.w.heap.size R.w (R.w.drew.alloc (.cells (((vs.toList.drop off).take (n*k')).toArray++Builtin.zeroCells zv.cells m++Builtin.zeroCells zv.cells (nc-(n+m))) e)):=((Ob _ _).drew).alloc (Wb _) _;have hzl:(Builtin.zeroCells zv.cells (nc-(n+m))).toList.length=(nc-(n+m))*k':=by rw[WS,As,hzc]
  obtain ⟨R',L',f1,f2,f3⟩:=h.newBoxW hbel (Wb _) ((cs.drop off).take (n*k')++(List.replicate m (z.map zD)).flatten++List.replicate ((nc-(n+m))*k') .any) (((vs.toList.drop off).take (n*k')).toArray++Builtin.zeroCells zv.cells m++Builtin.zeroCells zv.cells (nc-(n+m))) e (OH R.w.drew _) (fun M' hM _ _=>by
   simp only[Og];refine zo (zo (zx.ext (R:=R) (Ext.of_below hbel hM) (zR.refl L) _ _ (qR _ (jg _ e2))) ?_) ?_
   ·rw[hzz];exact XX _ k' m hzc hk0
   ·rw[←hzl];exact Yo _) (fun v hv=>by
   simp only[Og,WB]at hv;rcases hv with (hv | hv) | hv
   ·exact e3 v (WU (Ww hv))
   ·exact hzone _ v hv
   ·exact hzone _ v hv)
  exact jv.value (hexec _ _ hrun) ⟨_,_,R',L',f1,f2,jy.2 ⟨_,f3,_,rfl,fun _=>rfl⟩,hK nc hge hgm⟩
end
end
section
open Go.RowKit
section
variable {P:Program} {G:zq} {E:Ctx} {σ:St} {o:Oper} {a:Act} {N p:Nat}
def Nh (P:Program) (t:TypeId) (s x:C) (σ:St) (K:C->St->Prop):Prop:=
 match s with
 | .own id e k rows=>vC P t (.own id e k rows) x σ K
 | s=>Vr P t s x σ.nx fun c nx'=>K c ⟨σ.tm,σ.bx,nx',σ.lg⟩
structure Yd where
 l:Nat
 items:List (List C)
 st:Nat->Bool
structure Far (R R':Env):Prop where
 os:R'.w.os=R.w.os
 tape:R'.w.tape=R.w.tape
 output:R'.w.output=R.w.output
 size:R.w.heap.size<=R'.w.heap.size
 ext:Ext R R'
 fgn:∀ b,b<R.w.heap.size->(R'.F b↔R.F b)
 flt:∀ b,R'.F b->b<R'.w.heap.size
 blk:∀ b,b<R.w.heap.size->¬R.F b->R'.w.heap[b]?=R.w.heap[b]?/\∀ o,(R'.M b o↔R.M b o)
def YOk (P:Program) (y:Yd) (J:Nat->Env->Prop):Prop:=∀ (k:Nat) (R:Env) (it:List C) (vs:List Value),J k R->(∀ b,R.F b->b<R.w.heap.size)->(∀ j,j<k->y.st j=false)->y.items[k]?=some it->zx R zU it vs ->
 YieldAt Fence.wide 0 P y.l vs.toArray R.w fun e w'=>e = .returned (.bool (!y.st k))/\∃ R',R'.w=w'/\Far R R'/\J (k+1) R'
structure Hd where
 p:Nat
 y:Option Yd
 b:Nat->List Bool
structure zoD (P:Program) (h:Hd) (E:Ctx):Prop where
 yd:∀ y,h.y=some y->YOk P y E.J
 box:E.β0.length<=h.p
def Nx (y:Yd) (it:Option (List C)) (args:List C) (σ:St) (K:C->St->Prop):Prop:=
 match it with
 | some it=>zh [] 0 args it/\(∀ j,j<σ.lg->y.st j=false)/\K (.sc (.bool (!y.st σ.lg))) ⟨σ.tm,σ.bx,σ.nx,σ.lg+1⟩
 | none=>False
def zaX (Y:Option Yd) (l:Nat) (args:List C) (σ:St) (K:C->St->Prop):Prop:=
 match Y with
 | some y=>l=y.l/\Nx y y.items[σ.lg]? args σ K
 | none=>False
def ye (P:Program) (G:zq) (Y:Hd) (callee:C) (args:List C) (σ:St) (K:C->St->Prop):Prop:=
 match callee with
 | .sc (.func (.yield l) fs cs)=>fs = #[]/\cs = #[]/\zaX Y.y l args σ K
 | .clo (.func f) first cap=>x9 P G (.clo (.func f) first cap) args σ.nx (fun c nx'=>K c ⟨σ.tm,σ.bx,nx',σ.lg⟩)∨vx P G f (first++args++cap) σ K∨zll P G f (first++args++cap) σ K∨kI P G f (first++args++cap) σ K∨zd0 P f (first++args++cap) σ K
 | _=>False
def Hd.bx (Y:Hd) (t:TypeId):Bool:=(Y.b (1000000+t)).headD false
def Hd.bx2 (Y:Hd) (t:TypeId):Bool:=((Y.b (1000000+t)).drop 1).headD false
def zqL (P:Program) (t:TypeId) (c:C) (K:C->Prop):Prop:=
 match lay P t,c with
 | some ⟨.slice _,_,_,_⟩,.bs _ _ _ _ c=>K (.sc (.int .i64 (c:Int)))
 | some ⟨.slice _,_,_,_⟩,.sc (.slice none 0 0)=>K (.sc (.int .i64 0))
 | _,_=>False
def y5 (P:Program) (G:zq) (Y:Hd) (b:Builtin) (args:List Operand) (tys:List TypeId) (σ:St) (K:C->St->Prop):Prop:=
 match b,args,tys with
 | .len,[x],[t]=>zre P t (zB G σ.tm x) fun c=>K c σ
 | .append,[s,x],[t,t']=>if t'=t then (if Y.bx t then (if Y.bx2 t then YW P t (zB G σ.tm s) (zB G σ.tm x) σ K else k7 P Y.p t (zB G σ.tm s) (zB G σ.tm x) σ K) else Nh P t (zB G σ.tm s) (zB G σ.tm x) σ K) else Np P t t' (zB G σ.tm s) (zB G σ.tm x) σ K
 | .copy,[d,x],[t,t']=>Zu P t (zB G σ.tm d) (zB G σ.tm x) σ K
 | .clear,[x],[t]=>Hm P t (zB G σ.tm x) σ K
 | .cap,[x],[t]=>zqL P t (zB G σ.tm x) fun c=>K c σ
 | .max,[x,y],[_,_]=>zqu (zB G σ.tm x) (zB G σ.tm y) fun c=>K c σ
 | _,_,_=>False
def N6 (P:Program) (G:zq) (Y:Hd) (op:Op) (σ:St) (K:C->St->Prop):Prop:=
 match op with
 | .alloc t=>zhn P t σ K
 | .box _ x=>zsZ (zB G σ.tm x) σ K
 | .store t p x=>ZT P t (zB G σ.tm p) (zB G σ.tm x) σ K
 | .call c=>match c.callee with
  | .value f=>ye P G Y (zB G σ.tm f) (c.args.toList.map (zB G σ.tm)) σ K
  | .builtin b=>y5 P G Y b c.args.toList c.argTypes.toList σ K
  | _=>False
 | .buildSlice t n parts=>if Y.bx t then Vj P t n (parts.toList.map fun p=>(p.1,zB G σ.tm p.2)) σ K else YS P t n (parts.toList.map fun p=>(p.1,zB G σ.tm p.2)) σ.nx fun c nx'=>K c ⟨σ.tm,σ.bx,nx',σ.lg⟩
 | .mapUpdate t m k x=>G6 P t (zB G σ.tm m) (zB G σ.tm k) (zB G σ.tm x) σ K
 | .insert t m k x=>G6 P t (zB G σ.tm m) (zB G σ.tm k) (zB G σ.tm x) σ K
 | .makeSlice t l c=>if Y.bx t then UK P t (zB G σ.tm l) (zB G σ.tm c) σ K else zeO P t (zB G σ.tm l) (zB G σ.tm c) σ.nx fun c nx'=>K c ⟨σ.tm,σ.bx,nx',σ.lg⟩
 | op=>JI P G σ.bx (zB G σ.tm) op σ.nx fun c nx'=>K c ⟨σ.tm,σ.bx,nx',σ.lg⟩
theorem YU.far (h:YU G E σ R L) (hf:Far R R') {lg:Nat} (hJ:E.J lg R'):YU G E ⟨σ.tm,σ.bx,σ.nx,lg⟩ R' L:=by
 refine ⟨⟨h.fit.glob.ext hf.ext,⟨h.fit.boxes.len,h.fit.boxes.nodup,fun i b cs hi hc=>?_⟩,⟨fun id e k v ht=>?_,h.fit.owns.apart⟩,fun g hg=>h.fit.base g (WN hf.size hg)⟩,hf.os.trans h.os,hf.tape.trans h.tape,hf.output.trans h.output,WN h.size hf.size,fun b hb hx hF=>?_,h.ext.trans hf.ext,h.box,h.tub,hf.flt,fun b hb=>(hf.fgn b (WH hb h.size)).trans (h.fz b hb),fun b hb hF=>?_,fun id e k v b ht hv hF=>?_,h.free,hJ⟩
 ·obtain ⟨vs,ty,e1,e2,e3,e4⟩:=h.fit.boxes.box i b cs hi hc;obtain ⟨g1,g2⟩:=hf.blk b (qg e1) (h.fbx b (Wf hi));exact ⟨vs,ty,g1.trans e1,zx.ext hf.ext (zR.refl _) _ _ e2,e3,fun o=>(g2 o).2 (e4 o)⟩
 ·refine (h.fit.owns.own id e k v ht).move fun g hv q2 hlt q7=>?_;obtain ⟨g1,g2⟩:=hf.blk g hlt (h.fow id e k v g ht hv);exact ⟨q2,g1,q7,fun o ho=>(g2 o).2 ho⟩
 ·have hlt:=WH hb h.size;have hF':¬R.F b:=fun h'=>hF ((hf.fgn b hlt).2 h');obtain ⟨g1,g2⟩:=hf.blk b hlt hF';obtain ⟨k1,k2⟩:=h.blk b hb hx hF';exact ⟨g1.trans k1,fun o=>(g2 o).trans (k2 o)⟩
 ·exact h.fbx b hb ((hf.fgn b (h.fit.β_lt b hb)).1 hF)
 ·exact h.fow id e k v b ht hv ((hf.fgn b ((h.fit.owns.own id e k v ht).block hv).2.1).1 hF)
theorem N2.far (h:N2 E ds R) (hf:Far R R'):N2 E ds R':=by
 obtain ⟨l,e,hl,h⟩:=h;refine ⟨l,e,hl,fun d hd=>?_⟩;obtain ⟨h1,h2,h3⟩:=h d hd;exact ⟨(hf.blk d (qg h1) h3).1.trans h1,h2,fun h'=>h3 ((hf.fgn d (qg h1)).1 h')⟩
theorem qT.far (h:qT G E σ a R L) (hf:Far R R') {lg:Nat} (hJ:E.J lg R'):qT G E ⟨σ.tm,σ.bx,σ.nx,lg⟩ a R' L:=
 ⟨h.good.far hf hJ,h.size,h.df.far hf,fun t=>Rep.ext hf.ext (zR.refl _) _ _ (h.tm t)⟩
theorem uJ {Y:Option Yd} (hY:∀ y,Y=some y->YOk P y E.J) {c:Call} {f:Operand} (ho:o.op = .call c) (hc:c.callee = .value f) {l:Nat} (hev:zB G σ.tm f = .sc (.func (.yield l) #[] #[])) {K:C->St->Prop} {R:Env} {L:Loc} (h:qT G E σ a R L)
  (hK:zaX Y l (c.args.toList.map (zB G σ.tm)) σ K):jv P o a.eval R.w (YV G E a K):=by
 unfold zaX at hK;split at hK<;>try exact hK.elim
 rename_i y;obtain ⟨rfl,hK⟩:=hK;unfold Nx at hK;split at hK<;>try exact hK.elim
 rename_i it hit;obtain ⟨hle,hst,hK⟩:=hK;have hf:=h.ev f;rw[hev,zp]at hf;have hargs:=zx.less _ _ _ hle (YY h.ev c.args.toList);have hargs0:zx R zU it (c.args.toList.map a.eval):=by
  refine zx.ext (Ext.refl R) (T:=Jw [] 0 L) ⟨fun i b hb=>?_,fun id x hx=>?_⟩ _ _ hargs
  ·simp at hb
  ·have hx:Vo [] L.T id=some x:=hx;simp[Vo]at hx
 obtain ⟨fn,tmps,assign,body,hrun,hround⟩:=hY y rfl σ.lg R it _ h.good.log h.good.flt hst hit hargs0;have hexec:(execOp a.eval o).run P R.w = .ok (.round y.l fn tmps assign body) R.w:=by
  unfold execOp;simp only[ho,resolve,hc,hf];have e2:(Deferred.ofValue (.func (.yield y.l) #[] #[]) (c.args.map a.eval)).run P R.w = .ok { target:=.fn (.yield y.l) #[],args:=c.args.map a.eval } R.w:=by
   simp[Deferred.ofValue]
  rw[Wm,e2];simp only[Wh,invoke];have e3:(c.args.toList.map a.eval).toArray=c.args.map a.eval:=by apply Bq;simp
  rw[e3]at hrun;simpa using hrun
 unfold jv;rw[hexec];refine hround.mono ?_;rintro e w' ⟨rfl,R',rfl,hfar,hJ⟩;exact ⟨_,rfl,_,_,R',L,rfl,h.far hfar hJ,zp.2 rfl,hK⟩
theorem zfK (ho:o.op = .call { callee:=.builtin .cap,args:=#[x],argTypes:=#[t] }) {K:C->St->Prop} {R:Env} {L:Loc} (h:qT G E σ a R L) (hK:zqL P t (zB G σ.tm x) fun c=>K c σ):jv P o a.eval R.w (YV G E a K):=by
 unfold zqL at hK;split at hK<;>try exact hK.elim
 ·rename_i e s1 b1 z1 i off k n c hl hev;have hs:=h.ev x;rw[hev,jy]at hs;obtain ⟨b,hb,ad,es,_⟩:=hs;refine jv.value (w':=R.w) (v:=goInt (c:Int)) ?_ ⟨_,_,R,L,rfl,h,zp.2 rfl,hK⟩;unfold execOp;simp only[ho,resolve,invoke,builtin,Wm,WA,Wh,OC,WC,Oo,es];simp[Builtin.cap_,WD (qe hl rfl)]
 ·rename_i e s1 b1 z1 hl hev;have hs:=h.ev x;rw[hev,zp]at hs;refine jv.value (w':=R.w) (v:=goInt ((0:Nat):Int)) ?_ ⟨_,_,R,L,rfl,h,zp.2 rfl,hK⟩;unfold execOp;simp only[ho,resolve,invoke,builtin,Wm,WA,Wh,OC,WC,Oo,hs];simp[Builtin.cap_,WD (qe hl rfl)]
theorem V3 {Y:Hd} (hY:zoD P Y E) {K:C->St->Prop} (hK:N6 P G Y o.op σ K) {R:Env} {L:Loc} (h:qT G E σ a R L):jv P o a.eval R.w (YV G E a K):=by
 have pure1:JI P G σ.bx (zB G σ.tm) o.op σ.nx (fun c nx'=>K c ⟨σ.tm,σ.bx,nx',σ.lg⟩)->jv P o a.eval R.w (YV G E a K):=fun hp=>by
  obtain ⟨c,nx',h1,h2⟩:=U3 _ hp;exact VK h1 h h2
 unfold N6 at hK;split at hK
 ·exact v7 (by assumption) h hK
 ·exact zfn (by assumption) h hK
 ·exact uG (by assumption) h hK
 ·rename_i c ho;split at hK
  ·rename_i f hc;unfold ye at hK;split at hK
   ·rename_i l fs cs hev;obtain ⟨rfl,rfl,hK⟩:=hK;exact uJ hY.yd ho hc hev h hK
   ·rename_i fid first cap hev
    rcases hK with hK | hK | hK | hK | hK
    ·exact pure1 (by rw[ho];simp only[JI,xg,hc];rw[hev];exact hK)
    ·exact vE ho hc hev h hK
    ·obtain ⟨fargs,r,n,h1,h2,h3,h4⟩:=hK;exact VK (zcT ho hc hev h1 h2 h3) h h4
    ·exact Hz ho hc hev h hK
    ·exact vn ho hc hev h hK
   ·exact hK.elim
  ·rename_i b hc;unfold y5 at hK;split at hK
   ·rename_i x t h1 h2;exact pure1 (by rw[ho];simp only[JI,xg,hc,kl,h1,h2];exact hK)
   ·rename_i s x t t' h1 h2;split at hK
    rotate_left
    ·obtain ⟨callee,args,argTypes⟩:=c;simp only at hc h1 h2;rw[qy h1,qy h2,hc]at ho;exact zbB ho h hK
    subst_vars
    split at hK
    ·obtain ⟨callee,args,argTypes⟩:=c;simp only at hc h1 h2;rw[qy h1,qy h2,hc]at ho;split at hK
     ·exact yv ho h hK
     ·exact MW hY.box ho h hK
    ·unfold Nh at hK;split at hK
     ·rename_i id e k rows hev;rw[←hev]at hK;obtain ⟨callee,args,argTypes⟩:=c;simp only at hc h1 h2;rw[qy h1,qy h2,hc]at ho;exact Mv ho h hK
     ·exact pure1 (by rw[ho];simp only[JI,xg,hc,kl,h1,h2];exact ⟨trivial,hK⟩)
   ·rename_i d x t t' h1 h2;obtain ⟨callee,args,argTypes⟩:=c;simp only at hc h1 h2;rw[qy h1,qy h2,hc]at ho;exact zcP ho h hK
   ·rename_i x t h1 h2;obtain ⟨callee,args,argTypes⟩:=c;simp only at hc h1 h2;rw[YB h1,YB h2,hc]at ho;exact yI ho h hK
   ·rename_i x t h1 h2;obtain ⟨callee,args,argTypes⟩:=c;simp only at hc h1 h2;rw[YB h1,YB h2,hc]at ho;exact zfK ho h hK
   ·rename_i x y t t' h1 h2;exact pure1 (by rw[ho];simp only[JI,xg,hc,kl,h1,h2];exact hK)
   ·exact hK.elim
  ·exact hK.elim
 ·rename_i t n parts ho;split at hK
  ·exact HT ho h hK
  ·obtain ⟨c,nx',h1,h2⟩:=Ql ho _ hK;exact VK h1 h h2
 ·exact Uo (.inl (by assumption)) h hK
 ·exact Uo (.inr (by assumption)) h hK
 ·rename_i t l c ho;split at hK
  ·exact NC ho h hK
  ·exact pure1 (by rw[ho];exact hK)
 ·exact pure1 hK
end
end
section
open Go.RowKit
abbrev Fl (r:Option Nat):Fence:={ fn:=fun _=>True,depth:=none,alive:=false,round:=r }
theorem GA {P:Program} {args:Array Value} {R:Ending->World->Prop} (h:Calls P f args w R):CallsIn (Fl r) n P f args w R:=by
 have:=(callsIn_wide (n:=n)).2 h;cases r with
 | none=>exact this
 | some l=>exact this
theorem zdr {P:Program} {l:Nat} {tmps:Array Value} {assign body:Code} {R:Ending->World->Prop} (h:RoundIn Fence.wide 0 P l f tmps assign body w R):RoundIn (Fl r) n P l f tmps assign body w R:=by
 have:RoundIn (Fl none) n P l f tmps assign body w R:=⟨h.1,fun c cs _=>h.2 c cs (room_wide _)⟩;cases r with
 | none=>exact this
 | some l=>exact this
section
variable {P:Program} {G:zq} {E:Ctx} {σ:St} {o:Oper} {a:Act} {N p:Nat}
theorem JA {next:Act->World->Prop} (h:jv P o a.eval w fun v w'=>next (a.put o.dst v) w'):o.wpIn (Fl r) n P a w next Q:=by
 have hnd:∀ c,o.op≠.defer c:=fun c hc=>by
  unfold jv at h;have:(execOp a.eval o).run P w=((resolve a.eval c o.type).run P w).andThen fun d w'=>.ok (.defer d) w':=by
   unfold execOp;simp only[hc,Wm,WA]
  rw[this]at h;cases hr:(resolve a.eval c o.type).run P w with
  | ok d w'=>rw[hr]at h;exact h
  | halt x w'=>rw[hr]at h;cases x<;>exact h
 refine ⟨fun f _=>trivial,?_⟩;rw[Oper.semAt_eq _ _ _ hnd];unfold jv at h;split at h
 ·rename_i v w' hr;rw[hr];exact h
 ·rename_i w' hr;rw[hr];exact h
 ·rename_i f args w' hr;rw[hr];refine ⟨fun hx=>by simp at hx,GA (h.mono ?_)⟩;rintro e w'' ⟨v,rfl,hv⟩;exact hv
 ·rename_i l f tmps assign body w' hr;rw[hr];refine ⟨fun hx=>by simp at hx,zdr (h.mono ?_)⟩;rintro e w'' ⟨v,rfl,hv⟩;exact hv
 ·exact h.elim
def jm (ops:Array Oper) (tm:List (Nat×C)) (g:Option (Nat×Bool)) (X Y:Prop):Prop:=
 match g with
 | none=>X
 | some (j,want)=>match (ops[j]?).bind (·.dst) with
  | some d=>match want with
   | true=>zhK (j7 tm d) Y X Y
   | false=>zhK (j7 tm d) Y Y X
  | none=>False
def qS (ops:Array Oper) (tm:List (Nat×C)) (g:Option (Nat×Bool)) (b:Bool):Prop:=
 match g with
 | none=>b=true
 | some (j,want)=>∃ d,(ops[j]?).bind (·.dst)=some d/\((∃ t,j7 tm d = .sc (.bool t)/\b=(t==want))∨((∃ vs,j7 tm d = .sc (.tuple vs))/\b=false))
theorem jm.out {ops:Array Oper} {g:Option (Nat×Bool)} {X Y:Prop} (h:jm ops tm g X Y):∃ b,qS ops tm g b/\(b=true->X)/\(b=false->Y):=by
 unfold jm at h;split at h
 ·exact ⟨true,rfl,fun _=>h,fun h=>by cases h⟩
 ·rename_i j want;split at h
  ·rename_i d hd;split at h
   ·rcases h.out with ⟨t,ht,h1,h2⟩ | ⟨hu,h1⟩
    ·exact ⟨t==true,⟨d,hd,.inl ⟨t,ht,rfl⟩⟩,fun e=>h1 (by simpa using e),fun e=>h2 (by simpa using e)⟩
    ·exact ⟨false,⟨d,hd,.inr ⟨hu,rfl⟩⟩,fun e=>(by cases e),fun _=>h1⟩
   ·rcases h.out with ⟨t,ht,h1,h2⟩ | ⟨hu,h1⟩
    ·exact ⟨t==false,⟨d,hd,.inl ⟨t,ht,rfl⟩⟩,fun e=>h2 (by simpa using e),fun e=>h1 (by simpa using e)⟩
    ·exact ⟨false,⟨d,hd,.inr ⟨hu,rfl⟩⟩,fun e=>(by cases e),fun _=>h1⟩
  ·exact h.elim
theorem j0 {ops:Array Oper} {g:Option (Nat×Bool)} (hg:o.guard=g) (h:qS ops tm g b) {R:Env} {L:Loc} (hd:∀ j want d,g=some (j,want)->(ops[j]?).bind (·.dst)=some d->d<a.tmps.size/\Rep R L (j7 tm d) (a.tmps.getD d undef)) :
  Region.wanted o (yielded ops a.tmps)=b:=by
 unfold Region.wanted;rw[hg];unfold qS at h;cases g with
 | none=>exact h.symm
 | some jw =>
  obtain ⟨j,want⟩:=jw;obtain ⟨d,h1,h2⟩:=h;obtain ⟨hlt,hr⟩:=hd j want d rfl h1;have hget:a.tmps[d]?=some (a.tmps.getD d undef):=by rw[W0 hlt,Wq,W0 hlt];rfl
  rcases h2 with ⟨t,h2,rfl⟩ | ⟨⟨vs,h2⟩,rfl⟩
  ·rw[h2,zp]at hr;have hy:yielded ops a.tmps j=some t:=by
    unfold yielded;rw[h1];simp[hget,hr]
   simp only[hy];cases t<;>cases want<;>rfl
  ·rw[h2,zp]at hr;have hy:yielded ops a.tmps j=none:=by
    unfold yielded;rw[h1];simp[hget,hr]
   simp only[hy]
   rfl
def JH (tm:List (Nat×C)) (dst:Option Tmp) (c:C):List (Nat×C):=match dst with | some d=>(d,c) :: tm | none=>tm
def Vf (P:Program) (G:zq) (Y:Hd) (ops:Array Oper):List Oper->List Bool->St->(St->Prop)->Prop
 | [],_,σ,K=>K σ
 | o :: rest,br,σ,K=>jm ops σ.tm o.guard
   (match br.headD false with
    | true=>N6 P G Y o.op σ fun c σ'=>Vf P G Y ops rest br.tail (σ'.put o.dst c) K
    | false=>JI P G σ.bx (zB G σ.tm) o.op σ.nx fun c nx'=>Vf P G Y ops rest br.tail ⟨JH σ.tm o.dst c,σ.bx,nx',σ.lg⟩ K)
   (Vf P G Y ops rest br.tail ⟨JH σ.tm o.dst (.sc undef),σ.bx,σ.nx,σ.lg⟩ K)
theorem uh {bx:List (List C)} {ev ev':Operand->C} {K:C->Nat->Prop} (op:Op) (h:∀ x∈op.operands,ev x=ev' x):JI P G bx ev op nx K=JI P G bx ev' op nx K:=by
 have parts:∀ l:List (Nat×Operand),(∀ x∈l.map (·.2),ev x=ev' x)->l.map (fun p=>(p.1,ev p.2))=l.map fun p=>(p.1,ev' p.2):=fun l hl =>
  AJ fun p hp=>by rw[hl p.2 (WQ.2 ⟨p,hp,rfl⟩)]
 have many:∀ l:List Operand,(∀ x∈l,ev x=ev' x)->l.map ev=l.map ev':=fun l hl=>AJ hl;cases op<;>simp only[Op.operands]at h<;>simp only[JI]
 case move x=>rw[h x (by simp)]
 case assign x=>rw[h x (by simp)]
 case pick c a b=>rw[h c (by simp),h a (by simp),h b (by simp)]
 case build t ps=>rw[parts _ fun x hx=>h x (by simpa using hx)]
 case buildSlice t n ps=>rw[parts _ fun x hx=>h x (by simpa using hx)]
 case load t x=>rw[h x (by simp)]
 case nilCheck x=>rw[h x (by simp)]
 case store t p x=>rw[h p (by simp),h x (by simp)]
 case lookup t m k ok=>rw[h m (by simp),h k (by simp)]
 case makeMap t r =>
  have e1:r.map ev=r.map ev':=by cases r with | none=>rfl | some y=>simp[h y (by simp)]
  rw[e1]
 case binOp op t x y t'=>rw[h x (by simp),h y (by simp)]
 case unOp op t x=>rw[h x (by simp)]
 case convert s d x=>rw[h x (by simp)]
 case makeFunc fn first cap=>rw[many first.toList fun x hx=>h x (by simp at hx ⊢;exact .inl hx),many cap.toList fun x hx=>h x (by simp at hx ⊢;exact .inr hx)]
 case makeSlice t l c=>rw[h l (by simp),h c (by simp)]
 case slice t x lo hi mx =>
  rw[h x (by simp)];have e1:lo.map ev=lo.map ev':=by cases lo with | none=>rfl | some y=>simp[h y (by simp)]
  have e2:hi.map ev=hi.map ev':=by cases hi with | none=>rfl | some y=>simp[h y (by simp)]
  have e3:mx.map ev=mx.map ev':=by cases mx with | none=>rfl | some y=>simp[h y (by simp)]
  rw[e1,e2,e3]
 case fieldAddr t x f=>rw[h x (by simp)]
 case field t x f=>rw[h x (by simp)]
 case indexAddr t x i=>rw[h x (by simp),h i (by simp)]
 case index t x i=>rw[h x (by simp),h i (by simp)]
 case extract t i=>rw[h t (by simp)]
 case call c =>
  unfold xg;have hargs:∀ x∈c.args.toList,ev x=ev' x:=fun x hx=>h x (by unfold Call.operands;simp at hx ⊢;exact .inr hx);split
  ·rename_i f hc;rw[h f (by unfold Call.operands;rw[hc];simp),many _ hargs]
  ·unfold kl;split
   ·rename_i x t h1 h2 _;rw[hargs x (by rw[h1];simp)]
   ·rename_i s x t t' h1 h2 _;rw[hargs s (by rw[h1];simp),hargs x (by rw[h1];simp)]
   ·rename_i s x t t' h1 h2 _;rw[hargs s (by rw[h1];simp),hargs x (by rw[h1];simp)]
   ·rfl
  ·rfl
open Classical in
/-- the operands of an operation alone -/
noncomputable def Qx (o:Oper) (ev:Operand->C):Operand->C:=fun x=>if x∈o.op.operands then ev x else .any
theorem X3 {bx:List (List C)} {ev:Operand->C} {K:C->Nat->Prop} (h:JI P G bx ev o.op nx K):∃ c nx',zG P G bx (Qx o ev) nx o c nx'/\K c nx':=by
 rw[uh (ev':=Qx o ev) o.op fun x hx=>by unfold Qx;rw[if_pos hx]]at h;exact U3 K h
structure XC where
 T:Nat->List (Nat×C)
 X:Nat->Nat
 c:Nat->C
 wn:Nat->Bool
structure zgK (P:Program) (G:zq) (bx:List (List C)) (ops:Array Oper) (l:List Oper) (m m':Nat) (D:XC):Prop where
 step:∀ (i:Nat) o,m<=i->i<m'->l[i]?=some o->D.T (i+1)=JH (D.T i) o.dst (D.c i)/\D.X i<=D.X (i+1)/\qS ops (D.T i) o.guard (D.wn i) /\
  (D.wn i=true->zG P G bx (Qx o (zB G (D.T i))) (D.X i) o (D.c i) (D.X (i+1)))/\(D.wn i=false->D.c i = .sc undef/\D.X (i+1)=D.X i)
structure yq (l:List Oper) (m m':Nat) (D:XC):Prop where
 step:∀ (i:Nat) o,m<=i->i<m'->l[i]?=some o->D.T (i+1)=JH (D.T i) o.dst (D.c i)/\D.X i<=D.X (i+1)
theorem zgK.skel {bx:List (List C)} {ops:Array Oper} {m:Nat} {D:XC} (h:zgK P G bx ops l m m' D):yq l m m' D:=⟨fun i o a b c=>⟨(h.step i o a b c).1,(h.step i o a b c).2.1⟩⟩
theorem xM {Y:Hd} {ops:Array Oper} {all:List Oper} {K:St->Prop}:∀ (l:List Oper) (br:List Bool) (m:Nat) (σ:St),all.drop m=l->m<=all.length->Vf P G Y ops l br σ K ->
  ∃ (m':Nat) (D:XC),m<=m'/\m'<=all.length/\D.T m=σ.tm/\D.X m=σ.nx/\zgK P G σ.bx ops all m m' D /\
   ((m'=all.length/\K ⟨D.T m',σ.bx,D.X m',σ.lg⟩)∨(m'<all.length/\br[m'-m]?=some true/\Vf P G Y ops (all.drop m') (br.drop (m'-m)) ⟨D.T m',σ.bx,D.X m',σ.lg⟩ K))
 | [],br,m,σ,hl,hm,h=>by
  have:m=all.length:=by
   have:=Wv List.length hl;simp at this;omega
  subst this;exact ⟨_,⟨fun _=>σ.tm,fun _=>σ.nx,fun _=>.any,fun _=>true⟩,Wb _,Wb _,rfl,rfl,⟨fun i o h1 h2=>by omega⟩,.inl ⟨rfl,h⟩⟩
 | o :: rest,br,m,σ,hl,hm,h=>by
  have hlt:m<all.length:=by
   rcases Wp m all.length with g | g
   ·exact g
   ·rw[AL g]at hl;cases hl
  have hom:all[m]?=some o:=by
   have:=W3 (xs:=all) (i:=m) (j:=0);rw[hl]at this;simpa using this.symm
  have hrest:all.drop (m+1)=rest:=by
   have:=Wv List.tail hl;simpa using this
  cases hbr:br.headD false with
  | true =>
   refine ⟨m,⟨fun _=>σ.tm,fun _=>σ.nx,fun _=>.any,fun _=>true⟩,Wb _,by omega,rfl,rfl,⟨fun i o h1 h2=>by omega⟩,.inr ⟨hlt,?_,?_⟩⟩
   ·cases br with
    | nil=>simp at hbr
    | cons x r=>simp at hbr;simp[hbr]
   ·rw[hl,Nat.sub_self];exact h
  | false =>
   unfold Vf at h;obtain ⟨b,hg,h1,h2⟩:=jm.out h;simp only[hbr]at h1;have key:∀ (c:C) (nx':Nat),(b=true->zG P G σ.bx (Qx o (zB G σ.tm)) σ.nx o c nx')->(b=false->c = .sc undef/\nx'=σ.nx)->σ.nx<=nx'->Vf P G Y ops rest br.tail ⟨JH σ.tm o.dst c,σ.bx,nx',σ.lg⟩ K ->
     ∃ (m':Nat) (D:XC),m<=m'/\m'<=all.length/\D.T m=σ.tm/\D.X m=σ.nx/\zgK P G σ.bx ops all m m' D /\
      ((m'=all.length/\K ⟨D.T m',σ.bx,D.X m',σ.lg⟩)∨(m'<all.length/\br[m'-m]?=some true/\Vf P G Y ops (all.drop m') (br.drop (m'-m)) ⟨D.T m',σ.bx,D.X m',σ.lg⟩ K)):=fun c nx' hp hq hle hrst=>by
    obtain ⟨m',D,d1,d2,d3,d4,d5,d6⟩:=xM rest br.tail (m+1) _ hrest (by omega) hrst;refine ⟨m',⟨fun i=>if i<=m then σ.tm else D.T i,fun i=>if i<=m then σ.nx else D.X i,fun i=>if i=m then c else D.c i,fun i=>if i=m then b else D.wn i⟩,by omega,d2,by simp,by simp,⟨fun i o' hi hi' hio=>?_⟩,?_⟩
    ·by_cases him:i=m
     ·subst him;rw[hom]at hio;cases hio;simp only[Wb,if_true,show ¬i+1<=i by omega,Ol];refine ⟨d3,by rw[d4];exact hle,hg,fun hb=>?_,fun hb=>?_⟩
      ·rw[d4];exact hp hb
      ·rw[d4];exact hq hb
     ·simp only[if_neg him,if_neg (show ¬i<=m by omega),if_neg (show ¬i+1<=m by omega)];exact d5.step i o' (by omega) hi' hio
    ·simp only[if_neg (show ¬m'<=m by omega)];rcases d6 with ⟨g1,g2⟩ | ⟨g1,g2,g3⟩
     ·exact .inl ⟨g1,g2⟩
     ·refine .inr ⟨g1,?_,?_⟩
      ·cases br with
       | nil=>simp at g2
       | cons x r =>
        rw[show m'-m=(m'-(m+1))+1 by omega];simpa using g2
      ·cases br with
       | nil=>simp at g2
       | cons x r =>
        rw[show m'-m=(m'-(m+1))+1 by omega];simpa using g3
   cases b with
   | true =>
    obtain ⟨c,nx',hp,hK⟩:=X3 (h1 rfl);exact key c nx' (fun _=>hp) (fun h=>by cases h) hp.1 hK
   | false=>exact key (.sc undef) σ.nx (fun h=>by cases h) (fun _=>⟨rfl,rfl⟩) (Wb _) (h2 rfl)
end
end
variable {D:XC}
section
open Go.RowKit
def qI (l:List Oper):Nat->List Nat
 | 0=>[]
 | m+1=>qI l m++[match l[m]? with
  | some o=>o.after.toList.foldl (fun acc e=>if Region.binds .any e then acc ||| 2 ^ e.on ||| (qI l m).getD e.on 0 else acc) 0
  | none=>0]
def inC (cl:List Nat) (i j:Nat):Bool:=(cl.getD i 0).testBit j
theorem Ze (l:List Oper):∀ m,(qI l m).length=m
 | 0=>rfl
 | m+1=>by simp[qI,Ze l m]
theorem MQ {p:List Nat} {x:Nat}:∀ (l:List Edge) (acc:Nat),(l.foldl (fun acc e=>if Region.binds .any e then acc ||| 2 ^ e.on ||| p.getD e.on 0 else acc) acc).testBit x=true ->
  acc.testBit x=true∨∃ e∈l,Region.binds .any e=true/\(x=e.on∨inC p e.on x=true)
 | [],acc,h=>.inl h
 | e :: l,acc,h=>by
  rw[Bn]at h;rcases MQ l _ h with h | ⟨e',h1,h2⟩
  ·split at h
   ·rename_i hb;simp only[Nat.testBit_or,Ot,Nat.testBit_two_pow,WR]at h;rcases h with (h | h) | h
    ·exact .inl h
    ·exact .inr ⟨e,Wj,hb,.inl h.symm⟩
    ·exact .inr ⟨e,Wj,hb,.inr h⟩
   ·exact .inl h
  ·exact .inr ⟨e',Wk _ h1,h2⟩
def jF (ops:Array Oper) (o:Oper):List Tmp:=o.looksAt ops++o.dst.toList
def zgw (ops:Array Oper) (cl:List Nat) (i:Nat) (o:Oper) (j:Nat) (o':Oper):Bool:=
 i==j||match o'.dst with
  | none=>true
  | some d=>!((jF ops o).contains d)||(if j<i then inC cl i j else inC cl j i)
def Xc (ops:Array Oper):Bool:=
 let cl:=qI ops.toList ops.size
 ops.toList.zipIdx.all fun (o,i)=>(o.after.toList.all fun e=>!Region.binds .any e||decide (e.on<i))&&ops.toList.zipIdx.all fun (o',j)=>zgw ops cl i o j o'
def jx (l:List Oper) (D:Nat->Bool):Prop:=∀ (i:Nat) o,l[i]?=some o->D i=true->∀ e∈o.after.toList,Region.binds .any e=true->D e.on=true
theorem Je {l:List Oper} {D:Nat->Bool} (hD:jx l D):∀ (m i x:Nat),inC (qI l m) i x=true->D i=true->D x=true
 | 0,i,x,h,_=>by simp[qI,inC]at h
 | m+1,i,x,h,hi=>by
  have hl:=Ze l m;simp only[qI,inC]at h;rcases Wp i m with hlt | hge
  ·rw[W4,Wt (by omega),←W4]at h;exact Je hD m i x h hi
  ·rw[W4,WK (by omega),←W4]at h;rcases Wp m i with h1 | h1
   ·rw[W4,WY (by simp;omega)]at h;simp at h
   ·have:i=m:=by omega
    subst this;rw[hl,Nat.sub_self]at h;simp only[List.getD_cons_zero]at h;cases ho:l[i]? with
    | none=>rw[ho]at h;simp at h
    | some o =>
     rw[ho]at h;rcases MQ _ _ h with h | ⟨e,he,hb,hx⟩
     ·simp at h
     ·have hon:=hD i o ho hi e he hb;rcases hx with rfl | hx
      ·exact hon
      ·exact Je hD i e.on x hx hon
def val (T0:List (Nat×C)) (l:List Oper) (c:Nat->C) (D:Nat->Bool):Nat->Nat->C
 | 0,t=>j7 T0 t
 | m+1,t=>if D m=true/\(l[m]?).bind (·.dst)=some t then c m else val T0 l c D m t
section
variable {P:Program} {G:zq} {E:Ctx} {σ:St} {a:Act} {N p:Nat} {bx:List (List C)} {ops:Array Oper}
theorem XI {D:XC} {l:List Oper} {m m':Nat} (hl:m'<=l.length) (h:yq l m m' D) (t:Nat):∀ k,m<=k->k<=m'->j7 (D.T k) t=val (D.T m) l D.c (fun j=>decide (m<=j)) k t
 | k,hm,hk=>by
  rcases Wp m k with hlt | hge
  ·obtain ⟨k,rfl⟩:∃ j,k=j+1:=⟨k-1,by omega⟩;obtain ⟨h1,_⟩:=h.step k l[k] (by omega) (by omega) (Wa (by omega));rw[h1];simp only[val,Wa (show k<l.length by omega),AC];have hmk:m<=k:=by omega
   cases hd:(l[k]).dst with
   | none=>simp[JH,XI hl h t k hmk (by omega)]
   | some d =>
    simp only[JH,j7];by_cases ht:t=d
    ·simp[ht,hmk]
    ·have:¬d=t:=fun e=>ht e.symm;simp[ht,this,XI hl h t k hmk (by omega)]
  ·obtain rfl:k=m:=by omega
   have:∀ n,n<=k->val (D.T k) l D.c (fun j=>decide (k<=j)) n t=j7 (D.T k) t:=fun n=>by
    induction n with
    | zero=>intro _;rfl
    | succ n ih =>
     intro hn;simp only[val];rw[if_neg (by simp;omega),ih (by omega)]
   exact (this k (Wb _)).symm
theorem jt {T0:List (Nat×C)} {l:List Oper} {c:Nat->C} {D D':Nat->Bool} {t:Nat}:∀ m,(∀ j,j<m->(l[j]?).bind (·.dst)=some t->D j=D' j)->val T0 l c D m t=val T0 l c D' m t
 | 0,_=>rfl
 | m+1,h=>by
  simp only[val];rw[jt m fun j hj=>h j (by omega)];by_cases hd:(l[m]?).bind (·.dst)=some t
  ·rw[h m (by omega) hd]
  ·simp[hd]
theorem JB {T0:List (Nat×C)} {l:List Oper} {c:Nat->C} {D:Nat->Bool} {t:Nat} (i:Nat):∀ m,i<=m->(∀ j,i<=j->j<m->(l[j]?).bind (·.dst)=some t->D j=false)->val T0 l c D m t=val T0 l c D i t
 | 0,hi,_=>by rw[show i=0 by omega]
 | m+1,hi,h=>by
  rcases Wp m i with h1 | h1
  ·rw[show i=m+1 by omega]
  ·simp only[val];rw[JB i m h1 fun j hj hj'=>h j hj (by omega)];by_cases hd:(l[m]?).bind (·.dst)=some t
   ·rw[h m h1 (by omega) hd];simp
   ·simp[hd]
structure Zw (G:zq) (E:Ctx) (bx:List (List C)) (lg:Nat) (l:List Oper) (m m':Nat) (D:XC) (S:Nat->Bool) (a:Act) (R:Env) (L:Loc):Prop where
 good:YU G E ⟨[],bx,D.X m',lg⟩ R L
 free:∀ id,D.X m<=id->(∀ i,m<=i->i<m'->S i=true->¬(D.X i<=id/\id<D.X (i+1)))->L.T id=none
 size:a.tmps.size=E.N
 df:N2 E a.defers R
 tm:∀ t,Rep R L (val (D.T m) l D.c (fun j=>decide (m<=j)&&S j) l.length t) (a.tmps.getD t undef)
theorem kf {D:XC} {l:List Oper} {m m':Nat} (hl:m'<=l.length) (h:yq l m m' D):∀ (i j:Nat),m<=i->i<=j->j<=m'->D.X i<=D.X j
 | i,0,_,hij,_=>by rw[show i=0 by omega];exact Wb _
 | i,j+1,hm,hij,hj=>by
  rcases Wp j i with h1 | h1
  ·rw[show i=j+1 by omega];exact Wb _
  ·obtain ⟨_,h2⟩:=h.step j l[j] (by omega) (by omega) (Wa (by omega));exact WN (kf hl h i j hm h1 (by omega)) h2
theorem zlY {m:Nat} (hl:m'<=l.length) (h:yq l m m' D) {i j id:Nat} (hmi:m<=i) (hmj:m<=j) (hi:i<m') (hj:j<m') (h1:D.X i<=id) (h2:id<D.X (i+1)) (h3:D.X j<=id) (h4:id<D.X (j+1)):i=j:=by
 rcases O9 i j with g | g | g
 ·have:=kf hl h (i+1) j (by omega) (by omega) (by omega);omega
 ·exact g
 ·have:=kf hl h (j+1) i (by omega) (by omega) (by omega);omega
theorem zdo (h:Xc ops=true) {i:Nat} {o:Oper} (ho:ops.toList[i]?=some o):∀ e∈o.after.toList,Region.binds .any e=true->e.on<i:=by
 unfold Xc at h;have h1:=Ws.1 h (o,i) (AH.2 ho);simp only[Wo]at h1;intro e he hb;have:=Ws.1 h1.1 e he;simpa [hb] using this
theorem zbs (h:Xc ops=true) {i j:Nat} {o o':Oper} (ho:ops.toList[i]?=some o) (ho':ops.toList[j]?=some o'):zgw ops (qI ops.toList ops.size) i o j o'=true:=by
 unfold Xc at h;have h1:=Ws.1 h (o,i) (AH.2 ho);simp only[Wo]at h1;exact Ws.1 h1.2 (o',j) (AH.2 ho')
theorem zc2 (h:Xc ops=true) {S:Nat->Bool} (hS:jx ops.toList S) {i:Nat} {o:Oper} (ho:ops.toList[i]?=some o) (hi:S i=false) (hpre:∀ e∈o.after.toList,Region.binds .any e=true->S e.on=true)
  {j t:Nat} (hj:(ops.toList[j]?).bind (·.dst)=some t) (ht:t∈jF ops o) (hne:j≠i):S j=decide (j<i):=by
 cases ho':ops.toList[j]? with
 | none=>rw[ho']at hj;cases hj
 | some o' =>
  rw[ho']at hj;have hd:o'.dst=some t:=hj;have hp:=zbs h ho ho';unfold zgw at hp;have hij:(i==j)=false:=by simp;omega
  rw[hij,hd]at hp;have htc:(jF ops o).contains t=true:=by simpa using ht
  simp only[OZ,htc,AP]at hp;by_cases hlt:j<i
  ·rw[if_pos hlt]at hp;have hmem:inC (qI ops.toList ops.size) i j=true:=by simpa using hp
   rw[Wl hlt]
   -- S' closes over i
   have hS':jx ops.toList (fun x=>S x||x==i):=fun k q hq hk e he hb=>by
    simp only[Ot,Oz]at hk ⊢;rcases hk with hk | hk
    ·exact .inl (hS k q hq hk e he hb)
    ·subst hk;rw[ho]at hq;cases hq;exact .inl (hpre e he hb)
   have:=Je hS' _ i j hmem (by simp);simp only[Ot,Oz]at this;exact this.resolve_right hne
  ·rw[if_neg hlt]at hp;have hmem:inC (qI ops.toList ops.size) j i=true:=by simpa using hp
   rw[Wi hlt];cases hsj:S j with
   | false=>rfl
   | true =>
    have:=Je hS _ j i hmem hsj;rw[hi]at this;cases this
theorem Zw.ev {m:Nat} (hl:m'<=ops.toList.length) (hc:yq ops.toList m m' D) (hok:Xc ops=true) (hS:jx ops.toList S) (h:Zw G E bx lg ops.toList m m' D S a R L) {i:Nat} {o:Oper} (hmi:m<=i) (hmi':i<m') (ho:ops.toList[i]?=some o) (hi:S i=false)
  (hpre:∀ e∈o.after.toList,Region.binds .any e=true->S e.on=true):∀ t∈jF ops o,Rep R L (j7 (D.T i) t) (a.tmps.getD t undef):=fun t ht=>by
 have hlt:i<ops.toList.length:=(Wc.1 ho).1;have h1:=h.tm t;have e1:val (D.T m) ops.toList D.c (fun j=>decide (m<=j)&&S j) ops.toList.length t=val (D.T m) ops.toList D.c (fun j=>decide (m<=j)&&S j) i t:=by
  refine JB i _ (by omega) fun j hj hj' hd=>?_;simp only[Ai];by_cases hne:j=i
  ·rw[hne];exact .inr hi
  ·rw[zc2 hok hS ho hi hpre hd ht hne];exact .inr (Wi (by omega))
 have e2:val (D.T m) ops.toList D.c (fun j=>decide (m<=j)&&S j) i t=val (D.T m) ops.toList D.c (fun j=>decide (m<=j)) i t:=jt i fun j hj hd=>by
  rw[zc2 hok hS ho hi hpre hd ht (by omega),Wl hj,Bk]
 rw[e1,e2,←XI hl hc t i hmi (by omega)]at h1;exact h1
theorem Zw.freeAt {m:Nat} (hl:m'<=ops.toList.length) (hc:yq ops.toList m m' D) (h:Zw G E bx lg ops.toList m m' D S a R L) {i:Nat} (hmi:m<=i) (hmi':i<m') (hi:S i=false):zoB L (D.X i) (D.X (i+1)):=fun id h1 h2 =>
 h.free id (WN (kf hl hc m i (Wb _) hmi (by omega)) h1) fun j hmj hj hsj hx=>by
  have:=zlY hl hc hmi hmj hmi' hj h1 h2 hx.1 hx.2;subst this;rw[hi]at hsj;cases hsj
theorem Zw.put {m:Nat} {L':Loc} (hl:m'<=ops.toList.length) (hc:yq ops.toList m m' D) (hok:Xc ops=true) (hS:jx ops.toList S) (h:Zw G E bx lg ops.toList m m' D S a R L) {i:Nat} {o:Oper} (hmi:m<=i) (hmi':i<m') (ho:ops.toList[i]?=some o) (hi:S i=false)
  (hpre:∀ e∈o.after.toList,Region.binds .any e=true->S e.on=true) (hd:Qd E.N o.dst) {v:Value} (st:qK (D.X i) (D.X (i+1)) R L R' L') (hv:Rep R' L' (D.c i) v) :
  Zw G E bx lg ops.toList m m' D (fun x=>S x||x==i) (a.put o.dst v) R' L':=by
 have hlt:i<ops.toList.length:=(Wc.1 ho).1;have hfree:=h.freeAt hl hc hmi hmi' hi;have hxm:=kf hl hc (i+1) m' (by omega) (by omega) (Wb _);refine ⟨?_,fun id h1 h2=>?_,?_,?_,fun t=>?_⟩
 ·refine h.good.move (st.near _ _).nigh (h.good.fit.step hfree st) ⟨[],by rw[st.box,Od],fun b hb=>by cases hb⟩ (fun id e k v b ht hv=>?_) fun id hid=>?_
  ·rcases st.cases ht with g | ⟨g1,g2⟩
   ·exact .inl ⟨id,e,k,v,g,hv⟩
   ·exact .inr ((st.new id e k v g1 g2 ht).block hv).1
  ·rw[st.old id (.inr (by omega))];exact h.good.free id hid
 ·have hni:=h2 i hmi hmi' (by simp);rw[st.old id (by omega)];exact h.free id h1 fun j hmj hj hsj=>h2 j hmj hj (by simp[hsj])
 ·cases hdst:o.dst<;>simpa [Act.put] using h.size
 ·have hdf:=h.df.near (st.near _ _);cases hdst:o.dst<;>exact hdf
 ·have hold:∀ t,Rep R' L' (val (D.T m) ops.toList D.c (fun j=>decide (m<=j)&&S j) ops.toList.length t) (a.tmps.getD t undef):=fun t=>Rep.ext st.ext (st.le hfree) _ _ (h.tm t);by_cases hdt:o.dst=some t
  ·have hlt2:t<a.tmps.size:=by rw[hdt]at hd;rw[h.size];exact hd
   have e1:val (D.T m) ops.toList D.c (fun j=>decide (m<=j)&&(S j||j==i)) ops.toList.length t=D.c i:=by
    rw[JB (i+1) _ (by omega) fun j hj hj' hdj=>?_]
    ·simp[val,ho,hdt,hmi]
    ·have hag:=zc2 hok hS ho hi hpre hdj (by simp[jF,hdt]) (by omega);simp only[Ai,Bc];exact .inr ⟨by rw[hag];exact Wi (by omega),by simp;omega⟩
   rw[e1,hdt];have:(a.put (some t) v).tmps.getD t undef=v:=by simp[Act.put,Wq,hlt2]
   rw[this];exact hv
  ·have e1:val (D.T m) ops.toList D.c (fun j=>decide (m<=j)&&(S j||j==i)) ops.toList.length t=val (D.T m) ops.toList D.c (fun j=>decide (m<=j)&&S j) ops.toList.length t:=jt _ fun j hj hdj=>by
    have hji:j≠i:=fun e=>by
     subst e;rw[ho]at hdj;exact hdt hdj
    have hj2:(j==i)=false:=by simpa using hji
    show (decide (m<=j)&&(S j||j==i))=(decide (m<=j)&&S j);rw[hj2,A1]
   rw[e1];have e2:(a.put o.dst v).tmps.getD t undef=a.tmps.getD t undef:=by
    cases hdst:o.dst with
    | none=>rfl
    | some d =>
     have hne:d≠t:=fun e=>hdt (by rw[hdst,e]);simp[Act.put,Wq,OS hne]
   rw[e2];exact hold t
def Zc (ops:Array Oper) (br:List Bool):Bool:=
 let cl:=qI ops.toList ops.size
 (List.range ops.size).all fun i=>!(br.getD i false)||(List.range ops.size).all fun j=>j==i||if j<i then inC cl i j else inC cl j i
theorem Mi {br:List Bool} (h:Zc ops br=true) {i j:Nat} (hi:i<ops.size) (hb:br.getD i false=true) (hji:j<i):inC (qI ops.toList ops.size) i j=true:=by
 unfold Zc at h;have h1:=Ws.1 h i (by simpa using hi);rw[hb]at h1;simp only[AP,OZ]at h1;have h2:=Ws.1 h1 j (by simp;omega);rw[if_pos hji]at h2;have:(j==i)=false:=by simp;omega
 rw[this]at h2;simpa using h2
theorem NQ {br:List Bool} (h:Zc ops br=true) {i j:Nat} (hi:i<ops.size) (hj:j<ops.size) (hb:br.getD i false=true) (hji:i<j):inC (qI ops.toList ops.size) j i=true:=by
 unfold Zc at h;have h1:=Ws.1 h i (by simpa using hi);rw[hb]at h1;simp only[AP,OZ]at h1;have h2:=Ws.1 h1 j (by simpa using hj);rw[if_neg (by omega)]at h2;have:(j==i)=false:=by simp;omega
 rw[this]at h2;simpa using h2
end
end
section
open Go.RowKit
section
variable {P:Program} {G:zq} {E:Ctx} {σ:St} {a:Act} {N p:Nat} {bx:List (List C)} {ops:Array Oper}
theorem Jg (h:i∈Region.ready .any ops listed):∃ o,ops.toList[i]?=some o/\listed.getD i true=false/\∀ e∈o.after.toList,Region.binds .any e=true->listed.getD e.on false=true:=by
 unfold Region.ready at h;rw[Ox]at h;obtain ⟨h1,h2⟩:=h;simp only[Wo,OY]at h2;have hi:i<ops.size:=by simpa using h1
 rw[W0 hi]at h2;simp only[Wu,W9,Au]at h2;refine ⟨ops[i],by simp[hi],h2.1,fun e he hb=>?_⟩;have:=h2.2 e (by simpa using he);simpa [hb] using this
theorem QS (hok:Xc ops=true) (hsz:listed.size=ops.size) (h:Region.ready .any ops listed = []):∀ i,i<ops.size->listed.getD i false=true:=by
 intro i
 induction i using Nat.strongRecOn with
 | _ i ih =>
  intro hi;cases hl:listed.getD i false with
  | true=>rfl
  | false =>
   exfalso
   have:i∈Region.ready .any ops listed:=by
    unfold Region.ready;rw[Ox];refine ⟨by simpa using hi,?_⟩;have h1:listed.getD i true=false:=by
     rw[Wq,W0 (by omega)]at hl ⊢;simpa using hl
    rw[h1,W0 hi];simp only[Ad,Oj,Wu,W9,Au];intro e he;cases hb:Region.binds .any e with
    | false=>simp
    | true =>
     have hlt:=zdo hok (i:=i) (o:=ops[i]) (by simp[hi]) e (by simpa using he) hb;simp[ih e.on hlt (by omega)]
   rw[h]at this;cases this
theorem JX {l:List Bool} (hi:l[i]?=some false):(l.set i true).count false+1=l.count false:=by
 have hlt:i<l.length:=(Wc.1 hi).1;have hv:l[i]=false:=(Wc.1 hi).2;rw[List.count_set hlt,hv];have hpos:0<l.count false:=A7.2 (Wf hi);simp;omega
theorem MF {br:List Bool} (hbr:Zc ops br=true) (hbm:br.getD m' false=true) (hcl:jx ops.toList (fun i=>listed.getD i false)) (hm:listed.getD m' false=false) (ho:ops.toList[i]?=some o)
  (hpre:∀ e∈o.after.toList,Region.binds .any e=true->listed.getD e.on false=true) (hlt:m'<i) (hm':m'<ops.size):False:=by
 have hi:i<ops.size:=by simpa using (Wc.1 ho).1
 have hmem:=NQ hbr hm' hi hbm hlt;have hS':jx ops.toList (fun x=>listed.getD x false||x==i):=fun k q hq hk e he hb=>by
  simp only[Ot,Oz]at hk ⊢;rcases hk with hk | hk
  ·exact .inl (hcl k q hq hk e he hb)
  ·subst hk;rw[ho]at hq;cases hq;exact .inl (hpre e he hb)
 have:=Je hS' _ i m' hmem (by simp);simp only[Ot,Oz]at this;rcases this with h | h
 ·rw[hm]at h;cases h
 ·omega
theorem xo {br:List Bool} {j:Nat} (hbr:Zc ops br=true) (hbm:br.getD i false=true) (hcl:jx ops.toList (fun i=>listed.getD i false)) (ho:ops.toList[i]?=some o)
  (hpre:∀ e∈o.after.toList,Region.binds .any e=true->listed.getD e.on false=true) (hlt:j<i):listed.getD j false=true:=by
 have hi:i<ops.size:=by simpa using (Wc.1 ho).1
 have hmem:=Mi hbr hi hbm hlt;have hS':jx ops.toList (fun x=>listed.getD x false||x==i):=fun k q hq hk e he hb=>by
  simp only[Ot,Oz]at hk ⊢;rcases hk with hk | hk
  ·exact .inl (hcl k q hq hk e he hb)
  ·subst hk;rw[ho]at hq;cases hq;exact .inl (hpre e he hb)
 have:=Je hS' _ i j hmem (by simp);simp only[Ot,Oz]at this;rcases this with h | h
 ·exact h
 ·omega
theorem je (hsz:listed.size=ops.size) (hi:i<ops.size) (h:listed.getD i true=false):listed.getD i false=false/\listed.toList[i]?=some false:=by
 have hil:i<listed.size:=by omega
 rw[Wq,W0 hil]at h ⊢;refine ⟨by simpa using h,by simp[hil];simpa using h⟩
theorem jG (hil:i<listed.size):(fun x=>(listed.setIfInBounds i true).getD x false)=fun x=>(listed.getD x false||x==i):=by
 funext x;by_cases hx:x=i
 ·subst hx;simp[Wq,hil]
 ·have:i≠x:=fun e=>hx e.symm;simp[Wq,OS this,hx]
theorem YC (hil:i<listed.size) (hcl:jx ops.toList (fun i=>listed.getD i false)) (ho:ops.toList[i]?=some o)
  (hpre:∀ e∈o.after.toList,Region.binds .any e=true->listed.getD e.on false=true):jx ops.toList (fun x=>(listed.setIfInBounds i true).getD x false):=by
 rw[jG hil];intro k q hq hk e he hb;simp only[Ot,Oz]at hk ⊢;rcases hk with hk | hk
 ·exact .inl (hcl k q hq hk e he hb)
 ·subst hk;rw[ho]at hq;cases hq;exact .inl (hpre e he hb)
theorem zkn {m:Nat} (hN:∀ o∈ops.toList,Qd E.N o.dst) (hok:Xc ops=true) (hmm:m<=m') (hl:m'<=ops.toList.length) (hrdy:∀ (listed:Array Bool) (i:Nat) (o:Oper),m'<=i->i<ops.size->jx ops.toList (fun i=>listed.getD i false)->ops.toList[i]?=some o->(∀ e∈o.after.toList,Region.binds .any e=true->listed.getD e.on false=true)->(∀ i,m'<=i->listed.getD i false=false)->∀ j,j<m'->listed.getD j false=true) (hc:zgK P G bx ops ops.toList m m' D)
  (hEnd:∀ (fuel:Nat) (listed:Array Bool) (a:Act) (R:Env) (L:Loc),listed.size=ops.size->listed.toList.count false<=fuel->jx ops.toList (fun i=>listed.getD i false)->(∀ i,i<m'->listed.getD i false=true)->(∀ i,m'<=i->listed.getD i false=false) ->
   qT G E ⟨D.T m',bx,D.X m',lg⟩ a R L->wpAnyIn (Fl r) n P .any ops Q fuel listed a R.w):∀ (fuel:Nat) (listed:Array Bool) (a:Act) (R:Env) (L:Loc),listed.size=ops.size->listed.toList.count false<=fuel ->
  jx ops.toList (fun i=>listed.getD i false)->(∀ i,i<m->listed.getD i false=true)->(∀ i,m'<=i->listed.getD i false=false)->Zw G E bx lg ops.toList m m' D (fun i=>listed.getD i false) a R L->wpAnyIn (Fl r) n P .any ops Q fuel listed a R.w:=by
 have done:∀ (fuel:Nat) (listed:Array Bool) (a:Act) (R:Env) (L:Loc),listed.size=ops.size->listed.toList.count false<=fuel->jx ops.toList (fun i=>listed.getD i false)->(∀ i,i<m'->listed.getD i false=true)->(∀ i,m'<=i->listed.getD i false=false)->Zw G E bx lg ops.toList m m' D (fun i=>listed.getD i false) a R L->wpAnyIn (Fl r) n P .any ops Q fuel listed a R.w:=fun fuel listed a R L hsz hcnt hcl h1 h2 h=>by
  refine hEnd fuel listed a R L hsz hcnt hcl h1 h2 ⟨{ h.good with },h.size,h.df,fun t=>?_⟩;have ht:=h.tm t;rw[JB m' _ hl fun j hj _ _=>by simp[h2 j hj]]at ht;rw[XI hl hc.skel t m' hmm (Wb _),jt (D':=fun j=>decide (m<=j)&&listed.getD j false) m' fun j hj _=>by rw[h1 j hj,Bk]];exact ht
 intro fuel
 induction fuel with
 | zero =>
  intro listed a R L hsz hcnt hcl h1 h2 h;refine done 0 listed a R L hsz hcnt hcl (fun i hi=>?_) h2 h;have hil:i<listed.size:=by simp at hl;omega
  cases hq:listed.getD i false with
  | true=>rfl
  | false =>
   have:listed.toList[i]?=some false:=by
    rw[Wq,W0 hil]at hq;simp[hil];simpa using hq
   have hpos:0<listed.toList.count false:=A7.2 (Wf this);omega
 | succ fuel ih =>
  intro listed a R L hsz hcnt hcl h1 h2 h;by_cases hall:∀ i,i<m'->listed.getD i false=true
  ·exact done _ listed a R L hsz hcnt hcl hall h2 h
  refine ⟨fun hr=>absurd (fun i hi=>QS hok hsz hr i (by simp at hl;omega)) hall,fun i hi=>?_⟩;obtain ⟨o,ho,hl0,hpre⟩:=Jg hi;have hio:i<ops.size:=by simpa using (Wc.1 ho).1
  obtain ⟨hlf,hil'⟩:=je hsz hio hl0;have hil:i<listed.size:=by omega
  have hmi:m<=i:=by
   rcases Wp i m with g | g
   ·rw[h1 i g]at hlf;cases hlf
   ·exact g
  have hmi':i<m':=by
   rcases O9 i m' with g | g | g
   ·exact g
   ·exact absurd (hrdy listed i o (by omega) hio hcl ho hpre h2) hall
   ·exact absurd (hrdy listed i o (by omega) hio hcl ho hpre h2) hall
  have hcnt':(listed.setIfInBounds i true).toList.count false<=fuel:=by
   have:=JX hil';rw[Ar];omega
  have next:∀ (v:Value) (R':Env) (L':Loc),qK (D.X i) (D.X (i+1)) R L R' L'->Rep R' L' (D.c i) v->wpAnyIn (Fl r) n P .any ops Q fuel (listed.setIfInBounds i true) (a.put o.dst v) R'.w:=fun v R' L' st hv =>
   ih _ _ R' L' (by simpa using hsz) hcnt' (YC hil hcl ho hpre) (fun j hj=>by have:=Bx (jG hil) j;rw[this,h1 j hj];rfl)
    (fun j hj=>by have:=Bx (jG hil) j;rw[this,h2 j hj];simp;omega) (by rw[jG hil];exact h.put hl hc.skel hok hcl hmi hmi' ho hlf hpre (hN o (Wf ho)) st hv)
  obtain ⟨c1,c2,c3,c4,c5⟩:=hc.step i o hmi hmi' ho;have hev:=h.ev hl hc.skel hok hcl hmi hmi' ho hlf hpre;have hguard:Region.wanted o (yielded ops a.tmps)=D.wn i:=j0 (tm:=D.T i) rfl c3 fun j want d hg hd=>by
   have ht:d∈jF ops o:=by
    unfold jF Oper.looksAt;rw[hg];simp[hd]
   refine ⟨?_,hev d ht⟩;rw[h.size];cases hj:ops[j]? with
   | none=>rw[hj]at hd;cases hd
   | some o' =>
    rw[hj]at hd;have hd':o'.dst=some d:=hd;have:=hN o' (by rw[OA];exact OT hj);rw[hd']at this;exact this
  unfold wpOpIn;have hoa:ops[i]?=some o:=by simpa using ho
  rw[hoa];simp only[hguard];cases hw:D.wn i with
  | true =>
   simp only[if_true];refine JA ?_;refine ((c4 hw).2 _ R L a.eval h.good.fit (h.freeAt hl hc.skel hmi hmi' hlf) fun x=>?_).mono fun v w' ⟨R',L',hw',st,hv⟩=>?_
   ·unfold Qx;split
    ·rename_i hx;cases x with
     | tmp t =>
      refine hev t ?_;unfold jF Oper.looksAt;exact OB _ (OB _ (Br.2 ⟨.tmp t,by simpa using hx,rfl⟩))
     | const v=>exact jX R L v
     | global g =>
      simp only[zB];cases hg:G g with
      | none=>unfold Rep;trivial
      | some cs=>exact Jz.2 ⟨g,0,rfl,(h.good.fit.glob g cs hg).1⟩
     | func f=>exact YI.2 ⟨#[],#[],rfl,zm.2 rfl,zm.2 rfl⟩
    ·unfold Rep;trivial
   ·rw[←hw'];exact next v R' L' st hv
  | false =>
   simp only[Oa,Ol];refine ⟨fun f _=>trivial,?_⟩;obtain ⟨d1,d2⟩:=c5 hw;have st:qK (D.X i) (D.X (i+1)) R L R L:=by rw[d2];exact qK.refl _ _ _
   exact next undef R L st (by rw[d1];exact zp.2 rfl)
theorem zj2 {Y:Hd} {br:List Bool} (hY:zoD P Y E) (hN:∀ o∈ops.toList,Qd E.N o.dst) (hok:Xc ops=true) (hbr:Zc ops br=true)
  (hQ:∀ a R L σ,K σ->qT G E σ a R L->Q .normal a R.w):∀ (k m:Nat) (fuel:Nat) (listed:Array Bool) (σ:St) (a:Act) (R:Env) (L:Loc),ops.size-m=k->m<=ops.size->listed.size=ops.size->listed.toList.count false<=fuel ->
  jx ops.toList (fun i=>listed.getD i false)->(∀ i,i<m->listed.getD i false=true)->(∀ i,m<=i->listed.getD i false=false)->Vf P G Y ops (ops.toList.drop m) (br.drop m) σ K->qT G E σ a R L->wpAnyIn (Fl r) n P .any ops Q fuel listed a R.w:=by
 intro k
 induction k using Nat.strongRecOn with
 | _ k ih =>
  intro m fuel listed σ a R L hk hm hsz hcnt hcl h1 h2 hA hI;obtain ⟨m',D,d1,d2,d3,d4,d5,d6⟩:=xM _ _ m σ rfl (by simpa using hm) hA;have hd2:m'<=ops.size:=by simpa using d2
  have hlf:∀ j,m<=j->listed.getD j false=false:=h2;have hInit:Zw G E σ.bx σ.lg ops.toList m m' D (fun i=>listed.getD i false) a R L:=by
   have hx:=kf d2 d5.skel m m' (Wb _) d1 (Wb _);refine ⟨{ hI.good with free:=fun id hid=>hI.good.free id (by rw[d4]at hx;exact WN hx hid) },fun id hid _=>hI.good.free id (by rw[d4]at hid;exact hid),hI.size,hI.df,fun t=>?_⟩;rw[jt (D':=fun _=>false) _ fun j _ _=>by
    by_cases hj:m<=j
    ·simp[hlf j hj]
    ·simp[hj],JB 0 _ (Wd _) fun _ _ _ _=>rfl]
   show Rep R L (j7 (D.T m) t) _;rw[d3];exact hI.tm t
  have hbar:m'<ops.size->br.getD m' false=true:=fun hlt=>by
   rcases d6 with ⟨g,_⟩ | ⟨g,g2,_⟩
   ·simp at g;omega
   ·rw[W3,show m+(m'-m)=m' by omega]at g2;rw[W4,g2];rfl
  refine zkn (lg:=σ.lg) hN hok d1 d2 (fun listed i o q1 q2 q3 q4 q5 q6 j hj=>by
   rcases Wp m' i with g | g
   ·exact (MF hbr (hbar (by omega)) q3 (q6 m' (Wb _)) q4 q5 g (by omega)).elim
   ·have:i=m':=by omega
    subst this;exact xo hbr (hbar q2) q3 q4 q5 hj) d5 ?_ fuel listed a R L hsz hcnt hcl h1 (fun i hi=>hlf i (by omega)) hInit
  clear hInit hI hcnt hcl h1 h2 hlf hA hsz;intro fuel listed a R L hsz hcnt hcl h1 h2 hI;rcases d6 with ⟨g,hK⟩ | ⟨g,g2,hA⟩
  ·have hms:m'=ops.size:=by simpa using g
   have hre:Region.ready .any ops listed = []:=by
    cases hq:Region.ready .any ops listed with
    | nil=>rfl
    | cons i rest =>
     obtain ⟨o,ho,h3,_⟩:=Jg (ops:=ops) (listed:=listed) (i:=i) (by rw[hq];simp);have hio:i<ops.size:=by simpa using (Wc.1 ho).1
     have:=(je hsz hio h3).1;rw[h1 i (by omega)]at this;cases this
   have hq:=hQ a R L _ hK hI;cases fuel with
   | zero=>exact ⟨hre,hq⟩
   | succ fuel=>exact ⟨fun _=>hq,fun i hi=>by rw[hre]at hi;cases hi⟩
  ·have hms:m'<ops.size:=by simpa using g
   have hlm:=h2 m' (Wb _);obtain ⟨fuel,rfl⟩:∃ f,fuel=f+1:=by
    have hil:m'<listed.size:=by omega
    have:listed.toList[m']?=some false:=by
     rw[Wq,W0 hil]at hlm;simp[hil];simpa using hlm
    have hpos:0<listed.toList.count false:=A7.2 (Wf this);exact ⟨fuel-1,by omega⟩
   refine ⟨fun hr=>?_,fun i hi=>?_⟩
   ·have:=QS hok hsz hr m' hms;rw[hlm]at this;cases this
   ·obtain ⟨o,ho,hl0,hpre⟩:=Jg hi;have hio:i<ops.size:=by simpa using (Wc.1 ho).1
    obtain ⟨hlf,hil'⟩:=je hsz hio hl0;have hil:i<listed.size:=by omega
    have him:i=m':=by
     rcases O9 i m' with g | g | g
     ·rw[h1 i g]at hlf;cases hlf
     ·exact g
     ·exact (MF hbr (hbar hms) hcl hlm ho hpre g hms).elim
    subst him;have hcnt':(listed.setIfInBounds i true).toList.count false<=fuel:=by
     have:=JX hil';rw[Ar];omega
    have hdrop:ops.toList.drop i=o :: ops.toList.drop (i+1):=by
     have hlt:i<ops.toList.length:=by simpa using hio
     rw[Ok hlt];congr 1;have:=Wa hlt;rw[ho]at this;exact (Option.some.inj this).symm
    have hbrd:(br.drop m).drop (i-m)=br.drop i:=by rw[Aq];congr 1;omega
    rw[hdrop,hbrd]at hA;unfold Vf at hA;have hhead:(br.drop i).headD false=true:=by
     have:=hbar hms;rw[W4]at this;cases hq:br[i]? with
     | none=>rw[hq]at this;cases this
     | some x =>
      rw[hq]at this;simp at this;rw[List.headD_eq_head?_getD,List.head?_drop,hq,this];rfl
    have htail:(br.drop i).tail=br.drop (i+1):=by simp
    rw[hhead,htail]at hA;have next:∀ (σ':St) (a':Act) (R':Env) (L':Loc),Vf P G Y ops (ops.toList.drop (i+1)) (br.drop (i+1)) σ' K->qT G E σ' a' R' L'->wpAnyIn (Fl r) n P .any ops Q fuel (listed.setIfInBounds i true) a' R'.w:=fun σ' a' R' L' hA' hI' =>
     ih (ops.size-(i+1)) (by omega) (i+1) fuel _ σ' a' R' L' rfl (by omega) (by simpa using hsz) hcnt' (YC hil hcl ho hpre) (fun j hj=>by
      have:=Bx (jG hil) j;rw[this];rcases Wp j i with g | g
      ·rw[h1 j g];rfl
      ·have:j=i:=by omega
       simp[this]) (fun j hj=>by
      have:=Bx (jG hil) j;rw[this,h2 j (by omega)];simp;omega) hA' hI'
    have hd:=hN o (Wf ho);obtain ⟨b,hg,hA1,hA2⟩:=jm.out hA;have hguard:Region.wanted o (yielded ops a.tmps)=b:=j0 (tm:=D.T i) (R:=R) (L:=L) rfl hg fun j want d hgd hdd=>by
     refine ⟨?_,hI.tm d⟩;rw[hI.size];cases hj:ops[j]? with
     | none=>rw[hj]at hdd;cases hdd
     | some o' =>
      rw[hj]at hdd;have hd':o'.dst=some d:=hdd;have:=hN o' (by rw[OA];exact OT hj);rw[hd']at this;exact this
    unfold wpOpIn;have hoa:ops[i]?=some o:=by simpa using ho
    rw[hoa];simp only[hguard];cases b with
    | true =>
     simp only[if_true];refine JA ((V3 hY (hA1 rfl) hI).mono fun v w'=>?_);rintro ⟨c,σ',R',L',rfl,hI',hv,hK⟩;exact next _ _ R' L' hK (hI'.put hd hv)
    | false =>
     simp only[Oa,Ol];refine ⟨fun f _=>trivial,next _ _ R L (hA2 rfl) ?_⟩;have:=hI.put (dst:=o.dst) (c:=.sc undef) (v:=undef) hd (zp.2 rfl);cases hdst:o.dst with
     | none=>rw[hdst]at this;exact this
     | some d=>rw[hdst]at this;exact this
theorem zcn {id:Nat} {Y:Hd} {br:List Bool} (hY:zoD P Y E) (hm:P.follows .mixedOrders=true) (hN:∀ o∈ops.toList,Qd E.N o.dst) (hok:Xc ops=true) (hbr:Zc ops br=true)
  (h:Vf P G Y ops ops.toList br σ K) (hI:Inv G E σ a w) (hQ:∀ a' w' σ',K σ'->Inv G E σ' a' w'->Q .normal a' w'):(Code.region id ops true).wpIn (Fl r) n P Q a w:=by
 obtain ⟨R,L,rfl,hI⟩:=hI;refine wpIn_region_any hm ?_
 let R':Env:=⟨{ R.w with drawn:=R.w.drawn+1 },R.M,R.F⟩
 have hext:Ext R R':=⟨fun b o v h1 h2=>⟨h1,h2⟩,fun _ _ _ _ h1 h2=>⟨h1,h2⟩⟩;have hnear:xX E.w0 E.ex R R':=⟨rfl,rfl,rfl,Wb _,rfl,hext,fun b _=>.inl ⟨rfl,fun _=>Iff.rfl⟩⟩;have hg:=hI.good;have hinv:qT G E σ a R' L:=by
  refine ⟨hg.move hnear.nigh ⟨hg.fit.glob.ext hext,⟨hg.fit.boxes.len,hg.fit.boxes.nodup,fun i b cs hi hc=>?_⟩,⟨fun id e k v ht=>?_,hg.fit.owns.apart⟩,hg.fit.base⟩ ⟨[],by rw[Od],fun b hb=>by cases hb⟩ (fun id e k v b ht hv=>.inl ⟨id,e,k,v,ht,hv⟩) hg.free,hI.size,hI.df.near hnear,fun t=>Rep.ext hext (zR.refl _) _ _ (hI.tm t)⟩
  ·obtain ⟨vs,ty,e1,e2,e3,e4⟩:=hg.fit.boxes.box i b cs hi hc;exact ⟨vs,ty,e1,zx.ext hext (zR.refl _) _ _ e2,e3,e4⟩
  ·exact (hg.fit.owns.own id e k v ht).move fun g _ q2 _ q7=>⟨q2,rfl,q7,fun _ h=>h⟩
 have hlist:∀ i,(Array.replicate ops.size false).getD i false=false:=fun i=>by
  rw[Wq,Bl];split<;>rfl
 refine zj2 (E:=E) (R:=R') (L:=L) hY hN hok hbr (fun a1 R1 L1 σ1 hK h1=>hQ a1 R1.w σ1 hK ⟨R1,L1,rfl,h1⟩) _ 0 ops.size _ σ a rfl (Wd _) (by simp) ?_ (fun i o hi h=>?_) (fun i hi=>by omega) (fun i _=>hlist i) (by simpa using h) hinv
 ·rw[By,Be];exact Wb _
 ·have h:(Array.replicate ops.size false).getD i false=true:=h;rw[hlist]at h;cases h
theorem zav {j:Nat} (hmem:inC (qI ops.toList ops.size) i j=true) (hcl:jx ops.toList (fun i=>listed.getD i false)) (ho:ops.toList[i]?=some o)
  (hpre:∀ e∈o.after.toList,Region.binds .any e=true->listed.getD e.on false=true) (hne:j≠i):listed.getD j false=true:=by
 have hS':jx ops.toList (fun x=>listed.getD x false||x==i):=fun k q hq hk e he hb=>by
  simp only[Ot,Oz]at hk ⊢;rcases hk with hk | hk
  ·exact .inl (hcl k q hq hk e he hb)
  ·subst hk;rw[ho]at hq;cases hq;exact .inl (hpre e he hb)
 have:=Je hS' _ i j hmem (by simp);simp only[Ot,Oz]at this;rcases this with h | h
 ·exact h
 ·exact absurd h hne
end
end
section
open Go.RowKit
mutual
/-- a value as seen by whoever has some of the boxes, and no owner -/
def C.sel (fp:Nat->Option Nat):C->C
 | .own _ _ k rows=>.sl k rows
 | .ptr i off=>match fp i with
  | some j=>.ptr j off
  | none=>.any
 | .bs i off k n c=>match fp i with
  | some j=>.bs j off k n c
  | none=>.any
 | .mo _ _ _ _=>.any
 | .agg cs=>.agg (C.selL fp cs)
 | .tup cs=>.tup (C.selL fp cs)
 | .clo fn first cap=>.clo fn (C.selL fp first) (C.selL fp cap)
 | .sc v=>.sc v
 | .str l=>.str l
 | .sl k rows=>.sl k rows
 | .tight k rows=>.tight k rows
 | .row cs=>.row cs
 | .any=>.any
def C.selL (fp:Nat->Option Nat):List C->List C
 | []=>[]
 | c :: r=>c.sel fp :: C.selL fp r
end
section
variable {fp:Nat->Option Nat} {R R':Env} {L L':Loc}
mutual
theorem Rep.sel (he:Ext R R') (hb:∀ i j b,fp i=some j->L.β[i]?=some b->L'.β[j]?=some b):∀ (c:C) (v:Value),Rep R L c v->Rep R' L' (c.sel fp) v
 | .sc _,_,h=>by unfold C.sel;unfold Rep at h ⊢;exact h
 | .str _,_,h=>by unfold C.sel;unfold Rep at h ⊢;exact h
 | .agg cs,_,h=>by
  unfold C.sel;unfold Rep at h ⊢;obtain ⟨vs,e,hl⟩:=h;exact ⟨vs,e,zx.sel he hb cs _ hl⟩
 | .tup cs,_,h=>by
  unfold C.sel;unfold Rep at h ⊢;obtain ⟨vs,e,hl⟩:=h;exact ⟨vs,e,zx.sel he hb cs _ hl⟩
 | .sl k rows,v,h=>by
  unfold C.sel;have:=Rep.ext he (zR.none L') (.sl k rows) v (T:=zU) (by unfold Rep at h ⊢;exact h);exact this
 | .tight k rows,v,h=>by
  unfold C.sel;exact Rep.ext he (zR.none L') (.tight k rows) v (T:=zU) (by unfold Rep at h ⊢;exact h)
 | .mo id t ks vs,v,h=>by unfold C.sel;unfold Rep;trivial
 | .own id e k rows,v,h=>by
  unfold C.sel;exact Rep.ext he (zR.none L') (.sl k rows) v (T:=zU) (by unfold Rep at h ⊢;exact h.2)
 | .ptr i off,_,h=>by
  unfold C.sel;unfold Rep at h;split
  ·rename_i j hj;obtain ⟨b,e,h⟩:=h;unfold Rep;exact ⟨b,hb _ _ _ hj e,h⟩
  ·unfold Rep;trivial
 | .bs i off k n c,_,h=>by
  unfold C.sel;unfold Rep at h;split
  ·rename_i j hj;obtain ⟨b,e,h⟩:=h;unfold Rep;exact ⟨b,hb _ _ _ hj e,h⟩
  ·unfold Rep;trivial
 | .row cs,v,h=>by
  unfold C.sel;exact Rep.ext he (zR.none L') (.row cs) v (T:=zU) (by unfold Rep at h ⊢;exact h)
 | .clo fn first cap,_,h=>by
  unfold C.sel;unfold Rep at h ⊢;obtain ⟨fs,cs,e,h1,h2⟩:=h;exact ⟨fs,cs,e,zx.sel he hb first _ h1,zx.sel he hb cap _ h2⟩
 | .any,_,_=>by unfold C.sel;unfold Rep;trivial
theorem zx.sel (he:Ext R R') (hb:∀ i j b,fp i=some j->L.β[i]?=some b->L'.β[j]?=some b):∀ (cs:List C) (vs:List Value),zx R L cs vs->zx R' L' (C.selL fp cs) vs
 | [],_,h=>by unfold C.selL;rw[zm]at h ⊢;exact h
 | c :: r,_,h=>by
  unfold C.selL;rw[zg]at h ⊢;obtain ⟨v,us,e,h1,h2⟩:=h;exact ⟨v,us,e,Rep.sel he hb c v h1,zx.sel he hb r us h2⟩
end
end
mutual
/-- what is left of it where the boxes are qt no more -/
def C.fz (bx:List (List C)):C->C
 | .ptr i off=>match bx[i]? with
  | some cs=>.row ((C.frzL cs).drop off)
  | none=>.any
 | .agg cs=>.agg (C.fzL bx cs)
 | .tup cs=>.tup (C.fzL bx cs)
 | .clo fn first cap=>.clo fn (C.fzL bx first) (C.fzL bx cap)
 | .bs _ _ _ _ _=>.any
 | .own id e k rows=>.own id e k rows
 | .mo id t ks vs=>.mo id t ks vs
 | .sc v=>.sc v
 | .str l=>.str l
 | .sl k rows=>.sl k rows
 | .tight k rows=>.tight k rows
 | .row cs=>.row cs
 | .any=>.any
def C.fzL (bx:List (List C)):List C->List C
 | []=>[]
 | c :: r=>c.fz bx :: C.fzL bx r
end
def GE (m i:Nat):Option Nat:=if i<m then some i else none
def XB (m i:Nat):Option Nat:=if i<m then none else some (i-m)
def HD (m:Nat):List (Nat×C)->List (Nat×C)
 | []=>[]
 | (t,c) :: r=>(t,c.sel (GE m)) :: HD m r
theorem uE (m:Nat):∀ (tm:List (Nat×C)) (t:Nat),j7 (HD m tm) t=(j7 tm t).sel (GE m)
 | [],t=>by simp only[HD,j7];unfold C.sel;rfl
 | (u,c) :: r,t=>by
  simp only[HD,j7];split
  ·rfl
  ·exact uE m r t
def St.wt (σ:St) (tm:List (Nat×C)):St:=⟨tm,σ.bx,σ.nx,σ.lg⟩
theorem YU.wt {G:zq} {E:Ctx} {σ:St} (h:YU G E σ R L) (tm:List (Nat×C)):YU G E (σ.wt tm) R L:={ h with }
section
variable {P:Program} {G:zq} {E:Ctx} {σ σ':St} {a:Act} {R R':Env} {L L':Loc}
theorem YU.stay (h:YU G E σ R L) (hn:zdA E.w0 E.ex R R') (ht:∀ b,XG L b->R'.w.heap[b]?=R.w.heap[b]?/\∀ o,(R'.M b o↔R.M b o)):YU G E σ R' L:=by
 refine h.move (tm':=σ.tm) (bx':=σ.bx) (nx':=σ.nx) hn ⟨h.fit.glob.ext hn.ext,⟨h.fit.boxes.len,h.fit.boxes.nodup,fun i b cs hi hc=>?_⟩,⟨fun id e k v hid=>?_,h.fit.owns.apart⟩,fun g hg=>h.fit.base g (WN hn.size hg)⟩ ⟨[],by rw[Od],fun b hb=>by cases hb⟩ (fun id e k v b ht hv=>.inl ⟨id,e,k,v,ht,hv⟩) h.free
 ·obtain ⟨vs,ty,e1,e2,e3,e4⟩:=h.fit.boxes.box i b cs hi hc;obtain ⟨g1,g2⟩:=ht b (.inl (Wf hi));exact ⟨vs,ty,g1.trans e1,zx.ext hn.ext (zR.refl _) _ _ e2,e3,fun o=>(g2 o).2 (e4 o)⟩
 ·refine (h.fit.owns.own id e k v hid).move fun g hv q2 _ q7=>?_;obtain ⟨g1,g2⟩:=ht g (.inr ⟨id,e,k,v,hid,hv⟩);exact ⟨q2,g1,q7,fun o ho=>(g2 o).2 ho⟩
theorem N2.stay (h:N2 E ds R) (hf:∀ b,R'.F b↔R.F b) (hd:∀ d,Ym d∈ds->R.w.heap[d]?=some (.deferred (some []))->R'.w.heap[d]?=R.w.heap[d]?):N2 E ds R':=by
 obtain ⟨l,e,hl,h⟩:=h;refine ⟨l,e,hl,fun d hdl=>?_⟩;obtain ⟨h1,h2,h3⟩:=h d hdl;exact ⟨(hd d (by rw[e];exact OB _ (WQ.2 ⟨d,hdl,rfl⟩)) h1).trans h1,h2,fun h'=>h3 ((hf d).1 h')⟩
theorem XU {l:Nat} {o:Obj} (hl:E.tu l) (hF:¬R.F l) (hc:∀ cs t f,R.w.heap[l]?≠some (.cells cs t f)):zdA E.w0 E.ex R ⟨R.w.putObj l o,R.M,R.F⟩:=
 ⟨rfl,rfl,rfl,by simp,rfl,⟨fun b off v hcell hm=>⟨by
  by_cases hb:b=l
  ·subst hb
   exfalso
   unfold World.cell? at hcell;cases hh:R.w.heap[b]? with
   | none=>simp[hh]at hcell
   | some x =>
    cases x with
    | cells cs t f=>exact hc cs t f hh
    | _=>simp[hh]at hcell
  ·rw[World.cell?_of_block (w':=R.w.putObj l o) (w:=R.w) (WW hb)];exact hcell,hm⟩,fun b cs ty fl hcell hm=>⟨by
  have hb:b≠l:=fun e=>hc cs ty fl (e▸hcell);show (R.w.putObj l o).heap[b]?=_;rw[WW hb];exact hcell,hm⟩⟩,fun b hb=>by
  by_cases hbl:b=l
  ·subst hbl;exact .inr ⟨hl,hF⟩
  ·exact .inl ⟨WW hbl,fun _=>Iff.rfl⟩⟩
def Ctx.at (E:Ctx) (R:Env) (L:Loc) (β0:List Nat) (df:List Deferred) (hs:E.w0.heap.size<=R.w.heap.size) (ht:∀ b,XG L b->E.tu b):Ctx:=
 {w0:=R.w,M0:=R.M,β0:=β0,ex:=XG L,N:=E.N,df:=df,F0:=R.F,bo:=fun b=>b∈L.β,bex:=fun b hb=>.inl hb,J:=E.J,
  stab:=fun k A B hJ hn=>E.stab k A B hJ ⟨hn.os,hn.tape,hn.output,hn.size,hn.fgn,hn.ext,fun b hb=>(hn.blk b hb).imp id fun ⟨g1,g2⟩=>⟨by
   rcases g1 with g1 | g1
   ·exact .inl (WN hs g1)
   ·exact ht b g1,g2⟩⟩ }
theorem YU.fresh (h:YU G E σ R L) {β0 more:List Nat} (hβ:L.β=β0++more) (hsz:a.tmps.size=E.N) (htm:∀ t,Rep R L (j7 σ.tm t) (a.tmps.getD t undef)):qT G (E.at R L β0 a.defers h.size fun b hb=>(h.turf hb).1) σ a R L:=by
 refine ⟨⟨⟨h.fit.glob,h.fit.boxes,⟨fun id e k v ht=>?_,h.fit.owns.apart⟩,fun g hg=>.inl hg⟩,rfl,rfl,rfl,Wb _,fun b _ _ _=>⟨rfl,fun _=>Iff.rfl⟩,⟨fun b o v h1 h2=>⟨h1,h2⟩,fun _ _ _ _ h1 h2=>⟨h1,h2⟩⟩,⟨more,hβ⟩,fun b hb=>.inr hb,h.flt,fun b _=>Iff.rfl,h.fbx,h.fow,h.free,h.log⟩,hsz,⟨[],rfl,Ae,fun d hd=>by cases hd⟩,htm⟩;exact (h.fit.owns.own id e k v ht).move fun g hv q2 _ q7=>⟨.inr (.inr ⟨id,e,k,v,ht,hv⟩),rfl,q7,fun _ h=>h⟩
section
variable {β0:List Nat} {df:List Deferred} {hs:E.w0.heap.size<=R.w.heap.size} {ht:∀ b,XG L b->E.tu b}
theorem Ctx.at_tu {b:Nat} (h:(E.at R L β0 df hs ht).tu b):E.tu b:=by
 rcases h with h | h
 ·exact .inl (WN hs h)
 ·exact ht b h
theorem YU.at_blk (h':YU G (E.at R L β0 df hs ht) σ' R' L') {b:Nat} (hb:b<R.w.heap.size) (hT:¬XG L b) (hF:¬R.F b):R'.w.heap[b]?=R.w.heap[b]?/\∀ o,(R'.M b o↔R.M b o):=
 h'.blk b hb hT fun hx=>hF ((h'.fz b hb).1 hx)
theorem YU.back (h:YU G E σ R L) (hβ:∃ more,β0=E.β0++more) (h':YU G (E.at R L β0 df hs ht) σ' R' L'):YU G E σ' R' L':=by
 obtain ⟨more,hm⟩:=hβ;obtain ⟨more',hm'⟩:=h'.box;have hm':L'.β=β0++more':=hm';refine ⟨⟨h'.fit.glob,h'.fit.boxes,⟨fun id e k v ht=>(h'.fit.owns.own id e k v ht).base fun g hg=>Ctx.at_tu hg,h'.fit.owns.apart⟩,fun g hg=>Ctx.at_tu (h'.fit.base g hg)⟩,h'.os.trans h.os,h'.tape.trans h.tape,h'.output.trans h.output,WN h.size h'.size,fun b hb hx hF=>?_,h.ext.trans ⟨h'.ext.cell,h'.ext.whole⟩,⟨more++more',by rw[hm',hm,WL]⟩,fun b hb=>(h'.tub b hb).elim (fun g=>.inl (WN hs g)) (h.tub b),h'.flt,fun b hb=>(h'.fz b (WH hb h.size)).trans (h.fz b hb),h'.fbx,h'.fow,h'.free,h'.log⟩;have hlt:=WH hb h.size;have hF':¬R.F b:=fun hq=>hF ((h'.fz b hlt).2 hq);have hT:¬XG L b:=fun hq=>by
  rcases ht b hq with g | g
  ·omega
  ·exact hx g
 obtain ⟨g1,g2⟩:=h'.at_blk hlt hT hF';obtain ⟨k1,k2⟩:=h.blk b hb hx hF';exact ⟨g1.trans k1,fun o=>(g2 o).trans (k2 o)⟩
theorem YU.at_turf (h':YU G (E.at R L β0 df hs ht) σ' R' L') {b:Nat} (hb:b<R.w.heap.size) (hT:XG L' b):XG L b:=by
 rcases (h'.turf hT).1 with g | g
 ·have g:R.w.heap.size<=b:=g;omega
 ·exact g
end
def zlZ (items:List (List C)) (st:Nat->Bool) (k:Nat):Prop:=(k=items.length/\∀ j,j<k->st j=false)∨(0<k/\st (k-1)=true)
def yu (P:Program) (G:zq) (f:FuncId) (first cap:List C) (bx:List (List C)) (items:List (List C)):Prop:=
 Xd P f=true/\∀ (l:Nat) (st:Nat->Bool) (J:Nat->Env->Prop) (R:Env) (L:Loc) (us vs:List Value),Qb G R->j4 R L bx->(∀ id,L.T id=none)->(∀ b,R.F b->b<R.w.heap.size)->(∀ b∈L.β,¬R.F b) ->
  (∀ k A B,J k A->zdA R.w (fun b=>b∈L.β) A B->J k B)->YOk P ⟨l,items,st⟩ J->J 0 R->zx R L first us->zx R L cap vs ->
  Calls P f (us++[Value.func (.yield l) #[] #[]]++vs).toArray R.w fun e w'=>∃ v R' k,e = .returned v/\R'.w=w'/\J k R'/\zlZ items st k
def VB:List Tmp->List C->List (Nat×C)->List (Nat×C)
 | p :: ps,c :: cs,tm=>VB ps cs ((p,c) :: tm)
 | _,_,tm=>tm
theorem yi {R:Env} {L:Loc}:∀ (ps:List Tmp) (it:List C) (vs:List Value) (tm:List (Nat×C)) (tmps:Array Value),zx R L it vs->(∀ p∈ps,p<tmps.size)->(∀ t,Rep R L (j7 tm t) (tmps.getD t undef)) ->
  ∀ t,Rep R L (j7 (VB ps it tm) t) (((ps.zip vs).foldl (fun t (p:Nat×Value)=>t.setIfInBounds p.1 p.2) tmps).getD t undef)
 | [],it,vs,tm,tmps,h1,h2,h3,t=>by
  simp only[VB,List.zip_nil_left,BP];exact h3 t
 | p :: ps,[],vs,tm,tmps,h1,h2,h3,t=>by
  rw[zm.1 h1];simp only[VB,List.zip_nil_right,BP];exact h3 t
 | p :: ps,c :: cs,vs,tm,tmps,h1,h2,h3,t=>by
  obtain ⟨v,us,rfl,g1,g2⟩:=zg.1 h1;simp only[VB,List.zip_cons_cons,Bn];refine yi ps cs us _ _ g2 (fun q hq=>by simpa using h2 q (Wk _ hq)) (fun u=>?_) t;have hlt:=h2 p Wj;simp only[j7];split
  ·subst_vars
   simpa [Wq,hlt] using g1
  ·rename_i hne;have hne':p≠u:=fun e=>hne e.symm;have:=h3 u;simpa [Wq,OS hne'] using this
theorem Gg:∀ (l:List (Nat×Value)) (tmps:Array Value),(l.foldl (fun t (p:Nat×Value)=>t.setIfInBounds p.1 p.2) tmps).size=tmps.size
 | [],_=>rfl
 | x :: r,tmps=>by rw[Bn,Gg r];simp
def zhm (m:Nat) (tm:List (Nat×C)) (st:Bool) (next:St) (Q:Exit->St->Prop):Exit->St->Prop
 | .normal,σ=>st=false/\Yc m ⟨[],σ.bx,σ.nx,σ.lg⟩ (next.wt [])
 | .ret,σ=>st=true/\∃ σ':St,σ'.bx.length=m/\Yc m ⟨[],σ.bx,σ.nx,σ.lg⟩ (σ'.wt [])/\Q .ret (σ'.wt tm)
 | .exit id,σ=>st=true/\∃ σ':St,σ'.bx.length=m/\Yc m ⟨[],σ.bx,σ.nx,σ.lg⟩ (σ'.wt [])/\Q (.exit id) (σ'.wt tm)
 | .goto t,σ=>st=true/\∃ σ':St,σ'.bx.length=m/\Yc m ⟨[],σ.bx,σ.nx,σ.lg⟩ (σ'.wt [])/\Q (.goto t) (σ'.wt tm)
 | _,_=>False
def zne (K:St->Prop):Exit->St->Prop
 | .normal,σ=>K σ
 | _,_=>False
def zay (P:Program) (G:zq) (p:Nat) (A B:Nat->(Exit->St->Prop)->St->Prop) (Q:Exit->St->Prop) (ps:List Tmp) (c:C) (σ:St):Prop:=
 match c with
 | .clo (.func f) first cap=>∃ (items:List (List C)) (st:Nat->Bool) (m:Nat) (I:Nat->St),
   p<=m/\m<=σ.bx.length/\yu P G f (C.selL (XB m) first) (C.selL (XB m) cap) ((σ.bx.drop m).map (C.selL (XB m))) items/\(∀ it∈items,it.length=ps.length)/\(∀ k,k<=items.length->(I k).bx.length=m) /\
   Yc m ⟨[],σ.bx,σ.nx,σ.lg⟩ ((I 0).wt []) /\
   (∀ k it,items[k]?=some it->(∀ j,j<k->st j=false)->A m (zne (B m (zhm m (HD m σ.tm) (st k) (I (k+1)) Q))) ((I k).wt (VB ps it (HD m σ.tm)))) /\
   ((∀ j,j<items.length->st j=false)->Q .normal ((I items.length).wt (HD m σ.tm)))
 | _=>False
end
end
section
open Go.RowKit
def vP (r:Option Nat) (E:Ctx):Prop:=∀ l0,r=some l0->l0<E.w0.heap.size/\¬E.ex l0/\¬E.F0 l0/\∃ r0,E.w0.heap[l0]?=some (.loop r0)
section
variable {P:Program} {G:zq} {E:Ctx} {σ σ':St} {a:Act} {R R':Env} {L L':Loc}
theorem zc9 (hr:vP r E) (h:YU G E σ R L) (fn:FuncId) (tmps:Array Value) (ps:Array Tmp) (assign body:Code) :
  ∃ (l:Nat) (ds:List Nat) (W:World) (D:Nat),(Instr.enterLoop fn tmps ps assign body r).run P R.w = .ok (l,ds.map Ym) W/\Below R.w.heap.size R.w W/\R.w.heap.size<=l /\
   W.heap[l]?=some (.loop { state:=.ready,pending:=none,fn,tmps,params:=ps,assign,body,defers:=D })/\ds.Nodup/\∀ d∈ds,R.w.heap.size<=d/\d≠l/\W.heap[d]?=some (.deferred (some [])):=by
 cases r with
 | none =>
  have hrun:=run_enterLoop_outer (P:=P) (w:=R.w) fn tmps ps assign body;have hnew:=BD (R.w.alloc (.deferred (some []))) (.loop { state:=.ready,pending:=none,fn,tmps,params:=ps,assign,body,defers:=R.w.heap.size });rw[World.size_alloc]at hnew;refine ⟨R.w.heap.size+1,[R.w.heap.size],_,_,hrun,((Ob _ _).alloc (Wb _) _).alloc (by simp) _,by omega,hnew,by simp,fun d hd=>?_⟩;obtain rfl:d=R.w.heap.size:=by simpa using hd
  exact ⟨Wb _,by omega,(Below.heap_alloc _ _ _ (by simp)).trans (BD R.w _)⟩
 | some l0 =>
  obtain ⟨h1,h2,h3,r0,h4⟩:=hr l0 rfl;have hl0:R.w.heap[l0]?=some (.loop r0):=(h.blk l0 h1 h2 fun hx=>h3 ((h.fz l0 h1).1 hx)).1.trans h4;have hrun:=run_enterLoop_inner (P:=P) hl0 fn tmps ps assign body;exact ⟨R.w.heap.size,[],_,_,hrun,(Ob _ _).alloc (Wb _) _,Wb _,BD R.w _,Ae,fun d hd=>by cases hd⟩
def Mk (E:Ctx) (ds:List Deferred) (d:Nat):Prop:=∃ l:List Nat,ds=l.map Ym++E.df/\d∈l
theorem N2.stay2 (h:N2 E ds R) (hf:∀ d,Mk E ds d->(R'.F d↔R.F d)) (hd:∀ d,Mk E ds d->R.w.heap[d]?=some (.deferred (some []))->R'.w.heap[d]?=R.w.heap[d]?):N2 E ds R':=by
 obtain ⟨l,e,hl,h⟩:=h;refine ⟨l,e,hl,fun d hdl=>?_⟩;obtain ⟨h1,h2,h3⟩:=h d hdl;exact ⟨(hd d ⟨l,e,hdl⟩ h1).trans h1,h2,fun h'=>h3 ((hf d ⟨l,e,hdl⟩).1 h')⟩
theorem N2.mk (h:N2 E ds R) {d:Nat} (hd:Mk E ds d):R.w.heap[d]?=some (.deferred (some []))/\E.w0.heap.size<=d/\¬R.F d:=by
 obtain ⟨l,e,hl,h⟩:=h;obtain ⟨l',e',hd⟩:=hd;have:l.map Ym=l'.map Ym:=List.append_cancel_right (e.symm.trans e');have hinj:Function.Injective Ym:=fun x y hxy=>by
  have:=Wv Deferred.target hxy;simpa using this
 have:=(List.map_inj_right fun x y hxy=>hinj hxy).1 this;subst this;exact h d hd
structure XS (G:zq) (E:Ctx) (R1:Env) (β1:List Nat) (l:Nat) (ds:List Deferred) (σ:St) (Rp:Env) (o:Obj) (Lk:Loc) (Fo:Nat->Prop):Prop where
 ext:Ext R1 Rp
 β:Lk.β=β1
 good:YU G E σ ⟨Rp.w,Rp.M,Fo⟩ Lk
 df:N2 E ds ⟨Rp.w,Rp.M,Fo⟩
 rcd:Rp.w.heap[l]?=some o
 fl:¬Fo l
 f1:∀ b,Fo b->Rp.F b
 f2:∀ b,XG Lk b->Rp.F b
 f3:Rp.F l
 f4:∀ d,Mk E ds d->Rp.F d
theorem XS.stab {R1:Env} {β1:List Nat} {l:Nat} {A B:Env} {o:Obj} {Lk:Loc} {Fo:Nat->Prop} {ex:Nat->Prop} {w1:World} (hw:E.w0.heap.size<=w1.heap.size) (hx:∀ b,ex b->E.tu b) (h:XS G E R1 β1 l ds σ A o Lk Fo) (hn:zdA w1 ex A B):XS G E R1 β1 l ds σ B o Lk Fo:=by
 have hsame:∀ b,b<A.w.heap.size->A.F b->B.w.heap[b]?=A.w.heap[b]?/\∀ o,(B.M b o↔A.M b o):=fun b hb hF=>by
  rcases hn.blk b hb with g | ⟨_,g⟩
  ·exact g
  ·exact absurd hF g
 have hlt:∀ {b:Nat} {o:Obj},A.w.heap[b]?=some o->b<A.w.heap.size:=fun h=>qg h;refine ⟨h.ext.trans hn.ext,h.β,h.good.stay ⟨hn.os,hn.tape,hn.output,hn.size,rfl,⟨hn.ext.cell,hn.ext.whole⟩,fun b hb=>(hn.blk b hb).imp id fun ⟨g1,g2⟩=>⟨?_,fun hF=>g2 (h.f1 b hF)⟩⟩ fun b hb=>hsame b (h.good.turf hb).2.2.1 (h.f2 b hb),
  h.df.stay2 (fun _ _=>Iff.rfl) fun d hd hh=>(hsame d (hlt hh) (h.f4 d hd)).1,(hsame l (hlt h.rcd) h.f3).1.trans h.rcd,h.fl,fun b hb=>by rw[hn.fgn];exact h.f1 b hb,fun b hb=>by rw[hn.fgn];exact h.f2 b hb,by rw[hn.fgn];exact h.f3,fun d hd=>by rw[hn.fgn];exact h.f4 d hd⟩
 rcases g1 with g1 | g1
 ·exact .inl (WN hw g1)
 ·exact hx b g1
end
end
section
open Go.RowKit
def zoF (G:zq) (E:Ctx) (Q:Exit->St->Prop):Exit->Act->World->Prop:=fun e a w=>∃ σ,Q e σ/\Inv G E σ a w
def zoR:Exit->Option Code
 | .ret=>some .ret
 | .exit id=>some (.exit id)
 | .goto t=>some (.goto t)
 | _=>none
abbrev N5 (fn:FuncId) (tmps:Array Value) (ps:Array Tmp) (assign body:Code) (D:Nat) (s:LoopState) (p:Option Code):Loop:={ state:=s,pending:=p,fn,tmps,params:=ps,assign,body,defers:=D }
def JC (G:zq) (E:Ctx) (R1:Env) (β1:List Nat) (l m:Nat) (ds:List Deferred) (rc:LoopState->Option Code->Loop) (st:Nat->Bool) (I:Nat->St) (tm:List (Nat×C)) (Q:Exit->St->Prop) (k:Nat) (Rp:Env):Prop:=
 ((∀ j,j<k->st j=false)/\∃ Lk Fo,XS G E R1 β1 l ds (I k) Rp (.loop (rc .ready none)) Lk Fo) ∨
 (0<k/\st (k-1)=true/\∃ e jc σ',zoR e=some jc/\Q e (σ'.wt tm)/\∃ Lk Fo,XS G E R1 β1 l ds σ' Rp (.loop (rc .done (some jc))) Lk Fo)
section
variable {P:Program} {G:zq} {E:Ctx} {σ σ':St} {a:Act} {R R':Env} {L L':Loc}
theorem JC.stab {R1:Env} {β1:List Nat} {l m:Nat} {rc:LoopState->Option Code->Loop} {st:Nat->Bool} {I:Nat->St} {Q:Exit->St->Prop} {ex:Nat->Prop} {w1:World} (hw:E.w0.heap.size<=w1.heap.size) (hx:∀ b,ex b->E.tu b) :
  ∀ k A B,JC G E R1 β1 l m ds rc st I tm Q k A->zdA w1 ex A B->JC G E R1 β1 l m ds rc st I tm Q k B:=fun k A B h hn=>by
 rcases h with ⟨h1,Lk,Fo,hb⟩ | ⟨h1,h2,e,jc,σ',h3,h4,Lk,Fo,hb⟩
 ·exact .inl ⟨h1,Lk,Fo,hb.stab hw hx hn⟩
 ·exact .inr ⟨h1,h2,e,jc,σ',h3,h4,Lk,Fo,hb.stab hw hx hn⟩
theorem ziJ {ps:Array Tmp} {assign body:Code} {Q:Exit->St->Prop} {A B:Nat->(Exit->St->Prop)->St->Prop} {fn:FuncId} {tmps:Array Value} {D l m:Nat} {R1:Env} {L1:Loc} {tm0:List (Nat×C)} {items:List (List C)} {st:Nat->Bool} {I:Nat->St}
  (hsA:∀ (E':Ctx) (Q':Exit->St->Prop) (σ':St) (a':Act) (w':World),E'.N=E.N->E'.β0.length<=m->E'.J=E.J->vP (some l) E'->A m Q' σ'->Inv G E' σ' a' w'->assign.wpIn (Fl (some l)) 0 P (zoF G E' Q') a' w')
  (hsB:∀ (E':Ctx) (Q':Exit->St->Prop) (σ':St) (a':Act) (w':World),E'.N=E.N->E'.β0.length<=m->E'.J=E.J->vP (some l) E'->B m Q' σ'->Inv G E' σ' a' w'->body.wpIn (Fl (some l)) 0 P (zoF G E' Q') a' w')
  (hl:E.w0.heap.size<=l) (hps:∀ p∈ps.toList,p<E.N) (hN:tmps.size=E.N) (htm0:∀ t,Rep R1 L1 (j7 tm0 t) (tmps.getD t undef)) (hlen:∀ it∈items,it.length=ps.toList.length) (hIm:∀ k,k<=items.length->(I k).bx.length=m)
  (hbody:∀ k it,items[k]?=some it->(∀ j,j<k->st j=false)->A m (zne (B m (zhm m (HD m tm0) (st k) (I (k+1)) Q))) ((I k).wt (VB ps.toList it (HD m tm0)))) :
  YOk P ⟨l,items,st⟩ (JC G E R1 (L1.β.take m) l m ds (N5 fn tmps ps assign body D) st I (HD m tm0) Q):=by
 intro k R it vs hJ hflt hst hit hvs;have hJ':∃ Lk Fo,XS G E R1 (L1.β.take m) l ds (I k) R (.loop (N5 fn tmps ps assign body D .ready none)) Lk Fo:=by
  rcases hJ with ⟨_,h⟩ | ⟨hk0,hk1,_⟩
  ·exact h
  ·have:=hst (k-1) (by omega);exact absurd (hk1.symm.trans this) (by decide)
 obtain ⟨Lk,Fo,hb⟩:=hJ';have hit':items[k]?=some it:=hit;have hk:k<items.length:=(Wc.1 hit').1;have hpl:=hlen it (Wf hit');have hvl:=zy hvs;have hps':ps.size=ps.toList.length:=by simp
 have hy:=run_yield (P:=P) (args:=vs.toArray) hb.rcd (by simp only[Bw];omega);refine ⟨fn,_,assign,body,hy,roundIn_of_wpIn trivial ?_⟩;clear hy;have hfold:Array.foldl (fun (t:Array Value) (p:Nat×Value)=>t.setIfInBounds p.1 p.2) tmps (ps.zip vs.toArray)=(ps.toList.zip vs).foldl (fun t (p:Nat×Value)=>t.setIfInBounds p.1 p.2) tmps:=by
  rw[←Array.foldl_toList,Array.toList_zip]
 have hbase:∀ t,Rep ⟨R.w,R.M,Fo⟩ Lk (j7 (HD m tm0) t) (tmps.getD t undef):=fun t=>by
  rw[uE];refine Rep.sel (R':=⟨R.w,R.M,Fo⟩) (L':=Lk) ⟨hb.ext.cell,hb.ext.whole⟩ (fun i j b hij hb1=>?_) _ _ (htm0 t);unfold GE at hij;split at hij
  ·cases hij;rw[hb.β,WF,if_pos (by assumption)];exact hb1
  ·cases hij
 have hvs':zx ⟨R.w,R.M,Fo⟩ Lk it vs:=zx.ext (R:=R) (R':=⟨R.w,R.M,Fo⟩) (T:=zU) ⟨fun b o v h1 h2=>⟨h1,h2⟩,fun _ _ _ _ h1 h2=>⟨h1,h2⟩⟩ (zR.none _) _ _ hvs;have htm:=yi ps.toList it vs (HD m tm0) tmps hvs' (fun p hp=>by rw[hN];exact hps p hp) hbase;have hfr:=(hb.good.wt (VB ps.toList it (HD m tm0))).fresh (β0:=Lk.β) (more:=[]) (by simp) (a:=⟨(ps.toList.zip vs).foldl (fun t (p:Nat×Value)=>t.setIfInBounds p.1 p.2) tmps,[]⟩) (by rw[Gg];exact hN) htm;have hlm:Lk.β.length=m:=by rw[hb.good.fit.boxes.len,hIm k (by omega)]
 have hlR:l<R.w.heap.size:=qg hb.rcd;have hnT:¬XG Lk l:=fun hT=>by
  obtain ⟨_,_,_,hc⟩:=hb.good.turf hT;have hr:=hb.rcd;rcases hc with ⟨cs,t,f,hc⟩ | ⟨cs,t,hc⟩<;>exact nomatch hr.symm.trans hc
 refine BM (hsA (E.at (Env.mk R.w R.M Fo) Lk Lk.β [] hb.good.size fun b hx=>(hb.good.turf hx).1) _ _ _ R.w rfl (by show Lk.β.length<=m;omega) rfl (fun l0 hl0=>by cases hl0;exact ⟨hlR,hnT,hb.fl,_,hb.rcd⟩) (hbody k it hit' hst) ⟨Env.mk R.w R.M Fo,Lk,rfl,by rw[←hfold]at hfr;exact hfr⟩) ?_;rintro e a1 w1 ⟨σ1,hq,Ra,La,rfl,hIa⟩;cases e<;>try exact hq.elim
 -- the record is ready yet
 have hga:=hb.good.wt (VB ps.toList it (HD m tm0)) |>.back hb.good.box hIa.good;have hra:=hIa.good.at_blk (b:=l) hlR hnT hb.fl;have hrecA:Ra.w.heap[l]?=some (.loop (N5 fn tmps ps assign body D .ready none)):=hra.1.trans hb.rcd;have hFa:¬Ra.F l:=fun hx=>hb.fl ((hIa.good.fz l hlR).1 hx);have hTa:¬XG La l:=fun hT=>by
  obtain ⟨_,_,_,hc⟩:=hga.turf hT;rcases hc with ⟨cs,t,f,hc⟩ | ⟨cs,t,hc⟩<;>exact nomatch hrecA.symm.trans hc
 refine ⟨_,run_beginRound hrecA rfl,?_⟩;have hlA:l<Ra.w.heap.size:=qg hrecA;have hni:=XU (E:=E) (R:=Ra) (o:=.loop { N5 fn tmps ps assign body D .ready none with state:=.busy }) (.inl hl) hFa (fun cs t f hc=>by rw[hrecA]at hc;cases hc);have hsame:∀ (o:Obj) (R:Env) (L:Loc),(¬XG L l)->∀ b,XG L b->(R.w.putObj l o).heap[b]?=R.w.heap[b]?/\∀ o,(R.M b o↔R.M b o):=fun o R L hT b hb=>⟨WW fun e=>hT (e▸hb),fun _=>Iff.rfl⟩;have hgb:=hga.stay hni (hsame _ Ra La hTa);have hrecB:(Ra.w.putObj l (.loop { N5 fn tmps ps assign body D .ready none with state:=.busy })).heap[l]?=some (.loop (N5 fn tmps ps assign body D .busy none)):=A6 hlA;obtain ⟨moreA,hmA⟩:=hIa.good.box;have hmA:La.β=Lk.β++moreA:=hmA;have hfrB:=hgb.fresh hmA (a:=a1) hIa.size fun t=>Rep.ext hni.ext (zR.refl _) _ _ (hIa.tm t);refine BM (hsB (E.at (Env.mk (Ra.w.putObj l (.loop { N5 fn tmps ps assign body D .ready none with state:=.busy })) Ra.M Ra.F) La Lk.β a1.defers hgb.size fun b hx=>(hgb.turf hx).1) _ σ1 a1 _ rfl (by show Lk.β.length<=m;omega) rfl (fun l0 hl0=>by cases hl0;exact ⟨by simpa [Ctx.at] using hlA,hTa,hFa,_,hrecB⟩) hq ⟨_,La,rfl,hfrB⟩) ?_;rintro e a3 w3 ⟨σ3,hq3,Rc,Lc,rfl,hIc⟩;have hgc:=hgb.back hb.good.box hIc.good;have hlB:l<(Ra.w.putObj l (.loop { N5 fn tmps ps assign body D .ready none with state:=.busy })).heap.size:=by simpa using hlA
 have hrc:=hIc.good.at_blk (b:=l) hlB hTa hFa;have hrecC:Rc.w.heap[l]?=some (.loop (N5 fn tmps ps assign body D .busy none)):=hrc.1.trans hrecB;have hFc:¬Rc.F l:=fun hx=>hFa ((hIc.good.fz l hlB).1 hx);have hTc:¬XG Lc l:=fun hT=>by
  obtain ⟨_,_,_,hc⟩:=hgc.turf hT;rcases hc with ⟨cs,t,f,hc⟩ | ⟨cs,t,hc⟩<;>exact nomatch hrecC.symm.trans hc
 have hszA:R.w.heap.size<=Ra.w.heap.size:=hIa.good.size;have hszC:Ra.w.heap.size<=Rc.w.heap.size:=by have:=hIc.good.size;simpa [Ctx.at] using this
 -- what is none of the loop's lies as it lay
 have hfar:∀ b,b<R.w.heap.size->¬R.F b->(Rc.w.heap[b]?=R.w.heap[b]?/\∀ o,(Rc.M b o↔R.M b o))/\(¬Rc.F b):=fun b hbl hbF=>by
  have hbF0:¬Fo b:=fun hx=>hbF (hb.f1 b hx);have hbT:¬XG Lk b:=fun hx=>hbF (hb.f2 b hx);have hbl':b≠l:=fun e=>hbF (e▸hb.f3);have h1:=hIa.good.at_blk (b:=b) hbl hbT hbF0;have hFa':¬Ra.F b:=fun hx=>hbF0 ((hIa.good.fz b hbl).1 hx);have hTa':¬XG La b:=fun hx=>hbT (hIa.good.at_turf hbl hx);have hlt2:b<(Ra.w.putObj l (.loop { N5 fn tmps ps assign body D .ready none with state:=.busy })).heap.size:=by simp;omega
  have h2:=hIc.good.at_blk (b:=b) hlt2 hTa' hFa';refine ⟨⟨(h2.1.trans (WW hbl')).trans h1.1,fun o=>(h2.2 o).trans (h1.2 o)⟩,fun hx=>hFa' ((hIc.good.fz b hlt2).1 hx)⟩
 have hturf:∀ b,b<R.w.heap.size->XG Lc b->R.F b:=fun b hbl hx=>by
  refine hb.f2 b (hIa.good.at_turf hbl (hIc.good.at_turf ?_ hx));simp;omega
 have hext:Ext R Rc:=by
  have e1:Ext (Env.mk R.w R.M Fo) Ra:=⟨hIa.good.ext.cell,hIa.good.ext.whole⟩;have e2:Ext (Env.mk (Ra.w.putObj l (.loop { N5 fn tmps ps assign body D .ready none with state:=.busy })) Ra.M Ra.F) Rc:=⟨hIc.good.ext.cell,hIc.good.ext.whole⟩;exact (Ext.trans (A:=R) (B:=Ra) ⟨e1.cell,e1.whole⟩ hni.ext).trans e2
 -- the end of a round
 have fin:∀ (jump:Option Code) (σ':St),σ'.bx.length=m->Yc m ⟨[],σ3.bx,σ3.nx,σ3.lg⟩ (σ'.wt []) ->
   (Instr.endRound l jump).run P Rc.w = .ok (.bool jump.isNone) (Rc.w.putObj l (.loop (N5 fn tmps ps assign body D (if jump.isNone then .ready else .done) jump))) /\
   ∃ R',R'.w=Rc.w.putObj l (.loop (N5 fn tmps ps assign body D (if jump.isNone then .ready else .done) jump))/\Far R R' /\
    ∃ Lk' Fo',XS G E R1 (L1.β.take m) l ds σ' R' (.loop (N5 fn tmps ps assign body D (if jump.isNone then .ready else .done) jump)) Lk' Fo':=fun jump σ' hm' hw=>by
  have hrun:=run_endRound (P:=P) jump hrecC;generalize hrc':N5 fn tmps ps assign body D (if jump.isNone then .ready else .done) jump=rc';have hrun':(Instr.endRound l jump).run P Rc.w = .ok (.bool jump.isNone) (Rc.w.putObj l (.loop rc')):=by rw[←hrc'];exact hrun
  have hni2:=XU (E:=E) (R:=Rc) (o:=.loop rc') (.inl hl) hFc (fun cs t f hc=>by rw[hrecC]at hc;cases hc);have hgd:=hgc.stay hni2 (hsame _ Rc Lc hTc);obtain ⟨src,_,hgw⟩:=YU.weak (p:=m) (σ:=⟨[],σ3.bx,σ3.nx,σ3.lg⟩) (σ':=σ'.wt []) (by
   obtain ⟨more0,hm0⟩:=hb.good.box;have:=Wv List.length hm0;simp at this;omega) hw (hgd.wt [])
  obtain ⟨moreC,hmC⟩:=hIc.good.box;have hmC:Lc.β=Lk.β++moreC:=hmC;have hβ':Lc.β.take (σ'.wt []).bx.length=L1.β.take m:=by
   show Lc.β.take σ'.bx.length=_;rw[hm',hmC,OM (by omega),Wg (by omega),hb.β]
  refine ⟨hrun',⟨Rc.w.putObj l (.loop rc'),Rc.M,fun b=>R.F b∨(R.w.heap.size<=b/\b<Rc.w.heap.size)⟩,rfl,⟨?_,?_,?_,?_,?_,fun b hbl=>⟨fun hx=>hx.elim id fun h=>by omega,.inl⟩,fun b hx=>?_,fun b hbl hbF=>?_⟩,Jw src (σ'.wt []).bx.length Lc,Rc.F,⟨?_,hβ',?_,?_,A6 (qg hrecC),hFc,fun b hx=>?_,fun b hx=>?_,.inl hb.f3,fun d hd=>.inl (hb.f4 d hd)⟩⟩
  ·exact hIc.good.os.trans hIa.good.os
  ·exact hIc.good.tape.trans hIa.good.tape
  ·exact hIc.good.output.trans hIa.good.output
  ·simp;omega
  ·exact hext.trans ⟨hni2.ext.cell,hni2.ext.whole⟩
  ·simp only[World.putObj_size];rcases hx with hx | hx
   ·have:=hflt b hx;omega
   ·exact hx.2
  ·have hbl':b≠l:=fun e=>hbF (e▸hb.f3);obtain ⟨⟨g1,g2⟩,_⟩:=hfar b hbl hbF;exact ⟨(WW hbl').trans g1,g2⟩
  ·exact (hb.ext.trans hext).trans ⟨hni2.ext.cell,hni2.ext.whole⟩
  ·exact { hgw with }
  ·have hdf:=hb.df;refine hdf.stay2 (fun d hd=>?_) fun d hd hh=>?_
   ·have hdm:=hdf.mk hd;have hlt:d<R.w.heap.size:=qg hdm.1;exact ((hIc.good.fz d (by simp[Ctx.at];omega)).trans (hIa.good.fz d hlt))
   ·have hdm:=hdf.mk hd;have hlt:d<R.w.heap.size:=qg hdm.1;have hdF0:¬Fo d:=hdm.2.2;have hdT:¬XG Lk d:=fun hT=>by
     obtain ⟨_,_,_,hc⟩:=hb.good.turf hT;have hh:R.w.heap[d]?=some (.deferred (some [])):=hh;rcases hc with ⟨cs,t,f,hc⟩ | ⟨cs,t,hc⟩<;>exact nomatch hh.symm.trans hc
    have hdl:d≠l:=fun e=>by
     subst e;have hh:R.w.heap[d]?=some (.deferred (some [])):=hh;rw[hb.rcd]at hh;cases hh
    have h1:=hIa.good.at_blk (b:=d) hlt hdT hdF0;have hFa':¬Ra.F d:=fun hx=>hdF0 ((hIa.good.fz d hlt).1 hx);have hTa':¬XG La d:=fun hx=>hdT (hIa.good.at_turf hlt hx);have hlt2:d<(Ra.w.putObj l (.loop { N5 fn tmps ps assign body D .ready none with state:=.busy })).heap.size:=by simp;omega
    have h2:=hIc.good.at_blk (b:=d) hlt2 hTa' hFa';exact (WW hdl).trans ((h2.1.trans (WW hdl)).trans h1.1)
  ·rcases Wp b R.w.heap.size with g | g
   ·exact .inl (Ay fun hn=>(hfar b g hn).2 hx)
   ·exact .inr ⟨g,hIc.good.flt b hx⟩
  ·obtain ⟨h1,h2,h3,_⟩:=hgw.turf hx;rcases Wp b R.w.heap.size with g | g
   ·refine .inl (hturf b g ?_);rcases hx with hx | ⟨id,e,k,v,ht,hv⟩
    ·exact .inl (Ww hx)
    ·obtain ⟨i,_,hi⟩:=Xt (R:=R) ht hv;exact .inr ⟨i,e,k,v,hi,hv⟩
   ·exact .inr ⟨g,by simpa using h3⟩
 cases e with
 | normal =>
  obtain ⟨hs,hw⟩:=hq3;obtain ⟨hrun,R',hR',hf,Lk',Fo',hbt⟩:=fin none (I (k+1)) (hIm _ (by omega)) hw;refine ⟨_,_,hrun,?_,R',hR',hf,.inl ⟨fun j hj=>?_,Lk',Fo',hbt⟩⟩
  ·show Ending.returned (.bool true) = .returned (.bool (!st k));rw[hs];rfl
  ·rcases Wp j k with g | g
   ·exact hst j g
   ·rw[show j=k by omega];exact hs
 | ret =>
  obtain ⟨hs,σ',hm',hw,hQ⟩:=hq3;obtain ⟨hrun,R',hR',hf,Lk',Fo',hbt⟩:=fin (some .ret) σ' hm' hw;refine ⟨_,_,hrun,?_,R',hR',hf,.inr ⟨by omega,hs,.ret,_,σ',rfl,hQ,Lk',Fo',hbt⟩⟩;show Ending.returned (.bool false) = .returned (.bool (!st k));rw[hs];rfl
 | exit id =>
  obtain ⟨hs,σ',hm',hw,hQ⟩:=hq3;obtain ⟨hrun,R',hR',hf,Lk',Fo',hbt⟩:=fin (some (.exit id)) σ' hm' hw;refine ⟨_,_,hrun,?_,R',hR',hf,.inr ⟨by omega,hs,.exit id,_,σ',rfl,hQ,Lk',Fo',hbt⟩⟩;show Ending.returned (.bool false) = .returned (.bool (!st k));rw[hs];rfl
 | goto t =>
  obtain ⟨hs,σ',hm',hw,hQ⟩:=hq3;obtain ⟨hrun,R',hR',hf,Lk',Fo',hbt⟩:=fin (some (.goto t)) σ' hm' hw;refine ⟨_,_,hrun,?_,R',hR',hf,.inr ⟨by omega,hs,.goto t,_,σ',rfl,hQ,Lk',Fo',hbt⟩⟩;show Ending.returned (.bool false) = .returned (.bool (!st k));rw[hs];rfl
 | panic ch=>exact hq3.elim
 | outgrown=>exact hq3.elim
theorem uM {p:Nat} {f:Operand} {ps:Array Tmp} {assign body:Code} {Q:Exit->St->Prop} {A B:Nat->(Exit->St->Prop)->St->Prop}
  (hsA:∀ (E':Ctx) (m l:Nat) (Q':Exit->St->Prop) (σ':St) (a':Act) (w':World),E'.N=E.N->E'.β0.length<=m->E'.J=E.J->vP (some l) E'->A m Q' σ'->Inv G E' σ' a' w'->assign.wpIn (Fl (some l)) 0 P (zoF G E' Q') a' w')
  (hsB:∀ (E':Ctx) (m l:Nat) (Q':Exit->St->Prop) (σ':St) (a':Act) (w':World),E'.N=E.N->E'.β0.length<=m->E'.J=E.J->vP (some l) E'->B m Q' σ'->Inv G E' σ' a' w'->body.wpIn (Fl (some l)) 0 P (zoF G E' Q') a' w')
  (hps:∀ p∈ps.toList,p<E.N) (hp:E.β0.length<=p) (hr:vP r E) (hA:zay P G p A B Q ps.toList (zB G σ.tm f) σ) (hI:Inv G E σ a w):(Code.rangeFunc f ps assign body).wpIn (Fl r) n P (zoF G E Q) a w:=by
 obtain ⟨R,L,rfl,hI⟩:=hI;unfold zay at hA;split at hA<;>try exact hA.elim
 rename_i gf first cap hev
 obtain ⟨items,st,m,I,hpm,hmb,hit,hlen,hIm,hw0,hbody,hdone⟩:=hA;have hcl:=hI.ev f;rw[hev,YI]at hcl;obtain ⟨fs,cs,hfv,hfs,hcs⟩:=hcl;refine wpIn_rangeFunc ?_;intro fn hfn;obtain ⟨l,dl,W,D,hrun,hbl,hlR,hrec,hnd,hds⟩:=zc9 hr hI.good fn a.tmps ps assign body;have hg:=hI.good
 let R1:Env:=⟨W,R.M,R.F⟩
 have hnear:zdA E.w0 E.ex R R1:=⟨hbl.os,hbl.tape,hbl.output,hbl.size,rfl,Ext.of_below hbl fun _ _ _=>Iff.rfl,fun b hb=>.inl ⟨hbl.block b hb,fun _=>Iff.rfl⟩⟩;have hg1:YU G E σ R1 L:=hg.stay hnear fun b hb=>⟨hbl.block b (hg.turf hb).2.2.1,fun _=>Iff.rfl⟩;obtain ⟨src,_,hgw⟩:=YU.weak (p:=m) (σ:=⟨[],σ.bx,σ.nx,σ.lg⟩) (σ':=(I 0).wt []) (by omega) hw0 (hg1.wt []);have hm0:(I 0).bx.length=m:=hIm 0 (Wd _);have hm0':((I 0).wt []).bx.length=m:=hm0;have hdf1:N2 E (dl.map Ym++a.defers) R1:=by
  obtain ⟨l0,e0,hn0,h0⟩:=hI.df;refine ⟨dl++l0,by rw[W5,e0,WL],?_,fun d hd=>?_⟩
  ·rw[Aa];refine ⟨hnd,hn0,fun x hx y hy e=>?_⟩;subst e;have:=(hds x hx).1;have:=qg (h0 x hy).1;omega
  ·rcases WB.1 hd with hd | hd
   ·obtain ⟨h1,_,h3⟩:=hds d hd;exact ⟨h3,WN hg.size h1,fun hF=>by have:=hg.flt d hF;omega⟩
   ·obtain ⟨h1,h2,h3⟩:=h0 d hd;exact ⟨(hbl.block d (qg h1)).trans h1,h2,h3⟩
 have hlE:E.w0.heap.size<=l:=WN hg.size hlR;have hFl:¬R.F l:=fun hF=>by have:=hg.flt l hF;omega
 let Rp:Env:=⟨W,R.M,fun b=>R.F b∨XG (Jw src m L) b∨b=l∨Mk E (dl.map Ym++a.defers) b⟩
 have hturfLt:∀ b,XG (Jw src m L) b->b<R.w.heap.size/\XG L b:=fun b hb=>by
  have:XG L b:=by
   rcases hb with hb | ⟨id,e,k,v,ht,hv⟩
   ·exact .inl (Ww hb)
   ·obtain ⟨i,_,hi⟩:=Xt (R:=R) ht hv;exact .inr ⟨i,e,k,v,hi,hv⟩
  exact ⟨(hg.turf this).2.2.1,this⟩
 have hbt:XS G E R1 (L.β.take m) l (dl.map Ym++a.defers) (I 0) Rp (.loop (N5 fn a.tmps ps assign body D .ready none)) (Jw src m L) R.F:=by
  rw[hm0']at hgw;refine ⟨⟨fun b o v h1 h2=>⟨h1,h2⟩,fun _ _ _ _ h1 h2=>⟨h1,h2⟩⟩,rfl,{ hgw with },hdf1.stay2 (fun _ _=>Iff.rfl) (fun _ _ _=>rfl),hrec,hFl,fun b hb=>.inl hb,fun b hb=>.inr (.inl hb),.inr (.inr (.inl rfl)),fun d hd=>.inr (.inr (.inr hd))⟩
 have hround:=ziJ (G:=G) (E:=E) (P:=P) (R1:=R1) (L1:=L) (tm0:=σ.tm) (ds:=dl.map Ym++a.defers) (D:=D) (fn:=fn) (tmps:=a.tmps) (fun E'=>hsA E' m l) (fun E'=>hsB E' m l) hlE hps hI.size (fun t=>Rep.ext hnear.ext (zR.refl _) _ _ (hI.tm t)) hlen hIm hbody;have hEw:E.w0.heap.size<=W.heap.size:=WN hg.size hbl.size;have hnodup:=hg.fit.boxes.nodup;have hblen:=hg.fit.boxes.len;have htake:∀ b∈L.β.drop m,b∉L.β.take m:=fun b hb hb'=>by
  have h:=hnodup;rw[←W1 m L.β,Aa]at h;exact h.2.2 b hb' b hb rfl
 have hdropF:∀ b∈L.β.drop m,¬Rp.F b:=fun b hb hF=>by
  have hbL:b∈L.β:=WU hb;obtain ⟨_,t2,t3,hc⟩:=hg.turf (.inl hbL);obtain ⟨cs',t,f',hc⟩:∃ cs t f,R.w.heap[b]?=some (.cells cs t f):=by
   obtain ⟨i,hi,rfl⟩:=Wx hbL;have hl0:=hg.fit.boxes.len;obtain ⟨vs,ty,g,_⟩:=hg.fit.boxes.box i L.β[i] (σ.bx[i]'(by omega)) (Wa hi) (Wa (by omega));exact ⟨_,_,_,g⟩
  rcases hF with hF | hF | hF | hF
  ·exact t2 hF
  ·rcases hF with hF | ⟨id,e,k,v,ht,hv⟩
   ·exact htake b hb hF
   ·obtain ⟨i,_,hi⟩:=Xt (R:=R) ht hv;exact ((hg.fit.owns.own i e k v hi).block hv).2.2 hbL
  ·omega
  ·have:=(hdf1.mk hF).1;have hc1:W.heap[b]?=some (.cells cs' t f'):=(hbl.block b t3).trans hc;have:W.heap[b]?=some (.deferred (some [])):=this;rw[hc1]at this;cases this
 have hfl:∀ b,Rp.F b->b<Rp.w.heap.size:=fun b hF=>by
  rcases hF with hF | hF | hF | hF
  ·exact WH (hg.flt b hF) hbl.size
  ·exact WH (hturfLt b hF).1 hbl.size
  ·rw[hF];exact qg hrec
  ·exact qg (hdf1.mk hF).1
 have hb1:=hg1.fit.boxes;have hdropR:∀ i j b,XB m i=some j->L.β[i]?=some b->(L.β.drop m)[j]?=some b:=fun i j b hij hb=>by
  unfold XB at hij;split at hij
  ·cases hij
  ·cases hij;rw[W3,show m+(i-m)=i by omega];exact hb
 have hsel:∀ cs vs,zx R L cs vs->zx Rp ⟨L.β.drop m,fun _=>none⟩ (C.selL (XB m) cs) vs:=fun cs vs h=>zx.sel (R':=Rp) (L':=⟨L.β.drop m,fun _=>none⟩) ⟨hnear.ext.cell,hnear.ext.whole⟩ hdropR _ _ h;have hsel1:∀ cs vs,zx R1 L cs vs->zx Rp ⟨L.β.drop m,fun _=>none⟩ (C.selL (XB m) cs) vs:=fun cs vs h=>zx.sel (R:=R1) (R':=Rp) (L':=⟨L.β.drop m,fun _=>none⟩) ⟨fun b o v h1 h2=>⟨h1,h2⟩,fun _ _ _ _ h1 h2=>⟨h1,h2⟩⟩ hdropR _ _ h;have hcall:=hit.2 l st _ Rp ⟨L.β.drop m,fun _=>none⟩ fs.toList cs.toList (hg.fit.glob.ext ⟨hnear.ext.cell,hnear.ext.whole⟩)
  ⟨by simp[hblen],hnodup.sublist (List.drop_sublist _ _),fun i b cs' hi hc=>by
   have hi':L.β[m+i]?=some b:=by rw[←W3];exact hi
   rw[Wy,W3]at hc;cases hq:σ.bx[m+i]? with
   | none=>rw[hq]at hc;cases hc
   | some c0 =>
    rw[hq]at hc;cases hc;obtain ⟨vs,ty,e1,e2,e3,e4⟩:=hb1.box (m+i) b c0 hi' hq;exact ⟨vs,ty,e1,hsel1 _ _ e2,e3,e4⟩⟩
  (fun _=>rfl) hfl hdropF (JC.stab (E:=E) (w1:=W) (ex:=fun b=>b∈L.β.drop m) hEw fun b hb=>hg.tubx b (WU hb)) hround (.inl ⟨fun j hj=>by omega,_,_,hbt⟩) (hsel _ _ hfs) (hsel _ _ hcs)
 refine ⟨l,dl.map Ym,W,{ target:=.fn (.func gf) cs,args:=fs++#[.func (.yield l) #[] #[]] },W,gf,(fs.toList++[Value.func (.yield l) #[] #[]]++cs.toList).toArray,W,hrun,?_,fun _ _=>trivial,?_,fun hx=>by simp at hx,?_⟩
 ·simp only[resolve,hfv];simp[Deferred.ofValue,Act.eval]
 ·simp only[invoke];rw[ZX hit.1];congr 2;apply Bq;simp
 ·refine (GA (r:=r) (n:=n-1) hcall).mono ?_;rintro e w' ⟨v,Re,k,rfl,rfl,hJ,hEnd⟩;have wrap:∀ (σ':St) (o:Obj) (Lk:Loc) (Fo:Nat->Prop) (o':Obj),((∀ cs t f,o≠.cells cs t f)/\∀ es cl,o≠.map es cl)->XS G E R1 (L.β.take m) l (dl.map Ym++a.defers) σ' Re o Lk Fo->Inv G E (σ'.wt (HD m σ.tm)) { a with defers:=dl.map Ym++a.defers } (Re.w.putObj l o'):=fun σ' o Lk Fo o' ho hb=>by
   have hnT:¬XG Lk l:=fun hT=>by
    obtain ⟨_,_,_,hc⟩:=hb.good.turf hT;have hr:=hb.rcd;rcases hc with ⟨cs,t,f,hc⟩ | ⟨cs,t,hc⟩
    ·exact ho.1 _ _ _ (Option.some.inj (hr.symm.trans hc))
    ·exact ho.2 _ _ (Option.some.inj (hr.symm.trans hc))
   have hni:=XU (E:=E) (R:=Env.mk Re.w Re.M Fo) (o:=o') (.inl hlE) hb.fl (fun cs t f hc=>by
    have hc:Re.w.heap[l]?=some (.cells cs t f):=hc;rw[hb.rcd]at hc;cases hc;exact ho.1 _ _ _ rfl)
   refine ⟨_,Lk,rfl,(hb.good.stay hni fun b hbT=>⟨WW fun e=>hnT (e▸hbT),fun _=>Iff.rfl⟩).wt _,hI.size,hb.df.stay2 (fun _ _=>Iff.rfl) fun d hd hh=>WW fun e=>?_,fun t=>?_⟩
   ·subst e;have hh:Re.w.heap[d]?=some (.deferred (some [])):=hh;rw[hb.rcd]at hh;cases hh;have:=(hdf1.mk hd).1;have:W.heap[d]?=some (.deferred (some [])):=this;rw[hrec]at this;cases this
   ·show Rep _ _ (j7 (HD m σ.tm) t) _;rw[uE];refine Rep.sel (R:=R) (L:=L) ⟨fun b o v h1 h2=>?_,fun b cs ty fl h1 h2=>?_⟩ (fun i j b hij hb1=>?_) _ _ (hI.tm t)
    ·obtain ⟨g1,g2⟩:=hnear.ext.cell b o v h1 h2;obtain ⟨k1,k2⟩:=hb.ext.cell b o v g1 g2;exact hni.ext.cell b o v k1 k2
    ·obtain ⟨g1,g2⟩:=hnear.ext.whole b cs ty fl h1 h2;obtain ⟨k1,k2⟩:=hb.ext.whole b cs ty fl g1 g2;exact hni.ext.whole b cs ty fl k1 k2
    ·unfold GE at hij;split at hij
     ·cases hij;rw[hb.β,WF,if_pos (by assumption)];exact hb1
     ·cases hij
  rcases hJ with ⟨hns,Lk,Fo,hb⟩ | ⟨hk0,hk1,e,jc,σ',hj,hQ,Lk,Fo,hb⟩
  ·have hk:k=items.length:=by
    rcases hEnd with ⟨g,_⟩ | ⟨g1,g2⟩
    ·exact g
    ·have:=hns (k-1) (by omega);rw[g2]at this;cases this
   subst hk;exact ⟨none,_,run_endLoop hb.rcd (by simp),_,hdone hns,wrap _ _ _ _ _ ⟨fun cs t f h=>(by cases h),fun es cl h=>(by cases h)⟩ hb⟩
  ·have hinv:=wrap σ' _ Lk Fo (.loop { N5 fn a.tmps ps assign body D .done (some jc) with state:=.exhausted }) ⟨fun cs t f h=>(by cases h),fun es cl h=>(by cases h)⟩ hb;refine ⟨some jc,_,run_endLoop hb.rcd (by simp),?_⟩;cases e with
   | ret=>cases hj;exact wpIn_ret ⟨_,hQ,hinv⟩
   | exit id=>cases hj;exact wpIn_exit ⟨_,hQ,hinv⟩
   | goto t=>cases hj;exact wpIn_goto ⟨_,hQ,hinv⟩
   | normal=>cases hj
   | panic ch=>cases hj
   | outgrown=>cases hj
end
end
section
open Go.RowKit
def JJ (a s:Nat):List Bool:=true :: true :: true :: (List.replicate a false++true :: List.replicate s false)
def V7:List Bool->Nat×List Bool
 | false :: r=>((V7 r).1+1,(V7 r).2)
 | r=>(0,r)
def Gu:List Bool->Option (Nat×Nat)
 | true :: true :: true :: r=>some ((V7 r).1,(V7 r).2.tail.length)
 | _=>none
theorem kR:∀ (a:Nat) (r:List Bool),V7 (List.replicate a false++true :: r)=(a,true :: r)
 | 0,r=>by simp[V7]
 | a+1,r=>by rw[AI,W8,V7,kR a r]
theorem Mm (a s:Nat):Gu (JJ a s)=some (a,s):=by
 show some ((V7 (List.replicate a false++true :: List.replicate s false)).1,(V7 (List.replicate a false++true :: List.replicate s false)).2.tail.length)=_;rw[kR];simp
def Uh (ops:Array Oper) (a s:Nat):Bool:=
 match ops[a]?,ops[s]? with
 | some ⟨some p,.alloc t,_,_,_,none⟩,some ⟨none,.store t' (.tmp p') x,_,_,_,none⟩ =>
  t==t'&&p==p'&&decide (a<s)&&inC (qI ops.toList ops.size) s a&&ops.toList.zipIdx.all fun (o,i)=>i==a||!(o.dst==some p)
 | _,_=>false
def zjK (L:Option Lay) (c:C) (K:C->Prop):Prop:=match L with
 | some L=>c.partB=true/\(c.cells.all C.cellB)=true/\c.cells.length=L.size/\K c
 | none=>False
def zjC (L:Option Lay) (K:Prop):Prop:=match L with
 | some ⟨_,k,_,some z⟩=>z.length=k/\(z.all Value.oneCell')=true/\K
 | _=>False
section
variable {P:Program} {G:zq} {E:Ctx} {σ:St} {a:Act} {N p:Nat} {bx:List (List C)} {ops:Array Oper}
def jN (P:Program) (G:zq) (ops:Array Oper) (a s:Nat):List Oper->Nat->Option (List C)->St->(St->Prop)->Prop
 | [],_,cs,σ,K=>match cs,(ops[a]?).bind (·.dst) with
  | some cs,some p=>K ⟨(p,.ptr σ.bx.length 0) :: σ.tm,σ.bx++[cs],σ.nx,σ.lg⟩
  | _,_=>False
 | o :: rest,i,cs,σ,K =>
  if i=a then match o.op with
   | .alloc t=>zjC (lay P t) (jN P G ops a s rest (i+1) cs ⟨JH σ.tm o.dst .any,σ.bx,σ.nx,σ.lg⟩ K)
   | _=>False
  else if i=s then match o.op with
   | .store t _ x=>zjK (lay P t) (zB G σ.tm x) fun c=>jN P G ops a s rest (i+1) (some c.cells) ⟨JH σ.tm o.dst .any,σ.bx,σ.nx,σ.lg⟩ K
   | _=>False
  else jm ops σ.tm o.guard (JI P G σ.bx (zB G σ.tm) o.op σ.nx fun c nx'=>jN P G ops a s rest (i+1) cs ⟨JH σ.tm o.dst c,σ.bx,nx',σ.lg⟩ K)
   (jN P G ops a s rest (i+1) cs ⟨JH σ.tm o.dst (.sc undef),σ.bx,σ.nx,σ.lg⟩ K)
structure MP (P:Program) (G:zq) (bx:List (List C)) (ops:Array Oper) (a s:Nat) (l:List Oper) (m m':Nat) (D:XC):Prop where
  step:∀ (i:Nat) o,m<=i->i<m'->l[i]?=some o->D.T (i+1)=JH (D.T i) o.dst (D.c i)/\D.X i<=D.X (i+1) /\
    ((i=a/\D.c i = .any/\D.X (i+1)=D.X i/\∃ t kd k b z,o.op = .alloc t/\lay P t=some ⟨kd,k,b,some z⟩/\z.length=k/\(z.all Value.oneCell')=true) ∨
     (i≠a/\i=s/\D.c i = .any/\D.X (i+1)=D.X i/\∃ t q x L,o.op = .store t q x/\lay P t=some L/\(zB G (D.T i) x).partB=true/\((zB G (D.T i) x).cells.all C.cellB)=true/\(zB G (D.T i) x).cells.length=L.size) ∨
     (i≠a/\i≠s/\qS ops (D.T i) o.guard (D.wn i)/\(D.wn i=true->zG P G bx (Qx o (zB G (D.T i))) (D.X i) o (D.c i) (D.X (i+1)))/\(D.wn i=false->D.c i = .sc undef/\D.X (i+1)=D.X i)))
theorem MP.skel {a s:Nat} {m:Nat} (h:MP P G bx ops a s l m m' D):yq l m m' D:=⟨fun i o a b c=>⟨(h.step i o a b c).1,(h.step i o a b c).2.1⟩⟩
theorem H1 {ops:Array Oper} {a s:Nat} {all:List Oper} {K:St->Prop}:∀ (l:List Oper) (m:Nat) (cs:Option (List C)) (σ:St),all.drop m=l->m<=all.length->jN P G ops a s l m cs σ K ->
    ∃ (D:XC) (p:Nat) (ct:List C),D.T m=σ.tm/\D.X m=σ.nx/\MP P G σ.bx ops a s all m all.length D/\(ops[a]?).bind (·.dst)=some p/\K ⟨(p,.ptr σ.bx.length 0) :: D.T all.length,σ.bx++[ct],D.X all.length,σ.lg⟩ /\
      (cs=some ct∨(m<=s/\s<all.length/\∀ o t q x,all[s]?=some o->o.op = .store t q x->ct=(zB G (D.T s) x).cells))
  | [],m,cs,σ,hl,hm,h=>by
    have:m=all.length:=by
      have:=Wv List.length hl;simp at this;omega
    subst this;unfold jN at h;split at h
    · rename_i cs p hp;exact ⟨⟨fun _=>σ.tm,fun _=>σ.nx,fun _=>.any,fun _=>true⟩,p,cs,rfl,rfl,⟨fun i o h1 h2=>by omega⟩,hp,h,.inl rfl⟩
    · exact h.elim
  | o :: rest,m,cs,σ,hl,hm,h=>by
    have hlt:m<all.length:=by
      rcases Wp m all.length with g | g
      · exact g
      · rw[AL g]at hl;cases hl
    have hom:all[m]?=some o:=by
      have:=W3 (xs:=all) (i:=m) (j:=0);rw[hl]at this;simpa using this.symm
    have hrest:all.drop (m+1)=rest:=by
      have:=Wv List.tail hl;simpa using this
    have key:∀ (c:C) (nx':Nat) (b:Bool) (cs':Option (List C)),σ.nx<=nx' ->
        ((m=a/\c = .any/\nx'=σ.nx/\∃ t kd k b z,o.op = .alloc t/\lay P t=some ⟨kd,k,b,some z⟩/\z.length=k/\(z.all Value.oneCell')=true) ∨
         (m≠a/\m=s/\c = .any/\nx'=σ.nx/\∃ t q x L,o.op = .store t q x/\lay P t=some L/\(zB G σ.tm x).partB=true/\((zB G σ.tm x).cells.all C.cellB)=true/\(zB G σ.tm x).cells.length=L.size) ∨
         (m≠a/\m≠s/\qS ops σ.tm o.guard b/\(b=true->zG P G σ.bx (Qx o (zB G σ.tm)) σ.nx o c nx')/\(b=false->c = .sc undef/\nx'=σ.nx))) ->
        (cs'=cs∨(m=s/\∀ t q x,o.op = .store t q x->cs'=some (zB G σ.tm x).cells)) ->
        jN P G ops a s rest (m+1) cs' ⟨JH σ.tm o.dst c,σ.bx,nx',σ.lg⟩ K ->
        ∃ (D:XC) (p:Nat) (ct:List C),D.T m=σ.tm/\D.X m=σ.nx/\MP P G σ.bx ops a s all m all.length D/\(ops[a]?).bind (·.dst)=some p/\K ⟨(p,.ptr σ.bx.length 0) :: D.T all.length,σ.bx++[ct],D.X all.length,σ.lg⟩ /\
          (cs=some ct∨(m<=s/\s<all.length/\∀ o t q x,all[s]?=some o->o.op = .store t q x->ct=(zB G (D.T s) x).cells)):=fun c nx' b cs' hle hcase hcs hr=>by
      obtain ⟨D,p,ct,d1,d2,d3,d4,d5,d6⟩:=H1 rest (m+1) cs' _ hrest (by omega) hr;refine ⟨⟨fun i=>if i<=m then σ.tm else D.T i,fun i=>if i<=m then σ.nx else D.X i,fun i=>if i=m then c else D.c i,fun i=>if i=m then b else D.wn i⟩,p,ct,by simp,by simp,⟨fun i o' hi hi' hio=>?_⟩,d4,?_,?_⟩
      · by_cases him:i=m
        · subst him;rw[hom]at hio;cases hio;simp only[Wb,if_true,show ¬i+1<=i by omega,Ol];exact ⟨d1,by rw[d2];exact hle,by rw[d2];exact hcase⟩
        · simp only[if_neg him,if_neg (show ¬i<=m by omega),if_neg (show ¬i+1<=m by omega)];exact d3.step i o' (by omega) hi' hio
      · simp only[if_neg (show ¬all.length<=m by omega)];exact d5
      · rcases d6 with g | ⟨g1,g2,g3⟩
        · rcases hcs with e | ⟨e1,e2⟩
          · exact .inl (by rw[←e];exact g)
          · refine .inr ⟨by omega,by omega,fun o' t q x ho hop=>?_⟩;subst e1;rw[hom]at ho;cases ho;simp only[Wb,if_true];have:=e2 t q x hop;rw[g]at this;exact Option.some.inj this
        · refine .inr ⟨by omega,g2,fun o' t q x ho hop=>?_⟩;simp only[if_neg (show ¬s<=m by omega)];exact g3 o' t q x ho hop
    unfold jN at h;split at h
    · rename_i hma;split at h
      · rename_i t ho;unfold zjC at h;split at h
        · rename_i kd k b z hl';exact key .any σ.nx true cs (Wb _) (.inl ⟨hma,rfl,rfl,t,kd,k,b,z,ho,hl',h.1,h.2.1⟩) (.inl rfl) h.2.2
        · exact h.elim
      · exact h.elim
    · rename_i hma;split at h
      · rename_i hms;split at h
        · rename_i t q x ho;unfold zjK at h;split at h
          · rename_i L hL;obtain ⟨h1,h2,h3,h4⟩:=h;exact key .any σ.nx true (some (zB G σ.tm x).cells) (Wb _) (.inr (.inl ⟨hma,hms,rfl,rfl,t,q,x,L,ho,hL,h1,h2,h3⟩)) (.inr ⟨hms,fun t' q' x' ho'=>by rw[ho]at ho';cases ho';rfl⟩) h4
          · exact h.elim
        · exact h.elim
      · rename_i hms;obtain ⟨b,hg,h1,h2⟩:=jm.out h;cases b with
        | true =>
          obtain ⟨c,nx',hp,hK⟩:=X3 (h1 rfl);exact key c nx' true cs hp.1 (.inr (.inr ⟨hma,hms,hg,fun _=>hp,(fun h=>by cases h)⟩)) (.inl rfl) hK
        | false=>exact key (.sc undef) σ.nx false cs (Wb _) (.inr (.inr ⟨hma,hms,hg,(fun h=>by cases h),fun _=>⟨rfl,rfl⟩⟩)) (.inl rfl) (h2 rfl)
structure HX (E:Ctx) (R:Env) (L:Loc) (p:Nat) (a:Act) (g:Nat) (vs:Array Value) (ty:TypeId):Prop where
 ptr:a.tmps.getD p undef = .pointer (some ⟨g,0,none⟩)
 heap:R.w.heap[g]?=some (.cells vs ty (0,0))
 turn:∀ o,R.M g o
 new:E.w0.heap.size<=g
 fgn:¬R.F g
 box:g∉L.β
 own:∀ id e k v,L.T id=some (e,k,v)->v.ownB≠some g
 one:∀ v∈vs.toList,v.oneCell'=true
theorem HX.step {R R':Env} {L L':Loc} {p nx nx' g:Nat} {a:Act} {vs:Array Value} {ty:TypeId} (h:HX E R L p a g vs ty) (st:qK nx nx' R L R' L') {dst:Option Tmp} {v:Value} (hd:dst≠some p):HX E R' L' p (a.put dst v) g vs ty:=by
 have hlt:=qg h.heap;refine ⟨?_,(st.below.block g hlt).trans h.heap,fun o=>(st.mt g o hlt).2 (h.turn o),h.new,by rw[st.fgn];exact h.fgn,by rw[st.box];exact h.box,fun id e k v ht hv=>?_,h.one⟩
 ·rw[←h.ptr];cases dst with
  | none=>rfl
  | some d =>
   have hne:d≠p:=fun e=>hd (by rw[e]);simp[Act.put,Wq,OS hne]
 ·rcases st.cases ht with hi | ⟨hi,hj⟩
  ·exact h.own id e k v hi hv
  ·have:=((st.new id e k v hi hj ht).block hv).1;omega
theorem qT.adopt {p g:Nat} {cs:List C} (h:qT G E ⟨tm,bx,nx,lg⟩ a R L) (hs:HX E R L p a g vs ty) (hr:zx R L cs vs.toList) :
  qT G E ⟨(p,.ptr bx.length 0) :: tm,bx++[cs],nx,lg⟩ a R ⟨L.β++[g],L.T⟩:=by
 have hg:=h.good;have hlen:=hg.fit.boxes.len;have hlen:L.β.length=bx.length:=hlen;have hle:zR L ⟨L.β++[g],L.T⟩:=⟨fun i b e=>by
  show (L.β++[g])[i]?=some b;rw[Wt (Wc.1 e).1];exact e,fun _ _ e=>e⟩
 refine ⟨⟨⟨hg.fit.glob,⟨by simp[hlen],?_,fun i b cs' hi hc=>?_⟩,⟨fun id e k v ht=>?_,hg.fit.owns.apart⟩,hg.fit.base⟩,hg.os,hg.tape,hg.output,hg.size,hg.blk,hg.ext,?_,fun b hb=>?_,hg.flt,hg.fz,fun b hb=>?_,hg.fow,hg.free,hg.log⟩,h.size,h.df,fun t=>?_⟩
 ·show (L.β++[g]).Nodup;rw[Aa];refine ⟨hg.fit.boxes.nodup,by simp,fun x hx y hy e=>?_⟩;simp at hy;subst hy;subst e;exact hs.box hx
 ·have hi:(L.β++[g])[i]?=some b:=hi;rcases Wp i L.β.length with hl | hl
  ·rw[Wt hl]at hi;rw[Wt (by omega)]at hc;obtain ⟨us,ty',e1,e2,e3,e4⟩:=hg.fit.boxes.box i b cs' hi hc;exact ⟨us,ty',e1,zx.ext (Ext.refl R) hle _ _ e2,e3,e4⟩
  ·rw[WK hl]at hi;rw[WK (by omega)]at hc;have h0:i-L.β.length=0:=by
    have:=(Wc.1 hi).1;simp at this;omega
   rw[h0]at hi;rw[show i-bx.length=0 by omega]at hc;simp at hi hc;subst hi hc;exact ⟨vs,ty,hs.heap,zx.ext (Ext.refl R) hle _ _ hr,hs.one,hs.turn⟩
 ·refine (hg.fit.owns.own id e k v ht).move fun g' hv q2 _ q7=>⟨q2,rfl,fun hx=>?_,fun _ h=>h⟩;have hx:g'∈L.β++[g]:=hx;rcases WB.1 hx with hx | hx
  ·exact q7 hx
  ·simp at hx;subst hx;exact hs.own id e k v ht hv
 ·obtain ⟨more,hm⟩:=hg.box;exact ⟨more++[g],by show L.β++[g]=_;rw[hm,WL]⟩
 ·have hb:b∈L.β++[g]:=hb;rcases WB.1 hb with hb | hb
  ·exact hg.tub b hb
  ·simp at hb;subst hb;exact .inl hs.new
 ·have hb:b∈L.β++[g]:=hb;rcases WB.1 hb with hb | hb
  ·exact hg.fbx b hb
  ·simp at hb;subst hb;exact hs.fgn
 ·show Rep R _ (if t=p then _ else j7 tm t) _;split
  ·subst_vars
   exact JD.2 ⟨g,by show (L.β++[g])[bx.length]?=_;rw[←hlen];simp,hs.ptr⟩
  ·exact Rep.ext (Ext.refl R) hle _ _ (h.tm t)
theorem YU.fill {σ:St} {p g:Nat} {us:Array Value} (h:YU G E σ R L) (hs:HX E R L p a g vs ty):zdA E.w0 E.ex R ⟨R.w.setRow g us,R.M,R.F⟩/\YU G E σ ⟨R.w.setRow g us,R.M,R.F⟩ L:=by
 have hext:Ext R ⟨R.w.setRow g us,R.M,R.F⟩:=⟨fun b' o v hcell hm=>⟨by
  have hne:b'≠g:=fun e=>hm (e▸hs.turn o);rw[Ja R.w g us b' o hne];exact hcell,hm⟩,fun c cs ty fl hc hm=>⟨by rw[Al R.w g c us fun e=>hm 0 (e▸hs.turn 0)];exact hc,hm⟩⟩
 have hn:zdA E.w0 E.ex R ⟨R.w.setRow g us,R.M,R.F⟩:=⟨rfl,rfl,rfl,by rw[BT];exact Wb _,rfl,hext,fun k hk=>by
  by_cases hkb:k=g
  ·subst hkb;exact .inr ⟨.inl hs.new,hs.fgn⟩
  ·exact .inl ⟨Al R.w g k us hkb,fun _=>Iff.rfl⟩⟩
 refine ⟨hn,h.move hn ⟨h.fit.glob.ext hext,⟨h.fit.boxes.len,h.fit.boxes.nodup,fun i b cs hi hc=>?_⟩,⟨fun id e k v ht=>?_,h.fit.owns.apart⟩,fun q hq=>?_⟩ ⟨[],by rw[Od],fun b hb=>by cases hb⟩ (fun id e k v b ht hv=>.inl ⟨id,e,k,v,ht,hv⟩) h.free⟩
 ·obtain ⟨ws,ty',e1,e2,e3,e4⟩:=h.fit.boxes.box i b cs hi hc;have hne:b≠g:=fun e=>hs.box (e▸Wf hi);exact ⟨ws,ty',(Al R.w g b us hne).trans e1,zx.ext hext (zR.refl _) _ _ e2,e3,e4⟩
 ·exact (h.fit.owns.own id e k v ht).move fun g' hv q2 _ q7=>⟨q2,Al R.w g g' us fun e'=>hs.own id e k v ht (by rw[←e'];exact hv),q7,fun _ h=>h⟩
 ·exact h.fit.base q (by
   have hq:(R.w.setRow g us).heap.size<=q:=hq;rwa [BT]at hq)
theorem Uh.out {al st:Nat} (h:Uh ops al st=true):∃ oa os p t x,ops.toList[al]?=some oa/\ops.toList[st]?=some os/\oa.dst=some p/\oa.op = .alloc t/\oa.guard=none/\os.dst=none/\os.op = .store t (.tmp p) x/\os.guard=none/\al<st /\
  inC (qI ops.toList ops.size) st al=true/\∀ (i:Nat) o,ops.toList[i]?=some o->i≠al->o.dst≠some p:=by
 unfold Uh at h;split at h
 ·rename_i p t ty1 pos1 af1 t' p' x ty2 pos2 af2 h1 h2;simp only[Wo,Oz,WR]at h;obtain ⟨⟨⟨⟨rfl,rfl⟩,h3⟩,h4⟩,h5⟩:=h;refine ⟨_,_,p,t,x,by rw[AA];exact h1,by rw[AA];exact h2,rfl,rfl,rfl,rfl,rfl,rfl,h3,h4,fun i o ho hne hd=>?_⟩;have:=Ws.1 h5 (o,i) (AH.2 ho);simp[hd,hne]at this
 ·cases h
theorem Gj {l:Array Bool} (h:o.guard=none) (f:Nat->Option Bool):Region.wanted o f=true:=by
 unfold Region.wanted;rw[h]
theorem zgr {p g:Nat} {Ly:Lay} (ho:o.op = .store t (.tmp p) x) (hl:lay P t=some Ly) (hs:HX E R L p a g vs ty) (hx:Rep R L c (a.eval x)) (h1:c.partB=true) (h2:(c.cells.all C.cellB)=true) (h3:c.cells.length=Ly.size) (hsz:vs.size=Ly.size) :
  ∃ us:Array Value,(execOp a.eval o).run P R.w = .ok .skip (R.w.setRow g us)/\zx R L c.cells us.toList/\us.size=Ly.size/\∀ v∈us.toList,v.oneCell'=true:=by
 have hxc:=Qf hx h1;have hxl:=zy hxc;simp only[WS]at hxl;have hone:=X2 hxc h2;have hst:=AG P g 0 ty (a.eval x).cells.toList 0 vs R.w hs.heap (by simp;omega) hone;simp only[O8,Ov]at hst;have hpv:a.eval (.tmp p) = .pointer (some ⟨g,0,none⟩):=hs.ptr;have hall:(vs.toList.take 0++(a.eval x).cells.toList++vs.toList.drop ((a.eval x).cells.toList.length))=(a.eval x).cells.toList:=by
  rw[Ow,Om,OI (by simp;omega),Od]
 rw[hall]at hst;refine ⟨(a.eval x).cells,?_,hxc,by omega,hone⟩;have hszz:=qV hl R.w;unfold execOp;simp only[ho,hpv,Instr.storeAt,Instr.sureAddr,storeVar,Wm,WA,Wh,hszz];rw[if_neg (by omega)];simp only[Wm,hst,Wh,WA]
theorem zkj {al st p:Nat} {ct:List C} (hN:∀ o∈ops.toList,Qd E.N o.dst) (hok:Xc ops=true) (hlo:Uh ops al st=true) (hc:MP P G bx ops al st ops.toList 0 ops.toList.length D)
  (hp:(ops[al]?).bind (·.dst)=some p) (hct:∀ o t q x,ops.toList[st]?=some o->o.op = .store t q x->ct=(zB G (D.T st) x).cells)
  (hEnd:∀ (a:Act) (R:Env) (L:Loc),qT G E ⟨(p,.ptr bx.length 0) :: D.T ops.toList.length,bx++[ct],D.X ops.toList.length,lg⟩ a R L->Q .normal a R.w):∀ (fuel:Nat) (listed:Array Bool) (a:Act) (R:Env) (L:Loc),listed.size=ops.size->listed.toList.count false<=fuel ->
  jx ops.toList (fun i=>listed.getD i false)->(∀ i,ops.size<=i->listed.getD i false=false)->Zw G E bx lg ops.toList 0 ops.toList.length D (fun i=>listed.getD i false) a R L ->
  (listed.getD al false=true->∃ g vs ty,HX E R L p a g vs ty/\(∀ kd k b z t,lay P t=some ⟨kd,k,b,z⟩->(∃ o,ops.toList[al]?=some o/\o.op = .alloc t)->vs.size=k)/\(listed.getD st false=true->zx R L ct vs.toList))->wpAnyIn (Fl r) n P .any ops Q fuel listed a R.w:=by
 obtain ⟨oa,os,p',t,x,la1,ls1,la2,la3,la4,ls2,ls3,ls4,hlt,hcl0,honly⟩:=Uh.out hlo;have hpp:p'=p:=by
  have:ops[al]?=some oa:=by rw[←AA];exact la1
  rw[this]at hp;have hp:oa.dst=some p:=hp;rw[la2]at hp;exact Option.some.inj hp
 subst hpp;have hl:ops.toList.length<=ops.toList.length:=Wb _;have done:∀ (listed:Array Bool) (a:Act) (R:Env) (L:Loc),listed.size=ops.size->(∀ i,i<ops.size->listed.getD i false=true)->Zw G E bx lg ops.toList 0 ops.toList.length D (fun i=>listed.getD i false) a R L ->
   (listed.getD al false=true->∃ g vs ty,HX E R L p' a g vs ty/\(∀ kd k b z t,lay P t=some ⟨kd,k,b,z⟩->(∃ o,ops.toList[al]?=some o/\o.op = .alloc t)->vs.size=k)/\(listed.getD st false=true->zx R L ct vs.toList))->Q .normal a R.w:=fun listed a R L hsz h1 h hside=>by
  have hsl:st<ops.size:=by simpa using (Wc.1 ls1).1
  obtain ⟨g,vs,ty,q1,_,q2⟩:=hside (h1 al (by omega));refine hEnd a R ⟨L.β++[g],L.T⟩ (qT.adopt (tm:=D.T ops.toList.length) (nx:=D.X ops.toList.length) (lg:=lg) (cs:=ct) (p:=p') (g:=g) (vs:=vs) (ty:=ty) ⟨{ h.good with },h.size,h.df,fun t=>?_⟩ q1 (q2 (h1 st hsl)));have ht:=h.tm t;rw[jt (D':=fun j=>decide (0<=j)) ops.toList.length fun j hj _=>by rw[h1 j (by simpa using hj)];simp]at ht;show Rep R L (j7 (D.T ops.toList.length) t) _;rw[XI hl hc.skel t _ (Wd _) (Wb _)];exact ht
 intro fuel
 induction fuel with
 | zero =>
  intro listed a R L hsz hcnt hcl h2 h hside;have hall:∀ i,i<ops.size->listed.getD i false=true:=fun i hi=>by
   cases hq:listed.getD i false with
   | true=>rfl
   | false =>
    have:listed.toList[i]?=some false:=by
     rw[Wq,W0 (by omega)]at hq;simp[show i<listed.size by omega];simpa using hq
    have hpos:0<listed.toList.count false:=A7.2 (Wf this);omega
  have hre:Region.ready .any ops listed = []:=by
   cases hq:Region.ready .any ops listed with
   | nil=>rfl
   | cons i rest =>
    obtain ⟨o,ho,h3,_⟩:=Jg (ops:=ops) (listed:=listed) (i:=i) (by rw[hq];simp);have hio:i<ops.size:=by simpa using (Wc.1 ho).1
    have:=(je hsz hio h3).1;rw[hall i hio]at this;cases this
  exact ⟨hre,done listed a R L hsz hall h hside⟩
 | succ fuel ih =>
  intro listed a R L hsz hcnt hcl h2 h hside;refine ⟨fun hr=>done listed a R L hsz (QS hok hsz hr) h hside,fun i hi=>?_⟩;obtain ⟨o,ho,hl0,hpre⟩:=Jg hi;have hio:i<ops.size:=by simpa using (Wc.1 ho).1
  obtain ⟨hlf,hil'⟩:=je hsz hio hl0;have hil:i<listed.size:=by omega
  have hcnt':(listed.setIfInBounds i true).toList.count false<=fuel:=by
   have:=JX hil';rw[Ar];omega
  have hset:∀ j,(listed.setIfInBounds i true).getD j false=(listed.getD j false||j==i):=fun j=>Bx (jG hil) j;have next:∀ (a':Act) (R':Env) (L':Loc),Zw G E bx lg ops.toList 0 ops.toList.length D (fun x=>listed.getD x false||x==i) a' R' L' ->
    ((listed.getD al false||al==i)=true->∃ g vs ty,HX E R' L' p' a' g vs ty/\(∀ kd k b z t,lay P t=some ⟨kd,k,b,z⟩->(∃ o,ops.toList[al]?=some o/\o.op = .alloc t)->vs.size=k)/\((listed.getD st false||st==i)=true->zx R' L' ct vs.toList)) ->
    wpAnyIn (Fl r) n P .any ops Q fuel (listed.setIfInBounds i true) a' R'.w:=fun a' R' L' hi' hs' =>
   ih _ _ R' L' (by simpa using hsz) hcnt' (YC hil hcl ho hpre) (fun j hj=>by rw[hset,h2 j hj];simp;omega) (by rw[jG hil];exact hi') (by rw[hset,hset];exact hs')
  obtain ⟨c1,c2,c3⟩:=hc.step i o (Wd _) (by simpa using hio) ho;have hmi':i<ops.toList.length:=by simpa using hio
  have hev:=h.ev hl hc.skel hok hcl (Wd _) hmi' ho hlf hpre;have hop:∀ x∈o.op.operands,Rep R L (zB G (D.T i) x) (a.eval x):=fun x hx=>by
   cases x with
   | tmp t =>
    refine hev t ?_;unfold jF Oper.looksAt;exact OB _ (OB _ (Br.2 ⟨.tmp t,by simpa using hx,rfl⟩))
   | const v=>exact jX R L v
   | global g =>
    simp only[zB];cases hg:G g with
    | none=>unfold Rep;trivial
    | some cs=>exact Jz.2 ⟨g,0,rfl,(h.good.fit.glob g cs hg).1⟩
   | func f=>exact YI.2 ⟨#[],#[],rfl,zm.2 rfl,zm.2 rfl⟩
  have hoa:ops[i]?=some o:=by simpa using ho
  unfold wpOpIn;rw[hoa];simp only;rcases c3 with ⟨hia,hca,hxa,t1,kd,k,b,z,hot,hly,hzk,hz1⟩ | ⟨hna,his,hca,hxs,t1,q,x1,Ly,hot,hly,h1,h2',h3⟩ | ⟨hna,hns,c3,c4,c5⟩
  ·-- the variable is laid
   subst hia;rw[la1]at ho;cases ho;rw[la3]at hot;cases hot;have hw:Region.wanted oa (yielded ops a.tmps)=true:=Gj (l:=listed) la4 _;simp only[hw,if_true];obtain ⟨ti,d,hti,htd,_,_,_,hz⟩:=qk hly;cases hiz:ti.zero with
   | none=>simp[hiz]at hz
   | some zv =>
    simp only[hiz,Wu,Option.some.injEq]at hz;subst hz;have hzz:(zeroValue t).run P R.w = .ok zv R.w:=by simp[zeroValue,typeInfo,hti,hiz]
    refine JA (jv.value (w':=R.w.alloc (.cells zv.cells t (0,0))) (v:=.pointer (some ⟨R.w.heap.size,0,none⟩)) (by
     unfold execOp;simp[la3,Instr.alloc,hzz,newVar,newRow]) ?_)
    have hbel:Below R.w.heap.size R.w (R.w.alloc (.cells zv.cells t (0,0))):=(Ob _ _).alloc (Wb _) _;have hmt:∀ b o,b<R.w.heap.size->(((b<R.w.heap.size/\R.M b o)∨b=R.w.heap.size)↔R.M b o):=fun b o hlt=>⟨fun h'=>by rcases h' with h' | h';exact h'.2;omega,fun h'=>.inl ⟨hlt,h'⟩⟩;have stp:qK (D.X i) (D.X (i+1)) R L ⟨R.w.alloc (.cells zv.cells t (0,0)),fun b o=>(b<R.w.heap.size/\R.M b o)∨b=R.w.heap.size,R.F⟩ L:=by
     rw[hxa];exact ⟨hbel,rfl,rfl,hmt,fun _ _=>rfl,fun id e k v h h'=>by omega,fun id id' e k v e' k' v' b h h'=>by omega⟩
    have hst0:listed.getD st false=false:=by
     cases hq:listed.getD st false with
     | false=>rfl
     | true =>
      have:=Je hcl _ st i hcl0 hq;rw[this]at hlf;cases hlf
    refine next _ _ L (h.put hl hc.skel hok hcl (Wd _) hmi' la1 hlf hpre (hN _ (Wf la1)) stp (by rw[hca];unfold Rep;trivial)) fun _=>⟨R.w.heap.size,zv.cells,t,⟨?_,OH _ _,fun o=>.inr rfl,h.good.size,fun hF=>?_,fun hb=>?_,fun id e k v ht hv=>?_,fun v hv=>Ws.1 hz1 v hv⟩,fun kd' k' b' z' t' hl' ⟨o',ho',hop'⟩=>?_,fun hst=>?_⟩
    ·have hd:=hN _ (Wf la1);rw[la2]at hd ⊢;have hlt2:p'<a.tmps.size:=by rw[h.size];exact hd
     simp[Act.put,Wq,hlt2]
    ·have:=h.good.flt _ hF;omega
    ·have:=h.good.fit.β_lt _ hb;omega
    ·have:=((h.good.fit.owns.own id e k v ht).block hv).2.1;omega
    ·rw[la1]at ho';cases ho';rw[la3]at hop';cases hop';rw[hly]at hl';cases hl';simpa using hzk
    ·rw[hst0]at hst;have:st=i:=by simpa using hst
     omega
  ·-- the variable is filled
   subst his;rw[ls1]at ho;cases ho;have hot0:=hot;rw[ls3]at hot;cases hot;have hw:Region.wanted os (yielded ops a.tmps)=true:=Gj (l:=listed) ls4 _;simp only[hw,if_true];have hal:listed.getD al false=true:=by
    have hS':jx ops.toList (fun x=>listed.getD x false||x==i):=fun k q hq hk e he hb=>by
     simp only[Ot,Oz]at hk ⊢;rcases hk with hk | hk
     ·exact .inl (hcl k q hq hk e he hb)
     ·subst hk;rw[ls1]at hq;cases hq;exact .inl (hpre e he hb)
    have:=Je hS' _ i al hcl0 (by simp);simp only[Ot,Oz]at this;exact this.resolve_right (by omega)
   obtain ⟨g,vs,ty,q1,q2,_⟩:=hside hal;have hsize:vs.size=Ly.size:=q2 _ _ _ _ t hly ⟨oa,la1,la3⟩;obtain ⟨us,u1,u2,u3,u4⟩:=zgr ls3 hly q1 (hop x (by rw[ls3];simp[Op.operands])) h1 h2' h3 hsize;obtain ⟨hn,hgood⟩:=h.good.fill (us:=us) q1;have hput:∀ v,a.put os.dst v=a:=fun v=>by rw[ls2];rfl
   refine JA ?_;unfold jv;rw[u1];show wpAnyIn _ _ _ _ _ _ _ _ (a.put os.dst undef) _;rw[hput];have hs':HX E ⟨R.w.setRow g us,R.M,R.F⟩ L p' a g us ty:=⟨q1.ptr,setRow_heap R.w g vs us ty (0,0) q1.heap,q1.turn,q1.new,q1.fgn,q1.box,q1.own,u4⟩;refine next a ⟨R.w.setRow g us,R.M,R.F⟩ L ⟨hgood,fun id hid hfr=>h.free id hid fun j hmj hj hsj=>hfr j hmj hj (by simp[hsj]),h.size,?_,fun t=>?_⟩ fun _=>⟨g,us,ty,hs',fun kd' k' b' z' t' hl' ⟨o',ho',hop'⟩=>?_,fun _=>?_⟩
   ·obtain ⟨l,e,hl',hd⟩:=h.df;refine ⟨l,e,hl',fun d hdm=>?_⟩;obtain ⟨g1,g2,g3⟩:=hd d hdm;refine ⟨?_,g2,g3⟩;have hne:d≠g:=fun e=>by rw[e,q1.heap]at g1;cases g1
    exact (Al R.w g d us hne).trans g1
   ·have hold:=Rep.ext hn.ext (zR.refl _) _ _ (h.tm t);have e1:val (D.T 0) ops.toList D.c (fun j=>decide (0<=j)&&(listed.getD j false||j==i)) ops.toList.length t=val (D.T 0) ops.toList D.c (fun j=>decide (0<=j)&&listed.getD j false) ops.toList.length t:=jt _ fun j hj hdj=>by
     have hji:j≠i:=fun e=>by
      subst e;rw[ls1]at hdj;have hdj:os.dst=some t:=hdj;rw[ls2]at hdj;cases hdj
     have hj2:(j==i)=false:=by simpa using hji
     show (decide (0<=j)&&(listed.getD j false||j==i))=_;rw[hj2,A1]
    rw[e1];exact hold
   ·rw[u3,←hsize];exact q2 kd' k' b' z' t' hl' ⟨o',ho',hop'⟩
   ·rw[hct os t (.tmp p') x ls1 ls3];exact zx.ext hn.ext (zR.refl _) _ _ u2
  ·-- any other one
   have hdp:o.dst≠some p':=honly i o ho hna;have hstep:∀ (v:Value) (R':Env) (L':Loc),qK (D.X i) (D.X (i+1)) R L R' L'->Rep R' L' (D.c i) v->wpAnyIn (Fl r) n P .any ops Q fuel (listed.setIfInBounds i true) (a.put o.dst v) R'.w:=fun v R' L' stp hv =>
    next _ R' L' (h.put hl hc.skel hok hcl (Wd _) hmi' ho hlf hpre (hN o (Wf ho)) stp hv) fun hal=>by
     have hal':listed.getD al false=true:=by
      simp only[Ot,Oz]at hal;exact hal.resolve_right fun e=>hna e.symm
     obtain ⟨g,vs,ty,q1,q2,q3⟩:=hside hal';refine ⟨g,vs,ty,q1.step stp hdp,q2,fun hst=>?_⟩;have hst':listed.getD st false=true:=by
      simp only[Ot,Oz]at hst;exact hst.resolve_right fun e=>hns e.symm
     exact zx.ext stp.ext (stp.le (h.freeAt hl hc.skel (Wd _) hmi' hlf)) _ _ (q3 hst')
   have hguard:Region.wanted o (yielded ops a.tmps)=D.wn i:=j0 (tm:=D.T i) rfl c3 fun j want d hg hd=>by
    have ht:d∈jF ops o:=by
     unfold jF Oper.looksAt;rw[hg];simp[hd]
    refine ⟨?_,hev d ht⟩;rw[h.size];cases hj:ops[j]? with
    | none=>rw[hj]at hd;cases hd
    | some o' =>
     rw[hj]at hd;have hd':o'.dst=some d:=hd;have:=hN o' (by rw[OA];exact OT hj);rw[hd']at this;exact this
   simp only[hguard];cases hw:D.wn i with
   | true =>
    simp only[if_true];refine JA ?_;refine ((c4 hw).2 _ R L a.eval h.good.fit (h.freeAt hl hc.skel (Wd _) hmi' hlf) fun x=>?_).mono fun v w' ⟨R',L',hw',stp,hv⟩=>?_
    ·unfold Qx;split
     ·rename_i hx;exact hop x hx
     ·unfold Rep;trivial
    ·rw[←hw'];exact hstep v R' L' stp hv
   | false =>
    simp only[Oa,Ol];refine ⟨fun f _=>trivial,?_⟩;obtain ⟨d1,d2⟩:=c5 hw;have stp:qK (D.X i) (D.X (i+1)) R L R L:=by rw[d2];exact qK.refl _ _ _
    exact hstep undef R L stp (by rw[d1];exact zp.2 rfl)
theorem zci {id al st:Nat} (hm:P.follows .mixedOrders=true) (hN:∀ o∈ops.toList,Qd E.N o.dst) (hok:Xc ops=true) (hlo:Uh ops al st=true)
  (h:jN P G ops al st ops.toList 0 none σ K) (hI:Inv G E σ a w) (hQ:∀ a' w' σ',K σ'->Inv G E σ' a' w'->Q .normal a' w'):(Code.region id ops true).wpIn (Fl r) n P Q a w:=by
 obtain ⟨R,L,rfl,hI⟩:=hI;refine wpIn_region_any hm ?_
 let R':Env:=⟨{ R.w with drawn:=R.w.drawn+1 },R.M,R.F⟩
 have hext:Ext R R':=⟨fun b o v h1 h2=>⟨h1,h2⟩,fun _ _ _ _ h1 h2=>⟨h1,h2⟩⟩;have hnear:xX E.w0 E.ex R R':=⟨rfl,rfl,rfl,Wb _,rfl,hext,fun b _=>.inl ⟨rfl,fun _=>Iff.rfl⟩⟩;have hg:=hI.good;have hinv:qT G E σ a R' L:=by
  refine ⟨hg.move hnear.nigh ⟨hg.fit.glob.ext hext,⟨hg.fit.boxes.len,hg.fit.boxes.nodup,fun i b cs hi hc=>?_⟩,⟨fun id e k v ht=>?_,hg.fit.owns.apart⟩,hg.fit.base⟩ ⟨[],by rw[Od],fun b hb=>by cases hb⟩ (fun id e k v b ht hv=>.inl ⟨id,e,k,v,ht,hv⟩) hg.free,hI.size,hI.df.near hnear,fun t=>Rep.ext hext (zR.refl _) _ _ (hI.tm t)⟩
  ·obtain ⟨vs,ty,e1,e2,e3,e4⟩:=hg.fit.boxes.box i b cs hi hc;exact ⟨vs,ty,e1,zx.ext hext (zR.refl _) _ _ e2,e3,e4⟩
  ·exact (hg.fit.owns.own id e k v ht).move fun g _ q2 _ q7=>⟨q2,rfl,q7,fun _ h=>h⟩
 have hlist:∀ i,(Array.replicate ops.size false).getD i false=false:=fun i=>by
  rw[Wq,Bl];split<;>rfl
 obtain ⟨D,p,ct,d1,d2,d3,d4,d5,d6⟩:=H1 _ 0 none σ rfl (Wd _) h;have hct:∀ o t q x,ops.toList[st]?=some o->o.op = .store t q x->ct=(zB G (D.T st) x).cells:=by
  rcases d6 with g | ⟨_,_,g⟩
  ·cases g
  ·exact g
 refine zkj (lg:=σ.lg) (D:=D) hN hok hlo d3 d4 hct (fun a1 R1 L1 h1=>hQ a1 R1.w _ d5 ⟨R1,L1,rfl,h1⟩) ops.size _ a R' L (by simp) ?_ (fun i o hi h=>?_) (fun i _=>hlist i) ?_ (fun h=>by rw[hlist]at h;cases h)
 ·rw[By,Be];exact Wb _
 ·have h:(Array.replicate ops.size false).getD i false=true:=h;rw[hlist]at h;cases h
 ·have hx:=kf (Wb _) d3.skel 0 ops.toList.length (Wb _) (Wd _) (Wb _);refine ⟨{ hinv.good with free:=fun id hid=>hinv.good.free id (by rw[d2]at hx;exact WN hx hid) },fun id hid _=>hinv.good.free id (by rw[d2]at hid;exact hid),hinv.size,hinv.df,fun t=>?_⟩;rw[jt (D':=fun _=>false) _ fun j _ _=>by simp[hlist j],JB 0 _ (Wd _) fun _ _ _ _=>rfl];show Rep R' L (j7 (D.T 0) t) _;rw[d1];exact hinv.tm t
end
end
section
open Go.RowKit
section
variable {P:Program} {G:zq} {E:Ctx} {σ:St} {a:Act} {N p:Nat} {bx:List (List C)} {ops:Array Oper}
def zoi (T0:List (Nat×C)) (l:List Oper) (c:Nat->C) (D:Nat->Bool):Nat->List (Nat×C)
 | 0=>T0
 | m+1=>if D m=true then JH (zoi T0 l c D m) ((l[m]?).bind (·.dst)) (c m) else zoi T0 l c D m
theorem YN (T0:List (Nat×C)) (l:List Oper) (c:Nat->C) (D:Nat->Bool) (t:Nat):∀ n,j7 (zoi T0 l c D n) t=val T0 l c D n t
 | 0=>rfl
 | m+1=>by
  unfold zoi val;cases hD:D m with
  | false=>simp only[Oa,Ol,AE];exact YN T0 l c D t m
  | true =>
   simp only[if_true,true_and];cases hd:(l[m]?).bind (·.dst) with
   | none=>simp only[JH,reduceCtorEq,Ol];exact YN T0 l c D t m
   | some d =>
    simp only[JH,j7,Option.some.injEq];by_cases h:t=d
    ·rw[if_pos h,if_pos h.symm]
    ·rw[if_neg h,if_neg fun e=>h e.symm];exact YN T0 l c D t m
theorem Zw.toV {m:Nat} (h:Zw G E bx lg l m m' D S a R L):qT G E ⟨zoi (D.T m) l D.c (fun j=>decide (m<=j)&&S j) l.length,bx,D.X m',lg⟩ a R L:=
 ⟨{ h.good with },h.size,h.df,fun t=>by rw[YN];exact h.tm t⟩
theorem zqE {m:Nat} (hl:m'<=ops.toList.length) (hc:yq ops.toList m m' D) (hok:Xc ops=true) (hS:jx ops.toList S) {i:Nat} {o:Oper} (hmi:m<=i) (hmi':i<=m') (ho:ops.toList[i]?=some o) (hi:S i=false)
  (hpre:∀ e∈o.after.toList,Region.binds .any e=true->S e.on=true):∀ t∈jF ops o,val (D.T m) ops.toList D.c (fun j=>decide (m<=j)&&S j) ops.toList.length t=j7 (D.T i) t:=fun t ht=>by
 have hlt:i<ops.toList.length:=(Wc.1 ho).1;have e1:val (D.T m) ops.toList D.c (fun j=>decide (m<=j)&&S j) ops.toList.length t=val (D.T m) ops.toList D.c (fun j=>decide (m<=j)&&S j) i t:=by
  refine JB i _ (by omega) fun j hj hj' hd=>?_;simp only[Ai];by_cases hne:j=i
  ·rw[hne];exact .inr hi
  ·rw[zc2 hok hS ho hi hpre hd ht hne];exact .inr (Wi (by omega))
 have e2:val (D.T m) ops.toList D.c (fun j=>decide (m<=j)&&S j) i t=val (D.T m) ops.toList D.c (fun j=>decide (m<=j)) i t:=jt i fun j hj hd=>by
  rw[zc2 hok hS ho hi hpre hd ht (by omega),Wl hj,Bk]
 rw[e1,e2,←XI hl hc t i hmi hmi']
def zhB (s:Nat) (br:List Bool):List Bool:=true :: true :: false :: true :: (List.replicate s false++true :: br)
def kG:List Bool->Option (Nat×List Bool)
 | true :: true :: false :: true :: r=>some ((V7 r).1,(V7 r).2.tail)
 | _=>none
theorem HV (s:Nat) (br:List Bool):kG (zhB s br)=some (s,br):=by
 show some ((V7 (List.replicate s false++true :: br)).1,(V7 (List.replicate s false++true :: br)).2.tail)=_;rw[kR];rfl
end
end
section
open Go.RowKit
inductive MFl where
 | pure
 | bar
 | flt (free:List Nat)
abbrev k8:=Nat×(List (List C)->Prop)
def Y3 (fr:List Nat) (b:List (List C)):List k8->Prop
 | []=>True
 | (k,f) :: r=>(match fr.contains k with | true=>f b | false=>True)/\Y3 fr b r
theorem Y3.out {fr:List Nat} {b:List (List C)}:∀ {H:List k8},Y3 fr b H->∀ k f,(k,f)∈H->k∈fr->f b
 | [],_,k,f,h,_=>by cases h
 | (k0,f0) :: r,h,k,f,hm,hk=>by
  obtain ⟨h1,h2⟩:=h;rcases WJ.1 hm with e | hm
  ·cases e;rw[show fr.contains k0=true by simpa using hk]at h1;exact h1
  ·exact Y3.out h2 k f hm hk
def zlH (P:Program) (G:zq) (f:FuncId) (args:List C) (σ:St) (K:C->List (List C)->Nat->Prop):Prop:=
 ∃ (ι:List Nat) (post:C->List (List C)->Nat->Prop),ι.Nodup/\(∀ i∈ι,i<σ.bx.length) /\
  Xe P G f (C.reL (X5 ι) (X5 []) args) (ι.map fun i=>C.reL (X5 ι) (X5 []) (σ.bx.getD i [])) 0 post/\∀ r bx' n,post r bx' n->K (r.re (upB ι σ.bx.length) (upO σ.nx)) (Z3 ι [] bx' n σ).bx (σ.nx+n)
def zoX (P:Program) (G:zq) (args:List Operand) (tys:List TypeId) (σ:St) (K:C->List (List C)->Nat->Prop):Prop:=match args,tys with
 | [d,x],[t,_]=>Zu P t (zB G σ.tm d) (zB G σ.tm x) σ fun c σ'=>K c σ'.bx σ'.nx
 | _,_=>False
def ztk (P:Program) (G:zq) (args:List Operand) (tys:List TypeId) (σ:St) (K:C->List (List C)->Nat->Prop):Prop:=match args,tys with
 | [s,x],[t,t']=>t'=t/\YW P t (zB G σ.tm s) (zB G σ.tm x) σ fun c σ'=>K c σ'.bx σ'.nx
 | _,_=>False
def xw (P:Program) (G:zq) (f:C) (args:List C) (σ:St) (K:C->List (List C)->Nat->Prop):Prop:=match f with
 | .clo (.func f) first cap=>zlH P G f (first++args++cap) σ K
 | _=>False
def zrb (P:Program) (G:zq) (op:Op) (σ:St) (K:C->List (List C)->Nat->Prop):Prop:=match op with
 | .store t p x=>ZT P t (zB G σ.tm p) (zB G σ.tm x) σ fun c σ'=>K c σ'.bx σ'.nx
 | .call c=>match c.callee with
  | .value f=>xw P G (zB G σ.tm f) (c.args.toList.map (zB G σ.tm)) σ K
  | .builtin .copy=>zoX P G c.args.toList c.argTypes.toList σ K
  | .builtin .append=>ztk P G c.args.toList c.argTypes.toList σ K
  | _=>False
 | _=>False
def zhM (P:Program) (G:zq) (Y:Hd) (ops:Array Oper):List Oper->List MFl->Nat->List k8->St->(St->Prop)->Prop
 | [],_,_,_,σ,K=>K σ
 | o :: rest,fs,q,H,σ,K=>match fs.headD .pure with
  | .pure=>jm ops σ.tm o.guard (JI P G σ.bx (zB G σ.tm) o.op σ.nx fun c nx'=>zhM P G Y ops rest fs.tail (q+1) ((q,fun b=>JI P G b (zB G σ.tm) o.op σ.nx fun c' n'=>c'=c/\n'=nx') :: H) ⟨JH σ.tm o.dst c,σ.bx,nx',σ.lg⟩ K)
    (zhM P G Y ops rest fs.tail (q+1) H ⟨JH σ.tm o.dst (.sc undef),σ.bx,σ.nx,σ.lg⟩ K)
  | .bar=>jm ops σ.tm o.guard (N6 P G Y o.op σ fun c σ'=>zhM P G Y ops rest fs.tail (q+1) [] (σ'.put o.dst c) K) (zhM P G Y ops rest fs.tail (q+1) [] (σ.put o.dst (.sc undef)) K)
  | .flt fr=>qS ops σ.tm o.guard true/\zrb P G o.op σ fun c bx' nx'=>Y3 fr bx' H/\zhM P G Y ops rest fs.tail (q+1) H ⟨JH σ.tm o.dst c,bx',nx',σ.lg⟩ K
def zpR (cl:List Nat) (n i:Nat):MFl->Bool
 | .pure=>true
 | .bar=>(List.range n).all fun j=>j==i||if j<i then inC cl i j else inC cl j i
 | .flt fr=>(List.range n).all fun j=>j==i||if j<i then inC cl i j||fr.contains j else inC cl j i
def yw (ops:Array Oper) (fs:List MFl):Bool:=
 let cl:=qI ops.toList ops.size
 (List.range ops.size).all fun i=>zpR cl ops.size i (fs.getD i .pure)
section
variable {P:Program} {G:zq} {E:Ctx} {σ:St} {o:Oper} {a:Act} {N p:Nat} {bx:List (List C)} {ops:Array Oper}
theorem GW {fs:List MFl} (h:yw ops fs=true) {i:Nat} (hi:i<ops.size):zpR (qI ops.toList ops.size) ops.size i (fs.getD i .pure)=true:=by
 unfold yw at h;exact Ws.1 h i (by simpa using hi)
theorem Ud {fs:List MFl} (h:yw ops fs=true) {i j:Nat} (hi:i<ops.size) (hf:fs.getD i .pure≠.pure) (hj:j<ops.size) (hij:i<j):inC (qI ops.toList ops.size) j i=true:=by
 have h1:=GW h hi;have hne:(j==i)=false:=by simp;omega
 cases hq:fs.getD i .pure with
 | pure=>exact absurd hq hf
 | bar =>
  rw[hq]at h1;have h2:=Ws.1 h1 j (by simpa using hj);rw[if_neg (by omega),hne]at h2;simpa using h2
 | flt fr =>
  rw[hq]at h1;have h2:=Ws.1 h1 j (by simpa using hj);rw[if_neg (by omega),hne]at h2;simpa using h2
theorem zfh {fs:List MFl} (h:yw ops fs=true) {i j:Nat} (hi:i<ops.size) (hf:fs.getD i .pure = .bar) (hij:j<i):inC (qI ops.toList ops.size) i j=true:=by
 have h1:=GW h hi;have hne:(j==i)=false:=by simp;omega
 rw[hf]at h1;have h2:=Ws.1 h1 j (by simp;omega);rw[if_pos hij,hne]at h2;simpa using h2
theorem zfE {fs:List MFl} {fr:List Nat} (h:yw ops fs=true) {i j:Nat} (hi:i<ops.size) (hf:fs.getD i .pure = .flt fr) (hij:j<i):inC (qI ops.toList ops.size) i j=true∨j∈fr:=by
 have h1:=GW h hi;have hne:(j==i)=false:=by simp;omega
 rw[hf]at h1;have h2:=Ws.1 h1 j (by simp;omega);rw[if_pos hij,hne]at h2;simpa using h2
mutual
theorem zgy:∀ c:C,c.re some (Z6 [])=c
 | .own id e k rows=>by unfold C.re;simp[Z6]
 | .ptr i off=>by unfold C.re;rfl
 | .bs i off k n c=>by unfold C.re;rfl
 | .mo id t ks vs=>by unfold C.re;rw[QK vs];simp[Z6]
 | .agg cs=>by unfold C.re;rw[QK cs]
 | .tup cs=>by unfold C.re;rw[QK cs]
 | .clo fn first cap=>by unfold C.re;rw[QK first,QK cap]
 | .sc v=>by unfold C.re;rfl
 | .str l=>by unfold C.re;rfl
 | .sl k rows=>by unfold C.re;rfl
 | .tight k rows=>by unfold C.re;rfl
 | .row cs=>by unfold C.re;rfl
 | .any=>by unfold C.re;rfl
theorem QK:∀ cs:List C,C.reL some (Z6 []) cs=cs
 | []=>by unfold C.reL;rfl
 | c :: r=>by unfold C.reL;rw[zgy c,QK r]
end
theorem MS:∀ tm:List (Nat×C),Gp some (Z6 []) tm=tm
 | []=>rfl
 | (t,c) :: r=>by simp only[Gp,zgy,MS r]
abbrev zpo (G:zq) (E:Ctx) (a:Act) (tm2:List (Nat×C)) (nx lg:Nat) (L:Loc) (K:C->List (List C)->Nat->Prop) (v:Value) (w':World):Prop:=
 ∃ c bx' nx' R' L',R'.w=w'/\qT G E ⟨tm2,bx',nx',lg⟩ a R' L'/\Rep R' L' c v/\K c bx' nx'/\nx<=nx'/\∀ id,id<nx->L.T id=none->L'.T id=none
theorem zjW {p:C} {K:C->List (List C)->Nat->Prop} (h:ZT P t p c ⟨tm1,bx,nx,lg⟩ fun c σ'=>K c σ'.bx σ'.nx) :
  ZT P t p c ⟨tm2,bx,nx,lg⟩ fun c σ'=>∃ bx',σ'=⟨tm2,bx',nx,lg⟩/\K c bx' nx:=by
 unfold ZT at h ⊢;split at h
 ·split at h
  ·rename_i cs hcs;obtain ⟨h1,h2,h3,h4,hK⟩:=h;have hcs':(St.mk tm2 bx nx lg).bx[_]?=some cs:=hcs;rw[hcs'];exact ⟨h1,h2,h3,h4,_,rfl,hK⟩
  ·exact h.elim
 ·exact h.elim
theorem zmM {d x:C} {K:C->List (List C)->Nat->Prop} (h:Zu P t d x ⟨tm1,bx,nx,lg⟩ fun c σ'=>K c σ'.bx σ'.nx) :
  Zu P t d x ⟨tm2,bx,nx,lg⟩ fun c σ'=>∃ bx',σ'=⟨tm2,bx',nx,lg⟩/\K c bx' nx:=by
 unfold Zu at h ⊢;split at h<;>try exact h.elim
 split at h<;>try exact h.elim
 rename_i hx;split at h<;>try exact h.elim
 rename_i hxs;have hxs':C.xs? _ (St.mk tm2 bx nx lg).bx _=_:=hxs;rw[hxs'];simp only;split at h
 ·split at h<;>try exact h.elim
  rename_i cs hcs;obtain ⟨h1,h2,h3,hK⟩:=h;have hcs':(St.mk tm2 bx nx lg).bx[_]?=some cs:=hcs;rw[hcs'];exact ⟨h1,h2,h3,_,rfl,hK⟩
 ·split at h<;>try exact h.elim
  exact ⟨h.1,_,rfl,h.2⟩
theorem zkg {d x:C} {K:C->List (List C)->Nat->Prop} (h:YW P t d x ⟨tm1,bx,nx,lg⟩ fun c σ'=>K c σ'.bx σ'.nx) :
  YW P t d x ⟨tm2,bx,nx,lg⟩ fun c σ'=>∃ bx',σ'=⟨tm2,bx',nx,lg⟩/\K c bx' nx:=by
 unfold YW at h ⊢;split at h<;>try exact h.elim
 split at h<;>try exact h.elim
 split at h<;>try exact h.elim
 rename_i hxs;have hxs':C.xs? _ (St.mk tm2 bx nx lg).bx _=_:=hxs;rw[hxs'];simp only;obtain ⟨h1,h2,h3,h4,h⟩:=h;refine ⟨h1,h2,h3,h4,?_⟩;split at h
 ·exact ⟨h.1,h.2.1,h.2.2.1,fun c g1 g2=>⟨_,rfl,h.2.2.2 c g1 g2⟩⟩
 ·exact ⟨h.1,h.2.1,h.2.2.1,fun e=>⟨_,rfl,h.2.2.2.1 e⟩,fun e c g1 g2=>⟨_,rfl,h.2.2.2.2 e c g1 g2⟩⟩
 ·split at h<;>try exact h.elim
  rename_i cs hcs;have hcs':(St.mk tm2 bx nx lg).bx[_]?=some cs:=hcs;rw[hcs'];exact ⟨h.1,h.2.1,h.2.2.1,h.2.2.2.1,h.2.2.2.2.1,fun e=>⟨_,rfl,h.2.2.2.2.2.1 e⟩,fun e c g1 g2=>⟨_,rfl,h.2.2.2.2.2.2 e c g1 g2⟩⟩
 ·exact h.elim
theorem zla {K:C->List (List C)->Nat->Prop} (h:zrb P G o.op ⟨tm1,bx,nx,lg⟩ K) (hop:∀ x∈o.op.operands,zB G tm2 x=zB G tm1 x) (hI:qT G E ⟨tm2,bx,nx,lg⟩ a R L) :
  jv P o a.eval R.w (zpo G E a tm2 nx lg L K):=by
 unfold zrb at h;split at h
 ·rename_i t p x ho;have h:=zjW (tm2:=tm2) h;rw[ho]at hop;have e1:zB G tm2 p=zB G tm1 p:=hop p (by simp[Op.operands]);have e2:zB G tm2 x=zB G tm1 x:=hop x (by simp[Op.operands]);simp only at h;rw[←e1,←e2]at h;refine (Ua ho hI h).mono fun v w'=>?_;rintro ⟨c,σ',R',hw,hI',_,hr,bx',rfl,hK⟩;exact ⟨c,bx',nx,R',L,hw,hI',hr,hK,Wb _,fun _ _ h=>h⟩
 ·rename_i c ho;rw[ho]at hop;split at h
  ·rename_i f hc;unfold xw at h;split at h
   ·rename_i fid first cap hev
    have ef:zB G tm2 f=zB G tm1 f:=hop f (by simp[Op.operands,Call.operands,hc]);have ea:c.args.toList.map (zB G tm2)=c.args.toList.map (zB G tm1):=AJ fun x hx=>hop x (by
     unfold Op.operands Call.operands;simp at hx ⊢;exact .inr hx)
    simp only at hev h;rw[←ea]at h;obtain ⟨ι,post,h1,h2,h3,hK⟩:=h;have hX:kI P G fid (first++c.args.toList.map (zB G tm2)++cap) ⟨tm2,bx,nx,lg⟩ fun c' σ'=>∃ bx' nx',σ'=⟨tm2,bx',nx',lg⟩/\nx<=nx'/\K c' bx' nx':=by
     refine ⟨ι,[],post,h1,Ae,h2,h3,fun r bx' n hp=>⟨_,nx+n,?_,BC _ _,hK r bx' n hp⟩⟩;unfold Z3;rw[MS]
    refine (Uc ho hc (ef.trans hev) hI hX).mono fun v w'=>?_;rintro ⟨c',σ',R',L',hw,hI',hr,⟨bx',nx',rfl,hle,hK⟩,hfr⟩;exact ⟨c',bx',nx',R',L',hw,hI',hr,hK,hle,hfr⟩
   ·exact h.elim
  ·rename_i hc;unfold zoX at h;split at h
   ·rename_i d x t t' h1 h2;obtain ⟨callee,args,argTypes⟩:=c;simp only at hc h1 h2;have e1:zB G tm2 d=zB G tm1 d:=hop d (by unfold Op.operands Call.operands;simp;exact .inr (by rw[←OA,h1];simp));have e2:zB G tm2 x=zB G tm1 x:=hop x (by unfold Op.operands Call.operands;simp;exact .inr (by rw[←OA,h1];simp));have h:=zmM (tm2:=tm2) h;simp only at h;rw[←e1,←e2]at h;rw[qy h1,qy h2,hc]at ho;refine (U4 ho hI h).mono fun v w'=>?_;rintro ⟨c,σ',R',L',hw,hI',hr,⟨bx',rfl,hK⟩,hfr⟩;exact ⟨c,bx',nx,R',L',hw,hI',hr,hK,Wb _,hfr⟩
   ·exact h.elim
  ·rename_i hc;unfold ztk at h;split at h
   ·rename_i d x t t' h1 h2;obtain ⟨rfl,h⟩:=h;obtain ⟨callee,args,argTypes⟩:=c;simp only at hc h1 h2;have e1:zB G tm2 d=zB G tm1 d:=hop d (by unfold Op.operands Call.operands;simp;exact .inr (by rw[←OA,h1];simp));have e2:zB G tm2 x=zB G tm1 x:=hop x (by unfold Op.operands Call.operands;simp;exact .inr (by rw[←OA,h1];simp));have h:=zkg (tm2:=tm2) h;simp only at h;rw[←e1,←e2]at h;rw[qy h1,qy h2,hc]at ho;refine (Uy ho hI h).mono fun v w'=>?_;rintro ⟨c,σ',R',L',hw,hI',hr,⟨bx',rfl,hK⟩,hfr⟩;exact ⟨c,bx',nx,R',L',hw,hI',hr,hK,Wb _,hfr⟩
   ·exact h.elim
  ·exact h.elim
 ·exact h.elim
end
end
section
open Go.RowKit
section
variable {P:Program} {G:zq} {E:Ctx} {σ:St} {o:Oper} {a:Act} {N p:Nat} {bx:List (List C)} {ops:Array Oper}
theorem Vv {T0:List (Nat×C)} {l:List Oper} {c c':Nat->C} {S:Nat->Bool} {t:Nat}:∀ n,(∀ j,j<n->S j=true->c j=c' j)->val T0 l c S n t=val T0 l c' S n t
 | 0,_=>rfl
 | n+1,h=>by
  simp only[val];rw[Vv n fun j hj=>h j (by omega)];by_cases hs:S n=true/\(l[n]?).bind (·.dst)=some t
  ·rw[if_pos hs,if_pos hs,h n (by omega) hs.1]
  ·rw[if_neg hs,if_neg hs]
def XC.ext (D:XC) (q:Nat) (T:List (Nat×C)) (X:Nat) (c:C) (b:Bool):XC:=
 ⟨fun i=>if i<=q then D.T i else T,fun i=>if i<=q then D.X i else X,fun i=>if i=q then c else D.c i,fun i=>if i=q then b else D.wn i⟩
theorem vZ (h:i<=q):(D.ext q T X c b).T i=D.T i:=if_pos h
theorem Vw (h:i<=q):(D.ext q T X c b).X i=D.X i:=if_pos h
theorem ziK (h:i≠q):(D.ext q T X c b).c i=D.c i:=if_neg h
theorem zs5 (h:i≠q):(D.ext q T X c b).wn i=D.wn i:=if_neg h
theorem u6:(D.ext q T X c b).T (q+1)=T:=if_neg (by omega)
theorem Un:(D.ext q T X c b).X (q+1)=X:=if_neg (by omega)
theorem zeq:(D.ext q T X c b).c q=c:=if_pos rfl
theorem zo4:(D.ext q T X c b).wn q=b:=if_pos rfl
theorem yq.ext {m:Nat} {o:Oper} (h:yq l m q D) (ho:l[q]?=some o) (hT:T=JH (D.T q) o.dst c) (hX:D.X q<=X):yq l m (q+1) (D.ext q T X c b):=⟨fun i o' h1 h2 h3=>by
 by_cases hi:i=q
 ·subst hi;rw[ho]at h3;cases h3;rw[u6,Un,zeq,vZ (Wb _),Vw (Wb _)];exact ⟨hT,hX⟩
 ·rw[vZ (by omega),vZ (by omega),Vw (by omega),Vw (by omega),ziK hi];exact h.step i o' h1 (by omega) h3⟩
theorem Zw.more {m:Nat} (h:Zw G E bx lg l m q D S a R L) (hm:m<=q) (hX:D.X q<=X) (hS:∀ i,q<=i->S i=false) :
  Zw G E bx lg l m (q+1) (D.ext q T X c b) S a R L:=by
 refine ⟨?_,fun id h1 h2=>?_,h.size,h.df,fun t=>?_⟩
 ·rw[Un];exact { h.good with free:=fun id hid=>h.good.free id (WN hX hid) }
 ·rw[Vw hm]at h1;refine h.free id h1 fun i hmi hi hs hx=>h2 i hmi (by omega) hs ?_;rw[Vw (by omega),Vw (by omega)];exact hx
 ·rw[vZ hm,Vv (c':=D.c) _ fun j _ hj=>ziK fun e=>?_]
  ·exact h.tm t
  ·subst e;simp only[Wo]at hj;rw[hS j (Wb _)]at hj;cases hj.2
theorem Zw.all {m:Nat} (hl:q<=ops.toList.length) (hm:m<=q) (hsk:yq ops.toList m q D) (h1:∀ i,i<q->listed.getD i false=true) (h2:∀ i,q<=i->listed.getD i false=false)
  (h:Zw G E bx lg ops.toList m q D (fun i=>listed.getD i false) a R L):qT G E ⟨D.T q,bx,D.X q,lg⟩ a R L:=by
 refine ⟨{ h.good with },h.size,h.df,fun t=>?_⟩;have ht:=h.tm t;rw[JB q _ hl fun j hj _ _=>by simp[h2 j hj]]at ht;rw[XI hl hsk t q hm (Wb _),jt (D':=fun j=>decide (m<=j)&&listed.getD j false) q fun j hj _=>by rw[h1 j hj,Bk]];exact ht
theorem Zw.eff {m nx':Nat} {L':Loc} {bx':List (List C)} (hl:q<ops.toList.length) (hok:Xc ops=true) (hS:jx ops.toList S) (h:Zw G E bx lg ops.toList m q D S a R L) (hm:m<=q)
  (ho:ops.toList[q]?=some o) (hi:S q=false) (hpre:∀ e∈o.after.toList,Region.binds .any e=true->S e.on=true) (hd:Qd E.N o.dst) (hI:qT G E ⟨zoi (D.T m) ops.toList D.c (fun j=>decide (m<=j)&&S j) ops.toList.length,bx',nx',lg⟩ a R' L') (hr:Rep R' L' c v)
  (hle:D.X q<=nx') (hfr:∀ id,id<D.X q->L.T id=none->L'.T id=none) :
  Zw G E bx' lg ops.toList m (q+1) (D.ext q (JH (D.T q) o.dst c) nx' c true) (fun x=>S x||x==q) (a.put o.dst v) R' L':=by
 refine ⟨?_,fun id h1 h2=>?_,?_,?_,fun t=>?_⟩
 ·rw[Un];exact { hI.good with }
 ·rw[Vw hm]at h1;rcases Wp id (D.X q) with g | g
  ·refine hfr id g (h.free id h1 fun i hmi hi hs hx=>h2 i hmi (by omega) (by rw[hs];rfl) ?_);rw[Vw (by omega),Vw (by omega)];exact hx
  ·have h3:=h2 q hm (by omega) (by simp);rw[Vw (Wb _),Un]at h3;exact hI.good.free id (by show nx'<=id;omega)
 ·cases hdst:o.dst<;>simpa [Act.put] using hI.size
 ·have hdf:=hI.df;cases hdst:o.dst<;>exact hdf
 ·have hold:∀ t,Rep R' L' (val (D.T m) ops.toList D.c (fun j=>decide (m<=j)&&S j) ops.toList.length t) (a.tmps.getD t undef):=fun t=>by
   have:=hI.tm t;rw[YN]at this;exact this
  rw[vZ hm];by_cases hdt:o.dst=some t
  ·have hlt2:t<a.tmps.size:=by rw[hdt]at hd;rw[hI.size];exact hd
   have e1:val (D.T m) ops.toList (D.ext q (JH (D.T q) o.dst c) nx' c true).c (fun j=>decide (m<=j)&&(S j||j==q)) ops.toList.length t=c:=by
    rw[JB (q+1) _ (by omega) fun j hj hj' hdj=>?_]
    ·simp[val,ho,hdt,hm,zeq]
    ·have hag:=zc2 hok hS ho hi hpre hdj (by simp[jF,hdt]) (by omega);simp only[Ai,Bc];exact .inr ⟨by rw[hag];exact Wi (by omega),by simp;omega⟩
   rw[e1,hdt];have:(a.put (some t) v).tmps.getD t undef=v:=by simp[Act.put,Wq,hlt2]
   rw[this];exact hr
  ·have e1:val (D.T m) ops.toList (D.ext q (JH (D.T q) o.dst c) nx' c true).c (fun j=>decide (m<=j)&&(S j||j==q)) ops.toList.length t=val (D.T m) ops.toList (D.ext q (JH (D.T q) o.dst c) nx' c true).c (fun j=>decide (m<=j)&&S j) ops.toList.length t:=jt _ fun j hj hdj=>by
    have hji:j≠q:=fun e=>by
     subst e;rw[ho]at hdj;exact hdt hdj
    have hj2:(j==q)=false:=by simpa using hji
    show (decide (m<=j)&&(S j||j==q))=(decide (m<=j)&&S j);rw[hj2,A1]
   rw[e1,Vv (c':=D.c) _ fun j _ hj=>ziK fun e=>?_]
   ·have e2:(a.put o.dst v).tmps.getD t undef=a.tmps.getD t undef:=by
     cases hdst:o.dst with
     | none=>rfl
     | some d =>
      have hne:d≠t:=fun e=>hdt (by rw[hdst,e]);simp[Act.put,Wq,OS hne]
    rw[e2];exact hold t
   ·subst e;simp only[Wo]at hj;rw[hi]at hj;cases hj.2
theorem zch {m fuel:Nat} (hN:∀ o∈ops.toList,Qd E.N o.dst) (hok:Xc ops=true) (hsk:yq ops.toList m q D) (hl:q<=ops.toList.length)
  {listed:Array Bool} {R:Env} {L:Loc} (hcl:jx ops.toList (fun i=>listed.getD i false)) (h:Zw G E bx lg ops.toList m q D (fun i=>listed.getD i false) a R L) {i:Nat} {o:Oper} (hmi:m<=i) (his:i<q) (ho:ops.toList[i]?=some o) (hlf:listed.getD i false=false)
  (hpre:∀ e∈o.after.toList,Region.binds .any e=true->listed.getD e.on false=true) (c3:qS ops (D.T i) o.guard (D.wn i)) (c4:D.wn i=true->zG P G bx (Qx o (zB G (D.T i))) (D.X i) o (D.c i) (D.X (i+1))) (c5:D.wn i=false->D.c i = .sc undef/\D.X (i+1)=D.X i)
  (hnext:∀ (v:Value) (R':Env) (L':Loc),Zw G E bx lg ops.toList m q D (fun x=>listed.getD x false||x==i) (a.put o.dst v) R' L'->wpAnyIn (Fl r) n P .any ops Q fuel (listed.setIfInBounds i true) (a.put o.dst v) R'.w) :
  wpOpIn (Fl r) n P ops Q i (wpAnyIn (Fl r) n P .any ops Q fuel (listed.setIfInBounds i true)) a R.w:=by
 have next:∀ (v:Value) (R':Env) (L':Loc),qK (D.X i) (D.X (i+1)) R L R' L'->Rep R' L' (D.c i) v->wpAnyIn (Fl r) n P .any ops Q fuel (listed.setIfInBounds i true) (a.put o.dst v) R'.w:=fun v R' L' st hv =>
  hnext v R' L' (h.put hl hsk hok hcl hmi his ho hlf hpre (hN o (Wf ho)) st hv)
 have hev:=h.ev hl hsk hok hcl hmi his ho hlf hpre;have hguard:Region.wanted o (yielded ops a.tmps)=D.wn i:=j0 (tm:=D.T i) rfl c3 fun j want d hg hd=>by
  have ht:d∈jF ops o:=by
   unfold jF Oper.looksAt;rw[hg];simp[hd]
  refine ⟨?_,hev d ht⟩;rw[h.size];cases hj:ops[j]? with
  | none=>rw[hj]at hd;cases hd
  | some o' =>
   rw[hj]at hd;have hd':o'.dst=some d:=hd;have:=hN o' (by rw[OA];exact OT hj);rw[hd']at this;exact this
 unfold wpOpIn;have hoa:ops[i]?=some o:=by simpa using ho
 rw[hoa];simp only[hguard];cases hw:D.wn i with
 | true =>
  simp only[if_true];refine JA ?_;refine ((c4 hw).2 _ R L a.eval h.good.fit (h.freeAt hl hsk hmi his hlf) fun x=>?_).mono fun v w' ⟨R',L',hw',st,hv⟩=>?_
  ·unfold Qx;split
   ·rename_i hx;cases x with
    | tmp t =>
     refine hev t ?_;unfold jF Oper.looksAt;exact OB _ (OB _ (Br.2 ⟨.tmp t,by simpa using hx,rfl⟩))
    | const v=>exact jX R L v
    | global g =>
     simp only[zB];cases hg:G g with
     | none=>unfold Rep;trivial
     | some cs=>exact Jz.2 ⟨g,0,rfl,(h.good.fit.glob g cs hg).1⟩
    | func f=>exact YI.2 ⟨#[],#[],rfl,zm.2 rfl,zm.2 rfl⟩
   ·unfold Rep;trivial
  ·rw[←hw'];exact next v R' L' st hv
 | false =>
  simp only[Oa,Ol];refine ⟨fun f _=>trivial,?_⟩;obtain ⟨d1,d2⟩:=c5 hw;have st:qK (D.X i) (D.X (i+1)) R L R L:=by rw[d2];exact qK.refl _ _ _
  exact next undef R L st (by rw[d1];exact zp.2 rfl)
theorem zce (hsz:listed.size=n) (h:listed.toList.count false<=0) {i:Nat} (hi:i<n):listed.getD i false=true:=by
 have hil:i<listed.size:=by omega
 cases hq:listed.getD i false with
 | true=>rfl
 | false =>
  have:listed.toList[i]?=some false:=by
   rw[Wq,W0 hil]at hq;simp[hil];simpa using hq
  have hpos:0<listed.toList.count false:=A7.2 (Wf this);omega
theorem zfz (hsz:listed.size=ops.size) (h:∀ i,i<ops.size->listed.getD i false=true):Region.ready .any ops listed = []:=by
 cases hq:Region.ready .any ops listed with
 | nil=>rfl
 | cons i rest =>
  obtain ⟨o,ho,h3,_⟩:=Jg (ops:=ops) (listed:=listed) (i:=i) (by rw[hq];simp);have hio:i<ops.size:=by simpa using (Wc.1 ho).1
  have:=(je hsz hio h3).1;rw[h i hio]at this;cases this
theorem vt {m:Nat} {F:Nat->Prop} (hN:∀ o∈ops.toList,Qd E.N o.dst) (hok:Xc ops=true) (hsk:yq ops.toList m q D) (hq:q<=ops.size)
  (hbeh:∀ i,q<i->i<ops.size->inC (qI ops.toList ops.size) i q=true)
  (hp:∀ (i:Nat) o,m<=i->i<q->ops.toList[i]?=some o->(∃ e,F e/\(e=i∨inC (qI ops.toList ops.size) e i=true)) ∨
   (qS ops (D.T i) o.guard (D.wn i)/\(D.wn i=true->zG P G bx (Qx o (zB G (D.T i))) (D.X i) o (D.c i) (D.X (i+1)))/\(D.wn i=false->D.c i = .sc undef/\D.X (i+1)=D.X i)))
  (hEnd:q=ops.size->∀ (listed:Array Bool) (a:Act) (R:Env) (L:Loc),listed.size=ops.size->(∀ i,i<q->listed.getD i false=true)->(∀ i,q<=i->listed.getD i false=false)->Zw G E bx lg ops.toList m q D (fun i=>listed.getD i false) a R L->Q .normal a R.w)
  (hNext:∀ (o:Oper) (fuel:Nat) (listed:Array Bool) (a:Act) (R:Env) (L:Loc),ops.toList[q]?=some o->listed.size=ops.size->jx ops.toList (fun i=>listed.getD i false)->(∀ i,i<m->listed.getD i false=true)->(∀ i,q<=i->listed.getD i false=false)->(∀ e,F e->listed.getD e false=true) ->
   (∀ e∈o.after.toList,Region.binds .any e=true->listed.getD e.on false=true)->(listed.setIfInBounds q true).toList.count false<=fuel->Zw G E bx lg ops.toList m q D (fun i=>listed.getD i false) a R L ->
   wpOpIn (Fl r) n P ops Q q (wpAnyIn (Fl r) n P .any ops Q fuel (listed.setIfInBounds q true)) a R.w):∀ (fuel:Nat) (listed:Array Bool) (a:Act) (R:Env) (L:Loc),listed.size=ops.size->listed.toList.count false<=fuel ->
  jx ops.toList (fun i=>listed.getD i false)->(∀ i,i<m->listed.getD i false=true)->(∀ i,q<=i->listed.getD i false=false)->(∀ e,F e->listed.getD e false=true)->Zw G E bx lg ops.toList m q D (fun i=>listed.getD i false) a R L->wpAnyIn (Fl r) n P .any ops Q fuel listed a R.w:=by
 have hl:q<=ops.toList.length:=by simpa using hq
 have fin:∀ (listed:Array Bool),(∀ i,i<ops.size->listed.getD i false=true)->(∀ i,q<=i->listed.getD i false=false)->q=ops.size:=fun listed h h2=>by
  rcases Wp q ops.size with g | g
  ·have:=h q g;rw[h2 q (Wb _)]at this;cases this
  ·omega
 intro fuel
 induction fuel with
 | zero =>
  intro listed a R L hsz hcnt hcl h1 h2 hF h;have hall:=fun i hi=>zce (i:=i) hsz hcnt hi;have hqe:=fin listed hall h2;exact ⟨zfz hsz hall,hEnd hqe listed a R L hsz (fun i hi=>hall i (by omega)) h2 h⟩
 | succ fuel ih =>
  intro listed a R L hsz hcnt hcl h1 h2 hF h;refine ⟨fun hr=>?_,fun i hi=>?_⟩
  ·have hall:=QS hok hsz hr;exact hEnd (fin listed hall h2) listed a R L hsz (fun i hi=>hall i (by omega)) h2 h
  obtain ⟨o,ho,hl0,hpre⟩:=Jg hi;have hio:i<ops.size:=by simpa using (Wc.1 ho).1
  obtain ⟨hlf,hil'⟩:=je hsz hio hl0;have hil:i<listed.size:=by omega
  have hcnt':(listed.setIfInBounds i true).toList.count false<=fuel:=by
   have:=JX hil';rw[Ar];omega
  have hset:∀ x,(listed.setIfInBounds i true).getD x false=(listed.getD x false||x==i):=fun x=>Bx (jG hil) x;have hmi:m<=i:=by
   rcases Wp i m with g | g
   ·rw[h1 i g]at hlf;cases hlf
   ·exact g
  rcases O9 i q with g | g | g
  ·rcases hp i o hmi g ho with ⟨e,he,hei⟩ | ⟨c3,c4,c5⟩
   ·have hle:=hF e he;rcases hei with rfl | hei
    ·rw[hle]at hlf;cases hlf
    ·have:=Je hcl _ e i hei hle;rw[this]at hlf;cases hlf
   ·exact zch hN hok hsk hl hcl h hmi g ho hlf hpre c3 c4 c5 fun v R' L' hI=>ih _ _ R' L' (by simpa using hsz) hcnt' (YC hil hcl ho hpre) (fun k hk=>by rw[hset,h1 k hk];rfl) (fun k hk=>by rw[hset,h2 k hk];simp;omega)
     (fun e he=>by rw[hset,hF e he];rfl) (by rw[jG hil];exact hI)
  ·subst g;exact hNext o fuel listed a R L ho hsz hcl h1 h2 hF hpre hcnt' h
  ·have:=zav (hbeh i g hio) hcl ho hpre (by omega);rw[h2 q (Wb _)]at this;cases this
end
end
section
open Go.RowKit
section
variable {P:Program} {G:zq} {E:Ctx} {σ:St} {o:Oper} {a:Act} {N p:Nat} {bx:List (List C)} {ops:Array Oper}
def HOk (P:Program) (G:zq) (ops:Array Oper) (fs:List MFl) (B:List (List C)) (H:List k8) (m q:Nat) (D:XC):Prop:=
 ∀ (i:Nat) o,m<=i->i<q->ops.toList[i]?=some o->fs.getD i .pure = .pure->qS ops (D.T i) o.guard (D.wn i)/\(D.wn i=false->D.c i = .sc undef/\D.X (i+1)=D.X i) /\
  ((∃ e,(e<q/\fs.getD e .pure≠.pure)/\inC (qI ops.toList ops.size) e i=true) ∨
   (D.wn i=true->zG P G B (Qx o (zB G (D.T i))) (D.X i) o (D.c i) (D.X (i+1))/\(i,fun b=>JI P G b (zB G (D.T i)) o.op (D.X i) fun c' n'=>c'=D.c i/\n'=D.X (i+1))∈H))
theorem HOk.ext {fs:List MFl} {B B':List (List C)} {H H':List k8} {m:Nat} {o:Oper} (h:HOk P G ops fs B H m q D) (ho:ops.toList[q]?=some o)
  (hq:fs.getD q .pure = .pure->qS ops (D.T q) o.guard b/\(b=false->c = .sc undef/\X=D.X q)/\(b=true->zG P G B' (Qx o (zB G (D.T q))) (D.X q) o c X/\(q,fun bb=>JI P G bb (zB G (D.T q)) o.op (D.X q) fun c' n'=>c'=c/\n'=X)∈H'))
  (hB:∀ (i:Nat) o',m<=i->i<q->ops.toList[i]?=some o'->fs.getD i .pure = .pure->D.wn i=true->zG P G B (Qx o' (zB G (D.T i))) (D.X i) o' (D.c i) (D.X (i+1))/\(i,fun b=>JI P G b (zB G (D.T i)) o'.op (D.X i) fun c' n'=>c'=D.c i/\n'=D.X (i+1))∈H ->
   (fs.getD q .pure≠.pure/\inC (qI ops.toList ops.size) q i=true)∨(zG P G B' (Qx o' (zB G (D.T i))) (D.X i) o' (D.c i) (D.X (i+1))/\(i,fun b=>JI P G b (zB G (D.T i)) o'.op (D.X i) fun c' n'=>c'=D.c i/\n'=D.X (i+1))∈H')) :
  HOk P G ops fs B' H' m (q+1) (D.ext q T X c b):=by
 intro i o' hmi hi ho' hf;by_cases hiq:i=q
 ·subst hiq;rw[ho]at ho';cases ho';obtain ⟨q1,q2,q3⟩:=hq hf;rw[vZ (Wb _),Vw (Wb _),Un,zeq,zo4];exact ⟨q1,q2,.inr q3⟩
 ·obtain ⟨q1,q2,q3⟩:=h i o' hmi (by omega) ho' hf;rw[vZ (by omega),Vw (by omega),Vw (by omega),ziK hiq,zs5 hiq];refine ⟨q1,q2,?_⟩;rcases q3 with ⟨e,⟨e1,e2⟩,e3⟩ | q3
  ·exact .inl ⟨e,⟨by omega,e2⟩,e3⟩
  ·cases hw:D.wn i with
   | false=>exact .inr fun h=>by cases h
   | true =>
    rcases hB i o' hmi (by omega) ho' hf hw (q3 hw) with ⟨g1,g2⟩ | g
    ·exact .inl ⟨q,⟨by omega,g1⟩,g2⟩
    ·exact .inr fun _=>g
theorem HOk.seg {fs:List MFl} {B:List (List C)} {H:List k8} {m:Nat} (h:HOk P G ops fs B H m q D):∀ (i:Nat) o,m<=i->i<q->ops.toList[i]?=some o->(∃ e,(e<q/\fs.getD e .pure≠.pure)/\(e=i∨inC (qI ops.toList ops.size) e i=true)) ∨
   (qS ops (D.T i) o.guard (D.wn i)/\(D.wn i=true->zG P G B (Qx o (zB G (D.T i))) (D.X i) o (D.c i) (D.X (i+1)))/\(D.wn i=false->D.c i = .sc undef/\D.X (i+1)=D.X i)):=fun i o hmi hi ho=>by
 by_cases hf:fs.getD i .pure = .pure
 ·obtain ⟨q1,q2,q3⟩:=h i o hmi hi ho hf;rcases q3 with ⟨e,e1,e2⟩ | q3
  ·exact .inl ⟨e,e1,.inr e2⟩
  ·exact .inr ⟨q1,fun hw=>(q3 hw).1,q2⟩
 ·exact .inl ⟨i,⟨hi,hf⟩,.inl rfl⟩
theorem zog {Y:Hd} {fs:List MFl} (hY:zoD P Y E) (hN:∀ o∈ops.toList,Qd E.N o.dst) (hok:Xc ops=true) (hmx:yw ops fs=true)
  (hQ:∀ a R L σ,K σ->qT G E σ a R L->Q .normal a R.w):∀ (k m q:Nat) (H:List k8) (B:List (List C)) (lg:Nat) (D:XC) (fuel:Nat) (listed:Array Bool) (a:Act) (R:Env) (L:Loc),ops.size-q=k->q<=ops.size->m<=q->listed.size=ops.size->listed.toList.count false<=fuel ->
  jx ops.toList (fun i=>listed.getD i false)->(∀ i,i<m->listed.getD i false=true)->(∀ i,q<=i->listed.getD i false=false)->(∀ e,(e<q/\fs.getD e .pure≠.pure)->listed.getD e false=true)->yq ops.toList m q D->HOk P G ops fs B H m q D ->
  Zw G E B lg ops.toList m q D (fun i=>listed.getD i false) a R L->zhM P G Y ops (ops.toList.drop q) (fs.drop q) q H ⟨D.T q,B,D.X q,lg⟩ K->wpAnyIn (Fl r) n P .any ops Q fuel listed a R.w:=by
 intro k
 induction k with
 | zero =>
  intro m q H B lg D fuel listed a R L hk hq hm hsz hcnt hcl h1 h2 hF hsk hH hI hA;have hqe:q=ops.size:=by omega
  have hql:q<=ops.toList.length:=by simpa using hq
  rw[OI (by simp;omega)]at hA;have hA:K ⟨D.T q,B,D.X q,lg⟩:=hA;refine vt (F:=fun e=>e<q/\fs.getD e .pure≠.pure) hN hok hsk hq (fun i g1 g2=>by omega) hH.seg (fun _ listed a R L hsz h1 h2 hI=>hQ a R L _ hA (hI.all hql hm hsk h1 h2)) (fun o fuel listed a R L ho=>?_) fuel listed a R L hsz hcnt hcl h1 h2 hF hI;have:=(Wc.1 ho).1;simp at this;omega
 | succ k ih =>
  intro m q H B lg D fuel listed a R L hk hq hm hsz hcnt hcl h1 h2 hF hsk hH hI hA;have hqs:q<ops.size:=by omega
  have hql:q<ops.toList.length:=by simpa using hqs
  obtain ⟨o,ho⟩:∃ o,ops.toList[q]?=some o:=⟨_,Wa hql⟩;have hdrop:ops.toList.drop q=o :: ops.toList.drop (q+1):=by
   rw[Ok hql];congr 1;have:=Wa hql;rw[ho]at this;exact (Option.some.inj this).symm
  have hhead:(fs.drop q).headD .pure=fs.getD q .pure:=by
   rw[List.headD_eq_head?_getD,List.head?_drop,W4]
  have htail:(fs.drop q).tail=fs.drop (q+1):=by simp
  have hd:=hN o (Wf ho);rw[hdrop]at hA;unfold zhM at hA;rw[hhead,htail]at hA;cases hfl:fs.getD q .pure with
  | pure =>
   rw[hfl]at hA;simp only at hA;obtain ⟨b,hg,hA1,hA2⟩:=jm.out hA;cases b with
   | true =>
    obtain ⟨c,nx',hp,hK⟩:=X3 (hA1 rfl);refine ih m (q+1) _ B lg (D.ext q (JH (D.T q) o.dst c) nx' c true) fuel listed a R L (by omega) (by omega) (by omega) hsz hcnt hcl h1 (fun i hi=>h2 i (by omega)) (fun e he=>hF e ⟨?_,he.2⟩) (hsk.ext ho rfl hp.1) (hH.ext (B':=B) ho (fun _=>⟨hg,fun h=>(by cases h),fun _=>⟨hp,Wj⟩⟩) fun i o' _ _ _ _ _ h=>.inr ⟨h.1,Wk _ h.2⟩) (hI.more hm hp.1 h2) (by rw[u6,Un];exact hK);rcases Wp e q with g | g
    ·exact g
    ·have:e=q:=by omega
     subst this;exact absurd hfl he.2
   | false =>
    refine ih m (q+1) _ B lg (D.ext q (JH (D.T q) o.dst (.sc undef)) (D.X q) (.sc undef) false) fuel listed a R L (by omega) (by omega) (by omega) hsz hcnt hcl h1 (fun i hi=>h2 i (by omega)) (fun e he=>hF e ⟨?_,he.2⟩) (hsk.ext ho rfl (Wb _)) (hH.ext (B':=B) ho (fun _=>⟨hg,fun _=>⟨rfl,rfl⟩,fun h=>(by cases h)⟩) fun i o' _ _ _ _ _ h=>.inr h) (hI.more hm (Wb _) h2) (by rw[u6,Un];exact hA2 rfl);rcases Wp e q with g | g
    ·exact g
    ·have:e=q:=by omega
     subst this;exact absurd hfl he.2
  | bar =>
   rw[hfl]at hA;simp only at hA;refine vt (F:=fun e=>e<q/\fs.getD e .pure≠.pure) hN hok hsk hq (fun i g1 g2=>Ud hmx hqs (by rw[hfl];intro h;cases h) g2 g1) hH.seg (fun hqe=>by omega) (fun o' fuel listed a R L ho' hsz hcl h1 h2 hF hpre hcnt hI=>?_) fuel listed a R L hsz hcnt hcl h1 h2 hF hI;rw[ho]at ho';cases ho';have hil:q<listed.size:=by omega
   have hall:∀ j,j<q->listed.getD j false=true:=fun j hj=>zav (zfh hmx hqs hfl hj) hcl ho hpre (by omega);have hIV:=hI.all (by omega) hm hsk hall h2;have hset:∀ x,(listed.setIfInBounds q true).getD x false=(listed.getD x false||x==q):=fun x=>Bx (jG hil) x;have next:∀ (σ':St) (a':Act) (R':Env) (L':Loc),zhM P G Y ops (ops.toList.drop (q+1)) (fs.drop (q+1)) (q+1) [] σ' K->qT G E σ' a' R' L'->wpAnyIn (Fl r) n P .any ops Q fuel (listed.setIfInBounds q true) a' R'.w:=fun σ' a' R' L' hA' hI'=>by
    have hlq:∀ i,i<q+1->(listed.setIfInBounds q true).getD i false=true:=fun i hi=>by
     rw[hset];rcases Wp i q with g | g
     ·rw[hall i g];rfl
     ·have:i=q:=by omega
      simp[this]
    have hlq2:∀ i,q+1<=i->(listed.setIfInBounds q true).getD i false=false:=fun i hi=>by
     rw[hset,h2 i (by omega)];simp;omega
    refine ih (q+1) (q+1) [] σ'.bx σ'.lg ⟨fun _=>σ'.tm,fun _=>σ'.nx,fun _=>.any,fun _=>true⟩ fuel _ a' R' L' (by omega) (by omega) (Wb _) (by simpa using hsz) hcnt (YC hil hcl ho hpre) hlq hlq2 (fun e he=>hlq e he.1) ⟨fun i o h1 h2=>by omega⟩ (fun i o h1 h2=>by omega) ?_ hA';refine ⟨{ hI'.good with },fun id hid _=>hI'.good.free id hid,hI'.size,hI'.df,fun t=>?_⟩;rw[jt (D':=fun _=>false) _ fun j _ _=>by
     by_cases hj:q+1<=j
     ·simp[hlq2 j hj]
     ·simp[hj],JB 0 _ (Wd _) fun _ _ _ _=>rfl]
    exact hI'.tm t
   obtain ⟨b,hg,hA1,hA2⟩:=jm.out hA;have hguard:Region.wanted o (yielded ops a.tmps)=b:=j0 (tm:=D.T q) (R:=R) (L:=L) rfl hg fun j want d hgd hdd=>by
    refine ⟨?_,hIV.tm d⟩;rw[hIV.size];cases hj:ops[j]? with
    | none=>rw[hj]at hdd;cases hdd
    | some o' =>
     rw[hj]at hdd;have hd':o'.dst=some d:=hdd;have:=hN o' (by rw[OA];exact OT hj);rw[hd']at this;exact this
   unfold wpOpIn;have hoa:ops[q]?=some o:=by simpa using ho
   rw[hoa];simp only[hguard];cases b with
   | true =>
    simp only[if_true];refine JA ((V3 hY (hA1 rfl) hIV).mono fun v w'=>?_);rintro ⟨c,σ',R',L',rfl,hI',hv,hK⟩;exact next _ _ R' L' hK (hI'.put hd hv)
   | false =>
    simp only[Oa,Ol];refine ⟨fun f _=>trivial,next _ _ R L (hA2 rfl) ?_⟩;have:=hIV.put (dst:=o.dst) (c:=.sc undef) (v:=undef) hd (zp.2 rfl);cases hdst:o.dst with
    | none=>rw[hdst]at this;exact this
    | some d=>rw[hdst]at this;exact this
  | flt fr =>
   rw[hfl]at hA;simp only at hA;obtain ⟨hg,hE⟩:=hA;refine vt (F:=fun e=>e<q/\fs.getD e .pure≠.pure) hN hok hsk hq (fun i g1 g2=>Ud hmx hqs (by rw[hfl];intro h;cases h) g2 g1) hH.seg (fun hqe=>by omega) (fun o' fuel listed a R L ho' hsz hcl h1 h2 hF hpre hcnt hI=>?_) fuel listed a R L hsz hcnt hcl h1 h2 hF hI;rw[ho]at ho';cases ho';have hil:q<listed.size:=by omega
   have hset:∀ x,(listed.setIfInBounds q true).getD x false=(listed.getD x false||x==q):=fun x=>Bx (jG hil) x;have hlf:=h2 q (Wb _);have hev:=zqE (D:=D) (m:=m) (m':=q) (Nat.le_of_lt hql) hsk hok hcl hm (Wb _) ho hlf hpre;have hop2:∀ y,y∈o.op.operands->zB G (zoi (D.T m) ops.toList D.c (fun j=>decide (m<=j)&&listed.getD j false) ops.toList.length) y=zB G (D.T q) y:=fun y hy=>by
    cases y with
    | tmp u =>
     show j7 _ u=j7 _ u;rw[YN];refine hev u ?_;unfold jF Oper.looksAt;exact OB _ (OB _ (Br.2 ⟨.tmp u,by simpa using hy,rfl⟩))
    | const v=>rfl
    | global g=>rfl
    | func f=>rfl
   unfold wpOpIn;have hoa:ops[q]?=some o:=by simpa using ho
   rw[hoa];have hguard:Region.wanted o (yielded ops a.tmps)=true:=j0 (tm:=D.T q) (R:=R) (L:=L) rfl hg fun j want d hgd hdd=>by
    have ht:d∈jF ops o:=by
     unfold jF Oper.looksAt;rw[hgd];simp[hdd]
    refine ⟨?_,by rw[←hev d ht,←YN];exact hI.toV.tm d⟩;rw[hI.toV.size];cases hj:ops[j]? with
    | none=>rw[hj]at hdd;cases hdd
    | some o' =>
     rw[hj]at hdd;have hd':o'.dst=some d:=hdd;have:=hN o' (by rw[OA];exact OT hj);rw[hd']at this;exact this
   simp only[hguard,if_true];refine JA ((zla hE hop2 hI.toV).mono fun v w'=>?_);rintro ⟨c,bx',nx',R',L',rfl,hI',hr,⟨hck,hK⟩,hle,hfr⟩;refine ih m (q+1) H bx' lg (D.ext q (JH (D.T q) o.dst c) nx' c true) fuel _ (a.put o.dst v) R' L' (by omega) (by omega) (by omega) (by simpa using hsz) hcnt (YC hil hcl ho hpre) (fun i hi=>by rw[hset,h1 i hi];rfl) (fun i hi=>by rw[hset,h2 i (by omega)];simp;omega) (fun e he=>?_) (hsk.ext ho rfl hle)
    (hH.ext (B':=bx') ho (fun h=>by rw[hfl]at h;cases h) fun i o' hmi hi ho' hf hw h=>?_) (by rw[jG hil];exact Zw.eff hql hok hcl hI hm ho hlf hpre hd hI' hr hle hfr) (by rw[u6,Un];exact hK)
   ·rw[hset];rcases Wp e q with g | g
    ·rw[hF e ⟨g,he.2⟩];rfl
    ·have:e=q:=by omega
     simp[this]
   ·rcases zfE hmx hqs hfl hi with g | g
    ·exact .inl ⟨(by rw[hfl];intro h;cases h),g⟩
    ·have h3:=hck.out _ _ h.2 g;obtain ⟨c2,nx2,hp,e1,e2⟩:=X3 h3;subst e1 e2;exact .inr ⟨hp,h.2⟩
end
end
section
open Go.RowKit
def mix (P:Program) (G:zq) (Y:Hd) (ops:Array Oper):List (Nat×MFl)->Nat->List k8->St->(St->Prop)->Prop
 | [],_,_,σ,K=>K σ
 | (i,fl) :: rest,q,H,σ,K=>match ops.toList[i]? with
  | none=>False
  | some o=>match fl with
   | .pure=>jm ops σ.tm o.guard (JI P G σ.bx (zB G σ.tm) o.op σ.nx fun c nx'=>mix P G Y ops rest (q+1) ((q,fun b=>JI P G b (zB G σ.tm) o.op σ.nx fun c' n'=>c'=c/\n'=nx') :: H) ⟨JH σ.tm o.dst c,σ.bx,nx',σ.lg⟩ K)
     (mix P G Y ops rest (q+1) H ⟨JH σ.tm o.dst (.sc undef),σ.bx,σ.nx,σ.lg⟩ K)
   | .bar=>jm ops σ.tm o.guard (N6 P G Y o.op σ fun c σ'=>mix P G Y ops rest (q+1) [] (σ'.put o.dst c) K) (mix P G Y ops rest (q+1) [] (σ.put o.dst (.sc undef)) K)
   | .flt fr=>qS ops σ.tm o.guard true/\zrb P G o.op σ fun c bx' nx'=>Y3 fr bx' H/\mix P G Y ops rest (q+1) H ⟨JH σ.tm o.dst c,bx',nx',σ.lg⟩ K
def Q5 (π:List Nat) (i:Nat):Nat:=(X5 π i).getD π.length
def reO (π:List Nat) (o:Oper):Oper:={ o with after:=o.after.map fun e=>{ e with on:=Q5 π e.on },guard:=o.guard.map fun g=>(Q5 π g.1,g.2) }
def Yq (π:List Nat) (ops:Array Oper):Array Oper:=(π.map fun i=>reO π (ops.getD i default)).toArray
structure Yn (π:List Nat) (n:Nat):Prop where
 len:π.length=n
 nd:π.Nodup
 lt:∀ i∈π,i<n
 all:∀ i,i<n->i∈π
def znj (π:List Nat) (n:Nat):Bool:=π.length==n&&decide π.Nodup&&(π.all fun i=>decide (i<n))&&(List.range n).all fun i=>π.contains i
theorem zkM {π:List Nat} (h:znj π n=true):Yn π n:=by
 unfold znj at h;simp only[Wo,Oz,WR,Ws,List.mem_range,List.contains_iff_mem]at h;exact ⟨h.1.1.1,h.1.1.2,h.1.2,h.2⟩
theorem zac:∀ (l:List Nat) (i:Nat),i∈l->∃ j,X5 l i=some j
 | [],i,h=>by cases h
 | x :: r,i,h=>by
  unfold X5;by_cases hx:i=x
  ·exact ⟨0,if_pos hx⟩
  ·rw[if_neg hx];obtain ⟨j,hj⟩:=zac r i ((WJ.1 h).resolve_left hx);exact ⟨j+1,by rw[hj];rfl⟩
section
variable {P:Program} {G:zq} {E:Ctx} {σ:St} {o:Oper} {a:Act} {N p n:Nat} {bx:List (List C)} {ops:Array Oper} {π:List Nat}
theorem ZI (h:Yn π n) {i:Nat} (hi:i<n):π[Q5 π i]?=some i:=by
 obtain ⟨j,hj⟩:=zac π i (h.all i hi);unfold Q5;rw[hj];exact ZA π i j hj
theorem GH (h:Yn π n) {i:Nat} (hi:i<n):Q5 π i<n:=by
 have:=(Wc.1 (ZI h hi)).1;rw[h.len]at this;exact this
theorem zl4 (h:Yn π n) {k i:Nat} (hk:π[k]?=some i):Q5 π i=k:=by
 have hi:=h.lt i (Wf hk);exact (Ab (by rw[h.len];exact GH h hi) h.nd).1 ((ZI h hi).trans hk.symm)
theorem zak (h:Yn π n) {i:Nat} (hi:n<=i):Q5 π i=n:=by
 unfold Q5;cases hq:X5 π i with
 | none=>rw[←h.len];rfl
 | some j =>
  have:=h.lt i (Wf (ZA π i j hq));omega
theorem QH (h:Yn π ops.size):(Yq π ops).size=ops.size:=by
 unfold Yq;simp[h.len]
theorem Z8 (h:Yn π ops.size) {i:Nat} {o:Oper} (hi:ops[i]?=some o):(Yq π ops)[Q5 π i]?=some (reO π o):=by
 have hlt:i<ops.size:=(Ao.1 hi).1;unfold Yq;rw[Ah,Wy,ZI h hlt];simp only[Wu];rw[Wq,hi];rfl
theorem zdJ (h:Yn π ops.size) {i:Nat} (hi:ops.size<=i):(Yq π ops)[Q5 π i]?=none:=by
 rw[zak h hi];exact Bz (by rw[QH h];exact Wb _)
theorem kU (h:Yn π ops.size) (j:Nat):((Yq π ops)[Q5 π j]?).bind (·.dst)=(ops[j]?).bind (·.dst):=by
 cases hq:ops[j]? with
 | none=>rw[zdJ h (by simpa using hq)]
 | some o=>rw[Z8 h hq];rfl
theorem xR (h:Yn π ops.size) (tm:List (Nat×C)) (g:Option (Nat×Bool)) (X Y:Prop):jm (Yq π ops) tm (g.map fun g=>(Q5 π g.1,g.2)) X Y=jm ops tm g X Y:=by
 cases g with
 | none=>rfl
 | some g =>
  obtain ⟨j,want⟩:=g;unfold jm;simp only[Wu];rw[kU h]
theorem zdb (h:Yn π ops.size) (tm:List (Nat×C)) (g:Option (Nat×Bool)) (b:Bool):qS (Yq π ops) tm (g.map fun g=>(Q5 π g.1,g.2)) b=qS ops tm g b:=by
 cases g with
 | none=>rfl
 | some g =>
  obtain ⟨j,want⟩:=g;unfold qS;simp only[Wu];rw[kU h]
theorem zlB {Y:Hd} {K:St->Prop} (h:Yn π ops.size):∀ (L:List (Nat×MFl)) (q:Nat) (H:List k8) (σ:St),(∀ x∈L,x.1<ops.size) ->
  mix P G Y ops L q H σ K=zhM P G Y (Yq π ops) (L.map fun x=>reO π (ops.getD x.1 default)) (L.map (·.2)) q H σ K
 | [],q,H,σ,_=>rfl
 | (i,fl) :: rest,q,H,σ,hL=>by
  have hi:i<ops.size:=hL _ Wj;have ih:=fun q H σ=>zlB (Y:=Y) (K:=K) h rest q H σ fun x hx=>hL x (Wk _ hx);have hget:ops.toList[i]?=some ops[i]:=by simp[hi]
  have hgd:ops.getD i default=ops[i]:=by rw[Wq,W0 hi];rfl
  simp only[mix,zhM,WC,hget,hgd,List.headD_cons,List.tail_cons];cases fl with
  | pure =>
   simp only[ih];exact (xR h _ _ _ _).symm
  | bar =>
   simp only[ih];exact (xR h _ _ _ _).symm
  | flt fr =>
   simp only[ih];have:qS (Yq π ops) σ.tm (reO π ops[i]).guard true=qS ops σ.tm ops[i].guard true:=zdb h _ _ _;rw[this];rfl
theorem zgj {l:Array Bool} (h:i<l.size):l[i]?=some (l.getD i false):=by
 rw[Wq,W0 h];rfl
def zhb (π:List Nat) (n:Nat) (listed listed':Array Bool):Prop:=listed.size=n/\listed'.size=n/\∀ i,i<n->listed'.getD (Q5 π i) false=listed.getD i false
theorem uR (h:Yn π ops.size) {listed listed':Array Bool} (hL:zhb π ops.size listed listed') {i:Nat} (hi:i∈Region.ready .any ops listed):Q5 π i∈Region.ready .any (Yq π ops) listed':=by
 obtain ⟨o,ho,hl0,hpre⟩:=Jg hi;have hio:i<ops.size:=by simpa using (Wc.1 ho).1
 obtain ⟨hlf,_⟩:=je hL.1 hio hl0;have hoa:ops[i]?=some o:=by simpa using ho
 unfold Region.ready;rw[Ox];refine ⟨by rw[QH h];simpa using GH h hio,?_⟩;have h1:listed'.getD (Q5 π i) true=false:=by
  have h2:=hL.2.2 i hio;rw[hlf]at h2;rw[Wq,zgj (by rw[hL.2.1];exact GH h hio),h2];rfl
 rw[h1,Z8 h hoa];simp only[Ad,Oj,Wu,W9];rw[Au];intro e he;simp only[reO,Array.mem_map]at he;obtain ⟨e0,he0,rfl⟩:=he;cases hb:Region.binds .any e0 with
 | false =>
  have:Region.binds .any { e0 with on:=Q5 π e0.on }=false:=hb;rw[this];rfl
 | true =>
  have h3:=hpre e0 (by simpa using he0) hb;have hlt:e0.on<ops.size:=by
   rcases Wp e0.on ops.size with g | g
   ·exact g
   ·rw[Wq,Bz (by rw[hL.1];exact g)]at h3;cases h3
  have h4:=hL.2.2 e0.on hlt;rw[h3]at h4;show (!_||listed'.getD (Q5 π e0.on) false)=true;rw[h4];simp
theorem zkI (h:Yn π ops.size) {listed listed':Array Bool} (hL:zhb π ops.size listed listed') (hr:Region.ready .any ops listed = []):Region.ready .any (Yq π ops) listed' = []:=by
 cases hq:Region.ready .any (Yq π ops) listed' with
 | nil=>rfl
 | cons k rest =>
  exfalso
  have hsz:=QH h;obtain ⟨o',ho',hl0,hpre⟩:=Jg (ops:=Yq π ops) (listed:=listed') (i:=k) (by rw[hq];simp);have hk:k<ops.size:=by rw[←hsz];simpa using (Wc.1 ho').1
  have hkl:k<π.length:=by rw[h.len];exact hk
  have hki:π[k]?=some π[k]:=Wa hkl;have hi:=h.lt _ (Wf hki);have hpk:=zl4 h hki;have hoi:ops[π[k]]?=some ops[π[k]]:=W0 hi;have hg:=Z8 h hoi;rw[hpk]at hg;have ho2:(Yq π ops)[k]?=some o':=by simpa using ho'
  rw[hg]at ho2;cases ho2;obtain ⟨hlf,_⟩:=je (ops:=Yq π ops) (by rw[hL.2.1,hsz]) (by rw[hsz];exact hk) hl0;have h2:=hL.2.2 _ hi;rw[hpk,hlf]at h2;have:π[k]∈Region.ready .any ops listed:=by
   unfold Region.ready;rw[Ox];refine ⟨by simpa using hi,?_⟩;have h1:listed.getD π[k] true=false:=by
    rw[Wq,zgj (by rw[hL.1];exact hi),←h2];rfl
   rw[h1,hoi];simp only[Ad,Oj,Wu,W9];rw[Au];intro e he;cases hb:Region.binds .any e with
   | false=>rfl
   | true =>
    have h3:=hpre { e with on:=Q5 π e.on } (by simp[reO];exact ⟨e,by simpa using he,rfl,rfl⟩) hb;have h3:listed'.getD (Q5 π e.on) false=true:=h3;rcases Wp e.on ops.size with g | g
    ·rw[hL.2.2 _ g]at h3;rw[h3];rfl
    ·rw[zak h g,Wq,Bz (by rw[hL.2.1];exact Wb _)]at h3;cases h3
  rw[hr]at this;cases this
theorem zoh (h:Yn π n) {listed listed':Array Bool} (hL:zhb π n listed listed') {i:Nat} (hi:i<n):zhb π n (listed.setIfInBounds i true) (listed'.setIfInBounds (Q5 π i) true):=by
 refine ⟨by simpa using hL.1,by simpa using hL.2.1,fun j hj=>?_⟩;have e1:=Bx (jG (listed:=listed) (i:=i) (by rw[hL.1];exact hi)) j;have e2:=Bx (jG (listed:=listed') (i:=Q5 π i) (by rw[hL.2.1];exact GH h hi)) (Q5 π j);rw[show (listed.setIfInBounds i true).getD j false=(listed.getD j false||j==i) from e1,show (listed'.setIfInBounds (Q5 π i) true).getD (Q5 π j) false=(listed'.getD (Q5 π j) false||Q5 π j==Q5 π i) from e2,hL.2.2 j hj];by_cases hji:j=i
 ·subst hji;simp
 ·have:Q5 π j≠Q5 π i:=fun e=>by
   have h1:=ZI h hj;rw[e,ZI h hi]at h1;exact hji (Option.some.inj h1).symm
  rw[show (Q5 π j==Q5 π i)=false by rw[OU];exact this,show (j==i)=false by rw[OU];exact hji]
theorem zai {r:Option Nat} {m:Nat} {Q:Exit->Act->World->Prop} (h:Yn π ops.size):∀ (fuel:Nat) (listed listed':Array Bool) (a:Act) (w:World),zhb π ops.size listed listed' ->
  wpAnyIn (Fl r) m P .any (Yq π ops) Q fuel listed' a w->wpAnyIn (Fl r) m P .any ops Q fuel listed a w
 | 0,listed,listed',a,w,hL,⟨h1,h2⟩=>by
  refine ⟨?_,h2⟩;cases hq:Region.ready .any ops listed with
  | nil=>rfl
  | cons i rest =>
   have:=uR h hL (i:=i) (by rw[hq];simp);rw[h1]at this;cases this
 | fuel+1,listed,listed',a,w,hL,⟨h1,h2⟩=>by
  refine ⟨fun hr=>h1 (zkI h hL hr),fun i hi=>?_⟩;obtain ⟨o,ho,hl0,hpre⟩:=Jg hi;have hio:i<ops.size:=by simpa using (Wc.1 ho).1
  have hoa:ops[i]?=some o:=by simpa using ho
  have h3:=wpOpIn_mono (K':=wpAnyIn (Fl r) m P .any ops Q fuel (listed.setIfInBounds i true)) (fun a w hh=>zai h fuel _ _ a w (zoh h hL hio) hh) (h2 _ (uR h hL hi));unfold wpOpIn at h3 ⊢;rw[Z8 h hoa]at h3;rw[hoa];have hw:Region.wanted (reO π o) (yielded (Yq π ops) a.tmps)=Region.wanted o (yielded ops a.tmps):=by
   unfold Region.wanted;show (match o.guard.map fun g=>(Q5 π g.1,g.2) with | none=>true | some (j,want)=>yielded (Yq π ops) a.tmps j==some want)=_
   cases o.guard with
   | none=>rfl
   | some g =>
    simp only[Wu];unfold yielded;rw[kU h]
  simp only[hw]at h3;exact h3
def zdC:List (Nat×MFl)->List Nat
 | []=>[]
 | (i,.pure) :: r=>(4*i) :: zdC r
 | (i,.bar) :: r=>(4*i+1) :: zdC r
 | (i,.flt fr) :: r=>(4*i+2) :: (fr.map (fun k=>4*k+3)++zdC r)
def zgI:List Nat->List Nat
 | n :: r=>if n % 4=3 then n / 4 :: zgI r else []
 | []=>[]
def zdD:List Nat->List (Nat×MFl)
 | []=>[]
 | n :: r=>if n % 4=0 then (n / 4,.pure) :: zdD r else if n % 4=1 then (n / 4,.bar) :: zdD r else if n % 4=2 then (n / 4,.flt (zgI r)) :: zdD r else zdD r
theorem xO:∀ (fr:List Nat) (L:List (Nat×MFl)),zgI (fr.map (fun k=>4*k+3)++zdC L)=fr
 | [],L=>by
  cases L with
  | nil=>rfl
  | cons x r =>
   obtain ⟨i,fl⟩:=x;cases fl<;>simp only[Oo,Om,zdC,zgI]<;>exact if_neg (by omega)
 | k :: fr,L=>by
  simp only[WC,W8,zgI];rw[if_pos (by omega),xO fr L,show (4*k+3) / 4=k by omega]
theorem zaA:∀ (fr:List Nat) (l:List Nat),zdD (fr.map (fun k=>4*k+3)++l)=zdD l
 | [],l=>rfl
 | k :: fr,l=>by
  simp only[WC,W8,zdD];rw[if_neg (by omega),if_neg (by omega),if_neg (by omega),zaA fr l]
theorem Ve:∀ L:List (Nat×MFl),zdD (zdC L)=L
 | []=>rfl
 | (i,.pure) :: r=>by
  simp only[zdC,zdD];rw[if_pos (by omega),Ve r,show 4*i / 4=i by omega]
 | (i,.bar) :: r=>by
  simp only[zdC,zdD];rw[if_neg (by omega),if_pos (by omega),Ve r,show (4*i+1) / 4=i by omega]
 | (i,.flt fr) :: r=>by
  simp only[zdC,zdD];rw[if_neg (by omega),if_neg (by omega),if_pos (by omega),xO,zaA,Ve r,show (4*i+2) / 4=i by omega]
def unR:List Nat->List Bool
 | []=>[]
 | n :: r=>List.replicate n false++true :: unR r
def zmS:Nat->List Bool->List Nat
 | _,[]=>[]
 | k,false :: r=>zmS (k+1) r
 | k,true :: r=>k :: zmS 0 r
theorem zat:∀ (n k:Nat) (l:List Bool),zmS k (List.replicate n false++true :: l)=(k+n) :: zmS 0 l
 | 0,k,l=>rfl
 | n+1,k,l=>by
  rw[AI,W8];simp only[zmS];rw[zat n (k+1) l];congr 1;omega
theorem uX:∀ l:List Nat,zmS 0 (unR l)=l
 | []=>rfl
 | n :: r=>by
  simp only[unR];rw[zat,uX r,Ov]
def Hq (L:List (Nat×MFl)):List Bool:=zhB 199 (unR (zdC L))
def zff (br:List Bool):List (Nat×MFl):=zdD (zmS 0 br)
theorem zcd (L:List (Nat×MFl)):zff (unR (zdC L))=L:=by
 unfold zff;rw[uX,Ve]
def zaU (ops:Array Oper) (L:List (Nat×MFl)):Bool:=znj (L.map (·.1)) ops.size&&(Xc (Yq (L.map (·.1)) ops)&&yw (Yq (L.map (·.1)) ops) (L.map (·.2)))
theorem zez {n id:Nat} {L0:List (Nat×MFl)} {Y:Hd} (hY:zoD P Y E) (hm:P.follows .mixedOrders=true) (hN:∀ o∈ops.toList,Qd E.N o.dst) (hall:zaU ops L0=true)
  (h:mix P G Y ops L0 0 [] σ K) (hI:Inv G E σ a w) (hQ:∀ a' w' σ',K σ'->Inv G E σ' a' w'->Q .normal a' w'):(Code.region id ops true).wpIn (Fl r) n P Q a w:=by
 unfold zaU at hall;simp only[Wo]at hall;obtain ⟨hpm,hok,hmx⟩:=hall;have hπ:=zkM hpm;rw[zlB hπ L0 0 [] σ fun x hx=>hπ.lt _ (BH hx)]at h;have hlst:(L0.map fun x=>reO (L0.map (·.1)) (ops.getD x.1 default))=(Yq (L0.map (·.1)) ops).toList:=by
  unfold Yq;simp
 rw[hlst]at h;have hsz:=QH hπ;have hN':∀ o∈(Yq (L0.map (·.1)) ops).toList,Qd E.N o.dst:=fun o ho=>by
  rw[←hlst]at ho;obtain ⟨x,hx,rfl⟩:=WQ.1 ho;have hi:=hπ.lt _ (BH hx);have:ops.getD x.1 default=ops[x.1]:=by rw[Wq,W0 hi];rfl
  rw[this];exact hN ops[x.1] (by simp)
 obtain ⟨R,L,rfl,hI⟩:=hI;refine wpIn_region_any hm ?_
 let R':Env:=⟨{ R.w with drawn:=R.w.drawn+1 },R.M,R.F⟩
 have hext:Ext R R':=⟨fun b o v h1 h2=>⟨h1,h2⟩,fun _ _ _ _ h1 h2=>⟨h1,h2⟩⟩;have hnear:xX E.w0 E.ex R R':=⟨rfl,rfl,rfl,Wb _,rfl,hext,fun b _=>.inl ⟨rfl,fun _=>Iff.rfl⟩⟩;have hg:=hI.good;have hinv:qT G E σ a R' L:=by
  refine ⟨hg.move hnear.nigh ⟨hg.fit.glob.ext hext,⟨hg.fit.boxes.len,hg.fit.boxes.nodup,fun i b cs hi hc=>?_⟩,⟨fun id e k v ht=>?_,hg.fit.owns.apart⟩,hg.fit.base⟩ ⟨[],by rw[Od],fun b hb=>by cases hb⟩ (fun id e k v b ht hv=>.inl ⟨id,e,k,v,ht,hv⟩) hg.free,hI.size,hI.df.near hnear,fun t=>Rep.ext hext (zR.refl _) _ _ (hI.tm t)⟩
  ·obtain ⟨vs,ty,e1,e2,e3,e4⟩:=hg.fit.boxes.box i b cs hi hc;exact ⟨vs,ty,e1,zx.ext hext (zR.refl _) _ _ e2,e3,e4⟩
  ·exact (hg.fit.owns.own id e k v ht).move fun g _ q2 _ q7=>⟨q2,rfl,q7,fun _ h=>h⟩
 have hlist:∀ i,(Array.replicate ops.size false).getD i false=false:=fun i=>by
  rw[Wq,Bl];split<;>rfl
 refine zai (π:=L0.map (·.1)) hπ ops.size _ (Array.replicate ops.size false) a R'.w ⟨by simp,by simp,fun i _=>by rw[hlist,hlist]⟩ ?_;refine zog (E:=E) (R:=R') (L:=L) (fs:=L0.map (·.2)) hY hN' hok hmx (fun a1 R1 L1 σ1 hK h1=>hQ a1 R1.w σ1 hK ⟨R1,L1,rfl,h1⟩) _ 0 0 [] σ.bx σ.lg ⟨fun _=>σ.tm,fun _=>σ.nx,fun _=>.any,fun _=>true⟩ ops.size _ a rfl (Wd _) (Wb _) (by simp[hsz]) ?_ (fun i o hi h=>?_) (fun i hi=>by omega) (fun i _=>hlist i) (fun e he=>by omega) ⟨fun i o h1 h2=>by omega⟩ (fun i o h1 h2=>by omega) ?_ (by simpa using h)
 ·rw[By,Be];exact Wb _
 ·have h:(Array.replicate ops.size false).getD i false=true:=h;rw[hlist]at h;cases h
 ·refine ⟨{ hinv.good with },fun id hid _=>hinv.good.free id hid,hinv.size,hinv.df,fun t=>?_⟩;rw[jt (D':=fun _=>false) _ fun j _ _=>by simp[hlist j],JB 0 _ (Wd _) fun _ _ _ _=>rfl];exact hinv.tm t
end
end
section
open Go.RowKit
def zrt (next:St->Prop) (Q:Exit->St->Prop):Exit->St->Prop
 | .normal,σ=>next σ
 | e,σ=>Q e σ
def Ml (id:Nat) (Q:Exit->St->Prop):Exit->St->Prop
 | .exit id',σ=>if id'=id then Q .normal σ else Q (.exit id') σ
 | e,σ=>Q e σ
def zfU (Q:Exit->St->Prop):Exit->St->Prop
 | .goto _,_=>False
 | e,σ=>Q e σ
def znW (next:St->Prop) (Q:Exit->St->Prop):Exit->St->Prop
 | .normal,σ=>next σ
 | e,σ=>Q e σ
def zkd (p:Nat) (B:(Exit->St->Prop)->St->Prop) (Q:Exit->St->Prop) (σ:St):Prop:=
 ∃ (ι:Type) (I:ι->St) (ok:ι->Prop) (μ:ι->Nat) (i0:ι),ok i0/\Yc p σ (I i0)/\∀ i,ok i->B (znW (fun σ'=>∃ j,ok j/\μ j<μ i/\Yc p σ' (I j)) Q) (I i)
def zoU (P:Program) (G:zq) (Y:Hd) (ops:Array Oper):List Oper->St->(St->Prop)->Prop
 | [],σ,K=>K σ
 | o :: rest,σ,K=>jm ops σ.tm o.guard (N6 P G Y o.op σ fun c σ'=>zoU P G Y ops rest (σ'.put o.dst c) K) (zoU P G Y ops rest (σ.put o.dst (.sc undef)) K)
def xh (P:Program) (G:zq) (h:Hd) (ops:Array Oper) (br:List Bool) (σ:St) (K:St->Prop):Prop:=
 match Gu br with
 | some (a,s)=>jN P G ops a s ops.toList 0 none σ K
 | none=>match kG br with
  | some (_,br')=>mix P G h ops (zff br') 0 [] σ K
  | none=>Vf P G h ops ops.toList br σ K
def awp (P:Program) (G:zq):Hd->Code->(Exit->St->Prop)->St->Prop
 | _,.skip,Q,σ=>Q .normal σ
 | _,.label _,Q,σ=>Q .normal σ
 | _,.exit id,Q,σ=>Q (.exit id) σ
 | _,.goto l,Q,σ=>Q (.goto l) σ
 | _,.ret,Q,σ=>Q .ret σ
 | h,.seq x y,Q,σ=>awp P G h x (zrt (awp P G h y Q) Q) σ
 | h,.cond c x y,Q,σ=>ABr (zB G σ.tm c) (awp P G h x Q σ) (awp P G h y Q σ)
 | h,.block id c,Q,σ=>awp P G h c (Ml id Q) σ
 | h,.loop c,Q,σ=>zkd h.p (awp P G h c) Q σ
 | h,.scope c,Q,σ=>awp P G h c (zfU Q) σ
 | h,.region id ops draw,Q,σ=>match draw with
  | true=>xh P G h ops (h.b id) σ (Q .normal)
  | false=>zoU P G h ops ops.toList σ (Q .normal)
 | h,.rangeFunc f ps x y,Q,σ=>zay P G h.p (fun m=>awp P G ⟨m,h.y,h.b⟩ x) (fun m=>awp P G ⟨m,h.y,h.b⟩ y) Q ps.toList (zB G σ.tm f) σ
 | _,.refuse _,_,_=>False
def jT (N:Nat) (b:Nat->List Bool):Code->Bool
 | .seq x y=>jT N b x&&jT N b y
 | .cond _ x y=>jT N b x&&jT N b y
 | .block _ c=>jT N b c
 | .loop c=>jT N b c
 | .scope c=>jT N b c
 | .region id ops draw=>(ops.toList.all fun o=>match o.dst with | some d=>decide (d<N) | none=>true)&&(!draw||(Xc ops&&match Gu (b id) with | some (a,s)=>Uh ops a s | none=>match kG (b id) with | some (_,br')=>zaU ops (zff br') | none=>Zc ops (b id)))
 | .rangeFunc _ ps x y=>(ps.toList.all fun p=>decide (p<N))&&jT N b x&&jT N b y
 | _=>true
section
variable {P:Program} {G:zq} {E:Ctx} {σ:St} {a:Act} {N p:Nat} {bx:List (List C)} {ops:Array Oper}
theorem zhZ (h:(l.all fun o=>match o.dst with | some d=>decide (d<N) | none=>true)=true):∀ o∈l,Qd N o.dst:=fun o ho=>by
 have:=Ws.1 h o ho;unfold Qd;cases hd:o.dst with
 | none=>trivial
 | some d=>simpa [hd] using this
theorem VM {Y:Hd} (hY:zoD P Y E) {r:Option Nat} {n:Nat} {Q:Exit->Act->World->Prop} {K:St->Prop} (hQ:∀ a' w' σ',K σ'->Inv G E σ' a' w'->Q .normal a' w'):∀ (l:List Oper) (σ:St) (a:Act) (w:World),(∀ o∈l,Qd E.N o.dst)->zoU P G Y ops l σ K->Inv G E σ a w ->
  (∀ (j:Nat) (o:Oper),ops[j]?=some o->Qd E.N o.dst)->wpListIn (Fl r) n P ops Q l a w
 | [],σ,a,w,_,h,hI,_=>hQ a w σ h hI
 | o :: rest,σ,a,w,hd,h,hI,hops=>by
  obtain ⟨b,hg,h1,h2⟩:=jm.out h;obtain ⟨R,L,rfl,hI⟩:=hI;have hguard:Region.wanted o (yielded ops a.tmps)=b:=j0 (tm:=σ.tm) (R:=R) (L:=L) rfl hg fun j want d hgd hdd=>by
   refine ⟨?_,hI.tm d⟩;rw[hI.size];cases hj:ops[j]? with
   | none=>rw[hj]at hdd;cases hdd
   | some o' =>
    rw[hj]at hdd;have hd':o'.dst=some d:=hdd;have:=hops j o' hj;rw[hd']at this;exact this
  have hdo:=hd o Wj;have hdr:∀ o'∈rest,Qd E.N o'.dst:=fun o' ho'=>hd o' (Wk _ ho');simp only[wpListIn,hguard];cases b with
  | true =>
   simp only[if_true];refine JA ((V3 hY (h1 rfl) hI).mono fun v w'=>?_);rintro ⟨c,σ',R',L',rfl,hI',hv,hK⟩;exact VM hY hQ rest _ _ _ hdr hK ⟨R',L',rfl,hI'.put hdo hv⟩ hops
  | false =>
   simp only[Oa,Ol];exact ⟨fun f _=>trivial,VM hY hQ rest _ _ _ hdr (h2 rfl) ⟨R,L,rfl,hI.put hdo (zp.2 rfl)⟩ hops⟩
theorem Zf {F:Fence} {c:Code} (h:c.wpIn F n P (Exit.noGoto Q) a w):(Code.scope c).wpIn F n P Q a w:=by
 intro b k cs hro hb hr;obtain ⟨e,a₁,w₁,hq,harr⟩:=h b (.inScope c :: k) cs hro hb hr;have h0:StepsIn (Machine.fenced P F) P (lone (b.atR a (.code (.scope c) :: k)) cs w) (lone (b.atR a (.code c :: .inScope c :: k)) cs w):=
  .one (fenced_calm hb hr rfl) (step_lone_go (by simp[stepG,stepG.exec,Frame.atR]))
 cases e with
 | normal=>exact ⟨.normal,a₁,w₁,hq,.trans (.trans h0 harr) (.one (fenced_calm hb hr rfl) (step_lone_go (by simp[stepG,stepG.exec,Frame.atR])))⟩
 | exit id=>exact ⟨.exit id,a₁,w₁,hq,fun k' hk=>StepsIn.trans h0 (harr.1 k' (by simp[exitTo,hk])),fun hr hk=>let ⟨k₁,h1,h2⟩:=harr.2 hr (by simp[exitTo,hk]);⟨k₁,h1,StepsIn.trans h0 h2⟩⟩
 | goto l=>exact hq.elim
 | ret=>exact ⟨_,a₁,w₁,hq,.of_steps h0 harr⟩
 | panic ch=>exact ⟨_,a₁,w₁,hq,.of_steps h0 harr⟩
 | outgrown=>exact ⟨_,a₁,w₁,hq,.of_steps (b:=b) (k:=k) (cs:=cs) (e:=.outgrown) h0 harr⟩
theorem zgv (hm:P.follows .mixedOrders=true):∀ (c:Code) (h:Hd) (E:Ctx) (r:Option Nat) (n:Nat),E.β0.length<=h.p->(∀ y,h.y=some y->YOk P y E.J)->vP r E->∀ (Q:Exit->St->Prop) (σ:St) (a:Act) (w:World),jT E.N h.b c=true->awp P G h c Q σ->Inv G E σ a w->c.wpIn (Fl r) n P (zoF G E Q) a w:=by
  intro c
  induction c with
  | skip=>exact fun h E r n _ _ _ Q σ a w _ hA hI=>wpIn_skip ⟨σ,hA,hI⟩
  | label l=>exact fun h E r n _ _ _ Q σ a w _ hA hI=>wpIn_label ⟨σ,hA,hI⟩
  | exit id=>exact fun h E r n _ _ _ Q σ a w _ hA hI=>wpIn_exit ⟨σ,hA,hI⟩
  | goto l=>exact fun h E r n _ _ _ Q σ a w _ hA hI=>wpIn_goto ⟨σ,hA,hI⟩
  | ret=>exact fun h E r n _ _ _ Q σ a w _ hA hI=>wpIn_ret ⟨σ,hA,hI⟩
  | refuse s=>exact fun h E r n _ _ _ Q σ a w _ hA hI=>hA.elim
  | rangeFunc f ps x y ihx ihy =>
    intro h E r n hp hY hr Q σ a w hc hA hI;simp only[jT,Wo]at hc;exact uM (fun E' m l Q' σ' a' w' hN hβ hJ hr' hA' hI'=>ihx ⟨m,h.y,h.b⟩ E' (some l) 0 hβ (fun y hy=>by rw[hJ];exact hY y hy) hr' Q' σ' a' w' (by rw[hN];exact hc.1.2) hA' hI')
      (fun E' m l Q' σ' a' w' hN hβ hJ hr' hA' hI'=>ihy ⟨m,h.y,h.b⟩ E' (some l) 0 hβ (fun y hy=>by rw[hJ];exact hY y hy) hr' Q' σ' a' w' (by rw[hN];exact hc.2) hA' hI')
      (fun p hp=>by have:=Ws.1 hc.1.1 p hp;simpa using this) hp hr hA hI
  | seq x y ihx ihy =>
    intro h E r n hp hY hr Q σ a w hc hA hI;simp only[jT,Wo]at hc;refine wpIn_seq (BM (ihx h E r n hp hY hr _ σ a w hc.1 hA hI) ?_);rintro e a' w' ⟨σ',hq,hI'⟩;cases e<;>first | exact ihy h E r n hp hY hr Q σ' a' w' hc.2 hq hI' | exact ⟨σ',hq,hI'⟩
  | cond c x y ihx ihy =>
    intro h E r n hp hY hr Q σ a w hc hA hI;simp only[jT,Wo]at hc;obtain ⟨b,hb,h1,h2⟩:=ABr.out hA;obtain ⟨R,L,rfl,hI⟩:=hI;have hev:=hI.ev c;rw[hb,zp]at hev;refine wpIn_cond hev ?_;cases b with
    | true=>exact ihx h E r n hp hY hr Q σ a _ hc.1 (h1 rfl) ⟨R,L,rfl,hI⟩
    | false=>exact ihy h E r n hp hY hr Q σ a _ hc.2 (h2 rfl) ⟨R,L,rfl,hI⟩
  | block id c ih =>
    intro h E r n hp hY hr Q σ a w hc hA hI;refine wpIn_block (BM (ih h E r n hp hY hr _ σ a w hc hA hI) ?_);rintro e a' w' ⟨σ',hq,hI'⟩;cases e<;>first
      | exact ⟨σ',hq,hI'⟩
      | (simp only[Ml]at hq
         simp only[Exit.inBlock];split at hq
         · rw[if_pos (by assumption)];exact ⟨σ',hq,hI'⟩
         · rw[if_neg (by assumption)];exact ⟨σ',hq,hI'⟩)
  | scope c ih =>
    intro h E r n hp hY hr Q σ a w hc hA hI;refine Zf (BM (ih h E r n hp hY hr _ σ a w hc hA hI) ?_);rintro e a' w' ⟨σ',hq,hI'⟩;cases e<;>first | exact hq.elim | exact ⟨σ',hq,hI'⟩
  | loop c ih =>
    intro h E r n hp hY hr Q σ a w hc hA hI;obtain ⟨ι,I,ok,μ,i0,h0,hw,hrd⟩:=hA;refine wpIn_loop_ghost (fun m a w=>∃ i,ok i/\μ i=m/\Inv G E (I i) a w) (μ i0) ⟨i0,h0,rfl,hI.weak hp hw⟩ ?_;rintro m a w ⟨i,hi,rfl,hI⟩;refine BM (ih h E r n hp hY hr _ _ a w hc (hrd i hi) hI) ?_;rintro e a' w' ⟨σ',hq,hI'⟩;cases e<;>first
      | exact ⟨σ',hq,hI'⟩
      | (obtain ⟨j,hj,hlt,hw'⟩:=hq
         exact ⟨_,hlt,j,hj,rfl,hI'.weak hp hw'⟩)
  | region id ops draw =>
    intro h E r n hp hY hr Q σ a w hc hA hI;simp only[jT,Wo]at hc;have hd:=zhZ hc.1;cases draw with
    | true =>
      have hok:Xc ops=true/\(match Gu (h.b id) with | some (a,s)=>Uh ops a s | none=>match kG (h.b id) with | some (_,br')=>zaU ops (zff br') | none=>Zc ops (h.b id))=true:=by simpa using hc.2
      obtain ⟨ho1,ho2⟩:=hok;have hA:xh P G h ops (h.b id) σ (Q .normal):=hA;unfold xh at hA;cases hl:Gu (h.b id) with
      | none =>
        rw[hl]at ho2 hA;simp only at ho2 hA;cases hfl:kG (h.b id) with
        | none =>
          rw[hfl]at ho2 hA;exact zcn ⟨hY,hp⟩ hm hd ho1 ho2 hA hI fun a' w' σ' hK hI'=>⟨_,hK,hI'⟩
        | some q =>
          obtain ⟨s,br'⟩:=q;rw[hfl]at ho2 hA;exact zez ⟨hY,hp⟩ hm hd ho2 hA hI fun a' w' σ' hK hI'=>⟨_,hK,hI'⟩
      | some q =>
        obtain ⟨qa,qs⟩:=q;rw[hl]at ho2 hA;exact zci hm hd ho1 ho2 hA hI fun a' w' σ' hK hI'=>⟨_,hK,hI'⟩
    | false =>
      refine wpIn_region_list (VM ⟨hY,hp⟩ (K:=Q .normal) (fun a' w' σ' hK hI'=>⟨σ',hK,hI'⟩) _ σ a w hd hA hI fun j o hj=>?_);exact hd o (by rw[OA];exact OT hj)
def Yh (P:Program) (σ:St) (rv:ResultVar) (K:C->Prop):Prop:=
 match rv with
 | .tmp t=>K (j7 σ.tm t)
 | .cell b t=>v6 P t (j7 σ.tm b) σ.bx K
def zoG (P:Program) (σ:St) (rs:List ResultVar) (K:C->Prop):Prop:=
 match rs with
 | []=>K (.tup [])
 | [x]=>Yh P σ x K
 | [x,y]=>Yh P σ x fun c=>Yh P σ y fun d=>K (.tup [c,d])
 | [x,y,z]=>Yh P σ x fun c=>Yh P σ y fun d=>Yh P σ z fun e=>K (.tup [c,d,e])
 | [x,y,z,u]=>Yh P σ x fun c=>Yh P σ y fun d=>Yh P σ z fun e=>Yh P σ u fun f=>K (.tup [c,d,e,f])
 | _=>False
def xr (tmps:Array Value):ResultVar->Sem Value
 | .tmp t=>pure (tmps.getD t undef)
 | .cell b t=>do loadVar t (←asAddr (tmps.getD b undef))
theorem jl (h:qT G E σ a R L) {rv:ResultVar} {K:C->Prop} (hK:Yh P σ rv K):∃ v c,(xr a.tmps rv).run P R.w = .ok v R.w/\Rep R L c v/\K c:=by
 cases rv with
 | tmp t=>exact ⟨_,_,rfl,h.tm t,hK⟩
 | cell b t =>
  obtain ⟨c,h1,h2⟩:=zeV K (show v6 P t (j7 σ.tm b) σ.bx K from hK);obtain ⟨v,ad,e1,e2,e3⟩:=h1 R L (a.tmps.getD b undef) h.good.fit.boxes (h.tm b);refine ⟨v,c,?_,e3,h2⟩;rw[e1]at e2;simp only[Instr.loadAt,Instr.sureAddr,Wm,WA,Wh]at e2;simp only[xr,e1,asAddr,Wm,WA,Wh,e2]
theorem yO {rs:List ResultVar} (hrs:fn.results.toList=rs) (tmps:Array Value) (w:World):(results fn tmps).run P w=(((rs.mapM (xr tmps)).run P w).andThen fun vs w'=>.ok (if h:vs.length=1 then vs[0]'(by omega) else .tuple vs.toArray) w'):=by
 have e0:fn.results=rs.toArray:=by rw[←hrs]
 unfold results;rw[e0,Array.mapM_eq_mapM_toList];change (Sem.run P (do
  let vs ←List.toArray <$> List.mapM (xr tmps) rs
  pure (if h:vs.size=1 then vs[0] else Value.tuple vs)) w)=_
 simp only[Wm,Sem.run_map];cases h:(rs.mapM (xr tmps)).run P w with
 | ok vs w' =>
  simp
 | halt x w'=>simp
theorem zhW (h:qT G E σ a R L) {rs:List ResultVar} (hrs:fn.results.toList=rs) {K:C->Prop} (hK:zoG P σ rs K):∃ v c,(results fn a.tmps).run P R.w = .ok v R.w/\Rep R L c v/\K c:=by
 rw[yO hrs];unfold zoG at hK;split at hK
 ·exact ⟨.tuple #[],_,by simp,VL.2 ⟨_,rfl,zm.2 rfl⟩,hK⟩
 ·rename_i x;obtain ⟨v,c,h1,h2,h3⟩:=jl h hK;exact ⟨v,c,by simp[h1],h2,h3⟩
 ·rename_i x y;obtain ⟨v,c,h1,h2,hK⟩:=jl h hK;obtain ⟨v2,c2,g1,g2,hK⟩:=jl h hK;exact ⟨_,_,by simp[h1,g1],VL.2 ⟨#[v,v2],rfl,zg.2 ⟨_,_,rfl,h2,zg.2 ⟨_,_,rfl,g2,zm.2 rfl⟩⟩⟩,hK⟩
 ·rename_i x y z;obtain ⟨v,c,h1,h2,hK⟩:=jl h hK;obtain ⟨v2,c2,g1,g2,hK⟩:=jl h hK;obtain ⟨v3,c3,k1,k2,hK⟩:=jl h hK;exact ⟨_,_,by simp[h1,g1,k1],VL.2 ⟨#[v,v2,v3],rfl,zg.2 ⟨_,_,rfl,h2,zg.2 ⟨_,_,rfl,g2,zg.2 ⟨_,_,rfl,k2,zm.2 rfl⟩⟩⟩⟩,hK⟩
 ·rename_i x y z u;obtain ⟨v,c,h1,h2,hK⟩:=jl h hK;obtain ⟨v2,c2,g1,g2,hK⟩:=jl h hK;obtain ⟨v3,c3,k1,k2,hK⟩:=jl h hK;obtain ⟨v4,c4,l1,l2,hK⟩:=jl h hK;exact ⟨_,_,by simp[h1,g1,k1,l1],VL.2 ⟨#[v,v2,v3,v4],rfl,zg.2 ⟨_,_,rfl,h2,zg.2 ⟨_,_,rfl,g2,zg.2 ⟨_,_,rfl,k2,zg.2 ⟨_,_,rfl,l2,zm.2 rfl⟩⟩⟩⟩⟩,hK⟩
 ·exact hK.elim
def zlj (P:Program) (rs:List ResultVar) (K:C->St->Prop):Exit->St->Prop
 | .normal,σ=>zoG P σ rs fun c=>K c σ
 | .ret,σ=>zoG P σ rs fun c=>K c σ
 | _,_=>False
def UM:Nat->List C->List (Nat×C)
 | _,[]=>[]
 | i,c :: r=>(i,c) :: UM (i+1) r
theorem zaM {R:Env} {L:Loc}:∀ (cs:List C) (vs:List Value) (i:Nat) (f:Nat->Value),zx R L cs vs->(∀ (j:Nat) v,vs[j]?=some v->f (i+j)=v)->∀ t,Rep R L (j7 (UM i cs) t) (f t)
 | [],vs,i,f,h,hf,t=>by unfold UM j7 Rep;trivial
 | c :: r,vs,i,f,h,hf,t=>by
  obtain ⟨v,us,rfl,h1,h2⟩:=zg.1 h;simp only[UM,j7];split
  ·subst_vars
   have:=hf 0 v rfl;rw[O8]at this;rw[this];exact h1
  ·exact zaM r us (i+1) f h2 (fun j v hj=>by
    have:=hf (j+1) v (by simpa using hj);rwa [show i+1+j=i+(j+1) by omega]) t
theorem Ul {L:Loc} {Rr:Ending->World->Prop} {fn:Func} (hE:E.df = []):∀ (l:List Nat) (a:Act) (R:Env),a.defers=l.map Ym->l.Nodup->(∀ d∈l,R.w.heap[d]?=some (.deferred (some []))/\E.w0.heap.size<=d/\¬R.F d)->qT G E σ a R L ->
  (∀ a' R',a'.tmps=a.tmps->qT G E σ a' R' L->∃ v,(results fn a.tmps).run P R'.w = .ok v R'.w/\Rr (.returned v) R'.w)->LeavesInM Fence.wide 0 P fn a.tmps Rr a.defers .returning R.w
 | [],a,R,hd,_,_,hI,hk=>by
  rw[hd];obtain ⟨v,h1,h2⟩:=hk a R rfl hI;exact ⟨v,h1,h2⟩
 | d :: l,a,R,hd,hn,hl,hI,hk=>by
  obtain ⟨h1,h2,h3⟩:=hl d Wj;rw[hd];refine ⟨by simp,.inl ⟨d,_,rfl,run_takeDeferred h1,?_⟩⟩;have hni:=XU (E:=E) (R:=R) (o:=.deferred none) (.inl h2) h3 (fun cs t f hc=>by rw[h1]at hc;cases hc);have hnT:¬XG L d:=fun hb=>by
   obtain ⟨_,_,_,hc⟩:=hI.good.turf hb;rcases hc with ⟨cs,t,f,hc⟩ | ⟨cs,t,hc⟩<;>exact nomatch h1.symm.trans hc
  have hg:=hI.good.stay hni fun b hb=>⟨WW fun e=>hnT (e▸hb),fun _=>Iff.rfl⟩;have hl':∀ x∈l,(R.w.putObj d (.deferred none)).heap[x]?=some (.deferred (some []))/\E.w0.heap.size<=x/\¬R.F x:=fun x hx=>by
   obtain ⟨g1,g2,g3⟩:=hl x (Wk _ hx);exact ⟨(WW fun e:x=d=>(OP.1 hn).1 (by rw[←e];exact hx)).trans g1,g2,g3⟩
  exact Ul hE l { a with defers:=l.map Ym } ⟨R.w.putObj d (.deferred none),R.M,R.F⟩ rfl (OP.1 hn).2 hl'
   ⟨hg,hI.size,⟨l,by rw[hE,Od],(OP.1 hn).2,hl'⟩,fun t=>Rep.ext hni.ext (zR.refl _) _ _ (hI.tm t)⟩ hk
theorem Y1 {h:Hd} {vs:List Value} {K:C->St->Prop} {Rr:Ending->World->Prop} (hm:P.follows .mixedOrders=true) (hf:P.funcs[f]?=some fn) (hb:fn.body=some code) (hok:jT fn.ntmps h.b code=true)
  (hN:E.N=fn.ntmps) (hdf:E.df = []) (hp:E.β0.length<=h.p) (hY:∀ y,h.y=some y->YOk P y E.J) (hA:awp P G h code (zlj P fn.results.toList K) σ)
  (hI:qT G E σ { tmps:=vs.toArray++Array.replicate (fn.ntmps-vs.toArray.size) undef,defers:=[] } R L)
  (hK:∀ σ' a' R' L' v c,K c σ'->qT G E σ' a' R' L'->Rep R' L' c v->Rr (.returned v) R'.w):Calls P f vs.toArray R.w Rr:=by
 refine (callsIn_wide (n:=0)).1 (callsIn_of_wp_marks hf hb trivial (BM (zgv hm code h E none 0 hp hY (fun l0 hl0=>by cases hl0) _ σ _ _ (by rw[hN];exact hok) hA ⟨R,L,rfl,hI⟩) ?_));have fin:∀ a' w' σ',zoG P σ' fn.results.toList (fun c=>K c σ')->Inv G E σ' a' w'->LeavesInM Fence.wide 0 P fn a'.tmps Rr a'.defers .returning w':=by
  rintro a' w' σ' hres ⟨R',L',rfl,hI'⟩;obtain ⟨l,e,hn,hl⟩:=hI'.df;rw[hdf,Od]at e;refine Ul hdf l a' R' e hn hl hI' fun a2 R2 ha hI2=>?_;obtain ⟨v,c,h1,h2,h3⟩:=zhW (fn:=fn) hI2 rfl hres;rw[ha]at h1;exact ⟨v,h1,hK σ' a2 R2 L' v c h3 hI2 h2⟩
 rintro e a' w' ⟨σ',hq,hI'⟩;cases e<;>first | exact hq.elim | exact fin a' w' σ' hq hI'
theorem Vm {vs:List Value} (hN:args.length<=n) (hargs:zx R L args vs):(vs.toArray++Array.replicate (n-vs.toArray.size) undef).size=n/\∀ t,Rep R L (j7 (UM 0 args) t) ((vs.toArray++Array.replicate (n-vs.toArray.size) undef).getD t undef):=by
 have hvl:=zy hargs;refine ⟨by simp;omega,zaM args vs 0 _ hargs fun j v hj=>?_⟩;have hj':j<vs.length:=(Wc.1 hj).1;rw[Ov,Wq,Array.getElem?_append_left (by simpa using hj')];simp[hj]
theorem kz {R R2:Env} {L:Loc} {b:Nat} {vs:Array Value} {ty:TypeId} (he:Ext R R2) (hh:R2.w.heap[b]?=some (.cells vs ty (0,0))) (hM:∀ o,¬R2.M b o):∀ (cs:List C) (us:List Value) (off:Nat),zx R L cs us->vs.toList.drop off=us->(∀ v∈us,v.oneCell'=true)->zP R2 (C.frzL cs) b off
 | [],_,_,_,_,_=>by unfold C.frzL;exact Jo
 | c :: r,us,off,hr,hd,h1=>by
  obtain ⟨v,us',rfl,g1,g2⟩:=zg.1 hr;unfold C.frzL;have hv:vs[off]?=some v:=by
   have:=W3 (xs:=vs.toList) (i:=off) (j:=0);rw[hd]at this;simpa using this.symm
  refine qq.2 ⟨⟨v,?_,hM off,Rep.ext he (zR.refl _) _ _ (g1.frz zU),h1 v Wj⟩,kz he hh hM r us' (off+1) g2 ?_ fun x hx=>h1 x (Wk _ hx)⟩
  ·rw[Ac R2.w b off vs ty (0,0) hh];exact hv
  ·rw[←Aq,hd];rfl
theorem Hh:∀ (n:Nat) (cs:List C),C.frzL (cs.drop n)=(C.frzL cs).drop n
 | 0,_=>rfl
 | n+1,[]=>by simp[C.frzL]
 | n+1,c :: r=>by
  have h:C.frzL (c :: r)=c.frz :: C.frzL r:=by rw[C.frzL]
  rw[h];exact Hh n r
mutual
theorem Rep.fz {R2:Env} {bx:List (List C)} (he:Ext R R2) (hbx:j4 R L bx) (hw:R2.w=R.w) (hM:∀ b∈L.β,∀ o,¬R2.M b o):∀ (c:C) (v:Value),Rep R L c v->Rep R2 L (c.fz bx) v
 | .ptr i off,_,h=>by
  unfold C.fz;obtain ⟨b,hb,e⟩:=JD.1 h;split
  ·rename_i cs hcs;obtain ⟨vs,ty,e1,e2,e3,e4⟩:=hbx.box i b cs hb hcs;refine Jz.2 ⟨b,off,e,?_⟩;rw[←Hh];refine kz (L:=L) he (by rw[hw];exact e1) (hM b (Wf hb)) _ (vs.toList.drop off) off (jg off e2) rfl fun x hx=>e3 x (WU hx)
  ·exact Ur
 | .agg cs,_,h=>by
  unfold C.fz;unfold Rep at h ⊢;obtain ⟨vs,e,hl⟩:=h;exact ⟨vs,e,zx.fz he hbx hw hM cs _ hl⟩
 | .tup cs,_,h=>by
  unfold C.fz;unfold Rep at h ⊢;obtain ⟨vs,e,hl⟩:=h;exact ⟨vs,e,zx.fz he hbx hw hM cs _ hl⟩
 | .clo fn first cap,_,h=>by
  unfold C.fz;unfold Rep at h ⊢;obtain ⟨fs,cs,e,h1,h2⟩:=h;exact ⟨fs,cs,e,zx.fz he hbx hw hM first _ h1,zx.fz he hbx hw hM cap _ h2⟩
 | .sc v,_,h=>Rep.ext he (zR.refl _) _ _ h
 | .str l,_,h=>Rep.ext he (zR.refl _) _ _ h
 | .sl k rows,_,h=>Rep.ext he (zR.refl _) _ _ h
 | .tight k rows,_,h=>Rep.ext he (zR.refl _) _ _ h
 | .own id e k rows,_,h=>Rep.ext he (zR.refl _) _ _ h
 | .mo id t ks vs,_,h=>Rep.ext he (zR.refl _) _ _ h
 | .row cs,_,h=>Rep.ext he (zR.refl _) _ _ h
 | .bs i off k n c,_,h=>by unfold C.fz;exact Ur
 | .any,_,h=>Rep.ext he (zR.refl _) _ _ h
theorem zx.fz {R2:Env} {bx:List (List C)} (he:Ext R R2) (hbx:j4 R L bx) (hw:R2.w=R.w) (hM:∀ b∈L.β,∀ o,¬R2.M b o):∀ (cs:List C) (vs:List Value),zx R L cs vs->zx R2 L (C.fzL bx cs) vs
 | [],_,h=>by unfold C.fzL;rw[zm]at h ⊢;exact h
 | c :: r,_,h=>by
  unfold C.fzL;rw[zg]at h ⊢;obtain ⟨v,us,e,h1,h2⟩:=h;exact ⟨v,us,e,Rep.fz he hbx hw hM c v h1,zx.fz he hbx hw hM r us h2⟩
end
theorem Fun.of_awp {r:C} (b:Nat->List Bool) (hm:P.follows .mixedOrders=true) (hf:P.funcs[f]?=some fn) (hb:fn.body=some code) (hnm:(fn.name == "runtime.NumGoroutine")=false) (hN:args.length<=fn.ntmps) (hok:jT fn.ntmps b code=true)
  (h:awp P G ⟨0,none,b⟩ code (zlj P fn.results.toList fun c σ=>∃ src:Src,Q6 src=true/\src.length=n/\CLe src 0 (c.fz σ.bx) r) ⟨UM 0 args,[],0,0⟩):Fun P G f args r n:=by
 refine ⟨by unfold Xd;rw[hf];simp[hnm,hb],fun R vs hg hargs=>?_⟩
 let E:Ctx:=⟨R.w,R.M,[],fun _=>False,fn.ntmps,[],fun _=>False,fun _=>False,fun _ h=>h,fun _ _=>True,fun _ _ _ _ _=>trivial⟩
 let R0:Env:=⟨R.w,R.M,fun _=>False⟩
 have hx:Ext R R0:=⟨fun _ _ _ h1 h2=>⟨h1,h2⟩,fun _ _ _ _ h1 h2=>⟨h1,h2⟩⟩;have hargs0:zx R0 zU args vs:=zx.ext hx (zR.refl _) _ _ hargs;obtain ⟨i1,i2⟩:=Vm hN hargs0;have hinv:qT G E ⟨UM 0 args,[],0,0⟩ { tmps:=vs.toArray++Array.replicate (fn.ntmps-vs.toArray.size) undef,defers:=[] } R0 zU:=
  ⟨⟨⟨hg.ext hx,⟨rfl,Ae,fun i b cs hi=>(by simp at hi)⟩,⟨fun id e k v ht=>(by cases ht),fun id id' e k v e' k' v' b ht=>(by cases ht)⟩,fun g hg=>.inl hg⟩,rfl,rfl,rfl,Wb _,fun _ _ _ _=>⟨rfl,fun _=>Iff.rfl⟩,⟨fun _ _ _ h1 h2=>⟨h1,h2⟩,fun _ _ _ _ h1 h2=>⟨h1,h2⟩⟩,⟨[],rfl⟩,fun b hb=>(by cases hb),fun _ h=>h.elim,fun _ _=>Iff.rfl,fun b hb=>(by cases hb),fun id e k v b ht=>(by cases ht),fun _ _=>rfl,trivial⟩,i1,⟨[],rfl,Ae,fun d hd=>(by cases hd)⟩,i2⟩
 refine Y1 (E:=E) (R:=R0) hm hf hb hok rfl rfl (Wd _) (fun y hy=>by cases hy) h hinv ?_;rintro σ' a' R' L' v c ⟨src,h3,h4,h5⟩ hI h2;have hgd:=hI.good;have hblk:∀ b,b<R.w.heap.size->R'.w.heap[b]?=R.w.heap[b]?/\∀ o,(R'.M b o↔R.M b o):=fun b hb=>hgd.blk b hb (fun h=>h) fun hF=>(hgd.fz b hb).1 hF;have hx':Ext R' ⟨R'.w,fun b o=>R'.M b o/\b∉L'.β,R.F⟩:=⟨fun _ _ _ h1 h2=>⟨h1,fun h=>h2 h.1⟩,fun _ _ _ _ h1 h2=>⟨h1,fun o h=>h2 o h.1⟩⟩;have how:=UT (β':=[]) h3 (fun b hb=>(by cases hb)) hgd.fit.owns;have hnew:∀ b∈L'.β,R.w.heap.size<=b:=fun b hb=>(hgd.tub b hb).elim id fun g=>g.elim;have hfz:Rep ⟨R'.w,fun b o=>R'.M b o/\b∉L'.β,R.F⟩ L' (c.fz σ'.bx) v:=Rep.fz hx' hgd.fit.boxes rfl (fun b hb o h=>h.2 hb) _ _ h2;refine ⟨v,⟨R'.w,fun b o=>R'.M b o/\b∉L'.β,R.F⟩,Jw src 0 L',rfl,rfl,⟨⟨hgd.os,hgd.tape,hgd.output,hgd.size,fun b hb=>(hblk b hb).1⟩,rfl,by simp,fun b o hb=>?_,fun id hi=>?_,fun id e k v hi hj ht=>?_,fun id id' e k v e' k' v' b hi hi2 hj hj2 h6 h7 h8 h9=>?_⟩,Rep.less _ _ _ h5 hfz⟩
 ·refine ⟨fun h=>((hblk b hb).2 o).1 h.1,fun h=>⟨((hblk b hb).2 o).2 h,fun hx=>?_⟩⟩;have:=hnew b hx;omega
 ·show Vo src L'.T id=none;unfold Vo;rw[WY (by omega)]
 ·have hob:=hgd.fit.owns
  ·refine (how.own id e k v ht).move fun g hv q2 hlt q7=>?_;have hnb:g∉L'.β:=by
    obtain ⟨i,_,hi2⟩:=Xt (R:=R) ht hv;exact ((hob.own i e k v hi2).block hv).2.2
   refine ⟨?_,rfl,q7,fun o ho=>⟨ho,hnb⟩⟩;rcases q2 with q2 | q2
   ·exact q2
   ·exact q2.elim
 ·exact how.apart id id' e k v e' k' v' b h6 h7 h8 h9
theorem Xe.of_awpK {bx:List (List C)} {post:C->List (List C)->Nat->Prop} {K0:C->St->Prop} (b:Nat->List Bool) (hm:P.follows .mixedOrders=true) (hf:P.funcs[f]?=some fn) (hb:fn.body=some code) (hnm:(fn.name == "runtime.NumGoroutine")=false) (hN:args.length<=fn.ntmps) (hok:jT fn.ntmps b code=true)
  (h:awp P G ⟨bx.length,none,b⟩ code (zlj P fn.results.toList K0) ⟨UM 0 args,bx,q,0⟩) (hK0:∀ c σ,K0 c σ->∃ r bx' n,(post r bx' n/\bx.length<=bx'.length)/\∃ src:Src,Q6 src=true/\src.length=n/\zd src bx'.length σ.bx bx'/\CLe src bx'.length c r):Xe P G f args bx q post:=by
 refine ⟨by unfold Xd;rw[hf];simp[hnm,hb],fun R L vs hg hbx how hfree hflt hFT hargs=>?_⟩
 let E:Ctx:=⟨R.w,R.M,L.β,XG L,fn.ntmps,[],fun _=>False,fun b=>b∈L.β,fun _ h=>.inl h,fun _ _=>True,fun _ _ _ _ _=>trivial⟩
 let R0:Env:=⟨R.w,R.M,fun _=>False⟩
 have hx:Ext R R0:=⟨fun _ _ _ h1 h2=>⟨h1,h2⟩,fun _ _ _ _ h1 h2=>⟨h1,h2⟩⟩;have hargs0:zx R0 L args vs:=zx.ext hx (zR.refl _) _ _ hargs;obtain ⟨i1,i2⟩:=Vm hN hargs0;have hinv:qT G E ⟨UM 0 args,bx,q,0⟩ { tmps:=vs.toArray++Array.replicate (fn.ntmps-vs.toArray.size) undef,defers:=[] } R0 L:=by
  refine ⟨⟨⟨hg.ext hx,⟨hbx.len,hbx.nodup,fun i b cs hi hc=>?_⟩,⟨fun id e k v ht=>?_,how.apart⟩,fun g hg=>.inl hg⟩,rfl,rfl,rfl,Wb _,fun _ _ _ _=>⟨rfl,fun _=>Iff.rfl⟩,⟨fun _ _ _ h1 h2=>⟨h1,h2⟩,fun _ _ _ _ h1 h2=>⟨h1,h2⟩⟩,⟨[],by simp[E]⟩,fun b hb=>.inr hb,fun _ h=>h.elim,fun _ _=>Iff.rfl,fun b hb h=>h,fun id e k v b ht hv h=>h,hfree,trivial⟩,i1,⟨[],rfl,Ae,fun d hd=>(by cases hd)⟩,i2⟩
  ·obtain ⟨vs,ty,e1,e2,e3,e4⟩:=hbx.box i b cs hi hc;exact ⟨vs,ty,e1,zx.ext hx (zR.refl _) _ _ e2,e3,e4⟩
  ·exact (how.own id e k v ht).move fun g hv q2 _ q7=>⟨.inr (.inr ⟨id,e,k,v,ht,hv⟩),rfl,q7,fun _ h=>h⟩
 refine Y1 (E:=E) (R:=R0) hm hf hb hok rfl rfl (by show L.β.length<=bx.length;rw[hbx.len];exact Wb _) (fun y hy=>by cases hy) h hinv ?_;rintro σ' a' R' L' v c h0 hI h2;obtain ⟨r,bx',n,⟨hpost,hlen⟩,src,h3,h4,h5,h6⟩:=hK0 _ _ h0;have hgd:=hI.good;have hwk:Yc bx.length ⟨[],σ'.bx,σ'.nx,σ'.lg⟩ ⟨[],bx',n,σ'.lg⟩:=⟨src,h3,h4,hlen,rfl,trivial,h5⟩;have hx':Ext R' ⟨R'.w,R'.M,R.F⟩:=⟨fun _ _ _ h1 h2=>⟨h1,h2⟩,fun _ _ _ _ h1 h2=>⟨h1,h2⟩⟩;have hblen:σ'.bx.length=L'.β.length:=hgd.fit.boxes.len.symm;have hle:bx'.length<=σ'.bx.length:=by
  rcases Wp σ'.bx.length bx'.length with hx | hx
  ·obtain ⟨cs,hc,_⟩:=Xn h5 σ'.bx.length (bx'[σ'.bx.length]) (Wa hx);simp at hc
  ·exact hx
 obtain ⟨more,hm1⟩:=hgd.box;have hm1:L'.β=L.β++more:=hm1;have hbl:=hbx.len;have hown:=UT (β':=L'.β.take bx'.length) h3 (fun b hb=>Ww hb) hgd.fit.owns;have hblk:∀ b,b<R.w.heap.size->¬XG L b->R'.w.heap[b]?=R.w.heap[b]?/\∀ o,(R'.M b o↔R.M b o):=fun b hb hT=>hgd.blk b hb hT fun hF=>(hgd.fz b hb).1 hF;have hcells:∀ b,XG L b->(∃ cs t f,R.w.heap[b]?=some (.cells cs t f))∨∃ es cl,R.w.heap[b]?=some (.map es cl):=fun b hT=>by
  rcases hT with hT | ⟨id,e,k,v,ht,hv⟩
  ·obtain ⟨i,hi,rfl⟩:=Wx hT;obtain ⟨vs,ty,g,_⟩:=hbx.box i L.β[i] (bx[i]'(by omega)) (Wa hi) (Wa (by omega));exact .inl ⟨_,_,_,g⟩
  ·exact (how.own id e k v ht).held hv
 refine ⟨r,bx',n,⟨hpost,hlen⟩,v,⟨R'.w,R'.M,R.F⟩,Jw src bx'.length L',rfl,rfl,⟨hgd.os,hgd.tape,hgd.output,hgd.size,rfl,⟨hgd.ext.cell,hgd.ext.whole⟩,fun b hb=>?_⟩,⟨by simp;omega,hgd.fit.boxes.nodup.sublist (List.take_sublist _ _),fun i b cs' hi hc=>?_⟩,⟨fun id e k v ht=>?_,hown.apart⟩,⟨more.take (bx'.length-L.β.length),?_,fun b hb=>?_⟩,fun id hi=>?_,Rep.ext hx' (zR.refl _) _ _ (Rep.less _ _ _ h6 h2)⟩
 ·by_cases hT:XG L b
  ·exact .inr ⟨.inr hT,hFT b hT,hcells b hT⟩
  ·exact .inl (hblk b hb hT)
 ·obtain ⟨cs,hc1,hc2⟩:=Xn h5 i cs' hc;have hi':L'.β[i]?=some b:=by
   have hi:(L'.β.take bx'.length)[i]?=some b:=hi;rw[WF]at hi;split at hi
   ·exact hi
   ·cases hi
  obtain ⟨vs,ty,e1,e2,e3,e4⟩:=hgd.fit.boxes.box i b cs hi' hc1;exact ⟨vs,ty,e1,zx.ext hx' (zR.refl _) _ _ (zx.less _ _ _ hc2 e2),e3,e4⟩
 ·exact (hown.own id e k v ht).move fun g _ q2 _ q7=>⟨q2,rfl,q7,fun _ h=>h⟩
 ·show L'.β.take bx'.length=_;rw[hm1,AD,Wg (by omega)]
 ·have hb':b∈more:=Ww hb;have hbm:b∈L'.β:=by rw[hm1];exact List.mem_append_right _ hb'
  rcases hgd.tub b hbm with g | g
  ·exact g
  ·have hn:=hgd.fit.boxes.nodup;rw[hm1,Aa]at hn;exact absurd rfl (hn.2.2 b g b hb')
 ·show Vo src L'.T id=none;unfold Vo;rw[WY (by omega)]
theorem Xe.of_awp {bx:List (List C)} {post:C->List (List C)->Nat->Prop} (b:Nat->List Bool) (hm:P.follows .mixedOrders=true) (hf:P.funcs[f]?=some fn) (hb:fn.body=some code) (hnm:(fn.name == "runtime.NumGoroutine")=false) (hN:args.length<=fn.ntmps) (hok:jT fn.ntmps b code=true)
  (h:awp P G ⟨bx.length,none,b⟩ code (zlj P fn.results.toList fun c σ=>∃ r bx' n,(post r bx' n/\bx.length<=bx'.length)/\∃ src:Src,Q6 src=true/\src.length=n/\zd src bx'.length σ.bx bx'/\CLe src bx'.length c r) ⟨UM 0 args,bx,q,0⟩):Xe P G f args bx q post:=
 Xe.of_awpK b hm hf hb hnm hN hok h fun _ _ h=>h
theorem Zb.of_awp {bx bx':List (List C)} {r:C} (b:Nat->List Bool) (hm:P.follows .mixedOrders=true) (hf:P.funcs[f]?=some fn) (hb:fn.body=some code) (hnm:(fn.name == "runtime.NumGoroutine")=false) (hN:args.length<=fn.ntmps) (hok:jT fn.ntmps b code=true) (hlen:bx.length<=bx'.length)
  (h:awp P G ⟨bx.length,none,b⟩ code (zlj P fn.results.toList fun c σ=>∃ src:Src,Q6 src=true/\src.length=n/\zd src bx'.length σ.bx bx'/\CLe src bx'.length c r) ⟨UM 0 args,bx,q,0⟩):Zb P G f args bx q r bx' n:=
 Xe.of_awpK b hm hf hb hnm hN hok h fun c σ h=>⟨r,bx',n,⟨⟨rfl,rfl,rfl⟩,hlen⟩,h⟩
theorem yu.of_awp {first cap:List C} {bx items:List (List C)} (b:Nat->List Bool) (hm:P.follows .mixedOrders=true) (hf:P.funcs[f]?=some fn) (hb:fn.body=some code) (hnm:(fn.name == "runtime.NumGoroutine")=false) (hN:first.length+1+cap.length<=fn.ntmps) (hok:jT fn.ntmps b code=true)
  (h:∀ (l:Nat) (st:Nat->Bool),awp P G ⟨0,some ⟨l,items,st⟩,b⟩ code (zlj P fn.results.toList fun c σ=>zlZ items st σ.lg) ⟨UM 0 (first++[.sc (.func (.yield l) #[] #[])]++cap),bx,0,0⟩):yu P G f first cap bx items:=by
 refine ⟨by unfold Xd;rw[hf];simp[hnm,hb],fun l st J R L us vs hg hbx hT hflt hfb hstab hYk hJ hus hvs=>?_⟩
 let E:Ctx:=⟨R.w,R.M,[],fun b=>b∈L.β,fn.ntmps,[],R.F,fun b=>b∈L.β,fun _ h=>h,J,hstab⟩
 have hargs:zx R L (first++[.sc (.func (.yield l) #[] #[])]++cap) (us++[Value.func (.yield l) #[] #[]]++vs):=zo (zo hus (zg.2 ⟨_,_,rfl,zp.2 rfl,zm.2 rfl⟩)) hvs;obtain ⟨i1,i2⟩:=Vm (n:=fn.ntmps) (by simp;omega) hargs;have hinv:qT G E ⟨UM 0 (first++[.sc (.func (.yield l) #[] #[])]++cap),bx,0,0⟩ { tmps:=(us++[Value.func (.yield l) #[] #[]]++vs).toArray++Array.replicate (fn.ntmps-(us++[Value.func (.yield l) #[] #[]]++vs).toArray.size) undef,defers:=[] } R L:=
  ⟨⟨⟨hg,hbx,⟨fun id e k v ht=>(by rw[hT]at ht;cases ht),fun id id' e k v e' k' v' b ht=>(by rw[hT]at ht;cases ht)⟩,fun g hg=>.inl hg⟩,rfl,rfl,rfl,Wb _,fun _ _ _ _=>⟨rfl,fun _=>Iff.rfl⟩,⟨fun _ _ _ h1 h2=>⟨h1,h2⟩,fun _ _ _ _ h1 h2=>⟨h1,h2⟩⟩,⟨L.β,rfl⟩,fun b hb=>.inr hb,hflt,fun _ _=>Iff.rfl,hfb,fun id e k v b ht=>(by rw[hT]at ht;cases ht),fun id _=>hT id,hJ⟩,i1,⟨[],rfl,Ae,fun d hd=>(by cases hd)⟩,i2⟩
 refine Y1 (E:=E) hm hf hb hok rfl rfl (Wd _) (fun y hy=>by cases hy;exact hYk) (h l st) hinv ?_;rintro σ' a' R' L' v c hend hI h2;exact ⟨v,R',σ'.lg,rfl,rfl,hI.good.log,hend⟩
end
end
section
open Go.RowKit
abbrev Fr:=List (Nat×TypeId×Nat×List (List C)×Nat)
def Uz (nx:Nat):Fr->Nat->Nat->Nat->Nat->Nat->C
 | [],_,_,_,_,_=>.any
 | (i',e,k',rows,cap) :: r,i,off,k,n,c=>if i=i'/\off=0/\k=k'/\n=rows.length/\c=cap then .own nx e k' rows else Uz (nx+1) r i off k n c
theorem xt:∀ (fr:Fr) (nx i off k n c:Nat),Uz nx fr i off k n c = .any∨∃ j e rows,fr[j]?=some (i,e,k,rows,c)/\off=0/\n=rows.length/\Uz nx fr i off k n c = .own (nx+j) e k rows
 | [],nx,i,off,k,n,c=>.inl rfl
 | (i',e,k',rows,cap) :: r,nx,i,off,k,n,c=>by
  unfold Uz;split
  ·rename_i h;obtain ⟨rfl,rfl,rfl,rfl,rfl⟩:=h;exact .inr ⟨0,e,rows,rfl,rfl,rfl,rfl⟩
  ·rcases xt r (nx+1) i off k n c with h | ⟨j,e',rows',h1,h2,h3,h4⟩
   ·exact .inl h
   ·exact .inr ⟨j+1,e',rows',by simpa using h1,h2,h3,by rw[h4,show nx+1+j=nx+(j+1) by omega]⟩
def zbW (fr:Fr) (bx:List (List C)):Prop:=(fr.map (·.1)).Nodup/\∀ x∈fr,∃ cs,bx[x.1]?=some cs/\0<x.2.2.2.2/\x.2.2.2.1.length<=x.2.2.2.2/\x.2.2.2.2<=maxLen/\cs.length=x.2.2.2.2*x.2.2.1/\(∀ r∈x.2.2.2.1,r.length=x.2.2.1)/\(C.frzL cs).take (x.2.2.2.1.length*x.2.2.1)=x.2.2.2.1.flatten
mutual
/-- a result, at the function's end, some boxes being qt into owners -/
def C.fy (nx:Nat) (fr:Fr) (bx:List (List C)):C->C
 | .ptr i off=>if i∈fr.map (·.1) then .any else C.fz bx (.ptr i off)
 | .agg cs=>.agg (C.fyL nx fr bx cs)
 | .tup cs=>.tup (C.fyL nx fr bx cs)
 | .clo fn first cap=>.clo fn (C.fyL nx fr bx first) (C.fyL nx fr bx cap)
 | .bs i off k n c=>Uz nx fr i off k n c
 | .sc v=>.sc v
 | .str l=>.str l
 | .sl k rows=>.sl k rows
 | .tight k rows=>.tight k rows
 | .own id e k rows=>.own id e k rows
 | .mo id t ks vs=>.mo id t ks vs
 | .row cs=>.row cs
 | .any=>.any
def C.fyL (nx:Nat) (fr:Fr) (bx:List (List C)):List C->List C
 | []=>[]
 | c :: r=>c.fy nx fr bx :: C.fyL nx fr bx r
end
def frT (nx:Nat) (fr:Fr) (β:List Nat) (T:Own):Own:=fun id=>if id<nx then T id else match fr[id-nx]? with
 | some (i,e,k,rows,cap)=>(β[i]?).map fun b=>(e,k,.slice (some ⟨b,0,none⟩) rows.length cap)
 | none=>none
def frM (fr:Fr) (β:List Nat) (b o:Nat):Prop:=∃ x∈fr,β[x.1]?=some b/\x.2.2.2.1.length*x.2.2.1<=o
section
variable {P:Program} {G:zq} {E:Ctx} {σ:St}
theorem uF {fr:Fr} {β:List Nat} {T:Own} {id e k:Nat} (h:frT nx fr β T id=some (e,k,v)) :
  (id<nx/\T id=some (e,k,v))∨(nx<=id/\∃ i rows cap b,fr[id-nx]?=some (i,e,k,rows,cap)/\β[i]?=some b/\v = .slice (some ⟨b,0,none⟩) rows.length cap):=by
 unfold frT at h;split at h
 ·exact .inl ⟨by assumption,h⟩
 ·split at h
  ·rename_i i e' k' rows cap hq;cases hb:β[i]? with
   | none=>rw[hb]at h;cases h
   | some b =>
    rw[hb]at h;cases h;exact .inr ⟨by omega,i,rows,cap,b,hq,hb,rfl⟩
  ·cases h
theorem zmN {L':Loc} {fr:Fr} {bx:List (List C)} {B:Nat->Prop} (ho:ZZ B R' L') (hbx:j4 R' L' bx) (hβ:∀ b∈L'.β,B b) (hfr:zbW fr bx) {F:Nat->Prop} :
  ZZ B ⟨R'.w,fun b o=>R'.M b o/\(b∉L'.β∨frM fr L'.β b o),F⟩ ⟨[],frT nx fr L'.β L'.T⟩:=by
 have hold:∀ id e k v b,L'.T id=some (e,k,v)->v.ownB=some b->b∉L'.β:=fun id e k v b ht hv=>((ho.own id e k v ht).block hv).2.2;refine ⟨fun id e k v ht=>?_,fun id id' e k v e' k' v' b ht ht' hv hv'=>?_⟩
 ·rcases uF ht with ⟨_,ht⟩ | ⟨_,i,rows,cap,b,hf,hb,rfl⟩
  ·exact (ho.own id e k v ht).move fun g _ q2 _ q7=>⟨q2,rfl,by simp,fun o ho=>⟨ho,.inl q7⟩⟩
  ·have hmem:=Wf hf;obtain ⟨cs,c1,c2,c3,c4,c5,c6,c7⟩:=hfr.2 _ hmem;obtain ⟨vs,ty,e1,e2,e3,e4⟩:=hbx.box i b cs hb c1;have hl:=zy e2;exact .inr (.inl ⟨b,rows.length,cap,vs,ty,rfl,hβ b (Wf hb),e1,c3,c4,by simpa [c5] using hl,by simp,fun o ho=>⟨e4 o,.inr ⟨_,hmem,hb,ho⟩⟩⟩)
 ·rcases uF ht with ⟨_,ht⟩ | ⟨g1,i,rows,cap,b1,hf,hb,rfl⟩<;>rcases uF ht' with ⟨_,ht'⟩ | ⟨g1',i',rows',cap',b1',hf',hb',rfl⟩
  ·exact ho.apart id id' e k v e' k' v' b ht ht' hv hv'
  ·cases hv';exact absurd (Wf hb') (hold id e k v _ ht hv)
  ·cases hv;exact absurd (Wf hb) (hold id' e' k' v' _ ht' hv')
  ·cases hv;cases hv';have hii:i=i':=(Ab (Wc.1 hb).1 hbx.nodup).1 (hb.trans hb'.symm);subst hii;have hn:=hfr.1;have h1:(fr.map (·.1))[id-nx]?=some i:=by rw[Wy,hf];rfl
   have h2:(fr.map (·.1))[id'-nx]?=some i:=by rw[Wy,hf'];rfl
   have:=(Ab (Wc.1 h1).1 hn).1 (h1.trans h2.symm);omega
theorem Gw {R R2:Env} {L:Loc} {b:Nat} {vs:Array Value} {ty:TypeId} (he:Ext R R2) (hh:R2.w.heap[b]?=some (.cells vs ty (0,0))) {N:Nat} (hM:∀ o,o<N->¬R2.M b o):∀ (cs:List C) (us:List Value) (off:Nat),off+cs.length<=N->zx R L cs us->(∃ z,vs.toList.drop off=us++z)->(∀ v∈us,v.oneCell'=true)->zP R2 (C.frzL cs) b off
 | [],_,_,_,_,_,_=>by unfold C.frzL;exact Jo
 | c :: r,us,off,hN,hr,hd,h1=>by
  obtain ⟨v,us',rfl,g1,g2⟩:=zg.1 hr;obtain ⟨z,hd⟩:=hd;unfold C.frzL;simp only[Wr]at hN;have hv:vs[off]?=some v:=by
   have:=W3 (xs:=vs.toList) (i:=off) (j:=0);rw[hd]at this;simpa using this.symm
  refine qq.2 ⟨⟨v,?_,hM off (by omega),Rep.ext he (zR.refl _) _ _ (g1.frz zU),h1 v Wj⟩,Gw he hh hM r us' (off+1) (by omega) g2 ⟨z,?_⟩ fun x hx=>h1 x (Wk _ hx)⟩
  ·rw[Ac R2.w b off vs ty (0,0) hh];exact hv
  ·rw[←Aq,hd];rfl
theorem xN:∀ (n:Nat) (cs:List C),C.frzL (cs.take n)=(C.frzL cs).take n
 | 0,cs=>by simp[C.frzL]
 | n+1,[]=>by simp[C.frzL]
 | n+1,c :: r=>by
  have h:C.frzL (c :: r)=c.frz :: C.frzL r:=by rw[C.frzL]
  rw[Ax,h,Ax,←xN n r];rw[C.frzL]
theorem ZD {R:Env} {b k:Nat}:∀ (rows:List (List C)) (off:Nat),(∀ r∈rows,r.length=k)->zP R rows.flatten b off->zW R rows k b off
 | [],_,_,_=>by unfold zW;trivial
 | row :: r,off,hk,h=>by
  have hrow:=hk row Wj;rw[OR]at h;unfold zW;refine ⟨hrow,qi fun j c hc=>?_,ZD r (off+k) (fun x hx=>hk x (Wk _ hx)) (qi fun j c hc=>?_)⟩
  ·exact Jm h j c (by rw[Wt (Wc.1 hc).1];exact hc)
  ·have:=Jm h (k+j) c (by rw[WK (by omega),hrow,OW];exact hc);rwa [←Bj]at this
mutual
theorem Rep.fy {R2:Env} {bx:List (List C)} {fr:Fr} {F:Nat->Prop} (he:Ext R R2) (hbx:j4 R L bx) (h2:R2=⟨R.w,fun b o=>R.M b o/\(b∉L.β∨frM fr L.β b o),F⟩) (hfr:zbW fr bx) (hnx:∀ id,nx<=id->L.T id=none):∀ (c:C) (v:Value),Rep R L c v->Rep R2 ⟨L.β,frT nx fr L.β L.T⟩ (c.fy nx fr bx) v
 | .ptr i off,v,h=>by
  unfold C.fy;split
  ·exact Ur
  rename_i hni;unfold C.fz;obtain ⟨b,hb,e⟩:=JD.1 h;split
  ·rename_i cs hcs;obtain ⟨vs,ty,e1,e2,e3,e4⟩:=hbx.box i b cs hb hcs;refine Jz.2 ⟨b,off,e,?_⟩;rw[←Hh];refine kz (L:=L) he (by rw[h2];exact e1) (fun o=>?_) _ (vs.toList.drop off) off (jg off e2) rfl fun x hx=>e3 x (WU hx);rw[h2];rintro ⟨_,h3 | ⟨x,hx,hxb,_⟩⟩
   ·exact h3 (Wf hb)
   ·have:=(Ab (Wc.1 hb).1 hbx.nodup).1 (hb.trans hxb.symm);subst this;exact hni (WQ.2 ⟨x,hx,rfl⟩)
  ·exact Ur
 | .agg cs,_,h=>by
  unfold C.fy;unfold Rep at h ⊢;obtain ⟨vs,e,hl⟩:=h;exact ⟨vs,e,zx.fy he hbx h2 hfr hnx cs _ hl⟩
 | .tup cs,_,h=>by
  unfold C.fy;unfold Rep at h ⊢;obtain ⟨vs,e,hl⟩:=h;exact ⟨vs,e,zx.fy he hbx h2 hfr hnx cs _ hl⟩
 | .clo fn first cap,_,h=>by
  unfold C.fy;unfold Rep at h ⊢;obtain ⟨fs,cs,e,h3,h4⟩:=h;exact ⟨fs,cs,e,zx.fy he hbx h2 hfr hnx first _ h3,zx.fy he hbx h2 hfr hnx cap _ h4⟩
 | .sc v,_,h=>by unfold C.fy;unfold Rep at h ⊢;exact h
 | .str l,_,h=>by unfold C.fy;unfold Rep at h ⊢;exact h
 | .sl k rows,v,h=>by
  unfold C.fy;exact Rep.ext he (zR.none _) (.sl k rows) v (T:=zU) (by unfold Rep at h ⊢;exact h)
 | .tight k rows,v,h=>by
  unfold C.fy;exact Rep.ext he (zR.none _) (.tight k rows) v (T:=zU) (by unfold Rep at h ⊢;exact h)
 | .mo id t ks vs,v,h=>by
  unfold C.fy;unfold Rep at h ⊢;obtain ⟨b,vvs,e,ht,hl⟩:=h;refine ⟨b,vvs,e,?_,zx.ext he (zR.refl _) _ _ hl⟩;have hlt:id<nx:=by
   rcases Wp id nx with q | q
   ·exact q
   ·have:=hnx id q;rw[ht]at this;cases this
  show frT nx fr L.β L.T id=_;unfold frT;rw[if_pos hlt];exact ht
 | .own id e k rows,v,h=>by
  unfold C.fy;have h3:=Rep.ext he (zR.none ⟨L.β,frT nx fr L.β L.T⟩) (.sl k rows) v (T:=zU) (by unfold Rep at h ⊢;exact h.2);unfold Rep at h h3 ⊢;refine ⟨?_,h3⟩;have hlt:id<nx:=by
   rcases Wp id nx with q | q
   ·exact q
   ·have:=hnx id q;rw[h.1]at this;cases this
  show frT nx fr L.β L.T id=_;unfold frT;rw[if_pos hlt];exact h.1
 | .row cs,v,h=>by
  unfold C.fy;exact Rep.ext he (zR.none _) (.row cs) v (T:=zU) (by unfold Rep at h ⊢;exact h)
 | .bs i off k n c,v,h=>by
  unfold C.fy;obtain ⟨b,hb,ad,e,had⟩:=jy.1 h;rcases xt fr nx i off k n c with hq | ⟨j,e',rows,hj,rfl,rfl,hq⟩
  ·rw[hq];exact Ur
  ·rw[hq];have hmem:=Wf hj;obtain ⟨cs,c1,c2,c3,c4,c5,c6,c7⟩:=hfr.2 _ hmem;simp only at c1 c2 c3 c4 c5 c6 c7;obtain ⟨vs,ty,e1,e2,e3,e4⟩:=hbx.box i b cs hb c1;obtain rfl:=had (by omega);unfold Rep;refine ⟨?_,some ⟨b,0,none⟩,c,e,c3,c4,.inr ⟨b,0,rfl,ZD rows 0 c6 ?_⟩⟩
   ·show frT nx fr L.β L.T (nx+j)=_;unfold frT;rw[if_neg (by omega),OW,hj];simp only[hb,Wu,e]
   ·rw[←c7,←xN];have hlen:(cs.take (rows.length*k)).length=rows.length*k:=by
     rw[W2];have:rows.length*k<=c*k:=WM _ c3;omega
    refine Gw (L:=L) (N:=rows.length*k) he (by rw[h2];exact e1) (fun o ho=>?_) _ (vs.toList.take (rows.length*k)) 0 (by omega) (qR _ e2) ⟨vs.toList.drop (rows.length*k),by simp⟩ fun x hx=>e3 x (Ww hx);rw[h2];rintro ⟨_,h3 | ⟨x,hx,hxb,hxo⟩⟩
    ·exact h3 (Wf hb)
    ·have hii:=(Ab (Wc.1 hb).1 hbx.nodup).1 (hb.trans hxb.symm);obtain ⟨j2,hj2,hj2'⟩:=Wx hx;have g1:(fr.map (·.1))[j]?=some i:=by rw[Wy,hj];rfl
     have g2:(fr.map (·.1))[j2]?=some i:=by rw[Wy,Wa hj2,hj2',hii];rfl
     have:=(Ab (Wc.1 g1).1 hfr.1).1 (g1.trans g2.symm);subst this;rw[Wa hj2,hj2']at hj;cases hj;simp only at hxo;omega
 | .any,_,h=>by unfold C.fy;exact Ur
theorem zx.fy {R2:Env} {bx:List (List C)} {fr:Fr} {F:Nat->Prop} (he:Ext R R2) (hbx:j4 R L bx) (h2:R2=⟨R.w,fun b o=>R.M b o/\(b∉L.β∨frM fr L.β b o),F⟩) (hfr:zbW fr bx) (hnx:∀ id,nx<=id->L.T id=none):∀ (cs:List C) (vs:List Value),zx R L cs vs->zx R2 ⟨L.β,frT nx fr L.β L.T⟩ (C.fyL nx fr bx cs) vs
 | [],_,h=>by unfold C.fyL;rw[zm]at h ⊢;exact h
 | c :: r,_,h=>by
  unfold C.fyL;rw[zg]at h ⊢;obtain ⟨v,us,e,h3,h4⟩:=h;exact ⟨v,us,e,Rep.fy he hbx h2 hfr hnx c v h3,zx.fy he hbx h2 hfr hnx r us h4⟩
end
theorem zls {L':Loc} {bx:List (List C)} {m:Nat} {r:C} {fr:Fr} {src:Src} (hbel:Below R.w.heap.size R.w R'.w) (hM:∀ b o,b<R.w.heap.size->(R'.M b o↔R.M b o)) (hnew:∀ b∈L'.β,R.w.heap.size<=b) (hb:j4 R' L' bx) (ho:ZZ (fun g=>R.w.heap.size<=g) R' L')
  (hfree:∀ id,m<=id->L'.T id=none) (hr:Rep R' L' c v) (h:zbW fr bx/\Q6 src=true/\src.length=n/\CLe src 0 (c.fy m fr bx) r):∃ R2 L2,R2.w=R'.w/\qK 0 n R zU R2 L2/\Rep R2 L2 r v:=by
 obtain ⟨hfr,h3,h4,h5⟩:=h
 let R2:Env:=⟨R'.w,fun b o=>R'.M b o/\(b∉L'.β∨frM fr L'.β b o),R.F⟩
 have hx2:Ext R' R2:=⟨fun _ _ _ h1 h2=>⟨h1,fun h=>h2 h.1⟩,fun _ _ _ _ h1 h2=>⟨h1,fun o h=>h2 o h.1⟩⟩;have how:=UT (β':=[]) h3 (fun b hb=>(by cases hb)) (zmN ho hb hnew hfr (nx:=m) (F:=R.F));refine ⟨R2,Jw src 0 ⟨L'.β,frT m fr L'.β L'.T⟩,rfl,⟨hbel,rfl,by simp,fun b o hb=>?_,fun id hi=>?_,fun id e k v hi hj ht=>?_,fun id id' e k v e' k' v' b hi hi2 hj hj2 h6 h7 h8 h9=>?_⟩,Rep.less _ _ _ h5 (Rep.fy hx2 hb rfl hfr hfree _ _ hr)⟩
 ·refine ⟨fun h=>(hM b o hb).1 h.1,fun h=>⟨(hM b o hb).2 h,.inl fun hx=>?_⟩⟩;have:=hnew b hx;omega
 ·show Vo src _ id=none;unfold Vo;rw[WY (by omega)]
 ·exact (how.own id e k v ht).move fun g _ q2 _ q7=>⟨q2,rfl,q7,fun _ h=>h⟩
 ·exact how.apart id id' e k v e' k' v' b h6 h7 h8 h9
theorem Xe.fun {f:FuncId} {args:List C} {r:C} {n:Nat} {post:C->List (List C)->Nat->Prop} (h:Xe P G f args [] 0 post) (hp:∀ c bx m,post c bx m->∃ (fr:Fr) (src:Src),zbW fr bx/\Q6 src=true/\src.length=n/\CLe src 0 (c.fy m fr bx) r):Fun P G f args r n:=by
 refine ⟨h.1,fun R vs hg hargs=>?_⟩;have hx:Ext R ⟨R.w,R.M,fun _=>False⟩:=⟨fun _ _ _ h1 h2=>⟨h1,h2⟩,fun _ _ _ _ h1 h2=>⟨h1,h2⟩⟩;have hnt:∀ b,¬XG zU b:=fun b hb=>by
  rcases hb with hb | ⟨_,_,_,_,ht,_⟩
  ·cases hb
  ·cases ht
 refine (h.2 ⟨R.w,R.M,fun _=>False⟩ zU vs (hg.ext hx) ⟨rfl,Ae,fun i b cs hi=>(by simp at hi)⟩ ⟨fun id e k v ht=>(by cases ht),fun id id' e k v e' k' v' b ht=>(by cases ht)⟩ (fun _ _=>rfl) (fun _ h=>h.elim) (fun b hb=>absurd hb (hnt b)) (zx.ext hx (zR.refl _) _ _ hargs)).mono ?_;rintro e w' ⟨c,bx,m,⟨hpost,_⟩,v,R',L',rfl,rfl,hn,hbx',how',⟨more,hm1,hm2⟩,hfree',hrep⟩;obtain ⟨fr,src,hq⟩:=hp _ _ _ hpost;have hblk:∀ b,b<R.w.heap.size->R'.w.heap[b]?=R.w.heap[b]?/\∀ o,(R'.M b o↔R.M b o):=fun b hb=>(hn.blk b hb).elim id fun q=>by
  rcases q.1 with q | q
  ·have q:R.w.heap.size<=b:=q;omega
  ·exact absurd q (hnt b)
 obtain ⟨R2,L2,g1,g2,g3⟩:=zls (R:=R) ⟨hn.os,hn.tape,hn.output,hn.size,fun b hb=>(hblk b hb).1⟩ (fun b o hb=>(hblk b hb).2 o) (fun b hb=>hm2 b (by rw[hm1]at hb;exact hb)) hbx' ⟨fun id e k v ht=>(how'.own id e k v ht).base fun g q=>q.elim (fun q=>q) fun q=>absurd q (hnt g),how'.apart⟩ hfree' hrep hq;exact ⟨v,R2,L2,rfl,g1,g2,g3⟩
theorem Fun.weak {r r':C} (h:Fun P G f args r n) (hl:CLe [] 0 r r'):Fun P G f args r' 0:=
 ⟨h.1,fun R vs hg ha=>(h.2 R vs hg ha).mono fun e w'=>by
  rintro ⟨v,R',L',e1,e2,hp,hr⟩;refine ⟨v,R',Jw [] 0 L',e1,e2,⟨hp.below,hp.fgn,by simp,hp.mt,fun id _=>rfl,fun id e k v hi hj=>by omega,fun id id' e k v e' k' v' b hi hj=>by omega⟩,Rep.less _ _ _ hl hr⟩⟩
theorem Fun.of_awpF {r:C} (b:Nat->List Bool) (hm:P.follows .mixedOrders=true) (hf:P.funcs[f]?=some fn) (hb:fn.body=some code) (hnm:(fn.name == "runtime.NumGoroutine")=false) (hN:args.length<=fn.ntmps) (hok:jT fn.ntmps b code=true)
  (h:awp P G ⟨0,none,b⟩ code (zlj P fn.results.toList fun c σ=>∃ (fr:Fr) (src:Src),zbW fr σ.bx/\Q6 src=true/\src.length=n/\CLe src 0 (c.fy σ.nx fr σ.bx) r) ⟨UM 0 args,[],0,0⟩):Fun P G f args r n:=by
 refine ⟨by unfold Xd;rw[hf];simp[hnm,hb],fun R vs hg hargs=>?_⟩
 let E:Ctx:=⟨R.w,R.M,[],fun _=>False,fn.ntmps,[],fun _=>False,fun _=>False,fun _ h=>h,fun _ _=>True,fun _ _ _ _ _=>trivial⟩
 let R0:Env:=⟨R.w,R.M,fun _=>False⟩
 have hx:Ext R R0:=⟨fun _ _ _ h1 h2=>⟨h1,h2⟩,fun _ _ _ _ h1 h2=>⟨h1,h2⟩⟩;have hargs0:zx R0 zU args vs:=zx.ext hx (zR.refl _) _ _ hargs;obtain ⟨i1,i2⟩:=Vm hN hargs0;have hinv:qT G E ⟨UM 0 args,[],0,0⟩ { tmps:=vs.toArray++Array.replicate (fn.ntmps-vs.toArray.size) undef,defers:=[] } R0 zU:=
  ⟨⟨⟨hg.ext hx,⟨rfl,Ae,fun i b cs hi=>(by simp at hi)⟩,⟨fun id e k v ht=>(by cases ht),fun id id' e k v e' k' v' b ht=>(by cases ht)⟩,fun g hg=>.inl hg⟩,rfl,rfl,rfl,Wb _,fun _ _ _ _=>⟨rfl,fun _=>Iff.rfl⟩,⟨fun _ _ _ h1 h2=>⟨h1,h2⟩,fun _ _ _ _ h1 h2=>⟨h1,h2⟩⟩,⟨[],rfl⟩,fun b hb=>(by cases hb),fun _ h=>h.elim,fun _ _=>Iff.rfl,fun b hb=>(by cases hb),fun id e k v b ht=>(by cases ht),fun _ _=>rfl,trivial⟩,i1,⟨[],rfl,Ae,fun d hd=>(by cases hd)⟩,i2⟩
 refine Y1 (E:=E) (R:=R0) hm hf hb hok rfl rfl (Wd _) (fun y hy=>by cases hy) h hinv ?_;rintro σ' a' R' L' v c ⟨fr,src,hq⟩ hI h2;have hgd:=hI.good;have hblk:∀ b,b<R.w.heap.size->R'.w.heap[b]?=R.w.heap[b]?/\∀ o,(R'.M b o↔R.M b o):=fun b hb=>hgd.blk b hb (fun h=>h) fun hF=>(hgd.fz b hb).1 hF;obtain ⟨R2,L2,g1,g2,g3⟩:=zls (R:=R) ⟨hgd.os,hgd.tape,hgd.output,hgd.size,fun b hb=>(hblk b hb).1⟩ (fun b o hb=>(hblk b hb).2 o) (fun b hb=>(hgd.tub b hb).elim id fun g=>g.elim) hgd.fit.boxes ⟨fun id e k v ht=>(hgd.fit.owns.own id e k v ht).base fun g q=>q.elim (fun q=>q) fun q=>q.elim,hgd.fit.owns.apart⟩ (fun id hid=>hgd.free id hid) h2 hq;exact ⟨v,R2,L2,rfl,g1,g2,g3⟩
end
end
section
open Go
theorem zoO:lay Tryz.prog 3=some { kind:=LK.int IntKind.i64,size:=1,bytes:=8,zero:=some [Value.int IntKind.i64 (Int.ofNat 0)] }:=by kernel_rfl
theorem ztE:lay Tryz.prog 4=some { kind:=LK.bool,size:=1,bytes:=1,zero:=some [Value.bool false] }:=by kernel_rfl
theorem zrB:lay Tryz.prog 9=some { kind:=LK.str,size:=1,bytes:=16,zero:=some [Value.string ⟨#[]⟩] }:=by kernel_rfl
theorem zrZ:lay Tryz.prog 21=some { kind:=LK.int IntKind.i32,size:=1,bytes:=4,zero:=some [Value.int IntKind.i32 (Int.ofNat 0)] }:=by kernel_rfl
theorem VU:lay Tryz.prog 22=some { kind:=LK.slice 64,size:=1,bytes:=24,zero:=some [Value.slice none 0 0] }:=by kernel_rfl
theorem zrO:lay Tryz.prog 24=some { kind:=LK.struct [(0,1,false),(1,1,false),(2,1,false),(3,1,false)],size:=4,bytes:=48,zero:=some [Value.int IntKind.i64 (Int.ofNat 0),Value.int IntKind.i64 (Int.ofNat 0),Value.int IntKind.i64 (Int.ofNat 0),Value.slice none 0 0] }:=by kernel_rfl
theorem ke:lay Tryz.prog 25=some { kind:=LK.slice 105,size:=1,bytes:=24,zero:=some [Value.slice none 0 0] }:=by kernel_rfl
theorem zsH:lay Tryz.prog 27=some { kind:=LK.struct [(0,1,false),(1,1,false)],size:=2,bytes:=48,zero:=some [Value.slice none 0 0,Value.slice none 0 0] }:=by kernel_rfl
theorem zrT:lay Tryz.prog 29=some { kind:=LK.struct [(0,4,true),(4,2,true)],size:=6,bytes:=96,zero:=some [Value.int IntKind.i64 (Int.ofNat 0),Value.int IntKind.i64 (Int.ofNat 0),Value.int IntKind.i64 (Int.ofNat 0),Value.slice none 0 0,Value.slice none 0 0,Value.slice none 0 0] }:=by kernel_rfl
theorem zjP:lay Tryz.prog 30=some { kind:=LK.slice 9,size:=1,bytes:=24,zero:=some [Value.slice none 0 0] }:=by kernel_rfl
theorem zsL:lay Tryz.prog 34=some { kind:=LK.struct [(0,1,false),(1,1,false),(2,1,false)],size:=3,bytes:=48,zero:=some [Value.int IntKind.i64 (Int.ofNat 0),Value.string ⟨#[]⟩,Value.slice none 0 0] }:=by kernel_rfl
theorem zib:lay Tryz.prog 37=some { kind:=LK.slice 79,size:=1,bytes:=24,zero:=some [Value.slice none 0 0] }:=by kernel_rfl
theorem zsA:lay Tryz.prog 39=some { kind:=LK.struct [(0,1,false),(1,1,false),(2,1,false)],size:=3,bytes:=56,zero:=some [Value.slice none 0 0,Value.slice none 0 0,Value.int IntKind.i64 (Int.ofNat 0)] }:=by kernel_rfl
theorem zss:lay Tryz.prog 41=some { kind:=LK.struct [(0,6,true),(6,3,true),(9,1,false)],size:=10,bytes:=160,zero:=some [Value.int IntKind.i64 (Int.ofNat 0),Value.int IntKind.i64 (Int.ofNat 0),Value.int IntKind.i64 (Int.ofNat 0),Value.slice none 0 0,Value.slice none 0 0,Value.slice none 0 0,Value.slice none 0 0,Value.slice none 0 0,Value.int IntKind.i64 (Int.ofNat 0),Value.int IntKind.i64 (Int.ofNat 0)] }:=by kernel_rfl
theorem zs3:lay Tryz.prog 55=some { kind:=LK.slice 3,size:=1,bytes:=24,zero:=some [Value.slice none 0 0] }:=by kernel_rfl
theorem zsO:lay Tryz.prog 58=some { kind:=LK.struct [(0,1,false),(1,1,false),(2,1,false)],size:=3,bytes:=32,zero:=some [Value.int IntKind.i64 (Int.ofNat 0),Value.string ⟨#[]⟩,Value.int IntKind.i64 (Int.ofNat 0)] }:=by kernel_rfl
theorem Zv:lay Tryz.prog 62=some { kind:=LK.slice 112,size:=1,bytes:=24,zero:=some [Value.slice none 0 0] }:=by kernel_rfl
theorem VG:lay Tryz.prog 64=some { kind:=LK.struct [(0,1,false),(1,1,false),(2,1,false),(3,1,false),(4,1,false),(5,1,false)],size:=6,bytes:=72,zero:=some [Value.int IntKind.i64 (Int.ofNat 0),Value.int IntKind.i64 (Int.ofNat 0),Value.int IntKind.i64 (Int.ofNat 0),Value.string ⟨#[]⟩,Value.int IntKind.i64 (Int.ofNat 0),Value.slice none 0 0] }:=by kernel_rfl
theorem zsr:lay Tryz.prog 68=some { kind:=LK.slice 73,size:=1,bytes:=24,zero:=some [Value.slice none 0 0] }:=by kernel_rfl
theorem zr3:lay Tryz.prog 73=some { kind:=LK.struct [(0,1,false),(1,1,false)],size:=2,bytes:=24,zero:=some [Value.string ⟨#[]⟩,Value.int IntKind.i64 (Int.ofNat 0)] }:=by kernel_rfl
theorem zk7:lay Tryz.prog 79=some { kind:=LK.struct [(0,1,false),(1,1,false),(2,1,false),(3,1,false),(4,1,false)],size:=5,bytes:=64,zero:=some [Value.int IntKind.i64 (Int.ofNat 0),Value.int IntKind.i64 (Int.ofNat 0),Value.string ⟨#[]⟩,Value.string ⟨#[]⟩,Value.string ⟨#[]⟩] }:=by kernel_rfl
theorem zsG:lay Tryz.prog 90=some { kind:=LK.int IntKind.i64,size:=1,bytes:=8,zero:=some [Value.int IntKind.i64 (Int.ofNat 0)] }:=by kernel_rfl
theorem Qg:lay Tryz.prog 105=some { kind:=LK.struct [(0,1,false),(1,1,false),(2,1,false),(3,1,false)],size:=4,bytes:=40,zero:=some [Value.int IntKind.i64 (Int.ofNat 0),Value.int IntKind.i64 (Int.ofNat 0),Value.bool false,Value.string ⟨#[]⟩] }:=by kernel_rfl
theorem YG:lay Tryz.prog 112=some { kind:=LK.struct [(0,1,false),(1,1,false)],size:=2,bytes:=24,zero:=some [Value.string ⟨#[]⟩,Value.int IntKind.i64 (Int.ofNat 0)] }:=by kernel_rfl
theorem zqN:lay Tryz.prog 117=some { kind:=LK.struct [(0,10,true),(10,3,true),(13,1,false)],size:=14,bytes:=224,zero:=some [Value.int IntKind.i64 (Int.ofNat 0),Value.int IntKind.i64 (Int.ofNat 0),Value.int IntKind.i64 (Int.ofNat 0),Value.slice none 0 0,Value.slice none 0 0,Value.slice none 0 0,Value.slice none 0 0,Value.slice none 0 0,Value.int IntKind.i64 (Int.ofNat 0),Value.int IntKind.i64 (Int.ofNat 0),Value.int IntKind.i64 (Int.ofNat 0),Value.string ⟨#[]⟩,Value.slice none 0 0,Value.string ⟨#[]⟩] }:=by kernel_rfl
theorem zpQ:lay Tryz.prog 121=some { kind:=LK.other,size:=1,bytes:=8,zero:=some [Value.nilFunc] }:=by kernel_rfl
theorem zrc:lay Tryz.prog 143=some { kind:=LK.struct [(0,1,false),(1,1,false),(2,1,false)],size:=3,bytes:=40,zero:=some [Value.bool false,Value.slice none 0 0,Value.bool false] }:=by kernel_rfl
theorem zpn:lay Tryz.prog 162=some { kind:=LK.struct [(0,1,false),(1,1,false),(2,1,false),(3,6,true),(9,6,true),(15,3,true),(18,1,false)],size:=19,bytes:=232,zero:=some [Value.string ⟨#[]⟩,Value.string ⟨#[]⟩,Value.string ⟨#[]⟩,Value.int IntKind.i64 (Int.ofNat 0),Value.int IntKind.i64 (Int.ofNat 0),Value.int IntKind.i64 (Int.ofNat 0),Value.string ⟨#[]⟩,Value.int IntKind.i64 (Int.ofNat 0),Value.slice none 0 0,Value.int IntKind.i64 (Int.ofNat 0),Value.int IntKind.i64 (Int.ofNat 0),Value.int IntKind.i64 (Int.ofNat 0),Value.string ⟨#[]⟩,Value.int IntKind.i64 (Int.ofNat 0),Value.slice none 0 0,Value.int IntKind.i64 (Int.ofNat 0),Value.string ⟨#[]⟩,Value.int IntKind.i64 (Int.ofNat 0),Value.bool false] }:=by kernel_rfl
theorem zrx:lay Tryz.prog 178=some { kind:=LK.slice 30,size:=1,bytes:=24,zero:=some [Value.slice none 0 0] }:=by kernel_rfl
theorem zp5:lay Tryz.prog 213=some { kind:=LK.struct [(0,1,false),(1,1,false),(2,1,false)],size:=3,bytes:=40,zero:=some [Value.string ⟨#[]⟩,Value.string ⟨#[]⟩,Value.int IntKind.i64 (Int.ofNat 0)] }:=by kernel_rfl
theorem zpe:lay Tryz.prog 214=some { kind:=LK.array 6 213,size:=18,bytes:=240,zero:=some [Value.string ⟨#[]⟩,Value.string ⟨#[]⟩,Value.int IntKind.i64 (Int.ofNat 0),Value.string ⟨#[]⟩,Value.string ⟨#[]⟩,Value.int IntKind.i64 (Int.ofNat 0),Value.string ⟨#[]⟩,Value.string ⟨#[]⟩,Value.int IntKind.i64 (Int.ofNat 0),Value.string ⟨#[]⟩,Value.string ⟨#[]⟩,Value.int IntKind.i64 (Int.ofNat 0),Value.string ⟨#[]⟩,Value.string ⟨#[]⟩,Value.int IntKind.i64 (Int.ofNat 0),Value.string ⟨#[]⟩,Value.string ⟨#[]⟩,Value.int IntKind.i64 (Int.ofNat 0)] }:=by kernel_rfl
theorem zqg:lay Tryz.prog 215=some { kind:=LK.array 23 9,size:=23,bytes:=368,zero:=some [Value.string ⟨#[]⟩,Value.string ⟨#[]⟩,Value.string ⟨#[]⟩,Value.string ⟨#[]⟩,Value.string ⟨#[]⟩,Value.string ⟨#[]⟩,Value.string ⟨#[]⟩,Value.string ⟨#[]⟩,Value.string ⟨#[]⟩,Value.string ⟨#[]⟩,Value.string ⟨#[]⟩,Value.string ⟨#[]⟩,Value.string ⟨#[]⟩,Value.string ⟨#[]⟩,Value.string ⟨#[]⟩,Value.string ⟨#[]⟩,Value.string ⟨#[]⟩,Value.string ⟨#[]⟩,Value.string ⟨#[]⟩,Value.string ⟨#[]⟩,Value.string ⟨#[]⟩,Value.string ⟨#[]⟩,Value.string ⟨#[]⟩] }:=by kernel_rfl
theorem zqO:lay Tryz.prog 233=some { kind:=LK.slice 37,size:=1,bytes:=24,zero:=some [Value.slice none 0 0] }:=by kernel_rfl
theorem zpY:lay Tryz.prog 236=some { kind:=LK.struct [(0,4,true),(4,1,false),(5,1,false),(6,1,false),(7,3,true),(10,1,false)],size:=11,bytes:=120,zero:=some [Value.int IntKind.i64 (Int.ofNat 0),Value.int IntKind.i64 (Int.ofNat 0),Value.int IntKind.i64 (Int.ofNat 0),Value.slice none 0 0,Value.bool false,Value.bool false,Value.slice none 0 0,Value.int IntKind.i64 (Int.ofNat 0),Value.string ⟨#[]⟩,Value.int IntKind.i64 (Int.ofNat 0),Value.int IntKind.i64 (Int.ofNat 0)] }:=by kernel_rfl
theorem zqk:lay Tryz.prog 261=some { kind:=LK.int IntKind.u64,size:=1,bytes:=8,zero:=some [Value.int IntKind.u64 (Int.ofNat 0)] }:=by kernel_rfl
theorem zri:lay Tryz.prog 262=some { kind:=LK.array 14 9,size:=14,bytes:=224,zero:=some [Value.string ⟨#[]⟩,Value.string ⟨#[]⟩,Value.string ⟨#[]⟩,Value.string ⟨#[]⟩,Value.string ⟨#[]⟩,Value.string ⟨#[]⟩,Value.string ⟨#[]⟩,Value.string ⟨#[]⟩,Value.string ⟨#[]⟩,Value.string ⟨#[]⟩,Value.string ⟨#[]⟩,Value.string ⟨#[]⟩,Value.string ⟨#[]⟩,Value.string ⟨#[]⟩] }:=by kernel_rfl
theorem zpU:lay Tryz.prog 266=some { kind:=LK.struct [(0,1,false),(1,1,false),(2,1,false)],size:=3,bytes:=3,zero:=some [Value.bool false,Value.bool false,Value.bool false] }:=by kernel_rfl
theorem zrj:lay Tryz.prog 267=some { kind:=LK.array 11 266,size:=33,bytes:=33,zero:=some [Value.bool false,Value.bool false,Value.bool false,Value.bool false,Value.bool false,Value.bool false,Value.bool false,Value.bool false,Value.bool false,Value.bool false,Value.bool false,Value.bool false,Value.bool false,Value.bool false,Value.bool false,Value.bool false,Value.bool false,Value.bool false,Value.bool false,Value.bool false,Value.bool false,Value.bool false,Value.bool false,Value.bool false,Value.bool false,Value.bool false,Value.bool false,Value.bool false,Value.bool false,Value.bool false,Value.bool false,Value.bool false,Value.bool false] }:=by kernel_rfl
theorem zqA:lay Tryz.prog 277=some { kind:=LK.struct [(0,1,false),(1,1,false)],size:=2,bytes:=48,zero:=some [Value.slice none 0 0,Value.slice none 0 0] }:=by kernel_rfl
theorem zpG:lay Tryz.prog 278=some { kind:=LK.slice 277,size:=1,bytes:=24,zero:=some [Value.slice none 0 0] }:=by kernel_rfl
theorem zpC:lay Tryz.prog 293=some { kind:=LK.other,size:=1,bytes:=8,zero:=some [Value.nilFunc] }:=by kernel_rfl
theorem zpx:lay Tryz.prog 310=some { kind:=LK.other,size:=1,bytes:=8,zero:=some [Value.nilFunc] }:=by kernel_rfl
theorem zsd:Uv Tryz.prog 7=some [LK.int IntKind.i64,LK.int IntKind.i64,LK.bool,LK.int IntKind.u8]:=by kernel_rfl
theorem zs7:Uv Tryz.prog 8=some [LK.int IntKind.i64,LK.int IntKind.i64,LK.bool,LK.int IntKind.u8]:=by kernel_rfl
theorem zpF:Uv Tryz.prog 57=some [LK.int IntKind.i64,LK.str,LK.int IntKind.i64]:=by kernel_rfl
theorem zpE:Uv Tryz.prog 58=some [LK.int IntKind.i64,LK.str,LK.int IntKind.i64]:=by kernel_rfl
theorem zpd:Uv Tryz.prog 72=some [LK.str,LK.int IntKind.i64]:=by kernel_rfl
theorem zrq:Uv Tryz.prog 73=some [LK.str,LK.int IntKind.i64]:=by kernel_rfl
theorem zpl:Uv Tryz.prog 78=some [LK.int IntKind.i64,LK.int IntKind.i64,LK.str,LK.str,LK.str]:=by kernel_rfl
theorem zqQ:Uv Tryz.prog 79=some [LK.int IntKind.i64,LK.int IntKind.i64,LK.str,LK.str,LK.str]:=by kernel_rfl
theorem zmi:Uv Tryz.prog 104=some [LK.int IntKind.i64,LK.int IntKind.i64,LK.bool,LK.str]:=by kernel_rfl
theorem zmx:Uv Tryz.prog 105=some [LK.int IntKind.i64,LK.int IntKind.i64,LK.bool,LK.str]:=by kernel_rfl
theorem zno:Uv Tryz.prog 111=some [LK.str,LK.int IntKind.i64]:=by kernel_rfl
theorem znu:Uv Tryz.prog 112=some [LK.str,LK.int IntKind.i64]:=by kernel_rfl
theorem znr:Uv Tryz.prog 131=some [LK.int IntKind.i64,LK.int IntKind.i64]:=by kernel_rfl
theorem zmv:Uv Tryz.prog 132=some [LK.int IntKind.i64,LK.int IntKind.i64]:=by kernel_rfl
theorem zmr:Uv Tryz.prog 212=some [LK.str,LK.str,LK.int IntKind.i64]:=by kernel_rfl
theorem zmF:Uv Tryz.prog 213=some [LK.str,LK.str,LK.int IntKind.i64]:=by kernel_rfl
theorem zoo:Uv Tryz.prog 227=some [LK.bool,LK.bool]:=by kernel_rfl
theorem zm6:Uv Tryz.prog 228=some [LK.bool,LK.bool]:=by kernel_rfl
theorem zlU:Uv Tryz.prog 265=some [LK.bool,LK.bool,LK.bool]:=by kernel_rfl
theorem znM:Uv Tryz.prog 266=some [LK.bool,LK.bool,LK.bool]:=by kernel_rfl
theorem zmI:Uv Tryz.prog 302=some [LK.int IntKind.u8,LK.int IntKind.u8]:=by kernel_rfl
theorem zmf:Uv Tryz.prog 303=some [LK.int IntKind.u8,LK.int IntKind.u8]:=by kernel_rfl
theorem znw:zdj Tryz.prog 209=some (MKd.int IntKind.i64,C.sc (Value.int IntKind.i64 (Int.ofNat 0))):=by kernel_rfl
theorem zme:zdj Tryz.prog 210=some (MKd.int IntKind.i64,C.sc Value.nilFunc):=by kernel_rfl
theorem znY:zdj Tryz.prog 231=some (MKd.int IntKind.i64,C.sc Value.nilFunc):=by kernel_rfl
attribute [push_cast] zoO ztE zrB zrZ VU zrO ke zsH zrT zjP zsL zib zsA zss zs3 zsO Zv VG zsr zr3 zk7 zsG Qg YG zqN zpQ zrc zpn zrx zp5 zpe zqg zqO zpY zqk zri zpU zrj zqA zpG zpC zpx zsd zs7 zpF zpE zpd zrq zpl zqQ zmi zmx zno znu znr zmv zmr zmF zoo zm6 zlU znM zmI zmf znw zme znY
end
end Go.Proofs.YtnpdbhbmakdklaaGreatDoor.Vcg
