/- What the proof of RmsTrue leans on, part 6: Ron Rdo Rfi Rsm Rtr. No condition beyond what each theorem states. -/
import Derived.Test.YtlkjpfiancahiaaGreatDoorRmsTrueKe
set_option linter.unusedVariables false
set_option linter.unusedSimpArgs false
set_option linter.unusedSectionVars false
set_option maxRecDepth 100000
set_option maxHeartbeats 4000000
namespace Go.Proofs.YtlkjpfiancahiaaGreatDoor.Vcg
section
open CA CB
open Go.RowKit
theorem Za {f:FsV} {follow:Bool} {lk:zn->zn->YC->Bool->zV×Int} (hl:∀ x d r dir,(lk x d r dir).2≠0->(lk x d r dir).1=qd):∀ (l:YC) (s:zV) (dir:Bool),(onL f follow lk l s dir).2≠0->(onL f follow lk l s dir).1=qd
 | [],s,dir,h=>by
  unfold onL at h ⊢
  split at h
  ·rename_i q;rw[if_pos q]
  ·exact absurd rfl h
 | n :: r,s,dir,h=>by
  unfold onL at h ⊢
  by_cases h1:s.ino=0
  ·rw[if_pos h1]
  rw[if_neg h1]at h ⊢
  by_cases h2:(ze s.ino f.xs).kind=2
  case neg=>rw[if_pos h2]
  rw[if_neg (fun q=>q h2)]at h ⊢
  by_cases h3:n = [46]
  ·rw[if_pos h3]at h ⊢;exact Za hl r _ dir h
  rw[if_neg h3]at h ⊢
  by_cases h4:n = [46,46]
  ·rw[if_pos h4]at h ⊢;exact Za hl r _ dir h
  rw[if_neg h4]at h ⊢
  split at h
  ·rename_i h5
   rw[if_pos h5]
   exact Za hl r _ dir h
  ·rename_i h5
   rw[if_neg h5]
   exact hl _ _ _ _ h
theorem Gp {f:FsV} {follow:Bool}:∀ (k:Nat) (l:YC) (s:zV) (dir:Bool),(onN f follow k l s dir).2≠0->(onN f follow k l s dir).1=qd
 | 0,l,s,dir,h=>Za (fun _ _ _ _ _=>rfl) l s dir h
 | k+1,l,s,dir,h=>Za (fun x d r dir h=>by
   split at h
   ·rename_i hn;rw[if_pos hn]
   ·rename_i hn
    rw[if_neg hn]
    exact Gp k _ _ _ h) l s dir h
theorem zcQ {f:FsV} {b p:List UInt8} {follow:Bool} (h:(zD f b p follow).2≠0):(zD f b p follow).1=qd:=by
 unfold zD at h ⊢
 split
 ·rfl
 ·rename_i h1
  rw[if_neg h1]at h
  split
  ·rfl
  ·rename_i h2
   rw[if_neg h2]at h
   split
   ·rename_i h3
    rw[if_pos h3]at h
    exact Gp _ _ _ _ h
   ·rename_i h3
    rw[if_neg h3]at h
    split
    ·rfl
    ·rename_i h4
     rw[if_neg h4]at h
     exact Gp _ _ _ _ h
theorem zjd {n:Int} {xs:List zn} (h:zt n xs=false):ze n xs=kH:=by unfold ze;rw[(Jk h).1];rfl
theorem zhf {f:FsV} (hi:FsI f) (b p:List UInt8):QP f b p=(qk p&&decide ((ze (zD f b (XN p) false).1.ino f.xs).kind=3)):=by
 unfold QP
 by_cases h:(zD f b (XN p) false).2=0
 ·rw[decide_eq_true h,Bool.and_true]
 ·have e:=zcQ h
  have hz:zt qd.ino f.xs=false:=by
   cases hq:zt qd.ino f.xs with
   | false=>rfl
   | true=>exact absurd rfl (Vn hi hq)
  rw[decide_eq_false h,e,zjd hz]
  simp[show ¬kH.kind=3 by decide]
theorem zjo (p:List UInt8) (hp:p.length<=2000):Fun Tryz.prog G0 72 [.str p] (.str (XN p)) 0:=by
 have hns:=qf p
 have hre:=Y7 p (by omega)
 unfold VI at hre
 change Fun _ _ _ _ (.agg [qu (YH p),.own 0 9 1 (zJ (zi p)),qu (qk p)]) _ at hre
 by_cases h:zi p = []
 ·have e:XN p=p:=if_pos h
  rw[h]at hre
  refine fon Tryz.func72 ?_;dsimp only[Tryz.f72]
  push_cast -dsimp
  refine cl (hre) ?_;push_cast -dsimp
  exact dn (by push_cast -dsimp [zb,za,CLe,zd,e])
 ·have e:XN p=put (YH p) (zi p) false:=if_neg h
  have hl:(((zi p).length:Int)=0)=False:=eq_false (by have:=List.length_pos_iff.2 h;omega)
  have hsl:(zJ (zi p)).length=(zi p).length:=List.length_map ..
  have hpu:=za1 (YH p) (zi p) false (by omega) (by have:=Xa p;have:=ZD h;omega)
  refine fon Tryz.func72 ?_;dsimp only[Tryz.f72]
  push_cast -dsimp
  refine cl (hre) ?_;push_cast -dsimp [hl,hsl]
  refine cl (hpu) ?_;push_cast -dsimp
  exact dn (by push_cast -dsimp [zb,za,CLe,zd,e])
abbrev zqv (k:Int) (o:List UInt8) (ops:List (List UInt8)):C:=.agg [.sc (.int .i64 k),.str o,.sl 1 (zJ ops)]
theorem zgZ (D:zH) (hG:RmG 2000 D) (b:List UInt8) (k:Int) (o:List UInt8) (ops:List (List UInt8)) (p:List UInt8) (hb:b.length<=100000) (ho:o.length<=1000) (hp:p.length<=1000):Fun Tryz.prog G0 37 [.agg (fsC D.w.fs),.str b,zqv k o ops,.str p] (.tup [.agg (fsC (zcP b o D.w.fs p)),.sc (.int .i64 (Xt D.w.fs b o p).1),.sc (.int .i64 (if (Xt D.w.fs b o p).1=0 then 0 else (Xt D.w.fs b o p).2.1))]) 0:=by
 have hf:=hG.c.wi.fs
 have hr:=hG.c.wr.fs
 have hx:=hG.b.node
 have hs:FsS D.w.fs:=⟨by have:=hG.b.len;omega,fun x q=>by obtain ⟨q1,q2,q3⟩:=hx x q;exact ⟨by omega,by omega,fun e he=>by have:=q3 e he;omega⟩⟩
 have hba:=vG p (by omega) (HE p)
 have key:∀ (v:Int×Int×Bool) (F:FsV),Xt D.w.fs b o p=v->zcP b o D.w.fs p=F->Fun Tryz.prog G0 37 [.agg (fsC D.w.fs),.str b,zqv k o ops,.str p] (.tup [.agg (fsC F),.sc (.int .i64 v.1),.sc (.int .i64 (if v.1=0 then 0 else v.2.1))]) 0->Fun Tryz.prog G0 37 [.agg (fsC D.w.fs),.str b,zqv k o ops,.str p] (.tup [.agg (fsC (zcP b o D.w.fs p)),.sc (.int .i64 (Xt D.w.fs b o p).1),.sc (.int .i64 (if (Xt D.w.fs b o p).1=0 then 0 else (Xt D.w.fs b o p).2.1))]) 0:=fun v F h1 h2 h=>by rw[h1,h2];exact h
 have keep:∀ {w e:Int},Xt D.w.fs b o p=(w,e,false)->zcP b o D.w.fs p=D.w.fs:=fun h=>by unfold zcP;rw[h];rfl
 by_cases c1:Jt p = [47]
 ·have c1':=eq_true c1
  have e:Xt D.w.fs b o p=(4,0,false):=if_pos c1
  refine key _ _ e (keep e) ?_
  refine fon Tryz.func37 ?_;dsimp only[Tryz.f37]
  push_cast -dsimp
  refine cl (hba) ?_;push_cast -dsimp [c1']
  exact dn (by push_cast -dsimp [zb,za,CLe,zd])
 have c1':=eq_false c1
 have e1:Xt D.w.fs b o p=_:=if_neg c1
 by_cases c2:Jt p = [46]
 ·have c2':=eq_true c2
  have e:=e1.trans (if_pos (.inl c2))
  refine key _ _ e (keep e) ?_
  refine fon Tryz.func37 ?_;dsimp only[Tryz.f37]
  push_cast -dsimp
  refine cl (hba) ?_;push_cast -dsimp [c1',c2']
  exact dn (by push_cast -dsimp [zb,za,CLe,zd])
 have c2':=eq_false c2
 by_cases c3:Jt p = [46,46]
 ·have c3':=eq_true c3
  have e:=e1.trans (if_pos (.inr c3))
  refine key _ _ e (keep e) ?_
  refine fon Tryz.func37 ?_;dsimp only[Tryz.f37]
  push_cast -dsimp
  refine cl (hba) ?_;push_cast -dsimp [c1',c2',c3']
  exact dn (by push_cast -dsimp [zb,za,CLe,zd])
 have c3':=eq_false c3
 have e2:=e1.trans (if_neg (by rintro (q | q);exact c2 q;exact c3 q))
 have hsk:=Nk D.w.fs hf hs b p false (by omega) (by omega)
 have h102:=Qg o 102 (by omega)
 have hE:zbH D.w.fs b p=if (zD D.w.fs b p false).2=0/\(zD D.w.fs b p false).1.ino=0 then 1 else (zD D.w.fs b p false).2:=rfl
 by_cases c4:(zD D.w.fs b p false).2=0
 case neg =>
  have c4':=eq_false c4
  rw[if_neg (fun q=>c4 q.1)]at hE
  have hE0:zbH D.w.fs b p≠0:=by rw[hE];exact c4
  have e3:=e2.trans (if_pos hE0)
  rw[hE]at e3
  by_cases c6:(102:UInt8)∈o
  ·rw[decide_eq_true c6]at h102
   by_cases c7:(zD D.w.fs b p false).2=1
   ·rw[if_pos ⟨c6,.inl c7⟩]at e3
    refine key _ _ e3 (keep e3) ?_
    rw[c7]at hsk
    refine fon Tryz.func37 ?_;dsimp only[Tryz.f37]
    push_cast -dsimp
    refine cl (hba) ?_;push_cast -dsimp [c1',c2',c3']
    refine cl (hsk) ?_;push_cast -dsimp
    refine cl (h102) ?_;push_cast -dsimp
    exact dn (by push_cast -dsimp [zb,za,CLe,zd])
   ·have c7':=eq_false c7
    by_cases c8:(zD D.w.fs b p false).2=3
    ·rw[if_pos ⟨c6,.inr c8⟩]at e3
     refine key _ _ e3 (keep e3) ?_
     rw[c8]at hsk
     refine fon Tryz.func37 ?_;dsimp only[Tryz.f37]
     push_cast -dsimp
     refine cl (hba) ?_;push_cast -dsimp [c1',c2',c3']
     refine cl (hsk) ?_;push_cast -dsimp
     refine cl (h102) ?_;push_cast -dsimp
     exact dn (by push_cast -dsimp [zb,za,CLe,zd])
    ·have c8':=eq_false c8
     rw[if_neg (fun q=>q.2.elim c7 c8)]at e3
     refine key _ _ e3 (keep e3) ?_
     refine fon Tryz.func37 ?_;dsimp only[Tryz.f37]
     push_cast -dsimp
     refine cl (hba) ?_;push_cast -dsimp [c1',c2',c3']
     refine cl (hsk) ?_;push_cast -dsimp [c4',c7',c8']
     refine cl (h102) ?_;push_cast -dsimp [c4',c7',c8']
     exact dn (by push_cast -dsimp [zb,za,CLe,zd])
  ·rw[decide_eq_false c6]at h102
   rw[if_neg (fun q=>c6 q.1)]at e3
   refine key _ _ e3 (keep e3) ?_
   refine fon Tryz.func37 ?_;dsimp only[Tryz.f37]
   push_cast -dsimp
   refine cl (hba) ?_;push_cast -dsimp [c1',c2',c3']
   refine cl (hsk) ?_;push_cast -dsimp [c4']
   refine cl (h102) ?_;push_cast -dsimp
   exact dn (by push_cast -dsimp [zb,za,CLe,zd])
 rw[c4]at hsk
 by_cases c5:(zD D.w.fs b p false).1.ino=0
 ·have c5':=eq_true c5
  rw[if_pos ⟨c4,c5⟩]at hE
  have hE0:zbH D.w.fs b p≠0:=by rw[hE];decide
  have e3:=e2.trans (if_pos hE0)
  rw[hE]at e3
  by_cases c6:(102:UInt8)∈o
  ·rw[decide_eq_true c6]at h102
   rw[if_pos ⟨c6,.inl rfl⟩]at e3
   refine key _ _ e3 (keep e3) ?_
   refine fon Tryz.func37 ?_;dsimp only[Tryz.f37]
   push_cast -dsimp
   refine cl (hba) ?_;push_cast -dsimp [c1',c2',c3']
   refine cl (hsk) ?_;push_cast -dsimp [c5']
   refine cl (h102) ?_;push_cast -dsimp
   exact dn (by push_cast -dsimp [zb,za,CLe,zd])
  ·rw[decide_eq_false c6]at h102
   rw[if_neg (fun q=>c6 q.1)]at e3
   refine key _ _ e3 (keep e3) ?_
   refine fon Tryz.func37 ?_;dsimp only[Tryz.f37]
   push_cast -dsimp
   refine cl (hba) ?_;push_cast -dsimp [c1',c2',c3']
   refine cl (hsk) ?_;push_cast -dsimp [c5']
   refine cl (h102) ?_;push_cast -dsimp
   exact dn (by push_cast -dsimp [zb,za,CLe,zd])
 have c5':=eq_false c5
 rw[if_neg (fun q=>c5 q.2),c4]at hE
 have e3:=e2.trans (if_neg (fun q=>q hE))
 have hen:=zjo p (by omega)
 have hel:(XN p).length<=1000:=by
  by_cases h:zi p = []
  ·rw[show XN p=p from if_pos h];exact hp
  ·exact Nat.le_trans (yY p h) hp
 have hs2:=Nk D.w.fs hf hs b (XN p) false (by omega) (by omega)
 have hg2:=qN (G:=G0) D.w.fs (zD D.w.fs b (XN p) false).1.ino (by have:=hs.len;omega)
 have hre:=Y7 p (by omega)
 unfold VI at hre
 change Fun _ _ _ _ (.agg [qu (YH p),.own 0 9 1 (zJ (zi p)),qu (qk p)]) _ at hre
 have hg:=qN (G:=G0) D.w.fs (zD D.w.fs b p false).1.ino (by have:=hs.len;omega)
 have h114:=Qg o 114 (by omega)
 have h100:=Qg o 100 (by omega)
 have es:=zhf hf b p
 rw[es]at e3
 generalize (ze (zD D.w.fs b (XN p) false).1.ino D.w.fs.xs)=Y at *
 generalize (zD D.w.fs b (XN p) false)=T2 at *
 have hY:=e3
 by_cases c6:qk p=true/\Y.kind=3
 ·have k3:=eq_true c6.2
  rw[c6.1,decide_eq_true c6.2]at e3
  have e4:=e3.trans (if_pos rfl)
  refine key _ _ e4 (keep e4) ?_
  rw[c6.1]at hre
  refine fof (fun i=>if i=13 then jh 8 9 else []) Tryz.func37 ?_;dsimp only[Tryz.f37]
  push_cast -dsimp
  refine cl (hba) ?_;push_cast -dsimp [c1',c2',c3']
  refine cl (hsk) ?_;push_cast -dsimp [c5']
  refine cl (hen) ?_;push_cast -dsimp
  refine cl (hs2) ?_;push_cast -dsimp
  refine cl (hg2) ?_;push_cast -dsimp
  refine cl (hre) ?_;push_cast -dsimp [k3]
  exact dn (by push_cast -dsimp [zb,za,CLe,zd])
 have c6':(qk p&&decide (Y.kind=3))=false:=by
  cases hq:qk p with
  | false=>rfl
  | true=>exact decide_eq_false fun q=>c6 ⟨hq,q⟩
 rw[c6']at e3
 have e4:=e3.trans (if_neg (by simp))
 have hfl:∀ {e:Int},Xt D.w.fs b o p=(0,e,true)->zcP b o D.w.fs p=rmR D.w.fs.xs.length D.w.fs (zD D.w.fs b p false).1:=fun h=>by unfold zcP;rw[h];rfl
 have hrm:zdw o (ze (zD D.w.fs b p false).1.ino D.w.fs.xs)=0->Fun Tryz.prog G0 75 [.agg (fsC D.w.fs),.agg (jq (zD D.w.fs b p false).1),.sc (.int .i64 D.w.fs.xs.length)] (.agg (fsC (rmR D.w.fs.xs.length D.w.fs (zD D.w.fs b p false).1))) 0:=fun c7=>by
  have e5:=e4.trans (if_neg (fun q=>q c7))
  have ht:=Us hf hr (b:=b) (o:=o) (p:=p) (by rw[e5])
  have hm:=XA hr ht
  have hok:=hG.ok
  obtain ⟨ns,n1,n2,n3⟩:=uz hok ht.has ht.kind
  exact Vt _ (by have:=hG.b.len;omega) D _ ns hG.b hG.c ht n3 n1 (zfD hok (zI.ino hf ht))
 have hxl:(zq D.w.fs.xs).length=D.w.fs.xs.length:=List.length_map ..
 have hW:zdw o (ze (zD D.w.fs b p false).1.ino D.w.fs.xs)=if (ze (zD D.w.fs b p false).1.ino D.w.fs.xs).kind≠2∨(114:UInt8)∈o then 0 else if (100:UInt8)∉o then 4 else if (ze (zD D.w.fs b p false).1.ino D.w.fs.xs).es≠[] then 5 else 0:=rfl
 have hel2:(z6 (ze (zD D.w.fs b p false).1.ino D.w.fs.xs).es).length=(ze (zD D.w.fs b p false).1.ino D.w.fs.xs).es.length:=List.length_map ..
 generalize (ze (zD D.w.fs b p false).1.ino D.w.fs.xs)=X at *
 cases hq:qk p
 all_goals
  rw[hq]at hre c6'
  have k3:(Y.kind=3)=(Y.kind=3):=rfl
  try (have k3:(Y.kind=3)=False:=eq_false (of_decide_eq_false c6'))
  by_cases d1:X.kind=2
  case neg =>
   have d1':=eq_false d1
   rw[if_pos (.inl d1)]at hW
   rw[hW]at e4
   have e5:=e4.trans (if_neg (fun q=>q rfl))
   refine key _ _ e5 (hfl e5) ?_
   have hrm:=hrm hW
   refine fof (fun i=>if i=13 then jh 8 9 else []) Tryz.func37 ?_;dsimp only[Tryz.f37]
   push_cast -dsimp
   refine cl (hba) ?_;push_cast -dsimp [c1',c2',c3']
   refine cl (hsk) ?_;push_cast -dsimp [c5']
   refine cl (hen) ?_;push_cast -dsimp
   refine cl (hs2) ?_;push_cast -dsimp
   refine cl (hg2) ?_;push_cast -dsimp
   refine cl (hre) ?_;push_cast -dsimp [k3]
   refine cl (hg) ?_;push_cast -dsimp [d1',hxl]
   refine cl (hrm) ?_;push_cast -dsimp
   exact dn (by push_cast -dsimp [zb,za,CLe,zd])
  have d1':=eq_true d1
  by_cases d2:(114:UInt8)∈o
  ·rw[if_pos (.inr d2)]at hW
   rw[decide_eq_true d2]at h114
   rw[hW]at e4
   have e5:=e4.trans (if_neg (fun q=>q rfl))
   refine key _ _ e5 (hfl e5) ?_
   have hrm:=hrm hW
   refine fof (fun i=>if i=13 then jh 8 9 else []) Tryz.func37 ?_;dsimp only[Tryz.f37]
   push_cast -dsimp
   refine cl (hba) ?_;push_cast -dsimp [c1',c2',c3']
   refine cl (hsk) ?_;push_cast -dsimp [c5']
   refine cl (hen) ?_;push_cast -dsimp
   refine cl (hs2) ?_;push_cast -dsimp
   refine cl (hg2) ?_;push_cast -dsimp
   refine cl (hre) ?_;push_cast -dsimp [k3]
   refine cl (hg) ?_;push_cast -dsimp [d1']
   refine cl (h114) ?_;push_cast -dsimp [hxl]
   refine cl (hrm) ?_;push_cast -dsimp
   exact dn (by push_cast -dsimp [zb,za,CLe,zd])
  rw[decide_eq_false d2]at h114
  rw[if_neg (fun q=>q.elim (fun z=>z d1) d2)]at hW
  by_cases d3:(100:UInt8)∈o
  case neg =>
   rw[if_pos d3]at hW
   rw[decide_eq_false d3]at h100
   rw[hW]at e4
   have e5:=e4.trans (if_pos (by decide))
   refine key _ _ e5 (keep e5) ?_
   refine fof (fun i=>if i=13 then jh 8 9 else []) Tryz.func37 ?_;dsimp only[Tryz.f37]
   push_cast -dsimp
   refine cl (hba) ?_;push_cast -dsimp [c1',c2',c3']
   refine cl (hsk) ?_;push_cast -dsimp [c5']
   refine cl (hen) ?_;push_cast -dsimp
   refine cl (hs2) ?_;push_cast -dsimp
   refine cl (hg2) ?_;push_cast -dsimp
   refine cl (hre) ?_;push_cast -dsimp [k3]
   refine cl (hg) ?_;push_cast -dsimp [d1']
   refine cl (h114) ?_;push_cast -dsimp
   refine cl (h100) ?_;push_cast -dsimp
   exact dn (by push_cast -dsimp [zb,za,CLe,zd])
  rw[if_neg (fun q=>q d3)]at hW
  rw[decide_eq_true d3]at h100
  by_cases d4:X.es = []
  ·rw[if_neg (fun q=>q d4)]at hW
   have d4':((0:Int)<X.es.length)=False:=eq_false (by rw[d4];simp)
   rw[hW]at e4
   have e5:=e4.trans (if_neg (fun q=>q rfl))
   refine key _ _ e5 (hfl e5) ?_
   have hrm:=hrm hW
   refine fof (fun i=>if i=13 then jh 8 9 else []) Tryz.func37 ?_;dsimp only[Tryz.f37]
   push_cast -dsimp
   refine cl (hba) ?_;push_cast -dsimp [c1',c2',c3']
   refine cl (hsk) ?_;push_cast -dsimp [c5']
   refine cl (hen) ?_;push_cast -dsimp
   refine cl (hs2) ?_;push_cast -dsimp
   refine cl (hg2) ?_;push_cast -dsimp
   refine cl (hre) ?_;push_cast -dsimp [k3]
   refine cl (hg) ?_;push_cast -dsimp [d1']
   refine cl (h114) ?_;push_cast -dsimp
   refine cl (h100) ?_;push_cast -dsimp [hel2,d4',hxl]
   refine cl (hrm) ?_;push_cast -dsimp
   exact dn (by push_cast -dsimp [zb,za,CLe,zd])
  ·rw[if_pos d4]at hW
   have d4':((0:Int)<X.es.length)=True:=eq_true (by have:=List.length_pos_iff.2 d4;omega)
   rw[hW]at e4
   have e5:=e4.trans (if_pos (by decide))
   refine key _ _ e5 (keep e5) ?_
   refine fof (fun i=>if i=13 then jh 8 9 else []) Tryz.func37 ?_;dsimp only[Tryz.f37]
   push_cast -dsimp
   refine cl (hba) ?_;push_cast -dsimp [c1',c2',c3']
   refine cl (hsk) ?_;push_cast -dsimp [c5']
   refine cl (hen) ?_;push_cast -dsimp
   refine cl (hs2) ?_;push_cast -dsimp
   refine cl (hg2) ?_;push_cast -dsimp
   refine cl (hre) ?_;push_cast -dsimp [k3]
   refine cl (hg) ?_;push_cast -dsimp [d1']
   refine cl (h114) ?_;push_cast -dsimp
   refine cl (h100) ?_;push_cast -dsimp [hel2,d4']
   exact dn (by push_cast -dsimp [zb,za,CLe,zd])
abbrev ziK (f:FsV) (dg:C):List C:=[.sc (.int .i64 f.maxI),.sc (.int .i64 f.maxB),.sc (.int .i64 f.next),.sl 6 (zq f.xs),dg]
theorem zjQ (f:FsV) (dg:List (List UInt8)) (hd:dg.length<=80000) (k w:Int) (a b:List UInt8) (e:Int) (ha:a.length<=1000) (hb:b.length<=1000) :
  Xh Tryz.prog G0 38 [.agg (ziK f (.own 0 9 1 (zJ dg))),.sc (.int .i64 k),.sc (.int .i64 w),.str a,.str b,.sc (.int .i64 e)] [] 1 (fun r bx n=>n=1/\r = .agg (ziK f (.own 0 9 1 (zJ (dg++[Jy k w a b e]))))/\bx = [zfe,zfe]):=by
 have ht:=zef k w a b e ha hb
 generalize Jy k w a b e=x at ht ⊢
 have hsl:(zJ dg).length=dg.length:=List.length_map ..
 refine foX (fun i=>if i=1 then [false,false,false,false,false,false,false,false,false,true,false,true] else []) Tryz.func38 ?_;dsimp only[Tryz.f38]
 push_cast -dsimp
 repeat refine an ?_
 refine cl (ht) ?_;push_cast -dsimp
 repeat refine an ?_
 exact ⟨_,[zfe,zfe],1,⟨⟨rfl,rfl,rfl⟩,Nat.zero_le _⟩,[.inl 0],rfl,rfl,by push_cast -dsimp [zb,za,CLe,zd],by push_cast -dsimp [zb,za,CLe,zd]⟩
end
section
open CA CB
open Go.RowKit
theorem ziY (k:Int) (b o:List UInt8) (l:List (List UInt8)) (d:zH) (hg:RmG 2000 d) (hdt:G8 d.w.fs.xs) (h0:d.diags = []) (hl:l.length<=1000) (hb:b.length<=1000) (ho:o.length<=1000) (hp:∀ x∈l,x.length<=1000):Fun Tryz.prog G0 11 [.agg (fsC d.w.fs),.str b,zqv k o l] (.agg (ziK (Na b o l d).w.fs (.own 0 9 1 (zJ (Na b o l d).diags)))) 1:=by
 have hll:(zJ l).length=l.length:=List.length_map ..
 have hl2:d.diags.length+l.length<=80000:=by rw[h0];simp;omega
 refine fof (fun i=>if i=5 then jh 14 15 else if i=8 then [false,false,false,false,false,false,false,false,true,true] else []) Tryz.func11 ?_;dsimp only[Tryz.f11]
 push_cast -dsimp
 refine loop (fun q:Nat×zH=>⟨[(1,.str b),(3,.ptr 0 0),(5,.ptr 1 0),(6,.ptr 2 0),(7,.ptr 3 0),(8,.sc (.int .i64 q.1))],[[.any,.any,.any,.any],zqu k o l,zfe,ziK q.2.w.fs (.own 0 9 1 (zJ q.2.diags))],1,0⟩) (fun q=>PlI b o l d q.1 q.2) (fun q=>l.length-q.1) (0,d) ⟨Nat.zero_le _,rfl,hg,Nat.le_refl _,hdt⟩ ?_ ?_
 ·exact wks [.inr (9,1)] (h5:=by push_cast -dsimp [zb,za,CLe,zd,h0,zJ,List.map_nil])
 rintro ⟨i,D⟩ hI
 dsimp only at hI
 have h1:=hI.le
 by_cases hi:i<l.length
 case neg =>
  have hil:i=l.length:=by omega
  have hi':=eq_false (show ¬(i:Int)<l.length by omega)
  have e:=hI.eq
  rw[hil,List.take_length]at e
  push_cast -dsimp [hi',hll]
  rw[←e]
  exact ⟨[.inl 0],rfl,rfl,by push_cast -dsimp [zb,za,CLe,zd]⟩
 have hN:=hI.step hi hl2
 have hi':=eq_true (show (i:Int)<l.length by omega)
 have hgi:(zJ l)[i]?=some [.str l[i]]:=by simp[zJ,hi]
 have hpl:=hp _ (List.getElem_mem hi)
 have hone:=zgZ D hI.g b k o l l[i] (by omega) ho hpl
 have hsame:=GT hI.g b o l[i]
 generalize l[i]=p at *
 have hdl:D.diags.length<=80000:=by have:=hI.dl;omega
 obtain ⟨s1,s2,s3⟩ | s4:=hsame
 case inr=>have:=hI.dl;rw[h0]at this;simp at this;omega
 rw[←s2]at hone
 by_cases hw:(Xt D.w.fs b o p).1=0
 ·have hw':=eq_true hw
  rw[if_neg (fun q=>q hw)]at s3
  rw[hw]at hone
  generalize V7 b o D p=D2 at *
  push_cast -dsimp [hi',hll,hgi,Int.toNat_natCast]
  repeat refine an ?_
  refine cl (hone) ?_;push_cast -dsimp [hw']
  repeat refine an ?_
  exact ⟨(i+1,D2),hN,by dsimp only;omega,wks [.inl 0] (h5:=by push_cast -dsimp [zb,za,CLe,zd,s3])⟩
 ·have hw':=eq_false hw
  rw[if_pos hw]at s3
  rw[if_neg hw]at hone
  have htd:=zjQ (V7 b o D p).w.fs D.diags hdl 2 (Xt D.w.fs b o p).1 p [] (Xt D.w.fs b o p).2.1 hpl (Nat.zero_le _)
  generalize V7 b o D p=D2 at *
  push_cast -dsimp [hi',hll,hgi,Int.toNat_natCast]
  repeat refine an ?_
  refine cl (hone) ?_;push_cast -dsimp [hw',hgi,hll,Int.toNat_natCast]
  repeat refine an ?_
  refine jY [] [0] htd rfl (by decide) (by decide) (by simp) (by push_cast -dsimp) (by push_cast -dsimp) (fun r bx' m hp=>?_)
  obtain ⟨rfl,rfl,rfl⟩:=hp
  push_cast -dsimp
  repeat refine an ?_
  exact ⟨(i+1,D2),hN,by dsimp only;omega,wks [.inl 1] (h5:=by push_cast -dsimp [zb,za,CLe,zd,s3])⟩
end
section
open CA CB
open Go.RowKit
def J6 (w:qR) (b:List UInt8) (l:List (List UInt8)):Prop:=(∀ x∈l.take 20,x.length<=1000)/\okW w/\w.fs.next<549755813888/\jH w.kept<536870912/\QM w.fs b []=true/\J2 b=true/\l.length<=6
instance (w:qR) (b:List UInt8) (l:List (List UInt8)):Decidable (J6 w b l):=by unfold J6;infer_instance
theorem zaG (w:qR) (b:List UInt8) (l:List (List UInt8)) (hb:b.length<=2000000):Fun Tryz.prog G0 7 [Vu w,.str b,.sl 1 (zJ l)] (qu (decide (J6 w b l))) 0:=by
 have hll:(zJ l).length=l.length:=List.length_map ..
 have hpl:=Vk b hb
 unfold Yn at hpl
 have hok:=zeg w
 have hsh:=zcl w.fs b []
 refine fon Tryz.func7 ?_;dsimp only[Tryz.f7]
 push_cast -dsimp
 refine cl (hpl) ?_;push_cast -dsimp
 refine loop (fun i:Nat=>⟨[(1,.str b),(2,.sl 1 (zJ l)),(3,.ptr 0 0),(8,.sc (.bool (J2 b))),(9,.sc (.int .i64 i))],[Nb w],0,0⟩) (fun i=>i<=l.length/\i<=20/\∀ x∈l.take i,x.length<=1000) (fun i=>l.length-i) 0 ⟨Nat.zero_le _,Nat.zero_le _,fun x hx=>by rw[List.take_zero]at hx;cases hx⟩ ?_ ?_
 ·exact wk
 rintro i ⟨h1,h2,h3⟩
 by_cases hi:i<l.length
 ·have hi':=eq_true (show (i:Int)<l.length by omega)
  by_cases h20:i<20
  ·have h20':=eq_true (show (i:Int)<20 by omega)
   have hgi:(zJ l)[i]?=some [.str l[i]]:=by simp[zJ,hi]
   have ht:l.take (i+1)=l.take i++[l[i]]:=List.take_succ_eq_append_getElem hi
   by_cases hx:l[i].length<=1000
   ·have hx':=eq_false (show ¬(1000:Int)<l[i].length by omega)
    push_cast -dsimp [hi',h20',hgi,hll,hx',Int.toNat_natCast]
    repeat refine an ?_
    exact ⟨i+1,⟨by omega,by omega,fun x hm=>by
     rw[ht]at hm
     rcases List.mem_append.1 hm with hm | hm
     ·exact h3 x hm
     ·rw[List.mem_singleton.1 hm];exact hx⟩,by omega,wk⟩
   ·have hx':=eq_true (show (1000:Int)<l[i].length by omega)
    have hn:¬J6 w b l:=fun h=>hx (h.1 _ (List.mem_take_iff_getElem.2 ⟨i,by omega,rfl⟩))
    push_cast -dsimp [hi',h20',hgi,hll,hx',Int.toNat_natCast]
    repeat refine an ?_
    exact dn (by push_cast -dsimp [zb,za,CLe,zd,hn])
  ·have h20':=eq_false (show ¬(i:Int)<20 by omega)
   have hx:∀ x∈l.take 20,x.length<=1000:=by rw[show i=20 by omega]at h3;exact h3
   by_cases k1:okW w
   case neg =>
    have hn:¬J6 w b l:=fun h=>k1 h.2.1
    rw[decide_eq_false k1]at hok
    push_cast -dsimp [hi',h20',hll]
    refine cl (hok) ?_;push_cast -dsimp
    exact dn (by push_cast -dsimp [zb,za,CLe,zd,hn])
   rw[decide_eq_true k1]at hok
   have hs:=k1.2.2.2.2.1
   have hla:=U5 (G:=G0) w (by have:=(zga k1).klen;omega) hs.1 hs.2
   by_cases k2:w.fs.next<549755813888
   case neg =>
    have hn:¬J6 w b l:=fun h=>k2 h.2.2.1
    have k2':=eq_false k2
    push_cast -dsimp [hi',h20',hll]
    refine cl (hok) ?_;push_cast -dsimp [k2']
    exact dn (by push_cast -dsimp [zb,za,CLe,zd,hn])
   have k2':=eq_true k2
   by_cases k3:jH w.kept<536870912
   case neg =>
    have hn:¬J6 w b l:=fun h=>k3 h.2.2.2.1
    have k3':=eq_false k3
    push_cast -dsimp [hi',h20',hll]
    refine cl (hok) ?_;push_cast -dsimp [k2']
    refine cl (hla) ?_;push_cast -dsimp [k3']
    exact dn (by push_cast -dsimp [zb,za,CLe,zd,hn])
   have k3':=eq_true k3
   cases k4:QM w.fs b []
   case false =>
    have hn:¬J6 w b l:=fun h=>by rw[h.2.2.2.2.1]at k4;cases k4
    rw[k4]at hsh
    push_cast -dsimp [hi',h20',hll]
    refine cl (hok) ?_;push_cast -dsimp [k2']
    refine cl (hla) ?_;push_cast -dsimp [k3']
    refine cl (hsh) ?_;push_cast -dsimp
    exact dn (by push_cast -dsimp [zb,za,CLe,zd,hn])
   rw[k4]at hsh
   cases k5:J2 b
   case false =>
    have hn:¬J6 w b l:=fun h=>by rw[h.2.2.2.2.2.1]at k5;cases k5
    push_cast -dsimp [hi',h20',hll]
    refine cl (hok) ?_;push_cast -dsimp [k2']
    refine cl (hla) ?_;push_cast -dsimp [k3']
    refine cl (hsh) ?_;push_cast -dsimp
    exact dn (by push_cast -dsimp [zb,za,CLe,zd,hn])
   by_cases k6:l.length<=6
   ·have hn:J6 w b l:=⟨hx,k1,k2,k3,k4,k5,k6⟩
    have k6':=eq_true (show (l.length:Int)<=6 by omega)
    push_cast -dsimp [hi',h20',hll]
    refine cl (hok) ?_;push_cast -dsimp [k2']
    refine cl (hla) ?_;push_cast -dsimp [k3']
    refine cl (hsh) ?_;push_cast -dsimp [hll,k6']
    exact dn (by push_cast -dsimp [zb,za,CLe,zd,hn])
   ·have hn:¬J6 w b l:=fun h=>k6 h.2.2.2.2.2.2
    have k6':=eq_false (show ¬(l.length:Int)<=6 by omega)
    push_cast -dsimp [hi',h20',hll]
    refine cl (hok) ?_;push_cast -dsimp [k2']
    refine cl (hla) ?_;push_cast -dsimp [k3']
    refine cl (hsh) ?_;push_cast -dsimp [hll,k6']
    exact dn (by push_cast -dsimp [zb,za,CLe,zd,hn])
 ·have hi':=eq_false (show ¬(i:Int)<l.length by omega)
  have hx:∀ x∈l.take 20,x.length<=1000:=by
   rw[show i=l.length by omega,List.take_length]at h3
   exact fun x hm=>h3 x (List.mem_of_mem_take hm)
  by_cases k1:okW w
  case neg =>
   have hn:¬J6 w b l:=fun h=>k1 h.2.1
   rw[decide_eq_false k1]at hok
   push_cast -dsimp [hi',hll]
   refine cl (hok) ?_;push_cast -dsimp
   exact dn (by push_cast -dsimp [zb,za,CLe,zd,hn])
  rw[decide_eq_true k1]at hok
  have hs:=k1.2.2.2.2.1
  have hla:=U5 (G:=G0) w (by have:=(zga k1).klen;omega) hs.1 hs.2
  by_cases k2:w.fs.next<549755813888
  case neg =>
   have hn:¬J6 w b l:=fun h=>k2 h.2.2.1
   have k2':=eq_false k2
   push_cast -dsimp [hi',hll]
   refine cl (hok) ?_;push_cast -dsimp [k2']
   exact dn (by push_cast -dsimp [zb,za,CLe,zd,hn])
  have k2':=eq_true k2
  by_cases k3:jH w.kept<536870912
  case neg =>
   have hn:¬J6 w b l:=fun h=>k3 h.2.2.2.1
   have k3':=eq_false k3
   push_cast -dsimp [hi',hll]
   refine cl (hok) ?_;push_cast -dsimp [k2']
   refine cl (hla) ?_;push_cast -dsimp [k3']
   exact dn (by push_cast -dsimp [zb,za,CLe,zd,hn])
  have k3':=eq_true k3
  cases k4:QM w.fs b []
  case false =>
   have hn:¬J6 w b l:=fun h=>by rw[h.2.2.2.2.1]at k4;cases k4
   rw[k4]at hsh
   push_cast -dsimp [hi',hll]
   refine cl (hok) ?_;push_cast -dsimp [k2']
   refine cl (hla) ?_;push_cast -dsimp [k3']
   refine cl (hsh) ?_;push_cast -dsimp
   exact dn (by push_cast -dsimp [zb,za,CLe,zd,hn])
  rw[k4]at hsh
  cases k5:J2 b
  case false =>
   have hn:¬J6 w b l:=fun h=>by rw[h.2.2.2.2.2.1]at k5;cases k5
   push_cast -dsimp [hi',hll]
   refine cl (hok) ?_;push_cast -dsimp [k2']
   refine cl (hla) ?_;push_cast -dsimp [k3']
   refine cl (hsh) ?_;push_cast -dsimp
   exact dn (by push_cast -dsimp [zb,za,CLe,zd,hn])
  by_cases k6:l.length<=6
  ·have hn:J6 w b l:=⟨hx,k1,k2,k3,k4,k5,k6⟩
   have k6':=eq_true (show (l.length:Int)<=6 by omega)
   push_cast -dsimp [hi',hll]
   refine cl (hok) ?_;push_cast -dsimp [k2']
   refine cl (hla) ?_;push_cast -dsimp [k3']
   refine cl (hsh) ?_;push_cast -dsimp [hll,k6']
   exact dn (by push_cast -dsimp [zb,za,CLe,zd,hn])
  ·have hn:¬J6 w b l:=fun h=>k6 h.2.2.2.2.2.2
   have k6':=eq_false (show ¬(l.length:Int)<=6 by omega)
   push_cast -dsimp [hi',hll]
   refine cl (hok) ?_;push_cast -dsimp [k2']
   refine cl (hla) ?_;push_cast -dsimp [k3']
   refine cl (hsh) ?_;push_cast -dsimp [hll,k6']
   exact dn (by push_cast -dsimp [zb,za,CLe,zd,hn])
theorem zhh (k:Int) (l:List (List UInt8)) (hk:k=1∨k=2∨k=3∨k=4∨k=5) (hl:l.length<=90) (hs:∀ x∈l,x.length<=1000):Fun Tryz.prog G0 8 [.sc (.int .i64 k),.sl 1 (zJ l)] (.tup [zr5 (Qa (Je k :: l)).1,qu (decide ((Qa (Je k :: l)).2 = []))]) 1:=by
 have hn:=UM k
 have hll:(zJ l).length=l.length:=List.length_map ..
 have hr:=zcV (Je k :: l) (by rw[List.length_cons];omega) (fun x hx=>by
  rcases List.mem_cons.1 hx with rfl | hx
  ·rcases hk with rfl | rfl | rfl | rfl | rfl<;>decide
  ·exact hs x hx)
 have e:zJ (Je k :: l) = [.str (Je k)] :: zJ l:=rfl
 rw[e]at hr
 refine fof (fun i=>if i=1 then jh 9 10 else if i=2 then [false,false,false,true] else []) Tryz.func8 ?_;dsimp only[Tryz.f8]
 push_cast -dsimp
 refine cl (hn) ?_;push_cast -dsimp
 repeat refine an ?_
 refine cl (hr) ?_;push_cast -dsimp
 exact ⟨[.inl 1],rfl,rfl,by push_cast -dsimp [zb,za,CLe,zd]⟩
end
section
open CA CB
open Go.RowKit
def jZ:qR:=⟨⟨9,9,9,[⟨1,2,0,[],1,[⟨[100],3⟩]⟩,⟨3,2,1,[],1,[⟨[102],4⟩]⟩,⟨4,1,1,[122],0,[]⟩]⟩,[],[]⟩
theorem Me:okW jZ:=by decide
theorem yK:Fun Tryz.prog G0 19 [] (Vu jZ) 0:=by
 have h1:=zjF (G:=G0) 9 9
 have h2:=Q0 (G:=G0) ⟨9,9,9,[⟨1,2,0,[],1,[]⟩]⟩ ⟨1,2,0,[],1,[⟨[100],3⟩]⟩ (by decide)
 have h4:=zgO (G:=G0) ⟨9,9,9,[⟨1,2,0,[],1,[⟨[100],3⟩]⟩,⟨3,2,1,[],1,[⟨[102],4⟩]⟩]⟩ ⟨4,1,1,[122],0,[]⟩ rfl (by decide)
 have e2:jd ⟨1,2,0,[],1,[⟨[100],3⟩]⟩ [⟨1,2,0,[],1,[]⟩] = [⟨1,2,0,[],1,[⟨[100],3⟩]⟩]:=by decide
 have e3:jd ⟨3,2,1,[],1,[⟨[102],4⟩]⟩ [⟨1,2,0,[],1,[⟨[100],3⟩]⟩] = [⟨1,2,0,[],1,[⟨[100],3⟩]⟩,⟨3,2,1,[],1,[⟨[102],4⟩]⟩]:=by decide
 have e4:jd ⟨4,1,1,[122],0,[]⟩ [⟨1,2,0,[],1,[⟨[100],3⟩]⟩,⟨3,2,1,[],1,[⟨[102],4⟩]⟩]=jZ.fs.xs:=by decide
 have h3:=Q0 (G:=G0) ⟨9,9,9,[⟨1,2,0,[],1,[⟨[100],3⟩]⟩]⟩ ⟨3,2,1,[],1,[⟨[102],4⟩]⟩ (by decide)
 simp only[e2]at h2
 simp only[e3]at h3
 simp only[e4]at h4
 refine fon Tryz.func19 ?_;dsimp only[Tryz.f19]
 push_cast -dsimp
 refine cl (h1) ?_;push_cast -dsimp
 refine cl (h2) ?_;push_cast -dsimp
 refine cl (h3) ?_;push_cast -dsimp
 refine cl (h4) ?_;push_cast -dsimp
 exact dn (by push_cast -dsimp [zb,za,CLe,zd,jZ])
def tA:List (List UInt8):=[[114,109,58,32,99,97,110,110,111,116,32,114,101,109,111,118,101,32,34,100,34,58,32,73,115,32,97,32,100,105,114,101,99,116,111,114,121],[114,109,58,32,114,101,102,117,115,105,110,103,32,116,111,32,114,101,109,111,118,101,32,34,46,34,32,111,114,32,34,46,46,34,32,100,105,114,101,99,116,111,114,121,58,32,115,107,105,112,112,105,110,103,32,34,100,47,46,34],[114,109,58,32,105,116,32,105,115,32,100,97,110,103,101,114,111,117,115,32,116,111,32,111,112,101,114,97,116,101,32,114,101,99,117,114,115,105,118,101,108,121,32,111,110,32,34,47,34],[114,109,58,32,99,97,110,110,111,116,32,114,101,109,111,118,101,32,34,120,34,58,32,78,111,32,115,117,99,104,32,102,105,108,101,32,111,114,32,100,105,114,101,99,116,111,114,121]]
theorem uf:RmG 2000 (kl jZ):=zo1 Me (by decide) (by decide)
theorem kM:G8 (kl jZ).w.fs.xs:=by
 intro x hx
 have:∀ x∈jZ.fs.xs,x.kind=3->x.data.length<=1000:=by decide
 exact this x hx
theorem xM:Fun Tryz.prog GD 6 [] (qu true) 0:=by
 have q0:Fun Tryz.prog GD 19 [] (Vu jZ) 0:=yK.g0
 have q1:Fun Tryz.prog GD 10 [Vu jZ] (kF (kl jZ)) 0:=(xe jZ (by decide) Me.2.2.2.2.1).g0
 have q2:Fun Tryz.prog GD 9 [kF (kl jZ),.str [47],.agg [.sc (.int .i64 2),.str [114],.sl 1 [[.str [100]]]]] (kF (Na [47] [114] [[100]] (kl jZ))) 0:=Gt 2 [47] [114] [[100]] (kl jZ) uf kM (by decide) (by decide) (by decide)
 have q3:Fun Tryz.prog GD 9 [kF (kl jZ),.str [47],.agg [.sc (.int .i64 2),.str [],.sl 1 [[.str [100]],[.str [100,47,46]],[.str [47]],[.str [120]]]]] (kF (Na [47] [] [[100],[100,47,46],[47],[120]] (kl jZ))) 0:=Gt 2 [47] [] [[100],[100,47,46],[47],[120]] (kl jZ) uf kM (by decide) (by decide) (by decide)
 obtain ⟨dA,hA⟩:∃ d,Na [47] [114] [[100]] (kl jZ)=d:=⟨_,rfl⟩
 obtain ⟨dB,hB⟩:∃ d,Na [47] [] [[100],[100,47,46],[47],[120]] (kl jZ)=d:=⟨_,rfl⟩
 have p1:dA.ops = [⟨7,1,[47,100,47,102],[],[]⟩,⟨7,2,[47,100],[],[]⟩]:=by rw[←hA];kernel_rfl
 have p2:dB.ops = []:=by rw[←hB];kernel_rfl
 have p3:dB.diags=tA:=by rw[←hB];kernel_rfl
 rw[hA]at q2
 rw[hB]at q3
 have q4:Fun Tryz.prog GD 20 [.sl 5 (dA.ops.map opL),.sl 5 [opL ⟨7,1,[47,100,47,102],[],[]⟩,opL ⟨7,2,[47,100],[],[]⟩]] (qu true) 0:=by
  have h:=zeY dA.ops [⟨7,1,[47,100,47,102],[],[]⟩,⟨7,2,[47,100],[],[]⟩] (by rw[p1];decide)
  rw[show JZ dA.ops [⟨7,1,[47,100,47,102],[],[]⟩,⟨7,2,[47,100],[],[]⟩]=true by rw[p1];rfl]at h
  exact h.g0
 have q5:Fun Tryz.prog GD 13 [.sl 1 (zJ dB.diags),.sl 1 (zJ tA)] (qu true) 0:=by
  have h:=uD dB.diags tA (by rw[p3];decide)
  rw[decide_eq_true p3]at h
  exact h.g0
 have p4:((dB.ops.map opL).length:Int)=0:=by rw[p2];rfl
 have p5:((dB.ops.length:Int)=0)=True:=eq_true (by rw[p2];rfl)
 clear hA hB p1 p2 p3
 refine fon Tryz.func6 ?_;dsimp only[Tryz.f6]
 push_cast -dsimp
 refine cl (q0) ?_;push_cast -dsimp
 refine cl (q1) ?_;push_cast -dsimp
 refine cl (q2) ?_;push_cast -dsimp
 refine cl (q1) ?_;push_cast -dsimp
 refine cl (q3) ?_;push_cast -dsimp
 refine cl (q4) ?_;push_cast -dsimp [p4,p5]
 refine cl (q5) ?_;push_cast -dsimp
 exact dn (by push_cast -dsimp [zb,za,CLe,zd])
end
section
open CA CB
open Go.RowKit
theorem zj1 (k:Int) (s:List UInt8):(Yo k s 58).length<=58:=by
 unfold Yo
 refine Nat.le_trans (List.length_filter_le _ _) ?_
 simp
theorem xJ (l:List (List UInt8)):(Qa l).1.opts.length<=58/\(Qa l).1.operands.length<=l.length/\∀ x∈(Qa l).1.operands,x∈l:=by
 refine ⟨?_,zfH l,?_⟩
 ·cases l with
  | nil=>exact Nat.zero_le _
  | cons w r =>
   rw[Qa]
   split
   ·exact Nat.zero_le _
   ·unfold JB
    split
    ·exact Nat.zero_le _
    ·split
     ·exact Nat.zero_le _
     ·exact zj1 _ _
 ·cases l with
  | nil=>intro x hx;cases hx
  | cons w r =>
   rw[Qa]
   split
   ·intro x hx;cases hx
   ·unfold JB
    split
    ·intro x hx;cases hx
    ·split
     ·intro x hx;cases hx
     ·exact fun x hx=>List.mem_cons_of_mem _ (List.mem_of_mem_drop hx)
theorem zhd {w:qR} {b:List UInt8} {l:List (List UInt8)} (h:J6 w b l):G8 w.fs.xs/\b.length<=1000:=by
 have hs:=h.2.2.2.2.1
 have hl:=(zga h.2.1).len
 unfold QM at hs
 simp only[Bool.and_eq_true,decide_eq_true_eq,Bool.not_eq_true',List.any_eq_false]at hs
 obtain ⟨⟨h1,h2⟩,_⟩:=hs
 rw[List.take_of_length_le (by omega)]at h1
 refine ⟨fun x hx hk=>?_,by omega⟩
 have:=h1 x hx
 unfold VG at this
 simp only[Bool.and_eq_true,decide_eq_true_eq,not_and]at this
 have:=this hk
 omega
theorem xq (d:zH) (o:OpV):(QG d o).1.diags=d.diags/\(QG d o).1.status=d.status:=by
 unfold QG
 split
 ·exact ⟨rfl,rfl⟩
 ·split<;>exact ⟨rfl,rfl⟩
theorem Hm (b o:List UInt8):∀ (l:List (List UInt8)) (d:zH),((d.status=1)↔0<d.diags.length)->(((Na b o l d).status=1)↔0<(Na b o l d).diags.length)
 | [],d,h=>h
 | p :: r,d,h=>by
  refine Hm b o r (V7 b o d p) ?_
  unfold V7
  simp only
  split
  ·refine ⟨fun _=>?_,fun _=>rfl⟩
   show 0<(d.diags++[_]).length
   simp
  ·split
   ·have:=Hu (P:=fun q=>q.diags=d.diags/\q.status=d.status) (fun q p hq=>⟨(xq q (Qt p)).1.trans hq.1,(xq q (Qt p)).2.trans hq.2⟩) (d.w.fs.xs.length+1) d (Ya d.w.fs (zD d.w.fs b p false).1) (zD d.w.fs b p false).1.ino ⟨rfl,rfl⟩
    rw[this.1,this.2]
    exact h
   ·exact h
structure zqI (w:qR) (b:List UInt8) (l:List (List UInt8)) (c:zoO):Prop where
 g:RmG 2000 (kl w)
 dat:G8 (kl w).w.fs.xs
 b:b.length<=1000
 o:c.opts.length<=1000
 n:c.operands.length<=7
 p:∀ x∈c.operands,x.length<=1000
theorem kU {w:qR} {b:List UInt8} {l:List (List UInt8)} (h:J6 w b l):∀ x∈l,x.length<=1000:=by
 have h1:=h.1
 rw[List.take_of_length_le (by have:=h.2.2.2.2.2.2;omega)]at h1
 exact h1
theorem zqI.of {w:qR} {b:List UInt8} {l:List (List UInt8)} (h:J6 w b l):zqI w b l (Qa (Je 2 :: l)).1:=by
 obtain ⟨p1,p2,p3⟩:=xJ (Je 2 :: l)
 obtain ⟨d1,d2⟩:=zhd h
 have h6:=h.2.2.2.2.2.2
 refine ⟨zo1 h.2.1 (by have:=h.2.2.1;omega) (by have:=h.2.2.2.1;omega),d1,d2,by omega,by rw[List.length_cons]at p2;omega,fun x hx=>?_⟩
 rcases List.mem_cons.1 (p3 x hx) with rfl | hx
 ·decide
 ·exact kU h x hx
theorem yE (w:qR) (b:List UInt8) (l:List (List UInt8)) (hb:b.length<=2000000):Fun Tryz.prog GD 3 [Vu w,.str b,.sl 1 (zJ l)] (qu true) 0:=by
 have ha:=xM
 have hf:Fun Tryz.prog GD 7 _ _ 0:=(zaG w b l hb).g0
 by_cases h:J6 w b l
 case neg =>
  rw[decide_eq_false h]at hf
  refine fof (fun i=>if i=6 then jh 5 6 else []) Tryz.func3 ?_;dsimp only[Tryz.f3]
  push_cast -dsimp
  refine cl (ha) ?_;push_cast -dsimp
  refine cl (hf) ?_;push_cast -dsimp
  refine cl (ha) ?_;push_cast -dsimp
  exact dn (by push_cast -dsimp [zb,za,CLe,zd])
 rw[decide_eq_true h]at hf
 have hc:Fun Tryz.prog GD 8 _ _ 1:=(zhh 2 l (by decide) (by have:=h.2.2.2.2.2.2;omega) (kU h)).g0
 have hF:=zqI.of h
 generalize Qa (Je 2 :: l)=rc at hc hF
 obtain ⟨⟨ck,co,cz⟩,s⟩:=rc
 dsimp only at hF hc
 have hcn:cz.length<=7:=hF.n
 by_cases hs:s = []
 case neg =>
  rw[decide_eq_false hs]at hc
  refine fof (fun i=>if i=6 then jh 5 6 else []) Tryz.func3 ?_;dsimp only[Tryz.f3]
  push_cast -dsimp
  refine cl (ha) ?_;push_cast -dsimp
  refine cl (hf) ?_;push_cast -dsimp
  refine cl (hc) ?_;push_cast -dsimp
  exact dn (by push_cast -dsimp [zb,za,CLe,zd])
 rw[decide_eq_true hs]at hc
 have q1:Fun Tryz.prog GD 10 [Vu w] (kF (kl w)) 0:=(xe w (by have:=(zga h.2.1).klen;omega) h.2.1.2.2.2.2.1).g0
 have q2:=Gt ck b co cz (kl w) hF.g hF.dat (by show 0+cz.length<=_;omega) hF.b hF.p
 have q3:Fun Tryz.prog GD 11 _ _ 1:=(ziY ck b co cz (kl w) hF.g hF.dat rfl (by omega) hF.b hF.o hF.p).g0
 have hst:=Hm b co cz (kl w) ⟨fun h=>absurd h (show ¬(0:Int)=1 by decide),fun h=>absurd h (Nat.lt_irrefl 0)⟩
 obtain ⟨g1,_⟩:=vW b co cz (kl w) hF.g (by show 0+cz.length<=_;omega)
 generalize Na b co cz (kl w)=P at q2 q3 hst g1
 have q4:=zdi (G:=GD) P.w.fs P.w.fs (by have:=g1.b.len;omega) (fun z hz=>by have:=(g1.b.node z hz).1;omega)
 rw[decide_eq_true rfl]at q4
 have q5:Fun Tryz.prog GD 13 _ _ 0:=(uD P.diags P.diags (by have:=g1.b.diags;omega)).g0
 rw[decide_eq_true rfl]at q5
 have hdl:(zJ P.diags).length=P.diags.length:=List.length_map ..
 by_cases hz:P.status=1
 ·have z1:=eq_true hz
  have z2:=eq_true (show (0:Int)<P.diags.length by have:=hst.1 hz;omega)
  refine fof (fun i=>if i=6 then jh 5 6 else []) Tryz.func3 ?_;dsimp only[Tryz.f3]
  push_cast -dsimp
  refine cl (ha) ?_;push_cast -dsimp
  refine cl (hf) ?_;push_cast -dsimp
  refine cl (hc) ?_;push_cast -dsimp
  refine cl (q1) ?_;push_cast -dsimp
  refine cl (q2) ?_;push_cast -dsimp
  refine cl (q3) ?_;push_cast -dsimp
  refine cl (q4) ?_;push_cast -dsimp
  refine cl (q5) ?_;push_cast -dsimp [hdl,z1,z2]
  exact dn (by push_cast -dsimp [zb,za,CLe,zd])
 ·have z1:=eq_false hz
  have z2:=eq_false (show ¬(0:Int)<P.diags.length by
   intro q
   exact hz (hst.2 (by omega)))
  refine fof (fun i=>if i=6 then jh 5 6 else []) Tryz.func3 ?_;dsimp only[Tryz.f3]
  push_cast -dsimp
  refine cl (ha) ?_;push_cast -dsimp
  refine cl (hf) ?_;push_cast -dsimp
  refine cl (hc) ?_;push_cast -dsimp
  refine cl (q1) ?_;push_cast -dsimp
  refine cl (q2) ?_;push_cast -dsimp
  refine cl (q3) ?_;push_cast -dsimp
  refine cl (q4) ?_;push_cast -dsimp
  refine cl (q5) ?_;push_cast -dsimp [hdl,z1,z2]
  exact dn (by push_cast -dsimp [zb,za,CLe,zd])
end
end Go.Proofs.YtlkjpfiancahiaaGreatDoor.Vcg
