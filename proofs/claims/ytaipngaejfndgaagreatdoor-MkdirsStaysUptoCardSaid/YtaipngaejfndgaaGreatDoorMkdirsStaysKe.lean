/- What the proof of MkdirsStays leans on, part 5: Rgt0 Rgt1 Rgt2 Rgt3 Rgt4 Rgt5 Rgt6 PthL Sk0 Slc2 Sk2 SekP SekL Dat Gro Pla Mkd0 Do1 Sek1 Sek2 Sek3 Rea Tol Plw Sk1 Sk3 Mkr Mkm Mka Mpl Mdo Rfi Fit Msm Mtr. No condition beyond what each theorem states. -/
import Derived.Test.YtaipngaejfndgaaGreatDoorMkdirsStaysKd
import Derived.Lib.IndexLaws
set_option linter.unusedVariables false
set_option linter.unusedSimpArgs false
set_option linter.unusedSectionVars false
set_option maxRecDepth 100000
set_option maxHeartbeats 4000000
namespace Go.Proofs.YtaipngaejfndgaaGreatDoor.Vcg
section
structure znK (x:zn):Prop where
 par:x.kind≠2->x.parent=0
 bare:x.kind=2->x.data = []
 nam:∀ e∈x.es,may e.name=true
 lnk:x.kind=3->1<=x.data.length/\x.data.length<=4095/\∀ b∈x.data,b≠0
 named:x.ino≠1->1<=x.links
 one:x.kind=2->x.ino≠1->x.links=1
 top:x.ino=1->x.parent=1
def zpd (rk:Int->Nat) (xs:List zn):Prop:=∀ y∈xs,∀ e∈y.es,(zf e.ino xs).kind=2->(zf e.ino xs).parent=y.ino/\rk y.ino<rk e.ino
structure FsR (f:FsV):Prop where
 node:∀ x∈f.xs,znK x
 edge:∃ rk,zpd rk f.xs
 fit:(f.xs.length:Int)<=f.maxI/\(zP f.xs:Int)<=f.maxB
 lim:1<=f.maxI/\f.maxI<=1073741824/\0<=f.maxB/\f.maxB<=1073741824
theorem zck {xs:List zn} (h:zW xs) {x y:zn} (hx:x∈xs) (hy:y∈xs) (e:x.ino=y.ino):x=y:=by
 obtain ⟨i,hi,rfl⟩:=List.getElem_of_mem hx
 obtain ⟨j,hj,rfl⟩:=List.getElem_of_mem hy
 have hp:=List.pairwise_iff_getElem.1 h
 rcases Nat.lt_trichotomy i j with q | q | q
 ·have:=hp i j hi hj q;omega
 ·subst q;rfl
 ·have:=hp j i hj hi q;omega
theorem MA {xs:List zn} (h:zW xs):(xs.map (·.ino)).Nodup:=by
 rw[List.Nodup,List.pairwise_map]
 exact List.Pairwise.imp (fun q e=>by omega) h
theorem Q4 {xs:List zn} {n p:Int}:(n,p)∈zL xs↔∃ y∈xs,∃ e∈y.es,e.ino=n/\y.ino=p:=by
 unfold zL
 rw[List.mem_flatMap]
 refine exists_congr fun y=>and_congr_right fun hy=>?_
 unfold QP
 rw[List.mem_map]
 refine exists_congr fun e=>and_congr_right fun he=>?_
 rw[Prod.mk.injEq]
theorem zcd {n p:Int} {l:List (Int×Int)} (h1:1<=XQ n l) (h:∀ q,(n,q)∈l->q=p):Zw n l=p:=by
 unfold XQ at h1
 unfold Zw
 cases hq:(l.filter fun p=>p.1==n).getLast? with
 | none=>rw[List.getLast?_eq_none_iff]at hq;rw[hq]at h1;simp at h1
 | some r =>
  obtain ⟨h2,h3⟩:=List.mem_filter.1 (List.mem_of_getLast? hq)
  have h3:r.1=n:=by simpa using h3
  show r.2=p
  exact h r.2 (by rw[←h3];exact h2)
theorem zgq {es:List zH}:∀ S:List Int,∃ t,VZ S es=S++t:=by
 induction es with
 | nil=>exact fun S=>⟨[],by simp[VZ]⟩
 | cons e r ih =>
  intro S
  obtain ⟨t,h⟩:=ih (Jv S e.ino)
  show ∃ t,VZ (Jv S e.ino) r=S++t
  rw[h]
  unfold Jv
  split
  ·exact ⟨t,rfl⟩
  ·exact ⟨e.ino :: t,by simp⟩
theorem VD {xs:List zn} (h3:∀ x∈xs,∀ e∈x.es,zw e.ino xs=true):∀ (m i:Nat) (S:List Int),JE xs S->(∀ j<i,∀ n,S[j]?=some n->∀ e∈(zf n xs).es,e.ino∈S)->xs.length+1<=m+i ->
  (∀ n∈S,n∈XF xs m i S)/\∀ n∈XF xs m i S,∀ e∈(zf n xs).es,e.ino∈XF xs m i S
 | 0,i,S,hS,hc,hm=>by
  have hl:=Qd hS.nodup hS.has
  show (∀ n∈S,n∈S)/\∀ n∈S,∀ e∈(zf n xs).es,e.ino∈S
  refine ⟨fun n h=>h,fun n hn e he=>?_⟩
  obtain ⟨j,hj,rfl⟩:=List.getElem_of_mem hn
  exact hc j (by omega) _ (List.getElem?_eq_getElem hj) e he
 | m+1,i,S,hS,hc,hm=>by
  unfold XF
  cases hg:S[i]? with
  | none =>
   have hi:=List.getElem?_eq_none_iff.1 hg
   show (∀ n∈S,n∈S)/\∀ n∈S,∀ e∈(zf n xs).es,e.ino∈S
   refine ⟨fun n h=>h,fun n hn e he=>?_⟩
   obtain ⟨j,hj,rfl⟩:=List.getElem_of_mem hn
   exact hc j (by omega) _ (List.getElem?_eq_getElem hj) e he
  | some n =>
   have hn:=hS.has n (List.mem_of_getElem? hg)
   have hi:=(List.getElem?_eq_some_iff.1 hg).1
   have hg':=zq hn
   obtain ⟨t,ht⟩:=zgq (es:=(zf n xs).es) S
   have hsub:∀ k∈S,k∈VZ S (zf n xs).es:=fun k hk=>Hq.2 (.inl hk)
   obtain ⟨r1,r2⟩:=VD h3 m (i+1) (VZ S (zf n xs).es) (Nb hS fun e he=>h3 _ hg'.2.1 e he) (fun j hj k hk e he=>by
    rcases Nat.lt_or_ge j i with hji | hji
    ·have:S[j]?=some k:=by rw[ht,List.getElem?_append_left (by omega)]at hk;exact hk
     exact hsub _ (hc j hji k this e he)
    ·have:j=i:=by omega
     subst this
     rw[ht,List.getElem?_append_left hi,hg]at hk
     cases hk
     exact Hq.2 (.inr ⟨e,he,rfl⟩)) (by omega)
   exact ⟨fun k hk=>r1 k (hsub k hk),r2⟩
theorem xQ {n:Int} {l:List (Int×Int)} (h:1<=XQ n l):∃ p,(n,p)∈l:=by
 unfold XQ at h
 obtain ⟨r,hr⟩:=List.exists_mem_of_length_pos (l:=l.filter fun p=>p.1==n) (by omega)
 obtain ⟨h1,h2⟩:=List.mem_filter.1 hr
 have h2:r.1=n:=by simpa using h2
 exact ⟨r.2,by rw[←h2];exact h1⟩
theorem FsR.links {f:FsV} (hi:FsI f) {x:zn} (hx:x∈f.xs):x.links=(XQ x.ino (zL f.xs):Int):=by rw[YR];exact hi.links x hx
theorem kD {f:FsV} (hi:FsI f) {y:zn} (hy:y∈f.xs) {e:zH} (he:e∈y.es):y.kind=2:=by
 by_cases h:y.kind=2
 ·exact h
 ·rw[hi.file y hy h]at he;cases he
theorem YS {f:FsV} (hi:FsI f) {x:zn} (hx:x∈f.xs):zf x.ino f.xs=x:=by
 have h:=JF hx
 have h2:=zq h
 exact zck hi.rises h2.2.1 hx h2.2.2
theorem FsR.come {f:FsV} (hi:FsI f) (h:FsR f) {S:List Int} (h1:(1:Int)∈S) (hc:∀ n∈S,∀ e∈(zf n f.xs).es,e.ino∈S):∀ n,zw n f.xs=true->n∈S:=by
 obtain ⟨rk,hr⟩:=h.edge
 have dirs:∀ (k:Nat) (n:Int),rk n<=k->zw n f.xs=true->(zf n f.xs).kind=2->n∈S:=by
  intro k
  induction k with
  | zero =>
   intro n hk hn hd
   by_cases h0:n=1
   ·rw[h0];exact h1
   obtain ⟨g1,g2,g3⟩:=zq hn
   have hl:=(h.node _ g2).named (by rw[g3];exact h0)
   rw[FsR.links hi g2,g3]at hl
   obtain ⟨p,hp⟩:=xQ (n:=n) (l:=zL f.xs) (by omega)
   obtain ⟨y,hy,e,he,q1,q2⟩:=Q4.1 hp
   have:=(hr y hy e he (by rw[q1];exact hd)).2
   rw[q1]at this;omega
  | succ k ih =>
   intro n hk hn hd
   by_cases h0:n=1
   ·rw[h0];exact h1
   obtain ⟨g1,g2,g3⟩:=zq hn
   have hl:=(h.node _ g2).named (by rw[g3];exact h0)
   rw[FsR.links hi g2,g3]at hl
   obtain ⟨p,hp⟩:=xQ (n:=n) (l:=zL f.xs) (by omega)
   obtain ⟨y,hy,e,he,q1,q2⟩:=Q4.1 hp
   have hlt:=(hr y hy e he (by rw[q1];exact hd)).2
   rw[q1]at hlt
   have hs:=YS hi hy
   have:=ih y.ino (by omega) (JF hy) (by rw[hs];exact kD hi hy he)
   rw[←q1]
   exact hc y.ino this e (by rw[hs];exact he)
 intro n hn
 by_cases h0:n=1
 ·rw[h0];exact h1
 obtain ⟨g1,g2,g3⟩:=zq hn
 have hl:=(h.node _ g2).named (by rw[g3];exact h0)
 rw[FsR.links hi g2,g3]at hl
 obtain ⟨p,hp⟩:=xQ (n:=n) (l:=zL f.xs) (by omega)
 obtain ⟨y,hy,e,he,q1,q2⟩:=Q4.1 hp
 have hs:=YS hi hy
 have:=dirs _ y.ino (Nat.le_refl _) (JF hy) (by rw[hs];exact kD hi hy he)
 rw[←q1]
 exact hc y.ino this e (by rw[hs];exact he)
theorem M6 {es:List zH} (hR:XB es) (h1:∀ e∈es,may e.name=true) (h2:∀ e∈es,1<=e.ino):J3 es:=fun i h =>
 ⟨h1 _ (List.getElem_mem h),h2 _ (List.getElem_mem h),fun h0=>List.pairwise_iff_getElem.1 hR (i-1) i (by omega) h (by omega)⟩
theorem FsR.check {f:FsV} (hi:FsI f) (h:FsR f) (hn:f.next<=1099511627776):jD f=0:=by
 have h1:jE f:=⟨h.lim.1,h.lim.2.1,h.lim.2.2.1,h.lim.2.2.2,hn,hi.ino,hi.rises,hi.root,hi.base⟩
 have h2:JK f:=fun x hx=>⟨hi.kind x hx,fun hk=>⟨hi.file x hx hk,(h.node x hx).par hk⟩,fun hk=>⟨(h.node x hx).bare hk,M6 (hi.es x hx) (h.node x hx).nam fun e he=>by
  have:=hi.led x hx e he
  have g:=zq this
  have:=(hi.ino _ g.2.1).1
  rw[g.2.2]at this;exact this⟩,(h.node x hx).lnk⟩
 have h3:JA f:=hi.led
 obtain ⟨rk,hr⟩:=h.edge
 have h4:JO f:=fun x hx=>by
  have hl:=FsR.links hi hx
  refine ⟨hl,?_⟩
  by_cases h0:x.ino=1
  ·rw[if_pos h0,h0]
   exact ⟨by rw[YR];exact hi.bare,(h.node x hx).top h0⟩
  ·rw[if_neg h0]
   have hk:=(h.node x hx).named h0
   refine ⟨by omega,fun hd=>?_⟩
   have ho:=(h.node x hx).one hd h0
   refine ⟨by omega,(zcd (by omega) fun q hq=>?_).symm⟩
   obtain ⟨y,hy,e,he,q1,q2⟩:=Q4.1 hq
   have:=(hr y hy e he (by rw[q1,YS hi hx];exact hd)).1
   rw[q1,YS hi hx]at this
   rw[←q2,this]
 have h5:Xu f:=by
  have hS:JE f.xs [1]:=⟨by simp,fun n hn=>by rw[List.mem_singleton.1 hn];exact hi.root⟩
  obtain ⟨r1,r2⟩:=VD hi.led (f.xs.length+1) 0 [1] hS (fun j hj=>absurd hj (Nat.not_lt_zero _)) (by omega)
  have hok:=(kM hi.led (f.xs.length+1) 0 [1] hS (fun n hn=>by rw[List.mem_singleton.1 hn];exact ⟨0,.root⟩)).1
  have hall:=h.come hi (r1 1 (by simp)) r2
  have q1:=Qd hok.nodup hok.has
  have q2:=ZG (S:=f.xs.map (·.ino)) (MA hi.rises) fun n hn=>hall n (Hr.2 hn)
  rw[List.length_map]at q2
  exact Nat.le_antisymm q1 q2
 unfold jD
 rw[if_pos h1,if_pos h2,if_pos h3,if_pos h4,if_pos h5,if_pos (show V4 f from h.fit)]
open Classical in
theorem zcK {f:FsV} (h:okM f):FsR f:=by
 obtain ⟨h0,h1,h2,h3,h4,h5,h6⟩:=qd h
 have hi:=XX h.2
 refine ⟨fun x hx=>?_,?_,h6,h1.1,h1.2.1,h1.2.2.1,h1.2.2.2.1⟩
 ·obtain ⟨a1,a2,a3,a4⟩:=h2 x hx
  obtain ⟨b1,b2⟩:=h4 x hx
  refine ⟨fun hk=>(a2 hk).2,fun hk=>(a3 hk).1,fun e he=>?_,a4,fun hn=>?_,fun hk hn=>?_,fun hn=>?_⟩
  ·obtain ⟨i,hi',rfl⟩:=List.getElem_of_mem he
   exact ((a3 (kD hi hx he)).2 i hi').1
  ·rw[if_neg hn]at b2;rw[b1];omega
  ·rw[if_neg hn]at b2;rw[b1,(b2.2 hk).1];rfl
  ·rw[if_pos hn]at b2;exact b2.2
 ·refine ⟨fun n=>if hd:∃ k,Dep f.xs k n then hd.choose else 0,fun y hy e he hk=>?_⟩
  have hs:=YS hi hy
  have hh:=hi.led y hy e he
  have g:=zq hh
  have hyk:=kD hi hy he
  have hey:e∈(zf y.ino f.xs).es:=by rw[hs];exact he
  have hne:e.ino≠1:=jj h (JF hy) hey
  constructor
  ·have b:=(h4 _ g.2.1).2
   rw[g.2.2,if_neg hne]at b
   obtain ⟨c1,c2⟩:=b.2 hk
   rw[c2]
   exact zcd (by omega) fun q hq=>(N8 (Q4.2 ⟨y,hy,e,he,rfl,rfl⟩) hq c1).symm
  ·obtain ⟨k,hd⟩:=MV h (JF hy)
   have hd2:=Dep.step hd (JF hy) hey
   have e1:∃ k,Dep f.xs k y.ino:=⟨k,hd⟩
   have e2:∃ k,Dep f.xs k e.ino:=⟨k+1,hd2⟩
   show (if hd:∃ k,Dep f.xs k y.ino then hd.choose else 0)<if hd:∃ k,Dep f.xs k e.ino then hd.choose else 0
   rw[dif_pos e1,dif_pos e2,QD h _ _ _ e1.choose_spec hd (JF hy) (by rw[hs];exact hyk),QD h _ _ _ e2.choose_spec hd2 hh hk]
   exact Nat.lt_succ_self k
end
section
def bN (x:zn):Nat:=if x.kind=1 then x.data.length else 0
theorem YK:∀ xs:List zn,zP xs=yB bN xs
 | []=>rfl
 | x :: r=>by
  have ih:=YK r
  unfold zP yB at ih ⊢
  rw[List.map_cons,List.sum_cons,←ih,List.filter_cons]
  unfold bN
  by_cases h:x.kind=1<;>simp[h]
theorem zbk {xs:List zn} (hR:zW xs) {x:zn} (hh:zw x.ino xs=true):zP (jp x xs)+bN (zf x.ino xs)=zP xs+bN x:=by
 have:=ZN bN (x:=x) hR
 rw[(zq hh).1]at this
 rw[YK,YK];exact this
theorem Vo {xs:List zn} (hR:zW xs) {x:zn} (hh:zw x.ino xs=false):zP (jp x xs)=zP xs+bN x:=by
 have:=ZN bN (x:=x) hR
 rw[(Jl hh).1]at this
 rw[YK,YK];exact this
theorem zcB {xs:List zn} (hR:zW xs) {n:Int} {F:List zH->List zH} (hh:zw n xs=true):zP (Xw n F xs)=zP xs:=by
 have hg:=zq hh
 have:=zbk hR (x:=jQ (zf n xs) (F (zf n xs).es)) (by show zw (zf n xs).ino xs=true;rw[hg.2.2];exact hh)
 have e:bN (zf (jQ (zf n xs) (F (zf n xs).es)).ino xs)=bN (jQ (zf n xs) (F (zf n xs).es)):=by
  show bN (zf (zf n xs).ino xs)=bN (zf n xs)
  rw[hg.2.2]
 rw[e]at this
 exact Nat.add_right_cancel this
theorem ziM {x:zn} {xs:List zn} (hR:zW xs) (hh:zw x.ino xs=false):(jp x xs).length=xs.length+1:=by rw[←N4 hR hh];simp;have:=zcy x.ino xs;omega
theorem znK.turn {x:zn} (h:znK x) {es:List zH} (he:∀ e∈es,may e.name=true):znK (jQ x es):=⟨h.par,h.bare,he,h.lnk,h.named,h.one,h.top⟩
theorem kV {xs:List zn} {n m:Int} {F:List zH->List zH} (hh:zw n xs=true):(zf m (Xw n F xs)).kind=(zf m xs).kind/\(zf m (Xw n F xs)).parent=(zf m xs).parent/\(zf m (Xw n F xs)).links=(zf m xs).links:=by
 rw[zaC hh]
 split
 ·subst_vars;exact ⟨rfl,rfl,rfl⟩
 ·exact ⟨rfl,rfl,rfl⟩
theorem zl6 {f:FsV} (hi:FsI f) (h:FsR f) {s:zR} (hs:VJ f s) (hm:may s.name=true) {k:Int} {t:List UInt8} (hk:k=1∨k=2∨k=3) (hr:YE f 1 (if k=1 then (t.length:Int) else 0)=true) (h2:k=2->t = [])
  (h3:k=3->1<=t.length/\t.length<=4095/\∀ b∈t,b≠0):FsR (HG f s k t):=by
 obtain ⟨n1,n2⟩:=kE hi
 have hd:=zq hs.has
 have hlt:=Mg hi
 have hdn:s.dir≠f.next:=fun e=>by have:=hs.has;rw[e,n1]at this;cases this
 have hR1:zW (Xw s.dir (qf s.name f.next) f.xs):=X1 hi.rises
 have hn1:zw f.next (Xw s.dir (qf s.name f.next) f.xs)=false:=by rw[QT hs.has];exact n1
 obtain ⟨rk,hrk⟩:=h.edge
 have hmem:∀ {z:zn},z∈(HG f s k t).xs->z=⟨f.next,k,1,t,if k=2 then s.dir else 0,[]⟩∨z=jQ (zf s.dir f.xs) (qf s.name f.next (zf s.dir f.xs).es)∨(z∈f.xs/\z.ino≠s.dir):=fun {z} hz=>by
  rcases j5.1 hz with rfl | ⟨hz,_⟩
  ·exact .inl rfl
  ·exact .inr ((YT hs.has).1 hz)
 have hgot:∀ m,m≠f.next->(zf m (HG f s k t).xs).kind=(zf m f.xs).kind/\(zf m (HG f s k t).xs).parent=(zf m f.xs).parent:=fun m hm=>by
  have e:zf m (HG f s k t).xs=zf m (Xw s.dir (qf s.name f.next) f.xs):=by
   show zf m (jp _ _)=_
   rw[Ql,if_neg (fun e:f.next=m=>hm e.symm)]
  rw[e]
  exact ⟨(kV hs.has).1,(kV hs.has).2.1⟩
 have hgn:zf f.next (HG f s k t).xs=⟨f.next,k,1,t,if k=2 then s.dir else 0,[]⟩:=by
  show zf _ (jp _ _)=_
  rw[Ql,if_pos rfl]
 refine ⟨fun z hz=>?_,⟨fun n=>if n=f.next then rk s.dir+1 else rk n,fun y hy e he hke=>?_⟩,?_,h.lim⟩
 ·rcases hmem hz with rfl | rfl | ⟨hz,_⟩
  ·exact ⟨fun q=>if_neg q,h2,fun e he=>(by cases he),h3,fun _=>Int.le_refl 1,fun _ _=>rfl,fun q=>by have q:f.next=1:=q;omega⟩
  ·exact (h.node _ hd.2.1).turn fun e he=>by
    rcases ZL he with rfl | he
    ·exact hm
    ·exact (h.node _ hd.2.1).nam e he
  ·exact h.node z hz
 ·have old:∀ y0∈f.xs,e∈y0.es->(zf e.ino (HG f s k t).xs).parent=y0.ino/\(if y0.ino=f.next then rk s.dir+1 else rk y0.ino)<(if e.ino=f.next then rk s.dir+1 else rk e.ino):=fun y0 hy0 he0=>by
   have hne:=n2 y0 hy0 e he0
   obtain ⟨g1,g2⟩:=hgot e.ino hne
   rw[g1]at hke
   have:=hrk y0 hy0 e he0 hke
   rw[g2,if_neg hne,if_neg (fun q=>by have:=(hi.ino y0 hy0).2;omega)]
   exact this
  rcases hmem hy with rfl | rfl | ⟨hy,_⟩
  ·cases he
  ·rcases ZL he with rfl | he
   ·rw[hgn]at hke ⊢
    have hke:k=2:=hke
    show (if k=2 then s.dir else 0)=(zf s.dir f.xs).ino/\_
    rw[if_pos hke,hd.2.2]
    refine ⟨rfl,?_⟩
    show (if s.dir=f.next then _ else rk s.dir)<if f.next=f.next then _ else _
    rw[if_neg hdn,if_pos rfl]
    exact Nat.lt_succ_self _
   ·exact old (zf s.dir f.xs) hd.2.1 he
  ·exact old y hy he
 ·unfold YE at hr
  simp only[Bool.and_eq_true,decide_eq_true_eq]at hr
  have hl:(HG f s k t).xs.length=f.xs.length+1:=by
   show (jp _ _).length=_
   rw[ziM hR1 hn1,xo hi.rises hs.has]
  have hb:zP (HG f s k t).xs=zP f.xs+bN ⟨f.next,k,1,t,if k=2 then s.dir else 0,[]⟩:=by
   show zP (jp _ _)=_
   rw[Vo hR1 hn1,zcB hi.rises hs.has]
  rw[hl,hb]
  show ((f.xs.length+1:Nat):Int)<=f.maxI/\((zP f.xs+(if k=1 then t.length else 0):Nat):Int)<=f.maxB
  split at hr<;>(rename_i hq;simp only[hq,if_true,if_false];omega)
end
section
inductive Bel (xs:List zn) (x:Int):Int->Prop
 | refl:Bel xs x x
 | step {y n:Int}:Bel xs x y->zw y xs=true->(∃ e∈(zf y xs).es,e.ino=n)->Bel xs x n
end
section
inductive zgJ (xs:List zn):List (List UInt8)->Int->Prop
 | root:zgJ xs [] 1
 | step {ns:List (List UInt8)} {y n:Int} {m:List UInt8}:zgJ xs ns y->zw y xs=true->(zf y xs).kind=2->JM zH.name m (zf y xs).es=some ⟨m,n⟩->zgJ xs (ns++[m]) n
end
section
structure zgY (w:zY):Prop where
 fs:FsR w.fs
 pool:∀ x∈w.pool,z6 w x
 slots:∀ k∈w.kept,1<=k.slot
 kept:∀ k∈w.kept,YB w k
theorem znZ {w:zY} (h:okW w):zgY w:=⟨zcK (okV.m ⟨h.1.2.1,h.2.1⟩),h.2.2.2.1,h.2.2.2.2.1.2,h.2.2.2.2.2⟩
theorem zpR {w:zY} (h:zgY w) {g:FsV} (hg:FsR g) (hn:w.fs.next<=g.next) (hp:∀ x∈w.pool,zw x.ino g.xs=false) (hk:∀ m,zw m w.fs.xs=true->zw m g.xs=true/\(zf m g.xs).kind=(zf m w.fs.xs).kind):zgY { w with fs:=g }:=by
 refine ⟨hg,fun x hx=>?_,h.slots,fun k hkk=>?_⟩
 ·obtain ⟨q1,q2,q3,q4⟩:=h.pool x hx
  exact ⟨hp x hx,q2,by show x.ino<g.next;omega,q4⟩
 ·obtain ⟨q1,q2,q3,q4⟩:=h.kept k hkk
  refine ⟨q1,q2.imp (fun q=>(hk _ q).1) id,fun hc=>?_,q4⟩
  have:=q3 hc
  show (if zw k.ino w.pool=true then zf k.ino w.pool else zf k.ino g.xs).kind=1
  by_cases hq:zw k.ino w.pool=true
  ·rw[if_pos hq]at this ⊢;exact this
  ·rw[if_neg hq]at this ⊢
   rw[(hk _ (q2.resolve_right hq)).2];exact this
theorem zlg {w:zY} (hi:xd w) (h:zgY w) {p:List UInt8} (hp:zX p=true) {k:Int} (hk:k=1∨k=2∨k=3) {t:List UInt8} (h2:k=2->t = []) (h3:k=3->1<=t.length/\t.length<=4095/\∀ b∈t,b≠0):zgY (z7 w p k t).1:=by
 unfold z7
 by_cases hz:(isV w.fs p false).2.2≠0
 ·rw[if_pos hz];exact h
 rw[if_neg hz]
 have hs:=kB hi.fs hp (Classical.not_not.1 hz)
 obtain ⟨n1,n2⟩:=kE hi.fs
 show zgY { w with fs:=(X8 w.fs (isV w.fs p false).1 k t).1 }
 unfold X8
 by_cases hm:may (isV w.fs p false).1.name=true
 case neg=>rw[if_neg hm];exact h
 rw[if_pos hm]
 by_cases hr:YE w.fs 1 (if k=1 then (t.length:Int) else 0)=true
 case neg=>rw[if_neg hr];exact h
 rw[if_pos hr]
 have hhas:∀ m,zw m (HG w.fs (isV w.fs p false).1 k t).xs=(decide (w.fs.next=m)||zw m w.fs.xs):=fun m=>by
  show zw m (jp _ _)=_
  rw[Qc,QT hs.has]
 refine zpR h (zl6 hi.fs h.fs hs hm hk hr h2 h3) (by show w.fs.next<=w.fs.next+1;omega) (fun x hx=>?_) (fun m hh=>⟨by rw[hhas,hh,Bool.or_true],?_⟩)
 ·rw[hhas,(hi.apart x hx).1,Bool.or_false]
  exact decide_eq_false (by have:=(hi.apart x hx).2;omega)
 ·have hne:w.fs.next≠m:=fun e=>by rw[←e,n1]at hh;cases hh
  show (zf m (jp _ _)).kind=_
  rw[Ql,if_neg hne]
  exact (kV hs.has).1
end
section
theorem zev (w:zY) (p:List UInt8) (k:Int) (t:List UInt8):(z7 w p k t).1.fs.next<=w.fs.next+1:=by
 unfold z7
 split
 ·show w.fs.next<=_;omega
 ·show (X8 w.fs (isV w.fs p false).1 k t).1.next<=_
  rcases Xg w.fs (isV w.fs p false).1 k t with e | e
  ·rw[e];omega
  ·rw[e];exact Int.le_refl _
end
section
inductive zg4 (w:zY):List OpV->zY->Prop
 | nil:zg4 w [] w
 | snoc {l:List OpV} {v:zY} {o:OpV}:zg4 w l v->(doV v o).2=0->zg4 w (l++[o]) (doV v o).1
structure zpH (w:zY) (d:zt):Prop where
 run:zg4 w d.ops d.w
 may:∀ o∈d.ops,zgf o=true/\o.kind<=7
 rise:(zhP d.ops).Pairwise (· < ·)
 over:∀ s∈zhP d.ops,jl w.kept<s/\s<=d.slot
 last:jl w.kept<=d.slot
 stat:(d.status=1)↔d.diags≠[]
 right:zgY d.w
end
section
theorem zbU {f:FsV} (hi:FsI f) {ns:List (List UInt8)} {y:Int} (h:zgJ f.xs ns y):∃ d nm,∀ r,atW f.xs (ns++r) ⟨0,[],1⟩=atW f.xs r ⟨d,nm,y⟩:=by
 induction h with
 | root=>exact ⟨0,[],fun r=>rfl⟩
 | step h1 h2 h3 h4 ih =>
  rename_i ns y n m
  obtain ⟨d,nm,ih⟩:=ih
  refine ⟨y,m,fun r=>?_⟩
  rw[List.append_assoc,ih]
  show atW f.xs (m :: r) ⟨d,nm,y⟩=_
  have hne:y≠0:=X3 hi h2
  have e1:(zf y f.xs).ino=y:=(zq h2).2.2
  have e2:zI m (zf y f.xs).es=n:=by unfold zI;rw[h4]
  rw[atW,if_neg hne,if_neg (fun q=>q h3),e1,e2]
theorem GB {f:FsV} (h:okM f):∀ (m:Nat) (n:Int) (ns:List (List UInt8)),zgJ f.xs ns n->∀ p∈qt f.xs m n ns,zgJ f.xs p.1 p.2.ino
 | 0,n,ns,hl,p,hp=>by unfold qt at hp;cases hp
 | m+1,n,ns,hl,p,hp=>by
  unfold qt at hp
  split at hp
  ·rename_i hh
   rcases List.mem_cons.1 hp with rfl | hp
   ·show zgJ f.xs ns (zf n f.xs).ino
    rw[(zq hh).2.2];exact hl
   ·obtain ⟨e,he,hp⟩:=List.mem_flatMap.1 hp
    have hi:=XX h.2
    refine GB h m e.ino _ (.step hl hh (Va h hh he) ?_) p hp
    have hR:=hi.es _ (zq hh).2.1
    have hx:Z3 e.name (zf n f.xs).es=true:=by
     unfold Z3 ZC
     rw[List.any_eq_true]
     exact ⟨e,he,by simp⟩
    have h2:=ZP hx
    have h3:=JY h2
    have:(⟨e.name,zI e.name (zf n f.xs).es⟩:zH)=e:=by
     obtain ⟨i,hi',ei⟩:=List.getElem_of_mem h3.2
     obtain ⟨j,hj',ej⟩:=List.getElem_of_mem he
     have hp:=List.pairwise_iff_getElem.1 hR
     rcases Nat.lt_trichotomy i j with q | q | q
     ·have:=hp i j hi' hj' q
      rw[ei,ej]at this
      exact absurd this (by show ¬Op.bytesLess e.name e.name=true;rw[Qr];simp)
     ·subst q;rw[←ei,ej]
     ·have:=hp j i hj' hi' q
      rw[ei,ej]at this
      exact absurd this (by show ¬Op.bytesLess e.name e.name=true;rw[Qr];simp)
    rw[h2]
    have e2:zI e.name (zf n f.xs).es=e.ino:=congrArg zH.ino this
    rw[e2]
  ·cases hp
theorem zf7 {f:FsV} (h:okM f) {n:Int} (hh:zw n f.xs=true) (hk:(zf n f.xs).kind=2):∃ ns,(∀ z∈ns,may z=true)/\VV n (trV f.xs 1 [])=some (ql ns)/\zgJ f.xs ns n:=by
 obtain ⟨h0,h1,_⟩:=qd h
 have hkk:∀ p∈trV f.xs 1 [],p.2.ino=n->p.2.kind=2:=fun p hp hpn=>by
  obtain ⟨_,q⟩:=VI hp
  rw[hpn]at q;rw[←q];exact hk
 obtain ⟨p,hp⟩:=ZH (JU h _ 1 [] h1.2.2.2.2.2.2.2.1) hkk (zcY h hh)
 obtain ⟨q,q1,q2⟩:=Ng h hh hk
 have hq:XK n (trV f.xs 1 []) = [ql p.1]:=by unfold XK;rw[hp];rfl
 rw[hq]at q1
 have hqe:ql p.1=q:=by simpa using q1
 have hpf:p∈(trV f.xs 1 []).filter (fun p=>decide (p.2.ino=n)):=by rw[hp];exact List.mem_singleton.2 rfl
 obtain ⟨hpm,hpn⟩:=List.mem_filter.1 hpf
 obtain ⟨zs,z1,z2⟩:=kf (Vf h).1 _ 1 [] p hpm
 rw[List.nil_append]at z1
 rw[←z1]at z2
 have hl:=GB h _ 1 [] .root p hpm
 have hpn:p.2.ino=n:=by simpa using hpn
 rw[hpn]at hl
 exact ⟨p.1,z2,by rw[q2,hqe],hl⟩
theorem zi4 {f:FsV} (hi:FsI f) {ns:List (List UInt8)} {n:Int} (hl:zgJ f.xs ns n) (hh:zw n f.xs=true) (hk:(zf n f.xs).kind=2) (hn:∀ z∈ns,may z=true) {m:List UInt8} (hm:may m=true):zX (ql (ns++[m]))=true/\atV f (ql (ns++[m]))=(⟨n,m,zI m (zf n f.xs).es⟩,0):=by
 have hall:∀ z∈ns++[m],may z=true:=fun z hz=>by
  rcases List.mem_append.1 hz with hz | hz
  ·exact hn z hz
  ·rw[List.mem_singleton.1 hz];exact hm
 have hnm:=ZW (ns++[m]) fun z hz=>ZU (hall z hz)
 have hp:Js (ql (ns++[m]))=true:=by
  unfold Js
  rw[hnm,decide_eq_true rfl,Bool.true_and,List.all_eq_true]
  exact hall
 refine ⟨by unfold zX;rw[hp,hnm];simp,?_⟩
 unfold atV
 rw[if_pos hp,hnm]
 obtain ⟨d,nm,hw⟩:=zbU hi hl
 rw[hw]
 have hne:n≠0:=X3 hi hh
 rw[atW,if_neg hne,if_neg (fun q=>q hk),(zq hh).2.2]
 rfl
theorem zds {f:FsV} (h:okM f) {s:zR} (hh:zw s.dir f.xs=true) (hk:(zf s.dir f.xs).kind=2) (hm:may s.name=true):zX (jr f s)=true/\atV f (jr f s)=(⟨s.dir,s.name,zI s.name (zf s.dir f.xs).es⟩,0):=by
 obtain ⟨ns,n1,n2,n3⟩:=zf7 h hh hk
 have e:jr f s=ql (ns++[s.name]):=by
  unfold jr
  rw[n2,Option.getD_some,UD ns s.name fun y hy=>(ZU (n1 y hy)).1]
 rw[e]
 exact zi4 (XX h.2) n3 hh hk n1 hm
end
section
abbrev YQ:=List (List UInt8)
def onL (f:FsV) (follow:Bool) (lk:zn->zn->YQ->Bool->zR×Int):YQ->zR->Bool->zR×Int
 | [],s,dir=>if zw s.ino f.xs=true/\dir=true/\(zf s.ino f.xs).kind≠2 then (qN,3) else (s,0)
 | n :: r,s,dir =>
  if s.ino=0 then (qN,1)
  else if (zf s.ino f.xs).kind≠2 then (qN,3)
  else if n = [46] then onL f follow lk r ⟨0,[],(zf s.ino f.xs).ino⟩ dir
  else if n = [46,46] then onL f follow lk r ⟨0,[],(zf s.ino f.xs).parent⟩ dir
  else if Z3 n (zf s.ino f.xs).es=false∨(zf (zI n (zf s.ino f.xs).es) f.xs).kind≠3∨(r = []/\follow=false/\dir=false) then
   onL f follow lk r ⟨(zf s.ino f.xs).ino,n,zI n (zf s.ino f.xs).es⟩ dir
  else lk (zf (zI n (zf s.ino f.xs).es) f.xs) (zf s.ino f.xs) r dir
def jq (p:List UInt8):Bool:=!decide (zk p = [])&&Lib.hasSuffix p [47]
def ki (p:List UInt8):Bool:=Lib.hasPrefix p [47]
def onN (f:FsV) (follow:Bool):Nat->YQ->zR->Bool->zR×Int
 | 0=>onL f follow fun _ _ _ _=>(qN,6)
 | k+1=>onL f follow fun x d r dir=>if Qa x.data then (qN,7) else onN f follow k (zk x.data++r) ⟨0,[],if ki x.data then 1 else d.ino⟩ (dir||(jq x.data&&decide (r = [])))
def Xs (f:FsV) (b:List UInt8):Int×Int:=
 if (atV f b).2≠0 then (0,(atV f b).2) else if (atV f b).1.ino=0 then (0,1) else if (zf (atV f b).1.ino f.xs).kind≠2 then (0,3) else ((zf (atV f b).1.ino f.xs).ino,0)
def j0 (f:FsV) (p:List UInt8):zn×Int:=if (atV f p).2≠0 then (vO,(atV f p).2) else if (atV f p).1.ino=0 then (vO,1) else (zf (atV f p).1.ino f.xs,0)
def zU (f:FsV) (b p:List UInt8) (follow:Bool):zR×Int:=
 if p = [] then (qN,1) else if Qa p then (qN,7)
 else if ki p then onN f follow 40 (zk p) ⟨0,[],1⟩ (jq p)
 else if (Xs f b).2≠0 then (qN,(Xs f b).2) else onN f follow 40 (zk p) ⟨0,[],(Xs f b).1⟩ (jq p)
def zkp (f:FsV) (s:zR):Prop:=s.name = []∨(zw s.dir f.xs=true/\(zf s.dir f.xs).kind=2/\s.ino=zI s.name (zf s.dir f.xs).es)
theorem XY {xs:List zn} {n:Int} (h:(zf n xs).kind=2):zw n xs=true:=by
 cases hh:zw n xs with
 | true=>rfl
 | false=>rw[(Jl hh).2]at h;exact absurd h (by decide)
theorem Vl {f:FsV} {P:zR->Prop} {Q:Int->Prop} (hp:∀ m,Q m->P ⟨0,[],m⟩) (hq:∀ m,(zf m f.xs).kind=2->Q m/\Q (zf m f.xs).parent) (hn:∀ m n,(zf m f.xs).kind=2->P ⟨m,n,zI n (zf m f.xs).es⟩)
  {follow:Bool} {lk:zn->zn->YQ->Bool->zR×Int} (hl:∀ x m r dir,(zf m f.xs).kind=2->(lk x (zf m f.xs) r dir).2=0->P (lk x (zf m f.xs) r dir).1):∀ (l:YQ) (s:zR) (dir:Bool),P s->(onL f follow lk l s dir).2=0->P (onL f follow lk l s dir).1
 | [],s,dir,hs,h=>by
  unfold onL at h ⊢
  split at h
  ·exact absurd h (show ¬(3:Int)=0 by decide)
  ·rename_i hn;rw[if_neg hn];exact hs
 | n :: r,s,dir,hs,h=>by
  unfold onL at h ⊢
  by_cases h1:s.ino=0
  ·rw[if_pos h1]at h;exact absurd h (show ¬(1:Int)=0 by decide)
  rw[if_neg h1]at h ⊢
  by_cases h2:(zf s.ino f.xs).kind=2
  case neg=>rw[if_pos h2]at h;exact absurd h (show ¬(3:Int)=0 by decide)
  rw[if_neg (fun q=>q h2)]at h ⊢
  have e:=(zq (XY h2)).2.2
  by_cases h3:n = [46]
  ·rw[if_pos h3]at h ⊢;exact Vl hp hq hn hl r _ dir (by rw[e];exact hp _ (hq _ h2).1) h
  rw[if_neg h3]at h ⊢
  by_cases h4:n = [46,46]
  ·rw[if_pos h4]at h ⊢;exact Vl hp hq hn hl r _ dir (hp _ (hq _ h2).2) h
  rw[if_neg h4]at h ⊢
  split at h
  ·rename_i h5
   rw[if_pos h5]
   exact Vl hp hq hn hl r _ dir (by rw[e];exact hn _ _ h2) h
  ·rename_i h5
   rw[if_neg h5]
   exact hl _ _ _ _ h2 h
theorem xK {f:FsV} {P:zR->Prop} {Q:Int->Prop} (hp:∀ m,Q m->P ⟨0,[],m⟩) (h1:Q 1) (hq:∀ m,(zf m f.xs).kind=2->Q m/\Q (zf m f.xs).parent) (hn:∀ m n,(zf m f.xs).kind=2->P ⟨m,n,zI n (zf m f.xs).es⟩) {follow:Bool}:∀ (k:Nat) (l:YQ) (s:zR) (dir:Bool),P s->(onN f follow k l s dir).2=0->P (onN f follow k l s dir).1
 | 0,l,s,dir,hs,h=>Vl hp hq hn (fun _ _ _ _ _ h=>absurd h (show ¬(6:Int)=0 by decide)) l s dir hs h
 | k+1,l,s,dir,hs,h=>Vl hp hq hn (fun x m r dir h2 h=>by
   split at h
   ·exact absurd h (show ¬(7:Int)=0 by decide)
   ·rename_i hg
    rw[if_neg hg]
    refine xK hp h1 hq hn k _ _ _ (hp _ ?_) h
    split
    ·exact h1
    ·rw[(zq (XY h2)).2.2];exact (hq _ h2).1) l s dir hs h
theorem zfh {f:FsV} {P:zR->Prop} {Q:Int->Prop} (hp:∀ m,Q m->P ⟨0,[],m⟩) (h1:Q 1) (hq:∀ m,(zf m f.xs).kind=2->Q m/\Q (zf m f.xs).parent) (hn:∀ m n,(zf m f.xs).kind=2->P ⟨m,n,zI n (zf m f.xs).es⟩) {b p:List UInt8} {follow:Bool} (h:(zU f b p follow).2=0):P (zU f b p follow).1:=by
 unfold zU at h ⊢
 by_cases a:p = []
 ·rw[if_pos a]at h;exact absurd h (show ¬(1:Int)=0 by decide)
 rw[if_neg a]at h ⊢
 by_cases c:Qa p=true
 ·rw[if_pos c]at h;exact absurd h (show ¬(7:Int)=0 by decide)
 rw[if_neg c]at h ⊢
 by_cases e:ki p=true
 ·rw[if_pos e]at h ⊢
  exact xK hp h1 hq hn _ _ _ _ (hp _ h1) h
 rw[if_neg e]at h ⊢
 by_cases g:(Xs f b).2≠0
 ·rw[if_pos g]at h;exact absurd h g
 rw[if_neg g]at h ⊢
 refine xK hp h1 hq hn _ _ _ _ (hp _ ?_) h
 have g:=Classical.not_not.1 g
 unfold Xs at g ⊢
 by_cases i:(atV f b).2≠0
 ·rw[if_pos i]at g;exact absurd g i
 rw[if_neg i]at g ⊢
 by_cases j:(atV f b).1.ino=0
 ·rw[if_pos j]at g;exact absurd g (show ¬(1:Int)=0 by decide)
 rw[if_neg j]at g ⊢
 by_cases k:(zf (atV f b).1.ino f.xs).kind=2
 ·rw[if_neg (fun q=>q k)]
  show Q (zf _ f.xs).ino
  rw[(zq (XY k)).2.2];exact (hq _ k).1
 ·rw[if_pos k]at g;exact absurd g (show ¬(3:Int)=0 by decide)
theorem H9 {f:FsV} {b p:List UInt8} {follow:Bool} (h:(zU f b p follow).2=0):zkp f (zU f b p follow).1:=
 zfh (P:=zkp f) (Q:=fun _=>True) (fun _ _=>.inl rfl) trivial (fun _ _=>⟨trivial,trivial⟩) (fun m n h=>.inr ⟨XY h,h,rfl⟩) h
def lkN (f:FsV) (follow:Bool):Nat->zn->zn->YQ->Bool->zR×Int
 | 0=>fun _ _ _ _=>(qN,6)
 | k+1=>fun x d r dir=>if Qa x.data then (qN,7) else onN f follow k (zk x.data++r) ⟨0,[],if ki x.data then 1 else d.ino⟩ (dir||(jq x.data&&decide (r = [])))
theorem UM (f:FsV) (follow:Bool) (k:Nat):onN f follow k=onL f follow (lkN f follow k):=by cases k<;>rfl
theorem Xi (f:FsV) (follow:Bool) (k:Nat) (x d:zn) (r:YQ) (dir:Bool):lkN f follow (k+1) x d r dir=if Qa x.data then (qN,7) else onN f follow k (zk x.data++r) ⟨0,[],if ki x.data then 1 else d.ino⟩ (dir||(jq x.data&&decide (r = []))):=rfl
end
section
open Go.RowKit
section
variable {G:zj}
end
end
section
open Go.RowKit
theorem Y2 {f:FsV} (hs:FsS f) {follow:Bool} {lk:zn->zn->YQ->Bool->zR×Int} (hl:∀ x d r dir,x.data.length<=10000->(∀ y∈r,y.length<=100000)->(lk x d r dir).1.name.length<=100000):∀ (l:YQ) (s:zR) (dir:Bool),(∀ y∈l,y.length<=100000)->s.name.length<=100000->(onL f follow lk l s dir).1.name.length<=100000
 | [],s,dir,hy,h=>by
  unfold onL
  split
  ·exact Nat.zero_le _
  ·exact h
 | n :: r,s,dir,hy,h=>by
  have hr:∀ y∈r,y.length<=100000:=fun y q=>hy y (List.mem_cons_of_mem _ q)
  unfold onL
  split
  ·exact Nat.zero_le _
  split
  ·exact Nat.zero_le _
  split
  ·exact Y2 hs hl r _ dir hr (Nat.zero_le _)
  split
  ·exact Y2 hs hl r _ dir hr (Nat.zero_le _)
  split
  ·exact Y2 hs hl r _ dir hr (hy n List.mem_cons_self)
  ·rename_i hq
   refine hl _ _ _ _ ?_ hr
   have hk3:(zf (zI n (zf s.ino f.xs).es) f.xs).kind=3:=Classical.not_not.1 fun q=>hq (.inr (.inl q))
   have hhx:zw (zI n (zf s.ino f.xs).es) f.xs=true:=by
    cases hq2:zw (zI n (zf s.ino f.xs).es) f.xs with
    | true=>rfl
    | false=>rw[(Jl hq2).2]at hk3;exact absurd hk3 (by decide)
   exact (hs.node _ (zq hhx).2.1).2.1
theorem Vz {f:FsV} (hs:FsS f) {follow:Bool}:∀ (k:Nat) (l:YQ) (s:zR) (dir:Bool),(∀ y∈l,y.length<=100000)->s.name.length<=100000->(onN f follow k l s dir).1.name.length<=100000
 | 0,l,s,dir,hy,h=>Y2 hs (fun _ _ _ _ _ _=>Nat.zero_le _) l s dir hy h
 | k+1,l,s,dir,hy,h=>Y2 hs (fun x d r dir hx hr=>by
   split
   ·exact Nat.zero_le _
   ·refine Vz hs k _ _ _ (fun y q=>?_) (Nat.zero_le _)
    rcases List.mem_append.1 q with q | q
    ·have:=(Qi x.data).2 y q;omega
    ·exact hr y q) l s dir hy h
theorem vP {f:FsV} (hs:FsS f) (b p:List UInt8) (follow:Bool) (hp:p.length<=100000):(zU f b p follow).1.name.length<=100000:=by
 have hn:∀ y∈zk p,y.length<=100000:=fun y q=>by have:=(Qi p).2 y q;omega
 unfold zU
 split
 ·exact Nat.zero_le _
 split
 ·exact Nat.zero_le _
 split
 ·exact Vz hs _ _ _ _ hn (Nat.zero_le _)
 split
 ·exact Nat.zero_le _
 ·exact Vz hs _ _ _ _ hn (Nat.zero_le _)
def Zx (x:zn):Bool:=decide (x.kind=3)&&decide (300<(x.data.length:Int))
def Qh (f:FsV) (b p:List UInt8):Bool:=!((f.xs.take 100).any Zx)&&decide ((b.length:Int)<=1000)&&decide ((p.length:Int)<=5000)
theorem zac (f:FsV) (b p:List UInt8):Fun Tryz.prog G0 30 [.agg (fsC f),.str b,.str p] (qp (Qh f b p)) 0:=by
 have hll:(zE f.xs).length=f.xs.length:=List.length_map ..
 refine fon Tryz.func30 ?_;dsimp only[Tryz.f30]
 push_cast -dsimp
 refine loop (fun i:Nat=>⟨[(1,.str b),(2,.str p),(3,.ptr 0 0),(7,.sc (.int .i64 i))],[fsC f],0,0⟩) (fun i=>i<=100/\∀ t (h:t<f.xs.length),t<i->Zx f.xs[t]=false) (fun i=>100-i) 0 ⟨Nat.zero_le _,fun t h h'=>absurd h' (Nat.not_lt_zero _)⟩ ?_ ?_
 ·exact wk
 ·rintro i ⟨h1,h2⟩
  have hend:¬(i<f.xs.length/\i<100)->(f.xs.take 100).any Zx=false:=fun h=>by
   rw[List.any_eq_false]
   intro x hx
   obtain ⟨t,ht,rfl⟩:=List.getElem_of_mem hx
   rw[List.length_take]at ht
   rw[List.getElem_take,h2 t (by omega) (by omega)]
   decide
  have stop:¬(i<f.xs.length/\i<100)->(decide ((b.length:Int)<=1000)&&decide ((p.length:Int)<=5000))=Qh f b p:=fun h=>by
   unfold Qh;rw[hend h];rfl
  by_cases h:i<f.xs.length
  ·by_cases h100:i<100
   ·have g1:=qI f.xs i h
    have h100':(i:Int)<100:=by omega
    have hm:f.xs[i]∈f.xs.take 100:=by
     rw[List.mem_take_iff_getElem]
     exact ⟨i,by omega,rfl⟩
    have next:Zx f.xs[i]=false->∀ t (h:t<f.xs.length),t<i+1->Zx f.xs[t]=false:=fun q t ht hlt=>by
     rcases Nat.lt_or_ge t i with r | r
     ·exact h2 t ht r
     ·have:t=i:=by omega
      subst this;exact q
    by_cases hk:f.xs[i].kind=3
    ·by_cases hd:300<(f.xs[i].data.length:Int)
     ·have hn:Qh f b p=false:=by
       have:(f.xs.take 100).any Zx=true:=List.any_eq_true.2 ⟨_,hm,by unfold Zx;rw[decide_eq_true hk,decide_eq_true hd];rfl⟩
       unfold Qh;rw[this];rfl
      push_cast -dsimp [hll,h,h100',g1,hk,hd]
      repeat refine an ?_
      exact dn (by push_cast -dsimp [zb,za,CLe,ze,hn])
     ·have hq:Zx f.xs[i]=false:=by unfold Zx;rw[decide_eq_false hd,Bool.and_false]
      push_cast -dsimp [hll,h,h100',g1,hk,hd]
      repeat refine an ?_
      exact ⟨i+1,⟨by omega,next hq⟩,by omega,wk⟩
    ·have hq:Zx f.xs[i]=false:=by unfold Zx;rw[decide_eq_false hk,Bool.false_and]
     push_cast -dsimp [hll,h,h100',g1,hk]
     repeat refine an ?_
     exact ⟨i+1,⟨by omega,next hq⟩,by omega,wk⟩
   ·have h100':((i:Int)<100)=False:=eq_false (by omega)
    have:=(stop (by omega)).symm
    by_cases hb:(b.length:Int)<=1000
    ·rw[decide_eq_true hb,Bool.true_and]at this
     push_cast -dsimp [hll,h,h100',hb]
     exact dn (by push_cast -dsimp [zb,za,CLe,ze,this])
    ·rw[decide_eq_false hb,Bool.false_and]at this
     push_cast -dsimp [hll,h,h100',hb]
     exact dn (by push_cast -dsimp [zb,za,CLe,ze,this])
  ·have:=(stop (by omega)).symm
   by_cases hb:(b.length:Int)<=1000
   ·rw[decide_eq_true hb,Bool.true_and]at this
    push_cast -dsimp [hll,h,hb]
    exact dn (by push_cast -dsimp [zb,za,CLe,ze,this])
   ·rw[decide_eq_false hb,Bool.false_and]at this
    push_cast -dsimp [hll,h,hb]
    exact dn (by push_cast -dsimp [zb,za,CLe,ze,this])
end
section
theorem zjL {f:FsV} (hi:FsI f) (hr:FsR f) {n:Int} (hh:zw n f.xs=true) (hk:(zf n f.xs).kind=2):zw (zf n f.xs).parent f.xs=true:=by
 have g:=zq hh
 by_cases h1:n=1
 ·rw[(hr.node _ g.2.1).top (by rw[g.2.2];exact h1)];exact hi.root
 ·have hl:=(hr.node _ g.2.1).named (by rw[g.2.2];exact h1)
  rw[FsR.links hi g.2.1,g.2.2]at hl
  obtain ⟨p,hp⟩:=xQ (n:=n) (l:=zL f.xs) (by omega)
  obtain ⟨y,hy,e,he,q1,q2⟩:=Q4.1 hp
  obtain ⟨rk,hed⟩:=hr.edge
  have:=(hed y hy e he (by rw[q1];exact hk)).1
  rw[q1]at this
  rw[this];exact JF hy
end
section
def zao (xs:List zn):Prop:=∀ x∈xs,x.kind=3->x.data.length<=1000
theorem zj5 {xs:List zn} (h:zao xs) (n:Int):(zf n xs).kind=3->(zf n xs).data.length<=1000:=fun hk=>by
 cases hh:zw n xs with
 | true=>exact h _ (zq hh).2.1 hk
 | false=>rw[(Jl hh).2]at hk;exact absurd hk (by decide)
theorem zcT {xs:List zn} {x:zn} (h:zao xs) (hx:x.kind=3->x.data.length<=1000):zao (jp x xs):=fun z hz hk=>by
 rcases zkn hz with rfl | hz
 ·exact hx hk
 ·exact h z hz hk
theorem Z9 (p:List UInt8):UA (zk p)<=p.length+1:=by
 unfold UA
 rw[jL]
 exact Nat.le_trans (QH _ _) (Nat.le_of_eq (MP p))
theorem Gk (p:List UInt8):∀ x∈zk p,VE x:=fun x hx=>zdZ hx
theorem yu:∀ ns:List (List UInt8),(∀ x∈ns,VE x)->2*ns.length<=UA ns
 | [],_=>Nat.zero_le _
 | x :: r,h=>by
  have ih:=yu r fun y hy=>h y (List.mem_cons_of_mem _ hy)
  have hx:x≠[]:=(h x List.mem_cons_self).1
  have:=List.length_pos_iff.2 hx
  unfold UA at ih ⊢
  rw[List.map_cons,List.sum_cons,List.length_cons]
  omega
theorem zaQ {p:List UInt8} (h:p.length<=1000):(zk p).length<=500:=by
 have:=yu _ (Gk p)
 have:=Z9 p
 omega
theorem zjg {n:Int} {xs:List zn} (h:zw n xs=false):zf n xs=vO:=by unfold zf;rw[(Jl h).1];rfl
end
section
theorem zko {xs:List zn} (h:zao xs) (n:Int) (F:List zH->List zH):zao (Xw n F xs):=zcT h (zj5 h n)
theorem ze4 {w:zY} (h:zao w.fs.xs) {p:List UInt8} {k:Int} {t:List UInt8} (ht:k=3->t.length<=1000):zao (z7 w p k t).1.fs.xs:=by
 unfold z7
 split
 ·exact h
 ·show zao (X8 _ _ _ _).1.xs
  rcases Xg w.fs (isV w.fs p false).1 k t with e | e
  ·rw[e];exact h
  ·rw[e];exact zcT (zko h _ _) ht
structure GrD (N:Nat) (d:zt):Prop where
 b:znp N d
 r:zgY d.w
 next:d.w.fs.next<=549755813888+N
 dat:zao d.w.fs.xs
theorem uK.mono {N M:Nat} {w:zY} (h:uK N w) (hN:N<=M):uK M w:=by
 have key:∀ x,yP N x->yP M x:=fun x hx=>⟨Nat.le_trans hx.1 hN,hx.2⟩
 exact ⟨Nat.le_trans h.len hN,fun x hx=>key x (h.node x hx),Nat.le_trans h.klen hN,h.kdata,Nat.le_trans h.plen hN,fun x hx=>key x (h.pnode x hx),by have:=h.next;omega,h.room⟩
theorem xX {f:FsV} (h:okM f) {s:zR} (hh:zw s.dir f.xs=true) (hk:(zf s.dir f.xs).kind=2) (hm:may s.name=true):(jr f s).length<=990000:=by
 obtain ⟨ns,n1,n2,n3,n4,n5⟩:=zhT h hh hk
 have hml:=UY hm
 have hjw:=J8 ns
 have hjl:(ql ns).length<=980001:=by unfold ql;split<;>simp<;>omega
 have e:jr f s=VS (ql ns) s.name:=by unfold jr;rw[n5];rfl
 have:=zc0 (ql ns) s.name
 rw[e];omega
theorem HT {f:FsV} (hi:FsI f) {s:zR} (h:zkp f s) (h0:s.ino=0) (hm:may s.name=true):VJ f s:=by
 rcases h with h | ⟨h1,h2,h3⟩
 ·rw[h]at hm;exact absurd hm (by decide)
 ·refine ⟨h1,h2,?_⟩
  cases hq:Z3 s.name (zf s.dir f.xs).es with
  | false=>rfl
  | true=>exact absurd (h3.symm.trans h0) (X3 hi (km hi h1 hq))
end
section
def YA (f:FsV) (b p:List UInt8):Bool:=decide ((zU f b p true).2=0)&&decide ((zf (zU f b p true).1.ino f.xs).kind=2)
end
section
def Jo (p:List UInt8):OpV:=⟨1,0,p,[],[]⟩
theorem yC {p:List UInt8} (h:zX p=true):zgf (Jo p)=true:=by
 unfold zgf Jo
 have e1:Ht 1=false:=rfl
 have e2:zn1 1=false:=rfl
 simp only[h,e1,e2]
 rfl
theorem zoD (w:zY) {p:List UInt8} (h:zX p=true):doV w (Jo p)=z7 w p 2 []:=by
 unfold doV
 rw[yC h]
 rfl
theorem zhZ (d:zt) {p:List UInt8} (h:zX p=true):zh9 d (Jo p)=if (z7 d.w p 2 []).2≠0 then (d,(z7 d.w p 2 []).2) else (⟨(z7 d.w p 2 []).1,d.ops++[Jo p],d.diags,d.status,d.slot⟩,0):=by
 have e:Mn d (Jo p)=Jo p:=rfl
 unfold zh9
 rw[if_neg (show ¬7<(Jo p).kind by show ¬(7:Int)<1;decide),e,zoD _ h]
 rfl
def mkF (b:List UInt8) (f:FsV) (p:List UInt8):FsV×Int:=
 if (zU f b p false).2≠0 then (f,(zU f b p false).2) else if (zU f b p false).1.ino≠0 then (f,2) else X8 f (zU f b p false).1 2 []
def jH (b:List UInt8) (d:zt) (p:List UInt8):zt×Int:=
 if (zU d.w.fs b p false).2≠0 then (d,(zU d.w.fs b p false).2) else if (zU d.w.fs b p false).1.ino≠0 then (d,2)
 else if may (zU d.w.fs b p false).1.name=false then (d,9) else zh9 d (Jo (jr d.w.fs (zU d.w.fs b p false).1))
def XE (b:List UInt8):List (List UInt8)->zt->zt×Int
 | [],d=>(d,0)
 | r :: l,d=>if YA d.w.fs b r then XE b l d else if (jH b d r).2≠0 then (d,(jH b d r).2) else XE b l (jH b d r).1
def zkL (p:List UInt8) (i:Nat):List UInt8:=put (ki p) ((zk p).take (i+1)) false
def Qz (p:List UInt8):List (List UInt8):=(List.range (zk p).length).map (zkL p)
def zeD (b:List UInt8) (d:zt) (p:List UInt8):zt×Int:=if p = [] then (d,1) else if Qa p then (d,7) else XE b (Qz p) d
def Jj (b o:List UInt8) (d:zt) (p:List UInt8):zt×Int:=if (112:UInt8)∈o then zeD b d p else jH b d p
def zh2 (b o:List UInt8) (d:zt) (p:List UInt8):zt:=if (Jj b o d p).2≠0 then Ya (Jj b o d p).1 (XM 1 1 p [] (Jj b o d p).2) else (Jj b o d p).1
def zeb (b o:List UInt8) (l:List (List UInt8)) (d:zt):zt:=l.foldl (zh2 b o) d
structure MkG (w0:zY) (N K:Nat) (d:zt):Prop where
 wi:xd d.w
 wr:zgY d.w
 wb:uK (40+N) d.w
 next:d.w.fs.next<=549755813888+N
 dat:zao d.w.fs.xs
 ops:d.ops.length<=N
 all:∀ o∈d.ops,∃ a,o=Jo a/\zX a=true/\a.length<=990000
 diags:d.diags.length<=K
 slot:0<=d.slot/\d.slot<=1073741824
 kept:d.w.kept=w0.kept
 stat:(d.status=1)↔0<d.diags.length
theorem MkG.mono {w0:zY} {N K M L:Nat} {d:zt} (h:MkG w0 N K d) (hN:N<=M) (hK:K<=L):MkG w0 M L d:=
 ⟨h.wi,h.wr,h.wb.mono (by omega),by have:=h.next;omega,h.dat,Nat.le_trans h.ops hN,h.all,Nat.le_trans h.diags hK,h.slot,h.kept,h.stat⟩
theorem MkG.ok {w0:zY} {N K:Nat} {d:zt} (h:MkG w0 N K d) (hN:N<=3200):okM d.w.fs:=
 ⟨⟨by have:=h.wb.len;omega,fun x hx=>by obtain ⟨q1,q2,q3⟩:=h.wb.node x hx;exact ⟨q2,by omega,q3⟩⟩,h.wr.fs.check h.wi.fs (by have:=h.next;omega)⟩
theorem MkG.s {w0:zY} {N K:Nat} {d:zt} (h:MkG w0 N K d) (hN:N<=9000) (hK:K<=80000):zaZ d:=
 ⟨h.wi,h.wb.s h.wi (by omega),by have:=h.ops;omega,by have:=h.diags;omega,h.slot.1,by have:=h.slot.2;omega⟩
theorem zfN {f:FsV} {s:zR} {k:Int} {t:List UInt8} (h:(X8 f s k t).2≠0):(X8 f s k t).1=f:=by
 unfold X8 at h ⊢
 by_cases a:may s.name=true
 ·rw[if_pos a]at h ⊢
  by_cases r:YE f 1 (if k=1 then (t.length:Int) else 0)=true
  ·rw[if_pos r]at h;exact absurd rfl h
  ·rw[if_neg r]
 ·rw[if_neg a]
theorem zhV {w:zY} (hi:xd w) (hok:okM w.fs) {s:zR} (hf:VJ w.fs s) (h0:s.ino=0) (hm:may s.name=true):zX (jr w.fs s)=true/\z7 w (jr w.fs s) 2 []=({ w with fs:=(X8 w.fs s 2 []).1 },(X8 w.fs s 2 []).2):=by
 obtain ⟨p1,p2⟩:=zds hok hf.has hf.kind hm
 have hn:zI s.name (zf s.dir w.fs.xs).es=0:=by
  have:=hf.free
  unfold Z3 at this
  rw[Jd]at this
  unfold zI
  cases hq:JM zH.name s.name (zf s.dir w.fs.xs).es with
  | none=>rfl
  | some e=>rw[hq]at this;cases this
 have e:(⟨s.dir,s.name,zI s.name (zf s.dir w.fs.xs).es⟩:zR)=s:=by rw[hn,←h0]
 rw[e]at p2
 have hz:zw s.ino w.fs.xs=false:=by
  cases hq:zw s.ino w.fs.xs with
  | false=>rfl
  | true=>exact absurd h0 (X3 hi.fs hq)
 have hv:(isV w.fs (jr w.fs s) false).1=s/\(isV w.fs (jr w.fs s) false).2.2=0:=by
  unfold isV
  simp only[p2,hz]
  simp
 refine ⟨p1,?_⟩
 unfold z7
 rw[if_neg (fun q=>q hv.2),hv.1]
theorem zfX {f:FsV} {b p:List UInt8} {fol:Bool} (h:zk p = []):(zU f b p fol).2≠0∨(zU f b p fol).1.name = []:=by
 have key:∀ (n:Int) (dir:Bool),(onN f fol 40 [] ⟨0,[],n⟩ dir).1.name = []:=fun n dir=>by
  rw[UM];unfold onL
  split<;>rfl
 unfold zU
 rw[h]
 split
 ·exact .inl (by decide)
 split
 ·exact .inl (by decide)
 split
 ·exact .inr (key _ _)
 split
 ·rename_i q;exact .inl q
 ·exact .inr (key _ _)
theorem MkG.made {w0:zY} {N K:Nat} {d:zt} (h:MkG w0 N K d) {p:List UInt8} (hp:zX p=true) (hl:p.length<=990000) (hz:(z7 d.w p 2 []).2=0):MkG w0 (N+1) K ⟨(z7 d.w p 2 []).1,d.ops++[Jo p],d.diags,d.status,d.slot⟩:=by
 refine ⟨ziG h.wi hp (.inr (.inl rfl)) [],zlg h.wi h.wr hp (.inr (.inl rfl)) (fun _=>rfl) (fun q=>by cases q),zoU h.wi h.wb hp (Nat.zero_le _),?_,?_,?_,fun o ho=>?_,h.diags,h.slot,?_,h.stat⟩
 ·have:=zev d.w p 2 []
  have:=h.next
  show (z7 d.w p 2 []).1.fs.next<=_
  omega
 ·exact ze4 h.dat fun q=>by cases q
 ·show (d.ops++[Jo p]).length<=N+1
  rw[List.length_append,List.length_singleton]
  have:=h.ops
  omega
 ·rcases List.mem_append.1 ho with ho | ho
  ·exact h.all o ho
  ·exact ⟨p,List.mem_singleton.1 ho,hp,hl⟩
 ·show (z7 d.w p 2 []).1.kept=w0.kept
  rw[←h.kept]
  unfold z7
  split<;>rfl
theorem MkG.tell {w0:zY} {N K:Nat} {d:zt} (h:MkG w0 N K d) (x:List UInt8):MkG w0 N (K+1) (Ya d x):=
 ⟨h.wi,h.wr,h.wb,h.next,h.dat,h.ops,h.all,by show (d.diags++[x]).length<=K+1;rw[List.length_append,List.length_singleton];have:=h.diags;omega,h.slot,h.kept,⟨fun _=>by show 0<(d.diags++[x]).length;simp,fun _=>rfl⟩⟩
theorem vM {w0:zY} {N K:Nat} {d:zt} (h:MkG w0 N K d) (hN:N<=3200) (b p:List UInt8) :
  ((jH b d p).1=d/\(jH b d p).2≠0/\mkF b d.w.fs p=(d.w.fs,(jH b d p).2)) ∨
  ∃ q,zk p≠[]/\zX q=true/\q.length<=990000/\(z7 d.w q 2 []).2=0/\jH b d p=(⟨(z7 d.w q 2 []).1,d.ops++[Jo q],d.diags,d.status,d.slot⟩,0)/\mkF b d.w.fs p=((z7 d.w q 2 []).1.fs,0):=by
 unfold jH mkF
 by_cases h1:(zU d.w.fs b p false).2≠0
 ·rw[if_pos h1,if_pos h1];exact .inl ⟨rfl,h1,rfl⟩
 rw[if_neg h1,if_neg h1]
 by_cases h2:(zU d.w.fs b p false).1.ino≠0
 ·rw[if_pos h2,if_pos h2];exact .inl ⟨rfl,show ¬(2:Int)=0 by decide,rfl⟩
 rw[if_neg h2,if_neg h2]
 have h1:=Classical.not_not.1 h1
 have h2:=Classical.not_not.1 h2
 cases hm:may (zU d.w.fs b p false).1.name with
 | false =>
  rw[if_pos rfl]
  exact .inl ⟨rfl,show ¬(9:Int)=0 by decide,by unfold X8;rw[hm];rfl⟩
 | true =>
  rw[if_neg (by simp)]
  have hfr:=HT h.wi.fs (H9 h1) h2 hm
  have hok:=h.ok hN
  obtain ⟨m1,m2⟩:=zhV h.wi hok hfr h2 hm
  rw[zhZ d m1]
  by_cases hz:(z7 d.w (jr d.w.fs (zU d.w.fs b p false).1) 2 []).2≠0
  ·rw[if_pos hz]
   rw[m2]at hz
   refine .inl ⟨rfl,by rw[m2];exact hz,?_⟩
   rw[m2]
   exact Prod.ext (zfN hz) rfl
  ·rw[if_neg hz]
   have hz:=Classical.not_not.1 hz
   refine .inr ⟨_,fun q=>?_,m1,xX hok hfr.has hfr.kind hm,hz,rfl,?_⟩
   ·rcases zfX (f:=d.w.fs) (b:=b) (fol:=false) q with q | q
    ·exact q h1
    ·rw[q]at hm;exact absurd hm (by decide)
   ·rw[m2]at hz ⊢
    exact Prod.ext rfl hz
theorem U6 {P:zt->Prop} {w0:zY} (ha:∀ N K d p,MkG w0 N K d->N<=3200->zX p=true->p.length<=990000->(z7 d.w p 2 []).2=0->P d->P ⟨(z7 d.w p 2 []).1,d.ops++[Jo p],d.diags,d.status,d.slot⟩) {N K:Nat} {d:zt} (h:MkG w0 N K d) (hN:N<=3200) (hp:P d) (b p:List UInt8) :
  MkG w0 (N+if zk p = [] then 0 else 1) K (jH b d p).1/\P (jH b d p).1:=by
 rcases vM h hN b p with ⟨e,_⟩ | ⟨q,q1,q2,q3,q4,e,_⟩
 ·rw[e];exact ⟨h.mono (Nat.le_add_right _ _) (Nat.le_refl _),hp⟩
 ·rw[e,if_neg q1];exact ⟨h.made q2 q3 q4,ha N K d q h hN q2 q3 q4 hp⟩
theorem kK {P:zt->Prop} {w0:zY} (ha:∀ N K d p,MkG w0 N K d->N<=3200->zX p=true->p.length<=990000->(z7 d.w p 2 []).2=0->P d->P ⟨(z7 d.w p 2 []).1,d.ops++[Jo p],d.diags,d.status,d.slot⟩) (b:List UInt8):∀ (l:List (List UInt8)) (N K:Nat) (d:zt),MkG w0 N K d->N+l.length<=3200->P d->MkG w0 (N+l.length) K (XE b l d).1/\P (XE b l d).1
 | [],N,K,d,h,hN,hp=>⟨h,hp⟩
 | r :: l,N,K,d,h,hN,hp=>by
  rw[List.length_cons]at hN ⊢
  unfold XE
  split
  ·obtain ⟨g1,g2⟩:=kK ha b l N K d h (by omega) hp
   exact ⟨g1.mono (by omega) (Nat.le_refl _),g2⟩
  split
  ·exact ⟨h.mono (by omega) (Nat.le_refl _),hp⟩
  ·obtain ⟨g1,g2⟩:=U6 ha h (by omega) hp b r
   obtain ⟨g3,g4⟩:=kK ha b l (N+1) K _ (g1.mono (by split<;>omega) (Nat.le_refl _)) (by omega) g2
   exact ⟨g3.mono (by omega) (Nat.le_refl _),g4⟩
theorem j8 (p:List UInt8):(Qz p).length=(zk p).length:=by unfold Qz;simp
theorem kC {P:zt->Prop} {w0:zY} (ha:∀ N K d p,MkG w0 N K d->N<=3200->zX p=true->p.length<=990000->(z7 d.w p 2 []).2=0->P d->P ⟨(z7 d.w p 2 []).1,d.ops++[Jo p],d.diags,d.status,d.slot⟩) (b o:List UInt8) {N K:Nat} {d:zt} {p:List UInt8} (h:MkG w0 N K d) (hN:N+(zk p).length<=3200) (hp:P d):MkG w0 (N+(zk p).length) K (Jj b o d p).1/\P (Jj b o d p).1:=by
 have stay:MkG w0 (N+(zk p).length) K d/\P d:=⟨h.mono (Nat.le_add_right _ _) (Nat.le_refl _),hp⟩
 unfold Jj zeD
 split
 ·split
  ·exact stay
  split
  ·exact stay
  ·have:=kK ha b (Qz p) N K d h (by rw[j8];exact hN) hp
   rw[j8]at this
   exact this
 ·obtain ⟨g1,g2⟩:=U6 ha h (by omega) hp b p
  refine ⟨g1.mono ?_ (Nat.le_refl _),g2⟩
  split
  ·omega
  ·rename_i q;have:=List.length_pos_iff.2 q;omega
theorem zca {P:zt->Prop} {w0:zY} (ha:∀ N K d p,MkG w0 N K d->N<=3200->zX p=true->p.length<=990000->(z7 d.w p 2 []).2=0->P d->P ⟨(z7 d.w p 2 []).1,d.ops++[Jo p],d.diags,d.status,d.slot⟩) (ht:∀ d x,P d->P (Ya d x)) (b o:List UInt8) {N K:Nat} {d:zt} {p:List UInt8} (h:MkG w0 N K d) (hN:N+(zk p).length<=3200) (hp:P d):MkG w0 (N+(zk p).length) (K+1) (zh2 b o d p)/\P (zh2 b o d p):=by
 obtain ⟨g1,g2⟩:=kC ha b o h hN hp
 unfold zh2
 split
 ·exact ⟨g1.tell _,ht _ _ g2⟩
 ·exact ⟨g1.mono (Nat.le_refl _) (by omega),g2⟩
def qv (l:List (List UInt8)):Nat:=(l.map fun p=>(zk p).length).sum
theorem zaJ {P:zt->Prop} {w0:zY} (ha:∀ N K d p,MkG w0 N K d->N<=3200->zX p=true->p.length<=990000->(z7 d.w p 2 []).2=0->P d->P ⟨(z7 d.w p 2 []).1,d.ops++[Jo p],d.diags,d.status,d.slot⟩) (ht:∀ d x,P d->P (Ya d x)) (b o:List UInt8):∀ (l:List (List UInt8)) (N K:Nat) (d:zt),MkG w0 N K d->N+qv l<=3200->P d->MkG w0 (N+qv l) (K+l.length) (zeb b o l d)/\P (zeb b o l d)
 | [],N,K,d,h,hN,hp=>⟨h,hp⟩
 | p :: r,N,K,d,h,hN,hp=>by
  have e:qv (p :: r)=(zk p).length+qv r:=rfl
  rw[e]at hN ⊢
  obtain ⟨g1,g2⟩:=zca (p:=p) ha ht b o h (by omega) hp
  have:=zaJ ha ht b o r _ _ _ g1 (by omega) g2
  rw[List.length_cons,show N+((zk p).length+qv r)=N+(zk p).length+qv r by omega,show K+(r.length+1)=K+1+r.length by omega]
  exact this
theorem znF {w:zY} (h:okW w) (hd:zao w.fs.xs) (hn:w.fs.next<=549755813888) (hl:jl w.kept<=536870912):MkG w 0 0 (vb w):=
 ⟨zol h,znZ h,u9 h,by show w.fs.next<=_;omega,hd,Nat.le_refl _,fun o ho=>(by cases ho),Nat.le_refl _,⟨(VF h.2.2.2.2.1).1,by show jl w.kept<=_;omega⟩,rfl,⟨fun h=>absurd h (show ¬(0:Int)=1 by decide),fun h=>absurd h (Nat.lt_irrefl 0)⟩⟩
theorem GZ:∀ {l:List (List UInt8)},(∀ x∈l,x.length<=1000)->qv l<=500*l.length
 | [],_=>Nat.zero_le _
 | p :: r,h=>by
  have ih:=GZ fun x hx=>h x (List.mem_cons_of_mem _ hx)
  have:=zaQ (h p List.mem_cons_self)
  show (zk p).length+qv r<=_
  rw[List.length_cons]
  omega
end
section
open CA CB
open Go.RowKit
theorem ziZ (w:zY) (hw:xd w) (hs:zmw w) (a:List UInt8) (ha:a.length<=1000000) (hp:zX a=true):Fun Tryz.prog GD 111 [kG w,.agg (opL (Jo a))] (.tup [kG (z7 w a 2 []).1,.sc (.int .i64 (z7 w a 2 []).2)]) 0:=by
 have ho:zjh (Jo a):=⟨ha,Nat.zero_le _,Nat.zero_le _⟩
 have hop:=(zb8 1 0 a [] [] ho).gd1
 have hm:=yC hp
 unfold Jo at hm ho ⊢
 have hq:Fun Tryz.prog GD 186 _ _ 0:=(zdD w hw hs ⟨1,0,a,[],[]⟩ ho hp).g0
 rw[hm]at hop
 unfold opL qp at hop
 unfold opL at hq ⊢
 refine fof (fun i=>if i=3 then [false,false,false,false,false,false,false,false,false,true] else []) Tryz.func111 ?_;dsimp only[Tryz.f111]
 push_cast -dsimp
 refine cl (hop) ?_;push_cast -dsimp
 refine cl (zdl (G:=GD)) ?_;push_cast -dsimp [zhS,V0,reduceIte,Int.reduceEq,Option.map_some,Option.map_none]
 refine cl (hq) ?_;push_cast -dsimp
 exact dn (by push_cast -dsimp [zb,za,CLe,ze])
theorem zly (d:zt) (hd:zaZ d) (p:List UInt8) (hp:p.length<=1000000) (hpl:zX p=true):Fun Tryz.prog GD 62 [Zv d,.agg (opL (Jo p))] (.tup [Zv (zh9 d (Jo p)).1,.sc (.int .i64 (zh9 d (Jo p)).2)]) 0:=by
 have hsl:=GJ (G:=GD) (Jo p)
 rw[show decide ((Jo p).kind=3∨(Jo p).kind=7)=false from decide_eq_false (show ¬((1:Int)=3∨(1:Int)=7) by decide)]at hsl
 have hb1:=hd.slot.1
 have hb2:=hd.slot.2
 have hopl:(d.ops.map opL).length=d.ops.length:=List.length_map ..
 have hol:=hd.ops
 have hl5:∀ l:List OpV,∀ r∈l.map opL,r.length=5:=fun l r hr=>by obtain ⟨x,_,rfl⟩:=List.mem_map.1 hr;rfl
 have hst:∀ l:List OpV,js (l.map opL):=fun l r hr=>by obtain ⟨x,_,rfl⟩:=List.mem_map.1 hr;rfl
 have hX:=zaL (G:=GD) (d.ops.map opL) (([Jo p]:List OpV).map opL) (hl5 _) (hl5 _) (hst _) (hst _) (by omega) (by simp) (by simp)
 rw[←List.map_append]at hX
 have hc:=(hX.fun (r:=.own 0 55 5 ((d.ops++([Jo p]:List OpV)).map opL)) (n:=1) (by
  rintro r bx m ⟨rfl,c,B,hB,rfl,rfl⟩
  exact ⟨[(0,55,5,(d.ops++([Jo p]:List OpV)).map opL,c)],[.inl 0],hB.ok rfl (by simp) (hl5 _),rfl,rfl,by push_cast -dsimp [zb,za,CLe,ze,List.length_map]⟩)).weak (r':=.sl 5 ((d.ops++([Jo p]:List OpV)).map opL)) (by push_cast -dsimp [zb,za,CLe,ze])
 have hdo:=ziZ d.w hd.wi hd.ws p hp hpl
 have ea:=zhZ d hpl
 have hmx:¬(0>d.slot):=by omega
 rw[ea]
 have eo:opL (Jo p) = [.sc (.int .i64 1),.sc (.int .i64 0),.str p,.str [],.str []]:=rfl
 unfold opL at hsl
 rw[show (Jo p).kind=1 from rfl,show (Jo p).slot=0 from rfl,show (Jo p).a=p from rfl,show (Jo p).b = [] from rfl,show (Jo p).d = [] from rfl]at hsl
 rw[eo]at hdo ⊢
 simp only[List.map_cons,List.map_nil,eo]at hc
 by_cases hz:(z7 d.w p 2 []).2=0
 ·rw[if_neg (fun h=>h hz)]
  rw[hz]at hdo
  refine fon Tryz.func62 ?_;dsimp only[Tryz.f62]
  push_cast -dsimp
  refine cl (hsl) ?_;push_cast -dsimp
  refine cl (hdo) ?_;push_cast -dsimp
  refine cl (hc) ?_;push_cast -dsimp [eq_false hmx]
  exact dn (by push_cast -dsimp [zb,za,CLe,ze])
 ·have hz':=eq_false hz
  rw[if_pos hz]
  refine fon Tryz.func62 ?_;dsimp only[Tryz.f62]
  push_cast -dsimp
  refine cl (hsl) ?_;push_cast -dsimp
  refine cl (hdo) ?_;push_cast -dsimp [hz']
  exact dn (by push_cast -dsimp [zb,za,CLe,ze])
end
section
open CA CB
open Go.RowKit
theorem zam (f:FsV) (hf:FsI f) (hs:FsS f) (p:List UInt8) (hp:p.length<=100000):Fun Tryz.prog G0 178 [.agg (fsC f),.str p] (.tup [.agg (J2 (j0 f p).1),.sc (.int .i64 (j0 f p).2)]) 0:=by
 have h1:=yn f hf hs p (by omega)
 have h2:=Ym (G:=G0) f (atV f p).1.ino (by have:=hs.len;omega) hf.rises
 by_cases c1:(atV f p).2=0
 ·have c1':=eq_true c1
  cases hh:zw (atV f p).1.ino f.xs with
  | false =>
   have h0:(atV f p).1.ino=0:=Classical.byContradiction fun hne=>by
    have:zw (atV f p).1.ino f.xs=true:=by
     unfold atV at hne ⊢
     split at hne
     ·rename_i q;rw[if_pos q];exact Mp hf _ _ (fun _=>hf.root) hne
     ·exact absurd rfl hne
    rw[this]at hh;cases hh
   have e:j0 f p=(vO,1):=by unfold j0;rw[if_neg (fun h=>h c1),if_pos h0]
   rw[c1]at h1
   rw[hh]at h2
   refine fon Tryz.func178 ?_;dsimp only[Tryz.f178]
   push_cast -dsimp
   refine cl (h1) ?_;push_cast -dsimp
   refine cl (h2) ?_;push_cast -dsimp
   exact dn (by push_cast -dsimp [zb,za,CLe,ze,e,vO])
  | true =>
   have h0:=X3 hf hh
   have e:j0 f p=(zf (atV f p).1.ino f.xs,0):=by unfold j0;rw[if_neg (fun h=>h c1),if_neg h0]
   rw[c1]at h1
   rw[hh]at h2
   refine fon Tryz.func178 ?_;dsimp only[Tryz.f178]
   push_cast -dsimp
   refine cl (h1) ?_;push_cast -dsimp
   refine cl (h2) ?_;push_cast -dsimp
   exact dn (by push_cast -dsimp [zb,za,CLe,ze,e])
 ·have e:j0 f p=(vO,(atV f p).2):=by unfold j0;rw[if_pos c1]
  refine fon Tryz.func178 ?_;dsimp only[Tryz.f178]
  push_cast -dsimp
  refine cl (h1) ?_;push_cast -dsimp [c1]
  exact dn (by push_cast -dsimp [zb,za,CLe,ze,e,vO])
theorem zcO (f:FsV) (hf:FsI f) (hs:FsS f) (p:List UInt8) (hp:p.length<=100000):Fun Tryz.prog G0 150 [.agg (fsC f),.str p] (.tup [.sc (.int .i64 (Xs f p).1),.sc (.int .i64 (Xs f p).2)]) 0:=by
 have h1:=zam f hf hs p hp
 by_cases c1:(j0 f p).2=0
 ·have d1:(atV f p).2=0/\(atV f p).1.ino≠0/\(j0 f p).1=zf (atV f p).1.ino f.xs:=by
   unfold j0 at c1 ⊢
   split at c1
   ·rename_i h;exact absurd c1 h
   ·rename_i h
    split at c1
    ·exact absurd c1 (show ¬(1:Int)=0 by decide)
    ·rename_i h';rw[if_neg h,if_neg h'];exact ⟨Classical.not_not.1 h,h',rfl⟩
  rw[c1]at h1
  by_cases c2:(j0 f p).1.kind=2
  ·have e:Xs f p=((j0 f p).1.ino,0):=by unfold Xs;rw[if_neg (fun h=>h d1.1),if_neg d1.2.1,if_neg (by rw[←d1.2.2];exact fun h=>h c2),d1.2.2]
   refine fon Tryz.func150 ?_;dsimp only[Tryz.f150]
   push_cast -dsimp
   refine cl (h1) ?_;push_cast -dsimp [c2]
   exact dn (by push_cast -dsimp [zb,za,CLe,ze,e])
  ·have e:Xs f p=(0,3):=by unfold Xs;rw[if_neg (fun h=>h d1.1),if_neg d1.2.1,if_pos (by rw[←d1.2.2];exact c2)]
   refine fon Tryz.func150 ?_;dsimp only[Tryz.f150]
   push_cast -dsimp
   refine cl (h1) ?_;push_cast -dsimp [c2]
   exact dn (by push_cast -dsimp [zb,za,CLe,ze,e])
 ·have e:Xs f p=(0,(j0 f p).2):=by
   unfold Xs j0
   unfold j0 at c1
   split
   ·rfl
   ·rename_i h
    rw[if_neg h]at c1
    split
    ·rfl
    ·rename_i h';rw[if_neg h']at c1;exact absurd rfl c1
  refine fon Tryz.func150 ?_;dsimp only[Tryz.f150]
  push_cast -dsimp
  refine cl (h1) ?_;push_cast -dsimp [c1]
  exact dn (by push_cast -dsimp [zb,za,CLe,ze,e])
theorem za7 {G:zj} (a b:List (List UInt8)) (la:a.length<=90000) (lb:b.length<=90000):Fun Tryz.prog G 75 [.sl 1 [[.sl 1 (zC a)],[.sl 1 (zC b)]]] (.sl 1 (zC (a++b))) 0:=by
 have hl:∀ l:List (List UInt8),∀ r∈zC l,r.length=1:=fun l r hr=>by obtain ⟨x,_,rfl⟩:=List.mem_map.1 hr;rfl
 have hs:∀ l:List (List UInt8),js (zC l):=fun l r hr=>by obtain ⟨x,_,rfl⟩:=List.mem_map.1 hr;rfl
 have hla:(zC a).length=a.length:=List.length_map ..
 have hlb:(zC b).length=b.length:=List.length_map ..
 by_cases h0:0<a.length+b.length
 ·have h:=Nw (G:=G) (zC a) (zC b) (hl a) (hl b) (hs a) (hs b) (by omega) (by omega) (by omega)
  have e:zC a++zC b=zC (a++b):=List.map_append.symm
  rw[e]at h
  refine (h.fun (r:=.own 0 9 1 (zC (a++b))) (n:=1) (by
   rintro r bx m ⟨rfl,c,B,hB,rfl,rfl⟩
   exact ⟨[(0,9,1,zC (a++b),c)],[.inl 0],hB.ok rfl (by rw[List.length_map,List.length_append];exact h0) (hl _),rfl,rfl,by push_cast -dsimp [zb,za,CLe,ze,List.length_map]⟩)).weak (by push_cast -dsimp [zb,za,CLe,ze])
 ·have ha:a = []:=List.eq_nil_of_length_eq_zero (by omega)
  have hb:b = []:=List.eq_nil_of_length_eq_zero (by omega)
  subst ha hb
  exact HJ
end
section
open CA CB
open Go.RowKit
abbrev zhW (f:FsV) (fol dir:Bool) (todo:YQ) (s:zR) (n:Int):List C:=[.sc (.int .i64 f.maxI),.sc (.int .i64 f.maxB),.sc (.int .i64 f.next),.sl 6 (zE f.xs),.sc (.bool fol),.sc (.bool dir),.sl 1 (zC todo),.sc (.int .i64 s.dir),.str s.name,.sc (.int .i64 s.ino),.sc (.int .i64 n)]
abbrev Yi:List C:=[.any,.any,.any,.any,.any,.any,.any,.any,.any,.any,.any]
theorem kZ (f:FsV) (fol dir:Bool) (todo:YQ) (s:zR) (n:Nat) (x d:zn) (hx:x.data.length<=10000) (ht:todo.length<=80000) (hn:n<=40):YI Tryz.prog G0 152 [.ptr 0 0,.agg (J2 x),.agg (J2 d)] [zhW f fol dir todo s n] 0 (fun r bx m=>m=0 /\
  ((n=40/\r = .sc (.int .i64 6)/\bx = [Yi])∨(n<40/\Qa x.data=true/\r = .sc (.int .i64 7)/\bx = [Yi])∨(n<40/\Qa x.data=false/\r = .sc (.int .i64 0)/\bx = [zhW f fol (dir||(jq x.data&&decide (todo = []))) (zk x.data++todo) ⟨0,[],if ki x.data then 1 else d.ino⟩ (n+1:Nat)]))):=by
 by_cases h40:n=40
 ·have hc:((40:Int)<(n:Int)+1)=True:=eq_true (by omega)
  refine foX (fun _=>[]) Tryz.func152 ?_;dsimp only[Tryz.f152]
  push_cast -dsimp [hc]
  repeat refine an ?_
  exact ⟨_,[Yi],0,⟨⟨rfl,.inl ⟨h40,rfl,rfl⟩⟩,Nat.le_refl _⟩,[],rfl,rfl,by push_cast -dsimp [zb,za,CLe,ze],by push_cast -dsimp [zb,za,CLe,ze]⟩
 have hc:((40:Int)<(n:Int)+1)=False:=eq_false (by omega)
 have hlg:=UZ x.data (by omega)
 cases hl:Qa x.data with
 | true =>
  rw[hl]at hlg
  refine foX (fun _=>[]) Tryz.func152 ?_;dsimp only[Tryz.f152]
  push_cast -dsimp [hc]
  repeat refine an ?_
  refine cl (hlg) ?_;push_cast -dsimp
  exact ⟨_,[Yi],0,⟨⟨rfl,.inr (.inl ⟨by omega,rfl,rfl⟩)⟩,Nat.le_refl _⟩,[],rfl,rfl,by push_cast -dsimp [zb,za,CLe,ze],by push_cast -dsimp [zb,za,CLe,ze]⟩
 | false =>
  rw[hl]at hlg
  have hrd:Fun Tryz.prog G0 107 [.str x.data] (.agg [qp (ki x.data),.own 0 9 1 (zC (zk x.data)),qp (jq x.data)]) 1:=ZF x.data (by omega)
  have hnl:=qw x.data
  have hcc:=za7 (G:=G0) (zk x.data) todo (by omega) (by omega)
  have htl:(zC todo).length=todo.length:=List.length_map ..
  have hte:((todo.length:Int)=0)=(todo = []):=propext ⟨fun h=>List.eq_nil_of_length_eq_zero (by omega),fun h=>by rw[h];rfl⟩
  generalize zk x.data=nm at hrd hcc
  have fin:∀ (b a:Bool),(dir||(jq x.data&&decide (todo = [])))=b->ki x.data=a->YI Tryz.prog G0 152 [.ptr 0 0,.agg (J2 x),.agg (J2 d)] [zhW f fol dir todo s n] 0 (fun r bx m=>m=0/\r = .sc (.int .i64 0)/\bx = [zhW f fol b (nm++todo) ⟨0,[],if a then 1 else d.ino⟩ (n+1:Nat)]):=fun b a hb ha=>by
   rw[ha]at hrd
   by_cases ht0:todo = []
   ·have ht0':=eq_true ht0
    cases dir<;>cases hs:jq x.data<;>rw[hs]at hrd hb<;>cases a
    all_goals
     simp[ht0]at hb
     subst hb
     refine foX (fun i=>if i=8 then [false,false,false,false,false,false,false,false,false,false,false,true] else []) Tryz.func152 ?_;dsimp only[Tryz.f152]
     push_cast -dsimp [hc]
     repeat refine an ?_
     refine cl (hlg) ?_;push_cast -dsimp
     refine cl (hrd) ?_;push_cast -dsimp [htl,hte,ht0']
     refine cl (hcc) ?_;push_cast -dsimp
     exact ⟨_,_,0,⟨⟨rfl,rfl,rfl⟩,Nat.le_refl _⟩,[],rfl,rfl,by push_cast -dsimp [zb,za,CLe,ze],by push_cast -dsimp [zb,za,CLe,ze]⟩
   ·have ht0':=eq_false ht0
    cases dir<;>cases hs:jq x.data<;>rw[hs]at hrd hb<;>cases a
    all_goals
     simp[ht0]at hb
     subst hb
     refine foX (fun i=>if i=8 then [false,false,false,false,false,false,false,false,false,false,false,true] else []) Tryz.func152 ?_;dsimp only[Tryz.f152]
     push_cast -dsimp [hc]
     repeat refine an ?_
     refine cl (hlg) ?_;push_cast -dsimp
     refine cl (hrd) ?_;push_cast -dsimp [htl,hte,ht0']
     refine cl (hcc) ?_;push_cast -dsimp
     exact ⟨_,_,0,⟨⟨rfl,rfl,rfl⟩,Nat.le_refl _⟩,[],rfl,rfl,by push_cast -dsimp [zb,za,CLe,ze],by push_cast -dsimp [zb,za,CLe,ze]⟩
  have h:=fin _ _ rfl rfl
  exact ⟨h.1,fun R L vs a1 a2 a3 a4 a5 a6 a7=>(h.2 R L vs a1 a2 a3 a4 a5 a6 a7).mono fun _ _=>by
   rintro ⟨r,bx,m,⟨⟨q1,q2,q3⟩,q4⟩,q5⟩
   exact ⟨r,bx,m,⟨⟨q1,.inr (.inr ⟨by omega,rfl,q2,q3⟩)⟩,q4⟩,q5⟩⟩
theorem zft (f:FsV) (hf:FsI f) (hs:FsS f) (fol dir:Bool) (todo:YQ) (s:zR) (n:Nat) (lk:zn->zn->YQ->Bool->zR×Int):YI Tryz.prog G0 153 [.ptr 0 0] [zhW f fol dir todo s n] 0 (fun r bx m=>m=0/\r = .tup [.agg (V2 (onL f fol lk [] s dir).1),.sc (.int .i64 (onL f fol lk [] s dir).2)]/\bx = [Yi]):=by
 have hg:=Ym (G:=G0) f s.ino (by have:=hs.len;omega) hf.rises
 cases hh:zw s.ino f.xs with
 | false =>
  have e:onL f fol lk [] s dir=(s,0):=by unfold onL;rw[if_neg (fun h=>by rw[hh]at h;cases h.1)]
  rw[hh]at hg
  refine foX (fun i=>if i=1 then XT 13 14 else []) Tryz.func153 ?_;dsimp only[Tryz.f153]
  push_cast -dsimp
  refine cl (hg) ?_;push_cast -dsimp
  exact ⟨_,[Yi],0,⟨⟨rfl,rfl,rfl⟩,Nat.le_refl _⟩,[],rfl,rfl,by push_cast -dsimp [zb,za,CLe,ze],by push_cast -dsimp [zb,za,CLe,ze,e]⟩
 | true =>
  rw[hh]at hg
  cases dir with
  | false =>
   have e:onL f fol lk [] s false=(s,0):=by unfold onL;rw[if_neg (fun h=>by cases h.2.1)]
   refine foX (fun i=>if i=1 then XT 13 14 else []) Tryz.func153 ?_;dsimp only[Tryz.f153]
   push_cast -dsimp
   refine cl (hg) ?_;push_cast -dsimp
   exact ⟨_,[Yi],0,⟨⟨rfl,rfl,rfl⟩,Nat.le_refl _⟩,[],rfl,rfl,by push_cast -dsimp [zb,za,CLe,ze],by push_cast -dsimp [zb,za,CLe,ze,e]⟩
  | true =>
   by_cases hk:(zf s.ino f.xs).kind=2
   ·have e:onL f fol lk [] s true=(s,0):=by unfold onL;rw[if_neg (fun h=>h.2.2 hk)]
    have hk':=eq_true hk
    refine foX (fun i=>if i=1 then XT 13 14 else []) Tryz.func153 ?_;dsimp only[Tryz.f153]
    push_cast -dsimp
    refine cl (hg) ?_;push_cast -dsimp [hk']
    exact ⟨_,[Yi],0,⟨⟨rfl,rfl,rfl⟩,Nat.le_refl _⟩,[],rfl,rfl,by push_cast -dsimp [zb,za,CLe,ze],by push_cast -dsimp [zb,za,CLe,ze,e]⟩
   ·have e:onL f fol lk [] s true=(qN,3):=by unfold onL;rw[if_pos ⟨hh,rfl,hk⟩]
    have hk':=eq_false hk
    refine foX (fun i=>if i=1 then XT 13 14 else []) Tryz.func153 ?_;dsimp only[Tryz.f153]
    push_cast -dsimp
    refine cl (hg) ?_;push_cast -dsimp [hk']
    exact ⟨_,[Yi],0,⟨⟨rfl,rfl,rfl⟩,Nat.le_refl _⟩,[],rfl,rfl,by push_cast -dsimp [zb,za,CLe,ze],by push_cast -dsimp [zb,za,CLe,ze,e,qN]⟩
theorem zbP (f:FsV) (hf:FsI f) (hr:FsR f) (hs:FsS f) (fol dir0:Bool) (todo0:YQ) (s0:zR) (ht0:todo0.length<=3000) (hd:∀ x∈f.xs,x.kind=3->x.data.length<=1000) (hs0:s0.ino≠0->zw s0.ino f.xs=true) (R:zR×Int) (hR:onN f fol 40 todo0 s0 dir0=R):YI Tryz.prog G0 105 [.ptr 0 0] [zhW f fol dir0 todo0 s0 (0:Nat)] 0 (fun r bx m=>m=0/\r = .tup [.agg (V2 R.1),.sc (.int .i64 R.2)]/\∃ X,bx = [Yi]++X):=by
 refine foX (fun i=>if i=4 then XT 13 14 else []) Tryz.func105 ?_;dsimp only[Tryz.f105]
 push_cast -dsimp
 refine loop (fun p:YQ×zR×Bool×Nat=>⟨[(0,.ptr 0 0),(2,.ptr 1 0)],[zhW f fol p.2.2.1 p.1 p.2.1 p.2.2.2,[.any,.any,.any]],0,0⟩)
  (fun p=>onN f fol (40-p.2.2.2) p.1 p.2.1 p.2.2.1=R/\p.2.2.2<=40/\p.1.length<=3000+p.2.2.2*1000/\(p.2.1.ino≠0->zw p.2.1.ino f.xs=true)) (fun p=>(41-p.2.2.2)*100000+p.1.length) (todo0,s0,dir0,0) ⟨hR,Nat.zero_le _,by dsimp only;omega,hs0⟩ ?_ ?_
 ·exact wk
 rintro ⟨todo,s,dir,n⟩ ⟨hon,hn,htl,hin⟩
 dsimp only at hon hn htl hin
 rw[UM]at hon
 cases todo with
 | nil =>
  have he:=zft f hf hs fol dir [] s n (lkN f fol (40-n))
  rw[hon]at he
  push_cast -dsimp
  refine YF [0] [] he rfl (by decide) (by decide) (by simp) (by push_cast -dsimp) rfl (fun r bx' m hp=>?_)
  obtain ⟨rfl,rfl,rfl⟩:=hp
  push_cast -dsimp
  exact ⟨_,[Yi],0,⟨⟨rfl,rfl,[],rfl⟩,by simp⟩,[],rfl,rfl,by push_cast -dsimp [zb,za,CLe,ze],by push_cast -dsimp [zb,za,CLe,ze]⟩
 | cons nm rest =>
  have hg:=Ym (G:=G0) f s.ino (by have:=hs.len;omega) hf.rises
  have hpos:((0:Int)<(rest.length:Int)+1)=True:=eq_true (by omega)
  have hrl:(zC rest).length=rest.length:=List.length_map ..
  have hl1:((1:Int)<=(rest.length:Int)+1)=True:=eq_true (by omega)
  rw[List.length_cons]at htl
  unfold onL at hon
  cases hh:zw s.ino f.xs with
  | false =>
   have h0:s.ino=0:=Classical.byContradiction fun q=>by rw[hin q]at hh;cases hh
   rw[if_pos h0]at hon
   rw[hh]at hg
   rw[←hon]
   push_cast -dsimp [hpos,hl1]
   repeat refine an ?_
   refine cl (hg) ?_;push_cast -dsimp
   exact ⟨_,[Yi],0,⟨⟨rfl,rfl,[],rfl⟩,by simp⟩,[],rfl,rfl,by push_cast -dsimp [zb,za,CLe,ze],by push_cast -dsimp [zb,za,CLe,ze,qN]⟩
  | true =>
   have hgs:=zq hh
   rw[if_neg (X3 hf hh)]at hon
   rw[hh]at hg
   by_cases hk2:(zf s.ino f.xs).kind=2
   case neg =>
    have hk2':=eq_false hk2
    rw[if_pos hk2]at hon
    rw[←hon]
    push_cast -dsimp [hpos,hl1]
    repeat refine an ?_
    refine cl (hg) ?_;push_cast -dsimp [hk2']
    exact ⟨_,[Yi],0,⟨⟨rfl,rfl,[],rfl⟩,by simp⟩,[],rfl,rfl,by push_cast -dsimp [zb,za,CLe,ze],by push_cast -dsimp [zb,za,CLe,ze,qN]⟩
   have hk2':=eq_true hk2
   rw[if_neg (fun q=>q hk2)]at hon
   by_cases n1:nm = [46]
   ·have n1':=eq_true n1
    rw[if_pos n1]at hon
    push_cast -dsimp [hpos,hl1]
    repeat refine an ?_
    refine cl (hg) ?_;push_cast -dsimp [hk2',n1']
    exact ⟨(rest,⟨0,[],(zf s.ino f.xs).ino⟩,dir,n),⟨by dsimp only;rw[UM];exact hon,hn,by dsimp only;omega,fun _=>by dsimp only;rw[hgs.2.2];exact hh⟩,by dsimp only;omega,wk⟩
   have n1':=eq_false n1
   rw[if_neg n1]at hon
   by_cases n2:nm = [46,46]
   ·have n2':=eq_true n2
    rw[if_pos n2]at hon
    push_cast -dsimp [hpos,hl1]
    repeat refine an ?_
    refine cl (hg) ?_;push_cast -dsimp [hk2',n1',n2']
    exact ⟨(rest,⟨0,[],(zf s.ino f.xs).parent⟩,dir,n),⟨by dsimp only;rw[UM];exact hon,hn,by dsimp only;omega,fun _=>zjL hf hr hh hk2⟩,by dsimp only;omega,wk⟩
   have n2':=eq_false n2
   rw[if_neg n2]at hon
   have hfd:=Gb (G:=G0) (zf s.ino f.xs).es nm (by have:=hs.es hh;omega) (hf.es _ hgs.2.1)
   have hg2:=Ym (G:=G0) f (zI nm (zf s.ino f.xs).es) (by have:=hs.len;omega) hf.rises
   have hin2:zI nm (zf s.ino f.xs).es≠0->zw (zI nm (zf s.ino f.xs).es) f.xs=true:=fun q=>by
    have hx:Z3 nm (zf s.ino f.xs).es=true:=by
     unfold Z3
     rw[Jd]
     cases hq:JM zH.name nm (zf s.ino f.xs).es with
     | some e=>rfl
     | none=>unfold zI at q;rw[hq]at q;exact absurd rfl q
    exact km hf hh hx
   by_cases hk3:(zf (zI nm (zf s.ino f.xs).es) f.xs).kind=3
   case neg =>
    have hk3':=eq_false hk3
    have hg1:((0:Int)<(rest.length:Int))=((0:Int)<(rest.length:Int)):=rfl
    rw[if_pos (.inr (.inl hk3))]at hon
    push_cast -dsimp [hpos,hl1,hk2',n1',n2',hk3']
    repeat refine an ?_
    refine cl (hg) ?_;push_cast -dsimp [hk2',n1',n2']
    refine cl (hfd) ?_;push_cast -dsimp
    refine cl (hg2) ?_;push_cast -dsimp [hk3',hrl]
    exact ⟨(rest,⟨(zf s.ino f.xs).ino,nm,zI nm (zf s.ino f.xs).es⟩,dir,n),⟨by dsimp only;rw[UM];exact hon,hn,by dsimp only;omega,hin2⟩,by dsimp only;omega,wk⟩
   have hk3':=eq_true hk3
   have hx2:zw (zI nm (zf s.ino f.xs).es) f.xs=true:=by
    cases hq:zw (zI nm (zf s.ino f.xs).es) f.xs with
    | true=>rfl
    | false=>rw[(Jl hq).2]at hk3;exact absurd hk3 (by decide)
   have hxe:Z3 nm (zf s.ino f.xs).es=true:=by
    cases hq:Z3 nm (zf s.ino f.xs).es with
    | true=>rfl
    | false =>
     have e0:zI nm (zf s.ino f.xs).es=0:=by
      unfold zI
      unfold Z3 at hq
      rw[Jd]at hq
      cases hz:JM zH.name nm (zf s.ino f.xs).es with
      | none=>rfl
      | some e=>rw[hz]at hq;cases hq
     rw[e0]at hx2
     exact absurd rfl (X3 hf hx2)
   have hxd:=hd _ (zq hx2).2.1 hk3
   by_cases hr0:rest = []
   ·have hg1:((0:Int)<(rest.length:Int))=False:=eq_false (by rw[hr0];simp)
    cases fol with
    | false =>
     cases dir with
     | false =>
      rw[if_pos (.inr (.inr ⟨hr0,rfl,rfl⟩))]at hon
      push_cast -dsimp [hpos,hl1,hk2',n1',n2',hk3',hg1]
      repeat refine an ?_
      refine cl (hg) ?_;push_cast -dsimp [hk2',n1',n2']
      refine cl (hfd) ?_;push_cast -dsimp
      refine cl (hg2) ?_;push_cast -dsimp [hk3',hrl,hg1]
      exact ⟨(rest,⟨(zf s.ino f.xs).ino,nm,zI nm (zf s.ino f.xs).es⟩,false,n),⟨by dsimp only;rw[UM];exact hon,hn,by dsimp only;omega,hin2⟩,by dsimp only;omega,wk⟩
     | true =>
      rw[if_neg (by rintro (q | q | q);exact absurd (hxe.symm.trans q) (by simp);exact q hk3;cases q.2.2)]at hon
      have hlk:=kZ f false true rest s n (zf (zI nm (zf s.ino f.xs).es) f.xs) (zf s.ino f.xs) (by omega) (by omega) hn
      push_cast -dsimp [hpos,hl1,hk2',n1',n2',hk3',hg1]
      repeat refine an ?_
      refine cl (hg) ?_;push_cast -dsimp [hk2',n1',n2']
      refine cl (hfd) ?_;push_cast -dsimp
      refine cl (hg2) ?_;push_cast -dsimp [hk3',hrl,hg1]
      refine YF [0] [] hlk rfl (by decide) (by decide) (by simp) (by push_cast -dsimp) (by push_cast -dsimp) (fun r bx' m hp=>?_)
      obtain ⟨rfl,⟨q1,rfl,rfl⟩ | ⟨q1,q2,rfl,rfl⟩ | ⟨q1,q2,rfl,rfl⟩⟩:=hp
      ·push_cast -dsimp
       have hk0:40-n=0:=by omega
       rw[hk0]at hon
       have hon:(qN,(6:Int))=R:=hon
       rw[←hon]
       exact ⟨_,[Yi],0,⟨⟨rfl,rfl,[],rfl⟩,by simp⟩,[],rfl,rfl,by push_cast -dsimp [zb,za,CLe,ze],by push_cast -dsimp [zb,za,CLe,ze,qN]⟩
      ·push_cast -dsimp
       have hk0:40-n=(39-n)+1:=by omega
       rw[hk0,Xi,if_pos q2]at hon
       rw[←hon]
       exact ⟨_,[Yi],0,⟨⟨rfl,rfl,[],rfl⟩,by simp⟩,[],rfl,rfl,by push_cast -dsimp [zb,za,CLe,ze],by push_cast -dsimp [zb,za,CLe,ze,qN]⟩
      ·push_cast -dsimp
       have hk0:40-n=(39-n)+1:=by omega
       have hk1:40-(n+1)=39-n:=by omega
       rw[hk0,Xi,if_neg (by rw[q2];simp)]at hon
       have hnl:=qw (zf (zI nm (zf s.ino f.xs).es) f.xs).data
       exact ⟨(zk (zf (zI nm (zf s.ino f.xs).es) f.xs).data++rest,⟨0,[],if ki (zf (zI nm (zf s.ino f.xs).es) f.xs).data then 1 else (zf s.ino f.xs).ino⟩,true||(jq (zf (zI nm (zf s.ino f.xs).es) f.xs).data&&decide (rest = [])),n+1),⟨by dsimp only;rw[hk1];exact hon,by dsimp only;omega,by dsimp only;rw[List.length_append];omega,fun _=>by
        dsimp only
        split
        ·exact hf.root
        ·rw[hgs.2.2];exact hh⟩,by dsimp only;rw[List.length_append];omega,wk⟩
    | true =>
     rw[if_neg (by rintro (q | q | q);exact absurd (hxe.symm.trans q) (by simp);exact q hk3;cases q.2.1)]at hon
     have hlk:=kZ f true dir rest s n (zf (zI nm (zf s.ino f.xs).es) f.xs) (zf s.ino f.xs) (by omega) (by omega) hn
     push_cast -dsimp [hpos,hl1,hk2',n1',n2',hk3',hg1]
     repeat refine an ?_
     refine cl (hg) ?_;push_cast -dsimp [hk2',n1',n2']
     refine cl (hfd) ?_;push_cast -dsimp
     refine cl (hg2) ?_;push_cast -dsimp [hk3',hrl,hg1]
     refine YF [0] [] hlk rfl (by decide) (by decide) (by simp) (by push_cast -dsimp) (by push_cast -dsimp) (fun r bx' m hp=>?_)
     obtain ⟨rfl,⟨q1,rfl,rfl⟩ | ⟨q1,q2,rfl,rfl⟩ | ⟨q1,q2,rfl,rfl⟩⟩:=hp
     ·push_cast -dsimp
      have hk0:40-n=0:=by omega
      rw[hk0]at hon
      have hon:(qN,(6:Int))=R:=hon
      rw[←hon]
      exact ⟨_,[Yi],0,⟨⟨rfl,rfl,[],rfl⟩,by simp⟩,[],rfl,rfl,by push_cast -dsimp [zb,za,CLe,ze],by push_cast -dsimp [zb,za,CLe,ze,qN]⟩
     ·push_cast -dsimp
      have hk0:40-n=(39-n)+1:=by omega
      rw[hk0,Xi,if_pos q2]at hon
      rw[←hon]
      exact ⟨_,[Yi],0,⟨⟨rfl,rfl,[],rfl⟩,by simp⟩,[],rfl,rfl,by push_cast -dsimp [zb,za,CLe,ze],by push_cast -dsimp [zb,za,CLe,ze,qN]⟩
     ·push_cast -dsimp
      have hk0:40-n=(39-n)+1:=by omega
      have hk1:40-(n+1)=39-n:=by omega
      rw[hk0,Xi,if_neg (by rw[q2];simp)]at hon
      have hnl:=qw (zf (zI nm (zf s.ino f.xs).es) f.xs).data
      exact ⟨(zk (zf (zI nm (zf s.ino f.xs).es) f.xs).data++rest,⟨0,[],if ki (zf (zI nm (zf s.ino f.xs).es) f.xs).data then 1 else (zf s.ino f.xs).ino⟩,dir||(jq (zf (zI nm (zf s.ino f.xs).es) f.xs).data&&decide (rest = [])),n+1),⟨by dsimp only;rw[hk1];exact hon,by dsimp only;omega,by dsimp only;rw[List.length_append];omega,fun _=>by
       dsimp only
       split
       ·exact hf.root
       ·rw[hgs.2.2];exact hh⟩,by dsimp only;rw[List.length_append];omega,wk⟩
   ·have hg1:((0:Int)<(rest.length:Int))=True:=eq_true (by have:=List.length_pos_iff.2 hr0;omega)
    rw[if_neg (by rintro (q | q | q);exact absurd (hxe.symm.trans q) (by simp);exact q hk3;exact hr0 q.1)]at hon
    have hlk:=kZ f fol dir rest s n (zf (zI nm (zf s.ino f.xs).es) f.xs) (zf s.ino f.xs) (by omega) (by omega) hn
    push_cast -dsimp [hpos,hl1,hk2',n1',n2',hk3',hg1]
    repeat refine an ?_
    refine cl (hg) ?_;push_cast -dsimp [hk2',n1',n2']
    refine cl (hfd) ?_;push_cast -dsimp
    refine cl (hg2) ?_;push_cast -dsimp [hk3',hrl,hg1]
    refine YF [0] [] hlk rfl (by decide) (by decide) (by simp) (by push_cast -dsimp) (by push_cast -dsimp) (fun r bx' m hp=>?_)
    obtain ⟨rfl,⟨q1,rfl,rfl⟩ | ⟨q1,q2,rfl,rfl⟩ | ⟨q1,q2,rfl,rfl⟩⟩:=hp
    ·push_cast -dsimp
     have hk0:40-n=0:=by omega
     rw[hk0]at hon
     have hon:(qN,(6:Int))=R:=hon
     rw[←hon]
     exact ⟨_,[Yi],0,⟨⟨rfl,rfl,[],rfl⟩,by simp⟩,[],rfl,rfl,by push_cast -dsimp [zb,za,CLe,ze],by push_cast -dsimp [zb,za,CLe,ze,qN]⟩
    ·push_cast -dsimp
     have hk0:40-n=(39-n)+1:=by omega
     rw[hk0,Xi,if_pos q2]at hon
     rw[←hon]
     exact ⟨_,[Yi],0,⟨⟨rfl,rfl,[],rfl⟩,by simp⟩,[],rfl,rfl,by push_cast -dsimp [zb,za,CLe,ze],by push_cast -dsimp [zb,za,CLe,ze,qN]⟩
    ·push_cast -dsimp
     have hk0:40-n=(39-n)+1:=by omega
     have hk1:40-(n+1)=39-n:=by omega
     rw[hk0,Xi,if_neg (by rw[q2];simp)]at hon
     have hnl:=qw (zf (zI nm (zf s.ino f.xs).es) f.xs).data
     exact ⟨(zk (zf (zI nm (zf s.ino f.xs).es) f.xs).data++rest,⟨0,[],if ki (zf (zI nm (zf s.ino f.xs).es) f.xs).data then 1 else (zf s.ino f.xs).ino⟩,dir||(jq (zf (zI nm (zf s.ino f.xs).es) f.xs).data&&decide (rest = [])),n+1),⟨by dsimp only;rw[hk1];exact hon,by dsimp only;omega,by dsimp only;rw[List.length_append];omega,fun _=>by
      dsimp only
      split
      ·exact hf.root
      ·rw[hgs.2.2];exact hh⟩,by dsimp only;rw[List.length_append];omega,wk⟩
end
section
open CA CB
open Go.RowKit
theorem Gu (f:FsV) (hf:FsI f) (hr:FsR f) (hs:FsS f) (hd:∀ x∈f.xs,x.kind=3->x.data.length<=1000) (b p:List UInt8) (fol:Bool) (hb:b.length<=100000) (hp:p.length<=3000):Fun Tryz.prog G0 57 [.agg (fsC f),.str b,.str p,.sc (.bool fol)] (.tup [.agg (V2 (zU f b p fol).1),.sc (.int .i64 (zU f b p fol).2)]) 0:=by
 have hlo:=UZ p (by omega)
 have hns:=qw p
 have bad:∀ e:Int,e≠0->zU f b p fol=(qN,e)->Fun Tryz.prog G0 104 [.agg (fsC f),.str b,.str p,.sc (.bool fol)] (.tup [.any,.sc (.int .i64 e)]) 0->Fun Tryz.prog G0 57 [.agg (fsC f),.str b,.str p,.sc (.bool fol)] (.tup [.agg (V2 (zU f b p fol).1),.sc (.int .i64 (zU f b p fol).2)]) 0:=fun e he hv hb=>by
  refine fon Tryz.func57 ?_;dsimp only[Tryz.f57]
  push_cast -dsimp
  refine cl (hb) ?_;push_cast -dsimp [he]
  exact dn (by push_cast -dsimp [zb,za,CLe,ze,hv,qN])
 by_cases h1:p = []
 ·subst h1
  refine bad 1 (by decide) (by unfold zU;rw[if_pos rfl]) ?_
  refine fon Tryz.func104 ?_;dsimp only[Tryz.f104]
  push_cast -dsimp
  exact dn (by push_cast -dsimp [zb,za,CLe,ze])
 have h1':=eq_false h1
 cases h2:Qa p with
 | true =>
  rw[h2]at hlo
  refine bad 7 (by decide) (by unfold zU;rw[if_neg h1,if_pos h2]) ?_
  refine fon Tryz.func104 ?_;dsimp only[Tryz.f104]
  push_cast -dsimp [h1']
  refine cl (hlo) ?_;push_cast -dsimp
  exact dn (by push_cast -dsimp [zb,za,CLe,ze])
 | false =>
 rw[h2]at hlo
 have hre:Fun Tryz.prog G0 107 [.str p] (.agg [qp (ki p),.own 0 9 1 (zC (zk p)),qp (jq p)]) 1:=ZF p (by omega)
 have good:∀ h:Int,zU f b p fol=onN f fol 40 (zk p) ⟨0,[],h⟩ (jq p)->(h≠0->zw h f.xs=true)->YI Tryz.prog G0 104 [.agg (fsC f),.str b,.str p,.sc (.bool fol)] [] 0 (fun r bx m=>m=0/\r = .tup [.ptr 2 0,.sc (.int .i64 0)]/\bx = [[.any,.any,.any,.any],[.any,.any,.any],zhW f fol (jq p) (zk p) ⟨0,[],h⟩ (0:Nat)])->Fun Tryz.prog G0 57 [.agg (fsC f),.str b,.str p,.sc (.bool fol)] (.tup [.agg (V2 (zU f b p fol).1),.sc (.int .i64 (zU f b p fol).2)]) 0:=fun h hv hh hbg=>by
  have hgo:=zbP f hf hr hs fol (jq p) (zk p) ⟨0,[],h⟩ (by omega) hd hh _ hv.symm
  refine fon Tryz.func57 ?_;dsimp only[Tryz.f57]
  push_cast -dsimp
  refine YF [] [] hbg rfl (by decide) (by decide) (by simp) (by push_cast -dsimp) rfl (fun r bx' m hp=>?_)
  obtain ⟨rfl,rfl,rfl⟩:=hp
  push_cast -dsimp
  refine YF [4] [] hgo rfl (by decide) (by decide) (by simp) (by push_cast -dsimp) rfl (fun r bx' m hp=>?_)
  obtain ⟨rfl,rfl,X,rfl⟩:=hp
  push_cast -dsimp
  exact dn (by push_cast -dsimp [zb,za,CLe,ze])
 cases h3:ki p with
 | true =>
  rw[h3]at hre
  refine good 1 (by unfold zU;rw[if_neg h1,if_neg (by rw[h2];decide),if_pos h3]) (fun _=>hf.root) ?_
  refine foX (fun _=>[]) Tryz.func104 ?_;dsimp only[Tryz.f104]
  push_cast -dsimp [h1']
  refine cl (hlo) ?_;push_cast -dsimp
  refine cl (hre) ?_;push_cast -dsimp
  exact ⟨_,[_,_,_],0,⟨⟨rfl,rfl,rfl⟩,Nat.zero_le _⟩,[],rfl,rfl,by push_cast -dsimp [zb,za,CLe,ze],by push_cast -dsimp [zb,za,CLe,ze]⟩
 | false =>
  rw[h3]at hre
  have hh:=zcO f hf hs b hb
  by_cases h4:(Xs f b).2=0
  ·rw[h4]at hh
   refine good (Xs f b).1 (by unfold zU;rw[if_neg h1,if_neg (by rw[h2];decide),if_neg (by rw[h3];decide),if_neg (fun q=>q h4)]) (fun hne=>?_) ?_
   ·unfold Xs at hne h4 ⊢
    split at hne
    ·exact absurd rfl hne
    rename_i c1
    rw[if_neg c1]at h4 ⊢
    split at hne
    ·exact absurd rfl hne
    rename_i c2
    rw[if_neg c2]at h4 ⊢
    split at hne
    ·exact absurd rfl hne
    rename_i c3
    rw[if_neg c3]
    have q:=XY (Classical.not_not.1 c3)
    rw[(zq q).2.2]
    exact q
   ·refine foX (fun _=>[]) Tryz.func104 ?_;dsimp only[Tryz.f104]
    push_cast -dsimp [h1']
    refine cl (hlo) ?_;push_cast -dsimp
    refine cl (hre) ?_;push_cast -dsimp
    refine cl (hh) ?_;push_cast -dsimp
    exact ⟨_,[_,_,_],0,⟨⟨rfl,rfl,rfl⟩,Nat.zero_le _⟩,[],rfl,rfl,by push_cast -dsimp [zb,za,CLe,ze],by push_cast -dsimp [zb,za,CLe,ze]⟩
  ·refine bad _ h4 (by unfold zU;rw[if_neg h1,if_neg (by rw[h2];decide),if_neg (by rw[h3];decide),if_pos h4]) ?_
   refine fon Tryz.func104 ?_;dsimp only[Tryz.f104]
   push_cast -dsimp [h1']
   refine cl (hlo) ?_;push_cast -dsimp
   refine cl (hre) ?_;push_cast -dsimp
   refine cl (hh) ?_;push_cast -dsimp [h4]
   exact dn (by push_cast -dsimp [zb,za,CLe,ze])
end
section
open CA CB
open Go.RowKit QuotePlain
abbrev u8C (b:UInt8):C:=.sc (.int .u8 (b.toNat:Int))
theorem ky (l:List UInt8) (c:UInt8):(Lib.indexByte l c<0)↔c∉l:=by
 constructor
 ·intro h hc
  have h1:=Lib.indexByte_ge l c
  obtain ⟨k,hk,e⟩:=List.getElem_of_mem hc
  exact Lib.indexByte_none (show Lib.indexByte l c = -1 by omega) k (by rw[List.getElem?_eq_getElem hk,e])
 ·intro h
  rcases Int.lt_or_le (Lib.indexByte l c) 0 with h1 | h1
  ·exact h1
  ·obtain ⟨o,ho⟩:∃ o:Nat,Lib.indexByte l c=o:=⟨(Lib.indexByte l c).toNat,by omega⟩
   obtain ⟨h2,_⟩:=Lib.indexByte_some ho
   exact absurd (List.mem_of_getElem? h2) h
theorem VT (s:List UInt8) (c:UInt8) (hs:s.length<=1000000):Fun Tryz.prog G0 37 [.str s,u8C c] (.sc (.bool (decide (c∈s)))) 0:=by
 refine fon Tryz.func37 ?_;dsimp only[Tryz.f37]
 push_cast -dsimp
 refine loop (fun k:Nat=>⟨[(0,.str s),(1,u8C c),(5,.sc (.int .i64 k))],[],0,0⟩) (fun k=>k<=s.length/\c∉s.take k) (fun k=>s.length-k) 0 ⟨Nat.zero_le _,by simp⟩ ?_ ?_
 ·exact wk
 ·rintro k ⟨hk,hn⟩
  push_cast -dsimp
  refine br (fun h=>?_) (fun h=>?_)
  ·have hk2:k<s.length:=by simp at h;omega
   have hg:s[k]?=some s[k]:=List.getElem?_eq_getElem hk2
   push_cast -dsimp [hg]
   refine ⟨by omega,br (fun h2=>?_) (fun h2=>?_)⟩
   ·push_cast -dsimp
    have h3:s[k]=c:=by simp at h2;exact UInt8.toNat_inj.1 (by omega)
    have h4:c∈s:=h3▸List.getElem_mem hk2
    exact dn (by push_cast -dsimp [zb,za,CLe,ze,h4])
   ·push_cast -dsimp
    have h3:¬c=s[k]:=fun e=>by subst e;simp at h2
    refine ⟨by omega,k+1,⟨by omega,?_⟩,by omega,wk⟩
    intro h4
    rw[List.take_add_one,hg]at h4
    rcases List.mem_append.1 h4 with h5 | h5
    ·exact hn h5
    ·simp at h5;exact h3 h5
  ·have hk2:k=s.length:=by simp at h;omega
   subst hk2
   rw[List.take_length]at hn
   push_cast -dsimp
   exact dn (by push_cast -dsimp [zb,za,CLe,ze,hn])
theorem ziN (k:Int) (o:List UInt8) (ops:C) (c:UInt8) (hops:ops.cellB=true):Fun Tryz.prog G0 34 [.agg [.sc (.int .i64 k),.str o,ops],u8C c] (.sc (.bool (decide (c∈o)))) 0:=by
 refine fon Tryz.func34 ?_;dsimp only[Tryz.f34]
 push_cast -dsimp [hops]
 refine cl (XV o c) ?_;push_cast -dsimp
 have e:decide (0<=Lib.indexByte o c)=decide (c∈o):=by
  have:=ky o c
  by_cases h:c∈o
  ·have h2:¬Lib.indexByte o c<0:=fun h3=>this.1 h3 h
   simp[h];omega
  ·have h2:=this.2 h
   simp[h];omega
 exact dn (by push_cast -dsimp [zb,za,CLe,ze,e])
theorem zow (c d:UInt8):((c.toNat:Int)=(d.toNat:Int))=(c=d):=by
 refine propext ⟨fun h=>UInt8.toNat_inj.1 (by omega),fun h=>by rw[h]⟩
def YW (s p:List UInt8):UInt8:=s.foldl (fun c b=>if b∈p then b else c) 0
theorem Up (s p:List UInt8) (i:Nat) (hi:i<s.length):YW (s.take (i+1)) p=if s[i]∈p then s[i] else YW (s.take i) p:=by
 unfold YW
 rw[List.take_add_one,List.getElem?_eq_getElem hi,List.foldl_append]
 simp
theorem NB (s p:List UInt8) (hs:s.length<=1000000) (hp:p.length<=1000000):Fun Tryz.prog G0 119 [.str s,.str p] (u8C (YW s p)) 0:=by
 refine fon Tryz.func119 ?_;dsimp only[Tryz.f119]
 push_cast -dsimp
 refine loop (fun k:Nat=>⟨[(0,.str s),(1,.str p),(5,u8C (YW (s.take k) p)),(6,.sc (.int .i64 k))],[],0,0⟩) (fun k=>k<=s.length) (fun k=>s.length-k) 0 (Nat.zero_le _) ?_ ?_
 ·exact jW.mk [] rfl rfl (Nat.le_refl _) rfl (by push_cast -dsimp [zb,za,CLe,ze]<;>rfl) (by push_cast -dsimp [zb,za,CLe,ze])
 ·rintro k hk
  push_cast -dsimp
  refine br (fun h=>?_) (fun h=>?_)
  ·have hk2:k<s.length:=by simp at h;omega
   have hg:s[k]?=some s[k]:=List.getElem?_eq_getElem hk2
   push_cast -dsimp [hg]
   refine ⟨by omega,?_⟩
   refine cl (VT p s[k] hp) ?_;push_cast -dsimp
   refine br (fun h2=>?_) (fun h2=>?_)
   ·push_cast -dsimp [hg]
    have e:YW (s.take (k+1)) p=s[k]:=by rw[Up s p k hk2,if_pos (by simpa using h2)]
    refine ⟨by omega,by omega,k+1,by omega,by omega,wk (by push_cast -dsimp [zb,za,CLe,ze,e])⟩
   ·push_cast -dsimp [hg]
    have e:YW (s.take (k+1)) p=YW (s.take k) p:=by rw[Up s p k hk2,if_neg (by simpa using h2)]
    refine ⟨by omega,k+1,by omega,by omega,wk (by push_cast -dsimp [zb,za,CLe,ze,e])⟩
  ·have hk2:k=s.length:=by simp at h;omega
   subst hk2
   rw[List.take_length]
   push_cast -dsimp
   exact dn
def isO (k:Int) (s:List UInt8) (x:UInt8):Bool:=if 4<=k/\(x=102∨x=110) then decide (YW s [102,110]=x) else if x=114 then decide (114∈s∨82∈s) else if x=82 then false else decide (x∈s)
def JI (k:Int) (s:List UInt8) (n:Nat):List UInt8:=((List.range' 65 n).map UInt8.ofNat).filter (isO k s)
theorem NW (k:Int) (s:List UInt8) (hs:s.length<=1000000):Fun Tryz.prog G0 69 [.sc (.int .i64 k),.str s] (.str (JI k s 58)) 0:=by
 refine fon Tryz.func69 ?_;dsimp only[Tryz.f69]
 push_cast -dsimp
 refine loop (fun j:Nat=>⟨[(0,.sc (.int .i64 k)),(1,.str s),(5,.str (JI k s j)),(6,.sc (.int .i64 (65+j)))],[],0,0⟩) (fun j=>j<=58) (fun j=>58-j) 0 (Nat.zero_le _) ?_ ?_
 ·exact jW.mk [] rfl rfl (Nat.le_refl _) rfl (by push_cast -dsimp [zb,za,CLe,ze]<;>rfl) (by push_cast -dsimp [zb,za,CLe,ze])
 ·rintro j hj
  push_cast -dsimp
  refine br (fun h=>?_) (fun h=>?_)
  ·have hj2:j<58:=by simp at h;omega
   obtain ⟨x,hxe,hx⟩:∃ x:UInt8,UInt8.ofNat (65+j)=x/\(65+(j:Int))=(x.toNat:Int):=⟨_,rfl,by rw[UInt8.toNat_ofNat_of_lt' (by show 65+j<256;omega)];omega⟩
   have hx1:65+((j:Int)+1)=(x.toNat:Int)+1:=by omega
   have hxb:(x.toNat:Int)<123:=by omega
   have hstep:JI k s (j+1)=JI k s j++if isO k s x then [x] else []:=by
    unfold JI
    rw[List.range'_concat,List.map_append,List.filter_append]
    simp only[List.map_cons,List.map_nil,Nat.one_mul,hxe,List.filter_cons,List.filter_nil]
   have hlo:(JI k s j).length<=j:=Nat.le_trans (List.length_filter_le _ _) (by simp)
   have hI:∀ (n:Nat) (d:UInt8),d.toNat=n->((x.toNat:Int)=(n:Int))=(x=d):=fun n d h=>h▸zow x d
   have hcase:(x=82)∨(x=114)∨(x≠82/\x≠114/\¬4<=k)∨(x=102/\4<=k)∨(x=110/\4<=k)∨(x≠82/\x≠114/\4<=k/\x≠102/\x≠110):=by
    by_cases h1:x=82
    ·exact .inl h1
    ·by_cases h2:x=114
     ·exact .inr (.inl h2)
     ·by_cases h3:4<=k
      ·by_cases h4:x=102
       ·exact .inr (.inr (.inr (.inl ⟨h4,h3⟩)))
       ·by_cases h5:x=110
        ·exact .inr (.inr (.inr (.inr (.inl ⟨h5,h3⟩))))
        ·exact .inr (.inr (.inr (.inr (.inr ⟨h1,h2,h3,h4,h5⟩))))
      ·exact .inr (.inr (.inl ⟨h1,h2,h3⟩))
   clear hxe
   rw[hx]
   push_cast -dsimp
   refine ⟨by omega,?_⟩
   refine cl (VT s x hs) ?_;push_cast -dsimp
   rcases hcase with hc | hc | hc | hc | hc | hc
   ·have f0:isO k s x=false:=by simp[isO,hc]
    have e:JI k s (j+1)=JI k s j:=by rw[hstep,f0];simp
    have f1:((x.toNat:Int)=82)=True:=(hI 82 82 rfl).trans (by simp[hc])
    have f2:((x.toNat:Int)=114)=False:=(hI 114 114 rfl).trans (by simp[hc])
    have f3:((x.toNat:Int)=102)=False:=(hI 102 102 rfl).trans (by simp[hc])
    have f4:((x.toNat:Int)=110)=False:=(hI 110 110 rfl).trans (by simp[hc])
    by_cases h4:4<=k
    all_goals
     push_cast -dsimp [f1,f2,f3,f4,h4]
     repeat (refine And.intro (by omega) ?_)
     refine ⟨j+1,by omega,by omega,wk (by push_cast -dsimp [zb,za,CLe,ze,e,hx1])⟩
   ·have f0:isO k s x=decide (114∈s∨82∈s):=by simp[isO,hc]
    have f1:((x.toNat:Int)=82)=False:=(hI 82 82 rfl).trans (by simp[hc])
    have f2:((x.toNat:Int)=114)=True:=(hI 114 114 rfl).trans (by simp[hc])
    have f3:((x.toNat:Int)=102)=False:=(hI 102 102 rfl).trans (by simp[hc])
    have f4:((x.toNat:Int)=110)=False:=(hI 110 110 rfl).trans (by simp[hc])
    push_cast -dsimp [f1,f2,f3,f4]
    refine cl (VT s 114 hs) ?_;push_cast -dsimp
    by_cases h6:114∈s
    ·push_cast -dsimp [h6]
     have e:JI k s (j+1)=JI k s j++[x]:=by rw[hstep,f0];simp[h6]
     by_cases h4:4<=k
     all_goals
      push_cast -dsimp [f1,f2,f3,f4,h4]
      refine ⟨[x],rfl,?_⟩
      push_cast -dsimp
      repeat (refine And.intro (by omega) ?_)
      refine ⟨j+1,by omega,by omega,wk (by push_cast -dsimp [zb,za,CLe,ze,e,hx1])⟩
    ·push_cast -dsimp [h6]
     refine cl (VT s 82 hs) ?_;push_cast -dsimp
     by_cases h7:82∈s
     ·have e:JI k s (j+1)=JI k s j++[x]:=by rw[hstep,f0];simp[h7]
      by_cases h4:4<=k
      all_goals
       push_cast -dsimp [f1,f2,f3,f4,h4,h7]
       refine ⟨[x],rfl,?_⟩
       push_cast -dsimp
       repeat (refine And.intro (by omega) ?_)
       refine ⟨j+1,by omega,by omega,wk (by push_cast -dsimp [zb,za,CLe,ze,e,hx1])⟩
     ·have e:JI k s (j+1)=JI k s j:=by rw[hstep,f0];simp[h6,h7]
      by_cases h4:4<=k
      all_goals
       push_cast -dsimp [f1,f2,f3,f4,h4,h7]
       repeat (refine And.intro (by omega) ?_)
       refine ⟨j+1,by omega,by omega,wk (by push_cast -dsimp [zb,za,CLe,ze,e,hx1])⟩
   ·have f0:isO k s x=decide (x∈s):=by simp[isO,hc]
    have h4:¬4<=k:=hc.2.2
    have f1:((x.toNat:Int)=82)=False:=(hI 82 82 rfl).trans (by simp[hc])
    have f2:((x.toNat:Int)=114)=False:=(hI 114 114 rfl).trans (by simp[hc])
    by_cases h6:x∈s
    ·have e:JI k s (j+1)=JI k s j++[x]:=by rw[hstep,f0];simp[h6]
     push_cast -dsimp [f1,f2,h4,h6]
     refine ⟨[x],rfl,?_⟩
     push_cast -dsimp
     repeat (refine And.intro (by omega) ?_)
     refine ⟨j+1,by omega,by omega,wk (by push_cast -dsimp [zb,za,CLe,ze,e,hx1])⟩
    ·have e:JI k s (j+1)=JI k s j:=by rw[hstep,f0];simp[h6]
     push_cast -dsimp [f1,f2,h4,h6]
     repeat (refine And.intro (by omega) ?_)
     refine ⟨j+1,by omega,by omega,wk (by push_cast -dsimp [zb,za,CLe,ze,e,hx1])⟩
   ·have f0:isO k s x=decide (YW s [102,110]=x):=by simp[isO,hc]
    have h4:4<=k:=hc.2
    have f1:((x.toNat:Int)=82)=False:=(hI 82 82 rfl).trans (by simp[hc])
    have f2:((x.toNat:Int)=114)=False:=(hI 114 114 rfl).trans (by simp[hc])
    have f3:((x.toNat:Int)=102)=True:=(hI 102 102 rfl).trans (by simp[hc])
    have f4:((x.toNat:Int)=110)=False:=(hI 110 110 rfl).trans (by simp[hc])
    push_cast -dsimp [f1,f2,f3,f4,h4]
    refine cl (NB s [102,110] hs (by simp)) ?_;push_cast -dsimp
    by_cases h6:YW s [102,110]=x
    ·have g6:((YW s [102,110]).toNat=x.toNat)=True:=by simp[h6]
     have e:JI k s (j+1)=JI k s j++[x]:=by rw[hstep,f0];simp[h6]
     push_cast -dsimp [g6]
     refine ⟨[x],rfl,?_⟩
     push_cast -dsimp
     repeat (refine And.intro (by omega) ?_)
     refine ⟨j+1,by omega,by omega,wk (by push_cast -dsimp [zb,za,CLe,ze,e,hx1])⟩
    ·have g6:((YW s [102,110]).toNat=x.toNat)=False:=by simp[UInt8.toNat_inj,h6]
     have e:JI k s (j+1)=JI k s j:=by rw[hstep,f0];simp[h6]
     push_cast -dsimp [g6]
     repeat (refine And.intro (by omega) ?_)
     refine ⟨j+1,by omega,by omega,wk (by push_cast -dsimp [zb,za,CLe,ze,e,hx1])⟩
   ·have f0:isO k s x=decide (YW s [102,110]=x):=by simp[isO,hc]
    have h4:4<=k:=hc.2
    have f1:((x.toNat:Int)=82)=False:=(hI 82 82 rfl).trans (by simp[hc])
    have f2:((x.toNat:Int)=114)=False:=(hI 114 114 rfl).trans (by simp[hc])
    have f3:((x.toNat:Int)=102)=False:=(hI 102 102 rfl).trans (by simp[hc])
    have f4:((x.toNat:Int)=110)=True:=(hI 110 110 rfl).trans (by simp[hc])
    push_cast -dsimp [f1,f2,f3,f4,h4]
    refine cl (NB s [102,110] hs (by simp)) ?_;push_cast -dsimp
    by_cases h6:YW s [102,110]=x
    ·have g6:((YW s [102,110]).toNat=x.toNat)=True:=by simp[h6]
     have e:JI k s (j+1)=JI k s j++[x]:=by rw[hstep,f0];simp[h6]
     push_cast -dsimp [g6]
     refine ⟨[x],rfl,?_⟩
     push_cast -dsimp
     repeat (refine And.intro (by omega) ?_)
     refine ⟨j+1,by omega,by omega,wk (by push_cast -dsimp [zb,za,CLe,ze,e,hx1])⟩
    ·have g6:((YW s [102,110]).toNat=x.toNat)=False:=by simp[UInt8.toNat_inj,h6]
     have e:JI k s (j+1)=JI k s j:=by rw[hstep,f0];simp[h6]
     push_cast -dsimp [g6]
     repeat (refine And.intro (by omega) ?_)
     refine ⟨j+1,by omega,by omega,wk (by push_cast -dsimp [zb,za,CLe,ze,e,hx1])⟩
   ·have f0:isO k s x=decide (x∈s):=by simp[isO,hc]
    have h4:4<=k:=hc.2.2.1
    have f1:((x.toNat:Int)=82)=False:=(hI 82 82 rfl).trans (by simp[hc])
    have f2:((x.toNat:Int)=114)=False:=(hI 114 114 rfl).trans (by simp[hc])
    have f3:((x.toNat:Int)=102)=False:=(hI 102 102 rfl).trans (by simp[hc])
    have f4:((x.toNat:Int)=110)=False:=(hI 110 110 rfl).trans (by simp[hc])
    by_cases h6:x∈s
    ·have e:JI k s (j+1)=JI k s j++[x]:=by rw[hstep,f0];simp[h6]
     push_cast -dsimp [f1,f2,f3,f4,h4,h6]
     refine ⟨[x],rfl,?_⟩
     push_cast -dsimp
     repeat (refine And.intro (by omega) ?_)
     refine ⟨j+1,by omega,by omega,wk (by push_cast -dsimp [zb,za,CLe,ze,e,hx1])⟩
    ·have e:JI k s (j+1)=JI k s j:=by rw[hstep,f0];simp[h6]
     push_cast -dsimp [f1,f2,f3,f4,h4,h6]
     repeat (refine And.intro (by omega) ?_)
     refine ⟨j+1,by omega,by omega,wk (by push_cast -dsimp [zb,za,CLe,ze,e,hx1])⟩
  ·have hj2:j=58:=by simp at h;omega
   subst hj2
   push_cast -dsimp
   exact dn
abbrev Acc:=List UInt8->UInt8->List UInt8
def JJ (all:List UInt8) (f:Acc):List UInt8->List UInt8->List UInt8×List UInt8
 | a,[]=>(a,[])
 | a,c :: r=>if c∈all then JJ all f (f a c) r else (a,[c])
def qh (all:List UInt8) (f:Acc):List UInt8->Nat->List (List UInt8)->List UInt8×Nat×List UInt8
 | a,n,[]=>(a,n,[])
 | a,n,w :: r=>if w = [45,45] then (a,n+1,[]) else if w.length<2∨w[0]?≠some 45 then (a,n,[]) else
   if (JJ all f a w.tail).2 = [] then qh all f (JJ all f a w.tail).1 (n+1) r else ((JJ all f a w.tail).1,n,(JJ all f a w.tail).2)
def Zd (k:Int):List UInt8:=if k=1 then [112] else if k=2 then [100,102,114,82] else if k=3 then [102,110,115,84] else if k=4 then [102,110,84] else if k=5 then [102,110,114,82,80,84] else []
abbrev J9:Acc:=fun s c=>s++[c]
theorem u0 {all:List UInt8} {f:Acc} {a w:List UInt8} {i:Nat} (hi:i<w.length):JJ all f a (w.drop i)=if w[i]∈all then JJ all f (f a w[i]) (w.drop (i+1)) else (a,[w[i]]):=by
 rw[List.drop_eq_getElem_cons hi,JJ]
theorem kR {all:List UInt8} {f:Acc} {a:List UInt8} {l:List (List UInt8)} {n:Nat} (hn:n<l.length):qh all f a n (l.drop n)=if l[n] = [45,45] then (a,n+1,[]) else if l[n].length<2∨l[n][0]?≠some 45 then (a,n,[]) else
   if (JJ all f a l[n].tail).2 = [] then qh all f (JJ all f a l[n].tail).1 (n+1) (l.drop (n+1)) else ((JJ all f a l[n].tail).1,n,(JJ all f a l[n].tail).2):=by
 rw[List.drop_eq_getElem_cons hn,qh]
theorem zh7 {w:List UInt8} {i:Nat} (hi:i<w.length):(w.take (i+1)).drop i = [w[i]]:=by
 rw[List.take_add_one,List.getElem?_eq_getElem hi]
 exact List.drop_left' (by rw[List.length_take];omega)
theorem ML (k:Int) (l:List (List UInt8)) (hk:k=1∨k=2∨k=3∨k=4∨k=5) (hl:l.length<=100) (hs:∀ x∈l,x.length<=1000) :
  Fun Tryz.prog G0 68 [.sc (.int .i64 k),.sl 1 (zC l)] (.tup [.str (qh (Zd k) J9 [] 0 l).1,.sc (.int .i64 (qh (Zd k) J9 [] 0 l).2.1),.str (qh (Zd k) J9 [] 0 l).2.2]) 0:=by
 obtain ⟨A,hA⟩:∃ A,Zd k=A:=⟨_,rfl⟩
 have hall:A.length<=1000000:=by
  subst hA
  rcases hk with rfl | rfl | rfl | rfl | rfl<;>decide
 rw[hA]
 refine fon Tryz.func68 ?_;dsimp only[Tryz.f68]
 rcases hk with rfl | rfl | rfl | rfl | rfl
 case' inl=>have e:A = [112]:=hA.symm.trans rfl
 case' inr.inl=>have e:A = [100,102,114,82]:=hA.symm.trans rfl
 case' inr.inr.inl=>have e:A = [102,110,115,84]:=hA.symm.trans rfl
 case' inr.inr.inr.inl=>have e:A = [102,110,84]:=hA.symm.trans rfl
 case' inr.inr.inr.inr=>have e:A = [102,110,114,82,80,84]:=hA.symm.trans rfl
 all_goals
  push_cast -dsimp
  refine loop (fun p:Nat×List UInt8=>⟨[(1,.sl 1 (zC l)),(7,.str A),(8,.str p.2),(9,.sc (.int .i64 p.1))],[],0,0⟩) (fun p=>p.1<=l.length/\qh A J9 [] 0 l=qh A J9 p.2 p.1 (l.drop p.1)/\p.2.length<=1000*p.1) (fun p=>l.length-p.1) (0,[]) ⟨Nat.zero_le _,rfl,Nat.zero_le _⟩ ?_ ?_
  ·exact wk (by push_cast -dsimp [zb,za,CLe,ze,e])
  ·clear e hA
   rintro ⟨n,s⟩ ⟨hn,hq,hsl⟩
   dsimp only at hn hq hsl ⊢
   by_cases h:n<l.length
   ·have hg:=Vy l n h
    have hlw:=hs l[n] (List.getElem_mem h)
    have hstep:=kR (all:=A) (f:=J9) (a:=s) h
    generalize hw:l[n]=w at hg hlw hstep
    by_cases h45:w = [45,45]
    ·rw[if_pos h45]at hstep
     have hr:=hq.trans hstep
     push_cast -dsimp [h,hg,h45]
     repeat refine an ?_
     exact dn (by push_cast -dsimp [zb,za,CLe,ze,hr])
    ·rw[if_neg h45]at hstep
     by_cases h2:w.length<2
     ·rw[if_pos (.inl h2)]at hstep
      have hr:=hq.trans hstep
      have h2':((w.length:Int)<2)=True:=eq_true (by omega)
      push_cast -dsimp [h,hg,h45,h2']
      repeat refine an ?_
      exact dn (by push_cast -dsimp [zb,za,CLe,ze,hr])
     ·have h2':((w.length:Int)<2)=False:=eq_false (by omega)
      have h0:w[0]?=some w[0]:=List.getElem?_eq_getElem (by omega)
      by_cases h3:w[0]=45
      ·have h3':((w[0].toNat:Int)=45)=True:=eq_true (by rw[h3];rfl)
       rw[if_neg (by rw[h0,h3];simp;omega)]at hstep
       push_cast -dsimp [h,hg,h45,h2',h0,h3']
       repeat refine an ?_
       refine loop (fun q:Nat×List UInt8=>⟨[(1,.sl 1 (zC l)),(7,.str A),(8,.str q.2),(9,.sc (.int .i64 n)),(10,.sc (.int .i64 q.1))],[],0,0⟩) (fun q=>1<=q.1/\q.1<=w.length/\JJ A J9 s w.tail=JJ A J9 q.2 (w.drop q.1)/\q.2.length+1<=1000*n+q.1) (fun q=>w.length-q.1) (1,s) ⟨Nat.le_refl _,by dsimp only;omega,by simp,by dsimp only;omega⟩ ?_ ?_
       ·exact wk
       ·rintro ⟨i,t⟩ ⟨hi1,hi2,hi3,hi4⟩
        dsimp only at hi1 hi2 hi3 hi4 ⊢
        by_cases hi:i<w.length
        ·have hgi:w[i]?=some w[i]:=List.getElem?_eq_getElem hi
         have hws:=u0 (all:=A) (f:=J9) (a:=t) hi
         push_cast -dsimp [h,hg,hi,hgi]
         repeat refine an ?_
         refine cl (VT A w[i] hall) ?_;push_cast -dsimp
         by_cases hm:w[i]∈A
         ·rw[if_pos hm]at hws
          push_cast -dsimp [hm,hg,hgi]
          repeat refine an ?_
          refine ⟨(i+1,t++[w[i]]),⟨by omega,by dsimp only;omega,hi3.trans hws,by simp;omega⟩,by dsimp only;omega,wk (by push_cast -dsimp [zb,za,CLe,ze,zh7 hi])⟩
         ·rw[if_neg hm]at hws
          rw[if_neg (by rw[hi3,hws];simp),hi3,hws]at hstep
          have hr:=hq.trans hstep
          push_cast -dsimp [hm,hg,hgi]
          repeat refine an ?_
          exact dn (by push_cast -dsimp [zb,za,CLe,ze,hr,zh7 hi])
        ·have hil:i=w.length:=by omega
         rw[hil,List.drop_length,JJ]at hi3
         rw[if_pos (by rw[hi3]),hi3]at hstep
         push_cast -dsimp [h,hg,hi]
         repeat refine an ?_
         exact ⟨(n+1,t),⟨by dsimp only;omega,hq.trans hstep,by dsimp only;omega⟩,by dsimp only;omega,wk⟩
      ·have h3':((w[0].toNat:Int)=45)=False:=eq_false (fun hh=>h3 (UInt8.toNat_inj.1 (by show _=45;omega)))
       rw[if_pos (.inr (by rw[h0];simpa using h3))]at hstep
       have hr:=hq.trans hstep
       push_cast -dsimp [h,hg,h45,h2',h0,h3']
       repeat refine an ?_
       exact dn (by push_cast -dsimp [zb,za,CLe,ze,hr])
   ·have hkl:n=l.length:=by omega
    subst hkl
    have hr:=hq
    rw[List.drop_length,qh]at hr
    push_cast -dsimp [h]
    exact dn (by push_cast -dsimp [zb,za,CLe,ze,hr])
def zdn (k:Int):Nat:=if k=4∨k=5 then 2 else 1
def jF (k:Int) (o:List UInt8) (ops:List (List UInt8)):List UInt8:=
 if ops.length=0 then (if k=2/\102∈o then [] else [109,105,115,115,105,110,103,32,111,112,101,114,97,110,100])
 else if ops.length<(if 84∈o then 2 else zdn k) then [109,105,115,115,105,110,103,32,100,101,115,116,105,110,97,116,105,111,110,32,111,112,101,114,97,110,100,32,97,102,116,101,114,32]++zV (ops.getD (ops.length-1) [])
 else if 84∈o/\2<ops.length then [101,120,116,114,97,32,111,112,101,114,97,110,100,32]++zV (ops.getD 2 []) else []
theorem Qf (l:List UInt8):(zV l).length<=4*l.length+2:=by
 have:=QuoteWalk.mid_len l
 simp only[zV,List.length_cons,List.length_append,List.length_nil]
 omega
structure zlB where
 kind:Int
 opts:List UInt8
 operands:List (List UInt8)
def jZ (w:List UInt8):Nat->Int
 | 0=>0
 | j+1=>if jS ((j+1:Nat):Int)=w then ((j+1:Nat):Int) else jZ w j
def YG:zlB:=⟨0,[],[]⟩
def jI (kind:Int) (w:List UInt8) (q:List UInt8×Nat×List UInt8) (r:List (List UInt8)):zlB×List UInt8:=
 if q.2.2≠[] then (YG,w++[58,32,105,110,118,97,108,105,100,32,111,112,116,105,111,110,32]++zV q.2.2)
 else if jF kind (JI kind q.1 58) (r.drop q.2.1)≠[] then (YG,w++[58,32]++jF kind (JI kind q.1 58) (r.drop q.2.1))
 else (⟨kind,JI kind q.1 58,r.drop q.2.1⟩,[])
def YD:List (List UInt8)->zlB×List UInt8
 | []=>(YG,[109,105,115,115,105,110,103,32,99,111,109,109,97,110,100])
 | w :: r=>if jZ w 5=0 then (YG,zV w++[58,32,117,110,107,110,111,119,110,32,99,111,109,109,97,110,100])
  else jI (jZ w 5) w (qh (Zd (jZ w 5)) J9 [] 0 r) r
theorem NI (w:List UInt8):∀ j,0<=jZ w j/\jZ w j<=j
 | 0=>⟨Int.le_refl _,Int.le_refl _⟩
 | j+1=>by
  have:=NI w j
  unfold jZ
  split<;>omega
theorem GR (A:List UInt8) (f:Acc):∀ (w s:List UInt8),(JJ A f s w).2.length<=1
 | [],s=>Nat.zero_le _
 | c :: w,s=>by
  rw[JJ]
  split
  ·exact GR A f w _
  ·exact Nat.le_refl _
theorem Ge (A:List UInt8):∀ (w s:List UInt8),(JJ A J9 s w).1.length<=s.length+w.length
 | [],s=>by simp[JJ]
 | c :: w,s=>by
  rw[JJ]
  split
  ·have h0:(J9 s c).length=s.length+1:=by simp
   have:=Ge A w (J9 s c);simp only[List.length_cons];omega
  ·simp only[List.length_cons];omega
theorem Q9 (A:List UInt8):∀ (l:List (List UInt8)) (s:List UInt8) (n:Nat),(∀ x∈l,x.length<=1000)->(qh A J9 s n l).1.length<=s.length+1000*l.length/\(qh A J9 s n l).2.1<=n+l.length/\(qh A J9 s n l).2.2.length<=1
 | [],s,n,_=>by simp[qh]
 | w :: l,s,n,h=>by
  have hw:=h w (List.mem_cons_self ..)
  have h1:=GR A J9 w.tail s
  have h2:=Ge A w.tail s
  have h3:w.tail.length<=1000:=by rw[List.length_tail];omega
  have ih:=Q9 A l (JJ A J9 s w.tail).1 (n+1) fun x hx=>h x (List.mem_cons_of_mem _ hx)
  rw[qh]
  simp only[List.length_cons]
  split
  ·simp only[List.length_nil];omega
  ·split
   ·simp only[List.length_nil];omega
   ·split
    ·omega
    ·dsimp only;omega
abbrev zps (c:zlB):C:=.agg [.sc (.int .i64 c.kind),.str c.opts,.own 0 9 1 (zC c.operands)]
theorem zbc (l:List (List UInt8)) (hl:l.length<=100) (hs:∀ x∈l,x.length<=1000) :
  Fun Tryz.prog G0 31 [.sl 1 (zC l)] (.tup [zps (YD l).1,.str (YD l).2]) 1:=by
 refine fof (fun i=>if i=15 then [false,false,false,false,false,false,true,false,true] else []) Tryz.func31 ?_;dsimp only[Tryz.f31]
 rcases l with _ | ⟨w,r⟩
 ·push_cast -dsimp [zC,List.map_nil,List.length_nil]
  exact ⟨[.inr (9,1)],rfl,rfl,by push_cast -dsimp [zb,za,CLe,ze,YD,YG]<;>rfl⟩
 ·have hlr:r.length<=99:=by simp at hl;omega
  have hw:=hs w (List.mem_cons_self ..)
  have hsr:∀ x∈r,x.length<=1000:=fun x hx=>hs x (List.mem_cons_of_mem _ hx)
  have hsC:zC (w :: r) = [.str w] :: zC r:=rfl
  have hp0:((r.length:Int)+1=0)=False:=eq_false (by omega)
  rw[hsC]
  push_cast -dsimp [hp0]
  refine loop (fun j:Nat=>⟨[(0,.sl 1 ([.str w] :: zC r)),(2,.ptr 0 0),(4,.sc (.int .i64 (jZ w j))),(5,.sc (.int .i64 ((j:Int)+1)))],[[.sc (.int .i64 0),.str [],.sc (.slice none 0 0)]],0,0⟩) (fun j=>j<=5) (fun j=>5-j) 0 (Nat.zero_le _) ?_ ?_
  ·exact wk (by push_cast -dsimp [zb,za,CLe,ze,jZ])
  ·rintro j hj
   by_cases h:j<5
   ·have hp1:((j:Int)+1<=5)=True:=eq_true (by omega)
    push_cast -dsimp [hp1]
    refine cl (Nm ((j:Int)+1)) ?_;push_cast -dsimp
    have hku:jZ w (j+1)=if jS ((j:Int)+1)=w then (j:Int)+1 else jZ w j:=by simp[jZ]
    by_cases hm:jS ((j:Int)+1)=w
    ·rw[if_pos hm]at hku
     push_cast -dsimp [hm]
     repeat refine an ?_
     exact ⟨j+1,by omega,by omega,wk (by push_cast -dsimp [zb,za,CLe,ze,hku])⟩
    ·rw[if_neg hm]at hku
     push_cast -dsimp [hm]
     repeat refine an ?_
     exact ⟨j+1,by omega,by omega,wk (by push_cast -dsimp [zb,za,CLe,ze,hku])⟩
   ·have hp1:((j:Int)+1<=5)=False:=eq_false (by omega)
    have hj5:j=5:=by omega
    subst hj5
    have hkle:=NI w 5
    have hrd:YD (w :: r)=if jZ w 5=0 then (YG,zV w++[58,32,117,110,107,110,111,119,110,32,99,111,109,109,97,110,100]) else jI (jZ w 5) w (qh (Zd (jZ w 5)) J9 [] 0 r) r:=rfl
    generalize jZ w 5=K at hkle hrd ⊢
    by_cases hK0:K=0
    ·rw[if_pos hK0]at hrd
     have hq:=Qf w
     push_cast -dsimp [hp1,hK0]
     refine cl (Xh w (by omega)) ?_;push_cast -dsimp
     repeat refine an ?_
     exact ⟨[.inr (9,1)],rfl,rfl,by push_cast -dsimp [zb,za,CLe,ze,hrd,YG]<;>rfl⟩
    ·rw[if_neg hK0]at hrd
     have hkk:K=1∨K=2∨K=3∨K=4∨K=5:=by omega
     have hlet:=ML K r hkk (by omega) hsr
     have hbnd:=Q9 (Zd K) r [] 0 hsr
     generalize qh (Zd K) J9 [] 0 r=q at hlet hbnd hrd ⊢
     obtain ⟨s,n,bad⟩:=q
     dsimp only at hlet hbnd
     push_cast -dsimp [hp1,hK0]
     repeat refine an ?_
     refine cl (hlet) ?_;push_cast -dsimp
     by_cases hbad:bad = []
     ·have hdr:List.drop (1+(n:Int)).toNat ([C.str w] :: zC r)=zC (r.drop n):=by
       rw[show (1+(n:Int)).toNat=n+1 by omega,List.drop_succ_cons];simp[zC]
      have hop:(r.drop n).length<=99:=by rw[List.length_drop];omega
      have hso:∀ x∈r.drop n,x.length<=1000:=fun x hx=>hsr x (List.mem_of_mem_drop hx)
      have hrt:jI K w (s,n,bad) r=if jF K (JI K s 58) (r.drop n)≠[] then (YG,w++[58,32]++jF K (JI K s 58) (r.drop n)) else (⟨K,JI K s 58,r.drop n⟩,[]):=by
       unfold jI;rw[if_neg (by simpa using hbad)]
      rw[hrt]at hrd
      have h84:=VT (JI K s 58) 84 (by have:=List.length_filter_le (isO K s) ((List.range' 65 58).map UInt8.ofNat);simp at this;unfold JI;omega)
      have h102:=VT (JI K s 58) 102 (by have:=List.length_filter_le (isO K s) ((List.range' 65 58).map UInt8.ofNat);simp at this;unfold JI;omega)
      generalize r.drop n=ops at hop hso hrd hdr
      push_cast -dsimp [hbad]
      refine cl (NW K s (by simp at hbnd;omega)) ?_;push_cast -dsimp [hdr]
      generalize JI K s 58=O at h84 h102 hrd ⊢
      repeat refine an ?_
      have hleast:zdn K=if 4<=K then 2 else 1:=by
       unfold zdn
       by_cases h4:4<=K
       ·rw[if_pos h4,if_pos (by omega)]
       ·rw[if_neg h4,if_neg (by omega)]
      rcases ops with _ | ⟨x,_ | ⟨y,_ | ⟨z,t⟩⟩⟩
      ·by_cases hK2:K=2/\102∈O
       ·have hwv:jF K O [] = []:=by simp[jF,hK2]
        have hr2:=hrd
        rw[hwv,if_neg (by simp)]at hr2
        have h4:¬4<=K:=by omega
        have hK2':=hK2.1
        have m102:=hK2.2
        by_cases m84:84∈O
        all_goals
         push_cast -dsimp [h4,zC,List.map_nil,List.map_cons,List.length_nil,List.length_cons]
         refine cl (h84) ?_;push_cast -dsimp [m84,hK2',zC,List.map_nil,List.map_cons,List.length_nil,List.length_cons]
         refine cl (h102) ?_;push_cast -dsimp [m102,zC,List.map_nil,List.map_cons,List.length_nil,List.length_cons]
         exact ⟨[.inl 0],rfl,rfl,by push_cast -dsimp [zb,za,CLe,ze,hr2,hK2',zC,List.map_nil,List.map_cons,List.length_nil,List.length_cons]⟩
       ·have hwv:jF K O [] = [109,105,115,115,105,110,103,32,111,112,101,114,97,110,100]:=by simp[jF,hK2]
        have hr2:=hrd
        rw[hwv,if_pos (by simp)]at hr2
        by_cases hK2':K=2
        ·have m102:102∉O:=fun h=>hK2 ⟨hK2',h⟩
         have h4:¬4<=K:=by omega
         by_cases m84:84∈O
         all_goals
          push_cast -dsimp [h4,zC,List.map_nil,List.map_cons,List.length_nil,List.length_cons]
          refine cl (h84) ?_;push_cast -dsimp [m84,hK2',zC,List.map_nil,List.map_cons,List.length_nil,List.length_cons]
          refine cl (h102) ?_;push_cast -dsimp [m102,zC,List.map_nil,List.map_cons,List.length_nil,List.length_cons]
          repeat refine an ?_
          exact ⟨[.inr (9,1)],rfl,rfl,by push_cast -dsimp [zb,za,CLe,ze,hr2,YG,List.append_assoc,List.cons_append,List.nil_append]<;>rfl⟩
        ·by_cases h4:4<=K<;>by_cases m84:84∈O
         all_goals
          push_cast -dsimp [h4,hK2',zC,List.map_nil,List.map_cons,List.length_nil,List.length_cons]
          try refine cl (h84) ?_;push_cast -dsimp [m84,hK2',zC,List.map_nil,List.map_cons,List.length_nil,List.length_cons]
          repeat refine an ?_
          exact ⟨[.inr (9,1)],rfl,rfl,by push_cast -dsimp [zb,za,CLe,ze,hr2,YG,List.append_assoc,List.cons_append,List.nil_append]<;>rfl⟩
      ·have hx:=hso x (by simp)
       have hqx:=Qf x
       by_cases hl2:4<=K∨84∈O
       ·have hwv:jF K O [x] = [109,105,115,115,105,110,103,32,100,101,115,116,105,110,97,116,105,111,110,32,111,112,101,114,97,110,100,32,97,102,116,101,114,32]++zV x:=by
         unfold jF
         rw[if_neg (by simp),if_pos (by rw[hleast];rcases hl2 with h | h<;>simp[h])];rfl
        have hr2:=hrd
        rw[hwv,if_pos (by simp)]at hr2
        have h3:(4<=K/\84∈O)∨(4<=K/\84∉O)∨(¬4<=K/\84∈O):=by
         by_cases a:4<=K<;>by_cases b:84∈O<;>simp[a,b]at hl2 ⊢
        rcases h3 with ⟨h4,m84⟩ | ⟨h4,m84⟩ | ⟨h4,m84⟩
        all_goals
         push_cast -dsimp [h4,zC,List.map_nil,List.map_cons,List.length_nil,List.length_cons]
         try refine cl (h84) ?_;push_cast -dsimp [m84,zC,List.map_nil,List.map_cons,List.length_nil,List.length_cons]
         repeat refine an ?_
         refine cl (Xh x (by omega)) ?_;push_cast -dsimp
         repeat refine an ?_
         exact ⟨[.inr (9,1)],rfl,rfl,by push_cast -dsimp [zb,za,CLe,ze,hr2,YG,List.append_assoc,List.cons_append,List.nil_append]<;>rfl⟩
       ·have h4:¬4<=K:=fun h=>hl2 (.inl h)
        have m84:84∉O:=fun h=>hl2 (.inr h)
        have hwv:jF K O [x] = []:=by
         unfold jF
         rw[if_neg (by simp),hleast];simp[h4,m84]
        have hr2:=hrd
        rw[hwv,if_neg (by simp)]at hr2
        push_cast -dsimp [h4,zC,List.map_nil,List.map_cons,List.length_nil,List.length_cons]
        refine cl (h84) ?_;push_cast -dsimp [m84,zC,List.map_nil,List.map_cons,List.length_nil,List.length_cons]
        exact ⟨[.inl 0],rfl,rfl,by push_cast -dsimp [zb,za,CLe,ze,hr2,zC,List.map_nil,List.map_cons,List.length_nil,List.length_cons]⟩
      ·have hwv:jF K O [x,y] = []:=by
        unfold jF
        rw[if_neg (by simp),hleast]
        by_cases h4:4<=K<;>by_cases m84:84∈O<;>simp[h4,m84]
       have hr2:=hrd
       rw[hwv,if_neg (by simp)]at hr2
       by_cases h4:4<=K<;>by_cases m84:84∈O
       all_goals
        push_cast -dsimp [h4,zC,List.map_nil,List.map_cons,List.length_nil,List.length_cons]
        try refine cl (h84) ?_;push_cast -dsimp [m84,zC,List.map_nil,List.map_cons,List.length_nil,List.length_cons]
        exact ⟨[.inl 0],rfl,rfl,by push_cast -dsimp [zb,za,CLe,ze,hr2,zC,List.map_nil,List.map_cons,List.length_nil,List.length_cons]⟩
      ·have hz:=hso z (by simp)
       have hqz:=Qf z
       have hp0:((t.length:Int)+1+1+1=0)=False:=eq_false (by omega)
       have hp2:((t.length:Int)+1+1+1<2)=False:=eq_false (by omega)
       have hp3:((t.length:Int)+1+1+1<1)=False:=eq_false (by omega)
       have hp4:(2<(t.length:Int)+1+1+1)=True:=eq_true (by omega)
       have hp5:(0<(t.length:Int)+1+1+1)=True:=eq_true (by omega)
       by_cases m84:84∈O
       ·have hwv:jF K O (x :: y :: z :: t) = [101,120,116,114,97,32,111,112,101,114,97,110,100,32]++zV z:=by
         unfold jF
         rw[if_neg (by simp),hleast,if_neg (by simp[m84]),if_pos (by simp[m84])];rfl
        have hr2:=hrd
        rw[hwv,if_pos (by simp)]at hr2
        by_cases h4:4<=K
        all_goals
         push_cast -dsimp [h4,hp0,hp2,hp3,hp4,hp5,zC,List.map_nil,List.map_cons,List.length_nil,List.length_cons]
         try refine cl (h84) ?_;push_cast -dsimp [m84,hp0,hp2,hp3,hp4,hp5,zC,List.map_nil,List.map_cons,List.length_nil,List.length_cons]
         try refine cl (h84) ?_;push_cast -dsimp [m84,hp0,hp2,hp3,hp4,hp5,zC,List.map_nil,List.map_cons,List.length_nil,List.length_cons]
         repeat refine an ?_
         refine cl (Xh z (by omega)) ?_;push_cast -dsimp
         repeat refine an ?_
         exact ⟨[.inr (9,1)],rfl,rfl,by push_cast -dsimp [zb,za,CLe,ze,hr2,YG,List.append_assoc,List.cons_append,List.nil_append]<;>rfl⟩
       ·have hwv:jF K O (x :: y :: z :: t) = []:=by
         unfold jF
         rw[if_neg (by simp),hleast]
         by_cases h4:4<=K<;>simp[h4,m84]
        have hr2:=hrd
        rw[hwv,if_neg (by simp)]at hr2
        by_cases h4:4<=K
        all_goals
         push_cast -dsimp [h4,hp0,hp2,hp3,hp4,hp5,zC,List.map_nil,List.map_cons,List.length_nil,List.length_cons]
         try refine cl (h84) ?_;push_cast -dsimp [m84,hp0,hp2,hp3,hp4,hp5,zC,List.map_nil,List.map_cons,List.length_nil,List.length_cons]
         try refine cl (h84) ?_;push_cast -dsimp [m84,hp0,hp2,hp3,hp4,hp5,zC,List.map_nil,List.map_cons,List.length_nil,List.length_cons]
         exact ⟨[.inl 0],rfl,rfl,by push_cast -dsimp [zb,za,CLe,ze,hr2,zC,List.map_nil,List.map_cons,List.length_nil,List.length_cons]⟩
     ·have hqb:=Qf bad
      have hrt:jI K w (s,n,bad) r=(YG,w++[58,32,105,110,118,97,108,105,100,32,111,112,116,105,111,110,32]++zV bad):=by
       unfold jI;rw[if_pos (by simpa using hbad)]
      rw[hrt]at hrd
      push_cast -dsimp [hbad]
      repeat refine an ?_
      refine cl (Xh bad (by omega)) ?_;push_cast -dsimp
      repeat refine an ?_
      exact ⟨[.inr (9,1)],rfl,rfl,by push_cast -dsimp [zb,za,CLe,ze,hrd,YG]<;>rfl⟩
theorem zbW (l:List (List UInt8)):(YD l).1.operands.length<=l.length:=by
 cases l with
 | nil=>simp[YD,YG]
 | cons w r =>
  rw[YD]
  split
  ·simp[YG]
  ·unfold jI
   split
   ·simp[YG]
   ·split
    ·simp[YG]
    ·simp only[List.length_drop,List.length_cons];omega
end
section
open CA CB
open Go.RowKit
abbrev zoe (k:Int) (o:List UInt8) (ops:List (List UInt8)):List C:=[.sc (.int .i64 k),.str o,.sl 1 (zC ops)]
theorem za8 (d:zt) (hd:d.diags.length<=80000) (k w:Int) (a b:List UInt8) (e:Int) (ha:a.length<=1000) (hb:b.length<=1000):Fun Tryz.prog GD 36 [Zv d,.sc (.int .i64 k),.sc (.int .i64 w),.str a,.str b,.sc (.int .i64 e)] (Zv (Ya d (XM k w a b e))) 0:=
 (zcX d hd k w a b e ha hb).weak (by push_cast -dsimp [zb,za,CLe,ze,Ya])
end
section
open CA CB
open Go.RowKit
theorem zgc {f:FsV} {b p:List UInt8} (h:zw (zU f b p true).1.ino f.xs=false):YA f b p=false:=by
 unfold YA
 rw[zjg h,Bool.and_eq_false_iff]
 exact .inr rfl
theorem zhs (f:FsV) (hf:FsI f) (hr:FsR f) (hs:FsS f) (hd:zao f.xs) (b p:List UInt8) (hb:b.length<=100000) (hp:p.length<=3000):Fun Tryz.prog G0 74 [.agg (fsC f),.str b,.str p] (.sc (.bool (YA f b p))) 0:=by
 have hsk:=Gu f hf hr hs hd b p true hb hp
 have hg:=Ym (G:=G0) f (zU f b p true).1.ino (by have:=hs.len;omega) hf.rises
 have e:YA f b p=(decide ((zU f b p true).2=0)&&decide ((zf (zU f b p true).1.ino f.xs).kind=2)):=rfl
 have hno:=zgc (f:=f) (b:=b) (p:=p)
 by_cases h1:(zU f b p true).2=0
 ·have h1':=eq_true h1
  rw[decide_eq_true h1,Bool.true_and]at e
  cases hh:zw (zU f b p true).1.ino f.xs with
  | false =>
   rw[hh]at hg
   rw[hno hh]
   refine fon Tryz.func74 ?_;dsimp only[Tryz.f74]
   push_cast -dsimp
   refine cl (hsk) ?_;push_cast -dsimp [h1']
   refine cl (hg) ?_;push_cast -dsimp [h1']
   exact dn (by push_cast -dsimp [zb,za,CLe,ze])
  | true =>
   rw[hh]at hg
   rw[e]
   refine fon Tryz.func74 ?_;dsimp only[Tryz.f74]
   push_cast -dsimp
   refine cl (hsk) ?_;push_cast -dsimp [h1']
   refine cl (hg) ?_;push_cast -dsimp [h1']
   exact dn (by push_cast -dsimp [zb,za,CLe,ze])
 ·have h1':=eq_false h1
  rw[decide_eq_false h1,Bool.false_and]at e
  rw[e]
  refine fon Tryz.func74 ?_;dsimp only[Tryz.f74]
  push_cast -dsimp
  refine cl (hsk) ?_;push_cast -dsimp [h1']
  refine cl (hg) ?_;push_cast -dsimp [h1']
  exact dn (by push_cast -dsimp [zb,za,CLe,ze])
end
section
open CA CB
open Go.RowKit
end
section
open CA CB
open Go.RowKit
end
section
open CA CB
open Go.RowKit
end
section
open CA CB
open Go.RowKit
theorem Nl {w0:zY} {N K:Nat} {d:zt} (h:MkG w0 N K d) (hN:N<=3200) (hK:K<=80000) (b p:List UInt8) (hb:b.length<=100000) (hp:p.length<=2000):Fun Tryz.prog GD 33 [Zv d,.str b,.str p] (.tup [Zv (jH b d p).1,.sc (.int .i64 (jH b d p).2)]) 0:=by
 have hs:=h.s (by omega) hK
 have hsk:=(Gu d.w.fs h.wi.fs h.wr.fs hs.ws.fs h.dat b p false hb (by omega)).g0 (G':=GD)
 obtain ⟨R,e⟩:∃ R,jH b d p=R:=⟨_,rfl⟩
 rw[e]
 unfold jH at e
 by_cases h1:(zU d.w.fs b p false).2=0
 case neg =>
  have h1':=eq_false h1
  rw[if_pos h1]at e
  rw[←e]
  refine fof (fun i=>if i=9 then [false,false,false,false,false,false,false,false,true] else []) Tryz.func33 ?_;dsimp only[Tryz.f33]
  push_cast -dsimp
  refine cl (hsk) ?_;push_cast -dsimp [h1']
  exact dn (by push_cast -dsimp [zb,za,CLe,ze])
 have h1':=eq_true h1
 rw[if_neg (fun q=>q h1)]at e
 by_cases h2:(zU d.w.fs b p false).1.ino=0
 case neg =>
  have h2':=eq_false h2
  rw[if_pos h2]at e
  rw[←e]
  refine fof (fun i=>if i=9 then [false,false,false,false,false,false,false,false,true] else []) Tryz.func33 ?_;dsimp only[Tryz.f33]
  push_cast -dsimp
  refine cl (hsk) ?_;push_cast -dsimp [h1',h2']
  exact dn (by push_cast -dsimp [zb,za,CLe,ze])
 have h2':=eq_true h2
 rw[if_neg (fun q=>q h2)]at e
 have hma:=(MW (zU d.w.fs b p false).1.name (by have:=vP hs.ws.fs b p false (by omega);omega)).g0 (G':=GD)
 cases hm:may (zU d.w.fs b p false).1.name with
 | false =>
  rw[hm]at hma e
  rw[if_pos rfl]at e
  rw[←e]
  refine fof (fun i=>if i=9 then [false,false,false,false,false,false,false,false,true] else []) Tryz.func33 ?_;dsimp only[Tryz.f33]
  push_cast -dsimp
  refine cl (hsk) ?_;push_cast -dsimp [h1',h2']
  refine cl (hma) ?_;push_cast -dsimp
  exact dn (by push_cast -dsimp [zb,za,CLe,ze])
 | true =>
  have hok:=h.ok hN
  have hfr:=HT h.wi.fs (H9 h1) h2 hm
  rw[hm]at hma e
  rw[if_neg (by simp)]at e
  have hpa:=(zbL d.w.fs hok _ hfr.has hfr.kind hm).g0 (G':=GD)
  have hpl:=xX hok hfr.has hfr.kind hm
  have hadd:=zly d hs (jr d.w.fs (zU d.w.fs b p false).1) (by omega) (zhV h.wi hok hfr h2 hm).1
  rw[e]at hadd
  have eo:opL (Jo (jr d.w.fs (zU d.w.fs b p false).1)) = [.sc (.int .i64 1),.sc (.int .i64 0),.str (jr d.w.fs (zU d.w.fs b p false).1),.str [],.str []]:=rfl
  rw[eo]at hadd
  refine fof (fun i=>if i=9 then [false,false,false,false,false,false,false,false,true] else []) Tryz.func33 ?_;dsimp only[Tryz.f33]
  push_cast -dsimp
  refine cl (hsk) ?_;push_cast -dsimp [h1',h2']
  refine cl (hma) ?_;push_cast -dsimp
  refine cl (hpa) ?_;push_cast -dsimp
  refine cl (hadd) ?_;push_cast -dsimp
  exact dn (by push_cast -dsimp [zb,za,CLe,ze])
theorem xU (p:List UInt8) (i:Nat):(zkL p i).length<=p.length+2:=by
 have h1:=Z9 p
 have h2:UA ((zk p).take (i+1))<=UA (zk p):=by
  have:zk p=(zk p).take (i+1)++(zk p).drop (i+1):=(List.take_append_drop ..).symm
  have e:UA (zk p)=UA ((zk p).take (i+1))+UA ((zk p).drop (i+1)):=by
   conv=>lhs;rw[this]
   unfold UA
   rw[List.map_append,List.sum_append]
  omega
 have h3:=J8 ((zk p).take (i+1))
 unfold zkL put
 cases ki p<;>simp<;>omega
theorem y4 {p:List UInt8} {i:Nat} (h:i<(zk p).length):(Qz p)[i]?=some (zkL p i):=by
 unfold Qz
 rw[List.getElem?_map,List.getElem?_range h]
 rfl
end
section
open CA CB
open Go.RowKit
def goD (b:List UInt8) (d:zt) (r:List UInt8):zt:=if YA d.w.fs b r then d else (jH b d r).1
def goE (b:List UInt8) (d:zt) (r:List UInt8):Int:=if YA d.w.fs b r then 0 else (jH b d r).2
def jR (b:List UInt8) (d:zt) (l:List (List UInt8)) (k:Nat):zt:=(l.take k).foldl (goD b) d
theorem yI {b:List UInt8} {d:zt} {p:List UInt8} (h:(jH b d p).2≠0):(jH b d p).1=d:=by
 unfold jH at h ⊢
 by_cases h1:(zU d.w.fs b p false).2≠0
 ·rw[if_pos h1]
 rw[if_neg h1]at h ⊢
 by_cases h2:(zU d.w.fs b p false).1.ino≠0
 ·rw[if_pos h2]
 rw[if_neg h2]at h ⊢
 by_cases h3:may (zU d.w.fs b p false).1.name=false
 ·rw[if_pos h3]
 rw[if_neg h3]at h ⊢
 exact zdX h
theorem HM (b r:List UInt8) (l:List (List UInt8)) (d:zt):XE b (r :: l) d=if goE b d r≠0 then (goD b d r,goE b d r) else XE b l (goD b d r):=by
 unfold goE goD
 show (if YA d.w.fs b r then XE b l d else if (jH b d r).2≠0 then (d,(jH b d r).2) else XE b l (jH b d r).1)=_
 cases hd:YA d.w.fs b r with
 | true=>rfl
 | false =>
  simp only[Bool.false_eq_true,if_false]
  by_cases he:(jH b d r).2≠0
  ·rw[if_pos he,if_pos he,yI he]
  ·rw[if_neg he,if_neg he]
theorem Xe {b:List UInt8} {d:zt} {l:List (List UInt8)} {k:Nat} (h:k<l.length):jR b d l (k+1)=goD b (jR b d l k) l[k]:=by
 unfold jR
 rw[List.take_succ_eq_append_getElem h,List.foldl_append]
 rfl
theorem N2 {b:List UInt8} {d:zt} {l:List (List UInt8)}:∀ k,k<=l.length->(∀ j (h:j<l.length),j<k->goE b (jR b d l j) l[j]=0)->XE b l d=XE b (l.drop k) (jR b d l k)
 | 0,_,_=>rfl
 | k+1,hk,h=>by
  rw[N2 k (by omega) fun j hj hl=>h j hj (by omega),List.drop_eq_getElem_cons (show k<l.length by omega),HM,if_neg (fun q=>q (h k (by omega) (by omega))),Xe (show k<l.length by omega)]
theorem zd8 {b:List UInt8} {d:zt} {l:List (List UInt8)} {k:Nat} (hk:k<l.length) (h:∀ j (h:j<l.length),j<k->goE b (jR b d l j) l[j]=0) (he:goE b (jR b d l k) l[k]≠0):XE b l d=(jR b d l (k+1),goE b (jR b d l k) l[k]):=by
 rw[N2 k (by omega) h,List.drop_eq_getElem_cons hk,HM,if_pos he,Xe hk]
theorem zbV {w0:zY} {N K:Nat} {d:zt} (h:MkG w0 N K d) (b:List UInt8) {l:List (List UInt8)} (hl:N+l.length<=3200):∀ k,k<=l.length->MkG w0 (N+k) K (jR b d l k)
 | 0,_=>h
 | k+1,hk=>by
  have ih:=zbV h b hl k (by omega)
  rw[Xe (show k<l.length by omega)]
  unfold goD
  split
  ·exact ih.mono (by omega) (Nat.le_refl _)
  ·exact (U6 (P:=fun _=>True) (fun _ _ _ _ _ _ _ _ _ _=>trivial) ih (by omega) trivial b _).1.mono (by split<;>omega) (Nat.le_refl _)
abbrev zed (l:List (List UInt8)):List (List C):=l.map fun x=>[.str x]
theorem zcU (p:List UInt8):Fun Tryz.prog GD 73 [.str p] (.clo (.func 122) [] [.row [.str p]]) 0:=by
 refine fon Tryz.func73 ?_;dsimp only[Tryz.f73]
 push_cast -dsimp
 exact dn (by push_cast -dsimp [zb,za,CLe,ze])
theorem zc4 (p:List UInt8) (hp:p.length<=2000):HK Tryz.prog GD 122 [] [.row [.str p]] [] (zed (Qz p)):=by
 have hre:Fun Tryz.prog GD 107 [.str p] (.agg [qp (ki p),.own 0 9 1 (zC (zk p)),qp (jq p)]) 1:=(ZF p (by omega)).g0
 have hns:=qw p
 have hput:=fun k:Nat=>(zja (ki p) ((zk p).take (k+1)) false (by rw[List.length_take];omega) (by
  have h1:=xU p k
  unfold zkL put at h1
  simp at h1
  omega)).g0 (G':=GD)
 have hk:=fun k (h:k<(zk p).length)=>y4 (p:=p) h
 have hll:(zC (zk p)).length=(zk p).length:=List.length_map ..
 have htk:=fun k:Nat=>show (zC (zk p)).take (k+1)=zC ((zk p).take (k+1)) from List.map_take.symm
 have hrl:=j8 p
 have e:∀ k,put (ki p) ((zk p).take (k+1)) false=zkL p k:=fun k=>rfl
 unfold zi3 at hput
 simp only[e]at hput
 clear e
 generalize zk p=ns at *
 refine foI (fun i=>if i=4 then [false,false,false,false,false,false,false,false,false,false,true] else []) Tryz.func122 ?_;dsimp only[Tryz.f122]
 intro l sf
 push_cast -dsimp
 refine cl (hre) ?_;push_cast -dsimp
 refine loop (fun k:Nat=>⟨[(0,.sc (.func (.yield l) #[] #[])),(3,.ptr 0 0),(9,.sc (.int .i64 (ns.length:Nat))),(10,.sc (.int .i64 k))],[[qp (ki p),.sl 1 (zC ns),qp (jq p)]],0,k⟩) (fun k=>k<=ns.length/\∀ j,j<k->sf j=false) (fun k=>ns.length-k) 0 ⟨Nat.zero_le _,fun j hj=>absurd hj (Nat.not_lt_zero _)⟩ ?_ ?_
 ·exact wk (h4:=by push_cast -dsimp [zb,za,CLe,ze,hll])
 rintro k ⟨h1,h2⟩
 by_cases hi:k<ns.length
 ·have hi':=eq_true (show (k:Int)<ns.length by omega)
  have hik:(zed (Qz p))[k]?=some [.str (zkL p k)]:=by
   rw[List.getElem?_map,hk k hi];rfl
  have ht:=htk k
  have hpk:=hput k
  push_cast -dsimp [hi',hll,ht]
  repeat refine an ?_
  refine cl (hpk) ?_;push_cast -dsimp [hik]
  refine ⟨by push_cast -dsimp [zb,za,CLe,ze],h2,br (fun hs=>?_) (fun hs=>?_)⟩
  ·push_cast -dsimp
   exact .inr ⟨Nat.succ_pos _,hs⟩
  ·push_cast -dsimp
   repeat refine an ?_
   refine ⟨k+1,⟨by omega,fun j hj=>?_⟩,by omega,wk⟩
   rcases Nat.lt_or_ge j k with q | q
   ·exact h2 j q
   ·rw[show j=k by omega];exact hs
 ·have hi':=eq_false (show ¬(k:Int)<ns.length by omega)
  push_cast -dsimp [hi']
  exact .inl ⟨by rw[List.length_map,hrl];omega,h2⟩
theorem zgm {w0:zY} {N K:Nat} {d:zt} (h:MkG w0 N K d) (b p:List UInt8) (hN:N+(zk p).length<=3200) (hK:K<=80000) (hb:b.length<=100000) (hp:p.length<=1000):Fun Tryz.prog GD 35 [Zv d,.str b,.str p] (.tup [Zv (zeD b d p).1,.sc (.int .i64 (zeD b d p).2)]) 0:=by
 have hlo:=(UZ p (by omega)).g0 (G':=GD)
 by_cases h1:p = []
 ·have e:zeD b d p=(d,1):=if_pos h1
  rw[e]
  subst h1
  refine fon Tryz.func35 ?_;dsimp only[Tryz.f35]
  push_cast -dsimp
  exact dn (by push_cast -dsimp [zb,za,CLe,ze])
 have h1':=eq_false h1
 cases h2:Qa p with
 | true =>
  have e:zeD b d p=(d,7):=by unfold zeD;rw[if_neg h1,if_pos h2]
  rw[h2]at hlo
  rw[e]
  refine fon Tryz.func35 ?_;dsimp only[Tryz.f35]
  push_cast -dsimp [h1']
  refine cl (hlo) ?_;push_cast -dsimp
  exact dn (by push_cast -dsimp [zb,za,CLe,ze])
 | false =>
  have e:zeD b d p=XE b (Qz p) d:=by unfold zeD;rw[if_neg h1,if_neg (by rw[h2];decide)]
  rw[h2]at hlo
  rw[e]
  have hit:=zc4 p (by omega)
  have hG:=zbV h b (l:=Qz p) (by rw[j8];exact hN)
  have hrs:∀ (k:Nat) (hk:k<(Qz p).length),(Qz p)[k].length<=2000:=fun k hk=>by
   have:=y4 (p:=p) (i:=k) (by rw[j8]at hk;exact hk)
   rw[List.getElem?_eq_getElem hk]at this
   have:=xU p k
   simp_all
   omega
  have hrl:(Qz p).length=(zk p).length:=j8 p
  have hro:=zcU p
  generalize Qz p=L at *
  refine fon Tryz.func35 ?_;dsimp only[Tryz.f35]
  push_cast -dsimp [h1']
  refine cl (hlo) ?_;push_cast -dsimp
  refine cl (hro) ?_;push_cast -dsimp
  refine range (zed L) (fun k=>match L[k]? with | some r=>!decide (goE b (jR b d L k) r=0) | none=>false) 4 (fun k=>⟨[],[znH (jR b d L k),[.str b],Zq,[.any]],0,0⟩) hit (by push_cast -dsimp) (by push_cast -dsimp) (by push_cast -dsimp) (Nat.zero_le _) (by push_cast -dsimp) (fun it h=>?_) (fun k _=>rfl) ?_ (fun k it hk hsf=>?_) (fun hsf=>?_)
  ·obtain ⟨x,_,rfl⟩:=List.mem_map.1 h;rfl
  ·exact wk (h5:=by push_cast -dsimp [zb,za,CLe,ze,show jR b d L 0=d from rfl])
  ·have hkl:k<L.length:=by
    have:=(List.getElem?_eq_some_iff.1 hk).1
    rwa [List.length_map]at this
   have hit:it = [.str L[k]]:=by
    rw[List.getElem?_map,List.getElem?_eq_getElem hkl]at hk
    exact (Option.some.inj hk).symm
   subst hit
   have hz:∀ j (hj:j<L.length),j<k->goE b (jR b d L j) L[j]=0:=fun j hj hl=>by
    have:=hsf j hl
    rw[List.getElem?_eq_getElem hj]at this
    simpa using this
   have hst:=zd8 (b:=b) (d:=d) hkl hz
   have hsu:=Xe (b:=b) (d:=d) hkl
   have hGk:=hG k (by omega)
   have hgk:L[k]?=some L[k]:=List.getElem?_eq_getElem hkl
   have hr:=hrs k hkl
   have hs:=hGk.s (by omega) hK
   have hdi:=(zhs (jR b d L k).w.fs hGk.wi.fs hGk.wr.fs hs.ws.fs hGk.dat b L[k] hb (by omega)).g0 (G':=GD)
   have hma:=Nl hGk (by omega) hK b L[k] hb hr
   have eE:goE b (jR b d L k) L[k]=if YA (jR b d L k).w.fs b L[k] then 0 else (jH b (jR b d L k) L[k]).2:=rfl
   have eD:goD b (jR b d L k) L[k]=if YA (jR b d L k).w.fs b L[k] then jR b d L k else (jH b (jR b d L k) L[k]).1:=rfl
   generalize jR b d L (k+1)=D1 at *
   generalize hDk:jR b d L k=D at *
   generalize L[k]=r at *
   cases hd:YA D.w.fs b r with
   | true =>
    rw[hd]at hdi
    rw[hd,if_pos rfl]at eE eD
    rw[eD]at hsu
    subst hsu
    push_cast -dsimp
    refine cl (hdi) ?_;push_cast -dsimp
    refine ⟨by rw[hgk];simp[hDk,eE],wk⟩
   | false =>
    rw[hd]at hdi
    rw[hd,if_neg (by simp)]at eE eD
    rw[eD]at hsu
    rw[←hsu,←eE]at hma
    by_cases he:goE b D r=0
    ·have he':=eq_true he
     push_cast -dsimp
     refine cl (hdi) ?_;push_cast -dsimp
     refine cl (hma) ?_;push_cast -dsimp [he']
     refine ⟨by rw[hgk];simp[hDk,he],wk⟩
    ·have he':=eq_false he
     have hst:=hst he
     push_cast -dsimp
     refine cl (hdi) ?_;push_cast -dsimp
     refine cl (hma) ?_;push_cast -dsimp [he']
     have hse:=yI (b:=b) (d:=D) (p:=r) (by rw[←eE];exact he)
     rw[hse]at hsu
     refine ⟨by rw[hgk];simp[hDk,he],⟨[],[Zq,[.any],znH D1,[.sc (.int .i64 (goE b D r))]],0,0⟩,rfl,wk (h5:=by push_cast -dsimp [zb,za,CLe,ze,hsu]),?_⟩
     rw[hst]
     push_cast -dsimp
     exact dn (by push_cast -dsimp [zb,za,CLe,ze])
  ·have hz:∀ j (hj:j<L.length),j<L.length->goE b (jR b d L j) L[j]=0:=fun j hj hl=>by
    have:=hsf j (by rw[List.length_map];exact hj)
    rw[List.getElem?_eq_getElem hj]at this
    simpa using this
   have hfin:=N2 (b:=b) (d:=d) L.length (Nat.le_refl _) hz
   rw[List.drop_length]at hfin
   have hfin:XE b L d=(jR b d L L.length,0):=hfin
   rw[hfin,List.length_map]
   push_cast -dsimp
   exact dn (by push_cast -dsimp [zb,za,CLe,ze])
end
section
open CA CB
open Go.RowKit
theorem J6 {l:List (List UInt8)} {i:Nat} (hi:i<l.length):qv (l.take i)+(zk l[i]).length<=qv l:=by
 have e:qv (l.take (i+1))=qv (l.take i)+(zk l[i]).length:=by
  rw[List.take_succ_eq_append_getElem hi]
  unfold qv
  rw[List.map_append,List.sum_append]
  simp
 have e2:qv l=qv (l.take (i+1))+qv (l.drop (i+1)):=by
  conv=>lhs;rw[←List.take_append_drop (i+1) l]
  unfold qv
  rw[List.map_append,List.sum_append]
 omega
structure MpI (w0:zY) (N K:Nat) (b o:List UInt8) (l:List (List UInt8)) (d:zt) (i:Nat) (D:zt):Prop where
 le:i<=l.length
 eq:D=zeb b o (l.take i) d
 g:MkG w0 (N+qv (l.take i)) (K+i) D
theorem MpI.step {w0:zY} {N K:Nat} {b o:List UInt8} {l:List (List UInt8)} {d D:zt} {i:Nat} (h:MpI w0 N K b o l d i D) (hi:i<l.length) (hN:N+qv l<=3200):MpI w0 N K b o l d (i+1) (zh2 b o D l[i]):=by
 have hnm:=J6 hi
 have e:qv (l.take (i+1))=qv (l.take i)+(zk l[i]).length:=by
  rw[List.take_succ_eq_append_getElem hi]
  unfold qv
  rw[List.map_append,List.sum_append]
  simp
 obtain ⟨g1,_⟩:=zca (P:=fun _=>True) (p:=l[i]) (fun _ _ _ _ _ _ _ _ _ _=>trivial) (fun _ _ _=>trivial) b o h.g (by omega) trivial
 refine ⟨by omega,?_,g1.mono (by rw[e];omega) (by omega)⟩
 rw[List.take_succ_eq_append_getElem hi]
 unfold zeb
 rw[List.foldl_append]
 show _=zh2 b o (zeb b o (l.take i) d) l[i]
 rw[←h.eq]
theorem Vd (k:Int) (b o:List UInt8) (l:List (List UInt8)) {w0:zY} {N K:Nat} {d:zt} (hG:MkG w0 N K d) (hN:N+qv l<=3200) (hK:K+l.length<=80000) (hb:b.length<=1000) (hp:∀ x∈l,x.length<=1000):Fun Tryz.prog GD 11 [Zv d,.str b,.agg (zoe k o l)] (Zv (zeb b o l d)) 0:=by
 have hll:(zC l).length=l.length:=List.length_map ..
 have hha:=(ziN k o (.sl 1 (zC l)) 112 rfl).g0 (G':=GD)
 by_cases hc:(112:UInt8)∈o
 ·have hF:∀ i (hi:i<l.length) D,MkG w0 (N+qv (l.take i)) (K+i) D->Fun Tryz.prog GD 35 [Zv D,.str b,.str l[i]] (.tup [Zv (Jj b o D l[i]).1,.sc (.int .i64 (Jj b o D l[i]).2)]) 0:=fun i hi D hD=>by
   have e:Jj b o D l[i]=zeD b D l[i]:=if_pos hc
   rw[e]
   exact zgm hD b l[i] (by have:=J6 hi;omega) (by omega) (by omega) (hp _ (List.getElem_mem hi))
  rw[decide_eq_true hc]at hha
  refine fon Tryz.func11 ?_;dsimp only[Tryz.f11]
  push_cast -dsimp
  refine cl (hha) ?_;push_cast -dsimp
  refine loop (fun q:Nat×zt=>⟨[(1,.str b),(3,.ptr 0 0),(5,.ptr 1 0),(6,.ptr 2 0),(7,.clo (.func 35) [] []),(15,.sl 1 (zC l)),(16,.sc (.int .i64 (l.length:Nat))),(17,.sc (.int .i64 q.1))],[znH q.2,zoe k o l,Zq],0,0⟩) (fun q=>MpI w0 N K b o l d q.1 q.2) (fun q=>l.length-q.1) (0,d) ⟨Nat.zero_le _,rfl,hG.mono (by omega) (by omega)⟩ ?_ ?_
  ·exact wk (h4:=by push_cast -dsimp [zb,za,CLe,ze,hll])
  rintro ⟨i,D⟩ hI
  dsimp only at hI
  have h1:=hI.le
  by_cases hi:i<l.length
  case neg =>
   have hil:i=l.length:=by omega
   have hi':=eq_false (show ¬(i:Int)<l.length by omega)
   have e:=hI.eq
   rw[hil,List.take_length]at e
   push_cast -dsimp [hi']
   rw[←e]
   exact dn (by push_cast -dsimp [zb,za,CLe,ze])
  have hN2:=hI.step hi hN
  have hi':=eq_true (show (i:Int)<l.length by omega)
  have hgi:(zC l)[i]?=some [.str l[i]]:=by simp[zC,hi]
  have hpl:=hp _ (List.getElem_mem hi)
  have hop:=hF i hi D hI.g
  have hnm:=J6 hi
  have hfr:=(kC (P:=fun _=>True) (fun _ _ _ _ _ _ _ _ _ _=>trivial) b o (p:=l[i]) hI.g (by omega) trivial).1
  have eM:zh2 b o D l[i]=if (Jj b o D l[i]).2≠0 then Ya (Jj b o D l[i]).1 (XM 1 1 l[i] [] (Jj b o D l[i]).2) else (Jj b o D l[i]).1:=rfl
  generalize l[i]=p at *
  generalize Jj b o D p=R at *
  by_cases he:R.2=0
  ·have he':=eq_true he
   rw[if_neg (fun q=>q he)]at eM
   rw[eM]at hN2
   push_cast -dsimp [hi',hgi,hll,Int.toNat_natCast]
   repeat refine an ?_
   refine cl (hop) ?_;push_cast -dsimp [he']
   repeat refine an ?_
   exact ⟨(i+1,R.1),hN2,by dsimp only;omega,wk⟩
  ·have he':=eq_false he
   rw[if_pos he]at eM
   rw[eM]at hN2
   have ht:=za8 R.1 (by have:=hfr.diags;omega) 1 1 p [] R.2 hpl (Nat.zero_le _)
   push_cast -dsimp [hi',hgi,hll,Int.toNat_natCast]
   repeat refine an ?_
   refine cl (hop) ?_;push_cast -dsimp [he']
   refine cl (ht) ?_;push_cast -dsimp
   repeat refine an ?_
   exact ⟨(i+1,_),hN2,by dsimp only;omega,wk (h5:=by push_cast -dsimp [zb,za,CLe,ze,Ya])⟩
 ·have hF:∀ i (hi:i<l.length) D,MkG w0 (N+qv (l.take i)) (K+i) D->Fun Tryz.prog GD 33 [Zv D,.str b,.str l[i]] (.tup [Zv (Jj b o D l[i]).1,.sc (.int .i64 (Jj b o D l[i]).2)]) 0:=fun i hi D hD=>by
   have e:Jj b o D l[i]=jH b D l[i]:=if_neg hc
   rw[e]
   exact Nl hD (by have:=J6 hi;omega) (by omega) b l[i] (by omega) (by have:=hp _ (List.getElem_mem hi);omega)
  rw[decide_eq_false hc]at hha
  refine fon Tryz.func11 ?_;dsimp only[Tryz.f11]
  push_cast -dsimp
  refine cl (hha) ?_;push_cast -dsimp
  refine loop (fun q:Nat×zt=>⟨[(1,.str b),(3,.ptr 0 0),(5,.ptr 1 0),(6,.ptr 2 0),(7,.clo (.func 33) [] []),(15,.sl 1 (zC l)),(16,.sc (.int .i64 (l.length:Nat))),(17,.sc (.int .i64 q.1))],[znH q.2,zoe k o l,Zq],0,0⟩) (fun q=>MpI w0 N K b o l d q.1 q.2) (fun q=>l.length-q.1) (0,d) ⟨Nat.zero_le _,rfl,hG.mono (by omega) (by omega)⟩ ?_ ?_
  ·exact wk (h4:=by push_cast -dsimp [zb,za,CLe,ze,hll])
  rintro ⟨i,D⟩ hI
  dsimp only at hI
  have h1:=hI.le
  by_cases hi:i<l.length
  case neg =>
   have hil:i=l.length:=by omega
   have hi':=eq_false (show ¬(i:Int)<l.length by omega)
   have e:=hI.eq
   rw[hil,List.take_length]at e
   push_cast -dsimp [hi']
   rw[←e]
   exact dn (by push_cast -dsimp [zb,za,CLe,ze])
  have hN2:=hI.step hi hN
  have hi':=eq_true (show (i:Int)<l.length by omega)
  have hgi:(zC l)[i]?=some [.str l[i]]:=by simp[zC,hi]
  have hpl:=hp _ (List.getElem_mem hi)
  have hop:=hF i hi D hI.g
  have hnm:=J6 hi
  have hfr:=(kC (P:=fun _=>True) (fun _ _ _ _ _ _ _ _ _ _=>trivial) b o (p:=l[i]) hI.g (by omega) trivial).1
  have eM:zh2 b o D l[i]=if (Jj b o D l[i]).2≠0 then Ya (Jj b o D l[i]).1 (XM 1 1 l[i] [] (Jj b o D l[i]).2) else (Jj b o D l[i]).1:=rfl
  generalize l[i]=p at *
  generalize Jj b o D p=R at *
  by_cases he:R.2=0
  ·have he':=eq_true he
   rw[if_neg (fun q=>q he)]at eM
   rw[eM]at hN2
   push_cast -dsimp [hi',hgi,hll,Int.toNat_natCast]
   repeat refine an ?_
   refine cl (hop) ?_;push_cast -dsimp [he']
   repeat refine an ?_
   exact ⟨(i+1,R.1),hN2,by dsimp only;omega,wk⟩
  ·have he':=eq_false he
   rw[if_pos he]at eM
   rw[eM]at hN2
   have ht:=za8 R.1 (by have:=hfr.diags;omega) 1 1 p [] R.2 hpl (Nat.zero_le _)
   push_cast -dsimp [hi',hgi,hll,Int.toNat_natCast]
   repeat refine an ?_
   refine cl (hop) ?_;push_cast -dsimp [he']
   refine cl (ht) ?_;push_cast -dsimp
   repeat refine an ?_
   exact ⟨(i+1,_),hN2,by dsimp only;omega,wk (h5:=by push_cast -dsimp [zb,za,CLe,ze,Ya])⟩
end
section
open CA CB
open Go.RowKit
end
section
open CA CB
open Go.RowKit
def Jq (w:zY) (b:List UInt8) (l:List (List UInt8)):Prop:=(∀ x∈l.take 20,x.length<=1000)/\okW w/\w.fs.next<549755813888/\jl w.kept<536870912/\Qh w.fs b []=true/\Js b=true/\l.length<=6
instance (w:zY) (b:List UInt8) (l:List (List UInt8)):Decidable (Jq w b l):=by unfold Jq;infer_instance
theorem vT (w:zY) (b:List UInt8) (l:List (List UInt8)) (hb:b.length<=2000000):Fun Tryz.prog G0 9 [kG w,.str b,.sl 1 (zC l)] (qp (decide (Jq w b l))) 0:=by
 have hll:(zC l).length=l.length:=List.length_map ..
 have hpl:=GQ b hb
 unfold Yv at hpl
 have hok:=zcQ w
 have hsh:=zac w.fs b []
 refine fon Tryz.func9 ?_;dsimp only[Tryz.f9]
 push_cast -dsimp
 refine cl (hpl) ?_;push_cast -dsimp
 refine loop (fun i:Nat=>⟨[(1,.str b),(2,.sl 1 (zC l)),(3,.ptr 0 0),(8,.sc (.bool (Js b))),(9,.sc (.int .i64 i))],[NS w],0,0⟩) (fun i=>i<=l.length/\i<=20/\∀ x∈l.take i,x.length<=1000) (fun i=>l.length-i) 0 ⟨Nat.zero_le _,Nat.zero_le _,fun x hx=>by rw[List.take_zero]at hx;cases hx⟩ ?_ ?_
 ·exact wk
 rintro i ⟨h1,h2,h3⟩
 by_cases hi:i<l.length
 ·have hi':=eq_true (show (i:Int)<l.length by omega)
  by_cases h20:i<20
  ·have h20':=eq_true (show (i:Int)<20 by omega)
   have hgi:(zC l)[i]?=some [.str l[i]]:=by simp[zC,hi]
   have ht:l.take (i+1)=l.take i++[l[i]]:=List.take_succ_eq_append_getElem hi
   by_cases hx:l[i].length<=1000
   ·have hx':=eq_false (show ¬(1000:Int)<l[i].length by omega)
    push_cast -dsimp [hi',h20',hgi,hll,hx',Int.toNat_natCast]
    repeat refine an ?_
    exact ⟨i+1,⟨by omega,by omega,fun x hm=>by
     rw[ht]at hm
     rcases List.mem_append.1 hm with hm | hm
     ·exact h3 x hm
     ·rw[List.mem_singleton.1 hm];exact hx⟩,by omega,wk⟩
   ·have hx':=eq_true (show (1000:Int)<l[i].length by omega)
    have hn:¬Jq w b l:=fun h=>hx (h.1 _ (List.mem_take_iff_getElem.2 ⟨i,by omega,rfl⟩))
    push_cast -dsimp [hi',h20',hgi,hll,hx',Int.toNat_natCast]
    repeat refine an ?_
    exact dn (by push_cast -dsimp [zb,za,CLe,ze,hn])
  ·have h20':=eq_false (show ¬(i:Int)<20 by omega)
   have hx:∀ x∈l.take 20,x.length<=1000:=by rw[show i=20 by omega]at h3;exact h3
   by_cases k1:okW w
   case neg =>
    have hn:¬Jq w b l:=fun h=>k1 h.2.1
    rw[decide_eq_false k1]at hok
    push_cast -dsimp [hi',h20',hll]
    refine cl (hok) ?_;push_cast -dsimp
    exact dn (by push_cast -dsimp [zb,za,CLe,ze,hn])
   rw[decide_eq_true k1]at hok
   have hs:=k1.2.2.2.2.1
   have hla:=VR (G:=G0) w (by have:=(u9 k1).klen;omega) hs.1 hs.2
   by_cases k2:w.fs.next<549755813888
   case neg =>
    have hn:¬Jq w b l:=fun h=>k2 h.2.2.1
    have k2':=eq_false k2
    push_cast -dsimp [hi',h20',hll]
    refine cl (hok) ?_;push_cast -dsimp [k2']
    exact dn (by push_cast -dsimp [zb,za,CLe,ze,hn])
   have k2':=eq_true k2
   by_cases k3:jl w.kept<536870912
   case neg =>
    have hn:¬Jq w b l:=fun h=>k3 h.2.2.2.1
    have k3':=eq_false k3
    push_cast -dsimp [hi',h20',hll]
    refine cl (hok) ?_;push_cast -dsimp [k2']
    refine cl (hla) ?_;push_cast -dsimp [k3']
    exact dn (by push_cast -dsimp [zb,za,CLe,ze,hn])
   have k3':=eq_true k3
   cases k4:Qh w.fs b []
   case false =>
    have hn:¬Jq w b l:=fun h=>by rw[h.2.2.2.2.1]at k4;cases k4
    rw[k4]at hsh
    push_cast -dsimp [hi',h20',hll]
    refine cl (hok) ?_;push_cast -dsimp [k2']
    refine cl (hla) ?_;push_cast -dsimp [k3']
    refine cl (hsh) ?_;push_cast -dsimp
    exact dn (by push_cast -dsimp [zb,za,CLe,ze,hn])
   rw[k4]at hsh
   cases k5:Js b
   case false =>
    have hn:¬Jq w b l:=fun h=>by rw[h.2.2.2.2.2.1]at k5;cases k5
    push_cast -dsimp [hi',h20',hll]
    refine cl (hok) ?_;push_cast -dsimp [k2']
    refine cl (hla) ?_;push_cast -dsimp [k3']
    refine cl (hsh) ?_;push_cast -dsimp
    exact dn (by push_cast -dsimp [zb,za,CLe,ze,hn])
   by_cases k6:l.length<=6
   ·have hn:Jq w b l:=⟨hx,k1,k2,k3,k4,k5,k6⟩
    have k6':=eq_true (show (l.length:Int)<=6 by omega)
    push_cast -dsimp [hi',h20',hll]
    refine cl (hok) ?_;push_cast -dsimp [k2']
    refine cl (hla) ?_;push_cast -dsimp [k3']
    refine cl (hsh) ?_;push_cast -dsimp [hll,k6']
    exact dn (by push_cast -dsimp [zb,za,CLe,ze,hn])
   ·have hn:¬Jq w b l:=fun h=>k6 h.2.2.2.2.2.2
    have k6':=eq_false (show ¬(l.length:Int)<=6 by omega)
    push_cast -dsimp [hi',h20',hll]
    refine cl (hok) ?_;push_cast -dsimp [k2']
    refine cl (hla) ?_;push_cast -dsimp [k3']
    refine cl (hsh) ?_;push_cast -dsimp [hll,k6']
    exact dn (by push_cast -dsimp [zb,za,CLe,ze,hn])
 ·have hi':=eq_false (show ¬(i:Int)<l.length by omega)
  have hx:∀ x∈l.take 20,x.length<=1000:=by
   rw[show i=l.length by omega,List.take_length]at h3
   exact fun x hm=>h3 x (List.mem_of_mem_take hm)
  by_cases k1:okW w
  case neg =>
   have hn:¬Jq w b l:=fun h=>k1 h.2.1
   rw[decide_eq_false k1]at hok
   push_cast -dsimp [hi',hll]
   refine cl (hok) ?_;push_cast -dsimp
   exact dn (by push_cast -dsimp [zb,za,CLe,ze,hn])
  rw[decide_eq_true k1]at hok
  have hs:=k1.2.2.2.2.1
  have hla:=VR (G:=G0) w (by have:=(u9 k1).klen;omega) hs.1 hs.2
  by_cases k2:w.fs.next<549755813888
  case neg =>
   have hn:¬Jq w b l:=fun h=>k2 h.2.2.1
   have k2':=eq_false k2
   push_cast -dsimp [hi',hll]
   refine cl (hok) ?_;push_cast -dsimp [k2']
   exact dn (by push_cast -dsimp [zb,za,CLe,ze,hn])
  have k2':=eq_true k2
  by_cases k3:jl w.kept<536870912
  case neg =>
   have hn:¬Jq w b l:=fun h=>k3 h.2.2.2.1
   have k3':=eq_false k3
   push_cast -dsimp [hi',hll]
   refine cl (hok) ?_;push_cast -dsimp [k2']
   refine cl (hla) ?_;push_cast -dsimp [k3']
   exact dn (by push_cast -dsimp [zb,za,CLe,ze,hn])
  have k3':=eq_true k3
  cases k4:Qh w.fs b []
  case false =>
   have hn:¬Jq w b l:=fun h=>by rw[h.2.2.2.2.1]at k4;cases k4
   rw[k4]at hsh
   push_cast -dsimp [hi',hll]
   refine cl (hok) ?_;push_cast -dsimp [k2']
   refine cl (hla) ?_;push_cast -dsimp [k3']
   refine cl (hsh) ?_;push_cast -dsimp
   exact dn (by push_cast -dsimp [zb,za,CLe,ze,hn])
  rw[k4]at hsh
  cases k5:Js b
  case false =>
   have hn:¬Jq w b l:=fun h=>by rw[h.2.2.2.2.2.1]at k5;cases k5
   push_cast -dsimp [hi',hll]
   refine cl (hok) ?_;push_cast -dsimp [k2']
   refine cl (hla) ?_;push_cast -dsimp [k3']
   refine cl (hsh) ?_;push_cast -dsimp
   exact dn (by push_cast -dsimp [zb,za,CLe,ze,hn])
  by_cases k6:l.length<=6
  ·have hn:Jq w b l:=⟨hx,k1,k2,k3,k4,k5,k6⟩
   have k6':=eq_true (show (l.length:Int)<=6 by omega)
   push_cast -dsimp [hi',hll]
   refine cl (hok) ?_;push_cast -dsimp [k2']
   refine cl (hla) ?_;push_cast -dsimp [k3']
   refine cl (hsh) ?_;push_cast -dsimp [hll,k6']
   exact dn (by push_cast -dsimp [zb,za,CLe,ze,hn])
  ·have hn:¬Jq w b l:=fun h=>k6 h.2.2.2.2.2.2
   have k6':=eq_false (show ¬(l.length:Int)<=6 by omega)
   push_cast -dsimp [hi',hll]
   refine cl (hok) ?_;push_cast -dsimp [k2']
   refine cl (hla) ?_;push_cast -dsimp [k3']
   refine cl (hsh) ?_;push_cast -dsimp [hll,k6']
   exact dn (by push_cast -dsimp [zb,za,CLe,ze,hn])
theorem zfg (k:Int) (l:List (List UInt8)) (hk:k=1∨k=2∨k=3∨k=4∨k=5) (hl:l.length<=90) (hs:∀ x∈l,x.length<=1000):Fun Tryz.prog G0 10 [.sc (.int .i64 k),.sl 1 (zC l)] (.tup [zps (YD (jS k :: l)).1,qp (decide ((YD (jS k :: l)).2 = []))]) 1:=by
 have hn:=Nm k
 have hll:(zC l).length=l.length:=List.length_map ..
 have hr:=zbc (jS k :: l) (by rw[List.length_cons];omega) (fun x hx=>by
  rcases List.mem_cons.1 hx with rfl | hx
  ·rcases hk with rfl | rfl | rfl | rfl | rfl<;>decide
  ·exact hs x hx)
 have e:zC (jS k :: l) = [.str (jS k)] :: zC l:=rfl
 rw[e]at hr
 refine fof (fun i=>if i=1 then XT 9 10 else if i=2 then [false,false,false,true] else []) Tryz.func10 ?_;dsimp only[Tryz.f10]
 push_cast -dsimp
 refine cl (hn) ?_;push_cast -dsimp
 repeat refine an ?_
 refine cl (hr) ?_;push_cast -dsimp
 exact ⟨[.inl 1],rfl,rfl,by push_cast -dsimp [zb,za,CLe,ze]⟩
end
section
theorem zhD (k:Int) (s:List UInt8):(JI k s 58).length<=58:=by
 unfold JI
 refine Nat.le_trans (List.length_filter_le _ _) ?_
 simp
theorem Mi (l:List (List UInt8)):(YD l).1.opts.length<=58/\(YD l).1.operands.length<=l.length/\∀ x∈(YD l).1.operands,x∈l:=by
 refine ⟨?_,zbW l,?_⟩
 ·cases l with
  | nil=>exact Nat.zero_le _
  | cons w r =>
   rw[YD]
   split
   ·exact Nat.zero_le _
   ·unfold jI
    split
    ·exact Nat.zero_le _
    ·split
     ·exact Nat.zero_le _
     ·exact zhD _ _
 ·cases l with
  | nil=>intro x hx;cases hx
  | cons w r =>
   rw[YD]
   split
   ·intro x hx;cases hx
   ·unfold jI
    split
    ·intro x hx;cases hx
    ·split
     ·intro x hx;cases hx
     ·exact fun x hx=>List.mem_cons_of_mem _ (List.mem_of_mem_drop hx)
theorem zht {w:zY} {b:List UInt8} {l:List (List UInt8)} (h:Jq w b l):zao w.fs.xs/\b.length<=1000:=by
 have hs:=h.2.2.2.2.1
 have hl:=(u9 h.2.1).len
 unfold Qh at hs
 simp only[Bool.and_eq_true,decide_eq_true_eq,Bool.not_eq_true',List.any_eq_false]at hs
 obtain ⟨⟨h1,h2⟩,_⟩:=hs
 rw[List.take_of_length_le (by omega)]at h1
 refine ⟨fun x hx hk=>?_,by omega⟩
 have:=h1 x hx
 unfold Zx at this
 simp only[Bool.and_eq_true,decide_eq_true_eq,not_and]at this
 have:=this hk
 omega
theorem Ur {w:zY} {b:List UInt8} {l:List (List UInt8)} (h:Jq w b l):∀ x∈l,x.length<=1000:=by
 have h1:=h.1
 rw[List.take_of_length_le (by have:=h.2.2.2.2.2.2;omega)]at h1
 exact h1
theorem uG (w:List UInt8) (r:List (List UInt8)):(YD (w :: r)).1.operands.length<=r.length:=by
 rw[YD]
 split
 ·exact Nat.zero_le _
 ·unfold jI
  split
  ·exact Nat.zero_le _
  ·split
   ·exact Nat.zero_le _
   ·show (r.drop _).length<=_
    rw[List.length_drop];omega
end
section
open CA CB
open Go.RowKit
def w26:zY:=⟨⟨3,9,2,[⟨1,2,0,[],1,[]⟩]⟩,[],[]⟩
theorem zh6:okW w26:=by decide
theorem zm1:MkG w26 0 0 (vb w26):=znF zh6 (by
 intro x hx
 have:∀ x∈w26.fs.xs,x.kind=3->x.data.length<=1000:=by decide
 exact this x hx) (by decide) (by decide)
def tM:List (List UInt8):=[[109,107,100,105,114,58,32,99,97,110,110,111,116,32,99,114,101,97,116,101,32,100,105,114,101,99,116,111,114,121,32,34,97,34,58,32,70,105,108,101,32,101,120,105,115,116,115],[109,107,100,105,114,58,32,99,97,110,110,111,116,32,99,114,101,97,116,101,32,100,105,114,101,99,116,111,114,121,32,34,99,34,58,32,78,111,32,115,112,97,99,101,32,108,101,102,116,32,111,110,32,100,101,118,105,99,101]]
theorem xz:Fun Tryz.prog GD 8 [] (qp true) 0:=by
 have q0:=zgz (G:=GD) 3 9
 have q1:Fun Tryz.prog GD 12 [.agg [.sc (.int .i64 3),.sc (.int .i64 9),.sc (.int .i64 2),.sl 6 [J2 ⟨1,2,0,[],1,[]⟩],.sc (.slice none 0 0),.sc (.slice none 0 0)]] (Zv (vb w26)) 0:=Fun.less (Gh w26 (by decide) zh6.2.2.2.2.1).g0 (by push_cast -dsimp [zb,za,CLe,ze,w26,zE,Jf,List.map_nil,List.map_cons])
 have q2:Fun Tryz.prog GD 11 [Zv (vb w26),.str [47],.agg [.sc (.int .i64 1),.str [112],.sl 1 [[.str [97,47,98]]]]] (Zv (zeb [47] [112] [[97,47,98]] (vb w26))) 0:=Vd 1 [47] [112] [[97,47,98]] zm1 (by decide) (by decide) (by decide) (by decide)
 have hM:MkG w26 (0+qv [[97,47,98]]) (0+1) (zeb [47] [112] [[97,47,98]] (vb w26)):=(zaJ (P:=fun _=>True) (fun _ _ _ _ _ _ _ _ _ _=>trivial) (fun _ _ _=>trivial) [47] [112] [[97,47,98]] 0 0 (vb w26) zm1 (by decide) trivial).1
 obtain ⟨dA,hA⟩:∃ d,zeb [47] [112] [[97,47,98]] (vb w26)=d:=⟨_,rfl⟩
 obtain ⟨dB,hB⟩:∃ d,zeb [47] [] [[97],[99]] (zeb [47] [112] [[97,47,98]] (vb w26))=d:=⟨_,rfl⟩
 have p1:dA.ops = [Jo [47,97],Jo [47,97,47,98]]:=by rw[←hA];kernel_rfl
 have p2:dA.status=0:=by rw[←hA];kernel_rfl
 have p3:dB.diags=tM:=by rw[←hB];kernel_rfl
 have p4:dB.ops.length=2:=by rw[←hB];kernel_rfl
 have p5:dB.status=1:=by rw[←hB];kernel_rfl
 rw[hA]at q2 hM hB
 have q3:Fun Tryz.prog GD 11 [Zv dA,.str [47],.agg [.sc (.int .i64 1),.str [],.sl 1 [[.str [97]],[.str [99]]]]] (Zv dB) 0:=by
  rw[←hB]
  exact Vd 1 [47] [] [[97],[99]] hM (by decide) (by decide) (by decide) (by decide)
 have q4:Fun Tryz.prog GD 26 [.sl 5 (dA.ops.map opL),.sl 5 [opL (Jo [47,97]),opL (Jo [47,97,47,98])]] (qp true) 0:=by
  have h:=Gc dA.ops [Jo [47,97],Jo [47,97,47,98]] (by rw[p1];decide)
  rw[show jV dA.ops [Jo [47,97],Jo [47,97,47,98]]=true by rw[p1];rfl]at h
  exact h.g0
 have q5:Fun Tryz.prog GD 15 [.sl 1 (zC dB.diags),.sl 1 (zC tM)] (qp true) 0:=by
  have h:=Hm dB.diags tM (by rw[p3];decide)
  rw[decide_eq_true p3]at h
  exact h.g0
 have p6:((dB.ops.map opL).length:Int)=2:=by rw[List.length_map,p4];rfl
 have p7:(dA.status=0)=True:=eq_true p2
 have p8:(dB.status=1)=True:=eq_true p5
 have p9:((dB.ops.length:Int)=2)=True:=eq_true (by rw[p4];rfl)
 clear hA hB p1 p2 p3 p4 p5 hM
 refine fon Tryz.func8 ?_;dsimp only[Tryz.f8]
 push_cast -dsimp
 refine cl (q0) ?_;push_cast -dsimp
 refine cl (q1) ?_;push_cast -dsimp
 refine cl (q2) ?_;push_cast -dsimp
 refine cl (q3) ?_;push_cast -dsimp
 refine cl (q4) ?_;push_cast -dsimp [p6,p7,p8,p9]
 refine cl (q5) ?_;push_cast -dsimp [p6,p7,p8,p9]
 exact dn
end
section
open CA CB
open Go.RowKit
structure zpa (w:zY) (b:List UInt8) (l:List (List UInt8)) (c:zlB):Prop where
 g:MkG w 0 0 (vb w)
 b:b.length<=1000
 o:c.opts.length<=1000
 n:c.operands.length<=6
 p:∀ x∈c.operands,x.length<=1000
theorem zpa.of {w:zY} {b:List UInt8} {l:List (List UInt8)} (h:Jq w b l):zpa w b l (YD (jS 1 :: l)).1:=by
 obtain ⟨p1,p2,p3⟩:=Mi (jS 1 :: l)
 obtain ⟨d1,d2⟩:=zht h
 have h6:=h.2.2.2.2.2.2
 have ht:=uG (jS 1) l
 refine ⟨znF h.2.1 d1 (by have:=h.2.2.1;omega) (by have:=h.2.2.2.1;omega),d2,by omega,by omega,fun x hx=>?_⟩
 rcases List.mem_cons.1 (p3 x hx) with rfl | hx
 ·decide
 ·exact Ur h x hx
theorem Z6 (w:zY) (b:List UInt8) (l:List (List UInt8)) (hb:b.length<=2000000):Fun Tryz.prog GD 5 [kG w,.str b,.sl 1 (zC l)] (qp true) 0:=by
 have ha:=xz
 have hf:Fun Tryz.prog GD 9 _ _ 0:=(vT w b l hb).g0
 by_cases h:Jq w b l
 case neg =>
  rw[decide_eq_false h]at hf
  refine fon Tryz.func5 ?_;dsimp only[Tryz.f5]
  push_cast -dsimp
  refine cl (ha) ?_;push_cast -dsimp
  refine cl (hf) ?_;push_cast -dsimp
  refine cl (ha) ?_;push_cast -dsimp
  exact dn (by push_cast -dsimp [zb,za,CLe,ze])
 rw[decide_eq_true h]at hf
 have hc:Fun Tryz.prog GD 10 _ _ 1:=(zfg 1 l (by decide) (by have:=h.2.2.2.2.2.2;omega) (Ur h)).g0
 have hF:=zpa.of h
 generalize YD (jS 1 :: l)=rc at hc hF
 obtain ⟨⟨ck,co,cz⟩,s⟩:=rc
 dsimp only at hF hc
 have hcn:cz.length<=6:=hF.n
 have hnn:qv cz<=500*cz.length:=GZ hF.p
 by_cases hs:s = []
 case neg =>
  rw[decide_eq_false hs]at hc
  refine fon Tryz.func5 ?_;dsimp only[Tryz.f5]
  push_cast -dsimp
  refine cl (ha) ?_;push_cast -dsimp
  refine cl (hf) ?_;push_cast -dsimp
  refine cl (hc) ?_;push_cast -dsimp
  exact dn (by push_cast -dsimp [zb,za,CLe,ze])
 rw[decide_eq_true hs]at hc
 have q1:Fun Tryz.prog GD 12 [kG w] (Zv (vb w)) 0:=(Gh w (by have:=(u9 h.2.1).klen;omega) h.2.1.2.2.2.2.1).g0
 have q2:=Vd ck b co cz hF.g (by omega) (by omega) hF.b hF.p
 have hB:=u9 h.2.1
 have q4:Fun Tryz.prog GD 20 _ _ 0:=(zei (vb w) (hF.g.s (by omega) (by omega)) (fun z hz=>by have:=(hB.pnode z hz).1;omega)).g0
 have q5:Fun Tryz.prog GD 15 _ _ 0:=(Hm cz cz (by omega)).g0
 rw[decide_eq_true rfl]at q5
 have l1:(zE w.fs.xs).length=w.fs.xs.length:=List.length_map ..
 have l2:(Jf w.kept).length=w.kept.length:=List.length_map ..
 have l3:(zE w.pool).length=w.pool.length:=List.length_map ..
 have b1:=hB.len
 have b2:=hB.klen
 have b3:=hB.plen
 refine fon Tryz.func5 ?_;dsimp only[Tryz.f5]
 push_cast -dsimp
 refine cl (ha) ?_;push_cast -dsimp
 refine cl (hf) ?_;push_cast -dsimp
 refine cl (hc) ?_;push_cast -dsimp
 refine cl (q1) ?_;push_cast -dsimp
 repeat refine an ?_
 refine cl (q2) ?_;push_cast -dsimp
 refine cl (hc) ?_;push_cast -dsimp
 refine cl (q4) ?_;push_cast -dsimp
 refine cl (q5) ?_;push_cast -dsimp
 exact dn (by push_cast -dsimp [zb,za,CLe,ze])
end
end Go.Proofs.YtaipngaejfndgaaGreatDoor.Vcg
