/- What the proof of RmsLeads leans on, part 6: Rld Rfo. No condition beyond what each theorem states. -/
import Derived.Test.YtlkjpfiancahiaaGreatDoorRmsLeadsKe
set_option linter.unusedVariables false
set_option linter.unusedSimpArgs false
set_option linter.unusedSectionVars false
set_option maxRecDepth 100000
set_option maxHeartbeats 4000000
namespace Go.Proofs.YtlkjpfiancahiaaGreatDoor.Vcg
section
def jp (w:qk) (l:List OpV) (i:Nat):qk:=(l.take i).foldl (fun u o=>(doV u o).1) w
theorem Ue {w:qk} {l:List OpV} {i:Nat} (h:i<l.length):jp w l (i+1)=(doV (jp w l i) l[i]).1:=by
 unfold jp
 rw[List.take_succ_eq_append_getElem h,List.foldl_append]
 rfl
theorem ZX {w:qk} {l k:List OpV} {i:Nat} (h:i<=l.length):jp w (l++k) i=jp w l i:=by
 unfold jp
 rw[List.take_append_of_le_length h]
theorem zc9 {P:zD->Prop} (h:∀ d p,RmB 2000 d->P d->p.length<=60000->P (YV d (YI p)).1):∀ (m:Nat) (d:zD) (p:List UInt8) (n:Int),RmB 2000 d->P d->p.length+m*302<=60000->RmB 2000 (rmD m d p n)/\P (rmD m d p n)
 | 0,d,p,n,hB,hd,_=>⟨hB,hd⟩
 | m+1,d,p,n,hB,hd,hp=>by
  have hn:∀ e∈(zf n d.w.fs.xs).es,e.name.length<=300:=fun e he=>by
   cases hh:zt n d.w.fs.xs with
   | false=>rw[Ge hh]at he;cases he
   | true=>exact (hB.node _ (zh hh).2.1).2.2 e he
  have key:∀ (L:List zX) (d:zD),(∀ e∈L,e.name.length<=300)->RmB 2000 d->P d->RmB 2000 (L.foldl (fun d e=>rmD m d (jg p e.name) e.ino) d)/\P (L.foldl (fun d e=>rmD m d (jg p e.name) e.ino) d):=fun L=>by
   induction L with
   | nil=>exact fun d _ h1 h2=>⟨h1,h2⟩
   | cons e r ih =>
    intro d hL h1 h2
    have he:=hL e List.mem_cons_self
    have hj:(jg p e.name).length<=p.length+301:=by unfold jg;split<;>simp<;>omega
    obtain ⟨g1,g2⟩:=zc9 h m d (jg p e.name) e.ino h1 h2 (by omega)
    exact ih _ (fun x hx=>hL x (List.mem_cons_of_mem _ hx)) g1 g2
  obtain ⟨g1,g2⟩:=key _ d hn hB hd
  exact ⟨(g1.add p).1,h _ p g1 g2 (by omega)⟩
theorem Uf {P:zD->Prop} (ha:∀ d p,RmB 2000 d->P d->p.length<=60000->P (YV d (YI p)).1) (ht:∀ d x,P d->P (j6 d x)) (b o:List UInt8):∀ (l:List (List UInt8)) (d:zD),RmG 2000 d->d.diags.length+l.length<=80000->P d->P (yE b o l d)
 | [],d,_,_,h=>h
 | p :: r,d,hg,hl,h=>by
  rw[List.length_cons]at hl
  rcases HG hg b o p with ⟨h1,h2,h3⟩ | q
  ·have hlen:(kr b o d p).diags.length<=d.diags.length+1:=by
    rw[h3];split<;>simp
   refine Uf ha ht b o r (kr b o d p) h1 (by omega) ?_
   unfold kr
   simp only
   split
   ·exact ht _ _ h
   ·split
    ·rename_i hq
     have hth:=V9 hg.c.wi.fs hg.c.wr.fs hq
     have hm:=XH hg.c.wr.fs hth
     have hpl:=uB hg.ok hth.has hth.kind hm
     exact (zc9 ha _ d _ _ hg.b h (by have:=hg.b.len;omega)).2
    ·exact h
  ·omega
theorem X8 {K:Nat} {d:zD} (h:RmB K d) (p:List UInt8):(YV d (YI p)).1=d∨((doV d.w ⟨7,d.slot+1,p,[],[]⟩).2=0/\QL ⟨7,d.slot+1,p,[],[]⟩=true/\(YV d (YI p)).1=⟨(doV d.w ⟨7,d.slot+1,p,[],[]⟩).1,d.ops++[⟨7,d.slot+1,p,[],[]⟩],d.diags,d.status,d.slot+1⟩ /\
  ∃ s,zH d.w.fs s/\(zf s.ino d.w.fs.xs).es = []/\(doV d.w ⟨7,d.slot+1,p,[],[]⟩).1=⟨zi d.w.fs s,qi ⟨d.slot+1,s.ino,false,[]⟩ d.w.kept,if (zf s.ino d.w.fs.xs).links=1 then qP { zf s.ino d.w.fs.xs with links:=0,parent:=0 } d.w.pool else d.w.pool⟩):=by
 by_cases hz:(YV d (YI p)).2=0
 case neg=>exact .inl (US hz)
 have eo:kg d (YI p)=⟨7,d.slot+1,p,[],[]⟩:=rfl
 have hsl:=h.slot.1
 unfold YV at hz ⊢
 rw[eo]at hz ⊢
 rw[if_neg (show ¬7<(YI p).kind by show ¬(7:Int)<7;decide)]at hz ⊢
 split at hz
 ·rename_i hd;exact absurd hz hd
 rename_i hd
 rw[if_neg hd,if_pos (by show 0<d.slot+1;omega)]
 have hd:=Classical.not_not.1 hd
 refine .inr ⟨hd,zkw hd,rfl,?_⟩
 rcases do7 h.wi (o:=⟨7,d.slot+1,p,[],[]⟩) rfl with e | ⟨s,hs,he,e⟩
 ·exact absurd hd (V0 h.wi e)
 ·refine ⟨s,hs,he,?_⟩
  rw[e]
  have hne:VS (d.slot+1) d.w.kept=false:=by
   cases hq:VS (d.slot+1) d.w.kept with
   | false=>rfl
   | true =>
    have e2:(qZ d.w (d.slot+1) s).1=d.w:=by unfold qZ;rw[hq];rfl
    rw[e2]at e
    exact absurd hd (V0 h.wi e)
  unfold qZ;rw[hne];rfl
structure VF (w:qk) (d:zD):Prop where
 fin:jp w d.ops d.ops.length=d.w
 ok:∀ i (h:i<d.ops.length),(doV (jp w d.ops i) d.ops[i]).2=0
 good:∀ i,i<=d.ops.length->H6 (jp w d.ops i)/\zkA (jp w d.ops i)
 may:∀ o∈d.ops,QL o=true/\∃ s a,o=⟨7,s,a,[],[]⟩/\a.length<=60000
 rise:(jj d.ops).Pairwise (· < ·)
 over:∀ s∈jj d.ops,s<=d.slot
theorem VF.new {w:qk} (h:RmB 2000 (Zz w)):VF w (Zz w):=⟨rfl,fun i h=>absurd h (Nat.not_lt_zero _),fun i hi=>by
 have e:jp w (Zz w).ops i=w:=by show jp w [] i=w;unfold jp;rw[List.take_nil];rfl
 rw[e];exact ⟨h.wi,h.s.ws⟩,fun o ho=>(by cases ho),.nil,fun s hs=>(by cases hs)⟩
theorem VF.add {w:qk} {d:zD} (p:List UInt8) (hB:RmB 2000 d) (h:VF w d) (hp:p.length<=60000):VF w (YV d (YI p)).1:=by
 have hB2:=(hB.add p).1
 rcases X8 hB p with e | ⟨h1,h2,e,_⟩
 ·rw[e];exact h
 rw[e]at hB2 ⊢
 have hss:=hB2.s.ws
 have hwi:=hB2.wi
 dsimp only at hss hwi
 clear e hB2
 have hsl:jj (d.ops++[⟨7,d.slot+1,p,[],[]⟩])=jj d.ops++[d.slot+1]:=by unfold jj;rw[List.filter_append,List.map_append];rfl
 have hmo:QL ⟨7,d.slot+1,p,[],[]⟩=true/\∃ s a,(⟨7,d.slot+1,p,[],[]⟩:OpV)=⟨7,s,a,[],[]⟩/\a.length<=60000:=⟨h2,_,_,rfl,hp⟩
 generalize (⟨7,d.slot+1,p,[],[]⟩:OpV)=o at *
 have hlast:jp w (d.ops++[o]) (d.ops.length+1)=(doV d.w o).1:=by
  rw[Ue (by rw[List.length_append,List.length_singleton];omega),ZX (Nat.le_refl _),h.fin,List.getElem_append_right (Nat.le_refl _)]
  simp only[Nat.sub_self,List.getElem_cons_zero]
 have hok:∀ i (hi:i<(d.ops++[o]).length),(doV (jp w (d.ops++[o]) i) (d.ops++[o])[i]).2=0:=fun i hi=>by
  rw[List.length_append,List.length_singleton]at hi
  rw[ZX (by omega)]
  rcases Nat.lt_or_ge i d.ops.length with q | q
  ·rw[List.getElem_append_left q];exact h.ok i q
  ·have:i=d.ops.length:=by omega
   subst this
   rw[h.fin,List.getElem_append_right (Nat.le_refl _)]
   simp only[Nat.sub_self,List.getElem_cons_zero]
   exact h1
 have hgd:∀ i,i<=(d.ops++[o]).length->H6 (jp w (d.ops++[o]) i)/\zkA (jp w (d.ops++[o]) i):=fun i hi=>by
  rw[List.length_append,List.length_singleton]at hi
  rcases Nat.lt_or_ge d.ops.length i with q | q
  ·have:i=d.ops.length+1:=by omega
   subst this
   rw[hlast]
   exact ⟨hwi,hss⟩
  ·rw[ZX q];exact h.good i q
 have hfin:jp w (d.ops++[o]) (d.ops++[o]).length=(doV d.w o).1:=by rw[List.length_append,List.length_singleton];exact hlast
 have hmay:∀ x∈d.ops++[o],QL x=true/\∃ s a,x=⟨7,s,a,[],[]⟩/\a.length<=60000:=fun x hx=>by
  rcases List.mem_append.1 hx with hx | hx
  ·exact h.may x hx
  ·rw[List.mem_singleton.1 hx];exact hmo
 have hri:(jj (d.ops++[o])).Pairwise (· < ·):=by
  rw[hsl,List.pairwise_append]
  exact ⟨h.rise,by simp,fun a ha b hb=>by rw[List.mem_singleton.1 hb];have:=h.over a ha;omega⟩
 have hov:∀ s∈jj (d.ops++[o]),s<=d.slot+1:=fun s hs=>by
  rw[hsl]at hs
  rcases List.mem_append.1 hs with hs | hs
  ·have:=h.over s hs;omega
  ·rw[List.mem_singleton.1 hs];omega
 exact ⟨hfin,hok,hgd,hmay,hri,hov⟩
theorem VF.tell {w:qk} {d:zD} (h:VF w d) (x:List UInt8):VF w (j6 d x):=⟨h.fin,h.ok,h.good,h.may,h.rise,h.over⟩
theorem VF.plan {w:qk} {d:zD} (h:VF w d):XM d.ops=true:=by
 unfold XM
 rw[Bool.and_eq_true,Bool.not_eq_true',List.any_eq_false,vX]
 refine ⟨fun o ho=>?_,fun j hj=>?_⟩
 ·obtain ⟨q1,s,a,q2,_⟩:=h.may o ho
  unfold XL
  rw[q1,q2]
  simp
 ·have:=List.pairwise_iff_getElem.1 h.rise j (j+1) (by omega) hj (by omega)
  unfold znA
  rw[if_neg (by omega),if_pos this]
theorem zls {K:Nat} {d:zD} (p:List UInt8) (hB:RmB 2000 d) (h:d.ops.length+jP esN d.w.fs.xs<=K):(YV d (YI p)).1.ops.length+jP esN (YV d (YI p)).1.w.fs.xs<=K:=by
 rcases X8 hB p with e | ⟨_,_,e,s,hs,he,e2⟩
 ·rw[e];exact h
 ·rw[e,e2]
  have hu:=QH hB.wi.fs hs he
  show (d.ops++[_]).length+jP esN (zi d.w.fs s).xs<=K
  rw[List.length_append,List.length_singleton];omega
def zos (x:zn) (l:List zn):Prop:=∃ y∈l,y.kind=x.kind/\y.data=x.data
def UJ (w:qk) (v:qk):Prop:=∀ x∈w.fs.xs,x.kind≠2->zos x v.fs.xs∨zos x v.pool
theorem zhZ {w:qk} {d:zD} (p:List UInt8) (hB:RmB 2000 d) (h:UJ w d.w):UJ w (YV d (YI p)).1.w:=by
 rcases X8 hB p with e | ⟨_,_,e,s,hs,he,e2⟩
 ·rw[e];exact h
 rw[e]
 show UJ w (doV d.w ⟨7,d.slot+1,p,[],[]⟩).1
 rw[e2]
 intro x hx hk
 have hi:=hB.wi
 have hh:=zH.ino hi.fs hs
 have gi:=zh hh
 have gd:=zh hs.has
 have hne:s.dir≠s.ino∨(zf s.ino d.w.fs.xs).kind=2:=by
  by_cases q:s.dir=s.ino
  ·exact .inr (by rw[←q];exact hs.kind)
  ·exact .inl q
 rcases h x hx hk with ⟨y,hy,q1,q2⟩ | ⟨y,hy,q1,q2⟩
 ·have hyk:y.kind≠2:=by rw[q1];exact hk
  have hyd:y.ino≠s.dir:=fun q=>by
   have:=JO hi.fs hy
   rw[q]at this
   rw[←this]at hyk
   exact hyk hs.kind
  have hin:y∈jk s.dir (zg s.name) d.w.fs.xs:=(Xw hs.has).2 (.inr ⟨hy,hyd⟩)
  by_cases hyi:y.ino=s.ino
  ·have hyg:zf s.ino d.w.fs.xs=y:=by rw[←hyi];exact JO hi.fs hy
   by_cases hl:(zf s.ino d.w.fs.xs).links=1
   ·refine .inr ⟨{ zf s.ino d.w.fs.xs with links:=0,parent:=0 },?_,?_⟩
    ·show _∈(if (zf s.ino d.w.fs.xs).links=1 then _ else _)
     rw[if_pos hl]
     exact jY.2 (.inl rfl)
    ·rw[hyg];exact ⟨q1,q2⟩
   ·refine .inl ⟨{ zf s.ino d.w.fs.xs with links:=(zf s.ino d.w.fs.xs).links-1 },?_,?_⟩
    ·show _∈(zi d.w.fs s).xs
     unfold zi
     rw[if_neg (by omega)]
     exact jY.2 (.inl rfl)
    ·rw[hyg];exact ⟨q1,q2⟩
  ·refine .inl ⟨y,?_,q1,q2⟩
   show y∈(zi d.w.fs s).xs
   unfold zi
   split
   ·exact JQ.2 ⟨hin,hyi⟩
   ·exact jY.2 (.inr ⟨hin,by show y.ino≠(zf s.ino d.w.fs.xs).ino;rw[gi.2.2];exact hyi⟩)
 ·refine .inr ⟨y,?_,q1,q2⟩
  show y∈(if (zf s.ino d.w.fs.xs).links=1 then _ else _)
  split
  ·refine jY.2 (.inr ⟨hy,fun q=>?_⟩)
   have q:y.ino=(zf s.ino d.w.fs.xs).ino:=q
   rw[gi.2.2]at q
   have:=(hi.apart y hy).1
   rw[q,hh]at this
   cases this
  ·exact hy
end
section
open CA CB
open Go.RowKit
theorem zfJ (v:qk) (k:Int) (t:List UInt8) (h1:v.fs.xs.length<=100000) (h2:v.pool.length<=100000) (h:(∃ y∈v.fs.xs,y.kind=k/\y.data=t)∨(∃ y∈v.pool,y.kind=k/\y.data=t)):Fun Tryz.prog G0 43 [Yp v,.sc (.int .i64 k),.str t] (.sc (.bool true)) 0:=by
 obtain ⟨⟨mi,mb,nx,xs⟩,ks,pl⟩:=v
 dsimp only at h h1 h2
 have l1:(zp xs).length=xs.length:=List.length_map ..
 have l2:(zp pl).length=pl.length:=List.length_map ..
 refine fon Tryz.func43 ?_;dsimp only[Tryz.f43]
 push_cast -dsimp
 refine loop (fun i:Nat=>⟨[(1,.sc (.int .i64 k)),(2,.str t),(3,.ptr 0 0),(7,.sc (.int .i64 i))],[QJ ⟨⟨mi,mb,nx,xs⟩,ks,pl⟩],0,0⟩) (fun i=>i<=xs.length/\∀ j (hj:j<xs.length),j<i->¬(xs[j].kind=k/\xs[j].data=t)) (fun i=>xs.length-i) 0 ⟨Nat.zero_le _,fun j _ hj=>absurd hj (Nat.not_lt_zero _)⟩ ?_ ?_
 ·exact wk
 rintro i ⟨i1,i2⟩
 by_cases hi:i<xs.length
 ·have hi':=eq_true (show (i:Int)<xs.length by omega)
  have hgi:(zp xs)[i]?=some (Js xs[i]):=by simp[zp,hi]
  generalize hX:xs[i]=X at *
  have hne:¬(X.kind=k/\X.data=t)->∀ j (hj:j<xs.length),j<i+1->¬(xs[j].kind=k/\xs[j].data=t):=fun hn j hj hl=>by
   rcases Nat.lt_or_ge j i with q | q
   ·exact i2 j hj q
   ·have:j=i:=by omega
    subst this
    rw[hX];exact hn
  by_cases c1:X.kind=k
  ·have c1':=eq_true c1
   by_cases c2:X.data=t
   ·have c2':=eq_true c2
    push_cast -dsimp [hi',hgi,l1,c1',c2',Int.toNat_natCast]
    repeat refine an ?_
    exact dn
   ·have c2':=eq_false c2
    push_cast -dsimp [hi',hgi,l1,c1',c2',Int.toNat_natCast]
    repeat refine an ?_
    exact ⟨i+1,⟨by omega,hne fun q=>c2 q.2⟩,by omega,wk⟩
  ·have c1':=eq_false c1
   push_cast -dsimp [hi',hgi,l1,c1',Int.toNat_natCast]
   repeat refine an ?_
   exact ⟨i+1,⟨by omega,hne fun q=>c1 q.1⟩,by omega,wk⟩
 have hi':=eq_false (show ¬(i:Int)<xs.length by omega)
 have h:=h.resolve_left (by
  rintro ⟨y,hy,q⟩
  obtain ⟨j,hj,rfl⟩:=List.getElem_of_mem hy
  exact i2 j hj (by omega) q)
 push_cast -dsimp [hi',l1]
 refine loop (fun i:Nat=>⟨[(1,.sc (.int .i64 k)),(2,.str t),(3,.ptr 0 0),(8,.sc (.int .i64 i))],[QJ ⟨⟨mi,mb,nx,xs⟩,ks,pl⟩],0,0⟩) (fun i=>i<=pl.length/\∀ j (hj:j<pl.length),j<i->¬(pl[j].kind=k/\pl[j].data=t)) (fun i=>pl.length-i) 0 ⟨Nat.zero_le _,fun j _ hj=>absurd hj (Nat.not_lt_zero _)⟩ ?_ ?_
 ·exact wk
 clear i1 i2 hi hi' i
 rintro i ⟨i1,i2⟩
 have hi:i<pl.length:=Classical.byContradiction fun hn=>by
  obtain ⟨y,hy,q⟩:=h
  obtain ⟨j,hj,rfl⟩:=List.getElem_of_mem hy
  exact i2 j hj (by omega) q
 have hi':=eq_true (show (i:Int)<pl.length by omega)
 have hgi:(zp pl)[i]?=some (Js pl[i]):=by simp[zp,hi]
 generalize hX:pl[i]=X at *
 have hne:¬(X.kind=k/\X.data=t)->∀ j (hj:j<pl.length),j<i+1->¬(pl[j].kind=k/\pl[j].data=t):=fun hn j hj hl=>by
  rcases Nat.lt_or_ge j i with q | q
  ·exact i2 j hj q
  ·have:j=i:=by omega
   subst this
   rw[hX];exact hn
 by_cases c1:X.kind=k
 ·have c1':=eq_true c1
  by_cases c2:X.data=t
  ·have c2':=eq_true c2
   push_cast -dsimp [hi',hgi,l2,c1',c2',Int.toNat_natCast]
   repeat refine an ?_
   exact dn
  ·have c2':=eq_false c2
   push_cast -dsimp [hi',hgi,l2,c1',c2',Int.toNat_natCast]
   repeat refine an ?_
   exact ⟨i+1,⟨by omega,hne fun q=>c2 q.2⟩,by omega,wk⟩
 ·have c1':=eq_false c1
  push_cast -dsimp [hi',hgi,l2,c1',Int.toNat_natCast]
  repeat refine an ?_
  exact ⟨i+1,⟨by omega,hne fun q=>c1 q.1⟩,by omega,wk⟩
theorem ziZ (w v:qk) (h0:w.fs.xs.length<=100000) (h1:v.fs.xs.length<=100000) (h2:v.pool.length<=100000) (h:UJ w v):Fun Tryz.prog G0 17 [.agg (fsC w.fs),Yp v] (.sc (.slice none 0 0)) 0:=by
 have l1:(zp w.fs.xs).length=w.fs.xs.length:=List.length_map ..
 refine fon Tryz.func17 ?_;dsimp only[Tryz.f17]
 push_cast -dsimp
 refine loop (fun i:Nat=>⟨[(2,.ptr 0 0),(3,.ptr 1 0),(5,.sc (.slice none 0 0)),(6,.sc (.int .i64 i))],[fsC w.fs,QJ v],0,0⟩) (fun i=>i<=w.fs.xs.length) (fun i=>w.fs.xs.length-i) 0 (Nat.zero_le _) ?_ ?_
 ·exact wk
 intro i i1
 by_cases hi:i<w.fs.xs.length
 ·have hi':=eq_true (show (i:Int)<w.fs.xs.length by omega)
  have hgi:(zp w.fs.xs)[i]?=some (Js w.fs.xs[i]):=by simp[zp,hi]
  have hx:=h w.fs.xs[i] (List.getElem_mem hi)
  generalize w.fs.xs[i]=X at *
  by_cases c1:X.kind=2
  ·have c1':=eq_true c1
   push_cast -dsimp [hi',hgi,l1,c1',Int.toNat_natCast]
   repeat refine an ?_
   exact ⟨i+1,by omega,by omega,wk⟩
  ·have c1':=eq_false c1
   have hf:=zfJ v X.kind X.data h1 h2 (hx c1)
   push_cast -dsimp [hi',hgi,l1,c1',Int.toNat_natCast]
   repeat refine an ?_
   refine cl (hf) ?_;push_cast -dsimp
   repeat refine an ?_
   exact ⟨i+1,by omega,by omega,wk⟩
 ·have hi':=eq_false (show ¬(i:Int)<w.fs.xs.length by omega)
  push_cast -dsimp [hi',l1]
  exact dn
theorem zha (w:qk) (d:zD) (h:VF w d) (hl:d.ops.length<=10000):Fun Tryz.prog G0 14 [Yp w,.sl 5 (d.ops.map opL),.sc (.int .i64 (d.ops.length:Nat))] (.tup [Yp d.w,.sc (.int .i64 (d.ops.length:Nat)),.sc (.int .i64 0)]) 0:=by
 have hll:(d.ops.map opL).length=d.ops.length:=List.length_map ..
 have e0:=h.fin
 refine fof (fun i=>if i=3 then jB 9 10 else []) Tryz.func14 ?_;dsimp only[Tryz.f14]
 push_cast -dsimp
 refine loop (fun i:Nat=>⟨[(1,.sl 5 (d.ops.map opL)),(2,.sc (.int .i64 (d.ops.length:Nat))),(3,.ptr 0 0),(6,.ptr 1 0),(9,.sc (.int .i64 i))],[QJ (jp w d.ops i),[.any,.any,.any,.any,.any,.any]],0,0⟩) (fun i=>i<=d.ops.length) (fun i=>d.ops.length-i) 0 (Nat.zero_le _) ?_ ?_
 ·exact wk (h5:=by push_cast -dsimp [zb,za,CLe,zd,show jp w d.ops 0=w from rfl])
 intro i hi
 by_cases hlt:i<d.ops.length
 case neg =>
  have hil:i=d.ops.length:=by omega
  rw[hil]
  push_cast -dsimp [hll,Int.lt_irrefl]
  exact dn (by push_cast -dsimp [zb,za,CLe,zd,e0])
 have g:(d.ops.map opL)[i]?=some (opL d.ops[i]):=by simp[hlt]
 have z:=h.ok i hlt
 have e:=Ue (w:=w) hlt
 obtain ⟨g1,g2⟩:=h.good i hi
 obtain ⟨hm,s,a,ho,ha⟩:=h.may _ (List.getElem_mem hlt)
 rw[ho]at g z e hm
 have hdo:=ziz (jp w d.ops i) g1 g2 s a [] [] ⟨by show a.length<=_;omega,Nat.zero_le _,Nat.zero_le _⟩ (Nat.zero_le _) hm (X5 hm).1 (fun q=>by cases q)
 rw[z,←e]at hdo
 generalize hu2:jp w d.ops (i+1)=u' at e hdo
 generalize hu:jp w d.ops i=u at hdo
 have hlt':=eq_true (show (i:Int)<d.ops.length by omega)
 rw[zdI]at g hdo
 push_cast -dsimp [hll,hlt',g,hu]
 repeat refine an ?_
 refine cl (hdo) ?_;push_cast -dsimp [hll,hlt',g,hu]
 repeat refine an ?_
 exact ⟨i+1,hlt,by omega,wk (h5:=by push_cast -dsimp [zb,za,CLe,zd,hu2])⟩
theorem zeB (xs:List zn) (i:Nat) (h:∀ x∈xs,x.es.length<=40) (hl:xs.length<=40):jP esN (xs.take i)<=1600:=by
 have h2:∀ ys:List zn,(∀ x∈ys,x.es.length<=40)->jP esN ys<=ys.length*40:=fun ys=>by
  induction ys with
  | nil=>intro _;exact Nat.zero_le _
  | cons x r ih =>
   intro hx
   have:=ih fun y hy=>hx y (List.mem_cons_of_mem _ hy)
   have h0:=hx x List.mem_cons_self
   unfold jP at this ⊢
   rw[List.map_cons,List.sum_cons,List.length_cons]
   unfold esN at this ⊢
   omega
 have:=h2 (xs.take i) fun x hx=>h x (List.mem_of_mem_take hx)
 have h3:(xs.take i).length<=40:=by rw[List.length_take];omega
 omega
def znd (d:zD):Prop:=∀ z∈d.w.pool,z.es.length<=40
theorem ziI {d:zD} (p:List UInt8) (hB:RmB 2000 d) (h:znd d):znd (YV d (YI p)).1:=by
 rcases X8 hB p with e | ⟨_,_,e,s,hs,he,e2⟩
 ·rw[e];exact h
 rw[e]
 intro z hz
 have hz:z∈(doV d.w ⟨7,d.slot+1,p,[],[]⟩).1.pool:=hz
 rw[e2]at hz
 have hz:z∈(if (zf s.ino d.w.fs.xs).links=1 then qP { zf s.ino d.w.fs.xs with links:=0,parent:=0 } d.w.pool else d.w.pool):=hz
 split at hz
 ·rcases zcB hz with rfl | hz
  ·show (zf s.ino d.w.fs.xs).es.length<=40
   rw[he];exact Nat.zero_le _
  ·exact h z hz
 ·exact h z hz
theorem Nr (w:qk) (b:List UInt8) (l:List (List UInt8)) (hb:b.length<=2000000):Fun Tryz.prog GD 4 [Yp w,.str b,.sl 1 (zQ l)] (qt true) 0:=by
 have ha:=yl
 have hf:Fun Tryz.prog GD 7 _ _ 0:=(zaW w b l hb).g0
 by_cases h:JW w b l
 case neg =>
  rw[decide_eq_false h]at hf
  refine fof (fun i=>if i=6 then jB 5 6 else if i=7 then jB 12 13 else []) Tryz.func4 ?_;dsimp only[Tryz.f4]
  push_cast -dsimp
  refine cl (ha) ?_;push_cast -dsimp
  refine cl (hf) ?_;push_cast -dsimp
  refine cl (ha) ?_;push_cast -dsimp
  exact dn
 rw[decide_eq_true h]at hf
 have hc:Fun Tryz.prog GD 8 _ _ 1:=(zhi 2 l (by decide) (by have:=h.2.2.2.2.2.2;omega) (Hn h)).g0
 have hF:=zrT.of h
 generalize Qf (Ju 2 :: l)=rc at hc hF
 obtain ⟨⟨ck,co,cz⟩,s⟩:=rc
 dsimp only at hF hc
 have hcn:cz.length<=7:=hF.n
 by_cases hs:s = []
 case neg =>
  rw[decide_eq_false hs]at hc
  refine fof (fun i=>if i=6 then jB 5 6 else if i=7 then jB 12 13 else []) Tryz.func4 ?_;dsimp only[Tryz.f4]
  push_cast -dsimp
  refine cl (ha) ?_;push_cast -dsimp
  refine cl (hf) ?_;push_cast -dsimp
  refine cl (hc) ?_;push_cast -dsimp
  exact dn
 rw[decide_eq_true hs]at hc
 have q1:Fun Tryz.prog GD 10 [Yp w] (kI (Zz w)) 0:=(Me w (by have:=(Gf h.2.1).klen;omega) h.2.1.2.2.2.2.1).g0
 have hdl:(Zz w).diags.length+cz.length<=80000:=by show 0+cz.length<=_;omega
 have q2:=GO ck b co cz (Zz w) hF.g hF.dat hdl hF.b hF.p
 obtain ⟨g1,_⟩:=uT b co cz (Zz w) hF.g hdl
 have i1:=Uf (P:=fun d=>VF w d) (fun d p hB hd hp=>hd.add p hB hp) (fun d x hd=>hd.tell x) b co cz (Zz w) hF.g hdl (.new hF.g.b)
 have i2:=Uf (P:=fun d=>d.ops.length+jP esN d.w.fs.xs<=jP esN w.fs.xs) (fun d p hB hd _=>zls p hB hd) (fun d x hd=>hd) b co cz (Zz w) hF.g hdl (by show 0+jP esN w.fs.xs<=_;omega)
 have i3:=Uf (P:=fun d=>UJ w d.w) (fun d p hB hd _=>zhZ p hB hd) (fun d x hd=>hd) b co cz (Zz w) hF.g hdl (fun x hx _=>.inl ⟨x,hx,rfl,rfl⟩)
 have i4:=Uf (P:=znd) (fun d p hB hd _=>ziI p hB hd) (fun d x hd=>hd) b co cz (Zz w) hF.g hdl (fun z hz=>((Gf h.2.1).pnode z hz).1)
 generalize yE b co cz (Zz w)=P at q2 g1 i1 i2 i3 i4
 have hen:=zdB h.2.1
 have hol:(P.ops.map opL).length=P.ops.length:=List.length_map ..
 have hB:=g1.b
 have q3:Fun Tryz.prog GD 14 _ _ 0:=(zha w P i1 (by omega)).g0
 have q4:Fun Tryz.prog GD 15 _ _ 0:=(zgM P.ops (by omega) (fun o ho=>by
  obtain ⟨_,s,a,e,hl⟩:=i1.may o ho
  rw[e]
  exact ⟨by show a.length<=_;omega,Nat.zero_le _,Nat.zero_le _⟩)).g0
 rw[i1.plan]at q4
 have hpn:∀ z∈P.w.pool,z.es.length<=9223372036854775807:=fun z hz=>by have:=i4 z hz;omega
 have q5:Fun Tryz.prog GD 16 _ _ 0:=(zed P.w P.w (by have:=hB.len;omega) (by have:=hB.pool;omega) (by have:=hB.kept;omega) (fun z hz=>by have:=(hB.node z hz).1;omega) hpn).g0
 rw[decide_eq_true rfl]at q5
 have q6:Fun Tryz.prog GD 17 _ _ 0:=(ziZ w P.w (by have:=(Gf h.2.1).len;omega) (by have:=hB.len;omega) (by have:=hB.pool;omega) i3).g0
 have hnl:(zp w.fs.xs).length=w.fs.xs.length:=List.length_map ..
 have hwl:=(Gf h.2.1).len
 have hel:∀ x∈w.fs.xs,x.es.length<=40:=fun x hx=>((Gf h.2.1).node x hx).1
 refine fof (fun i=>if i=6 then jB 5 6 else if i=7 then jB 12 13 else []) Tryz.func4 ?_;dsimp only[Tryz.f4]
 push_cast -dsimp
 refine cl (ha) ?_;push_cast -dsimp
 refine cl (hf) ?_;push_cast -dsimp
 refine cl (hc) ?_;push_cast -dsimp
 refine cl (q1) ?_;push_cast -dsimp
 refine cl (q2) ?_;push_cast -dsimp [hol]
 refine cl (q3) ?_;push_cast -dsimp
 refine loop (fun i:Nat=>⟨[(3,.ptr 0 0),(9,.ptr 2 0),(10,.ptr 3 0),(11,.sc (.int .i64 (P.ops.length:Nat))),(12,.sc (.int .i64 0)),(13,.sc (.int .i64 (jP esN (w.fs.xs.take i):Nat))),(14,.sc (.int .i64 i))],[QJ w,[.any,.any,.any],znl P,QJ P.w],0,0⟩) (fun i=>i<=w.fs.xs.length) (fun i=>w.fs.xs.length-i) 0 (Nat.zero_le _) ?_ ?_
 ·exact wk (h4:=by push_cast -dsimp [zb,za,CLe,zd,List.take_zero,show jP esN []=0 from rfl])
 intro i hi
 by_cases hlt:i<w.fs.xs.length
 ·have hlt':=eq_true (show (i:Int)<w.fs.xs.length by omega)
  have hgi:(zp w.fs.xs)[i]?=some (Js w.fs.xs[i]):=by simp[zp,hlt]
  have ht:jP esN (w.fs.xs.take (i+1))=jP esN (w.fs.xs.take i)+w.fs.xs[i].es.length:=by
   rw[List.take_succ_eq_append_getElem hlt]
   unfold jP
   rw[List.map_append,List.sum_append]
   simp[esN]
  have hex:=hel _ (List.getElem_mem hlt)
  have hst:=zeB w.fs.xs i hel hwl
  generalize w.fs.xs[i]=X at *
  have hxl:(zW X.es).length=X.es.length:=List.length_map ..
  push_cast -dsimp [hlt',hgi,hnl,hxl,Int.toNat_natCast]
  repeat refine an ?_
  exact ⟨i+1,by omega,by omega,wk (h4:=by push_cast -dsimp [zb,za,CLe,zd,ht])⟩
 have hlt':=eq_false (show ¬(i:Int)<w.fs.xs.length by omega)
 have hil:i=w.fs.xs.length:=by omega
 rw[hil,List.take_length]
 rw[hil]at hlt'
 have hle:=eq_false (show ¬(jP esN w.fs.xs:Int)<(P.ops.length:Int) by omega)
 push_cast -dsimp [hlt',hnl]
 refine cl (q4) ?_;push_cast -dsimp [hol]
 refine cl (q5) ?_;push_cast -dsimp [hle]
 refine loop (fun i:Nat=>⟨[(3,.ptr 0 0),(9,.ptr 2 0),(10,.ptr 3 0),(11,.sc (.int .i64 (P.ops.length:Nat))),(15,.sc (.int .i64 i))],[QJ w,[.any,.any,.any],znl P,QJ P.w],0,0⟩) (fun i=>i<=P.ops.length) (fun i=>P.ops.length-i) 0 (Nat.zero_le _) ?_ ?_
 ·exact wk
 clear hil hlt' hlt hi i
 intro i hi
 by_cases hlt:i<P.ops.length
 ·have hlt':=eq_true (show (i:Int)<P.ops.length by omega)
  have g:(P.ops.map opL)[i]?=some (opL P.ops[i]):=by simp[hlt]
  obtain ⟨_,s,a,ho,_⟩:=i1.may _ (List.getElem_mem hlt)
  rw[ho,zdI]at g
  push_cast -dsimp [hlt',g,hol,Int.toNat_natCast]
  repeat refine an ?_
  exact ⟨i+1,by omega,by omega,wk⟩
 ·have hlt':=eq_false (show ¬(i:Int)<P.ops.length by omega)
  push_cast -dsimp [hlt']
  refine cl (q6) ?_;push_cast -dsimp
  exact dn
end
end Go.Proofs.YtlkjpfiancahiaaGreatDoor.Vcg
