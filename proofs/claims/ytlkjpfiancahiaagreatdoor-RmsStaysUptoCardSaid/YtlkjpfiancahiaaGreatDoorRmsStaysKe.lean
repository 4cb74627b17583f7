/- What the proof of RmsStays leans on, part 5: Ref19c Rf11 Ref8 Wlk1 Wlk2 Tree1 Mak0 Tree2 Tree3 Tree4 Tree5 Tree6 Tree7 Dra4 Mak1 Mak2 Mak3 OpenD Sk0 Slc2 Sk2 Rgt0 SekP SekL Rgt1 Rgt2 Rgt3 Rgt4 Rgt5 Rgt6 PthL Rms0 Rms1 Rms2 Rms3 Rms4 Rms5 Do7 Sek1 Sek2 Sek3 Rmv Rea Rml Rpl0 Rpl Rrm Sk1 Sk3 Ron Rdo Rfi Rsm Rtr. No condition beyond what each theorem states. -/
import Derived.Test.YtlkjpfiancahiaaGreatDoorRmsStaysKd
import Derived.Sort.Walk0
import Derived.Lib.IndexLaws
set_option linter.unusedVariables false
set_option linter.unusedSimpArgs false
set_option linter.unusedSectionVars false
set_option maxRecDepth 100000
set_option maxHeartbeats 4000000
namespace Go.Proofs.YtlkjpfiancahiaaGreatDoor.Vcg
section
open Go.RowKit
theorem Gw (a b:List OpV) (ha:a.length<=100000):Fun Tryz.prog G0 20 [.sl 5 (zf1 a),.sl 5 (zf1 b)] (qy (Jm a b)) 0:=by
 by_cases hl:a.length=b.length
 ·refine fon Tryz.func20 ?_;dsimp only[Tryz.f20]
  push_cast -dsimp [hl]
  refine loop (fun k:Nat=>⟨[(0,.sl 5 (zf1 a)),(1,.sl 5 (zf1 b)),(5,.sc (.int .i64 k))],[],0,0⟩) (fun k=>k<=a.length/\∀ (j:Nat) (h:j<a.length) (h':j<b.length),j<k->zjt (a[j]'h) (b[j]'h')=true) (fun k=>a.length-k) 0 ⟨Nat.zero_le _,fun j _ _ hj=>by omega⟩ ?_ ?_
  ·exact wk (by push_cast -dsimp [zb,za,CLe,zd,hl])
  ·intro k hk
   have hk1:=hk.1
   have hk2:=hk.2
   by_cases h:k<a.length
   ·have hga:=zcp a k h
    have hgb:=zcp b k (by omega)
    have heq:zjt (a[k]'h) (b[k]'(by omega))=zjt (a[k]'h) (b[k]'(by omega)):=rfl
    simp only[opL]at hga hgb
    conv at heq=>lhs;unfold zjt
    cases he:zjt (a[k]'h) (b[k]'(by omega)) with
    | true =>
     rw[he]at heq
     push_cast -dsimp [h,hga,hgb,heq]
     repeat refine an ?_
     refine ⟨k+1,⟨by omega,fun j hj hj' hjk=>?_⟩,by omega,wk⟩
     rcases Nat.lt_or_ge j k with g | g
     ·exact hk2 j hj hj' g
     ·have:j=k:=by omega
      subst this;exact he
    | false =>
     rw[he]at heq
     push_cast -dsimp [h,hga,hgb,heq]
     repeat refine an ?_
     refine ⟨[],rfl,rfl,?_⟩
     push_cast -dsimp [zb,za,CLe,zd]
     have:¬Jm a b=true:=fun e=>by
      have:=((JH a b).1 e).2 k h (by omega)
      rw[he]at this;cases this
     simp[this]
   ·push_cast -dsimp [h]
    refine ⟨[],rfl,rfl,?_⟩
    push_cast -dsimp [zb,za,CLe,zd]
    have:Jm a b=true:=(JH a b).2 ⟨hl,fun j hj hj'=>hk2 j hj hj' (by omega)⟩
    simp[this]
 ·refine fon Tryz.func20 ?_;dsimp only[Tryz.f20]
  push_cast -dsimp [hl]
  refine ⟨[],rfl,rfl,?_⟩
  push_cast -dsimp [zb,za,CLe,zd]
  have:¬Jm a b=true:=fun e=>hl ((JH a b).1 e).1
  simp[this]
end
section
open CA CB
open Go.RowKit
theorem zk7 (a b:zL):(decide (a.slot=b.slot)&&decide (a.ino=b.ino)&&a.content==b.content&&decide (a.data=b.data))=decide (a=b):=by
 obtain ⟨a1,a2,a3,a4⟩:=a
 obtain ⟨b1,b2,b3,b4⟩:=b
 rw[Bool.eq_iff_iff]
 simp[and_assoc]
theorem zdm (x y:qA) (hx:x.fs.xs.length<=100000) (hp:x.pool.length<=100000) (hk:x.kept.length<=100000) (he:∀ z∈x.fs.xs,z.es.length<=9223372036854775807) (hep:∀ z∈x.pool,z.es.length<=9223372036854775807):Fun Tryz.prog G0 16 [Zd x,Zd y] (qy (decide (x=y))) 0:=by
 obtain ⟨f,a,p⟩:=x
 obtain ⟨g,b,q⟩:=y
 have hk:a.length<=100000:=hk
 have hla:(zC a).length=a.length:=List.length_map ..
 have hlb:(zC b).length=b.length:=List.length_map ..
 have h1:=zdE (G:=G0) f g hx he
 have h2:=Gd (G:=G0) p q hp hep
 have hw:(⟨f,a,p⟩:qA)=⟨g,b,q⟩↔f=g/\p=q/\a=b:=by simp only[qA.mk.injEq];exact ⟨fun h=>⟨h.1,h.2.2,h.2.1⟩,fun h=>⟨h.1,h.2.2,h.2.1⟩⟩
 by_cases c1:f=g
 case neg =>
  have hn:¬(⟨f,a,p⟩:qA)=⟨g,b,q⟩:=fun h=>c1 (hw.1 h).1
  rw[decide_eq_false c1]at h1
  refine fon Tryz.func16 ?_;dsimp only[Tryz.f16]
  push_cast -dsimp
  refine cl (h1) ?_;push_cast -dsimp
  exact dn (by push_cast -dsimp [zb,za,CLe,zd,hn])
 rw[decide_eq_true c1]at h1
 by_cases c2:p=q
 case neg =>
  have hn:¬(⟨f,a,p⟩:qA)=⟨g,b,q⟩:=fun h=>c2 (hw.1 h).2.1
  rw[decide_eq_false c2]at h2
  refine fon Tryz.func16 ?_;dsimp only[Tryz.f16]
  push_cast -dsimp
  refine cl (h1) ?_;push_cast -dsimp
  refine cl (h2) ?_;push_cast -dsimp
  exact dn (by push_cast -dsimp [zb,za,CLe,zd,hn])
 rw[decide_eq_true c2]at h2
 by_cases c3:a.length=b.length
 case neg =>
  have hn:¬(⟨f,a,p⟩:qA)=⟨g,b,q⟩:=fun h=>c3 (by rw[(hw.1 h).2.2])
  have c3':((a.length:Int)=b.length)=False:=eq_false (by omega)
  refine fon Tryz.func16 ?_;dsimp only[Tryz.f16]
  push_cast -dsimp
  refine cl (h1) ?_;push_cast -dsimp
  refine cl (h2) ?_;push_cast -dsimp [hla,hlb,c3']
  exact dn (by push_cast -dsimp [zb,za,CLe,zd,hn])
 have c3':((a.length:Int)=b.length)=True:=eq_true (by omega)
 refine fon Tryz.func16 ?_;dsimp only[Tryz.f16]
 push_cast -dsimp
 refine cl (h1) ?_;push_cast -dsimp
 refine cl (h2) ?_;push_cast -dsimp [hla,hlb,c3']
 refine loop (fun i:Nat=>⟨[(2,.ptr 0 0),(3,.ptr 1 0),(5,.sc (.int .i64 i))],[kH ⟨f,a,p⟩,kH ⟨g,b,q⟩],0,0⟩) (fun i=>i<=a.length/\a.take i=b.take i) (fun i=>a.length-i) 0 ⟨Nat.zero_le _,rfl⟩ ?_ ?_
 ·exact wk
 rintro i ⟨i1,i2⟩
 by_cases h:i<a.length
 ·have hb:i<b.length:=by omega
  have g1:=jx a i h
  have g2:=jx b i hb
  have hd:=zk7 a[i] b[i]
  by_cases hab:a[i]=b[i]
  ·rw[decide_eq_true hab]at hd
   push_cast -dsimp [hla,hlb,h,hb,g1,g2,hd]
   repeat refine an ?_
   repeat refine an ?_
   exact ⟨i+1,⟨h,(Xf (by omega) hb i2).2 hab⟩,by omega,wk⟩
  ·rw[decide_eq_false hab]at hd
   have hn:¬(⟨f,a,p⟩:qA)=⟨g,b,q⟩:=fun h=>hab (by have:=(hw.1 h).2.2;subst this;rfl)
   push_cast -dsimp [hla,hlb,h,hb,g1,g2,hd]
   repeat refine an ?_
   exact dn (by push_cast -dsimp [zb,za,CLe,zd,hn])
 ·have hab:a=b:=by rw[←List.take_of_length_le (l:=a) (i:=i) (by omega),i2,List.take_of_length_le (by omega)]
  have hn:=hw.2 ⟨c1,c2,hab⟩
  push_cast -dsimp [hla,h]
  exact dn (by push_cast -dsimp [zb,za,CLe,zd,hn])
theorem Nk (w:qA) (hk:w.kept.length<=100000) (hs:Xk w.kept):Fun Tryz.prog G0 10 [Zd w] (VV (HX w)) 0:=by
 have h:=Ub (G:=G0) w hk hs.1 hs.2
 refine fof (fun i=>if i=1 then [false,false,false,false,true] else []) Tryz.func10 ?_;dsimp only[Tryz.f10]
 push_cast -dsimp
 refine cl (h) ?_;push_cast -dsimp
 exact dn (by push_cast -dsimp [zb,za,CLe,zd,HX])
end
section
open Go.RowKit
structure zsc where
 path:List UInt8
 ino:Int
deriving DecidableEq,Inhabited
def Qy (p n:List UInt8):List UInt8:=if p = [47] then p++n else p++[47]++n
theorem zcv (p n:List UInt8):(Qy p n).length<=p.length+1+n.length:=by
 unfold Qy
 split<;>simp<;>omega
section
variable {G:zn}
end
end
section
open CA CB
open Go.RowKit
abbrev j6:=List (List (List UInt8)×zm)
structure vj (f:FsV) (tr:Int->List (List UInt8)->j6):Prop where
 has:∀ n ns,zw n f.xs=true->tr n ns=(ns,zf n f.xs) :: (zf n f.xs).es.flatMap fun e=>tr e.ino (ns++[e.name])
 not:∀ n ns,zw n f.xs=false->tr n ns = []
abbrev Uc (p:List (List UInt8)×zm):List C:=[.str (zW p.1),.agg (JJ p.2)]
def uH (tr:Int->List (List UInt8)->j6) (ns:List (List UInt8)) (es:List zX):j6:=es.flatMap fun e=>tr e.ino (ns++[e.name])
def Xg (tr:Int->List (List UInt8)->j6) (S:List (List (List UInt8)×List zX)):j6:=S.flatMap fun p=>uH tr p.1 p.2
abbrev lvC (p:List (List UInt8)×List zX):List C:=[.sl 1 (zQ p.1),.sl 2 (qe p.2)]
def US (S:List (List (List UInt8)×List zX)):List C:=(S.reverse.map lvC).flatten
theorem zmt (S:List (List (List UInt8)×List zX)):(US S).length=S.length*2:=by
 unfold US
 rw[qp (k:=2) fun r hr=>by obtain ⟨p,_,rfl⟩:=List.mem_map.1 hr;rfl]
 simp
theorem vc (p:List (List UInt8)×List zX) (S:List (List (List UInt8)×List zX)):US (p :: S)=US S++lvC p:=by
 unfold US;simp
def ZF (p:List (List UInt8)×zm):Prop:=p.1.length<=1000000/\(Lib.join p.1 [47]).length<=1000000
structure J2 (f:FsV) (tr:Int->List (List UInt8)->j6) (IT:List (List C)) (sf:Nat->Bool) (S:List (List (List UInt8)×List zX)) (k cap:Nat):Prop where
 rest:IT.drop k=(Xg tr S).map Uc
 bound:∀ p∈Xg tr S,ZF p
 le:k<=IT.length
 go:∀ j,j<k->sf j=false
 pos:S.length<=k
 room:S.length<=cap
 roomM:cap<=9223372036854775807
 has:∀ p∈S,p.2.length<=40/\∀ e∈p.2,zw e.ino f.xs=true
theorem QJ (S:List (List (List UInt8)×List zX)):((US S).all C.stayB)=true:=XE fun r hr=>by
 obtain ⟨p,_,rfl⟩:=List.mem_map.1 hr;rfl
theorem J2.pop {f:FsV} {tr:Int->List (List UInt8)->j6} {IT:List (List C)} {sf:Nat->Bool} {S:List (List (List UInt8)×List zX)} {ns:List (List UInt8)} {k cap:Nat} (h:J2 f tr IT sf ((ns,[]) :: S) k cap):J2 f tr IT sf S k cap:=by
 have e:Xg tr ((ns,[]) :: S)=Xg tr S:=by simp[Xg,uH]
 exact ⟨by rw[←e];exact h.rest,fun p hp=>h.bound p (by rw[e];exact hp),h.le,h.go,by have:=h.pos;rw[List.length_cons]at this;omega,by have:=h.room;rw[List.length_cons]at this;omega,h.roomM,fun p hp=>h.has p (List.mem_cons_of_mem _ hp)⟩
theorem J2.next {f:FsV} {tr:Int->List (List UInt8)->j6} {IT:List (List C)} {sf:Nat->Bool} {S:List (List (List UInt8)×List zX)} {ns:List (List UInt8)} {e:zX} {r:List zX} {k cap:Nat} (h:J2 f tr IT sf ((ns,e :: r) :: S) k cap) (ht:vj f tr) (hf:ZU f.xs) (h3:JU f) :
  ∃ y,y=zf e.ino f.xs/\y∈f.xs/\IT[k]?=some (Uc (ns++[e.name],y))/\ZF (ns++[e.name],y)/\(sf k=false->(∀ c,S.length+2<=c->c<=9223372036854775807->J2 f tr IT sf ((ns++[e.name],y.es) :: (ns,r) :: S) (k+1) c)/\(y.es = []->J2 f tr IT sf ((ns,r) :: S) (k+1) cap)):=by
 have hh:zw e.ino f.xs=true:=(h.has (ns,e :: r) List.mem_cons_self).2 e List.mem_cons_self
 obtain ⟨hm,hi⟩:=qT hh
 have hu:=ht.has e.ino (ns++[e.name]) hh
 have hrest:Xg tr ((ns,e :: r) :: S)=(ns++[e.name],zf e.ino f.xs) :: Xg tr ((ns++[e.name],(zf e.ino f.xs).es) :: (ns,r) :: S):=by
  simp only[Xg,uH,List.flatMap_cons,hu,List.cons_append,List.append_assoc]
 refine ⟨_,rfl,hm,?_,h.bound _ (by rw[hrest];exact List.mem_cons_self),fun hs=>?_⟩
 ·have:=h.rest
  rw[hrest]at this
  have:=congrArg (·[0]?) this
  simpa using this
 ·have hd:IT.drop (k+1)=(Xg tr ((ns++[e.name],(zf e.ino f.xs).es) :: (ns,r) :: S)).map Uc:=by
   rw[←List.drop_drop,h.rest,hrest];rfl
  have hb:∀ p∈Xg tr ((ns++[e.name],(zf e.ino f.xs).es) :: (ns,r) :: S),ZF p:=fun p hp=>h.bound p (by rw[hrest];exact List.mem_cons_of_mem _ hp)
  have hkl:k+1<=IT.length:=by
   rcases Nat.lt_or_ge k IT.length with g | g
   ·exact g
   ·have:=h.rest
    rw[List.drop_eq_nil_of_le g,hrest]at this;cases this
  have hgo:∀ j,j<k+1->sf j=false:=fun j hj=>by
   rcases Nat.lt_or_ge j k with g | g
   ·exact h.go j g
   ·rw[show j=k by omega];exact hs
  have hp:=h.pos
  have hro:=h.room
  have hrm:=h.roomM
  rw[List.length_cons]at hp hro
  have h0:=h.has (ns,e :: r) List.mem_cons_self
  have hr0:r.length<=40/\∀ e'∈r,zw e'.ino f.xs=true:=⟨by have:=h0.1;simp at this;omega,fun e' he=>h0.2 e' (List.mem_cons_of_mem _ he)⟩
  refine ⟨fun c h1 h2=>⟨hd,hb,hkl,hgo,by simp;omega,by simp;omega,h2,fun p hp=>?_⟩,fun hne=>?_⟩
  ·rcases List.mem_cons.1 hp with rfl | hp
   ·exact ⟨(hf.2 _ hm).2.1,fun e' he=>h3 _ hm e' he⟩
   ·rcases List.mem_cons.1 hp with rfl | hp
    ·exact hr0
    ·exact h.has p (List.mem_cons_of_mem _ hp)
  ·have hz:Xg tr ((ns++[e.name],(zf e.ino f.xs).es) :: (ns,r) :: S)=Xg tr ((ns,r) :: S):=by rw[hne];simp[Xg,uH]
   rw[hz]at hd hb
   exact ⟨hd,hb,hkl,hgo,by simp;omega,by simp;omega,hrm,fun p hp=>by
    rcases List.mem_cons.1 hp with rfl | hp
    ·exact hr0
    ·exact h.has p (List.mem_cons_of_mem _ hp)⟩
theorem za2 (f:FsV) (ino:Int) (ns:List (List UInt8)) (tr:Int->List (List UInt8)->j6) (ht:vj f tr) (hf:ZU f.xs) (hR:z7 f.xs) (h3:JU f) (h2:∀ x∈f.xs,x.kind≠2->x.es = []) (hl:(tr ino ns).length<=1000000) (hb:∀ p∈tr ino ns,ZF p) :
  MR Tryz.prog G0 202 [] [.row (fsC f),.row [.sc (.int .i64 ino)],.row [.sl 1 (zQ ns)]] [] ((tr ino ns).map Uc):=by
 have h40:=hf.1
 refine foI (fun i=>if i=1000000+246 then [true] else if i=1 then [false,false,false,false,false,false,false,true] else if i=10 then [false,false,false,false,true] else []) Tryz.func202 ?_;dsimp only[Tryz.f202]
 intro l sf
 push_cast -dsimp
 refine cl (jA f ino (by omega) hR) ?_;push_cast -dsimp
 cases hh:zw ino f.xs with
 | false =>
  have hn:=ht.not ino ns hh
  push_cast -dsimp
  rw[hn]
  exact .inl ⟨rfl,fun j hj=>absurd hj (Nat.not_lt_zero _)⟩
 | true =>
  have hn:=ht.has ino ns hh
  have q:ZF (ns,zf ino f.xs):=hb _ (by rw[hn];exact List.mem_cons_self)
  have h0:((tr ino ns).map Uc)[0]?=some (Uc (ns,zf ino f.xs)):=by rw[hn];rfl
  obtain ⟨hm,hino⟩:=qT hh
  generalize zf ino f.xs=x at hn h0 hm hino
  have hITl:((tr ino ns).map Uc).length<=1000000:=by rw[List.length_map];exact hl
  generalize hIT:(tr ino ns).map Uc=IT at h0 hITl
  push_cast -dsimp
  refine cl (Xe ns (by have:=q.1;dsimp only at this;omega) (by have:=q.2;dsimp only at this;omega)) ?_;push_cast -dsimp [h0]
  refine ⟨by push_cast -dsimp [zb,za,CLe,zd],fun j hj=>absurd hj (Nat.not_lt_zero _),br (fun hs=>?_) (fun hs=>?_)⟩
  ·push_cast -dsimp
   exact .inr ⟨Nat.succ_pos _,hs⟩
  ·push_cast -dsimp
   refine loop (fun p:List (List (List UInt8)×List zX)×Nat×Nat=>⟨[(0,.sc (.func (.yield l) #[] #[])),(1,.row (fsC f)),(7,.bs 1 0 2 p.1.length p.2.2)],[[.any,.any,.any,.any,.any,.any],US p.1++List.replicate ((p.2.2-p.1.length)*2) .any],0,p.2.1⟩) (fun p=>J2 f tr IT sf p.1 p.2.1 p.2.2) (fun p=>2*(IT.length-p.2.1)+p.1.length) ([(ns,x.es)],1,1) ?_ ?_ ?_
   ·have hdr:IT.drop 1=(Xg tr [(ns,x.es)]).map Uc:=by
     rw[←hIT,hn]
     simp[Xg,uH]
    show J2 f tr IT sf [(ns,x.es)] 1 1
    exact ⟨hdr,fun p hp=>hb p (by rw[hn];exact List.mem_cons_of_mem _ (by simpa [Xg,uH] using hp)),by have:=(List.getElem?_eq_some_iff.1 h0).1;omega,fun j hj=>by rw[show j=0 by omega];exact hs,Nat.le_refl _,Nat.le_refl _,by omega,fun p hp=>by
     rw[List.mem_singleton]at hp;subst hp
     exact ⟨(hf.2 x hm).2.1,fun e he=>h3 x hm e he⟩⟩
   ·have hl1:US [(ns,x.es)] = [.sl 1 (zQ ns),.sl 2 (qe x.es)]:=rfl
    exact wk (h5:=by push_cast -dsimp [zb,za,CLe,zd,hl1])
   ·rintro ⟨S,k,cap⟩ hS
    dsimp only at hS ⊢
    cases S with
    | nil =>
     push_cast -dsimp
     have hr:=hS.rest
     have he:IT.length<=k:=by
      rcases Nat.lt_or_ge k IT.length with g | g
      ·have:=congrArg List.length hr
       simp[Xg]at this;omega
      ·exact g
     exact .inl ⟨by have:=hS.le;omega,hS.go⟩
    | cons p S' =>
     obtain ⟨ns1,es1⟩:=p
     have hL:=zmt S'
     have hd0:∀ X,(US S'++X).drop (S'.length*2)=X:=fun X=>List.drop_left' hL
     have hd1:∀ X,(US S'++X).drop (S'.length*2+1)=X.drop 1:=fun X=>by rw[←List.drop_drop,hd0]
     have hd2:∀ X,(US S'++X).drop (S'.length*2+2)=X.drop 2:=fun X=>by rw[←List.drop_drop,hd0]
     have ht0:∀ X,(US S'++X).take (S'.length*2)=US S':=fun X=>List.take_left' hL
     have ht1:∀ X,(US S'++X).take (S'.length*2+1)=US S'++X.take 1:=fun X=>by
      rw[List.take_append,List.take_of_length_le (by omega),hL];congr 2;omega
     have hpos:((0:Int)<(S'.length:Int)+1)=True:=eq_true (by omega)
     have hroom:=hS.room
     have hroomM:=hS.roomM
     rw[List.length_cons]at hroom
     have hlc:(((S'.length:Int)+1-1)=(S'.length:Int)):=by omega
     push_cast -dsimp [vc,hlc,hpos]
     repeat refine an ?_
     generalize hpad:List.replicate ((cap-(S'.length+1))*2) C.any=pad
     have hps:(pad.all C.stayB)=true:=by rw[←hpad];simp[List.all_replicate,C.stayB]
     have hst1:((US S'++(lvC (ns1,es1)++pad)).all C.stayB)=true:=by rw[List.all_append,QJ,List.all_append,hps];rfl
     have hpl:pad.length=(cap-(S'.length+1))*2:=by rw[←hpad];simp
     refine loop (fun p:List zX×Nat=>⟨[(0,.sc (.func (.yield l) #[] #[])),(1,.row (fsC f)),(7,.bs 1 0 2 (S'.length+1) cap),(8,.ptr 1 (S'.length*2))],[[.any,.any,.any,.any,.any,.any],US S'++([.sl 1 (zQ ns1),.sl 2 (qe p.1)]++pad)],0,p.2⟩) (fun p=>J2 f tr IT sf ((ns1,p.1) :: S') p.2 cap/\2*(IT.length-p.2)<=2*(IT.length-k)) (fun p=>p.1.length) (es1,k) ⟨hS,Nat.le_refl _⟩ ?_ ?_
     ·exact Jc.mk [] rfl rfl (Nat.zero_le _) rfl (by push_cast -dsimp [zb,za,CLe,zd]) (by push_cast -dsimp [zb,za,CLe,zd,List.append_assoc];exact zN hst1)
     ·rintro ⟨es,k1⟩ ⟨hT,hkk⟩
      dsimp only at hT hkk ⊢
      cases es with
      | nil =>
       push_cast -dsimp [hd0,hd1,hd2,ht0,ht1,hlc]
       refine ⟨by omega,by omega,⟨by omega,by omega⟩,(S',k1,cap),hT.pop,by dsimp only;omega,Jc.mk [] rfl rfl (Nat.zero_le _) rfl (by push_cast -dsimp [zb,za,CLe,zd]) ?_⟩
       push_cast -dsimp [zb,za,CLe,zd]
       exact zdR (zN (QJ S')) (Qg (by simp[hpl];omega))
      | cons e r =>
       obtain ⟨y,hy,hym,hk1,hbd,hnext⟩:=hT.next ht hf h3
       have hrl:((0:Int)<(r.length:Int)+1)=True:=eq_true (by omega)
       have hlr:(qe r).length=r.length:=List.length_map ..
       have hhe:zw e.ino f.xs=true:=(hT.has (ns1,e :: r) List.mem_cons_self).2 e List.mem_cons_self
       have hgy:zf e.ino f.xs=y:=hy.symm
       have hb1:ns1.length+1<=1000000:=by have:=hbd.1;simpa using this
       have hb2:(Lib.join (ns1++[e.name]) [47]).length<=1000000:=hbd.2
       have hst2:(zQ ns1).length=ns1.length:=List.length_map ..
       push_cast -dsimp [hd0,hd1,hd2,ht0,ht1,hlc,hlr,hrl,hst2,List.append_assoc,List.take_length]
       repeat refine an ?_
       refine cl (jA f e.ino (by omega) hR) ?_;push_cast -dsimp [hgy,hhe]
       refine cl (Xe (ns1++[e.name]) (by simp;omega) (by omega)) ?_;push_cast -dsimp [hk1]
       refine ⟨by push_cast -dsimp [zb,za,CLe,zd],hT.go,br (fun hs1=>?_) (fun hs1=>?_)⟩
       ·push_cast -dsimp
        exact .inr ⟨Nat.succ_pos _,hs1⟩
       ·obtain ⟨w1,w2⟩:=hnext hs1
        by_cases k2:y.kind=2
        ·have hSk:=hT.pos
         have hkl:=hT.le
         rw[List.length_cons]at hSk
         have hc1:(US S'++C.sl 1 (zQ ns1) :: C.sl 2 (List.map zjg r) :: pad).length=cap*2:=by
          rw[List.length_append,hL,List.length_cons,List.length_cons,hpl];omega
         have hc2:(US S'++C.sl 1 (zQ ns1) :: C.sl 2 (List.map zjg r) :: pad).take ((S'.length+1)*2)=US S'++[C.sl 1 (zQ ns1),C.sl 2 (List.map zjg r)]:=by
          rw[List.take_append,List.take_of_length_le (by omega),hL,show (S'.length+1)*2-S'.length*2=2 by omega];rfl
         push_cast -dsimp [k2]
         refine zqx (US S'++[C.sl 1 (zQ ns1),C.sl 2 (List.map zjg r)]++[C.sl 1 (zQ (ns1++[e.name])),C.sl 2 (qe y.es)]) rfl rfl (by decide) rfl (by decide) (Nat.zero_le _) hc1 hroom hroomM (by omega) (by omega) (by rw[hc2];exact zD (by rw[List.all_append,List.all_append,QJ];rfl)) (fun c' g1 g2=>?_)
         have hw:=w1 c' (by omega) g2
         have hwl:=hw.le
         push_cast -dsimp [k2]
         refine ⟨((ns1++[e.name],y.es) :: (ns1,r) :: S',k1+1,c'),hw,by simp only[List.length_cons];omega,Jc.mk [] rfl rfl (Nat.zero_le _) rfl (by push_cast -dsimp [zb,za,CLe,zd]) ?_⟩
         push_cast -dsimp [zb,za,CLe,zd,vc,List.append_assoc]
         exact zN (by rw[List.all_append,QJ];simp[List.all_replicate,C.stayB])
        ·push_cast -dsimp [k2]
         have hz:=w2 (h2 y hym k2)
         have hle:=hz.le
         refine ⟨(r,k1+1),⟨hz,by dsimp only;omega⟩,by dsimp only;simp,Jc.mk [] rfl rfl (Nat.zero_le _) rfl (by push_cast -dsimp [zb,za,CLe,zd]) ?_⟩
         push_cast -dsimp [zb,za,CLe,zd,List.append_assoc]
         exact zN (by rw[List.all_append,QJ,List.all_cons,List.all_cons,hps];rfl)
end
section
open CA CB
open Go.RowKit
structure zb8 (f:FsV) (tr:Int->List (List UInt8)->j6):Prop where
 tree:vj f tr
 few:ZU f.xs
 rise:z7 f.xs
 third:JU f
 leaf:∀ x∈f.xs,x.kind≠2->x.es = []
structure xE (tr:Int->List (List UInt8)->j6) (ino:Int) (ns:List (List UInt8)):Prop where
 len:(tr ino ns).length<=1000000
 bound:∀ p∈tr ino ns,ZF p
abbrev ze6 (l:j6):List (List C):=l.map Uc
theorem zhg {l:j6} {k:Nat} {it:List C} (h:(ze6 l)[k]?=some it):∃ p,l[k]?=some p/\it=Uc p:=by
 rw[List.getElem?_map]at h
 cases hq:l[k]? with
 | none=>rw[hq]at h;cases h
 | some x=>rw[hq]at h;cases h;exact ⟨x,rfl,rfl⟩
theorem zlz {f:FsV} {tr:Int->List (List UInt8)->j6} {ino:Int} {ns:List (List UInt8)} (hw:zb8 f tr) (hs:xE tr ino ns):MR Tryz.prog G0 202 [] [.row (fsC f),.row [.sc (.int .i64 ino)],.row [.sl 1 (zQ ns)]] [] (ze6 (tr ino ns)):=
 za2 f ino ns tr hw.tree hw.few hw.rise hw.third hw.leaf hs.len hs.bound
theorem zja (f:FsV) (ino:Int) (ns:List (List UInt8)):Fun Tryz.prog G0 162 [.agg (fsC f),.sc (.int .i64 ino),.sl 1 (zQ ns)] (.clo (.func 202) [] [.row (fsC f),.row [.sc (.int .i64 ino)],.row [.sl 1 (zQ ns)]]) 0:=by
 refine fon Tryz.func162 ?_;dsimp only[Tryz.f162]
 push_cast -dsimp
 exact dn
theorem zlr (f:FsV):Fun Tryz.prog G0 124 [.agg (fsC f)] (.clo (.func 202) [] [.row (fsC f),.row [.sc (.int .i64 1)],.row [.sl 1 (zQ [])]]) 0:=by
 refine fon Tryz.func124 ?_;dsimp only[Tryz.f124]
 push_cast -dsimp
 refine call (Fun.less (zja f 1 []) (by push_cast -dsimp [zb,za,CLe,zd])) ?_
 push_cast -dsimp
 exact dn
def X8 (n:Int) (l:j6):List (List UInt8):=(l.filter fun p=>decide (p.2.ino=n)).map fun p=>zW p.1
def VO (n:Int) (l:j6):Option (List UInt8):=(l.find? fun p=>decide (p.2.ino=n)&&decide (p.2.kind=2)).map fun p=>zW p.1
theorem xM (f:FsV) (n:Int) (tr:Int->List (List UInt8)->j6) (hw:zb8 f tr) (hs:xE tr 1 []) :
  Fun Tryz.prog G0 68 [.agg (fsC f),.sc (.int .i64 n)] (.tup [.str ((VO n (tr 1 [])).getD []),.sc (.bool (VO n (tr 1 [])).isSome)]) 0:=by
 refine fon Tryz.func68 ?_;dsimp only[Tryz.f68]
 push_cast -dsimp
 refine cl (zlr f) ?_;push_cast -dsimp
 have hl:=hs.len
 have hit:=zlz hw hs
 generalize tr 1 []=l at hit hl
 refine range (ze6 l) (fun k=>match l[k]? with | some p=>decide (p.2.ino=n)&&decide (p.2.kind=2) | none=>false) 4 (fun k=>⟨[],[[.any,.any,.any,.any],[.sc (.int .i64 n)],[.any],[.any]],0,0⟩) hit (by push_cast -dsimp) (by push_cast -dsimp) (by push_cast -dsimp) (Nat.zero_le _) (by push_cast -dsimp) (fun it h=>?_) (fun k _=>rfl) ?_ (fun k it hk hsf=>?_) (fun hsf=>?_)
 ·obtain ⟨x,_,rfl⟩:=List.mem_map.1 h;rfl
 ·exact wk
 ·obtain ⟨x,hx2,rfl⟩:=zhg hk
  have hfirst:(decide (x.2.ino=n)&&decide (x.2.kind=2))=true->VO n l=some (zW x.1):=fun hb=>by
   obtain ⟨hkl,hxe⟩:=List.getElem?_eq_some_iff.1 hx2
   unfold VO
   rw[List.find?_eq_some_iff_getElem (b:=x) |>.2 ⟨hb,k,hkl,hxe,fun j hj=>?_⟩]
   ·rfl
   ·have:=hsf j hj
    rw[List.getElem?_eq_getElem (by omega)]at this
    simp only[this];rfl
  by_cases c1:x.2.ino=n
  ·by_cases c2:x.2.kind=2
   ·have hd:=hfirst (by simp[c1,c2])
    push_cast -dsimp [c1,c2]
    refine ⟨by rw[hx2];simp[c1,c2],⟨[],[[.any,.any,.any,.any],[.sc (.int .i64 n)],[.str (zW x.1)],[.sc (.bool true)]],0,0⟩,rfl,wk,?_⟩
    push_cast -dsimp [hd]
    exact dn (by push_cast -dsimp [zb,za,CLe,zd,hd,Option.getD_some,Option.isSome_some])
   ·push_cast -dsimp [c1,c2]
    refine ⟨by rw[hx2];simp[c2],wk⟩
  ·push_cast -dsimp [c1]
   refine ⟨by rw[hx2];simp[c1],wk⟩
 ·have hnone:VO n l=none:=by
   unfold VO
   rw[Option.map_eq_none_iff,List.find?_eq_none]
   intro x hx
   obtain ⟨k,hk,rfl⟩:=List.getElem_of_mem hx
   have:=hsf k (by simpa using hk)
   rw[List.getElem?_eq_getElem hk]at this
   simpa only[Bool.not_eq_true] using this
  push_cast -dsimp [hnone]
  exact dn (by push_cast -dsimp [zb,za,CLe,zd,Option.getD_none,Option.isSome_none])
end
section
inductive Dep (xs:List zm):Nat->Int->Prop
 | root:Dep xs 0 1
 | step {k:Nat} {n:Int} {e:zX}:Dep xs k n->zw n xs=true->e∈(zf n xs).es->Dep xs (k+1) e.ino
theorem qt {f:FsV} (h:okV f):ZU f.xs/\jX f/\J8 f/\JU f/\Yb f/\XY f/\UU f:=by
 obtain ⟨h0,h⟩:=h
 unfold j7 at h
 refine ⟨h0,?_⟩
 split at h
 ·split at h
  ·split at h
   ·split at h
    ·split at h
     ·split at h
      ·exact ⟨by assumption,by assumption,by assumption,by assumption,by assumption,by assumption⟩
      ·cases h
     ·cases h
    ·cases h
   ·cases h
  ·cases h
 ·cases h
theorem Gl {es:List zX}:∀ {S:List Int} {n:Int},n∈UK S es↔n∈S∨∃ e∈es,e.ino=n:=by
 induction es with
 | nil=>intro S n;simp[UK]
 | cons e r ih =>
  intro S n
  show n∈UK (JS S e.ino) r↔_
  rw[ih,kL]
  constructor
  ·rintro ((h | h) | ⟨e',he,h⟩)
   ·exact .inl h
   ·exact .inr ⟨e,List.mem_cons_self,h.symm⟩
   ·exact .inr ⟨e',List.mem_cons_of_mem _ he,h⟩
  ·rintro (h | ⟨e',he,h⟩)
   ·exact .inl (.inl h)
   ·rcases List.mem_cons.1 he with rfl | he
    ·exact .inl (.inr h.symm)
    ·exact .inr ⟨e',he,h⟩
theorem Nf {xs:List zm} {es:List zX}:∀ {S:List Int},J0 xs S->(∀ e∈es,zw e.ino xs=true)->J0 xs (UK S es):=by
 induction es with
 | nil=>intro S h _;exact h
 | cons e r ih=>intro S h he;exact ih (h.one (he e List.mem_cons_self)) fun e' h'=>he e' (List.mem_cons_of_mem _ h')
theorem Gc {xs:List zm} (h3:∀ x∈xs,∀ e∈x.es,zw e.ino xs=true):∀ (m i:Nat) (S:List Int),J0 xs S->(∀ n∈S,∃ k,Dep xs k n)->J0 xs (Qk xs m i S)/\∀ n∈Qk xs m i S,∃ k,Dep xs k n
 | 0,i,S,h,hd=>by unfold Qk;exact ⟨h,hd⟩
 | m+1,i,S,h,hd=>by
  unfold Qk
  split
  ·rename_i n hn
   have hmem:=List.mem_of_getElem? hn
   have hh:=h.has n hmem
   obtain ⟨hm,_⟩:=qT hh
   obtain ⟨k,hk⟩:=hd n hmem
   refine Gc h3 m (i+1) _ (Nf h fun e he=>h3 _ hm e he) fun n' hn'=>?_
   rcases Gl.1 hn' with h' | ⟨e,he,rfl⟩
   ·exact hd n' h'
   ·exact ⟨k+1,.step hk hh he⟩
  ·exact ⟨h,hd⟩
theorem zdQ {S T:List Int} (hS:S.Nodup) (hs:∀ n∈S,n∈T) (hl:T.length<=S.length):∀ n∈T,n∈S:=by
 intro n hn
 by_cases h:n∈S
 ·exact h
 ·exfalso
  have:=Vs (S:=n :: S) (T:=T) (List.nodup_cons.2 ⟨h,hS⟩) fun m hm=>by
   rcases List.mem_cons.1 hm with rfl | hm
   ·exact hn
   ·exact hs m hm
  rw[List.length_cons]at this;omega
theorem Hq {f:FsV} (h:okV f) {n:Int} (hn:zw n f.xs=true):∃ k,Dep f.xs k n:=by
 obtain ⟨_,h1,_,h3,_,h5,_⟩:=qt h
 have hroot:J0 f.xs [1]:=⟨by simp,fun n hn=>by simp at hn;subst hn;exact h1.2.2.2.2.2.2.2.1⟩
 obtain ⟨g1,g2⟩:=Gc h3 (f.xs.length+1) 0 [1] hroot fun n hn=>by simp at hn;subst hn;exact ⟨0,.root⟩
 have hS:=zdQ (T:=f.xs.map (·.ino)) g1.nodup (fun m hm=>Hu.1 (g1.has m hm)) (by rw[List.length_map];exact Nat.le_of_eq h5.symm) n (Hu.1 hn)
 exact g2 n hS
theorem QC {xs:List zm} {n:Int} {e:zX} (hh:zw n xs=true) (he:e∈(zf n xs).es):(e.ino,n)∈zZ xs:=by
 obtain ⟨hm,hi⟩:=qT hh
 unfold zZ
 exact List.mem_flatMap.2 ⟨_,hm,List.mem_map.2 ⟨e,he,by rw[hi]⟩⟩
theorem zlC {n p:Int} {l:List (Int×Int)} (h:(n,p)∈l):1<=Qm n l:=by
 unfold Qm
 exact List.length_pos_iff.2 (List.ne_nil_of_mem (List.mem_filter.2 ⟨h,by simp⟩))
theorem xP {n p q:Int} {l:List (Int×Int)} (hp:(n,p)∈l) (hq:(n,q)∈l) (h:Qm n l=1):p=q:=by
 unfold Qm at h
 obtain ⟨x,hx⟩:=List.length_eq_one_iff.1 h
 have h1:(n,p)∈l.filter fun p=>p.1==n:=List.mem_filter.2 ⟨hp,by simp⟩
 have h2:(n,q)∈l.filter fun p=>p.1==n:=List.mem_filter.2 ⟨hq,by simp⟩
 rw[hx]at h1 h2
 simp only[List.mem_singleton]at h1 h2
 exact congrArg Prod.snd (h1.trans h2.symm)
theorem UH {f:FsV} (h:okV f) {n:Int} (hh:zw n f.xs=true) {e:zX} (he:e∈(zf n f.xs).es):(zf n f.xs).kind=2:=by
 obtain ⟨_,_,h2,_⟩:=qt h
 obtain ⟨hm,_⟩:=qT hh
 by_cases hk:(zf n f.xs).kind=2
 ·exact hk
 ·have:=((h2 _ hm).2.1 hk).1
  rw[this]at he;cases he
theorem jE {f:FsV} (h:okV f) {n:Int} (hh:zw n f.xs=true) {e:zX} (he:e∈(zf n f.xs).es):e.ino≠1:=fun h1=>by
 obtain ⟨_,hf,_,_,h4,_⟩:=qt h
 obtain ⟨hm,hi⟩:=qT hf.2.2.2.2.2.2.2.1
 have hq:=(h4 _ hm).2
 rw[if_pos hi,hi]at hq
 have:=zlC (QC hh he)
 rw[h1]at this;omega
theorem Zp {f:FsV} (h:okV f):∀ (k k':Nat) (n:Int),Dep f.xs k n->Dep f.xs k' n->zw n f.xs=true->(zf n f.xs).kind=2->k=k'
 | 0,0,_,_,_,_,_=>rfl
 | 0,k'+1,_,h1,h2,hh,hk=>by
  cases h1
  generalize hn:(1:Int)=n at h2
  cases h2 with
  | step a b c=>exact absurd hn.symm (jE h b c)
 | k+1,0,_,h1,h2,hh,hk=>by
  cases h2
  generalize hn:(1:Int)=n at h1
  cases h1 with
  | step a b c=>exact absurd hn.symm (jE h b c)
 | k+1,k'+1,n,h1,h2,hh,hk=>by
  obtain ⟨_,hf,_,_,h4,_⟩:=qt h
  cases h1 with
  | @step _ p e a b c =>
   generalize hn:e.ino=n at h2 hh hk
   cases h2 with
   | @step _ p' e' a' b' c' =>
    have hp:=QC b c
    have hp':=QC b' c'
    rw[hn]at hp
    obtain ⟨hm,hi⟩:=qT hh
    have hq:=(h4 _ hm).2
    rw[hi]at hq
    have hne:e'.ino≠1:=jE h b' c'
    rw[if_neg hne]at hq
    have:=xP hp hp' (hq.2 hk).1
    subst this
    rw[Zp h k k' p a a' b (UH h b c)]
end
section
theorem Xm (n:Int):∀ xs:List zm,Qm n (zZ xs)=Vm n xs
 | []=>rfl
 | x :: r=>by
  have ih:=Xm n r
  unfold Vm JO at ih ⊢
  unfold zZ at ih ⊢
  rw[List.flatMap_cons,List.map_cons,List.sum_cons,←ih]
  unfold Qm kz
  rw[List.filter_append,List.length_append]
  congr 1
  induction x.es with
  | nil=>rfl
  | cons e es ie =>
   unfold ZD at ie ⊢
   rw[List.map_cons,List.filter_cons,List.filter_cons]
   by_cases h:e.ino=n
   ·simp only[h,beq_self_eq_true,if_true,decide_true,List.length_cons,ie]
   ·simp only[show (e.ino==n)=false from beq_eq_false_iff_ne.2 h,decide_eq_false h,Bool.false_eq_true,if_false,ie]
theorem ZW {f:FsV} (h:j7 f=0):jX f/\J8 f/\JU f/\Yb f/\XY f/\UU f:=by
 unfold j7 at h
 split at h
 ·split at h
  ·split at h
   ·split at h
    ·split at h
     ·split at h
      ·exact ⟨by assumption,by assumption,by assumption,by assumption,by assumption,by assumption⟩
      ·cases h
     ·cases h
    ·cases h
   ·cases h
  ·cases h
 ·cases h
theorem Ma {es:List zX} (h:Yv es):Xv es:=by
 have hadj:∀ i (h1:i+1<es.length),Op.bytesLess es[i].name es[i+1].name=true:=fun i h1=>(h (i+1) h1).2.2 (by omega)
 have key:∀ (d i:Nat) (h1:i+d+1<es.length),Op.bytesLess (es[i]'(by omega)).name es[i+d+1].name=true:=by
  intro d
  induction d with
  | zero=>intro i h1;exact hadj i h1
  | succ d ih=>intro i h1;exact Hh (ih i (by omega)) (hadj (i+d+1) (by omega))
 refine List.pairwise_iff_getElem.2 fun i j hi hj hij=>?_
 have:=key (j-i-1) i (by omega)
 have e:i+(j-i-1)+1=j:=by omega
 simp only[e]at this
 exact this
theorem Xo {f:FsV} (h:j7 f=0):FsI f:=by
 obtain ⟨h1,h2,h3,h4,h5,h6⟩:=ZW h
 obtain ⟨a1,a2,a3,a4,a5,a6,a7,a8,a9⟩:=h1
 refine ⟨a7,a6,fun x hx=>(h2 x hx).1,fun x hx=>?_,fun x hx hk=>((h2 x hx).2.1 hk).1,h3,fun x hx=>?_,a8,a9,?_⟩
 ·by_cases hk:x.kind=2
  ·exact Ma ((h2 x hx).2.2.1 hk).2
  ·rw[((h2 x hx).2.1 hk).1];exact List.Pairwise.nil
 ·rw[(h4 x hx).1,Xm]
 ·obtain ⟨b1,b2⟩:=qT a8
  have q:=(h4 _ b1).2
  rw[b2,if_pos rfl,Xm]at q
  exact q.1
theorem zm0 {w:qA} (h:okW w):xw w:=by
 obtain ⟨h1,h2,h3,h4,h5⟩:=h.2
 exact ⟨Xo h1,h4.1,h2,fun x hx=>⟨(h3 x hx).1,(h3 x hx).2.2.1⟩⟩
theorem za7 {w:qA} (h:okW w):zrh 40 w:=by
 obtain ⟨⟨g1,g2,g3,g4⟩,h1,_⟩:=h
 obtain ⟨a1,a2,a3,a4,a5,_⟩:=(ZW h1).1
 exact ⟨g2.1,fun x hx=>by obtain ⟨q1,q2,q3⟩:=g2.2 x hx;exact ⟨q2,q1,q3⟩,g4,g1,g3.1,fun x hx=>by obtain ⟨q1,q2,q3⟩:=g3.2 x hx;exact ⟨q2,q1,q3⟩,by omega,by omega⟩
structure OpS (o:OpV):Prop where
 a:o.a.length<=1000
 b:o.b.length<=1000
 d:o.d.length<=5000
structure zrj (N:Nat) (d:zK):Prop where
 wi:xw d.w
 wb:zrh (40+N) d.w
 ops:d.ops.length<=N
 diags:d.diags.length<=N
 slot:0<=d.slot/\d.slot<=1073741824+N
theorem Md {d:zK} {o:OpV} (h:(Ze d o).2≠0):(Ze d o).1=d:=by
 unfold Ze at h ⊢
 split
 ·rfl
 ·split
  ·rfl
  ·rename_i h1 h2;rw[if_neg h1,if_neg h2]at h;exact absurd rfl h
end
section
theorem GC {f:FsV} (h:okV f):∀ (k:Nat) (n:Int),Dep f.xs k n->zw n f.xs=true->(zf n f.xs).kind=2->∃ L:List Int,L.length=k+1/\L.Nodup/\(∀ m∈L,zw m f.xs=true)/\∀ m∈L,(zf m f.xs).kind=2/\∃ j,j<=k/\Dep f.xs j m
 | 0,n,hd,hh,hk=>⟨[n],rfl,by simp,fun m hm=>by simp at hm;subst hm;exact hh,fun m hm=>by simp at hm;subst hm;exact ⟨hk,0,Nat.le_refl _,hd⟩⟩
 | k+1,_,hd,hh,hk=>by
  generalize hn:k+1=k1 at hd
  cases hd with
  | root=>cases hn
  | @step k0 p e a b c =>
   obtain rfl:k=k0:=by omega
   obtain ⟨L,l1,l2,l3,l4⟩:=GC h k p a b (UH h b c)
   refine ⟨e.ino :: L,by simp[l1],List.nodup_cons.2 ⟨fun hm=>?_,l2⟩,fun m hm=>?_,fun m hm=>?_⟩
   ·obtain ⟨_,j,hj,hd⟩:=l4 _ hm
    have:=Zp h _ _ _ hd (.step a b c) hh hk
    omega
   ·rcases List.mem_cons.1 hm with rfl | hm
    ·exact hh
    ·exact l3 m hm
   ·rcases List.mem_cons.1 hm with rfl | hm
    ·exact ⟨hk,k+1,Nat.le_refl _,.step a b c⟩
    ·obtain ⟨q1,j,q2,q3⟩:=l4 m hm
     exact ⟨q1,j,by omega,q3⟩
theorem vw {f:FsV} (h:okV f) {k:Nat} {n:Int} (hd:Dep f.xs k n) (hh:zw n f.xs=true) (hk:(zf n f.xs).kind=2):k<f.xs.length:=by
 obtain ⟨L,l1,l2,l3,_⟩:=GC h k n hd hh hk
 have:=Qx l2 l3
 omega
def qH (xs:List zm):Nat->Int->List (List UInt8)->j6
 | 0,_,_=>[]
 | m+1,n,ns=>if zw n xs then (ns,zf n xs) :: (zf n xs).es.flatMap (fun e=>qH xs m e.ino (ns++[e.name])) else []
theorem XZ {α β:Type} {l:List α} {g g':α->List β} (h:∀ a∈l,g a=g' a):l.flatMap g=l.flatMap g':=by
 induction l with
 | nil=>rfl
 | cons a r ih=>rw[List.flatMap_cons,List.flatMap_cons,h a List.mem_cons_self,ih fun b hb=>h b (List.mem_cons_of_mem _ hb)]
theorem N7 {f:FsV} (h:okV f):∀ (m m' k:Nat) (n:Int) (ns:List (List UInt8)),Dep f.xs k n->k<=f.xs.length->f.xs.length+1<=m+k->f.xs.length+1<=m'+k->qH f.xs m n ns=qH f.xs m' n ns
 | 0,m',k,n,ns,hd,hk,h1,h2=>by omega
 | m+1,0,k,n,ns,hd,hk,h1,h2=>by omega
 | m+1,m'+1,k,n,ns,hd,hk,h1,h2=>by
  unfold qH
  split
  ·rename_i hh
   congr 1
   refine XZ fun e he=>?_
   have hdir:=UH h hh he
   have hlt:=vw h hd hh hdir
   exact N7 h m m' (k+1) e.ino _ (.step hd hh he) (by omega) (by omega) (by omega)
  ·rfl
abbrev trV (xs:List zm):Int->List (List UInt8)->j6:=qH xs (xs.length+1)
theorem zjN {f:FsV} (h:okV f) {n:Int} (hh:zw n f.xs=true):∃ k,k<=f.xs.length/\Dep f.xs k n:=by
 obtain ⟨k,hd⟩:=Hq h hh
 refine ⟨k,?_,hd⟩
 cases hd with
 | root=>exact Nat.zero_le _
 | step a b c=>exact vw h a b (UH h b c)
theorem zke {f:FsV} (h:okV f):vj f (trV f.xs):=⟨fun n ns hh=>by
 obtain ⟨k,hk,hd⟩:=zjN h hh
 show qH f.xs (f.xs.length+1) n ns=_
 rw[qH,if_pos hh]
 congr 1
 refine XZ fun e he=>?_
 have hlt:=vw h hd hh (UH h hh he)
 exact N7 h _ _ (k+1) e.ino _ (.step hd hh he) (by omega) (by omega) (by omega),fun n ns hh=>by
 show qH f.xs (f.xs.length+1) n ns=_
 rw[qH,if_neg (by rw[hh];decide)]⟩
theorem zkV {f:FsV} (h:okV f):zb8 f (trV f.xs):=by
 obtain ⟨p0,p1,p2,p3,_⟩:=qt h
 exact ⟨zke h,p0,p1.2.2.2.2.2.2.1,p3,fun x hx hk=>((p2 x hx).2.1 hk).1⟩
end
section
theorem ZH (ns:List (List UInt8)) (x:List UInt8) (hne:∀ y∈ns,y≠[]):zW (ns++[x])=Qy (zW ns) x:=by
 have hj:=NS (ns++[x]) ns.length x (by simp)
 rw[List.take_of_length_le (by simp),List.take_left' rfl]at hj
 unfold zW
 rw[if_neg (by simp),hj]
 by_cases h:ns = []
 ·subst h;rfl
 ·have hl:ns.length≠0:=fun h0=>h (List.eq_nil_of_length_eq_zero h0)
  rw[if_neg hl,if_neg h]
  have hne47:(47 :: Lib.join ns [47])≠[47]:=fun he=>by
   have h1:Lib.join ns [47] = []:=(List.cons.inj he).2
   have h2:=YT ns h
   rw[h1]at h2
   cases ns with
   | nil=>exact h rfl
   | cons y r =>
    have:=List.length_pos_iff.2 (hne y List.mem_cons_self)
    simp at h2;omega
  unfold Qy
  rw[if_neg hne47]
  simp
end
section
inductive Anc (xs:List zm) (n:Int):Nat->Int->Prop
 | same:Anc xs n 0 n
 | step {j:Nat} {p:Int} {e:zX}:Anc xs n j p->zw p xs=true->e∈(zf p xs).es->Anc xs n (j+1) e.ino
theorem Anc.dep {xs:List zm} {n:Int} {k:Nat} (hd:Dep xs k n):∀ {j:Nat} {d:Int},Anc xs n j d->Dep xs (k+j) d
 | _,_,.same=>hd
 | _,_,.step a b c=>.step (a.dep hd) b c
theorem Anc.up {xs:List zm} {n:Int} {e:zX} (hh:zw n xs=true) (he:e∈(zf n xs).es):∀ {j:Nat} {d:Int},Anc xs e.ino j d->Anc xs n (j+1) d
 | _,_,.same=>.step .same hh he
 | _,_,.step a b c=>.step (a.up hh he) b c
theorem YI {xs:List zm}:∀ (m:Nat) (n:Int) (ns:List (List UInt8)),∀ p∈qH xs m n ns,∃ j,Anc xs n j p.2.ino/\zw p.2.ino xs=true/\zf p.2.ino xs=p.2
 | 0,n,ns,p,hp=>by cases hp
 | m+1,n,ns,p,hp=>by
  unfold qH at hp
  split at hp
  ·rename_i hh
   obtain ⟨_,hi⟩:=qT hh
   rcases List.mem_cons.1 hp with rfl | hp
   ·exact ⟨0,by rw[hi];exact .same,by rw[hi];exact hh,by rw[hi]⟩
   ·obtain ⟨e,he,hp⟩:=List.mem_flatMap.1 hp
    obtain ⟨j,q1,q2⟩:=YI m _ _ p hp
    exact ⟨j+1,q1.up hh he,q2⟩
  ·cases hp
theorem vO {f:FsV} (h:okV f) {a b:Int}:∀ (j:Nat) (d:Int),Anc f.xs a j d->Anc f.xs b j d->zw d f.xs=true->(zf d f.xs).kind=2->a=b/\zw a f.xs=true/\(zf a f.xs).kind=2
 | 0,d,h1,h2,hh,hk=>by
  cases h1;cases h2
  exact ⟨rfl,hh,hk⟩
 | j+1,d,h1,h2,hh,hk=>by
  obtain ⟨_,_,_,_,h4,_⟩:=qt h
  cases h1 with
  | @step _ p e x y z =>
   generalize hn:e.ino=d at h2 hh hk
   cases h2 with
   | @step _ p' e' x' y' z' =>
    have hp:=QC y z
    have hp':=QC y' z'
    rw[hn]at hp
    obtain ⟨hm,hi⟩:=qT hh
    have hq:=(h4 _ hm).2
    rw[hi,if_neg (jE h y' z')]at hq
    have:=xP hp hp' (hq.2 hk).1
    subst this
    exact vO h j p x x' y (UH h y z)
theorem zkZ {xs:List zm} {n:Int} {e e':zX} (hh:zw n xs=true) (hs:[e,e'].Sublist (zf n xs).es) (hi:e.ino=e'.ino):2<=Qm e.ino (zZ xs):=by
 obtain ⟨hm,hino⟩:=qT hh
 have h1:([e,e'].map fun e=>(e.ino,(zf n xs).ino)).Sublist (ZD (zf n xs) (zf n xs).es):=hs.map _
 obtain ⟨i,hi',hx⟩:=List.getElem_of_mem hm
 have h2:(ZD (zf n xs) (zf n xs).es).Sublist (zZ xs):=by
  obtain ⟨s,t,hst⟩:=List.append_of_mem hm
  unfold zZ
  conv=>rhs;rw[hst]
  rw[List.flatMap_append,List.flatMap_cons]
  exact (List.sublist_append_left _ _).trans (List.sublist_append_right _ _)
 have h3:=((h1.trans h2).filter fun p=>p.1==e.ino).length_le
 unfold Qm
 simpa [hi] using h3
abbrev Ye (l:j6):List Int:=(l.filter fun p=>decide (p.2.kind=2)).map fun p=>p.2.ino
theorem Vn {l:j6} {d:Int} (h:d∈Ye l):∃ p∈l,p.2.kind=2/\p.2.ino=d:=by
 obtain ⟨p,hp,rfl⟩:=List.mem_map.1 h
 obtain ⟨h1,h2⟩:=List.mem_filter.1 hp
 exact ⟨p,h1,of_decide_eq_true h2,rfl⟩
theorem Yo {f:FsV} (h:okV f):∀ (m:Nat) (n:Int) (ns:List (List UInt8)),zw n f.xs=true->(Ye (qH f.xs m n ns)).Nodup
 | 0,n,ns,_=>List.nodup_nil
 | m+1,n,ns,hh=>by
  obtain ⟨k,hd⟩:=Hq h hh
  obtain ⟨_,_,_,h3,h4,_⟩:=qt h
  obtain ⟨hm,hi⟩:=qT hh
  have key:∀ L:List zX,L.Sublist (zf n f.xs).es->(Ye (L.flatMap fun e=>qH f.xs m e.ino (ns++[e.name]))).Nodup:=by
   intro L
   induction L with
   | nil=>intro _;exact List.nodup_nil
   | cons e r ih =>
    intro hs
    have he:e∈(zf n f.xs).es:=hs.subset List.mem_cons_self
    have hr:r.Sublist (zf n f.xs).es:=(List.sublist_cons_self e r).trans hs
    have hap:Ye ((e :: r).flatMap fun e=>qH f.xs m e.ino (ns++[e.name]))=Ye (qH f.xs m e.ino (ns++[e.name]))++Ye (r.flatMap fun e=>qH f.xs m e.ino (ns++[e.name])):=by
     rw[List.flatMap_cons];unfold Ye;rw[List.filter_append,List.map_append]
    rw[hap,List.nodup_append]
    refine ⟨Yo h m e.ino _ (h3 _ hm e he),ih hr,fun d hd1 d' hd2 hdd=>?_⟩
    subst hdd
    obtain ⟨p,p1,p2,rfl⟩:=Vn hd1
    obtain ⟨p',p1',p2',p3'⟩:=Vn hd2
    obtain ⟨e',he',p1'⟩:=List.mem_flatMap.1 p1'
    obtain ⟨j,a1,a2,a3⟩:=YI m _ _ p p1
    obtain ⟨j',b1,b2,b3⟩:=YI m _ _ p' p1'
    rw[p3']at b1
    have hk:(zf p.2.ino f.xs).kind=2:=by rw[a3];exact p2
    have hdep:=Zp h _ _ _ (a1.dep (.step hd hh he)) (b1.dep (.step hd hh (hr.subset he'))) a2 hk
    obtain rfl:j=j':=by omega
    obtain ⟨q1,q2,q3⟩:=vO h j _ a1 b1 a2 hk
    have hs2:[e,e'].Sublist (zf n f.xs).es:=(List.Sublist.cons_cons e (List.singleton_sublist.2 he')).trans hs
    have h2:=zkZ hh hs2 q1
    obtain ⟨hm2,hi2⟩:=qT q2
    have hq:=(h4 _ hm2).2
    rw[hi2,if_neg (jE h hh he)]at hq
    have:=(hq.2 q3).1
    omega
  unfold qH
  rw[if_pos hh]
  by_cases hk:(zf n f.xs).kind=2
  ·have hc:Ye ((ns,zf n f.xs) :: (zf n f.xs).es.flatMap fun e=>qH f.xs m e.ino (ns++[e.name]))=n :: Ye ((zf n f.xs).es.flatMap fun e=>qH f.xs m e.ino (ns++[e.name])):=by
    unfold Ye
    rw[List.filter_cons_of_pos (by simpa using hk),List.map_cons,hi]
   rw[hc,List.nodup_cons]
   refine ⟨fun hmem=>?_,key _ (List.Sublist.refl _)⟩
   obtain ⟨p,p1,p2,p3⟩:=Vn hmem
   obtain ⟨e,he,p1⟩:=List.mem_flatMap.1 p1
   obtain ⟨j,a1,a2,a3⟩:=YI m _ _ p p1
   rw[p3]at a1
   have:=Zp h _ _ _ (a1.dep (.step hd hh he)) hd hh hk
   omega
  ·have hc:Ye ((ns,zf n f.xs) :: (zf n f.xs).es.flatMap fun e=>qH f.xs m e.ino (ns++[e.name]))=Ye ((zf n f.xs).es.flatMap fun e=>qH f.xs m e.ino (ns++[e.name])):=by
    unfold Ye
    rw[List.filter_cons_of_neg (by simpa using hk)]
   rw[hc]
   exact key _ (List.Sublist.refl _)
end
section
def V1 (l:j6):Nat:=(l.map fun p=>p.2.es.length).sum
theorem zdN (a b:j6):V1 (a++b)=V1 a+V1 b:=by unfold V1;rw[List.map_append,List.sum_append]
theorem uk {xs:List zm}:∀ (m:Nat) (n:Int) (ns:List (List UInt8)),(qH xs m n ns).length<=1+V1 (qH xs m n ns)
 | 0,n,ns=>Nat.zero_le _
 | m+1,n,ns=>by
  unfold qH
  split
  ·have key:∀ L:List zX,(L.flatMap fun e=>qH xs m e.ino (ns++[e.name])).length<=L.length+V1 (L.flatMap fun e=>qH xs m e.ino (ns++[e.name])):=by
    intro L
    induction L with
    | nil=>exact Nat.le_refl _
    | cons e r ih =>
     rw[List.flatMap_cons,List.length_append,zdN,List.length_cons]
     have:=uk (xs:=xs) m e.ino (ns++[e.name])
     omega
   have:=key (zf n xs).es
   have hs:∀ l:j6,V1 ((ns,zf n xs) :: l)=(zf n xs).es.length+V1 l:=fun l=>by unfold V1;rw[List.map_cons,List.sum_cons]
   rw[List.length_cons,hs]
   omega
  ·exact Nat.zero_le _
theorem zhw {l:j6} (h:∀ p∈l,p.2.es.length<=40/\(p.2.kind≠2->p.2.es = [])):V1 l<=40*(Ye l).length:=by
 induction l with
 | nil=>exact Nat.zero_le _
 | cons p r ih =>
  have hp:=h p List.mem_cons_self
  have ih:=ih fun q hq=>h q (List.mem_cons_of_mem _ hq)
  unfold V1 at ih ⊢
  rw[List.map_cons,List.sum_cons]
  unfold Ye at ih ⊢
  by_cases hk:p.2.kind=2
  ·rw[List.filter_cons_of_pos (by simpa using hk),List.map_cons,List.length_cons];omega
  ·rw[List.filter_cons_of_neg (by simpa using hk),hp.2 hk]
   simpa using ih
theorem ziX {f:FsV} (h:okV f) (m:Nat) (n:Int) (ns:List (List UInt8)):(qH f.xs m n ns).length<=1601:=by
 obtain ⟨h0,_,h2,_⟩:=qt h
 cases hh:zw n f.xs with
 | false =>
  cases m with
  | zero=>exact Nat.zero_le _
  | succ m=>unfold qH;rw[hh];exact Nat.zero_le _
 | true =>
  have h1:=uk (xs:=f.xs) m n ns
  have hg:∀ p∈qH f.xs m n ns,p.2∈f.xs:=fun p hp=>by
   obtain ⟨j,_,q2,q3⟩:=YI m n ns p hp
   rw[←q3];exact (qT q2).1
  have hs:=zhw (l:=qH f.xs m n ns) fun p hp=>⟨(h0.2 _ (hg p hp)).2.1,fun hk=>((h2 _ (hg p hp)).2.1 hk).1⟩
  have hd:=Qx (Yo h m n ns hh) fun d hd=>by
   obtain ⟨p,p1,_,rfl⟩:=Vn hd
   obtain ⟨_,_,q2,_⟩:=YI m n ns p p1
   exact q2
  have:=h0.1
  omega
def yy (ns:List (List UInt8)):Nat:=(ns.map fun x=>x.length+1).sum
theorem NB (ns:List (List UInt8)) (x:List UInt8):yy (ns++[x])=yy ns+(x.length+1):=by
 unfold yy;rw[List.map_append,List.sum_append];simp
theorem Zm {xs:List zm} (h0:ZU xs):∀ (m:Nat) (n:Int) (ns:List (List UInt8)),∀ p∈qH xs m n ns,p.1.length<=ns.length+m/\yy p.1<=yy ns+m*301
 | 0,n,ns,p,hp=>by cases hp
 | m+1,n,ns,p,hp=>by
  unfold qH at hp
  split at hp
  ·rename_i hh
   obtain ⟨hm,_⟩:=qT hh
   rcases List.mem_cons.1 hp with rfl | hp
   ·exact ⟨Nat.le_add_right _ _,Nat.le_add_right _ _⟩
   ·obtain ⟨e,he,hp⟩:=List.mem_flatMap.1 hp
    obtain ⟨q1,q2⟩:=Zm h0 m _ _ p hp
    have:=(h0.2 _ hm).2.2 e he
    rw[NB]at q2
    rw[List.length_append,List.length_singleton]at q1
    exact ⟨by omega,by omega⟩
  ·cases hp
theorem Xw (ns:List (List UInt8)):(Lib.join ns [47]).length<=yy ns:=by
 by_cases h:ns = []
 ·subst h;exact Nat.zero_le _
 ·have:=YT ns h
  unfold yy;omega
theorem zgP {f:FsV} (h:okV f) (n:Int) (ns:List (List UInt8)) (h1:ns.length<=100000) (h2:yy ns<=100000):xE (trV f.xs) n ns:=by
 obtain ⟨h0,_⟩:=qt h
 refine ⟨Nat.le_trans (ziX h _ n ns) (by decide),fun p hp=>?_⟩
 obtain ⟨q1,q2⟩:=Zm h0 _ n ns p hp
 have:=Xw p.1
 have:=h0.1
 exact ⟨by omega,by omega⟩
end
section
theorem kl {xs:List zm}:∀ (m:Nat) (n:Int) (ns:List (List UInt8)) (j:Nat) (d:Int),Anc xs n j d->j<m->zw n xs=true->(∀ x∈xs,∀ e∈x.es,zw e.ino xs=true)->∃ p∈qH xs m n ns,p.2.ino=d
 | 0,n,ns,j,d,ha,hj,hh,h3=>by omega
 | m+1,n,ns,0,d,ha,hj,hh,h3=>by
  cases ha
  obtain ⟨_,hi⟩:=qT hh
  refine ⟨(ns,zf n xs),?_,hi⟩
  unfold qH
  rw[if_pos hh]
  exact List.mem_cons_self
 | m+1,n,ns,j+1,d,ha,hj,hh,h3=>by
  have key:∀ (j:Nat) (d:Int),Anc xs n (j+1) d->∃ e∈(zf n xs).es,Anc xs e.ino j d:=by
   intro j
   induction j with
   | zero =>
    intro d ha
    cases ha with
    | step a b c=>cases a;exact ⟨_,c,.same⟩
   | succ j ih =>
    intro d ha
    cases ha with
    | step a b c =>
     obtain ⟨e,he,h⟩:=ih _ a
     exact ⟨e,he,.step h b c⟩
  obtain ⟨e,he,h⟩:=key j d ha
  obtain ⟨hm,_⟩:=qT hh
  obtain ⟨p,p1,p2⟩:=kl m e.ino (ns++[e.name]) j d h (by omega) (h3 _ hm e he) h3
  refine ⟨p,?_,p2⟩
  unfold qH
  rw[if_pos hh]
  exact List.mem_cons_of_mem _ (List.mem_flatMap.2 ⟨e,he,p1⟩)
theorem zb2 {xs:List zm}:∀ {k:Nat} {n:Int},Dep xs k n->Anc xs 1 k n
 | _,_,.root=>.same
 | _,_,.step a b c=>.step (zb2 a) b c
theorem ze9 {f:FsV} (h:okV f) {n:Int} (hh:zw n f.xs=true):∃ p∈trV f.xs 1 [],p.2.ino=n:=by
 obtain ⟨_,h1,_,h3,_⟩:=qt h
 obtain ⟨k,hk,hd⟩:=zjN h hh
 exact kl _ 1 [] k n (zb2 hd) (by omega) h1.2.2.2.2.2.2.2.1 h3
theorem UI {f:FsV} {m:Nat} {n:Int} {ns:List (List UInt8)} {p:List (List UInt8)×zm} (hp:p∈qH f.xs m n ns):zw p.2.ino f.xs=true/\zf p.2.ino f.xs=p.2:=by
 obtain ⟨_,_,q⟩:=YI m n ns p hp
 exact q
theorem VF:∀ {l:j6} {n:Int},(Ye l).Nodup->(∀ p∈l,p.2.ino=n->p.2.kind=2)->(∃ p∈l,p.2.ino=n)->∃ p,l.filter (fun p=>decide (p.2.ino=n)) = [p]
 | [],n,_,_,⟨p,hp,_⟩=>by cases hp
 | q :: l,n,hn,hk,hex=>by
  have hk':∀ p∈l,p.2.ino=n->p.2.kind=2:=fun p hp=>hk p (List.mem_cons_of_mem _ hp)
  by_cases hq:q.2.ino=n
  ·have hk2:=hk q List.mem_cons_self hq
   have hc:Ye (q :: l)=q.2.ino :: Ye l:=by
    unfold Ye;rw[List.filter_cons_of_pos (by simpa using hk2),List.map_cons]
   rw[hc,List.nodup_cons,hq]at hn
   have he:l.filter (fun p=>decide (p.2.ino=n)) = []:=by
    rw[List.filter_eq_nil_iff]
    intro p hp hpn
    have hpn:=of_decide_eq_true hpn
    refine hn.1 ?_
    exact List.mem_map.2 ⟨p,List.mem_filter.2 ⟨hp,by simpa using hk' p hp hpn⟩,hpn⟩
   exact ⟨q,by rw[List.filter_cons_of_pos (by simpa using hq),he]⟩
  ·have hn':(Ye l).Nodup:=by
    unfold Ye at hn ⊢
    by_cases hk2:q.2.kind=2
    ·rw[List.filter_cons_of_pos (by simpa using hk2),List.map_cons,List.nodup_cons]at hn;exact hn.2
    ·rw[List.filter_cons_of_neg (by simpa using hk2)]at hn;exact hn
   obtain ⟨p,hp,hpn⟩:=hex
   have hpl:p∈l:=by
    rcases List.mem_cons.1 hp with rfl | hp
    ·exact absurd hpn hq
    ·exact hp
   obtain ⟨p',h⟩:=VF hn' hk' ⟨p,hpl,hpn⟩
   exact ⟨p',by rw[List.filter_cons_of_neg (by simpa using hq)];exact h⟩
theorem Mw {f:FsV} (h:okV f) {n:Int} (hh:zw n f.xs=true) (hk:(zf n f.xs).kind=2):∃ p,X8 n (trV f.xs 1 []) = [p]/\VO n (trV f.xs 1 [])=some p:=by
 obtain ⟨_,h1,_⟩:=qt h
 have hkk:∀ p∈trV f.xs 1 [],p.2.ino=n->p.2.kind=2:=fun p hp hpn=>by
  obtain ⟨_,q⟩:=UI hp
  rw[hpn]at q;rw[←q];exact hk
 obtain ⟨p,hp⟩:=VF (Yo h _ 1 [] h1.2.2.2.2.2.2.2.1) hkk (ze9 h hh)
 refine ⟨zW p.1,by unfold X8;rw[hp];rfl,?_⟩
 unfold VO
 have he:(fun q:List (List UInt8)×zm=>decide (q.2.ino=n)&&decide (q.2.kind=2))=fun q=>decide (q.2.ino=n)&&decide (q.2.kind=2):=rfl
 rw[←List.head?_filter]
 have hf:(trV f.xs 1 []).filter (fun q=>decide (q.2.ino=n)&&decide (q.2.kind=2))=(trV f.xs 1 []).filter fun q=>decide (q.2.ino=n):=by
  refine List.filter_congr fun q hq=>?_
  by_cases hqn:q.2.ino=n
  ·simp[hqn,hkk q hq hqn]
  ·simp[hqn]
 rw[hf,hp];rfl
end
section
theorem Gb {xs:List zm} (hm:∀ x∈xs,∀ e∈x.es,may e.name=true):∀ (m:Nat) (n:Int) (ns:List (List UInt8)),∀ p∈qH xs m n ns,∃ zs,p.1=ns++zs/\∀ z∈zs,may z=true
 | 0,n,ns,p,hp=>by unfold qH at hp;cases hp
 | m+1,n,ns,p,hp=>by
  unfold qH at hp
  split at hp
  ·rename_i hh
   rcases List.mem_cons.1 hp with rfl | hp
   ·exact ⟨[],by simp,fun z hz=>by cases hz⟩
   ·obtain ⟨e,he,hp⟩:=List.mem_flatMap.1 hp
    obtain ⟨zs,h1,h2⟩:=Gb hm m e.ino _ p hp
    refine ⟨e.name :: zs,by rw[h1,List.append_assoc];rfl,fun z hz=>?_⟩
    rcases List.mem_cons.1 hz with rfl | hz
    ·exact hm _ (qT hh).1 e he
    ·exact h2 z hz
  ·cases hp
theorem zcb {es:List zX} (h:Yv es):es.Pairwise fun a b=>a.name≠b.name:=by
 have key:∀ (d i:Nat) (hj:i+d+1<es.length),es[i].name<es[i+d+1].name:=by
  intro d
  induction d with
  | zero =>
   intro i hj
   have h1:=(h (i+1) hj).2.2 (by omega)
   rw[bytesLess_eq]at h1
   exact of_decide_eq_true h1
  | succ d ih =>
   intro i hj
   have h1:=(h (i+(d+1)+1) hj).2.2 (by omega)
   rw[bytesLess_eq]at h1
   have h1:=of_decide_eq_true h1
   have h2:=ih i (by omega)
   exact List.lt_trans h2 h1
 refine List.pairwise_iff_getElem.2 fun i j hi hj hij he=>?_
 obtain ⟨d,rfl⟩:∃ d,j=i+d+1:=⟨j-i-1,by omega⟩
 have h1:=key d i hj
 rw[he]at h1
 exact List.lt_irrefl _ h1
theorem VX {f:FsV} (h:okV f):(∀ x∈f.xs,∀ e∈x.es,may e.name=true)/\∀ x∈f.xs,x.es.Pairwise fun a b=>a.name≠b.name:=by
 obtain ⟨_,_,h2,_⟩:=qt h
 have key:∀ x∈f.xs,Yv x.es:=fun x hx=>by
  by_cases hk:x.kind=2
  ·exact ((h2 x hx).2.2.1 hk).2
  ·rw[((h2 x hx).2.1 hk).1];intro i hi;simp at hi
 refine ⟨fun x hx e he=>?_,fun x hx=>zcb (key x hx)⟩
 obtain ⟨i,hi,rfl⟩:=List.getElem_of_mem he
 exact (key x hx i hi).1
end
section
open CA CB
open Go.RowKit
def jt (p n:List UInt8):List UInt8:=if Lib.hasSuffix p [47] then p++n else p++[47]++n
theorem zcw (p n:List UInt8) (hp:p.length<=1000000) (hn:n.length<=1000000):Fun Tryz.prog G0 66 [.str p,.str n] (.str (jt p n)) 0:=by
 have h:=Q7 p [47] hp
 cases hs:Lib.hasSuffix p [47] with
 | true =>
  have e:jt p n=p++n:=by unfold jt;rw[hs,if_pos rfl]
  rw[hs]at h
  refine fon Tryz.func66 ?_;dsimp only[Tryz.f66]
  push_cast -dsimp
  refine cl (h) ?_;push_cast -dsimp
  repeat refine an ?_
  exact dn (by push_cast -dsimp [zb,za,CLe,zd,e])
 | false =>
  have e:jt p n=p++[47]++n:=by unfold jt;rw[hs];rfl
  rw[hs]at h
  refine fon Tryz.func66 ?_;dsimp only[Tryz.f66]
  push_cast -dsimp
  refine cl (h) ?_;push_cast -dsimp
  repeat refine an ?_
  exact dn (by push_cast -dsimp [zb,za,CLe,zd,e])
theorem zjK {f:FsV} (h:okV f) {n:Int} (hh:zw n f.xs=true) (hk:(zf n f.xs).kind=2) :
  ∃ ns,(∀ z∈ns,may z=true)/\ns.length<=41/\yy ns<=20000/\X8 n (trV f.xs 1 []) = [zW ns]/\VO n (trV f.xs 1 [])=some (zW ns):=by
 obtain ⟨h0,h1,_⟩:=qt h
 have hkk:∀ p∈trV f.xs 1 [],p.2.ino=n->p.2.kind=2:=fun p hp hpn=>by
  obtain ⟨_,q⟩:=UI hp
  rw[hpn]at q;rw[←q];exact hk
 obtain ⟨p,hp⟩:=VF (Yo h _ 1 [] h1.2.2.2.2.2.2.2.1) hkk (ze9 h hh)
 obtain ⟨q,q1,q2⟩:=Mw h hh hk
 have hq:X8 n (trV f.xs 1 []) = [zW p.1]:=by unfold X8;rw[hp];rfl
 rw[hq]at q1
 have hqe:zW p.1=q:=by simpa using q1
 have hpm:p∈trV f.xs 1 []:=(List.mem_filter.1 (by rw[hp];exact List.mem_singleton.2 rfl)).1
 obtain ⟨zs,z1,z2⟩:=Gb (VX h).1 _ 1 [] p hpm
 obtain ⟨t1,t2⟩:=Zm h0 _ 1 [] p hpm
 have t3:=Xw p.1
 have t4:yy []=0:=rfl
 have h40:=h0.1
 rw[List.nil_append]at z1
 rw[←z1]at z2
 simp only[List.length_nil,t4]at t1 t2
 exact ⟨p.1,z2,by omega,by omega,hq,by rw[q2,hqe]⟩
theorem xB (ns:List (List UInt8)) (x:List UInt8) (h:∀ z∈ns,may z=true):jt (zW ns) x=Qy (zW ns) x:=by
 by_cases h0:ns = []
 ·subst h0;rfl
 ·have hs:Lib.hasSuffix (zW ns) [47]=false:=by
   have:=MG true ns false fun z hz=>XH (h z hz)
   have e:put true ns false=zW ns:=by unfold put zW;rw[if_neg h0];simp
   rw[e,decide_eq_false h0]at this
   simpa using this
  have hne:zW ns≠[47]:=fun e=>by
   rw[e]at hs
   exact absurd hs (by decide)
  unfold jt Qy
  rw[hs,if_neg hne];rfl
def Yy (f:FsV) (s:z8):List UInt8:=Qy ((VO s.dir (trV f.xs 1 [])).getD []) s.name
theorem zdl (f:FsV) (h:okV f) (s:z8) (hh:zw s.dir f.xs=true) (hk:(zf s.dir f.xs).kind=2) (hm:may s.name=true):Fun Tryz.prog G0 36 [.agg (fsC f),.agg (Vl s)] (.str (Yy f s)) 0:=by
 obtain ⟨ns,n1,n2,n3,n4,n5⟩:=zjK h hh hk
 have hp:=xM f s.dir _ (zkV h) (zgP h 1 [] (by decide) (by decide))
 have hml:=zfS hm
 have hjw:=Xw ns
 have hjl:(zW ns).length<=20001:=by unfold zW;split<;>simp<;>omega
 have hr:=QA (zW ns) (by omega)
 unfold zgd at hr
 rw[Us ns fun z hz=>XH (n1 z hz)]at hr
 have hj:=Xe (ns++[s.name]) (by simp;omega) (by
  have a1:=Xw (ns++[s.name])
  rw[NB]at a1
  omega)
 rw[ZH ns s.name fun y hy=>(XH (n1 y hy)).1]at hj
 have e:Yy f s=Qy (zW ns) s.name:=by unfold Yy;rw[n5];rfl
 rw[n5]at hp
 have hsl:(zQ ns).length=ns.length:=List.length_map ..
 refine fof (fun i=>if i=2 then [false,false,false,false,false,false,true,false,false] else []) Tryz.func36 ?_;dsimp only[Tryz.f36]
 push_cast -dsimp
 refine cl (hp) ?_;push_cast -dsimp [Option.getD_some,Option.isSome_some]
 refine cl (hr) ?_;push_cast -dsimp
 repeat refine an ?_
 refine cl (hj) ?_;push_cast -dsimp
 exact dn (by push_cast -dsimp [zb,za,CLe,zd,e])
end
section
open Go.RowKit
end
section
open Go.RowKit
end
section
open CA CB
open Go.RowKit
theorem NI (l:List OpV):Jm l l=true:=(JH l l).2 ⟨rfl,fun j h h'=>by unfold zjt;simp⟩
theorem ze8 (ops:List OpV) (diags:List (List UInt8)) (s:Int) (h1:ops.length<=100000) (h2:diags.length<=100000):Fun Tryz.prog G0 44 [.agg [.sl 5 (ops.map opL),.sl 1 (zQ diags),.sc (.int .i64 s)],.agg [.sl 5 (ops.map opL),.sl 1 (zQ diags),.sc (.int .i64 s)]] (qy true) 0:=by
 have q1:=Gw ops ops h1
 have q2:=H8 diags diags (by omega)
 rw[NI]at q1
 rw[decide_eq_true rfl]at q2
 refine fon Tryz.func44 ?_;dsimp only[Tryz.f44]
 push_cast -dsimp
 refine cl (q1) ?_;push_cast -dsimp
 refine cl (q2) ?_;push_cast -dsimp
 exact dn
theorem zfo (d:zK) (h:ze0 d) (hp:∀ z∈d.w.pool,z.es.length<=9223372036854775807):Fun Tryz.prog G0 18 [VV d,VV d] (qy true) 0:=by
 have hs:=h.ws
 have q1:=zdm d.w d.w (by have:=hs.fs.len;omega) (by have:=hs.pool;omega) (by have:=hs.kept;omega) (fun z hz=>by have:=(hs.fs.node z hz).1;omega) hp
 have q2:=ze8 d.ops d.diags d.status (by have:=h.ops;omega) (by have:=h.diags;omega)
 rw[decide_eq_true rfl]at q1
 refine fon Tryz.func18 ?_;dsimp only[Tryz.f18]
 push_cast -dsimp
 refine cl (q1) ?_;push_cast -dsimp
 refine cl (q2) ?_;push_cast -dsimp
 exact dn
end
section
open Go.RowKit Go.ChangeMaps Go.ChangeShapes Go.WideShapes Go.Deep Go.Joins
section
variable {H:Type} {enc:TypeId×Value->H} {W:World}
end
theorem zqa {W:World} {l:List (String×DataW Unit)} (h:laidMetH Tryz.prog l W) (hp:(l.filter fun x=>x.2.handleName?.isSome) = []) (hm:("drayman/op.has",Rows.laid_drayman_op_has)∈l):Y5 G1 (Mu W):=fun g cs hc=>by
 unfold G1 at hc
 split at hc
 ·rename_i hg
  subst hg
  cases hc
  exact j4 (t:=237) h hp hm (by kernel_rfl) (by kernel_rfl) (m:=4) (by kernel_rfl) (by kernel_rfl) (by kernel_rfl)
 ·cases hc
theorem zqk {W:World} {l:List (String×DataW Unit)} (h:laidMetH Tryz.prog l W) (hp:(l.filter fun x=>x.2.handleName?.isSome) = []) (hm1:("drayman/diag.phrases",Rows.laid_drayman_diag_phrases)∈l) (hm2:("drayman/args.kinds",Rows.laid_drayman_args_kinds)∈l) (hm3:("drayman/errs.messages",Rows.laid_drayman_errs_messages)∈l):Y5 G2 (Mu W):=fun g cs hc=>by
 unfold G2 at hc
 split at hc
 ·rename_i hg
  subst hg
  cases hc
  exact j4 (t:=195) h hp hm1 (by kernel_rfl) (by kernel_rfl) (m:=4) (vs:=phr.map fun l=>Value.string ⟨l.toArray⟩) (by kernel_rfl) (by kernel_rfl) (by kernel_rfl)
 ·split at hc
  ·rename_i hg
   subst hg
   cases hc
   exact j4 (t:=194) h hp hm2 (by kernel_rfl) (by kernel_rfl) (m:=4) (by kernel_rfl) (by kernel_rfl) (by kernel_rfl)
  ·split at hc
   ·rename_i hg
    subst hg
    cases hc
    exact j4 (t:=230) h hp hm3 (by kernel_rfl) (by kernel_rfl) (m:=4) (vs:=zri.map fun l=>Value.string ⟨l.toArray⟩) (by kernel_rfl) (by kernel_rfl) (by kernel_rfl)
   ·cases hc
theorem zpJ {W:World} {l:List (String×DataW Unit)} (h:laidMetH Tryz.prog l W) (hp:(l.filter fun x=>x.2.handleName?.isSome) = []) (hm:("drayman/op.has",Rows.laid_drayman_op_has)∈l) (hm1:("drayman/diag.phrases",Rows.laid_drayman_diag_phrases)∈l) (hm2:("drayman/args.kinds",Rows.laid_drayman_args_kinds)∈l) (hm3:("drayman/errs.messages",Rows.laid_drayman_errs_messages)∈l):Y5 GD (Mu W):=fun g cs hc=>by
 unfold GD at hc
 split at hc
 ·exact zqa h hp hm g cs hc
 ·exact zqk h hp hm1 hm2 hm3 g cs hc
end
section
abbrev QB:=List (List UInt8)
def onL (f:FsV) (follow:Bool) (lk:zm->zm->QB->Bool->z8×Int):QB->z8->Bool->z8×Int
 | [],s,dir=>if zw s.ino f.xs=true/\dir=true/\(zf s.ino f.xs).kind≠2 then (jb,3) else (s,0)
 | n :: r,s,dir =>
  if s.ino=0 then (jb,1)
  else if (zf s.ino f.xs).kind≠2 then (jb,3)
  else if n = [46] then onL f follow lk r ⟨0,[],(zf s.ino f.xs).ino⟩ dir
  else if n = [46,46] then onL f follow lk r ⟨0,[],(zf s.ino f.xs).parent⟩ dir
  else if Qp n (zf s.ino f.xs).es=false∨(zf (zR n (zf s.ino f.xs).es) f.xs).kind≠3∨(r = []/\follow=false/\dir=false) then
   onL f follow lk r ⟨(zf s.ino f.xs).ino,n,zR n (zf s.ino f.xs).es⟩ dir
  else lk (zf (zR n (zf s.ino f.xs).es) f.xs) (zf s.ino f.xs) r dir
def qL (p:List UInt8):Bool:=!decide (zr p = [])&&Lib.hasSuffix p [47]
def QE (p:List UInt8):Bool:=Lib.hasPrefix p [47]
def onN (f:FsV) (follow:Bool):Nat->QB->z8->Bool->z8×Int
 | 0=>onL f follow fun _ _ _ _=>(jb,6)
 | k+1=>onL f follow fun x d r dir=>if XU x.data then (jb,7) else onN f follow k (zr x.data++r) ⟨0,[],if QE x.data then 1 else d.ino⟩ (dir||(qL x.data&&decide (r = [])))
def Y8 (f:FsV) (b:List UInt8):Int×Int:=
 if (atV f b).2≠0 then (0,(atV f b).2) else if (atV f b).1.ino=0 then (0,1) else if (zf (atV f b).1.ino f.xs).kind≠2 then (0,3) else ((zf (atV f b).1.ino f.xs).ino,0)
def Jp (f:FsV) (p:List UInt8):zm×Int:=if (atV f p).2≠0 then (xo,(atV f p).2) else if (atV f p).1.ino=0 then (xo,1) else (zf (atV f p).1.ino f.xs,0)
def z6 (f:FsV) (b p:List UInt8) (follow:Bool):z8×Int:=
 if p = [] then (jb,1) else if XU p then (jb,7)
 else if QE p then onN f follow 40 (zr p) ⟨0,[],1⟩ (qL p)
 else if (Y8 f b).2≠0 then (jb,(Y8 f b).2) else onN f follow 40 (zr p) ⟨0,[],(Y8 f b).1⟩ (qL p)
theorem vJ {xs:List zm} {n:Int} (h:(zf n xs).kind=2):zw n xs=true:=by
 cases hh:zw n xs with
 | true=>rfl
 | false=>rw[(Yf hh).2]at h;exact absurd h (by decide)
def lkN (f:FsV) (follow:Bool):Nat->zm->zm->QB->Bool->z8×Int
 | 0=>fun _ _ _ _=>(jb,6)
 | k+1=>fun x d r dir=>if XU x.data then (jb,7) else onN f follow k (zr x.data++r) ⟨0,[],if QE x.data then 1 else d.ino⟩ (dir||(qL x.data&&decide (r = [])))
theorem Ym (f:FsV) (follow:Bool) (k:Nat):onN f follow k=onL f follow (lkN f follow k):=by cases k<;>rfl
theorem Js (f:FsV) (follow:Bool) (k:Nat) (x d:zm) (r:QB) (dir:Bool):lkN f follow (k+1) x d r dir=if XU x.data then (jb,7) else onN f follow k (zr x.data++r) ⟨0,[],if QE x.data then 1 else d.ino⟩ (dir||(qL x.data&&decide (r = []))):=rfl
end
section
open Go.RowKit
section
variable {G:zn}
end
end
section
open Go.RowKit
def Vk (x:zm):Bool:=decide (x.kind=3)&&decide (300<(x.data.length:Int))
def Qt (f:FsV) (b p:List UInt8):Bool:=!((f.xs.take 100).any Vk)&&decide ((b.length:Int)<=1000)&&decide ((p.length:Int)<=5000)
theorem zaw (f:FsV) (b p:List UInt8):Fun Tryz.prog G0 24 [.agg (fsC f),.str b,.str p] (qy (Qt f b p)) 0:=by
 have hll:(zp f.xs).length=f.xs.length:=List.length_map ..
 refine fon Tryz.func24 ?_;dsimp only[Tryz.f24]
 push_cast -dsimp
 refine loop (fun i:Nat=>⟨[(1,.str b),(2,.str p),(3,.ptr 0 0),(7,.sc (.int .i64 i))],[fsC f],0,0⟩) (fun i=>i<=100/\∀ t (h:t<f.xs.length),t<i->Vk f.xs[t]=false) (fun i=>100-i) 0 ⟨Nat.zero_le _,fun t h h'=>absurd h' (Nat.not_lt_zero _)⟩ ?_ ?_
 ·exact wk
 ·rintro i ⟨h1,h2⟩
  have hend:¬(i<f.xs.length/\i<100)->(f.xs.take 100).any Vk=false:=fun h=>by
   rw[List.any_eq_false]
   intro x hx
   obtain ⟨t,ht,rfl⟩:=List.getElem_of_mem hx
   rw[List.length_take]at ht
   rw[List.getElem_take,h2 t (by omega) (by omega)]
   decide
  have stop:¬(i<f.xs.length/\i<100)->(decide ((b.length:Int)<=1000)&&decide ((p.length:Int)<=5000))=Qt f b p:=fun h=>by
   unfold Qt;rw[hend h];rfl
  by_cases h:i<f.xs.length
  ·by_cases h100:i<100
   ·have g1:=qF f.xs i h
    have h100':(i:Int)<100:=by omega
    have hm:f.xs[i]∈f.xs.take 100:=by
     rw[List.mem_take_iff_getElem]
     exact ⟨i,by omega,rfl⟩
    have next:Vk f.xs[i]=false->∀ t (h:t<f.xs.length),t<i+1->Vk f.xs[t]=false:=fun q t ht hlt=>by
     rcases Nat.lt_or_ge t i with r | r
     ·exact h2 t ht r
     ·have:t=i:=by omega
      subst this;exact q
    by_cases hk:f.xs[i].kind=3
    ·by_cases hd:300<(f.xs[i].data.length:Int)
     ·have hn:Qt f b p=false:=by
       have:(f.xs.take 100).any Vk=true:=List.any_eq_true.2 ⟨_,hm,by unfold Vk;rw[decide_eq_true hk,decide_eq_true hd];rfl⟩
       unfold Qt;rw[this];rfl
      push_cast -dsimp [hll,h,h100',g1,hk,hd]
      repeat refine an ?_
      exact dn (by push_cast -dsimp [zb,za,CLe,zd,hn])
     ·have hq:Vk f.xs[i]=false:=by unfold Vk;rw[decide_eq_false hd,Bool.and_false]
      push_cast -dsimp [hll,h,h100',g1,hk,hd]
      repeat refine an ?_
      exact ⟨i+1,⟨by omega,next hq⟩,by omega,wk⟩
    ·have hq:Vk f.xs[i]=false:=by unfold Vk;rw[decide_eq_false hk,Bool.false_and]
     push_cast -dsimp [hll,h,h100',g1,hk]
     repeat refine an ?_
     exact ⟨i+1,⟨by omega,next hq⟩,by omega,wk⟩
   ·have h100':((i:Int)<100)=False:=eq_false (by omega)
    have:=(stop (by omega)).symm
    by_cases hb:(b.length:Int)<=1000
    ·rw[decide_eq_true hb,Bool.true_and]at this
     push_cast -dsimp [hll,h,h100',hb]
     exact dn (by push_cast -dsimp [zb,za,CLe,zd,this])
    ·rw[decide_eq_false hb,Bool.false_and]at this
     push_cast -dsimp [hll,h,h100',hb]
     exact dn (by push_cast -dsimp [zb,za,CLe,zd,this])
  ·have:=(stop (by omega)).symm
   by_cases hb:(b.length:Int)<=1000
   ·rw[decide_eq_true hb,Bool.true_and]at this
    push_cast -dsimp [hll,h,hb]
    exact dn (by push_cast -dsimp [zb,za,CLe,zd,this])
   ·rw[decide_eq_false hb,Bool.false_and]at this
    push_cast -dsimp [hll,h,hb]
    exact dn (by push_cast -dsimp [zb,za,CLe,zd,this])
end
section
structure zmy (x:zm):Prop where
 par:x.kind≠2->x.parent=0
 bare:x.kind=2->x.data = []
 nam:∀ e∈x.es,may e.name=true
 lnk:x.kind=3->1<=x.data.length/\x.data.length<=4095/\∀ b∈x.data,b≠0
 named:x.ino≠1->1<=x.links
 one:x.kind=2->x.ino≠1->x.links=1
 top:x.ino=1->x.parent=1
def zlt (rk:Int->Nat) (xs:List zm):Prop:=∀ y∈xs,∀ e∈y.es,(zf e.ino xs).kind=2->(zf e.ino xs).parent=y.ino/\rk y.ino<rk e.ino
structure FsR (f:FsV):Prop where
 node:∀ x∈f.xs,zmy x
 edge:∃ rk,zlt rk f.xs
 fit:(f.xs.length:Int)<=f.maxI/\(qm f.xs:Int)<=f.maxB
 lim:1<=f.maxI/\f.maxI<=1073741824/\0<=f.maxB/\f.maxB<=1073741824
theorem zdG {xs:List zm} (h:z7 xs) {x y:zm} (hx:x∈xs) (hy:y∈xs) (e:x.ino=y.ino):x=y:=by
 obtain ⟨i,hi,rfl⟩:=List.getElem_of_mem hx
 obtain ⟨j,hj,rfl⟩:=List.getElem_of_mem hy
 have hp:=List.pairwise_iff_getElem.1 h
 rcases Nat.lt_trichotomy i j with q | q | q
 ·have:=hp i j hi hj q;omega
 ·subst q;rfl
 ·have:=hp j i hj hi q;omega
theorem yU {xs:List zm} (h:z7 xs):(xs.map (·.ino)).Nodup:=by
 rw[List.Nodup,List.pairwise_map]
 exact List.Pairwise.imp (fun q e=>by omega) h
theorem Zi {xs:List zm} {n p:Int}:(n,p)∈zZ xs↔∃ y∈xs,∃ e∈y.es,e.ino=n/\y.ino=p:=by
 unfold zZ
 rw[List.mem_flatMap]
 refine exists_congr fun y=>and_congr_right fun hy=>?_
 unfold ZD
 rw[List.mem_map]
 refine exists_congr fun e=>and_congr_right fun he=>?_
 rw[Prod.mk.injEq]
theorem zcO {n p:Int} {l:List (Int×Int)} (h1:1<=Qm n l) (h:∀ q,(n,q)∈l->q=p):Vi n l=p:=by
 unfold Qm at h1
 unfold Vi
 cases hq:(l.filter fun p=>p.1==n).getLast? with
 | none=>rw[List.getLast?_eq_none_iff]at hq;rw[hq]at h1;simp at h1
 | some r =>
  obtain ⟨h2,h3⟩:=List.mem_filter.1 (List.mem_of_getLast? hq)
  have h3:r.1=n:=by simpa using h3
  show r.2=p
  exact h r.2 (by rw[←h3];exact h2)
theorem ziJ {es:List zX}:∀ S:List Int,∃ t,UK S es=S++t:=by
 induction es with
 | nil=>exact fun S=>⟨[],by simp[UK]⟩
 | cons e r ih =>
  intro S
  obtain ⟨t,h⟩:=ih (JS S e.ino)
  show ∃ t,UK (JS S e.ino) r=S++t
  rw[h]
  unfold JS
  split
  ·exact ⟨t,rfl⟩
  ·exact ⟨e.ino :: t,by simp⟩
theorem V3 {xs:List zm} (h3:∀ x∈xs,∀ e∈x.es,zw e.ino xs=true):∀ (m i:Nat) (S:List Int),J0 xs S->(∀ j<i,∀ n,S[j]?=some n->∀ e∈(zf n xs).es,e.ino∈S)->xs.length+1<=m+i ->
  (∀ n∈S,n∈Qk xs m i S)/\∀ n∈Qk xs m i S,∀ e∈(zf n xs).es,e.ino∈Qk xs m i S
 | 0,i,S,hS,hc,hm=>by
  have hl:=Qx hS.nodup hS.has
  show (∀ n∈S,n∈S)/\∀ n∈S,∀ e∈(zf n xs).es,e.ino∈S
  refine ⟨fun n h=>h,fun n hn e he=>?_⟩
  obtain ⟨j,hj,rfl⟩:=List.getElem_of_mem hn
  exact hc j (by omega) _ (List.getElem?_eq_getElem hj) e he
 | m+1,i,S,hS,hc,hm=>by
  unfold Qk
  cases hg:S[i]? with
  | none =>
   have hi:=List.getElem?_eq_none_iff.1 hg
   show (∀ n∈S,n∈S)/\∀ n∈S,∀ e∈(zf n xs).es,e.ino∈S
   refine ⟨fun n h=>h,fun n hn e he=>?_⟩
   obtain ⟨j,hj,rfl⟩:=List.getElem_of_mem hn
   exact hc j (by omega) _ (List.getElem?_eq_getElem hj) e he
  | some n =>
   have hn:=hS.has n (List.mem_of_getElem? hg)
   have hi:=(List.getElem?_eq_some_iff.1 hg).1
   have hg':=zh hn
   obtain ⟨t,ht⟩:=ziJ (es:=(zf n xs).es) S
   have hsub:∀ k∈S,k∈UK S (zf n xs).es:=fun k hk=>Gl.2 (.inl hk)
   obtain ⟨r1,r2⟩:=V3 h3 m (i+1) (UK S (zf n xs).es) (Nf hS fun e he=>h3 _ hg'.2.1 e he) (fun j hj k hk e he=>by
    rcases Nat.lt_or_ge j i with hji | hji
    ·have:S[j]?=some k:=by rw[ht,List.getElem?_append_left (by omega)]at hk;exact hk
     exact hsub _ (hc j hji k this e he)
    ·have:j=i:=by omega
     subst this
     rw[ht,List.getElem?_append_left hi,hg]at hk
     cases hk
     exact Gl.2 (.inr ⟨e,he,rfl⟩)) (by omega)
   exact ⟨fun k hk=>r1 k (hsub k hk),r2⟩
theorem y8 {n:Int} {l:List (Int×Int)} (h:1<=Qm n l):∃ p,(n,p)∈l:=by
 unfold Qm at h
 obtain ⟨r,hr⟩:=List.exists_mem_of_length_pos (l:=l.filter fun p=>p.1==n) (by omega)
 obtain ⟨h1,h2⟩:=List.mem_filter.1 hr
 have h2:r.1=n:=by simpa using h2
 exact ⟨r.2,by rw[←h2];exact h1⟩
theorem FsR.links {f:FsV} (hi:FsI f) {x:zm} (hx:x∈f.xs):x.links=(Qm x.ino (zZ f.xs):Int):=by rw[Xm];exact hi.links x hx
theorem ZG {f:FsV} (hi:FsI f) {y:zm} (hy:y∈f.xs) {e:zX} (he:e∈y.es):y.kind=2:=by
 by_cases h:y.kind=2
 ·exact h
 ·rw[hi.file y hy h]at he;cases he
theorem Xq {f:FsV} (hi:FsI f) {x:zm} (hx:x∈f.xs):zf x.ino f.xs=x:=by
 have h:=JR hx
 have h2:=zh h
 exact zdG hi.rises h2.2.1 hx h2.2.2
theorem FsR.come {f:FsV} (hi:FsI f) (h:FsR f) {S:List Int} (h1:(1:Int)∈S) (hc:∀ n∈S,∀ e∈(zf n f.xs).es,e.ino∈S):∀ n,zw n f.xs=true->n∈S:=by
 obtain ⟨rk,hr⟩:=h.edge
 have dirs:∀ (k:Nat) (n:Int),rk n<=k->zw n f.xs=true->(zf n f.xs).kind=2->n∈S:=by
  intro k
  induction k with
  | zero =>
   intro n hk hn hd
   by_cases h0:n=1
   ·rw[h0];exact h1
   obtain ⟨g1,g2,g3⟩:=zh hn
   have hl:=(h.node _ g2).named (by rw[g3];exact h0)
   rw[FsR.links hi g2,g3]at hl
   obtain ⟨p,hp⟩:=y8 (n:=n) (l:=zZ f.xs) (by omega)
   obtain ⟨y,hy,e,he,q1,q2⟩:=Zi.1 hp
   have:=(hr y hy e he (by rw[q1];exact hd)).2
   rw[q1]at this;omega
  | succ k ih =>
   intro n hk hn hd
   by_cases h0:n=1
   ·rw[h0];exact h1
   obtain ⟨g1,g2,g3⟩:=zh hn
   have hl:=(h.node _ g2).named (by rw[g3];exact h0)
   rw[FsR.links hi g2,g3]at hl
   obtain ⟨p,hp⟩:=y8 (n:=n) (l:=zZ f.xs) (by omega)
   obtain ⟨y,hy,e,he,q1,q2⟩:=Zi.1 hp
   have hlt:=(hr y hy e he (by rw[q1];exact hd)).2
   rw[q1]at hlt
   have hs:=Xq hi hy
   have:=ih y.ino (by omega) (JR hy) (by rw[hs];exact ZG hi hy he)
   rw[←q1]
   exact hc y.ino this e (by rw[hs];exact he)
 intro n hn
 by_cases h0:n=1
 ·rw[h0];exact h1
 obtain ⟨g1,g2,g3⟩:=zh hn
 have hl:=(h.node _ g2).named (by rw[g3];exact h0)
 rw[FsR.links hi g2,g3]at hl
 obtain ⟨p,hp⟩:=y8 (n:=n) (l:=zZ f.xs) (by omega)
 obtain ⟨y,hy,e,he,q1,q2⟩:=Zi.1 hp
 have hs:=Xq hi hy
 have:=dirs _ y.ino (Nat.le_refl _) (JR hy) (by rw[hs];exact ZG hi hy he)
 rw[←q1]
 exact hc y.ino this e (by rw[hs];exact he)
theorem xj {es:List zX} (hR:Xv es) (h1:∀ e∈es,may e.name=true) (h2:∀ e∈es,1<=e.ino):Yv es:=fun i h =>
 ⟨h1 _ (List.getElem_mem h),h2 _ (List.getElem_mem h),fun h0=>List.pairwise_iff_getElem.1 hR (i-1) i (by omega) h (by omega)⟩
theorem FsR.check {f:FsV} (hi:FsI f) (h:FsR f) (hn:f.next<=1099511627776):j7 f=0:=by
 have h1:jX f:=⟨h.lim.1,h.lim.2.1,h.lim.2.2.1,h.lim.2.2.2,hn,hi.ino,hi.rises,hi.root,hi.base⟩
 have h2:J8 f:=fun x hx=>⟨hi.kind x hx,fun hk=>⟨hi.file x hx hk,(h.node x hx).par hk⟩,fun hk=>⟨(h.node x hx).bare hk,xj (hi.es x hx) (h.node x hx).nam fun e he=>by
  have:=hi.led x hx e he
  have g:=zh this
  have:=(hi.ino _ g.2.1).1
  rw[g.2.2]at this;exact this⟩,(h.node x hx).lnk⟩
 have h3:JU f:=hi.led
 obtain ⟨rk,hr⟩:=h.edge
 have h4:Yb f:=fun x hx=>by
  have hl:=FsR.links hi hx
  refine ⟨hl,?_⟩
  by_cases h0:x.ino=1
  ·rw[if_pos h0,h0]
   exact ⟨by rw[Xm];exact hi.bare,(h.node x hx).top h0⟩
  ·rw[if_neg h0]
   have hk:=(h.node x hx).named h0
   refine ⟨by omega,fun hd=>?_⟩
   have ho:=(h.node x hx).one hd h0
   refine ⟨by omega,(zcO (by omega) fun q hq=>?_).symm⟩
   obtain ⟨y,hy,e,he,q1,q2⟩:=Zi.1 hq
   have:=(hr y hy e he (by rw[q1,Xq hi hx];exact hd)).1
   rw[q1,Xq hi hx]at this
   rw[←q2,this]
 have h5:XY f:=by
  have hS:J0 f.xs [1]:=⟨by simp,fun n hn=>by rw[List.mem_singleton.1 hn];exact hi.root⟩
  obtain ⟨r1,r2⟩:=V3 hi.led (f.xs.length+1) 0 [1] hS (fun j hj=>absurd hj (Nat.not_lt_zero _)) (by omega)
  have hok:=(Gc hi.led (f.xs.length+1) 0 [1] hS (fun n hn=>by rw[List.mem_singleton.1 hn];exact ⟨0,.root⟩)).1
  have hall:=h.come hi (r1 1 (by simp)) r2
  have q1:=Qx hok.nodup hok.has
  have q2:=Vs (S:=f.xs.map (·.ino)) (yU hi.rises) fun n hn=>hall n (Hu.2 hn)
  rw[List.length_map]at q2
  exact Nat.le_antisymm q1 q2
 unfold j7
 rw[if_pos h1,if_pos h2,if_pos h3,if_pos h4,if_pos h5,if_pos (show UU f from h.fit)]
open Classical in
theorem zfa {f:FsV} (h:okV f):FsR f:=by
 obtain ⟨h0,h1,h2,h3,h4,h5,h6⟩:=qt h
 have hi:=Xo h.2
 refine ⟨fun x hx=>?_,?_,h6,h1.1,h1.2.1,h1.2.2.1,h1.2.2.2.1⟩
 ·obtain ⟨a1,a2,a3,a4⟩:=h2 x hx
  obtain ⟨b1,b2⟩:=h4 x hx
  refine ⟨fun hk=>(a2 hk).2,fun hk=>(a3 hk).1,fun e he=>?_,a4,fun hn=>?_,fun hk hn=>?_,fun hn=>?_⟩
  ·obtain ⟨i,hi',rfl⟩:=List.getElem_of_mem he
   exact ((a3 (ZG hi hx he)).2 i hi').1
  ·rw[if_neg hn]at b2;rw[b1];omega
  ·rw[if_neg hn]at b2;rw[b1,(b2.2 hk).1];rfl
  ·rw[if_pos hn]at b2;exact b2.2
 ·refine ⟨fun n=>if hd:∃ k,Dep f.xs k n then hd.choose else 0,fun y hy e he hk=>?_⟩
  have hs:=Xq hi hy
  have hh:=hi.led y hy e he
  have g:=zh hh
  have hyk:=ZG hi hy he
  have hey:e∈(zf y.ino f.xs).es:=by rw[hs];exact he
  have hne:e.ino≠1:=jE h (JR hy) hey
  constructor
  ·have b:=(h4 _ g.2.1).2
   rw[g.2.2,if_neg hne]at b
   obtain ⟨c1,c2⟩:=b.2 hk
   rw[c2]
   exact zcO (by omega) fun q hq=>(xP (Zi.2 ⟨y,hy,e,he,rfl,rfl⟩) hq c1).symm
  ·obtain ⟨k,hd⟩:=Hq h (JR hy)
   have hd2:=Dep.step hd (JR hy) hey
   have e1:∃ k,Dep f.xs k y.ino:=⟨k,hd⟩
   have e2:∃ k,Dep f.xs k e.ino:=⟨k+1,hd2⟩
   show (if hd:∃ k,Dep f.xs k y.ino then hd.choose else 0)<if hd:∃ k,Dep f.xs k e.ino then hd.choose else 0
   rw[dif_pos e1,dif_pos e2,Zp h _ _ _ e1.choose_spec hd (JR hy) (by rw[hs];exact hyk),Zp h _ _ _ e2.choose_spec hd2 hh hk]
   exact Nat.lt_succ_self k
end
section
theorem zb6 {f:FsV} (hi:FsI f) (hr:FsR f) {n:Int} (hh:zw n f.xs=true) (hk:(zf n f.xs).kind=2):zw (zf n f.xs).parent f.xs=true:=by
 have g:=zh hh
 by_cases h1:n=1
 ·rw[(hr.node _ g.2.1).top (by rw[g.2.2];exact h1)];exact hi.root
 ·have hl:=(hr.node _ g.2.1).named (by rw[g.2.2];exact h1)
  rw[FsR.links hi g.2.1,g.2.2]at hl
  obtain ⟨p,hp⟩:=y8 (n:=n) (l:=zZ f.xs) (by omega)
  obtain ⟨y,hy,e,he,q1,q2⟩:=Zi.1 hp
  obtain ⟨rk,hed⟩:=hr.edge
  have:=(hed y hy e he (by rw[q1];exact hk)).1
  rw[q1]at this
  rw[this];exact JR hy
end
section
theorem QD {f:FsV} (hi:FsI f) (hr:FsR f) {nm:List UInt8}:∀ (k:Nat) (l:QB) (s:z8),(s.ino≠0->zw s.ino f.xs=true) ->
  (∃ e,e≠0/\∀ dir,onN f false k (l++[nm]) s dir=(jb,e))∨∃ k' s',(s'.ino≠0->zw s'.ino f.xs=true)/\∀ dir,onN f false k (l++[nm]) s dir=onN f false k' [nm] s' dir
 | k,[],s,hs=>.inr ⟨k,s,hs,fun _=>rfl⟩
 | k,n :: r,s,hs=>by
  have hne:r++[nm]≠[]:=by simp
  have un:∀ dir,onN f false k (n :: r++[nm]) s dir=onL f false (lkN f false k) (n :: (r++[nm])) s dir:=fun dir=>by rw[Ym];rfl
  by_cases h0:s.ino=0
  ·exact .inl ⟨1,by decide,fun dir=>by rw[un];unfold onL;rw[if_pos h0]⟩
  have hh:=hs h0
  by_cases hk:(zf s.ino f.xs).kind=2
  case neg=>exact .inl ⟨3,by decide,fun dir=>by rw[un];unfold onL;rw[if_neg h0,if_pos hk]⟩
  have hk':¬(zf s.ino f.xs).kind≠2:=fun q=>q hk
  have hg:=zh hh
  by_cases h1:n = [46]
  ·rcases QD hi hr (nm:=nm) k r ⟨0,[],(zf s.ino f.xs).ino⟩ (fun _=>by show zw (zf s.ino f.xs).ino f.xs=true;rw[hg.2.2];exact hh) with ⟨e,e1,e2⟩ | ⟨k',s',e1,e2⟩
   ·exact .inl ⟨e,e1,fun dir=>by rw[un];unfold onL;rw[if_neg h0,if_neg hk',if_pos h1,←Ym];exact e2 dir⟩
   ·exact .inr ⟨k',s',e1,fun dir=>by rw[un];unfold onL;rw[if_neg h0,if_neg hk',if_pos h1,←Ym];exact e2 dir⟩
  by_cases h2:n = [46,46]
  ·rcases QD hi hr (nm:=nm) k r ⟨0,[],(zf s.ino f.xs).parent⟩ (fun _=>zb6 hi hr hh hk) with ⟨e,e1,e2⟩ | ⟨k',s',e1,e2⟩
   ·exact .inl ⟨e,e1,fun dir=>by rw[un];unfold onL;rw[if_neg h0,if_neg hk',if_neg h1,if_pos h2,←Ym];exact e2 dir⟩
   ·exact .inr ⟨k',s',e1,fun dir=>by rw[un];unfold onL;rw[if_neg h0,if_neg hk',if_neg h1,if_pos h2,←Ym];exact e2 dir⟩
  by_cases h3:Qp n (zf s.ino f.xs).es=false∨(zf (zR n (zf s.ino f.xs).es) f.xs).kind≠3
  ·have hc:∀ dir:Bool,Qp n (zf s.ino f.xs).es=false∨(zf (zR n (zf s.ino f.xs).es) f.xs).kind≠3∨(r++[nm] = []/\false=false/\dir=false):=fun dir=>h3.imp id .inl
   have hin:zR n (zf s.ino f.xs).es≠0->zw (zR n (zf s.ino f.xs).es) f.xs=true:=fun q=>by
    have hx:Qp n (zf s.ino f.xs).es=true:=by
     unfold Qp
     rw[js]
     cases hq:jP zX.name n (zf s.ino f.xs).es with
     | some e=>rfl
     | none=>unfold zR at q;rw[hq]at q;exact absurd rfl q
    exact yt hi hh hx
   rcases QD hi hr (nm:=nm) k r ⟨(zf s.ino f.xs).ino,n,zR n (zf s.ino f.xs).es⟩ hin with ⟨e,e1,e2⟩ | ⟨k',s',e1,e2⟩
   ·exact .inl ⟨e,e1,fun dir=>by rw[un];unfold onL;rw[if_neg h0,if_neg hk',if_neg h1,if_neg h2,if_pos (hc dir),←Ym];exact e2 dir⟩
   ·exact .inr ⟨k',s',e1,fun dir=>by rw[un];unfold onL;rw[if_neg h0,if_neg hk',if_neg h1,if_neg h2,if_pos (hc dir),←Ym];exact e2 dir⟩
  ·have hc:∀ dir:Bool,¬(Qp n (zf s.ino f.xs).es=false∨(zf (zR n (zf s.ino f.xs).es) f.xs).kind≠3∨(r++[nm] = []/\false=false/\dir=false)):=fun dir q=>by
    rcases q with q | q | ⟨q,_⟩
    ·exact h3 (.inl q)
    ·exact h3 (.inr q)
    ·exact hne q
   have ul:∀ dir,onN f false k (n :: r++[nm]) s dir=lkN f false k (zf (zR n (zf s.ino f.xs).es) f.xs) (zf s.ino f.xs) (r++[nm]) dir:=fun dir=>by
    rw[un];unfold onL;rw[if_neg h0,if_neg hk',if_neg h1,if_neg h2,if_neg (hc dir)]
   cases k with
   | zero=>exact .inl ⟨6,by decide,fun dir=>by rw[ul];rfl⟩
   | succ k =>
    by_cases hlg:XU (zf (zR n (zf s.ino f.xs).es) f.xs).data=true
    ·exact .inl ⟨7,by decide,fun dir=>by rw[ul,Js,if_pos hlg]⟩
    ·have hin:(if QE (zf (zR n (zf s.ino f.xs).es) f.xs).data then (1:Int) else (zf s.ino f.xs).ino)≠0->zw (if QE (zf (zR n (zf s.ino f.xs).es) f.xs).data then (1:Int) else (zf s.ino f.xs).ino) f.xs=true:=fun _=>by
      split
      ·exact hi.root
      ·rw[hg.2.2];exact hh
     rcases QD hi hr (nm:=nm) k (zr (zf (zR n (zf s.ino f.xs).es) f.xs).data++r) ⟨0,[],if QE (zf (zR n (zf s.ino f.xs).es) f.xs).data then 1 else (zf s.ino f.xs).ino⟩ hin with ⟨e,e1,e2⟩ | ⟨k',s',e1,e2⟩
     ·exact .inl ⟨e,e1,fun dir=>by
       rw[ul,Js,if_neg hlg,←List.append_assoc,decide_eq_false hne,Bool.and_false,Bool.or_false]
       exact e2 dir⟩
     ·exact .inr ⟨k',s',e1,fun dir=>by
       rw[ul,Js,if_neg hlg,←List.append_assoc,decide_eq_false hne,Bool.and_false,Bool.or_false]
       exact e2 dir⟩
termination_by k l=>(k,l.length)
theorem zk0 {f:FsV} (hi:FsI f) {nm:List UInt8} (n1:nm≠[46]) (n2:nm≠[46,46]) {k:Nat} {s t:z8} {dir:Bool} (hs:s.ino≠0->zw s.ino f.xs=true) (h:onN f false k [nm] s dir=(t,0)) (ht:t.ino≠0) :
  zI f t∨(dir=true/\∃ u,onN f false k [nm] s false=(u,0)/\(zf u.ino f.xs).kind=3):=by
 rw[Ym]at h ⊢
 unfold onL at h ⊢
 by_cases h0:s.ino=0
 ·rw[if_pos h0]at h;cases h
 rw[if_neg h0]at h ⊢
 have hh:=hs h0
 have hg:=zh hh
 by_cases hk:(zf s.ino f.xs).kind=2
 case neg=>rw[if_pos hk]at h;cases h
 have hk':¬(zf s.ino f.xs).kind≠2:=fun q=>q hk
 rw[if_neg hk',if_neg n1,if_neg n2]at h ⊢
 have hgood:∀ d:Bool,onL f false (lkN f false k) [] ⟨(zf s.ino f.xs).ino,nm,zR nm (zf s.ino f.xs).es⟩ d=(t,0)->zI f t:=fun d q=>by
  unfold onL at q
  split at q
  ·cases q
  ·have q:=(Prod.mk.inj q).1
   subst q
   have hx:Qp nm (zf s.ino f.xs).es=true:=by
    unfold Qp
    rw[js]
    cases hq:jP zX.name nm (zf s.ino f.xs).es with
    | some e=>rfl
    | none=>exact absurd (by show zR nm (zf s.ino f.xs).es=0;unfold zR;rw[hq]) ht
   have e1:(zf s.ino f.xs).ino=s.ino:=hg.2.2
   refine ⟨by show zw (zf s.ino f.xs).ino f.xs=true;rw[e1];exact hh,by show (zf (zf s.ino f.xs).ino f.xs).kind=2;rw[e1];exact hk,?_⟩
   show jP zX.name nm (zf (zf s.ino f.xs).ino f.xs).es=_
   rw[e1];exact XF hx
 by_cases hc:Qp nm (zf s.ino f.xs).es=false∨(zf (zR nm (zf s.ino f.xs).es) f.xs).kind≠3∨(([]:QB) = []/\false=false/\dir=false)
 ·rw[if_pos hc]at h
  exact .inl (hgood _ h)
 ·have hd:dir=true:=by
   cases dir with
   | true=>rfl
   | false=>exact absurd (.inr (.inr ⟨rfl,rfl,rfl⟩)) hc
  refine .inr ⟨hd,⟨(zf s.ino f.xs).ino,nm,zR nm (zf s.ino f.xs).es⟩,?_,Classical.byContradiction fun q=>hc (.inr (.inl q))⟩
  rw[if_pos (.inr (.inr ⟨rfl,rfl,rfl⟩))]
  unfold onL
  rw[if_neg (fun q=>by cases q.2.1)]
end
section
def bN (x:zm):Nat:=if x.kind=1 then x.data.length else 0
theorem JK:∀ xs:List zm,qm xs=JO bN xs
 | []=>rfl
 | x :: r=>by
  have ih:=JK r
  unfold qm JO at ih ⊢
  rw[List.map_cons,List.sum_cons,←ih,List.filter_cons]
  unfold bN
  by_cases h:x.kind=1<;>simp[h]
theorem GG {xs:List zm} (hR:z7 xs) {x:zm} (hh:zw x.ino xs=true):qm (qZ x xs)+bN (zf x.ino xs)=qm xs+bN x:=by
 have:=Vz bN (x:=x) hR
 rw[(zh hh).1]at this
 rw[JK,JK];exact this
theorem Mv {xs:List zm} (hR:z7 xs) {x:zm} (hh:zw x.ino xs=false):qm (qZ x xs)=qm xs+bN x:=by
 have:=Vz bN (x:=x) hR
 rw[(Yf hh).1]at this
 rw[JK,JK];exact this
theorem uK {xs:List zm} (hR:z7 xs) (n:Int):qm (zS n xs)<=qm xs:=by
 have:=Xj bN (n:=n) hR
 rw[JK,JK];omega
theorem Mr {xs:List zm} (hR:z7 xs) {n:Int} {F:List zX->List zX} (hh:zw n xs=true):qm (jr n F xs)=qm xs:=by
 have hg:=zh hh
 have:=GG hR (x:=jW (zf n xs) (F (zf n xs).es)) (by show zw (zf n xs).ino xs=true;rw[hg.2.2];exact hh)
 have e:bN (zf (jW (zf n xs) (F (zf n xs).es)).ino xs)=bN (jW (zf n xs) (F (zf n xs).es)):=by
  show bN (zf (zf n xs).ino xs)=bN (zf n xs)
  rw[hg.2.2]
 rw[e]at this
 exact Nat.add_right_cancel this
theorem zkl {x:zm} {xs:List zm} (hR:z7 xs) (hh:zw x.ino xs=false):(qZ x xs).length=xs.length+1:=by rw[←x8 hR hh];simp;have:=zc1 x.ino xs;omega
theorem zfE (n:Int) (xs:List zm):(zS n xs).length<=xs.length:=List.length_filter_le _ _
theorem zmy.turn {x:zm} (h:zmy x) {es:List zX} (he:∀ e∈es,may e.name=true):zmy (jW x es):=⟨h.par,h.bare,he,h.lnk,h.named,h.one,h.top⟩
theorem XD {xs:List zm} {n m:Int} {F:List zX->List zX} (hh:zw n xs=true):(zf m (jr n F xs)).kind=(zf m xs).kind/\(zf m (jr n F xs)).parent=(zf m xs).parent/\(zf m (jr n F xs)).links=(zf m xs).links:=by
 rw[YC hh]
 split
 ·subst_vars;exact ⟨rfl,rfl,rfl⟩
 ·exact ⟨rfl,rfl,rfl⟩
theorem FsR.like {f g:FsV} (h:FsR f) (hN:∀ z∈g.xs,zmy z) (hE:∀ z∈g.xs,∀ e∈z.es,(zf e.ino g.xs).kind=2->∃ y∈f.xs,y.ino=z.ino/\e∈y.es/\(zf e.ino f.xs).kind=2/\(zf e.ino g.xs).parent=(zf e.ino f.xs).parent)
  (h1:g.maxI=f.maxI) (h2:g.maxB=f.maxB) (hl:g.xs.length<=f.xs.length) (hb:(qm g.xs:Int)<=f.maxB):FsR g:=by
 obtain ⟨rk,hr⟩:=h.edge
 refine ⟨hN,⟨rk,fun z hz e he hk=>?_⟩,?_,by rw[h1,h2];exact h.lim⟩
 ·obtain ⟨y,hy,q1,q2,q3,q4⟩:=hE z hz e he hk
  have:=hr y hy e q2 q3
  rw[q4,←q1];exact this
 ·have:=h.fit
  rw[h1,h2];omega
theorem zhU {f:FsV} (hi:FsI f) (h:FsR f) {s:z8} (hs:zI f s) (he:(zf s.ino f.xs).es = []):FsR (zk f s):=by
 have hok:=Uf hi hs he
 have hd:=zh hs.has
 have hh:=zI.ino hi hs
 have hx:=zh hh
 have hn:=h.node _ hx.2.1
 have hne:s.dir≠s.ino:=fun e=>by
  have:=(ql hs.there).2
  rw[e,he]at this
  cases this
 have hr1:=kK hi hs
 have hR1:z7 (jr s.dir (zg s.name) f.xs):=Jd hi.rises
 have hdn:zmy (jW (zf s.dir f.xs) (zg s.name (zf s.dir f.xs).es)):=(h.node _ hd.2.1).turn fun e he=>(h.node _ hd.2.1).nam e (jB he).1
 by_cases hl:(zf s.ino f.xs).links-1=0
 ·have e0:zk f s = { f with xs:=zS s.ino (jr s.dir (zg s.name) f.xs) }:=by unfold zk;rw[if_pos hl]
  rw[e0]at hok ⊢
  refine h.like (fun z hz=>?_) (fun z hz e he hke=>?_) rfl rfl ?_ ?_
  ·rcases (Qi hs.has).1 (Yk.1 hz).1 with rfl | ⟨hz,_⟩
   ·exact hdn
   ·exact h.node z hz
  ·have hee:e.ino≠s.ino:=fun q=>by
    have:=hok.led z hz e he
    rw[Yj,q]at this
    simp at this
   have hg:zf e.ino (zS s.ino (jr s.dir (zg s.name) f.xs))=zf e.ino (jr s.dir (zg s.name) f.xs):=by rw[Q4,if_neg hee]
   show ∃ y∈f.xs,y.ino=z.ino/\e∈y.es/\_/\(zf e.ino (zS s.ino _)).parent=_
   have hke:(zf e.ino (zS s.ino (jr s.dir (zg s.name) f.xs))).kind=2:=hke
   rw[hg,(XD hs.has).1]at hke
   rw[hg,(XD hs.has).2.1]
   rcases (Qi hs.has).1 (Yk.1 hz).1 with rfl | ⟨hz,_⟩
   ·exact ⟨_,hd.2.1,rfl,(jB he).1,hke,rfl⟩
   ·exact ⟨z,hz,rfl,he,hke,rfl⟩
  ·exact Nat.le_trans (zfE _ _) (by rw[Ut hi.rises hs.has];exact Nat.le_refl _)
  ·have:=uK hR1 s.ino
   rw[Mr hi.rises hs.has]at this
   have:=h.fit.2
   show (qm (zS _ _):Int)<=_
   omega
 ·have e0:zk f s = { f with xs:=qZ { zf s.ino f.xs with links:=(zf s.ino f.xs).links-1 } (jr s.dir (zg s.name) f.xs) }:=by unfold zk;rw[if_neg hl]
  rw[e0]at hok ⊢
  have hhi:zw ({ zf s.ino f.xs with links:=(zf s.ino f.xs).links-1 }:zm).ino (jr s.dir (zg s.name) f.xs)=true:=by rw[JI hs.has];show zw (zf s.ino f.xs).ino f.xs=true;rw[hx.2.2];exact hh
  have hgot:∀ m,(zf m (qZ { zf s.ino f.xs with links:=(zf s.ino f.xs).links-1 } (jr s.dir (zg s.name) f.xs))).kind=(zf m f.xs).kind/\(zf m (qZ { zf s.ino f.xs with links:=(zf s.ino f.xs).links-1 } (jr s.dir (zg s.name) f.xs))).parent=(zf m f.xs).parent:=fun m=>by
   simp only[Yz,hx.2.2]
   split
   ·subst_vars;exact ⟨rfl,rfl⟩
   ·exact ⟨(XD hs.has).1,(XD hs.has).2.1⟩
  have hnm:=hn.named (by rw[hx.2.2];exact hr1)
  refine h.like (fun z hz=>?_) (fun z hz e he hke=>?_) rfl rfl ?_ ?_
  ·rcases YP.1 hz with rfl | ⟨hz,_⟩
   ·exact ⟨hn.par,hn.bare,hn.nam,hn.lnk,fun q=>by show 1<=(zf s.ino f.xs).links-1;omega,fun q1 q2=>by have:=hn.one q1 q2;omega,hn.top⟩
   ·rcases (Qi hs.has).1 hz with rfl | ⟨hz,_⟩
    ·exact hdn
    ·exact h.node z hz
  ·have hke:(zf e.ino (qZ { zf s.ino f.xs with links:=(zf s.ino f.xs).links-1 } (jr s.dir (zg s.name) f.xs))).kind=2:=hke
   rw[(hgot _).1]at hke
   rcases YP.1 hz with rfl | ⟨hz,_⟩
   ·exact ⟨_,hx.2.1,rfl,he,hke,(hgot _).2⟩
   ·rcases (Qi hs.has).1 hz with rfl | ⟨hz,_⟩
    ·exact ⟨_,hd.2.1,rfl,(jB he).1,hke,(hgot _).2⟩
    ·exact ⟨z,hz,rfl,he,hke,(hgot _).2⟩
  ·show (qZ _ _).length<=_
   rw[QN hR1 hhi,Ut hi.rises hs.has];exact Nat.le_refl _
  ·have:=GG hR1 hhi
   have e1:bN (zf ({ zf s.ino f.xs with links:=(zf s.ino f.xs).links-1 }:zm).ino (jr s.dir (zg s.name) f.xs))=bN { zf s.ino f.xs with links:=(zf s.ino f.xs).links-1 }:=by
    show bN (zf (zf s.ino f.xs).ino _)=_
    rw[hx.2.2,YC hs.has,if_neg hne]
    rfl
   rw[e1,Mr hi.rises hs.has]at this
   show (qm (qZ _ _):Int)<=_
   have:=h.fit.2
   omega
end
section
inductive Bel (xs:List zm) (x:Int):Int->Prop
 | refl:Bel xs x x
 | step {y n:Int}:Bel xs x y->zw y xs=true->(∃ e∈(zf y xs).es,e.ino=n)->Bel xs x n
end
section
inductive Gv (xs:List zm):List (List UInt8)->Int->Prop
 | root:Gv xs [] 1
 | step {ns:List (List UInt8)} {y n:Int} {m:List UInt8}:Gv xs ns y->zw y xs=true->(zf y xs).kind=2->jP zX.name m (zf y xs).es=some ⟨m,n⟩->Gv xs (ns++[m]) n
end
section
structure znD (w:qA):Prop where
 fs:FsR w.fs
 pool:∀ x∈w.pool,qi w x
 slots:∀ k∈w.kept,1<=k.slot
 kept:∀ k∈w.kept,Y6 w k
theorem zoS {w:qA} (h:okW w):znD w:=⟨zfa ⟨h.1.2.1,h.2.1⟩,h.2.2.2.1,h.2.2.2.2.1.2,h.2.2.2.2.2⟩
theorem JQ {k z:zL} {ks:List zL}:z∈qn k ks↔z=k∨z∈ks:=H4
theorem Mc {w w':qA} {x:zm} (h:qi w x) (h1:zw x.ino w'.fs.xs=false) (h2:w.fs.next<=w'.fs.next) (h3:∀ k∈w.kept,k∈w'.kept):qi w' x:=by
 obtain ⟨q1,q2,q3,q4,q5,q6,q7,q8,q9,q10⟩:=h
 refine ⟨h1,q2,by omega,q4,q5,q6,q7,q8,q9,?_⟩
 rw[List.any_eq_true]at q10 ⊢
 obtain ⟨k,hk,e⟩:=q10
 exact ⟨k,h3 k hk,e⟩
theorem zpl {w:qA} (hi:xw w) (h:znD w) {n:Int} (h1:1<=n) (h2:n<=1073741824) {s:z8} (hs:zI w.fs s) (he:(zf s.ino w.fs.xs).es = []):znD (j8 w n s).1:=by
 have hI:=y0 hi (n:=n) hs he
 unfold j8 at hI ⊢
 cases hn:MQ n w.kept with
 | true=>rw[if_pos rfl];exact h
 | false =>
  rw[hn,if_neg (by simp)]at hI
  rw[if_neg (by simp)]
  have hh:=zI.ino hi.fs hs
  have hx:=zh hh
  have hnd:=h.fs.node _ hx.2.1
  have hr:=zhU hi.fs h.fs hs he
  have hhas:=XM hs.has hh
  have hnp:zw s.ino w.pool=false:=by
   rw[Bool.eq_false_iff]
   intro hq
   have:=(hi.apart _ (zh hq).2.1).1
   rw[(zh hq).2.2,hh]at this;cases this
  have hgk:∀ m,zw m (zk w.fs s).xs=true->(zf m (zk w.fs s).xs).kind=(zf m w.fs.xs).kind:=fun m hm=>by
   unfold zk at hm ⊢
   by_cases hl:(zf s.ino w.fs.xs).links-1=0
   ·rw[if_pos hl]at hm ⊢
    have hm:zw m (zS _ _)=true:=hm
    show (zf m (zS _ _)).kind=_
    rw[Yj]at hm
    rw[Q4,if_neg (fun e=>by rw[e]at hm;simp at hm)]
    exact (XD hs.has).1
   ·rw[if_neg hl]
    show (zf m (qZ _ _)).kind=_
    rw[Yz]
    split
    ·rename_i e
     have e:(zf s.ino w.fs.xs).ino=m:=e
     rw[hx.2.2]at e;subst e;rfl
    ·exact (XD hs.has).1
  by_cases hl:(zf s.ino w.fs.xs).links=1
  ·rw[if_pos hl]at hI ⊢
   have hhp:∀ m,zw m (qZ { zf s.ino w.fs.xs with links:=0,parent:=0 } w.pool)=(decide (s.ino=m)||zw m w.pool):=fun m=>by
    rw[VD]
    show (decide ((zf s.ino w.fs.xs).ino=m)||_)=_
    rw[hx.2.2]
   refine ⟨hr,fun x hxx=>?_,fun k hk=>?_,fun k hk=>?_⟩
   ·have ha:=(hI.apart x hxx).1
    rcases YP.1 hxx with rfl | ⟨hxp,_⟩
    ·have hir:=hi.fs.ino _ hx.2.1
     refine ⟨ha,hir.1,by show _<(zk w.fs s).next;rw[JB];exact hir.2,rfl,rfl,he,hi.fs.kind (zf s.ino w.fs.xs) hx.2.1,hnd.bare,hnd.lnk,?_⟩
     rw[List.any_eq_true]
     refine ⟨_,JQ.2 (.inl rfl),?_⟩
     show (decide (s.ino=(zf s.ino w.fs.xs).ino)&&!false)=true
     rw[hx.2.2];simp
    ·exact Mc (h.pool x hxp) ha (by show w.fs.next<=(zk w.fs s).next;rw[JB];exact Int.le_refl _) fun k hk=>JQ.2 (.inr hk)
   ·rcases JQ.1 hk with rfl | hk
    ·exact h1
    ·exact h.slots k hk
   ·rcases JQ.1 hk with rfl | hk
    ·exact ⟨h2,.inr (by show zw s.ino _=true;rw[hhp];simp),fun q=>(by cases q),fun _=>rfl⟩
    ·obtain ⟨q1,q2,q3,q4⟩:=h.kept k hk
     refine ⟨q1,?_,fun hc=>?_,q4⟩
     ·show zw k.ino (zk w.fs s).xs=true∨zw k.ino _=true
      rw[hhp,hhas,if_pos (by omega)]
      by_cases e:k.ino=s.ino
      ·right;rw[e];simp
      ·rcases q2 with q2 | q2
       ·left;rw[q2,decide_eq_false e];rfl
       ·right;rw[q2,Bool.or_true]
     ·have:=q3 hc
      show (if zw k.ino _=true then zf k.ino _ else zf k.ino (zk w.fs s).xs).kind=1
      by_cases e:s.ino=k.ino
      ·rw[if_pos (by rw[hhp,decide_eq_true e];rfl),Yz,if_pos (by rw[←e];exact hx.2.2)]
       rw[←e,hnp,if_neg (by simp)]at this
       exact this
      ·rw[hhp,decide_eq_false e,Bool.false_or]
       have e5:zf k.ino (qZ { zf s.ino w.fs.xs with links:=0,parent:=0 } w.pool)=zf k.ino w.pool:=by
        rw[Yz]
        exact if_neg fun q=>e (hx.2.2.symm.trans q)
       rw[e5]
       by_cases hq:zw k.ino w.pool=true
       ·rw[if_pos hq]at this ⊢;exact this
       ·rw[if_neg hq]at this ⊢
        have q5:=q2.resolve_right hq
        rw[hgk _ (by rw[hhas,if_pos (by omega),q5,decide_eq_false (fun q=>e q.symm)];rfl)];exact this
  ·rw[if_neg hl]at hI ⊢
   have hall:∀ m,zw m (zk w.fs s).xs=zw m w.fs.xs:=fun m=>by rw[hhas,if_neg (by omega)]
   refine ⟨hr,fun x hxx=>?_,fun k hk=>?_,fun k hk=>?_⟩
   ·exact Mc (h.pool x hxx) (hI.apart x hxx).1 (by show w.fs.next<=(zk w.fs s).next;rw[JB];exact Int.le_refl _) fun k hk=>JQ.2 (.inr hk)
   ·rcases JQ.1 hk with rfl | hk
    ·exact h1
    ·exact h.slots k hk
   ·rcases JQ.1 hk with rfl | hk
    ·exact ⟨h2,.inl (by show zw s.ino (zk w.fs s).xs=true;rw[hall];exact hh),fun q=>(by cases q),fun _=>rfl⟩
    ·obtain ⟨q1,q2,q3,q4⟩:=h.kept k hk
     refine ⟨q1,?_,fun hc=>?_,q4⟩
     ·show zw k.ino (zk w.fs s).xs=true∨_
      rw[hall];exact q2
     ·have:=q3 hc
      show (if zw k.ino w.pool=true then zf k.ino w.pool else zf k.ino (zk w.fs s).xs).kind=1
      by_cases hq:zw k.ino w.pool=true
      ·rw[if_pos hq]at this ⊢;exact this
      ·rw[if_neg hq]at this ⊢
       rw[hgk _ (by rw[hall];exact q2.resolve_right hq)];exact this
end
section
inductive zh7 (w:qA):List OpV->qA->Prop
 | nil:zh7 w [] w
 | snoc {l:List OpV} {v:qA} {o:OpV}:zh7 w l v->(doV v o).2=0->zh7 w (l++[o]) (doV v o).1
theorem zps {w:qA} {o:OpV} (h:(doV w o).2=0):yo o=true:=by
 cases hm:yo o with
 | true=>rfl
 | false=>unfold doV at h;rw[hm,if_pos (by rfl)]at h;exact absurd h (show ¬(12:Int)=0 by decide)
structure zrP (w:qA) (d:zK):Prop where
 run:zh7 w d.ops d.w
 may:∀ o∈d.ops,yo o=true/\o.kind<=7
 rise:(zjB d.ops).Pairwise (· < ·)
 over:∀ s∈zjB d.ops,jz w.kept<s/\s<=d.slot
 last:jz w.kept<=d.slot
 stat:(d.status=1)↔d.diags≠[]
 right:znD d.w
end
section
theorem zfd {f:FsV} (hi:FsI f) {ns:List (List UInt8)} {y:Int} (h:Gv f.xs ns y):∃ d nm,∀ r,atW f.xs (ns++r) ⟨0,[],1⟩=atW f.xs r ⟨d,nm,y⟩:=by
 induction h with
 | root=>exact ⟨0,[],fun r=>rfl⟩
 | step h1 h2 h3 h4 ih =>
  rename_i ns y n m
  obtain ⟨d,nm,ih⟩:=ih
  refine ⟨y,m,fun r=>?_⟩
  rw[List.append_assoc,ih]
  show atW f.xs (m :: r) ⟨d,nm,y⟩=_
  have hne:y≠0:=UE hi h2
  have e1:(zf y f.xs).ino=y:=(zh h2).2.2
  have e2:zR m (zf y f.xs).es=n:=by unfold zR;rw[h4]
  rw[atW,if_neg hne,if_neg (fun q=>q h3),e1,e2]
theorem NC {f:FsV} (h:okV f):∀ (m:Nat) (n:Int) (ns:List (List UInt8)),Gv f.xs ns n->∀ p∈qH f.xs m n ns,Gv f.xs p.1 p.2.ino
 | 0,n,ns,hl,p,hp=>by unfold qH at hp;cases hp
 | m+1,n,ns,hl,p,hp=>by
  unfold qH at hp
  split at hp
  ·rename_i hh
   rcases List.mem_cons.1 hp with rfl | hp
   ·show Gv f.xs ns (zf n f.xs).ino
    rw[(zh hh).2.2];exact hl
   ·obtain ⟨e,he,hp⟩:=List.mem_flatMap.1 hp
    have hi:=Xo h.2
    refine NC h m e.ino _ (.step hl hh (UH h hh he) ?_) p hp
    have hR:=hi.es _ (zh hh).2.1
    have hx:Qp e.name (zf n f.xs).es=true:=by
     unfold Qp YN
     rw[List.any_eq_true]
     exact ⟨e,he,by simp⟩
    have h2:=XF hx
    have h3:=ql h2
    have:(⟨e.name,zR e.name (zf n f.xs).es⟩:zX)=e:=by
     obtain ⟨i,hi',ei⟩:=List.getElem_of_mem h3.2
     obtain ⟨j,hj',ej⟩:=List.getElem_of_mem he
     have hp:=List.pairwise_iff_getElem.1 hR
     rcases Nat.lt_trichotomy i j with q | q | q
     ·have:=hp i j hi' hj' q
      rw[ei,ej]at this
      exact absurd this (by show ¬Op.bytesLess e.name e.name=true;rw[XA];simp)
     ·subst q;rw[←ei,ej]
     ·have:=hp j i hj' hi' q
      rw[ei,ej]at this
      exact absurd this (by show ¬Op.bytesLess e.name e.name=true;rw[XA];simp)
    rw[h2]
    have e2:zR e.name (zf n f.xs).es=e.ino:=congrArg zX.ino this
    rw[e2]
  ·cases hp
theorem zi8 {f:FsV} (h:okV f) {n:Int} (hh:zw n f.xs=true) (hk:(zf n f.xs).kind=2):∃ ns,(∀ z∈ns,may z=true)/\VO n (trV f.xs 1 [])=some (zW ns)/\Gv f.xs ns n:=by
 obtain ⟨h0,h1,_⟩:=qt h
 have hkk:∀ p∈trV f.xs 1 [],p.2.ino=n->p.2.kind=2:=fun p hp hpn=>by
  obtain ⟨_,q⟩:=UI hp
  rw[hpn]at q;rw[←q];exact hk
 obtain ⟨p,hp⟩:=VF (Yo h _ 1 [] h1.2.2.2.2.2.2.2.1) hkk (ze9 h hh)
 obtain ⟨q,q1,q2⟩:=Mw h hh hk
 have hq:X8 n (trV f.xs 1 []) = [zW p.1]:=by unfold X8;rw[hp];rfl
 rw[hq]at q1
 have hqe:zW p.1=q:=by simpa using q1
 have hpf:p∈(trV f.xs 1 []).filter (fun p=>decide (p.2.ino=n)):=by rw[hp];exact List.mem_singleton.2 rfl
 obtain ⟨hpm,hpn⟩:=List.mem_filter.1 hpf
 obtain ⟨zs,z1,z2⟩:=Gb (VX h).1 _ 1 [] p hpm
 rw[List.nil_append]at z1
 rw[←z1]at z2
 have hl:=NC h _ 1 [] .root p hpm
 have hpn:p.2.ino=n:=by simpa using hpn
 rw[hpn]at hl
 exact ⟨p.1,z2,by rw[q2,hqe],hl⟩
theorem zko {f:FsV} (hi:FsI f) {ns:List (List UInt8)} {n:Int} (hl:Gv f.xs ns n) (hh:zw n f.xs=true) (hk:(zf n f.xs).kind=2) (hn:∀ z∈ns,may z=true) {m:List UInt8} (hm:may m=true):j9 (zW (ns++[m]))=true/\atV f (zW (ns++[m]))=(⟨n,m,zR m (zf n f.xs).es⟩,0):=by
 have hall:∀ z∈ns++[m],may z=true:=fun z hz=>by
  rcases List.mem_append.1 hz with hz | hz
  ·exact hn z hz
  ·rw[List.mem_singleton.1 hz];exact hm
 have hnm:=Us (ns++[m]) fun z hz=>XH (hall z hz)
 have hp:Yc (zW (ns++[m]))=true:=by
  unfold Yc
  rw[hnm,decide_eq_true rfl,Bool.true_and,List.all_eq_true]
  exact hall
 refine ⟨by unfold j9;rw[hp,hnm];simp,?_⟩
 unfold atV
 rw[if_pos hp,hnm]
 obtain ⟨d,nm,hw⟩:=zfd hi hl
 rw[hw]
 have hne:n≠0:=UE hi hh
 rw[atW,if_neg hne,if_neg (fun q=>q hk),(zh hh).2.2]
 rfl
end
section
def Q3 (p:List UInt8):OpV:=⟨7,0,p,[],[]⟩
def rmD:Nat->zK->List UInt8->Int->zK
 | 0,d,_,_=>d
 | m+1,d,p,n=>(Ze ((zf n d.w.fs.xs).es.foldl (fun d e=>rmD m d (jt p e.name) e.ino) d) (Q3 p)).1
def rmR:Nat->FsV->z8->FsV
 | 0,f,s=>zk f s
 | m+1,f,s=>zk ((zf s.ino f.xs).es.foldl (fun g e=>rmR m g ⟨s.ino,e.name,e.ino⟩) f) s
def low (xs:List zm):Nat->Int->Prop
 | 0,n=>(zf n xs).es = []
 | m+1,n=>∀ e∈(zf n xs).es,low xs m e.ino
structure Gs (f g:FsV):Prop where
 es:∀ n e,e∈(zf n g.xs).es->e∈(zf n f.xs).es
 has:∀ n,zw n g.xs=true->zw n f.xs=true/\(zf n g.xs).kind=(zf n f.xs).kind
theorem Gs.refl (f:FsV):Gs f f:=⟨fun _ _ h=>h,fun _ h=>⟨h,rfl⟩⟩
theorem Gs.trans {f g h:FsV} (a:Gs f g) (b:Gs g h):Gs f h:=⟨fun n e q=>a.es n e (b.es n e q),fun n q=>⟨(a.has n (b.has n q).1).1,(b.has n q).2.trans (a.has n (b.has n q).1).2⟩⟩
theorem Gs.low {f g:FsV} (h:Gs f g):∀ {m:Nat} {n:Int},low f.xs m n->low g.xs m n
 | 0,n,q=>by
  unfold Vcg.low at q ⊢
  refine List.eq_nil_iff_forall_not_mem.2 fun e he=>?_
  have:=h.es n e he
  rw[q]at this;cases this
 | m+1,n,q=>fun e he=>h.low (q e (h.es n e he))
theorem Gs.bel {f g:FsV} (h:Gs f g) {x y:Int} (q:Bel g.xs x y):Bel f.xs x y:=by
 induction q with
 | refl=>exact .refl
 | step a b c ih =>
  obtain ⟨e,he,q⟩:=c
  exact .step ih (h.has _ b).1 ⟨e,h.es _ e he,q⟩
theorem zi4 {f:FsV} (hi:FsI f) {rk:Int->Nat} (hr:zlt rk f.xs) {x y:Int} (h:Bel f.xs x y):(zf y f.xs).kind=2->(zf x f.xs).kind=2/\rk x<=rk y:=by
 induction h with
 | refl=>exact fun h=>⟨h,Nat.le_refl _⟩
 | step a b c ih =>
  intro hk
  obtain ⟨e,he,rfl⟩:=c
  have g:=zh b
  obtain ⟨q1,q2⟩:=ih (ZG hi g.2.1 he)
  have:=(hr _ g.2.1 e he hk).2
  rw[g.2.2]at this
  exact ⟨q1,by omega⟩
def zj3 (f g:FsV) (n d:Int):Prop:=∀ y,zw y f.xs=true->(zf y f.xs).kind=2->y≠d->¬Bel f.xs n y->zw y g.xs=true/\(zf y g.xs).kind=2/\(zf y g.xs).es=(zf y f.xs).es
theorem zcY {f g:FsV} (hi:FsI f) {rk:Int->Nat} (hr:zlt rk f.xs) {ns:List (List UInt8)} {n:Int} (h:Gv f.xs ns n):(∀ y,zw y f.xs=true->(zf y f.xs).kind=2->rk y<rk n->zw y g.xs=true/\(zf y g.xs).kind=2/\(zf y g.xs).es=(zf y f.xs).es)->(zf n f.xs).kind=2->Gv g.xs ns n:=by
 induction h with
 | root=>exact fun _ _=>.root
 | step a b c e ih =>
  rename_i ns y n m
  intro hk hd
  have gy:=zh b
  have hlt:=(hr _ gy.2.1 ⟨m,n⟩ (ql e).2 hd).2
  rw[gy.2.2]at hlt
  have hlt:rk y<rk n:=hlt
  obtain ⟨k1,k2,k3⟩:=hk y b c hlt
  exact .step (ih (fun z z1 z2 z3=>hk z z1 z2 (by omega)) c) k1 k2 (by rw[k3];exact e)
theorem NN {f:FsV} (hi:FsI f) {s:z8} (hs:zI f s) (he:(zf s.ino f.xs).es = []):Gs f (zk f s)/\zj3 f (zk f s) s.ino s.dir/\zw s.dir (zk f s).xs=true/\(zf s.dir (zk f s).xs).kind=2/\(zf s.dir (zk f s).xs).es=zg s.name (zf s.dir f.xs).es:=by
 have hh:=zI.ino hi hs
 have hx:=zh hh
 have hd:=zh hs.has
 have hne:s.dir≠s.ino:=fun e=>by
  have:=(ql hs.there).2
  rw[e,he]at this
  cases this
 have hhas:=XM hs.has hh
 -- what is there behind it
 have hgot:∀ m,zw m (zk f s).xs=true->(zf m (zk f s).xs).kind=(zf m f.xs).kind/\(zf m (zk f s).xs).es=if m=s.dir then zg s.name (zf s.dir f.xs).es else (zf m f.xs).es:=fun m hm=>by
  unfold zk at hm ⊢
  by_cases hl:(zf s.ino f.xs).links-1=0
  ·rw[if_pos hl]at hm ⊢
   have hm:zw m (zS _ _)=true:=hm
   show (zf m (zS _ _)).kind=_/\(zf m (zS _ _)).es=_
   rw[Yj]at hm
   have hmn:m≠s.ino:=fun e=>by rw[e]at hm;simp at hm
   rw[Q4,if_neg hmn,YC hs.has]
   by_cases q:s.dir=m
   ·rw[if_pos q,if_pos q.symm];subst q;exact ⟨rfl,rfl⟩
   ·rw[if_neg q,if_neg fun e=>q e.symm];exact ⟨rfl,rfl⟩
  ·rw[if_neg hl]
   show (zf m (qZ _ _)).kind=_/\(zf m (qZ _ _)).es=_
   rw[Yz]
   split
   ·rename_i e
    have e:(zf s.ino f.xs).ino=m:=e
    rw[hx.2.2]at e;subst e
    rw[if_neg fun e=>hne e.symm];exact ⟨rfl,rfl⟩
   ·rw[YC hs.has]
    by_cases q:s.dir=m
    ·rw[if_pos q,if_pos q.symm];subst q;exact ⟨rfl,rfl⟩
    ·rw[if_neg q,if_neg fun e=>q e.symm];exact ⟨rfl,rfl⟩
 have hsub:∀ m,zw m (zk f s).xs=true->zw m f.xs=true:=fun m hm=>by
  rw[hhas]at hm
  split at hm
  ·rw[Bool.and_eq_true]at hm;exact hm.2
  ·exact hm
 have hstay:∀ m,zw m f.xs=true->m≠s.ino->zw m (zk f s).xs=true:=fun m hm hn=>by
  rw[hhas]
  split
  ·rw[hm,decide_eq_false hn];rfl
  ·exact hm
 refine ⟨⟨fun n e hee=>?_,fun n hn=>⟨hsub n hn,(hgot n hn).1⟩⟩,fun y y1 y2 y3 y4=>?_,hstay _ hs.has hne,?_,?_⟩
 ·cases hn:zw n (zk f s).xs with
  | false=>rw[(Yf hn).2]at hee;cases hee
  | true =>
   rw[(hgot n hn).2]at hee
   split at hee
   ·subst_vars;exact (jB hee).1
   ·exact hee
 ·have hyn:y≠s.ino:=fun e=>y4 (by rw[e];exact .refl)
  have h1:=hstay y y1 hyn
  obtain ⟨q1,q2⟩:=hgot y h1
  rw[if_neg y3]at q2
  exact ⟨h1,q1.trans y2,q2⟩
 ·rw[(hgot _ (hstay _ hs.has hne)).1];exact hs.kind
 ·rw[(hgot _ (hstay _ hs.has hne)).2,if_pos rfl]
def esN (x:zm):Nat:=x.es.length
theorem zee {g:zm->Nat} {xs:List zm} (hR:z7 xs) {x:zm} (hh:zw x.ino xs=true):JO g (qZ x xs)+g (zf x.ino xs)=JO g xs+g x:=by
 have:=Vz g (x:=x) hR
 rw[(zh hh).1]at this
 exact this
theorem ziw {g:zm->Nat} {xs:List zm} (hR:z7 xs) {n:Int} (hh:zw n xs=true):JO g xs=JO g (zS n xs)+g (zf n xs):=by
 have:=Xj g (n:=n) hR
 rw[(zh hh).1]at this
 exact this
theorem V4 {f:FsV} (hi:FsI f) {s:z8} (hs:zI f s) (he:(zf s.ino f.xs).es = []):JO esN (zk f s).xs+1=JO esN f.xs:=by
 have hh:=zI.ino hi hs
 have hx:=zh hh
 have hd:=zh hs.has
 have hne:s.dir≠s.ino:=fun e=>by
  have:=(ql hs.there).2
  rw[e,he]at this
  cases this
 have hR1:z7 (jr s.dir (zg s.name) f.xs):=Jd hi.rises
 have hw:(zf s.dir f.xs).es.length=(zg s.name (zf s.dir f.xs).es).length+1:=by
  have:=Nt (fun _=>true) (hi.es _ hd.2.1) hs.there
  rw[List.filter_eq_self.2 fun _ _=>rfl,List.filter_eq_self.2 fun _ _=>rfl,if_pos rfl]at this
  exact this
 have e1:JO esN (jr s.dir (zg s.name) f.xs)+(zf s.dir f.xs).es.length=JO esN f.xs+(zg s.name (zf s.dir f.xs).es).length:=by
  have:=zee (g:=esN) (x:=jW (zf s.dir f.xs) (zg s.name (zf s.dir f.xs).es)) hi.rises (by show zw (zf s.dir f.xs).ino f.xs=true;rw[hd.2.2];exact hs.has)
  have q:zf (jW (zf s.dir f.xs) (zg s.name (zf s.dir f.xs).es)).ino f.xs=zf s.dir f.xs:=by show zf (zf s.dir f.xs).ino f.xs=_;rw[hd.2.2]
  rw[q]at this
  exact this
 have hi1:zw s.ino (jr s.dir (zg s.name) f.xs)=true:=by rw[JI hs.has];exact hh
 have hg1:zf s.ino (jr s.dir (zg s.name) f.xs)=zf s.ino f.xs:=by rw[YC hs.has,if_neg hne]
 have h0:esN (zf s.ino f.xs)=0:=by unfold esN;rw[he];rfl
 unfold zk
 split
 ·show JO esN (zS _ _)+1=_
  have:=ziw (g:=esN) hR1 hi1
  rw[hg1,h0]at this
  omega
 ·show JO esN (qZ _ _)+1=_
  have:=zee (g:=esN) (x:={ zf s.ino f.xs with links:=(zf s.ino f.xs).links-1 }) hR1 (by show zw (zf s.ino f.xs).ino _=true;rw[hx.2.2];exact hi1)
  have q:zf ({ zf s.ino f.xs with links:=(zf s.ino f.xs).links-1 }:zm).ino (jr s.dir (zg s.name) f.xs)=zf s.ino f.xs:=by show zf (zf s.ino f.xs).ino _=_;rw[hx.2.2];exact hg1
  have q2:esN { zf s.ino f.xs with links:=(zf s.ino f.xs).links-1 }=esN (zf s.ino f.xs):=rfl
  rw[q,q2,h0]at this
  omega
end
section
theorem Bel.up {xs:List zm} {x y:Int} {e:zX} (hh:zw x xs=true) (he:e∈(zf x xs).es) (h:Bel xs e.ino y):Bel xs x y:=by
 induction h with
 | refl=>exact .step .refl hh ⟨e,he,rfl⟩
 | step a b c ih=>exact .step ih b c
structure RmC (d:zK):Prop where
 wi:xw d.w
 wr:znD d.w
 kept:∀ k∈d.w.kept,k.slot<=d.slot
 slot:0<=d.slot
 room:d.slot+(JO esN d.w.fs.xs:Nat)<=1073741824
theorem QG {f:FsV} (hr:FsR f) {s:z8} (hs:zI f s):may s.name=true:=(hr.node _ (zh hs.has).2.1).nam ⟨s.name,s.ino⟩ (ql hs.there).2
theorem zaW {d:zK} (h:RmC d) {s:z8} (hs:zI d.w.fs s) (he:(zf s.ino d.w.fs.xs).es = []) {p:List UInt8} (hp:j9 p=true) (ha:atV d.w.fs p=(s,0)) :
  (Ze d (Q3 p)).2=0/\(Ze d (Q3 p)).1.w.fs=zk d.w.fs s/\RmC (Ze d (Q3 p)).1/\(Ze d (Q3 p)).1.diags=d.diags/\(Ze d (Q3 p)).1.status=d.status:=by
 have hu:=V4 h.wi.fs hs he
 have hroom:=h.room
 have hsl:=h.slot
 have hh:=zI.ino h.wi.fs hs
 have eo:U1 d (Q3 p)=⟨7,d.slot+1,p,[],[]⟩:=rfl
 have hm:yo ⟨7,d.slot+1,p,[],[]⟩=true:=by
  unfold yo
  have e1:kX 7=true:=rfl
  have e2:zpD 7=false:=rfl
  simp only[hp,e1,e2,if_true,Bool.and_eq_true,decide_eq_true_eq]
  refine ⟨⟨⟨⟨⟨⟨by decide,by decide⟩,trivial⟩,by omega,by omega⟩,by simp⟩,by simp⟩,by simp⟩
 have hi:isV d.w.fs p true=(s,zf s.ino d.w.fs.xs,0):=by
  unfold isV
  simp only[ha,hh]
  simp
 have hns:MQ (d.slot+1) d.w.kept=false:=by
  unfold MQ YN
  rw[List.any_eq_false]
  intro k hk q
  have:=h.kept k hk
  have q:k.slot=d.slot+1:=by simpa using q
  omega
 have hdo:doV d.w ⟨7,d.slot+1,p,[],[]⟩=(⟨zk d.w.fs s,qn ⟨d.slot+1,s.ino,false,[]⟩ d.w.kept,if (zf s.ino d.w.fs.xs).links=1 then qZ { zf s.ino d.w.fs.xs with links:=0,parent:=0 } d.w.pool else d.w.pool⟩,0):=by
  unfold doV
  rw[hm]
  simp only[Bool.not_true,Bool.false_eq_true,if_false]
  rw[if_neg (by decide),if_neg (by decide),if_neg (by decide),if_neg (by decide),if_neg (by decide),if_neg (by decide)]
  unfold qQ
  simp only[hi]
  rw[if_neg (fun q=>q rfl),if_neg (fun q=>q he)]
  unfold j8
  rw[hns]
  rfl
 have hkv:(doV d.w ⟨7,d.slot+1,p,[],[]⟩).1=(j8 d.w (d.slot+1) s).1:=by
  rw[hdo]
  unfold j8
  rw[hns]
  rfl
 have hw:=y0 h.wi (n:=d.slot+1) hs he
 have hr:=zpl h.wi h.wr (n:=d.slot+1) (by omega) (by omega) hs he
 rw[←hkv]at hw hr
 have ea:Ze d (Q3 p)=(⟨(doV d.w ⟨7,d.slot+1,p,[],[]⟩).1,d.ops++[⟨7,d.slot+1,p,[],[]⟩],d.diags,d.status,d.slot+1⟩,0):=by
  unfold Ze
  rw[if_neg (by show ¬(7:Int)<7;decide),eo,if_neg (by rw[hdo];exact fun q=>q rfl),if_pos (by show 0<d.slot+1;omega)]
 rw[ea]
 have e1:(doV d.w ⟨7,d.slot+1,p,[],[]⟩).1.fs=zk d.w.fs s:=by rw[hdo]
 refine ⟨rfl,e1,⟨hw,hr,fun k hk=>?_,by show 0<=d.slot+1;omega,?_⟩,rfl,rfl⟩
 ·have hk:k∈(doV d.w ⟨7,d.slot+1,p,[],[]⟩).1.kept:=hk
  rw[hdo]at hk
  show k.slot<=d.slot+1
  rcases JQ.1 hk with rfl | hk
  ·exact Int.le_refl _
  ·have:=h.kept k hk;omega
 ·show d.slot+1+(JO esN (doV d.w ⟨7,d.slot+1,p,[],[]⟩).1.fs.xs:Int)<=1073741824
  rw[e1];omega
structure zhj (d d':zK) (s:z8) (g:FsV):Prop where
 fs:d'.w.fs=g
 c:RmC d'
 less:Gs d.w.fs d'.w.fs
 kept:zj3 d.w.fs d'.w.fs s.ino s.dir
 has:zw s.dir d'.w.fs.xs=true
 kind:(zf s.dir d'.w.fs.xs).kind=2
 es:(zf s.dir d'.w.fs.xs).es=zg s.name (zf s.dir d.w.fs.xs).es
 said:d'.diags=d.diags/\d'.status=d.status
theorem MF {e:zX} {r:List zX} (h:Xv (e :: r)):zg e.name (e :: r)=r:=by
 unfold zg Xd
 obtain ⟨h1,_⟩:=List.pairwise_cons.1 h
 rw[List.filter_cons,if_neg (by simp)]
 refine List.filter_eq_self.2 fun x hx=>?_
 have:=h1 x hx
 have:e.name≠x.name:=fun q=>by
  have this:Op.bytesLess e.name x.name=true:=this
  rw[q,XA]at this;cases this
 simpa using fun q:x.name=e.name=>this q.symm
structure zlP (d0 d:zK) (s:z8) (ns:List (List UInt8)) (L:List zX):Prop where
 c:RmC d
 there:zI d.w.fs s
 lead:Gv d.w.fs.xs ns s.dir
 es:(zf s.ino d.w.fs.xs).es=L
 less:Gs d0.w.fs d.w.fs
 kept:zj3 d0.w.fs d.w.fs s.ino s.ino
 dir:(zf s.dir d.w.fs.xs).es=(zf s.dir d0.w.fs.xs).es
 said:d.diags=d0.diags/\d.status=d0.status
theorem zkh {m:Nat} (IH:∀ d s ns,RmC d->zI d.w.fs s->Gv d.w.fs.xs ns s.dir->(∀ z∈ns,may z=true)->low d.w.fs.xs m s.ino->zhj d (rmD (m+1) d (zW (ns++[s.name])) s.ino) s (rmR m d.w.fs s)) {d0:zK} {s:z8} {ns:List (List UInt8)} (hns:∀ z∈ns,may z=true) {e:zX} {r:List zX} {d:zK} (h:zlP d0 d s ns (e :: r)) (hl:low d.w.fs.xs m e.ino) :
  zlP d0 (rmD (m+1) d (jt (zW (ns++[s.name])) e.name) e.ino) s ns r/\(rmD (m+1) d (jt (zW (ns++[s.name])) e.name) e.ino).w.fs=rmR m d.w.fs ⟨s.ino,e.name,e.ino⟩/\zI d.w.fs ⟨s.ino,e.name,e.ino⟩/\Gv d.w.fs.xs (ns++[s.name]) s.ino/\(∀ z∈ns++[s.name],may z=true)/\jt (zW (ns++[s.name])) e.name=zW (ns++[s.name]++[e.name])/\Gs d.w.fs (rmD (m+1) d (jt (zW (ns++[s.name])) e.name) e.ino).w.fs:=by
 have hi:=h.c.wi.fs
 have hr:=h.c.wr.fs
 obtain ⟨rk,hed⟩:=hr.edge
 have hh:=zI.ino hi h.there
 have hx:=zh hh
 have hin:e∈(zf s.ino d.w.fs.xs).es:=by rw[h.es];exact List.mem_cons_self
 have hk:(zf s.ino d.w.fs.xs).kind=2:=ZG hi hx.2.1 hin
 have hR:=hi.es _ hx.2.1
 rw[h.es]at hR
 have hm:=QG hr h.there
 have hall:∀ z∈ns++[s.name],may z=true:=fun z hz=>by
  rcases List.mem_append.1 hz with hz | hz
  ·exact hns z hz
  ·rw[List.mem_singleton.1 hz];exact hm
 have hfe:jP zX.name e.name (zf s.ino d.w.fs.xs).es=some ⟨e.name,e.ino⟩:=by
  rw[h.es]
  unfold jP
  rw[List.find?_cons_of_pos (by simp)]
 have hse:zI d.w.fs ⟨s.ino,e.name,e.ino⟩:=⟨hh,hk,hfe⟩
 have hle:Gv d.w.fs.xs (ns++[s.name]) s.ino:=.step h.lead h.there.has h.there.kind h.there.there
 have hp:jt (zW (ns++[s.name])) e.name=zW (ns++[s.name]++[e.name]):=by
  rw[xB _ _ hall,ZH _ _ fun y hy=>(XH (hall y hy)).1]
 have ho:=IH d ⟨s.ino,e.name,e.ino⟩ (ns++[s.name]) h.c hse hle hall hl
 rw[←hp]at ho
 have hos:=ho.es
 have hos:(zf s.ino (rmD (m+1) d (jt (zW (ns++[s.name])) e.name) e.ino).w.fs.xs).es=zg e.name (zf s.ino d.w.fs.xs).es:=hos
 rw[h.es,MF hR]at hos
 have hlt:=(hed _ (zh h.there.has).2.1 ⟨s.name,s.ino⟩ (ql h.there.there).2 hk).2
 rw[(zh h.there.has).2.2]at hlt
 have hlt:rk s.dir<rk s.ino:=hlt
 -- directories not deeper than s stay
 have hstay:∀ y,zw y d.w.fs.xs=true->(zf y d.w.fs.xs).kind=2->rk y<rk s.ino->zw y (rmD (m+1) d (jt (zW (ns++[s.name])) e.name) e.ino).w.fs.xs=true/\(zf y (rmD (m+1) d (jt (zW (ns++[s.name])) e.name) e.ino).w.fs.xs).kind=2/\(zf y (rmD (m+1) d (jt (zW (ns++[s.name])) e.name) e.ino).w.fs.xs).es=(zf y d.w.fs.xs).es:=fun y y1 y2 y3=>by
  refine ho.kept y y1 y2 (fun q=>by have q:y=s.ino:=q;rw[q]at y3;omega) fun hB=>?_
  obtain ⟨q1,q2⟩:=zi4 hi hed hB y2
  have:=(hed _ hx.2.1 e hin q1).2
  rw[hx.2.2]at this
  have q2:rk e.ino<=rk y:=q2
  omega
 obtain ⟨k1,k2,k3⟩:=hstay s.dir h.there.has h.there.kind hlt
 have hn:zlP d0 (rmD (m+1) d (jt (zW (ns++[s.name])) e.name) e.ino) s ns r:=by
  refine ⟨ho.c,⟨k1,k2,by rw[k3];exact h.there.there⟩,zcY hi hed h.lead (fun y y1 y2 y3=>hstay y y1 y2 (by omega)) h.there.kind,hos,h.less.trans ho.less,fun y y1 y2 y3 y4=>?_,by rw[k3];exact h.dir,⟨ho.said.1.trans h.said.1,ho.said.2.trans h.said.2⟩⟩
  obtain ⟨z1,z2,z3⟩:=h.kept y y1 y2 y3 y4
  obtain ⟨w1,w2,w3⟩:=ho.kept y z1 z2 y3 fun hB=>y4 (h.less.bel (Bel.up hh hin hB))
  exact ⟨w1,w2,w3.trans z3⟩
 exact ⟨hn,ho.fs,hse,hle,hall,hp,ho.less⟩
theorem zc6 {m:Nat} (IH:∀ d s ns,RmC d->zI d.w.fs s->Gv d.w.fs.xs ns s.dir->(∀ z∈ns,may z=true)->low d.w.fs.xs m s.ino->zhj d (rmD (m+1) d (zW (ns++[s.name])) s.ino) s (rmR m d.w.fs s)) {d0:zK} {s:z8} {ns:List (List UInt8)} (hns:∀ z∈ns,may z=true) :
  ∀ (L:List zX) (d:zK),zlP d0 d s ns L->(∀ e∈L,low d.w.fs.xs m e.ino)->zlP d0 (L.foldl (fun d e=>rmD (m+1) d (jt (zW (ns++[s.name])) e.name) e.ino) d) s ns []/\(L.foldl (fun d e=>rmD (m+1) d (jt (zW (ns++[s.name])) e.name) e.ino) d).w.fs=L.foldl (fun g e=>rmR m g ⟨s.ino,e.name,e.ino⟩) d.w.fs
 | [],d,h,_=>⟨h,rfl⟩
 | e :: r,d,h,hl=>by
  obtain ⟨hn,hf,_,_,_,_,hL⟩:=zkh IH hns h (hl e List.mem_cons_self)
  obtain ⟨g1,g2⟩:=zc6 IH hns r _ hn fun x hx=>hL.low (hl x (List.mem_cons_of_mem _ hx))
  refine ⟨g1,?_⟩
  show (r.foldl _ (rmD (m+1) d (jt (zW (ns++[s.name])) e.name) e.ino)).w.fs=r.foldl _ (rmR m d.w.fs ⟨s.ino,e.name,e.ino⟩)
  rw[g2,hf]
theorem zjZ:∀ (m:Nat) (d:zK) (s:z8) (ns:List (List UInt8)),RmC d->zI d.w.fs s->Gv d.w.fs.xs ns s.dir->(∀ z∈ns,may z=true)->low d.w.fs.xs m s.ino->zhj d (rmD (m+1) d (zW (ns++[s.name])) s.ino) s (rmR m d.w.fs s):=by
 have last:∀ (d0 d:zK) (s:z8) (ns:List (List UInt8)),(∀ z∈ns,may z=true)->zlP d0 d s ns []->zhj d0 (Ze d (Q3 (zW (ns++[s.name])))).1 s (zk d.w.fs s):=fun d0 d s ns hns h=>by
  obtain ⟨p1,p2⟩:=zko h.c.wi.fs h.lead h.there.has h.there.kind hns (QG h.c.wr.fs h.there)
  have ef:zR s.name (zf s.dir d.w.fs.xs).es=s.ino:=by unfold zR;rw[h.there.there]
  rw[ef]at p2
  obtain ⟨q1,q2,q3,q4,q5⟩:=zaW h.c h.there h.es p1 p2
  obtain ⟨u1,u2,u3,u4,u5⟩:=NN h.c.wi.fs h.there h.es
  refine ⟨q2,q3,by rw[q2];exact h.less.trans u1,fun y y1 y2 y3 y4=>?_,by rw[q2];exact u3,by rw[q2];exact u4,by rw[q2,u5,h.dir],⟨q4.trans h.said.1,q5.trans h.said.2⟩⟩
  rw[q2]
  obtain ⟨z1,z2,z3⟩:=h.kept y y1 y2 (fun e=>y4 (by rw[e];exact .refl)) y4
  obtain ⟨w1,w2,w3⟩:=u2 y z1 z2 y3 fun hB=>y4 (h.less.bel hB)
  exact ⟨w1,w2,w3.trans z3⟩
 have start:∀ (d:zK) (s:z8) (ns:List (List UInt8)),RmC d->zI d.w.fs s->Gv d.w.fs.xs ns s.dir->zlP d d s ns (zf s.ino d.w.fs.xs).es:=fun d s ns h1 h2 h3=>⟨h1,h2,h3,rfl,.refl _,fun y y1 y2 _ _=>⟨y1,y2,rfl⟩,rfl,⟨rfl,rfl⟩⟩
 intro m
 induction m with
 | zero =>
  intro d s ns h1 h2 h3 h4 h5
  have he:(zf s.ino d.w.fs.xs).es = []:=h5
  have hst:=start d s ns h1 h2 h3
  rw[he]at hst
  have e1:rmD 1 d (zW (ns++[s.name])) s.ino=(Ze d (Q3 (zW (ns++[s.name])))).1:=by
   show (Ze ((zf s.ino d.w.fs.xs).es.foldl _ d) _).1=_
   rw[he];rfl
  rw[e1]
  exact last d d s ns h4 hst
 | succ m ih =>
  intro d s ns h1 h2 h3 h4 h5
  obtain ⟨g1,g2⟩:=zc6 ih h4 _ d (start d s ns h1 h2 h3) h5
  have hl:=last d _ s ns h4 g1
  rw[g2]at hl
  exact hl
end
section
theorem zep {f:FsV} (h:okV f):∀ (m k:Nat) (n:Int),Dep f.xs k n->zw n f.xs=true->f.xs.length<=m+k->low f.xs m n
 | 0,k,n,hd,hh,hm=>by
  unfold low
  by_cases hk:(zf n f.xs).kind=2
  ·have:=vw h hd hh hk;omega
  ·exact (Xo h.2).file _ (zh hh).2.1 hk
 | m+1,k,n,hd,hh,hm=>fun e he=>by
  exact zep h m (k+1) e.ino (.step hd hh he) ((Xo h.2).led _ (zh hh).2.1 e he) (by omega)
theorem zjq {f:FsV} (h:okV f) {n:Int} (hh:zw n f.xs=true):low f.xs f.xs.length n:=by
 obtain ⟨k,hd⟩:=Hq h hh
 exact zep h _ k n hd hh (by omega)
theorem vF {P:zK->Prop} (h:∀ d p,P d->P (Ze d (Q3 p)).1):∀ (m:Nat) (d:zK) (p:List UInt8) (n:Int),P d->P (rmD m d p n)
 | 0,d,p,n,hd=>hd
 | m+1,d,p,n,hd=>by
  show P (Ze ((zf n d.w.fs.xs).es.foldl _ d) (Q3 p)).1
  refine h _ _ ?_
  generalize (zf n d.w.fs.xs).es=L
  induction L generalizing d with
  | nil=>exact hd
  | cons e r ih=>exact ih _ (vF h m d _ _ hd)
theorem do7 {w:qA} (hi:xw w) {o:OpV} (hk:o.kind=7):(doV w o).1=w∨∃ s,zI w.fs s/\(zf s.ino w.fs.xs).es = []/\(doV w o).1=(j8 w o.slot s).1:=by
 unfold doV
 cases hm:yo o with
 | false=>exact .inl rfl
 | true =>
  obtain ⟨p1,_⟩:=ZE hm
  rw[if_neg (by simp),if_neg (by omega),if_neg (by omega),if_neg (by omega),if_neg (by omega),if_neg (by omega),if_neg (by omega)]
  unfold qQ
  simp only
  by_cases z1:(isV w.fs o.a true).2.2≠0
  ·rw[if_pos z1];exact .inl rfl
  rw[if_neg z1]
  obtain ⟨ht,hn⟩:=vk hi.fs p1 (Classical.not_not.1 z1)
  by_cases z2:(isV w.fs o.a true).2.1.es≠[]
  ·rw[if_pos z2];exact .inl rfl
  rw[if_neg z2]
  exact .inr ⟨_,ht,by rw[←hn];exact Classical.not_not.1 z2,rfl⟩
theorem vR {w:qA} (hi:xw w) {p:List UInt8} {n:Int} (h:(doV w ⟨7,n,p,[],[]⟩).1=w):¬(doV w ⟨7,n,p,[],[]⟩).2=0:=fun hz=>by
 have hm:=zps hz
 obtain ⟨p1,_⟩:=ZE hm
 unfold doV at h hz
 rw[hm]at h hz
 rw[if_neg (by simp),if_neg (show ¬(7:Int)=1 by decide),if_neg (show ¬(7:Int)=2 by decide),if_neg (show ¬(7:Int)=3 by decide),if_neg (show ¬(7:Int)=4 by decide),if_neg (show ¬(7:Int)=5 by decide),if_neg (show ¬(7:Int)=6 by decide)]at h hz
 unfold qQ at h hz
 simp only at h hz
 split at hz
 ·rename_i q;exact q hz
 rename_i z1
 rw[if_neg z1]at h
 split at hz
 ·exact absurd hz (show ¬(5:Int)=0 by decide)
 rename_i z2
 rw[if_neg z2]at h
 unfold j8 at h hz
 split at hz
 ·exact absurd hz (show ¬(13:Int)=0 by decide)
 rename_i z3
 rw[if_neg z3]at h
 have hl:=congrArg (fun w:qA=>w.kept.length) h
 have hl:(qn _ w.kept).length=w.kept.length:=hl
 rw[GQ]at hl
 omega
structure RmB (K:Nat) (d:zK):Prop where
 wi:xw d.w
 len:d.w.fs.xs.length<=40
 node:∀ x∈d.w.fs.xs,uP 40 x
 kept:d.w.kept.length+JO esN d.w.fs.xs<=K
 pool:d.w.pool.length+JO esN d.w.fs.xs<=K
 ops:d.ops.length+JO esN d.w.fs.xs<=K
 diags:d.diags.length<=80000
 slot:0<=d.slot/\d.slot+(JO esN d.w.fs.xs:Nat)<=1073741824+K
 next:d.w.fs.next<=1099511627776
 lim:0<=d.w.fs.maxI/\d.w.fs.maxI<=1073741824/\0<=d.w.fs.maxB/\d.w.fs.maxB<=1073741824
theorem ziP {x:zm} {xs:List zm} (hR:z7 xs):(qZ x xs).length<=xs.length+1:=by
 cases hh:zw x.ino xs with
 | true=>rw[QN hR hh];exact Nat.le_succ _
 | false=>rw[zkl hR hh];exact Nat.le_refl _
theorem za6 (f:FsV) (s:z8):(zk f s).maxI=f.maxI/\(zk f s).maxB=f.maxB:=by unfold zk;split<;>exact ⟨rfl,rfl⟩
theorem RmB.add {K:Nat} {d:zK} (h:RmB K d) (p:List UInt8):RmB K (Ze d (Q3 p)).1/\Gs d.w.fs (Ze d (Q3 p)).1.w.fs:=by
 by_cases hz:(Ze d (Q3 p)).2=0
 case neg=>rw[Md hz];exact ⟨h,.refl _⟩
 have eo:U1 d (Q3 p)=⟨7,d.slot+1,p,[],[]⟩:=rfl
 have hsl:=h.slot.1
 unfold Ze at hz ⊢
 rw[eo]at hz ⊢
 rw[if_neg (show ¬7<(Q3 p).kind by show ¬(7:Int)<7;decide)]at hz ⊢
 split at hz
 ·rename_i hd;exact absurd hz hd
 rename_i hd
 rw[if_neg hd,if_pos (by show 0<d.slot+1;omega)]
 have hd:=Classical.not_not.1 hd
 rcases do7 h.wi (o:=⟨7,d.slot+1,p,[],[]⟩) rfl with e | ⟨s,hs,he,e⟩
 ·exact absurd hd (vR h.wi e)
 ·have hne:MQ (d.slot+1) d.w.kept=false:=by
   cases hq:MQ (d.slot+1) d.w.kept with
   | false=>rfl
   | true =>
    have e2:(j8 d.w (d.slot+1) s).1=d.w:=by unfold j8;rw[hq];rfl
    rw[e2]at e
    exact absurd hd (vR h.wi e)
  have ek:(j8 d.w (d.slot+1) s).1=⟨zk d.w.fs s,qn ⟨d.slot+1,s.ino,false,[]⟩ d.w.kept,if (zf s.ino d.w.fs.xs).links=1 then qZ { zf s.ino d.w.fs.xs with links:=0,parent:=0 } d.w.pool else d.w.pool⟩:=by unfold j8;rw[hne];rfl
  have hw:=y0 h.wi (n:=d.slot+1) hs he
  rw[ek]at hw
  rw[e,ek]
  have hu:=V4 h.wi.fs hs he
  obtain ⟨b1,b2,_⟩:=zk2 h.wi.fs h.len h.node hs
  obtain ⟨l1,l2⟩:=za6 d.w.fs s
  have k1:=h.kept
  have k2:=h.pool
  have k3:=h.ops
  have k4:=h.slot
  refine ⟨⟨hw,b1,b2,?_,?_,?_,h.diags,⟨by show 0<=d.slot+1;omega,by show d.slot+1+(JO esN (zk d.w.fs s).xs:Int)<=_;omega⟩,by show (zk d.w.fs s).next<=_;rw[JB];exact h.next,by show 0<=(zk d.w.fs s).maxI/\_;rw[l1,l2];exact h.lim⟩,(NN h.wi.fs hs he).1⟩
  ·show (qn _ _).length+JO esN (zk d.w.fs s).xs<=K
   rw[GQ];omega
  ·show (if (zf s.ino d.w.fs.xs).links=1 then _ else d.w.pool).length+JO esN (zk d.w.fs s).xs<=K
   split
   ·have:=ziP (x:={ zf s.ino d.w.fs.xs with links:=0,parent:=0 }) h.wi.pool
    omega
   ·omega
  ·show (d.ops++[_]).length+JO esN (zk d.w.fs s).xs<=K
   rw[List.length_append,List.length_singleton];omega
end
section
def VB (p:List UInt8):List UInt8:=if zr p = [] then p else put (QE p) (zr p) false
theorem Qc (p:List UInt8):yy (zr p)<=p.length+1:=by
 unfold yy
 rw[jL]
 exact Nat.le_trans (ZO _ _) (Nat.le_of_eq (xX p))
theorem Z9 (p:List UInt8):∀ x∈zr p,X1 x:=fun x hx=>zfp hx
theorem zgr {p:List UInt8} (h:QE p=true):yy (zr p)<=p.length:=by
 unfold QE at h
 cases p with
 | nil=>simp[Lib.hasPrefix]at h
 | cons c r =>
  have hc:c=47:=by
   rw[Vu]at h
   simpa using h
  subst hc
  rw[Ql]
  have:=Qc r
  simp only[List.length_cons]
  exact this
theorem kj {ns:List (List UInt8)} (h:ns≠[]):(Lib.join ns [47]).length+1<=yy ns:=by
 have:=YT ns h
 unfold yy
 omega
theorem zcC (p:List UInt8) (h:zr p≠[]):(VB p).length<=p.length:=by
 unfold VB
 rw[if_neg h]
 unfold put
 have h1:=kj h
 have h2:=Qc p
 cases ha:QE p with
 | true=>have:=zgr ha;simp;omega
 | false=>simp;omega
theorem N2 {p:List UInt8} (h:zr p≠[]):zr (VB p)=zr p/\QE (VB p)=QE p/\qL (VB p)=false/\VB p≠[]:=by
 have hn:=Z9 p
 have e:VB p=put (QE p) (zr p) false:=by unfold VB;rw[if_neg h]
 rw[e]
 have h1:=zeh (QE p) (zr p) false hn
 refine ⟨h1,zk5 _ _ _ hn,?_,fun q=>?_⟩
 ·have:=MG (QE p) (zr p) false hn
  unfold qL
  rw[h1,this];rfl
 ·rw[q]at h1;exact h h1.symm
theorem zgR {p:List UInt8} (h:zr p≠[]) (hl:XU p=false):XU (VB p)=false:=by
 have h1:=(N2 h).1
 have h2:=zcC p h
 unfold XU at hl ⊢
 rw[Bool.or_eq_false_iff]at hl ⊢
 rw[h1]
 refine ⟨hl.1,decide_eq_false fun q=>?_⟩
 have:=of_decide_eq_false hl.2
 omega
theorem zh6 {f:FsV} (hi:FsI f) {b:List UInt8} (h:(Y8 f b).2=0):zw (Y8 f b).1 f.xs=true:=by
 unfold Y8 at h ⊢
 split at h
 ·rename_i q;exact absurd h q
 rename_i q1
 rw[if_neg q1]
 split at h
 ·exact absurd h (show ¬(1:Int)=0 by decide)
 rename_i q2
 rw[if_neg q2]
 split at h
 ·exact absurd h (show ¬(3:Int)=0 by decide)
 rename_i q3
 rw[if_neg q3]
 have hk:=Classical.not_not.1 q3
 have hh:=vJ hk
 show zw (zf _ f.xs).ino f.xs=true
 rw[(zh hh).2.2];exact hh
theorem zbB {f:FsV} (hi:FsI f) (hr:FsR f) {b p:List UInt8} {l:QB} {nm:List UInt8} (hn:zr p=l++[nm]) (n1:nm≠[46]) (n2:nm≠[46,46]) {t:z8} (h:z6 f b p false=(t,0)) (ht:t.ino≠0)
  (hl:¬(qL p=true/\(z6 f b (VB p) false).2=0/\(zf (z6 f b (VB p) false).1.ino f.xs).kind=3)):zI f t:=by
 have hne:zr p≠[]:=by rw[hn];simp
 have hp:p≠[]:=fun e=>hne (by rw[e];rfl)
 obtain ⟨e1,e2,e3,e4⟩:=N2 hne
 have key:∀ from0:Int,zw from0 f.xs=true->onN f false 40 (zr p) ⟨0,[],from0⟩ (qL p)=(t,0)->(z6 f b (VB p) false=onN f false 40 (zr p) ⟨0,[],from0⟩ false)->zI f t:=fun from0 h0 h1 h2=>by
  rw[hn]at h1 h2
  rcases QD hi hr (nm:=nm) 40 l ⟨0,[],from0⟩ (fun _=>h0) with ⟨e,g1,g2⟩ | ⟨k',s',g1,g2⟩
  ·rw[g2]at h1
   exact absurd (Prod.mk.inj h1).2 g1
  ·rw[g2]at h1 h2
   rcases zk0 hi n1 n2 g1 h1 ht with g | ⟨g3,u,g4,g5⟩
   ·exact g
   ·rw[g4]at h2
    exact absurd ⟨g3,by rw[h2],by rw[h2];exact g5⟩ hl
 unfold z6 at h
 rw[if_neg hp]at h
 cases hlg:XU p with
 | true=>rw[hlg,if_pos rfl]at h;cases h
 | false =>
  rw[hlg,if_neg (by simp)]at h
  have hle:=zgR hne hlg
  cases ha:QE p with
  | true =>
   rw[ha,if_pos rfl]at h
   refine key 1 hi.root h ?_
   unfold z6
   rw[if_neg e4,hle,if_neg (by simp),e2,ha,if_pos rfl,e1,e3]
  | false =>
   rw[ha,if_neg (by simp)]at h
   by_cases hz:(Y8 f b).2≠0
   ·rw[if_pos hz]at h
    exact absurd (Prod.mk.inj h).2 hz
   ·rw[if_neg hz]at h
    refine key _ (zh6 hi (Classical.not_not.1 hz)) h ?_
    unfold z6
    rw[if_neg e4,hle,if_neg (by simp),e2,ha,if_neg (by simp),if_neg hz,e1,e3]
end
section
def Um (f:FsV) (b p:List UInt8):Bool:=qL p&&decide ((z6 f b (VB p) false).2=0)&&decide ((zf (z6 f b (VB p) false).1.ino f.xs).kind=3)
def zim (o:List UInt8) (x:zm):Int:=if x.kind≠2∨(114:UInt8)∈o then 0 else if (100:UInt8)∉o then 4 else if x.es≠[] then 5 else 0
def zf2 (f:FsV) (b p:List UInt8):Int:=if (z6 f b p false).2=0/\(z6 f b p false).1.ino=0 then 1 else (z6 f b p false).2
def Mf (f:FsV) (b o p:List UInt8):Int×Int×Bool:=
 if Yw p = [47] then (4,0,false) else if Yw p = [46]∨Yw p = [46,46] then (3,0,false)
 else if zf2 f b p≠0 then (if (102:UInt8)∈o/\(zf2 f b p=1∨zf2 f b p=3) then 0 else 2,zf2 f b p,false)
 else if Um f b p then (2,3,false)
 else if zim o (zf (z6 f b p false).1.ino f.xs)≠0 then (2,zim o (zf (z6 f b p false).1.ino f.xs),false)
 else (0,0,true)
theorem vC {f:FsV} {b o p:List UInt8} (h:(Mf f b o p).2.2=true):Yw p≠[47]/\Yw p≠[46]/\Yw p≠[46,46]/\zf2 f b p=0/\Um f b p=false/\(Mf f b o p).1=0:=by
 unfold Mf at h ⊢
 by_cases h1:Yw p = [47]
 ·rw[if_pos h1]at h;cases h
 rw[if_neg h1]at h ⊢
 by_cases h2:Yw p = [46]∨Yw p = [46,46]
 ·rw[if_pos h2]at h;cases h
 rw[if_neg h2]at h ⊢
 by_cases h3:zf2 f b p≠0
 ·rw[if_pos h3]at h;cases h
 rw[if_neg h3]at h ⊢
 cases h4:Um f b p with
 | true=>rw[h4,if_pos rfl]at h;cases h
 | false =>
  rw[h4,if_neg (by simp)]at h
  by_cases h5:zim o (zf (z6 f b p false).1.ino f.xs)≠0
  ·rw[if_pos h5]at h;cases h
  rw[if_neg (by simp),if_neg h5]
  exact ⟨h1,fun e=>h2 (.inl e),fun e=>h2 (.inr e),Classical.not_not.1 h3,rfl,rfl⟩
def yC (b o:List UInt8) (d:zK) (p:List UInt8):zK:=
 let v:=Mf d.w.fs b o p
 if v.1≠0 then Ja d (XT 2 v.1 p [] v.2.1)
 else if v.2.2 then rmD (d.w.fs.xs.length+1) d (Yy d.w.fs (z6 d.w.fs b p false).1) (z6 d.w.fs b p false).1.ino
 else d
def zq5 (b o:List UInt8) (f:FsV) (p:List UInt8):FsV:=
 if (Mf f b o p).2.2 then rmR f.xs.length f (z6 f b p false).1 else f
def zjk (b o:List UInt8) (l:List (List UInt8)) (d:zK):zK:=l.foldl (yC b o) d
structure RmG (K:Nat) (d:zK):Prop where
 b:RmB K d
 c:RmC d
theorem RmG.ok {K:Nat} {d:zK} (h:RmG K d):okV d.w.fs:=⟨⟨h.b.len,fun x hx=>by obtain ⟨q1,q2,q3⟩:=h.b.node x hx;exact ⟨q2,q1,q3⟩⟩,h.c.wr.fs.check h.c.wi.fs h.b.next⟩
theorem zb4 {p:List UInt8} (h:Yw p≠[47]) (h2:Yw p≠[]):∃ l,zr p=l++[Yw p]:=by
 unfold Yw at h h2 ⊢
 rcases List.eq_nil_or_concat (zr p) with e | ⟨l,x,e⟩
 ·rw[e]at h h2
  cases hq:Lib.hasPrefix p [47] with
  | true=>rw[hq]at h;exact absurd rfl h
  | false=>rw[hq]at h2;exact absurd rfl h2
 ·rw[e,List.concat_eq_append]
  exact ⟨l,by simp⟩
theorem NE {f:FsV} (hi:FsI f) (hr:FsR f) {b o p:List UInt8} (h:(Mf f b o p).2.2=true):zI f (z6 f b p false).1:=by
 obtain ⟨h1,h2,h2',h3,h4,_⟩:=vC h
 have hs:(z6 f b p false).2=0/\(z6 f b p false).1.ino≠0:=by
  unfold zf2 at h3
  by_cases q:(z6 f b p false).2=0/\(z6 f b p false).1.ino=0
  ·rw[if_pos q]at h3;cases h3
  ·rw[if_neg q]at h3
   exact ⟨h3,fun e=>q ⟨h3,e⟩⟩
 have hb:Yw p≠[]:=fun e=>by
  unfold Yw at e
  rcases List.eq_nil_or_concat (zr p) with e2 | ⟨l,x,e2⟩
  ·rw[e2]at e
   have hp:Lib.hasPrefix p [47]=false:=by
    cases hq:Lib.hasPrefix p [47] with
    | true=>rw[hq]at e;cases e
    | false=>rfl
   have hn:=zam p e2
   rw[hp]at hn
   have hp0:p = []:=by simpa using hn
   have:(z6 f b p false).2=1:=by rw[hp0];rfl
   rw[hs.1]at this;cases this
  ·rw[e2,List.concat_eq_append]at e
   have e:x = []:=by simpa using e
   have:=Z9 p x (by rw[e2];simp)
   exact this.1 e
 obtain ⟨l,hl⟩:=zb4 h1 hb
 refine zbB hi hr hl h2 h2' (Prod.ext rfl hs.1) hs.2 fun q=>?_
 unfold Um at h4
 rw[q.1,decide_eq_true q.2.1,decide_eq_true q.2.2]at h4
 cases h4
theorem zgE {K:Nat} {d:zK} (h:RmG K d) (b o p:List UInt8):RmG K (yC b o d p)/\(yC b o d p).w.fs=zq5 b o d.w.fs p/\(yC b o d p).diags=(if (Mf d.w.fs b o p).1≠0 then d.diags++[XT 2 (Mf d.w.fs b o p).1 p [] (Mf d.w.fs b o p).2.1] else d.diags)∨80000<=d.diags.length:=by
 by_cases hdl:80000<=d.diags.length
 ·exact .inr hdl
 left
 unfold yC zq5
 simp only
 by_cases h1:(Mf d.w.fs b o p).1≠0
 ·rw[if_pos h1,if_pos h1]
  have h2:(Mf d.w.fs b o p).2.2=false:=by
   cases hq:(Mf d.w.fs b o p).2.2 with
   | false=>rfl
   | true=>exact absurd (vC hq).2.2.2.2.2 h1
  rw[h2]
  have hb:=h.b
  have hc:=h.c
  exact ⟨⟨⟨hb.wi,hb.len,hb.node,hb.kept,hb.pool,hb.ops,by show (d.diags++[_]).length<=80000;simp;omega,hb.slot,hb.next,hb.lim⟩,⟨hc.wi,hc.wr,hc.kept,hc.slot,hc.room⟩⟩,rfl,rfl⟩
 ·rw[if_neg h1,if_neg h1]
  cases h2:(Mf d.w.fs b o p).2.2 with
  | false=>exact ⟨h,rfl,rfl⟩
  | true =>
   rw[if_pos rfl,if_pos rfl]
   have hi:=h.c.wi.fs
   have hr:=h.c.wr.fs
   have ht:=NE hi hr h2
   obtain ⟨ns,n1,n2,n3⟩:=zi8 h.ok ht.has ht.kind
   have hm:=QG hr ht
   have e:Yy d.w.fs (z6 d.w.fs b p false).1=zW (ns++[(z6 d.w.fs b p false).1.name]):=by
    unfold Yy
    rw[n2,Option.getD_some,ZH ns _ fun y hy=>(XH (n1 y hy)).1]
   have hs:=zjZ _ d _ ns h.c ht n3 n1 (zjq h.ok (zI.ino hi ht))
   have hB:=vF (P:=RmB K) (fun d p hd=>(hd.add p).1) (d.w.fs.xs.length+1) d (Yy d.w.fs (z6 d.w.fs b p false).1) (z6 d.w.fs b p false).1.ino h.b
   rw[e]at hB ⊢
   exact ⟨⟨hB,hs.c⟩,hs.fs,hs.said.1⟩
end
section
theorem zlm {w:qA} (h:okW w):JO esN w.fs.xs<=1600:=by
 have h1:=h.1.2.1.1
 have h2:∀ xs:List zm,(∀ x∈xs,x.es.length<=40)->JO esN xs<=xs.length*40:=fun xs=>by
  induction xs with
  | nil=>intro _;exact Nat.zero_le _
  | cons x r ih =>
   intro hx
   have:=ih fun y hy=>hx y (List.mem_cons_of_mem _ hy)
   have h0:=hx x List.mem_cons_self
   unfold JO at this ⊢
   rw[List.map_cons,List.sum_cons,List.length_cons]
   unfold esN at this ⊢
   omega
 have:=h2 w.fs.xs fun x hx=>(h.1.2.1.2 x hx).2.1
 omega
theorem zpw {w:qA} (h:okW w) (hn:w.fs.next<=549755813888) (hl:jz w.kept<=536870912):RmG 2000 (HX w):=by
 have hB:=za7 h
 have he:=zlm h
 have hs:=Uu h.2.2.2.2.1
 refine ⟨⟨zm0 h,hB.len,hB.node,by have:=hB.klen;show w.kept.length+JO esN w.fs.xs<=_;omega,by have:=hB.plen;show w.pool.length+JO esN w.fs.xs<=_;omega,by show 0+JO esN w.fs.xs<=_;omega,Nat.zero_le _,⟨hs.1,by show jz w.kept+(JO esN w.fs.xs:Int)<=_;omega⟩,by show w.fs.next<=_;omega,?_⟩,⟨zm0 h,zoS h,hs.2,hs.1,by show jz w.kept+(JO esN w.fs.xs:Int)<=_;omega⟩⟩
 have:=(zoS h).fs.lim
 exact ⟨by show 0<=w.fs.maxI;omega,this.2.1,this.2.2⟩
end
section
open CA CB
open Go.RowKit
theorem zkj (w:qA) (hw:xw w) (hs:zmI w) (s:Int) (a:List UInt8) (ha:a.length<=100000):Fun Tryz.prog GD 122 [Zd w,.agg (opL ⟨7,s,a,[],[]⟩)] (.tup [Zd (doV w ⟨7,s,a,[],[]⟩).1,.sc (.int .i64 (doV w ⟨7,s,a,[],[]⟩).2)]) 0:=by
 have ho:zg8 ⟨7,s,a,[],[]⟩:=⟨ha,Nat.zero_le _,Nat.zero_le _⟩
 have hop:=(zfr 7 s a [] [] ho).gd1
 cases hm:yo ⟨7,s,a,[],[]⟩ with
 | false =>
  have e:doV w ⟨7,s,a,[],[]⟩=(w,12):=by unfold doV;rw[hm];rfl
  rw[hm]at hop
  rw[e]
  unfold opL qy at hop
  unfold opL
  refine fof (fun i=>if i=3 then [false,false,false,false,false,false,false,false,false,true] else []) Tryz.func122 ?_;dsimp only[Tryz.f122]
  push_cast -dsimp
  refine cl (hop) ?_;push_cast -dsimp
  exact dn (by push_cast -dsimp [zb,za,CLe,zd])
 | true =>
  obtain ⟨p1,_⟩:=ZE hm
  have e:doV w ⟨7,s,a,[],[]⟩=qQ w ⟨7,s,a,[],[]⟩:=by unfold doV;rw[hm];rfl
  have hq:Fun Tryz.prog GD 193 _ _ 0:=(zc9 w hw hs ⟨7,s,a,[],[]⟩ ho p1).g0
  rw[hm]at hop
  rw[e]
  unfold opL qy at hop
  unfold opL at hq ⊢
  refine fof (fun i=>if i=3 then [false,false,false,false,false,false,false,false,false,true] else []) Tryz.func122 ?_;dsimp only[Tryz.f122]
  push_cast -dsimp
  refine cl (hop) ?_;push_cast -dsimp
  refine cl (zfI (G:=GD)) ?_;push_cast -dsimp [zjy,UL,reduceIte,Int.reduceEq,Option.map_some,Option.map_none]
  refine cl (hq) ?_;push_cast -dsimp
  exact dn (by push_cast -dsimp [zb,za,CLe,zd])
theorem zoL (d:zK) (hd:ze0 d) (p:List UInt8) (hp:p.length<=100000):Fun Tryz.prog GD 67 [VV d,.agg (opL (Q3 p))] (.tup [VV (Ze d (Q3 p)).1,.sc (.int .i64 (Ze d (Q3 p)).2)]) 0:=by
 have hsl:=GR (G:=GD) ⟨7,0,p,[],[]⟩
 rw[decide_eq_true (show (7:Int)=3∨(7:Int)=7 by decide)]at hsl
 have hb1:=hd.slot.1
 have hb2:=hd.slot.2
 have hopl:(d.ops.map opL).length=d.ops.length:=List.length_map ..
 have hol:=hd.ops
 have hl5:∀ l:List OpV,∀ r∈l.map opL,r.length=5:=fun l r hr=>by obtain ⟨x,_,rfl⟩:=List.mem_map.1 hr;rfl
 have hst:∀ l:List OpV,jo (l.map opL):=fun l r hr=>by obtain ⟨x,_,rfl⟩:=List.mem_map.1 hr;rfl
 have hX:=zcM (G:=GD) (d.ops.map opL) (([⟨7,d.slot+1,p,[],[]⟩]:List OpV).map opL) (hl5 _) (hl5 _) (hst _) (hst _) (by omega) (by simp) (by simp)
 rw[←List.map_append]at hX
 have hc:=(hX.fun (r:=.own 0 57 5 ((d.ops++([⟨7,d.slot+1,p,[],[]⟩]:List OpV)).map opL)) (n:=1) (by
  rintro r bx m ⟨rfl,c,B,hB,rfl,rfl⟩
  exact ⟨[(0,57,5,(d.ops++([⟨7,d.slot+1,p,[],[]⟩]:List OpV)).map opL,c)],[.inl 0],hB.ok rfl (by simp) (hl5 _),rfl,rfl,by push_cast -dsimp [zb,za,CLe,zd,List.length_map]⟩)).weak (r':=.sl 5 ((d.ops++([⟨7,d.slot+1,p,[],[]⟩]:List OpV)).map opL)) (by push_cast -dsimp [zb,za,CLe,zd])
 have hdo:=zkj d.w hd.wi hd.ws (d.slot+1) p hp
 have ea:Ze d (Q3 p)=if (doV d.w ⟨7,d.slot+1,p,[],[]⟩).2≠0 then (d,(doV d.w ⟨7,d.slot+1,p,[],[]⟩).2) else (⟨(doV d.w ⟨7,d.slot+1,p,[],[]⟩).1,d.ops++[⟨7,d.slot+1,p,[],[]⟩],d.diags,d.status,if 0<d.slot+1 then d.slot+1 else d.slot⟩,0):=by
  unfold Ze
  rw[if_neg (show ¬7<(Q3 p).kind by show ¬(7:Int)<7;decide),show U1 d (Q3 p)=⟨7,d.slot+1,p,[],[]⟩ from rfl]
 have hmx:(if d.slot+1>d.slot then d.slot+1 else d.slot)=d.slot+1:=if_pos (by omega)
 unfold opL at hsl hdo
 rw[show opL (Q3 p) = [.sc (.int .i64 7),.sc (.int .i64 0),.str p,.str [],.str []] from rfl]
 by_cases hz:(doV d.w ⟨7,d.slot+1,p,[],[]⟩).2=0
 ·rw[ea,if_neg (fun h=>h hz),if_pos (show 0<d.slot+1 by omega)]
  rw[hz]at hdo
  simp only[List.map_cons,List.map_nil,znj]at hc
  refine fon Tryz.func67 ?_;dsimp only[Tryz.f67]
  push_cast -dsimp
  refine cl (hsl) ?_;push_cast -dsimp
  repeat refine an ?_
  push_cast -dsimp
  refine cl (hdo) ?_;push_cast -dsimp
  refine cl (hc) ?_;push_cast -dsimp [hmx]
  exact dn (by push_cast -dsimp [zb,za,CLe,zd])
 ·have hz':=eq_false hz
  rw[ea,if_pos hz]
  refine fon Tryz.func67 ?_;dsimp only[Tryz.f67]
  push_cast -dsimp
  refine cl (hsl) ?_;push_cast -dsimp
  repeat refine an ?_
  push_cast -dsimp
  refine cl (hdo) ?_;push_cast -dsimp [hz']
  exact dn (by push_cast -dsimp [zb,za,CLe,zd])
end
section
open CA CB
open Go.RowKit
theorem zbw (f:FsV) (hf:FsI f) (hs:FsS f) (p:List UInt8) (hp:p.length<=100000):Fun Tryz.prog G0 153 [.agg (fsC f),.str p] (.tup [.agg (JJ (Jp f p).1),.sc (.int .i64 (Jp f p).2)]) 0:=by
 have h1:=vV f hf hs p hp
 have h2:=jA (G:=G0) f (atV f p).1.ino (by have:=hs.len;omega) hf.rises
 by_cases c1:(atV f p).2=0
 ·have c1':=eq_true c1
  cases hh:zw (atV f p).1.ino f.xs with
  | false =>
   have h0:(atV f p).1.ino=0:=Classical.byContradiction fun hne=>by
    have:zw (atV f p).1.ino f.xs=true:=by
     unfold atV at hne ⊢
     split at hne
     ·rename_i q;rw[if_pos q];exact zfA hf _ _ (fun _=>hf.root) hne
     ·exact absurd rfl hne
    rw[this]at hh;cases hh
   have e:Jp f p=(xo,1):=by unfold Jp;rw[if_neg (fun h=>h c1),if_pos h0]
   rw[c1]at h1
   rw[hh]at h2
   refine fon Tryz.func153 ?_;dsimp only[Tryz.f153]
   push_cast -dsimp
   refine cl (h1) ?_;push_cast -dsimp
   refine cl (h2) ?_;push_cast -dsimp
   exact dn (by push_cast -dsimp [zb,za,CLe,zd,e,xo])
  | true =>
   have h0:=UE hf hh
   have e:Jp f p=(zf (atV f p).1.ino f.xs,0):=by unfold Jp;rw[if_neg (fun h=>h c1),if_neg h0]
   rw[c1]at h1
   rw[hh]at h2
   refine fon Tryz.func153 ?_;dsimp only[Tryz.f153]
   push_cast -dsimp
   refine cl (h1) ?_;push_cast -dsimp
   refine cl (h2) ?_;push_cast -dsimp
   exact dn (by push_cast -dsimp [zb,za,CLe,zd,e])
 ·have e:Jp f p=(xo,(atV f p).2):=by unfold Jp;rw[if_pos c1]
  refine fon Tryz.func153 ?_;dsimp only[Tryz.f153]
  push_cast -dsimp
  refine cl (h1) ?_;push_cast -dsimp [c1]
  exact dn (by push_cast -dsimp [zb,za,CLe,zd,e,xo])
theorem zfG (f:FsV) (hf:FsI f) (hs:FsS f) (p:List UInt8) (hp:p.length<=100000):Fun Tryz.prog G0 110 [.agg (fsC f),.str p] (.tup [.sc (.int .i64 (Y8 f p).1),.sc (.int .i64 (Y8 f p).2)]) 0:=by
 have h1:=zbw f hf hs p hp
 by_cases c1:(Jp f p).2=0
 ·have d1:(atV f p).2=0/\(atV f p).1.ino≠0/\(Jp f p).1=zf (atV f p).1.ino f.xs:=by
   unfold Jp at c1 ⊢
   split at c1
   ·rename_i h;exact absurd c1 h
   ·rename_i h
    split at c1
    ·exact absurd c1 (show ¬(1:Int)=0 by decide)
    ·rename_i h';rw[if_neg h,if_neg h'];exact ⟨Classical.not_not.1 h,h',rfl⟩
  rw[c1]at h1
  by_cases c2:(Jp f p).1.kind=2
  ·have e:Y8 f p=((Jp f p).1.ino,0):=by unfold Y8;rw[if_neg (fun h=>h d1.1),if_neg d1.2.1,if_neg (by rw[←d1.2.2];exact fun h=>h c2),d1.2.2]
   refine fon Tryz.func110 ?_;dsimp only[Tryz.f110]
   push_cast -dsimp
   refine cl (h1) ?_;push_cast -dsimp [c2]
   exact dn (by push_cast -dsimp [zb,za,CLe,zd,e])
  ·have e:Y8 f p=(0,3):=by unfold Y8;rw[if_neg (fun h=>h d1.1),if_neg d1.2.1,if_pos (by rw[←d1.2.2];exact c2)]
   refine fon Tryz.func110 ?_;dsimp only[Tryz.f110]
   push_cast -dsimp
   refine cl (h1) ?_;push_cast -dsimp [c2]
   exact dn (by push_cast -dsimp [zb,za,CLe,zd,e])
 ·have e:Y8 f p=(0,(Jp f p).2):=by
   unfold Y8 Jp
   unfold Jp at c1
   split
   ·rfl
   ·rename_i h
    rw[if_neg h]at c1
    split
    ·rfl
    ·rename_i h';rw[if_neg h']at c1;exact absurd rfl c1
  refine fon Tryz.func110 ?_;dsimp only[Tryz.f110]
  push_cast -dsimp
  refine cl (h1) ?_;push_cast -dsimp [c1]
  exact dn (by push_cast -dsimp [zb,za,CLe,zd,e])
theorem zd9 {G:zn} (a b:List (List UInt8)) (la:a.length<=90000) (lb:b.length<=90000):Fun Tryz.prog G 58 [.sl 1 [[.sl 1 (zQ a)],[.sl 1 (zQ b)]]] (.sl 1 (zQ (a++b))) 0:=by
 have hl:∀ l:List (List UInt8),∀ r∈zQ l,r.length=1:=fun l r hr=>by obtain ⟨x,_,rfl⟩:=List.mem_map.1 hr;rfl
 have hs:∀ l:List (List UInt8),jo (zQ l):=fun l r hr=>by obtain ⟨x,_,rfl⟩:=List.mem_map.1 hr;rfl
 have hla:(zQ a).length=a.length:=List.length_map ..
 have hlb:(zQ b).length=b.length:=List.length_map ..
 by_cases h0:0<a.length+b.length
 ·have h:=MM (G:=G) (zQ a) (zQ b) (hl a) (hl b) (hs a) (hs b) (by omega) (by omega) (by omega)
  have e:zQ a++zQ b=zQ (a++b):=List.map_append.symm
  rw[e]at h
  refine (h.fun (r:=.own 0 9 1 (zQ (a++b))) (n:=1) (by
   rintro r bx m ⟨rfl,c,B,hB,rfl,rfl⟩
   exact ⟨[(0,9,1,zQ (a++b),c)],[.inl 0],hB.ok rfl (by rw[List.length_map,List.length_append];exact h0) (hl _),rfl,rfl,by push_cast -dsimp [zb,za,CLe,zd,List.length_map]⟩)).weak (by push_cast -dsimp [zb,za,CLe,zd])
 ·have ha:a = []:=List.eq_nil_of_length_eq_zero (by omega)
  have hb:b = []:=List.eq_nil_of_length_eq_zero (by omega)
  subst ha hb
  exact Nz
end
section
open CA CB
open Go.RowKit
abbrev zjC (f:FsV) (fol dir:Bool) (todo:QB) (s:z8) (n:Int):List C:=[.sc (.int .i64 f.maxI),.sc (.int .i64 f.maxB),.sc (.int .i64 f.next),.sl 6 (zp f.xs),.sc (.bool fol),.sc (.bool dir),.sl 1 (zQ todo),.sc (.int .i64 s.dir),.str s.name,.sc (.int .i64 s.ino),.sc (.int .i64 n)]
abbrev YF:List C:=[.any,.any,.any,.any,.any,.any,.any,.any,.any,.any,.any]
theorem Hz (f:FsV) (fol dir:Bool) (todo:QB) (s:z8) (n:Nat) (x d:zm) (hx:x.data.length<=10000) (ht:todo.length<=80000) (hn:n<=40):Y1 Tryz.prog G0 112 [.ptr 0 0,.agg (JJ x),.agg (JJ d)] [zjC f fol dir todo s n] 0 (fun r bx m=>m=0 /\
  ((n=40/\r = .sc (.int .i64 6)/\bx = [YF])∨(n<40/\XU x.data=true/\r = .sc (.int .i64 7)/\bx = [YF])∨(n<40/\XU x.data=false/\r = .sc (.int .i64 0)/\bx = [zjC f fol (dir||(qL x.data&&decide (todo = []))) (zr x.data++todo) ⟨0,[],if QE x.data then 1 else d.ino⟩ (n+1:Nat)]))):=by
 by_cases h40:n=40
 ·have hc:((40:Int)<(n:Int)+1)=True:=eq_true (by omega)
  refine foX (fun _=>[]) Tryz.func112 ?_;dsimp only[Tryz.f112]
  push_cast -dsimp [hc]
  repeat refine an ?_
  exact ⟨_,[YF],0,⟨⟨rfl,.inl ⟨h40,rfl,rfl⟩⟩,Nat.le_refl _⟩,[],rfl,rfl,by push_cast -dsimp [zb,za,CLe,zd],by push_cast -dsimp [zb,za,CLe,zd]⟩
 have hc:((40:Int)<(n:Int)+1)=False:=eq_false (by omega)
 have hlg:=vI x.data (by omega)
 cases hl:XU x.data with
 | true =>
  rw[hl]at hlg
  refine foX (fun _=>[]) Tryz.func112 ?_;dsimp only[Tryz.f112]
  push_cast -dsimp [hc]
  repeat refine an ?_
  refine cl (hlg) ?_;push_cast -dsimp
  exact ⟨_,[YF],0,⟨⟨rfl,.inr (.inl ⟨by omega,rfl,rfl⟩)⟩,Nat.le_refl _⟩,[],rfl,rfl,by push_cast -dsimp [zb,za,CLe,zd],by push_cast -dsimp [zb,za,CLe,zd]⟩
 | false =>
  rw[hl]at hlg
  have hrd:Fun Tryz.prog G0 63 [.str x.data] (.agg [qy (QE x.data),.own 0 9 1 (zQ (zr x.data)),qy (qL x.data)]) 1:=QA x.data (by omega)
  have hnl:=qJ x.data
  have hcc:=zd9 (G:=G0) (zr x.data) todo (by omega) (by omega)
  have htl:(zQ todo).length=todo.length:=List.length_map ..
  have hte:((todo.length:Int)=0)=(todo = []):=propext ⟨fun h=>List.eq_nil_of_length_eq_zero (by omega),fun h=>by rw[h];rfl⟩
  generalize zr x.data=nm at hrd hcc
  have fin:∀ (b a:Bool),(dir||(qL x.data&&decide (todo = [])))=b->QE x.data=a->Y1 Tryz.prog G0 112 [.ptr 0 0,.agg (JJ x),.agg (JJ d)] [zjC f fol dir todo s n] 0 (fun r bx m=>m=0/\r = .sc (.int .i64 0)/\bx = [zjC f fol b (nm++todo) ⟨0,[],if a then 1 else d.ino⟩ (n+1:Nat)]):=fun b a hb ha=>by
   rw[ha]at hrd
   by_cases ht0:todo = []
   ·have ht0':=eq_true ht0
    cases dir<;>cases hs:qL x.data<;>rw[hs]at hrd hb<;>cases a
    all_goals
     simp[ht0]at hb
     subst hb
     refine foX (fun i=>if i=8 then [false,false,false,false,false,false,false,false,false,false,false,true] else []) Tryz.func112 ?_;dsimp only[Tryz.f112]
     push_cast -dsimp [hc]
     repeat refine an ?_
     refine cl (hlg) ?_;push_cast -dsimp
     refine cl (hrd) ?_;push_cast -dsimp [htl,hte,ht0']
     refine cl (hcc) ?_;push_cast -dsimp
     exact ⟨_,_,0,⟨⟨rfl,rfl,rfl⟩,Nat.le_refl _⟩,[],rfl,rfl,by push_cast -dsimp [zb,za,CLe,zd],by push_cast -dsimp [zb,za,CLe,zd]⟩
   ·have ht0':=eq_false ht0
    cases dir<;>cases hs:qL x.data<;>rw[hs]at hrd hb<;>cases a
    all_goals
     simp[ht0]at hb
     subst hb
     refine foX (fun i=>if i=8 then [false,false,false,false,false,false,false,false,false,false,false,true] else []) Tryz.func112 ?_;dsimp only[Tryz.f112]
     push_cast -dsimp [hc]
     repeat refine an ?_
     refine cl (hlg) ?_;push_cast -dsimp
     refine cl (hrd) ?_;push_cast -dsimp [htl,hte,ht0']
     refine cl (hcc) ?_;push_cast -dsimp
     exact ⟨_,_,0,⟨⟨rfl,rfl,rfl⟩,Nat.le_refl _⟩,[],rfl,rfl,by push_cast -dsimp [zb,za,CLe,zd],by push_cast -dsimp [zb,za,CLe,zd]⟩
  have h:=fin _ _ rfl rfl
  exact ⟨h.1,fun R L vs a1 a2 a3 a4 a5 a6 a7=>(h.2 R L vs a1 a2 a3 a4 a5 a6 a7).mono fun _ _=>by
   rintro ⟨r,bx,m,⟨⟨q1,q2,q3⟩,q4⟩,q5⟩
   exact ⟨r,bx,m,⟨⟨q1,.inr (.inr ⟨by omega,rfl,q2,q3⟩)⟩,q4⟩,q5⟩⟩
theorem zgQ (f:FsV) (hf:FsI f) (hs:FsS f) (fol dir:Bool) (todo:QB) (s:z8) (n:Nat) (lk:zm->zm->QB->Bool->z8×Int):Y1 Tryz.prog G0 113 [.ptr 0 0] [zjC f fol dir todo s n] 0 (fun r bx m=>m=0/\r = .tup [.agg (Vl (onL f fol lk [] s dir).1),.sc (.int .i64 (onL f fol lk [] s dir).2)]/\bx = [YF]):=by
 have hg:=jA (G:=G0) f s.ino (by have:=hs.len;omega) hf.rises
 cases hh:zw s.ino f.xs with
 | false =>
  have e:onL f fol lk [] s dir=(s,0):=by unfold onL;rw[if_neg (fun h=>by rw[hh]at h;cases h.1)]
  rw[hh]at hg
  refine foX (fun i=>if i=1 then Jl 13 14 else []) Tryz.func113 ?_;dsimp only[Tryz.f113]
  push_cast -dsimp
  refine cl (hg) ?_;push_cast -dsimp
  exact ⟨_,[YF],0,⟨⟨rfl,rfl,rfl⟩,Nat.le_refl _⟩,[],rfl,rfl,by push_cast -dsimp [zb,za,CLe,zd],by push_cast -dsimp [zb,za,CLe,zd,e]⟩
 | true =>
  rw[hh]at hg
  cases dir with
  | false =>
   have e:onL f fol lk [] s false=(s,0):=by unfold onL;rw[if_neg (fun h=>by cases h.2.1)]
   refine foX (fun i=>if i=1 then Jl 13 14 else []) Tryz.func113 ?_;dsimp only[Tryz.f113]
   push_cast -dsimp
   refine cl (hg) ?_;push_cast -dsimp
   exact ⟨_,[YF],0,⟨⟨rfl,rfl,rfl⟩,Nat.le_refl _⟩,[],rfl,rfl,by push_cast -dsimp [zb,za,CLe,zd],by push_cast -dsimp [zb,za,CLe,zd,e]⟩
  | true =>
   by_cases hk:(zf s.ino f.xs).kind=2
   ·have e:onL f fol lk [] s true=(s,0):=by unfold onL;rw[if_neg (fun h=>h.2.2 hk)]
    have hk':=eq_true hk
    refine foX (fun i=>if i=1 then Jl 13 14 else []) Tryz.func113 ?_;dsimp only[Tryz.f113]
    push_cast -dsimp
    refine cl (hg) ?_;push_cast -dsimp [hk']
    exact ⟨_,[YF],0,⟨⟨rfl,rfl,rfl⟩,Nat.le_refl _⟩,[],rfl,rfl,by push_cast -dsimp [zb,za,CLe,zd],by push_cast -dsimp [zb,za,CLe,zd,e]⟩
   ·have e:onL f fol lk [] s true=(jb,3):=by unfold onL;rw[if_pos ⟨hh,rfl,hk⟩]
    have hk':=eq_false hk
    refine foX (fun i=>if i=1 then Jl 13 14 else []) Tryz.func113 ?_;dsimp only[Tryz.f113]
    push_cast -dsimp
    refine cl (hg) ?_;push_cast -dsimp [hk']
    exact ⟨_,[YF],0,⟨⟨rfl,rfl,rfl⟩,Nat.le_refl _⟩,[],rfl,rfl,by push_cast -dsimp [zb,za,CLe,zd],by push_cast -dsimp [zb,za,CLe,zd,e,jb]⟩
theorem zfw (f:FsV) (hf:FsI f) (hr:FsR f) (hs:FsS f) (fol dir0:Bool) (todo0:QB) (s0:z8) (ht0:todo0.length<=2000) (hd:∀ x∈f.xs,x.kind=3->x.data.length<=1000) (hs0:s0.ino≠0->zw s0.ino f.xs=true) (R:z8×Int) (hR:onN f fol 40 todo0 s0 dir0=R):Y1 Tryz.prog G0 61 [.ptr 0 0] [zjC f fol dir0 todo0 s0 (0:Nat)] 0 (fun r bx m=>m=0/\r = .tup [.agg (Vl R.1),.sc (.int .i64 R.2)]/\∃ X,bx = [YF]++X):=by
 refine foX (fun i=>if i=4 then Jl 13 14 else []) Tryz.func61 ?_;dsimp only[Tryz.f61]
 push_cast -dsimp
 refine loop (fun p:QB×z8×Bool×Nat=>⟨[(0,.ptr 0 0),(2,.ptr 1 0)],[zjC f fol p.2.2.1 p.1 p.2.1 p.2.2.2,[.any,.any,.any]],0,0⟩)
  (fun p=>onN f fol (40-p.2.2.2) p.1 p.2.1 p.2.2.1=R/\p.2.2.2<=40/\p.1.length<=2000+p.2.2.2*1000/\(p.2.1.ino≠0->zw p.2.1.ino f.xs=true)) (fun p=>(41-p.2.2.2)*100000+p.1.length) (todo0,s0,dir0,0) ⟨hR,Nat.zero_le _,by dsimp only;omega,hs0⟩ ?_ ?_
 ·exact wk
 rintro ⟨todo,s,dir,n⟩ ⟨hon,hn,htl,hin⟩
 dsimp only at hon hn htl hin
 rw[Ym]at hon
 cases todo with
 | nil =>
  have he:=zgQ f hf hs fol dir [] s n (lkN f fol (40-n))
  rw[hon]at he
  push_cast -dsimp
  refine jS [0] [] he rfl (by decide) (by decide) (by simp) (by push_cast -dsimp) rfl (fun r bx' m hp=>?_)
  obtain ⟨rfl,rfl,rfl⟩:=hp
  push_cast -dsimp
  exact ⟨_,[YF],0,⟨⟨rfl,rfl,[],rfl⟩,by simp⟩,[],rfl,rfl,by push_cast -dsimp [zb,za,CLe,zd],by push_cast -dsimp [zb,za,CLe,zd]⟩
 | cons nm rest =>
  have hg:=jA (G:=G0) f s.ino (by have:=hs.len;omega) hf.rises
  have hpos:((0:Int)<(rest.length:Int)+1)=True:=eq_true (by omega)
  have hrl:(zQ rest).length=rest.length:=List.length_map ..
  have hl1:((1:Int)<=(rest.length:Int)+1)=True:=eq_true (by omega)
  rw[List.length_cons]at htl
  unfold onL at hon
  cases hh:zw s.ino f.xs with
  | false =>
   have h0:s.ino=0:=Classical.byContradiction fun q=>by rw[hin q]at hh;cases hh
   rw[if_pos h0]at hon
   rw[hh]at hg
   rw[←hon]
   push_cast -dsimp [hpos,hl1]
   repeat refine an ?_
   refine cl (hg) ?_;push_cast -dsimp
   exact ⟨_,[YF],0,⟨⟨rfl,rfl,[],rfl⟩,by simp⟩,[],rfl,rfl,by push_cast -dsimp [zb,za,CLe,zd],by push_cast -dsimp [zb,za,CLe,zd,jb]⟩
  | true =>
   have hgs:=zh hh
   rw[if_neg (UE hf hh)]at hon
   rw[hh]at hg
   by_cases hk2:(zf s.ino f.xs).kind=2
   case neg =>
    have hk2':=eq_false hk2
    rw[if_pos hk2]at hon
    rw[←hon]
    push_cast -dsimp [hpos,hl1]
    repeat refine an ?_
    refine cl (hg) ?_;push_cast -dsimp [hk2']
    exact ⟨_,[YF],0,⟨⟨rfl,rfl,[],rfl⟩,by simp⟩,[],rfl,rfl,by push_cast -dsimp [zb,za,CLe,zd],by push_cast -dsimp [zb,za,CLe,zd,jb]⟩
   have hk2':=eq_true hk2
   rw[if_neg (fun q=>q hk2)]at hon
   by_cases n1:nm = [46]
   ·have n1':=eq_true n1
    rw[if_pos n1]at hon
    push_cast -dsimp [hpos,hl1]
    repeat refine an ?_
    refine cl (hg) ?_;push_cast -dsimp [hk2',n1']
    exact ⟨(rest,⟨0,[],(zf s.ino f.xs).ino⟩,dir,n),⟨by dsimp only;rw[Ym];exact hon,hn,by dsimp only;omega,fun _=>by dsimp only;rw[hgs.2.2];exact hh⟩,by dsimp only;omega,wk⟩
   have n1':=eq_false n1
   rw[if_neg n1]at hon
   by_cases n2:nm = [46,46]
   ·have n2':=eq_true n2
    rw[if_pos n2]at hon
    push_cast -dsimp [hpos,hl1]
    repeat refine an ?_
    refine cl (hg) ?_;push_cast -dsimp [hk2',n1',n2']
    exact ⟨(rest,⟨0,[],(zf s.ino f.xs).parent⟩,dir,n),⟨by dsimp only;rw[Ym];exact hon,hn,by dsimp only;omega,fun _=>zb6 hf hr hh hk2⟩,by dsimp only;omega,wk⟩
   have n2':=eq_false n2
   rw[if_neg n2]at hon
   have hfd:=Nb (G:=G0) (zf s.ino f.xs).es nm (by have:=hs.es hh;omega) (hf.es _ hgs.2.1)
   have hg2:=jA (G:=G0) f (zR nm (zf s.ino f.xs).es) (by have:=hs.len;omega) hf.rises
   have hin2:zR nm (zf s.ino f.xs).es≠0->zw (zR nm (zf s.ino f.xs).es) f.xs=true:=fun q=>by
    have hx:Qp nm (zf s.ino f.xs).es=true:=by
     unfold Qp
     rw[js]
     cases hq:jP zX.name nm (zf s.ino f.xs).es with
     | some e=>rfl
     | none=>unfold zR at q;rw[hq]at q;exact absurd rfl q
    exact yt hf hh hx
   by_cases hk3:(zf (zR nm (zf s.ino f.xs).es) f.xs).kind=3
   case neg =>
    have hk3':=eq_false hk3
    have hg1:((0:Int)<(rest.length:Int))=((0:Int)<(rest.length:Int)):=rfl
    rw[if_pos (.inr (.inl hk3))]at hon
    push_cast -dsimp [hpos,hl1,hk2',n1',n2',hk3']
    repeat refine an ?_
    refine cl (hg) ?_;push_cast -dsimp [hk2',n1',n2']
    refine cl (hfd) ?_;push_cast -dsimp
    refine cl (hg2) ?_;push_cast -dsimp [hk3',hrl]
    exact ⟨(rest,⟨(zf s.ino f.xs).ino,nm,zR nm (zf s.ino f.xs).es⟩,dir,n),⟨by dsimp only;rw[Ym];exact hon,hn,by dsimp only;omega,hin2⟩,by dsimp only;omega,wk⟩
   have hk3':=eq_true hk3
   have hx2:zw (zR nm (zf s.ino f.xs).es) f.xs=true:=by
    cases hq:zw (zR nm (zf s.ino f.xs).es) f.xs with
    | true=>rfl
    | false=>rw[(Yf hq).2]at hk3;exact absurd hk3 (by decide)
   have hxe:Qp nm (zf s.ino f.xs).es=true:=by
    cases hq:Qp nm (zf s.ino f.xs).es with
    | true=>rfl
    | false =>
     have e0:zR nm (zf s.ino f.xs).es=0:=by
      unfold zR
      unfold Qp at hq
      rw[js]at hq
      cases hz:jP zX.name nm (zf s.ino f.xs).es with
      | none=>rfl
      | some e=>rw[hz]at hq;cases hq
     rw[e0]at hx2
     exact absurd rfl (UE hf hx2)
   have hxd:=hd _ (zh hx2).2.1 hk3
   by_cases hr0:rest = []
   ·have hg1:((0:Int)<(rest.length:Int))=False:=eq_false (by rw[hr0];simp)
    cases fol with
    | false =>
     cases dir with
     | false =>
      rw[if_pos (.inr (.inr ⟨hr0,rfl,rfl⟩))]at hon
      push_cast -dsimp [hpos,hl1,hk2',n1',n2',hk3',hg1]
      repeat refine an ?_
      refine cl (hg) ?_;push_cast -dsimp [hk2',n1',n2']
      refine cl (hfd) ?_;push_cast -dsimp
      refine cl (hg2) ?_;push_cast -dsimp [hk3',hrl,hg1]
      exact ⟨(rest,⟨(zf s.ino f.xs).ino,nm,zR nm (zf s.ino f.xs).es⟩,false,n),⟨by dsimp only;rw[Ym];exact hon,hn,by dsimp only;omega,hin2⟩,by dsimp only;omega,wk⟩
     | true =>
      rw[if_neg (by rintro (q | q | q);exact absurd (hxe.symm.trans q) (by simp);exact q hk3;cases q.2.2)]at hon
      have hlk:=Hz f false true rest s n (zf (zR nm (zf s.ino f.xs).es) f.xs) (zf s.ino f.xs) (by omega) (by omega) hn
      push_cast -dsimp [hpos,hl1,hk2',n1',n2',hk3',hg1]
      repeat refine an ?_
      refine cl (hg) ?_;push_cast -dsimp [hk2',n1',n2']
      refine cl (hfd) ?_;push_cast -dsimp
      refine cl (hg2) ?_;push_cast -dsimp [hk3',hrl,hg1]
      refine jS [0] [] hlk rfl (by decide) (by decide) (by simp) (by push_cast -dsimp) (by push_cast -dsimp) (fun r bx' m hp=>?_)
      obtain ⟨rfl,⟨q1,rfl,rfl⟩ | ⟨q1,q2,rfl,rfl⟩ | ⟨q1,q2,rfl,rfl⟩⟩:=hp
      ·push_cast -dsimp
       have hk0:40-n=0:=by omega
       rw[hk0]at hon
       have hon:(jb,(6:Int))=R:=hon
       rw[←hon]
       exact ⟨_,[YF],0,⟨⟨rfl,rfl,[],rfl⟩,by simp⟩,[],rfl,rfl,by push_cast -dsimp [zb,za,CLe,zd],by push_cast -dsimp [zb,za,CLe,zd,jb]⟩
      ·push_cast -dsimp
       have hk0:40-n=(39-n)+1:=by omega
       rw[hk0,Js,if_pos q2]at hon
       rw[←hon]
       exact ⟨_,[YF],0,⟨⟨rfl,rfl,[],rfl⟩,by simp⟩,[],rfl,rfl,by push_cast -dsimp [zb,za,CLe,zd],by push_cast -dsimp [zb,za,CLe,zd,jb]⟩
      ·push_cast -dsimp
       have hk0:40-n=(39-n)+1:=by omega
       have hk1:40-(n+1)=39-n:=by omega
       rw[hk0,Js,if_neg (by rw[q2];simp)]at hon
       have hnl:=qJ (zf (zR nm (zf s.ino f.xs).es) f.xs).data
       exact ⟨(zr (zf (zR nm (zf s.ino f.xs).es) f.xs).data++rest,⟨0,[],if QE (zf (zR nm (zf s.ino f.xs).es) f.xs).data then 1 else (zf s.ino f.xs).ino⟩,true||(qL (zf (zR nm (zf s.ino f.xs).es) f.xs).data&&decide (rest = [])),n+1),⟨by dsimp only;rw[hk1];exact hon,by dsimp only;omega,by dsimp only;rw[List.length_append];omega,fun _=>by
        dsimp only
        split
        ·exact hf.root
        ·rw[hgs.2.2];exact hh⟩,by dsimp only;rw[List.length_append];omega,wk⟩
    | true =>
     rw[if_neg (by rintro (q | q | q);exact absurd (hxe.symm.trans q) (by simp);exact q hk3;cases q.2.1)]at hon
     have hlk:=Hz f true dir rest s n (zf (zR nm (zf s.ino f.xs).es) f.xs) (zf s.ino f.xs) (by omega) (by omega) hn
     push_cast -dsimp [hpos,hl1,hk2',n1',n2',hk3',hg1]
     repeat refine an ?_
     refine cl (hg) ?_;push_cast -dsimp [hk2',n1',n2']
     refine cl (hfd) ?_;push_cast -dsimp
     refine cl (hg2) ?_;push_cast -dsimp [hk3',hrl,hg1]
     refine jS [0] [] hlk rfl (by decide) (by decide) (by simp) (by push_cast -dsimp) (by push_cast -dsimp) (fun r bx' m hp=>?_)
     obtain ⟨rfl,⟨q1,rfl,rfl⟩ | ⟨q1,q2,rfl,rfl⟩ | ⟨q1,q2,rfl,rfl⟩⟩:=hp
     ·push_cast -dsimp
      have hk0:40-n=0:=by omega
      rw[hk0]at hon
      have hon:(jb,(6:Int))=R:=hon
      rw[←hon]
      exact ⟨_,[YF],0,⟨⟨rfl,rfl,[],rfl⟩,by simp⟩,[],rfl,rfl,by push_cast -dsimp [zb,za,CLe,zd],by push_cast -dsimp [zb,za,CLe,zd,jb]⟩
     ·push_cast -dsimp
      have hk0:40-n=(39-n)+1:=by omega
      rw[hk0,Js,if_pos q2]at hon
      rw[←hon]
      exact ⟨_,[YF],0,⟨⟨rfl,rfl,[],rfl⟩,by simp⟩,[],rfl,rfl,by push_cast -dsimp [zb,za,CLe,zd],by push_cast -dsimp [zb,za,CLe,zd,jb]⟩
     ·push_cast -dsimp
      have hk0:40-n=(39-n)+1:=by omega
      have hk1:40-(n+1)=39-n:=by omega
      rw[hk0,Js,if_neg (by rw[q2];simp)]at hon
      have hnl:=qJ (zf (zR nm (zf s.ino f.xs).es) f.xs).data
      exact ⟨(zr (zf (zR nm (zf s.ino f.xs).es) f.xs).data++rest,⟨0,[],if QE (zf (zR nm (zf s.ino f.xs).es) f.xs).data then 1 else (zf s.ino f.xs).ino⟩,dir||(qL (zf (zR nm (zf s.ino f.xs).es) f.xs).data&&decide (rest = [])),n+1),⟨by dsimp only;rw[hk1];exact hon,by dsimp only;omega,by dsimp only;rw[List.length_append];omega,fun _=>by
       dsimp only
       split
       ·exact hf.root
       ·rw[hgs.2.2];exact hh⟩,by dsimp only;rw[List.length_append];omega,wk⟩
   ·have hg1:((0:Int)<(rest.length:Int))=True:=eq_true (by have:=List.length_pos_iff.2 hr0;omega)
    rw[if_neg (by rintro (q | q | q);exact absurd (hxe.symm.trans q) (by simp);exact q hk3;exact hr0 q.1)]at hon
    have hlk:=Hz f fol dir rest s n (zf (zR nm (zf s.ino f.xs).es) f.xs) (zf s.ino f.xs) (by omega) (by omega) hn
    push_cast -dsimp [hpos,hl1,hk2',n1',n2',hk3',hg1]
    repeat refine an ?_
    refine cl (hg) ?_;push_cast -dsimp [hk2',n1',n2']
    refine cl (hfd) ?_;push_cast -dsimp
    refine cl (hg2) ?_;push_cast -dsimp [hk3',hrl,hg1]
    refine jS [0] [] hlk rfl (by decide) (by decide) (by simp) (by push_cast -dsimp) (by push_cast -dsimp) (fun r bx' m hp=>?_)
    obtain ⟨rfl,⟨q1,rfl,rfl⟩ | ⟨q1,q2,rfl,rfl⟩ | ⟨q1,q2,rfl,rfl⟩⟩:=hp
    ·push_cast -dsimp
     have hk0:40-n=0:=by omega
     rw[hk0]at hon
     have hon:(jb,(6:Int))=R:=hon
     rw[←hon]
     exact ⟨_,[YF],0,⟨⟨rfl,rfl,[],rfl⟩,by simp⟩,[],rfl,rfl,by push_cast -dsimp [zb,za,CLe,zd],by push_cast -dsimp [zb,za,CLe,zd,jb]⟩
    ·push_cast -dsimp
     have hk0:40-n=(39-n)+1:=by omega
     rw[hk0,Js,if_pos q2]at hon
     rw[←hon]
     exact ⟨_,[YF],0,⟨⟨rfl,rfl,[],rfl⟩,by simp⟩,[],rfl,rfl,by push_cast -dsimp [zb,za,CLe,zd],by push_cast -dsimp [zb,za,CLe,zd,jb]⟩
    ·push_cast -dsimp
     have hk0:40-n=(39-n)+1:=by omega
     have hk1:40-(n+1)=39-n:=by omega
     rw[hk0,Js,if_neg (by rw[q2];simp)]at hon
     have hnl:=qJ (zf (zR nm (zf s.ino f.xs).es) f.xs).data
     exact ⟨(zr (zf (zR nm (zf s.ino f.xs).es) f.xs).data++rest,⟨0,[],if QE (zf (zR nm (zf s.ino f.xs).es) f.xs).data then 1 else (zf s.ino f.xs).ino⟩,dir||(qL (zf (zR nm (zf s.ino f.xs).es) f.xs).data&&decide (rest = [])),n+1),⟨by dsimp only;rw[hk1];exact hon,by dsimp only;omega,by dsimp only;rw[List.length_append];omega,fun _=>by
      dsimp only
      split
      ·exact hf.root
      ·rw[hgs.2.2];exact hh⟩,by dsimp only;rw[List.length_append];omega,wk⟩
end
section
open CA CB
open Go.RowKit
theorem GA (f:FsV) (hf:FsI f) (hr:FsR f) (hs:FsS f) (hd:∀ x∈f.xs,x.kind=3->x.data.length<=1000) (b p:List UInt8) (fol:Bool) (hb:b.length<=100000) (hp:p.length<=2000):Fun Tryz.prog G0 30 [.agg (fsC f),.str b,.str p,.sc (.bool fol)] (.tup [.agg (Vl (z6 f b p fol).1),.sc (.int .i64 (z6 f b p fol).2)]) 0:=by
 have hlo:=vI p (by omega)
 have hns:=qJ p
 have bad:∀ e:Int,e≠0->z6 f b p fol=(jb,e)->Fun Tryz.prog G0 60 [.agg (fsC f),.str b,.str p,.sc (.bool fol)] (.tup [.any,.sc (.int .i64 e)]) 0->Fun Tryz.prog G0 30 [.agg (fsC f),.str b,.str p,.sc (.bool fol)] (.tup [.agg (Vl (z6 f b p fol).1),.sc (.int .i64 (z6 f b p fol).2)]) 0:=fun e he hv hb=>by
  refine fon Tryz.func30 ?_;dsimp only[Tryz.f30]
  push_cast -dsimp
  refine cl (hb) ?_;push_cast -dsimp [he]
  exact dn (by push_cast -dsimp [zb,za,CLe,zd,hv,jb])
 by_cases h1:p = []
 ·subst h1
  refine bad 1 (by decide) (by unfold z6;rw[if_pos rfl]) ?_
  refine fon Tryz.func60 ?_;dsimp only[Tryz.f60]
  push_cast -dsimp
  exact dn (by push_cast -dsimp [zb,za,CLe,zd])
 have h1':=eq_false h1
 cases h2:XU p with
 | true =>
  rw[h2]at hlo
  refine bad 7 (by decide) (by unfold z6;rw[if_neg h1,if_pos h2]) ?_
  refine fon Tryz.func60 ?_;dsimp only[Tryz.f60]
  push_cast -dsimp [h1']
  refine cl (hlo) ?_;push_cast -dsimp
  exact dn (by push_cast -dsimp [zb,za,CLe,zd])
 | false =>
 rw[h2]at hlo
 have hre:Fun Tryz.prog G0 63 [.str p] (.agg [qy (QE p),.own 0 9 1 (zQ (zr p)),qy (qL p)]) 1:=QA p (by omega)
 have good:∀ h:Int,z6 f b p fol=onN f fol 40 (zr p) ⟨0,[],h⟩ (qL p)->(h≠0->zw h f.xs=true)->Y1 Tryz.prog G0 60 [.agg (fsC f),.str b,.str p,.sc (.bool fol)] [] 0 (fun r bx m=>m=0/\r = .tup [.ptr 2 0,.sc (.int .i64 0)]/\bx = [[.any,.any,.any,.any],[.any,.any,.any],zjC f fol (qL p) (zr p) ⟨0,[],h⟩ (0:Nat)])->Fun Tryz.prog G0 30 [.agg (fsC f),.str b,.str p,.sc (.bool fol)] (.tup [.agg (Vl (z6 f b p fol).1),.sc (.int .i64 (z6 f b p fol).2)]) 0:=fun h hv hh hbg=>by
  have hgo:=zfw f hf hr hs fol (qL p) (zr p) ⟨0,[],h⟩ (by omega) hd hh _ hv.symm
  refine fon Tryz.func30 ?_;dsimp only[Tryz.f30]
  push_cast -dsimp
  refine jS [] [] hbg rfl (by decide) (by decide) (by simp) (by push_cast -dsimp) rfl (fun r bx' m hp=>?_)
  obtain ⟨rfl,rfl,rfl⟩:=hp
  push_cast -dsimp
  refine jS [4] [] hgo rfl (by decide) (by decide) (by simp) (by push_cast -dsimp) rfl (fun r bx' m hp=>?_)
  obtain ⟨rfl,rfl,X,rfl⟩:=hp
  push_cast -dsimp
  exact dn (by push_cast -dsimp [zb,za,CLe,zd])
 cases h3:QE p with
 | true =>
  rw[h3]at hre
  refine good 1 (by unfold z6;rw[if_neg h1,if_neg (by rw[h2];decide),if_pos h3]) (fun _=>hf.root) ?_
  refine foX (fun _=>[]) Tryz.func60 ?_;dsimp only[Tryz.f60]
  push_cast -dsimp [h1']
  refine cl (hlo) ?_;push_cast -dsimp
  refine cl (hre) ?_;push_cast -dsimp
  exact ⟨_,[_,_,_],0,⟨⟨rfl,rfl,rfl⟩,Nat.zero_le _⟩,[],rfl,rfl,by push_cast -dsimp [zb,za,CLe,zd],by push_cast -dsimp [zb,za,CLe,zd]⟩
 | false =>
  rw[h3]at hre
  have hh:=zfG f hf hs b hb
  by_cases h4:(Y8 f b).2=0
  ·rw[h4]at hh
   refine good (Y8 f b).1 (by unfold z6;rw[if_neg h1,if_neg (by rw[h2];decide),if_neg (by rw[h3];decide),if_neg (fun q=>q h4)]) (fun hne=>?_) ?_
   ·unfold Y8 at hne h4 ⊢
    split at hne
    ·exact absurd rfl hne
    rename_i c1
    rw[if_neg c1]at h4 ⊢
    split at hne
    ·exact absurd rfl hne
    rename_i c2
    rw[if_neg c2]at h4 ⊢
    split at hne
    ·exact absurd rfl hne
    rename_i c3
    rw[if_neg c3]
    have q:=vJ (Classical.not_not.1 c3)
    rw[(zh q).2.2]
    exact q
   ·refine foX (fun _=>[]) Tryz.func60 ?_;dsimp only[Tryz.f60]
    push_cast -dsimp [h1']
    refine cl (hlo) ?_;push_cast -dsimp
    refine cl (hre) ?_;push_cast -dsimp
    refine cl (hh) ?_;push_cast -dsimp
    exact ⟨_,[_,_,_],0,⟨⟨rfl,rfl,rfl⟩,Nat.zero_le _⟩,[],rfl,rfl,by push_cast -dsimp [zb,za,CLe,zd],by push_cast -dsimp [zb,za,CLe,zd]⟩
  ·refine bad _ h4 (by unfold z6;rw[if_neg h1,if_neg (by rw[h2];decide),if_neg (by rw[h3];decide),if_pos h4]) ?_
   refine fon Tryz.func60 ?_;dsimp only[Tryz.f60]
   push_cast -dsimp [h1']
   refine cl (hlo) ?_;push_cast -dsimp
   refine cl (hre) ?_;push_cast -dsimp
   refine cl (hh) ?_;push_cast -dsimp [h4]
   exact dn (by push_cast -dsimp [zb,za,CLe,zd])
end
section
open CA CB
open Go.RowKit
theorem RmB.s {d:zK} (h:RmB 2000 d):ze0 d:=by
 have hr:=zkt h.wi.fs
 have hn:=h.next
 exact ⟨h.wi,⟨⟨by have:=h.len;omega,fun x hx=>by obtain ⟨q1,q2,q3⟩:=h.node x hx;exact ⟨by omega,by omega,fun e he=>by have:=q3 e he;omega⟩⟩,⟨by omega,by omega⟩,by have:=h.kept;omega,by have:=h.pool;omega⟩,by have:=h.ops;omega,h.diags,h.slot.1,by have:=h.slot.2;have:=h.kept;omega⟩
theorem xp {n:Int} {xs:List zm} (h:zw n xs=false):zf n xs=xo:=by unfold zf;rw[(Yf h).1];rfl
theorem Z7 (m:Nat) (d:zK) (p:List UInt8) (n:Int) (hB:RmB 2000 d) (hp:p.length<=60000) (ih:∀ e∈(zf n d.w.fs.xs).es,∀ (q:zK) (x:List UInt8),RmB 2000 q->Gs d.w.fs q.w.fs->x.length<=p.length+301->Fun Tryz.prog GD 35 [VV q,.str x,.sc (.int .i64 e.ino)] (VV (rmD m q x e.ino)) 0):Fun Tryz.prog GD 35 [VV d,.str p,.sc (.int .i64 n)] (VV (rmD (m+1) d p n)) 0:=by
 have hs:=hB.s
 have hg:=jA (G:=GD) d.w.fs n (by have:=hs.ws.fs.len;omega) hB.wi.fs.rises
 have hnm:(zf n d.w.fs.xs).es.length<=40/\∀ e∈(zf n d.w.fs.xs).es,e.name.length<=300:=by
  cases hh:zw n d.w.fs.xs with
  | false=>rw[xp hh];exact ⟨Nat.zero_le _,fun e he=>by cases he⟩
  | true=>have q:=hB.node _ (zh hh).2.1;exact ⟨q.1,q.2.2⟩
 have e:rmD (m+1) d p n=(Ze ((zf n d.w.fs.xs).es.foldl (fun d e=>rmD m d (jt p e.name) e.ino) d) (Q3 p)).1:=rfl
 rw[e]
 refine fof (fun i=>if i=1 then Jl 7 8 else if i=5 then [false,false,false,false,false,false,false,false,true] else if i=7 then [false,false,false,false,false,false,false,true] else []) Tryz.func35 ?_;dsimp only[Tryz.f35]
 push_cast -dsimp
 refine cl (hg) ?_;push_cast -dsimp
 generalize (zf n d.w.fs.xs).es=L at *
 have hLl:(qe L).length=L.length:=List.length_map ..
 refine loop (fun i:Nat=>⟨[(1,.str p),(3,.ptr 0 0),(6,.ptr 1 0),(20,.sl 2 (qe L)),(21,.sc (.int .i64 L.length)),(22,.sc (.int .i64 i))],[znL ((L.take i).foldl (fun d e=>rmD m d (jt p e.name) e.ino) d),U9],0,0⟩) (fun i=>i<=L.length/\RmB 2000 ((L.take i).foldl (fun d e=>rmD m d (jt p e.name) e.ino) d)/\Gs d.w.fs ((L.take i).foldl (fun d e=>rmD m d (jt p e.name) e.ino) d).w.fs) (fun i=>L.length-i) 0 ⟨Nat.zero_le _,hB,.refl _⟩ ?_ ?_
 ·exact wk (h4:=by push_cast -dsimp [zb,za,CLe,zd,hLl]) (h5:=by push_cast -dsimp [zb,za,CLe,zd,List.take_zero,List.foldl_nil])
 rintro i ⟨h1,h2,h3⟩
 by_cases hi:i<L.length
 ·have hi':=eq_true (show (i:Int)<L.length by omega)
  have ht:L.take (i+1)=L.take i++[L[i]]:=List.take_succ_eq_append_getElem hi
  have hgi:(qe L)[i]?=some [.str L[i].name,.sc (.int .i64 L[i].ino)]:=by simp[qe,hi]
  have hme:=List.getElem_mem hi
  have hn3:=hnm.2 _ hme
  have hn4:=hnm.1
  have hj:=(zcw p L[i].name (by omega) (by omega)).g0 (G':=GD)
  have hjl:(jt p L[i].name).length<=p.length+301:=by unfold jt;split<;>simp<;>omega
  have hr:=ih _ hme _ (jt p L[i].name) h2 h3 hjl
  have hq:=vF (P:=fun q=>RmB 2000 q/\Gs d.w.fs q.w.fs) (fun q p hq=>⟨(hq.1.add p).1,hq.2.trans (hq.1.add p).2⟩) m _ (jt p L[i].name) L[i].ino ⟨h2,h3⟩
  have hf:(L.take (i+1)).foldl (fun d e=>rmD m d (jt p e.name) e.ino) d=rmD m ((L.take i).foldl (fun d e=>rmD m d (jt p e.name) e.ino) d) (jt p L[i].name) L[i].ino:=by rw[ht,List.foldl_append];rfl
  rw[←hf]at hr hq
  push_cast -dsimp [hi',hgi,hLl,Int.toNat_natCast]
  repeat refine an ?_
  refine cl (hj) ?_;push_cast -dsimp
  refine cl (hr) ?_;push_cast -dsimp
  repeat refine an ?_
  exact ⟨i+1,⟨by omega,hq.1,hq.2⟩,by omega,wk⟩
 ·have hil:i=L.length:=by omega
  subst hil
  rw[List.take_length]at h2 ⊢
  have hi':=eq_false (show ¬(L.length:Int)<L.length by omega)
  have ha:=zoL _ h2.s p (by omega)
  push_cast -dsimp [hi']
  refine cl (ha) ?_;push_cast -dsimp
  exact dn (by push_cast -dsimp [zb,za,CLe,zd])
theorem Ua:∀ (m:Nat) (d:zK) (p:List UInt8) (n:Int),RmB 2000 d->p.length+m*302<=60000->low d.w.fs.xs m n->Fun Tryz.prog GD 35 [VV d,.str p,.sc (.int .i64 n)] (VV (rmD (m+1) d p n)) 0
 | 0,d,p,n,hB,hp,hl=>Z7 0 d p n hB (by omega) fun e he=>by
  have hl:(zf n d.w.fs.xs).es = []:=hl
  rw[hl]at he;cases he
 | m+1,d,p,n,hB,hp,hl=>Z7 (m+1) d p n hB (by omega) fun e he q x hq hL hx=>Ua m q x e.ino hq (by omega) (hL.low (hl e he))
theorem zhQ (p:List UInt8) (hp:p.length<=2000):Fun Tryz.prog G0 62 [.str p] (.str (VB p)) 0:=by
 have hns:=qJ p
 have hre:Fun Tryz.prog G0 63 [.str p] (.agg [qy (QE p),.own 0 9 1 (zQ (zr p)),qy (qL p)]) 1:=QA p (by omega)
 by_cases h:zr p = []
 ·have e:VB p=p:=if_pos h
  rw[h]at hre
  refine fon Tryz.func62 ?_;dsimp only[Tryz.f62]
  push_cast -dsimp
  refine cl (hre) ?_;push_cast -dsimp
  exact dn (by push_cast -dsimp [zb,za,CLe,zd,e])
 ·have e:VB p=put (QE p) (zr p) false:=if_neg h
  have hl:(((zr p).length:Int)=0)=False:=eq_false (by have:=List.length_pos_iff.2 h;omega)
  have hsl:(zQ (zr p)).length=(zr p).length:=List.length_map ..
  have hpu:=zlR (QE p) (zr p) false (by omega) (by have:=Qc p;have:=kj h;omega)
  refine fon Tryz.func62 ?_;dsimp only[Tryz.f62]
  push_cast -dsimp
  refine cl (hre) ?_;push_cast -dsimp [hl,hsl]
  refine cl (hpu) ?_;push_cast -dsimp
  exact dn (by push_cast -dsimp [zb,za,CLe,zd,e])
end
section
open CA CB
open Go.RowKit QuotePlain
abbrev u8C (b:UInt8):C:=.sc (.int .u8 (b.toNat:Int))
theorem Hn (l:List UInt8) (c:UInt8):(Lib.indexByte l c<0)↔c∉l:=by
 constructor
 ·intro h hc
  have h1:=Lib.indexByte_ge l c
  obtain ⟨k,hk,e⟩:=List.getElem_of_mem hc
  exact Lib.indexByte_none (show Lib.indexByte l c = -1 by omega) k (by rw[List.getElem?_eq_getElem hk,e])
 ·intro h
  rcases Int.lt_or_le (Lib.indexByte l c) 0 with h1 | h1
  ·exact h1
  ·obtain ⟨o,ho⟩:∃ o:Nat,Lib.indexByte l c=o:=⟨(Lib.indexByte l c).toNat,by omega⟩
   obtain ⟨h2,_⟩:=Lib.indexByte_some ho
   exact absurd (List.mem_of_getElem? h2) h
theorem UC (s:List UInt8) (c:UInt8) (hs:s.length<=1000000):Fun Tryz.prog G0 55 [.str s,u8C c] (.sc (.bool (decide (c∈s)))) 0:=by
 refine fon Tryz.func55 ?_;dsimp only[Tryz.f55]
 push_cast -dsimp
 refine loop (fun k:Nat=>⟨[(0,.str s),(1,u8C c),(5,.sc (.int .i64 k))],[],0,0⟩) (fun k=>k<=s.length/\c∉s.take k) (fun k=>s.length-k) 0 ⟨Nat.zero_le _,by simp⟩ ?_ ?_
 ·exact wk
 ·rintro k ⟨hk,hn⟩
  push_cast -dsimp
  refine br (fun h=>?_) (fun h=>?_)
  ·have hk2:k<s.length:=by simp at h;omega
   have hg:s[k]?=some s[k]:=List.getElem?_eq_getElem hk2
   push_cast -dsimp [hg]
   refine ⟨by omega,br (fun h2=>?_) (fun h2=>?_)⟩
   ·push_cast -dsimp
    have h3:s[k]=c:=by simp at h2;exact UInt8.toNat_inj.1 (by omega)
    have h4:c∈s:=h3▸List.getElem_mem hk2
    exact dn (by push_cast -dsimp [zb,za,CLe,zd,h4])
   ·push_cast -dsimp
    have h3:¬c=s[k]:=fun e=>by subst e;simp at h2
    refine ⟨by omega,k+1,⟨by omega,?_⟩,by omega,wk⟩
    intro h4
    rw[List.take_add_one,hg]at h4
    rcases List.mem_append.1 h4 with h5 | h5
    ·exact hn h5
    ·simp at h5;exact h3 h5
  ·have hk2:k=s.length:=by simp at h;omega
   subst hk2
   rw[List.take_length]at hn
   push_cast -dsimp
   exact dn (by push_cast -dsimp [zb,za,CLe,zd,hn])
theorem xC (k:Int) (o:List UInt8) (ops:C) (c:UInt8) (hops:ops.cellB=true):Fun Tryz.prog G0 32 [.agg [.sc (.int .i64 k),.str o,ops],u8C c] (.sc (.bool (decide (c∈o)))) 0:=by
 refine fon Tryz.func32 ?_;dsimp only[Tryz.f32]
 push_cast -dsimp [hops]
 refine cl (QZ o c) ?_;push_cast -dsimp
 have e:decide (0<=Lib.indexByte o c)=decide (c∈o):=by
  have:=Hn o c
  by_cases h:c∈o
  ·have h2:¬Lib.indexByte o c<0:=fun h3=>this.1 h3 h
   simp[h];omega
  ·have h2:=this.2 h
   simp[h];omega
 exact dn (by push_cast -dsimp [zb,za,CLe,zd,e])
theorem zpS (c d:UInt8):((c.toNat:Int)=(d.toNat:Int))=(c=d):=by
 refine propext ⟨fun h=>UInt8.toNat_inj.1 (by omega),fun h=>by rw[h]⟩
def Xx (s p:List UInt8):UInt8:=s.foldl (fun c b=>if b∈p then b else c) 0
theorem kP (s p:List UInt8) (i:Nat) (hi:i<s.length):Xx (s.take (i+1)) p=if s[i]∈p then s[i] else Xx (s.take i) p:=by
 unfold Xx
 rw[List.take_add_one,List.getElem?_eq_getElem hi,List.foldl_append]
 simp
theorem Nr (s p:List UInt8) (hs:s.length<=1000000) (hp:p.length<=1000000):Fun Tryz.prog G0 99 [.str s,.str p] (u8C (Xx s p)) 0:=by
 refine fon Tryz.func99 ?_;dsimp only[Tryz.f99]
 push_cast -dsimp
 refine loop (fun k:Nat=>⟨[(0,.str s),(1,.str p),(5,u8C (Xx (s.take k) p)),(6,.sc (.int .i64 k))],[],0,0⟩) (fun k=>k<=s.length) (fun k=>s.length-k) 0 (Nat.zero_le _) ?_ ?_
 ·exact Jc.mk [] rfl rfl (Nat.le_refl _) rfl (by push_cast -dsimp [zb,za,CLe,zd]<;>rfl) (by push_cast -dsimp [zb,za,CLe,zd])
 ·rintro k hk
  push_cast -dsimp
  refine br (fun h=>?_) (fun h=>?_)
  ·have hk2:k<s.length:=by simp at h;omega
   have hg:s[k]?=some s[k]:=List.getElem?_eq_getElem hk2
   push_cast -dsimp [hg]
   refine ⟨by omega,?_⟩
   refine cl (UC p s[k] hp) ?_;push_cast -dsimp
   refine br (fun h2=>?_) (fun h2=>?_)
   ·push_cast -dsimp [hg]
    have e:Xx (s.take (k+1)) p=s[k]:=by rw[kP s p k hk2,if_pos (by simpa using h2)]
    refine ⟨by omega,by omega,k+1,by omega,by omega,wk (by push_cast -dsimp [zb,za,CLe,zd,e])⟩
   ·push_cast -dsimp [hg]
    have e:Xx (s.take (k+1)) p=Xx (s.take k) p:=by rw[kP s p k hk2,if_neg (by simpa using h2)]
    refine ⟨by omega,k+1,by omega,by omega,wk (by push_cast -dsimp [zb,za,CLe,zd,e])⟩
  ·have hk2:k=s.length:=by simp at h;omega
   subst hk2
   rw[List.take_length]
   push_cast -dsimp
   exact dn
def isO (k:Int) (s:List UInt8) (x:UInt8):Bool:=if 4<=k/\(x=102∨x=110) then decide (Xx s [102,110]=x) else if x=114 then decide (114∈s∨82∈s) else if x=82 then false else decide (x∈s)
def J7 (k:Int) (s:List UInt8) (n:Nat):List UInt8:=((List.range' 65 n).map UInt8.ofNat).filter (isO k s)
theorem yM (k:Int) (s:List UInt8) (hs:s.length<=1000000):Fun Tryz.prog G0 54 [.sc (.int .i64 k),.str s] (.str (J7 k s 58)) 0:=by
 refine fon Tryz.func54 ?_;dsimp only[Tryz.f54]
 push_cast -dsimp
 refine loop (fun j:Nat=>⟨[(0,.sc (.int .i64 k)),(1,.str s),(5,.str (J7 k s j)),(6,.sc (.int .i64 (65+j)))],[],0,0⟩) (fun j=>j<=58) (fun j=>58-j) 0 (Nat.zero_le _) ?_ ?_
 ·exact Jc.mk [] rfl rfl (Nat.le_refl _) rfl (by push_cast -dsimp [zb,za,CLe,zd]<;>rfl) (by push_cast -dsimp [zb,za,CLe,zd])
 ·rintro j hj
  push_cast -dsimp
  refine br (fun h=>?_) (fun h=>?_)
  ·have hj2:j<58:=by simp at h;omega
   obtain ⟨x,hxe,hx⟩:∃ x:UInt8,UInt8.ofNat (65+j)=x/\(65+(j:Int))=(x.toNat:Int):=⟨_,rfl,by rw[UInt8.toNat_ofNat_of_lt' (by show 65+j<256;omega)];omega⟩
   have hx1:65+((j:Int)+1)=(x.toNat:Int)+1:=by omega
   have hxb:(x.toNat:Int)<123:=by omega
   have hstep:J7 k s (j+1)=J7 k s j++if isO k s x then [x] else []:=by
    unfold J7
    rw[List.range'_concat,List.map_append,List.filter_append]
    simp only[List.map_cons,List.map_nil,Nat.one_mul,hxe,List.filter_cons,List.filter_nil]
   have hlo:(J7 k s j).length<=j:=Nat.le_trans (List.length_filter_le _ _) (by simp)
   have hI:∀ (n:Nat) (d:UInt8),d.toNat=n->((x.toNat:Int)=(n:Int))=(x=d):=fun n d h=>h▸zpS x d
   have hcase:(x=82)∨(x=114)∨(x≠82/\x≠114/\¬4<=k)∨(x=102/\4<=k)∨(x=110/\4<=k)∨(x≠82/\x≠114/\4<=k/\x≠102/\x≠110):=by
    by_cases h1:x=82
    ·exact .inl h1
    ·by_cases h2:x=114
     ·exact .inr (.inl h2)
     ·by_cases h3:4<=k
      ·by_cases h4:x=102
       ·exact .inr (.inr (.inr (.inl ⟨h4,h3⟩)))
       ·by_cases h5:x=110
        ·exact .inr (.inr (.inr (.inr (.inl ⟨h5,h3⟩))))
        ·exact .inr (.inr (.inr (.inr (.inr ⟨h1,h2,h3,h4,h5⟩))))
      ·exact .inr (.inr (.inl ⟨h1,h2,h3⟩))
   clear hxe
   rw[hx]
   push_cast -dsimp
   refine ⟨by omega,?_⟩
   refine cl (UC s x hs) ?_;push_cast -dsimp
   rcases hcase with hc | hc | hc | hc | hc | hc
   ·have f0:isO k s x=false:=by simp[isO,hc]
    have e:J7 k s (j+1)=J7 k s j:=by rw[hstep,f0];simp
    have f1:((x.toNat:Int)=82)=True:=(hI 82 82 rfl).trans (by simp[hc])
    have f2:((x.toNat:Int)=114)=False:=(hI 114 114 rfl).trans (by simp[hc])
    have f3:((x.toNat:Int)=102)=False:=(hI 102 102 rfl).trans (by simp[hc])
    have f4:((x.toNat:Int)=110)=False:=(hI 110 110 rfl).trans (by simp[hc])
    by_cases h4:4<=k
    all_goals
     push_cast -dsimp [f1,f2,f3,f4,h4]
     repeat (refine And.intro (by omega) ?_)
     refine ⟨j+1,by omega,by omega,wk (by push_cast -dsimp [zb,za,CLe,zd,e,hx1])⟩
   ·have f0:isO k s x=decide (114∈s∨82∈s):=by simp[isO,hc]
    have f1:((x.toNat:Int)=82)=False:=(hI 82 82 rfl).trans (by simp[hc])
    have f2:((x.toNat:Int)=114)=True:=(hI 114 114 rfl).trans (by simp[hc])
    have f3:((x.toNat:Int)=102)=False:=(hI 102 102 rfl).trans (by simp[hc])
    have f4:((x.toNat:Int)=110)=False:=(hI 110 110 rfl).trans (by simp[hc])
    push_cast -dsimp [f1,f2,f3,f4]
    refine cl (UC s 114 hs) ?_;push_cast -dsimp
    by_cases h6:114∈s
    ·push_cast -dsimp [h6]
     have e:J7 k s (j+1)=J7 k s j++[x]:=by rw[hstep,f0];simp[h6]
     by_cases h4:4<=k
     all_goals
      push_cast -dsimp [f1,f2,f3,f4,h4]
      refine ⟨[x],rfl,?_⟩
      push_cast -dsimp
      repeat (refine And.intro (by omega) ?_)
      refine ⟨j+1,by omega,by omega,wk (by push_cast -dsimp [zb,za,CLe,zd,e,hx1])⟩
    ·push_cast -dsimp [h6]
     refine cl (UC s 82 hs) ?_;push_cast -dsimp
     by_cases h7:82∈s
     ·have e:J7 k s (j+1)=J7 k s j++[x]:=by rw[hstep,f0];simp[h7]
      by_cases h4:4<=k
      all_goals
       push_cast -dsimp [f1,f2,f3,f4,h4,h7]
       refine ⟨[x],rfl,?_⟩
       push_cast -dsimp
       repeat (refine And.intro (by omega) ?_)
       refine ⟨j+1,by omega,by omega,wk (by push_cast -dsimp [zb,za,CLe,zd,e,hx1])⟩
     ·have e:J7 k s (j+1)=J7 k s j:=by rw[hstep,f0];simp[h6,h7]
      by_cases h4:4<=k
      all_goals
       push_cast -dsimp [f1,f2,f3,f4,h4,h7]
       repeat (refine And.intro (by omega) ?_)
       refine ⟨j+1,by omega,by omega,wk (by push_cast -dsimp [zb,za,CLe,zd,e,hx1])⟩
   ·have f0:isO k s x=decide (x∈s):=by simp[isO,hc]
    have h4:¬4<=k:=hc.2.2
    have f1:((x.toNat:Int)=82)=False:=(hI 82 82 rfl).trans (by simp[hc])
    have f2:((x.toNat:Int)=114)=False:=(hI 114 114 rfl).trans (by simp[hc])
    by_cases h6:x∈s
    ·have e:J7 k s (j+1)=J7 k s j++[x]:=by rw[hstep,f0];simp[h6]
     push_cast -dsimp [f1,f2,h4,h6]
     refine ⟨[x],rfl,?_⟩
     push_cast -dsimp
     repeat (refine And.intro (by omega) ?_)
     refine ⟨j+1,by omega,by omega,wk (by push_cast -dsimp [zb,za,CLe,zd,e,hx1])⟩
    ·have e:J7 k s (j+1)=J7 k s j:=by rw[hstep,f0];simp[h6]
     push_cast -dsimp [f1,f2,h4,h6]
     repeat (refine And.intro (by omega) ?_)
     refine ⟨j+1,by omega,by omega,wk (by push_cast -dsimp [zb,za,CLe,zd,e,hx1])⟩
   ·have f0:isO k s x=decide (Xx s [102,110]=x):=by simp[isO,hc]
    have h4:4<=k:=hc.2
    have f1:((x.toNat:Int)=82)=False:=(hI 82 82 rfl).trans (by simp[hc])
    have f2:((x.toNat:Int)=114)=False:=(hI 114 114 rfl).trans (by simp[hc])
    have f3:((x.toNat:Int)=102)=True:=(hI 102 102 rfl).trans (by simp[hc])
    have f4:((x.toNat:Int)=110)=False:=(hI 110 110 rfl).trans (by simp[hc])
    push_cast -dsimp [f1,f2,f3,f4,h4]
    refine cl (Nr s [102,110] hs (by simp)) ?_;push_cast -dsimp
    by_cases h6:Xx s [102,110]=x
    ·have g6:((Xx s [102,110]).toNat=x.toNat)=True:=by simp[h6]
     have e:J7 k s (j+1)=J7 k s j++[x]:=by rw[hstep,f0];simp[h6]
     push_cast -dsimp [g6]
     refine ⟨[x],rfl,?_⟩
     push_cast -dsimp
     repeat (refine And.intro (by omega) ?_)
     refine ⟨j+1,by omega,by omega,wk (by push_cast -dsimp [zb,za,CLe,zd,e,hx1])⟩
    ·have g6:((Xx s [102,110]).toNat=x.toNat)=False:=by simp[UInt8.toNat_inj,h6]
     have e:J7 k s (j+1)=J7 k s j:=by rw[hstep,f0];simp[h6]
     push_cast -dsimp [g6]
     repeat (refine And.intro (by omega) ?_)
     refine ⟨j+1,by omega,by omega,wk (by push_cast -dsimp [zb,za,CLe,zd,e,hx1])⟩
   ·have f0:isO k s x=decide (Xx s [102,110]=x):=by simp[isO,hc]
    have h4:4<=k:=hc.2
    have f1:((x.toNat:Int)=82)=False:=(hI 82 82 rfl).trans (by simp[hc])
    have f2:((x.toNat:Int)=114)=False:=(hI 114 114 rfl).trans (by simp[hc])
    have f3:((x.toNat:Int)=102)=False:=(hI 102 102 rfl).trans (by simp[hc])
    have f4:((x.toNat:Int)=110)=True:=(hI 110 110 rfl).trans (by simp[hc])
    push_cast -dsimp [f1,f2,f3,f4,h4]
    refine cl (Nr s [102,110] hs (by simp)) ?_;push_cast -dsimp
    by_cases h6:Xx s [102,110]=x
    ·have g6:((Xx s [102,110]).toNat=x.toNat)=True:=by simp[h6]
     have e:J7 k s (j+1)=J7 k s j++[x]:=by rw[hstep,f0];simp[h6]
     push_cast -dsimp [g6]
     refine ⟨[x],rfl,?_⟩
     push_cast -dsimp
     repeat (refine And.intro (by omega) ?_)
     refine ⟨j+1,by omega,by omega,wk (by push_cast -dsimp [zb,za,CLe,zd,e,hx1])⟩
    ·have g6:((Xx s [102,110]).toNat=x.toNat)=False:=by simp[UInt8.toNat_inj,h6]
     have e:J7 k s (j+1)=J7 k s j:=by rw[hstep,f0];simp[h6]
     push_cast -dsimp [g6]
     repeat (refine And.intro (by omega) ?_)
     refine ⟨j+1,by omega,by omega,wk (by push_cast -dsimp [zb,za,CLe,zd,e,hx1])⟩
   ·have f0:isO k s x=decide (x∈s):=by simp[isO,hc]
    have h4:4<=k:=hc.2.2.1
    have f1:((x.toNat:Int)=82)=False:=(hI 82 82 rfl).trans (by simp[hc])
    have f2:((x.toNat:Int)=114)=False:=(hI 114 114 rfl).trans (by simp[hc])
    have f3:((x.toNat:Int)=102)=False:=(hI 102 102 rfl).trans (by simp[hc])
    have f4:((x.toNat:Int)=110)=False:=(hI 110 110 rfl).trans (by simp[hc])
    by_cases h6:x∈s
    ·have e:J7 k s (j+1)=J7 k s j++[x]:=by rw[hstep,f0];simp[h6]
     push_cast -dsimp [f1,f2,f3,f4,h4,h6]
     refine ⟨[x],rfl,?_⟩
     push_cast -dsimp
     repeat (refine And.intro (by omega) ?_)
     refine ⟨j+1,by omega,by omega,wk (by push_cast -dsimp [zb,za,CLe,zd,e,hx1])⟩
    ·have e:J7 k s (j+1)=J7 k s j:=by rw[hstep,f0];simp[h6]
     push_cast -dsimp [f1,f2,f3,f4,h4,h6]
     repeat (refine And.intro (by omega) ?_)
     refine ⟨j+1,by omega,by omega,wk (by push_cast -dsimp [zb,za,CLe,zd,e,hx1])⟩
  ·have hj2:j=58:=by simp at h;omega
   subst hj2
   push_cast -dsimp
   exact dn
abbrev Acc:=List UInt8->UInt8->List UInt8
def J5 (all:List UInt8) (f:Acc):List UInt8->List UInt8->List UInt8×List UInt8
 | a,[]=>(a,[])
 | a,c :: r=>if c∈all then J5 all f (f a c) r else (a,[c])
def qu (all:List UInt8) (f:Acc):List UInt8->Nat->List (List UInt8)->List UInt8×Nat×List UInt8
 | a,n,[]=>(a,n,[])
 | a,n,w :: r=>if w = [45,45] then (a,n+1,[]) else if w.length<2∨w[0]?≠some 45 then (a,n,[]) else
   if (J5 all f a w.tail).2 = [] then qu all f (J5 all f a w.tail).1 (n+1) r else ((J5 all f a w.tail).1,n,(J5 all f a w.tail).2)
def Z0 (k:Int):List UInt8:=if k=1 then [112] else if k=2 then [100,102,114,82] else if k=3 then [102,110,115,84] else if k=4 then [102,110,84] else if k=5 then [102,110,114,82,80,84] else []
abbrev Yl:Acc:=fun s c=>s++[c]
theorem zbd {all:List UInt8} {f:Acc} {a w:List UInt8} {i:Nat} (hi:i<w.length):J5 all f a (w.drop i)=if w[i]∈all then J5 all f (f a w[i]) (w.drop (i+1)) else (a,[w[i]]):=by
 rw[List.drop_eq_getElem_cons hi,J5]
theorem Gk {all:List UInt8} {f:Acc} {a:List UInt8} {l:List (List UInt8)} {n:Nat} (hn:n<l.length):qu all f a n (l.drop n)=if l[n] = [45,45] then (a,n+1,[]) else if l[n].length<2∨l[n][0]?≠some 45 then (a,n,[]) else
   if (J5 all f a l[n].tail).2 = [] then qu all f (J5 all f a l[n].tail).1 (n+1) (l.drop (n+1)) else ((J5 all f a l[n].tail).1,n,(J5 all f a l[n].tail).2):=by
 rw[List.drop_eq_getElem_cons hn,qu]
theorem zjG {w:List UInt8} {i:Nat} (hi:i<w.length):(w.take (i+1)).drop i = [w[i]]:=by
 rw[List.take_add_one,List.getElem?_eq_getElem hi]
 exact List.drop_left' (by rw[List.length_take];omega)
theorem yV (k:Int) (l:List (List UInt8)) (hk:k=1∨k=2∨k=3∨k=4∨k=5) (hl:l.length<=100) (hs:∀ x∈l,x.length<=1000) :
  Fun Tryz.prog G0 53 [.sc (.int .i64 k),.sl 1 (zQ l)] (.tup [.str (qu (Z0 k) Yl [] 0 l).1,.sc (.int .i64 (qu (Z0 k) Yl [] 0 l).2.1),.str (qu (Z0 k) Yl [] 0 l).2.2]) 0:=by
 obtain ⟨A,hA⟩:∃ A,Z0 k=A:=⟨_,rfl⟩
 have hall:A.length<=1000000:=by
  subst hA
  rcases hk with rfl | rfl | rfl | rfl | rfl<;>decide
 rw[hA]
 refine fon Tryz.func53 ?_;dsimp only[Tryz.f53]
 rcases hk with rfl | rfl | rfl | rfl | rfl
 case' inl=>have e:A = [112]:=hA.symm.trans rfl
 case' inr.inl=>have e:A = [100,102,114,82]:=hA.symm.trans rfl
 case' inr.inr.inl=>have e:A = [102,110,115,84]:=hA.symm.trans rfl
 case' inr.inr.inr.inl=>have e:A = [102,110,84]:=hA.symm.trans rfl
 case' inr.inr.inr.inr=>have e:A = [102,110,114,82,80,84]:=hA.symm.trans rfl
 all_goals
  push_cast -dsimp
  refine loop (fun p:Nat×List UInt8=>⟨[(1,.sl 1 (zQ l)),(7,.str A),(8,.str p.2),(9,.sc (.int .i64 p.1))],[],0,0⟩) (fun p=>p.1<=l.length/\qu A Yl [] 0 l=qu A Yl p.2 p.1 (l.drop p.1)/\p.2.length<=1000*p.1) (fun p=>l.length-p.1) (0,[]) ⟨Nat.zero_le _,rfl,Nat.zero_le _⟩ ?_ ?_
  ·exact wk (by push_cast -dsimp [zb,za,CLe,zd,e])
  ·clear e hA
   rintro ⟨n,s⟩ ⟨hn,hq,hsl⟩
   dsimp only at hn hq hsl ⊢
   by_cases h:n<l.length
   ·have hg:=V8 l n h
    have hlw:=hs l[n] (List.getElem_mem h)
    have hstep:=Gk (all:=A) (f:=Yl) (a:=s) h
    generalize hw:l[n]=w at hg hlw hstep
    by_cases h45:w = [45,45]
    ·rw[if_pos h45]at hstep
     have hr:=hq.trans hstep
     push_cast -dsimp [h,hg,h45]
     repeat refine an ?_
     exact dn (by push_cast -dsimp [zb,za,CLe,zd,hr])
    ·rw[if_neg h45]at hstep
     by_cases h2:w.length<2
     ·rw[if_pos (.inl h2)]at hstep
      have hr:=hq.trans hstep
      have h2':((w.length:Int)<2)=True:=eq_true (by omega)
      push_cast -dsimp [h,hg,h45,h2']
      repeat refine an ?_
      exact dn (by push_cast -dsimp [zb,za,CLe,zd,hr])
     ·have h2':((w.length:Int)<2)=False:=eq_false (by omega)
      have h0:w[0]?=some w[0]:=List.getElem?_eq_getElem (by omega)
      by_cases h3:w[0]=45
      ·have h3':((w[0].toNat:Int)=45)=True:=eq_true (by rw[h3];rfl)
       rw[if_neg (by rw[h0,h3];simp;omega)]at hstep
       push_cast -dsimp [h,hg,h45,h2',h0,h3']
       repeat refine an ?_
       refine loop (fun q:Nat×List UInt8=>⟨[(1,.sl 1 (zQ l)),(7,.str A),(8,.str q.2),(9,.sc (.int .i64 n)),(10,.sc (.int .i64 q.1))],[],0,0⟩) (fun q=>1<=q.1/\q.1<=w.length/\J5 A Yl s w.tail=J5 A Yl q.2 (w.drop q.1)/\q.2.length+1<=1000*n+q.1) (fun q=>w.length-q.1) (1,s) ⟨Nat.le_refl _,by dsimp only;omega,by simp,by dsimp only;omega⟩ ?_ ?_
       ·exact wk
       ·rintro ⟨i,t⟩ ⟨hi1,hi2,hi3,hi4⟩
        dsimp only at hi1 hi2 hi3 hi4 ⊢
        by_cases hi:i<w.length
        ·have hgi:w[i]?=some w[i]:=List.getElem?_eq_getElem hi
         have hws:=zbd (all:=A) (f:=Yl) (a:=t) hi
         push_cast -dsimp [h,hg,hi,hgi]
         repeat refine an ?_
         refine cl (UC A w[i] hall) ?_;push_cast -dsimp
         by_cases hm:w[i]∈A
         ·rw[if_pos hm]at hws
          push_cast -dsimp [hm,hg,hgi]
          repeat refine an ?_
          refine ⟨(i+1,t++[w[i]]),⟨by omega,by dsimp only;omega,hi3.trans hws,by simp;omega⟩,by dsimp only;omega,wk (by push_cast -dsimp [zb,za,CLe,zd,zjG hi])⟩
         ·rw[if_neg hm]at hws
          rw[if_neg (by rw[hi3,hws];simp),hi3,hws]at hstep
          have hr:=hq.trans hstep
          push_cast -dsimp [hm,hg,hgi]
          repeat refine an ?_
          exact dn (by push_cast -dsimp [zb,za,CLe,zd,hr,zjG hi])
        ·have hil:i=w.length:=by omega
         rw[hil,List.drop_length,J5]at hi3
         rw[if_pos (by rw[hi3]),hi3]at hstep
         push_cast -dsimp [h,hg,hi]
         repeat refine an ?_
         exact ⟨(n+1,t),⟨by dsimp only;omega,hq.trans hstep,by dsimp only;omega⟩,by dsimp only;omega,wk⟩
      ·have h3':((w[0].toNat:Int)=45)=False:=eq_false (fun hh=>h3 (UInt8.toNat_inj.1 (by show _=45;omega)))
       rw[if_pos (.inr (by rw[h0];simpa using h3))]at hstep
       have hr:=hq.trans hstep
       push_cast -dsimp [h,hg,h45,h2',h0,h3']
       repeat refine an ?_
       exact dn (by push_cast -dsimp [zb,za,CLe,zd,hr])
   ·have hkl:n=l.length:=by omega
    subst hkl
    have hr:=hq
    rw[List.drop_length,qu]at hr
    push_cast -dsimp [h]
    exact dn (by push_cast -dsimp [zb,za,CLe,zd,hr])
def zcZ (k:Int):Nat:=if k=4∨k=5 then 2 else 1
def jV (k:Int) (o:List UInt8) (ops:List (List UInt8)):List UInt8:=
 if ops.length=0 then (if k=2/\102∈o then [] else [109,105,115,115,105,110,103,32,111,112,101,114,97,110,100])
 else if ops.length<(if 84∈o then 2 else zcZ k) then [109,105,115,115,105,110,103,32,100,101,115,116,105,110,97,116,105,111,110,32,111,112,101,114,97,110,100,32,97,102,116,101,114,32]++qj (ops.getD (ops.length-1) [])
 else if 84∈o/\2<ops.length then [101,120,116,114,97,32,111,112,101,114,97,110,100,32]++qj (ops.getD 2 []) else []
theorem QT (l:List UInt8):(qj l).length<=4*l.length+2:=by
 have:=QuoteWalk.mid_len l
 simp only[qj,List.length_cons,List.length_append,List.length_nil]
 omega
structure zog where
 kind:Int
 opts:List UInt8
 operands:List (List UInt8)
def Jo (w:List UInt8):Nat->Int
 | 0=>0
 | j+1=>if Jk ((j+1:Nat):Int)=w then ((j+1:Nat):Int) else Jo w j
def Xb:zog:=⟨0,[],[]⟩
def Jq (kind:Int) (w:List UInt8) (q:List UInt8×Nat×List UInt8) (r:List (List UInt8)):zog×List UInt8:=
 if q.2.2≠[] then (Xb,w++[58,32,105,110,118,97,108,105,100,32,111,112,116,105,111,110,32]++qj q.2.2)
 else if jV kind (J7 kind q.1 58) (r.drop q.2.1)≠[] then (Xb,w++[58,32]++jV kind (J7 kind q.1 58) (r.drop q.2.1))
 else (⟨kind,J7 kind q.1 58,r.drop q.2.1⟩,[])
def XW:List (List UInt8)->zog×List UInt8
 | []=>(Xb,[109,105,115,115,105,110,103,32,99,111,109,109,97,110,100])
 | w :: r=>if Jo w 5=0 then (Xb,qj w++[58,32,117,110,107,110,111,119,110,32,99,111,109,109,97,110,100])
  else Jq (Jo w 5) w (qu (Z0 (Jo w 5)) Yl [] 0 r) r
theorem Nq (w:List UInt8):∀ j,0<=Jo w j/\Jo w j<=j
 | 0=>⟨Int.le_refl _,Int.le_refl _⟩
 | j+1=>by
  have:=Nq w j
  unfold Jo
  split<;>omega
theorem N4 (A:List UInt8) (f:Acc):∀ (w s:List UInt8),(J5 A f s w).2.length<=1
 | [],s=>Nat.zero_le _
 | c :: w,s=>by
  rw[J5]
  split
  ·exact N4 A f w _
  ·exact Nat.le_refl _
theorem GI (A:List UInt8):∀ (w s:List UInt8),(J5 A Yl s w).1.length<=s.length+w.length
 | [],s=>by simp[J5]
 | c :: w,s=>by
  rw[J5]
  split
  ·have h0:(Yl s c).length=s.length+1:=by simp
   have:=GI A w (Yl s c);simp only[List.length_cons];omega
  ·simp only[List.length_cons];omega
theorem Vf (A:List UInt8):∀ (l:List (List UInt8)) (s:List UInt8) (n:Nat),(∀ x∈l,x.length<=1000)->(qu A Yl s n l).1.length<=s.length+1000*l.length/\(qu A Yl s n l).2.1<=n+l.length/\(qu A Yl s n l).2.2.length<=1
 | [],s,n,_=>by simp[qu]
 | w :: l,s,n,h=>by
  have hw:=h w (List.mem_cons_self ..)
  have h1:=N4 A Yl w.tail s
  have h2:=GI A w.tail s
  have h3:w.tail.length<=1000:=by rw[List.length_tail];omega
  have ih:=Vf A l (J5 A Yl s w.tail).1 (n+1) fun x hx=>h x (List.mem_cons_of_mem _ hx)
  rw[qu]
  simp only[List.length_cons]
  split
  ·simp only[List.length_nil];omega
  ·split
   ·simp only[List.length_nil];omega
   ·split
    ·omega
    ·dsimp only;omega
abbrev zq3 (c:zog):C:=.agg [.sc (.int .i64 c.kind),.str c.opts,.own 0 9 1 (zQ c.operands)]
theorem zbU (l:List (List UInt8)) (hl:l.length<=100) (hs:∀ x∈l,x.length<=1000) :
  Fun Tryz.prog G0 25 [.sl 1 (zQ l)] (.tup [zq3 (XW l).1,.str (XW l).2]) 1:=by
 refine fof (fun i=>if i=15 then [false,false,false,false,false,false,true,false,true] else []) Tryz.func25 ?_;dsimp only[Tryz.f25]
 rcases l with _ | ⟨w,r⟩
 ·push_cast -dsimp [zQ,List.map_nil,List.length_nil]
  exact ⟨[.inr (9,1)],rfl,rfl,by push_cast -dsimp [zb,za,CLe,zd,XW,Xb]<;>rfl⟩
 ·have hlr:r.length<=99:=by simp at hl;omega
  have hw:=hs w (List.mem_cons_self ..)
  have hsr:∀ x∈r,x.length<=1000:=fun x hx=>hs x (List.mem_cons_of_mem _ hx)
  have hsC:zQ (w :: r) = [.str w] :: zQ r:=rfl
  have hp0:((r.length:Int)+1=0)=False:=eq_false (by omega)
  rw[hsC]
  push_cast -dsimp [hp0]
  refine loop (fun j:Nat=>⟨[(0,.sl 1 ([.str w] :: zQ r)),(2,.ptr 0 0),(4,.sc (.int .i64 (Jo w j))),(5,.sc (.int .i64 ((j:Int)+1)))],[[.sc (.int .i64 0),.str [],.sc (.slice none 0 0)]],0,0⟩) (fun j=>j<=5) (fun j=>5-j) 0 (Nat.zero_le _) ?_ ?_
  ·exact wk (by push_cast -dsimp [zb,za,CLe,zd,Jo])
  ·rintro j hj
   by_cases h:j<5
   ·have hp1:((j:Int)+1<=5)=True:=eq_true (by omega)
    push_cast -dsimp [hp1]
    refine cl (Nh ((j:Int)+1)) ?_;push_cast -dsimp
    have hku:Jo w (j+1)=if Jk ((j:Int)+1)=w then (j:Int)+1 else Jo w j:=by simp[Jo]
    by_cases hm:Jk ((j:Int)+1)=w
    ·rw[if_pos hm]at hku
     push_cast -dsimp [hm]
     repeat refine an ?_
     exact ⟨j+1,by omega,by omega,wk (by push_cast -dsimp [zb,za,CLe,zd,hku])⟩
    ·rw[if_neg hm]at hku
     push_cast -dsimp [hm]
     repeat refine an ?_
     exact ⟨j+1,by omega,by omega,wk (by push_cast -dsimp [zb,za,CLe,zd,hku])⟩
   ·have hp1:((j:Int)+1<=5)=False:=eq_false (by omega)
    have hj5:j=5:=by omega
    subst hj5
    have hkle:=Nq w 5
    have hrd:XW (w :: r)=if Jo w 5=0 then (Xb,qj w++[58,32,117,110,107,110,111,119,110,32,99,111,109,109,97,110,100]) else Jq (Jo w 5) w (qu (Z0 (Jo w 5)) Yl [] 0 r) r:=rfl
    generalize Jo w 5=K at hkle hrd ⊢
    by_cases hK0:K=0
    ·rw[if_pos hK0]at hrd
     have hq:=QT w
     push_cast -dsimp [hp1,hK0]
     refine cl (XK w (by omega)) ?_;push_cast -dsimp
     repeat refine an ?_
     exact ⟨[.inr (9,1)],rfl,rfl,by push_cast -dsimp [zb,za,CLe,zd,hrd,Xb]<;>rfl⟩
    ·rw[if_neg hK0]at hrd
     have hkk:K=1∨K=2∨K=3∨K=4∨K=5:=by omega
     have hlet:=yV K r hkk (by omega) hsr
     have hbnd:=Vf (Z0 K) r [] 0 hsr
     generalize qu (Z0 K) Yl [] 0 r=q at hlet hbnd hrd ⊢
     obtain ⟨s,n,bad⟩:=q
     dsimp only at hlet hbnd
     push_cast -dsimp [hp1,hK0]
     repeat refine an ?_
     refine cl (hlet) ?_;push_cast -dsimp
     by_cases hbad:bad = []
     ·have hdr:List.drop (1+(n:Int)).toNat ([C.str w] :: zQ r)=zQ (r.drop n):=by
       rw[show (1+(n:Int)).toNat=n+1 by omega,List.drop_succ_cons];simp[zQ]
      have hop:(r.drop n).length<=99:=by rw[List.length_drop];omega
      have hso:∀ x∈r.drop n,x.length<=1000:=fun x hx=>hsr x (List.mem_of_mem_drop hx)
      have hrt:Jq K w (s,n,bad) r=if jV K (J7 K s 58) (r.drop n)≠[] then (Xb,w++[58,32]++jV K (J7 K s 58) (r.drop n)) else (⟨K,J7 K s 58,r.drop n⟩,[]):=by
       unfold Jq;rw[if_neg (by simpa using hbad)]
      rw[hrt]at hrd
      have h84:=UC (J7 K s 58) 84 (by have:=List.length_filter_le (isO K s) ((List.range' 65 58).map UInt8.ofNat);simp at this;unfold J7;omega)
      have h102:=UC (J7 K s 58) 102 (by have:=List.length_filter_le (isO K s) ((List.range' 65 58).map UInt8.ofNat);simp at this;unfold J7;omega)
      generalize r.drop n=ops at hop hso hrd hdr
      push_cast -dsimp [hbad]
      refine cl (yM K s (by simp at hbnd;omega)) ?_;push_cast -dsimp [hdr]
      generalize J7 K s 58=O at h84 h102 hrd ⊢
      repeat refine an ?_
      have hleast:zcZ K=if 4<=K then 2 else 1:=by
       unfold zcZ
       by_cases h4:4<=K
       ·rw[if_pos h4,if_pos (by omega)]
       ·rw[if_neg h4,if_neg (by omega)]
      rcases ops with _ | ⟨x,_ | ⟨y,_ | ⟨z,t⟩⟩⟩
      ·by_cases hK2:K=2/\102∈O
       ·have hwv:jV K O [] = []:=by simp[jV,hK2]
        have hr2:=hrd
        rw[hwv,if_neg (by simp)]at hr2
        have h4:¬4<=K:=by omega
        have hK2':=hK2.1
        have m102:=hK2.2
        by_cases m84:84∈O
        all_goals
         push_cast -dsimp [h4,zQ,List.map_nil,List.map_cons,List.length_nil,List.length_cons]
         refine cl (h84) ?_;push_cast -dsimp [m84,hK2',zQ,List.map_nil,List.map_cons,List.length_nil,List.length_cons]
         refine cl (h102) ?_;push_cast -dsimp [m102,zQ,List.map_nil,List.map_cons,List.length_nil,List.length_cons]
         exact ⟨[.inl 0],rfl,rfl,by push_cast -dsimp [zb,za,CLe,zd,hr2,hK2',zQ,List.map_nil,List.map_cons,List.length_nil,List.length_cons]⟩
       ·have hwv:jV K O [] = [109,105,115,115,105,110,103,32,111,112,101,114,97,110,100]:=by simp[jV,hK2]
        have hr2:=hrd
        rw[hwv,if_pos (by simp)]at hr2
        by_cases hK2':K=2
        ·have m102:102∉O:=fun h=>hK2 ⟨hK2',h⟩
         have h4:¬4<=K:=by omega
         by_cases m84:84∈O
         all_goals
          push_cast -dsimp [h4,zQ,List.map_nil,List.map_cons,List.length_nil,List.length_cons]
          refine cl (h84) ?_;push_cast -dsimp [m84,hK2',zQ,List.map_nil,List.map_cons,List.length_nil,List.length_cons]
          refine cl (h102) ?_;push_cast -dsimp [m102,zQ,List.map_nil,List.map_cons,List.length_nil,List.length_cons]
          repeat refine an ?_
          exact ⟨[.inr (9,1)],rfl,rfl,by push_cast -dsimp [zb,za,CLe,zd,hr2,Xb,List.append_assoc,List.cons_append,List.nil_append]<;>rfl⟩
        ·by_cases h4:4<=K<;>by_cases m84:84∈O
         all_goals
          push_cast -dsimp [h4,hK2',zQ,List.map_nil,List.map_cons,List.length_nil,List.length_cons]
          try refine cl (h84) ?_;push_cast -dsimp [m84,hK2',zQ,List.map_nil,List.map_cons,List.length_nil,List.length_cons]
          repeat refine an ?_
          exact ⟨[.inr (9,1)],rfl,rfl,by push_cast -dsimp [zb,za,CLe,zd,hr2,Xb,List.append_assoc,List.cons_append,List.nil_append]<;>rfl⟩
      ·have hx:=hso x (by simp)
       have hqx:=QT x
       by_cases hl2:4<=K∨84∈O
       ·have hwv:jV K O [x] = [109,105,115,115,105,110,103,32,100,101,115,116,105,110,97,116,105,111,110,32,111,112,101,114,97,110,100,32,97,102,116,101,114,32]++qj x:=by
         unfold jV
         rw[if_neg (by simp),if_pos (by rw[hleast];rcases hl2 with h | h<;>simp[h])];rfl
        have hr2:=hrd
        rw[hwv,if_pos (by simp)]at hr2
        have h3:(4<=K/\84∈O)∨(4<=K/\84∉O)∨(¬4<=K/\84∈O):=by
         by_cases a:4<=K<;>by_cases b:84∈O<;>simp[a,b]at hl2 ⊢
        rcases h3 with ⟨h4,m84⟩ | ⟨h4,m84⟩ | ⟨h4,m84⟩
        all_goals
         push_cast -dsimp [h4,zQ,List.map_nil,List.map_cons,List.length_nil,List.length_cons]
         try refine cl (h84) ?_;push_cast -dsimp [m84,zQ,List.map_nil,List.map_cons,List.length_nil,List.length_cons]
         repeat refine an ?_
         refine cl (XK x (by omega)) ?_;push_cast -dsimp
         repeat refine an ?_
         exact ⟨[.inr (9,1)],rfl,rfl,by push_cast -dsimp [zb,za,CLe,zd,hr2,Xb,List.append_assoc,List.cons_append,List.nil_append]<;>rfl⟩
       ·have h4:¬4<=K:=fun h=>hl2 (.inl h)
        have m84:84∉O:=fun h=>hl2 (.inr h)
        have hwv:jV K O [x] = []:=by
         unfold jV
         rw[if_neg (by simp),hleast];simp[h4,m84]
        have hr2:=hrd
        rw[hwv,if_neg (by simp)]at hr2
        push_cast -dsimp [h4,zQ,List.map_nil,List.map_cons,List.length_nil,List.length_cons]
        refine cl (h84) ?_;push_cast -dsimp [m84,zQ,List.map_nil,List.map_cons,List.length_nil,List.length_cons]
        exact ⟨[.inl 0],rfl,rfl,by push_cast -dsimp [zb,za,CLe,zd,hr2,zQ,List.map_nil,List.map_cons,List.length_nil,List.length_cons]⟩
      ·have hwv:jV K O [x,y] = []:=by
        unfold jV
        rw[if_neg (by simp),hleast]
        by_cases h4:4<=K<;>by_cases m84:84∈O<;>simp[h4,m84]
       have hr2:=hrd
       rw[hwv,if_neg (by simp)]at hr2
       by_cases h4:4<=K<;>by_cases m84:84∈O
       all_goals
        push_cast -dsimp [h4,zQ,List.map_nil,List.map_cons,List.length_nil,List.length_cons]
        try refine cl (h84) ?_;push_cast -dsimp [m84,zQ,List.map_nil,List.map_cons,List.length_nil,List.length_cons]
        exact ⟨[.inl 0],rfl,rfl,by push_cast -dsimp [zb,za,CLe,zd,hr2,zQ,List.map_nil,List.map_cons,List.length_nil,List.length_cons]⟩
      ·have hz:=hso z (by simp)
       have hqz:=QT z
       have hp0:((t.length:Int)+1+1+1=0)=False:=eq_false (by omega)
       have hp2:((t.length:Int)+1+1+1<2)=False:=eq_false (by omega)
       have hp3:((t.length:Int)+1+1+1<1)=False:=eq_false (by omega)
       have hp4:(2<(t.length:Int)+1+1+1)=True:=eq_true (by omega)
       have hp5:(0<(t.length:Int)+1+1+1)=True:=eq_true (by omega)
       by_cases m84:84∈O
       ·have hwv:jV K O (x :: y :: z :: t) = [101,120,116,114,97,32,111,112,101,114,97,110,100,32]++qj z:=by
         unfold jV
         rw[if_neg (by simp),hleast,if_neg (by simp[m84]),if_pos (by simp[m84])];rfl
        have hr2:=hrd
        rw[hwv,if_pos (by simp)]at hr2
        by_cases h4:4<=K
        all_goals
         push_cast -dsimp [h4,hp0,hp2,hp3,hp4,hp5,zQ,List.map_nil,List.map_cons,List.length_nil,List.length_cons]
         try refine cl (h84) ?_;push_cast -dsimp [m84,hp0,hp2,hp3,hp4,hp5,zQ,List.map_nil,List.map_cons,List.length_nil,List.length_cons]
         try refine cl (h84) ?_;push_cast -dsimp [m84,hp0,hp2,hp3,hp4,hp5,zQ,List.map_nil,List.map_cons,List.length_nil,List.length_cons]
         repeat refine an ?_
         refine cl (XK z (by omega)) ?_;push_cast -dsimp
         repeat refine an ?_
         exact ⟨[.inr (9,1)],rfl,rfl,by push_cast -dsimp [zb,za,CLe,zd,hr2,Xb,List.append_assoc,List.cons_append,List.nil_append]<;>rfl⟩
       ·have hwv:jV K O (x :: y :: z :: t) = []:=by
         unfold jV
         rw[if_neg (by simp),hleast]
         by_cases h4:4<=K<;>simp[h4,m84]
        have hr2:=hrd
        rw[hwv,if_neg (by simp)]at hr2
        by_cases h4:4<=K
        all_goals
         push_cast -dsimp [h4,hp0,hp2,hp3,hp4,hp5,zQ,List.map_nil,List.map_cons,List.length_nil,List.length_cons]
         try refine cl (h84) ?_;push_cast -dsimp [m84,hp0,hp2,hp3,hp4,hp5,zQ,List.map_nil,List.map_cons,List.length_nil,List.length_cons]
         try refine cl (h84) ?_;push_cast -dsimp [m84,hp0,hp2,hp3,hp4,hp5,zQ,List.map_nil,List.map_cons,List.length_nil,List.length_cons]
         exact ⟨[.inl 0],rfl,rfl,by push_cast -dsimp [zb,za,CLe,zd,hr2,zQ,List.map_nil,List.map_cons,List.length_nil,List.length_cons]⟩
     ·have hqb:=QT bad
      have hrt:Jq K w (s,n,bad) r=(Xb,w++[58,32,105,110,118,97,108,105,100,32,111,112,116,105,111,110,32]++qj bad):=by
       unfold Jq;rw[if_pos (by simpa using hbad)]
      rw[hrt]at hrd
      push_cast -dsimp [hbad]
      repeat refine an ?_
      refine cl (XK bad (by omega)) ?_;push_cast -dsimp
      repeat refine an ?_
      exact ⟨[.inr (9,1)],rfl,rfl,by push_cast -dsimp [zb,za,CLe,zd,hrd,Xb]<;>rfl⟩
theorem zfM (l:List (List UInt8)):(XW l).1.operands.length<=l.length:=by
 cases l with
 | nil=>simp[XW,Xb]
 | cons w r =>
  rw[XW]
  split
  ·simp[Xb]
  ·unfold Jq
   split
   ·simp[Xb]
   ·split
    ·simp[Xb]
    ·simp only[List.length_drop,List.length_cons];omega
end
section
open CA CB
open Go.RowKit
theorem xu (f:FsV) (hf:FsI f) (hr:FsR f) (hs:FsS f) (hd:∀ x∈f.xs,x.kind=3->x.data.length<=1000) (b p:List UInt8) (hb:b.length<=100000) (hp:p.length<=1000):Fun Tryz.prog G0 31 [.agg (fsC f),.str b,.str p] (.sc (.bool (Um f b p))) 0:=by
 have hre:Fun Tryz.prog G0 63 [.str p] (.agg [qy (QE p),.own 0 9 1 (zQ (zr p)),qy (qL p)]) 1:=QA p (by omega)
 have hel:(VB p).length<=1000:=by
  by_cases h:zr p = []
  ·rw[show VB p=p from if_pos h];exact hp
  ·exact Nat.le_trans (zcC p h) hp
 have he:=zhQ p (by omega)
 have hsk:=GA f hf hr hs hd b (VB p) false hb (by omega)
 have hg:=jA (G:=G0) f (z6 f b (VB p) false).1.ino (by have:=hs.len;omega) hf.rises
 have e:Um f b p=(qL p&&decide ((z6 f b (VB p) false).2=0)&&decide ((zf (z6 f b (VB p) false).1.ino f.xs).kind=3)):=rfl
 rw[e]
 generalize z6 f b (VB p) false=T at *
 cases h0:qL p<;>rw[h0]at hre
 ·cases hh:zw T.1.ino f.xs<;>rw[hh]at hg
  all_goals
   by_cases h1:T.2=0
   ·have h1':=eq_true h1
    refine fof (fun i=>if i=1 then Jl 8 9 else if i=2 then Jl 7 8 else []) Tryz.func31 ?_;dsimp only[Tryz.f31]
    push_cast -dsimp
    refine cl (he) ?_;push_cast -dsimp
    refine cl (hsk) ?_;push_cast -dsimp
    refine cl (hg) ?_;push_cast -dsimp
    refine cl (hre) ?_;push_cast -dsimp [h1']
    exact dn (by push_cast -dsimp [zb,za,CLe,zd,Bool.false_and])
   ·have h1':=eq_false h1
    refine fof (fun i=>if i=1 then Jl 8 9 else if i=2 then Jl 7 8 else []) Tryz.func31 ?_;dsimp only[Tryz.f31]
    push_cast -dsimp
    refine cl (he) ?_;push_cast -dsimp
    refine cl (hsk) ?_;push_cast -dsimp
    refine cl (hg) ?_;push_cast -dsimp
    refine cl (hre) ?_;push_cast -dsimp [h1']
    exact dn (by push_cast -dsimp [zb,za,CLe,zd,Bool.false_and])
 ·by_cases h1:T.2=0
  ·have h1':=eq_true h1
   cases hh:zw T.1.ino f.xs with
   | false =>
    rw[hh]at hg
    rw[xp hh]at hg ⊢
    have hz:((xo.kind=3)=False):=eq_false (show ¬(0:Int)=3 by decide)
    refine fof (fun i=>if i=1 then Jl 8 9 else if i=2 then Jl 7 8 else []) Tryz.func31 ?_;dsimp only[Tryz.f31]
    push_cast -dsimp
    refine cl (he) ?_;push_cast -dsimp
    refine cl (hsk) ?_;push_cast -dsimp
    refine cl (hg) ?_;push_cast -dsimp
    refine cl (hre) ?_;push_cast -dsimp [h1']
    exact dn (by push_cast -dsimp [zb,za,CLe,zd,h1',hz])
   | true =>
    rw[hh]at hg
    refine fof (fun i=>if i=1 then Jl 8 9 else if i=2 then Jl 7 8 else []) Tryz.func31 ?_;dsimp only[Tryz.f31]
    push_cast -dsimp
    refine cl (he) ?_;push_cast -dsimp
    refine cl (hsk) ?_;push_cast -dsimp
    refine cl (hg) ?_;push_cast -dsimp
    refine cl (hre) ?_;push_cast -dsimp [h1']
    exact dn (by push_cast -dsimp [zb,za,CLe,zd,h1',Bool.false_and,Bool.and_false])
  ·have h1':=eq_false h1
   refine fof (fun i=>if i=1 then Jl 8 9 else if i=2 then Jl 7 8 else []) Tryz.func31 ?_;dsimp only[Tryz.f31]
   push_cast -dsimp
   refine cl (he) ?_;push_cast -dsimp
   refine cl (hsk) ?_;push_cast -dsimp
   refine cl (hg) ?_;push_cast -dsimp
   refine cl (hre) ?_;push_cast -dsimp [h1']
   exact dn (by push_cast -dsimp [zb,za,CLe,zd,h1',Bool.false_and,Bool.and_false])
abbrev zpG (k:Int) (o:List UInt8) (ops:List (List UInt8)):List C:=[.sc (.int .i64 k),.str o,.sl 1 (zQ ops)]
theorem zkU (k:Int) (o:List UInt8) (ops:List (List UInt8)) (x:zm) (hx:x.es.length<=100000):Fun Tryz.prog G0 34 [.agg (zpG k o ops),.agg (JJ x)] (.sc (.int .i64 (zim o x))) 0:=by
 have h1:=xC k o (.sl 1 (zQ ops)) 114 rfl
 have h2:=xC k o (.sl 1 (zQ ops)) 100 rfl
 have hel:(qe x.es).length=x.es.length:=List.length_map ..
 by_cases c1:x.kind=2
 ·have c1':=eq_true c1
  by_cases c2:(114:UInt8)∈o
  ·have e:zim o x=0:=if_pos (.inr c2)
   rw[decide_eq_true c2]at h1
   refine fon Tryz.func34 ?_;dsimp only[Tryz.f34]
   push_cast -dsimp [c1']
   refine cl (h1) ?_;push_cast -dsimp
   exact dn (by push_cast -dsimp [zb,za,CLe,zd,e])
  ·rw[decide_eq_false c2]at h1
   have e:zim o x=if (100:UInt8)∉o then 4 else if x.es≠[] then 5 else 0:=if_neg (by rintro (q | q);exact q c1;exact c2 q)
   by_cases c3:(100:UInt8)∈o
   ·rw[decide_eq_true c3]at h2
    rw[if_neg (fun q=>q c3)]at e
    by_cases c4:x.es = []
    ·rw[if_neg (fun q=>q c4)]at e
     have c4':((0:Int)<x.es.length)=False:=eq_false (by rw[c4];simp)
     refine fon Tryz.func34 ?_;dsimp only[Tryz.f34]
     push_cast -dsimp [c1']
     refine cl (h1) ?_;push_cast -dsimp
     refine cl (h2) ?_;push_cast -dsimp [hel,c4']
     exact dn (by push_cast -dsimp [zb,za,CLe,zd,e])
    ·rw[if_pos c4]at e
     have c4':((0:Int)<x.es.length)=True:=eq_true (by have:=List.length_pos_iff.2 c4;omega)
     refine fon Tryz.func34 ?_;dsimp only[Tryz.f34]
     push_cast -dsimp [c1']
     refine cl (h1) ?_;push_cast -dsimp
     refine cl (h2) ?_;push_cast -dsimp [hel,c4']
     exact dn (by push_cast -dsimp [zb,za,CLe,zd,e])
   ·rw[decide_eq_false c3]at h2
    rw[if_pos c3]at e
    refine fon Tryz.func34 ?_;dsimp only[Tryz.f34]
    push_cast -dsimp [c1']
    refine cl (h1) ?_;push_cast -dsimp
    refine cl (h2) ?_;push_cast -dsimp
    exact dn (by push_cast -dsimp [zb,za,CLe,zd,e])
 ·have c1':=eq_false c1
  have e:zim o x=0:=if_pos (.inl c1)
  refine fon Tryz.func34 ?_;dsimp only[Tryz.f34]
  push_cast -dsimp [c1']
  exact dn (by push_cast -dsimp [zb,za,CLe,zd,e])
end
section
def MB (xs:List zm):Prop:=∀ x∈xs,x.kind=3->x.data.length<=1000
theorem zdf {xs:List zm} (h:MB xs) (n:Int):(zf n xs).kind=3->(zf n xs).data.length<=1000:=fun hk=>by
 cases hh:zw n xs with
 | true=>exact h _ (zh hh).2.1 hk
 | false=>rw[(Yf hh).2]at hk;exact absurd hk (by decide)
theorem zer {xs:List zm} {x:zm} (h:MB xs) (hx:x.kind=3->x.data.length<=1000):MB (qZ x xs):=fun z hz hk=>by
 rcases zmn hz with rfl | hz
 ·exact hx hk
 ·exact h z hz hk
theorem uN {f:FsV} (s:z8) (h:MB f.xs):MB (zk f s).xs:=by
 have hd:MB (jr s.dir (zg s.name) f.xs):=zer h (zdf h s.dir)
 unfold zk
 split
 ·exact fun z hz hk=>hd z (Yk.1 hz).1 hk
 ·exact zer hd (zdf h s.ino)
theorem zcD {K:Nat} {d:zK} (h:RmB K d) (p:List UInt8) (hd:MB d.w.fs.xs):MB (Ze d (Q3 p)).1.w.fs.xs:=by
 by_cases hz:(Ze d (Q3 p)).2=0
 case neg=>rw[Md hz];exact hd
 have eo:U1 d (Q3 p)=⟨7,d.slot+1,p,[],[]⟩:=rfl
 unfold Ze at hz ⊢
 rw[eo]at hz ⊢
 rw[if_neg (show ¬7<(Q3 p).kind by show ¬(7:Int)<7;decide)]at hz ⊢
 split at hz
 ·rename_i hq;exact absurd hz hq
 rename_i hq
 rw[if_neg hq]
 show MB (doV d.w ⟨7,d.slot+1,p,[],[]⟩).1.fs.xs
 rcases do7 h.wi (o:=⟨7,d.slot+1,p,[],[]⟩) rfl with e | ⟨s,hs,he,e⟩
 ·rw[e];exact hd
 ·rw[e]
  unfold j8
  split
  ·exact hd
  ·exact uN s hd
theorem zle {K:Nat} {d:zK} (h:RmB K d) (b o p:List UInt8) (hd:MB d.w.fs.xs):MB (yC b o d p).w.fs.xs:=by
 unfold yC
 simp only
 split
 ·exact hd
 ·split
  ·exact (vF (P:=fun d=>RmB K d/\MB d.w.fs.xs) (fun d p hd=>⟨(hd.1.add p).1,zcD hd.1 p hd.2⟩) _ d _ _ ⟨h,hd⟩).2
  ·exact hd
end
section
open CA CB
open Go.RowKit
theorem zlo (d:zK) (hd:d.diags.length<=80000) (k w:Int) (a b:List UInt8) (e:Int) (ha:a.length<=1000) (hb:b.length<=1000):Fun Tryz.prog GD 29 [VV d,.sc (.int .i64 k),.sc (.int .i64 w),.str a,.str b,.sc (.int .i64 e)] (VV (Ja d (XT k w a b e))) 0:=
 (zeE d hd k w a b e ha hb).weak (by push_cast -dsimp [zb,za,CLe,zd,Ja])
theorem zdI (d:zK) (hd:d.diags.length<=80000) (p:List UInt8) (hp:p.length<=1000) (w e:Int):ND Tryz.prog GD 28 [.sc (.int .i64 w),.sc (.int .i64 e),.ptr 0 0,.ptr 1 0] [znL d,[.str p]] 0 (.tup []) [znL (Ja d (XT 2 w p [] e)),[.str p]] 0:=by
 have h:=zlo d hd 2 w p [] e hp (Nat.zero_le _)
 refine foB (fun _=>[]) Tryz.func28 ?_;dsimp only[Tryz.f28]
 push_cast -dsimp
 refine cl (h) ?_;push_cast -dsimp
 exact ⟨[],rfl,rfl,by push_cast -dsimp [zb,za,CLe,zd],by push_cast -dsimp [zb,za,CLe,zd]⟩
theorem zg6 {f:FsV} (h:okV f) {s:z8} (hh:zw s.dir f.xs=true) (hk:(zf s.dir f.xs).kind=2) (hm:may s.name=true):(Yy f s).length<=21000:=by
 obtain ⟨ns,n1,n2,n3,n4,n5⟩:=zjK h hh hk
 have hml:=zfS hm
 have hjw:=Xw ns
 have hjl:(zW ns).length<=20001:=by unfold zW;split<;>simp<;>omega
 have e:Yy f s=Qy (zW ns) s.name:=by unfold Yy;rw[n5];rfl
 have:=zcv (zW ns) s.name
 rw[e];omega
theorem Jg {b o:List UInt8} {d:zK} {p:List UInt8} {w e:Int} {g:Bool} (h:Mf d.w.fs b o p=(w,e,g)) (hw:w≠0):yC b o d p=Ja d (XT 2 w p [] e):=by
 unfold yC
 simp only[h]
 rw[if_pos hw]
theorem k8 {b o:List UInt8} {d:zK} {p:List UInt8} {e:Int} (h:Mf d.w.fs b o p=(0,e,false)):yC b o d p=d:=by
 unfold yC
 simp[h]
theorem zj8 {b o:List UInt8} {d:zK} {p:List UInt8} {e:Int} (h:Mf d.w.fs b o p=(0,e,true)):yC b o d p=rmD (d.w.fs.xs.length+1) d (Yy d.w.fs (z6 d.w.fs b p false).1) (z6 d.w.fs b p false).1.ino:=by
 unfold yC
 simp[h]
structure PlI (b o:List UInt8) (l:List (List UInt8)) (d:zK) (i:Nat) (D:zK):Prop where
 le:i<=l.length
 eq:D=zjk b o (l.take i) d
 g:RmG 2000 D
 dl:D.diags.length<=d.diags.length+i
 dat:MB D.w.fs.xs
theorem PlI.step {b o:List UInt8} {l:List (List UInt8)} {d D:zK} {i:Nat} (h:PlI b o l d i D) (hi:i<l.length) (hl:d.diags.length+l.length<=80000):PlI b o l d (i+1) (yC b o D l[i]):=by
 have hdl:=h.dl
 rcases zgE h.g b o l[i] with ⟨g1,g2,g3⟩ | q
 ·refine ⟨by omega,?_,g1,?_,zle h.g.b b o l[i] h.dat⟩
  ·rw[List.take_succ_eq_append_getElem hi]
   unfold zjk
   rw[List.foldl_append]
   show _=yC b o (zjk b o (l.take i) d) l[i]
   rw[←h.eq]
  ·rw[g3];split
   ·rw[List.length_append,List.length_singleton];omega
   ·omega
 ·omega
theorem H9 (k:Int) (b o:List UInt8) (l:List (List UInt8)) (d:zK) (hg:RmG 2000 d) (hdt:MB d.w.fs.xs) (hl:d.diags.length+l.length<=80000) (hb:b.length<=1000) (hp:∀ x∈l,x.length<=1000):Fun Tryz.prog GD 9 [VV d,.str b,.agg (zpG k o l)] (VV (zjk b o l d)) 0:=by
 have hll:(zQ l).length=l.length:=List.length_map ..
 refine fof (fun i=>if i=25 then [false,false,false,false,false,false,false,true] else []) Tryz.func9 ?_;dsimp only[Tryz.f9]
 push_cast -dsimp
 refine loop (fun q:Nat×zK=>⟨[(1,.str b),(3,.ptr 0 0),(5,.ptr 1 0),(6,.ptr 2 0),(18,.sl 1 (zQ l)),(19,.sc (.int .i64 l.length)),(20,.sc (.int .i64 q.1))],[znL q.2,zpG k o l,U9],0,0⟩) (fun q=>PlI b o l d q.1 q.2) (fun q=>l.length-q.1) (0,d) ⟨Nat.zero_le _,rfl,hg,Nat.le_refl _,hdt⟩ ?_ ?_
 ·exact wk (h4:=by push_cast -dsimp [zb,za,CLe,zd,hll])
 rintro ⟨i,D⟩ hI
 dsimp only at hI
 have h1:=hI.le
 by_cases hi:i<l.length
 case neg =>
  have hil:i=l.length:=by omega
  have hi':=eq_false (show ¬(i:Int)<l.length by omega)
  have e:=hI.eq
  rw[hil,List.take_length]at e
  push_cast -dsimp [hi']
  rw[←e]
  exact dn (by push_cast -dsimp [zb,za,CLe,zd])
 have hN:=hI.step hi hl
 have hi':=eq_true (show (i:Int)<l.length by omega)
 have hgi:(zQ l)[i]?=some [.str l[i]]:=by simp[zQ,hi]
 have hpl:=hp _ (List.getElem_mem hi)
 generalize l[i]=p at *
 have hdl:D.diags.length<=80000:=by have:=hI.dl;omega
 have hf:=hI.g.c.wi.fs
 have hr:=hI.g.c.wr.fs
 have hs:=hI.g.b.s.ws.fs
 have hba:=(zhz p (by omega)).g0 (G':=GD)
 have htl:=zdI D hdl p hpl
 have hx:=hI.g.b.node
 by_cases c1:Yw p = [47]
 ·have c1':=eq_true c1
  rw[Jg (w:=4) (e:=0) (g:=false) (if_pos c1) (by decide)]at hN
  push_cast -dsimp [hi',hgi,hll,Int.toNat_natCast]
  repeat refine an ?_
  refine cl (hba) ?_;push_cast -dsimp [c1']
  refine Qj [0,3] [] (htl (4) (0)) rfl (by decide) (by decide) (by simp) (by push_cast -dsimp) (by push_cast -dsimp) ?_
  push_cast -dsimp
  repeat refine an ?_
  exact ⟨(i+1,_),hN,by dsimp only;omega,wk (h5:=by push_cast -dsimp [zb,za,CLe,zd,Ja])⟩
 have c1':=eq_false c1
 have e1:Mf D.w.fs b o p=_:=if_neg c1
 by_cases c2:Yw p = [46]
 ·have c2':=eq_true c2
  rw[Jg (w:=3) (e:=0) (g:=false) (e1.trans (if_pos (.inl c2))) (by decide)]at hN
  push_cast -dsimp [hi',hgi,hll,Int.toNat_natCast]
  repeat refine an ?_
  refine cl (hba) ?_;push_cast -dsimp [c1',c2']
  refine Qj [0,3] [] (htl (3) (0)) rfl (by decide) (by decide) (by simp) (by push_cast -dsimp) (by push_cast -dsimp) ?_
  push_cast -dsimp
  repeat refine an ?_
  exact ⟨(i+1,_),hN,by dsimp only;omega,wk (h5:=by push_cast -dsimp [zb,za,CLe,zd,Ja])⟩
 have c2':=eq_false c2
 by_cases c3:Yw p = [46,46]
 ·have c3':=eq_true c3
  rw[Jg (w:=3) (e:=0) (g:=false) (e1.trans (if_pos (.inr c3))) (by decide)]at hN
  push_cast -dsimp [hi',hgi,hll,Int.toNat_natCast]
  repeat refine an ?_
  refine cl (hba) ?_;push_cast -dsimp [c1',c2',c3']
  refine Qj [0,3] [] (htl (3) (0)) rfl (by decide) (by decide) (by simp) (by push_cast -dsimp) (by push_cast -dsimp) ?_
  push_cast -dsimp
  repeat refine an ?_
  exact ⟨(i+1,_),hN,by dsimp only;omega,wk (h5:=by push_cast -dsimp [zb,za,CLe,zd,Ja])⟩
 have c3':=eq_false c3
 have e2:=e1.trans (if_neg (by rintro (q | q);exact c2 q;exact c3 q))
 have hsk:=(GA D.w.fs hf hr hs hI.dat b p false (by omega) (by omega)).g0 (G':=GD)
 have hha:=(xC k o (.sl 1 (zQ l)) 102 rfl).g0 (G':=GD)
 have hE:zf2 D.w.fs b p=if (z6 D.w.fs b p false).2=0/\(z6 D.w.fs b p false).1.ino=0 then 1 else (z6 D.w.fs b p false).2:=rfl
 by_cases c4:(z6 D.w.fs b p false).2=0
 case neg =>
  have c4':=eq_false c4
  rw[if_neg (fun q=>c4 q.1)]at hE
  have hE0:zf2 D.w.fs b p≠0:=by rw[hE];exact c4
  have e3:=e2.trans (if_pos hE0)
  rw[hE]at e3
  by_cases c6:(102:UInt8)∈o
  ·rw[decide_eq_true c6]at hha
   by_cases c7:(z6 D.w.fs b p false).2=1
   ·rw[if_pos ⟨c6,.inl c7⟩]at e3
    rw[k8 e3]at hN
    rw[c7]at hsk
    push_cast -dsimp [hi',hgi,hll,Int.toNat_natCast]
    repeat refine an ?_
    refine cl (hba) ?_;push_cast -dsimp [c1',c2',c3']
    refine cl (hsk) ?_;push_cast -dsimp
    refine cl (hha) ?_;push_cast -dsimp
    repeat refine an ?_
    exact ⟨(i+1,_),hN,by dsimp only;omega,wk (h5:=by push_cast -dsimp [zb,za,CLe,zd,Ja])⟩
   ·have c7':=eq_false c7
    by_cases c8:(z6 D.w.fs b p false).2=3
    ·rw[if_pos ⟨c6,.inr c8⟩]at e3
     rw[k8 e3]at hN
     rw[c8]at hsk
     push_cast -dsimp [hi',hgi,hll,Int.toNat_natCast]
     repeat refine an ?_
     refine cl (hba) ?_;push_cast -dsimp [c1',c2',c3']
     refine cl (hsk) ?_;push_cast -dsimp
     refine cl (hha) ?_;push_cast -dsimp
     repeat refine an ?_
     exact ⟨(i+1,_),hN,by dsimp only;omega,wk (h5:=by push_cast -dsimp [zb,za,CLe,zd,Ja])⟩
    ·have c8':=eq_false c8
     rw[if_neg (fun q=>q.2.elim c7 c8)]at e3
     rw[Jg e3 (by decide)]at hN
     push_cast -dsimp [hi',hgi,hll,Int.toNat_natCast]
     repeat refine an ?_
     refine cl (hba) ?_;push_cast -dsimp [c1',c2',c3']
     refine cl (hsk) ?_;push_cast -dsimp [c4',c7',c8']
     refine cl (hha) ?_;push_cast -dsimp [c4',c7',c8']
     refine Qj [0,3] [] (htl (2) ((z6 D.w.fs b p false).2)) rfl (by decide) (by decide) (by simp) (by push_cast -dsimp) (by push_cast -dsimp) ?_
     push_cast -dsimp
     repeat refine an ?_
     exact ⟨(i+1,_),hN,by dsimp only;omega,wk (h5:=by push_cast -dsimp [zb,za,CLe,zd,Ja])⟩
  ·rw[decide_eq_false c6]at hha
   rw[if_neg (fun q=>c6 q.1)]at e3
   rw[Jg e3 (by decide)]at hN
   push_cast -dsimp [hi',hgi,hll,Int.toNat_natCast]
   repeat refine an ?_
   refine cl (hba) ?_;push_cast -dsimp [c1',c2',c3']
   refine cl (hsk) ?_;push_cast -dsimp [c4']
   refine cl (hha) ?_;push_cast -dsimp
   refine Qj [0,3] [] (htl (2) ((z6 D.w.fs b p false).2)) rfl (by decide) (by decide) (by simp) (by push_cast -dsimp) (by push_cast -dsimp) ?_
   push_cast -dsimp
   repeat refine an ?_
   exact ⟨(i+1,_),hN,by dsimp only;omega,wk (h5:=by push_cast -dsimp [zb,za,CLe,zd,Ja])⟩
 rw[c4]at hsk
 by_cases c5:(z6 D.w.fs b p false).1.ino=0
 ·have c5':=eq_true c5
  rw[if_pos ⟨c4,c5⟩]at hE
  have hE0:zf2 D.w.fs b p≠0:=by rw[hE];decide
  have e3:=e2.trans (if_pos hE0)
  rw[hE]at e3
  by_cases c6:(102:UInt8)∈o
  ·rw[decide_eq_true c6]at hha
   rw[if_pos ⟨c6,.inl rfl⟩]at e3
   rw[k8 e3]at hN
   push_cast -dsimp [hi',hgi,hll,Int.toNat_natCast]
   repeat refine an ?_
   refine cl (hba) ?_;push_cast -dsimp [c1',c2',c3']
   refine cl (hsk) ?_;push_cast -dsimp [c5']
   refine cl (hha) ?_;push_cast -dsimp
   repeat refine an ?_
   exact ⟨(i+1,_),hN,by dsimp only;omega,wk (h5:=by push_cast -dsimp [zb,za,CLe,zd,Ja])⟩
  ·rw[decide_eq_false c6]at hha
   rw[if_neg (fun q=>c6 q.1)]at e3
   rw[Jg e3 (by decide)]at hN
   push_cast -dsimp [hi',hgi,hll,Int.toNat_natCast]
   repeat refine an ?_
   refine cl (hba) ?_;push_cast -dsimp [c1',c2',c3']
   refine cl (hsk) ?_;push_cast -dsimp [c5']
   refine cl (hha) ?_;push_cast -dsimp
   refine Qj [0,3] [] (htl (2) (1)) rfl (by decide) (by decide) (by simp) (by push_cast -dsimp) (by push_cast -dsimp) ?_
   push_cast -dsimp
   repeat refine an ?_
   exact ⟨(i+1,_),hN,by dsimp only;omega,wk (h5:=by push_cast -dsimp [zb,za,CLe,zd,Ja])⟩
 have c5':=eq_false c5
 rw[if_neg (fun q=>c5 q.2),c4]at hE
 have e3:=e2.trans (if_neg (fun q=>q hE))
 have hlk:=(xu D.w.fs hf hr hs hI.dat b p (by omega) hpl).g0 (G':=GD)
 have hg:=jA (G:=GD) D.w.fs (z6 D.w.fs b p false).1.ino (by have:=hs.len;omega) hf.rises
 cases c6:Um D.w.fs b p with
 | true =>
  rw[c6]at hlk e3
  rw[Jg (e3.trans (if_pos rfl)) (by decide)]at hN
  push_cast -dsimp [hi',hgi,hll,Int.toNat_natCast]
  repeat refine an ?_
  refine cl (hba) ?_;push_cast -dsimp [c1',c2',c3']
  refine cl (hsk) ?_;push_cast -dsimp [c5']
  refine cl (hlk) ?_;push_cast -dsimp
  refine Qj [0,3] [] (htl (2) (3)) rfl (by decide) (by decide) (by simp) (by push_cast -dsimp) (by push_cast -dsimp) ?_
  push_cast -dsimp
  repeat refine an ?_
  exact ⟨(i+1,_),hN,by dsimp only;omega,wk (h5:=by push_cast -dsimp [zb,za,CLe,zd,Ja])⟩
 | false =>
  rw[c6]at hlk e3
  have e4:=e3.trans (if_neg (by simp))
  have hwy:=(zkU k o l (zf (z6 D.w.fs b p false).1.ino D.w.fs.xs) (by
   cases hh:zw (z6 D.w.fs b p false).1.ino D.w.fs.xs with
   | false=>rw[xp hh];exact Nat.zero_le _
   | true=>have:=(hx _ (zh hh).2.1).1;omega)).g0 (G':=GD)
  by_cases c7:zim o (zf (z6 D.w.fs b p false).1.ino D.w.fs.xs)=0
  ·have e5:=e4.trans (if_neg (fun q=>q c7))
   have ht:=NE hf hr (b:=b) (o:=o) (p:=p) (by rw[e5])
   have hm:=QG hr ht
   have hok:=hI.g.ok
   have hpa:=(zdl D.w.fs hok _ ht.has ht.kind hm).g0 (G':=GD)
   have hpl2:=zg6 hok ht.has ht.kind hm
   have hrm:=Ua D.w.fs.xs.length D (Yy D.w.fs (z6 D.w.fs b p false).1) (z6 D.w.fs b p false).1.ino hI.g.b (by have:=hI.g.b.len;omega) (zjq hok (zI.ino hf ht))
   rw[c7]at hwy
   rw[zj8 e5]at hN
   generalize rmD (D.w.fs.xs.length+1) D (Yy D.w.fs (z6 D.w.fs b p false).1) (z6 D.w.fs b p false).1.ino=D2 at hrm hN
   push_cast -dsimp [hi',hgi,hll,Int.toNat_natCast]
   repeat refine an ?_
   refine cl (hba) ?_;push_cast -dsimp [c1',c2',c3']
   refine cl (hsk) ?_;push_cast -dsimp [c5']
   refine cl (hlk) ?_;push_cast -dsimp
   refine cl (hg) ?_;push_cast -dsimp
   refine cl (hwy) ?_;push_cast -dsimp
   refine cl (hpa) ?_;push_cast -dsimp
   refine cl (hrm) ?_;push_cast -dsimp
   repeat refine an ?_
   exact ⟨(i+1,_),hN,by dsimp only;omega,wk (h5:=by push_cast -dsimp [zb,za,CLe,zd,Ja])⟩
  ·have c7':=eq_false c7
   rw[Jg (e4.trans (if_pos c7)) (by decide)]at hN
   push_cast -dsimp [hi',hgi,hll,Int.toNat_natCast]
   repeat refine an ?_
   refine cl (hba) ?_;push_cast -dsimp [c1',c2',c3']
   refine cl (hsk) ?_;push_cast -dsimp [c5']
   refine cl (hlk) ?_;push_cast -dsimp
   refine cl (hg) ?_;push_cast -dsimp
   refine cl (hwy) ?_;push_cast -dsimp [c7']
   refine Qj [0,3] [] (htl (2) (zim o (zf (z6 D.w.fs b p false).1.ino D.w.fs.xs))) rfl (by decide) (by decide) (by simp) (by push_cast -dsimp) (by push_cast -dsimp) ?_
   push_cast -dsimp
   repeat refine an ?_
   exact ⟨(i+1,_),hN,by dsimp only;omega,wk (h5:=by push_cast -dsimp [zb,za,CLe,zd,Ja])⟩
end
section
open CA CB
open Go.RowKit
end
section
open CA CB
open Go.RowKit
end
section
open CA CB
open Go.RowKit
end
section
open CA CB
open Go.RowKit
end
section
open CA CB
open Go.RowKit
end
section
open CA CB
open Go.RowKit
def JP (w:qA) (b:List UInt8) (l:List (List UInt8)):Prop:=(∀ x∈l.take 20,x.length<=1000)/\okW w/\w.fs.next<549755813888/\jz w.kept<536870912/\Qt w.fs b []=true/\Yc b=true/\l.length<=6
instance (w:qA) (b:List UInt8) (l:List (List UInt8)):Decidable (JP w b l):=by unfold JP;infer_instance
theorem zbc (w:qA) (b:List UInt8) (l:List (List UInt8)) (hb:b.length<=2000000):Fun Tryz.prog G0 7 [Zd w,.str b,.sl 1 (zQ l)] (qy (decide (JP w b l))) 0:=by
 have hll:(zQ l).length=l.length:=List.length_map ..
 have hpl:=Mn b hb
 unfold Y2 at hpl
 have hok:=zeb w
 have hsh:=zaw w.fs b []
 refine fon Tryz.func7 ?_;dsimp only[Tryz.f7]
 push_cast -dsimp
 refine cl (hpl) ?_;push_cast -dsimp
 refine loop (fun i:Nat=>⟨[(1,.str b),(2,.sl 1 (zQ l)),(3,.ptr 0 0),(8,.sc (.bool (Yc b))),(9,.sc (.int .i64 i))],[kH w],0,0⟩) (fun i=>i<=l.length/\i<=20/\∀ x∈l.take i,x.length<=1000) (fun i=>l.length-i) 0 ⟨Nat.zero_le _,Nat.zero_le _,fun x hx=>by rw[List.take_zero]at hx;cases hx⟩ ?_ ?_
 ·exact wk
 rintro i ⟨h1,h2,h3⟩
 by_cases hi:i<l.length
 ·have hi':=eq_true (show (i:Int)<l.length by omega)
  by_cases h20:i<20
  ·have h20':=eq_true (show (i:Int)<20 by omega)
   have hgi:(zQ l)[i]?=some [.str l[i]]:=by simp[zQ,hi]
   have ht:l.take (i+1)=l.take i++[l[i]]:=List.take_succ_eq_append_getElem hi
   by_cases hx:l[i].length<=1000
   ·have hx':=eq_false (show ¬(1000:Int)<l[i].length by omega)
    push_cast -dsimp [hi',h20',hgi,hll,hx',Int.toNat_natCast]
    repeat refine an ?_
    exact ⟨i+1,⟨by omega,by omega,fun x hm=>by
     rw[ht]at hm
     rcases List.mem_append.1 hm with hm | hm
     ·exact h3 x hm
     ·rw[List.mem_singleton.1 hm];exact hx⟩,by omega,wk⟩
   ·have hx':=eq_true (show (1000:Int)<l[i].length by omega)
    have hn:¬JP w b l:=fun h=>hx (h.1 _ (List.mem_take_iff_getElem.2 ⟨i,by omega,rfl⟩))
    push_cast -dsimp [hi',h20',hgi,hll,hx',Int.toNat_natCast]
    repeat refine an ?_
    exact dn (by push_cast -dsimp [zb,za,CLe,zd,hn])
  ·have h20':=eq_false (show ¬(i:Int)<20 by omega)
   have hx:∀ x∈l.take 20,x.length<=1000:=by rw[show i=20 by omega]at h3;exact h3
   by_cases k1:okW w
   case neg =>
    have hn:¬JP w b l:=fun h=>k1 h.2.1
    rw[decide_eq_false k1]at hok
    push_cast -dsimp [hi',h20',hll]
    refine cl (hok) ?_;push_cast -dsimp
    exact dn (by push_cast -dsimp [zb,za,CLe,zd,hn])
   rw[decide_eq_true k1]at hok
   have hs:=k1.2.2.2.2.1
   have hla:=Ub (G:=G0) w (by have:=(za7 k1).klen;omega) hs.1 hs.2
   by_cases k2:w.fs.next<549755813888
   case neg =>
    have hn:¬JP w b l:=fun h=>k2 h.2.2.1
    have k2':=eq_false k2
    push_cast -dsimp [hi',h20',hll]
    refine cl (hok) ?_;push_cast -dsimp [k2']
    exact dn (by push_cast -dsimp [zb,za,CLe,zd,hn])
   have k2':=eq_true k2
   by_cases k3:jz w.kept<536870912
   case neg =>
    have hn:¬JP w b l:=fun h=>k3 h.2.2.2.1
    have k3':=eq_false k3
    push_cast -dsimp [hi',h20',hll]
    refine cl (hok) ?_;push_cast -dsimp [k2']
    refine cl (hla) ?_;push_cast -dsimp [k3']
    exact dn (by push_cast -dsimp [zb,za,CLe,zd,hn])
   have k3':=eq_true k3
   cases k4:Qt w.fs b []
   case false =>
    have hn:¬JP w b l:=fun h=>by rw[h.2.2.2.2.1]at k4;cases k4
    rw[k4]at hsh
    push_cast -dsimp [hi',h20',hll]
    refine cl (hok) ?_;push_cast -dsimp [k2']
    refine cl (hla) ?_;push_cast -dsimp [k3']
    refine cl (hsh) ?_;push_cast -dsimp
    exact dn (by push_cast -dsimp [zb,za,CLe,zd,hn])
   rw[k4]at hsh
   cases k5:Yc b
   case false =>
    have hn:¬JP w b l:=fun h=>by rw[h.2.2.2.2.2.1]at k5;cases k5
    push_cast -dsimp [hi',h20',hll]
    refine cl (hok) ?_;push_cast -dsimp [k2']
    refine cl (hla) ?_;push_cast -dsimp [k3']
    refine cl (hsh) ?_;push_cast -dsimp
    exact dn (by push_cast -dsimp [zb,za,CLe,zd,hn])
   by_cases k6:l.length<=6
   ·have hn:JP w b l:=⟨hx,k1,k2,k3,k4,k5,k6⟩
    have k6':=eq_true (show (l.length:Int)<=6 by omega)
    push_cast -dsimp [hi',h20',hll]
    refine cl (hok) ?_;push_cast -dsimp [k2']
    refine cl (hla) ?_;push_cast -dsimp [k3']
    refine cl (hsh) ?_;push_cast -dsimp [hll,k6']
    exact dn (by push_cast -dsimp [zb,za,CLe,zd,hn])
   ·have hn:¬JP w b l:=fun h=>k6 h.2.2.2.2.2.2
    have k6':=eq_false (show ¬(l.length:Int)<=6 by omega)
    push_cast -dsimp [hi',h20',hll]
    refine cl (hok) ?_;push_cast -dsimp [k2']
    refine cl (hla) ?_;push_cast -dsimp [k3']
    refine cl (hsh) ?_;push_cast -dsimp [hll,k6']
    exact dn (by push_cast -dsimp [zb,za,CLe,zd,hn])
 ·have hi':=eq_false (show ¬(i:Int)<l.length by omega)
  have hx:∀ x∈l.take 20,x.length<=1000:=by
   rw[show i=l.length by omega,List.take_length]at h3
   exact fun x hm=>h3 x (List.mem_of_mem_take hm)
  by_cases k1:okW w
  case neg =>
   have hn:¬JP w b l:=fun h=>k1 h.2.1
   rw[decide_eq_false k1]at hok
   push_cast -dsimp [hi',hll]
   refine cl (hok) ?_;push_cast -dsimp
   exact dn (by push_cast -dsimp [zb,za,CLe,zd,hn])
  rw[decide_eq_true k1]at hok
  have hs:=k1.2.2.2.2.1
  have hla:=Ub (G:=G0) w (by have:=(za7 k1).klen;omega) hs.1 hs.2
  by_cases k2:w.fs.next<549755813888
  case neg =>
   have hn:¬JP w b l:=fun h=>k2 h.2.2.1
   have k2':=eq_false k2
   push_cast -dsimp [hi',hll]
   refine cl (hok) ?_;push_cast -dsimp [k2']
   exact dn (by push_cast -dsimp [zb,za,CLe,zd,hn])
  have k2':=eq_true k2
  by_cases k3:jz w.kept<536870912
  case neg =>
   have hn:¬JP w b l:=fun h=>k3 h.2.2.2.1
   have k3':=eq_false k3
   push_cast -dsimp [hi',hll]
   refine cl (hok) ?_;push_cast -dsimp [k2']
   refine cl (hla) ?_;push_cast -dsimp [k3']
   exact dn (by push_cast -dsimp [zb,za,CLe,zd,hn])
  have k3':=eq_true k3
  cases k4:Qt w.fs b []
  case false =>
   have hn:¬JP w b l:=fun h=>by rw[h.2.2.2.2.1]at k4;cases k4
   rw[k4]at hsh
   push_cast -dsimp [hi',hll]
   refine cl (hok) ?_;push_cast -dsimp [k2']
   refine cl (hla) ?_;push_cast -dsimp [k3']
   refine cl (hsh) ?_;push_cast -dsimp
   exact dn (by push_cast -dsimp [zb,za,CLe,zd,hn])
  rw[k4]at hsh
  cases k5:Yc b
  case false =>
   have hn:¬JP w b l:=fun h=>by rw[h.2.2.2.2.2.1]at k5;cases k5
   push_cast -dsimp [hi',hll]
   refine cl (hok) ?_;push_cast -dsimp [k2']
   refine cl (hla) ?_;push_cast -dsimp [k3']
   refine cl (hsh) ?_;push_cast -dsimp
   exact dn (by push_cast -dsimp [zb,za,CLe,zd,hn])
  by_cases k6:l.length<=6
  ·have hn:JP w b l:=⟨hx,k1,k2,k3,k4,k5,k6⟩
   have k6':=eq_true (show (l.length:Int)<=6 by omega)
   push_cast -dsimp [hi',hll]
   refine cl (hok) ?_;push_cast -dsimp [k2']
   refine cl (hla) ?_;push_cast -dsimp [k3']
   refine cl (hsh) ?_;push_cast -dsimp [hll,k6']
   exact dn (by push_cast -dsimp [zb,za,CLe,zd,hn])
  ·have hn:¬JP w b l:=fun h=>k6 h.2.2.2.2.2.2
   have k6':=eq_false (show ¬(l.length:Int)<=6 by omega)
   push_cast -dsimp [hi',hll]
   refine cl (hok) ?_;push_cast -dsimp [k2']
   refine cl (hla) ?_;push_cast -dsimp [k3']
   refine cl (hsh) ?_;push_cast -dsimp [hll,k6']
   exact dn (by push_cast -dsimp [zb,za,CLe,zd,hn])
theorem zgk (k:Int) (l:List (List UInt8)) (hk:k=1∨k=2∨k=3∨k=4∨k=5) (hl:l.length<=90) (hs:∀ x∈l,x.length<=1000):Fun Tryz.prog G0 8 [.sc (.int .i64 k),.sl 1 (zQ l)] (.tup [zq3 (XW (Jk k :: l)).1,qy (decide ((XW (Jk k :: l)).2 = []))]) 1:=by
 have hn:=Nh k
 have hll:(zQ l).length=l.length:=List.length_map ..
 have hr:=zbU (Jk k :: l) (by rw[List.length_cons];omega) (fun x hx=>by
  rcases List.mem_cons.1 hx with rfl | hx
  ·rcases hk with rfl | rfl | rfl | rfl | rfl<;>decide
  ·exact hs x hx)
 have e:zQ (Jk k :: l) = [.str (Jk k)] :: zQ l:=rfl
 rw[e]at hr
 refine fof (fun i=>if i=1 then Jl 9 10 else if i=2 then [false,false,false,true] else []) Tryz.func8 ?_;dsimp only[Tryz.f8]
 push_cast -dsimp
 refine cl (hn) ?_;push_cast -dsimp
 repeat refine an ?_
 refine cl (hr) ?_;push_cast -dsimp
 exact ⟨[.inl 1],rfl,rfl,by push_cast -dsimp [zb,za,CLe,zd]⟩
end
section
open CA CB
open Go.RowKit
def jI:qA:=⟨⟨9,9,9,[⟨1,2,0,[],1,[⟨[100],3⟩]⟩,⟨3,2,1,[],1,[⟨[102],4⟩]⟩,⟨4,1,1,[122],0,[]⟩]⟩,[],[]⟩
theorem Nj:okW jI:=by decide
theorem yu:Fun Tryz.prog G0 19 [] (Zd jI) 0:=by
 have h1:=zgs (G:=G0) 9 9
 have h2:=Gp (G:=G0) ⟨9,9,9,[⟨1,2,0,[],1,[]⟩]⟩ ⟨1,2,0,[],1,[⟨[100],3⟩]⟩ (by decide)
 have h4:=zih (G:=G0) ⟨9,9,9,[⟨1,2,0,[],1,[⟨[100],3⟩]⟩,⟨3,2,1,[],1,[⟨[102],4⟩]⟩]⟩ ⟨4,1,1,[122],0,[]⟩ rfl (by decide)
 have e2:qZ ⟨1,2,0,[],1,[⟨[100],3⟩]⟩ [⟨1,2,0,[],1,[]⟩] = [⟨1,2,0,[],1,[⟨[100],3⟩]⟩]:=by decide
 have e3:qZ ⟨3,2,1,[],1,[⟨[102],4⟩]⟩ [⟨1,2,0,[],1,[⟨[100],3⟩]⟩] = [⟨1,2,0,[],1,[⟨[100],3⟩]⟩,⟨3,2,1,[],1,[⟨[102],4⟩]⟩]:=by decide
 have e4:qZ ⟨4,1,1,[122],0,[]⟩ [⟨1,2,0,[],1,[⟨[100],3⟩]⟩,⟨3,2,1,[],1,[⟨[102],4⟩]⟩]=jI.fs.xs:=by decide
 have h3:=Gp (G:=G0) ⟨9,9,9,[⟨1,2,0,[],1,[⟨[100],3⟩]⟩]⟩ ⟨3,2,1,[],1,[⟨[102],4⟩]⟩ (by decide)
 simp only[e2]at h2
 simp only[e3]at h3
 simp only[e4]at h4
 refine fon Tryz.func19 ?_;dsimp only[Tryz.f19]
 push_cast -dsimp
 refine cl (h1) ?_;push_cast -dsimp
 refine cl (h2) ?_;push_cast -dsimp
 refine cl (h3) ?_;push_cast -dsimp
 refine cl (h4) ?_;push_cast -dsimp
 exact dn (by push_cast -dsimp [zb,za,CLe,zd,jI])
def tA:List (List UInt8):=[[114,109,58,32,99,97,110,110,111,116,32,114,101,109,111,118,101,32,34,100,34,58,32,73,115,32,97,32,100,105,114,101,99,116,111,114,121],[114,109,58,32,114,101,102,117,115,105,110,103,32,116,111,32,114,101,109,111,118,101,32,34,46,34,32,111,114,32,34,46,46,34,32,100,105,114,101,99,116,111,114,121,58,32,115,107,105,112,112,105,110,103,32,34,100,47,46,34],[114,109,58,32,105,116,32,105,115,32,100,97,110,103,101,114,111,117,115,32,116,111,32,111,112,101,114,97,116,101,32,114,101,99,117,114,115,105,118,101,108,121,32,111,110,32,34,47,34],[114,109,58,32,99,97,110,110,111,116,32,114,101,109,111,118,101,32,34,120,34,58,32,78,111,32,115,117,99,104,32,102,105,108,101,32,111,114,32,100,105,114,101,99,116,111,114,121]]
theorem vQ:RmG 2000 (HX jI):=zpw Nj (by decide) (by decide)
theorem kp:MB (HX jI).w.fs.xs:=by
 intro x hx
 have:∀ x∈jI.fs.xs,x.kind=3->x.data.length<=1000:=by decide
 exact this x hx
theorem xD:Fun Tryz.prog GD 6 [] (qy true) 0:=by
 have q0:Fun Tryz.prog GD 19 [] (Zd jI) 0:=yu.g0
 have q1:Fun Tryz.prog GD 10 [Zd jI] (VV (HX jI)) 0:=(Nk jI (by decide) Nj.2.2.2.2.1).g0
 have q2:Fun Tryz.prog GD 9 [VV (HX jI),.str [47],.agg [.sc (.int .i64 2),.str [114],.sl 1 [[.str [100]]]]] (VV (zjk [47] [114] [[100]] (HX jI))) 0:=H9 2 [47] [114] [[100]] (HX jI) vQ kp (by decide) (by decide) (by decide)
 have q3:Fun Tryz.prog GD 9 [VV (HX jI),.str [47],.agg [.sc (.int .i64 2),.str [],.sl 1 [[.str [100]],[.str [100,47,46]],[.str [47]],[.str [120]]]]] (VV (zjk [47] [] [[100],[100,47,46],[47],[120]] (HX jI))) 0:=H9 2 [47] [] [[100],[100,47,46],[47],[120]] (HX jI) vQ kp (by decide) (by decide) (by decide)
 obtain ⟨dA,hA⟩:∃ d,zjk [47] [114] [[100]] (HX jI)=d:=⟨_,rfl⟩
 obtain ⟨dB,hB⟩:∃ d,zjk [47] [] [[100],[100,47,46],[47],[120]] (HX jI)=d:=⟨_,rfl⟩
 have p1:dA.ops = [⟨7,1,[47,100,47,102],[],[]⟩,⟨7,2,[47,100],[],[]⟩]:=by rw[←hA];kernel_rfl
 have p2:dB.ops = []:=by rw[←hB];kernel_rfl
 have p3:dB.diags=tA:=by rw[←hB];kernel_rfl
 rw[hA]at q2
 rw[hB]at q3
 have q4:Fun Tryz.prog GD 20 [.sl 5 (dA.ops.map opL),.sl 5 [opL ⟨7,1,[47,100,47,102],[],[]⟩,opL ⟨7,2,[47,100],[],[]⟩]] (qy true) 0:=by
  have h:=Gw dA.ops [⟨7,1,[47,100,47,102],[],[]⟩,⟨7,2,[47,100],[],[]⟩] (by rw[p1];decide)
  rw[show Jm dA.ops [⟨7,1,[47,100,47,102],[],[]⟩,⟨7,2,[47,100],[],[]⟩]=true by rw[p1];rfl]at h
  exact h.g0
 have q5:Fun Tryz.prog GD 13 [.sl 1 (zQ dB.diags),.sl 1 (zQ tA)] (qy true) 0:=by
  have h:=H8 dB.diags tA (by rw[p3];decide)
  rw[decide_eq_true p3]at h
  exact h.g0
 have p4:((dB.ops.map opL).length:Int)=0:=by rw[p2];rfl
 have p5:((dB.ops.length:Int)=0)=True:=eq_true (by rw[p2];rfl)
 clear hA hB p1 p2 p3
 refine fon Tryz.func6 ?_;dsimp only[Tryz.f6]
 push_cast -dsimp
 refine cl (q0) ?_;push_cast -dsimp
 refine cl (q1) ?_;push_cast -dsimp
 refine cl (q2) ?_;push_cast -dsimp
 refine cl (q1) ?_;push_cast -dsimp
 refine cl (q3) ?_;push_cast -dsimp
 refine cl (q4) ?_;push_cast -dsimp [p4,p5]
 refine cl (q5) ?_;push_cast -dsimp
 exact dn (by push_cast -dsimp [zb,za,CLe,zd])
end
section
open CA CB
open Go.RowKit
theorem zhu (k:Int) (s:List UInt8):(J7 k s 58).length<=58:=by
 unfold J7
 refine Nat.le_trans (List.length_filter_le _ _) ?_
 simp
theorem xf (l:List (List UInt8)):(XW l).1.opts.length<=58/\(XW l).1.operands.length<=l.length/\∀ x∈(XW l).1.operands,x∈l:=by
 refine ⟨?_,zfM l,?_⟩
 ·cases l with
  | nil=>exact Nat.zero_le _
  | cons w r =>
   rw[XW]
   split
   ·exact Nat.zero_le _
   ·unfold Jq
    split
    ·exact Nat.zero_le _
    ·split
     ·exact Nat.zero_le _
     ·exact zhu _ _
 ·cases l with
  | nil=>intro x hx;cases hx
  | cons w r =>
   rw[XW]
   split
   ·intro x hx;cases hx
   ·unfold Jq
    split
    ·intro x hx;cases hx
    ·split
     ·intro x hx;cases hx
     ·exact fun x hx=>List.mem_cons_of_mem _ (List.mem_of_mem_drop hx)
theorem zf6 {w:qA} {b:List UInt8} {l:List (List UInt8)} (h:JP w b l):MB w.fs.xs/\b.length<=1000:=by
 have hs:=h.2.2.2.2.1
 have hl:=(za7 h.2.1).len
 unfold Qt at hs
 simp only[Bool.and_eq_true,decide_eq_true_eq,Bool.not_eq_true',List.any_eq_false]at hs
 obtain ⟨⟨h1,h2⟩,_⟩:=hs
 rw[List.take_of_length_le (by omega)]at h1
 refine ⟨fun x hx hk=>?_,by omega⟩
 have:=h1 x hx
 unfold Vk at this
 simp only[Bool.and_eq_true,decide_eq_true_eq,not_and]at this
 have:=this hk
 omega
structure zqm (w:qA) (b:List UInt8) (l:List (List UInt8)) (c:zog):Prop where
 g:RmG 2000 (HX w)
 dat:MB (HX w).w.fs.xs
 b:b.length<=1000
 o:c.opts.length<=1000
 n:c.operands.length<=7
 p:∀ x∈c.operands,x.length<=1000
theorem U4 {w:qA} {b:List UInt8} {l:List (List UInt8)} (h:JP w b l):∀ x∈l,x.length<=1000:=by
 have h1:=h.1
 rw[List.take_of_length_le (by have:=h.2.2.2.2.2.2;omega)]at h1
 exact h1
theorem zqm.of {w:qA} {b:List UInt8} {l:List (List UInt8)} (h:JP w b l):zqm w b l (XW (Jk 2 :: l)).1:=by
 obtain ⟨p1,p2,p3⟩:=xf (Jk 2 :: l)
 obtain ⟨d1,d2⟩:=zf6 h
 have h6:=h.2.2.2.2.2.2
 refine ⟨zpw h.2.1 (by have:=h.2.2.1;omega) (by have:=h.2.2.2.1;omega),d1,d2,by omega,by rw[List.length_cons]at p2;omega,fun x hx=>?_⟩
 rcases List.mem_cons.1 (p3 x hx) with rfl | hx
 ·decide
 ·exact U4 h x hx
theorem NG (w:qA) (b:List UInt8) (l:List (List UInt8)) (hb:b.length<=2000000):Fun Tryz.prog GD 5 [Zd w,.str b,.sl 1 (zQ l)] (qy true) 0:=by
 have ha:=xD
 have hf:Fun Tryz.prog GD 7 _ _ 0:=(zbc w b l hb).g0
 by_cases h:JP w b l
 case neg =>
  rw[decide_eq_false h]at hf
  refine fon Tryz.func5 ?_;dsimp only[Tryz.f5]
  push_cast -dsimp
  refine cl (ha) ?_;push_cast -dsimp
  refine cl (hf) ?_;push_cast -dsimp
  refine cl (ha) ?_;push_cast -dsimp
  exact dn (by push_cast -dsimp [zb,za,CLe,zd])
 rw[decide_eq_true h]at hf
 have hc:Fun Tryz.prog GD 8 _ _ 1:=(zgk 2 l (by decide) (by have:=h.2.2.2.2.2.2;omega) (U4 h)).g0
 have hF:=zqm.of h
 generalize XW (Jk 2 :: l)=rc at hc hF
 obtain ⟨⟨ck,co,cz⟩,s⟩:=rc
 dsimp only at hF hc
 have hcn:cz.length<=7:=hF.n
 by_cases hs:s = []
 case neg =>
  rw[decide_eq_false hs]at hc
  refine fon Tryz.func5 ?_;dsimp only[Tryz.f5]
  push_cast -dsimp
  refine cl (ha) ?_;push_cast -dsimp
  refine cl (hf) ?_;push_cast -dsimp
  refine cl (hc) ?_;push_cast -dsimp
  exact dn (by push_cast -dsimp [zb,za,CLe,zd])
 rw[decide_eq_true hs]at hc
 have q1:Fun Tryz.prog GD 10 [Zd w] (VV (HX w)) 0:=(Nk w (by have:=(za7 h.2.1).klen;omega) h.2.1.2.2.2.2.1).g0
 have q2:=H9 ck b co cz (HX w) hF.g hF.dat (by show 0+cz.length<=_;omega) hF.b hF.p
 have hB:=za7 h.2.1
 have q4:Fun Tryz.prog GD 18 _ _ 0:=(zfo (HX w) hF.g.b.s (fun z hz=>by have:=(hB.pnode z hz).1;omega)).g0
 have q5:Fun Tryz.prog GD 13 _ _ 0:=(H8 cz cz (by omega)).g0
 rw[decide_eq_true rfl]at q5
 have l1:(zp w.fs.xs).length=w.fs.xs.length:=List.length_map ..
 have l2:(zC w.kept).length=w.kept.length:=List.length_map ..
 have l3:(zp w.pool).length=w.pool.length:=List.length_map ..
 have b1:=hB.len
 have b2:=hB.klen
 have b3:=hB.plen
 refine fon Tryz.func5 ?_;dsimp only[Tryz.f5]
 push_cast -dsimp
 refine cl (ha) ?_;push_cast -dsimp
 refine cl (hf) ?_;push_cast -dsimp
 refine cl (hc) ?_;push_cast -dsimp
 refine cl (q1) ?_;push_cast -dsimp
 repeat refine an ?_
 refine cl (q2) ?_;push_cast -dsimp
 refine cl (hc) ?_;push_cast -dsimp
 refine cl (q4) ?_;push_cast -dsimp
 refine cl (q5) ?_;push_cast -dsimp
 exact dn (by push_cast -dsimp [zb,za,CLe,zd])
end
end Go.Proofs.YtlkjpfiancahiaaGreatDoor.Vcg
