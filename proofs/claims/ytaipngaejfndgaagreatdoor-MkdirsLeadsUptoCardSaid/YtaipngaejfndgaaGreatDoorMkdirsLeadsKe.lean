/- What the proof of MkdirsLeads leans on, part 5: Wlk1 Wlk2 Tree1 Mak0 Tree2 Tree3 Tree4 Tree5 Tree6 Tree7 Dra4 Mak1 Mak2 Mak3 OpenD Rgt0 Rgt1 Rgt2 Rgt3 Rgt4 Rgt5 Rgt6 PthL Sk0 Slc2 Sk2 SekP SekL Dat Gro Pla Mkd0 Wnn Mld Do1 Sek1 Sek2 Sek3 Rea Tol Plw Sk1 Sk3 Mkr Mkm Mka Mpl Mdo Rfi Fit Msm Mtr Mfo. No condition beyond what each theorem states. -/
import Derived.Test.YtaipngaejfndgaaGreatDoorMkdirsLeadsKd
import Derived.Sort.Walk0
import Derived.Lib.IndexLaws
set_option linter.unusedVariables false
set_option linter.unusedSimpArgs false
set_option linter.unusedSectionVars false
set_option maxRecDepth 100000
set_option maxHeartbeats 4000000
namespace Go.Proofs.YtaipngaejfndgaaGreatDoor.Vcg
section
open CA CB
open Go.RowKit
def zmc (xs:List zn):Prop:=xs.length<=3240/\∀ x∈xs,x.data.length<=5000/\x.es.length<=3240/\∀ e∈x.es,e.name.length<=300
abbrev j4:=List (List (List UInt8)×zn)
structure yW (f:FsV) (tr:Int->List (List UInt8)->j4):Prop where
 has:∀ n ns,zw n f.xs=true->tr n ns=(ns,zf n f.xs) :: (zf n f.xs).es.flatMap fun e=>tr e.ino (ns++[e.name])
 not:∀ n ns,zw n f.xs=false->tr n ns = []
abbrev VA (p:List (List UInt8)×zn):List C:=[.str (z8 p.1),.agg (JD p.2)]
def zan (tr:Int->List (List UInt8)->j4) (ns:List (List UInt8)) (es:List zH):j4:=es.flatMap fun e=>tr e.ino (ns++[e.name])
def YZ (tr:Int->List (List UInt8)->j4) (S:List (List (List UInt8)×List zH)):j4:=S.flatMap fun p=>zan tr p.1 p.2
abbrev lvC (p:List (List UInt8)×List zH):List C:=[.sl 1 (zB p.1),.sl 2 (zE p.2)]
def UF (S:List (List (List UInt8)×List zH)):List C:=(S.reverse.map lvC).flatten
theorem zjA (S:List (List (List UInt8)×List zH)):(UF S).length=S.length*2:=by
 unfold UF
 rw[qk (k:=2) fun r hr=>by obtain ⟨p,_,rfl⟩:=List.mem_map.1 hr;rfl]
 simp
theorem yE (p:List (List UInt8)×List zH) (S:List (List (List UInt8)×List zH)):UF (p :: S)=UF S++lvC p:=by
 unfold UF;simp
def Zh (p:List (List UInt8)×zn):Prop:=p.1.length<=1000000/\(Lib.join p.1 [47]).length<=1000000
structure J4 (f:FsV) (tr:Int->List (List UInt8)->j4) (IT:List (List C)) (sf:Nat->Bool) (S:List (List (List UInt8)×List zH)) (k cap:Nat):Prop where
 rest:IT.drop k=(YZ tr S).map VA
 bound:∀ p∈YZ tr S,Zh p
 le:k<=IT.length
 go:∀ j,j<k->sf j=false
 pos:S.length<=k
 room:S.length<=cap
 roomM:cap<=9223372036854775807
 has:∀ p∈S,p.2.length<=3240/\∀ e∈p.2,zw e.ino f.xs=true
theorem Qe (S:List (List (List UInt8)×List zH)):((UF S).all C.stayB)=true:=XC fun r hr=>by
 obtain ⟨p,_,rfl⟩:=List.mem_map.1 hr;rfl
theorem J4.pop {f:FsV} {tr:Int->List (List UInt8)->j4} {IT:List (List C)} {sf:Nat->Bool} {S:List (List (List UInt8)×List zH)} {ns:List (List UInt8)} {k cap:Nat} (h:J4 f tr IT sf ((ns,[]) :: S) k cap):J4 f tr IT sf S k cap:=by
 have e:YZ tr ((ns,[]) :: S)=YZ tr S:=by simp[YZ,zan]
 exact ⟨by rw[←e];exact h.rest,fun p hp=>h.bound p (by rw[e];exact hp),h.le,h.go,by have:=h.pos;rw[List.length_cons]at this;omega,by have:=h.room;rw[List.length_cons]at this;omega,h.roomM,fun p hp=>h.has p (List.mem_cons_of_mem _ hp)⟩
theorem J4.next {f:FsV} {tr:Int->List (List UInt8)->j4} {IT:List (List C)} {sf:Nat->Bool} {S:List (List (List UInt8)×List zH)} {ns:List (List UInt8)} {e:zH} {r:List zH} {k cap:Nat} (h:J4 f tr IT sf ((ns,e :: r) :: S) k cap) (ht:yW f tr) (hf:zmc f.xs) (h3:JI f) :
  ∃ y,y=zf e.ino f.xs/\y∈f.xs/\IT[k]?=some (VA (ns++[e.name],y))/\Zh (ns++[e.name],y)/\(sf k=false->(∀ c,S.length+2<=c->c<=9223372036854775807->J4 f tr IT sf ((ns++[e.name],y.es) :: (ns,r) :: S) (k+1) c)/\(y.es = []->J4 f tr IT sf ((ns,r) :: S) (k+1) cap)):=by
 have hh:zw e.ino f.xs=true:=(h.has (ns,e :: r) List.mem_cons_self).2 e List.mem_cons_self
 obtain ⟨hm,hi⟩:=qG hh
 have hu:=ht.has e.ino (ns++[e.name]) hh
 have hrest:YZ tr ((ns,e :: r) :: S)=(ns++[e.name],zf e.ino f.xs) :: YZ tr ((ns++[e.name],(zf e.ino f.xs).es) :: (ns,r) :: S):=by
  simp only[YZ,zan,List.flatMap_cons,hu,List.cons_append,List.append_assoc]
 refine ⟨_,rfl,hm,?_,h.bound _ (by rw[hrest];exact List.mem_cons_self),fun hs=>?_⟩
 ·have:=h.rest
  rw[hrest]at this
  have:=congrArg (·[0]?) this
  simpa using this
 ·have hd:IT.drop (k+1)=(YZ tr ((ns++[e.name],(zf e.ino f.xs).es) :: (ns,r) :: S)).map VA:=by
   rw[←List.drop_drop,h.rest,hrest];rfl
  have hb:∀ p∈YZ tr ((ns++[e.name],(zf e.ino f.xs).es) :: (ns,r) :: S),Zh p:=fun p hp=>h.bound p (by rw[hrest];exact List.mem_cons_of_mem _ hp)
  have hkl:k+1<=IT.length:=by
   rcases Nat.lt_or_ge k IT.length with g | g
   ·exact g
   ·have:=h.rest
    rw[List.drop_eq_nil_of_le g,hrest]at this;cases this
  have hgo:∀ j,j<k+1->sf j=false:=fun j hj=>by
   rcases Nat.lt_or_ge j k with g | g
   ·exact h.go j g
   ·rw[show j=k by omega];exact hs
  have hp:=h.pos
  have hro:=h.room
  have hrm:=h.roomM
  rw[List.length_cons]at hp hro
  have h0:=h.has (ns,e :: r) List.mem_cons_self
  have hr0:r.length<=3240/\∀ e'∈r,zw e'.ino f.xs=true:=⟨by have:=h0.1;simp at this;omega,fun e' he=>h0.2 e' (List.mem_cons_of_mem _ he)⟩
  refine ⟨fun c h1 h2=>⟨hd,hb,hkl,hgo,by simp;omega,by simp;omega,h2,fun p hp=>?_⟩,fun hne=>?_⟩
  ·rcases List.mem_cons.1 hp with rfl | hp
   ·exact ⟨(hf.2 _ hm).2.1,fun e' he=>h3 _ hm e' he⟩
   ·rcases List.mem_cons.1 hp with rfl | hp
    ·exact hr0
    ·exact h.has p (List.mem_cons_of_mem _ hp)
  ·have hz:YZ tr ((ns++[e.name],(zf e.ino f.xs).es) :: (ns,r) :: S)=YZ tr ((ns,r) :: S):=by rw[hne];simp[YZ,zan]
   rw[hz]at hd hb
   exact ⟨hd,hb,hkl,hgo,by simp;omega,by simp;omega,hrm,fun p hp=>by
    rcases List.mem_cons.1 hp with rfl | hp
    ·exact hr0
    ·exact h.has p (List.mem_cons_of_mem _ hp)⟩
theorem v7 (f:FsV) (ino:Int) (ns:List (List UInt8)) (tr:Int->List (List UInt8)->j4) (ht:yW f tr) (hf:zmc f.xs) (hR:zZ f.xs) (h3:JI f) (h2:∀ x∈f.xs,x.kind≠2->x.es = []) (hl:(tr ino ns).length<=100000000) (hb:∀ p∈tr ino ns,Zh p) :
  Mc Tryz.prog G0 222 [] [.row (fsC f),.row [.sc (.int .i64 ino)],.row [.sl 1 (zB ns)]] [] ((tr ino ns).map VA):=by
 have h40:=hf.1
 refine foI (fun i=>if i=1000000+252 then [true] else if i=1 then [false,false,false,false,false,false,false,true] else if i=10 then [false,false,false,false,true] else []) Tryz.func222 ?_;dsimp only[Tryz.f222]
 intro l sf
 push_cast -dsimp
 refine cl (Yy f ino (by omega) hR) ?_;push_cast -dsimp
 cases hh:zw ino f.xs with
 | false =>
  have hn:=ht.not ino ns hh
  push_cast -dsimp
  rw[hn]
  exact .inl ⟨rfl,fun j hj=>absurd hj (Nat.not_lt_zero _)⟩
 | true =>
  have hn:=ht.has ino ns hh
  have q:Zh (ns,zf ino f.xs):=hb _ (by rw[hn];exact List.mem_cons_self)
  have h0:((tr ino ns).map VA)[0]?=some (VA (ns,zf ino f.xs)):=by rw[hn];rfl
  obtain ⟨hm,hino⟩:=qG hh
  generalize zf ino f.xs=x at hn h0 hm hino
  have hITl:((tr ino ns).map VA).length<=100000000:=by rw[List.length_map];exact hl
  generalize hIT:(tr ino ns).map VA=IT at h0 hITl
  push_cast -dsimp
  refine cl (YY ns (by have:=q.1;dsimp only at this;omega) (by have:=q.2;dsimp only at this;omega)) ?_;push_cast -dsimp [h0]
  refine ⟨by push_cast -dsimp [zb,za,CLe,ze],fun j hj=>absurd hj (Nat.not_lt_zero _),br (fun hs=>?_) (fun hs=>?_)⟩
  ·push_cast -dsimp
   exact .inr ⟨Nat.succ_pos _,hs⟩
  ·push_cast -dsimp
   refine loop (fun p:List (List (List UInt8)×List zH)×Nat×Nat=>⟨[(0,.sc (.func (.yield l) #[] #[])),(1,.row (fsC f)),(7,.bs 1 0 2 p.1.length p.2.2)],[[.any,.any,.any,.any,.any,.any],UF p.1++List.replicate ((p.2.2-p.1.length)*2) .any],0,p.2.1⟩) (fun p=>J4 f tr IT sf p.1 p.2.1 p.2.2) (fun p=>2*(IT.length-p.2.1)+p.1.length) ([(ns,x.es)],1,1) ?_ ?_ ?_
   ·have hdr:IT.drop 1=(YZ tr [(ns,x.es)]).map VA:=by
     rw[←hIT,hn]
     simp[YZ,zan]
    show J4 f tr IT sf [(ns,x.es)] 1 1
    exact ⟨hdr,fun p hp=>hb p (by rw[hn];exact List.mem_cons_of_mem _ (by simpa [YZ,zan] using hp)),by have:=(List.getElem?_eq_some_iff.1 h0).1;omega,fun j hj=>by rw[show j=0 by omega];exact hs,Nat.le_refl _,Nat.le_refl _,by omega,fun p hp=>by
     rw[List.mem_singleton]at hp;subst hp
     exact ⟨(hf.2 x hm).2.1,fun e he=>h3 x hm e he⟩⟩
   ·have hl1:UF [(ns,x.es)] = [.sl 1 (zB ns),.sl 2 (zE x.es)]:=rfl
    exact wk (h5:=by push_cast -dsimp [zb,za,CLe,ze,hl1])
   ·rintro ⟨S,k,cap⟩ hS
    dsimp only at hS ⊢
    cases S with
    | nil =>
     push_cast -dsimp
     have hr:=hS.rest
     have he:IT.length<=k:=by
      rcases Nat.lt_or_ge k IT.length with g | g
      ·have:=congrArg List.length hr
       simp[YZ]at this;omega
      ·exact g
     exact .inl ⟨by have:=hS.le;omega,hS.go⟩
    | cons p S' =>
     obtain ⟨ns1,es1⟩:=p
     have hL:=zjA S'
     have hd0:∀ X,(UF S'++X).drop (S'.length*2)=X:=fun X=>List.drop_left' hL
     have hd1:∀ X,(UF S'++X).drop (S'.length*2+1)=X.drop 1:=fun X=>by rw[←List.drop_drop,hd0]
     have hd2:∀ X,(UF S'++X).drop (S'.length*2+2)=X.drop 2:=fun X=>by rw[←List.drop_drop,hd0]
     have ht0:∀ X,(UF S'++X).take (S'.length*2)=UF S':=fun X=>List.take_left' hL
     have ht1:∀ X,(UF S'++X).take (S'.length*2+1)=UF S'++X.take 1:=fun X=>by
      rw[List.take_append,List.take_of_length_le (by omega),hL];congr 2;omega
     have hpos:((0:Int)<(S'.length:Int)+1)=True:=eq_true (by omega)
     have hroom:=hS.room
     have hroomM:=hS.roomM
     rw[List.length_cons]at hroom
     have hlc:(((S'.length:Int)+1-1)=(S'.length:Int)):=by omega
     push_cast -dsimp [yE,hlc,hpos]
     repeat refine an ?_
     generalize hpad:List.replicate ((cap-(S'.length+1))*2) C.any=pad
     have hps:(pad.all C.stayB)=true:=by rw[←hpad];simp[List.all_replicate,C.stayB]
     have hst1:((UF S'++(lvC (ns1,es1)++pad)).all C.stayB)=true:=by rw[List.all_append,Qe,List.all_append,hps];rfl
     have hpl:pad.length=(cap-(S'.length+1))*2:=by rw[←hpad];simp
     refine loop (fun p:List zH×Nat=>⟨[(0,.sc (.func (.yield l) #[] #[])),(1,.row (fsC f)),(7,.bs 1 0 2 (S'.length+1) cap),(8,.ptr 1 (S'.length*2))],[[.any,.any,.any,.any,.any,.any],UF S'++([.sl 1 (zB ns1),.sl 2 (zE p.1)]++pad)],0,p.2⟩) (fun p=>J4 f tr IT sf ((ns1,p.1) :: S') p.2 cap/\2*(IT.length-p.2)<=2*(IT.length-k)) (fun p=>p.1.length) (es1,k) ⟨hS,Nat.le_refl _⟩ ?_ ?_
     ·exact j9.mk [] rfl rfl (Nat.zero_le _) rfl (by push_cast -dsimp [zb,za,CLe,ze]) (by push_cast -dsimp [zb,za,CLe,ze,List.append_assoc];exact zX hst1)
     ·rintro ⟨es,k1⟩ ⟨hT,hkk⟩
      dsimp only at hT hkk ⊢
      cases es with
      | nil =>
       push_cast -dsimp [hd0,hd1,hd2,ht0,ht1,hlc]
       refine ⟨by omega,by omega,⟨by omega,by omega⟩,(S',k1,cap),hT.pop,by dsimp only;omega,j9.mk [] rfl rfl (Nat.zero_le _) rfl (by push_cast -dsimp [zb,za,CLe,ze]) ?_⟩
       push_cast -dsimp [zb,za,CLe,ze]
       exact zc3 (zX (Qe S')) (X5 (by simp[hpl];omega))
      | cons e r =>
       obtain ⟨y,hy,hym,hk1,hbd,hnext⟩:=hT.next ht hf h3
       have hrl:((0:Int)<(r.length:Int)+1)=True:=eq_true (by omega)
       have hlr:(zE r).length=r.length:=List.length_map ..
       have hhe:zw e.ino f.xs=true:=(hT.has (ns1,e :: r) List.mem_cons_self).2 e List.mem_cons_self
       have hgy:zf e.ino f.xs=y:=hy.symm
       have hb1:ns1.length+1<=1000000:=by have:=hbd.1;simpa using this
       have hb2:(Lib.join (ns1++[e.name]) [47]).length<=1000000:=hbd.2
       have hst2:(zB ns1).length=ns1.length:=List.length_map ..
       push_cast -dsimp [hd0,hd1,hd2,ht0,ht1,hlc,hlr,hrl,hst2,List.append_assoc,List.take_length]
       repeat refine an ?_
       refine cl (Yy f e.ino (by omega) hR) ?_;push_cast -dsimp [hgy,hhe]
       refine cl (YY (ns1++[e.name]) (by simp;omega) (by omega)) ?_;push_cast -dsimp [hk1]
       refine ⟨by push_cast -dsimp [zb,za,CLe,ze],hT.go,br (fun hs1=>?_) (fun hs1=>?_)⟩
       ·push_cast -dsimp
        exact .inr ⟨Nat.succ_pos _,hs1⟩
       ·obtain ⟨w1,w2⟩:=hnext hs1
        by_cases k2:y.kind=2
        ·have hSk:=hT.pos
         have hkl:=hT.le
         rw[List.length_cons]at hSk
         have hc1:(UF S'++C.sl 1 (zB ns1) :: C.sl 2 (List.map H0 r) :: pad).length=cap*2:=by
          rw[List.length_append,hL,List.length_cons,List.length_cons,hpl];omega
         have hc2:(UF S'++C.sl 1 (zB ns1) :: C.sl 2 (List.map H0 r) :: pad).take ((S'.length+1)*2)=UF S'++[C.sl 1 (zB ns1),C.sl 2 (List.map H0 r)]:=by
          rw[List.take_append,List.take_of_length_le (by omega),hL,show (S'.length+1)*2-S'.length*2=2 by omega];rfl
         push_cast -dsimp [k2]
         refine zqt (UF S'++[C.sl 1 (zB ns1),C.sl 2 (List.map H0 r)]++[C.sl 1 (zB (ns1++[e.name])),C.sl 2 (zE y.es)]) rfl rfl (by decide) rfl (by decide) (Nat.zero_le _) hc1 hroom hroomM (by omega) (by omega) (by rw[hc2];exact qw (by rw[List.all_append,List.all_append,Qe];rfl)) (fun c' g1 g2=>?_)
         have hw:=w1 c' (by omega) g2
         have hwl:=hw.le
         push_cast -dsimp [k2]
         refine ⟨((ns1++[e.name],y.es) :: (ns1,r) :: S',k1+1,c'),hw,by simp only[List.length_cons];omega,j9.mk [] rfl rfl (Nat.zero_le _) rfl (by push_cast -dsimp [zb,za,CLe,ze]) ?_⟩
         push_cast -dsimp [zb,za,CLe,ze,yE,List.append_assoc]
         exact zX (by rw[List.all_append,Qe];simp[List.all_replicate,C.stayB])
        ·push_cast -dsimp [k2]
         have hz:=w2 (h2 y hym k2)
         have hle:=hz.le
         refine ⟨(r,k1+1),⟨hz,by dsimp only;omega⟩,by dsimp only;simp,j9.mk [] rfl rfl (Nat.zero_le _) rfl (by push_cast -dsimp [zb,za,CLe,ze]) ?_⟩
         push_cast -dsimp [zb,za,CLe,ze,List.append_assoc]
         exact zX (by rw[List.all_append,Qe,List.all_cons,List.all_cons,hps];rfl)
end
section
open CA CB
open Go.RowKit
structure zdx (f:FsV) (tr:Int->List (List UInt8)->j4):Prop where
 tree:yW f tr
 few:zmc f.xs
 rise:zZ f.xs
 third:JI f
 leaf:∀ x∈f.xs,x.kind≠2->x.es = []
structure Mw (tr:Int->List (List UInt8)->j4) (ino:Int) (ns:List (List UInt8)):Prop where
 len:(tr ino ns).length<=100000000
 bound:∀ p∈tr ino ns,Zh p
abbrev zcw (l:j4):List (List C):=l.map VA
theorem ziK {l:j4} {k:Nat} {it:List C} (h:(zcw l)[k]?=some it):∃ p,l[k]?=some p/\it=VA p:=by
 rw[List.getElem?_map]at h
 cases hq:l[k]? with
 | none=>rw[hq]at h;cases h
 | some x=>rw[hq]at h;cases h;exact ⟨x,rfl,rfl⟩
theorem zlP {f:FsV} {tr:Int->List (List UInt8)->j4} {ino:Int} {ns:List (List UInt8)} (hw:zdx f tr) (hs:Mw tr ino ns):Mc Tryz.prog G0 222 [] [.row (fsC f),.row [.sc (.int .i64 ino)],.row [.sl 1 (zB ns)]] [] (zcw (tr ino ns)):=
 v7 f ino ns tr hw.tree hw.few hw.rise hw.third hw.leaf hs.len hs.bound
theorem ziv (f:FsV) (ino:Int) (ns:List (List UInt8)):Fun Tryz.prog G0 182 [.agg (fsC f),.sc (.int .i64 ino),.sl 1 (zB ns)] (.clo (.func 222) [] [.row (fsC f),.row [.sc (.int .i64 ino)],.row [.sl 1 (zB ns)]]) 0:=by
 refine fon Tryz.func182 ?_;dsimp only[Tryz.f182]
 push_cast -dsimp
 exact dn
theorem zkS (f:FsV):Fun Tryz.prog G0 158 [.agg (fsC f)] (.clo (.func 222) [] [.row (fsC f),.row [.sc (.int .i64 1)],.row [.sl 1 (zB [])]]) 0:=by
 refine fon Tryz.func158 ?_;dsimp only[Tryz.f158]
 push_cast -dsimp
 refine call (Fun.less (ziv f 1 []) (by push_cast -dsimp [zb,za,CLe,ze])) ?_
 push_cast -dsimp
 exact dn
def XZ (n:Int) (l:j4):List (List UInt8):=(l.filter fun p=>decide (p.2.ino=n)).map fun p=>z8 p.1
def VV (n:Int) (l:j4):Option (List UInt8):=(l.find? fun p=>decide (p.2.ino=n)&&decide (p.2.kind=2)).map fun p=>z8 p.1
theorem MD (f:FsV) (n:Int) (tr:Int->List (List UInt8)->j4) (hw:zdx f tr) (hs:Mw tr 1 []) :
  Fun Tryz.prog G0 108 [.agg (fsC f),.sc (.int .i64 n)] (.tup [.str ((VV n (tr 1 [])).getD []),.sc (.bool (VV n (tr 1 [])).isSome)]) 0:=by
 refine fon Tryz.func108 ?_;dsimp only[Tryz.f108]
 push_cast -dsimp
 refine cl (zkS f) ?_;push_cast -dsimp
 have hl:=hs.len
 have hit:=zlP hw hs
 generalize tr 1 []=l at hit hl
 refine range (zcw l) (fun k=>match l[k]? with | some p=>decide (p.2.ino=n)&&decide (p.2.kind=2) | none=>false) 4 (fun k=>⟨[],[[.any,.any,.any,.any],[.sc (.int .i64 n)],[.any],[.any]],0,0⟩) hit (by push_cast -dsimp) (by push_cast -dsimp) (by push_cast -dsimp) (Nat.zero_le _) (by push_cast -dsimp) (fun it h=>?_) (fun k _=>rfl) ?_ (fun k it hk hsf=>?_) (fun hsf=>?_)
 ·obtain ⟨x,_,rfl⟩:=List.mem_map.1 h;rfl
 ·exact wk
 ·obtain ⟨x,hx2,rfl⟩:=ziK hk
  have hfirst:(decide (x.2.ino=n)&&decide (x.2.kind=2))=true->VV n l=some (z8 x.1):=fun hb=>by
   obtain ⟨hkl,hxe⟩:=List.getElem?_eq_some_iff.1 hx2
   unfold VV
   rw[List.find?_eq_some_iff_getElem (b:=x) |>.2 ⟨hb,k,hkl,hxe,fun j hj=>?_⟩]
   ·rfl
   ·have:=hsf j hj
    rw[List.getElem?_eq_getElem (by omega)]at this
    simp only[this];rfl
  by_cases c1:x.2.ino=n
  ·by_cases c2:x.2.kind=2
   ·have hd:=hfirst (by simp[c1,c2])
    push_cast -dsimp [c1,c2]
    refine ⟨by rw[hx2];simp[c1,c2],⟨[],[[.any,.any,.any,.any],[.sc (.int .i64 n)],[.str (z8 x.1)],[.sc (.bool true)]],0,0⟩,rfl,wk,?_⟩
    push_cast -dsimp [hd]
    exact dn (by push_cast -dsimp [zb,za,CLe,ze,hd,Option.getD_some,Option.isSome_some])
   ·push_cast -dsimp [c1,c2]
    refine ⟨by rw[hx2];simp[c2],wk⟩
  ·push_cast -dsimp [c1]
   refine ⟨by rw[hx2];simp[c1],wk⟩
 ·have hnone:VV n l=none:=by
   unfold VV
   rw[Option.map_eq_none_iff,List.find?_eq_none]
   intro x hx
   obtain ⟨k,hk,rfl⟩:=List.getElem_of_mem hx
   have:=hsf k (by simpa using hk)
   rw[List.getElem?_eq_getElem hk]at this
   simpa only[Bool.not_eq_true] using this
  push_cast -dsimp [hnone]
  exact dn (by push_cast -dsimp [zb,za,CLe,ze,Option.getD_none,Option.isSome_none])
end
section
inductive Dep (xs:List zn):Nat->Int->Prop
 | root:Dep xs 0 1
 | step {k:Nat} {n:Int} {e:zH}:Dep xs k n->zw n xs=true->e∈(zf n xs).es->Dep xs (k+1) e.ino
def okM (f:FsV):Prop:=zmc f.xs/\jR f=0
theorem okV.m {f:FsV} (h:okV f):okM f:=⟨⟨by have:=h.1.1;omega,fun x hx=>by obtain ⟨a,b,c⟩:=h.1.2 x hx;exact ⟨a,by omega,c⟩⟩,h.2⟩
theorem qi {f:FsV} (h:okM f):zmc f.xs/\jQ f/\JX f/\JI f/\JZ f/\XO f/\UJ f:=by
 obtain ⟨h0,h⟩:=h
 unfold jR at h
 refine ⟨h0,?_⟩
 split at h
 ·split at h
  ·split at h
   ·split at h
    ·split at h
     ·split at h
      ·exact ⟨by assumption,by assumption,by assumption,by assumption,by assumption,by assumption⟩
      ·cases h
     ·cases h
    ·cases h
   ·cases h
  ·cases h
 ·cases h
theorem HF {es:List zH}:∀ {S:List Int} {n:Int},n∈Uy S es↔n∈S∨∃ e∈es,e.ino=n:=by
 induction es with
 | nil=>intro S n;simp[Uy]
 | cons e r ih =>
  intro S n
  show n∈Uy (JL S e.ino) r↔_
  rw[ih,kg]
  constructor
  ·rintro ((h | h) | ⟨e',he,h⟩)
   ·exact .inl h
   ·exact .inr ⟨e,List.mem_cons_self,h.symm⟩
   ·exact .inr ⟨e',List.mem_cons_of_mem _ he,h⟩
  ·rintro (h | ⟨e',he,h⟩)
   ·exact .inl (.inl h)
   ·rcases List.mem_cons.1 he with rfl | he
    ·exact .inl (.inr h.symm)
    ·exact .inr ⟨e',he,h⟩
theorem NF {xs:List zn} {es:List zH}:∀ {S:List Int},JP xs S->(∀ e∈es,zw e.ino xs=true)->JP xs (Uy S es):=by
 induction es with
 | nil=>intro S h _;exact h
 | cons e r ih=>intro S h he;exact ih (h.one (he e List.mem_cons_self)) fun e' h'=>he e' (List.mem_cons_of_mem _ h')
theorem kL {xs:List zn} (h3:∀ x∈xs,∀ e∈x.es,zw e.ino xs=true):∀ (m i:Nat) (S:List Int),JP xs S->(∀ n∈S,∃ k,Dep xs k n)->JP xs (X4 xs m i S)/\∀ n∈X4 xs m i S,∃ k,Dep xs k n
 | 0,i,S,h,hd=>by unfold X4;exact ⟨h,hd⟩
 | m+1,i,S,h,hd=>by
  unfold X4
  split
  ·rename_i n hn
   have hmem:=List.mem_of_getElem? hn
   have hh:=h.has n hmem
   obtain ⟨hm,_⟩:=qG hh
   obtain ⟨k,hk⟩:=hd n hmem
   refine kL h3 m (i+1) _ (NF h fun e he=>h3 _ hm e he) fun n' hn'=>?_
   rcases HF.1 hn' with h' | ⟨e,he,rfl⟩
   ·exact hd n' h'
   ·exact ⟨k+1,.step hk hh he⟩
  ·exact ⟨h,hd⟩
theorem zcJ {S T:List Int} (hS:S.Nodup) (hs:∀ n∈S,n∈T) (hl:T.length<=S.length):∀ n∈T,n∈S:=by
 intro n hn
 by_cases h:n∈S
 ·exact h
 ·exfalso
  have:=Z7 (S:=n :: S) (T:=T) (List.nodup_cons.2 ⟨h,hS⟩) fun m hm=>by
   rcases List.mem_cons.1 hm with rfl | hm
   ·exact hn
   ·exact hs m hm
  rw[List.length_cons]at this;omega
theorem xE {f:FsV} (h:okM f) {n:Int} (hn:zw n f.xs=true):∃ k,Dep f.xs k n:=by
 obtain ⟨_,h1,_,h3,_,h5,_⟩:=qi h
 have hroot:JP f.xs [1]:=⟨by simp,fun n hn=>by simp at hn;subst hn;exact h1.2.2.2.2.2.2.2.1⟩
 obtain ⟨g1,g2⟩:=kL h3 (f.xs.length+1) 0 [1] hroot fun n hn=>by simp at hn;subst hn;exact ⟨0,.root⟩
 have hS:=zcJ (T:=f.xs.map (·.ino)) g1.nodup (fun m hm=>HX.1 (g1.has m hm)) (by rw[List.length_map];exact Nat.le_of_eq h5.symm) n (HX.1 hn)
 exact g2 n hS
theorem Qi {xs:List zn} {n:Int} {e:zH} (hh:zw n xs=true) (he:e∈(zf n xs).es):(e.ino,n)∈zM xs:=by
 obtain ⟨hm,hi⟩:=qG hh
 unfold zM
 exact List.mem_flatMap.2 ⟨_,hm,List.mem_map.2 ⟨e,he,by rw[hi]⟩⟩
theorem zkK {n p:Int} {l:List (Int×Int)} (h:(n,p)∈l):1<=X6 n l:=by
 unfold X6
 exact List.length_pos_iff.2 (List.ne_nil_of_mem (List.mem_filter.2 ⟨h,by simp⟩))
theorem xJ {n p q:Int} {l:List (Int×Int)} (hp:(n,p)∈l) (hq:(n,q)∈l) (h:X6 n l=1):p=q:=by
 unfold X6 at h
 obtain ⟨x,hx⟩:=List.length_eq_one_iff.1 h
 have h1:(n,p)∈l.filter fun p=>p.1==n:=List.mem_filter.2 ⟨hp,by simp⟩
 have h2:(n,q)∈l.filter fun p=>p.1==n:=List.mem_filter.2 ⟨hq,by simp⟩
 rw[hx]at h1 h2
 simp only[List.mem_singleton]at h1 h2
 exact congrArg Prod.snd (h1.trans h2.symm)
theorem VO {f:FsV} (h:okM f) {n:Int} (hh:zw n f.xs=true) {e:zH} (he:e∈(zf n f.xs).es):(zf n f.xs).kind=2:=by
 obtain ⟨_,_,h2,_⟩:=qi h
 obtain ⟨hm,_⟩:=qG hh
 by_cases hk:(zf n f.xs).kind=2
 ·exact hk
 ·have:=((h2 _ hm).2.1 hk).1
  rw[this]at he;cases he
theorem ju {f:FsV} (h:okM f) {n:Int} (hh:zw n f.xs=true) {e:zH} (he:e∈(zf n f.xs).es):e.ino≠1:=fun h1=>by
 obtain ⟨_,hf,_,_,h4,_⟩:=qi h
 obtain ⟨hm,hi⟩:=qG hf.2.2.2.2.2.2.2.1
 have hq:=(h4 _ hm).2
 rw[if_pos hi,hi]at hq
 have:=zkK (Qi hh he)
 rw[h1]at this;omega
theorem Zm {f:FsV} (h:okM f):∀ (k k':Nat) (n:Int),Dep f.xs k n->Dep f.xs k' n->zw n f.xs=true->(zf n f.xs).kind=2->k=k'
 | 0,0,_,_,_,_,_=>rfl
 | 0,k'+1,_,h1,h2,hh,hk=>by
  cases h1
  generalize hn:(1:Int)=n at h2
  cases h2 with
  | step a b c=>exact absurd hn.symm (ju h b c)
 | k+1,0,_,h1,h2,hh,hk=>by
  cases h2
  generalize hn:(1:Int)=n at h1
  cases h1 with
  | step a b c=>exact absurd hn.symm (ju h b c)
 | k+1,k'+1,n,h1,h2,hh,hk=>by
  obtain ⟨_,hf,_,_,h4,_⟩:=qi h
  cases h1 with
  | @step _ p e a b c =>
   generalize hn:e.ino=n at h2 hh hk
   cases h2 with
   | @step _ p' e' a' b' c' =>
    have hp:=Qi b c
    have hp':=Qi b' c'
    rw[hn]at hp
    obtain ⟨hm,hi⟩:=qG hh
    have hq:=(h4 _ hm).2
    rw[hi]at hq
    have hne:e'.ino≠1:=ju h b' c'
    rw[if_neg hne]at hq
    have:=xJ hp hp' (hq.2 hk).1
    subst this
    rw[Zm h k k' p a a' b (VO h b c)]
end
section
theorem Xd (n:Int):∀ xs:List zn,X6 n (zM xs)=k8 n xs
 | []=>rfl
 | x :: r=>by
  have ih:=Xd n r
  unfold k8 vr at ih ⊢
  unfold zM at ih ⊢
  rw[List.flatMap_cons,List.map_cons,List.sum_cons,←ih]
  unfold X6 Uv
  rw[List.filter_append,List.length_append]
  congr 1
  induction x.es with
  | nil=>rfl
  | cons e es ie =>
   unfold Zu at ie ⊢
   rw[List.map_cons,List.filter_cons,List.filter_cons]
   by_cases h:e.ino=n
   ·simp only[h,beq_self_eq_true,if_true,decide_true,List.length_cons,ie]
   ·simp only[show (e.ino==n)=false from beq_eq_false_iff_ne.2 h,decide_eq_false h,Bool.false_eq_true,if_false,ie]
theorem ZG {f:FsV} (h:jR f=0):jQ f/\JX f/\JI f/\JZ f/\XO f/\UJ f:=by
 unfold jR at h
 split at h
 ·split at h
  ·split at h
   ·split at h
    ·split at h
     ·split at h
      ·exact ⟨by assumption,by assumption,by assumption,by assumption,by assumption,by assumption⟩
      ·cases h
     ·cases h
    ·cases h
   ·cases h
  ·cases h
 ·cases h
theorem Nl {es:List zH} (h:Ya es):XQ es:=by
 have hadj:∀ i (h1:i+1<es.length),Op.bytesLess es[i].name es[i+1].name=true:=fun i h1=>(h (i+1) h1).2.2 (by omega)
 have key:∀ (d i:Nat) (h1:i+d+1<es.length),Op.bytesLess (es[i]'(by omega)).name es[i+d+1].name=true:=by
  intro d
  induction d with
  | zero=>intro i h1;exact hadj i h1
  | succ d ih=>intro i h1;exact kU (ih i (by omega)) (hadj (i+d+1) (by omega))
 refine List.pairwise_iff_getElem.2 fun i j hi hj hij=>?_
 have:=key (j-i-1) i (by omega)
 have e:i+(j-i-1)+1=j:=by omega
 simp only[e]at this
 exact this
theorem QJ {f:FsV} (h:jR f=0):FsI f:=by
 obtain ⟨h1,h2,h3,h4,h5,h6⟩:=ZG h
 obtain ⟨a1,a2,a3,a4,a5,a6,a7,a8,a9⟩:=h1
 refine ⟨a7,a6,fun x hx=>(h2 x hx).1,fun x hx=>?_,fun x hx hk=>((h2 x hx).2.1 hk).1,h3,fun x hx=>?_,a8,a9,?_⟩
 ·by_cases hk:x.kind=2
  ·exact Nl ((h2 x hx).2.2.1 hk).2
  ·rw[((h2 x hx).2.1 hk).1];exact List.Pairwise.nil
 ·rw[(h4 x hx).1,Xd]
 ·obtain ⟨b1,b2⟩:=qG a8
  have q:=(h4 _ b1).2
  rw[b2,if_pos rfl,Xd]at q
  exact q.1
theorem zpM {w:zS} (h:okW w):UQ w:=by
 obtain ⟨h1,h2,h3,h4,h5⟩:=h.2
 exact ⟨QJ h1,h4.1,h2,fun x hx=>⟨(h3 x hx).1,(h3 x hx).2.2.1⟩⟩
theorem zcC {w:zS} (h:okW w):ua 40 w:=by
 obtain ⟨⟨g1,g2,g3,g4⟩,h1,_⟩:=h
 obtain ⟨a1,a2,a3,a4,a5,_⟩:=(ZG h1).1
 exact ⟨g2.1,fun x hx=>by obtain ⟨q1,q2,q3⟩:=g2.2 x hx;exact ⟨q2,q1,q3⟩,g4,g1,g3.1,fun x hx=>by obtain ⟨q1,q2,q3⟩:=g3.2 x hx;exact ⟨q2,q1,q3⟩,by omega,by omega⟩
theorem ua.s {N:Nat} {w:zS} (h:ua N w) (hi:UQ w) (hN:N<=10000):zfH w:=by
 have hr:=xr hi.fs
 have hn:=h.next
 exact ⟨⟨by have:=h.len;omega,fun x hx=>by obtain ⟨q1,q2,q3⟩:=h.node x hx;exact ⟨by omega,by omega,fun e he=>by have:=q3 e he;omega⟩⟩,⟨by omega,by omega⟩,by have:=h.klen;omega,by have:=h.plen;omega⟩
structure OpS (o:OpV):Prop where
 a:o.a.length<=1000
 b:o.b.length<=1000
 d:o.d.length<=5000
structure znB (N:Nat) (d:zr):Prop where
 wi:UQ d.w
 wb:ua (40+N) d.w
 ops:d.ops.length<=N
 diags:d.diags.length<=N
 slot:0<=d.slot/\d.slot<=1073741824+N
theorem zbC {d:zr} {o:OpV} (h:(zjr d o).2≠0):(zjr d o).1=d:=by
 unfold zjr at h ⊢
 split
 ·rfl
 ·split
  ·rfl
  ·rename_i h1 h2;rw[if_neg h1,if_neg h2]at h;exact absurd rfl h
end
section
theorem NR {f:FsV} (h:okM f):∀ (k:Nat) (n:Int),Dep f.xs k n->zw n f.xs=true->(zf n f.xs).kind=2->∃ L:List Int,L.length=k+1/\L.Nodup/\(∀ m∈L,zw m f.xs=true)/\∀ m∈L,(zf m f.xs).kind=2/\∃ j,j<=k/\Dep f.xs j m
 | 0,n,hd,hh,hk=>⟨[n],rfl,by simp,fun m hm=>by simp at hm;subst hm;exact hh,fun m hm=>by simp at hm;subst hm;exact ⟨hk,0,Nat.le_refl _,hd⟩⟩
 | k+1,_,hd,hh,hk=>by
  generalize hn:k+1=k1 at hd
  cases hd with
  | root=>cases hn
  | @step k0 p e a b c =>
   obtain rfl:k=k0:=by omega
   obtain ⟨L,l1,l2,l3,l4⟩:=NR h k p a b (VO h b c)
   refine ⟨e.ino :: L,by simp[l1],List.nodup_cons.2 ⟨fun hm=>?_,l2⟩,fun m hm=>?_,fun m hm=>?_⟩
   ·obtain ⟨_,j,hj,hd⟩:=l4 _ hm
    have:=Zm h _ _ _ hd (.step a b c) hh hk
    omega
   ·rcases List.mem_cons.1 hm with rfl | hm
    ·exact hh
    ·exact l3 m hm
   ·rcases List.mem_cons.1 hm with rfl | hm
    ·exact ⟨hk,k+1,Nat.le_refl _,.step a b c⟩
    ·obtain ⟨q1,j,q2,q3⟩:=l4 m hm
     exact ⟨q1,j,by omega,q3⟩
theorem zca {f:FsV} (h:okM f) {k:Nat} {n:Int} (hd:Dep f.xs k n) (hh:zw n f.xs=true) (hk:(zf n f.xs).kind=2):k<f.xs.length:=by
 obtain ⟨L,l1,l2,l3,_⟩:=NR h k n hd hh hk
 have:=Qk l2 l3
 omega
def qv (xs:List zn):Nat->Int->List (List UInt8)->j4
 | 0,_,_=>[]
 | m+1,n,ns=>if zw n xs then (ns,zf n xs) :: (zf n xs).es.flatMap (fun e=>qv xs m e.ino (ns++[e.name])) else []
theorem XN {α β:Type} {l:List α} {g g':α->List β} (h:∀ a∈l,g a=g' a):l.flatMap g=l.flatMap g':=by
 induction l with
 | nil=>rfl
 | cons a r ih=>rw[List.flatMap_cons,List.flatMap_cons,h a List.mem_cons_self,ih fun b hb=>h b (List.mem_cons_of_mem _ hb)]
theorem NC {f:FsV} (h:okM f):∀ (m m' k:Nat) (n:Int) (ns:List (List UInt8)),Dep f.xs k n->k<=f.xs.length->f.xs.length+1<=m+k->f.xs.length+1<=m'+k->qv f.xs m n ns=qv f.xs m' n ns
 | 0,m',k,n,ns,hd,hk,h1,h2=>by omega
 | m+1,0,k,n,ns,hd,hk,h1,h2=>by omega
 | m+1,m'+1,k,n,ns,hd,hk,h1,h2=>by
  unfold qv
  split
  ·rename_i hh
   congr 1
   refine XN fun e he=>?_
   have hdir:=VO h hh he
   have hlt:=zca h hd hh hdir
   exact NC h m m' (k+1) e.ino _ (.step hd hh he) (by omega) (by omega) (by omega)
  ·rfl
abbrev trV (xs:List zn):Int->List (List UInt8)->j4:=qv xs (xs.length+1)
theorem zji {f:FsV} (h:okM f) {n:Int} (hh:zw n f.xs=true):∃ k,k<=f.xs.length/\Dep f.xs k n:=by
 obtain ⟨k,hd⟩:=xE h hh
 refine ⟨k,?_,hd⟩
 cases hd with
 | root=>exact Nat.zero_le _
 | step a b c=>exact zca h a b (VO h b c)
theorem zjP {f:FsV} (h:okM f):yW f (trV f.xs):=⟨fun n ns hh=>by
 obtain ⟨k,hk,hd⟩:=zji h hh
 show qv f.xs (f.xs.length+1) n ns=_
 rw[qv,if_pos hh]
 congr 1
 refine XN fun e he=>?_
 have hlt:=zca h hd hh (VO h hh he)
 exact NC h _ _ (k+1) e.ino _ (.step hd hh he) (by omega) (by omega) (by omega),fun n ns hh=>by
 show qv f.xs (f.xs.length+1) n ns=_
 rw[qv,if_neg (by rw[hh];decide)]⟩
theorem zjC {f:FsV} (h:okM f):zdx f (trV f.xs):=by
 obtain ⟨p0,p1,p2,p3,_⟩:=qi h
 exact ⟨zjP h,p0,p1.2.2.2.2.2.2.1,p3,fun x hx hk=>((p2 x hx).2.1 hk).1⟩
end
section
theorem UU (ns:List (List UInt8)) (x:List UInt8) (hne:∀ y∈ns,y≠[]):z8 (ns++[x])=Un (z8 ns) x:=by
 have hj:=Gs (ns++[x]) ns.length x (by simp)
 rw[List.take_of_length_le (by simp),List.take_left' rfl]at hj
 unfold z8
 rw[if_neg (by simp),hj]
 by_cases h:ns = []
 ·subst h;rfl
 ·have hl:ns.length≠0:=fun h0=>h (List.eq_nil_of_length_eq_zero h0)
  rw[if_neg hl,if_neg h]
  have hne47:(47 :: Lib.join ns [47])≠[47]:=fun he=>by
   have h1:Lib.join ns [47] = []:=(List.cons.inj he).2
   have h2:=Xt ns h
   rw[h1]at h2
   cases ns with
   | nil=>exact h rfl
   | cons y r =>
    have:=List.length_pos_iff.2 (hne y List.mem_cons_self)
    simp at h2;omega
  unfold Un
  rw[if_neg hne47]
  simp
end
section
inductive Anc (xs:List zn) (n:Int):Nat->Int->Prop
 | same:Anc xs n 0 n
 | step {j:Nat} {p:Int} {e:zH}:Anc xs n j p->zw p xs=true->e∈(zf p xs).es->Anc xs n (j+1) e.ino
theorem Anc.dep {xs:List zn} {n:Int} {k:Nat} (hd:Dep xs k n):∀ {j:Nat} {d:Int},Anc xs n j d->Dep xs (k+j) d
 | _,_,.same=>hd
 | _,_,.step a b c=>.step (a.dep hd) b c
theorem Anc.up {xs:List zn} {n:Int} {e:zH} (hh:zw n xs=true) (he:e∈(zf n xs).es):∀ {j:Nat} {d:Int},Anc xs e.ino j d->Anc xs n (j+1) d
 | _,_,.same=>.step .same hh he
 | _,_,.step a b c=>.step (a.up hh he) b c
theorem Ys {xs:List zn}:∀ (m:Nat) (n:Int) (ns:List (List UInt8)),∀ p∈qv xs m n ns,∃ j,Anc xs n j p.2.ino/\zw p.2.ino xs=true/\zf p.2.ino xs=p.2
 | 0,n,ns,p,hp=>by cases hp
 | m+1,n,ns,p,hp=>by
  unfold qv at hp
  split at hp
  ·rename_i hh
   obtain ⟨_,hi⟩:=qG hh
   rcases List.mem_cons.1 hp with rfl | hp
   ·exact ⟨0,by rw[hi];exact .same,by rw[hi];exact hh,by rw[hi]⟩
   ·obtain ⟨e,he,hp⟩:=List.mem_flatMap.1 hp
    obtain ⟨j,q1,q2⟩:=Ys m _ _ p hp
    exact ⟨j+1,q1.up hh he,q2⟩
  ·cases hp
theorem vf {f:FsV} (h:okM f) {a b:Int}:∀ (j:Nat) (d:Int),Anc f.xs a j d->Anc f.xs b j d->zw d f.xs=true->(zf d f.xs).kind=2->a=b/\zw a f.xs=true/\(zf a f.xs).kind=2
 | 0,d,h1,h2,hh,hk=>by
  cases h1;cases h2
  exact ⟨rfl,hh,hk⟩
 | j+1,d,h1,h2,hh,hk=>by
  obtain ⟨_,_,_,_,h4,_⟩:=qi h
  cases h1 with
  | @step _ p e x y z =>
   generalize hn:e.ino=d at h2 hh hk
   cases h2 with
   | @step _ p' e' x' y' z' =>
    have hp:=Qi y z
    have hp':=Qi y' z'
    rw[hn]at hp
    obtain ⟨hm,hi⟩:=qG hh
    have hq:=(h4 _ hm).2
    rw[hi,if_neg (ju h y' z')]at hq
    have:=xJ hp hp' (hq.2 hk).1
    subst this
    exact vf h j p x x' y (VO h y z)
theorem zlj {xs:List zn} {n:Int} {e e':zH} (hh:zw n xs=true) (hs:[e,e'].Sublist (zf n xs).es) (hi:e.ino=e'.ino):2<=X6 e.ino (zM xs):=by
 obtain ⟨hm,hino⟩:=qG hh
 have h1:([e,e'].map fun e=>(e.ino,(zf n xs).ino)).Sublist (Zu (zf n xs) (zf n xs).es):=hs.map _
 obtain ⟨i,hi',hx⟩:=List.getElem_of_mem hm
 have h2:(Zu (zf n xs) (zf n xs).es).Sublist (zM xs):=by
  obtain ⟨s,t,hst⟩:=List.append_of_mem hm
  unfold zM
  conv=>rhs;rw[hst]
  rw[List.flatMap_append,List.flatMap_cons]
  exact (List.sublist_append_left _ _).trans (List.sublist_append_right _ _)
 have h3:=((h1.trans h2).filter fun p=>p.1==e.ino).length_le
 unfold X6
 simpa [hi] using h3
abbrev J3 (l:j4):List Int:=(l.filter fun p=>decide (p.2.kind=2)).map fun p=>p.2.ino
theorem Vg {l:j4} {d:Int} (h:d∈J3 l):∃ p∈l,p.2.kind=2/\p.2.ino=d:=by
 obtain ⟨p,hp,rfl⟩:=List.mem_map.1 h
 obtain ⟨h1,h2⟩:=List.mem_filter.1 hp
 exact ⟨p,h1,of_decide_eq_true h2,rfl⟩
theorem Ye {f:FsV} (h:okM f):∀ (m:Nat) (n:Int) (ns:List (List UInt8)),zw n f.xs=true->(J3 (qv f.xs m n ns)).Nodup
 | 0,n,ns,_=>List.nodup_nil
 | m+1,n,ns,hh=>by
  obtain ⟨k,hd⟩:=xE h hh
  obtain ⟨_,_,_,h3,h4,_⟩:=qi h
  obtain ⟨hm,hi⟩:=qG hh
  have key:∀ L:List zH,L.Sublist (zf n f.xs).es->(J3 (L.flatMap fun e=>qv f.xs m e.ino (ns++[e.name]))).Nodup:=by
   intro L
   induction L with
   | nil=>intro _;exact List.nodup_nil
   | cons e r ih =>
    intro hs
    have he:e∈(zf n f.xs).es:=hs.subset List.mem_cons_self
    have hr:r.Sublist (zf n f.xs).es:=(List.sublist_cons_self e r).trans hs
    have hap:J3 ((e :: r).flatMap fun e=>qv f.xs m e.ino (ns++[e.name]))=J3 (qv f.xs m e.ino (ns++[e.name]))++J3 (r.flatMap fun e=>qv f.xs m e.ino (ns++[e.name])):=by
     rw[List.flatMap_cons];unfold J3;rw[List.filter_append,List.map_append]
    rw[hap,List.nodup_append]
    refine ⟨Ye h m e.ino _ (h3 _ hm e he),ih hr,fun d hd1 d' hd2 hdd=>?_⟩
    subst hdd
    obtain ⟨p,p1,p2,rfl⟩:=Vg hd1
    obtain ⟨p',p1',p2',p3'⟩:=Vg hd2
    obtain ⟨e',he',p1'⟩:=List.mem_flatMap.1 p1'
    obtain ⟨j,a1,a2,a3⟩:=Ys m _ _ p p1
    obtain ⟨j',b1,b2,b3⟩:=Ys m _ _ p' p1'
    rw[p3']at b1
    have hk:(zf p.2.ino f.xs).kind=2:=by rw[a3];exact p2
    have hdep:=Zm h _ _ _ (a1.dep (.step hd hh he)) (b1.dep (.step hd hh (hr.subset he'))) a2 hk
    obtain rfl:j=j':=by omega
    obtain ⟨q1,q2,q3⟩:=vf h j _ a1 b1 a2 hk
    have hs2:[e,e'].Sublist (zf n f.xs).es:=(List.Sublist.cons_cons e (List.singleton_sublist.2 he')).trans hs
    have h2:=zlj hh hs2 q1
    obtain ⟨hm2,hi2⟩:=qG q2
    have hq:=(h4 _ hm2).2
    rw[hi2,if_neg (ju h hh he)]at hq
    have:=(hq.2 q3).1
    omega
  unfold qv
  rw[if_pos hh]
  by_cases hk:(zf n f.xs).kind=2
  ·have hc:J3 ((ns,zf n f.xs) :: (zf n f.xs).es.flatMap fun e=>qv f.xs m e.ino (ns++[e.name]))=n :: J3 ((zf n f.xs).es.flatMap fun e=>qv f.xs m e.ino (ns++[e.name])):=by
    unfold J3
    rw[List.filter_cons_of_pos (by simpa using hk),List.map_cons,hi]
   rw[hc,List.nodup_cons]
   refine ⟨fun hmem=>?_,key _ (List.Sublist.refl _)⟩
   obtain ⟨p,p1,p2,p3⟩:=Vg hmem
   obtain ⟨e,he,p1⟩:=List.mem_flatMap.1 p1
   obtain ⟨j,a1,a2,a3⟩:=Ys m _ _ p p1
   rw[p3]at a1
   have:=Zm h _ _ _ (a1.dep (.step hd hh he)) hd hh hk
   omega
  ·have hc:J3 ((ns,zf n f.xs) :: (zf n f.xs).es.flatMap fun e=>qv f.xs m e.ino (ns++[e.name]))=J3 ((zf n f.xs).es.flatMap fun e=>qv f.xs m e.ino (ns++[e.name])):=by
    unfold J3
    rw[List.filter_cons_of_neg (by simpa using hk)]
   rw[hc]
   exact key _ (List.Sublist.refl _)
end
section
def Vt (l:j4):Nat:=(l.map fun p=>p.2.es.length).sum
theorem zcb (a b:j4):Vt (a++b)=Vt a+Vt b:=by unfold Vt;rw[List.map_append,List.sum_append]
theorem vj {xs:List zn}:∀ (m:Nat) (n:Int) (ns:List (List UInt8)),(qv xs m n ns).length<=1+Vt (qv xs m n ns)
 | 0,n,ns=>Nat.zero_le _
 | m+1,n,ns=>by
  unfold qv
  split
  ·have key:∀ L:List zH,(L.flatMap fun e=>qv xs m e.ino (ns++[e.name])).length<=L.length+Vt (L.flatMap fun e=>qv xs m e.ino (ns++[e.name])):=by
    intro L
    induction L with
    | nil=>exact Nat.le_refl _
    | cons e r ih =>
     rw[List.flatMap_cons,List.length_append,zcb,List.length_cons]
     have:=vj (xs:=xs) m e.ino (ns++[e.name])
     omega
   have:=key (zf n xs).es
   have hs:∀ l:j4,Vt ((ns,zf n xs) :: l)=(zf n xs).es.length+Vt l:=fun l=>by unfold Vt;rw[List.map_cons,List.sum_cons]
   rw[List.length_cons,hs]
   omega
  ·exact Nat.zero_le _
theorem zgg {l:j4} (h:∀ p∈l,p.2.es.length<=3240/\(p.2.kind≠2->p.2.es = [])):Vt l<=3240*(J3 l).length:=by
 induction l with
 | nil=>exact Nat.zero_le _
 | cons p r ih =>
  have hp:=h p List.mem_cons_self
  have ih:=ih fun q hq=>h q (List.mem_cons_of_mem _ hq)
  unfold Vt at ih ⊢
  rw[List.map_cons,List.sum_cons]
  unfold J3 at ih ⊢
  by_cases hk:p.2.kind=2
  ·rw[List.filter_cons_of_pos (by simpa using hk),List.map_cons,List.length_cons];omega
  ·rw[List.filter_cons_of_neg (by simpa using hk),hp.2 hk]
   simpa using ih
theorem zgt {f:FsV} (h:okM f) (m:Nat) (n:Int) (ns:List (List UInt8)):(qv f.xs m n ns).length<=10497601:=by
 obtain ⟨h0,_,h2,_⟩:=qi h
 cases hh:zw n f.xs with
 | false =>
  cases m with
  | zero=>exact Nat.zero_le _
  | succ m=>unfold qv;rw[hh];exact Nat.zero_le _
 | true =>
  have h1:=vj (xs:=f.xs) m n ns
  have hg:∀ p∈qv f.xs m n ns,p.2∈f.xs:=fun p hp=>by
   obtain ⟨j,_,q2,q3⟩:=Ys m n ns p hp
   rw[←q3];exact (qG q2).1
  have hs:=zgg (l:=qv f.xs m n ns) fun p hp=>⟨(h0.2 _ (hg p hp)).2.1,fun hk=>((h2 _ (hg p hp)).2.1 hk).1⟩
  have hd:=Qk (Ye h m n ns hh) fun d hd=>by
   obtain ⟨p,p1,_,rfl⟩:=Vg hd
   obtain ⟨_,_,q2,_⟩:=Ys m n ns p p1
   exact q2
  have:=h0.1
  omega
def kC (ns:List (List UInt8)):Nat:=(ns.map fun x=>x.length+1).sum
theorem N7 (ns:List (List UInt8)) (x:List UInt8):kC (ns++[x])=kC ns+(x.length+1):=by
 unfold kC;rw[List.map_append,List.sum_append];simp
theorem Zb {xs:List zn} (h0:zmc xs):∀ (m:Nat) (n:Int) (ns:List (List UInt8)),∀ p∈qv xs m n ns,p.1.length<=ns.length+m/\kC p.1<=kC ns+m*301
 | 0,n,ns,p,hp=>by cases hp
 | m+1,n,ns,p,hp=>by
  unfold qv at hp
  split at hp
  ·rename_i hh
   obtain ⟨hm,_⟩:=qG hh
   rcases List.mem_cons.1 hp with rfl | hp
   ·exact ⟨Nat.le_add_right _ _,Nat.le_add_right _ _⟩
   ·obtain ⟨e,he,hp⟩:=List.mem_flatMap.1 hp
    obtain ⟨q1,q2⟩:=Zb h0 m _ _ p hp
    have:=(h0.2 _ hm).2.2 e he
    rw[N7]at q2
    rw[List.length_append,List.length_singleton]at q1
    exact ⟨by omega,by omega⟩
  ·cases hp
theorem Yl (ns:List (List UInt8)):(Lib.join ns [47]).length<=kC ns:=by
 by_cases h:ns = []
 ·subst h;exact Nat.zero_le _
 ·have:=Xt ns h
  unfold kC;omega
theorem zgR {f:FsV} (h:okM f) (n:Int) (ns:List (List UInt8)) (h1:ns.length<=100000) (h2:kC ns<=20000):Mw (trV f.xs) n ns:=by
 obtain ⟨h0,_⟩:=qi h
 refine ⟨Nat.le_trans (zgt h _ n ns) (by decide),fun p hp=>?_⟩
 obtain ⟨q1,q2⟩:=Zb h0 _ n ns p hp
 have:=Yl p.1
 have:=h0.1
 exact ⟨by omega,by omega⟩
end
section
theorem U1 {xs:List zn}:∀ (m:Nat) (n:Int) (ns:List (List UInt8)) (j:Nat) (d:Int),Anc xs n j d->j<m->zw n xs=true->(∀ x∈xs,∀ e∈x.es,zw e.ino xs=true)->∃ p∈qv xs m n ns,p.2.ino=d
 | 0,n,ns,j,d,ha,hj,hh,h3=>by omega
 | m+1,n,ns,0,d,ha,hj,hh,h3=>by
  cases ha
  obtain ⟨_,hi⟩:=qG hh
  refine ⟨(ns,zf n xs),?_,hi⟩
  unfold qv
  rw[if_pos hh]
  exact List.mem_cons_self
 | m+1,n,ns,j+1,d,ha,hj,hh,h3=>by
  have key:∀ (j:Nat) (d:Int),Anc xs n (j+1) d->∃ e∈(zf n xs).es,Anc xs e.ino j d:=by
   intro j
   induction j with
   | zero =>
    intro d ha
    cases ha with
    | step a b c=>cases a;exact ⟨_,c,.same⟩
   | succ j ih =>
    intro d ha
    cases ha with
    | step a b c =>
     obtain ⟨e,he,h⟩:=ih _ a
     exact ⟨e,he,.step h b c⟩
  obtain ⟨e,he,h⟩:=key j d ha
  obtain ⟨hm,_⟩:=qG hh
  obtain ⟨p,p1,p2⟩:=U1 m e.ino (ns++[e.name]) j d h (by omega) (h3 _ hm e he) h3
  refine ⟨p,?_,p2⟩
  unfold qv
  rw[if_pos hh]
  exact List.mem_cons_of_mem _ (List.mem_flatMap.2 ⟨e,he,p1⟩)
theorem zfp {xs:List zn}:∀ {k:Nat} {n:Int},Dep xs k n->Anc xs 1 k n
 | _,_,.root=>.same
 | _,_,.step a b c=>.step (zfp a) b c
theorem zbL {f:FsV} (h:okM f) {n:Int} (hh:zw n f.xs=true):∃ p∈trV f.xs 1 [],p.2.ino=n:=by
 obtain ⟨_,h1,_,h3,_⟩:=qi h
 obtain ⟨k,hk,hd⟩:=zji h hh
 exact U1 _ 1 [] k n (zfp hd) (by omega) h1.2.2.2.2.2.2.2.1 h3
theorem V5 {f:FsV} {m:Nat} {n:Int} {ns:List (List UInt8)} {p:List (List UInt8)×zn} (hp:p∈qv f.xs m n ns):zw p.2.ino f.xs=true/\zf p.2.ino f.xs=p.2:=by
 obtain ⟨_,_,q⟩:=Ys m n ns p hp
 exact q
theorem Z6:∀ {l:j4} {n:Int},(J3 l).Nodup->(∀ p∈l,p.2.ino=n->p.2.kind=2)->(∃ p∈l,p.2.ino=n)->∃ p,l.filter (fun p=>decide (p.2.ino=n)) = [p]
 | [],n,_,_,⟨p,hp,_⟩=>by cases hp
 | q :: l,n,hn,hk,hex=>by
  have hk':∀ p∈l,p.2.ino=n->p.2.kind=2:=fun p hp=>hk p (List.mem_cons_of_mem _ hp)
  by_cases hq:q.2.ino=n
  ·have hk2:=hk q List.mem_cons_self hq
   have hc:J3 (q :: l)=q.2.ino :: J3 l:=by
    unfold J3;rw[List.filter_cons_of_pos (by simpa using hk2),List.map_cons]
   rw[hc,List.nodup_cons,hq]at hn
   have he:l.filter (fun p=>decide (p.2.ino=n)) = []:=by
    rw[List.filter_eq_nil_iff]
    intro p hp hpn
    have hpn:=of_decide_eq_true hpn
    refine hn.1 ?_
    exact List.mem_map.2 ⟨p,List.mem_filter.2 ⟨hp,by simpa using hk' p hp hpn⟩,hpn⟩
   exact ⟨q,by rw[List.filter_cons_of_pos (by simpa using hq),he]⟩
  ·have hn':(J3 l).Nodup:=by
    unfold J3 at hn ⊢
    by_cases hk2:q.2.kind=2
    ·rw[List.filter_cons_of_pos (by simpa using hk2),List.map_cons,List.nodup_cons]at hn;exact hn.2
    ·rw[List.filter_cons_of_neg (by simpa using hk2)]at hn;exact hn
   obtain ⟨p,hp,hpn⟩:=hex
   have hpl:p∈l:=by
    rcases List.mem_cons.1 hp with rfl | hp
    ·exact absurd hpn hq
    ·exact hp
   obtain ⟨p',h⟩:=Z6 hn' hk' ⟨p,hpl,hpn⟩
   exact ⟨p',by rw[List.filter_cons_of_neg (by simpa using hq)];exact h⟩
theorem NA {f:FsV} (h:okM f) {n:Int} (hh:zw n f.xs=true) (hk:(zf n f.xs).kind=2):∃ p,XZ n (trV f.xs 1 []) = [p]/\VV n (trV f.xs 1 [])=some p:=by
 obtain ⟨_,h1,_⟩:=qi h
 have hkk:∀ p∈trV f.xs 1 [],p.2.ino=n->p.2.kind=2:=fun p hp hpn=>by
  obtain ⟨_,q⟩:=V5 hp
  rw[hpn]at q;rw[←q];exact hk
 obtain ⟨p,hp⟩:=Z6 (Ye h _ 1 [] h1.2.2.2.2.2.2.2.1) hkk (zbL h hh)
 refine ⟨z8 p.1,by unfold XZ;rw[hp];rfl,?_⟩
 unfold VV
 have he:(fun q:List (List UInt8)×zn=>decide (q.2.ino=n)&&decide (q.2.kind=2))=fun q=>decide (q.2.ino=n)&&decide (q.2.kind=2):=rfl
 rw[←List.head?_filter]
 have hf:(trV f.xs 1 []).filter (fun q=>decide (q.2.ino=n)&&decide (q.2.kind=2))=(trV f.xs 1 []).filter fun q=>decide (q.2.ino=n):=by
  refine List.filter_congr fun q hq=>?_
  by_cases hqn:q.2.ino=n
  ·simp[hqn,hkk q hq hqn]
  ·simp[hqn]
 rw[hf,hp];rfl
end
section
theorem kX {xs:List zn} (hm:∀ x∈xs,∀ e∈x.es,may e.name=true):∀ (m:Nat) (n:Int) (ns:List (List UInt8)),∀ p∈qv xs m n ns,∃ zs,p.1=ns++zs/\∀ z∈zs,may z=true
 | 0,n,ns,p,hp=>by unfold qv at hp;cases hp
 | m+1,n,ns,p,hp=>by
  unfold qv at hp
  split at hp
  ·rename_i hh
   rcases List.mem_cons.1 hp with rfl | hp
   ·exact ⟨[],by simp,fun z hz=>by cases hz⟩
   ·obtain ⟨e,he,hp⟩:=List.mem_flatMap.1 hp
    obtain ⟨zs,h1,h2⟩:=kX hm m e.ino _ p hp
    refine ⟨e.name :: zs,by rw[h1,List.append_assoc];rfl,fun z hz=>?_⟩
    rcases List.mem_cons.1 hz with rfl | hz
    ·exact hm _ (qG hh).1 e he
    ·exact h2 z hz
  ·cases hp
theorem ze2 {es:List zH} (h:Ya es):es.Pairwise fun a b=>a.name≠b.name:=by
 have key:∀ (d i:Nat) (hj:i+d+1<es.length),es[i].name<es[i+d+1].name:=by
  intro d
  induction d with
  | zero =>
   intro i hj
   have h1:=(h (i+1) hj).2.2 (by omega)
   rw[bytesLess_eq]at h1
   exact of_decide_eq_true h1
  | succ d ih =>
   intro i hj
   have h1:=(h (i+(d+1)+1) hj).2.2 (by omega)
   rw[bytesLess_eq]at h1
   have h1:=of_decide_eq_true h1
   have h2:=ih i (by omega)
   exact List.lt_trans h2 h1
 refine List.pairwise_iff_getElem.2 fun i j hi hj hij he=>?_
 obtain ⟨d,rfl⟩:∃ d,j=i+d+1:=⟨j-i-1,by omega⟩
 have h1:=key d i hj
 rw[he]at h1
 exact List.lt_irrefl _ h1
theorem VN {f:FsV} (h:okM f):(∀ x∈f.xs,∀ e∈x.es,may e.name=true)/\∀ x∈f.xs,x.es.Pairwise fun a b=>a.name≠b.name:=by
 obtain ⟨_,_,h2,_⟩:=qi h
 have key:∀ x∈f.xs,Ya x.es:=fun x hx=>by
  by_cases hk:x.kind=2
  ·exact ((h2 x hx).2.2.1 hk).2
  ·rw[((h2 x hx).2.1 hk).1];intro i hi;simp at hi
 refine ⟨fun x hx e he=>?_,fun x hx=>ze2 (key x hx)⟩
 obtain ⟨i,hi,rfl⟩:=List.getElem_of_mem he
 exact (key x hx i hi).1
end
section
open CA CB
open Go.RowKit
theorem zje {f:FsV} (h:okM f) {n:Int} (hh:zw n f.xs=true) (hk:(zf n f.xs).kind=2) :
  ∃ ns,(∀ z∈ns,may z=true)/\ns.length<=3241/\kC ns<=980000/\XZ n (trV f.xs 1 []) = [z8 ns]/\VV n (trV f.xs 1 [])=some (z8 ns):=by
 obtain ⟨h0,h1,_⟩:=qi h
 have hkk:∀ p∈trV f.xs 1 [],p.2.ino=n->p.2.kind=2:=fun p hp hpn=>by
  obtain ⟨_,q⟩:=V5 hp
  rw[hpn]at q;rw[←q];exact hk
 obtain ⟨p,hp⟩:=Z6 (Ye h _ 1 [] h1.2.2.2.2.2.2.2.1) hkk (zbL h hh)
 obtain ⟨q,q1,q2⟩:=NA h hh hk
 have hq:XZ n (trV f.xs 1 []) = [z8 p.1]:=by unfold XZ;rw[hp];rfl
 rw[hq]at q1
 have hqe:z8 p.1=q:=by simpa using q1
 have hpm:p∈trV f.xs 1 []:=(List.mem_filter.1 (by rw[hp];exact List.mem_singleton.2 rfl)).1
 obtain ⟨zs,z1,z2⟩:=kX (VN h).1 _ 1 [] p hpm
 obtain ⟨t1,t2⟩:=Zb h0 _ 1 [] p hpm
 have t3:=Yl p.1
 have t4:kC []=0:=rfl
 have h40:=h0.1
 rw[List.nil_append]at z1
 rw[←z1]at z2
 simp only[List.length_nil,t4]at t1 t2
 exact ⟨p.1,z2,by omega,by omega,hq,by rw[q2,hqe]⟩
def jJ (f:FsV) (s:zT):List UInt8:=Un ((VV s.dir (trV f.xs 1 [])).getD []) s.name
theorem zbV (f:FsV) (h:okM f) (s:zT) (hh:zw s.dir f.xs=true) (hk:(zf s.dir f.xs).kind=2) (hm:may s.name=true):Fun Tryz.prog G0 61 [.agg (fsC f),.agg (Qm s)] (.str (jJ f s)) 0:=by
 obtain ⟨ns,n1,n2,n3,n4,n5⟩:=zje h hh hk
 have hp:=MD f s.dir _ (zjC h) (zgR h 1 [] (by decide) (by decide))
 have hml:=HR hm
 have hjw:=Yl ns
 have hjl:(z8 ns).length<=980001:=by unfold z8;split<;>simp<;>omega
 have hr:=Vc (z8 ns) (by omega)
 unfold zg1 at hr
 rw[YF ns fun z hz=>Z8 (n1 z hz)]at hr
 have hj:=YY (ns++[s.name]) (by simp;omega) (by
  have a1:=Yl (ns++[s.name])
  rw[N7]at a1
  omega)
 rw[UU ns s.name fun y hy=>(Z8 (n1 y hy)).1]at hj
 have e:jJ f s=Un (z8 ns) s.name:=by unfold jJ;rw[n5];rfl
 rw[n5]at hp
 have hsl:(zB ns).length=ns.length:=List.length_map ..
 refine fof (fun i=>if i=2 then [false,false,false,false,false,false,true,false,false] else []) Tryz.func61 ?_;dsimp only[Tryz.f61]
 push_cast -dsimp
 refine cl (hp) ?_;push_cast -dsimp [Option.getD_some,Option.isSome_some]
 refine cl (hr) ?_;push_cast -dsimp
 repeat refine an ?_
 refine cl (hj) ?_;push_cast -dsimp
 exact dn (by push_cast -dsimp [zb,za,CLe,ze,e])
end
section
open Go.RowKit
end
section
open Go.RowKit
end
section
open CA CB
open Go.RowKit
end
section
open Go.RowKit Go.ChangeMaps Go.ChangeShapes Go.WideShapes Go.Deep Go.Joins
section
variable {H:Type} {enc:TypeId×Value->H} {W:World}
end
theorem zpj {W:World} {l:List (String×DataW Unit)} (h:laidMetH Tryz.prog l W) (hp:(l.filter fun x=>x.2.handleName?.isSome) = []) (hm:("drayman/op.has",Rows.laid_drayman_op_has)∈l):YN G1 (G9 W):=fun g cs hc=>by
 unfold G1 at hc
 split at hc
 ·rename_i hg
  subst hg
  cases hc
  exact jZ (t:=223) h hp hm (by kernel_rfl) (by kernel_rfl) (m:=4) (by kernel_rfl) (by kernel_rfl) (by kernel_rfl)
 ·cases hc
theorem zqx {W:World} {l:List (String×DataW Unit)} (h:laidMetH Tryz.prog l W) (hp:(l.filter fun x=>x.2.handleName?.isSome) = []) (hm1:("drayman/diag.phrases",Rows.laid_drayman_diag_phrases)∈l) (hm2:("drayman/args.kinds",Rows.laid_drayman_args_kinds)∈l) (hm3:("drayman/errs.messages",Rows.laid_drayman_errs_messages)∈l):YN G2 (G9 W):=fun g cs hc=>by
 unfold G2 at hc
 split at hc
 ·rename_i hg
  subst hg
  cases hc
  exact jZ (t:=204) h hp hm1 (by kernel_rfl) (by kernel_rfl) (m:=4) (vs:=phr.map fun l=>Value.string ⟨l.toArray⟩) (by kernel_rfl) (by kernel_rfl) (by kernel_rfl)
 ·split at hc
  ·rename_i hg
   subst hg
   cases hc
   exact jZ (t:=203) h hp hm2 (by kernel_rfl) (by kernel_rfl) (m:=4) (by kernel_rfl) (by kernel_rfl) (by kernel_rfl)
  ·split at hc
   ·rename_i hg
    subst hg
    cases hc
    exact jZ (t:=244) h hp hm3 (by kernel_rfl) (by kernel_rfl) (m:=4) (vs:=zqA.map fun l=>Value.string ⟨l.toArray⟩) (by kernel_rfl) (by kernel_rfl) (by kernel_rfl)
   ·cases hc
theorem zqq {W:World} {l:List (String×DataW Unit)} (h:laidMetH Tryz.prog l W) (hp:(l.filter fun x=>x.2.handleName?.isSome) = []) (hm:("drayman/op.has",Rows.laid_drayman_op_has)∈l) (hm1:("drayman/diag.phrases",Rows.laid_drayman_diag_phrases)∈l) (hm2:("drayman/args.kinds",Rows.laid_drayman_args_kinds)∈l) (hm3:("drayman/errs.messages",Rows.laid_drayman_errs_messages)∈l):YN GD (G9 W):=fun g cs hc=>by
 unfold GD at hc
 split at hc
 ·exact zpj h hp hm g cs hc
 ·exact zqx h hp hm1 hm2 hm3 g cs hc
end
section
structure zpb (x:zn):Prop where
 par:x.kind≠2->x.parent=0
 bare:x.kind=2->x.data = []
 nam:∀ e∈x.es,may e.name=true
 lnk:x.kind=3->1<=x.data.length/\x.data.length<=4095/\∀ b∈x.data,b≠0
 named:x.ino≠1->1<=x.links
 one:x.kind=2->x.ino≠1->x.links=1
 top:x.ino=1->x.parent=1
def zp8 (rk:Int->Nat) (xs:List zn):Prop:=∀ y∈xs,∀ e∈y.es,(zf e.ino xs).kind=2->(zf e.ino xs).parent=y.ino/\rk y.ino<rk e.ino
structure FsR (f:FsV):Prop where
 node:∀ x∈f.xs,zpb x
 edge:∃ rk,zp8 rk f.xs
 fit:(f.xs.length:Int)<=f.maxI/\(zQ f.xs:Int)<=f.maxB
 lim:1<=f.maxI/\f.maxI<=1073741824/\0<=f.maxB/\f.maxB<=1073741824
theorem zcz {xs:List zn} (h:zZ xs) {x y:zn} (hx:x∈xs) (hy:y∈xs) (e:x.ino=y.ino):x=y:=by
 obtain ⟨i,hi,rfl⟩:=List.getElem_of_mem hx
 obtain ⟨j,hj,rfl⟩:=List.getElem_of_mem hy
 have hp:=List.pairwise_iff_getElem.1 h
 rcases Nat.lt_trichotomy i j with q | q | q
 ·have:=hp i j hi hj q;omega
 ·subst q;rfl
 ·have:=hp j i hj hi q;omega
theorem xO {xs:List zn} (h:zZ xs):(xs.map (·.ino)).Nodup:=by
 rw[List.Nodup,List.pairwise_map]
 exact List.Pairwise.imp (fun q e=>by omega) h
theorem Zo {xs:List zn} {n p:Int}:(n,p)∈zM xs↔∃ y∈xs,∃ e∈y.es,e.ino=n/\y.ino=p:=by
 unfold zM
 rw[List.mem_flatMap]
 refine exists_congr fun y=>and_congr_right fun hy=>?_
 unfold Zu
 rw[List.mem_map]
 refine exists_congr fun e=>and_congr_right fun he=>?_
 rw[Prod.mk.injEq]
theorem zdn {n p:Int} {l:List (Int×Int)} (h1:1<=X6 n l) (h:∀ q,(n,q)∈l->q=p):Z0 n l=p:=by
 unfold X6 at h1
 unfold Z0
 cases hq:(l.filter fun p=>p.1==n).getLast? with
 | none=>rw[List.getLast?_eq_none_iff]at hq;rw[hq]at h1;simp at h1
 | some r =>
  obtain ⟨h2,h3⟩:=List.mem_filter.1 (List.mem_of_getLast? hq)
  have h3:r.1=n:=by simpa using h3
  show r.2=p
  exact h r.2 (by rw[←h3];exact h2)
theorem zgZ {es:List zH}:∀ S:List Int,∃ t,Uy S es=S++t:=by
 induction es with
 | nil=>exact fun S=>⟨[],by simp[Uy]⟩
 | cons e r ih =>
  intro S
  obtain ⟨t,h⟩:=ih (JL S e.ino)
  show ∃ t,Uy (JL S e.ino) r=S++t
  rw[h]
  unfold JL
  split
  ·exact ⟨t,rfl⟩
  ·exact ⟨e.ino :: t,by simp⟩
theorem VF {xs:List zn} (h3:∀ x∈xs,∀ e∈x.es,zw e.ino xs=true):∀ (m i:Nat) (S:List Int),JP xs S->(∀ j<i,∀ n,S[j]?=some n->∀ e∈(zf n xs).es,e.ino∈S)->xs.length+1<=m+i ->
  (∀ n∈S,n∈X4 xs m i S)/\∀ n∈X4 xs m i S,∀ e∈(zf n xs).es,e.ino∈X4 xs m i S
 | 0,i,S,hS,hc,hm=>by
  have hl:=Qk hS.nodup hS.has
  show (∀ n∈S,n∈S)/\∀ n∈S,∀ e∈(zf n xs).es,e.ino∈S
  refine ⟨fun n h=>h,fun n hn e he=>?_⟩
  obtain ⟨j,hj,rfl⟩:=List.getElem_of_mem hn
  exact hc j (by omega) _ (List.getElem?_eq_getElem hj) e he
 | m+1,i,S,hS,hc,hm=>by
  unfold X4
  cases hg:S[i]? with
  | none =>
   have hi:=List.getElem?_eq_none_iff.1 hg
   show (∀ n∈S,n∈S)/\∀ n∈S,∀ e∈(zf n xs).es,e.ino∈S
   refine ⟨fun n h=>h,fun n hn e he=>?_⟩
   obtain ⟨j,hj,rfl⟩:=List.getElem_of_mem hn
   exact hc j (by omega) _ (List.getElem?_eq_getElem hj) e he
  | some n =>
   have hn:=hS.has n (List.mem_of_getElem? hg)
   have hi:=(List.getElem?_eq_some_iff.1 hg).1
   have hg':=zq hn
   obtain ⟨t,ht⟩:=zgZ (es:=(zf n xs).es) S
   have hsub:∀ k∈S,k∈Uy S (zf n xs).es:=fun k hk=>HF.2 (.inl hk)
   obtain ⟨r1,r2⟩:=VF h3 m (i+1) (Uy S (zf n xs).es) (NF hS fun e he=>h3 _ hg'.2.1 e he) (fun j hj k hk e he=>by
    rcases Nat.lt_or_ge j i with hji | hji
    ·have:S[j]?=some k:=by rw[ht,List.getElem?_append_left (by omega)]at hk;exact hk
     exact hsub _ (hc j hji k this e he)
    ·have:j=i:=by omega
     subst this
     rw[ht,List.getElem?_append_left hi,hg]at hk
     cases hk
     exact HF.2 (.inr ⟨e,he,rfl⟩)) (by omega)
   exact ⟨fun k hk=>r1 k (hsub k hk),r2⟩
theorem vk {n:Int} {l:List (Int×Int)} (h:1<=X6 n l):∃ p,(n,p)∈l:=by
 unfold X6 at h
 obtain ⟨r,hr⟩:=List.exists_mem_of_length_pos (l:=l.filter fun p=>p.1==n) (by omega)
 obtain ⟨h1,h2⟩:=List.mem_filter.1 hr
 have h2:r.1=n:=by simpa using h2
 exact ⟨r.2,by rw[←h2];exact h1⟩
theorem FsR.links {f:FsV} (hi:FsI f) {x:zn} (hx:x∈f.xs):x.links=(X6 x.ino (zM f.xs):Int):=by rw[Xd];exact hi.links x hx
theorem Hc {f:FsV} (hi:FsI f) {y:zn} (hy:y∈f.xs) {e:zH} (he:e∈y.es):y.kind=2:=by
 by_cases h:y.kind=2
 ·exact h
 ·rw[hi.file y hy h]at he;cases he
theorem Xe {f:FsV} (hi:FsI f) {x:zn} (hx:x∈f.xs):zf x.ino f.xs=x:=by
 have h:=JK hx
 have h2:=zq h
 exact zcz hi.rises h2.2.1 hx h2.2.2
theorem FsR.come {f:FsV} (hi:FsI f) (h:FsR f) {S:List Int} (h1:(1:Int)∈S) (hc:∀ n∈S,∀ e∈(zf n f.xs).es,e.ino∈S):∀ n,zw n f.xs=true->n∈S:=by
 obtain ⟨rk,hr⟩:=h.edge
 have dirs:∀ (k:Nat) (n:Int),rk n<=k->zw n f.xs=true->(zf n f.xs).kind=2->n∈S:=by
  intro k
  induction k with
  | zero =>
   intro n hk hn hd
   by_cases h0:n=1
   ·rw[h0];exact h1
   obtain ⟨g1,g2,g3⟩:=zq hn
   have hl:=(h.node _ g2).named (by rw[g3];exact h0)
   rw[FsR.links hi g2,g3]at hl
   obtain ⟨p,hp⟩:=vk (n:=n) (l:=zM f.xs) (by omega)
   obtain ⟨y,hy,e,he,q1,q2⟩:=Zo.1 hp
   have:=(hr y hy e he (by rw[q1];exact hd)).2
   rw[q1]at this;omega
  | succ k ih =>
   intro n hk hn hd
   by_cases h0:n=1
   ·rw[h0];exact h1
   obtain ⟨g1,g2,g3⟩:=zq hn
   have hl:=(h.node _ g2).named (by rw[g3];exact h0)
   rw[FsR.links hi g2,g3]at hl
   obtain ⟨p,hp⟩:=vk (n:=n) (l:=zM f.xs) (by omega)
   obtain ⟨y,hy,e,he,q1,q2⟩:=Zo.1 hp
   have hlt:=(hr y hy e he (by rw[q1];exact hd)).2
   rw[q1]at hlt
   have hs:=Xe hi hy
   have:=ih y.ino (by omega) (JK hy) (by rw[hs];exact Hc hi hy he)
   rw[←q1]
   exact hc y.ino this e (by rw[hs];exact he)
 intro n hn
 by_cases h0:n=1
 ·rw[h0];exact h1
 obtain ⟨g1,g2,g3⟩:=zq hn
 have hl:=(h.node _ g2).named (by rw[g3];exact h0)
 rw[FsR.links hi g2,g3]at hl
 obtain ⟨p,hp⟩:=vk (n:=n) (l:=zM f.xs) (by omega)
 obtain ⟨y,hy,e,he,q1,q2⟩:=Zo.1 hp
 have hs:=Xe hi hy
 have:=dirs _ y.ino (Nat.le_refl _) (JK hy) (by rw[hs];exact Hc hi hy he)
 rw[←q1]
 exact hc y.ino this e (by rw[hs];exact he)
theorem yk {es:List zH} (hR:XQ es) (h1:∀ e∈es,may e.name=true) (h2:∀ e∈es,1<=e.ino):Ya es:=fun i h =>
 ⟨h1 _ (List.getElem_mem h),h2 _ (List.getElem_mem h),fun h0=>List.pairwise_iff_getElem.1 hR (i-1) i (by omega) h (by omega)⟩
theorem FsR.check {f:FsV} (hi:FsI f) (h:FsR f) (hn:f.next<=1099511627776):jR f=0:=by
 have h1:jQ f:=⟨h.lim.1,h.lim.2.1,h.lim.2.2.1,h.lim.2.2.2,hn,hi.ino,hi.rises,hi.root,hi.base⟩
 have h2:JX f:=fun x hx=>⟨hi.kind x hx,fun hk=>⟨hi.file x hx hk,(h.node x hx).par hk⟩,fun hk=>⟨(h.node x hx).bare hk,yk (hi.es x hx) (h.node x hx).nam fun e he=>by
  have:=hi.led x hx e he
  have g:=zq this
  have:=(hi.ino _ g.2.1).1
  rw[g.2.2]at this;exact this⟩,(h.node x hx).lnk⟩
 have h3:JI f:=hi.led
 obtain ⟨rk,hr⟩:=h.edge
 have h4:JZ f:=fun x hx=>by
  have hl:=FsR.links hi hx
  refine ⟨hl,?_⟩
  by_cases h0:x.ino=1
  ·rw[if_pos h0,h0]
   exact ⟨by rw[Xd];exact hi.bare,(h.node x hx).top h0⟩
  ·rw[if_neg h0]
   have hk:=(h.node x hx).named h0
   refine ⟨by omega,fun hd=>?_⟩
   have ho:=(h.node x hx).one hd h0
   refine ⟨by omega,(zdn (by omega) fun q hq=>?_).symm⟩
   obtain ⟨y,hy,e,he,q1,q2⟩:=Zo.1 hq
   have:=(hr y hy e he (by rw[q1,Xe hi hx];exact hd)).1
   rw[q1,Xe hi hx]at this
   rw[←q2,this]
 have h5:XO f:=by
  have hS:JP f.xs [1]:=⟨by simp,fun n hn=>by rw[List.mem_singleton.1 hn];exact hi.root⟩
  obtain ⟨r1,r2⟩:=VF hi.led (f.xs.length+1) 0 [1] hS (fun j hj=>absurd hj (Nat.not_lt_zero _)) (by omega)
  have hok:=(kL hi.led (f.xs.length+1) 0 [1] hS (fun n hn=>by rw[List.mem_singleton.1 hn];exact ⟨0,.root⟩)).1
  have hall:=h.come hi (r1 1 (by simp)) r2
  have q1:=Qk hok.nodup hok.has
  have q2:=Z7 (S:=f.xs.map (·.ino)) (xO hi.rises) fun n hn=>hall n (HX.2 hn)
  rw[List.length_map]at q2
  exact Nat.le_antisymm q1 q2
 unfold jR
 rw[if_pos h1,if_pos h2,if_pos h3,if_pos h4,if_pos h5,if_pos (show UJ f from h.fit)]
open Classical in
theorem zc6 {f:FsV} (h:okM f):FsR f:=by
 obtain ⟨h0,h1,h2,h3,h4,h5,h6⟩:=qi h
 have hi:=QJ h.2
 refine ⟨fun x hx=>?_,?_,h6,h1.1,h1.2.1,h1.2.2.1,h1.2.2.2.1⟩
 ·obtain ⟨a1,a2,a3,a4⟩:=h2 x hx
  obtain ⟨b1,b2⟩:=h4 x hx
  refine ⟨fun hk=>(a2 hk).2,fun hk=>(a3 hk).1,fun e he=>?_,a4,fun hn=>?_,fun hk hn=>?_,fun hn=>?_⟩
  ·obtain ⟨i,hi',rfl⟩:=List.getElem_of_mem he
   exact ((a3 (Hc hi hx he)).2 i hi').1
  ·rw[if_neg hn]at b2;rw[b1];omega
  ·rw[if_neg hn]at b2;rw[b1,(b2.2 hk).1];rfl
  ·rw[if_pos hn]at b2;exact b2.2
 ·refine ⟨fun n=>if hd:∃ k,Dep f.xs k n then hd.choose else 0,fun y hy e he hk=>?_⟩
  have hs:=Xe hi hy
  have hh:=hi.led y hy e he
  have g:=zq hh
  have hyk:=Hc hi hy he
  have hey:e∈(zf y.ino f.xs).es:=by rw[hs];exact he
  have hne:e.ino≠1:=ju h (JK hy) hey
  constructor
  ·have b:=(h4 _ g.2.1).2
   rw[g.2.2,if_neg hne]at b
   obtain ⟨c1,c2⟩:=b.2 hk
   rw[c2]
   exact zdn (by omega) fun q hq=>(xJ (Zo.2 ⟨y,hy,e,he,rfl,rfl⟩) hq c1).symm
  ·obtain ⟨k,hd⟩:=xE h (JK hy)
   have hd2:=Dep.step hd (JK hy) hey
   have e1:∃ k,Dep f.xs k y.ino:=⟨k,hd⟩
   have e2:∃ k,Dep f.xs k e.ino:=⟨k+1,hd2⟩
   show (if hd:∃ k,Dep f.xs k y.ino then hd.choose else 0)<if hd:∃ k,Dep f.xs k e.ino then hd.choose else 0
   rw[dif_pos e1,dif_pos e2,Zm h _ _ _ e1.choose_spec hd (JK hy) (by rw[hs];exact hyk),Zm h _ _ _ e2.choose_spec hd2 hh hk]
   exact Nat.lt_succ_self k
end
section
def bN (x:zn):Nat:=if x.kind=1 then x.data.length else 0
theorem Xa:∀ xs:List zn,zQ xs=vr bN xs
 | []=>rfl
 | x :: r=>by
  have ih:=Xa r
  unfold zQ vr at ih ⊢
  rw[List.map_cons,List.sum_cons,←ih,List.filter_cons]
  unfold bN
  by_cases h:x.kind=1<;>simp[h]
theorem zdV {xs:List zn} (hR:zZ xs) {x:zn} (hh:zw x.ino xs=true):zQ (jk x xs)+bN (zf x.ino xs)=zQ xs+bN x:=by
 have:=Z9 bN (x:=x) hR
 rw[(zq hh).1]at this
 rw[Xa,Xa];exact this
theorem Vz {xs:List zn} (hR:zZ xs) {x:zn} (hh:zw x.ino xs=false):zQ (jk x xs)=zQ xs+bN x:=by
 have:=Z9 bN (x:=x) hR
 rw[(Jv hh).1]at this
 rw[Xa,Xa];exact this
theorem zcF {xs:List zn} (hR:zZ xs) {n:Int} {F:List zH->List zH} (hh:zw n xs=true):zQ (YW n F xs)=zQ xs:=by
 have hg:=zq hh
 have:=zdV hR (x:=jT (zf n xs) (F (zf n xs).es)) (by show zw (zf n xs).ino xs=true;rw[hg.2.2];exact hh)
 have e:bN (zf (jT (zf n xs) (F (zf n xs).es)).ino xs)=bN (jT (zf n xs) (F (zf n xs).es)):=by
  show bN (zf (zf n xs).ino xs)=bN (zf n xs)
  rw[hg.2.2]
 rw[e]at this
 exact Nat.add_right_cancel this
theorem zlt {x:zn} {xs:List zn} (hR:zZ xs) (hh:zw x.ino xs=false):(jk x xs).length=xs.length+1:=by rw[←MY hR hh];simp;have:=zbH x.ino xs;omega
theorem zpb.turn {x:zn} (h:zpb x) {es:List zH} (he:∀ e∈es,may e.name=true):zpb (jT x es):=⟨h.par,h.bare,he,h.lnk,h.named,h.one,h.top⟩
theorem Hy {xs:List zn} {n m:Int} {F:List zH->List zH} (hh:zw n xs=true):(zf m (YW n F xs)).kind=(zf m xs).kind/\(zf m (YW n F xs)).parent=(zf m xs).parent/\(zf m (YW n F xs)).links=(zf m xs).links:=by
 rw[zez hh]
 split
 ·subst_vars;exact ⟨rfl,rfl,rfl⟩
 ·exact ⟨rfl,rfl,rfl⟩
theorem zmC {f:FsV} (hi:FsI f) (h:FsR f) {s:zT} (hs:ZU f s) (hm:may s.name=true) {k:Int} {t:List UInt8} (hk:k=1∨k=2∨k=3) (hr:jU f 1 (if k=1 then (t.length:Int) else 0)=true) (h2:k=2->t = [])
  (h3:k=3->1<=t.length/\t.length<=4095/\∀ b∈t,b≠0):FsR (Uj f s k t):=by
 obtain ⟨n1,n2⟩:=HD hi
 have hd:=zq hs.has
 have hlt:=xr hi
 have hdn:s.dir≠f.next:=fun e=>by have:=hs.has;rw[e,n1]at this;cases this
 have hR1:zZ (YW s.dir (zY s.name f.next) f.xs):=QM hi.rises
 have hn1:zw f.next (YW s.dir (zY s.name f.next) f.xs)=false:=by rw[Q4 hs.has];exact n1
 obtain ⟨rk,hrk⟩:=h.edge
 have hmem:∀ {z:zn},z∈(Uj f s k t).xs->z=⟨f.next,k,1,t,if k=2 then s.dir else 0,[]⟩∨z=jT (zf s.dir f.xs) (zY s.name f.next (zf s.dir f.xs).es)∨(z∈f.xs/\z.ino≠s.dir):=fun {z} hz=>by
  rcases Jk.1 hz with rfl | ⟨hz,_⟩
  ·exact .inl rfl
  ·exact .inr ((Y4 hs.has).1 hz)
 have hgot:∀ m,m≠f.next->(zf m (Uj f s k t).xs).kind=(zf m f.xs).kind/\(zf m (Uj f s k t).xs).parent=(zf m f.xs).parent:=fun m hm=>by
  have e:zf m (Uj f s k t).xs=zf m (YW s.dir (zY s.name f.next) f.xs):=by
   show zf m (jk _ _)=_
   rw[QC,if_neg (fun e:f.next=m=>hm e.symm)]
  rw[e]
  exact ⟨(Hy hs.has).1,(Hy hs.has).2.1⟩
 have hgn:zf f.next (Uj f s k t).xs=⟨f.next,k,1,t,if k=2 then s.dir else 0,[]⟩:=by
  show zf _ (jk _ _)=_
  rw[QC,if_pos rfl]
 refine ⟨fun z hz=>?_,⟨fun n=>if n=f.next then rk s.dir+1 else rk n,fun y hy e he hke=>?_⟩,?_,h.lim⟩
 ·rcases hmem hz with rfl | rfl | ⟨hz,_⟩
  ·exact ⟨fun q=>if_neg q,h2,fun e he=>(by cases he),h3,fun _=>Int.le_refl 1,fun _ _=>rfl,fun q=>by have q:f.next=1:=q;omega⟩
  ·exact (h.node _ hd.2.1).turn fun e he=>by
    rcases Z3 he with rfl | he
    ·exact hm
    ·exact (h.node _ hd.2.1).nam e he
  ·exact h.node z hz
 ·have old:∀ y0∈f.xs,e∈y0.es->(zf e.ino (Uj f s k t).xs).parent=y0.ino/\(if y0.ino=f.next then rk s.dir+1 else rk y0.ino)<(if e.ino=f.next then rk s.dir+1 else rk e.ino):=fun y0 hy0 he0=>by
   have hne:=n2 y0 hy0 e he0
   obtain ⟨g1,g2⟩:=hgot e.ino hne
   rw[g1]at hke
   have:=hrk y0 hy0 e he0 hke
   rw[g2,if_neg hne,if_neg (fun q=>by have:=(hi.ino y0 hy0).2;omega)]
   exact this
  rcases hmem hy with rfl | rfl | ⟨hy,_⟩
  ·cases he
  ·rcases Z3 he with rfl | he
   ·rw[hgn]at hke ⊢
    have hke:k=2:=hke
    show (if k=2 then s.dir else 0)=(zf s.dir f.xs).ino/\_
    rw[if_pos hke,hd.2.2]
    refine ⟨rfl,?_⟩
    show (if s.dir=f.next then _ else rk s.dir)<if f.next=f.next then _ else _
    rw[if_neg hdn,if_pos rfl]
    exact Nat.lt_succ_self _
   ·exact old (zf s.dir f.xs) hd.2.1 he
  ·exact old y hy he
 ·unfold jU at hr
  simp only[Bool.and_eq_true,decide_eq_true_eq]at hr
  have hl:(Uj f s k t).xs.length=f.xs.length+1:=by
   show (jk _ _).length=_
   rw[zlt hR1 hn1,HT hi.rises hs.has]
  have hb:zQ (Uj f s k t).xs=zQ f.xs+bN ⟨f.next,k,1,t,if k=2 then s.dir else 0,[]⟩:=by
   show zQ (jk _ _)=_
   rw[Vz hR1 hn1,zcF hi.rises hs.has]
  rw[hl,hb]
  show ((f.xs.length+1:Nat):Int)<=f.maxI/\((zQ f.xs+(if k=1 then t.length else 0):Nat):Int)<=f.maxB
  split at hr<;>(rename_i hq;simp only[hq,if_true,if_false];omega)
end
section
inductive Bel (xs:List zn) (x:Int):Int->Prop
 | refl:Bel xs x x
 | step {y n:Int}:Bel xs x y->zw y xs=true->(∃ e∈(zf y xs).es,e.ino=n)->Bel xs x n
end
section
inductive zgf (xs:List zn):List (List UInt8)->Int->Prop
 | root:zgf xs [] 1
 | step {ns:List (List UInt8)} {y n:Int} {m:List UInt8}:zgf xs ns y->zw y xs=true->(zf y xs).kind=2->jM zH.name m (zf y xs).es=some ⟨m,n⟩->zgf xs (ns++[m]) n
end
section
structure zhk (w:zS):Prop where
 fs:FsR w.fs
 pool:∀ x∈w.pool,qe w x
 slots:∀ k∈w.kept,1<=k.slot
 kept:∀ k∈w.kept,YL w k
theorem zqi {w:zS} (h:okW w):zhk w:=⟨zc6 (okV.m ⟨h.1.2.1,h.2.1⟩),h.2.2.2.1,h.2.2.2.2.1.2,h.2.2.2.2.2⟩
theorem zqY {w:zS} (h:zhk w) {g:FsV} (hg:FsR g) (hn:w.fs.next<=g.next) (hp:∀ x∈w.pool,zw x.ino g.xs=false) (hk:∀ m,zw m w.fs.xs=true->zw m g.xs=true/\(zf m g.xs).kind=(zf m w.fs.xs).kind):zhk { w with fs:=g }:=by
 refine ⟨hg,fun x hx=>?_,h.slots,fun k hkk=>?_⟩
 ·obtain ⟨q1,q2,q3,q4⟩:=h.pool x hx
  exact ⟨hp x hx,q2,by show x.ino<g.next;omega,q4⟩
 ·obtain ⟨q1,q2,q3,q4⟩:=h.kept k hkk
  refine ⟨q1,q2.imp (fun q=>(hk _ q).1) id,fun hc=>?_,q4⟩
  have:=q3 hc
  show (if zw k.ino w.pool=true then zf k.ino w.pool else zf k.ino g.xs).kind=1
  by_cases hq:zw k.ino w.pool=true
  ·rw[if_pos hq]at this ⊢;exact this
  ·rw[if_neg hq]at this ⊢
   rw[(hk _ (q2.resolve_right hq)).2];exact this
theorem zoI {w:zS} (hi:UQ w) (h:zhk w) {p:List UInt8} (hp:zJ p=true) {k:Int} (hk:k=1∨k=2∨k=3) {t:List UInt8} (h2:k=2->t = []) (h3:k=3->1<=t.length/\t.length<=4095/\∀ b∈t,b≠0):zhk (zP w p k t).1:=by
 unfold zP
 by_cases hz:(isV w.fs p false).2.2≠0
 ·rw[if_pos hz];exact h
 rw[if_neg hz]
 have hs:=VT hi.fs hp (Classical.not_not.1 hz)
 obtain ⟨n1,n2⟩:=HD hi.fs
 show zhk { w with fs:=(Yr w.fs (isV w.fs p false).1 k t).1 }
 unfold Yr
 by_cases hm:may (isV w.fs p false).1.name=true
 case neg=>rw[if_neg hm];exact h
 rw[if_pos hm]
 by_cases hr:jU w.fs 1 (if k=1 then (t.length:Int) else 0)=true
 case neg=>rw[if_neg hr];exact h
 rw[if_pos hr]
 have hhas:∀ m,zw m (Uj w.fs (isV w.fs p false).1 k t).xs=(decide (w.fs.next=m)||zw m w.fs.xs):=fun m=>by
  show zw m (jk _ _)=_
  rw[QG,Q4 hs.has]
 refine zqY h (zmC hi.fs h.fs hs hm hk hr h2 h3) (by show w.fs.next<=w.fs.next+1;omega) (fun x hx=>?_) (fun m hh=>⟨by rw[hhas,hh,Bool.or_true],?_⟩)
 ·rw[hhas,(hi.apart x hx).1,Bool.or_false]
  exact decide_eq_false (by have:=(hi.apart x hx).2;omega)
 ·have hne:w.fs.next≠m:=fun e=>by rw[←e,n1]at hh;cases hh
  show (zf m (jk _ _)).kind=_
  rw[QC,if_neg hne]
  exact (Hy hs.has).1
end
section
theorem zfx (w:zS) (p:List UInt8) (k:Int) (t:List UInt8):(zP w p k t).1.fs.next<=w.fs.next+1:=by
 unfold zP
 split
 ·show w.fs.next<=_;omega
 ·show (Yr w.fs (isV w.fs p false).1 k t).1.next<=_
  rcases Xx w.fs (isV w.fs p false).1 k t with e | e
  ·rw[e];omega
  ·rw[e];exact Int.le_refl _
end
section
inductive zfZ (w:zS):List OpV->zS->Prop
 | nil:zfZ w [] w
 | snoc {l:List OpV} {v:zS} {o:OpV}:zfZ w l v->(doV v o).2=0->zfZ w (l++[o]) (doV v o).1
structure zqV (w:zS) (d:zr):Prop where
 run:zfZ w d.ops d.w
 may:∀ o∈d.ops,kD o=true/\o.kind<=7
 rise:(jD d.ops).Pairwise (· < ·)
 over:∀ s∈jD d.ops,jv w.kept<s/\s<=d.slot
 last:jv w.kept<=d.slot
 stat:(d.status=1)↔d.diags≠[]
 right:zhk d.w
end
section
theorem zeG {f:FsV} (hi:FsI f) {ns:List (List UInt8)} {y:Int} (h:zgf f.xs ns y):∃ d nm,∀ r,atW f.xs (ns++r) ⟨0,[],1⟩=atW f.xs r ⟨d,nm,y⟩:=by
 induction h with
 | root=>exact ⟨0,[],fun r=>rfl⟩
 | step h1 h2 h3 h4 ih =>
  rename_i ns y n m
  obtain ⟨d,nm,ih⟩:=ih
  refine ⟨y,m,fun r=>?_⟩
  rw[List.append_assoc,ih]
  show atW f.xs (m :: r) ⟨d,nm,y⟩=_
  have hne:y≠0:=QA hi h2
  have e1:(zf y f.xs).ino=y:=(zq h2).2.2
  have e2:zF m (zf y f.xs).es=n:=by unfold zF;rw[h4]
  rw[atW,if_neg hne,if_neg (fun q=>q h3),e1,e2]
theorem GM {f:FsV} (h:okM f):∀ (m:Nat) (n:Int) (ns:List (List UInt8)),zgf f.xs ns n->∀ p∈qv f.xs m n ns,zgf f.xs p.1 p.2.ino
 | 0,n,ns,hl,p,hp=>by unfold qv at hp;cases hp
 | m+1,n,ns,hl,p,hp=>by
  unfold qv at hp
  split at hp
  ·rename_i hh
   rcases List.mem_cons.1 hp with rfl | hp
   ·show zgf f.xs ns (zf n f.xs).ino
    rw[(zq hh).2.2];exact hl
   ·obtain ⟨e,he,hp⟩:=List.mem_flatMap.1 hp
    have hi:=QJ h.2
    refine GM h m e.ino _ (.step hl hh (VO h hh he) ?_) p hp
    have hR:=hi.es _ (zq hh).2.1
    have hx:QV e.name (zf n f.xs).es=true:=by
     unfold QV Qa
     rw[List.any_eq_true]
     exact ⟨e,he,by simp⟩
    have h2:=Vj hx
    have h3:=Yf h2
    have:(⟨e.name,zF e.name (zf n f.xs).es⟩:zH)=e:=by
     obtain ⟨i,hi',ei⟩:=List.getElem_of_mem h3.2
     obtain ⟨j,hj',ej⟩:=List.getElem_of_mem he
     have hp:=List.pairwise_iff_getElem.1 hR
     rcases Nat.lt_trichotomy i j with q | q | q
     ·have:=hp i j hi' hj' q
      rw[ei,ej]at this
      exact absurd this (by show ¬Op.bytesLess e.name e.name=true;rw[Xb];simp)
     ·subst q;rw[←ei,ej]
     ·have:=hp j i hj' hi' q
      rw[ei,ej]at this
      exact absurd this (by show ¬Op.bytesLess e.name e.name=true;rw[Xb];simp)
    rw[h2]
    have e2:zF e.name (zf n f.xs).es=e.ino:=congrArg zH.ino this
    rw[e2]
  ·cases hp
theorem ziN {f:FsV} (h:okM f) {n:Int} (hh:zw n f.xs=true) (hk:(zf n f.xs).kind=2):∃ ns,(∀ z∈ns,may z=true)/\VV n (trV f.xs 1 [])=some (z8 ns)/\zgf f.xs ns n:=by
 obtain ⟨h0,h1,_⟩:=qi h
 have hkk:∀ p∈trV f.xs 1 [],p.2.ino=n->p.2.kind=2:=fun p hp hpn=>by
  obtain ⟨_,q⟩:=V5 hp
  rw[hpn]at q;rw[←q];exact hk
 obtain ⟨p,hp⟩:=Z6 (Ye h _ 1 [] h1.2.2.2.2.2.2.2.1) hkk (zbL h hh)
 obtain ⟨q,q1,q2⟩:=NA h hh hk
 have hq:XZ n (trV f.xs 1 []) = [z8 p.1]:=by unfold XZ;rw[hp];rfl
 rw[hq]at q1
 have hqe:z8 p.1=q:=by simpa using q1
 have hpf:p∈(trV f.xs 1 []).filter (fun p=>decide (p.2.ino=n)):=by rw[hp];exact List.mem_singleton.2 rfl
 obtain ⟨hpm,hpn⟩:=List.mem_filter.1 hpf
 obtain ⟨zs,z1,z2⟩:=kX (VN h).1 _ 1 [] p hpm
 rw[List.nil_append]at z1
 rw[←z1]at z2
 have hl:=GM h _ 1 [] .root p hpm
 have hpn:p.2.ino=n:=by simpa using hpn
 rw[hpn]at hl
 exact ⟨p.1,z2,by rw[q2,hqe],hl⟩
theorem zl8 {f:FsV} (hi:FsI f) {ns:List (List UInt8)} {n:Int} (hl:zgf f.xs ns n) (hh:zw n f.xs=true) (hk:(zf n f.xs).kind=2) (hn:∀ z∈ns,may z=true) {m:List UInt8} (hm:may m=true):zJ (z8 (ns++[m]))=true/\atV f (z8 (ns++[m]))=(⟨n,m,zF m (zf n f.xs).es⟩,0):=by
 have hall:∀ z∈ns++[m],may z=true:=fun z hz=>by
  rcases List.mem_append.1 hz with hz | hz
  ·exact hn z hz
  ·rw[List.mem_singleton.1 hz];exact hm
 have hnm:=YF (ns++[m]) fun z hz=>Z8 (hall z hz)
 have hp:jN (z8 (ns++[m]))=true:=by
  unfold jN
  rw[hnm,decide_eq_true rfl,Bool.true_and,List.all_eq_true]
  exact hall
 refine ⟨by unfold zJ;rw[hp,hnm];simp,?_⟩
 unfold atV
 rw[if_pos hp,hnm]
 obtain ⟨d,nm,hw⟩:=zeG hi hl
 rw[hw]
 have hne:n≠0:=QA hi hh
 rw[atW,if_neg hne,if_neg (fun q=>q hk),(zq hh).2.2]
 rfl
theorem zb5 {f:FsV} (h:okM f) {s:zT} (hh:zw s.dir f.xs=true) (hk:(zf s.dir f.xs).kind=2) (hm:may s.name=true):zJ (jJ f s)=true/\atV f (jJ f s)=(⟨s.dir,s.name,zF s.name (zf s.dir f.xs).es⟩,0):=by
 obtain ⟨ns,n1,n2,n3⟩:=ziN h hh hk
 have e:jJ f s=z8 (ns++[s.name]):=by
  unfold jJ
  rw[n2,Option.getD_some,UU ns s.name fun y hy=>(Z8 (n1 y hy)).1]
 rw[e]
 exact zl8 (QJ h.2) n3 hh hk n1 hm
end
section
abbrev Xi:=List (List UInt8)
def onL (f:FsV) (follow:Bool) (lk:zn->zn->Xi->Bool->zT×Int):Xi->zT->Bool->zT×Int
 | [],s,dir=>if zw s.ino f.xs=true/\dir=true/\(zf s.ino f.xs).kind≠2 then (qy,3) else (s,0)
 | n :: r,s,dir =>
  if s.ino=0 then (qy,1)
  else if (zf s.ino f.xs).kind≠2 then (qy,3)
  else if n = [46] then onL f follow lk r ⟨0,[],(zf s.ino f.xs).ino⟩ dir
  else if n = [46,46] then onL f follow lk r ⟨0,[],(zf s.ino f.xs).parent⟩ dir
  else if QV n (zf s.ino f.xs).es=false∨(zf (zF n (zf s.ino f.xs).es) f.xs).kind≠3∨(r = []/\follow=false/\dir=false) then
   onL f follow lk r ⟨(zf s.ino f.xs).ino,n,zF n (zf s.ino f.xs).es⟩ dir
  else lk (zf (zF n (zf s.ino f.xs).es) f.xs) (zf s.ino f.xs) r dir
def jz (p:List UInt8):Bool:=!decide (zh p = [])&&Lib.hasSuffix p [47]
def Hm (p:List UInt8):Bool:=Lib.hasPrefix p [47]
def onN (f:FsV) (follow:Bool):Nat->Xi->zT->Bool->zT×Int
 | 0=>onL f follow fun _ _ _ _=>(qy,6)
 | k+1=>onL f follow fun x d r dir=>if QB x.data then (qy,7) else onN f follow k (zh x.data++r) ⟨0,[],if Hm x.data then 1 else d.ino⟩ (dir||(jz x.data&&decide (r = [])))
def XI (f:FsV) (b:List UInt8):Int×Int:=
 if (atV f b).2≠0 then (0,(atV f b).2) else if (atV f b).1.ino=0 then (0,1) else if (zf (atV f b).1.ino f.xs).kind≠2 then (0,3) else ((zf (atV f b).1.ino f.xs).ino,0)
def Jf (f:FsV) (p:List UInt8):zn×Int:=if (atV f p).2≠0 then (zaU,(atV f p).2) else if (atV f p).1.ino=0 then (zaU,1) else (zf (atV f p).1.ino f.xs,0)
def zV (f:FsV) (b p:List UInt8) (follow:Bool):zT×Int:=
 if p = [] then (qy,1) else if QB p then (qy,7)
 else if Hm p then onN f follow 40 (zh p) ⟨0,[],1⟩ (jz p)
 else if (XI f b).2≠0 then (qy,(XI f b).2) else onN f follow 40 (zh p) ⟨0,[],(XI f b).1⟩ (jz p)
def zlE (f:FsV) (s:zT):Prop:=s.name = []∨(zw s.dir f.xs=true/\(zf s.dir f.xs).kind=2/\s.ino=zF s.name (zf s.dir f.xs).es)
theorem Qo {xs:List zn} {n:Int} (h:(zf n xs).kind=2):zw n xs=true:=by
 cases hh:zw n xs with
 | true=>rfl
 | false=>rw[(Jv hh).2]at h;exact absurd h (by decide)
theorem VK {f:FsV} {P:zT->Prop} {Q:Int->Prop} (hp:∀ m,Q m->P ⟨0,[],m⟩) (hq:∀ m,(zf m f.xs).kind=2->Q m/\Q (zf m f.xs).parent) (hn:∀ m n,(zf m f.xs).kind=2->P ⟨m,n,zF n (zf m f.xs).es⟩)
  {follow:Bool} {lk:zn->zn->Xi->Bool->zT×Int} (hl:∀ x m r dir,(zf m f.xs).kind=2->(lk x (zf m f.xs) r dir).2=0->P (lk x (zf m f.xs) r dir).1):∀ (l:Xi) (s:zT) (dir:Bool),P s->(onL f follow lk l s dir).2=0->P (onL f follow lk l s dir).1
 | [],s,dir,hs,h=>by
  unfold onL at h ⊢
  split at h
  ·exact absurd h (show ¬(3:Int)=0 by decide)
  ·rename_i hn;rw[if_neg hn];exact hs
 | n :: r,s,dir,hs,h=>by
  unfold onL at h ⊢
  by_cases h1:s.ino=0
  ·rw[if_pos h1]at h;exact absurd h (show ¬(1:Int)=0 by decide)
  rw[if_neg h1]at h ⊢
  by_cases h2:(zf s.ino f.xs).kind=2
  case neg=>rw[if_pos h2]at h;exact absurd h (show ¬(3:Int)=0 by decide)
  rw[if_neg (fun q=>q h2)]at h ⊢
  have e:=(zq (Qo h2)).2.2
  by_cases h3:n = [46]
  ·rw[if_pos h3]at h ⊢;exact VK hp hq hn hl r _ dir (by rw[e];exact hp _ (hq _ h2).1) h
  rw[if_neg h3]at h ⊢
  by_cases h4:n = [46,46]
  ·rw[if_pos h4]at h ⊢;exact VK hp hq hn hl r _ dir (hp _ (hq _ h2).2) h
  rw[if_neg h4]at h ⊢
  split at h
  ·rename_i h5
   rw[if_pos h5]
   exact VK hp hq hn hl r _ dir (by rw[e];exact hn _ _ h2) h
  ·rename_i h5
   rw[if_neg h5]
   exact hl _ _ _ _ h2 h
theorem x0 {f:FsV} {P:zT->Prop} {Q:Int->Prop} (hp:∀ m,Q m->P ⟨0,[],m⟩) (h1:Q 1) (hq:∀ m,(zf m f.xs).kind=2->Q m/\Q (zf m f.xs).parent) (hn:∀ m n,(zf m f.xs).kind=2->P ⟨m,n,zF n (zf m f.xs).es⟩) {follow:Bool}:∀ (k:Nat) (l:Xi) (s:zT) (dir:Bool),P s->(onN f follow k l s dir).2=0->P (onN f follow k l s dir).1
 | 0,l,s,dir,hs,h=>VK hp hq hn (fun _ _ _ _ _ h=>absurd h (show ¬(6:Int)=0 by decide)) l s dir hs h
 | k+1,l,s,dir,hs,h=>VK hp hq hn (fun x m r dir h2 h=>by
   split at h
   ·exact absurd h (show ¬(7:Int)=0 by decide)
   ·rename_i hg
    rw[if_neg hg]
    refine x0 hp h1 hq hn k _ _ _ (hp _ ?_) h
    split
    ·exact h1
    ·rw[(zq (Qo h2)).2.2];exact (hq _ h2).1) l s dir hs h
theorem zgX {f:FsV} {P:zT->Prop} {Q:Int->Prop} (hp:∀ m,Q m->P ⟨0,[],m⟩) (h1:Q 1) (hq:∀ m,(zf m f.xs).kind=2->Q m/\Q (zf m f.xs).parent) (hn:∀ m n,(zf m f.xs).kind=2->P ⟨m,n,zF n (zf m f.xs).es⟩) {b p:List UInt8} {follow:Bool} (h:(zV f b p follow).2=0):P (zV f b p follow).1:=by
 unfold zV at h ⊢
 by_cases a:p = []
 ·rw[if_pos a]at h;exact absurd h (show ¬(1:Int)=0 by decide)
 rw[if_neg a]at h ⊢
 by_cases c:QB p=true
 ·rw[if_pos c]at h;exact absurd h (show ¬(7:Int)=0 by decide)
 rw[if_neg c]at h ⊢
 by_cases e:Hm p=true
 ·rw[if_pos e]at h ⊢
  exact x0 hp h1 hq hn _ _ _ _ (hp _ h1) h
 rw[if_neg e]at h ⊢
 by_cases g:(XI f b).2≠0
 ·rw[if_pos g]at h;exact absurd h g
 rw[if_neg g]at h ⊢
 refine x0 hp h1 hq hn _ _ _ _ (hp _ ?_) h
 have g:=Classical.not_not.1 g
 unfold XI at g ⊢
 by_cases i:(atV f b).2≠0
 ·rw[if_pos i]at g;exact absurd g i
 rw[if_neg i]at g ⊢
 by_cases j:(atV f b).1.ino=0
 ·rw[if_pos j]at g;exact absurd g (show ¬(1:Int)=0 by decide)
 rw[if_neg j]at g ⊢
 by_cases k:(zf (atV f b).1.ino f.xs).kind=2
 ·rw[if_neg (fun q=>q k)]
  show Q (zf _ f.xs).ino
  rw[(zq (Qo k)).2.2];exact (hq _ k).1
 ·rw[if_pos k]at g;exact absurd g (show ¬(3:Int)=0 by decide)
theorem NY {f:FsV} {b p:List UInt8} {follow:Bool} (h:(zV f b p follow).2=0):zlE f (zV f b p follow).1:=
 zgX (P:=zlE f) (Q:=fun _=>True) (fun _ _=>.inl rfl) trivial (fun _ _=>⟨trivial,trivial⟩) (fun m n h=>.inr ⟨Qo h,h,rfl⟩) h
def lkN (f:FsV) (follow:Bool):Nat->zn->zn->Xi->Bool->zT×Int
 | 0=>fun _ _ _ _=>(qy,6)
 | k+1=>fun x d r dir=>if QB x.data then (qy,7) else onN f follow k (zh x.data++r) ⟨0,[],if Hm x.data then 1 else d.ino⟩ (dir||(jz x.data&&decide (r = [])))
theorem kw (f:FsV) (follow:Bool) (k:Nat):onN f follow k=onL f follow (lkN f follow k):=by cases k<;>rfl
theorem XH (f:FsV) (follow:Bool) (k:Nat) (x d:zn) (r:Xi) (dir:Bool):lkN f follow (k+1) x d r dir=if QB x.data then (qy,7) else onN f follow k (zh x.data++r) ⟨0,[],if Hm x.data then 1 else d.ino⟩ (dir||(jz x.data&&decide (r = []))):=rfl
end
section
open Go.RowKit
section
variable {G:zk}
end
end
section
open Go.RowKit
theorem Xg {f:FsV} (hs:FsS f) {follow:Bool} {lk:zn->zn->Xi->Bool->zT×Int} (hl:∀ x d r dir,x.data.length<=10000->(∀ y∈r,y.length<=100000)->(lk x d r dir).1.name.length<=100000):∀ (l:Xi) (s:zT) (dir:Bool),(∀ y∈l,y.length<=100000)->s.name.length<=100000->(onL f follow lk l s dir).1.name.length<=100000
 | [],s,dir,hy,h=>by
  unfold onL
  split
  ·exact Nat.zero_le _
  ·exact h
 | n :: r,s,dir,hy,h=>by
  have hr:∀ y∈r,y.length<=100000:=fun y q=>hy y (List.mem_cons_of_mem _ q)
  unfold onL
  split
  ·exact Nat.zero_le _
  split
  ·exact Nat.zero_le _
  split
  ·exact Xg hs hl r _ dir hr (Nat.zero_le _)
  split
  ·exact Xg hs hl r _ dir hr (Nat.zero_le _)
  split
  ·exact Xg hs hl r _ dir hr (hy n List.mem_cons_self)
  ·rename_i hq
   refine hl _ _ _ _ ?_ hr
   have hk3:(zf (zF n (zf s.ino f.xs).es) f.xs).kind=3:=Classical.not_not.1 fun q=>hq (.inr (.inl q))
   have hhx:zw (zF n (zf s.ino f.xs).es) f.xs=true:=by
    cases hq2:zw (zF n (zf s.ino f.xs).es) f.xs with
    | true=>rfl
    | false=>rw[(Jv hq2).2]at hk3;exact absurd hk3 (by decide)
   exact (hs.node _ (zq hhx).2.1).2.1
theorem Ue {f:FsV} (hs:FsS f) {follow:Bool}:∀ (k:Nat) (l:Xi) (s:zT) (dir:Bool),(∀ y∈l,y.length<=100000)->s.name.length<=100000->(onN f follow k l s dir).1.name.length<=100000
 | 0,l,s,dir,hy,h=>Xg hs (fun _ _ _ _ _ _=>Nat.zero_le _) l s dir hy h
 | k+1,l,s,dir,hy,h=>Xg hs (fun x d r dir hx hr=>by
   split
   ·exact Nat.zero_le _
   ·refine Ue hs k _ _ _ (fun y q=>?_) (Nat.zero_le _)
    rcases List.mem_append.1 q with q | q
    ·have:=(Qb x.data).2 y q;omega
    ·exact hr y q) l s dir hy h
theorem zbh {f:FsV} (hs:FsS f) (b p:List UInt8) (follow:Bool) (hp:p.length<=100000):(zV f b p follow).1.name.length<=100000:=by
 have hn:∀ y∈zh p,y.length<=100000:=fun y q=>by have:=(Qb p).2 y q;omega
 unfold zV
 split
 ·exact Nat.zero_le _
 split
 ·exact Nat.zero_le _
 split
 ·exact Ue hs _ _ _ _ hn (Nat.zero_le _)
 split
 ·exact Nat.zero_le _
 ·exact Ue hs _ _ _ _ hn (Nat.zero_le _)
def ZV (x:zn):Bool:=decide (x.kind=3)&&decide (300<(x.data.length:Int))
def QQ (f:FsV) (b p:List UInt8):Bool:=!((f.xs.take 100).any ZV)&&decide ((b.length:Int)<=1000)&&decide ((p.length:Int)<=5000)
theorem uL (f:FsV) (b p:List UInt8):Fun Tryz.prog G0 30 [.agg (fsC f),.str b,.str p] (qh (QQ f b p)) 0:=by
 have hll:(zD f.xs).length=f.xs.length:=List.length_map ..
 refine fon Tryz.func30 ?_;dsimp only[Tryz.f30]
 push_cast -dsimp
 refine loop (fun i:Nat=>⟨[(1,.str b),(2,.str p),(3,.ptr 0 0),(7,.sc (.int .i64 i))],[fsC f],0,0⟩) (fun i=>i<=100/\∀ t (h:t<f.xs.length),t<i->ZV f.xs[t]=false) (fun i=>100-i) 0 ⟨Nat.zero_le _,fun t h h'=>absurd h' (Nat.not_lt_zero _)⟩ ?_ ?_
 ·exact wk
 ·rintro i ⟨h1,h2⟩
  have hend:¬(i<f.xs.length/\i<100)->(f.xs.take 100).any ZV=false:=fun h=>by
   rw[List.any_eq_false]
   intro x hx
   obtain ⟨t,ht,rfl⟩:=List.getElem_of_mem hx
   rw[List.length_take]at ht
   rw[List.getElem_take,h2 t (by omega) (by omega)]
   decide
  have stop:¬(i<f.xs.length/\i<100)->(decide ((b.length:Int)<=1000)&&decide ((p.length:Int)<=5000))=QQ f b p:=fun h=>by
   unfold QQ;rw[hend h];rfl
  by_cases h:i<f.xs.length
  ·by_cases h100:i<100
   ·have g1:=qx f.xs i h
    have h100':(i:Int)<100:=by omega
    have hm:f.xs[i]∈f.xs.take 100:=by
     rw[List.mem_take_iff_getElem]
     exact ⟨i,by omega,rfl⟩
    have next:ZV f.xs[i]=false->∀ t (h:t<f.xs.length),t<i+1->ZV f.xs[t]=false:=fun q t ht hlt=>by
     rcases Nat.lt_or_ge t i with r | r
     ·exact h2 t ht r
     ·have:t=i:=by omega
      subst this;exact q
    by_cases hk:f.xs[i].kind=3
    ·by_cases hd:300<(f.xs[i].data.length:Int)
     ·have hn:QQ f b p=false:=by
       have:(f.xs.take 100).any ZV=true:=List.any_eq_true.2 ⟨_,hm,by unfold ZV;rw[decide_eq_true hk,decide_eq_true hd];rfl⟩
       unfold QQ;rw[this];rfl
      push_cast -dsimp [hll,h,h100',g1,hk,hd]
      repeat refine an ?_
      exact dn (by push_cast -dsimp [zb,za,CLe,ze,hn])
     ·have hq:ZV f.xs[i]=false:=by unfold ZV;rw[decide_eq_false hd,Bool.and_false]
      push_cast -dsimp [hll,h,h100',g1,hk,hd]
      repeat refine an ?_
      exact ⟨i+1,⟨by omega,next hq⟩,by omega,wk⟩
    ·have hq:ZV f.xs[i]=false:=by unfold ZV;rw[decide_eq_false hk,Bool.false_and]
     push_cast -dsimp [hll,h,h100',g1,hk]
     repeat refine an ?_
     exact ⟨i+1,⟨by omega,next hq⟩,by omega,wk⟩
   ·have h100':((i:Int)<100)=False:=eq_false (by omega)
    have:=(stop (by omega)).symm
    by_cases hb:(b.length:Int)<=1000
    ·rw[decide_eq_true hb,Bool.true_and]at this
     push_cast -dsimp [hll,h,h100',hb]
     exact dn (by push_cast -dsimp [zb,za,CLe,ze,this])
    ·rw[decide_eq_false hb,Bool.false_and]at this
     push_cast -dsimp [hll,h,h100',hb]
     exact dn (by push_cast -dsimp [zb,za,CLe,ze,this])
  ·have:=(stop (by omega)).symm
   by_cases hb:(b.length:Int)<=1000
   ·rw[decide_eq_true hb,Bool.true_and]at this
    push_cast -dsimp [hll,h,hb]
    exact dn (by push_cast -dsimp [zb,za,CLe,ze,this])
   ·rw[decide_eq_false hb,Bool.false_and]at this
    push_cast -dsimp [hll,h,hb]
    exact dn (by push_cast -dsimp [zb,za,CLe,ze,this])
end
section
theorem zkz {f:FsV} (hi:FsI f) (hr:FsR f) {n:Int} (hh:zw n f.xs=true) (hk:(zf n f.xs).kind=2):zw (zf n f.xs).parent f.xs=true:=by
 have g:=zq hh
 by_cases h1:n=1
 ·rw[(hr.node _ g.2.1).top (by rw[g.2.2];exact h1)];exact hi.root
 ·have hl:=(hr.node _ g.2.1).named (by rw[g.2.2];exact h1)
  rw[FsR.links hi g.2.1,g.2.2]at hl
  obtain ⟨p,hp⟩:=vk (n:=n) (l:=zM f.xs) (by omega)
  obtain ⟨y,hy,e,he,q1,q2⟩:=Zo.1 hp
  obtain ⟨rk,hed⟩:=hr.edge
  have:=(hed y hy e he (by rw[q1];exact hk)).1
  rw[q1]at this
  rw[this];exact JK hy
end
section
def zbc (xs:List zn):Prop:=∀ x∈xs,x.kind=3->x.data.length<=1000
theorem zlY {xs:List zn} (h:zbc xs) (n:Int):(zf n xs).kind=3->(zf n xs).data.length<=1000:=fun hk=>by
 cases hh:zw n xs with
 | true=>exact h _ (zq hh).2.1 hk
 | false=>rw[(Jv hh).2]at hk;exact absurd hk (by decide)
theorem zd6 {xs:List zn} {x:zn} (h:zbc xs) (hx:x.kind=3->x.data.length<=1000):zbc (jk x xs):=fun z hz hk=>by
 rcases zkE hz with rfl | hz
 ·exact hx hk
 ·exact h z hz hk
theorem VR (p:List UInt8):kC (zh p)<=p.length+1:=by
 unfold kC
 rw[j8]
 exact Nat.le_trans (Q0 _ _) (Nat.le_of_eq (MB p))
theorem GF (p:List UInt8):∀ x∈zh p,QO x:=fun x hx=>Uc hx
theorem yO:∀ ns:List (List UInt8),(∀ x∈ns,QO x)->2*ns.length<=kC ns
 | [],_=>Nat.zero_le _
 | x :: r,h=>by
  have ih:=yO r fun y hy=>h y (List.mem_cons_of_mem _ hy)
  have hx:x≠[]:=(h x List.mem_cons_self).1
  have:=List.length_pos_iff.2 hx
  unfold kC at ih ⊢
  rw[List.map_cons,List.sum_cons,List.length_cons]
  omega
theorem zdB {p:List UInt8} (h:p.length<=1000):(zh p).length<=500:=by
 have:=yO _ (GF p)
 have:=VR p
 omega
theorem zl0 {n:Int} {xs:List zn} (h:zw n xs=false):zf n xs=zaU:=by unfold zf;rw[(Jv h).1];rfl
end
section
theorem zjz {xs:List zn} (h:zbc xs) (n:Int) (F:List zH->List zH):zbc (YW n F xs):=zd6 h (zlY h n)
theorem zgA {w:zS} (h:zbc w.fs.xs) {p:List UInt8} {k:Int} {t:List UInt8} (ht:k=3->t.length<=1000):zbc (zP w p k t).1.fs.xs:=by
 unfold zP
 split
 ·exact h
 ·show zbc (Yr _ _ _ _).1.xs
  rcases Xx w.fs (isV w.fs p false).1 k t with e | e
  ·rw[e];exact h
  ·rw[e];exact zd6 (zjz h _ _) ht
structure GrD (N:Nat) (d:zr):Prop where
 b:znB N d
 r:zhk d.w
 next:d.w.fs.next<=549755813888+N
 dat:zbc d.w.fs.xs
theorem ua.mono {N M:Nat} {w:zS} (h:ua N w) (hN:N<=M):ua M w:=by
 have key:∀ x,vW N x->vW M x:=fun x hx=>⟨Nat.le_trans hx.1 hN,hx.2⟩
 exact ⟨Nat.le_trans h.len hN,fun x hx=>key x (h.node x hx),Nat.le_trans h.klen hN,h.kdata,Nat.le_trans h.plen hN,fun x hx=>key x (h.pnode x hx),by have:=h.next;omega,h.room⟩
theorem vG {f:FsV} (h:okM f) {s:zT} (hh:zw s.dir f.xs=true) (hk:(zf s.dir f.xs).kind=2) (hm:may s.name=true):(jJ f s).length<=990000:=by
 obtain ⟨ns,n1,n2,n3,n4,n5⟩:=zje h hh hk
 have hml:=HR hm
 have hjw:=Yl ns
 have hjl:(z8 ns).length<=980001:=by unfold z8;split<;>simp<;>omega
 have e:jJ f s=Un (z8 ns) s.name:=by unfold jJ;rw[n5];rfl
 have:=zfm (z8 ns) s.name
 rw[e];omega
theorem N6 {f:FsV} (hi:FsI f) {s:zT} (h:zlE f s) (h0:s.ino=0) (hm:may s.name=true):ZU f s:=by
 rcases h with h | ⟨h1,h2,h3⟩
 ·rw[h]at hm;exact absurd hm (by decide)
 ·refine ⟨h1,h2,?_⟩
  cases hq:QV s.name (zf s.dir f.xs).es with
  | false=>rfl
  | true=>exact absurd (h3.symm.trans h0) (QA hi (V6 hi h1 hq))
end
section
def YO (f:FsV) (b p:List UInt8):Bool:=decide ((zV f b p true).2=0)&&decide ((zf (zV f b p true).1.ino f.xs).kind=2)
end
section
def jL (p:List UInt8):OpV:=⟨1,0,p,[],[]⟩
theorem Vf {p:List UInt8} (h:zJ p=true):kD (jL p)=true:=by
 unfold kD jL
 have e1:jB 1=false:=rfl
 have e2:znz 1=false:=rfl
 simp only[h,e1,e2]
 rfl
theorem zmu (w:zS) {p:List UInt8} (h:zJ p=true):doV w (jL p)=zP w p 2 []:=by
 unfold doV
 rw[Vf h]
 rfl
theorem zjt (d:zr) {p:List UInt8} (h:zJ p=true):zjr d (jL p)=if (zP d.w p 2 []).2≠0 then (d,(zP d.w p 2 []).2) else (⟨(zP d.w p 2 []).1,d.ops++[jL p],d.diags,d.status,d.slot⟩,0):=by
 have e:xQ d (jL p)=jL p:=rfl
 unfold zjr
 rw[if_neg (show ¬7<(jL p).kind by show ¬(7:Int)<1;decide),e,zmu _ h]
 rfl
def mkF (b:List UInt8) (f:FsV) (p:List UInt8):FsV×Int:=
 if (zV f b p false).2≠0 then (f,(zV f b p false).2) else if (zV f b p false).1.ino≠0 then (f,2) else Yr f (zV f b p false).1 2 []
def jW (b:List UInt8) (d:zr) (p:List UInt8):zr×Int:=
 if (zV d.w.fs b p false).2≠0 then (d,(zV d.w.fs b p false).2) else if (zV d.w.fs b p false).1.ino≠0 then (d,2)
 else if may (zV d.w.fs b p false).1.name=false then (d,9) else zjr d (jL (jJ d.w.fs (zV d.w.fs b p false).1))
def X0 (b:List UInt8):List (List UInt8)->zr->zr×Int
 | [],d=>(d,0)
 | r :: l,d=>if YO d.w.fs b r then X0 b l d else if (jW b d r).2≠0 then (d,(jW b d r).2) else X0 b l (jW b d r).1
def zkm (p:List UInt8) (i:Nat):List UInt8:=put (Hm p) ((zh p).take (i+1)) false
def QK (p:List UInt8):List (List UInt8):=(List.range (zh p).length).map (zkm p)
def zfC (b:List UInt8) (d:zr) (p:List UInt8):zr×Int:=if p = [] then (d,1) else if QB p then (d,7) else X0 b (QK p) d
def Ju (b o:List UInt8) (d:zr) (p:List UInt8):zr×Int:=if (112:UInt8)∈o then zfC b d p else jW b d p
def ziX (b o:List UInt8) (d:zr) (p:List UInt8):zr:=if (Ju b o d p).2≠0 then Yq (Ju b o d p).1 (X3 1 1 p [] (Ju b o d p).2) else (Ju b o d p).1
def zbp (b o:List UInt8) (l:List (List UInt8)) (d:zr):zr:=l.foldl (ziX b o) d
structure MkG (w0:zS) (N K:Nat) (d:zr):Prop where
 wi:UQ d.w
 wr:zhk d.w
 wb:ua (40+N) d.w
 next:d.w.fs.next<=549755813888+N
 dat:zbc d.w.fs.xs
 ops:d.ops.length<=N
 all:∀ o∈d.ops,∃ a,o=jL a/\zJ a=true/\a.length<=990000
 diags:d.diags.length<=K
 slot:0<=d.slot/\d.slot<=1073741824
 kept:d.w.kept=w0.kept
 stat:(d.status=1)↔0<d.diags.length
theorem MkG.mono {w0:zS} {N K M L:Nat} {d:zr} (h:MkG w0 N K d) (hN:N<=M) (hK:K<=L):MkG w0 M L d:=
 ⟨h.wi,h.wr,h.wb.mono (by omega),by have:=h.next;omega,h.dat,Nat.le_trans h.ops hN,h.all,Nat.le_trans h.diags hK,h.slot,h.kept,h.stat⟩
theorem MkG.ok {w0:zS} {N K:Nat} {d:zr} (h:MkG w0 N K d) (hN:N<=3200):okM d.w.fs:=
 ⟨⟨by have:=h.wb.len;omega,fun x hx=>by obtain ⟨q1,q2,q3⟩:=h.wb.node x hx;exact ⟨q2,by omega,q3⟩⟩,h.wr.fs.check h.wi.fs (by have:=h.next;omega)⟩
theorem MkG.s {w0:zS} {N K:Nat} {d:zr} (h:MkG w0 N K d) (hN:N<=9000) (hK:K<=80000):zjo d:=
 ⟨h.wi,h.wb.s h.wi (by omega),by have:=h.ops;omega,by have:=h.diags;omega,h.slot.1,by have:=h.slot.2;omega⟩
theorem ziM {f:FsV} {s:zT} {k:Int} {t:List UInt8} (h:(Yr f s k t).2≠0):(Yr f s k t).1=f:=by
 unfold Yr at h ⊢
 by_cases a:may s.name=true
 ·rw[if_pos a]at h ⊢
  by_cases r:jU f 1 (if k=1 then (t.length:Int) else 0)=true
  ·rw[if_pos r]at h;exact absurd rfl h
  ·rw[if_neg r]
 ·rw[if_neg a]
theorem zi9 {w:zS} (hi:UQ w) (hok:okM w.fs) {s:zT} (hf:ZU w.fs s) (h0:s.ino=0) (hm:may s.name=true):zJ (jJ w.fs s)=true/\zP w (jJ w.fs s) 2 []=({ w with fs:=(Yr w.fs s 2 []).1 },(Yr w.fs s 2 []).2):=by
 obtain ⟨p1,p2⟩:=zb5 hok hf.has hf.kind hm
 have hn:zF s.name (zf s.dir w.fs.xs).es=0:=by
  have:=hf.free
  unfold QV at this
  rw[jh]at this
  unfold zF
  cases hq:jM zH.name s.name (zf s.dir w.fs.xs).es with
  | none=>rfl
  | some e=>rw[hq]at this;cases this
 have e:(⟨s.dir,s.name,zF s.name (zf s.dir w.fs.xs).es⟩:zT)=s:=by rw[hn,←h0]
 rw[e]at p2
 have hz:zw s.ino w.fs.xs=false:=by
  cases hq:zw s.ino w.fs.xs with
  | false=>rfl
  | true=>exact absurd h0 (QA hi.fs hq)
 have hv:(isV w.fs (jJ w.fs s) false).1=s/\(isV w.fs (jJ w.fs s) false).2.2=0:=by
  unfold isV
  simp only[p2,hz]
  simp
 refine ⟨p1,?_⟩
 unfold zP
 rw[if_neg (fun q=>q hv.2),hv.1]
theorem zgk {f:FsV} {b p:List UInt8} {fol:Bool} (h:zh p = []):(zV f b p fol).2≠0∨(zV f b p fol).1.name = []:=by
 have key:∀ (n:Int) (dir:Bool),(onN f fol 40 [] ⟨0,[],n⟩ dir).1.name = []:=fun n dir=>by
  rw[kw];unfold onL
  split<;>rfl
 unfold zV
 rw[h]
 split
 ·exact .inl (by decide)
 split
 ·exact .inl (by decide)
 split
 ·exact .inr (key _ _)
 split
 ·rename_i q;exact .inl q
 ·exact .inr (key _ _)
theorem MkG.made {w0:zS} {N K:Nat} {d:zr} (h:MkG w0 N K d) {p:List UInt8} (hp:zJ p=true) (hl:p.length<=990000) (hz:(zP d.w p 2 []).2=0):MkG w0 (N+1) K ⟨(zP d.w p 2 []).1,d.ops++[jL p],d.diags,d.status,d.slot⟩:=by
 refine ⟨zbZ h.wi hp (.inr (.inl rfl)) [],zoI h.wi h.wr hp (.inr (.inl rfl)) (fun _=>rfl) (fun q=>by cases q),zoX h.wi h.wb hp (Nat.zero_le _),?_,?_,?_,fun o ho=>?_,h.diags,h.slot,?_,h.stat⟩
 ·have:=zfx d.w p 2 []
  have:=h.next
  show (zP d.w p 2 []).1.fs.next<=_
  omega
 ·exact zgA h.dat fun q=>by cases q
 ·show (d.ops++[jL p]).length<=N+1
  rw[List.length_append,List.length_singleton]
  have:=h.ops
  omega
 ·rcases List.mem_append.1 ho with ho | ho
  ·exact h.all o ho
  ·exact ⟨p,List.mem_singleton.1 ho,hp,hl⟩
 ·show (zP d.w p 2 []).1.kept=w0.kept
  rw[←h.kept]
  unfold zP
  split<;>rfl
theorem MkG.tell {w0:zS} {N K:Nat} {d:zr} (h:MkG w0 N K d) (x:List UInt8):MkG w0 N (K+1) (Yq d x):=
 ⟨h.wi,h.wr,h.wb,h.next,h.dat,h.ops,h.all,by show (d.diags++[x]).length<=K+1;rw[List.length_append,List.length_singleton];have:=h.diags;omega,h.slot,h.kept,⟨fun _=>by show 0<(d.diags++[x]).length;simp,fun _=>rfl⟩⟩
theorem zbd {w0:zS} {N K:Nat} {d:zr} (h:MkG w0 N K d) (hN:N<=3200) (b p:List UInt8) :
  ((jW b d p).1=d/\(jW b d p).2≠0/\mkF b d.w.fs p=(d.w.fs,(jW b d p).2)) ∨
  ∃ q,zh p≠[]/\zJ q=true/\q.length<=990000/\(zP d.w q 2 []).2=0/\jW b d p=(⟨(zP d.w q 2 []).1,d.ops++[jL q],d.diags,d.status,d.slot⟩,0)/\mkF b d.w.fs p=((zP d.w q 2 []).1.fs,0):=by
 unfold jW mkF
 by_cases h1:(zV d.w.fs b p false).2≠0
 ·rw[if_pos h1,if_pos h1];exact .inl ⟨rfl,h1,rfl⟩
 rw[if_neg h1,if_neg h1]
 by_cases h2:(zV d.w.fs b p false).1.ino≠0
 ·rw[if_pos h2,if_pos h2];exact .inl ⟨rfl,show ¬(2:Int)=0 by decide,rfl⟩
 rw[if_neg h2,if_neg h2]
 have h1:=Classical.not_not.1 h1
 have h2:=Classical.not_not.1 h2
 cases hm:may (zV d.w.fs b p false).1.name with
 | false =>
  rw[if_pos rfl]
  exact .inl ⟨rfl,show ¬(9:Int)=0 by decide,by unfold Yr;rw[hm];rfl⟩
 | true =>
  rw[if_neg (by simp)]
  have hfr:=N6 h.wi.fs (NY h1) h2 hm
  have hok:=h.ok hN
  obtain ⟨m1,m2⟩:=zi9 h.wi hok hfr h2 hm
  rw[zjt d m1]
  by_cases hz:(zP d.w (jJ d.w.fs (zV d.w.fs b p false).1) 2 []).2≠0
  ·rw[if_pos hz]
   rw[m2]at hz
   refine .inl ⟨rfl,by rw[m2];exact hz,?_⟩
   rw[m2]
   exact Prod.ext (ziM hz) rfl
  ·rw[if_neg hz]
   have hz:=Classical.not_not.1 hz
   refine .inr ⟨_,fun q=>?_,m1,vG hok hfr.has hfr.kind hm,hz,rfl,?_⟩
   ·rcases zgk (f:=d.w.fs) (b:=b) (fol:=false) q with q | q
    ·exact q h1
    ·rw[q]at hm;exact absurd hm (by decide)
   ·rw[m2]at hz ⊢
    exact Prod.ext rfl hz
theorem HZ {P:zr->Prop} {w0:zS} (ha:∀ N K d p,MkG w0 N K d->N<=3200->zJ p=true->p.length<=990000->(zP d.w p 2 []).2=0->P d->P ⟨(zP d.w p 2 []).1,d.ops++[jL p],d.diags,d.status,d.slot⟩) {N K:Nat} {d:zr} (h:MkG w0 N K d) (hN:N<=3200) (hp:P d) (b p:List UInt8) :
  MkG w0 (N+if zh p = [] then 0 else 1) K (jW b d p).1/\P (jW b d p).1:=by
 rcases zbd h hN b p with ⟨e,_⟩ | ⟨q,q1,q2,q3,q4,e,_⟩
 ·rw[e];exact ⟨h.mono (Nat.le_add_right _ _) (Nat.le_refl _),hp⟩
 ·rw[e,if_neg q1];exact ⟨h.made q2 q3 q4,ha N K d q h hN q2 q3 q4 hp⟩
theorem kO {P:zr->Prop} {w0:zS} (ha:∀ N K d p,MkG w0 N K d->N<=3200->zJ p=true->p.length<=990000->(zP d.w p 2 []).2=0->P d->P ⟨(zP d.w p 2 []).1,d.ops++[jL p],d.diags,d.status,d.slot⟩) (b:List UInt8):∀ (l:List (List UInt8)) (N K:Nat) (d:zr),MkG w0 N K d->N+l.length<=3200->P d->MkG w0 (N+l.length) K (X0 b l d).1/\P (X0 b l d).1
 | [],N,K,d,h,hN,hp=>⟨h,hp⟩
 | r :: l,N,K,d,h,hN,hp=>by
  rw[List.length_cons]at hN ⊢
  unfold X0
  split
  ·obtain ⟨g1,g2⟩:=kO ha b l N K d h (by omega) hp
   exact ⟨g1.mono (by omega) (Nat.le_refl _),g2⟩
  split
  ·exact ⟨h.mono (by omega) (Nat.le_refl _),hp⟩
  ·obtain ⟨g1,g2⟩:=HZ ha h (by omega) hp b r
   obtain ⟨g3,g4⟩:=kO ha b l (N+1) K _ (g1.mono (by split<;>omega) (Nat.le_refl _)) (by omega) g2
   exact ⟨g3.mono (by omega) (Nat.le_refl _),g4⟩
theorem Jm (p:List UInt8):(QK p).length=(zh p).length:=by unfold QK;simp
theorem kH {P:zr->Prop} {w0:zS} (ha:∀ N K d p,MkG w0 N K d->N<=3200->zJ p=true->p.length<=990000->(zP d.w p 2 []).2=0->P d->P ⟨(zP d.w p 2 []).1,d.ops++[jL p],d.diags,d.status,d.slot⟩) (b o:List UInt8) {N K:Nat} {d:zr} {p:List UInt8} (h:MkG w0 N K d) (hN:N+(zh p).length<=3200) (hp:P d):MkG w0 (N+(zh p).length) K (Ju b o d p).1/\P (Ju b o d p).1:=by
 have stay:MkG w0 (N+(zh p).length) K d/\P d:=⟨h.mono (Nat.le_add_right _ _) (Nat.le_refl _),hp⟩
 unfold Ju zfC
 split
 ·split
  ·exact stay
  split
  ·exact stay
  ·have:=kO ha b (QK p) N K d h (by rw[Jm];exact hN) hp
   rw[Jm]at this
   exact this
 ·obtain ⟨g1,g2⟩:=HZ ha h (by omega) hp b p
  refine ⟨g1.mono ?_ (Nat.le_refl _),g2⟩
  split
  ·omega
  ·rename_i q;have:=List.length_pos_iff.2 q;omega
theorem zbD {P:zr->Prop} {w0:zS} (ha:∀ N K d p,MkG w0 N K d->N<=3200->zJ p=true->p.length<=990000->(zP d.w p 2 []).2=0->P d->P ⟨(zP d.w p 2 []).1,d.ops++[jL p],d.diags,d.status,d.slot⟩) (ht:∀ d x,P d->P (Yq d x)) (b o:List UInt8) {N K:Nat} {d:zr} {p:List UInt8} (h:MkG w0 N K d) (hN:N+(zh p).length<=3200) (hp:P d):MkG w0 (N+(zh p).length) (K+1) (ziX b o d p)/\P (ziX b o d p):=by
 obtain ⟨g1,g2⟩:=kH ha b o h hN hp
 unfold ziX
 split
 ·exact ⟨g1.tell _,ht _ _ g2⟩
 ·exact ⟨g1.mono (Nat.le_refl _) (by omega),g2⟩
def qc (l:List (List UInt8)):Nat:=(l.map fun p=>(zh p).length).sum
theorem x8 {P:zr->Prop} {w0:zS} (ha:∀ N K d p,MkG w0 N K d->N<=3200->zJ p=true->p.length<=990000->(zP d.w p 2 []).2=0->P d->P ⟨(zP d.w p 2 []).1,d.ops++[jL p],d.diags,d.status,d.slot⟩) (ht:∀ d x,P d->P (Yq d x)) (b o:List UInt8):∀ (l:List (List UInt8)) (N K:Nat) (d:zr),MkG w0 N K d->N+qc l<=3200->P d->MkG w0 (N+qc l) (K+l.length) (zbp b o l d)/\P (zbp b o l d)
 | [],N,K,d,h,hN,hp=>⟨h,hp⟩
 | p :: r,N,K,d,h,hN,hp=>by
  have e:qc (p :: r)=(zh p).length+qc r:=rfl
  rw[e]at hN ⊢
  obtain ⟨g1,g2⟩:=zbD (p:=p) ha ht b o h (by omega) hp
  have:=x8 ha ht b o r _ _ _ g1 (by omega) g2
  rw[List.length_cons,show N+((zh p).length+qc r)=N+(zh p).length+qc r by omega,show K+(r.length+1)=K+1+r.length by omega]
  exact this
theorem zoa {w:zS} (h:okW w) (hd:zbc w.fs.xs) (hn:w.fs.next<=549755813888) (hl:jv w.kept<=536870912):MkG w 0 0 (Gj w):=
 ⟨zpM h,zqi h,zcC h,by show w.fs.next<=_;omega,hd,Nat.le_refl _,fun o ho=>(by cases ho),Nat.le_refl _,⟨(Ul h.2.2.2.2.1).1,by show jv w.kept<=_;omega⟩,rfl,⟨fun h=>absurd h (show ¬(0:Int)=1 by decide),fun h=>absurd h (Nat.lt_irrefl 0)⟩⟩
theorem GQ:∀ {l:List (List UInt8)},(∀ x∈l,x.length<=1000)->qc l<=500*l.length
 | [],_=>Nat.zero_le _
 | p :: r,h=>by
  have ih:=GQ fun x hx=>h x (List.mem_cons_of_mem _ hx)
  have:=zdB (h p List.mem_cons_self)
  show (zh p).length+qc r<=_
  rw[List.length_cons]
  omega
end
section
def qQ (w:zS) (l:List OpV) (i:Nat):zS:=(l.take i).foldl (fun u o=>(doV u o).1) w
theorem Uk {w:zS} {l:List OpV} {i:Nat} (h:i<l.length):qQ w l (i+1)=(doV (qQ w l i) l[i]).1:=by
 unfold qQ
 rw[List.take_succ_eq_append_getElem h,List.foldl_append]
 rfl
theorem Zi {w:zS} {l k:List OpV} {i:Nat} (h:i<=l.length):qQ w (l++k) i=qQ w l i:=by
 unfold qQ
 rw[List.take_append_of_le_length h]
end
section
structure x6 (w:zS) (d:zr):Prop where
 fin:qQ w d.ops d.ops.length=d.w
 ok:∀ i (h:i<d.ops.length),(doV (qQ w d.ops i) d.ops[i]).2=0
 good:∀ i,i<=d.ops.length->UQ (qQ w d.ops i)/\zfH (qQ w d.ops i)
theorem x6.new {w:zS} (h:MkG w 0 0 (Gj w)):x6 w (Gj w):=⟨rfl,fun i h=>absurd h (Nat.not_lt_zero _),fun i hi=>by
 have e:qQ w (Gj w).ops i=w:=by show qQ w [] i=w;unfold qQ;rw[List.take_nil];rfl
 rw[e];exact ⟨h.wi,(h.s (by omega) (by omega)).ws⟩⟩
theorem x6.made {w:zS} {N K:Nat} {d:zr} {p:List UInt8} (hG:MkG w N K d) (hN:N<=3200) (hp:zJ p=true) (hz:(zP d.w p 2 []).2=0) (h:x6 w d):x6 w ⟨(zP d.w p 2 []).1,d.ops++[jL p],d.diags,d.status,d.slot⟩:=by
 have hwi:UQ (zP d.w p 2 []).1:=zbZ hG.wi hp (.inr (.inl rfl)) []
 have hss:zfH (zP d.w p 2 []).1:=(zoX hG.wi hG.wb hp (Nat.zero_le _)).s hwi (by omega)
 have e1:=zmu d.w hp
 rw[←e1]at hwi hss hz
 have h1:=hz
 have hlast:qQ w (d.ops++[jL p]) (d.ops.length+1)=(doV d.w (jL p)).1:=by
  rw[Uk (by rw[List.length_append,List.length_singleton];omega),Zi (Nat.le_refl _),h.fin,List.getElem_append_right (Nat.le_refl _)]
  simp only[Nat.sub_self,List.getElem_cons_zero]
 refine ⟨?_,fun i hi=>?_,fun i hi=>?_⟩
 ·show qQ w (d.ops++[jL p]) (d.ops++[jL p]).length=(zP d.w p 2 []).1
  rw[List.length_append,List.length_singleton,hlast,e1]
 ·have hi:i<(d.ops++[jL p]).length:=hi
  show (doV (qQ w (d.ops++[jL p]) i) (d.ops++[jL p])[i]).2=0
  rw[List.length_append,List.length_singleton]at hi
  rw[Zi (by omega)]
  rcases Nat.lt_or_ge i d.ops.length with q | q
  ·rw[List.getElem_append_left q];exact h.ok i q
  ·have:i=d.ops.length:=by omega
   subst this
   rw[h.fin,List.getElem_append_right (Nat.le_refl _)]
   simp only[Nat.sub_self,List.getElem_cons_zero]
   exact h1
 ·have hi:i<=(d.ops++[jL p]).length:=hi
  show UQ (qQ w (d.ops++[jL p]) i)/\zfH (qQ w (d.ops++[jL p]) i)
  rw[List.length_append,List.length_singleton]at hi
  rcases Nat.lt_or_ge d.ops.length i with q | q
  ·have:i=d.ops.length+1:=by omega
   subst this
   rw[hlast]
   exact ⟨hwi,hss⟩
  ·rw[Zi q];exact h.good i q
theorem zki {w:zS} {N K:Nat} {d:zr} (h:MkG w N K d):Y0 d.ops=true:=by
 have hs:jD d.ops = []:=by
  unfold jD
  rw[List.filter_eq_nil_iff.2 fun o ho=>by
   obtain ⟨a,rfl,_⟩:=h.all o ho
   exact Bool.false_ne_true]
  rfl
 unfold Y0
 rw[Bool.and_eq_true,Bool.not_eq_true',List.any_eq_false,yT]
 refine ⟨fun o ho=>?_,fun j hj=>?_⟩
 ·obtain ⟨a,rfl,ha,_⟩:=h.all o ho
  unfold Xk
  rw[Vf ha]
  show ¬(false||decide ((7:Int)<1))=true
  decide
 ·rw[hs]at hj;exact absurd hj (Nat.not_lt_zero _)
theorem zd7 {w:zS} {N K:Nat} {d:zr} (h:MkG w N K d):zi3 d.ops:=fun o ho=>by
 obtain ⟨a,rfl,_,ha⟩:=h.all o ho
 exact ⟨by show a.length<=_;omega,Nat.zero_le _,Nat.zero_le _⟩
end
section
open CA CB
open Go.RowKit
theorem zl5 (w:zS) (hw:UQ w) (hs:zfH w) (a:List UInt8) (ha:a.length<=1000000) (hp:zJ a=true):Fun Tryz.prog GD 111 [ZZ w,.agg (opL (jL a))] (.tup [ZZ (zP w a 2 []).1,.sc (.int .i64 (zP w a 2 []).2)]) 0:=by
 have ho:zbj (jL a):=⟨ha,Nat.zero_le _,Nat.zero_le _⟩
 have hop:=(zdU 1 0 a [] [] ho).gd1
 have hm:=Vf hp
 unfold jL at hm ho ⊢
 have hq:Fun Tryz.prog GD 186 _ _ 0:=(zcg w hw hs ⟨1,0,a,[],[]⟩ ho hp).g0
 rw[hm]at hop
 unfold opL qh at hop
 unfold opL at hq ⊢
 refine fof (fun i=>if i=3 then [false,false,false,false,false,false,false,false,false,true] else []) Tryz.func111 ?_;dsimp only[Tryz.f111]
 push_cast -dsimp
 refine cl (hop) ?_;push_cast -dsimp
 refine cl (zbM (G:=GD)) ?_;push_cast -dsimp [ziZ,Uw,reduceIte,Int.reduceEq,Option.map_some,Option.map_none]
 refine cl (hq) ?_;push_cast -dsimp
 exact dn (by push_cast -dsimp [zb,za,CLe,ze])
theorem zmF (d:zr) (hd:zjo d) (p:List UInt8) (hp:p.length<=1000000) (hpl:zJ p=true):Fun Tryz.prog GD 62 [Vo d,.agg (opL (jL p))] (.tup [Vo (zjr d (jL p)).1,.sc (.int .i64 (zjr d (jL p)).2)]) 0:=by
 have hsl:=NI (G:=GD) (jL p)
 rw[show decide ((jL p).kind=3∨(jL p).kind=7)=false from decide_eq_false (show ¬((1:Int)=3∨(1:Int)=7) by decide)]at hsl
 have hb1:=hd.slot.1
 have hb2:=hd.slot.2
 have hopl:(d.ops.map opL).length=d.ops.length:=List.length_map ..
 have hol:=hd.ops
 have hl5:∀ l:List OpV,∀ r∈l.map opL,r.length=5:=fun l r hr=>by obtain ⟨x,_,rfl⟩:=List.mem_map.1 hr;rfl
 have hst:∀ l:List OpV,jI (l.map opL):=fun l r hr=>by obtain ⟨x,_,rfl⟩:=List.mem_map.1 hr;rfl
 have hX:=zcV (G:=GD) (d.ops.map opL) (([jL p]:List OpV).map opL) (hl5 _) (hl5 _) (hst _) (hst _) (by omega) (by simp) (by simp)
 rw[←List.map_append]at hX
 have hc:=(hX.fun (r:=.own 0 55 5 ((d.ops++([jL p]:List OpV)).map opL)) (n:=1) (by
  rintro r bx m ⟨rfl,c,B,hB,rfl,rfl⟩
  exact ⟨[(0,55,5,(d.ops++([jL p]:List OpV)).map opL,c)],[.inl 0],hB.ok rfl (by simp) (hl5 _),rfl,rfl,by push_cast -dsimp [zb,za,CLe,ze,List.length_map]⟩)).weak (r':=.sl 5 ((d.ops++([jL p]:List OpV)).map opL)) (by push_cast -dsimp [zb,za,CLe,ze])
 have hdo:=zl5 d.w hd.wi hd.ws p hp hpl
 have ea:=zjt d hpl
 have hmx:¬(0>d.slot):=by omega
 rw[ea]
 have eo:opL (jL p) = [.sc (.int .i64 1),.sc (.int .i64 0),.str p,.str [],.str []]:=rfl
 unfold opL at hsl
 rw[show (jL p).kind=1 from rfl,show (jL p).slot=0 from rfl,show (jL p).a=p from rfl,show (jL p).b = [] from rfl,show (jL p).d = [] from rfl]at hsl
 rw[eo]at hdo ⊢
 simp only[List.map_cons,List.map_nil,eo]at hc
 by_cases hz:(zP d.w p 2 []).2=0
 ·rw[if_neg (fun h=>h hz)]
  rw[hz]at hdo
  refine fon Tryz.func62 ?_;dsimp only[Tryz.f62]
  push_cast -dsimp
  refine cl (hsl) ?_;push_cast -dsimp
  refine cl (hdo) ?_;push_cast -dsimp
  refine cl (hc) ?_;push_cast -dsimp [eq_false hmx]
  exact dn (by push_cast -dsimp [zb,za,CLe,ze])
 ·have hz':=eq_false hz
  rw[if_pos hz]
  refine fon Tryz.func62 ?_;dsimp only[Tryz.f62]
  push_cast -dsimp
  refine cl (hsl) ?_;push_cast -dsimp
  refine cl (hdo) ?_;push_cast -dsimp [hz']
  exact dn (by push_cast -dsimp [zb,za,CLe,ze])
end
section
open CA CB
open Go.RowKit
theorem un (f:FsV) (hf:FsI f) (hs:FsS f) (p:List UInt8) (hp:p.length<=100000):Fun Tryz.prog G0 178 [.agg (fsC f),.str p] (.tup [.agg (JD (Jf f p).1),.sc (.int .i64 (Jf f p).2)]) 0:=by
 have h1:=vB f hf hs p (by omega)
 have h2:=Yy (G:=G0) f (atV f p).1.ino (by have:=hs.len;omega) hf.rises
 by_cases c1:(atV f p).2=0
 ·have c1':=eq_true c1
  cases hh:zw (atV f p).1.ino f.xs with
  | false =>
   have h0:(atV f p).1.ino=0:=Classical.byContradiction fun hne=>by
    have:zw (atV f p).1.ino f.xs=true:=by
     unfold atV at hne ⊢
     split at hne
     ·rename_i q;rw[if_pos q];exact M2 hf _ _ (fun _=>hf.root) hne
     ·exact absurd rfl hne
    rw[this]at hh;cases hh
   have e:Jf f p=(zaU,1):=by unfold Jf;rw[if_neg (fun h=>h c1),if_pos h0]
   rw[c1]at h1
   rw[hh]at h2
   refine fon Tryz.func178 ?_;dsimp only[Tryz.f178]
   push_cast -dsimp
   refine cl (h1) ?_;push_cast -dsimp
   refine cl (h2) ?_;push_cast -dsimp
   exact dn (by push_cast -dsimp [zb,za,CLe,ze,e,zaU])
  | true =>
   have h0:=QA hf hh
   have e:Jf f p=(zf (atV f p).1.ino f.xs,0):=by unfold Jf;rw[if_neg (fun h=>h c1),if_neg h0]
   rw[c1]at h1
   rw[hh]at h2
   refine fon Tryz.func178 ?_;dsimp only[Tryz.f178]
   push_cast -dsimp
   refine cl (h1) ?_;push_cast -dsimp
   refine cl (h2) ?_;push_cast -dsimp
   exact dn (by push_cast -dsimp [zb,za,CLe,ze,e])
 ·have e:Jf f p=(zaU,(atV f p).2):=by unfold Jf;rw[if_pos c1]
  refine fon Tryz.func178 ?_;dsimp only[Tryz.f178]
  push_cast -dsimp
  refine cl (h1) ?_;push_cast -dsimp [c1]
  exact dn (by push_cast -dsimp [zb,za,CLe,ze,e,zaU])
theorem zb6 (f:FsV) (hf:FsI f) (hs:FsS f) (p:List UInt8) (hp:p.length<=100000):Fun Tryz.prog G0 150 [.agg (fsC f),.str p] (.tup [.sc (.int .i64 (XI f p).1),.sc (.int .i64 (XI f p).2)]) 0:=by
 have h1:=un f hf hs p hp
 by_cases c1:(Jf f p).2=0
 ·have d1:(atV f p).2=0/\(atV f p).1.ino≠0/\(Jf f p).1=zf (atV f p).1.ino f.xs:=by
   unfold Jf at c1 ⊢
   split at c1
   ·rename_i h;exact absurd c1 h
   ·rename_i h
    split at c1
    ·exact absurd c1 (show ¬(1:Int)=0 by decide)
    ·rename_i h';rw[if_neg h,if_neg h'];exact ⟨Classical.not_not.1 h,h',rfl⟩
  rw[c1]at h1
  by_cases c2:(Jf f p).1.kind=2
  ·have e:XI f p=((Jf f p).1.ino,0):=by unfold XI;rw[if_neg (fun h=>h d1.1),if_neg d1.2.1,if_neg (by rw[←d1.2.2];exact fun h=>h c2),d1.2.2]
   refine fon Tryz.func150 ?_;dsimp only[Tryz.f150]
   push_cast -dsimp
   refine cl (h1) ?_;push_cast -dsimp [c2]
   exact dn (by push_cast -dsimp [zb,za,CLe,ze,e])
  ·have e:XI f p=(0,3):=by unfold XI;rw[if_neg (fun h=>h d1.1),if_neg d1.2.1,if_pos (by rw[←d1.2.2];exact c2)]
   refine fon Tryz.func150 ?_;dsimp only[Tryz.f150]
   push_cast -dsimp
   refine cl (h1) ?_;push_cast -dsimp [c2]
   exact dn (by push_cast -dsimp [zb,za,CLe,ze,e])
 ·have e:XI f p=(0,(Jf f p).2):=by
   unfold XI Jf
   unfold Jf at c1
   split
   ·rfl
   ·rename_i h
    rw[if_neg h]at c1
    split
    ·rfl
    ·rename_i h';rw[if_neg h']at c1;exact absurd rfl c1
  refine fon Tryz.func150 ?_;dsimp only[Tryz.f150]
  push_cast -dsimp
  refine cl (h1) ?_;push_cast -dsimp [c1]
  exact dn (by push_cast -dsimp [zb,za,CLe,ze,e])
theorem zfh {G:zk} (a b:List (List UInt8)) (la:a.length<=90000) (lb:b.length<=90000):Fun Tryz.prog G 75 [.sl 1 [[.sl 1 (zB a)],[.sl 1 (zB b)]]] (.sl 1 (zB (a++b))) 0:=by
 have hl:∀ l:List (List UInt8),∀ r∈zB l,r.length=1:=fun l r hr=>by obtain ⟨x,_,rfl⟩:=List.mem_map.1 hr;rfl
 have hs:∀ l:List (List UInt8),jI (zB l):=fun l r hr=>by obtain ⟨x,_,rfl⟩:=List.mem_map.1 hr;rfl
 have hla:(zB a).length=a.length:=List.length_map ..
 have hlb:(zB b).length=b.length:=List.length_map ..
 by_cases h0:0<a.length+b.length
 ·have h:=GC (G:=G) (zB a) (zB b) (hl a) (hl b) (hs a) (hs b) (by omega) (by omega) (by omega)
  have e:zB a++zB b=zB (a++b):=List.map_append.symm
  rw[e]at h
  refine (h.fun (r:=.own 0 9 1 (zB (a++b))) (n:=1) (by
   rintro r bx m ⟨rfl,c,B,hB,rfl,rfl⟩
   exact ⟨[(0,9,1,zB (a++b),c)],[.inl 0],hB.ok rfl (by rw[List.length_map,List.length_append];exact h0) (hl _),rfl,rfl,by push_cast -dsimp [zb,za,CLe,ze,List.length_map]⟩)).weak (by push_cast -dsimp [zb,za,CLe,ze])
 ·have ha:a = []:=List.eq_nil_of_length_eq_zero (by omega)
  have hb:b = []:=List.eq_nil_of_length_eq_zero (by omega)
  subst ha hb
  exact G3
end
section
open CA CB
open Go.RowKit
abbrev ziY (f:FsV) (fol dir:Bool) (todo:Xi) (s:zT) (n:Int):List C:=[.sc (.int .i64 f.maxI),.sc (.int .i64 f.maxB),.sc (.int .i64 f.next),.sl 6 (zD f.xs),.sc (.bool fol),.sc (.bool dir),.sl 1 (zB todo),.sc (.int .i64 s.dir),.str s.name,.sc (.int .i64 s.ino),.sc (.int .i64 n)]
abbrev Yz:List C:=[.any,.any,.any,.any,.any,.any,.any,.any,.any,.any,.any]
theorem Hk (f:FsV) (fol dir:Bool) (todo:Xi) (s:zT) (n:Nat) (x d:zn) (hx:x.data.length<=10000) (ht:todo.length<=80000) (hn:n<=40):YX Tryz.prog G0 152 [.ptr 0 0,.agg (JD x),.agg (JD d)] [ziY f fol dir todo s n] 0 (fun r bx m=>m=0 /\
  ((n=40/\r = .sc (.int .i64 6)/\bx = [Yz])∨(n<40/\QB x.data=true/\r = .sc (.int .i64 7)/\bx = [Yz])∨(n<40/\QB x.data=false/\r = .sc (.int .i64 0)/\bx = [ziY f fol (dir||(jz x.data&&decide (todo = []))) (zh x.data++todo) ⟨0,[],if Hm x.data then 1 else d.ino⟩ (n+1:Nat)]))):=by
 by_cases h40:n=40
 ·have hc:((40:Int)<(n:Int)+1)=True:=eq_true (by omega)
  refine foX (fun _=>[]) Tryz.func152 ?_;dsimp only[Tryz.f152]
  push_cast -dsimp [hc]
  repeat refine an ?_
  exact ⟨_,[Yz],0,⟨⟨rfl,.inl ⟨h40,rfl,rfl⟩⟩,Nat.le_refl _⟩,[],rfl,rfl,by push_cast -dsimp [zb,za,CLe,ze],by push_cast -dsimp [zb,za,CLe,ze]⟩
 have hc:((40:Int)<(n:Int)+1)=False:=eq_false (by omega)
 have hlg:=Hn x.data (by omega)
 cases hl:QB x.data with
 | true =>
  rw[hl]at hlg
  refine foX (fun _=>[]) Tryz.func152 ?_;dsimp only[Tryz.f152]
  push_cast -dsimp [hc]
  repeat refine an ?_
  refine cl (hlg) ?_;push_cast -dsimp
  exact ⟨_,[Yz],0,⟨⟨rfl,.inr (.inl ⟨by omega,rfl,rfl⟩)⟩,Nat.le_refl _⟩,[],rfl,rfl,by push_cast -dsimp [zb,za,CLe,ze],by push_cast -dsimp [zb,za,CLe,ze]⟩
 | false =>
  rw[hl]at hlg
  have hrd:Fun Tryz.prog G0 107 [.str x.data] (.agg [qh (Hm x.data),.own 0 9 1 (zB (zh x.data)),qh (jz x.data)]) 1:=Vc x.data (by omega)
  have hnl:=z7 x.data
  have hcc:=zfh (G:=G0) (zh x.data) todo (by omega) (by omega)
  have htl:(zB todo).length=todo.length:=List.length_map ..
  have hte:((todo.length:Int)=0)=(todo = []):=propext ⟨fun h=>List.eq_nil_of_length_eq_zero (by omega),fun h=>by rw[h];rfl⟩
  generalize zh x.data=nm at hrd hcc
  have fin:∀ (b a:Bool),(dir||(jz x.data&&decide (todo = [])))=b->Hm x.data=a->YX Tryz.prog G0 152 [.ptr 0 0,.agg (JD x),.agg (JD d)] [ziY f fol dir todo s n] 0 (fun r bx m=>m=0/\r = .sc (.int .i64 0)/\bx = [ziY f fol b (nm++todo) ⟨0,[],if a then 1 else d.ino⟩ (n+1:Nat)]):=fun b a hb ha=>by
   rw[ha]at hrd
   by_cases ht0:todo = []
   ·have ht0':=eq_true ht0
    cases dir<;>cases hs:jz x.data<;>rw[hs]at hrd hb<;>cases a
    all_goals
     simp[ht0]at hb
     subst hb
     refine foX (fun i=>if i=8 then [false,false,false,false,false,false,false,false,false,false,false,true] else []) Tryz.func152 ?_;dsimp only[Tryz.f152]
     push_cast -dsimp [hc]
     repeat refine an ?_
     refine cl (hlg) ?_;push_cast -dsimp
     refine cl (hrd) ?_;push_cast -dsimp [htl,hte,ht0']
     refine cl (hcc) ?_;push_cast -dsimp
     exact ⟨_,_,0,⟨⟨rfl,rfl,rfl⟩,Nat.le_refl _⟩,[],rfl,rfl,by push_cast -dsimp [zb,za,CLe,ze],by push_cast -dsimp [zb,za,CLe,ze]⟩
   ·have ht0':=eq_false ht0
    cases dir<;>cases hs:jz x.data<;>rw[hs]at hrd hb<;>cases a
    all_goals
     simp[ht0]at hb
     subst hb
     refine foX (fun i=>if i=8 then [false,false,false,false,false,false,false,false,false,false,false,true] else []) Tryz.func152 ?_;dsimp only[Tryz.f152]
     push_cast -dsimp [hc]
     repeat refine an ?_
     refine cl (hlg) ?_;push_cast -dsimp
     refine cl (hrd) ?_;push_cast -dsimp [htl,hte,ht0']
     refine cl (hcc) ?_;push_cast -dsimp
     exact ⟨_,_,0,⟨⟨rfl,rfl,rfl⟩,Nat.le_refl _⟩,[],rfl,rfl,by push_cast -dsimp [zb,za,CLe,ze],by push_cast -dsimp [zb,za,CLe,ze]⟩
  have h:=fin _ _ rfl rfl
  exact ⟨h.1,fun R L vs a1 a2 a3 a4 a5 a6 a7=>(h.2 R L vs a1 a2 a3 a4 a5 a6 a7).mono fun _ _=>by
   rintro ⟨r,bx,m,⟨⟨q1,q2,q3⟩,q4⟩,q5⟩
   exact ⟨r,bx,m,⟨⟨q1,.inr (.inr ⟨by omega,rfl,q2,q3⟩)⟩,q4⟩,q5⟩⟩
theorem zhq (f:FsV) (hf:FsI f) (hs:FsS f) (fol dir:Bool) (todo:Xi) (s:zT) (n:Nat) (lk:zn->zn->Xi->Bool->zT×Int):YX Tryz.prog G0 153 [.ptr 0 0] [ziY f fol dir todo s n] 0 (fun r bx m=>m=0/\r = .tup [.agg (Qm (onL f fol lk [] s dir).1),.sc (.int .i64 (onL f fol lk [] s dir).2)]/\bx = [Yz]):=by
 have hg:=Yy (G:=G0) f s.ino (by have:=hs.len;omega) hf.rises
 cases hh:zw s.ino f.xs with
 | false =>
  have e:onL f fol lk [] s dir=(s,0):=by unfold onL;rw[if_neg (fun h=>by rw[hh]at h;cases h.1)]
  rw[hh]at hg
  refine foX (fun i=>if i=1 then YU 13 14 else []) Tryz.func153 ?_;dsimp only[Tryz.f153]
  push_cast -dsimp
  refine cl (hg) ?_;push_cast -dsimp
  exact ⟨_,[Yz],0,⟨⟨rfl,rfl,rfl⟩,Nat.le_refl _⟩,[],rfl,rfl,by push_cast -dsimp [zb,za,CLe,ze],by push_cast -dsimp [zb,za,CLe,ze,e]⟩
 | true =>
  rw[hh]at hg
  cases dir with
  | false =>
   have e:onL f fol lk [] s false=(s,0):=by unfold onL;rw[if_neg (fun h=>by cases h.2.1)]
   refine foX (fun i=>if i=1 then YU 13 14 else []) Tryz.func153 ?_;dsimp only[Tryz.f153]
   push_cast -dsimp
   refine cl (hg) ?_;push_cast -dsimp
   exact ⟨_,[Yz],0,⟨⟨rfl,rfl,rfl⟩,Nat.le_refl _⟩,[],rfl,rfl,by push_cast -dsimp [zb,za,CLe,ze],by push_cast -dsimp [zb,za,CLe,ze,e]⟩
  | true =>
   by_cases hk:(zf s.ino f.xs).kind=2
   ·have e:onL f fol lk [] s true=(s,0):=by unfold onL;rw[if_neg (fun h=>h.2.2 hk)]
    have hk':=eq_true hk
    refine foX (fun i=>if i=1 then YU 13 14 else []) Tryz.func153 ?_;dsimp only[Tryz.f153]
    push_cast -dsimp
    refine cl (hg) ?_;push_cast -dsimp [hk']
    exact ⟨_,[Yz],0,⟨⟨rfl,rfl,rfl⟩,Nat.le_refl _⟩,[],rfl,rfl,by push_cast -dsimp [zb,za,CLe,ze],by push_cast -dsimp [zb,za,CLe,ze,e]⟩
   ·have e:onL f fol lk [] s true=(qy,3):=by unfold onL;rw[if_pos ⟨hh,rfl,hk⟩]
    have hk':=eq_false hk
    refine foX (fun i=>if i=1 then YU 13 14 else []) Tryz.func153 ?_;dsimp only[Tryz.f153]
    push_cast -dsimp
    refine cl (hg) ?_;push_cast -dsimp [hk']
    exact ⟨_,[Yz],0,⟨⟨rfl,rfl,rfl⟩,Nat.le_refl _⟩,[],rfl,rfl,by push_cast -dsimp [zb,za,CLe,ze],by push_cast -dsimp [zb,za,CLe,ze,e,qy]⟩
theorem zci (f:FsV) (hf:FsI f) (hr:FsR f) (hs:FsS f) (fol dir0:Bool) (todo0:Xi) (s0:zT) (ht0:todo0.length<=3000) (hd:∀ x∈f.xs,x.kind=3->x.data.length<=1000) (hs0:s0.ino≠0->zw s0.ino f.xs=true) (R:zT×Int) (hR:onN f fol 40 todo0 s0 dir0=R):YX Tryz.prog G0 105 [.ptr 0 0] [ziY f fol dir0 todo0 s0 (0:Nat)] 0 (fun r bx m=>m=0/\r = .tup [.agg (Qm R.1),.sc (.int .i64 R.2)]/\∃ X,bx = [Yz]++X):=by
 refine foX (fun i=>if i=4 then YU 13 14 else []) Tryz.func105 ?_;dsimp only[Tryz.f105]
 push_cast -dsimp
 refine loop (fun p:Xi×zT×Bool×Nat=>⟨[(0,.ptr 0 0),(2,.ptr 1 0)],[ziY f fol p.2.2.1 p.1 p.2.1 p.2.2.2,[.any,.any,.any]],0,0⟩)
  (fun p=>onN f fol (40-p.2.2.2) p.1 p.2.1 p.2.2.1=R/\p.2.2.2<=40/\p.1.length<=3000+p.2.2.2*1000/\(p.2.1.ino≠0->zw p.2.1.ino f.xs=true)) (fun p=>(41-p.2.2.2)*100000+p.1.length) (todo0,s0,dir0,0) ⟨hR,Nat.zero_le _,by dsimp only;omega,hs0⟩ ?_ ?_
 ·exact wk
 rintro ⟨todo,s,dir,n⟩ ⟨hon,hn,htl,hin⟩
 dsimp only at hon hn htl hin
 rw[kw]at hon
 cases todo with
 | nil =>
  have he:=zhq f hf hs fol dir [] s n (lkN f fol (40-n))
  rw[hon]at he
  push_cast -dsimp
  refine YR [0] [] he rfl (by decide) (by decide) (by simp) (by push_cast -dsimp) rfl (fun r bx' m hp=>?_)
  obtain ⟨rfl,rfl,rfl⟩:=hp
  push_cast -dsimp
  exact ⟨_,[Yz],0,⟨⟨rfl,rfl,[],rfl⟩,by simp⟩,[],rfl,rfl,by push_cast -dsimp [zb,za,CLe,ze],by push_cast -dsimp [zb,za,CLe,ze]⟩
 | cons nm rest =>
  have hg:=Yy (G:=G0) f s.ino (by have:=hs.len;omega) hf.rises
  have hpos:((0:Int)<(rest.length:Int)+1)=True:=eq_true (by omega)
  have hrl:(zB rest).length=rest.length:=List.length_map ..
  have hl1:((1:Int)<=(rest.length:Int)+1)=True:=eq_true (by omega)
  rw[List.length_cons]at htl
  unfold onL at hon
  cases hh:zw s.ino f.xs with
  | false =>
   have h0:s.ino=0:=Classical.byContradiction fun q=>by rw[hin q]at hh;cases hh
   rw[if_pos h0]at hon
   rw[hh]at hg
   rw[←hon]
   push_cast -dsimp [hpos,hl1]
   repeat refine an ?_
   refine cl (hg) ?_;push_cast -dsimp
   exact ⟨_,[Yz],0,⟨⟨rfl,rfl,[],rfl⟩,by simp⟩,[],rfl,rfl,by push_cast -dsimp [zb,za,CLe,ze],by push_cast -dsimp [zb,za,CLe,ze,qy]⟩
  | true =>
   have hgs:=zq hh
   rw[if_neg (QA hf hh)]at hon
   rw[hh]at hg
   by_cases hk2:(zf s.ino f.xs).kind=2
   case neg =>
    have hk2':=eq_false hk2
    rw[if_pos hk2]at hon
    rw[←hon]
    push_cast -dsimp [hpos,hl1]
    repeat refine an ?_
    refine cl (hg) ?_;push_cast -dsimp [hk2']
    exact ⟨_,[Yz],0,⟨⟨rfl,rfl,[],rfl⟩,by simp⟩,[],rfl,rfl,by push_cast -dsimp [zb,za,CLe,ze],by push_cast -dsimp [zb,za,CLe,ze,qy]⟩
   have hk2':=eq_true hk2
   rw[if_neg (fun q=>q hk2)]at hon
   by_cases n1:nm = [46]
   ·have n1':=eq_true n1
    rw[if_pos n1]at hon
    push_cast -dsimp [hpos,hl1]
    repeat refine an ?_
    refine cl (hg) ?_;push_cast -dsimp [hk2',n1']
    exact ⟨(rest,⟨0,[],(zf s.ino f.xs).ino⟩,dir,n),⟨by dsimp only;rw[kw];exact hon,hn,by dsimp only;omega,fun _=>by dsimp only;rw[hgs.2.2];exact hh⟩,by dsimp only;omega,wk⟩
   have n1':=eq_false n1
   rw[if_neg n1]at hon
   by_cases n2:nm = [46,46]
   ·have n2':=eq_true n2
    rw[if_pos n2]at hon
    push_cast -dsimp [hpos,hl1]
    repeat refine an ?_
    refine cl (hg) ?_;push_cast -dsimp [hk2',n1',n2']
    exact ⟨(rest,⟨0,[],(zf s.ino f.xs).parent⟩,dir,n),⟨by dsimp only;rw[kw];exact hon,hn,by dsimp only;omega,fun _=>zkz hf hr hh hk2⟩,by dsimp only;omega,wk⟩
   have n2':=eq_false n2
   rw[if_neg n2]at hon
   have hfd:=Me (G:=G0) (zf s.ino f.xs).es nm (by have:=hs.es hh;omega) (hf.es _ hgs.2.1)
   have hg2:=Yy (G:=G0) f (zF nm (zf s.ino f.xs).es) (by have:=hs.len;omega) hf.rises
   have hin2:zF nm (zf s.ino f.xs).es≠0->zw (zF nm (zf s.ino f.xs).es) f.xs=true:=fun q=>by
    have hx:QV nm (zf s.ino f.xs).es=true:=by
     unfold QV
     rw[jh]
     cases hq:jM zH.name nm (zf s.ino f.xs).es with
     | some e=>rfl
     | none=>unfold zF at q;rw[hq]at q;exact absurd rfl q
    exact V6 hf hh hx
   by_cases hk3:(zf (zF nm (zf s.ino f.xs).es) f.xs).kind=3
   case neg =>
    have hk3':=eq_false hk3
    have hg1:((0:Int)<(rest.length:Int))=((0:Int)<(rest.length:Int)):=rfl
    rw[if_pos (.inr (.inl hk3))]at hon
    push_cast -dsimp [hpos,hl1,hk2',n1',n2',hk3']
    repeat refine an ?_
    refine cl (hg) ?_;push_cast -dsimp [hk2',n1',n2']
    refine cl (hfd) ?_;push_cast -dsimp
    refine cl (hg2) ?_;push_cast -dsimp [hk3',hrl]
    exact ⟨(rest,⟨(zf s.ino f.xs).ino,nm,zF nm (zf s.ino f.xs).es⟩,dir,n),⟨by dsimp only;rw[kw];exact hon,hn,by dsimp only;omega,hin2⟩,by dsimp only;omega,wk⟩
   have hk3':=eq_true hk3
   have hx2:zw (zF nm (zf s.ino f.xs).es) f.xs=true:=by
    cases hq:zw (zF nm (zf s.ino f.xs).es) f.xs with
    | true=>rfl
    | false=>rw[(Jv hq).2]at hk3;exact absurd hk3 (by decide)
   have hxe:QV nm (zf s.ino f.xs).es=true:=by
    cases hq:QV nm (zf s.ino f.xs).es with
    | true=>rfl
    | false =>
     have e0:zF nm (zf s.ino f.xs).es=0:=by
      unfold zF
      unfold QV at hq
      rw[jh]at hq
      cases hz:jM zH.name nm (zf s.ino f.xs).es with
      | none=>rfl
      | some e=>rw[hz]at hq;cases hq
     rw[e0]at hx2
     exact absurd rfl (QA hf hx2)
   have hxd:=hd _ (zq hx2).2.1 hk3
   by_cases hr0:rest = []
   ·have hg1:((0:Int)<(rest.length:Int))=False:=eq_false (by rw[hr0];simp)
    cases fol with
    | false =>
     cases dir with
     | false =>
      rw[if_pos (.inr (.inr ⟨hr0,rfl,rfl⟩))]at hon
      push_cast -dsimp [hpos,hl1,hk2',n1',n2',hk3',hg1]
      repeat refine an ?_
      refine cl (hg) ?_;push_cast -dsimp [hk2',n1',n2']
      refine cl (hfd) ?_;push_cast -dsimp
      refine cl (hg2) ?_;push_cast -dsimp [hk3',hrl,hg1]
      exact ⟨(rest,⟨(zf s.ino f.xs).ino,nm,zF nm (zf s.ino f.xs).es⟩,false,n),⟨by dsimp only;rw[kw];exact hon,hn,by dsimp only;omega,hin2⟩,by dsimp only;omega,wk⟩
     | true =>
      rw[if_neg (by rintro (q | q | q);exact absurd (hxe.symm.trans q) (by simp);exact q hk3;cases q.2.2)]at hon
      have hlk:=Hk f false true rest s n (zf (zF nm (zf s.ino f.xs).es) f.xs) (zf s.ino f.xs) (by omega) (by omega) hn
      push_cast -dsimp [hpos,hl1,hk2',n1',n2',hk3',hg1]
      repeat refine an ?_
      refine cl (hg) ?_;push_cast -dsimp [hk2',n1',n2']
      refine cl (hfd) ?_;push_cast -dsimp
      refine cl (hg2) ?_;push_cast -dsimp [hk3',hrl,hg1]
      refine YR [0] [] hlk rfl (by decide) (by decide) (by simp) (by push_cast -dsimp) (by push_cast -dsimp) (fun r bx' m hp=>?_)
      obtain ⟨rfl,⟨q1,rfl,rfl⟩ | ⟨q1,q2,rfl,rfl⟩ | ⟨q1,q2,rfl,rfl⟩⟩:=hp
      ·push_cast -dsimp
       have hk0:40-n=0:=by omega
       rw[hk0]at hon
       have hon:(qy,(6:Int))=R:=hon
       rw[←hon]
       exact ⟨_,[Yz],0,⟨⟨rfl,rfl,[],rfl⟩,by simp⟩,[],rfl,rfl,by push_cast -dsimp [zb,za,CLe,ze],by push_cast -dsimp [zb,za,CLe,ze,qy]⟩
      ·push_cast -dsimp
       have hk0:40-n=(39-n)+1:=by omega
       rw[hk0,XH,if_pos q2]at hon
       rw[←hon]
       exact ⟨_,[Yz],0,⟨⟨rfl,rfl,[],rfl⟩,by simp⟩,[],rfl,rfl,by push_cast -dsimp [zb,za,CLe,ze],by push_cast -dsimp [zb,za,CLe,ze,qy]⟩
      ·push_cast -dsimp
       have hk0:40-n=(39-n)+1:=by omega
       have hk1:40-(n+1)=39-n:=by omega
       rw[hk0,XH,if_neg (by rw[q2];simp)]at hon
       have hnl:=z7 (zf (zF nm (zf s.ino f.xs).es) f.xs).data
       exact ⟨(zh (zf (zF nm (zf s.ino f.xs).es) f.xs).data++rest,⟨0,[],if Hm (zf (zF nm (zf s.ino f.xs).es) f.xs).data then 1 else (zf s.ino f.xs).ino⟩,true||(jz (zf (zF nm (zf s.ino f.xs).es) f.xs).data&&decide (rest = [])),n+1),⟨by dsimp only;rw[hk1];exact hon,by dsimp only;omega,by dsimp only;rw[List.length_append];omega,fun _=>by
        dsimp only
        split
        ·exact hf.root
        ·rw[hgs.2.2];exact hh⟩,by dsimp only;rw[List.length_append];omega,wk⟩
    | true =>
     rw[if_neg (by rintro (q | q | q);exact absurd (hxe.symm.trans q) (by simp);exact q hk3;cases q.2.1)]at hon
     have hlk:=Hk f true dir rest s n (zf (zF nm (zf s.ino f.xs).es) f.xs) (zf s.ino f.xs) (by omega) (by omega) hn
     push_cast -dsimp [hpos,hl1,hk2',n1',n2',hk3',hg1]
     repeat refine an ?_
     refine cl (hg) ?_;push_cast -dsimp [hk2',n1',n2']
     refine cl (hfd) ?_;push_cast -dsimp
     refine cl (hg2) ?_;push_cast -dsimp [hk3',hrl,hg1]
     refine YR [0] [] hlk rfl (by decide) (by decide) (by simp) (by push_cast -dsimp) (by push_cast -dsimp) (fun r bx' m hp=>?_)
     obtain ⟨rfl,⟨q1,rfl,rfl⟩ | ⟨q1,q2,rfl,rfl⟩ | ⟨q1,q2,rfl,rfl⟩⟩:=hp
     ·push_cast -dsimp
      have hk0:40-n=0:=by omega
      rw[hk0]at hon
      have hon:(qy,(6:Int))=R:=hon
      rw[←hon]
      exact ⟨_,[Yz],0,⟨⟨rfl,rfl,[],rfl⟩,by simp⟩,[],rfl,rfl,by push_cast -dsimp [zb,za,CLe,ze],by push_cast -dsimp [zb,za,CLe,ze,qy]⟩
     ·push_cast -dsimp
      have hk0:40-n=(39-n)+1:=by omega
      rw[hk0,XH,if_pos q2]at hon
      rw[←hon]
      exact ⟨_,[Yz],0,⟨⟨rfl,rfl,[],rfl⟩,by simp⟩,[],rfl,rfl,by push_cast -dsimp [zb,za,CLe,ze],by push_cast -dsimp [zb,za,CLe,ze,qy]⟩
     ·push_cast -dsimp
      have hk0:40-n=(39-n)+1:=by omega
      have hk1:40-(n+1)=39-n:=by omega
      rw[hk0,XH,if_neg (by rw[q2];simp)]at hon
      have hnl:=z7 (zf (zF nm (zf s.ino f.xs).es) f.xs).data
      exact ⟨(zh (zf (zF nm (zf s.ino f.xs).es) f.xs).data++rest,⟨0,[],if Hm (zf (zF nm (zf s.ino f.xs).es) f.xs).data then 1 else (zf s.ino f.xs).ino⟩,dir||(jz (zf (zF nm (zf s.ino f.xs).es) f.xs).data&&decide (rest = [])),n+1),⟨by dsimp only;rw[hk1];exact hon,by dsimp only;omega,by dsimp only;rw[List.length_append];omega,fun _=>by
       dsimp only
       split
       ·exact hf.root
       ·rw[hgs.2.2];exact hh⟩,by dsimp only;rw[List.length_append];omega,wk⟩
   ·have hg1:((0:Int)<(rest.length:Int))=True:=eq_true (by have:=List.length_pos_iff.2 hr0;omega)
    rw[if_neg (by rintro (q | q | q);exact absurd (hxe.symm.trans q) (by simp);exact q hk3;exact hr0 q.1)]at hon
    have hlk:=Hk f fol dir rest s n (zf (zF nm (zf s.ino f.xs).es) f.xs) (zf s.ino f.xs) (by omega) (by omega) hn
    push_cast -dsimp [hpos,hl1,hk2',n1',n2',hk3',hg1]
    repeat refine an ?_
    refine cl (hg) ?_;push_cast -dsimp [hk2',n1',n2']
    refine cl (hfd) ?_;push_cast -dsimp
    refine cl (hg2) ?_;push_cast -dsimp [hk3',hrl,hg1]
    refine YR [0] [] hlk rfl (by decide) (by decide) (by simp) (by push_cast -dsimp) (by push_cast -dsimp) (fun r bx' m hp=>?_)
    obtain ⟨rfl,⟨q1,rfl,rfl⟩ | ⟨q1,q2,rfl,rfl⟩ | ⟨q1,q2,rfl,rfl⟩⟩:=hp
    ·push_cast -dsimp
     have hk0:40-n=0:=by omega
     rw[hk0]at hon
     have hon:(qy,(6:Int))=R:=hon
     rw[←hon]
     exact ⟨_,[Yz],0,⟨⟨rfl,rfl,[],rfl⟩,by simp⟩,[],rfl,rfl,by push_cast -dsimp [zb,za,CLe,ze],by push_cast -dsimp [zb,za,CLe,ze,qy]⟩
    ·push_cast -dsimp
     have hk0:40-n=(39-n)+1:=by omega
     rw[hk0,XH,if_pos q2]at hon
     rw[←hon]
     exact ⟨_,[Yz],0,⟨⟨rfl,rfl,[],rfl⟩,by simp⟩,[],rfl,rfl,by push_cast -dsimp [zb,za,CLe,ze],by push_cast -dsimp [zb,za,CLe,ze,qy]⟩
    ·push_cast -dsimp
     have hk0:40-n=(39-n)+1:=by omega
     have hk1:40-(n+1)=39-n:=by omega
     rw[hk0,XH,if_neg (by rw[q2];simp)]at hon
     have hnl:=z7 (zf (zF nm (zf s.ino f.xs).es) f.xs).data
     exact ⟨(zh (zf (zF nm (zf s.ino f.xs).es) f.xs).data++rest,⟨0,[],if Hm (zf (zF nm (zf s.ino f.xs).es) f.xs).data then 1 else (zf s.ino f.xs).ino⟩,dir||(jz (zf (zF nm (zf s.ino f.xs).es) f.xs).data&&decide (rest = [])),n+1),⟨by dsimp only;rw[hk1];exact hon,by dsimp only;omega,by dsimp only;rw[List.length_append];omega,fun _=>by
      dsimp only
      split
      ·exact hf.root
      ·rw[hgs.2.2];exact hh⟩,by dsimp only;rw[List.length_append];omega,wk⟩
end
section
open CA CB
open Go.RowKit
theorem Gu (f:FsV) (hf:FsI f) (hr:FsR f) (hs:FsS f) (hd:∀ x∈f.xs,x.kind=3->x.data.length<=1000) (b p:List UInt8) (fol:Bool) (hb:b.length<=100000) (hp:p.length<=3000):Fun Tryz.prog G0 57 [.agg (fsC f),.str b,.str p,.sc (.bool fol)] (.tup [.agg (Qm (zV f b p fol).1),.sc (.int .i64 (zV f b p fol).2)]) 0:=by
 have hlo:=Hn p (by omega)
 have hns:=z7 p
 have bad:∀ e:Int,e≠0->zV f b p fol=(qy,e)->Fun Tryz.prog G0 104 [.agg (fsC f),.str b,.str p,.sc (.bool fol)] (.tup [.any,.sc (.int .i64 e)]) 0->Fun Tryz.prog G0 57 [.agg (fsC f),.str b,.str p,.sc (.bool fol)] (.tup [.agg (Qm (zV f b p fol).1),.sc (.int .i64 (zV f b p fol).2)]) 0:=fun e he hv hb=>by
  refine fon Tryz.func57 ?_;dsimp only[Tryz.f57]
  push_cast -dsimp
  refine cl (hb) ?_;push_cast -dsimp [he]
  exact dn (by push_cast -dsimp [zb,za,CLe,ze,hv,qy])
 by_cases h1:p = []
 ·subst h1
  refine bad 1 (by decide) (by unfold zV;rw[if_pos rfl]) ?_
  refine fon Tryz.func104 ?_;dsimp only[Tryz.f104]
  push_cast -dsimp
  exact dn (by push_cast -dsimp [zb,za,CLe,ze])
 have h1':=eq_false h1
 cases h2:QB p with
 | true =>
  rw[h2]at hlo
  refine bad 7 (by decide) (by unfold zV;rw[if_neg h1,if_pos h2]) ?_
  refine fon Tryz.func104 ?_;dsimp only[Tryz.f104]
  push_cast -dsimp [h1']
  refine cl (hlo) ?_;push_cast -dsimp
  exact dn (by push_cast -dsimp [zb,za,CLe,ze])
 | false =>
 rw[h2]at hlo
 have hre:Fun Tryz.prog G0 107 [.str p] (.agg [qh (Hm p),.own 0 9 1 (zB (zh p)),qh (jz p)]) 1:=Vc p (by omega)
 have good:∀ h:Int,zV f b p fol=onN f fol 40 (zh p) ⟨0,[],h⟩ (jz p)->(h≠0->zw h f.xs=true)->YX Tryz.prog G0 104 [.agg (fsC f),.str b,.str p,.sc (.bool fol)] [] 0 (fun r bx m=>m=0/\r = .tup [.ptr 2 0,.sc (.int .i64 0)]/\bx = [[.any,.any,.any,.any],[.any,.any,.any],ziY f fol (jz p) (zh p) ⟨0,[],h⟩ (0:Nat)])->Fun Tryz.prog G0 57 [.agg (fsC f),.str b,.str p,.sc (.bool fol)] (.tup [.agg (Qm (zV f b p fol).1),.sc (.int .i64 (zV f b p fol).2)]) 0:=fun h hv hh hbg=>by
  have hgo:=zci f hf hr hs fol (jz p) (zh p) ⟨0,[],h⟩ (by omega) hd hh _ hv.symm
  refine fon Tryz.func57 ?_;dsimp only[Tryz.f57]
  push_cast -dsimp
  refine YR [] [] hbg rfl (by decide) (by decide) (by simp) (by push_cast -dsimp) rfl (fun r bx' m hp=>?_)
  obtain ⟨rfl,rfl,rfl⟩:=hp
  push_cast -dsimp
  refine YR [4] [] hgo rfl (by decide) (by decide) (by simp) (by push_cast -dsimp) rfl (fun r bx' m hp=>?_)
  obtain ⟨rfl,rfl,X,rfl⟩:=hp
  push_cast -dsimp
  exact dn (by push_cast -dsimp [zb,za,CLe,ze])
 cases h3:Hm p with
 | true =>
  rw[h3]at hre
  refine good 1 (by unfold zV;rw[if_neg h1,if_neg (by rw[h2];decide),if_pos h3]) (fun _=>hf.root) ?_
  refine foX (fun _=>[]) Tryz.func104 ?_;dsimp only[Tryz.f104]
  push_cast -dsimp [h1']
  refine cl (hlo) ?_;push_cast -dsimp
  refine cl (hre) ?_;push_cast -dsimp
  exact ⟨_,[_,_,_],0,⟨⟨rfl,rfl,rfl⟩,Nat.zero_le _⟩,[],rfl,rfl,by push_cast -dsimp [zb,za,CLe,ze],by push_cast -dsimp [zb,za,CLe,ze]⟩
 | false =>
  rw[h3]at hre
  have hh:=zb6 f hf hs b hb
  by_cases h4:(XI f b).2=0
  ·rw[h4]at hh
   refine good (XI f b).1 (by unfold zV;rw[if_neg h1,if_neg (by rw[h2];decide),if_neg (by rw[h3];decide),if_neg (fun q=>q h4)]) (fun hne=>?_) ?_
   ·unfold XI at hne h4 ⊢
    split at hne
    ·exact absurd rfl hne
    rename_i c1
    rw[if_neg c1]at h4 ⊢
    split at hne
    ·exact absurd rfl hne
    rename_i c2
    rw[if_neg c2]at h4 ⊢
    split at hne
    ·exact absurd rfl hne
    rename_i c3
    rw[if_neg c3]
    have q:=Qo (Classical.not_not.1 c3)
    rw[(zq q).2.2]
    exact q
   ·refine foX (fun _=>[]) Tryz.func104 ?_;dsimp only[Tryz.f104]
    push_cast -dsimp [h1']
    refine cl (hlo) ?_;push_cast -dsimp
    refine cl (hre) ?_;push_cast -dsimp
    refine cl (hh) ?_;push_cast -dsimp
    exact ⟨_,[_,_,_],0,⟨⟨rfl,rfl,rfl⟩,Nat.zero_le _⟩,[],rfl,rfl,by push_cast -dsimp [zb,za,CLe,ze],by push_cast -dsimp [zb,za,CLe,ze]⟩
  ·refine bad _ h4 (by unfold zV;rw[if_neg h1,if_neg (by rw[h2];decide),if_neg (by rw[h3];decide),if_pos h4]) ?_
   refine fon Tryz.func104 ?_;dsimp only[Tryz.f104]
   push_cast -dsimp [h1']
   refine cl (hlo) ?_;push_cast -dsimp
   refine cl (hre) ?_;push_cast -dsimp
   refine cl (hh) ?_;push_cast -dsimp [h4]
   exact dn (by push_cast -dsimp [zb,za,CLe,ze])
end
section
open CA CB
open Go.RowKit QuotePlain
abbrev u8C (b:UInt8):C:=.sc (.int .u8 (b.toNat:Int))
theorem HG (l:List UInt8) (c:UInt8):(Lib.indexByte l c<0)↔c∉l:=by
 constructor
 ·intro h hc
  have h1:=Lib.indexByte_ge l c
  obtain ⟨k,hk,e⟩:=List.getElem_of_mem hc
  exact Lib.indexByte_none (show Lib.indexByte l c = -1 by omega) k (by rw[List.getElem?_eq_getElem hk,e])
 ·intro h
  rcases Int.lt_or_le (Lib.indexByte l c) 0 with h1 | h1
  ·exact h1
  ·obtain ⟨o,ho⟩:∃ o:Nat,Lib.indexByte l c=o:=⟨(Lib.indexByte l c).toNat,by omega⟩
   obtain ⟨h2,_⟩:=Lib.indexByte_some ho
   exact absurd (List.mem_of_getElem? h2) h
theorem Uu (s:List UInt8) (c:UInt8) (hs:s.length<=1000000):Fun Tryz.prog G0 37 [.str s,u8C c] (.sc (.bool (decide (c∈s)))) 0:=by
 refine fon Tryz.func37 ?_;dsimp only[Tryz.f37]
 push_cast -dsimp
 refine loop (fun k:Nat=>⟨[(0,.str s),(1,u8C c),(5,.sc (.int .i64 k))],[],0,0⟩) (fun k=>k<=s.length/\c∉s.take k) (fun k=>s.length-k) 0 ⟨Nat.zero_le _,by simp⟩ ?_ ?_
 ·exact wk
 ·rintro k ⟨hk,hn⟩
  push_cast -dsimp
  refine br (fun h=>?_) (fun h=>?_)
  ·have hk2:k<s.length:=by simp at h;omega
   have hg:s[k]?=some s[k]:=List.getElem?_eq_getElem hk2
   push_cast -dsimp [hg]
   refine ⟨by omega,br (fun h2=>?_) (fun h2=>?_)⟩
   ·push_cast -dsimp
    have h3:s[k]=c:=by simp at h2;exact UInt8.toNat_inj.1 (by omega)
    have h4:c∈s:=h3▸List.getElem_mem hk2
    exact dn (by push_cast -dsimp [zb,za,CLe,ze,h4])
   ·push_cast -dsimp
    have h3:¬c=s[k]:=fun e=>by subst e;simp at h2
    refine ⟨by omega,k+1,⟨by omega,?_⟩,by omega,wk⟩
    intro h4
    rw[List.take_add_one,hg]at h4
    rcases List.mem_append.1 h4 with h5 | h5
    ·exact hn h5
    ·simp at h5;exact h3 h5
  ·have hk2:k=s.length:=by simp at h;omega
   subst hk2
   rw[List.take_length]at hn
   push_cast -dsimp
   exact dn (by push_cast -dsimp [zb,za,CLe,ze,hn])
theorem zkn (k:Int) (o:List UInt8) (ops:C) (c:UInt8) (hops:ops.cellB=true):Fun Tryz.prog G0 34 [.agg [.sc (.int .i64 k),.str o,ops],u8C c] (.sc (.bool (decide (c∈o)))) 0:=by
 refine fon Tryz.func34 ?_;dsimp only[Tryz.f34]
 push_cast -dsimp [hops]
 refine cl (Qv o c) ?_;push_cast -dsimp
 have e:decide (0<=Lib.indexByte o c)=decide (c∈o):=by
  have:=HG o c
  by_cases h:c∈o
  ·have h2:¬Lib.indexByte o c<0:=fun h3=>this.1 h3 h
   simp[h];omega
  ·have h2:=this.2 h
   simp[h];omega
 exact dn (by push_cast -dsimp [zb,za,CLe,ze,e])
theorem zpq (c d:UInt8):((c.toNat:Int)=(d.toNat:Int))=(c=d):=by
 refine propext ⟨fun h=>UInt8.toNat_inj.1 (by omega),fun h=>by rw[h]⟩
def Y2 (s p:List UInt8):UInt8:=s.foldl (fun c b=>if b∈p then b else c) 0
theorem kf (s p:List UInt8) (i:Nat) (hi:i<s.length):Y2 (s.take (i+1)) p=if s[i]∈p then s[i] else Y2 (s.take i) p:=by
 unfold Y2
 rw[List.take_add_one,List.getElem?_eq_getElem hi,List.foldl_append]
 simp
theorem GU (s p:List UInt8) (hs:s.length<=1000000) (hp:p.length<=1000000):Fun Tryz.prog G0 119 [.str s,.str p] (u8C (Y2 s p)) 0:=by
 refine fon Tryz.func119 ?_;dsimp only[Tryz.f119]
 push_cast -dsimp
 refine loop (fun k:Nat=>⟨[(0,.str s),(1,.str p),(5,u8C (Y2 (s.take k) p)),(6,.sc (.int .i64 k))],[],0,0⟩) (fun k=>k<=s.length) (fun k=>s.length-k) 0 (Nat.zero_le _) ?_ ?_
 ·exact j9.mk [] rfl rfl (Nat.le_refl _) rfl (by push_cast -dsimp [zb,za,CLe,ze]<;>rfl) (by push_cast -dsimp [zb,za,CLe,ze])
 ·rintro k hk
  push_cast -dsimp
  refine br (fun h=>?_) (fun h=>?_)
  ·have hk2:k<s.length:=by simp at h;omega
   have hg:s[k]?=some s[k]:=List.getElem?_eq_getElem hk2
   push_cast -dsimp [hg]
   refine ⟨by omega,?_⟩
   refine cl (Uu p s[k] hp) ?_;push_cast -dsimp
   refine br (fun h2=>?_) (fun h2=>?_)
   ·push_cast -dsimp [hg]
    have e:Y2 (s.take (k+1)) p=s[k]:=by rw[kf s p k hk2,if_pos (by simpa using h2)]
    refine ⟨by omega,by omega,k+1,by omega,by omega,wk (by push_cast -dsimp [zb,za,CLe,ze,e])⟩
   ·push_cast -dsimp [hg]
    have e:Y2 (s.take (k+1)) p=Y2 (s.take k) p:=by rw[kf s p k hk2,if_neg (by simpa using h2)]
    refine ⟨by omega,k+1,by omega,by omega,wk (by push_cast -dsimp [zb,za,CLe,ze,e])⟩
  ·have hk2:k=s.length:=by simp at h;omega
   subst hk2
   rw[List.take_length]
   push_cast -dsimp
   exact dn
def isO (k:Int) (s:List UInt8) (x:UInt8):Bool:=if 4<=k/\(x=102∨x=110) then decide (Y2 s [102,110]=x) else if x=114 then decide (114∈s∨82∈s) else if x=82 then false else decide (x∈s)
def J1 (k:Int) (s:List UInt8) (n:Nat):List UInt8:=((List.range' 65 n).map UInt8.ofNat).filter (isO k s)
theorem xU (k:Int) (s:List UInt8) (hs:s.length<=1000000):Fun Tryz.prog G0 69 [.sc (.int .i64 k),.str s] (.str (J1 k s 58)) 0:=by
 refine fon Tryz.func69 ?_;dsimp only[Tryz.f69]
 push_cast -dsimp
 refine loop (fun j:Nat=>⟨[(0,.sc (.int .i64 k)),(1,.str s),(5,.str (J1 k s j)),(6,.sc (.int .i64 (65+j)))],[],0,0⟩) (fun j=>j<=58) (fun j=>58-j) 0 (Nat.zero_le _) ?_ ?_
 ·exact j9.mk [] rfl rfl (Nat.le_refl _) rfl (by push_cast -dsimp [zb,za,CLe,ze]<;>rfl) (by push_cast -dsimp [zb,za,CLe,ze])
 ·rintro j hj
  push_cast -dsimp
  refine br (fun h=>?_) (fun h=>?_)
  ·have hj2:j<58:=by simp at h;omega
   obtain ⟨x,hxe,hx⟩:∃ x:UInt8,UInt8.ofNat (65+j)=x/\(65+(j:Int))=(x.toNat:Int):=⟨_,rfl,by rw[UInt8.toNat_ofNat_of_lt' (by show 65+j<256;omega)];omega⟩
   have hx1:65+((j:Int)+1)=(x.toNat:Int)+1:=by omega
   have hxb:(x.toNat:Int)<123:=by omega
   have hstep:J1 k s (j+1)=J1 k s j++if isO k s x then [x] else []:=by
    unfold J1
    rw[List.range'_concat,List.map_append,List.filter_append]
    simp only[List.map_cons,List.map_nil,Nat.one_mul,hxe,List.filter_cons,List.filter_nil]
   have hlo:(J1 k s j).length<=j:=Nat.le_trans (List.length_filter_le _ _) (by simp)
   have hI:∀ (n:Nat) (d:UInt8),d.toNat=n->((x.toNat:Int)=(n:Int))=(x=d):=fun n d h=>h▸zpq x d
   have hcase:(x=82)∨(x=114)∨(x≠82/\x≠114/\¬4<=k)∨(x=102/\4<=k)∨(x=110/\4<=k)∨(x≠82/\x≠114/\4<=k/\x≠102/\x≠110):=by
    by_cases h1:x=82
    ·exact .inl h1
    ·by_cases h2:x=114
     ·exact .inr (.inl h2)
     ·by_cases h3:4<=k
      ·by_cases h4:x=102
       ·exact .inr (.inr (.inr (.inl ⟨h4,h3⟩)))
       ·by_cases h5:x=110
        ·exact .inr (.inr (.inr (.inr (.inl ⟨h5,h3⟩))))
        ·exact .inr (.inr (.inr (.inr (.inr ⟨h1,h2,h3,h4,h5⟩))))
      ·exact .inr (.inr (.inl ⟨h1,h2,h3⟩))
   clear hxe
   rw[hx]
   push_cast -dsimp
   refine ⟨by omega,?_⟩
   refine cl (Uu s x hs) ?_;push_cast -dsimp
   rcases hcase with hc | hc | hc | hc | hc | hc
   ·have f0:isO k s x=false:=by simp[isO,hc]
    have e:J1 k s (j+1)=J1 k s j:=by rw[hstep,f0];simp
    have f1:((x.toNat:Int)=82)=True:=(hI 82 82 rfl).trans (by simp[hc])
    have f2:((x.toNat:Int)=114)=False:=(hI 114 114 rfl).trans (by simp[hc])
    have f3:((x.toNat:Int)=102)=False:=(hI 102 102 rfl).trans (by simp[hc])
    have f4:((x.toNat:Int)=110)=False:=(hI 110 110 rfl).trans (by simp[hc])
    by_cases h4:4<=k
    all_goals
     push_cast -dsimp [f1,f2,f3,f4,h4]
     repeat (refine And.intro (by omega) ?_)
     refine ⟨j+1,by omega,by omega,wk (by push_cast -dsimp [zb,za,CLe,ze,e,hx1])⟩
   ·have f0:isO k s x=decide (114∈s∨82∈s):=by simp[isO,hc]
    have f1:((x.toNat:Int)=82)=False:=(hI 82 82 rfl).trans (by simp[hc])
    have f2:((x.toNat:Int)=114)=True:=(hI 114 114 rfl).trans (by simp[hc])
    have f3:((x.toNat:Int)=102)=False:=(hI 102 102 rfl).trans (by simp[hc])
    have f4:((x.toNat:Int)=110)=False:=(hI 110 110 rfl).trans (by simp[hc])
    push_cast -dsimp [f1,f2,f3,f4]
    refine cl (Uu s 114 hs) ?_;push_cast -dsimp
    by_cases h6:114∈s
    ·push_cast -dsimp [h6]
     have e:J1 k s (j+1)=J1 k s j++[x]:=by rw[hstep,f0];simp[h6]
     by_cases h4:4<=k
     all_goals
      push_cast -dsimp [f1,f2,f3,f4,h4]
      refine ⟨[x],rfl,?_⟩
      push_cast -dsimp
      repeat (refine And.intro (by omega) ?_)
      refine ⟨j+1,by omega,by omega,wk (by push_cast -dsimp [zb,za,CLe,ze,e,hx1])⟩
    ·push_cast -dsimp [h6]
     refine cl (Uu s 82 hs) ?_;push_cast -dsimp
     by_cases h7:82∈s
     ·have e:J1 k s (j+1)=J1 k s j++[x]:=by rw[hstep,f0];simp[h7]
      by_cases h4:4<=k
      all_goals
       push_cast -dsimp [f1,f2,f3,f4,h4,h7]
       refine ⟨[x],rfl,?_⟩
       push_cast -dsimp
       repeat (refine And.intro (by omega) ?_)
       refine ⟨j+1,by omega,by omega,wk (by push_cast -dsimp [zb,za,CLe,ze,e,hx1])⟩
     ·have e:J1 k s (j+1)=J1 k s j:=by rw[hstep,f0];simp[h6,h7]
      by_cases h4:4<=k
      all_goals
       push_cast -dsimp [f1,f2,f3,f4,h4,h7]
       repeat (refine And.intro (by omega) ?_)
       refine ⟨j+1,by omega,by omega,wk (by push_cast -dsimp [zb,za,CLe,ze,e,hx1])⟩
   ·have f0:isO k s x=decide (x∈s):=by simp[isO,hc]
    have h4:¬4<=k:=hc.2.2
    have f1:((x.toNat:Int)=82)=False:=(hI 82 82 rfl).trans (by simp[hc])
    have f2:((x.toNat:Int)=114)=False:=(hI 114 114 rfl).trans (by simp[hc])
    by_cases h6:x∈s
    ·have e:J1 k s (j+1)=J1 k s j++[x]:=by rw[hstep,f0];simp[h6]
     push_cast -dsimp [f1,f2,h4,h6]
     refine ⟨[x],rfl,?_⟩
     push_cast -dsimp
     repeat (refine And.intro (by omega) ?_)
     refine ⟨j+1,by omega,by omega,wk (by push_cast -dsimp [zb,za,CLe,ze,e,hx1])⟩
    ·have e:J1 k s (j+1)=J1 k s j:=by rw[hstep,f0];simp[h6]
     push_cast -dsimp [f1,f2,h4,h6]
     repeat (refine And.intro (by omega) ?_)
     refine ⟨j+1,by omega,by omega,wk (by push_cast -dsimp [zb,za,CLe,ze,e,hx1])⟩
   ·have f0:isO k s x=decide (Y2 s [102,110]=x):=by simp[isO,hc]
    have h4:4<=k:=hc.2
    have f1:((x.toNat:Int)=82)=False:=(hI 82 82 rfl).trans (by simp[hc])
    have f2:((x.toNat:Int)=114)=False:=(hI 114 114 rfl).trans (by simp[hc])
    have f3:((x.toNat:Int)=102)=True:=(hI 102 102 rfl).trans (by simp[hc])
    have f4:((x.toNat:Int)=110)=False:=(hI 110 110 rfl).trans (by simp[hc])
    push_cast -dsimp [f1,f2,f3,f4,h4]
    refine cl (GU s [102,110] hs (by simp)) ?_;push_cast -dsimp
    by_cases h6:Y2 s [102,110]=x
    ·have g6:((Y2 s [102,110]).toNat=x.toNat)=True:=by simp[h6]
     have e:J1 k s (j+1)=J1 k s j++[x]:=by rw[hstep,f0];simp[h6]
     push_cast -dsimp [g6]
     refine ⟨[x],rfl,?_⟩
     push_cast -dsimp
     repeat (refine And.intro (by omega) ?_)
     refine ⟨j+1,by omega,by omega,wk (by push_cast -dsimp [zb,za,CLe,ze,e,hx1])⟩
    ·have g6:((Y2 s [102,110]).toNat=x.toNat)=False:=by simp[UInt8.toNat_inj,h6]
     have e:J1 k s (j+1)=J1 k s j:=by rw[hstep,f0];simp[h6]
     push_cast -dsimp [g6]
     repeat (refine And.intro (by omega) ?_)
     refine ⟨j+1,by omega,by omega,wk (by push_cast -dsimp [zb,za,CLe,ze,e,hx1])⟩
   ·have f0:isO k s x=decide (Y2 s [102,110]=x):=by simp[isO,hc]
    have h4:4<=k:=hc.2
    have f1:((x.toNat:Int)=82)=False:=(hI 82 82 rfl).trans (by simp[hc])
    have f2:((x.toNat:Int)=114)=False:=(hI 114 114 rfl).trans (by simp[hc])
    have f3:((x.toNat:Int)=102)=False:=(hI 102 102 rfl).trans (by simp[hc])
    have f4:((x.toNat:Int)=110)=True:=(hI 110 110 rfl).trans (by simp[hc])
    push_cast -dsimp [f1,f2,f3,f4,h4]
    refine cl (GU s [102,110] hs (by simp)) ?_;push_cast -dsimp
    by_cases h6:Y2 s [102,110]=x
    ·have g6:((Y2 s [102,110]).toNat=x.toNat)=True:=by simp[h6]
     have e:J1 k s (j+1)=J1 k s j++[x]:=by rw[hstep,f0];simp[h6]
     push_cast -dsimp [g6]
     refine ⟨[x],rfl,?_⟩
     push_cast -dsimp
     repeat (refine And.intro (by omega) ?_)
     refine ⟨j+1,by omega,by omega,wk (by push_cast -dsimp [zb,za,CLe,ze,e,hx1])⟩
    ·have g6:((Y2 s [102,110]).toNat=x.toNat)=False:=by simp[UInt8.toNat_inj,h6]
     have e:J1 k s (j+1)=J1 k s j:=by rw[hstep,f0];simp[h6]
     push_cast -dsimp [g6]
     repeat (refine And.intro (by omega) ?_)
     refine ⟨j+1,by omega,by omega,wk (by push_cast -dsimp [zb,za,CLe,ze,e,hx1])⟩
   ·have f0:isO k s x=decide (x∈s):=by simp[isO,hc]
    have h4:4<=k:=hc.2.2.1
    have f1:((x.toNat:Int)=82)=False:=(hI 82 82 rfl).trans (by simp[hc])
    have f2:((x.toNat:Int)=114)=False:=(hI 114 114 rfl).trans (by simp[hc])
    have f3:((x.toNat:Int)=102)=False:=(hI 102 102 rfl).trans (by simp[hc])
    have f4:((x.toNat:Int)=110)=False:=(hI 110 110 rfl).trans (by simp[hc])
    by_cases h6:x∈s
    ·have e:J1 k s (j+1)=J1 k s j++[x]:=by rw[hstep,f0];simp[h6]
     push_cast -dsimp [f1,f2,f3,f4,h4,h6]
     refine ⟨[x],rfl,?_⟩
     push_cast -dsimp
     repeat (refine And.intro (by omega) ?_)
     refine ⟨j+1,by omega,by omega,wk (by push_cast -dsimp [zb,za,CLe,ze,e,hx1])⟩
    ·have e:J1 k s (j+1)=J1 k s j:=by rw[hstep,f0];simp[h6]
     push_cast -dsimp [f1,f2,f3,f4,h4,h6]
     repeat (refine And.intro (by omega) ?_)
     refine ⟨j+1,by omega,by omega,wk (by push_cast -dsimp [zb,za,CLe,ze,e,hx1])⟩
  ·have hj2:j=58:=by simp at h;omega
   subst hj2
   push_cast -dsimp
   exact dn
abbrev Acc:=List UInt8->UInt8->List UInt8
def JV (all:List UInt8) (f:Acc):List UInt8->List UInt8->List UInt8×List UInt8
 | a,[]=>(a,[])
 | a,c :: r=>if c∈all then JV all f (f a c) r else (a,[c])
def ql (all:List UInt8) (f:Acc):List UInt8->Nat->List (List UInt8)->List UInt8×Nat×List UInt8
 | a,n,[]=>(a,n,[])
 | a,n,w :: r=>if w = [45,45] then (a,n+1,[]) else if w.length<2∨w[0]?≠some 45 then (a,n,[]) else
   if (JV all f a w.tail).2 = [] then ql all f (JV all f a w.tail).1 (n+1) r else ((JV all f a w.tail).1,n,(JV all f a w.tail).2)
def ZI (k:Int):List UInt8:=if k=1 then [112] else if k=2 then [100,102,114,82] else if k=3 then [102,110,115,84] else if k=4 then [102,110,84] else if k=5 then [102,110,114,82,80,84] else []
abbrev J9:Acc:=fun s c=>s++[c]
theorem zar {all:List UInt8} {f:Acc} {a w:List UInt8} {i:Nat} (hi:i<w.length):JV all f a (w.drop i)=if w[i]∈all then JV all f (f a w[i]) (w.drop (i+1)) else (a,[w[i]]):=by
 rw[List.drop_eq_getElem_cons hi,JV]
theorem HC {all:List UInt8} {f:Acc} {a:List UInt8} {l:List (List UInt8)} {n:Nat} (hn:n<l.length):ql all f a n (l.drop n)=if l[n] = [45,45] then (a,n+1,[]) else if l[n].length<2∨l[n][0]?≠some 45 then (a,n,[]) else
   if (JV all f a l[n].tail).2 = [] then ql all f (JV all f a l[n].tail).1 (n+1) (l.drop (n+1)) else ((JV all f a l[n].tail).1,n,(JV all f a l[n].tail).2):=by
 rw[List.drop_eq_getElem_cons hn,ql]
theorem zi4 {w:List UInt8} {i:Nat} (hi:i<w.length):(w.take (i+1)).drop i = [w[i]]:=by
 rw[List.take_add_one,List.getElem?_eq_getElem hi]
 exact List.drop_left' (by rw[List.length_take];omega)
theorem yq (k:Int) (l:List (List UInt8)) (hk:k=1∨k=2∨k=3∨k=4∨k=5) (hl:l.length<=100) (hs:∀ x∈l,x.length<=1000) :
  Fun Tryz.prog G0 68 [.sc (.int .i64 k),.sl 1 (zB l)] (.tup [.str (ql (ZI k) J9 [] 0 l).1,.sc (.int .i64 (ql (ZI k) J9 [] 0 l).2.1),.str (ql (ZI k) J9 [] 0 l).2.2]) 0:=by
 obtain ⟨A,hA⟩:∃ A,ZI k=A:=⟨_,rfl⟩
 have hall:A.length<=1000000:=by
  subst hA
  rcases hk with rfl | rfl | rfl | rfl | rfl<;>decide
 rw[hA]
 refine fon Tryz.func68 ?_;dsimp only[Tryz.f68]
 rcases hk with rfl | rfl | rfl | rfl | rfl
 case' inl=>have e:A = [112]:=hA.symm.trans rfl
 case' inr.inl=>have e:A = [100,102,114,82]:=hA.symm.trans rfl
 case' inr.inr.inl=>have e:A = [102,110,115,84]:=hA.symm.trans rfl
 case' inr.inr.inr.inl=>have e:A = [102,110,84]:=hA.symm.trans rfl
 case' inr.inr.inr.inr=>have e:A = [102,110,114,82,80,84]:=hA.symm.trans rfl
 all_goals
  push_cast -dsimp
  refine loop (fun p:Nat×List UInt8=>⟨[(1,.sl 1 (zB l)),(7,.str A),(8,.str p.2),(9,.sc (.int .i64 p.1))],[],0,0⟩) (fun p=>p.1<=l.length/\ql A J9 [] 0 l=ql A J9 p.2 p.1 (l.drop p.1)/\p.2.length<=1000*p.1) (fun p=>l.length-p.1) (0,[]) ⟨Nat.zero_le _,rfl,Nat.zero_le _⟩ ?_ ?_
  ·exact wk (by push_cast -dsimp [zb,za,CLe,ze,e])
  ·clear e hA
   rintro ⟨n,s⟩ ⟨hn,hq,hsl⟩
   dsimp only at hn hq hsl ⊢
   by_cases h:n<l.length
   ·have hg:=XT l n h
    have hlw:=hs l[n] (List.getElem_mem h)
    have hstep:=HC (all:=A) (f:=J9) (a:=s) h
    generalize hw:l[n]=w at hg hlw hstep
    by_cases h45:w = [45,45]
    ·rw[if_pos h45]at hstep
     have hr:=hq.trans hstep
     push_cast -dsimp [h,hg,h45]
     repeat refine an ?_
     exact dn (by push_cast -dsimp [zb,za,CLe,ze,hr])
    ·rw[if_neg h45]at hstep
     by_cases h2:w.length<2
     ·rw[if_pos (.inl h2)]at hstep
      have hr:=hq.trans hstep
      have h2':((w.length:Int)<2)=True:=eq_true (by omega)
      push_cast -dsimp [h,hg,h45,h2']
      repeat refine an ?_
      exact dn (by push_cast -dsimp [zb,za,CLe,ze,hr])
     ·have h2':((w.length:Int)<2)=False:=eq_false (by omega)
      have h0:w[0]?=some w[0]:=List.getElem?_eq_getElem (by omega)
      by_cases h3:w[0]=45
      ·have h3':((w[0].toNat:Int)=45)=True:=eq_true (by rw[h3];rfl)
       rw[if_neg (by rw[h0,h3];simp;omega)]at hstep
       push_cast -dsimp [h,hg,h45,h2',h0,h3']
       repeat refine an ?_
       refine loop (fun q:Nat×List UInt8=>⟨[(1,.sl 1 (zB l)),(7,.str A),(8,.str q.2),(9,.sc (.int .i64 n)),(10,.sc (.int .i64 q.1))],[],0,0⟩) (fun q=>1<=q.1/\q.1<=w.length/\JV A J9 s w.tail=JV A J9 q.2 (w.drop q.1)/\q.2.length+1<=1000*n+q.1) (fun q=>w.length-q.1) (1,s) ⟨Nat.le_refl _,by dsimp only;omega,by simp,by dsimp only;omega⟩ ?_ ?_
       ·exact wk
       ·rintro ⟨i,t⟩ ⟨hi1,hi2,hi3,hi4⟩
        dsimp only at hi1 hi2 hi3 hi4 ⊢
        by_cases hi:i<w.length
        ·have hgi:w[i]?=some w[i]:=List.getElem?_eq_getElem hi
         have hws:=zar (all:=A) (f:=J9) (a:=t) hi
         push_cast -dsimp [h,hg,hi,hgi]
         repeat refine an ?_
         refine cl (Uu A w[i] hall) ?_;push_cast -dsimp
         by_cases hm:w[i]∈A
         ·rw[if_pos hm]at hws
          push_cast -dsimp [hm,hg,hgi]
          repeat refine an ?_
          refine ⟨(i+1,t++[w[i]]),⟨by omega,by dsimp only;omega,hi3.trans hws,by simp;omega⟩,by dsimp only;omega,wk (by push_cast -dsimp [zb,za,CLe,ze,zi4 hi])⟩
         ·rw[if_neg hm]at hws
          rw[if_neg (by rw[hi3,hws];simp),hi3,hws]at hstep
          have hr:=hq.trans hstep
          push_cast -dsimp [hm,hg,hgi]
          repeat refine an ?_
          exact dn (by push_cast -dsimp [zb,za,CLe,ze,hr,zi4 hi])
        ·have hil:i=w.length:=by omega
         rw[hil,List.drop_length,JV]at hi3
         rw[if_pos (by rw[hi3]),hi3]at hstep
         push_cast -dsimp [h,hg,hi]
         repeat refine an ?_
         exact ⟨(n+1,t),⟨by dsimp only;omega,hq.trans hstep,by dsimp only;omega⟩,by dsimp only;omega,wk⟩
      ·have h3':((w[0].toNat:Int)=45)=False:=eq_false (fun hh=>h3 (UInt8.toNat_inj.1 (by show _=45;omega)))
       rw[if_pos (.inr (by rw[h0];simpa using h3))]at hstep
       have hr:=hq.trans hstep
       push_cast -dsimp [h,hg,h45,h2',h0,h3']
       repeat refine an ?_
       exact dn (by push_cast -dsimp [zb,za,CLe,ze,hr])
   ·have hkl:n=l.length:=by omega
    subst hkl
    have hr:=hq
    rw[List.drop_length,ql]at hr
    push_cast -dsimp [h]
    exact dn (by push_cast -dsimp [zb,za,CLe,ze,hr])
def zcy (k:Int):Nat:=if k=4∨k=5 then 2 else 1
def jS (k:Int) (o:List UInt8) (ops:List (List UInt8)):List UInt8:=
 if ops.length=0 then (if k=2/\102∈o then [] else [109,105,115,115,105,110,103,32,111,112,101,114,97,110,100])
 else if ops.length<(if 84∈o then 2 else zcy k) then [109,105,115,115,105,110,103,32,100,101,115,116,105,110,97,116,105,111,110,32,111,112,101,114,97,110,100,32,97,102,116,101,114,32]++z6 (ops.getD (ops.length-1) [])
 else if 84∈o/\2<ops.length then [101,120,116,114,97,32,111,112,101,114,97,110,100,32]++z6 (ops.getD 2 []) else []
theorem Qj (l:List UInt8):(z6 l).length<=4*l.length+2:=by
 have:=QuoteWalk.mid_len l
 simp only[z6,List.length_cons,List.length_append,List.length_nil]
 omega
structure zoH where
 kind:Int
 opts:List UInt8
 operands:List (List UInt8)
def Jc (w:List UInt8):Nat->Int
 | 0=>0
 | j+1=>if j0 ((j+1:Nat):Int)=w then ((j+1:Nat):Int) else Jc w j
def YV:zoH:=⟨0,[],[]⟩
def jX (kind:Int) (w:List UInt8) (q:List UInt8×Nat×List UInt8) (r:List (List UInt8)):zoH×List UInt8:=
 if q.2.2≠[] then (YV,w++[58,32,105,110,118,97,108,105,100,32,111,112,116,105,111,110,32]++z6 q.2.2)
 else if jS kind (J1 kind q.1 58) (r.drop q.2.1)≠[] then (YV,w++[58,32]++jS kind (J1 kind q.1 58) (r.drop q.2.1))
 else (⟨kind,J1 kind q.1 58,r.drop q.2.1⟩,[])
def YT:List (List UInt8)->zoH×List UInt8
 | []=>(YV,[109,105,115,115,105,110,103,32,99,111,109,109,97,110,100])
 | w :: r=>if Jc w 5=0 then (YV,z6 w++[58,32,117,110,107,110,111,119,110,32,99,111,109,109,97,110,100])
  else jX (Jc w 5) w (ql (ZI (Jc w 5)) J9 [] 0 r) r
theorem Mj (w:List UInt8):∀ j,0<=Jc w j/\Jc w j<=j
 | 0=>⟨Int.le_refl _,Int.le_refl _⟩
 | j+1=>by
  have:=Mj w j
  unfold Jc
  split<;>omega
theorem Ny (A:List UInt8) (f:Acc):∀ (w s:List UInt8),(JV A f s w).2.length<=1
 | [],s=>Nat.zero_le _
 | c :: w,s=>by
  rw[JV]
  split
  ·exact Ny A f w _
  ·exact Nat.le_refl _
theorem Nx (A:List UInt8):∀ (w s:List UInt8),(JV A J9 s w).1.length<=s.length+w.length
 | [],s=>by simp[JV]
 | c :: w,s=>by
  rw[JV]
  split
  ·have h0:(J9 s c).length=s.length+1:=by simp
   have:=Nx A w (J9 s c);simp only[List.length_cons];omega
  ·simp only[List.length_cons];omega
theorem Zv (A:List UInt8):∀ (l:List (List UInt8)) (s:List UInt8) (n:Nat),(∀ x∈l,x.length<=1000)->(ql A J9 s n l).1.length<=s.length+1000*l.length/\(ql A J9 s n l).2.1<=n+l.length/\(ql A J9 s n l).2.2.length<=1
 | [],s,n,_=>by simp[ql]
 | w :: l,s,n,h=>by
  have hw:=h w (List.mem_cons_self ..)
  have h1:=Ny A J9 w.tail s
  have h2:=Nx A w.tail s
  have h3:w.tail.length<=1000:=by rw[List.length_tail];omega
  have ih:=Zv A l (JV A J9 s w.tail).1 (n+1) fun x hx=>h x (List.mem_cons_of_mem _ hx)
  rw[ql]
  simp only[List.length_cons]
  split
  ·simp only[List.length_nil];omega
  ·split
   ·simp only[List.length_nil];omega
   ·split
    ·omega
    ·dsimp only;omega
abbrev zqF (c:zoH):C:=.agg [.sc (.int .i64 c.kind),.str c.opts,.own 0 9 1 (zB c.operands)]
theorem zeA (l:List (List UInt8)) (hl:l.length<=100) (hs:∀ x∈l,x.length<=1000) :
  Fun Tryz.prog G0 31 [.sl 1 (zB l)] (.tup [zqF (YT l).1,.str (YT l).2]) 1:=by
 refine fof (fun i=>if i=15 then [false,false,false,false,false,false,true,false,true] else []) Tryz.func31 ?_;dsimp only[Tryz.f31]
 rcases l with _ | ⟨w,r⟩
 ·push_cast -dsimp [zB,List.map_nil,List.length_nil]
  exact ⟨[.inr (9,1)],rfl,rfl,by push_cast -dsimp [zb,za,CLe,ze,YT,YV]<;>rfl⟩
 ·have hlr:r.length<=99:=by simp at hl;omega
  have hw:=hs w (List.mem_cons_self ..)
  have hsr:∀ x∈r,x.length<=1000:=fun x hx=>hs x (List.mem_cons_of_mem _ hx)
  have hsC:zB (w :: r) = [.str w] :: zB r:=rfl
  have hp0:((r.length:Int)+1=0)=False:=eq_false (by omega)
  rw[hsC]
  push_cast -dsimp [hp0]
  refine loop (fun j:Nat=>⟨[(0,.sl 1 ([.str w] :: zB r)),(2,.ptr 0 0),(4,.sc (.int .i64 (Jc w j))),(5,.sc (.int .i64 ((j:Int)+1)))],[[.sc (.int .i64 0),.str [],.sc (.slice none 0 0)]],0,0⟩) (fun j=>j<=5) (fun j=>5-j) 0 (Nat.zero_le _) ?_ ?_
  ·exact wk (by push_cast -dsimp [zb,za,CLe,ze,Jc])
  ·rintro j hj
   by_cases h:j<5
   ·have hp1:((j:Int)+1<=5)=True:=eq_true (by omega)
    push_cast -dsimp [hp1]
    refine cl (GZ ((j:Int)+1)) ?_;push_cast -dsimp
    have hku:Jc w (j+1)=if j0 ((j:Int)+1)=w then (j:Int)+1 else Jc w j:=by simp[Jc]
    by_cases hm:j0 ((j:Int)+1)=w
    ·rw[if_pos hm]at hku
     push_cast -dsimp [hm]
     repeat refine an ?_
     exact ⟨j+1,by omega,by omega,wk (by push_cast -dsimp [zb,za,CLe,ze,hku])⟩
    ·rw[if_neg hm]at hku
     push_cast -dsimp [hm]
     repeat refine an ?_
     exact ⟨j+1,by omega,by omega,wk (by push_cast -dsimp [zb,za,CLe,ze,hku])⟩
   ·have hp1:((j:Int)+1<=5)=False:=eq_false (by omega)
    have hj5:j=5:=by omega
    subst hj5
    have hkle:=Mj w 5
    have hrd:YT (w :: r)=if Jc w 5=0 then (YV,z6 w++[58,32,117,110,107,110,111,119,110,32,99,111,109,109,97,110,100]) else jX (Jc w 5) w (ql (ZI (Jc w 5)) J9 [] 0 r) r:=rfl
    generalize Jc w 5=K at hkle hrd ⊢
    by_cases hK0:K=0
    ·rw[if_pos hK0]at hrd
     have hq:=Qj w
     push_cast -dsimp [hp1,hK0]
     refine cl (XG w (by omega)) ?_;push_cast -dsimp
     repeat refine an ?_
     exact ⟨[.inr (9,1)],rfl,rfl,by push_cast -dsimp [zb,za,CLe,ze,hrd,YV]<;>rfl⟩
    ·rw[if_neg hK0]at hrd
     have hkk:K=1∨K=2∨K=3∨K=4∨K=5:=by omega
     have hlet:=yq K r hkk (by omega) hsr
     have hbnd:=Zv (ZI K) r [] 0 hsr
     generalize ql (ZI K) J9 [] 0 r=q at hlet hbnd hrd ⊢
     obtain ⟨s,n,bad⟩:=q
     dsimp only at hlet hbnd
     push_cast -dsimp [hp1,hK0]
     repeat refine an ?_
     refine cl (hlet) ?_;push_cast -dsimp
     by_cases hbad:bad = []
     ·have hdr:List.drop (1+(n:Int)).toNat ([C.str w] :: zB r)=zB (r.drop n):=by
       rw[show (1+(n:Int)).toNat=n+1 by omega,List.drop_succ_cons];simp[zB]
      have hop:(r.drop n).length<=99:=by rw[List.length_drop];omega
      have hso:∀ x∈r.drop n,x.length<=1000:=fun x hx=>hsr x (List.mem_of_mem_drop hx)
      have hrt:jX K w (s,n,bad) r=if jS K (J1 K s 58) (r.drop n)≠[] then (YV,w++[58,32]++jS K (J1 K s 58) (r.drop n)) else (⟨K,J1 K s 58,r.drop n⟩,[]):=by
       unfold jX;rw[if_neg (by simpa using hbad)]
      rw[hrt]at hrd
      have h84:=Uu (J1 K s 58) 84 (by have:=List.length_filter_le (isO K s) ((List.range' 65 58).map UInt8.ofNat);simp at this;unfold J1;omega)
      have h102:=Uu (J1 K s 58) 102 (by have:=List.length_filter_le (isO K s) ((List.range' 65 58).map UInt8.ofNat);simp at this;unfold J1;omega)
      generalize r.drop n=ops at hop hso hrd hdr
      push_cast -dsimp [hbad]
      refine cl (xU K s (by simp at hbnd;omega)) ?_;push_cast -dsimp [hdr]
      generalize J1 K s 58=O at h84 h102 hrd ⊢
      repeat refine an ?_
      have hleast:zcy K=if 4<=K then 2 else 1:=by
       unfold zcy
       by_cases h4:4<=K
       ·rw[if_pos h4,if_pos (by omega)]
       ·rw[if_neg h4,if_neg (by omega)]
      rcases ops with _ | ⟨x,_ | ⟨y,_ | ⟨z,t⟩⟩⟩
      ·by_cases hK2:K=2/\102∈O
       ·have hwv:jS K O [] = []:=by simp[jS,hK2]
        have hr2:=hrd
        rw[hwv,if_neg (by simp)]at hr2
        have h4:¬4<=K:=by omega
        have hK2':=hK2.1
        have m102:=hK2.2
        by_cases m84:84∈O
        all_goals
         push_cast -dsimp [h4,zB,List.map_nil,List.map_cons,List.length_nil,List.length_cons]
         refine cl (h84) ?_;push_cast -dsimp [m84,hK2',zB,List.map_nil,List.map_cons,List.length_nil,List.length_cons]
         refine cl (h102) ?_;push_cast -dsimp [m102,zB,List.map_nil,List.map_cons,List.length_nil,List.length_cons]
         exact ⟨[.inl 0],rfl,rfl,by push_cast -dsimp [zb,za,CLe,ze,hr2,hK2',zB,List.map_nil,List.map_cons,List.length_nil,List.length_cons]⟩
       ·have hwv:jS K O [] = [109,105,115,115,105,110,103,32,111,112,101,114,97,110,100]:=by simp[jS,hK2]
        have hr2:=hrd
        rw[hwv,if_pos (by simp)]at hr2
        by_cases hK2':K=2
        ·have m102:102∉O:=fun h=>hK2 ⟨hK2',h⟩
         have h4:¬4<=K:=by omega
         by_cases m84:84∈O
         all_goals
          push_cast -dsimp [h4,zB,List.map_nil,List.map_cons,List.length_nil,List.length_cons]
          refine cl (h84) ?_;push_cast -dsimp [m84,hK2',zB,List.map_nil,List.map_cons,List.length_nil,List.length_cons]
          refine cl (h102) ?_;push_cast -dsimp [m102,zB,List.map_nil,List.map_cons,List.length_nil,List.length_cons]
          repeat refine an ?_
          exact ⟨[.inr (9,1)],rfl,rfl,by push_cast -dsimp [zb,za,CLe,ze,hr2,YV,List.append_assoc,List.cons_append,List.nil_append]<;>rfl⟩
        ·by_cases h4:4<=K<;>by_cases m84:84∈O
         all_goals
          push_cast -dsimp [h4,hK2',zB,List.map_nil,List.map_cons,List.length_nil,List.length_cons]
          try refine cl (h84) ?_;push_cast -dsimp [m84,hK2',zB,List.map_nil,List.map_cons,List.length_nil,List.length_cons]
          repeat refine an ?_
          exact ⟨[.inr (9,1)],rfl,rfl,by push_cast -dsimp [zb,za,CLe,ze,hr2,YV,List.append_assoc,List.cons_append,List.nil_append]<;>rfl⟩
      ·have hx:=hso x (by simp)
       have hqx:=Qj x
       by_cases hl2:4<=K∨84∈O
       ·have hwv:jS K O [x] = [109,105,115,115,105,110,103,32,100,101,115,116,105,110,97,116,105,111,110,32,111,112,101,114,97,110,100,32,97,102,116,101,114,32]++z6 x:=by
         unfold jS
         rw[if_neg (by simp),if_pos (by rw[hleast];rcases hl2 with h | h<;>simp[h])];rfl
        have hr2:=hrd
        rw[hwv,if_pos (by simp)]at hr2
        have h3:(4<=K/\84∈O)∨(4<=K/\84∉O)∨(¬4<=K/\84∈O):=by
         by_cases a:4<=K<;>by_cases b:84∈O<;>simp[a,b]at hl2 ⊢
        rcases h3 with ⟨h4,m84⟩ | ⟨h4,m84⟩ | ⟨h4,m84⟩
        all_goals
         push_cast -dsimp [h4,zB,List.map_nil,List.map_cons,List.length_nil,List.length_cons]
         try refine cl (h84) ?_;push_cast -dsimp [m84,zB,List.map_nil,List.map_cons,List.length_nil,List.length_cons]
         repeat refine an ?_
         refine cl (XG x (by omega)) ?_;push_cast -dsimp
         repeat refine an ?_
         exact ⟨[.inr (9,1)],rfl,rfl,by push_cast -dsimp [zb,za,CLe,ze,hr2,YV,List.append_assoc,List.cons_append,List.nil_append]<;>rfl⟩
       ·have h4:¬4<=K:=fun h=>hl2 (.inl h)
        have m84:84∉O:=fun h=>hl2 (.inr h)
        have hwv:jS K O [x] = []:=by
         unfold jS
         rw[if_neg (by simp),hleast];simp[h4,m84]
        have hr2:=hrd
        rw[hwv,if_neg (by simp)]at hr2
        push_cast -dsimp [h4,zB,List.map_nil,List.map_cons,List.length_nil,List.length_cons]
        refine cl (h84) ?_;push_cast -dsimp [m84,zB,List.map_nil,List.map_cons,List.length_nil,List.length_cons]
        exact ⟨[.inl 0],rfl,rfl,by push_cast -dsimp [zb,za,CLe,ze,hr2,zB,List.map_nil,List.map_cons,List.length_nil,List.length_cons]⟩
      ·have hwv:jS K O [x,y] = []:=by
        unfold jS
        rw[if_neg (by simp),hleast]
        by_cases h4:4<=K<;>by_cases m84:84∈O<;>simp[h4,m84]
       have hr2:=hrd
       rw[hwv,if_neg (by simp)]at hr2
       by_cases h4:4<=K<;>by_cases m84:84∈O
       all_goals
        push_cast -dsimp [h4,zB,List.map_nil,List.map_cons,List.length_nil,List.length_cons]
        try refine cl (h84) ?_;push_cast -dsimp [m84,zB,List.map_nil,List.map_cons,List.length_nil,List.length_cons]
        exact ⟨[.inl 0],rfl,rfl,by push_cast -dsimp [zb,za,CLe,ze,hr2,zB,List.map_nil,List.map_cons,List.length_nil,List.length_cons]⟩
      ·have hz:=hso z (by simp)
       have hqz:=Qj z
       have hp0:((t.length:Int)+1+1+1=0)=False:=eq_false (by omega)
       have hp2:((t.length:Int)+1+1+1<2)=False:=eq_false (by omega)
       have hp3:((t.length:Int)+1+1+1<1)=False:=eq_false (by omega)
       have hp4:(2<(t.length:Int)+1+1+1)=True:=eq_true (by omega)
       have hp5:(0<(t.length:Int)+1+1+1)=True:=eq_true (by omega)
       by_cases m84:84∈O
       ·have hwv:jS K O (x :: y :: z :: t) = [101,120,116,114,97,32,111,112,101,114,97,110,100,32]++z6 z:=by
         unfold jS
         rw[if_neg (by simp),hleast,if_neg (by simp[m84]),if_pos (by simp[m84])];rfl
        have hr2:=hrd
        rw[hwv,if_pos (by simp)]at hr2
        by_cases h4:4<=K
        all_goals
         push_cast -dsimp [h4,hp0,hp2,hp3,hp4,hp5,zB,List.map_nil,List.map_cons,List.length_nil,List.length_cons]
         try refine cl (h84) ?_;push_cast -dsimp [m84,hp0,hp2,hp3,hp4,hp5,zB,List.map_nil,List.map_cons,List.length_nil,List.length_cons]
         try refine cl (h84) ?_;push_cast -dsimp [m84,hp0,hp2,hp3,hp4,hp5,zB,List.map_nil,List.map_cons,List.length_nil,List.length_cons]
         repeat refine an ?_
         refine cl (XG z (by omega)) ?_;push_cast -dsimp
         repeat refine an ?_
         exact ⟨[.inr (9,1)],rfl,rfl,by push_cast -dsimp [zb,za,CLe,ze,hr2,YV,List.append_assoc,List.cons_append,List.nil_append]<;>rfl⟩
       ·have hwv:jS K O (x :: y :: z :: t) = []:=by
         unfold jS
         rw[if_neg (by simp),hleast]
         by_cases h4:4<=K<;>simp[h4,m84]
        have hr2:=hrd
        rw[hwv,if_neg (by simp)]at hr2
        by_cases h4:4<=K
        all_goals
         push_cast -dsimp [h4,hp0,hp2,hp3,hp4,hp5,zB,List.map_nil,List.map_cons,List.length_nil,List.length_cons]
         try refine cl (h84) ?_;push_cast -dsimp [m84,hp0,hp2,hp3,hp4,hp5,zB,List.map_nil,List.map_cons,List.length_nil,List.length_cons]
         try refine cl (h84) ?_;push_cast -dsimp [m84,hp0,hp2,hp3,hp4,hp5,zB,List.map_nil,List.map_cons,List.length_nil,List.length_cons]
         exact ⟨[.inl 0],rfl,rfl,by push_cast -dsimp [zb,za,CLe,ze,hr2,zB,List.map_nil,List.map_cons,List.length_nil,List.length_cons]⟩
     ·have hqb:=Qj bad
      have hrt:jX K w (s,n,bad) r=(YV,w++[58,32,105,110,118,97,108,105,100,32,111,112,116,105,111,110,32]++z6 bad):=by
       unfold jX;rw[if_pos (by simpa using hbad)]
      rw[hrt]at hrd
      push_cast -dsimp [hbad]
      repeat refine an ?_
      refine cl (XG bad (by omega)) ?_;push_cast -dsimp
      repeat refine an ?_
      exact ⟨[.inr (9,1)],rfl,rfl,by push_cast -dsimp [zb,za,CLe,ze,hrd,YV]<;>rfl⟩
theorem zbQ (l:List (List UInt8)):(YT l).1.operands.length<=l.length:=by
 cases l with
 | nil=>simp[YT,YV]
 | cons w r =>
  rw[YT]
  split
  ·simp[YV]
  ·unfold jX
   split
   ·simp[YV]
   ·split
    ·simp[YV]
    ·simp only[List.length_drop,List.length_cons];omega
end
section
open CA CB
open Go.RowKit
abbrev zpc (k:Int) (o:List UInt8) (ops:List (List UInt8)):List C:=[.sc (.int .i64 k),.str o,.sl 1 (zB ops)]
theorem zcR (d:zr) (hd:d.diags.length<=80000) (k w:Int) (a b:List UInt8) (e:Int) (ha:a.length<=1000) (hb:b.length<=1000):Fun Tryz.prog GD 36 [Vo d,.sc (.int .i64 k),.sc (.int .i64 w),.str a,.str b,.sc (.int .i64 e)] (Vo (Yq d (X3 k w a b e))) 0:=
 (zc7 d hd k w a b e ha hb).weak (by push_cast -dsimp [zb,za,CLe,ze,Yq])
end
section
open CA CB
open Go.RowKit
theorem zgN {f:FsV} {b p:List UInt8} (h:zw (zV f b p true).1.ino f.xs=false):YO f b p=false:=by
 unfold YO
 rw[zl0 h,Bool.and_eq_false_iff]
 exact .inr rfl
theorem ziu (f:FsV) (hf:FsI f) (hr:FsR f) (hs:FsS f) (hd:zbc f.xs) (b p:List UInt8) (hb:b.length<=100000) (hp:p.length<=3000):Fun Tryz.prog G0 74 [.agg (fsC f),.str b,.str p] (.sc (.bool (YO f b p))) 0:=by
 have hsk:=Gu f hf hr hs hd b p true hb hp
 have hg:=Yy (G:=G0) f (zV f b p true).1.ino (by have:=hs.len;omega) hf.rises
 have e:YO f b p=(decide ((zV f b p true).2=0)&&decide ((zf (zV f b p true).1.ino f.xs).kind=2)):=rfl
 have hno:=zgN (f:=f) (b:=b) (p:=p)
 by_cases h1:(zV f b p true).2=0
 ·have h1':=eq_true h1
  rw[decide_eq_true h1,Bool.true_and]at e
  cases hh:zw (zV f b p true).1.ino f.xs with
  | false =>
   rw[hh]at hg
   rw[hno hh]
   refine fon Tryz.func74 ?_;dsimp only[Tryz.f74]
   push_cast -dsimp
   refine cl (hsk) ?_;push_cast -dsimp [h1']
   refine cl (hg) ?_;push_cast -dsimp [h1']
   exact dn (by push_cast -dsimp [zb,za,CLe,ze])
  | true =>
   rw[hh]at hg
   rw[e]
   refine fon Tryz.func74 ?_;dsimp only[Tryz.f74]
   push_cast -dsimp
   refine cl (hsk) ?_;push_cast -dsimp [h1']
   refine cl (hg) ?_;push_cast -dsimp [h1']
   exact dn (by push_cast -dsimp [zb,za,CLe,ze])
 ·have h1':=eq_false h1
  rw[decide_eq_false h1,Bool.false_and]at e
  rw[e]
  refine fon Tryz.func74 ?_;dsimp only[Tryz.f74]
  push_cast -dsimp
  refine cl (hsk) ?_;push_cast -dsimp [h1']
  refine cl (hg) ?_;push_cast -dsimp [h1']
  exact dn (by push_cast -dsimp [zb,za,CLe,ze])
end
section
open CA CB
open Go.RowKit
end
section
open CA CB
open Go.RowKit
end
section
open CA CB
open Go.RowKit
end
section
open CA CB
open Go.RowKit
theorem NL {w0:zS} {N K:Nat} {d:zr} (h:MkG w0 N K d) (hN:N<=3200) (hK:K<=80000) (b p:List UInt8) (hb:b.length<=100000) (hp:p.length<=2000):Fun Tryz.prog GD 33 [Vo d,.str b,.str p] (.tup [Vo (jW b d p).1,.sc (.int .i64 (jW b d p).2)]) 0:=by
 have hs:=h.s (by omega) hK
 have hsk:=(Gu d.w.fs h.wi.fs h.wr.fs hs.ws.fs h.dat b p false hb (by omega)).g0 (G':=GD)
 obtain ⟨R,e⟩:∃ R,jW b d p=R:=⟨_,rfl⟩
 rw[e]
 unfold jW at e
 by_cases h1:(zV d.w.fs b p false).2=0
 case neg =>
  have h1':=eq_false h1
  rw[if_pos h1]at e
  rw[←e]
  refine fof (fun i=>if i=9 then [false,false,false,false,false,false,false,false,true] else []) Tryz.func33 ?_;dsimp only[Tryz.f33]
  push_cast -dsimp
  refine cl (hsk) ?_;push_cast -dsimp [h1']
  exact dn (by push_cast -dsimp [zb,za,CLe,ze])
 have h1':=eq_true h1
 rw[if_neg (fun q=>q h1)]at e
 by_cases h2:(zV d.w.fs b p false).1.ino=0
 case neg =>
  have h2':=eq_false h2
  rw[if_pos h2]at e
  rw[←e]
  refine fof (fun i=>if i=9 then [false,false,false,false,false,false,false,false,true] else []) Tryz.func33 ?_;dsimp only[Tryz.f33]
  push_cast -dsimp
  refine cl (hsk) ?_;push_cast -dsimp [h1',h2']
  exact dn (by push_cast -dsimp [zb,za,CLe,ze])
 have h2':=eq_true h2
 rw[if_neg (fun q=>q h2)]at e
 have hma:=(xe (zV d.w.fs b p false).1.name (by have:=zbh hs.ws.fs b p false (by omega);omega)).g0 (G':=GD)
 cases hm:may (zV d.w.fs b p false).1.name with
 | false =>
  rw[hm]at hma e
  rw[if_pos rfl]at e
  rw[←e]
  refine fof (fun i=>if i=9 then [false,false,false,false,false,false,false,false,true] else []) Tryz.func33 ?_;dsimp only[Tryz.f33]
  push_cast -dsimp
  refine cl (hsk) ?_;push_cast -dsimp [h1',h2']
  refine cl (hma) ?_;push_cast -dsimp
  exact dn (by push_cast -dsimp [zb,za,CLe,ze])
 | true =>
  have hok:=h.ok hN
  have hfr:=N6 h.wi.fs (NY h1) h2 hm
  rw[hm]at hma e
  rw[if_neg (by simp)]at e
  have hpa:=(zbV d.w.fs hok _ hfr.has hfr.kind hm).g0 (G':=GD)
  have hpl:=vG hok hfr.has hfr.kind hm
  have hadd:=zmF d hs (jJ d.w.fs (zV d.w.fs b p false).1) (by omega) (zi9 h.wi hok hfr h2 hm).1
  rw[e]at hadd
  have eo:opL (jL (jJ d.w.fs (zV d.w.fs b p false).1)) = [.sc (.int .i64 1),.sc (.int .i64 0),.str (jJ d.w.fs (zV d.w.fs b p false).1),.str [],.str []]:=rfl
  rw[eo]at hadd
  refine fof (fun i=>if i=9 then [false,false,false,false,false,false,false,false,true] else []) Tryz.func33 ?_;dsimp only[Tryz.f33]
  push_cast -dsimp
  refine cl (hsk) ?_;push_cast -dsimp [h1',h2']
  refine cl (hma) ?_;push_cast -dsimp
  refine cl (hpa) ?_;push_cast -dsimp
  refine cl (hadd) ?_;push_cast -dsimp
  exact dn (by push_cast -dsimp [zb,za,CLe,ze])
theorem vu (p:List UInt8) (i:Nat):(zkm p i).length<=p.length+2:=by
 have h1:=VR p
 have h2:kC ((zh p).take (i+1))<=kC (zh p):=by
  have:zh p=(zh p).take (i+1)++(zh p).drop (i+1):=(List.take_append_drop ..).symm
  have e:kC (zh p)=kC ((zh p).take (i+1))+kC ((zh p).drop (i+1)):=by
   conv=>lhs;rw[this]
   unfold kC
   rw[List.map_append,List.sum_append]
  omega
 have h3:=Yl ((zh p).take (i+1))
 unfold zkm put
 cases Hm p<;>simp<;>omega
theorem vm {p:List UInt8} {i:Nat} (h:i<(zh p).length):(QK p)[i]?=some (zkm p i):=by
 unfold QK
 rw[List.getElem?_map,List.getElem?_range h]
 rfl
end
section
open CA CB
open Go.RowKit
def goD (b:List UInt8) (d:zr) (r:List UInt8):zr:=if YO d.w.fs b r then d else (jW b d r).1
def goE (b:List UInt8) (d:zr) (r:List UInt8):Int:=if YO d.w.fs b r then 0 else (jW b d r).2
def j3 (b:List UInt8) (d:zr) (l:List (List UInt8)) (k:Nat):zr:=(l.take k).foldl (goD b) d
theorem vn {b:List UInt8} {d:zr} {p:List UInt8} (h:(jW b d p).2≠0):(jW b d p).1=d:=by
 unfold jW at h ⊢
 by_cases h1:(zV d.w.fs b p false).2≠0
 ·rw[if_pos h1]
 rw[if_neg h1]at h ⊢
 by_cases h2:(zV d.w.fs b p false).1.ino≠0
 ·rw[if_pos h2]
 rw[if_neg h2]at h ⊢
 by_cases h3:may (zV d.w.fs b p false).1.name=false
 ·rw[if_pos h3]
 rw[if_neg h3]at h ⊢
 exact zbC h
theorem NK (b r:List UInt8) (l:List (List UInt8)) (d:zr):X0 b (r :: l) d=if goE b d r≠0 then (goD b d r,goE b d r) else X0 b l (goD b d r):=by
 unfold goE goD
 show (if YO d.w.fs b r then X0 b l d else if (jW b d r).2≠0 then (d,(jW b d r).2) else X0 b l (jW b d r).1)=_
 cases hd:YO d.w.fs b r with
 | true=>rfl
 | false =>
  simp only[Bool.false_eq_true,if_false]
  by_cases he:(jW b d r).2≠0
  ·rw[if_pos he,if_pos he,vn he]
  ·rw[if_neg he,if_neg he]
theorem Xs {b:List UInt8} {d:zr} {l:List (List UInt8)} {k:Nat} (h:k<l.length):j3 b d l (k+1)=goD b (j3 b d l k) l[k]:=by
 unfold j3
 rw[List.take_succ_eq_append_getElem h,List.foldl_append]
 rfl
theorem xw {b:List UInt8} {d:zr} {l:List (List UInt8)}:∀ k,k<=l.length->(∀ j (h:j<l.length),j<k->goE b (j3 b d l j) l[j]=0)->X0 b l d=X0 b (l.drop k) (j3 b d l k)
 | 0,_,_=>rfl
 | k+1,hk,h=>by
  rw[xw k (by omega) fun j hj hl=>h j hj (by omega),List.drop_eq_getElem_cons (show k<l.length by omega),NK,if_neg (fun q=>q (h k (by omega) (by omega))),Xs (show k<l.length by omega)]
theorem zdM {b:List UInt8} {d:zr} {l:List (List UInt8)} {k:Nat} (hk:k<l.length) (h:∀ j (h:j<l.length),j<k->goE b (j3 b d l j) l[j]=0) (he:goE b (j3 b d l k) l[k]≠0):X0 b l d=(j3 b d l (k+1),goE b (j3 b d l k) l[k]):=by
 rw[xw k (by omega) h,List.drop_eq_getElem_cons hk,NK,if_pos he,Xs hk]
theorem zfa {w0:zS} {N K:Nat} {d:zr} (h:MkG w0 N K d) (b:List UInt8) {l:List (List UInt8)} (hl:N+l.length<=3200):∀ k,k<=l.length->MkG w0 (N+k) K (j3 b d l k)
 | 0,_=>h
 | k+1,hk=>by
  have ih:=zfa h b hl k (by omega)
  rw[Xs (show k<l.length by omega)]
  unfold goD
  split
  ·exact ih.mono (by omega) (Nat.le_refl _)
  ·exact (HZ (P:=fun _=>True) (fun _ _ _ _ _ _ _ _ _ _=>trivial) ih (by omega) trivial b _).1.mono (by split<;>omega) (Nat.le_refl _)
abbrev zcQ (l:List (List UInt8)):List (List C):=l.map fun x=>[.str x]
theorem zcx (p:List UInt8):Fun Tryz.prog GD 73 [.str p] (.clo (.func 122) [] [.row [.str p]]) 0:=by
 refine fon Tryz.func73 ?_;dsimp only[Tryz.f73]
 push_cast -dsimp
 exact dn (by push_cast -dsimp [zb,za,CLe,ze])
theorem zdp (p:List UInt8) (hp:p.length<=2000):Mc Tryz.prog GD 122 [] [.row [.str p]] [] (zcQ (QK p)):=by
 have hre:Fun Tryz.prog GD 107 [.str p] (.agg [qh (Hm p),.own 0 9 1 (zB (zh p)),qh (jz p)]) 1:=(Vc p (by omega)).g0
 have hns:=z7 p
 have hput:=fun k:Nat=>(zlC (Hm p) ((zh p).take (k+1)) false (by rw[List.length_take];omega) (by
  have h1:=vu p k
  unfold zkm put at h1
  simp at h1
  omega)).g0 (G':=GD)
 have hk:=fun k (h:k<(zh p).length)=>vm (p:=p) h
 have hll:(zB (zh p)).length=(zh p).length:=List.length_map ..
 have htk:=fun k:Nat=>show (zB (zh p)).take (k+1)=zB ((zh p).take (k+1)) from List.map_take.symm
 have hrl:=Jm p
 have e:∀ k,put (Hm p) ((zh p).take (k+1)) false=zkm p k:=fun k=>rfl
 unfold zkk at hput
 simp only[e]at hput
 clear e
 generalize zh p=ns at *
 refine foI (fun i=>if i=4 then [false,false,false,false,false,false,false,false,false,false,true] else []) Tryz.func122 ?_;dsimp only[Tryz.f122]
 intro l sf
 push_cast -dsimp
 refine cl (hre) ?_;push_cast -dsimp
 refine loop (fun k:Nat=>⟨[(0,.sc (.func (.yield l) #[] #[])),(3,.ptr 0 0),(9,.sc (.int .i64 (ns.length:Nat))),(10,.sc (.int .i64 k))],[[qh (Hm p),.sl 1 (zB ns),qh (jz p)]],0,k⟩) (fun k=>k<=ns.length/\∀ j,j<k->sf j=false) (fun k=>ns.length-k) 0 ⟨Nat.zero_le _,fun j hj=>absurd hj (Nat.not_lt_zero _)⟩ ?_ ?_
 ·exact wk (h4:=by push_cast -dsimp [zb,za,CLe,ze,hll])
 rintro k ⟨h1,h2⟩
 by_cases hi:k<ns.length
 ·have hi':=eq_true (show (k:Int)<ns.length by omega)
  have hik:(zcQ (QK p))[k]?=some [.str (zkm p k)]:=by
   rw[List.getElem?_map,hk k hi];rfl
  have ht:=htk k
  have hpk:=hput k
  push_cast -dsimp [hi',hll,ht]
  repeat refine an ?_
  refine cl (hpk) ?_;push_cast -dsimp [hik]
  refine ⟨by push_cast -dsimp [zb,za,CLe,ze],h2,br (fun hs=>?_) (fun hs=>?_)⟩
  ·push_cast -dsimp
   exact .inr ⟨Nat.succ_pos _,hs⟩
  ·push_cast -dsimp
   repeat refine an ?_
   refine ⟨k+1,⟨by omega,fun j hj=>?_⟩,by omega,wk⟩
   rcases Nat.lt_or_ge j k with q | q
   ·exact h2 j q
   ·rw[show j=k by omega];exact hs
 ·have hi':=eq_false (show ¬(k:Int)<ns.length by omega)
  push_cast -dsimp [hi']
  exact .inl ⟨by rw[List.length_map,hrl];omega,h2⟩
theorem zij {w0:zS} {N K:Nat} {d:zr} (h:MkG w0 N K d) (b p:List UInt8) (hN:N+(zh p).length<=3200) (hK:K<=80000) (hb:b.length<=100000) (hp:p.length<=1000):Fun Tryz.prog GD 35 [Vo d,.str b,.str p] (.tup [Vo (zfC b d p).1,.sc (.int .i64 (zfC b d p).2)]) 0:=by
 have hlo:=(Hn p (by omega)).g0 (G':=GD)
 by_cases h1:p = []
 ·have e:zfC b d p=(d,1):=if_pos h1
  rw[e]
  subst h1
  refine fon Tryz.func35 ?_;dsimp only[Tryz.f35]
  push_cast -dsimp
  exact dn (by push_cast -dsimp [zb,za,CLe,ze])
 have h1':=eq_false h1
 cases h2:QB p with
 | true =>
  have e:zfC b d p=(d,7):=by unfold zfC;rw[if_neg h1,if_pos h2]
  rw[h2]at hlo
  rw[e]
  refine fon Tryz.func35 ?_;dsimp only[Tryz.f35]
  push_cast -dsimp [h1']
  refine cl (hlo) ?_;push_cast -dsimp
  exact dn (by push_cast -dsimp [zb,za,CLe,ze])
 | false =>
  have e:zfC b d p=X0 b (QK p) d:=by unfold zfC;rw[if_neg h1,if_neg (by rw[h2];decide)]
  rw[h2]at hlo
  rw[e]
  have hit:=zdp p (by omega)
  have hG:=zfa h b (l:=QK p) (by rw[Jm];exact hN)
  have hrs:∀ (k:Nat) (hk:k<(QK p).length),(QK p)[k].length<=2000:=fun k hk=>by
   have:=vm (p:=p) (i:=k) (by rw[Jm]at hk;exact hk)
   rw[List.getElem?_eq_getElem hk]at this
   have:=vu p k
   simp_all
   omega
  have hrl:(QK p).length=(zh p).length:=Jm p
  have hro:=zcx p
  generalize QK p=L at *
  refine fon Tryz.func35 ?_;dsimp only[Tryz.f35]
  push_cast -dsimp [h1']
  refine cl (hlo) ?_;push_cast -dsimp
  refine cl (hro) ?_;push_cast -dsimp
  refine range (zcQ L) (fun k=>match L[k]? with | some r=>!decide (goE b (j3 b d L k) r=0) | none=>false) 4 (fun k=>⟨[],[zkV (j3 b d L k),[.str b],ZH,[.any]],0,0⟩) hit (by push_cast -dsimp) (by push_cast -dsimp) (by push_cast -dsimp) (Nat.zero_le _) (by push_cast -dsimp) (fun it h=>?_) (fun k _=>rfl) ?_ (fun k it hk hsf=>?_) (fun hsf=>?_)
  ·obtain ⟨x,_,rfl⟩:=List.mem_map.1 h;rfl
  ·exact wk (h5:=by push_cast -dsimp [zb,za,CLe,ze,show j3 b d L 0=d from rfl])
  ·have hkl:k<L.length:=by
    have:=(List.getElem?_eq_some_iff.1 hk).1
    rwa [List.length_map]at this
   have hit:it = [.str L[k]]:=by
    rw[List.getElem?_map,List.getElem?_eq_getElem hkl]at hk
    exact (Option.some.inj hk).symm
   subst hit
   have hz:∀ j (hj:j<L.length),j<k->goE b (j3 b d L j) L[j]=0:=fun j hj hl=>by
    have:=hsf j hl
    rw[List.getElem?_eq_getElem hj]at this
    simpa using this
   have hst:=zdM (b:=b) (d:=d) hkl hz
   have hsu:=Xs (b:=b) (d:=d) hkl
   have hGk:=hG k (by omega)
   have hgk:L[k]?=some L[k]:=List.getElem?_eq_getElem hkl
   have hr:=hrs k hkl
   have hs:=hGk.s (by omega) hK
   have hdi:=(ziu (j3 b d L k).w.fs hGk.wi.fs hGk.wr.fs hs.ws.fs hGk.dat b L[k] hb (by omega)).g0 (G':=GD)
   have hma:=NL hGk (by omega) hK b L[k] hb hr
   have eE:goE b (j3 b d L k) L[k]=if YO (j3 b d L k).w.fs b L[k] then 0 else (jW b (j3 b d L k) L[k]).2:=rfl
   have eD:goD b (j3 b d L k) L[k]=if YO (j3 b d L k).w.fs b L[k] then j3 b d L k else (jW b (j3 b d L k) L[k]).1:=rfl
   generalize j3 b d L (k+1)=D1 at *
   generalize hDk:j3 b d L k=D at *
   generalize L[k]=r at *
   cases hd:YO D.w.fs b r with
   | true =>
    rw[hd]at hdi
    rw[hd,if_pos rfl]at eE eD
    rw[eD]at hsu
    subst hsu
    push_cast -dsimp
    refine cl (hdi) ?_;push_cast -dsimp
    refine ⟨by rw[hgk];simp[hDk,eE],wk⟩
   | false =>
    rw[hd]at hdi
    rw[hd,if_neg (by simp)]at eE eD
    rw[eD]at hsu
    rw[←hsu,←eE]at hma
    by_cases he:goE b D r=0
    ·have he':=eq_true he
     push_cast -dsimp
     refine cl (hdi) ?_;push_cast -dsimp
     refine cl (hma) ?_;push_cast -dsimp [he']
     refine ⟨by rw[hgk];simp[hDk,he],wk⟩
    ·have he':=eq_false he
     have hst:=hst he
     push_cast -dsimp
     refine cl (hdi) ?_;push_cast -dsimp
     refine cl (hma) ?_;push_cast -dsimp [he']
     have hse:=vn (b:=b) (d:=D) (p:=r) (by rw[←eE];exact he)
     rw[hse]at hsu
     refine ⟨by rw[hgk];simp[hDk,he],⟨[],[ZH,[.any],zkV D1,[.sc (.int .i64 (goE b D r))]],0,0⟩,rfl,wk (h5:=by push_cast -dsimp [zb,za,CLe,ze,hsu]),?_⟩
     rw[hst]
     push_cast -dsimp
     exact dn (by push_cast -dsimp [zb,za,CLe,ze])
  ·have hz:∀ j (hj:j<L.length),j<L.length->goE b (j3 b d L j) L[j]=0:=fun j hj hl=>by
    have:=hsf j (by rw[List.length_map];exact hj)
    rw[List.getElem?_eq_getElem hj]at this
    simpa using this
   have hfin:=xw (b:=b) (d:=d) L.length (Nat.le_refl _) hz
   rw[List.drop_length]at hfin
   have hfin:X0 b L d=(j3 b d L L.length,0):=hfin
   rw[hfin,List.length_map]
   push_cast -dsimp
   exact dn (by push_cast -dsimp [zb,za,CLe,ze])
end
section
open CA CB
open Go.RowKit
theorem Jl {l:List (List UInt8)} {i:Nat} (hi:i<l.length):qc (l.take i)+(zh l[i]).length<=qc l:=by
 have e:qc (l.take (i+1))=qc (l.take i)+(zh l[i]).length:=by
  rw[List.take_succ_eq_append_getElem hi]
  unfold qc
  rw[List.map_append,List.sum_append]
  simp
 have e2:qc l=qc (l.take (i+1))+qc (l.drop (i+1)):=by
  conv=>lhs;rw[←List.take_append_drop (i+1) l]
  unfold qc
  rw[List.map_append,List.sum_append]
 omega
structure MpI (w0:zS) (N K:Nat) (b o:List UInt8) (l:List (List UInt8)) (d:zr) (i:Nat) (D:zr):Prop where
 le:i<=l.length
 eq:D=zbp b o (l.take i) d
 g:MkG w0 (N+qc (l.take i)) (K+i) D
theorem MpI.step {w0:zS} {N K:Nat} {b o:List UInt8} {l:List (List UInt8)} {d D:zr} {i:Nat} (h:MpI w0 N K b o l d i D) (hi:i<l.length) (hN:N+qc l<=3200):MpI w0 N K b o l d (i+1) (ziX b o D l[i]):=by
 have hnm:=Jl hi
 have e:qc (l.take (i+1))=qc (l.take i)+(zh l[i]).length:=by
  rw[List.take_succ_eq_append_getElem hi]
  unfold qc
  rw[List.map_append,List.sum_append]
  simp
 obtain ⟨g1,_⟩:=zbD (P:=fun _=>True) (p:=l[i]) (fun _ _ _ _ _ _ _ _ _ _=>trivial) (fun _ _ _=>trivial) b o h.g (by omega) trivial
 refine ⟨by omega,?_,g1.mono (by rw[e];omega) (by omega)⟩
 rw[List.take_succ_eq_append_getElem hi]
 unfold zbp
 rw[List.foldl_append]
 show _=ziX b o (zbp b o (l.take i) d) l[i]
 rw[←h.eq]
theorem Vp (k:Int) (b o:List UInt8) (l:List (List UInt8)) {w0:zS} {N K:Nat} {d:zr} (hG:MkG w0 N K d) (hN:N+qc l<=3200) (hK:K+l.length<=80000) (hb:b.length<=1000) (hp:∀ x∈l,x.length<=1000):Fun Tryz.prog GD 11 [Vo d,.str b,.agg (zpc k o l)] (Vo (zbp b o l d)) 0:=by
 have hll:(zB l).length=l.length:=List.length_map ..
 have hha:=(zkn k o (.sl 1 (zB l)) 112 rfl).g0 (G':=GD)
 by_cases hc:(112:UInt8)∈o
 ·have hF:∀ i (hi:i<l.length) D,MkG w0 (N+qc (l.take i)) (K+i) D->Fun Tryz.prog GD 35 [Vo D,.str b,.str l[i]] (.tup [Vo (Ju b o D l[i]).1,.sc (.int .i64 (Ju b o D l[i]).2)]) 0:=fun i hi D hD=>by
   have e:Ju b o D l[i]=zfC b D l[i]:=if_pos hc
   rw[e]
   exact zij hD b l[i] (by have:=Jl hi;omega) (by omega) (by omega) (hp _ (List.getElem_mem hi))
  rw[decide_eq_true hc]at hha
  refine fon Tryz.func11 ?_;dsimp only[Tryz.f11]
  push_cast -dsimp
  refine cl (hha) ?_;push_cast -dsimp
  refine loop (fun q:Nat×zr=>⟨[(1,.str b),(3,.ptr 0 0),(5,.ptr 1 0),(6,.ptr 2 0),(7,.clo (.func 35) [] []),(15,.sl 1 (zB l)),(16,.sc (.int .i64 (l.length:Nat))),(17,.sc (.int .i64 q.1))],[zkV q.2,zpc k o l,ZH],0,0⟩) (fun q=>MpI w0 N K b o l d q.1 q.2) (fun q=>l.length-q.1) (0,d) ⟨Nat.zero_le _,rfl,hG.mono (by omega) (by omega)⟩ ?_ ?_
  ·exact wk (h4:=by push_cast -dsimp [zb,za,CLe,ze,hll])
  rintro ⟨i,D⟩ hI
  dsimp only at hI
  have h1:=hI.le
  by_cases hi:i<l.length
  case neg =>
   have hil:i=l.length:=by omega
   have hi':=eq_false (show ¬(i:Int)<l.length by omega)
   have e:=hI.eq
   rw[hil,List.take_length]at e
   push_cast -dsimp [hi']
   rw[←e]
   exact dn (by push_cast -dsimp [zb,za,CLe,ze])
  have hN2:=hI.step hi hN
  have hi':=eq_true (show (i:Int)<l.length by omega)
  have hgi:(zB l)[i]?=some [.str l[i]]:=by simp[zB,hi]
  have hpl:=hp _ (List.getElem_mem hi)
  have hop:=hF i hi D hI.g
  have hnm:=Jl hi
  have hfr:=(kH (P:=fun _=>True) (fun _ _ _ _ _ _ _ _ _ _=>trivial) b o (p:=l[i]) hI.g (by omega) trivial).1
  have eM:ziX b o D l[i]=if (Ju b o D l[i]).2≠0 then Yq (Ju b o D l[i]).1 (X3 1 1 l[i] [] (Ju b o D l[i]).2) else (Ju b o D l[i]).1:=rfl
  generalize l[i]=p at *
  generalize Ju b o D p=R at *
  by_cases he:R.2=0
  ·have he':=eq_true he
   rw[if_neg (fun q=>q he)]at eM
   rw[eM]at hN2
   push_cast -dsimp [hi',hgi,hll,Int.toNat_natCast]
   repeat refine an ?_
   refine cl (hop) ?_;push_cast -dsimp [he']
   repeat refine an ?_
   exact ⟨(i+1,R.1),hN2,by dsimp only;omega,wk⟩
  ·have he':=eq_false he
   rw[if_pos he]at eM
   rw[eM]at hN2
   have ht:=zcR R.1 (by have:=hfr.diags;omega) 1 1 p [] R.2 hpl (Nat.zero_le _)
   push_cast -dsimp [hi',hgi,hll,Int.toNat_natCast]
   repeat refine an ?_
   refine cl (hop) ?_;push_cast -dsimp [he']
   refine cl (ht) ?_;push_cast -dsimp
   repeat refine an ?_
   exact ⟨(i+1,_),hN2,by dsimp only;omega,wk (h5:=by push_cast -dsimp [zb,za,CLe,ze,Yq])⟩
 ·have hF:∀ i (hi:i<l.length) D,MkG w0 (N+qc (l.take i)) (K+i) D->Fun Tryz.prog GD 33 [Vo D,.str b,.str l[i]] (.tup [Vo (Ju b o D l[i]).1,.sc (.int .i64 (Ju b o D l[i]).2)]) 0:=fun i hi D hD=>by
   have e:Ju b o D l[i]=jW b D l[i]:=if_neg hc
   rw[e]
   exact NL hD (by have:=Jl hi;omega) (by omega) b l[i] (by omega) (by have:=hp _ (List.getElem_mem hi);omega)
  rw[decide_eq_false hc]at hha
  refine fon Tryz.func11 ?_;dsimp only[Tryz.f11]
  push_cast -dsimp
  refine cl (hha) ?_;push_cast -dsimp
  refine loop (fun q:Nat×zr=>⟨[(1,.str b),(3,.ptr 0 0),(5,.ptr 1 0),(6,.ptr 2 0),(7,.clo (.func 33) [] []),(15,.sl 1 (zB l)),(16,.sc (.int .i64 (l.length:Nat))),(17,.sc (.int .i64 q.1))],[zkV q.2,zpc k o l,ZH],0,0⟩) (fun q=>MpI w0 N K b o l d q.1 q.2) (fun q=>l.length-q.1) (0,d) ⟨Nat.zero_le _,rfl,hG.mono (by omega) (by omega)⟩ ?_ ?_
  ·exact wk (h4:=by push_cast -dsimp [zb,za,CLe,ze,hll])
  rintro ⟨i,D⟩ hI
  dsimp only at hI
  have h1:=hI.le
  by_cases hi:i<l.length
  case neg =>
   have hil:i=l.length:=by omega
   have hi':=eq_false (show ¬(i:Int)<l.length by omega)
   have e:=hI.eq
   rw[hil,List.take_length]at e
   push_cast -dsimp [hi']
   rw[←e]
   exact dn (by push_cast -dsimp [zb,za,CLe,ze])
  have hN2:=hI.step hi hN
  have hi':=eq_true (show (i:Int)<l.length by omega)
  have hgi:(zB l)[i]?=some [.str l[i]]:=by simp[zB,hi]
  have hpl:=hp _ (List.getElem_mem hi)
  have hop:=hF i hi D hI.g
  have hnm:=Jl hi
  have hfr:=(kH (P:=fun _=>True) (fun _ _ _ _ _ _ _ _ _ _=>trivial) b o (p:=l[i]) hI.g (by omega) trivial).1
  have eM:ziX b o D l[i]=if (Ju b o D l[i]).2≠0 then Yq (Ju b o D l[i]).1 (X3 1 1 l[i] [] (Ju b o D l[i]).2) else (Ju b o D l[i]).1:=rfl
  generalize l[i]=p at *
  generalize Ju b o D p=R at *
  by_cases he:R.2=0
  ·have he':=eq_true he
   rw[if_neg (fun q=>q he)]at eM
   rw[eM]at hN2
   push_cast -dsimp [hi',hgi,hll,Int.toNat_natCast]
   repeat refine an ?_
   refine cl (hop) ?_;push_cast -dsimp [he']
   repeat refine an ?_
   exact ⟨(i+1,R.1),hN2,by dsimp only;omega,wk⟩
  ·have he':=eq_false he
   rw[if_pos he]at eM
   rw[eM]at hN2
   have ht:=zcR R.1 (by have:=hfr.diags;omega) 1 1 p [] R.2 hpl (Nat.zero_le _)
   push_cast -dsimp [hi',hgi,hll,Int.toNat_natCast]
   repeat refine an ?_
   refine cl (hop) ?_;push_cast -dsimp [he']
   refine cl (ht) ?_;push_cast -dsimp
   repeat refine an ?_
   exact ⟨(i+1,_),hN2,by dsimp only;omega,wk (h5:=by push_cast -dsimp [zb,za,CLe,ze,Yq])⟩
end
section
open CA CB
open Go.RowKit
end
section
open CA CB
open Go.RowKit
def JG (w:zS) (b:List UInt8) (l:List (List UInt8)):Prop:=(∀ x∈l.take 20,x.length<=1000)/\okW w/\w.fs.next<549755813888/\jv w.kept<536870912/\QQ w.fs b []=true/\jN b=true/\l.length<=6
instance (w:zS) (b:List UInt8) (l:List (List UInt8)):Decidable (JG w b l):=by unfold JG;infer_instance
theorem uo (w:zS) (b:List UInt8) (l:List (List UInt8)) (hb:b.length<=2000000):Fun Tryz.prog G0 9 [ZZ w,.str b,.sl 1 (zB l)] (qh (decide (JG w b l))) 0:=by
 have hll:(zB l).length=l.length:=List.length_map ..
 have hpl:=Y9 b hb
 unfold Jz at hpl
 have hok:=zb8 w
 have hsh:=uL w.fs b []
 refine fon Tryz.func9 ?_;dsimp only[Tryz.f9]
 push_cast -dsimp
 refine cl (hpl) ?_;push_cast -dsimp
 refine loop (fun i:Nat=>⟨[(1,.str b),(2,.sl 1 (zB l)),(3,.ptr 0 0),(8,.sc (.bool (jN b))),(9,.sc (.int .i64 i))],[UH w],0,0⟩) (fun i=>i<=l.length/\i<=20/\∀ x∈l.take i,x.length<=1000) (fun i=>l.length-i) 0 ⟨Nat.zero_le _,Nat.zero_le _,fun x hx=>by rw[List.take_zero]at hx;cases hx⟩ ?_ ?_
 ·exact wk
 rintro i ⟨h1,h2,h3⟩
 by_cases hi:i<l.length
 ·have hi':=eq_true (show (i:Int)<l.length by omega)
  by_cases h20:i<20
  ·have h20':=eq_true (show (i:Int)<20 by omega)
   have hgi:(zB l)[i]?=some [.str l[i]]:=by simp[zB,hi]
   have ht:l.take (i+1)=l.take i++[l[i]]:=List.take_succ_eq_append_getElem hi
   by_cases hx:l[i].length<=1000
   ·have hx':=eq_false (show ¬(1000:Int)<l[i].length by omega)
    push_cast -dsimp [hi',h20',hgi,hll,hx',Int.toNat_natCast]
    repeat refine an ?_
    exact ⟨i+1,⟨by omega,by omega,fun x hm=>by
     rw[ht]at hm
     rcases List.mem_append.1 hm with hm | hm
     ·exact h3 x hm
     ·rw[List.mem_singleton.1 hm];exact hx⟩,by omega,wk⟩
   ·have hx':=eq_true (show (1000:Int)<l[i].length by omega)
    have hn:¬JG w b l:=fun h=>hx (h.1 _ (List.mem_take_iff_getElem.2 ⟨i,by omega,rfl⟩))
    push_cast -dsimp [hi',h20',hgi,hll,hx',Int.toNat_natCast]
    repeat refine an ?_
    exact dn (by push_cast -dsimp [zb,za,CLe,ze,hn])
  ·have h20':=eq_false (show ¬(i:Int)<20 by omega)
   have hx:∀ x∈l.take 20,x.length<=1000:=by rw[show i=20 by omega]at h3;exact h3
   by_cases k1:okW w
   case neg =>
    have hn:¬JG w b l:=fun h=>k1 h.2.1
    rw[decide_eq_false k1]at hok
    push_cast -dsimp [hi',h20',hll]
    refine cl (hok) ?_;push_cast -dsimp
    exact dn (by push_cast -dsimp [zb,za,CLe,ze,hn])
   rw[decide_eq_true k1]at hok
   have hs:=k1.2.2.2.2.1
   have hla:=VD (G:=G0) w (by have:=(zcC k1).klen;omega) hs.1 hs.2
   by_cases k2:w.fs.next<549755813888
   case neg =>
    have hn:¬JG w b l:=fun h=>k2 h.2.2.1
    have k2':=eq_false k2
    push_cast -dsimp [hi',h20',hll]
    refine cl (hok) ?_;push_cast -dsimp [k2']
    exact dn (by push_cast -dsimp [zb,za,CLe,ze,hn])
   have k2':=eq_true k2
   by_cases k3:jv w.kept<536870912
   case neg =>
    have hn:¬JG w b l:=fun h=>k3 h.2.2.2.1
    have k3':=eq_false k3
    push_cast -dsimp [hi',h20',hll]
    refine cl (hok) ?_;push_cast -dsimp [k2']
    refine cl (hla) ?_;push_cast -dsimp [k3']
    exact dn (by push_cast -dsimp [zb,za,CLe,ze,hn])
   have k3':=eq_true k3
   cases k4:QQ w.fs b []
   case false =>
    have hn:¬JG w b l:=fun h=>by rw[h.2.2.2.2.1]at k4;cases k4
    rw[k4]at hsh
    push_cast -dsimp [hi',h20',hll]
    refine cl (hok) ?_;push_cast -dsimp [k2']
    refine cl (hla) ?_;push_cast -dsimp [k3']
    refine cl (hsh) ?_;push_cast -dsimp
    exact dn (by push_cast -dsimp [zb,za,CLe,ze,hn])
   rw[k4]at hsh
   cases k5:jN b
   case false =>
    have hn:¬JG w b l:=fun h=>by rw[h.2.2.2.2.2.1]at k5;cases k5
    push_cast -dsimp [hi',h20',hll]
    refine cl (hok) ?_;push_cast -dsimp [k2']
    refine cl (hla) ?_;push_cast -dsimp [k3']
    refine cl (hsh) ?_;push_cast -dsimp
    exact dn (by push_cast -dsimp [zb,za,CLe,ze,hn])
   by_cases k6:l.length<=6
   ·have hn:JG w b l:=⟨hx,k1,k2,k3,k4,k5,k6⟩
    have k6':=eq_true (show (l.length:Int)<=6 by omega)
    push_cast -dsimp [hi',h20',hll]
    refine cl (hok) ?_;push_cast -dsimp [k2']
    refine cl (hla) ?_;push_cast -dsimp [k3']
    refine cl (hsh) ?_;push_cast -dsimp [hll,k6']
    exact dn (by push_cast -dsimp [zb,za,CLe,ze,hn])
   ·have hn:¬JG w b l:=fun h=>k6 h.2.2.2.2.2.2
    have k6':=eq_false (show ¬(l.length:Int)<=6 by omega)
    push_cast -dsimp [hi',h20',hll]
    refine cl (hok) ?_;push_cast -dsimp [k2']
    refine cl (hla) ?_;push_cast -dsimp [k3']
    refine cl (hsh) ?_;push_cast -dsimp [hll,k6']
    exact dn (by push_cast -dsimp [zb,za,CLe,ze,hn])
 ·have hi':=eq_false (show ¬(i:Int)<l.length by omega)
  have hx:∀ x∈l.take 20,x.length<=1000:=by
   rw[show i=l.length by omega,List.take_length]at h3
   exact fun x hm=>h3 x (List.mem_of_mem_take hm)
  by_cases k1:okW w
  case neg =>
   have hn:¬JG w b l:=fun h=>k1 h.2.1
   rw[decide_eq_false k1]at hok
   push_cast -dsimp [hi',hll]
   refine cl (hok) ?_;push_cast -dsimp
   exact dn (by push_cast -dsimp [zb,za,CLe,ze,hn])
  rw[decide_eq_true k1]at hok
  have hs:=k1.2.2.2.2.1
  have hla:=VD (G:=G0) w (by have:=(zcC k1).klen;omega) hs.1 hs.2
  by_cases k2:w.fs.next<549755813888
  case neg =>
   have hn:¬JG w b l:=fun h=>k2 h.2.2.1
   have k2':=eq_false k2
   push_cast -dsimp [hi',hll]
   refine cl (hok) ?_;push_cast -dsimp [k2']
   exact dn (by push_cast -dsimp [zb,za,CLe,ze,hn])
  have k2':=eq_true k2
  by_cases k3:jv w.kept<536870912
  case neg =>
   have hn:¬JG w b l:=fun h=>k3 h.2.2.2.1
   have k3':=eq_false k3
   push_cast -dsimp [hi',hll]
   refine cl (hok) ?_;push_cast -dsimp [k2']
   refine cl (hla) ?_;push_cast -dsimp [k3']
   exact dn (by push_cast -dsimp [zb,za,CLe,ze,hn])
  have k3':=eq_true k3
  cases k4:QQ w.fs b []
  case false =>
   have hn:¬JG w b l:=fun h=>by rw[h.2.2.2.2.1]at k4;cases k4
   rw[k4]at hsh
   push_cast -dsimp [hi',hll]
   refine cl (hok) ?_;push_cast -dsimp [k2']
   refine cl (hla) ?_;push_cast -dsimp [k3']
   refine cl (hsh) ?_;push_cast -dsimp
   exact dn (by push_cast -dsimp [zb,za,CLe,ze,hn])
  rw[k4]at hsh
  cases k5:jN b
  case false =>
   have hn:¬JG w b l:=fun h=>by rw[h.2.2.2.2.2.1]at k5;cases k5
   push_cast -dsimp [hi',hll]
   refine cl (hok) ?_;push_cast -dsimp [k2']
   refine cl (hla) ?_;push_cast -dsimp [k3']
   refine cl (hsh) ?_;push_cast -dsimp
   exact dn (by push_cast -dsimp [zb,za,CLe,ze,hn])
  by_cases k6:l.length<=6
  ·have hn:JG w b l:=⟨hx,k1,k2,k3,k4,k5,k6⟩
   have k6':=eq_true (show (l.length:Int)<=6 by omega)
   push_cast -dsimp [hi',hll]
   refine cl (hok) ?_;push_cast -dsimp [k2']
   refine cl (hla) ?_;push_cast -dsimp [k3']
   refine cl (hsh) ?_;push_cast -dsimp [hll,k6']
   exact dn (by push_cast -dsimp [zb,za,CLe,ze,hn])
  ·have hn:¬JG w b l:=fun h=>k6 h.2.2.2.2.2.2
   have k6':=eq_false (show ¬(l.length:Int)<=6 by omega)
   push_cast -dsimp [hi',hll]
   refine cl (hok) ?_;push_cast -dsimp [k2']
   refine cl (hla) ?_;push_cast -dsimp [k3']
   refine cl (hsh) ?_;push_cast -dsimp [hll,k6']
   exact dn (by push_cast -dsimp [zb,za,CLe,ze,hn])
theorem zf0 (k:Int) (l:List (List UInt8)) (hk:k=1∨k=2∨k=3∨k=4∨k=5) (hl:l.length<=90) (hs:∀ x∈l,x.length<=1000):Fun Tryz.prog G0 10 [.sc (.int .i64 k),.sl 1 (zB l)] (.tup [zqF (YT (j0 k :: l)).1,qh (decide ((YT (j0 k :: l)).2 = []))]) 1:=by
 have hn:=GZ k
 have hll:(zB l).length=l.length:=List.length_map ..
 have hr:=zeA (j0 k :: l) (by rw[List.length_cons];omega) (fun x hx=>by
  rcases List.mem_cons.1 hx with rfl | hx
  ·rcases hk with rfl | rfl | rfl | rfl | rfl<;>decide
  ·exact hs x hx)
 have e:zB (j0 k :: l) = [.str (j0 k)] :: zB l:=rfl
 rw[e]at hr
 refine fof (fun i=>if i=1 then YU 9 10 else if i=2 then [false,false,false,true] else []) Tryz.func10 ?_;dsimp only[Tryz.f10]
 push_cast -dsimp
 refine cl (hn) ?_;push_cast -dsimp
 repeat refine an ?_
 refine cl (hr) ?_;push_cast -dsimp
 exact ⟨[.inl 1],rfl,rfl,by push_cast -dsimp [zb,za,CLe,ze]⟩
end
section
theorem zhw (k:Int) (s:List UInt8):(J1 k s 58).length<=58:=by
 unfold J1
 refine Nat.le_trans (List.length_filter_le _ _) ?_
 simp
theorem xh (l:List (List UInt8)):(YT l).1.opts.length<=58/\(YT l).1.operands.length<=l.length/\∀ x∈(YT l).1.operands,x∈l:=by
 refine ⟨?_,zbQ l,?_⟩
 ·cases l with
  | nil=>exact Nat.zero_le _
  | cons w r =>
   rw[YT]
   split
   ·exact Nat.zero_le _
   ·unfold jX
    split
    ·exact Nat.zero_le _
    ·split
     ·exact Nat.zero_le _
     ·exact zhw _ _
 ·cases l with
  | nil=>intro x hx;cases hx
  | cons w r =>
   rw[YT]
   split
   ·intro x hx;cases hx
   ·unfold jX
    split
    ·intro x hx;cases hx
    ·split
     ·intro x hx;cases hx
     ·exact fun x hx=>List.mem_cons_of_mem _ (List.mem_of_mem_drop hx)
theorem zgy {w:zS} {b:List UInt8} {l:List (List UInt8)} (h:JG w b l):zbc w.fs.xs/\b.length<=1000:=by
 have hs:=h.2.2.2.2.1
 have hl:=(zcC h.2.1).len
 unfold QQ at hs
 simp only[Bool.and_eq_true,decide_eq_true_eq,Bool.not_eq_true',List.any_eq_false]at hs
 obtain ⟨⟨h1,h2⟩,_⟩:=hs
 rw[List.take_of_length_le (by omega)]at h1
 refine ⟨fun x hx hk=>?_,by omega⟩
 have:=h1 x hx
 unfold ZV at this
 simp only[Bool.and_eq_true,decide_eq_true_eq,not_and]at this
 have:=this hk
 omega
theorem U4 {w:zS} {b:List UInt8} {l:List (List UInt8)} (h:JG w b l):∀ x∈l,x.length<=1000:=by
 have h1:=h.1
 rw[List.take_of_length_le (by have:=h.2.2.2.2.2.2;omega)]at h1
 exact h1
theorem v8 (w:List UInt8) (r:List (List UInt8)):(YT (w :: r)).1.operands.length<=r.length:=by
 rw[YT]
 split
 ·exact Nat.zero_le _
 ·unfold jX
  split
  ·exact Nat.zero_le _
  ·split
   ·exact Nat.zero_le _
   ·show (r.drop _).length<=_
    rw[List.length_drop];omega
end
section
open CA CB
open Go.RowKit
def w26:zS:=⟨⟨3,9,2,[⟨1,2,0,[],1,[]⟩]⟩,[],[]⟩
theorem zjj:okW w26:=by decide
theorem zng:MkG w26 0 0 (Gj w26):=zoa zjj (by
 intro x hx
 have:∀ x∈w26.fs.xs,x.kind=3->x.data.length<=1000:=by decide
 exact this x hx) (by decide) (by decide)
def tM:List (List UInt8):=[[109,107,100,105,114,58,32,99,97,110,110,111,116,32,99,114,101,97,116,101,32,100,105,114,101,99,116,111,114,121,32,34,97,34,58,32,70,105,108,101,32,101,120,105,115,116,115],[109,107,100,105,114,58,32,99,97,110,110,111,116,32,99,114,101,97,116,101,32,100,105,114,101,99,116,111,114,121,32,34,99,34,58,32,78,111,32,115,112,97,99,101,32,108,101,102,116,32,111,110,32,100,101,118,105,99,101]]
theorem Mx:Fun Tryz.prog GD 8 [] (qh true) 0:=by
 have q0:=zg4 (G:=GD) 3 9
 have q1:Fun Tryz.prog GD 12 [.agg [.sc (.int .i64 3),.sc (.int .i64 9),.sc (.int .i64 2),.sl 6 [JD ⟨1,2,0,[],1,[]⟩],.sc (.slice none 0 0),.sc (.slice none 0 0)]] (Vo (Gj w26)) 0:=Fun.less (G8 w26 (by decide) zjj.2.2.2.2.1).g0 (by push_cast -dsimp [zb,za,CLe,ze,w26,zD,Je,List.map_nil,List.map_cons])
 have q2:Fun Tryz.prog GD 11 [Vo (Gj w26),.str [47],.agg [.sc (.int .i64 1),.str [112],.sl 1 [[.str [97,47,98]]]]] (Vo (zbp [47] [112] [[97,47,98]] (Gj w26))) 0:=Vp 1 [47] [112] [[97,47,98]] zng (by decide) (by decide) (by decide) (by decide)
 have hM:MkG w26 (0+qc [[97,47,98]]) (0+1) (zbp [47] [112] [[97,47,98]] (Gj w26)):=(x8 (P:=fun _=>True) (fun _ _ _ _ _ _ _ _ _ _=>trivial) (fun _ _ _=>trivial) [47] [112] [[97,47,98]] 0 0 (Gj w26) zng (by decide) trivial).1
 obtain ⟨dA,hA⟩:∃ d,zbp [47] [112] [[97,47,98]] (Gj w26)=d:=⟨_,rfl⟩
 obtain ⟨dB,hB⟩:∃ d,zbp [47] [] [[97],[99]] (zbp [47] [112] [[97,47,98]] (Gj w26))=d:=⟨_,rfl⟩
 have p1:dA.ops = [jL [47,97],jL [47,97,47,98]]:=by rw[←hA];kernel_rfl
 have p2:dA.status=0:=by rw[←hA];kernel_rfl
 have p3:dB.diags=tM:=by rw[←hB];kernel_rfl
 have p4:dB.ops.length=2:=by rw[←hB];kernel_rfl
 have p5:dB.status=1:=by rw[←hB];kernel_rfl
 rw[hA]at q2 hM hB
 have q3:Fun Tryz.prog GD 11 [Vo dA,.str [47],.agg [.sc (.int .i64 1),.str [],.sl 1 [[.str [97]],[.str [99]]]]] (Vo dB) 0:=by
  rw[←hB]
  exact Vp 1 [47] [] [[97],[99]] hM (by decide) (by decide) (by decide) (by decide)
 have q4:Fun Tryz.prog GD 26 [.sl 5 (dA.ops.map opL),.sl 5 [opL (jL [47,97]),opL (jL [47,97,47,98])]] (qh true) 0:=by
  have h:=ze6 dA.ops [jL [47,97],jL [47,97,47,98]] (by rw[p1];decide)
  rw[show Jx dA.ops [jL [47,97],jL [47,97,47,98]]=true by rw[p1];rfl]at h
  exact h.g0
 have q5:Fun Tryz.prog GD 15 [.sl 1 (zB dB.diags),.sl 1 (zB tM)] (qh true) 0:=by
  have h:=zhr dB.diags tM (by rw[p3];decide)
  rw[decide_eq_true p3]at h
  exact h.g0
 have p6:((dB.ops.map opL).length:Int)=2:=by rw[List.length_map,p4];rfl
 have p7:(dA.status=0)=True:=eq_true p2
 have p8:(dB.status=1)=True:=eq_true p5
 have p9:((dB.ops.length:Int)=2)=True:=eq_true (by rw[p4];rfl)
 clear hA hB p1 p2 p3 p4 p5 hM
 refine fon Tryz.func8 ?_;dsimp only[Tryz.f8]
 push_cast -dsimp
 refine cl (q0) ?_;push_cast -dsimp
 refine cl (q1) ?_;push_cast -dsimp
 refine cl (q2) ?_;push_cast -dsimp
 refine cl (q3) ?_;push_cast -dsimp
 refine cl (q4) ?_;push_cast -dsimp [p6,p7,p8,p9]
 refine cl (q5) ?_;push_cast -dsimp [p6,p7,p8,p9]
 exact dn
end
section
open CA CB
open Go.RowKit
structure zpP (w:zS) (b:List UInt8) (l:List (List UInt8)) (c:zoH):Prop where
 g:MkG w 0 0 (Gj w)
 b:b.length<=1000
 o:c.opts.length<=1000
 n:c.operands.length<=6
 p:∀ x∈c.operands,x.length<=1000
theorem zpP.of {w:zS} {b:List UInt8} {l:List (List UInt8)} (h:JG w b l):zpP w b l (YT (j0 1 :: l)).1:=by
 obtain ⟨p1,p2,p3⟩:=xh (j0 1 :: l)
 obtain ⟨d1,d2⟩:=zgy h
 have h6:=h.2.2.2.2.2.2
 have ht:=v8 (j0 1) l
 refine ⟨zoa h.2.1 d1 (by have:=h.2.2.1;omega) (by have:=h.2.2.2.1;omega),d2,by omega,by omega,fun x hx=>?_⟩
 rcases List.mem_cons.1 (p3 x hx) with rfl | hx
 ·decide
 ·exact U4 h x hx
end
section
open CA CB
open Go.RowKit
theorem zia {w:zS} {N K:Nat} {d:zr} (hG:MkG w N K d) (h:x6 w d) (hl:d.ops.length<=10000):Fun Tryz.prog G0 16 [ZZ w,.sl 5 (d.ops.map opL),.sc (.int .i64 (d.ops.length:Nat))] (.tup [ZZ d.w,.sc (.int .i64 (d.ops.length:Nat)),.sc (.int .i64 0)]) 0:=by
 have hll:(d.ops.map opL).length=d.ops.length:=List.length_map ..
 have e0:=h.fin
 refine fof (fun i=>if i=3 then YU 9 10 else []) Tryz.func16 ?_;dsimp only[Tryz.f16]
 push_cast -dsimp
 refine loop (fun i:Nat=>⟨[(1,.sl 5 (d.ops.map opL)),(2,.sc (.int .i64 (d.ops.length:Nat))),(3,.ptr 0 0),(6,.ptr 1 0),(9,.sc (.int .i64 i))],[UH (qQ w d.ops i),[.any,.any,.any,.any,.any,.any]],0,0⟩) (fun i=>i<=d.ops.length) (fun i=>d.ops.length-i) 0 (Nat.zero_le _) ?_ ?_
 ·exact wk (h5:=by push_cast -dsimp [zb,za,CLe,ze,show qQ w d.ops 0=w from rfl])
 intro i hi
 by_cases hlt:i<d.ops.length
 case neg =>
  have hil:i=d.ops.length:=by omega
  rw[hil]
  push_cast -dsimp [hll,Int.lt_irrefl]
  exact dn (by push_cast -dsimp [zb,za,CLe,ze,e0])
 have g:(d.ops.map opL)[i]?=some (opL d.ops[i]):=by simp[hlt]
 have z:=h.ok i hlt
 have e:=Uk (w:=w) hlt
 obtain ⟨g1,g2⟩:=h.good i hi
 obtain ⟨a,ho,hp,ha⟩:=hG.all _ (List.getElem_mem hlt)
 rw[ho]at g z e
 have hdo:=zgJ (qQ w d.ops i) g1 g2 0 a [] [] ⟨by show a.length<=_;omega,Nat.zero_le _,Nat.zero_le _⟩ (Nat.zero_le _) (Vf hp) hp (fun q=>by cases q)
 unfold jL at g z e
 rw[z,←e]at hdo
 generalize hu2:qQ w d.ops (i+1)=u' at e hdo
 generalize hu:qQ w d.ops i=u at hdo
 have hlt':=eq_true (show (i:Int)<d.ops.length by omega)
 rw[zmN]at g hdo
 push_cast -dsimp [hll,hlt',g,hu]
 repeat refine an ?_
 refine cl (hdo) ?_;push_cast -dsimp [hll,hlt',g,hu]
 repeat refine an ?_
 exact ⟨i+1,hlt,by omega,wk (h5:=by push_cast -dsimp [zb,za,CLe,ze,hu2])⟩
theorem VE (w:zS) (b:List UInt8) (l:List (List UInt8)) (hb:b.length<=2000000):Fun Tryz.prog GD 4 [ZZ w,.str b,.sl 1 (zB l)] (qh true) 0:=by
 have ha:=Mx
 have hf:Fun Tryz.prog GD 9 _ _ 0:=(uo w b l hb).g0
 by_cases h:JG w b l
 case neg =>
  rw[decide_eq_false h]at hf
  refine fof (fun i=>if i=6 then YU 5 6 else []) Tryz.func4 ?_;dsimp only[Tryz.f4]
  push_cast -dsimp
  refine cl (ha) ?_;push_cast -dsimp
  refine cl (hf) ?_;push_cast -dsimp
  refine cl (ha) ?_;push_cast -dsimp
  exact dn
 rw[decide_eq_true h]at hf
 have hc:Fun Tryz.prog GD 10 _ _ 1:=(zf0 1 l (by decide) (by have:=h.2.2.2.2.2.2;omega) (U4 h)).g0
 have hF:=zpP.of h
 generalize YT (j0 1 :: l)=rc at hc hF
 obtain ⟨⟨ck,co,cz⟩,s⟩:=rc
 dsimp only at hF hc
 have hcn:cz.length<=6:=hF.n
 have hnn:qc cz<=500*cz.length:=GQ hF.p
 by_cases hs:s = []
 case neg =>
  rw[decide_eq_false hs]at hc
  refine fof (fun i=>if i=6 then YU 5 6 else []) Tryz.func4 ?_;dsimp only[Tryz.f4]
  push_cast -dsimp
  refine cl (ha) ?_;push_cast -dsimp
  refine cl (hf) ?_;push_cast -dsimp
  refine cl (hc) ?_;push_cast -dsimp
  exact dn
 rw[decide_eq_true hs]at hc
 have q1:Fun Tryz.prog GD 12 [ZZ w] (Vo (Gj w)) 0:=(G8 w (by have:=(zcC h.2.1).klen;omega) h.2.1.2.2.2.2.1).g0
 have q2:=Vp ck b co cz hF.g (by omega) (by omega) hF.b hF.p
 obtain ⟨g1,i1⟩:=x8 (P:=fun d=>x6 w d) (fun N K d p hG hN hp _ hz hd=>hd.made hG hN hp hz) (fun d x hd=>⟨hd.fin,hd.ok,hd.good⟩) b co cz 0 0 (Gj w) hF.g (by omega) (.new hF.g)
 have hps:=hF.p
 generalize zbp b co cz (Gj w)=P at q2 g1 i1
 have hol:(P.ops.map opL).length=P.ops.length:=List.length_map ..
 have hon:=g1.ops
 have hB:=g1.wb
 have q3:Fun Tryz.prog GD 16 _ _ 0:=(zia g1 i1 (by omega)).g0
 have q4:Fun Tryz.prog GD 18 _ _ 0:=(zeh P.ops (by omega) (zd7 g1)).g0
 rw[zki g1]at q4
 have q5:Fun Tryz.prog GD 19 _ _ 0:=(zeX P.w P.w (by have:=hB.len;omega) (by have:=hB.plen;omega) (by have:=hB.klen;omega) (fun z hz=>by have:=(hB.node z hz).1;omega) (fun z hz=>by have:=(hB.pnode z hz).1;omega)).g0
 rw[decide_eq_true rfl]at q5
 have hkk:P.w.kept=w.kept:=g1.kept
 have hkl:(Je w.kept).length=w.kept.length:=List.length_map ..
 have hkl2:(Je P.w.kept).length=w.kept.length:=by rw[hkk];exact hkl
 have hzl:(zB cz).length=cz.length:=List.length_map ..
 refine fof (fun i=>if i=6 then YU 5 6 else []) Tryz.func4 ?_;dsimp only[Tryz.f4]
 push_cast -dsimp
 refine cl (ha) ?_;push_cast -dsimp
 refine cl (hf) ?_;push_cast -dsimp
 refine cl (hc) ?_;push_cast -dsimp
 refine cl (q1) ?_;push_cast -dsimp
 refine cl (q2) ?_;push_cast -dsimp [hol]
 refine cl (q3) ?_;push_cast -dsimp
 refine loop (fun i:Nat=>⟨[(3,.ptr 0 0),(7,.ptr 1 0),(9,.ptr 2 0),(10,.ptr 3 0),(11,.sc (.int .i64 (P.ops.length:Nat))),(12,.sc (.int .i64 0)),(13,.sc (.int .i64 (qc (cz.take i):Nat))),(14,.sc (.int .i64 i))],[UH w,zpc ck co cz,zkV P,UH P.w],0,0⟩) (fun i=>i<=cz.length) (fun i=>cz.length-i) 0 (Nat.zero_le _) ?_ ?_
 ·exact wk (h4:=by push_cast -dsimp [zb,za,CLe,ze,List.take_zero,show qc []=0 from rfl])
 intro i hi
 by_cases hlt:i<cz.length
 ·have hlt':=eq_true (show (i:Int)<cz.length by omega)
  have hgi:(zB cz)[i]?=some [.str cz[i]]:=by simp[zB,hlt]
  have ht:qc (cz.take (i+1))=qc (cz.take i)+(zh cz[i]).length:=by
   rw[List.take_succ_eq_append_getElem hlt]
   unfold qc
   rw[List.map_append,List.sum_append]
   simp
  have hnt:=Jl hlt
  have hpl:=hps _ (List.getElem_mem hlt)
  have hnf:=(Qh cz[i] (by omega)).g0 (G':=GD)
  generalize cz[i]=X at *
  have hxl:(zB (zh X)).length=(zh X).length:=List.length_map ..
  push_cast -dsimp [hlt',hgi,hzl,Int.toNat_natCast]
  repeat refine an ?_
  refine cl (hnf) ?_;push_cast -dsimp [hxl]
  repeat refine an ?_
  exact ⟨i+1,by omega,by omega,wk (h4:=by push_cast -dsimp [zb,za,CLe,ze,ht,hxl,List.length_map])⟩
 have hlt':=eq_false (show ¬(i:Int)<cz.length by omega)
 have hil:i=cz.length:=by omega
 rw[hil,List.take_length]
 rw[hil]at hlt'
 have hle:=eq_false (show ¬(qc cz:Int)<(P.ops.length:Int) by omega)
 push_cast -dsimp [hlt',hzl]
 refine cl (q4) ?_;push_cast -dsimp [hol]
 refine cl (q5) ?_;push_cast -dsimp [hle]
 refine loop (fun i:Nat=>⟨[(3,.ptr 0 0),(9,.ptr 2 0),(11,.sc (.int .i64 (P.ops.length:Nat))),(15,.sc (.int .i64 i))],[UH w,[.any,.any,.any],zkV P,UH P.w],0,0⟩) (fun i=>i<=P.ops.length) (fun i=>P.ops.length-i) 0 (Nat.zero_le _) ?_ ?_
 ·exact wk
 clear hil hlt' hlt hi i
 intro i hi
 by_cases hlt:i<P.ops.length
 ·have hlt':=eq_true (show (i:Int)<P.ops.length by omega)
  have g:(P.ops.map opL)[i]?=some (opL P.ops[i]):=by simp[hlt]
  obtain ⟨a,ho,_⟩:=g1.all _ (List.getElem_mem hlt)
  rw[ho]at g
  have g:(P.ops.map opL)[i]?=some [.sc (.int .i64 1),.sc (.int .i64 0),.str a,.str [],.str []]:=g
  push_cast -dsimp [hlt',g,hol,Int.toNat_natCast]
  repeat refine an ?_
  exact ⟨i+1,by omega,by omega,wk⟩
 ·have hlt':=eq_false (show ¬(i:Int)<P.ops.length by omega)
  push_cast -dsimp [hlt',hkl,hkl2]
  exact dn
end
end Go.Proofs.YtaipngaejfndgaaGreatDoor.Vcg
