/- What the proof of MkdirsTrue leans on, part 5: Tree1 Mak0 Tree2 Tree3 Tree4 Tree5 Tree6 Tree7 Dra4 Mak1 Mak2 Mak3 OpenD Rgt0 Rgt1 Rgt2 Rgt3 Rgt4 Rgt5 Rgt6 PthL Sk0 Slc2 Sk2 SekP SekL Dat Gro Pla Mkd0 Do1 Sek1 Sek2 Sek3 Rea Tol Plw Sk1 Sk3 Mkr Mkm Mka Mpl Mdo Rfi Fit Msm Mtr. No condition beyond what each theorem states. -/
import Derived.Test.YtaipngaejfndgaaGreatDoorMkdirsTrueKd
import Derived.Sort.Walk0
import Derived.Lib.IndexLaws
set_option linter.unusedVariables false
set_option linter.unusedSimpArgs false
set_option linter.unusedSectionVars false
set_option maxRecDepth 100000
set_option maxHeartbeats 4000000
namespace Go.Proofs.YtaipngaejfndgaaGreatDoor.Vcg
section
inductive Dep (xs:List zn):Nat->Int->Prop
 | root:Dep xs 0 1
 | step {k:Nat} {n:Int} {e:zK}:Dep xs k n->zw n xs=true->e∈(zf n xs).es->Dep xs (k+1) e.ino
def okM (f:FsV):Prop:=zmd f.xs/\jY f=0
theorem okV.m {f:FsV} (h:okV f):okM f:=⟨⟨by have:=h.1.1;omega,fun x hx=>by obtain ⟨a,b,c⟩:=h.1.2 x hx;exact ⟨a,by omega,c⟩⟩,h.2⟩
theorem ql {f:FsV} (h:okM f):zmd f.xs/\jX f/\J5 f/\JR f/\Yb f/\XS f/\UK f:=by
 obtain ⟨h0,h⟩:=h
 unfold jY at h
 refine ⟨h0,?_⟩
 split at h
 ·split at h
  ·split at h
   ·split at h
    ·split at h
     ·split at h
      ·exact ⟨by assumption,by assumption,by assumption,by assumption,by assumption,by assumption⟩
      ·cases h
     ·cases h
    ·cases h
   ·cases h
  ·cases h
 ·cases h
theorem H1 {es:List zK}:∀ {S:List Int} {n:Int},n∈UA S es↔n∈S∨∃ e∈es,e.ino=n:=by
 induction es with
 | nil=>intro S n;simp[UA]
 | cons e r ih =>
  intro S n
  show n∈UA (JO S e.ino) r↔_
  rw[ih,kK]
  constructor
  ·rintro ((h | h) | ⟨e',he,h⟩)
   ·exact .inl h
   ·exact .inr ⟨e,List.mem_cons_self,h.symm⟩
   ·exact .inr ⟨e',List.mem_cons_of_mem _ he,h⟩
  ·rintro (h | ⟨e',he,h⟩)
   ·exact .inl (.inl h)
   ·rcases List.mem_cons.1 he with rfl | he
    ·exact .inl (.inr h.symm)
    ·exact .inr ⟨e',he,h⟩
theorem Mt {xs:List zn} {es:List zK}:∀ {S:List Int},JV xs S->(∀ e∈es,zw e.ino xs=true)->JV xs (UA S es):=by
 induction es with
 | nil=>intro S h _;exact h
 | cons e r ih=>intro S h he;exact ih (h.one (he e List.mem_cons_self)) fun e' h'=>he e' (List.mem_cons_of_mem _ h')
theorem Hu {xs:List zn} (h3:∀ x∈xs,∀ e∈x.es,zw e.ino xs=true):∀ (m i:Nat) (S:List Int),JV xs S->(∀ n∈S,∃ k,Dep xs k n)->JV xs (X7 xs m i S)/\∀ n∈X7 xs m i S,∃ k,Dep xs k n
 | 0,i,S,h,hd=>by unfold X7;exact ⟨h,hd⟩
 | m+1,i,S,h,hd=>by
  unfold X7
  split
  ·rename_i n hn
   have hmem:=List.mem_of_getElem? hn
   have hh:=h.has n hmem
   obtain ⟨hm,_⟩:=qM hh
   obtain ⟨k,hk⟩:=hd n hmem
   refine Hu h3 m (i+1) _ (Mt h fun e he=>h3 _ hm e he) fun n' hn'=>?_
   rcases H1.1 hn' with h' | ⟨e,he,rfl⟩
   ·exact hd n' h'
   ·exact ⟨k+1,.step hk hh he⟩
  ·exact ⟨h,hd⟩
theorem zcK {S T:List Int} (hS:S.Nodup) (hs:∀ n∈S,n∈T) (hl:T.length<=S.length):∀ n∈T,n∈S:=by
 intro n hn
 by_cases h:n∈S
 ·exact h
 ·exfalso
  have:=Vc (S:=n :: S) (T:=T) (List.nodup_cons.2 ⟨h,hS⟩) fun m hm=>by
   rcases List.mem_cons.1 hm with rfl | hm
   ·exact hn
   ·exact hs m hm
  rw[List.length_cons]at this;omega
theorem yb {f:FsV} (h:okM f) {n:Int} (hn:zw n f.xs=true):∃ k,Dep f.xs k n:=by
 obtain ⟨_,h1,_,h3,_,h5,_⟩:=ql h
 have hroot:JV f.xs [1]:=⟨by simp,fun n hn=>by simp at hn;subst hn;exact h1.2.2.2.2.2.2.2.1⟩
 obtain ⟨g1,g2⟩:=Hu h3 (f.xs.length+1) 0 [1] hroot fun n hn=>by simp at hn;subst hn;exact ⟨0,.root⟩
 have hS:=zcK (T:=f.xs.map (·.ino)) g1.nodup (fun m hm=>HY.1 (g1.has m hm)) (by rw[List.length_map];exact Nat.le_of_eq h5.symm) n (HY.1 hn)
 exact g2 n hS
theorem QF {xs:List zn} {n:Int} {e:zK} (hh:zw n xs=true) (he:e∈(zf n xs).es):(e.ino,n)∈zP xs:=by
 obtain ⟨hm,hi⟩:=qM hh
 unfold zP
 exact List.mem_flatMap.2 ⟨_,hm,List.mem_map.2 ⟨e,he,by rw[hi]⟩⟩
theorem zjX {n p:Int} {l:List (Int×Int)} (h:(n,p)∈l):1<=Qg n l:=by
 unfold Qg
 exact List.length_pos_iff.2 (List.ne_nil_of_mem (List.mem_filter.2 ⟨h,by simp⟩))
theorem xf {n p q:Int} {l:List (Int×Int)} (hp:(n,p)∈l) (hq:(n,q)∈l) (h:Qg n l=1):p=q:=by
 unfold Qg at h
 obtain ⟨x,hx⟩:=List.length_eq_one_iff.1 h
 have h1:(n,p)∈l.filter fun p=>p.1==n:=List.mem_filter.2 ⟨hp,by simp⟩
 have h2:(n,q)∈l.filter fun p=>p.1==n:=List.mem_filter.2 ⟨hq,by simp⟩
 rw[hx]at h1 h2
 simp only[List.mem_singleton]at h1 h2
 exact congrArg Prod.snd (h1.trans h2.symm)
theorem Ug {f:FsV} (h:okM f) {n:Int} (hh:zw n f.xs=true) {e:zK} (he:e∈(zf n f.xs).es):(zf n f.xs).kind=2:=by
 obtain ⟨_,_,h2,_⟩:=ql h
 obtain ⟨hm,_⟩:=qM hh
 by_cases hk:(zf n f.xs).kind=2
 ·exact hk
 ·have:=((h2 _ hm).2.1 hk).1
  rw[this]at he;cases he
theorem jC {f:FsV} (h:okM f) {n:Int} (hh:zw n f.xs=true) {e:zK} (he:e∈(zf n f.xs).es):e.ino≠1:=fun h1=>by
 obtain ⟨_,hf,_,_,h4,_⟩:=ql h
 obtain ⟨hm,hi⟩:=qM hf.2.2.2.2.2.2.2.1
 have hq:=(h4 _ hm).2
 rw[if_pos hi,hi]at hq
 have:=zjX (QF hh he)
 rw[h1]at this;omega
theorem Q5 {f:FsV} (h:okM f):∀ (k k':Nat) (n:Int),Dep f.xs k n->Dep f.xs k' n->zw n f.xs=true->(zf n f.xs).kind=2->k=k'
 | 0,0,_,_,_,_,_=>rfl
 | 0,k'+1,_,h1,h2,hh,hk=>by
  cases h1
  generalize hn:(1:Int)=n at h2
  cases h2 with
  | step a b c=>exact absurd hn.symm (jC h b c)
 | k+1,0,_,h1,h2,hh,hk=>by
  cases h2
  generalize hn:(1:Int)=n at h1
  cases h1 with
  | step a b c=>exact absurd hn.symm (jC h b c)
 | k+1,k'+1,n,h1,h2,hh,hk=>by
  obtain ⟨_,hf,_,_,h4,_⟩:=ql h
  cases h1 with
  | @step _ p e a b c =>
   generalize hn:e.ino=n at h2 hh hk
   cases h2 with
   | @step _ p' e' a' b' c' =>
    have hp:=QF b c
    have hp':=QF b' c'
    rw[hn]at hp
    obtain ⟨hm,hi⟩:=qM hh
    have hq:=(h4 _ hm).2
    rw[hi]at hq
    have hne:e'.ino≠1:=jC h b' c'
    rw[if_neg hne]at hq
    have:=xf hp hp' (hq.2 hk).1
    subst this
    rw[Q5 h k k' p a a' b (Ug h b c)]
end
section
theorem Xm (n:Int):∀ xs:List zn,Qg n (zP xs)=Gl n xs
 | []=>rfl
 | x :: r=>by
  have ih:=Xm n r
  unfold Gl vn at ih ⊢
  unfold zP at ih ⊢
  rw[List.flatMap_cons,List.map_cons,List.sum_cons,←ih]
  unfold Qg VU
  rw[List.filter_append,List.length_append]
  congr 1
  induction x.es with
  | nil=>rfl
  | cons e es ie =>
   unfold Q8 at ie ⊢
   rw[List.map_cons,List.filter_cons,List.filter_cons]
   by_cases h:e.ino=n
   ·simp only[h,beq_self_eq_true,if_true,decide_true,List.length_cons,ie]
   ·simp only[show (e.ino==n)=false from beq_eq_false_iff_ne.2 h,decide_eq_false h,Bool.false_eq_true,if_false,ie]
theorem ZS {f:FsV} (h:jY f=0):jX f/\J5 f/\JR f/\Yb f/\XS f/\UK f:=by
 unfold jY at h
 split at h
 ·split at h
  ·split at h
   ·split at h
    ·split at h
     ·split at h
      ·exact ⟨by assumption,by assumption,by assumption,by assumption,by assumption,by assumption⟩
      ·cases h
     ·cases h
    ·cases h
   ·cases h
  ·cases h
 ·cases h
theorem MA {es:List zK} (h:Yo es):XP es:=by
 have hadj:∀ i (h1:i+1<es.length),Op.bytesLess es[i].name es[i+1].name=true:=fun i h1=>(h (i+1) h1).2.2 (by omega)
 have key:∀ (d i:Nat) (h1:i+d+1<es.length),Op.bytesLess (es[i]'(by omega)).name es[i+d+1].name=true:=by
  intro d
  induction d with
  | zero=>intro i h1;exact hadj i h1
  | succ d ih=>intro i h1;exact HV (ih i (by omega)) (hadj (i+d+1) (by omega))
 refine List.pairwise_iff_getElem.2 fun i j hi hj hij=>?_
 have:=key (j-i-1) i (by omega)
 have e:i+(j-i-1)+1=j:=by omega
 simp only[e]at this
 exact this
theorem Qp {f:FsV} (h:jY f=0):FsI f:=by
 obtain ⟨h1,h2,h3,h4,h5,h6⟩:=ZS h
 obtain ⟨a1,a2,a3,a4,a5,a6,a7,a8,a9⟩:=h1
 refine ⟨a7,a6,fun x hx=>(h2 x hx).1,fun x hx=>?_,fun x hx hk=>((h2 x hx).2.1 hk).1,h3,fun x hx=>?_,a8,a9,?_⟩
 ·by_cases hk:x.kind=2
  ·exact MA ((h2 x hx).2.2.1 hk).2
  ·rw[((h2 x hx).2.1 hk).1];exact List.Pairwise.nil
 ·rw[(h4 x hx).1,Xm]
 ·obtain ⟨b1,b2⟩:=qM a8
  have q:=(h4 _ b1).2
  rw[b2,if_pos rfl,Xm]at q
  exact q.1
theorem zps {w:qd} (h:okW w):x8 w:=by
 obtain ⟨h1,h2,h3,h4,h5⟩:=h.2
 exact ⟨Qp h1,h4.1,h2,fun x hx=>⟨(h3 x hx).1,(h3 x hx).2.2.1⟩⟩
theorem zcS {w:qd} (h:okW w):zaW 40 w:=by
 obtain ⟨⟨g1,g2,g3,g4⟩,h1,_⟩:=h
 obtain ⟨a1,a2,a3,a4,a5,_⟩:=(ZS h1).1
 exact ⟨g2.1,fun x hx=>by obtain ⟨q1,q2,q3⟩:=g2.2 x hx;exact ⟨q2,q1,q3⟩,g4,g1,g3.1,fun x hx=>by obtain ⟨q1,q2,q3⟩:=g3.2 x hx;exact ⟨q2,q1,q3⟩,by omega,by omega⟩
theorem zaW.s {N:Nat} {w:qd} (h:zaW N w) (hi:x8 w) (hN:N<=10000):znd w:=by
 have hr:=xD hi.fs
 have hn:=h.next
 exact ⟨⟨by have:=h.len;omega,fun x hx=>by obtain ⟨q1,q2,q3⟩:=h.node x hx;exact ⟨by omega,by omega,fun e he=>by have:=q3 e he;omega⟩⟩,⟨by omega,by omega⟩,by have:=h.klen;omega,by have:=h.plen;omega⟩
structure OpS (o:OpV):Prop where
 a:o.a.length<=1000
 b:o.b.length<=1000
 d:o.d.length<=5000
structure zmL (N:Nat) (d:zr):Prop where
 wi:x8 d.w
 wb:zaW (40+N) d.w
 ops:d.ops.length<=N
 diags:d.diags.length<=N
 slot:0<=d.slot/\d.slot<=1073741824+N
theorem zfu {d:zr} {o:OpV} (h:(zi3 d o).2≠0):(zi3 d o).1=d:=by
 unfold zi3 at h ⊢
 split
 ·rfl
 ·split
  ·rfl
  ·rename_i h1 h2;rw[if_neg h1,if_neg h2]at h;exact absurd rfl h
end
section
theorem Nj {f:FsV} (h:okM f):∀ (k:Nat) (n:Int),Dep f.xs k n->zw n f.xs=true->(zf n f.xs).kind=2->∃ L:List Int,L.length=k+1/\L.Nodup/\(∀ m∈L,zw m f.xs=true)/\∀ m∈L,(zf m f.xs).kind=2/\∃ j,j<=k/\Dep f.xs j m
 | 0,n,hd,hh,hk=>⟨[n],rfl,by simp,fun m hm=>by simp at hm;subst hm;exact hh,fun m hm=>by simp at hm;subst hm;exact ⟨hk,0,Nat.le_refl _,hd⟩⟩
 | k+1,_,hd,hh,hk=>by
  generalize hn:k+1=k1 at hd
  cases hd with
  | root=>cases hn
  | @step k0 p e a b c =>
   obtain rfl:k=k0:=by omega
   obtain ⟨L,l1,l2,l3,l4⟩:=Nj h k p a b (Ug h b c)
   refine ⟨e.ino :: L,by simp[l1],List.nodup_cons.2 ⟨fun hm=>?_,l2⟩,fun m hm=>?_,fun m hm=>?_⟩
   ·obtain ⟨_,j,hj,hd⟩:=l4 _ hm
    have:=Q5 h _ _ _ hd (.step a b c) hh hk
    omega
   ·rcases List.mem_cons.1 hm with rfl | hm
    ·exact hh
    ·exact l3 m hm
   ·rcases List.mem_cons.1 hm with rfl | hm
    ·exact ⟨hk,k+1,Nat.le_refl _,.step a b c⟩
    ·obtain ⟨q1,j,q2,q3⟩:=l4 m hm
     exact ⟨q1,j,by omega,q3⟩
theorem zeI {f:FsV} (h:okM f) {k:Nat} {n:Int} (hd:Dep f.xs k n) (hh:zw n f.xs=true) (hk:(zf n f.xs).kind=2):k<f.xs.length:=by
 obtain ⟨L,l1,l2,l3,_⟩:=Nj h k n hd hh hk
 have:=Qt l2 l3
 omega
def qA (xs:List zn):Nat->Int->List (List UInt8)->Jb
 | 0,_,_=>[]
 | m+1,n,ns=>if zw n xs then (ns,zf n xs) :: (zf n xs).es.flatMap (fun e=>qA xs m e.ino (ns++[e.name])) else []
theorem XU {α β:Type} {l:List α} {g g':α->List β} (h:∀ a∈l,g a=g' a):l.flatMap g=l.flatMap g':=by
 induction l with
 | nil=>rfl
 | cons a r ih=>rw[List.flatMap_cons,List.flatMap_cons,h a List.mem_cons_self,ih fun b hb=>h b (List.mem_cons_of_mem _ hb)]
theorem Mq {f:FsV} (h:okM f):∀ (m m' k:Nat) (n:Int) (ns:List (List UInt8)),Dep f.xs k n->k<=f.xs.length->f.xs.length+1<=m+k->f.xs.length+1<=m'+k->qA f.xs m n ns=qA f.xs m' n ns
 | 0,m',k,n,ns,hd,hk,h1,h2=>by omega
 | m+1,0,k,n,ns,hd,hk,h1,h2=>by omega
 | m+1,m'+1,k,n,ns,hd,hk,h1,h2=>by
  unfold qA
  split
  ·rename_i hh
   congr 1
   refine XU fun e he=>?_
   have hdir:=Ug h hh he
   have hlt:=zeI h hd hh hdir
   exact Mq h m m' (k+1) e.ino _ (.step hd hh he) (by omega) (by omega) (by omega)
  ·rfl
abbrev trV (xs:List zn):Int->List (List UInt8)->Jb:=qA xs (xs.length+1)
theorem zjk {f:FsV} (h:okM f) {n:Int} (hh:zw n f.xs=true):∃ k,k<=f.xs.length/\Dep f.xs k n:=by
 obtain ⟨k,hd⟩:=yb h hh
 refine ⟨k,?_,hd⟩
 cases hd with
 | root=>exact Nat.zero_le _
 | step a b c=>exact zeI h a b (Ug h b c)
theorem zlA {f:FsV} (h:okM f):uc f (trV f.xs):=⟨fun n ns hh=>by
 obtain ⟨k,hk,hd⟩:=zjk h hh
 show qA f.xs (f.xs.length+1) n ns=_
 rw[qA,if_pos hh]
 congr 1
 refine XU fun e he=>?_
 have hlt:=zeI h hd hh (Ug h hh he)
 exact Mq h _ _ (k+1) e.ino _ (.step hd hh he) (by omega) (by omega) (by omega),fun n ns hh=>by
 show qA f.xs (f.xs.length+1) n ns=_
 rw[qA,if_neg (by rw[hh];decide)]⟩
theorem zkm {f:FsV} (h:okM f):zcG f (trV f.xs):=by
 obtain ⟨p0,p1,p2,p3,_⟩:=ql h
 exact ⟨zlA h,p0,p1.2.2.2.2.2.2.1,p3,fun x hx hk=>((p2 x hx).2.1 hk).1⟩
end
section
theorem kz (ns:List (List UInt8)) (x:List UInt8) (hne:∀ y∈ns,y≠[]):qr (ns++[x])=Ua (qr ns) x:=by
 have hj:=Ut (ns++[x]) ns.length x (by simp)
 rw[List.take_of_length_le (by simp),List.take_left' rfl]at hj
 unfold qr
 rw[if_neg (by simp),hj]
 by_cases h:ns = []
 ·subst h;rfl
 ·have hl:ns.length≠0:=fun h0=>h (List.eq_nil_of_length_eq_zero h0)
  rw[if_neg hl,if_neg h]
  have hne47:(47 :: Lib.join ns [47])≠[47]:=fun he=>by
   have h1:Lib.join ns [47] = []:=(List.cons.inj he).2
   have h2:=XE ns h
   rw[h1]at h2
   cases ns with
   | nil=>exact h rfl
   | cons y r =>
    have:=List.length_pos_iff.2 (hne y List.mem_cons_self)
    simp at h2;omega
  unfold Ua
  rw[if_neg hne47]
  simp
end
section
inductive Anc (xs:List zn) (n:Int):Nat->Int->Prop
 | same:Anc xs n 0 n
 | step {j:Nat} {p:Int} {e:zK}:Anc xs n j p->zw p xs=true->e∈(zf p xs).es->Anc xs n (j+1) e.ino
theorem Anc.dep {xs:List zn} {n:Int} {k:Nat} (hd:Dep xs k n):∀ {j:Nat} {d:Int},Anc xs n j d->Dep xs (k+j) d
 | _,_,.same=>hd
 | _,_,.step a b c=>.step (a.dep hd) b c
theorem Anc.up {xs:List zn} {n:Int} {e:zK} (hh:zw n xs=true) (he:e∈(zf n xs).es):∀ {j:Nat} {d:Int},Anc xs e.ino j d->Anc xs n (j+1) d
 | _,_,.same=>.step .same hh he
 | _,_,.step a b c=>.step (a.up hh he) b c
theorem YB {xs:List zn}:∀ (m:Nat) (n:Int) (ns:List (List UInt8)),∀ p∈qA xs m n ns,∃ j,Anc xs n j p.2.ino/\zw p.2.ino xs=true/\zf p.2.ino xs=p.2
 | 0,n,ns,p,hp=>by cases hp
 | m+1,n,ns,p,hp=>by
  unfold qA at hp
  split at hp
  ·rename_i hh
   obtain ⟨_,hi⟩:=qM hh
   rcases List.mem_cons.1 hp with rfl | hp
   ·exact ⟨0,by rw[hi];exact .same,by rw[hi];exact hh,by rw[hi]⟩
   ·obtain ⟨e,he,hp⟩:=List.mem_flatMap.1 hp
    obtain ⟨j,q1,q2⟩:=YB m _ _ p hp
    exact ⟨j+1,q1.up hh he,q2⟩
  ·cases hp
theorem yW {f:FsV} (h:okM f) {a b:Int}:∀ (j:Nat) (d:Int),Anc f.xs a j d->Anc f.xs b j d->zw d f.xs=true->(zf d f.xs).kind=2->a=b/\zw a f.xs=true/\(zf a f.xs).kind=2
 | 0,d,h1,h2,hh,hk=>by
  cases h1;cases h2
  exact ⟨rfl,hh,hk⟩
 | j+1,d,h1,h2,hh,hk=>by
  obtain ⟨_,_,_,_,h4,_⟩:=ql h
  cases h1 with
  | @step _ p e x y z =>
   generalize hn:e.ino=d at h2 hh hk
   cases h2 with
   | @step _ p' e' x' y' z' =>
    have hp:=QF y z
    have hp':=QF y' z'
    rw[hn]at hp
    obtain ⟨hm,hi⟩:=qM hh
    have hq:=(h4 _ hm).2
    rw[hi,if_neg (jC h y' z')]at hq
    have:=xf hp hp' (hq.2 hk).1
    subst this
    exact yW h j p x x' y (Ug h y z)
theorem zlo {xs:List zn} {n:Int} {e e':zK} (hh:zw n xs=true) (hs:[e,e'].Sublist (zf n xs).es) (hi:e.ino=e'.ino):2<=Qg e.ino (zP xs):=by
 obtain ⟨hm,hino⟩:=qM hh
 have h1:([e,e'].map fun e=>(e.ino,(zf n xs).ino)).Sublist (Q8 (zf n xs) (zf n xs).es):=hs.map _
 obtain ⟨i,hi',hx⟩:=List.getElem_of_mem hm
 have h2:(Q8 (zf n xs) (zf n xs).es).Sublist (zP xs):=by
  obtain ⟨s,t,hst⟩:=List.append_of_mem hm
  unfold zP
  conv=>rhs;rw[hst]
  rw[List.flatMap_append,List.flatMap_cons]
  exact (List.sublist_append_left _ _).trans (List.sublist_append_right _ _)
 have h3:=((h1.trans h2).filter fun p=>p.1==e.ino).length_le
 unfold Qg
 simpa [hi] using h3
abbrev J2 (l:Jb):List Int:=(l.filter fun p=>decide (p.2.kind=2)).map fun p=>p.2.ino
theorem Vh {l:Jb} {d:Int} (h:d∈J2 l):∃ p∈l,p.2.kind=2/\p.2.ino=d:=by
 obtain ⟨p,hp,rfl⟩:=List.mem_map.1 h
 obtain ⟨h1,h2⟩:=List.mem_filter.1 hp
 exact ⟨p,h1,of_decide_eq_true h2,rfl⟩
theorem Yt {f:FsV} (h:okM f):∀ (m:Nat) (n:Int) (ns:List (List UInt8)),zw n f.xs=true->(J2 (qA f.xs m n ns)).Nodup
 | 0,n,ns,_=>List.nodup_nil
 | m+1,n,ns,hh=>by
  obtain ⟨k,hd⟩:=yb h hh
  obtain ⟨_,_,_,h3,h4,_⟩:=ql h
  obtain ⟨hm,hi⟩:=qM hh
  have key:∀ L:List zK,L.Sublist (zf n f.xs).es->(J2 (L.flatMap fun e=>qA f.xs m e.ino (ns++[e.name]))).Nodup:=by
   intro L
   induction L with
   | nil=>intro _;exact List.nodup_nil
   | cons e r ih =>
    intro hs
    have he:e∈(zf n f.xs).es:=hs.subset List.mem_cons_self
    have hr:r.Sublist (zf n f.xs).es:=(List.sublist_cons_self e r).trans hs
    have hap:J2 ((e :: r).flatMap fun e=>qA f.xs m e.ino (ns++[e.name]))=J2 (qA f.xs m e.ino (ns++[e.name]))++J2 (r.flatMap fun e=>qA f.xs m e.ino (ns++[e.name])):=by
     rw[List.flatMap_cons];unfold J2;rw[List.filter_append,List.map_append]
    rw[hap,List.nodup_append]
    refine ⟨Yt h m e.ino _ (h3 _ hm e he),ih hr,fun d hd1 d' hd2 hdd=>?_⟩
    subst hdd
    obtain ⟨p,p1,p2,rfl⟩:=Vh hd1
    obtain ⟨p',p1',p2',p3'⟩:=Vh hd2
    obtain ⟨e',he',p1'⟩:=List.mem_flatMap.1 p1'
    obtain ⟨j,a1,a2,a3⟩:=YB m _ _ p p1
    obtain ⟨j',b1,b2,b3⟩:=YB m _ _ p' p1'
    rw[p3']at b1
    have hk:(zf p.2.ino f.xs).kind=2:=by rw[a3];exact p2
    have hdep:=Q5 h _ _ _ (a1.dep (.step hd hh he)) (b1.dep (.step hd hh (hr.subset he'))) a2 hk
    obtain rfl:j=j':=by omega
    obtain ⟨q1,q2,q3⟩:=yW h j _ a1 b1 a2 hk
    have hs2:[e,e'].Sublist (zf n f.xs).es:=(List.Sublist.cons_cons e (List.singleton_sublist.2 he')).trans hs
    have h2:=zlo hh hs2 q1
    obtain ⟨hm2,hi2⟩:=qM q2
    have hq:=(h4 _ hm2).2
    rw[hi2,if_neg (jC h hh he)]at hq
    have:=(hq.2 q3).1
    omega
  unfold qA
  rw[if_pos hh]
  by_cases hk:(zf n f.xs).kind=2
  ·have hc:J2 ((ns,zf n f.xs) :: (zf n f.xs).es.flatMap fun e=>qA f.xs m e.ino (ns++[e.name]))=n :: J2 ((zf n f.xs).es.flatMap fun e=>qA f.xs m e.ino (ns++[e.name])):=by
    unfold J2
    rw[List.filter_cons_of_pos (by simpa using hk),List.map_cons,hi]
   rw[hc,List.nodup_cons]
   refine ⟨fun hmem=>?_,key _ (List.Sublist.refl _)⟩
   obtain ⟨p,p1,p2,p3⟩:=Vh hmem
   obtain ⟨e,he,p1⟩:=List.mem_flatMap.1 p1
   obtain ⟨j,a1,a2,a3⟩:=YB m _ _ p p1
   rw[p3]at a1
   have:=Q5 h _ _ _ (a1.dep (.step hd hh he)) hd hh hk
   omega
  ·have hc:J2 ((ns,zf n f.xs) :: (zf n f.xs).es.flatMap fun e=>qA f.xs m e.ino (ns++[e.name]))=J2 ((zf n f.xs).es.flatMap fun e=>qA f.xs m e.ino (ns++[e.name])):=by
    unfold J2
    rw[List.filter_cons_of_neg (by simpa using hk)]
   rw[hc]
   exact key _ (List.Sublist.refl _)
end
section
def Ud (l:Jb):Nat:=(l.map fun p=>p.2.es.length).sum
theorem zbP (a b:Jb):Ud (a++b)=Ud a+Ud b:=by unfold Ud;rw[List.map_append,List.sum_append]
theorem ud {xs:List zn}:∀ (m:Nat) (n:Int) (ns:List (List UInt8)),(qA xs m n ns).length<=1+Ud (qA xs m n ns)
 | 0,n,ns=>Nat.zero_le _
 | m+1,n,ns=>by
  unfold qA
  split
  ·have key:∀ L:List zK,(L.flatMap fun e=>qA xs m e.ino (ns++[e.name])).length<=L.length+Ud (L.flatMap fun e=>qA xs m e.ino (ns++[e.name])):=by
    intro L
    induction L with
    | nil=>exact Nat.le_refl _
    | cons e r ih =>
     rw[List.flatMap_cons,List.length_append,zbP,List.length_cons]
     have:=ud (xs:=xs) m e.ino (ns++[e.name])
     omega
   have:=key (zf n xs).es
   have hs:∀ l:Jb,Ud ((ns,zf n xs) :: l)=(zf n xs).es.length+Ud l:=fun l=>by unfold Ud;rw[List.map_cons,List.sum_cons]
   rw[List.length_cons,hs]
   omega
  ·exact Nat.zero_le _
theorem zfI {l:Jb} (h:∀ p∈l,p.2.es.length<=3240/\(p.2.kind≠2->p.2.es = [])):Ud l<=3240*(J2 l).length:=by
 induction l with
 | nil=>exact Nat.zero_le _
 | cons p r ih =>
  have hp:=h p List.mem_cons_self
  have ih:=ih fun q hq=>h q (List.mem_cons_of_mem _ hq)
  unfold Ud at ih ⊢
  rw[List.map_cons,List.sum_cons]
  unfold J2 at ih ⊢
  by_cases hk:p.2.kind=2
  ·rw[List.filter_cons_of_pos (by simpa using hk),List.map_cons,List.length_cons];omega
  ·rw[List.filter_cons_of_neg (by simpa using hk),hp.2 hk]
   simpa using ih
theorem zhV {f:FsV} (h:okM f) (m:Nat) (n:Int) (ns:List (List UInt8)):(qA f.xs m n ns).length<=10497601:=by
 obtain ⟨h0,_,h2,_⟩:=ql h
 cases hh:zw n f.xs with
 | false =>
  cases m with
  | zero=>exact Nat.zero_le _
  | succ m=>unfold qA;rw[hh];exact Nat.zero_le _
 | true =>
  have h1:=ud (xs:=f.xs) m n ns
  have hg:∀ p∈qA f.xs m n ns,p.2∈f.xs:=fun p hp=>by
   obtain ⟨j,_,q2,q3⟩:=YB m n ns p hp
   rw[←q3];exact (qM q2).1
  have hs:=zfI (l:=qA f.xs m n ns) fun p hp=>⟨(h0.2 _ (hg p hp)).2.1,fun hk=>((h2 _ (hg p hp)).2.1 hk).1⟩
  have hd:=Qt (Yt h m n ns hh) fun d hd=>by
   obtain ⟨p,p1,_,rfl⟩:=Vh hd
   obtain ⟨_,_,q2,_⟩:=YB m n ns p p1
   exact q2
  have:=h0.1
  omega
def kj (ns:List (List UInt8)):Nat:=(ns.map fun x=>x.length+1).sum
theorem NO (ns:List (List UInt8)) (x:List UInt8):kj (ns++[x])=kj ns+(x.length+1):=by
 unfold kj;rw[List.map_append,List.sum_append];simp
theorem QV {xs:List zn} (h0:zmd xs):∀ (m:Nat) (n:Int) (ns:List (List UInt8)),∀ p∈qA xs m n ns,p.1.length<=ns.length+m/\kj p.1<=kj ns+m*301
 | 0,n,ns,p,hp=>by cases hp
 | m+1,n,ns,p,hp=>by
  unfold qA at hp
  split at hp
  ·rename_i hh
   obtain ⟨hm,_⟩:=qM hh
   rcases List.mem_cons.1 hp with rfl | hp
   ·exact ⟨Nat.le_add_right _ _,Nat.le_add_right _ _⟩
   ·obtain ⟨e,he,hp⟩:=List.mem_flatMap.1 hp
    obtain ⟨q1,q2⟩:=QV h0 m _ _ p hp
    have:=(h0.2 _ hm).2.2 e he
    rw[NO]at q2
    rw[List.length_append,List.length_singleton]at q1
    exact ⟨by omega,by omega⟩
  ·cases hp
theorem Yr (ns:List (List UInt8)):(Lib.join ns [47]).length<=kj ns:=by
 by_cases h:ns = []
 ·subst h;exact Nat.zero_le _
 ·have:=XE ns h
  unfold kj;omega
theorem zgd {f:FsV} (h:okM f) (n:Int) (ns:List (List UInt8)) (h1:ns.length<=100000) (h2:kj ns<=20000):xg (trV f.xs) n ns:=by
 obtain ⟨h0,_⟩:=ql h
 refine ⟨Nat.le_trans (zhV h _ n ns) (by decide),fun p hp=>?_⟩
 obtain ⟨q1,q2⟩:=QV h0 _ n ns p hp
 have:=Yr p.1
 have:=h0.1
 exact ⟨by omega,by omega⟩
end
section
theorem U7 {xs:List zn}:∀ (m:Nat) (n:Int) (ns:List (List UInt8)) (j:Nat) (d:Int),Anc xs n j d->j<m->zw n xs=true->(∀ x∈xs,∀ e∈x.es,zw e.ino xs=true)->∃ p∈qA xs m n ns,p.2.ino=d
 | 0,n,ns,j,d,ha,hj,hh,h3=>by omega
 | m+1,n,ns,0,d,ha,hj,hh,h3=>by
  cases ha
  obtain ⟨_,hi⟩:=qM hh
  refine ⟨(ns,zf n xs),?_,hi⟩
  unfold qA
  rw[if_pos hh]
  exact List.mem_cons_self
 | m+1,n,ns,j+1,d,ha,hj,hh,h3=>by
  have key:∀ (j:Nat) (d:Int),Anc xs n (j+1) d->∃ e∈(zf n xs).es,Anc xs e.ino j d:=by
   intro j
   induction j with
   | zero =>
    intro d ha
    cases ha with
    | step a b c=>cases a;exact ⟨_,c,.same⟩
   | succ j ih =>
    intro d ha
    cases ha with
    | step a b c =>
     obtain ⟨e,he,h⟩:=ih _ a
     exact ⟨e,he,.step h b c⟩
  obtain ⟨e,he,h⟩:=key j d ha
  obtain ⟨hm,_⟩:=qM hh
  obtain ⟨p,p1,p2⟩:=U7 m e.ino (ns++[e.name]) j d h (by omega) (h3 _ hm e he) h3
  refine ⟨p,?_,p2⟩
  unfold qA
  rw[if_pos hh]
  exact List.mem_cons_of_mem _ (List.mem_flatMap.2 ⟨e,he,p1⟩)
theorem zcN {xs:List zn}:∀ {k:Nat} {n:Int},Dep xs k n->Anc xs 1 k n
 | _,_,.root=>.same
 | _,_,.step a b c=>.step (zcN a) b c
theorem zeL {f:FsV} (h:okM f) {n:Int} (hh:zw n f.xs=true):∃ p∈trV f.xs 1 [],p.2.ino=n:=by
 obtain ⟨_,h1,_,h3,_⟩:=ql h
 obtain ⟨k,hk,hd⟩:=zjk h hh
 exact U7 _ 1 [] k n (zcN hd) (by omega) h1.2.2.2.2.2.2.2.1 h3
theorem VA {f:FsV} {m:Nat} {n:Int} {ns:List (List UInt8)} {p:List (List UInt8)×zn} (hp:p∈qA f.xs m n ns):zw p.2.ino f.xs=true/\zf p.2.ino f.xs=p.2:=by
 obtain ⟨_,_,q⟩:=YB m n ns p hp
 exact q
theorem Vd:∀ {l:Jb} {n:Int},(J2 l).Nodup->(∀ p∈l,p.2.ino=n->p.2.kind=2)->(∃ p∈l,p.2.ino=n)->∃ p,l.filter (fun p=>decide (p.2.ino=n)) = [p]
 | [],n,_,_,⟨p,hp,_⟩=>by cases hp
 | q :: l,n,hn,hk,hex=>by
  have hk':∀ p∈l,p.2.ino=n->p.2.kind=2:=fun p hp=>hk p (List.mem_cons_of_mem _ hp)
  by_cases hq:q.2.ino=n
  ·have hk2:=hk q List.mem_cons_self hq
   have hc:J2 (q :: l)=q.2.ino :: J2 l:=by
    unfold J2;rw[List.filter_cons_of_pos (by simpa using hk2),List.map_cons]
   rw[hc,List.nodup_cons,hq]at hn
   have he:l.filter (fun p=>decide (p.2.ino=n)) = []:=by
    rw[List.filter_eq_nil_iff]
    intro p hp hpn
    have hpn:=of_decide_eq_true hpn
    refine hn.1 ?_
    exact List.mem_map.2 ⟨p,List.mem_filter.2 ⟨hp,by simpa using hk' p hp hpn⟩,hpn⟩
   exact ⟨q,by rw[List.filter_cons_of_pos (by simpa using hq),he]⟩
  ·have hn':(J2 l).Nodup:=by
    unfold J2 at hn ⊢
    by_cases hk2:q.2.kind=2
    ·rw[List.filter_cons_of_pos (by simpa using hk2),List.map_cons,List.nodup_cons]at hn;exact hn.2
    ·rw[List.filter_cons_of_neg (by simpa using hk2)]at hn;exact hn
   obtain ⟨p,hp,hpn⟩:=hex
   have hpl:p∈l:=by
    rcases List.mem_cons.1 hp with rfl | hp
    ·exact absurd hpn hq
    ·exact hp
   obtain ⟨p',h⟩:=Vd hn' hk' ⟨p,hpl,hpn⟩
   exact ⟨p',by rw[List.filter_cons_of_neg (by simpa using hq)];exact h⟩
theorem GE {f:FsV} (h:okM f) {n:Int} (hh:zw n f.xs=true) (hk:(zf n f.xs).kind=2):∃ p,X2 n (trV f.xs 1 []) = [p]/\V1 n (trV f.xs 1 [])=some p:=by
 obtain ⟨_,h1,_⟩:=ql h
 have hkk:∀ p∈trV f.xs 1 [],p.2.ino=n->p.2.kind=2:=fun p hp hpn=>by
  obtain ⟨_,q⟩:=VA hp
  rw[hpn]at q;rw[←q];exact hk
 obtain ⟨p,hp⟩:=Vd (Yt h _ 1 [] h1.2.2.2.2.2.2.2.1) hkk (zeL h hh)
 refine ⟨qr p.1,by unfold X2;rw[hp];rfl,?_⟩
 unfold V1
 have he:(fun q:List (List UInt8)×zn=>decide (q.2.ino=n)&&decide (q.2.kind=2))=fun q=>decide (q.2.ino=n)&&decide (q.2.kind=2):=rfl
 rw[←List.head?_filter]
 have hf:(trV f.xs 1 []).filter (fun q=>decide (q.2.ino=n)&&decide (q.2.kind=2))=(trV f.xs 1 []).filter fun q=>decide (q.2.ino=n):=by
  refine List.filter_congr fun q hq=>?_
  by_cases hqn:q.2.ino=n
  ·simp[hqn,hkk q hq hqn]
  ·simp[hqn]
 rw[hf,hp];rfl
end
section
theorem Hy {xs:List zn} (hm:∀ x∈xs,∀ e∈x.es,may e.name=true):∀ (m:Nat) (n:Int) (ns:List (List UInt8)),∀ p∈qA xs m n ns,∃ zs,p.1=ns++zs/\∀ z∈zs,may z=true
 | 0,n,ns,p,hp=>by unfold qA at hp;cases hp
 | m+1,n,ns,p,hp=>by
  unfold qA at hp
  split at hp
  ·rename_i hh
   rcases List.mem_cons.1 hp with rfl | hp
   ·exact ⟨[],by simp,fun z hz=>by cases hz⟩
   ·obtain ⟨e,he,hp⟩:=List.mem_flatMap.1 hp
    obtain ⟨zs,h1,h2⟩:=Hy hm m e.ino _ p hp
    refine ⟨e.name :: zs,by rw[h1,List.append_assoc];rfl,fun z hz=>?_⟩
    rcases List.mem_cons.1 hz with rfl | hz
    ·exact hm _ (qM hh).1 e he
    ·exact h2 z hz
  ·cases hp
theorem zdj {es:List zK} (h:Yo es):es.Pairwise fun a b=>a.name≠b.name:=by
 have key:∀ (d i:Nat) (hj:i+d+1<es.length),es[i].name<es[i+d+1].name:=by
  intro d
  induction d with
  | zero =>
   intro i hj
   have h1:=(h (i+1) hj).2.2 (by omega)
   rw[bytesLess_eq]at h1
   exact of_decide_eq_true h1
  | succ d ih =>
   intro i hj
   have h1:=(h (i+(d+1)+1) hj).2.2 (by omega)
   rw[bytesLess_eq]at h1
   have h1:=of_decide_eq_true h1
   have h2:=ih i (by omega)
   exact List.lt_trans h2 h1
 refine List.pairwise_iff_getElem.2 fun i j hi hj hij he=>?_
 obtain ⟨d,rfl⟩:∃ d,j=i+d+1:=⟨j-i-1,by omega⟩
 have h1:=key d i hj
 rw[he]at h1
 exact List.lt_irrefl _ h1
theorem Uc {f:FsV} (h:okM f):(∀ x∈f.xs,∀ e∈x.es,may e.name=true)/\∀ x∈f.xs,x.es.Pairwise fun a b=>a.name≠b.name:=by
 obtain ⟨_,_,h2,_⟩:=ql h
 have key:∀ x∈f.xs,Yo x.es:=fun x hx=>by
  by_cases hk:x.kind=2
  ·exact ((h2 x hx).2.2.1 hk).2
  ·rw[((h2 x hx).2.1 hk).1];intro i hi;simp at hi
 refine ⟨fun x hx e he=>?_,fun x hx=>zdj (key x hx)⟩
 obtain ⟨i,hi,rfl⟩:=List.getElem_of_mem he
 exact (key x hx i hi).1
end
section
open CA CB
open Go.RowKit
theorem zjh {f:FsV} (h:okM f) {n:Int} (hh:zw n f.xs=true) (hk:(zf n f.xs).kind=2) :
  ∃ ns,(∀ z∈ns,may z=true)/\ns.length<=3241/\kj ns<=980000/\X2 n (trV f.xs 1 []) = [qr ns]/\V1 n (trV f.xs 1 [])=some (qr ns):=by
 obtain ⟨h0,h1,_⟩:=ql h
 have hkk:∀ p∈trV f.xs 1 [],p.2.ino=n->p.2.kind=2:=fun p hp hpn=>by
  obtain ⟨_,q⟩:=VA hp
  rw[hpn]at q;rw[←q];exact hk
 obtain ⟨p,hp⟩:=Vd (Yt h _ 1 [] h1.2.2.2.2.2.2.2.1) hkk (zeL h hh)
 obtain ⟨q,q1,q2⟩:=GE h hh hk
 have hq:X2 n (trV f.xs 1 []) = [qr p.1]:=by unfold X2;rw[hp];rfl
 rw[hq]at q1
 have hqe:qr p.1=q:=by simpa using q1
 have hpm:p∈trV f.xs 1 []:=(List.mem_filter.1 (by rw[hp];exact List.mem_singleton.2 rfl)).1
 obtain ⟨zs,z1,z2⟩:=Hy (Uc h).1 _ 1 [] p hpm
 obtain ⟨t1,t2⟩:=QV h0 _ 1 [] p hpm
 have t3:=Yr p.1
 have t4:kj []=0:=rfl
 have h40:=h0.1
 rw[List.nil_append]at z1
 rw[←z1]at z2
 simp only[List.length_nil,t4]at t1 t2
 exact ⟨p.1,z2,by omega,by omega,hq,by rw[q2,hqe]⟩
def jJ (f:FsV) (s:zT):List UInt8:=Ua ((V1 s.dir (trV f.xs 1 [])).getD []) s.name
theorem zdc (f:FsV) (h:okM f) (s:zT) (hh:zw s.dir f.xs=true) (hk:(zf s.dir f.xs).kind=2) (hm:may s.name=true):Fun Tryz.prog G0 61 [.agg (fsC f),.agg (jI s)] (.str (jJ f s)) 0:=by
 obtain ⟨ns,n1,n2,n3,n4,n5⟩:=zjh h hh hk
 have hp:=ML f s.dir _ (zkm h) (zgd h 1 [] (by decide) (by decide))
 have hml:=Hr hm
 have hjw:=Yr ns
 have hjl:(qr ns).length<=980001:=by unfold qr;split<;>simp<;>omega
 have hr:=Z8 (qr ns) (by omega)
 unfold UO at hr
 rw[Uj ns fun z hz=>Z2 (n1 z hz)]at hr
 have hj:=Xt (ns++[s.name]) (by simp;omega) (by
  have a1:=Yr (ns++[s.name])
  rw[NO]at a1
  omega)
 rw[kz ns s.name fun y hy=>(Z2 (n1 y hy)).1]at hj
 have e:jJ f s=Ua (qr ns) s.name:=by unfold jJ;rw[n5];rfl
 rw[n5]at hp
 have hsl:(zx ns).length=ns.length:=List.length_map ..
 refine fof (fun i=>if i=2 then [false,false,false,false,false,false,true,false,false] else []) Tryz.func61 ?_;dsimp only[Tryz.f61]
 push_cast -dsimp
 refine cl (hp) ?_;push_cast -dsimp [Option.getD_some,Option.isSome_some]
 refine cl (hr) ?_;push_cast -dsimp
 repeat refine an ?_
 refine cl (hj) ?_;push_cast -dsimp
 exact dn (by push_cast -dsimp [zb,za,CLe,ze,e])
end
section
open Go.RowKit
end
section
open Go.RowKit
end
section
open CA CB
open Go.RowKit
end
section
open Go.RowKit Go.ChangeMaps Go.ChangeShapes Go.WideShapes Go.Deep Go.Joins
section
variable {H:Type} {enc:TypeId×Value->H} {W:World}
end
theorem zpo {W:World} {l:List (String×DataW Unit)} (h:laidMetH Tryz.prog l W) (hp:(l.filter fun x=>x.2.handleName?.isSome) = []) (hm:("drayman/op.has",Rows.laid_drayman_op_has)∈l):YT G1 (GL W):=fun g cs hc=>by
 unfold G1 at hc
 split at hc
 ·rename_i hg
  subst hg
  cases hc
  exact j5 (t:=223) h hp hm (by kernel_rfl) (by kernel_rfl) (m:=4) (by kernel_rfl) (by kernel_rfl) (by kernel_rfl)
 ·cases hc
theorem zpj {W:World} {l:List (String×DataW Unit)} (h:laidMetH Tryz.prog l W) (hp:(l.filter fun x=>x.2.handleName?.isSome) = []) (hm1:("drayman/diag.phrases",Rows.laid_drayman_diag_phrases)∈l) (hm2:("drayman/args.kinds",Rows.laid_drayman_args_kinds)∈l) (hm3:("drayman/errs.messages",Rows.laid_drayman_errs_messages)∈l):YT G2 (GL W):=fun g cs hc=>by
 unfold G2 at hc
 split at hc
 ·rename_i hg
  subst hg
  cases hc
  exact j5 (t:=204) h hp hm1 (by kernel_rfl) (by kernel_rfl) (m:=4) (vs:=phr.map fun l=>Value.string ⟨l.toArray⟩) (by kernel_rfl) (by kernel_rfl) (by kernel_rfl)
 ·split at hc
  ·rename_i hg
   subst hg
   cases hc
   exact j5 (t:=203) h hp hm2 (by kernel_rfl) (by kernel_rfl) (m:=4) (by kernel_rfl) (by kernel_rfl) (by kernel_rfl)
  ·split at hc
   ·rename_i hg
    subst hg
    cases hc
    exact j5 (t:=244) h hp hm3 (by kernel_rfl) (by kernel_rfl) (m:=4) (vs:=zqV.map fun l=>Value.string ⟨l.toArray⟩) (by kernel_rfl) (by kernel_rfl) (by kernel_rfl)
   ·cases hc
theorem zpQ {W:World} {l:List (String×DataW Unit)} (h:laidMetH Tryz.prog l W) (hp:(l.filter fun x=>x.2.handleName?.isSome) = []) (hm:("drayman/op.has",Rows.laid_drayman_op_has)∈l) (hm1:("drayman/diag.phrases",Rows.laid_drayman_diag_phrases)∈l) (hm2:("drayman/args.kinds",Rows.laid_drayman_args_kinds)∈l) (hm3:("drayman/errs.messages",Rows.laid_drayman_errs_messages)∈l):YT GD (GL W):=fun g cs hc=>by
 unfold GD at hc
 split at hc
 ·exact zpo h hp hm g cs hc
 ·exact zpj h hp hm1 hm2 hm3 g cs hc
end
section
structure zpc (x:zn):Prop where
 par:x.kind≠2->x.parent=0
 bare:x.kind=2->x.data = []
 nam:∀ e∈x.es,may e.name=true
 lnk:x.kind=3->1<=x.data.length/\x.data.length<=4095/\∀ b∈x.data,b≠0
 named:x.ino≠1->1<=x.links
 one:x.kind=2->x.ino≠1->x.links=1
 top:x.ino=1->x.parent=1
def zqH (rk:Int->Nat) (xs:List zn):Prop:=∀ y∈xs,∀ e∈y.es,(zf e.ino xs).kind=2->(zf e.ino xs).parent=y.ino/\rk y.ino<rk e.ino
structure FsR (f:FsV):Prop where
 node:∀ x∈f.xs,zpc x
 edge:∃ rk,zqH rk f.xs
 fit:(f.xs.length:Int)<=f.maxI/\(zV f.xs:Int)<=f.maxB
 lim:1<=f.maxI/\f.maxI<=1073741824/\0<=f.maxB/\f.maxB<=1073741824
theorem zdr {xs:List zn} (h:z8 xs) {x y:zn} (hx:x∈xs) (hy:y∈xs) (e:x.ino=y.ino):x=y:=by
 obtain ⟨i,hi,rfl⟩:=List.getElem_of_mem hx
 obtain ⟨j,hj,rfl⟩:=List.getElem_of_mem hy
 have hp:=List.pairwise_iff_getElem.1 h
 rcases Nat.lt_trichotomy i j with q | q | q
 ·have:=hp i j hi hj q;omega
 ·subst q;rfl
 ·have:=hp j i hj hi q;omega
theorem yf {xs:List zn} (h:z8 xs):(xs.map (·.ino)).Nodup:=by
 rw[List.Nodup,List.pairwise_map]
 exact List.Pairwise.imp (fun q e=>by omega) h
theorem QW {xs:List zn} {n p:Int}:(n,p)∈zP xs↔∃ y∈xs,∃ e∈y.es,e.ino=n/\y.ino=p:=by
 unfold zP
 rw[List.mem_flatMap]
 refine exists_congr fun y=>and_congr_right fun hy=>?_
 unfold Q8
 rw[List.mem_map]
 refine exists_congr fun e=>and_congr_right fun he=>?_
 rw[Prod.mk.injEq]
theorem zeN {n p:Int} {l:List (Int×Int)} (h1:1<=Qg n l) (h:∀ q,(n,q)∈l->q=p):ZX n l=p:=by
 unfold Qg at h1
 unfold ZX
 cases hq:(l.filter fun p=>p.1==n).getLast? with
 | none=>rw[List.getLast?_eq_none_iff]at hq;rw[hq]at h1;simp at h1
 | some r =>
  obtain ⟨h2,h3⟩:=List.mem_filter.1 (List.mem_of_getLast? hq)
  have h3:r.1=n:=by simpa using h3
  show r.2=p
  exact h r.2 (by rw[←h3];exact h2)
theorem zih {es:List zK}:∀ S:List Int,∃ t,UA S es=S++t:=by
 induction es with
 | nil=>exact fun S=>⟨[],by simp[UA]⟩
 | cons e r ih =>
  intro S
  obtain ⟨t,h⟩:=ih (JO S e.ino)
  show ∃ t,UA (JO S e.ino) r=S++t
  rw[h]
  unfold JO
  split
  ·exact ⟨t,rfl⟩
  ·exact ⟨e.ino :: t,by simp⟩
theorem V7 {xs:List zn} (h3:∀ x∈xs,∀ e∈x.es,zw e.ino xs=true):∀ (m i:Nat) (S:List Int),JV xs S->(∀ j<i,∀ n,S[j]?=some n->∀ e∈(zf n xs).es,e.ino∈S)->xs.length+1<=m+i ->
  (∀ n∈S,n∈X7 xs m i S)/\∀ n∈X7 xs m i S,∀ e∈(zf n xs).es,e.ino∈X7 xs m i S
 | 0,i,S,hS,hc,hm=>by
  have hl:=Qt hS.nodup hS.has
  show (∀ n∈S,n∈S)/\∀ n∈S,∀ e∈(zf n xs).es,e.ino∈S
  refine ⟨fun n h=>h,fun n hn e he=>?_⟩
  obtain ⟨j,hj,rfl⟩:=List.getElem_of_mem hn
  exact hc j (by omega) _ (List.getElem?_eq_getElem hj) e he
 | m+1,i,S,hS,hc,hm=>by
  unfold X7
  cases hg:S[i]? with
  | none =>
   have hi:=List.getElem?_eq_none_iff.1 hg
   show (∀ n∈S,n∈S)/\∀ n∈S,∀ e∈(zf n xs).es,e.ino∈S
   refine ⟨fun n h=>h,fun n hn e he=>?_⟩
   obtain ⟨j,hj,rfl⟩:=List.getElem_of_mem hn
   exact hc j (by omega) _ (List.getElem?_eq_getElem hj) e he
  | some n =>
   have hn:=hS.has n (List.mem_of_getElem? hg)
   have hi:=(List.getElem?_eq_some_iff.1 hg).1
   have hg':=zq hn
   obtain ⟨t,ht⟩:=zih (es:=(zf n xs).es) S
   have hsub:∀ k∈S,k∈UA S (zf n xs).es:=fun k hk=>H1.2 (.inl hk)
   obtain ⟨r1,r2⟩:=V7 h3 m (i+1) (UA S (zf n xs).es) (Mt hS fun e he=>h3 _ hg'.2.1 e he) (fun j hj k hk e he=>by
    rcases Nat.lt_or_ge j i with hji | hji
    ·have:S[j]?=some k:=by rw[ht,List.getElem?_append_left (by omega)]at hk;exact hk
     exact hsub _ (hc j hji k this e he)
    ·have:j=i:=by omega
     subst this
     rw[ht,List.getElem?_append_left hi,hg]at hk
     cases hk
     exact H1.2 (.inr ⟨e,he,rfl⟩)) (by omega)
   exact ⟨fun k hk=>r1 k (hsub k hk),r2⟩
theorem y7 {n:Int} {l:List (Int×Int)} (h:1<=Qg n l):∃ p,(n,p)∈l:=by
 unfold Qg at h
 obtain ⟨r,hr⟩:=List.exists_mem_of_length_pos (l:=l.filter fun p=>p.1==n) (by omega)
 obtain ⟨h1,h2⟩:=List.mem_filter.1 hr
 have h2:r.1=n:=by simpa using h2
 exact ⟨r.2,by rw[←h2];exact h1⟩
theorem FsR.links {f:FsV} (hi:FsI f) {x:zn} (hx:x∈f.xs):x.links=(Qg x.ino (zP f.xs):Int):=by rw[Xm];exact hi.links x hx
theorem HH {f:FsV} (hi:FsI f) {y:zn} (hy:y∈f.xs) {e:zK} (he:e∈y.es):y.kind=2:=by
 by_cases h:y.kind=2
 ·exact h
 ·rw[hi.file y hy h]at he;cases he
theorem Xs {f:FsV} (hi:FsI f) {x:zn} (hx:x∈f.xs):zf x.ino f.xs=x:=by
 have h:=JM hx
 have h2:=zq h
 exact zdr hi.rises h2.2.1 hx h2.2.2
theorem FsR.come {f:FsV} (hi:FsI f) (h:FsR f) {S:List Int} (h1:(1:Int)∈S) (hc:∀ n∈S,∀ e∈(zf n f.xs).es,e.ino∈S):∀ n,zw n f.xs=true->n∈S:=by
 obtain ⟨rk,hr⟩:=h.edge
 have dirs:∀ (k:Nat) (n:Int),rk n<=k->zw n f.xs=true->(zf n f.xs).kind=2->n∈S:=by
  intro k
  induction k with
  | zero =>
   intro n hk hn hd
   by_cases h0:n=1
   ·rw[h0];exact h1
   obtain ⟨g1,g2,g3⟩:=zq hn
   have hl:=(h.node _ g2).named (by rw[g3];exact h0)
   rw[FsR.links hi g2,g3]at hl
   obtain ⟨p,hp⟩:=y7 (n:=n) (l:=zP f.xs) (by omega)
   obtain ⟨y,hy,e,he,q1,q2⟩:=QW.1 hp
   have:=(hr y hy e he (by rw[q1];exact hd)).2
   rw[q1]at this;omega
  | succ k ih =>
   intro n hk hn hd
   by_cases h0:n=1
   ·rw[h0];exact h1
   obtain ⟨g1,g2,g3⟩:=zq hn
   have hl:=(h.node _ g2).named (by rw[g3];exact h0)
   rw[FsR.links hi g2,g3]at hl
   obtain ⟨p,hp⟩:=y7 (n:=n) (l:=zP f.xs) (by omega)
   obtain ⟨y,hy,e,he,q1,q2⟩:=QW.1 hp
   have hlt:=(hr y hy e he (by rw[q1];exact hd)).2
   rw[q1]at hlt
   have hs:=Xs hi hy
   have:=ih y.ino (by omega) (JM hy) (by rw[hs];exact HH hi hy he)
   rw[←q1]
   exact hc y.ino this e (by rw[hs];exact he)
 intro n hn
 by_cases h0:n=1
 ·rw[h0];exact h1
 obtain ⟨g1,g2,g3⟩:=zq hn
 have hl:=(h.node _ g2).named (by rw[g3];exact h0)
 rw[FsR.links hi g2,g3]at hl
 obtain ⟨p,hp⟩:=y7 (n:=n) (l:=zP f.xs) (by omega)
 obtain ⟨y,hy,e,he,q1,q2⟩:=QW.1 hp
 have hs:=Xs hi hy
 have:=dirs _ y.ino (Nat.le_refl _) (JM hy) (by rw[hs];exact HH hi hy he)
 rw[←q1]
 exact hc y.ino this e (by rw[hs];exact he)
theorem xO {es:List zK} (hR:XP es) (h1:∀ e∈es,may e.name=true) (h2:∀ e∈es,1<=e.ino):Yo es:=fun i h =>
 ⟨h1 _ (List.getElem_mem h),h2 _ (List.getElem_mem h),fun h0=>List.pairwise_iff_getElem.1 hR (i-1) i (by omega) h (by omega)⟩
theorem FsR.check {f:FsV} (hi:FsI f) (h:FsR f) (hn:f.next<=1099511627776):jY f=0:=by
 have h1:jX f:=⟨h.lim.1,h.lim.2.1,h.lim.2.2.1,h.lim.2.2.2,hn,hi.ino,hi.rises,hi.root,hi.base⟩
 have h2:J5 f:=fun x hx=>⟨hi.kind x hx,fun hk=>⟨hi.file x hx hk,(h.node x hx).par hk⟩,fun hk=>⟨(h.node x hx).bare hk,xO (hi.es x hx) (h.node x hx).nam fun e he=>by
  have:=hi.led x hx e he
  have g:=zq this
  have:=(hi.ino _ g.2.1).1
  rw[g.2.2]at this;exact this⟩,(h.node x hx).lnk⟩
 have h3:JR f:=hi.led
 obtain ⟨rk,hr⟩:=h.edge
 have h4:Yb f:=fun x hx=>by
  have hl:=FsR.links hi hx
  refine ⟨hl,?_⟩
  by_cases h0:x.ino=1
  ·rw[if_pos h0,h0]
   exact ⟨by rw[Xm];exact hi.bare,(h.node x hx).top h0⟩
  ·rw[if_neg h0]
   have hk:=(h.node x hx).named h0
   refine ⟨by omega,fun hd=>?_⟩
   have ho:=(h.node x hx).one hd h0
   refine ⟨by omega,(zeN (by omega) fun q hq=>?_).symm⟩
   obtain ⟨y,hy,e,he,q1,q2⟩:=QW.1 hq
   have:=(hr y hy e he (by rw[q1,Xs hi hx];exact hd)).1
   rw[q1,Xs hi hx]at this
   rw[←q2,this]
 have h5:XS f:=by
  have hS:JV f.xs [1]:=⟨by simp,fun n hn=>by rw[List.mem_singleton.1 hn];exact hi.root⟩
  obtain ⟨r1,r2⟩:=V7 hi.led (f.xs.length+1) 0 [1] hS (fun j hj=>absurd hj (Nat.not_lt_zero _)) (by omega)
  have hok:=(Hu hi.led (f.xs.length+1) 0 [1] hS (fun n hn=>by rw[List.mem_singleton.1 hn];exact ⟨0,.root⟩)).1
  have hall:=h.come hi (r1 1 (by simp)) r2
  have q1:=Qt hok.nodup hok.has
  have q2:=Vc (S:=f.xs.map (·.ino)) (yf hi.rises) fun n hn=>hall n (HY.2 hn)
  rw[List.length_map]at q2
  exact Nat.le_antisymm q1 q2
 unfold jY
 rw[if_pos h1,if_pos h2,if_pos h3,if_pos h4,if_pos h5,if_pos (show UK f from h.fit)]
open Classical in
theorem zdV {f:FsV} (h:okM f):FsR f:=by
 obtain ⟨h0,h1,h2,h3,h4,h5,h6⟩:=ql h
 have hi:=Qp h.2
 refine ⟨fun x hx=>?_,?_,h6,h1.1,h1.2.1,h1.2.2.1,h1.2.2.2.1⟩
 ·obtain ⟨a1,a2,a3,a4⟩:=h2 x hx
  obtain ⟨b1,b2⟩:=h4 x hx
  refine ⟨fun hk=>(a2 hk).2,fun hk=>(a3 hk).1,fun e he=>?_,a4,fun hn=>?_,fun hk hn=>?_,fun hn=>?_⟩
  ·obtain ⟨i,hi',rfl⟩:=List.getElem_of_mem he
   exact ((a3 (HH hi hx he)).2 i hi').1
  ·rw[if_neg hn]at b2;rw[b1];omega
  ·rw[if_neg hn]at b2;rw[b1,(b2.2 hk).1];rfl
  ·rw[if_pos hn]at b2;exact b2.2
 ·refine ⟨fun n=>if hd:∃ k,Dep f.xs k n then hd.choose else 0,fun y hy e he hk=>?_⟩
  have hs:=Xs hi hy
  have hh:=hi.led y hy e he
  have g:=zq hh
  have hyk:=HH hi hy he
  have hey:e∈(zf y.ino f.xs).es:=by rw[hs];exact he
  have hne:e.ino≠1:=jC h (JM hy) hey
  constructor
  ·have b:=(h4 _ g.2.1).2
   rw[g.2.2,if_neg hne]at b
   obtain ⟨c1,c2⟩:=b.2 hk
   rw[c2]
   exact zeN (by omega) fun q hq=>(xf (QW.2 ⟨y,hy,e,he,rfl,rfl⟩) hq c1).symm
  ·obtain ⟨k,hd⟩:=yb h (JM hy)
   have hd2:=Dep.step hd (JM hy) hey
   have e1:∃ k,Dep f.xs k y.ino:=⟨k,hd⟩
   have e2:∃ k,Dep f.xs k e.ino:=⟨k+1,hd2⟩
   show (if hd:∃ k,Dep f.xs k y.ino then hd.choose else 0)<if hd:∃ k,Dep f.xs k e.ino then hd.choose else 0
   rw[dif_pos e1,dif_pos e2,Q5 h _ _ _ e1.choose_spec hd (JM hy) (by rw[hs];exact hyk),Q5 h _ _ _ e2.choose_spec hd2 hh hk]
   exact Nat.lt_succ_self k
end
section
def bN (x:zn):Nat:=if x.kind=1 then x.data.length else 0
theorem Xa:∀ xs:List zn,zV xs=vn bN xs
 | []=>rfl
 | x :: r=>by
  have ih:=Xa r
  unfold zV vn at ih ⊢
  rw[List.map_cons,List.sum_cons,←ih,List.filter_cons]
  unfold bN
  by_cases h:x.kind=1<;>simp[h]
theorem zdo {xs:List zn} (hR:z8 xs) {x:zn} (hh:zw x.ino xs=true):zV (jq x xs)+bN (zf x.ino xs)=zV xs+bN x:=by
 have:=Z3 bN (x:=x) hR
 rw[(zq hh).1]at this
 rw[Xa,Xa];exact this
theorem V3 {xs:List zn} (hR:z8 xs) {x:zn} (hh:zw x.ino xs=false):zV (jq x xs)=zV xs+bN x:=by
 have:=Z3 bN (x:=x) hR
 rw[(Jg hh).1]at this
 rw[Xa,Xa];exact this
theorem zco {xs:List zn} (hR:z8 xs) {n:Int} {F:List zK->List zK} (hh:zw n xs=true):zV (Y2 n F xs)=zV xs:=by
 have hg:=zq hh
 have:=zdo hR (x:=jV (zf n xs) (F (zf n xs).es)) (by show zw (zf n xs).ino xs=true;rw[hg.2.2];exact hh)
 have e:bN (zf (jV (zf n xs) (F (zf n xs).es)).ino xs)=bN (jV (zf n xs) (F (zf n xs).es)):=by
  show bN (zf (zf n xs).ino xs)=bN (zf n xs)
  rw[hg.2.2]
 rw[e]at this
 exact Nat.add_right_cancel this
theorem zkL {x:zn} {xs:List zn} (hR:z8 xs) (hh:zw x.ino xs=false):(jq x xs).length=xs.length+1:=by rw[←yG hR hh];simp;have:=zfc x.ino xs;omega
theorem zpc.turn {x:zn} (h:zpc x) {es:List zK} (he:∀ e∈es,may e.name=true):zpc (jV x es):=⟨h.par,h.bare,he,h.lnk,h.named,h.one,h.top⟩
theorem Hh {xs:List zn} {n m:Int} {F:List zK->List zK} (hh:zw n xs=true):(zf m (Y2 n F xs)).kind=(zf m xs).kind/\(zf m (Y2 n F xs)).parent=(zf m xs).parent/\(zf m (Y2 n F xs)).links=(zf m xs).links:=by
 rw[zb1 hh]
 split
 ·subst_vars;exact ⟨rfl,rfl,rfl⟩
 ·exact ⟨rfl,rfl,rfl⟩
theorem zm9 {f:FsV} (hi:FsI f) (h:FsR f) {s:zT} (hs:ZT f s) (hm:may s.name=true) {k:Int} {t:List UInt8} (hk:k=1∨k=2∨k=3) (hr:j3 f 1 (if k=1 then (t.length:Int) else 0)=true) (h2:k=2->t = [])
  (h3:k=3->1<=t.length/\t.length<=4095/\∀ b∈t,b≠0):FsR (Un f s k t):=by
 obtain ⟨n1,n2⟩:=Gc hi
 have hd:=zq hs.has
 have hlt:=xD hi
 have hdn:s.dir≠f.next:=fun e=>by have:=hs.has;rw[e,n1]at this;cases this
 have hR1:z8 (Y2 s.dir (z7 s.name f.next) f.xs):=QA hi.rises
 have hn1:zw f.next (Y2 s.dir (z7 s.name f.next) f.xs)=false:=by rw[Zf hs.has];exact n1
 obtain ⟨rk,hrk⟩:=h.edge
 have hmem:∀ {z:zn},z∈(Un f s k t).xs->z=⟨f.next,k,1,t,if k=2 then s.dir else 0,[]⟩∨z=jV (zf s.dir f.xs) (z7 s.name f.next (zf s.dir f.xs).es)∨(z∈f.xs/\z.ino≠s.dir):=fun {z} hz=>by
  rcases Jm.1 hz with rfl | ⟨hz,_⟩
  ·exact .inl rfl
  ·exact .inr ((Xp hs.has).1 hz)
 have hgot:∀ m,m≠f.next->(zf m (Un f s k t).xs).kind=(zf m f.xs).kind/\(zf m (Un f s k t).xs).parent=(zf m f.xs).parent:=fun m hm=>by
  have e:zf m (Un f s k t).xs=zf m (Y2 s.dir (z7 s.name f.next) f.xs):=by
   show zf m (jq _ _)=_
   rw[Qw,if_neg (fun e:f.next=m=>hm e.symm)]
  rw[e]
  exact ⟨(Hh hs.has).1,(Hh hs.has).2.1⟩
 have hgn:zf f.next (Un f s k t).xs=⟨f.next,k,1,t,if k=2 then s.dir else 0,[]⟩:=by
  show zf _ (jq _ _)=_
  rw[Qw,if_pos rfl]
 refine ⟨fun z hz=>?_,⟨fun n=>if n=f.next then rk s.dir+1 else rk n,fun y hy e he hke=>?_⟩,?_,h.lim⟩
 ·rcases hmem hz with rfl | rfl | ⟨hz,_⟩
  ·exact ⟨fun q=>if_neg q,h2,fun e he=>(by cases he),h3,fun _=>Int.le_refl 1,fun _ _=>rfl,fun q=>by have q:f.next=1:=q;omega⟩
  ·exact (h.node _ hd.2.1).turn fun e he=>by
    rcases Vj he with rfl | he
    ·exact hm
    ·exact (h.node _ hd.2.1).nam e he
  ·exact h.node z hz
 ·have old:∀ y0∈f.xs,e∈y0.es->(zf e.ino (Un f s k t).xs).parent=y0.ino/\(if y0.ino=f.next then rk s.dir+1 else rk y0.ino)<(if e.ino=f.next then rk s.dir+1 else rk e.ino):=fun y0 hy0 he0=>by
   have hne:=n2 y0 hy0 e he0
   obtain ⟨g1,g2⟩:=hgot e.ino hne
   rw[g1]at hke
   have:=hrk y0 hy0 e he0 hke
   rw[g2,if_neg hne,if_neg (fun q=>by have:=(hi.ino y0 hy0).2;omega)]
   exact this
  rcases hmem hy with rfl | rfl | ⟨hy,_⟩
  ·cases he
  ·rcases Vj he with rfl | he
   ·rw[hgn]at hke ⊢
    have hke:k=2:=hke
    show (if k=2 then s.dir else 0)=(zf s.dir f.xs).ino/\_
    rw[if_pos hke,hd.2.2]
    refine ⟨rfl,?_⟩
    show (if s.dir=f.next then _ else rk s.dir)<if f.next=f.next then _ else _
    rw[if_neg hdn,if_pos rfl]
    exact Nat.lt_succ_self _
   ·exact old (zf s.dir f.xs) hd.2.1 he
  ·exact old y hy he
 ·unfold j3 at hr
  simp only[Bool.and_eq_true,decide_eq_true_eq]at hr
  have hl:(Un f s k t).xs.length=f.xs.length+1:=by
   show (jq _ _).length=_
   rw[zkL hR1 hn1,HU hi.rises hs.has]
  have hb:zV (Un f s k t).xs=zV f.xs+bN ⟨f.next,k,1,t,if k=2 then s.dir else 0,[]⟩:=by
   show zV (jq _ _)=_
   rw[V3 hR1 hn1,zco hi.rises hs.has]
  rw[hl,hb]
  show ((f.xs.length+1:Nat):Int)<=f.maxI/\((zV f.xs+(if k=1 then t.length else 0):Nat):Int)<=f.maxB
  split at hr<;>(rename_i hq;simp only[hq,if_true,if_false];omega)
end
section
inductive Bel (xs:List zn) (x:Int):Int->Prop
 | refl:Bel xs x x
 | step {y n:Int}:Bel xs x y->zw y xs=true->(∃ e∈(zf y xs).es,e.ino=n)->Bel xs x n
end
section
inductive zhS (xs:List zn):List (List UInt8)->Int->Prop
 | root:zhS xs [] 1
 | step {ns:List (List UInt8)} {y n:Int} {m:List UInt8}:zhS xs ns y->zw y xs=true->(zf y xs).kind=2->jT zK.name m (zf y xs).es=some ⟨m,n⟩->zhS xs (ns++[m]) n
end
section
structure zhr (w:qd):Prop where
 fs:FsR w.fs
 pool:∀ x∈w.pool,qg w x
 slots:∀ k∈w.kept,1<=k.slot
 kept:∀ k∈w.kept,YS w k
theorem zpT {w:qd} (h:okW w):zhr w:=⟨zdV (okV.m ⟨h.1.2.1,h.2.1⟩),h.2.2.2.1,h.2.2.2.2.1.2,h.2.2.2.2.2⟩
theorem zrl {w:qd} (h:zhr w) {g:FsV} (hg:FsR g) (hn:w.fs.next<=g.next) (hp:∀ x∈w.pool,zw x.ino g.xs=false) (hk:∀ m,zw m w.fs.xs=true->zw m g.xs=true/\(zf m g.xs).kind=(zf m w.fs.xs).kind):zhr { w with fs:=g }:=by
 refine ⟨hg,fun x hx=>?_,h.slots,fun k hkk=>?_⟩
 ·obtain ⟨q1,q2,q3,q4⟩:=h.pool x hx
  exact ⟨hp x hx,q2,by show x.ino<g.next;omega,q4⟩
 ·obtain ⟨q1,q2,q3,q4⟩:=h.kept k hkk
  refine ⟨q1,q2.imp (fun q=>(hk _ q).1) id,fun hc=>?_,q4⟩
  have:=q3 hc
  show (if zw k.ino w.pool=true then zf k.ino w.pool else zf k.ino g.xs).kind=1
  by_cases hq:zw k.ino w.pool=true
  ·rw[if_pos hq]at this ⊢;exact this
  ·rw[if_neg hq]at this ⊢
   rw[(hk _ (q2.resolve_right hq)).2];exact this
theorem zmX {w:qd} (hi:x8 w) (h:zhr w) {p:List UInt8} (hp:qc p=true) {k:Int} (hk:k=1∨k=2∨k=3) {t:List UInt8} (h2:k=2->t = []) (h3:k=3->1<=t.length/\t.length<=4095/\∀ b∈t,b≠0):zhr (qh w p k t).1:=by
 unfold qh
 by_cases hz:(isV w.fs p false).2.2≠0
 ·rw[if_pos hz];exact h
 rw[if_neg hz]
 have hs:=kR hi.fs hp (Classical.not_not.1 hz)
 obtain ⟨n1,n2⟩:=Gc hi.fs
 show zhr { w with fs:=(Yx w.fs (isV w.fs p false).1 k t).1 }
 unfold Yx
 by_cases hm:may (isV w.fs p false).1.name=true
 case neg=>rw[if_neg hm];exact h
 rw[if_pos hm]
 by_cases hr:j3 w.fs 1 (if k=1 then (t.length:Int) else 0)=true
 case neg=>rw[if_neg hr];exact h
 rw[if_pos hr]
 have hhas:∀ m,zw m (Un w.fs (isV w.fs p false).1 k t).xs=(decide (w.fs.next=m)||zw m w.fs.xs):=fun m=>by
  show zw m (jq _ _)=_
  rw[QL,Zf hs.has]
 refine zrl h (zm9 hi.fs h.fs hs hm hk hr h2 h3) (by show w.fs.next<=w.fs.next+1;omega) (fun x hx=>?_) (fun m hh=>⟨by rw[hhas,hh,Bool.or_true],?_⟩)
 ·rw[hhas,(hi.apart x hx).1,Bool.or_false]
  exact decide_eq_false (by have:=(hi.apart x hx).2;omega)
 ·have hne:w.fs.next≠m:=fun e=>by rw[←e,n1]at hh;cases hh
  show (zf m (jq _ _)).kind=_
  rw[Qw,if_neg hne]
  exact (Hh hs.has).1
end
section
theorem zeK (w:qd) (p:List UInt8) (k:Int) (t:List UInt8):(qh w p k t).1.fs.next<=w.fs.next+1:=by
 unfold qh
 split
 ·show w.fs.next<=_;omega
 ·show (Yx w.fs (isV w.fs p false).1 k t).1.next<=_
  rcases XB w.fs (isV w.fs p false).1 k t with e | e
  ·rw[e];omega
  ·rw[e];exact Int.le_refl _
end
section
inductive zhf (w:qd):List OpV->qd->Prop
 | nil:zhf w [] w
 | snoc {l:List OpV} {v:qd} {o:OpV}:zhf w l v->(doV v o).2=0->zhf w (l++[o]) (doV v o).1
structure zqZ (w:qd) (d:zr):Prop where
 run:zhf w d.ops d.w
 may:∀ o∈d.ops,zg0 o=true/\o.kind<=7
 rise:(zjl d.ops).Pairwise (· < ·)
 over:∀ s∈zjl d.ops,jF w.kept<s/\s<=d.slot
 last:jF w.kept<=d.slot
 stat:(d.status=1)↔d.diags≠[]
 right:zhr d.w
end
section
theorem zcV {f:FsV} (hi:FsI f) {ns:List (List UInt8)} {y:Int} (h:zhS f.xs ns y):∃ d nm,∀ r,atW f.xs (ns++r) ⟨0,[],1⟩=atW f.xs r ⟨d,nm,y⟩:=by
 induction h with
 | root=>exact ⟨0,[],fun r=>rfl⟩
 | step h1 h2 h3 h4 ih =>
  rename_i ns y n m
  obtain ⟨d,nm,ih⟩:=ih
  refine ⟨y,m,fun r=>?_⟩
  rw[List.append_assoc,ih]
  show atW f.xs (m :: r) ⟨d,nm,y⟩=_
  have hne:y≠0:=Qj hi h2
  have e1:(zf y f.xs).ino=y:=(zq h2).2.2
  have e2:zC m (zf y f.xs).es=n:=by unfold zC;rw[h4]
  rw[atW,if_neg hne,if_neg (fun q=>q h3),e1,e2]
theorem Mf {f:FsV} (h:okM f):∀ (m:Nat) (n:Int) (ns:List (List UInt8)),zhS f.xs ns n->∀ p∈qA f.xs m n ns,zhS f.xs p.1 p.2.ino
 | 0,n,ns,hl,p,hp=>by unfold qA at hp;cases hp
 | m+1,n,ns,hl,p,hp=>by
  unfold qA at hp
  split at hp
  ·rename_i hh
   rcases List.mem_cons.1 hp with rfl | hp
   ·show zhS f.xs ns (zf n f.xs).ino
    rw[(zq hh).2.2];exact hl
   ·obtain ⟨e,he,hp⟩:=List.mem_flatMap.1 hp
    have hi:=Qp h.2
    refine Mf h m e.ino _ (.step hl hh (Ug h hh he) ?_) p hp
    have hR:=hi.es _ (zq hh).2.1
    have hx:X8 e.name (zf n f.xs).es=true:=by
     unfold X8 Qe
     rw[List.any_eq_true]
     exact ⟨e,he,by simp⟩
    have h2:=Vi hx
    have h3:=Yq h2
    have:(⟨e.name,zC e.name (zf n f.xs).es⟩:zK)=e:=by
     obtain ⟨i,hi',ei⟩:=List.getElem_of_mem h3.2
     obtain ⟨j,hj',ej⟩:=List.getElem_of_mem he
     have hp:=List.pairwise_iff_getElem.1 hR
     rcases Nat.lt_trichotomy i j with q | q | q
     ·have:=hp i j hi' hj' q
      rw[ei,ej]at this
      exact absurd this (by show ¬Op.bytesLess e.name e.name=true;rw[Xd];simp)
     ·subst q;rw[←ei,ej]
     ·have:=hp j i hj' hi' q
      rw[ei,ej]at this
      exact absurd this (by show ¬Op.bytesLess e.name e.name=true;rw[Xd];simp)
    rw[h2]
    have e2:zC e.name (zf n f.xs).es=e.ino:=congrArg zK.ino this
    rw[e2]
  ·cases hp
theorem ziU {f:FsV} (h:okM f) {n:Int} (hh:zw n f.xs=true) (hk:(zf n f.xs).kind=2):∃ ns,(∀ z∈ns,may z=true)/\V1 n (trV f.xs 1 [])=some (qr ns)/\zhS f.xs ns n:=by
 obtain ⟨h0,h1,_⟩:=ql h
 have hkk:∀ p∈trV f.xs 1 [],p.2.ino=n->p.2.kind=2:=fun p hp hpn=>by
  obtain ⟨_,q⟩:=VA hp
  rw[hpn]at q;rw[←q];exact hk
 obtain ⟨p,hp⟩:=Vd (Yt h _ 1 [] h1.2.2.2.2.2.2.2.1) hkk (zeL h hh)
 obtain ⟨q,q1,q2⟩:=GE h hh hk
 have hq:X2 n (trV f.xs 1 []) = [qr p.1]:=by unfold X2;rw[hp];rfl
 rw[hq]at q1
 have hqe:qr p.1=q:=by simpa using q1
 have hpf:p∈(trV f.xs 1 []).filter (fun p=>decide (p.2.ino=n)):=by rw[hp];exact List.mem_singleton.2 rfl
 obtain ⟨hpm,hpn⟩:=List.mem_filter.1 hpf
 obtain ⟨zs,z1,z2⟩:=Hy (Uc h).1 _ 1 [] p hpm
 rw[List.nil_append]at z1
 rw[←z1]at z2
 have hl:=Mf h _ 1 [] .root p hpm
 have hpn:p.2.ino=n:=by simpa using hpn
 rw[hpn]at hl
 exact ⟨p.1,z2,by rw[q2,hqe],hl⟩
theorem zld {f:FsV} (hi:FsI f) {ns:List (List UInt8)} {n:Int} (hl:zhS f.xs ns n) (hh:zw n f.xs=true) (hk:(zf n f.xs).kind=2) (hn:∀ z∈ns,may z=true) {m:List UInt8} (hm:may m=true):qc (qr (ns++[m]))=true/\atV f (qr (ns++[m]))=(⟨n,m,zC m (zf n f.xs).es⟩,0):=by
 have hall:∀ z∈ns++[m],may z=true:=fun z hz=>by
  rcases List.mem_append.1 hz with hz | hz
  ·exact hn z hz
  ·rw[List.mem_singleton.1 hz];exact hm
 have hnm:=Uj (ns++[m]) fun z hz=>Z2 (hall z hz)
 have hp:Jw (qr (ns++[m]))=true:=by
  unfold Jw
  rw[hnm,decide_eq_true rfl,Bool.true_and,List.all_eq_true]
  exact hall
 refine ⟨by unfold qc;rw[hp,hnm];simp,?_⟩
 unfold atV
 rw[if_pos hp,hnm]
 obtain ⟨d,nm,hw⟩:=zcV hi hl
 rw[hw]
 have hne:n≠0:=Qj hi hh
 rw[atW,if_neg hne,if_neg (fun q=>q hk),(zq hh).2.2]
 rfl
theorem zek {f:FsV} (h:okM f) {s:zT} (hh:zw s.dir f.xs=true) (hk:(zf s.dir f.xs).kind=2) (hm:may s.name=true):qc (jJ f s)=true/\atV f (jJ f s)=(⟨s.dir,s.name,zC s.name (zf s.dir f.xs).es⟩,0):=by
 obtain ⟨ns,n1,n2,n3⟩:=ziU h hh hk
 have e:jJ f s=qr (ns++[s.name]):=by
  unfold jJ
  rw[n2,Option.getD_some,kz ns s.name fun y hy=>(Z2 (n1 y hy)).1]
 rw[e]
 exact zld (Qp h.2) n3 hh hk n1 hm
end
section
abbrev Yk:=List (List UInt8)
def onL (f:FsV) (follow:Bool) (lk:zn->zn->Yk->Bool->zT×Int):Yk->zT->Bool->zT×Int
 | [],s,dir=>if zw s.ino f.xs=true/\dir=true/\(zf s.ino f.xs).kind≠2 then (zU,3) else (s,0)
 | n :: r,s,dir =>
  if s.ino=0 then (zU,1)
  else if (zf s.ino f.xs).kind≠2 then (zU,3)
  else if n = [46] then onL f follow lk r ⟨0,[],(zf s.ino f.xs).ino⟩ dir
  else if n = [46,46] then onL f follow lk r ⟨0,[],(zf s.ino f.xs).parent⟩ dir
  else if X8 n (zf s.ino f.xs).es=false∨(zf (zC n (zf s.ino f.xs).es) f.xs).kind≠3∨(r = []/\follow=false/\dir=false) then
   onL f follow lk r ⟨(zf s.ino f.xs).ino,n,zC n (zf s.ino f.xs).es⟩ dir
  else lk (zf (zC n (zf s.ino f.xs).es) f.xs) (zf s.ino f.xs) r dir
def qo (p:List UInt8):Bool:=!decide (zg p = [])&&Lib.hasSuffix p [47]
def X1 (p:List UInt8):Bool:=Lib.hasPrefix p [47]
def onN (f:FsV) (follow:Bool):Nat->Yk->zT->Bool->zT×Int
 | 0=>onL f follow fun _ _ _ _=>(zU,6)
 | k+1=>onL f follow fun x d r dir=>if J0 x.data then (zU,7) else onN f follow k (zg x.data++r) ⟨0,[],if X1 x.data then 1 else d.ino⟩ (dir||(qo x.data&&decide (r = [])))
def jS (f:FsV) (b:List UInt8):Int×Int:=
 if (atV f b).2≠0 then (0,(atV f b).2) else if (atV f b).1.ino=0 then (0,1) else if (zf (atV f b).1.ino f.xs).kind≠2 then (0,3) else ((zf (atV f b).1.ino f.xs).ino,0)
def qi (f:FsV) (p:List UInt8):zn×Int:=if (atV f p).2≠0 then (NZ,(atV f p).2) else if (atV f p).1.ino=0 then (NZ,1) else (zf (atV f p).1.ino f.xs,0)
def zH (f:FsV) (b p:List UInt8) (follow:Bool):zT×Int:=
 if p = [] then (zU,1) else if J0 p then (zU,7)
 else if X1 p then onN f follow 40 (zg p) ⟨0,[],1⟩ (qo p)
 else if (jS f b).2≠0 then (zU,(jS f b).2) else onN f follow 40 (zg p) ⟨0,[],(jS f b).1⟩ (qo p)
def zk5 (f:FsV) (s:zT):Prop:=s.name = []∨(zw s.dir f.xs=true/\(zf s.dir f.xs).kind=2/\s.ino=zC s.name (zf s.dir f.xs).es)
theorem XH {xs:List zn} {n:Int} (h:(zf n xs).kind=2):zw n xs=true:=by
 cases hh:zw n xs with
 | true=>rfl
 | false=>rw[(Jg hh).2]at h;exact absurd h (by decide)
theorem Um {f:FsV} {P:zT->Prop} {Q:Int->Prop} (hp:∀ m,Q m->P ⟨0,[],m⟩) (hq:∀ m,(zf m f.xs).kind=2->Q m/\Q (zf m f.xs).parent) (hn:∀ m n,(zf m f.xs).kind=2->P ⟨m,n,zC n (zf m f.xs).es⟩)
  {follow:Bool} {lk:zn->zn->Yk->Bool->zT×Int} (hl:∀ x m r dir,(zf m f.xs).kind=2->(lk x (zf m f.xs) r dir).2=0->P (lk x (zf m f.xs) r dir).1):∀ (l:Yk) (s:zT) (dir:Bool),P s->(onL f follow lk l s dir).2=0->P (onL f follow lk l s dir).1
 | [],s,dir,hs,h=>by
  unfold onL at h ⊢
  split at h
  ·exact absurd h (show ¬(3:Int)=0 by decide)
  ·rename_i hn;rw[if_neg hn];exact hs
 | n :: r,s,dir,hs,h=>by
  unfold onL at h ⊢
  by_cases h1:s.ino=0
  ·rw[if_pos h1]at h;exact absurd h (show ¬(1:Int)=0 by decide)
  rw[if_neg h1]at h ⊢
  by_cases h2:(zf s.ino f.xs).kind=2
  case neg=>rw[if_pos h2]at h;exact absurd h (show ¬(3:Int)=0 by decide)
  rw[if_neg (fun q=>q h2)]at h ⊢
  have e:=(zq (XH h2)).2.2
  by_cases h3:n = [46]
  ·rw[if_pos h3]at h ⊢;exact Um hp hq hn hl r _ dir (by rw[e];exact hp _ (hq _ h2).1) h
  rw[if_neg h3]at h ⊢
  by_cases h4:n = [46,46]
  ·rw[if_pos h4]at h ⊢;exact Um hp hq hn hl r _ dir (hp _ (hq _ h2).2) h
  rw[if_neg h4]at h ⊢
  split at h
  ·rename_i h5
   rw[if_pos h5]
   exact Um hp hq hn hl r _ dir (by rw[e];exact hn _ _ h2) h
  ·rename_i h5
   rw[if_neg h5]
   exact hl _ _ _ _ h2 h
theorem xc {f:FsV} {P:zT->Prop} {Q:Int->Prop} (hp:∀ m,Q m->P ⟨0,[],m⟩) (h1:Q 1) (hq:∀ m,(zf m f.xs).kind=2->Q m/\Q (zf m f.xs).parent) (hn:∀ m n,(zf m f.xs).kind=2->P ⟨m,n,zC n (zf m f.xs).es⟩) {follow:Bool}:∀ (k:Nat) (l:Yk) (s:zT) (dir:Bool),P s->(onN f follow k l s dir).2=0->P (onN f follow k l s dir).1
 | 0,l,s,dir,hs,h=>Um hp hq hn (fun _ _ _ _ _ h=>absurd h (show ¬(6:Int)=0 by decide)) l s dir hs h
 | k+1,l,s,dir,hs,h=>Um hp hq hn (fun x m r dir h2 h=>by
   split at h
   ·exact absurd h (show ¬(7:Int)=0 by decide)
   ·rename_i hg
    rw[if_neg hg]
    refine xc hp h1 hq hn k _ _ _ (hp _ ?_) h
    split
    ·exact h1
    ·rw[(zq (XH h2)).2.2];exact (hq _ h2).1) l s dir hs h
theorem zhb {f:FsV} {P:zT->Prop} {Q:Int->Prop} (hp:∀ m,Q m->P ⟨0,[],m⟩) (h1:Q 1) (hq:∀ m,(zf m f.xs).kind=2->Q m/\Q (zf m f.xs).parent) (hn:∀ m n,(zf m f.xs).kind=2->P ⟨m,n,zC n (zf m f.xs).es⟩) {b p:List UInt8} {follow:Bool} (h:(zH f b p follow).2=0):P (zH f b p follow).1:=by
 unfold zH at h ⊢
 by_cases a:p = []
 ·rw[if_pos a]at h;exact absurd h (show ¬(1:Int)=0 by decide)
 rw[if_neg a]at h ⊢
 by_cases c:J0 p=true
 ·rw[if_pos c]at h;exact absurd h (show ¬(7:Int)=0 by decide)
 rw[if_neg c]at h ⊢
 by_cases e:X1 p=true
 ·rw[if_pos e]at h ⊢
  exact xc hp h1 hq hn _ _ _ _ (hp _ h1) h
 rw[if_neg e]at h ⊢
 by_cases g:(jS f b).2≠0
 ·rw[if_pos g]at h;exact absurd h g
 rw[if_neg g]at h ⊢
 refine xc hp h1 hq hn _ _ _ _ (hp _ ?_) h
 have g:=Classical.not_not.1 g
 unfold jS at g ⊢
 by_cases i:(atV f b).2≠0
 ·rw[if_pos i]at g;exact absurd g i
 rw[if_neg i]at g ⊢
 by_cases j:(atV f b).1.ino=0
 ·rw[if_pos j]at g;exact absurd g (show ¬(1:Int)=0 by decide)
 rw[if_neg j]at g ⊢
 by_cases k:(zf (atV f b).1.ino f.xs).kind=2
 ·rw[if_neg (fun q=>q k)]
  show Q (zf _ f.xs).ino
  rw[(zq (XH k)).2.2];exact (hq _ k).1
 ·rw[if_pos k]at g;exact absurd g (show ¬(3:Int)=0 by decide)
theorem VC {f:FsV} {b p:List UInt8} {follow:Bool} (h:(zH f b p follow).2=0):zk5 f (zH f b p follow).1:=
 zhb (P:=zk5 f) (Q:=fun _=>True) (fun _ _=>.inl rfl) trivial (fun _ _=>⟨trivial,trivial⟩) (fun m n h=>.inr ⟨XH h,h,rfl⟩) h
def lkN (f:FsV) (follow:Bool):Nat->zn->zn->Yk->Bool->zT×Int
 | 0=>fun _ _ _ _=>(zU,6)
 | k+1=>fun x d r dir=>if J0 x.data then (zU,7) else onN f follow k (zg x.data++r) ⟨0,[],if X1 x.data then 1 else d.ino⟩ (dir||(qo x.data&&decide (r = [])))
theorem Zr (f:FsV) (follow:Bool) (k:Nat):onN f follow k=onL f follow (lkN f follow k):=by cases k<;>rfl
theorem XL (f:FsV) (follow:Bool) (k:Nat) (x d:zn) (r:Yk) (dir:Bool):lkN f follow (k+1) x d r dir=if J0 x.data then (zU,7) else onN f follow k (zg x.data++r) ⟨0,[],if X1 x.data then 1 else d.ino⟩ (dir||(qo x.data&&decide (r = []))):=rfl
end
section
open Go.RowKit
section
variable {G:zk}
theorem Xw {bx:List (List C)} {i k n cap:Nat} {rows:List (List C)} {cs:List C} (hb:bx[i]?=some cs) (hn:rows.length=n) (hc:n<=cap) (hm:cap<=9223372036854775807) (hk:∀ r∈rows,r.length=k) (hs:jp rows) (ht:cs.take (n*k)=rows.flatten):JH bx (.bs i 0 k n cap) (.sl k rows):=by
 unfold JH
 exact ⟨rows,cs,rfl,hn,hc,by unfold maxLen;omega,hb,hk,by rw[List.drop_zero,ht,VL (Yv hs)]⟩
end
end
section
open Go.RowKit
theorem Xj {f:FsV} (hs:FsS f) {follow:Bool} {lk:zn->zn->Yk->Bool->zT×Int} (hl:∀ x d r dir,x.data.length<=10000->(∀ y∈r,y.length<=100000)->(lk x d r dir).1.name.length<=100000):∀ (l:Yk) (s:zT) (dir:Bool),(∀ y∈l,y.length<=100000)->s.name.length<=100000->(onL f follow lk l s dir).1.name.length<=100000
 | [],s,dir,hy,h=>by
  unfold onL
  split
  ·exact Nat.zero_le _
  ·exact h
 | n :: r,s,dir,hy,h=>by
  have hr:∀ y∈r,y.length<=100000:=fun y q=>hy y (List.mem_cons_of_mem _ q)
  unfold onL
  split
  ·exact Nat.zero_le _
  split
  ·exact Nat.zero_le _
  split
  ·exact Xj hs hl r _ dir hr (Nat.zero_le _)
  split
  ·exact Xj hs hl r _ dir hr (Nat.zero_le _)
  split
  ·exact Xj hs hl r _ dir hr (hy n List.mem_cons_self)
  ·rename_i hq
   refine hl _ _ _ _ ?_ hr
   have hk3:(zf (zC n (zf s.ino f.xs).es) f.xs).kind=3:=Classical.not_not.1 fun q=>hq (.inr (.inl q))
   have hhx:zw (zC n (zf s.ino f.xs).es) f.xs=true:=by
    cases hq2:zw (zC n (zf s.ino f.xs).es) f.xs with
    | true=>rfl
    | false=>rw[(Jg hq2).2]at hk3;exact absurd hk3 (by decide)
   exact (hs.node _ (zq hhx).2.1).2.1
theorem V5 {f:FsV} (hs:FsS f) {follow:Bool}:∀ (k:Nat) (l:Yk) (s:zT) (dir:Bool),(∀ y∈l,y.length<=100000)->s.name.length<=100000->(onN f follow k l s dir).1.name.length<=100000
 | 0,l,s,dir,hy,h=>Xj hs (fun _ _ _ _ _ _=>Nat.zero_le _) l s dir hy h
 | k+1,l,s,dir,hy,h=>Xj hs (fun x d r dir hx hr=>by
   split
   ·exact Nat.zero_le _
   ·refine V5 hs k _ _ _ (fun y q=>?_) (Nat.zero_le _)
    rcases List.mem_append.1 q with q | q
    ·have:=(QI x.data).2 y q;omega
    ·exact hr y q) l s dir hy h
theorem kx {f:FsV} (hs:FsS f) (b p:List UInt8) (follow:Bool) (hp:p.length<=100000):(zH f b p follow).1.name.length<=100000:=by
 have hn:∀ y∈zg p,y.length<=100000:=fun y q=>by have:=(QI p).2 y q;omega
 unfold zH
 split
 ·exact Nat.zero_le _
 split
 ·exact Nat.zero_le _
 split
 ·exact V5 hs _ _ _ _ hn (Nat.zero_le _)
 split
 ·exact Nat.zero_le _
 ·exact V5 hs _ _ _ _ hn (Nat.zero_le _)
def Z1 (x:zn):Bool:=decide (x.kind=3)&&decide (300<(x.data.length:Int))
def Qy (f:FsV) (b p:List UInt8):Bool:=!((f.xs.take 100).any Z1)&&decide ((b.length:Int)<=1000)&&decide ((p.length:Int)<=5000)
theorem uE (f:FsV) (b p:List UInt8):Fun Tryz.prog G0 30 [.agg (fsC f),.str b,.str p] (qe (Qy f b p)) 0:=by
 have hll:(zF f.xs).length=f.xs.length:=List.length_map ..
 refine fon Tryz.func30 ?_;dsimp only[Tryz.f30]
 push_cast -dsimp
 refine loop (fun i:Nat=>⟨[(1,.str b),(2,.str p),(3,.ptr 0 0),(7,.sc (.int .i64 i))],[fsC f],0,0⟩) (fun i=>i<=100/\∀ t (h:t<f.xs.length),t<i->Z1 f.xs[t]=false) (fun i=>100-i) 0 ⟨Nat.zero_le _,fun t h h'=>absurd h' (Nat.not_lt_zero _)⟩ ?_ ?_
 ·exact wk
 ·rintro i ⟨h1,h2⟩
  have hend:¬(i<f.xs.length/\i<100)->(f.xs.take 100).any Z1=false:=fun h=>by
   rw[List.any_eq_false]
   intro x hx
   obtain ⟨t,ht,rfl⟩:=List.getElem_of_mem hx
   rw[List.length_take]at ht
   rw[List.getElem_take,h2 t (by omega) (by omega)]
   decide
  have stop:¬(i<f.xs.length/\i<100)->(decide ((b.length:Int)<=1000)&&decide ((p.length:Int)<=5000))=Qy f b p:=fun h=>by
   unfold Qy;rw[hend h];rfl
  by_cases h:i<f.xs.length
  ·by_cases h100:i<100
   ·have g1:=qD f.xs i h
    have h100':(i:Int)<100:=by omega
    have hm:f.xs[i]∈f.xs.take 100:=by
     rw[List.mem_take_iff_getElem]
     exact ⟨i,by omega,rfl⟩
    have next:Z1 f.xs[i]=false->∀ t (h:t<f.xs.length),t<i+1->Z1 f.xs[t]=false:=fun q t ht hlt=>by
     rcases Nat.lt_or_ge t i with r | r
     ·exact h2 t ht r
     ·have:t=i:=by omega
      subst this;exact q
    by_cases hk:f.xs[i].kind=3
    ·by_cases hd:300<(f.xs[i].data.length:Int)
     ·have hn:Qy f b p=false:=by
       have:(f.xs.take 100).any Z1=true:=List.any_eq_true.2 ⟨_,hm,by unfold Z1;rw[decide_eq_true hk,decide_eq_true hd];rfl⟩
       unfold Qy;rw[this];rfl
      push_cast -dsimp [hll,h,h100',g1,hk,hd]
      repeat refine an ?_
      exact dn (by push_cast -dsimp [zb,za,CLe,ze,hn])
     ·have hq:Z1 f.xs[i]=false:=by unfold Z1;rw[decide_eq_false hd,Bool.and_false]
      push_cast -dsimp [hll,h,h100',g1,hk,hd]
      repeat refine an ?_
      exact ⟨i+1,⟨by omega,next hq⟩,by omega,wk⟩
    ·have hq:Z1 f.xs[i]=false:=by unfold Z1;rw[decide_eq_false hk,Bool.false_and]
     push_cast -dsimp [hll,h,h100',g1,hk]
     repeat refine an ?_
     exact ⟨i+1,⟨by omega,next hq⟩,by omega,wk⟩
   ·have h100':((i:Int)<100)=False:=eq_false (by omega)
    have:=(stop (by omega)).symm
    by_cases hb:(b.length:Int)<=1000
    ·rw[decide_eq_true hb,Bool.true_and]at this
     push_cast -dsimp [hll,h,h100',hb]
     exact dn (by push_cast -dsimp [zb,za,CLe,ze,this])
    ·rw[decide_eq_false hb,Bool.false_and]at this
     push_cast -dsimp [hll,h,h100',hb]
     exact dn (by push_cast -dsimp [zb,za,CLe,ze,this])
  ·have:=(stop (by omega)).symm
   by_cases hb:(b.length:Int)<=1000
   ·rw[decide_eq_true hb,Bool.true_and]at this
    push_cast -dsimp [hll,h,hb]
    exact dn (by push_cast -dsimp [zb,za,CLe,ze,this])
   ·rw[decide_eq_false hb,Bool.false_and]at this
    push_cast -dsimp [hll,h,hb]
    exact dn (by push_cast -dsimp [zb,za,CLe,ze,this])
end
section
theorem zkK {f:FsV} (hi:FsI f) (hr:FsR f) {n:Int} (hh:zw n f.xs=true) (hk:(zf n f.xs).kind=2):zw (zf n f.xs).parent f.xs=true:=by
 have g:=zq hh
 by_cases h1:n=1
 ·rw[(hr.node _ g.2.1).top (by rw[g.2.2];exact h1)];exact hi.root
 ·have hl:=(hr.node _ g.2.1).named (by rw[g.2.2];exact h1)
  rw[FsR.links hi g.2.1,g.2.2]at hl
  obtain ⟨p,hp⟩:=y7 (n:=n) (l:=zP f.xs) (by omega)
  obtain ⟨y,hy,e,he,q1,q2⟩:=QW.1 hp
  obtain ⟨rk,hed⟩:=hr.edge
  have:=(hed y hy e he (by rw[q1];exact hk)).1
  rw[q1]at this
  rw[this];exact JM hy
end
section
def uk (xs:List zn):Prop:=∀ x∈xs,x.kind=3->x.data.length<=1000
theorem zlC {xs:List zn} (h:uk xs) (n:Int):(zf n xs).kind=3->(zf n xs).data.length<=1000:=fun hk=>by
 cases hh:zw n xs with
 | true=>exact h _ (zq hh).2.1 hk
 | false=>rw[(Jg hh).2]at hk;exact absurd hk (by decide)
theorem zfA {xs:List zn} {x:zn} (h:uk xs) (hx:x.kind=3->x.data.length<=1000):uk (jq x xs):=fun z hz hk=>by
 rcases zkc hz with rfl | hz
 ·exact hx hk
 ·exact h z hz hk
theorem VP (p:List UInt8):kj (zg p)<=p.length+1:=by
 unfold kj
 rw[Jf]
 exact Nat.le_trans (Zh _ _) (Nat.le_of_eq (MN p))
theorem N2 (p:List UInt8):∀ x∈zg p,VJ x:=fun x hx=>zb6 hx
theorem vG:∀ ns:List (List UInt8),(∀ x∈ns,VJ x)->2*ns.length<=kj ns
 | [],_=>Nat.zero_le _
 | x :: r,h=>by
  have ih:=vG r fun y hy=>h y (List.mem_cons_of_mem _ hy)
  have hx:x≠[]:=(h x List.mem_cons_self).1
  have:=List.length_pos_iff.2 hx
  unfold kj at ih ⊢
  rw[List.map_cons,List.sum_cons,List.length_cons]
  omega
theorem zdf {p:List UInt8} (h:p.length<=1000):(zg p).length<=500:=by
 have:=vG _ (N2 p)
 have:=VP p
 omega
theorem zkG {n:Int} {xs:List zn} (h:zw n xs=false):zf n xs=NZ:=by unfold zf;rw[(Jg h).1];rfl
end
section
theorem zka {xs:List zn} (h:uk xs) (n:Int) (F:List zK->List zK):uk (Y2 n F xs):=zfA h (zlC h n)
theorem zfT {w:qd} (h:uk w.fs.xs) {p:List UInt8} {k:Int} {t:List UInt8} (ht:k=3->t.length<=1000):uk (qh w p k t).1.fs.xs:=by
 unfold qh
 split
 ·exact h
 ·show uk (Yx _ _ _ _).1.xs
  rcases XB w.fs (isV w.fs p false).1 k t with e | e
  ·rw[e];exact h
  ·rw[e];exact zfA (zka h _ _) ht
structure GrD (N:Nat) (d:zr):Prop where
 b:zmL N d
 r:zhr d.w
 next:d.w.fs.next<=549755813888+N
 dat:uk d.w.fs.xs
theorem zaW.mono {N M:Nat} {w:qd} (h:zaW N w) (hN:N<=M):zaW M w:=by
 have key:∀ x,yN N x->yN M x:=fun x hx=>⟨Nat.le_trans hx.1 hN,hx.2⟩
 exact ⟨Nat.le_trans h.len hN,fun x hx=>key x (h.node x hx),Nat.le_trans h.klen hN,h.kdata,Nat.le_trans h.plen hN,fun x hx=>key x (h.pnode x hx),by have:=h.next;omega,h.room⟩
theorem y8 {f:FsV} (h:okM f) {s:zT} (hh:zw s.dir f.xs=true) (hk:(zf s.dir f.xs).kind=2) (hm:may s.name=true):(jJ f s).length<=990000:=by
 obtain ⟨ns,n1,n2,n3,n4,n5⟩:=zjh h hh hk
 have hml:=Hr hm
 have hjw:=Yr ns
 have hjl:(qr ns).length<=980001:=by unfold qr;split<;>simp<;>omega
 have e:jJ f s=Ua (qr ns) s.name:=by unfold jJ;rw[n5];rfl
 have:=zen (qr ns) s.name
 rw[e];omega
theorem Vy {f:FsV} (hi:FsI f) {s:zT} (h:zk5 f s) (h0:s.ino=0) (hm:may s.name=true):ZT f s:=by
 rcases h with h | ⟨h1,h2,h3⟩
 ·rw[h]at hm;exact absurd hm (by decide)
 ·refine ⟨h1,h2,?_⟩
  cases hq:X8 s.name (zf s.dir f.xs).es with
  | false=>rfl
  | true=>exact absurd (h3.symm.trans h0) (Qj hi (Ue hi h1 hq))
end
section
def Jc (f:FsV) (b p:List UInt8):Bool:=decide ((zH f b p true).2=0)&&decide ((zf (zH f b p true).1.ino f.xs).kind=2)
end
section
def JF (p:List UInt8):OpV:=⟨1,0,p,[],[]⟩
theorem vo {p:List UInt8} (h:qc p=true):zg0 (JF p)=true:=by
 unfold zg0 JF
 have e1:Gb 1=false:=rfl
 have e2:zpl 1=false:=rfl
 simp only[h,e1,e2]
 rfl
theorem zqx (w:qd) {p:List UInt8} (h:qc p=true):doV w (JF p)=qh w p 2 []:=by
 unfold doV
 rw[vo h]
 rfl
theorem zji (d:zr) {p:List UInt8} (h:qc p=true):zi3 d (JF p)=if (qh d.w p 2 []).2≠0 then (d,(qh d.w p 2 []).2) else (⟨(qh d.w p 2 []).1,d.ops++[JF p],d.diags,d.status,d.slot⟩,0):=by
 have e:xm d (JF p)=JF p:=rfl
 unfold zi3
 rw[if_neg (show ¬7<(JF p).kind by show ¬(7:Int)<1;decide),e,zqx _ h]
 rfl
def mkF (b:List UInt8) (f:FsV) (p:List UInt8):FsV×Int:=
 if (zH f b p false).2≠0 then (f,(zH f b p false).2) else if (zH f b p false).1.ino≠0 then (f,2) else Yx f (zH f b p false).1 2 []
def jh (b:List UInt8) (d:zr) (p:List UInt8):zr×Int:=
 if (zH d.w.fs b p false).2≠0 then (d,(zH d.w.fs b p false).2) else if (zH d.w.fs b p false).1.ino≠0 then (d,2)
 else if may (zH d.w.fs b p false).1.name=false then (d,9) else zi3 d (JF (jJ d.w.fs (zH d.w.fs b p false).1))
def Xr (b:List UInt8):List (List UInt8)->zr->zr×Int
 | [],d=>(d,0)
 | r :: l,d=>if Jc d.w.fs b r then Xr b l d else if (jh b d r).2≠0 then (d,(jh b d r).2) else Xr b l (jh b d r).1
def Gs (p:List UInt8) (i:Nat):List UInt8:=put (X1 p) ((zg p).take (i+1)) false
def Y8 (p:List UInt8):List (List UInt8):=(List.range (zg p).length).map (Gs p)
def Gu (b:List UInt8) (d:zr) (p:List UInt8):zr×Int:=if p = [] then (d,1) else if J0 p then (d,7) else Xr b (Y8 p) d
def jv (b o:List UInt8) (d:zr) (p:List UInt8):zr×Int:=if (112:UInt8)∈o then Gu b d p else jh b d p
def zha (b o:List UInt8) (d:zr) (p:List UInt8):zr:=if (jv b o d p).2≠0 then J9 (jv b o d p).1 (JD 1 1 p [] (jv b o d p).2) else (jv b o d p).1
def y9 (b o:List UInt8) (l:List (List UInt8)) (d:zr):zr:=l.foldl (zha b o) d
structure MkG (w0:qd) (N K:Nat) (d:zr):Prop where
 wi:x8 d.w
 wr:zhr d.w
 wb:zaW (40+N) d.w
 next:d.w.fs.next<=549755813888+N
 dat:uk d.w.fs.xs
 ops:d.ops.length<=N
 all:∀ o∈d.ops,∃ a,o=JF a/\qc a=true/\a.length<=990000
 diags:d.diags.length<=K
 slot:0<=d.slot/\d.slot<=1073741824
 kept:d.w.kept=w0.kept
 stat:(d.status=1)↔0<d.diags.length
theorem MkG.mono {w0:qd} {N K M L:Nat} {d:zr} (h:MkG w0 N K d) (hN:N<=M) (hK:K<=L):MkG w0 M L d:=
 ⟨h.wi,h.wr,h.wb.mono (by omega),by have:=h.next;omega,h.dat,Nat.le_trans h.ops hN,h.all,Nat.le_trans h.diags hK,h.slot,h.kept,h.stat⟩
theorem MkG.ok {w0:qd} {N K:Nat} {d:zr} (h:MkG w0 N K d) (hN:N<=3200):okM d.w.fs:=
 ⟨⟨by have:=h.wb.len;omega,fun x hx=>by obtain ⟨q1,q2,q3⟩:=h.wb.node x hx;exact ⟨q2,by omega,q3⟩⟩,h.wr.fs.check h.wi.fs (by have:=h.next;omega)⟩
theorem MkG.s {w0:qd} {N K:Nat} {d:zr} (h:MkG w0 N K d) (hN:N<=9000) (hK:K<=80000):zjg d:=
 ⟨h.wi,h.wb.s h.wi (by omega),by have:=h.ops;omega,by have:=h.diags;omega,h.slot.1,by have:=h.slot.2;omega⟩
theorem ziu {f:FsV} {s:zT} {k:Int} {t:List UInt8} (h:(Yx f s k t).2≠0):(Yx f s k t).1=f:=by
 unfold Yx at h ⊢
 by_cases a:may s.name=true
 ·rw[if_pos a]at h ⊢
  by_cases r:j3 f 1 (if k=1 then (t.length:Int) else 0)=true
  ·rw[if_pos r]at h;exact absurd rfl h
  ·rw[if_neg r]
 ·rw[if_neg a]
theorem zjc {w:qd} (hi:x8 w) (hok:okM w.fs) {s:zT} (hf:ZT w.fs s) (h0:s.ino=0) (hm:may s.name=true):qc (jJ w.fs s)=true/\qh w (jJ w.fs s) 2 []=({ w with fs:=(Yx w.fs s 2 []).1 },(Yx w.fs s 2 []).2):=by
 obtain ⟨p1,p2⟩:=zek hok hf.has hf.kind hm
 have hn:zC s.name (zf s.dir w.fs.xs).es=0:=by
  have:=hf.free
  unfold X8 at this
  rw[js]at this
  unfold zC
  cases hq:jT zK.name s.name (zf s.dir w.fs.xs).es with
  | none=>rfl
  | some e=>rw[hq]at this;cases this
 have e:(⟨s.dir,s.name,zC s.name (zf s.dir w.fs.xs).es⟩:zT)=s:=by rw[hn,←h0]
 rw[e]at p2
 have hz:zw s.ino w.fs.xs=false:=by
  cases hq:zw s.ino w.fs.xs with
  | false=>rfl
  | true=>exact absurd h0 (Qj hi.fs hq)
 have hv:(isV w.fs (jJ w.fs s) false).1=s/\(isV w.fs (jJ w.fs s) false).2.2=0:=by
  unfold isV
  simp only[p2,hz]
  simp
 refine ⟨p1,?_⟩
 unfold qh
 rw[if_neg (fun q=>q hv.2),hv.1]
theorem ziA {f:FsV} {b p:List UInt8} {fol:Bool} (h:zg p = []):(zH f b p fol).2≠0∨(zH f b p fol).1.name = []:=by
 have key:∀ (n:Int) (dir:Bool),(onN f fol 40 [] ⟨0,[],n⟩ dir).1.name = []:=fun n dir=>by
  rw[Zr];unfold onL
  split<;>rfl
 unfold zH
 rw[h]
 split
 ·exact .inl (by decide)
 split
 ·exact .inl (by decide)
 split
 ·exact .inr (key _ _)
 split
 ·rename_i q;exact .inl q
 ·exact .inr (key _ _)
theorem MkG.made {w0:qd} {N K:Nat} {d:zr} (h:MkG w0 N K d) {p:List UInt8} (hp:qc p=true) (hl:p.length<=990000) (hz:(qh d.w p 2 []).2=0):MkG w0 (N+1) K ⟨(qh d.w p 2 []).1,d.ops++[JF p],d.diags,d.status,d.slot⟩:=by
 refine ⟨zlR h.wi hp (.inr (.inl rfl)) [],zmX h.wi h.wr hp (.inr (.inl rfl)) (fun _=>rfl) (fun q=>by cases q),zqC h.wi h.wb hp (Nat.zero_le _),?_,?_,?_,fun o ho=>?_,h.diags,h.slot,?_,h.stat⟩
 ·have:=zeK d.w p 2 []
  have:=h.next
  show (qh d.w p 2 []).1.fs.next<=_
  omega
 ·exact zfT h.dat fun q=>by cases q
 ·show (d.ops++[JF p]).length<=N+1
  rw[List.length_append,List.length_singleton]
  have:=h.ops
  omega
 ·rcases List.mem_append.1 ho with ho | ho
  ·exact h.all o ho
  ·exact ⟨p,List.mem_singleton.1 ho,hp,hl⟩
 ·show (qh d.w p 2 []).1.kept=w0.kept
  rw[←h.kept]
  unfold qh
  split<;>rfl
theorem MkG.tell {w0:qd} {N K:Nat} {d:zr} (h:MkG w0 N K d) (x:List UInt8):MkG w0 N (K+1) (J9 d x):=
 ⟨h.wi,h.wr,h.wb,h.next,h.dat,h.ops,h.all,by show (d.diags++[x]).length<=K+1;rw[List.length_append,List.length_singleton];have:=h.diags;omega,h.slot,h.kept,⟨fun _=>by show 0<(d.diags++[x]).length;simp,fun _=>rfl⟩⟩
theorem km {w0:qd} {N K:Nat} {d:zr} (h:MkG w0 N K d) (hN:N<=3200) (b p:List UInt8) :
  ((jh b d p).1=d/\(jh b d p).2≠0/\mkF b d.w.fs p=(d.w.fs,(jh b d p).2)) ∨
  ∃ q,zg p≠[]/\qc q=true/\q.length<=990000/\(qh d.w q 2 []).2=0/\jh b d p=(⟨(qh d.w q 2 []).1,d.ops++[JF q],d.diags,d.status,d.slot⟩,0)/\mkF b d.w.fs p=((qh d.w q 2 []).1.fs,0):=by
 unfold jh mkF
 by_cases h1:(zH d.w.fs b p false).2≠0
 ·rw[if_pos h1,if_pos h1];exact .inl ⟨rfl,h1,rfl⟩
 rw[if_neg h1,if_neg h1]
 by_cases h2:(zH d.w.fs b p false).1.ino≠0
 ·rw[if_pos h2,if_pos h2];exact .inl ⟨rfl,show ¬(2:Int)=0 by decide,rfl⟩
 rw[if_neg h2,if_neg h2]
 have h1:=Classical.not_not.1 h1
 have h2:=Classical.not_not.1 h2
 cases hm:may (zH d.w.fs b p false).1.name with
 | false =>
  rw[if_pos rfl]
  exact .inl ⟨rfl,show ¬(9:Int)=0 by decide,by unfold Yx;rw[hm];rfl⟩
 | true =>
  rw[if_neg (by simp)]
  have hfr:=Vy h.wi.fs (VC h1) h2 hm
  have hok:=h.ok hN
  obtain ⟨m1,m2⟩:=zjc h.wi hok hfr h2 hm
  rw[zji d m1]
  by_cases hz:(qh d.w (jJ d.w.fs (zH d.w.fs b p false).1) 2 []).2≠0
  ·rw[if_pos hz]
   rw[m2]at hz
   refine .inl ⟨rfl,by rw[m2];exact hz,?_⟩
   rw[m2]
   exact Prod.ext (ziu hz) rfl
  ·rw[if_neg hz]
   have hz:=Classical.not_not.1 hz
   refine .inr ⟨_,fun q=>?_,m1,y8 hok hfr.has hfr.kind hm,hz,rfl,?_⟩
   ·rcases ziA (f:=d.w.fs) (b:=b) (fol:=false) q with q | q
    ·exact q h1
    ·rw[q]at hm;exact absurd hm (by decide)
   ·rw[m2]at hz ⊢
    exact Prod.ext rfl hz
theorem H3 {P:zr->Prop} {w0:qd} (ha:∀ N K d p,MkG w0 N K d->N<=3200->qc p=true->p.length<=990000->(qh d.w p 2 []).2=0->P d->P ⟨(qh d.w p 2 []).1,d.ops++[JF p],d.diags,d.status,d.slot⟩) {N K:Nat} {d:zr} (h:MkG w0 N K d) (hN:N<=3200) (hp:P d) (b p:List UInt8) :
  MkG w0 (N+if zg p = [] then 0 else 1) K (jh b d p).1/\P (jh b d p).1:=by
 rcases km h hN b p with ⟨e,_⟩ | ⟨q,q1,q2,q3,q4,e,_⟩
 ·rw[e];exact ⟨h.mono (Nat.le_add_right _ _) (Nat.le_refl _),hp⟩
 ·rw[e,if_neg q1];exact ⟨h.made q2 q3 q4,ha N K d q h hN q2 q3 q4 hp⟩
theorem H0 {P:zr->Prop} {w0:qd} (ha:∀ N K d p,MkG w0 N K d->N<=3200->qc p=true->p.length<=990000->(qh d.w p 2 []).2=0->P d->P ⟨(qh d.w p 2 []).1,d.ops++[JF p],d.diags,d.status,d.slot⟩) (b:List UInt8):∀ (l:List (List UInt8)) (N K:Nat) (d:zr),MkG w0 N K d->N+l.length<=3200->P d->MkG w0 (N+l.length) K (Xr b l d).1/\P (Xr b l d).1
 | [],N,K,d,h,hN,hp=>⟨h,hp⟩
 | r :: l,N,K,d,h,hN,hp=>by
  rw[List.length_cons]at hN ⊢
  unfold Xr
  split
  ·obtain ⟨g1,g2⟩:=H0 ha b l N K d h (by omega) hp
   exact ⟨g1.mono (by omega) (Nat.le_refl _),g2⟩
  split
  ·exact ⟨h.mono (by omega) (Nat.le_refl _),hp⟩
  ·obtain ⟨g1,g2⟩:=H3 ha h (by omega) hp b r
   obtain ⟨g3,g4⟩:=H0 ha b l (N+1) K _ (g1.mono (by split<;>omega) (Nat.le_refl _)) (by omega) g2
   exact ⟨g3.mono (by omega) (Nat.le_refl _),g4⟩
theorem jA (p:List UInt8):(Y8 p).length=(zg p).length:=by unfold Y8;simp
theorem Vf {P:zr->Prop} {w0:qd} (ha:∀ N K d p,MkG w0 N K d->N<=3200->qc p=true->p.length<=990000->(qh d.w p 2 []).2=0->P d->P ⟨(qh d.w p 2 []).1,d.ops++[JF p],d.diags,d.status,d.slot⟩) (b o:List UInt8) {N K:Nat} {d:zr} {p:List UInt8} (h:MkG w0 N K d) (hN:N+(zg p).length<=3200) (hp:P d):MkG w0 (N+(zg p).length) K (jv b o d p).1/\P (jv b o d p).1:=by
 have stay:MkG w0 (N+(zg p).length) K d/\P d:=⟨h.mono (Nat.le_add_right _ _) (Nat.le_refl _),hp⟩
 unfold jv Gu
 split
 ·split
  ·exact stay
  split
  ·exact stay
  ·have:=H0 ha b (Y8 p) N K d h (by rw[jA];exact hN) hp
   rw[jA]at this
   exact this
 ·obtain ⟨g1,g2⟩:=H3 ha h (by omega) hp b p
  refine ⟨g1.mono ?_ (Nat.le_refl _),g2⟩
  split
  ·omega
  ·rename_i q;have:=List.length_pos_iff.2 q;omega
theorem zeg {P:zr->Prop} {w0:qd} (ha:∀ N K d p,MkG w0 N K d->N<=3200->qc p=true->p.length<=990000->(qh d.w p 2 []).2=0->P d->P ⟨(qh d.w p 2 []).1,d.ops++[JF p],d.diags,d.status,d.slot⟩) (ht:∀ d x,P d->P (J9 d x)) (b o:List UInt8) {N K:Nat} {d:zr} {p:List UInt8} (h:MkG w0 N K d) (hN:N+(zg p).length<=3200) (hp:P d):MkG w0 (N+(zg p).length) (K+1) (zha b o d p)/\P (zha b o d p):=by
 obtain ⟨g1,g2⟩:=Vf ha b o h hN hp
 unfold zha
 split
 ·exact ⟨g1.tell _,ht _ _ g2⟩
 ·exact ⟨g1.mono (Nat.le_refl _) (by omega),g2⟩
def qz (l:List (List UInt8)):Nat:=(l.map fun p=>(zg p).length).sum
theorem ym {P:zr->Prop} {w0:qd} (ha:∀ N K d p,MkG w0 N K d->N<=3200->qc p=true->p.length<=990000->(qh d.w p 2 []).2=0->P d->P ⟨(qh d.w p 2 []).1,d.ops++[JF p],d.diags,d.status,d.slot⟩) (ht:∀ d x,P d->P (J9 d x)) (b o:List UInt8):∀ (l:List (List UInt8)) (N K:Nat) (d:zr),MkG w0 N K d->N+qz l<=3200->P d->MkG w0 (N+qz l) (K+l.length) (y9 b o l d)/\P (y9 b o l d)
 | [],N,K,d,h,hN,hp=>⟨h,hp⟩
 | p :: r,N,K,d,h,hN,hp=>by
  have e:qz (p :: r)=(zg p).length+qz r:=rfl
  rw[e]at hN ⊢
  obtain ⟨g1,g2⟩:=zeg (p:=p) ha ht b o h (by omega) hp
  have:=ym ha ht b o r _ _ _ g1 (by omega) g2
  rw[List.length_cons,show N+((zg p).length+qz r)=N+(zg p).length+qz r by omega,show K+(r.length+1)=K+1+r.length by omega]
  exact this
theorem zoO {w:qd} (h:okW w) (hd:uk w.fs.xs) (hn:w.fs.next<=549755813888) (hl:jF w.kept<=536870912):MkG w 0 0 (yh w):=
 ⟨zps h,zpT h,zcS h,by show w.fs.next<=_;omega,hd,Nat.le_refl _,fun o ho=>(by cases ho),Nat.le_refl _,⟨(VZ h.2.2.2.2.1).1,by show jF w.kept<=_;omega⟩,rfl,⟨fun h=>absurd h (show ¬(0:Int)=1 by decide),fun h=>absurd h (Nat.lt_irrefl 0)⟩⟩
theorem GA:∀ {l:List (List UInt8)},(∀ x∈l,x.length<=1000)->qz l<=500*l.length
 | [],_=>Nat.zero_le _
 | p :: r,h=>by
  have ih:=GA fun x hx=>h x (List.mem_cons_of_mem _ hx)
  have:=zdf (h p List.mem_cons_self)
  show (zg p).length+qz r<=_
  rw[List.length_cons]
  omega
end
section
open CA CB
open Go.RowKit
theorem zjM (w:qd) (hw:x8 w) (hs:znd w) (a:List UInt8) (ha:a.length<=1000000) (hp:qc a=true):Fun Tryz.prog GD 111 [N0 w,.agg (opL (JF a))] (.tup [N0 (qh w a 2 []).1,.sc (.int .i64 (qh w a 2 []).2)]) 0:=by
 have ho:zjx (JF a):=⟨ha,Nat.zero_le _,Nat.zero_le _⟩
 have hop:=(zer 1 0 a [] [] ho).gd1
 have hm:=vo hp
 unfold JF at hm ho ⊢
 have hq:Fun Tryz.prog GD 186 _ _ 0:=(zfd w hw hs ⟨1,0,a,[],[]⟩ ho hp).g0
 rw[hm]at hop
 unfold opL qe at hop
 unfold opL at hq ⊢
 refine fof (fun i=>if i=3 then [false,false,false,false,false,false,false,false,false,true] else []) Tryz.func111 ?_;dsimp only[Tryz.f111]
 push_cast -dsimp
 refine cl (hop) ?_;push_cast -dsimp
 refine cl (zd7 (G:=GD)) ?_;push_cast -dsimp [zjd,UD,reduceIte,Int.reduceEq,Option.map_some,Option.map_none]
 refine cl (hq) ?_;push_cast -dsimp
 exact dn (by push_cast -dsimp [zb,za,CLe,ze])
theorem zoL (d:zr) (hd:zjg d) (p:List UInt8) (hp:p.length<=1000000) (hpl:qc p=true):Fun Tryz.prog GD 62 [Ur d,.agg (opL (JF p))] (.tup [Ur (zi3 d (JF p)).1,.sc (.int .i64 (zi3 d (JF p)).2)]) 0:=by
 have hsl:=GV (G:=GD) (JF p)
 rw[show decide ((JF p).kind=3∨(JF p).kind=7)=false from decide_eq_false (show ¬((1:Int)=3∨(1:Int)=7) by decide)]at hsl
 have hb1:=hd.slot.1
 have hb2:=hd.slot.2
 have hopl:(d.ops.map opL).length=d.ops.length:=List.length_map ..
 have hol:=hd.ops
 have hl5:∀ l:List OpV,∀ r∈l.map opL,r.length=5:=fun l r hr=>by obtain ⟨x,_,rfl⟩:=List.mem_map.1 hr;rfl
 have hst:∀ l:List OpV,jp (l.map opL):=fun l r hr=>by obtain ⟨x,_,rfl⟩:=List.mem_map.1 hr;rfl
 have hX:=zcI (G:=GD) (d.ops.map opL) (([JF p]:List OpV).map opL) (hl5 _) (hl5 _) (hst _) (hst _) (by omega) (by simp) (by simp)
 rw[←List.map_append]at hX
 have hc:=(hX.fun (r:=.own 0 55 5 ((d.ops++([JF p]:List OpV)).map opL)) (n:=1) (by
  rintro r bx m ⟨rfl,c,B,hB,rfl,rfl⟩
  exact ⟨[(0,55,5,(d.ops++([JF p]:List OpV)).map opL,c)],[.inl 0],hB.ok rfl (by simp) (hl5 _),rfl,rfl,by push_cast -dsimp [zb,za,CLe,ze,List.length_map]⟩)).weak (r':=.sl 5 ((d.ops++([JF p]:List OpV)).map opL)) (by push_cast -dsimp [zb,za,CLe,ze])
 have hdo:=zjM d.w hd.wi hd.ws p hp hpl
 have ea:=zji d hpl
 have hmx:¬(0>d.slot):=by omega
 rw[ea]
 have eo:opL (JF p) = [.sc (.int .i64 1),.sc (.int .i64 0),.str p,.str [],.str []]:=rfl
 unfold opL at hsl
 rw[show (JF p).kind=1 from rfl,show (JF p).slot=0 from rfl,show (JF p).a=p from rfl,show (JF p).b = [] from rfl,show (JF p).d = [] from rfl]at hsl
 rw[eo]at hdo ⊢
 simp only[List.map_cons,List.map_nil,eo]at hc
 by_cases hz:(qh d.w p 2 []).2=0
 ·rw[if_neg (fun h=>h hz)]
  rw[hz]at hdo
  refine fon Tryz.func62 ?_;dsimp only[Tryz.f62]
  push_cast -dsimp
  refine cl (hsl) ?_;push_cast -dsimp
  refine cl (hdo) ?_;push_cast -dsimp
  refine cl (hc) ?_;push_cast -dsimp [eq_false hmx]
  exact dn (by push_cast -dsimp [zb,za,CLe,ze])
 ·have hz':=eq_false hz
  rw[if_pos hz]
  refine fon Tryz.func62 ?_;dsimp only[Tryz.f62]
  push_cast -dsimp
  refine cl (hsl) ?_;push_cast -dsimp
  refine cl (hdo) ?_;push_cast -dsimp [hz']
  exact dn (by push_cast -dsimp [zb,za,CLe,ze])
end
section
open CA CB
open Go.RowKit
theorem za3 (f:FsV) (hf:FsI f) (hs:FsS f) (p:List UInt8) (hp:p.length<=100000):Fun Tryz.prog G0 178 [.agg (fsC f),.str p] (.tup [.agg (JJ (qi f p).1),.sc (.int .i64 (qi f p).2)]) 0:=by
 have h1:=vy f hf hs p (by omega)
 have h2:=YR (G:=G0) f (atV f p).1.ino (by have:=hs.len;omega) hf.rises
 by_cases c1:(atV f p).2=0
 ·have c1':=eq_true c1
  cases hh:zw (atV f p).1.ino f.xs with
  | false =>
   have h0:(atV f p).1.ino=0:=Classical.byContradiction fun hne=>by
    have:zw (atV f p).1.ino f.xs=true:=by
     unfold atV at hne ⊢
     split at hne
     ·rename_i q;rw[if_pos q];exact MI hf _ _ (fun _=>hf.root) hne
     ·exact absurd rfl hne
    rw[this]at hh;cases hh
   have e:qi f p=(NZ,1):=by unfold qi;rw[if_neg (fun h=>h c1),if_pos h0]
   rw[c1]at h1
   rw[hh]at h2
   refine fon Tryz.func178 ?_;dsimp only[Tryz.f178]
   push_cast -dsimp
   refine cl (h1) ?_;push_cast -dsimp
   refine cl (h2) ?_;push_cast -dsimp
   exact dn (by push_cast -dsimp [zb,za,CLe,ze,e,NZ])
  | true =>
   have h0:=Qj hf hh
   have e:qi f p=(zf (atV f p).1.ino f.xs,0):=by unfold qi;rw[if_neg (fun h=>h c1),if_neg h0]
   rw[c1]at h1
   rw[hh]at h2
   refine fon Tryz.func178 ?_;dsimp only[Tryz.f178]
   push_cast -dsimp
   refine cl (h1) ?_;push_cast -dsimp
   refine cl (h2) ?_;push_cast -dsimp
   exact dn (by push_cast -dsimp [zb,za,CLe,ze,e])
 ·have e:qi f p=(NZ,(atV f p).2):=by unfold qi;rw[if_pos c1]
  refine fon Tryz.func178 ?_;dsimp only[Tryz.f178]
  push_cast -dsimp
  refine cl (h1) ?_;push_cast -dsimp [c1]
  exact dn (by push_cast -dsimp [zb,za,CLe,ze,e,NZ])
theorem zfv (f:FsV) (hf:FsI f) (hs:FsS f) (p:List UInt8) (hp:p.length<=100000):Fun Tryz.prog G0 150 [.agg (fsC f),.str p] (.tup [.sc (.int .i64 (jS f p).1),.sc (.int .i64 (jS f p).2)]) 0:=by
 have h1:=za3 f hf hs p hp
 by_cases c1:(qi f p).2=0
 ·have d1:(atV f p).2=0/\(atV f p).1.ino≠0/\(qi f p).1=zf (atV f p).1.ino f.xs:=by
   unfold qi at c1 ⊢
   split at c1
   ·rename_i h;exact absurd c1 h
   ·rename_i h
    split at c1
    ·exact absurd c1 (show ¬(1:Int)=0 by decide)
    ·rename_i h';rw[if_neg h,if_neg h'];exact ⟨Classical.not_not.1 h,h',rfl⟩
  rw[c1]at h1
  by_cases c2:(qi f p).1.kind=2
  ·have e:jS f p=((qi f p).1.ino,0):=by unfold jS;rw[if_neg (fun h=>h d1.1),if_neg d1.2.1,if_neg (by rw[←d1.2.2];exact fun h=>h c2),d1.2.2]
   refine fon Tryz.func150 ?_;dsimp only[Tryz.f150]
   push_cast -dsimp
   refine cl (h1) ?_;push_cast -dsimp [c2]
   exact dn (by push_cast -dsimp [zb,za,CLe,ze,e])
  ·have e:jS f p=(0,3):=by unfold jS;rw[if_neg (fun h=>h d1.1),if_neg d1.2.1,if_pos (by rw[←d1.2.2];exact c2)]
   refine fon Tryz.func150 ?_;dsimp only[Tryz.f150]
   push_cast -dsimp
   refine cl (h1) ?_;push_cast -dsimp [c2]
   exact dn (by push_cast -dsimp [zb,za,CLe,ze,e])
 ·have e:jS f p=(0,(qi f p).2):=by
   unfold jS qi
   unfold qi at c1
   split
   ·rfl
   ·rename_i h
    rw[if_neg h]at c1
    split
    ·rfl
    ·rename_i h';rw[if_neg h']at c1;exact absurd rfl c1
  refine fon Tryz.func150 ?_;dsimp only[Tryz.f150]
  push_cast -dsimp
  refine cl (h1) ?_;push_cast -dsimp [c1]
  exact dn (by push_cast -dsimp [zb,za,CLe,ze,e])
theorem zbT {G:zk} (a b:List (List UInt8)) (la:a.length<=90000) (lb:b.length<=90000):Fun Tryz.prog G 75 [.sl 1 [[.sl 1 (zx a)],[.sl 1 (zx b)]]] (.sl 1 (zx (a++b))) 0:=by
 have hl:∀ l:List (List UInt8),∀ r∈zx l,r.length=1:=fun l r hr=>by obtain ⟨x,_,rfl⟩:=List.mem_map.1 hr;rfl
 have hs:∀ l:List (List UInt8),jp (zx l):=fun l r hr=>by obtain ⟨x,_,rfl⟩:=List.mem_map.1 hr;rfl
 have hla:(zx a).length=a.length:=List.length_map ..
 have hlb:(zx b).length=b.length:=List.length_map ..
 by_cases h0:0<a.length+b.length
 ·have h:=Nr (G:=G) (zx a) (zx b) (hl a) (hl b) (hs a) (hs b) (by omega) (by omega) (by omega)
  have e:zx a++zx b=zx (a++b):=List.map_append.symm
  rw[e]at h
  refine (h.fun (r:=.own 0 9 1 (zx (a++b))) (n:=1) (by
   rintro r bx m ⟨rfl,c,B,hB,rfl,rfl⟩
   exact ⟨[(0,9,1,zx (a++b),c)],[.inl 0],hB.ok rfl (by rw[List.length_map,List.length_append];exact h0) (hl _),rfl,rfl,by push_cast -dsimp [zb,za,CLe,ze,List.length_map]⟩)).weak (by push_cast -dsimp [zb,za,CLe,ze])
 ·have ha:a = []:=List.eq_nil_of_length_eq_zero (by omega)
  have hb:b = []:=List.eq_nil_of_length_eq_zero (by omega)
  subst ha hb
  exact GU
end
section
open CA CB
open Go.RowKit
abbrev ziY (f:FsV) (fol dir:Bool) (todo:Yk) (s:zT) (n:Int):List C:=[.sc (.int .i64 f.maxI),.sc (.int .i64 f.maxB),.sc (.int .i64 f.next),.sl 6 (zF f.xs),.sc (.bool fol),.sc (.bool dir),.sl 1 (zx todo),.sc (.int .i64 s.dir),.str s.name,.sc (.int .i64 s.ino),.sc (.int .i64 n)]
abbrev YJ:List C:=[.any,.any,.any,.any,.any,.any,.any,.any,.any,.any,.any]
theorem Gf (f:FsV) (fol dir:Bool) (todo:Yk) (s:zT) (n:Nat) (x d:zn) (hx:x.data.length<=10000) (ht:todo.length<=80000) (hn:n<=40):Y1 Tryz.prog G0 152 [.ptr 0 0,.agg (JJ x),.agg (JJ d)] [ziY f fol dir todo s n] 0 (fun r bx m=>m=0 /\
  ((n=40/\r = .sc (.int .i64 6)/\bx = [YJ])∨(n<40/\J0 x.data=true/\r = .sc (.int .i64 7)/\bx = [YJ])∨(n<40/\J0 x.data=false/\r = .sc (.int .i64 0)/\bx = [ziY f fol (dir||(qo x.data&&decide (todo = []))) (zg x.data++todo) ⟨0,[],if X1 x.data then 1 else d.ino⟩ (n+1:Nat)]))):=by
 by_cases h40:n=40
 ·have hc:((40:Int)<(n:Int)+1)=True:=eq_true (by omega)
  refine foX (fun _=>[]) Tryz.func152 ?_;dsimp only[Tryz.f152]
  push_cast -dsimp [hc]
  repeat refine an ?_
  exact ⟨_,[YJ],0,⟨⟨rfl,.inl ⟨h40,rfl,rfl⟩⟩,Nat.le_refl _⟩,[],rfl,rfl,by push_cast -dsimp [zb,za,CLe,ze],by push_cast -dsimp [zb,za,CLe,ze]⟩
 have hc:((40:Int)<(n:Int)+1)=False:=eq_false (by omega)
 have hlg:=Hb x.data (by omega)
 cases hl:J0 x.data with
 | true =>
  rw[hl]at hlg
  refine foX (fun _=>[]) Tryz.func152 ?_;dsimp only[Tryz.f152]
  push_cast -dsimp [hc]
  repeat refine an ?_
  refine cl (hlg) ?_;push_cast -dsimp
  exact ⟨_,[YJ],0,⟨⟨rfl,.inr (.inl ⟨by omega,rfl,rfl⟩)⟩,Nat.le_refl _⟩,[],rfl,rfl,by push_cast -dsimp [zb,za,CLe,ze],by push_cast -dsimp [zb,za,CLe,ze]⟩
 | false =>
  rw[hl]at hlg
  have hrd:Fun Tryz.prog G0 107 [.str x.data] (.agg [qe (X1 x.data),.own 0 9 1 (zx (zg x.data)),qe (qo x.data)]) 1:=Z8 x.data (by omega)
  have hnl:=zS x.data
  have hcc:=zbT (G:=G0) (zg x.data) todo (by omega) (by omega)
  have htl:(zx todo).length=todo.length:=List.length_map ..
  have hte:((todo.length:Int)=0)=(todo = []):=propext ⟨fun h=>List.eq_nil_of_length_eq_zero (by omega),fun h=>by rw[h];rfl⟩
  generalize zg x.data=nm at hrd hcc
  have fin:∀ (b a:Bool),(dir||(qo x.data&&decide (todo = [])))=b->X1 x.data=a->Y1 Tryz.prog G0 152 [.ptr 0 0,.agg (JJ x),.agg (JJ d)] [ziY f fol dir todo s n] 0 (fun r bx m=>m=0/\r = .sc (.int .i64 0)/\bx = [ziY f fol b (nm++todo) ⟨0,[],if a then 1 else d.ino⟩ (n+1:Nat)]):=fun b a hb ha=>by
   rw[ha]at hrd
   by_cases ht0:todo = []
   ·have ht0':=eq_true ht0
    cases dir<;>cases hs:qo x.data<;>rw[hs]at hrd hb<;>cases a
    all_goals
     simp[ht0]at hb
     subst hb
     refine foX (fun i=>if i=8 then [false,false,false,false,false,false,false,false,false,false,false,true] else []) Tryz.func152 ?_;dsimp only[Tryz.f152]
     push_cast -dsimp [hc]
     repeat refine an ?_
     refine cl (hlg) ?_;push_cast -dsimp
     refine cl (hrd) ?_;push_cast -dsimp [htl,hte,ht0']
     refine cl (hcc) ?_;push_cast -dsimp
     exact ⟨_,_,0,⟨⟨rfl,rfl,rfl⟩,Nat.le_refl _⟩,[],rfl,rfl,by push_cast -dsimp [zb,za,CLe,ze],by push_cast -dsimp [zb,za,CLe,ze]⟩
   ·have ht0':=eq_false ht0
    cases dir<;>cases hs:qo x.data<;>rw[hs]at hrd hb<;>cases a
    all_goals
     simp[ht0]at hb
     subst hb
     refine foX (fun i=>if i=8 then [false,false,false,false,false,false,false,false,false,false,false,true] else []) Tryz.func152 ?_;dsimp only[Tryz.f152]
     push_cast -dsimp [hc]
     repeat refine an ?_
     refine cl (hlg) ?_;push_cast -dsimp
     refine cl (hrd) ?_;push_cast -dsimp [htl,hte,ht0']
     refine cl (hcc) ?_;push_cast -dsimp
     exact ⟨_,_,0,⟨⟨rfl,rfl,rfl⟩,Nat.le_refl _⟩,[],rfl,rfl,by push_cast -dsimp [zb,za,CLe,ze],by push_cast -dsimp [zb,za,CLe,ze]⟩
  have h:=fin _ _ rfl rfl
  exact ⟨h.1,fun R L vs a1 a2 a3 a4 a5 a6 a7=>(h.2 R L vs a1 a2 a3 a4 a5 a6 a7).mono fun _ _=>by
   rintro ⟨r,bx,m,⟨⟨q1,q2,q3⟩,q4⟩,q5⟩
   exact ⟨r,bx,m,⟨⟨q1,.inr (.inr ⟨by omega,rfl,q2,q3⟩)⟩,q4⟩,q5⟩⟩
theorem zgu (f:FsV) (hf:FsI f) (hs:FsS f) (fol dir:Bool) (todo:Yk) (s:zT) (n:Nat) (lk:zn->zn->Yk->Bool->zT×Int):Y1 Tryz.prog G0 153 [.ptr 0 0] [ziY f fol dir todo s n] 0 (fun r bx m=>m=0/\r = .tup [.agg (jI (onL f fol lk [] s dir).1),.sc (.int .i64 (onL f fol lk [] s dir).2)]/\bx = [YJ]):=by
 have hg:=YR (G:=G0) f s.ino (by have:=hs.len;omega) hf.rises
 cases hh:zw s.ino f.xs with
 | false =>
  have e:onL f fol lk [] s dir=(s,0):=by unfold onL;rw[if_neg (fun h=>by rw[hh]at h;cases h.1)]
  rw[hh]at hg
  refine foX (fun i=>if i=1 then Y0 13 14 else []) Tryz.func153 ?_;dsimp only[Tryz.f153]
  push_cast -dsimp
  refine cl (hg) ?_;push_cast -dsimp
  exact ⟨_,[YJ],0,⟨⟨rfl,rfl,rfl⟩,Nat.le_refl _⟩,[],rfl,rfl,by push_cast -dsimp [zb,za,CLe,ze],by push_cast -dsimp [zb,za,CLe,ze,e]⟩
 | true =>
  rw[hh]at hg
  cases dir with
  | false =>
   have e:onL f fol lk [] s false=(s,0):=by unfold onL;rw[if_neg (fun h=>by cases h.2.1)]
   refine foX (fun i=>if i=1 then Y0 13 14 else []) Tryz.func153 ?_;dsimp only[Tryz.f153]
   push_cast -dsimp
   refine cl (hg) ?_;push_cast -dsimp
   exact ⟨_,[YJ],0,⟨⟨rfl,rfl,rfl⟩,Nat.le_refl _⟩,[],rfl,rfl,by push_cast -dsimp [zb,za,CLe,ze],by push_cast -dsimp [zb,za,CLe,ze,e]⟩
  | true =>
   by_cases hk:(zf s.ino f.xs).kind=2
   ·have e:onL f fol lk [] s true=(s,0):=by unfold onL;rw[if_neg (fun h=>h.2.2 hk)]
    have hk':=eq_true hk
    refine foX (fun i=>if i=1 then Y0 13 14 else []) Tryz.func153 ?_;dsimp only[Tryz.f153]
    push_cast -dsimp
    refine cl (hg) ?_;push_cast -dsimp [hk']
    exact ⟨_,[YJ],0,⟨⟨rfl,rfl,rfl⟩,Nat.le_refl _⟩,[],rfl,rfl,by push_cast -dsimp [zb,za,CLe,ze],by push_cast -dsimp [zb,za,CLe,ze,e]⟩
   ·have e:onL f fol lk [] s true=(zU,3):=by unfold onL;rw[if_pos ⟨hh,rfl,hk⟩]
    have hk':=eq_false hk
    refine foX (fun i=>if i=1 then Y0 13 14 else []) Tryz.func153 ?_;dsimp only[Tryz.f153]
    push_cast -dsimp
    refine cl (hg) ?_;push_cast -dsimp [hk']
    exact ⟨_,[YJ],0,⟨⟨rfl,rfl,rfl⟩,Nat.le_refl _⟩,[],rfl,rfl,by push_cast -dsimp [zb,za,CLe,ze],by push_cast -dsimp [zb,za,CLe,ze,e,zU]⟩
theorem zdv (f:FsV) (hf:FsI f) (hr:FsR f) (hs:FsS f) (fol dir0:Bool) (todo0:Yk) (s0:zT) (ht0:todo0.length<=3000) (hd:∀ x∈f.xs,x.kind=3->x.data.length<=1000) (hs0:s0.ino≠0->zw s0.ino f.xs=true) (R:zT×Int) (hR:onN f fol 40 todo0 s0 dir0=R):Y1 Tryz.prog G0 105 [.ptr 0 0] [ziY f fol dir0 todo0 s0 (0:Nat)] 0 (fun r bx m=>m=0/\r = .tup [.agg (jI R.1),.sc (.int .i64 R.2)]/\∃ X,bx = [YJ]++X):=by
 refine foX (fun i=>if i=4 then Y0 13 14 else []) Tryz.func105 ?_;dsimp only[Tryz.f105]
 push_cast -dsimp
 refine loop (fun p:Yk×zT×Bool×Nat=>⟨[(0,.ptr 0 0),(2,.ptr 1 0)],[ziY f fol p.2.2.1 p.1 p.2.1 p.2.2.2,[.any,.any,.any]],0,0⟩)
  (fun p=>onN f fol (40-p.2.2.2) p.1 p.2.1 p.2.2.1=R/\p.2.2.2<=40/\p.1.length<=3000+p.2.2.2*1000/\(p.2.1.ino≠0->zw p.2.1.ino f.xs=true)) (fun p=>(41-p.2.2.2)*100000+p.1.length) (todo0,s0,dir0,0) ⟨hR,Nat.zero_le _,by dsimp only;omega,hs0⟩ ?_ ?_
 ·exact wk
 rintro ⟨todo,s,dir,n⟩ ⟨hon,hn,htl,hin⟩
 dsimp only at hon hn htl hin
 rw[Zr]at hon
 cases todo with
 | nil =>
  have he:=zgu f hf hs fol dir [] s n (lkN f fol (40-n))
  rw[hon]at he
  push_cast -dsimp
  refine YF [0] [] he rfl (by decide) (by decide) (by simp) (by push_cast -dsimp) rfl (fun r bx' m hp=>?_)
  obtain ⟨rfl,rfl,rfl⟩:=hp
  push_cast -dsimp
  exact ⟨_,[YJ],0,⟨⟨rfl,rfl,[],rfl⟩,by simp⟩,[],rfl,rfl,by push_cast -dsimp [zb,za,CLe,ze],by push_cast -dsimp [zb,za,CLe,ze]⟩
 | cons nm rest =>
  have hg:=YR (G:=G0) f s.ino (by have:=hs.len;omega) hf.rises
  have hpos:((0:Int)<(rest.length:Int)+1)=True:=eq_true (by omega)
  have hrl:(zx rest).length=rest.length:=List.length_map ..
  have hl1:((1:Int)<=(rest.length:Int)+1)=True:=eq_true (by omega)
  rw[List.length_cons]at htl
  unfold onL at hon
  cases hh:zw s.ino f.xs with
  | false =>
   have h0:s.ino=0:=Classical.byContradiction fun q=>by rw[hin q]at hh;cases hh
   rw[if_pos h0]at hon
   rw[hh]at hg
   rw[←hon]
   push_cast -dsimp [hpos,hl1]
   repeat refine an ?_
   refine cl (hg) ?_;push_cast -dsimp
   exact ⟨_,[YJ],0,⟨⟨rfl,rfl,[],rfl⟩,by simp⟩,[],rfl,rfl,by push_cast -dsimp [zb,za,CLe,ze],by push_cast -dsimp [zb,za,CLe,ze,zU]⟩
  | true =>
   have hgs:=zq hh
   rw[if_neg (Qj hf hh)]at hon
   rw[hh]at hg
   by_cases hk2:(zf s.ino f.xs).kind=2
   case neg =>
    have hk2':=eq_false hk2
    rw[if_pos hk2]at hon
    rw[←hon]
    push_cast -dsimp [hpos,hl1]
    repeat refine an ?_
    refine cl (hg) ?_;push_cast -dsimp [hk2']
    exact ⟨_,[YJ],0,⟨⟨rfl,rfl,[],rfl⟩,by simp⟩,[],rfl,rfl,by push_cast -dsimp [zb,za,CLe,ze],by push_cast -dsimp [zb,za,CLe,ze,zU]⟩
   have hk2':=eq_true hk2
   rw[if_neg (fun q=>q hk2)]at hon
   by_cases n1:nm = [46]
   ·have n1':=eq_true n1
    rw[if_pos n1]at hon
    push_cast -dsimp [hpos,hl1]
    repeat refine an ?_
    refine cl (hg) ?_;push_cast -dsimp [hk2',n1']
    exact ⟨(rest,⟨0,[],(zf s.ino f.xs).ino⟩,dir,n),⟨by dsimp only;rw[Zr];exact hon,hn,by dsimp only;omega,fun _=>by dsimp only;rw[hgs.2.2];exact hh⟩,by dsimp only;omega,wk⟩
   have n1':=eq_false n1
   rw[if_neg n1]at hon
   by_cases n2:nm = [46,46]
   ·have n2':=eq_true n2
    rw[if_pos n2]at hon
    push_cast -dsimp [hpos,hl1]
    repeat refine an ?_
    refine cl (hg) ?_;push_cast -dsimp [hk2',n1',n2']
    exact ⟨(rest,⟨0,[],(zf s.ino f.xs).parent⟩,dir,n),⟨by dsimp only;rw[Zr];exact hon,hn,by dsimp only;omega,fun _=>zkK hf hr hh hk2⟩,by dsimp only;omega,wk⟩
   have n2':=eq_false n2
   rw[if_neg n2]at hon
   have hfd:=Nu (G:=G0) (zf s.ino f.xs).es nm (by have:=hs.es hh;omega) (hf.es _ hgs.2.1)
   have hg2:=YR (G:=G0) f (zC nm (zf s.ino f.xs).es) (by have:=hs.len;omega) hf.rises
   have hin2:zC nm (zf s.ino f.xs).es≠0->zw (zC nm (zf s.ino f.xs).es) f.xs=true:=fun q=>by
    have hx:X8 nm (zf s.ino f.xs).es=true:=by
     unfold X8
     rw[js]
     cases hq:jT zK.name nm (zf s.ino f.xs).es with
     | some e=>rfl
     | none=>unfold zC at q;rw[hq]at q;exact absurd rfl q
    exact Ue hf hh hx
   by_cases hk3:(zf (zC nm (zf s.ino f.xs).es) f.xs).kind=3
   case neg =>
    have hk3':=eq_false hk3
    have hg1:((0:Int)<(rest.length:Int))=((0:Int)<(rest.length:Int)):=rfl
    rw[if_pos (.inr (.inl hk3))]at hon
    push_cast -dsimp [hpos,hl1,hk2',n1',n2',hk3']
    repeat refine an ?_
    refine cl (hg) ?_;push_cast -dsimp [hk2',n1',n2']
    refine cl (hfd) ?_;push_cast -dsimp
    refine cl (hg2) ?_;push_cast -dsimp [hk3',hrl]
    exact ⟨(rest,⟨(zf s.ino f.xs).ino,nm,zC nm (zf s.ino f.xs).es⟩,dir,n),⟨by dsimp only;rw[Zr];exact hon,hn,by dsimp only;omega,hin2⟩,by dsimp only;omega,wk⟩
   have hk3':=eq_true hk3
   have hx2:zw (zC nm (zf s.ino f.xs).es) f.xs=true:=by
    cases hq:zw (zC nm (zf s.ino f.xs).es) f.xs with
    | true=>rfl
    | false=>rw[(Jg hq).2]at hk3;exact absurd hk3 (by decide)
   have hxe:X8 nm (zf s.ino f.xs).es=true:=by
    cases hq:X8 nm (zf s.ino f.xs).es with
    | true=>rfl
    | false =>
     have e0:zC nm (zf s.ino f.xs).es=0:=by
      unfold zC
      unfold X8 at hq
      rw[js]at hq
      cases hz:jT zK.name nm (zf s.ino f.xs).es with
      | none=>rfl
      | some e=>rw[hz]at hq;cases hq
     rw[e0]at hx2
     exact absurd rfl (Qj hf hx2)
   have hxd:=hd _ (zq hx2).2.1 hk3
   by_cases hr0:rest = []
   ·have hg1:((0:Int)<(rest.length:Int))=False:=eq_false (by rw[hr0];simp)
    cases fol with
    | false =>
     cases dir with
     | false =>
      rw[if_pos (.inr (.inr ⟨hr0,rfl,rfl⟩))]at hon
      push_cast -dsimp [hpos,hl1,hk2',n1',n2',hk3',hg1]
      repeat refine an ?_
      refine cl (hg) ?_;push_cast -dsimp [hk2',n1',n2']
      refine cl (hfd) ?_;push_cast -dsimp
      refine cl (hg2) ?_;push_cast -dsimp [hk3',hrl,hg1]
      exact ⟨(rest,⟨(zf s.ino f.xs).ino,nm,zC nm (zf s.ino f.xs).es⟩,false,n),⟨by dsimp only;rw[Zr];exact hon,hn,by dsimp only;omega,hin2⟩,by dsimp only;omega,wk⟩
     | true =>
      rw[if_neg (by rintro (q | q | q);exact absurd (hxe.symm.trans q) (by simp);exact q hk3;cases q.2.2)]at hon
      have hlk:=Gf f false true rest s n (zf (zC nm (zf s.ino f.xs).es) f.xs) (zf s.ino f.xs) (by omega) (by omega) hn
      push_cast -dsimp [hpos,hl1,hk2',n1',n2',hk3',hg1]
      repeat refine an ?_
      refine cl (hg) ?_;push_cast -dsimp [hk2',n1',n2']
      refine cl (hfd) ?_;push_cast -dsimp
      refine cl (hg2) ?_;push_cast -dsimp [hk3',hrl,hg1]
      refine YF [0] [] hlk rfl (by decide) (by decide) (by simp) (by push_cast -dsimp) (by push_cast -dsimp) (fun r bx' m hp=>?_)
      obtain ⟨rfl,⟨q1,rfl,rfl⟩ | ⟨q1,q2,rfl,rfl⟩ | ⟨q1,q2,rfl,rfl⟩⟩:=hp
      ·push_cast -dsimp
       have hk0:40-n=0:=by omega
       rw[hk0]at hon
       have hon:(zU,(6:Int))=R:=hon
       rw[←hon]
       exact ⟨_,[YJ],0,⟨⟨rfl,rfl,[],rfl⟩,by simp⟩,[],rfl,rfl,by push_cast -dsimp [zb,za,CLe,ze],by push_cast -dsimp [zb,za,CLe,ze,zU]⟩
      ·push_cast -dsimp
       have hk0:40-n=(39-n)+1:=by omega
       rw[hk0,XL,if_pos q2]at hon
       rw[←hon]
       exact ⟨_,[YJ],0,⟨⟨rfl,rfl,[],rfl⟩,by simp⟩,[],rfl,rfl,by push_cast -dsimp [zb,za,CLe,ze],by push_cast -dsimp [zb,za,CLe,ze,zU]⟩
      ·push_cast -dsimp
       have hk0:40-n=(39-n)+1:=by omega
       have hk1:40-(n+1)=39-n:=by omega
       rw[hk0,XL,if_neg (by rw[q2];simp)]at hon
       have hnl:=zS (zf (zC nm (zf s.ino f.xs).es) f.xs).data
       exact ⟨(zg (zf (zC nm (zf s.ino f.xs).es) f.xs).data++rest,⟨0,[],if X1 (zf (zC nm (zf s.ino f.xs).es) f.xs).data then 1 else (zf s.ino f.xs).ino⟩,true||(qo (zf (zC nm (zf s.ino f.xs).es) f.xs).data&&decide (rest = [])),n+1),⟨by dsimp only;rw[hk1];exact hon,by dsimp only;omega,by dsimp only;rw[List.length_append];omega,fun _=>by
        dsimp only
        split
        ·exact hf.root
        ·rw[hgs.2.2];exact hh⟩,by dsimp only;rw[List.length_append];omega,wk⟩
    | true =>
     rw[if_neg (by rintro (q | q | q);exact absurd (hxe.symm.trans q) (by simp);exact q hk3;cases q.2.1)]at hon
     have hlk:=Gf f true dir rest s n (zf (zC nm (zf s.ino f.xs).es) f.xs) (zf s.ino f.xs) (by omega) (by omega) hn
     push_cast -dsimp [hpos,hl1,hk2',n1',n2',hk3',hg1]
     repeat refine an ?_
     refine cl (hg) ?_;push_cast -dsimp [hk2',n1',n2']
     refine cl (hfd) ?_;push_cast -dsimp
     refine cl (hg2) ?_;push_cast -dsimp [hk3',hrl,hg1]
     refine YF [0] [] hlk rfl (by decide) (by decide) (by simp) (by push_cast -dsimp) (by push_cast -dsimp) (fun r bx' m hp=>?_)
     obtain ⟨rfl,⟨q1,rfl,rfl⟩ | ⟨q1,q2,rfl,rfl⟩ | ⟨q1,q2,rfl,rfl⟩⟩:=hp
     ·push_cast -dsimp
      have hk0:40-n=0:=by omega
      rw[hk0]at hon
      have hon:(zU,(6:Int))=R:=hon
      rw[←hon]
      exact ⟨_,[YJ],0,⟨⟨rfl,rfl,[],rfl⟩,by simp⟩,[],rfl,rfl,by push_cast -dsimp [zb,za,CLe,ze],by push_cast -dsimp [zb,za,CLe,ze,zU]⟩
     ·push_cast -dsimp
      have hk0:40-n=(39-n)+1:=by omega
      rw[hk0,XL,if_pos q2]at hon
      rw[←hon]
      exact ⟨_,[YJ],0,⟨⟨rfl,rfl,[],rfl⟩,by simp⟩,[],rfl,rfl,by push_cast -dsimp [zb,za,CLe,ze],by push_cast -dsimp [zb,za,CLe,ze,zU]⟩
     ·push_cast -dsimp
      have hk0:40-n=(39-n)+1:=by omega
      have hk1:40-(n+1)=39-n:=by omega
      rw[hk0,XL,if_neg (by rw[q2];simp)]at hon
      have hnl:=zS (zf (zC nm (zf s.ino f.xs).es) f.xs).data
      exact ⟨(zg (zf (zC nm (zf s.ino f.xs).es) f.xs).data++rest,⟨0,[],if X1 (zf (zC nm (zf s.ino f.xs).es) f.xs).data then 1 else (zf s.ino f.xs).ino⟩,dir||(qo (zf (zC nm (zf s.ino f.xs).es) f.xs).data&&decide (rest = [])),n+1),⟨by dsimp only;rw[hk1];exact hon,by dsimp only;omega,by dsimp only;rw[List.length_append];omega,fun _=>by
       dsimp only
       split
       ·exact hf.root
       ·rw[hgs.2.2];exact hh⟩,by dsimp only;rw[List.length_append];omega,wk⟩
   ·have hg1:((0:Int)<(rest.length:Int))=True:=eq_true (by have:=List.length_pos_iff.2 hr0;omega)
    rw[if_neg (by rintro (q | q | q);exact absurd (hxe.symm.trans q) (by simp);exact q hk3;exact hr0 q.1)]at hon
    have hlk:=Gf f fol dir rest s n (zf (zC nm (zf s.ino f.xs).es) f.xs) (zf s.ino f.xs) (by omega) (by omega) hn
    push_cast -dsimp [hpos,hl1,hk2',n1',n2',hk3',hg1]
    repeat refine an ?_
    refine cl (hg) ?_;push_cast -dsimp [hk2',n1',n2']
    refine cl (hfd) ?_;push_cast -dsimp
    refine cl (hg2) ?_;push_cast -dsimp [hk3',hrl,hg1]
    refine YF [0] [] hlk rfl (by decide) (by decide) (by simp) (by push_cast -dsimp) (by push_cast -dsimp) (fun r bx' m hp=>?_)
    obtain ⟨rfl,⟨q1,rfl,rfl⟩ | ⟨q1,q2,rfl,rfl⟩ | ⟨q1,q2,rfl,rfl⟩⟩:=hp
    ·push_cast -dsimp
     have hk0:40-n=0:=by omega
     rw[hk0]at hon
     have hon:(zU,(6:Int))=R:=hon
     rw[←hon]
     exact ⟨_,[YJ],0,⟨⟨rfl,rfl,[],rfl⟩,by simp⟩,[],rfl,rfl,by push_cast -dsimp [zb,za,CLe,ze],by push_cast -dsimp [zb,za,CLe,ze,zU]⟩
    ·push_cast -dsimp
     have hk0:40-n=(39-n)+1:=by omega
     rw[hk0,XL,if_pos q2]at hon
     rw[←hon]
     exact ⟨_,[YJ],0,⟨⟨rfl,rfl,[],rfl⟩,by simp⟩,[],rfl,rfl,by push_cast -dsimp [zb,za,CLe,ze],by push_cast -dsimp [zb,za,CLe,ze,zU]⟩
    ·push_cast -dsimp
     have hk0:40-n=(39-n)+1:=by omega
     have hk1:40-(n+1)=39-n:=by omega
     rw[hk0,XL,if_neg (by rw[q2];simp)]at hon
     have hnl:=zS (zf (zC nm (zf s.ino f.xs).es) f.xs).data
     exact ⟨(zg (zf (zC nm (zf s.ino f.xs).es) f.xs).data++rest,⟨0,[],if X1 (zf (zC nm (zf s.ino f.xs).es) f.xs).data then 1 else (zf s.ino f.xs).ino⟩,dir||(qo (zf (zC nm (zf s.ino f.xs).es) f.xs).data&&decide (rest = [])),n+1),⟨by dsimp only;rw[hk1];exact hon,by dsimp only;omega,by dsimp only;rw[List.length_append];omega,fun _=>by
      dsimp only
      split
      ·exact hf.root
      ·rw[hgs.2.2];exact hh⟩,by dsimp only;rw[List.length_append];omega,wk⟩
end
section
open CA CB
open Go.RowKit
theorem Nl (f:FsV) (hf:FsI f) (hr:FsR f) (hs:FsS f) (hd:∀ x∈f.xs,x.kind=3->x.data.length<=1000) (b p:List UInt8) (fol:Bool) (hb:b.length<=100000) (hp:p.length<=3000):Fun Tryz.prog G0 57 [.agg (fsC f),.str b,.str p,.sc (.bool fol)] (.tup [.agg (jI (zH f b p fol).1),.sc (.int .i64 (zH f b p fol).2)]) 0:=by
 have hlo:=Hb p (by omega)
 have hns:=zS p
 have bad:∀ e:Int,e≠0->zH f b p fol=(zU,e)->Fun Tryz.prog G0 104 [.agg (fsC f),.str b,.str p,.sc (.bool fol)] (.tup [.any,.sc (.int .i64 e)]) 0->Fun Tryz.prog G0 57 [.agg (fsC f),.str b,.str p,.sc (.bool fol)] (.tup [.agg (jI (zH f b p fol).1),.sc (.int .i64 (zH f b p fol).2)]) 0:=fun e he hv hb=>by
  refine fon Tryz.func57 ?_;dsimp only[Tryz.f57]
  push_cast -dsimp
  refine cl (hb) ?_;push_cast -dsimp [he]
  exact dn (by push_cast -dsimp [zb,za,CLe,ze,hv,zU])
 by_cases h1:p = []
 ·subst h1
  refine bad 1 (by decide) (by unfold zH;rw[if_pos rfl]) ?_
  refine fon Tryz.func104 ?_;dsimp only[Tryz.f104]
  push_cast -dsimp
  exact dn (by push_cast -dsimp [zb,za,CLe,ze])
 have h1':=eq_false h1
 cases h2:J0 p with
 | true =>
  rw[h2]at hlo
  refine bad 7 (by decide) (by unfold zH;rw[if_neg h1,if_pos h2]) ?_
  refine fon Tryz.func104 ?_;dsimp only[Tryz.f104]
  push_cast -dsimp [h1']
  refine cl (hlo) ?_;push_cast -dsimp
  exact dn (by push_cast -dsimp [zb,za,CLe,ze])
 | false =>
 rw[h2]at hlo
 have hre:Fun Tryz.prog G0 107 [.str p] (.agg [qe (X1 p),.own 0 9 1 (zx (zg p)),qe (qo p)]) 1:=Z8 p (by omega)
 have good:∀ h:Int,zH f b p fol=onN f fol 40 (zg p) ⟨0,[],h⟩ (qo p)->(h≠0->zw h f.xs=true)->Y1 Tryz.prog G0 104 [.agg (fsC f),.str b,.str p,.sc (.bool fol)] [] 0 (fun r bx m=>m=0/\r = .tup [.ptr 2 0,.sc (.int .i64 0)]/\bx = [[.any,.any,.any,.any],[.any,.any,.any],ziY f fol (qo p) (zg p) ⟨0,[],h⟩ (0:Nat)])->Fun Tryz.prog G0 57 [.agg (fsC f),.str b,.str p,.sc (.bool fol)] (.tup [.agg (jI (zH f b p fol).1),.sc (.int .i64 (zH f b p fol).2)]) 0:=fun h hv hh hbg=>by
  have hgo:=zdv f hf hr hs fol (qo p) (zg p) ⟨0,[],h⟩ (by omega) hd hh _ hv.symm
  refine fon Tryz.func57 ?_;dsimp only[Tryz.f57]
  push_cast -dsimp
  refine YF [] [] hbg rfl (by decide) (by decide) (by simp) (by push_cast -dsimp) rfl (fun r bx' m hp=>?_)
  obtain ⟨rfl,rfl,rfl⟩:=hp
  push_cast -dsimp
  refine YF [4] [] hgo rfl (by decide) (by decide) (by simp) (by push_cast -dsimp) rfl (fun r bx' m hp=>?_)
  obtain ⟨rfl,rfl,X,rfl⟩:=hp
  push_cast -dsimp
  exact dn (by push_cast -dsimp [zb,za,CLe,ze])
 cases h3:X1 p with
 | true =>
  rw[h3]at hre
  refine good 1 (by unfold zH;rw[if_neg h1,if_neg (by rw[h2];decide),if_pos h3]) (fun _=>hf.root) ?_
  refine foX (fun _=>[]) Tryz.func104 ?_;dsimp only[Tryz.f104]
  push_cast -dsimp [h1']
  refine cl (hlo) ?_;push_cast -dsimp
  refine cl (hre) ?_;push_cast -dsimp
  exact ⟨_,[_,_,_],0,⟨⟨rfl,rfl,rfl⟩,Nat.zero_le _⟩,[],rfl,rfl,by push_cast -dsimp [zb,za,CLe,ze],by push_cast -dsimp [zb,za,CLe,ze]⟩
 | false =>
  rw[h3]at hre
  have hh:=zfv f hf hs b hb
  by_cases h4:(jS f b).2=0
  ·rw[h4]at hh
   refine good (jS f b).1 (by unfold zH;rw[if_neg h1,if_neg (by rw[h2];decide),if_neg (by rw[h3];decide),if_neg (fun q=>q h4)]) (fun hne=>?_) ?_
   ·unfold jS at hne h4 ⊢
    split at hne
    ·exact absurd rfl hne
    rename_i c1
    rw[if_neg c1]at h4 ⊢
    split at hne
    ·exact absurd rfl hne
    rename_i c2
    rw[if_neg c2]at h4 ⊢
    split at hne
    ·exact absurd rfl hne
    rename_i c3
    rw[if_neg c3]
    have q:=XH (Classical.not_not.1 c3)
    rw[(zq q).2.2]
    exact q
   ·refine foX (fun _=>[]) Tryz.func104 ?_;dsimp only[Tryz.f104]
    push_cast -dsimp [h1']
    refine cl (hlo) ?_;push_cast -dsimp
    refine cl (hre) ?_;push_cast -dsimp
    refine cl (hh) ?_;push_cast -dsimp
    exact ⟨_,[_,_,_],0,⟨⟨rfl,rfl,rfl⟩,Nat.zero_le _⟩,[],rfl,rfl,by push_cast -dsimp [zb,za,CLe,ze],by push_cast -dsimp [zb,za,CLe,ze]⟩
  ·refine bad _ h4 (by unfold zH;rw[if_neg h1,if_neg (by rw[h2];decide),if_neg (by rw[h3];decide),if_pos h4]) ?_
   refine fon Tryz.func104 ?_;dsimp only[Tryz.f104]
   push_cast -dsimp [h1']
   refine cl (hlo) ?_;push_cast -dsimp
   refine cl (hre) ?_;push_cast -dsimp
   refine cl (hh) ?_;push_cast -dsimp [h4]
   exact dn (by push_cast -dsimp [zb,za,CLe,ze])
end
section
open CA CB
open Go.RowKit QuotePlain
abbrev u8C (b:UInt8):C:=.sc (.int .u8 (b.toNat:Int))
theorem H4 (l:List UInt8) (c:UInt8):(Lib.indexByte l c<0)↔c∉l:=by
 constructor
 ·intro h hc
  have h1:=Lib.indexByte_ge l c
  obtain ⟨k,hk,e⟩:=List.getElem_of_mem hc
  exact Lib.indexByte_none (show Lib.indexByte l c = -1 by omega) k (by rw[List.getElem?_eq_getElem hk,e])
 ·intro h
  rcases Int.lt_or_le (Lib.indexByte l c) 0 with h1 | h1
  ·exact h1
  ·obtain ⟨o,ho⟩:∃ o:Nat,Lib.indexByte l c=o:=⟨(Lib.indexByte l c).toNat,by omega⟩
   obtain ⟨h2,_⟩:=Lib.indexByte_some ho
   exact absurd (List.mem_of_getElem? h2) h
theorem ZL (s:List UInt8) (c:UInt8) (hs:s.length<=1000000):Fun Tryz.prog G0 37 [.str s,u8C c] (.sc (.bool (decide (c∈s)))) 0:=by
 refine fon Tryz.func37 ?_;dsimp only[Tryz.f37]
 push_cast -dsimp
 refine loop (fun k:Nat=>⟨[(0,.str s),(1,u8C c),(5,.sc (.int .i64 k))],[],0,0⟩) (fun k=>k<=s.length/\c∉s.take k) (fun k=>s.length-k) 0 ⟨Nat.zero_le _,by simp⟩ ?_ ?_
 ·exact wk
 ·rintro k ⟨hk,hn⟩
  push_cast -dsimp
  refine br (fun h=>?_) (fun h=>?_)
  ·have hk2:k<s.length:=by simp at h;omega
   have hg:s[k]?=some s[k]:=List.getElem?_eq_getElem hk2
   push_cast -dsimp [hg]
   refine ⟨by omega,br (fun h2=>?_) (fun h2=>?_)⟩
   ·push_cast -dsimp
    have h3:s[k]=c:=by simp at h2;exact UInt8.toNat_inj.1 (by omega)
    have h4:c∈s:=h3▸List.getElem_mem hk2
    exact dn (by push_cast -dsimp [zb,za,CLe,ze,h4])
   ·push_cast -dsimp
    have h3:¬c=s[k]:=fun e=>by subst e;simp at h2
    refine ⟨by omega,k+1,⟨by omega,?_⟩,by omega,wk⟩
    intro h4
    rw[List.take_add_one,hg]at h4
    rcases List.mem_append.1 h4 with h5 | h5
    ·exact hn h5
    ·simp at h5;exact h3 h5
  ·have hk2:k=s.length:=by simp at h;omega
   subst hk2
   rw[List.take_length]at hn
   push_cast -dsimp
   exact dn (by push_cast -dsimp [zb,za,CLe,ze,hn])
theorem zjU (k:Int) (o:List UInt8) (ops:C) (c:UInt8) (hops:ops.cellB=true):Fun Tryz.prog G0 34 [.agg [.sc (.int .i64 k),.str o,ops],u8C c] (.sc (.bool (decide (c∈o)))) 0:=by
 refine fon Tryz.func34 ?_;dsimp only[Tryz.f34]
 push_cast -dsimp [hops]
 refine cl (Qq o c) ?_;push_cast -dsimp
 have e:decide (0<=Lib.indexByte o c)=decide (c∈o):=by
  have:=H4 o c
  by_cases h:c∈o
  ·have h2:¬Lib.indexByte o c<0:=fun h3=>this.1 h3 h
   simp[h];omega
  ·have h2:=this.2 h
   simp[h];omega
 exact dn (by push_cast -dsimp [zb,za,CLe,ze,e])
theorem zpG (c d:UInt8):((c.toNat:Int)=(d.toNat:Int))=(c=d):=by
 refine propext ⟨fun h=>UInt8.toNat_inj.1 (by omega),fun h=>by rw[h]⟩
def Xn (s p:List UInt8):UInt8:=s.foldl (fun c b=>if b∈p then b else c) 0
theorem kf (s p:List UInt8) (i:Nat) (hi:i<s.length):Xn (s.take (i+1)) p=if s[i]∈p then s[i] else Xn (s.take i) p:=by
 unfold Xn
 rw[List.take_add_one,List.getElem?_eq_getElem hi,List.foldl_append]
 simp
theorem Mv (s p:List UInt8) (hs:s.length<=1000000) (hp:p.length<=1000000):Fun Tryz.prog G0 119 [.str s,.str p] (u8C (Xn s p)) 0:=by
 refine fon Tryz.func119 ?_;dsimp only[Tryz.f119]
 push_cast -dsimp
 refine loop (fun k:Nat=>⟨[(0,.str s),(1,.str p),(5,u8C (Xn (s.take k) p)),(6,.sc (.int .i64 k))],[],0,0⟩) (fun k=>k<=s.length) (fun k=>s.length-k) 0 (Nat.zero_le _) ?_ ?_
 ·exact j8.mk [] rfl rfl (Nat.le_refl _) rfl (by push_cast -dsimp [zb,za,CLe,ze]<;>rfl) (by push_cast -dsimp [zb,za,CLe,ze])
 ·rintro k hk
  push_cast -dsimp
  refine br (fun h=>?_) (fun h=>?_)
  ·have hk2:k<s.length:=by simp at h;omega
   have hg:s[k]?=some s[k]:=List.getElem?_eq_getElem hk2
   push_cast -dsimp [hg]
   refine ⟨by omega,?_⟩
   refine cl (ZL p s[k] hp) ?_;push_cast -dsimp
   refine br (fun h2=>?_) (fun h2=>?_)
   ·push_cast -dsimp [hg]
    have e:Xn (s.take (k+1)) p=s[k]:=by rw[kf s p k hk2,if_pos (by simpa using h2)]
    refine ⟨by omega,by omega,k+1,by omega,by omega,wk (by push_cast -dsimp [zb,za,CLe,ze,e])⟩
   ·push_cast -dsimp [hg]
    have e:Xn (s.take (k+1)) p=Xn (s.take k) p:=by rw[kf s p k hk2,if_neg (by simpa using h2)]
    refine ⟨by omega,k+1,by omega,by omega,wk (by push_cast -dsimp [zb,za,CLe,ze,e])⟩
  ·have hk2:k=s.length:=by simp at h;omega
   subst hk2
   rw[List.take_length]
   push_cast -dsimp
   exact dn
def isO (k:Int) (s:List UInt8) (x:UInt8):Bool:=if 4<=k/\(x=102∨x=110) then decide (Xn s [102,110]=x) else if x=114 then decide (114∈s∨82∈s) else if x=82 then false else decide (x∈s)
def Yc (k:Int) (s:List UInt8) (n:Nat):List UInt8:=((List.range' 65 n).map UInt8.ofNat).filter (isO k s)
theorem yH (k:Int) (s:List UInt8) (hs:s.length<=1000000):Fun Tryz.prog G0 69 [.sc (.int .i64 k),.str s] (.str (Yc k s 58)) 0:=by
 refine fon Tryz.func69 ?_;dsimp only[Tryz.f69]
 push_cast -dsimp
 refine loop (fun j:Nat=>⟨[(0,.sc (.int .i64 k)),(1,.str s),(5,.str (Yc k s j)),(6,.sc (.int .i64 (65+j)))],[],0,0⟩) (fun j=>j<=58) (fun j=>58-j) 0 (Nat.zero_le _) ?_ ?_
 ·exact j8.mk [] rfl rfl (Nat.le_refl _) rfl (by push_cast -dsimp [zb,za,CLe,ze]<;>rfl) (by push_cast -dsimp [zb,za,CLe,ze])
 ·rintro j hj
  push_cast -dsimp
  refine br (fun h=>?_) (fun h=>?_)
  ·have hj2:j<58:=by simp at h;omega
   obtain ⟨x,hxe,hx⟩:∃ x:UInt8,UInt8.ofNat (65+j)=x/\(65+(j:Int))=(x.toNat:Int):=⟨_,rfl,by rw[UInt8.toNat_ofNat_of_lt' (by show 65+j<256;omega)];omega⟩
   have hx1:65+((j:Int)+1)=(x.toNat:Int)+1:=by omega
   have hxb:(x.toNat:Int)<123:=by omega
   have hstep:Yc k s (j+1)=Yc k s j++if isO k s x then [x] else []:=by
    unfold Yc
    rw[List.range'_concat,List.map_append,List.filter_append]
    simp only[List.map_cons,List.map_nil,Nat.one_mul,hxe,List.filter_cons,List.filter_nil]
   have hlo:(Yc k s j).length<=j:=Nat.le_trans (List.length_filter_le _ _) (by simp)
   have hI:∀ (n:Nat) (d:UInt8),d.toNat=n->((x.toNat:Int)=(n:Int))=(x=d):=fun n d h=>h▸zpG x d
   have hcase:(x=82)∨(x=114)∨(x≠82/\x≠114/\¬4<=k)∨(x=102/\4<=k)∨(x=110/\4<=k)∨(x≠82/\x≠114/\4<=k/\x≠102/\x≠110):=by
    by_cases h1:x=82
    ·exact .inl h1
    ·by_cases h2:x=114
     ·exact .inr (.inl h2)
     ·by_cases h3:4<=k
      ·by_cases h4:x=102
       ·exact .inr (.inr (.inr (.inl ⟨h4,h3⟩)))
       ·by_cases h5:x=110
        ·exact .inr (.inr (.inr (.inr (.inl ⟨h5,h3⟩))))
        ·exact .inr (.inr (.inr (.inr (.inr ⟨h1,h2,h3,h4,h5⟩))))
      ·exact .inr (.inr (.inl ⟨h1,h2,h3⟩))
   clear hxe
   rw[hx]
   push_cast -dsimp
   refine ⟨by omega,?_⟩
   refine cl (ZL s x hs) ?_;push_cast -dsimp
   rcases hcase with hc | hc | hc | hc | hc | hc
   ·have f0:isO k s x=false:=by simp[isO,hc]
    have e:Yc k s (j+1)=Yc k s j:=by rw[hstep,f0];simp
    have f1:((x.toNat:Int)=82)=True:=(hI 82 82 rfl).trans (by simp[hc])
    have f2:((x.toNat:Int)=114)=False:=(hI 114 114 rfl).trans (by simp[hc])
    have f3:((x.toNat:Int)=102)=False:=(hI 102 102 rfl).trans (by simp[hc])
    have f4:((x.toNat:Int)=110)=False:=(hI 110 110 rfl).trans (by simp[hc])
    by_cases h4:4<=k
    all_goals
     push_cast -dsimp [f1,f2,f3,f4,h4]
     repeat (refine And.intro (by omega) ?_)
     refine ⟨j+1,by omega,by omega,wk (by push_cast -dsimp [zb,za,CLe,ze,e,hx1])⟩
   ·have f0:isO k s x=decide (114∈s∨82∈s):=by simp[isO,hc]
    have f1:((x.toNat:Int)=82)=False:=(hI 82 82 rfl).trans (by simp[hc])
    have f2:((x.toNat:Int)=114)=True:=(hI 114 114 rfl).trans (by simp[hc])
    have f3:((x.toNat:Int)=102)=False:=(hI 102 102 rfl).trans (by simp[hc])
    have f4:((x.toNat:Int)=110)=False:=(hI 110 110 rfl).trans (by simp[hc])
    push_cast -dsimp [f1,f2,f3,f4]
    refine cl (ZL s 114 hs) ?_;push_cast -dsimp
    by_cases h6:114∈s
    ·push_cast -dsimp [h6]
     have e:Yc k s (j+1)=Yc k s j++[x]:=by rw[hstep,f0];simp[h6]
     by_cases h4:4<=k
     all_goals
      push_cast -dsimp [f1,f2,f3,f4,h4]
      refine ⟨[x],rfl,?_⟩
      push_cast -dsimp
      repeat (refine And.intro (by omega) ?_)
      refine ⟨j+1,by omega,by omega,wk (by push_cast -dsimp [zb,za,CLe,ze,e,hx1])⟩
    ·push_cast -dsimp [h6]
     refine cl (ZL s 82 hs) ?_;push_cast -dsimp
     by_cases h7:82∈s
     ·have e:Yc k s (j+1)=Yc k s j++[x]:=by rw[hstep,f0];simp[h7]
      by_cases h4:4<=k
      all_goals
       push_cast -dsimp [f1,f2,f3,f4,h4,h7]
       refine ⟨[x],rfl,?_⟩
       push_cast -dsimp
       repeat (refine And.intro (by omega) ?_)
       refine ⟨j+1,by omega,by omega,wk (by push_cast -dsimp [zb,za,CLe,ze,e,hx1])⟩
     ·have e:Yc k s (j+1)=Yc k s j:=by rw[hstep,f0];simp[h6,h7]
      by_cases h4:4<=k
      all_goals
       push_cast -dsimp [f1,f2,f3,f4,h4,h7]
       repeat (refine And.intro (by omega) ?_)
       refine ⟨j+1,by omega,by omega,wk (by push_cast -dsimp [zb,za,CLe,ze,e,hx1])⟩
   ·have f0:isO k s x=decide (x∈s):=by simp[isO,hc]
    have h4:¬4<=k:=hc.2.2
    have f1:((x.toNat:Int)=82)=False:=(hI 82 82 rfl).trans (by simp[hc])
    have f2:((x.toNat:Int)=114)=False:=(hI 114 114 rfl).trans (by simp[hc])
    by_cases h6:x∈s
    ·have e:Yc k s (j+1)=Yc k s j++[x]:=by rw[hstep,f0];simp[h6]
     push_cast -dsimp [f1,f2,h4,h6]
     refine ⟨[x],rfl,?_⟩
     push_cast -dsimp
     repeat (refine And.intro (by omega) ?_)
     refine ⟨j+1,by omega,by omega,wk (by push_cast -dsimp [zb,za,CLe,ze,e,hx1])⟩
    ·have e:Yc k s (j+1)=Yc k s j:=by rw[hstep,f0];simp[h6]
     push_cast -dsimp [f1,f2,h4,h6]
     repeat (refine And.intro (by omega) ?_)
     refine ⟨j+1,by omega,by omega,wk (by push_cast -dsimp [zb,za,CLe,ze,e,hx1])⟩
   ·have f0:isO k s x=decide (Xn s [102,110]=x):=by simp[isO,hc]
    have h4:4<=k:=hc.2
    have f1:((x.toNat:Int)=82)=False:=(hI 82 82 rfl).trans (by simp[hc])
    have f2:((x.toNat:Int)=114)=False:=(hI 114 114 rfl).trans (by simp[hc])
    have f3:((x.toNat:Int)=102)=True:=(hI 102 102 rfl).trans (by simp[hc])
    have f4:((x.toNat:Int)=110)=False:=(hI 110 110 rfl).trans (by simp[hc])
    push_cast -dsimp [f1,f2,f3,f4,h4]
    refine cl (Mv s [102,110] hs (by simp)) ?_;push_cast -dsimp
    by_cases h6:Xn s [102,110]=x
    ·have g6:((Xn s [102,110]).toNat=x.toNat)=True:=by simp[h6]
     have e:Yc k s (j+1)=Yc k s j++[x]:=by rw[hstep,f0];simp[h6]
     push_cast -dsimp [g6]
     refine ⟨[x],rfl,?_⟩
     push_cast -dsimp
     repeat (refine And.intro (by omega) ?_)
     refine ⟨j+1,by omega,by omega,wk (by push_cast -dsimp [zb,za,CLe,ze,e,hx1])⟩
    ·have g6:((Xn s [102,110]).toNat=x.toNat)=False:=by simp[UInt8.toNat_inj,h6]
     have e:Yc k s (j+1)=Yc k s j:=by rw[hstep,f0];simp[h6]
     push_cast -dsimp [g6]
     repeat (refine And.intro (by omega) ?_)
     refine ⟨j+1,by omega,by omega,wk (by push_cast -dsimp [zb,za,CLe,ze,e,hx1])⟩
   ·have f0:isO k s x=decide (Xn s [102,110]=x):=by simp[isO,hc]
    have h4:4<=k:=hc.2
    have f1:((x.toNat:Int)=82)=False:=(hI 82 82 rfl).trans (by simp[hc])
    have f2:((x.toNat:Int)=114)=False:=(hI 114 114 rfl).trans (by simp[hc])
    have f3:((x.toNat:Int)=102)=False:=(hI 102 102 rfl).trans (by simp[hc])
    have f4:((x.toNat:Int)=110)=True:=(hI 110 110 rfl).trans (by simp[hc])
    push_cast -dsimp [f1,f2,f3,f4,h4]
    refine cl (Mv s [102,110] hs (by simp)) ?_;push_cast -dsimp
    by_cases h6:Xn s [102,110]=x
    ·have g6:((Xn s [102,110]).toNat=x.toNat)=True:=by simp[h6]
     have e:Yc k s (j+1)=Yc k s j++[x]:=by rw[hstep,f0];simp[h6]
     push_cast -dsimp [g6]
     refine ⟨[x],rfl,?_⟩
     push_cast -dsimp
     repeat (refine And.intro (by omega) ?_)
     refine ⟨j+1,by omega,by omega,wk (by push_cast -dsimp [zb,za,CLe,ze,e,hx1])⟩
    ·have g6:((Xn s [102,110]).toNat=x.toNat)=False:=by simp[UInt8.toNat_inj,h6]
     have e:Yc k s (j+1)=Yc k s j:=by rw[hstep,f0];simp[h6]
     push_cast -dsimp [g6]
     repeat (refine And.intro (by omega) ?_)
     refine ⟨j+1,by omega,by omega,wk (by push_cast -dsimp [zb,za,CLe,ze,e,hx1])⟩
   ·have f0:isO k s x=decide (x∈s):=by simp[isO,hc]
    have h4:4<=k:=hc.2.2.1
    have f1:((x.toNat:Int)=82)=False:=(hI 82 82 rfl).trans (by simp[hc])
    have f2:((x.toNat:Int)=114)=False:=(hI 114 114 rfl).trans (by simp[hc])
    have f3:((x.toNat:Int)=102)=False:=(hI 102 102 rfl).trans (by simp[hc])
    have f4:((x.toNat:Int)=110)=False:=(hI 110 110 rfl).trans (by simp[hc])
    by_cases h6:x∈s
    ·have e:Yc k s (j+1)=Yc k s j++[x]:=by rw[hstep,f0];simp[h6]
     push_cast -dsimp [f1,f2,f3,f4,h4,h6]
     refine ⟨[x],rfl,?_⟩
     push_cast -dsimp
     repeat (refine And.intro (by omega) ?_)
     refine ⟨j+1,by omega,by omega,wk (by push_cast -dsimp [zb,za,CLe,ze,e,hx1])⟩
    ·have e:Yc k s (j+1)=Yc k s j:=by rw[hstep,f0];simp[h6]
     push_cast -dsimp [f1,f2,f3,f4,h4,h6]
     repeat (refine And.intro (by omega) ?_)
     refine ⟨j+1,by omega,by omega,wk (by push_cast -dsimp [zb,za,CLe,ze,e,hx1])⟩
  ·have hj2:j=58:=by simp at h;omega
   subst hj2
   push_cast -dsimp
   exact dn
abbrev Acc:=List UInt8->UInt8->List UInt8
def JZ (all:List UInt8) (f:Acc):List UInt8->List UInt8->List UInt8×List UInt8
 | a,[]=>(a,[])
 | a,c :: r=>if c∈all then JZ all f (f a c) r else (a,[c])
def qn (all:List UInt8) (f:Acc):List UInt8->Nat->List (List UInt8)->List UInt8×Nat×List UInt8
 | a,n,[]=>(a,n,[])
 | a,n,w :: r=>if w = [45,45] then (a,n+1,[]) else if w.length<2∨w[0]?≠some 45 then (a,n,[]) else
   if (JZ all f a w.tail).2 = [] then qn all f (JZ all f a w.tail).1 (n+1) r else ((JZ all f a w.tail).1,n,(JZ all f a w.tail).2)
def ZU (k:Int):List UInt8:=if k=1 then [112] else if k=2 then [100,102,114,82] else if k=3 then [102,110,115,84] else if k=4 then [102,110,84] else if k=5 then [102,110,114,82,80,84] else []
abbrev Yf:Acc:=fun s c=>s++[c]
theorem zah {all:List UInt8} {f:Acc} {a w:List UInt8} {i:Nat} (hi:i<w.length):JZ all f a (w.drop i)=if w[i]∈all then JZ all f (f a w[i]) (w.drop (i+1)) else (a,[w[i]]):=by
 rw[List.drop_eq_getElem_cons hi,JZ]
theorem Gd {all:List UInt8} {f:Acc} {a:List UInt8} {l:List (List UInt8)} {n:Nat} (hn:n<l.length):qn all f a n (l.drop n)=if l[n] = [45,45] then (a,n+1,[]) else if l[n].length<2∨l[n][0]?≠some 45 then (a,n,[]) else
   if (JZ all f a l[n].tail).2 = [] then qn all f (JZ all f a l[n].tail).1 (n+1) (l.drop (n+1)) else ((JZ all f a l[n].tail).1,n,(JZ all f a l[n].tail).2):=by
 rw[List.drop_eq_getElem_cons hn,qn]
theorem zjo {w:List UInt8} {i:Nat} (hi:i<w.length):(w.take (i+1)).drop i = [w[i]]:=by
 rw[List.take_add_one,List.getElem?_eq_getElem hi]
 exact List.drop_left' (by rw[List.length_take];omega)
theorem xq (k:Int) (l:List (List UInt8)) (hk:k=1∨k=2∨k=3∨k=4∨k=5) (hl:l.length<=100) (hs:∀ x∈l,x.length<=1000) :
  Fun Tryz.prog G0 68 [.sc (.int .i64 k),.sl 1 (zx l)] (.tup [.str (qn (ZU k) Yf [] 0 l).1,.sc (.int .i64 (qn (ZU k) Yf [] 0 l).2.1),.str (qn (ZU k) Yf [] 0 l).2.2]) 0:=by
 obtain ⟨A,hA⟩:∃ A,ZU k=A:=⟨_,rfl⟩
 have hall:A.length<=1000000:=by
  subst hA
  rcases hk with rfl | rfl | rfl | rfl | rfl<;>decide
 rw[hA]
 refine fon Tryz.func68 ?_;dsimp only[Tryz.f68]
 rcases hk with rfl | rfl | rfl | rfl | rfl
 case' inl=>have e:A = [112]:=hA.symm.trans rfl
 case' inr.inl=>have e:A = [100,102,114,82]:=hA.symm.trans rfl
 case' inr.inr.inl=>have e:A = [102,110,115,84]:=hA.symm.trans rfl
 case' inr.inr.inr.inl=>have e:A = [102,110,84]:=hA.symm.trans rfl
 case' inr.inr.inr.inr=>have e:A = [102,110,114,82,80,84]:=hA.symm.trans rfl
 all_goals
  push_cast -dsimp
  refine loop (fun p:Nat×List UInt8=>⟨[(1,.sl 1 (zx l)),(7,.str A),(8,.str p.2),(9,.sc (.int .i64 p.1))],[],0,0⟩) (fun p=>p.1<=l.length/\qn A Yf [] 0 l=qn A Yf p.2 p.1 (l.drop p.1)/\p.2.length<=1000*p.1) (fun p=>l.length-p.1) (0,[]) ⟨Nat.zero_le _,rfl,Nat.zero_le _⟩ ?_ ?_
  ·exact wk (by push_cast -dsimp [zb,za,CLe,ze,e])
  ·clear e hA
   rintro ⟨n,s⟩ ⟨hn,hq,hsl⟩
   dsimp only at hn hq hsl ⊢
   by_cases h:n<l.length
   ·have hg:=X4 l n h
    have hlw:=hs l[n] (List.getElem_mem h)
    have hstep:=Gd (all:=A) (f:=Yf) (a:=s) h
    generalize hw:l[n]=w at hg hlw hstep
    by_cases h45:w = [45,45]
    ·rw[if_pos h45]at hstep
     have hr:=hq.trans hstep
     push_cast -dsimp [h,hg,h45]
     repeat refine an ?_
     exact dn (by push_cast -dsimp [zb,za,CLe,ze,hr])
    ·rw[if_neg h45]at hstep
     by_cases h2:w.length<2
     ·rw[if_pos (.inl h2)]at hstep
      have hr:=hq.trans hstep
      have h2':((w.length:Int)<2)=True:=eq_true (by omega)
      push_cast -dsimp [h,hg,h45,h2']
      repeat refine an ?_
      exact dn (by push_cast -dsimp [zb,za,CLe,ze,hr])
     ·have h2':((w.length:Int)<2)=False:=eq_false (by omega)
      have h0:w[0]?=some w[0]:=List.getElem?_eq_getElem (by omega)
      by_cases h3:w[0]=45
      ·have h3':((w[0].toNat:Int)=45)=True:=eq_true (by rw[h3];rfl)
       rw[if_neg (by rw[h0,h3];simp;omega)]at hstep
       push_cast -dsimp [h,hg,h45,h2',h0,h3']
       repeat refine an ?_
       refine loop (fun q:Nat×List UInt8=>⟨[(1,.sl 1 (zx l)),(7,.str A),(8,.str q.2),(9,.sc (.int .i64 n)),(10,.sc (.int .i64 q.1))],[],0,0⟩) (fun q=>1<=q.1/\q.1<=w.length/\JZ A Yf s w.tail=JZ A Yf q.2 (w.drop q.1)/\q.2.length+1<=1000*n+q.1) (fun q=>w.length-q.1) (1,s) ⟨Nat.le_refl _,by dsimp only;omega,by simp,by dsimp only;omega⟩ ?_ ?_
       ·exact wk
       ·rintro ⟨i,t⟩ ⟨hi1,hi2,hi3,hi4⟩
        dsimp only at hi1 hi2 hi3 hi4 ⊢
        by_cases hi:i<w.length
        ·have hgi:w[i]?=some w[i]:=List.getElem?_eq_getElem hi
         have hws:=zah (all:=A) (f:=Yf) (a:=t) hi
         push_cast -dsimp [h,hg,hi,hgi]
         repeat refine an ?_
         refine cl (ZL A w[i] hall) ?_;push_cast -dsimp
         by_cases hm:w[i]∈A
         ·rw[if_pos hm]at hws
          push_cast -dsimp [hm,hg,hgi]
          repeat refine an ?_
          refine ⟨(i+1,t++[w[i]]),⟨by omega,by dsimp only;omega,hi3.trans hws,by simp;omega⟩,by dsimp only;omega,wk (by push_cast -dsimp [zb,za,CLe,ze,zjo hi])⟩
         ·rw[if_neg hm]at hws
          rw[if_neg (by rw[hi3,hws];simp),hi3,hws]at hstep
          have hr:=hq.trans hstep
          push_cast -dsimp [hm,hg,hgi]
          repeat refine an ?_
          exact dn (by push_cast -dsimp [zb,za,CLe,ze,hr,zjo hi])
        ·have hil:i=w.length:=by omega
         rw[hil,List.drop_length,JZ]at hi3
         rw[if_pos (by rw[hi3]),hi3]at hstep
         push_cast -dsimp [h,hg,hi]
         repeat refine an ?_
         exact ⟨(n+1,t),⟨by dsimp only;omega,hq.trans hstep,by dsimp only;omega⟩,by dsimp only;omega,wk⟩
      ·have h3':((w[0].toNat:Int)=45)=False:=eq_false (fun hh=>h3 (UInt8.toNat_inj.1 (by show _=45;omega)))
       rw[if_pos (.inr (by rw[h0];simpa using h3))]at hstep
       have hr:=hq.trans hstep
       push_cast -dsimp [h,hg,h45,h2',h0,h3']
       repeat refine an ?_
       exact dn (by push_cast -dsimp [zb,za,CLe,ze,hr])
   ·have hkl:n=l.length:=by omega
    subst hkl
    have hr:=hq
    rw[List.drop_length,qn]at hr
    push_cast -dsimp [h]
    exact dn (by push_cast -dsimp [zb,za,CLe,ze,hr])
def zcO (k:Int):Nat:=if k=4∨k=5 then 2 else 1
def jW (k:Int) (o:List UInt8) (ops:List (List UInt8)):List UInt8:=
 if ops.length=0 then (if k=2/\102∈o then [] else [109,105,115,115,105,110,103,32,111,112,101,114,97,110,100])
 else if ops.length<(if 84∈o then 2 else zcO k) then [109,105,115,115,105,110,103,32,100,101,115,116,105,110,97,116,105,111,110,32,111,112,101,114,97,110,100,32,97,102,116,101,114,32]++zN (ops.getD (ops.length-1) [])
 else if 84∈o/\2<ops.length then [101,120,116,114,97,32,111,112,101,114,97,110,100,32]++zN (ops.getD 2 []) else []
theorem QJ (l:List UInt8):(zN l).length<=4*l.length+2:=by
 have:=QuoteWalk.mid_len l
 simp only[zN,List.length_cons,List.length_append,List.length_nil]
 omega
structure zmB where
 kind:Int
 opts:List UInt8
 operands:List (List UInt8)
def Jj (w:List UInt8):Nat->Int
 | 0=>0
 | j+1=>if jR ((j+1:Nat):Int)=w then ((j+1:Nat):Int) else Jj w j
def Y4:zmB:=⟨0,[],[]⟩
def j4 (kind:Int) (w:List UInt8) (q:List UInt8×Nat×List UInt8) (r:List (List UInt8)):zmB×List UInt8:=
 if q.2.2≠[] then (Y4,w++[58,32,105,110,118,97,108,105,100,32,111,112,116,105,111,110,32]++zN q.2.2)
 else if jW kind (Yc kind q.1 58) (r.drop q.2.1)≠[] then (Y4,w++[58,32]++jW kind (Yc kind q.1 58) (r.drop q.2.1))
 else (⟨kind,Yc kind q.1 58,r.drop q.2.1⟩,[])
def Y3:List (List UInt8)->zmB×List UInt8
 | []=>(Y4,[109,105,115,115,105,110,103,32,99,111,109,109,97,110,100])
 | w :: r=>if Jj w 5=0 then (Y4,zN w++[58,32,117,110,107,110,111,119,110,32,99,111,109,109,97,110,100])
  else j4 (Jj w 5) w (qn (ZU (Jj w 5)) Yf [] 0 r) r
theorem Nz (w:List UInt8):∀ j,0<=Jj w j/\Jj w j<=j
 | 0=>⟨Int.le_refl _,Int.le_refl _⟩
 | j+1=>by
  have:=Nz w j
  unfold Jj
  split<;>omega
theorem N5 (A:List UInt8) (f:Acc):∀ (w s:List UInt8),(JZ A f s w).2.length<=1
 | [],s=>Nat.zero_le _
 | c :: w,s=>by
  rw[JZ]
  split
  ·exact N5 A f w _
  ·exact Nat.le_refl _
theorem N3 (A:List UInt8):∀ (w s:List UInt8),(JZ A Yf s w).1.length<=s.length+w.length
 | [],s=>by simp[JZ]
 | c :: w,s=>by
  rw[JZ]
  split
  ·have h0:(Yf s c).length=s.length+1:=by simp
   have:=N3 A w (Yf s c);simp only[List.length_cons];omega
  ·simp only[List.length_cons];omega
theorem ZH (A:List UInt8):∀ (l:List (List UInt8)) (s:List UInt8) (n:Nat),(∀ x∈l,x.length<=1000)->(qn A Yf s n l).1.length<=s.length+1000*l.length/\(qn A Yf s n l).2.1<=n+l.length/\(qn A Yf s n l).2.2.length<=1
 | [],s,n,_=>by simp[qn]
 | w :: l,s,n,h=>by
  have hw:=h w (List.mem_cons_self ..)
  have h1:=N5 A Yf w.tail s
  have h2:=N3 A w.tail s
  have h3:w.tail.length<=1000:=by rw[List.length_tail];omega
  have ih:=ZH A l (JZ A Yf s w.tail).1 (n+1) fun x hx=>h x (List.mem_cons_of_mem _ hx)
  rw[qn]
  simp only[List.length_cons]
  split
  ·simp only[List.length_nil];omega
  ·split
   ·simp only[List.length_nil];omega
   ·split
    ·omega
    ·dsimp only;omega
abbrev zqU (c:zmB):C:=.agg [.sc (.int .i64 c.kind),.str c.opts,.own 0 9 1 (zx c.operands)]
theorem zcx (l:List (List UInt8)) (hl:l.length<=100) (hs:∀ x∈l,x.length<=1000) :
  Fun Tryz.prog G0 31 [.sl 1 (zx l)] (.tup [zqU (Y3 l).1,.str (Y3 l).2]) 1:=by
 refine fof (fun i=>if i=15 then [false,false,false,false,false,false,true,false,true] else []) Tryz.func31 ?_;dsimp only[Tryz.f31]
 rcases l with _ | ⟨w,r⟩
 ·push_cast -dsimp [zx,List.map_nil,List.length_nil]
  exact ⟨[.inr (9,1)],rfl,rfl,by push_cast -dsimp [zb,za,CLe,ze,Y3,Y4]<;>rfl⟩
 ·have hlr:r.length<=99:=by simp at hl;omega
  have hw:=hs w (List.mem_cons_self ..)
  have hsr:∀ x∈r,x.length<=1000:=fun x hx=>hs x (List.mem_cons_of_mem _ hx)
  have hsC:zx (w :: r) = [.str w] :: zx r:=rfl
  have hp0:((r.length:Int)+1=0)=False:=eq_false (by omega)
  rw[hsC]
  push_cast -dsimp [hp0]
  refine loop (fun j:Nat=>⟨[(0,.sl 1 ([.str w] :: zx r)),(2,.ptr 0 0),(4,.sc (.int .i64 (Jj w j))),(5,.sc (.int .i64 ((j:Int)+1)))],[[.sc (.int .i64 0),.str [],.sc (.slice none 0 0)]],0,0⟩) (fun j=>j<=5) (fun j=>5-j) 0 (Nat.zero_le _) ?_ ?_
  ·exact wk (by push_cast -dsimp [zb,za,CLe,ze,Jj])
  ·rintro j hj
   by_cases h:j<5
   ·have hp1:((j:Int)+1<=5)=True:=eq_true (by omega)
    push_cast -dsimp [hp1]
    refine cl (VR ((j:Int)+1)) ?_;push_cast -dsimp
    have hku:Jj w (j+1)=if jR ((j:Int)+1)=w then (j:Int)+1 else Jj w j:=by simp[Jj]
    by_cases hm:jR ((j:Int)+1)=w
    ·rw[if_pos hm]at hku
     push_cast -dsimp [hm]
     repeat refine an ?_
     exact ⟨j+1,by omega,by omega,wk (by push_cast -dsimp [zb,za,CLe,ze,hku])⟩
    ·rw[if_neg hm]at hku
     push_cast -dsimp [hm]
     repeat refine an ?_
     exact ⟨j+1,by omega,by omega,wk (by push_cast -dsimp [zb,za,CLe,ze,hku])⟩
   ·have hp1:((j:Int)+1<=5)=False:=eq_false (by omega)
    have hj5:j=5:=by omega
    subst hj5
    have hkle:=Nz w 5
    have hrd:Y3 (w :: r)=if Jj w 5=0 then (Y4,zN w++[58,32,117,110,107,110,111,119,110,32,99,111,109,109,97,110,100]) else j4 (Jj w 5) w (qn (ZU (Jj w 5)) Yf [] 0 r) r:=rfl
    generalize Jj w 5=K at hkle hrd ⊢
    by_cases hK0:K=0
    ·rw[if_pos hK0]at hrd
     have hq:=QJ w
     push_cast -dsimp [hp1,hK0]
     refine cl (Jo w (by omega)) ?_;push_cast -dsimp
     repeat refine an ?_
     exact ⟨[.inr (9,1)],rfl,rfl,by push_cast -dsimp [zb,za,CLe,ze,hrd,Y4]<;>rfl⟩
    ·rw[if_neg hK0]at hrd
     have hkk:K=1∨K=2∨K=3∨K=4∨K=5:=by omega
     have hlet:=xq K r hkk (by omega) hsr
     have hbnd:=ZH (ZU K) r [] 0 hsr
     generalize qn (ZU K) Yf [] 0 r=q at hlet hbnd hrd ⊢
     obtain ⟨s,n,bad⟩:=q
     dsimp only at hlet hbnd
     push_cast -dsimp [hp1,hK0]
     repeat refine an ?_
     refine cl (hlet) ?_;push_cast -dsimp
     by_cases hbad:bad = []
     ·have hdr:List.drop (1+(n:Int)).toNat ([C.str w] :: zx r)=zx (r.drop n):=by
       rw[show (1+(n:Int)).toNat=n+1 by omega,List.drop_succ_cons];simp[zx]
      have hop:(r.drop n).length<=99:=by rw[List.length_drop];omega
      have hso:∀ x∈r.drop n,x.length<=1000:=fun x hx=>hsr x (List.mem_of_mem_drop hx)
      have hrt:j4 K w (s,n,bad) r=if jW K (Yc K s 58) (r.drop n)≠[] then (Y4,w++[58,32]++jW K (Yc K s 58) (r.drop n)) else (⟨K,Yc K s 58,r.drop n⟩,[]):=by
       unfold j4;rw[if_neg (by simpa using hbad)]
      rw[hrt]at hrd
      have h84:=ZL (Yc K s 58) 84 (by have:=List.length_filter_le (isO K s) ((List.range' 65 58).map UInt8.ofNat);simp at this;unfold Yc;omega)
      have h102:=ZL (Yc K s 58) 102 (by have:=List.length_filter_le (isO K s) ((List.range' 65 58).map UInt8.ofNat);simp at this;unfold Yc;omega)
      generalize r.drop n=ops at hop hso hrd hdr
      push_cast -dsimp [hbad]
      refine cl (yH K s (by simp at hbnd;omega)) ?_;push_cast -dsimp [hdr]
      generalize Yc K s 58=O at h84 h102 hrd ⊢
      repeat refine an ?_
      have hleast:zcO K=if 4<=K then 2 else 1:=by
       unfold zcO
       by_cases h4:4<=K
       ·rw[if_pos h4,if_pos (by omega)]
       ·rw[if_neg h4,if_neg (by omega)]
      rcases ops with _ | ⟨x,_ | ⟨y,_ | ⟨z,t⟩⟩⟩
      ·by_cases hK2:K=2/\102∈O
       ·have hwv:jW K O [] = []:=by simp[jW,hK2]
        have hr2:=hrd
        rw[hwv,if_neg (by simp)]at hr2
        have h4:¬4<=K:=by omega
        have hK2':=hK2.1
        have m102:=hK2.2
        by_cases m84:84∈O
        all_goals
         push_cast -dsimp [h4,zx,List.map_nil,List.map_cons,List.length_nil,List.length_cons]
         refine cl (h84) ?_;push_cast -dsimp [m84,hK2',zx,List.map_nil,List.map_cons,List.length_nil,List.length_cons]
         refine cl (h102) ?_;push_cast -dsimp [m102,zx,List.map_nil,List.map_cons,List.length_nil,List.length_cons]
         exact ⟨[.inl 0],rfl,rfl,by push_cast -dsimp [zb,za,CLe,ze,hr2,hK2',zx,List.map_nil,List.map_cons,List.length_nil,List.length_cons]⟩
       ·have hwv:jW K O [] = [109,105,115,115,105,110,103,32,111,112,101,114,97,110,100]:=by simp[jW,hK2]
        have hr2:=hrd
        rw[hwv,if_pos (by simp)]at hr2
        by_cases hK2':K=2
        ·have m102:102∉O:=fun h=>hK2 ⟨hK2',h⟩
         have h4:¬4<=K:=by omega
         by_cases m84:84∈O
         all_goals
          push_cast -dsimp [h4,zx,List.map_nil,List.map_cons,List.length_nil,List.length_cons]
          refine cl (h84) ?_;push_cast -dsimp [m84,hK2',zx,List.map_nil,List.map_cons,List.length_nil,List.length_cons]
          refine cl (h102) ?_;push_cast -dsimp [m102,zx,List.map_nil,List.map_cons,List.length_nil,List.length_cons]
          repeat refine an ?_
          exact ⟨[.inr (9,1)],rfl,rfl,by push_cast -dsimp [zb,za,CLe,ze,hr2,Y4,List.append_assoc,List.cons_append,List.nil_append]<;>rfl⟩
        ·by_cases h4:4<=K<;>by_cases m84:84∈O
         all_goals
          push_cast -dsimp [h4,hK2',zx,List.map_nil,List.map_cons,List.length_nil,List.length_cons]
          try refine cl (h84) ?_;push_cast -dsimp [m84,hK2',zx,List.map_nil,List.map_cons,List.length_nil,List.length_cons]
          repeat refine an ?_
          exact ⟨[.inr (9,1)],rfl,rfl,by push_cast -dsimp [zb,za,CLe,ze,hr2,Y4,List.append_assoc,List.cons_append,List.nil_append]<;>rfl⟩
      ·have hx:=hso x (by simp)
       have hqx:=QJ x
       by_cases hl2:4<=K∨84∈O
       ·have hwv:jW K O [x] = [109,105,115,115,105,110,103,32,100,101,115,116,105,110,97,116,105,111,110,32,111,112,101,114,97,110,100,32,97,102,116,101,114,32]++zN x:=by
         unfold jW
         rw[if_neg (by simp),if_pos (by rw[hleast];rcases hl2 with h | h<;>simp[h])];rfl
        have hr2:=hrd
        rw[hwv,if_pos (by simp)]at hr2
        have h3:(4<=K/\84∈O)∨(4<=K/\84∉O)∨(¬4<=K/\84∈O):=by
         by_cases a:4<=K<;>by_cases b:84∈O<;>simp[a,b]at hl2 ⊢
        rcases h3 with ⟨h4,m84⟩ | ⟨h4,m84⟩ | ⟨h4,m84⟩
        all_goals
         push_cast -dsimp [h4,zx,List.map_nil,List.map_cons,List.length_nil,List.length_cons]
         try refine cl (h84) ?_;push_cast -dsimp [m84,zx,List.map_nil,List.map_cons,List.length_nil,List.length_cons]
         repeat refine an ?_
         refine cl (Jo x (by omega)) ?_;push_cast -dsimp
         repeat refine an ?_
         exact ⟨[.inr (9,1)],rfl,rfl,by push_cast -dsimp [zb,za,CLe,ze,hr2,Y4,List.append_assoc,List.cons_append,List.nil_append]<;>rfl⟩
       ·have h4:¬4<=K:=fun h=>hl2 (.inl h)
        have m84:84∉O:=fun h=>hl2 (.inr h)
        have hwv:jW K O [x] = []:=by
         unfold jW
         rw[if_neg (by simp),hleast];simp[h4,m84]
        have hr2:=hrd
        rw[hwv,if_neg (by simp)]at hr2
        push_cast -dsimp [h4,zx,List.map_nil,List.map_cons,List.length_nil,List.length_cons]
        refine cl (h84) ?_;push_cast -dsimp [m84,zx,List.map_nil,List.map_cons,List.length_nil,List.length_cons]
        exact ⟨[.inl 0],rfl,rfl,by push_cast -dsimp [zb,za,CLe,ze,hr2,zx,List.map_nil,List.map_cons,List.length_nil,List.length_cons]⟩
      ·have hwv:jW K O [x,y] = []:=by
        unfold jW
        rw[if_neg (by simp),hleast]
        by_cases h4:4<=K<;>by_cases m84:84∈O<;>simp[h4,m84]
       have hr2:=hrd
       rw[hwv,if_neg (by simp)]at hr2
       by_cases h4:4<=K<;>by_cases m84:84∈O
       all_goals
        push_cast -dsimp [h4,zx,List.map_nil,List.map_cons,List.length_nil,List.length_cons]
        try refine cl (h84) ?_;push_cast -dsimp [m84,zx,List.map_nil,List.map_cons,List.length_nil,List.length_cons]
        exact ⟨[.inl 0],rfl,rfl,by push_cast -dsimp [zb,za,CLe,ze,hr2,zx,List.map_nil,List.map_cons,List.length_nil,List.length_cons]⟩
      ·have hz:=hso z (by simp)
       have hqz:=QJ z
       have hp0:((t.length:Int)+1+1+1=0)=False:=eq_false (by omega)
       have hp2:((t.length:Int)+1+1+1<2)=False:=eq_false (by omega)
       have hp3:((t.length:Int)+1+1+1<1)=False:=eq_false (by omega)
       have hp4:(2<(t.length:Int)+1+1+1)=True:=eq_true (by omega)
       have hp5:(0<(t.length:Int)+1+1+1)=True:=eq_true (by omega)
       by_cases m84:84∈O
       ·have hwv:jW K O (x :: y :: z :: t) = [101,120,116,114,97,32,111,112,101,114,97,110,100,32]++zN z:=by
         unfold jW
         rw[if_neg (by simp),hleast,if_neg (by simp[m84]),if_pos (by simp[m84])];rfl
        have hr2:=hrd
        rw[hwv,if_pos (by simp)]at hr2
        by_cases h4:4<=K
        all_goals
         push_cast -dsimp [h4,hp0,hp2,hp3,hp4,hp5,zx,List.map_nil,List.map_cons,List.length_nil,List.length_cons]
         try refine cl (h84) ?_;push_cast -dsimp [m84,hp0,hp2,hp3,hp4,hp5,zx,List.map_nil,List.map_cons,List.length_nil,List.length_cons]
         try refine cl (h84) ?_;push_cast -dsimp [m84,hp0,hp2,hp3,hp4,hp5,zx,List.map_nil,List.map_cons,List.length_nil,List.length_cons]
         repeat refine an ?_
         refine cl (Jo z (by omega)) ?_;push_cast -dsimp
         repeat refine an ?_
         exact ⟨[.inr (9,1)],rfl,rfl,by push_cast -dsimp [zb,za,CLe,ze,hr2,Y4,List.append_assoc,List.cons_append,List.nil_append]<;>rfl⟩
       ·have hwv:jW K O (x :: y :: z :: t) = []:=by
         unfold jW
         rw[if_neg (by simp),hleast]
         by_cases h4:4<=K<;>simp[h4,m84]
        have hr2:=hrd
        rw[hwv,if_neg (by simp)]at hr2
        by_cases h4:4<=K
        all_goals
         push_cast -dsimp [h4,hp0,hp2,hp3,hp4,hp5,zx,List.map_nil,List.map_cons,List.length_nil,List.length_cons]
         try refine cl (h84) ?_;push_cast -dsimp [m84,hp0,hp2,hp3,hp4,hp5,zx,List.map_nil,List.map_cons,List.length_nil,List.length_cons]
         try refine cl (h84) ?_;push_cast -dsimp [m84,hp0,hp2,hp3,hp4,hp5,zx,List.map_nil,List.map_cons,List.length_nil,List.length_cons]
         exact ⟨[.inl 0],rfl,rfl,by push_cast -dsimp [zb,za,CLe,ze,hr2,zx,List.map_nil,List.map_cons,List.length_nil,List.length_cons]⟩
     ·have hqb:=QJ bad
      have hrt:j4 K w (s,n,bad) r=(Y4,w++[58,32,105,110,118,97,108,105,100,32,111,112,116,105,111,110,32]++zN bad):=by
       unfold j4;rw[if_pos (by simpa using hbad)]
      rw[hrt]at hrd
      push_cast -dsimp [hbad]
      repeat refine an ?_
      refine cl (Jo bad (by omega)) ?_;push_cast -dsimp
      repeat refine an ?_
      exact ⟨[.inr (9,1)],rfl,rfl,by push_cast -dsimp [zb,za,CLe,ze,hrd,Y4]<;>rfl⟩
theorem zb8 (l:List (List UInt8)):(Y3 l).1.operands.length<=l.length:=by
 cases l with
 | nil=>simp[Y3,Y4]
 | cons w r =>
  rw[Y3]
  split
  ·simp[Y4]
  ·unfold j4
   split
   ·simp[Y4]
   ·split
    ·simp[Y4]
    ·simp only[List.length_drop,List.length_cons];omega
end
section
open CA CB
open Go.RowKit
abbrev zpd (k:Int) (o:List UInt8) (ops:List (List UInt8)):List C:=[.sc (.int .i64 k),.str o,.sl 1 (zx ops)]
abbrev zrG (k:Int) (o:List UInt8) (ops:List (List UInt8)):C:=.agg [.sc (.int .i64 k),.str o,.sl 1 (zx ops)]
theorem zeW (d:zr) (hd:d.diags.length<=80000) (k w:Int) (a b:List UInt8) (e:Int) (ha:a.length<=1000) (hb:b.length<=1000):Fun Tryz.prog GD 36 [Ur d,.sc (.int .i64 k),.sc (.int .i64 w),.str a,.str b,.sc (.int .i64 e)] (Ur (J9 d (JD k w a b e))) 0:=
 (zfn d hd k w a b e ha hb).weak (by push_cast -dsimp [zb,za,CLe,ze,J9])
abbrev zhM (f:FsV) (dg:C):List C:=[.sc (.int .i64 f.maxI),.sc (.int .i64 f.maxB),.sc (.int .i64 f.next),.sl 6 (zF f.xs),dg]
theorem zhE (f:FsV) (dg:List (List UInt8)) (hd:dg.length<=80000) (k w:Int) (a b:List UInt8) (e:Int) (ha:a.length<=1000) (hb:b.length<=1000) :
  Y1 Tryz.prog G0 40 [.agg (zhM f (.own 0 9 1 (zx dg))),.sc (.int .i64 k),.sc (.int .i64 w),.str a,.str b,.sc (.int .i64 e)] [] 1 (fun r bx n=>n=1/\r = .agg (zhM f (.own 0 9 1 (zx (dg++[JD k w a b e]))))/\bx = [zcs,zcs]):=by
 have ht:=zd8 k w a b e ha hb
 generalize JD k w a b e=x at ht ⊢
 have hsl:(zx dg).length=dg.length:=List.length_map ..
 refine foX (fun i=>if i=1 then [false,false,false,false,false,false,false,false,false,true,false,true] else []) Tryz.func40 ?_;dsimp only[Tryz.f40]
 push_cast -dsimp
 repeat refine an ?_
 refine cl (ht) ?_;push_cast -dsimp
 repeat refine an ?_
 exact ⟨_,[zcs,zcs],1,⟨⟨rfl,rfl,rfl⟩,Nat.zero_le _⟩,[.inl 0],rfl,rfl,by push_cast -dsimp [zb,za,CLe,ze],by push_cast -dsimp [zb,za,CLe,ze]⟩
end
section
open CA CB
open Go.RowKit
theorem vF {f:FsV} {b p:List UInt8} (h:zw (zH f b p true).1.ino f.xs=false):Jc f b p=false:=by
 unfold Jc
 rw[zkG h,Bool.and_eq_false_iff]
 exact .inr rfl
theorem zg2 (f:FsV) (hf:FsI f) (hr:FsR f) (hs:FsS f) (hd:uk f.xs) (b p:List UInt8) (hb:b.length<=100000) (hp:p.length<=3000):Fun Tryz.prog G0 74 [.agg (fsC f),.str b,.str p] (.sc (.bool (Jc f b p))) 0:=by
 have hsk:=Nl f hf hr hs hd b p true hb hp
 have hg:=YR (G:=G0) f (zH f b p true).1.ino (by have:=hs.len;omega) hf.rises
 have e:Jc f b p=(decide ((zH f b p true).2=0)&&decide ((zf (zH f b p true).1.ino f.xs).kind=2)):=rfl
 have hno:=vF (f:=f) (b:=b) (p:=p)
 by_cases h1:(zH f b p true).2=0
 ·have h1':=eq_true h1
  rw[decide_eq_true h1,Bool.true_and]at e
  cases hh:zw (zH f b p true).1.ino f.xs with
  | false =>
   rw[hh]at hg
   rw[hno hh]
   refine fon Tryz.func74 ?_;dsimp only[Tryz.f74]
   push_cast -dsimp
   refine cl (hsk) ?_;push_cast -dsimp [h1']
   refine cl (hg) ?_;push_cast -dsimp [h1']
   exact dn (by push_cast -dsimp [zb,za,CLe,ze])
  | true =>
   rw[hh]at hg
   rw[e]
   refine fon Tryz.func74 ?_;dsimp only[Tryz.f74]
   push_cast -dsimp
   refine cl (hsk) ?_;push_cast -dsimp [h1']
   refine cl (hg) ?_;push_cast -dsimp [h1']
   exact dn (by push_cast -dsimp [zb,za,CLe,ze])
 ·have h1':=eq_false h1
  rw[decide_eq_false h1,Bool.false_and]at e
  rw[e]
  refine fon Tryz.func74 ?_;dsimp only[Tryz.f74]
  push_cast -dsimp
  refine cl (hsk) ?_;push_cast -dsimp [h1']
  refine cl (hg) ?_;push_cast -dsimp [h1']
  exact dn (by push_cast -dsimp [zb,za,CLe,ze])
end
section
open CA CB
open Go.RowKit
theorem ug {bx:List (List C)} {c:C} (h:c.stayB=true):JH bx c c:=by
 cases c<;>simp[C.stayB]at h<;>(unfold JH;simp[C.frz])
theorem q9 {bx:List (List C)}:∀ {cs:List C},(cs.all C.stayB)=true->Jk bx cs cs
 | [],_=>by unfold Jk;rfl
 | c :: r,h=>by
  rw[List.all_cons,Bool.and_eq_true]at h
  unfold Jk
  exact ⟨_,_,rfl,ug h.1,q9 h.2⟩
theorem zI {bx:List (List C)} {c d:C} {r s:List C} (h:JH bx c d) (h2:Jk bx r s):Jk bx (c :: r) (d :: s):=by unfold Jk;exact ⟨_,_,rfl,h,h2⟩
theorem qq {bx:List (List C)} {cs:List C} (h:(cs.all C.stayB)=true):JH bx (.agg cs) (.agg cs):=by unfold JH;exact ⟨_,rfl,q9 h⟩
theorem u9 (f:FsV) (hf:FsI f) (hs:FsS f) (p:List UInt8) (hp:p.length<=100000):Fun Tryz.prog G0 147 [.agg (fsC f),.str p] (.tup [.agg (JJ (qi f p).1),.sc (.int .i64 (qi f p).2)]) 0:=by
 have h1:=zk8 f hf hs p (by omega)
 have h2:=jb (G:=G0) f (atV f p).1.ino (by have:=hs.len;omega)
 by_cases c1:(atV f p).2=0
 ·by_cases c2:(atV f p).1.ino=0
  ·have e:qi f p=(NZ,1):=by unfold qi;rw[if_neg (fun h=>h c1),if_pos c2]
   rw[c1]at h1
   refine fon Tryz.func147 ?_;dsimp only[Tryz.f147]
   push_cast -dsimp
   refine cl (h1) ?_;push_cast -dsimp [c2]
   exact dn (by push_cast -dsimp [zb,za,CLe,ze,e,NZ])
  ·have e:qi f p=(zf (atV f p).1.ino f.xs,0):=by unfold qi;rw[if_neg (fun h=>h c1),if_neg c2]
   rw[c1]at h1
   refine fon Tryz.func147 ?_;dsimp only[Tryz.f147]
   push_cast -dsimp
   refine cl (h1) ?_;push_cast -dsimp [c2]
   refine cl (h2) ?_;push_cast -dsimp
   exact dn (by push_cast -dsimp [zb,za,CLe,ze,e])
 ·have e:qi f p=(NZ,(atV f p).2):=by unfold qi;rw[if_pos c1]
  refine fon Tryz.func147 ?_;dsimp only[Tryz.f147]
  push_cast -dsimp
  refine cl (h1) ?_;push_cast -dsimp [c1]
  exact dn (by push_cast -dsimp [zb,za,CLe,ze,e,NZ])
theorem zg6 (f:FsV) (hf:FsI f) (hs:FsS f) (p:List UInt8) (hp:p.length<=100000):Fun Tryz.prog G0 101 [.agg (fsC f),.str p] (.tup [.sc (.int .i64 (jS f p).1),.sc (.int .i64 (jS f p).2)]) 0:=by
 have h1:=u9 f hf hs p hp
 by_cases c1:(qi f p).2=0
 ·have d1:(atV f p).2=0/\(atV f p).1.ino≠0/\(qi f p).1=zf (atV f p).1.ino f.xs:=by
   unfold qi at c1 ⊢
   split at c1
   ·rename_i h;exact absurd c1 h
   ·rename_i h
    split at c1
    ·exact absurd c1 (show ¬(1:Int)=0 by decide)
    ·rename_i h';rw[if_neg h,if_neg h'];exact ⟨Classical.not_not.1 h,h',rfl⟩
  rw[c1]at h1
  by_cases c2:(qi f p).1.kind=2
  ·have e:jS f p=((qi f p).1.ino,0):=by unfold jS;rw[if_neg (fun h=>h d1.1),if_neg d1.2.1,if_neg (by rw[←d1.2.2];exact fun h=>h c2),d1.2.2]
   refine fon Tryz.func101 ?_;dsimp only[Tryz.f101]
   push_cast -dsimp
   refine cl (h1) ?_;push_cast -dsimp [c2]
   exact dn (by push_cast -dsimp [zb,za,CLe,ze,e])
  ·have e:jS f p=(0,3):=by unfold jS;rw[if_neg (fun h=>h d1.1),if_neg d1.2.1,if_pos (by rw[←d1.2.2];exact c2)]
   refine fon Tryz.func101 ?_;dsimp only[Tryz.f101]
   push_cast -dsimp
   refine cl (h1) ?_;push_cast -dsimp [c2]
   exact dn (by push_cast -dsimp [zb,za,CLe,ze,e])
 ·have e:jS f p=(0,(qi f p).2):=by
   unfold jS qi
   unfold qi at c1
   split
   ·rfl
   ·rename_i h
    rw[if_neg h]at c1
    split
    ·rfl
    ·rename_i h';rw[if_neg h']at c1;exact absurd rfl c1
  refine fon Tryz.func101 ?_;dsimp only[Tryz.f101]
  push_cast -dsimp
  refine cl (h1) ?_;push_cast -dsimp [c1]
  exact dn (by push_cast -dsimp [zb,za,CLe,ze,e])
theorem XA {A Z:List C} {n:Nat} (h:A.length=n):(A++Z).take n=A:=by rw[List.take_append,←h,List.take_of_length_le (Nat.le_refl _)];simp
theorem vE {A B Z:List C} {m n:Nat} (ha:A.length=m) (hb:B.length=n):(spl (A++Z) m B).take ((m+n)*1)=A++B:=by
 unfold spl
 rw[XA ha,XA (by rw[List.length_append,ha,hb,Nat.mul_one])]
theorem Nb {A B Z Y:List C} {m n:Nat} (ha:A.length=m) (hb:B.length=n):((A++Z).take m++B++Y).take ((m+n)*1)=A++B:=by
 rw[Nat.mul_one,XA ha,XA (by rw[List.length_append,ha,hb])]
theorem Z9 {a b:Yk}:(zx (a++b)).flatten=(zx a).flatten++(zx b).flatten:=by
 unfold zx;rw[List.map_append,List.flatten_append]
def zqJ (f:FsV) (follow:Bool) (k:Nat):Prop:=k<=40->∀ (l:Yk) (s:zT) (dir:Bool) (q:Int),q=40-(k:Int)->l.length+k*20000<=1000000 ->
  Fun Tryz.prog G0 102 [.agg (fsC f),.agg (jI s),.sl 1 (zx l),.sc (.bool follow),.sc (.bool dir),.sc (.int .i64 q)] (.tup [.agg (jI (onN f follow k l s dir).1),.sc (.int .i64 (onN f follow k l s dir).2)]) 0
theorem zna {f:FsV} (hs:FsS f) (follow:Bool) (k:Nat) (s:zT) (dir:Bool) (q:Int) :
  Fun Tryz.prog G0 102 [.agg (fsC f),.agg (jI s),.sl 1 (zx []),.sc (.bool follow),.sc (.bool dir),.sc (.int .i64 q)] (.tup [.agg (jI (onN f follow k [] s dir).1),.sc (.int .i64 (onN f follow k [] s dir).2)]) 0:=by
 have hg:=jb (G:=G0) f s.ino (by have:=hs.len;omega)
 rw[Zr]
 have e0:onL f follow (lkN f follow k) [] s dir=if zw s.ino f.xs=true/\dir=true/\(zf s.ino f.xs).kind≠2 then (zU,3) else (s,0):=rfl
 cases hh:zw s.ino f.xs with
 | false =>
  rw[hh]at hg
  have e:onL f follow (lkN f follow k) [] s dir=(s,0):=by rw[e0,hh];rfl
  refine fof (fun i=>if i=31 then UB [(0,.pure),(1,.pure),(2,.pure),(3,.pure),(4,.pure),(5,.pure),(7,.pure),(9,.pure),(10,.pure),(11,.pure),(12,.pure),(6,.flt [0,1,2,6,7,8,9,10]),(8,.flt [0,1,2,7,8,9,10]),(13,.bar),(14,.pure),(15,.pure),(16,.bar),(17,.pure)] else []) Tryz.func102 ?_;dsimp only[Tryz.f102]
  push_cast -dsimp
  refine cl (hg) ?_;push_cast -dsimp
  exact dn (by push_cast -dsimp [zb,za,CLe,ze,e])
 | true =>
  rw[hh]at hg
  cases dir with
  | false =>
   have e:onL f follow (lkN f follow k) [] s false=(s,0):=by rw[e0];simp
   refine fof (fun i=>if i=31 then UB [(0,.pure),(1,.pure),(2,.pure),(3,.pure),(4,.pure),(5,.pure),(7,.pure),(9,.pure),(10,.pure),(11,.pure),(12,.pure),(6,.flt [0,1,2,6,7,8,9,10]),(8,.flt [0,1,2,7,8,9,10]),(13,.bar),(14,.pure),(15,.pure),(16,.bar),(17,.pure)] else []) Tryz.func102 ?_;dsimp only[Tryz.f102]
   push_cast -dsimp
   refine cl (hg) ?_;push_cast -dsimp
   exact dn (by push_cast -dsimp [zb,za,CLe,ze,e])
  | true =>
   by_cases hk:(zf s.ino f.xs).kind=2
   ·have e:onL f follow (lkN f follow k) [] s true=(s,0):=by rw[e0];simp[hk]
    refine fof (fun i=>if i=31 then UB [(0,.pure),(1,.pure),(2,.pure),(3,.pure),(4,.pure),(5,.pure),(7,.pure),(9,.pure),(10,.pure),(11,.pure),(12,.pure),(6,.flt [0,1,2,6,7,8,9,10]),(8,.flt [0,1,2,7,8,9,10]),(13,.bar),(14,.pure),(15,.pure),(16,.bar),(17,.pure)] else []) Tryz.func102 ?_;dsimp only[Tryz.f102]
    push_cast -dsimp
    refine cl (hg) ?_;push_cast -dsimp [hk]
    exact dn (by push_cast -dsimp [zb,za,CLe,ze,e])
   ·have e:onL f follow (lkN f follow k) [] s true=(zU,3):=by rw[e0,hh];simp[hk]
    refine fof (fun i=>if i=31 then UB [(0,.pure),(1,.pure),(2,.pure),(3,.pure),(4,.pure),(5,.pure),(7,.pure),(9,.pure),(10,.pure),(11,.pure),(12,.pure),(6,.flt [0,1,2,6,7,8,9,10]),(8,.flt [0,1,2,7,8,9,10]),(13,.bar),(14,.pure),(15,.pure),(16,.bar),(17,.pure)] else []) Tryz.func102 ?_;dsimp only[Tryz.f102]
    push_cast -dsimp
    refine cl (hg) ?_;push_cast -dsimp [hk]
    exact dn (by push_cast -dsimp [zb,za,CLe,ze,e,zU])
theorem zlr {f:FsV} (hs:FsS f) (follow:Bool) (k:Nat) (hk40:k<=40) (ihk:∀ j,j<k->zqJ f follow j) (n:List UInt8) (r:Yk) (ih:∀ (s:zT) (dir:Bool) (q:Int),q=40-(k:Int)->r.length+k*20000<=1000000->Fun Tryz.prog G0 102 [.agg (fsC f),.agg (jI s),.sl 1 (zx r),.sc (.bool follow),.sc (.bool dir),.sc (.int .i64 q)] (.tup [.agg (jI (onN f follow k r s dir).1),.sc (.int .i64 (onN f follow k r s dir).2)]) 0)
    (s:zT) (dir:Bool) (q:Int) (hq:q=40-(k:Int)) (hl:(n :: r).length+k*20000<=1000000) :
    Fun Tryz.prog G0 102 [.agg (fsC f),.agg (jI s),.sl 1 ([.str n] :: zx r),.sc (.bool follow),.sc (.bool dir),.sc (.int .i64 q)] (.tup [.agg (jI (onN f follow k (n :: r) s dir).1),.sc (.int .i64 (onN f follow k (n :: r) s dir).2)]) 0:=by
  have hlen:=hs.len
  have hsl:(zx r).length=r.length:=List.length_map ..
  have hz:((r.length:Int)+1=0)=False:=eq_false (by omega)
  have hrl:r.length+k*20000<=1000000:=by rw[List.length_cons]at hl;omega
  rw[Zr]at ih ⊢
  have e0:onL f follow (lkN f follow k) (n :: r) s dir=if s.ino=0 then (zU,1)
    else if (zf s.ino f.xs).kind≠2 then (zU,3)
    else if n = [46] then onL f follow (lkN f follow k) r ⟨0,[],(zf s.ino f.xs).ino⟩ dir
    else if n = [46,46] then onL f follow (lkN f follow k) r ⟨0,[],(zf s.ino f.xs).parent⟩ dir
    else if X8 n (zf s.ino f.xs).es=false∨(zf (zC n (zf s.ino f.xs).es) f.xs).kind≠3∨(r = []/\follow=false/\dir=false) then
      onL f follow (lkN f follow k) r ⟨(zf s.ino f.xs).ino,n,zC n (zf s.ino f.xs).es⟩ dir
    else lkN f follow k (zf (zC n (zf s.ino f.xs).es) f.xs) (zf s.ino f.xs) r dir:=rfl
  by_cases h1:s.ino=0
  · rw[if_pos h1]at e0
    refine fof (fun i=>if i=31 then UB [(0,.pure),(1,.pure),(2,.pure),(3,.pure),(4,.pure),(5,.pure),(7,.pure),(9,.pure),(10,.pure),(11,.pure),(12,.pure),(6,.flt [0,1,2,6,7,8,9,10]),(8,.flt [0,1,2,7,8,9,10]),(13,.bar),(14,.pure),(15,.pure),(16,.bar),(17,.pure)] else []) Tryz.func102 ?_;dsimp only[Tryz.f102]
    push_cast -dsimp [hz,h1]
    exact dn (by push_cast -dsimp [zb,za,CLe,ze,e0,zU])
  rw[if_neg h1]at e0
  have hg:=jb (G:=G0) f s.ino (by omega)
  by_cases h2:(zf s.ino f.xs).kind=2
  case neg =>
    rw[if_pos h2]at e0
    refine fof (fun i=>if i=31 then UB [(0,.pure),(1,.pure),(2,.pure),(3,.pure),(4,.pure),(5,.pure),(7,.pure),(9,.pure),(10,.pure),(11,.pure),(12,.pure),(6,.flt [0,1,2,6,7,8,9,10]),(8,.flt [0,1,2,7,8,9,10]),(13,.bar),(14,.pure),(15,.pure),(16,.bar),(17,.pure)] else []) Tryz.func102 ?_;dsimp only[Tryz.f102]
    push_cast -dsimp [hz,h1]
    refine cl (hg) ?_;push_cast -dsimp [h2]
    exact dn (by push_cast -dsimp [zb,za,CLe,ze,e0,zU])
  rw[if_neg (fun h=>h h2)]at e0
  have hh:=XH h2
  have hnod:=hs.node _ (zq hh).2.1
  rw[hh]at hg
  generalize zf s.ino f.xs=d at hg h2 e0 hnod
  by_cases h3:n = [46]
  · rw[if_pos h3]at e0
    have hi:=ih ⟨0,[],d.ino⟩ dir q hq hrl
    refine fof (fun i=>if i=31 then UB [(0,.pure),(1,.pure),(2,.pure),(3,.pure),(4,.pure),(5,.pure),(7,.pure),(9,.pure),(10,.pure),(11,.pure),(12,.pure),(6,.flt [0,1,2,6,7,8,9,10]),(8,.flt [0,1,2,7,8,9,10]),(13,.bar),(14,.pure),(15,.pure),(16,.bar),(17,.pure)] else []) Tryz.func102 ?_;dsimp only[Tryz.f102]
    push_cast -dsimp [hz,h1]
    refine cl (hg) ?_;push_cast -dsimp [h2,h3]
    repeat refine an ?_
    refine cl (hi) ?_;push_cast -dsimp
    exact dn (by push_cast -dsimp [zb,za,CLe,ze,e0])
  rw[if_neg h3]at e0
  by_cases h4:n = [46,46]
  · rw[if_pos h4]at e0
    have hi:=ih ⟨0,[],d.parent⟩ dir q hq hrl
    have h3':([46,46]:List UInt8)≠[46]:=by decide
    refine fof (fun i=>if i=31 then UB [(0,.pure),(1,.pure),(2,.pure),(3,.pure),(4,.pure),(5,.pure),(7,.pure),(9,.pure),(10,.pure),(11,.pure),(12,.pure),(6,.flt [0,1,2,6,7,8,9,10]),(8,.flt [0,1,2,7,8,9,10]),(13,.bar),(14,.pure),(15,.pure),(16,.bar),(17,.pure)] else []) Tryz.func102 ?_;dsimp only[Tryz.f102]
    push_cast -dsimp [hz,h1]
    refine cl (hg) ?_;push_cast -dsimp [h2,h4,h3']
    repeat refine an ?_
    refine cl (hi) ?_;push_cast -dsimp
    exact dn (by push_cast -dsimp [zb,za,CLe,ze,e0])
  rw[if_neg h4]at e0
  have hfi:=Na (G:=G0) d.es n (by omega)
  have hx:=jb (G:=G0) f (zC n d.es) (by omega)
  have stop:(X8 n d.es=false∨(zf (zC n d.es) f.xs).kind≠3∨(r = []/\follow=false/\dir=false))->onL f follow (lkN f follow k) (n :: r) s dir=onL f follow (lkN f follow k) r ⟨d.ino,n,zC n d.es⟩ dir:=fun h=>by rw[e0,if_pos h]
  have hi:=ih ⟨d.ino,n,zC n d.es⟩ dir q hq hrl
  cases hE:X8 n d.es with
  | false =>
    have e:=stop (.inl hE)
    rw[hE]at hfi
    refine fof (fun i=>if i=31 then UB [(0,.pure),(1,.pure),(2,.pure),(3,.pure),(4,.pure),(5,.pure),(7,.pure),(9,.pure),(10,.pure),(11,.pure),(12,.pure),(6,.flt [0,1,2,6,7,8,9,10]),(8,.flt [0,1,2,7,8,9,10]),(13,.bar),(14,.pure),(15,.pure),(16,.bar),(17,.pure)] else []) Tryz.func102 ?_;dsimp only[Tryz.f102]
    push_cast -dsimp [hz,h1]
    refine cl (hg) ?_;push_cast -dsimp [h2,h3,h4]
    repeat refine an ?_
    refine cl (hfi) ?_;push_cast -dsimp [hE]
    refine cl (hx) ?_;push_cast -dsimp [h2]
    refine cl (hi) ?_;push_cast -dsimp
    exact dn (by push_cast -dsimp [zb,za,CLe,ze,e])
  | true =>
  rw[hE]at hfi
  by_cases hk3:(zf (zC n d.es) f.xs).kind=3
  case neg =>
    have e:=stop (.inr (.inl hk3))
    refine fof (fun i=>if i=31 then UB [(0,.pure),(1,.pure),(2,.pure),(3,.pure),(4,.pure),(5,.pure),(7,.pure),(9,.pure),(10,.pure),(11,.pure),(12,.pure),(6,.flt [0,1,2,6,7,8,9,10]),(8,.flt [0,1,2,7,8,9,10]),(13,.bar),(14,.pure),(15,.pure),(16,.bar),(17,.pure)] else []) Tryz.func102 ?_;dsimp only[Tryz.f102]
    push_cast -dsimp [hz,h1]
    refine cl (hg) ?_;push_cast -dsimp [h2,h3,h4]
    repeat refine an ?_
    refine cl (hfi) ?_;push_cast -dsimp [hE]
    refine cl (hx) ?_;push_cast -dsimp [hk3]
    refine cl (hi) ?_;push_cast -dsimp
    exact dn (by push_cast -dsimp [zb,za,CLe,ze,e])
  by_cases hst:r = []/\follow=false/\dir=false
  · have e:=stop (.inr (.inr hst))
    obtain ⟨rfl,rfl,rfl⟩:=hst
    refine fof (fun i=>if i=31 then UB [(0,.pure),(1,.pure),(2,.pure),(3,.pure),(4,.pure),(5,.pure),(7,.pure),(9,.pure),(10,.pure),(11,.pure),(12,.pure),(6,.flt [0,1,2,6,7,8,9,10]),(8,.flt [0,1,2,7,8,9,10]),(13,.bar),(14,.pure),(15,.pure),(16,.bar),(17,.pure)] else []) Tryz.func102 ?_;dsimp only[Tryz.f102]
    push_cast -dsimp [hz,h1]
    refine cl (hg) ?_;push_cast -dsimp [h2,h3,h4]
    repeat refine an ?_
    refine cl (hfi) ?_;push_cast -dsimp [hE]
    refine cl (hx) ?_;push_cast -dsimp [hk3,List.map_nil,List.length_nil]
    refine cl (hi) ?_;push_cast -dsimp
    exact dn (by push_cast -dsimp [zb,za,CLe,ze,e])
  rw[if_neg (fun h=>by
    rcases h with h | h | h
    · rw[hE]at h;cases h
    · exact h hk3
    · exact hst h)]at e0
  clear stop hi ih
  have hxn:(zf (zC n d.es) f.xs).data.length<=10000:=by
    have hhx:zw (zC n d.es) f.xs=true:=by
      cases hq2:zw (zC n d.es) f.xs with
      | true=>rfl
      | false=>rw[(Jg hq2).2]at hk3;exact absurd hk3 (by decide)
    exact (hs.node _ (zq hhx).2.1).2.1
  generalize zw (zC n d.es) f.xs=hb at hx
  generalize zf (zC n d.es) f.xs=x at hx hk3 e0 hxn
  have hgo:((r.length:Int)=0)=(r = []):=by
    rw[←List.length_eq_zero_iff];exact propext ⟨fun h=>by omega,fun h=>by omega⟩
  cases k with
  | zero =>
    have hq40:q=40:=by omega
    have e:onL f follow (lkN f follow 0) (n :: r) s dir=(zU,6):=e0
    by_cases hr:r = []
    · subst hr
      cases follow<;>cases dir<;>first
        | exact absurd ⟨rfl,rfl,rfl⟩ hst
        | (subst hq40
           refine fof (fun i=>if i=31 then UB [(0,.pure),(1,.pure),(2,.pure),(3,.pure),(4,.pure),(5,.pure),(7,.pure),(9,.pure),(10,.pure),(11,.pure),(12,.pure),(6,.flt [0,1,2,6,7,8,9,10]),(8,.flt [0,1,2,7,8,9,10]),(13,.bar),(14,.pure),(15,.pure),(16,.bar),(17,.pure)] else []) Tryz.func102 ?_;dsimp only[Tryz.f102]
           push_cast -dsimp [hz,h1]
           refine cl (hg) ?_;push_cast -dsimp [h2,h3,h4]
           repeat refine an ?_
           refine cl (hfi) ?_;push_cast -dsimp [hE]
           refine cl (hx) ?_;push_cast -dsimp [hk3,List.map_nil,List.length_nil]
           exact dn (by push_cast -dsimp [zb,za,CLe,ze,e,zU]))
    · have hr':=eq_false hr
      subst hq40
      refine fof (fun i=>if i=31 then UB [(0,.pure),(1,.pure),(2,.pure),(3,.pure),(4,.pure),(5,.pure),(7,.pure),(9,.pure),(10,.pure),(11,.pure),(12,.pure),(6,.flt [0,1,2,6,7,8,9,10]),(8,.flt [0,1,2,7,8,9,10]),(13,.bar),(14,.pure),(15,.pure),(16,.bar),(17,.pure)] else []) Tryz.func102 ?_;dsimp only[Tryz.f102]
      push_cast -dsimp [hz,h1]
      refine cl (hg) ?_;push_cast -dsimp [h2,h3,h4]
      repeat refine an ?_
      refine cl (hfi) ?_;push_cast -dsimp [hE]
      refine cl (hx) ?_;push_cast -dsimp [hk3,hgo,hr']
      exact dn (by push_cast -dsimp [zb,za,CLe,ze,e,zU])
  | succ k =>
    have hq40:(q=40)=False:=eq_false (by omega)
    have hlo:=XW x.data (by omega)
    have hre:=X0 x.data (by omega)
    have hns:=zS x.data
    have e1:onL f follow (lkN f follow (k+1)) (n :: r) s dir=if J0 x.data then (zU,7) else onN f follow k (zg x.data++r) ⟨0,[],if X1 x.data then 1 else d.ino⟩ (dir||(qo x.data&&decide (r = []))):=e0
    have hon:=fun dd=>ihk k (by omega) (by omega) (zg x.data++r) ⟨0,[],if X1 x.data then 1 else d.ino⟩ dd (q+1) (by omega) (by simp;omega)
    unfold UO at hre
    change Fun _ _ _ _ (.agg [qe (X1 x.data),.own 0 9 1 (zx (zg x.data)),qe (qo x.data)]) _ at hre
    cases hlp:J0 x.data with
    | true =>
      rw[hlp,if_pos rfl]at e1
      rw[hlp]at hlo
      by_cases hr:r = []
      · subst hr
        cases follow<;>cases dir<;>first
          | exact absurd ⟨rfl,rfl,rfl⟩ hst
          | (
             refine fof (fun i=>if i=31 then UB [(0,.pure),(1,.pure),(2,.pure),(3,.pure),(4,.pure),(5,.pure),(7,.pure),(9,.pure),(10,.pure),(11,.pure),(12,.pure),(6,.flt [0,1,2,6,7,8,9,10]),(8,.flt [0,1,2,7,8,9,10]),(13,.bar),(14,.pure),(15,.pure),(16,.bar),(17,.pure)] else []) Tryz.func102 ?_;dsimp only[Tryz.f102]
             push_cast -dsimp [hz,h1]
             refine cl (hg) ?_;push_cast -dsimp [h2,h3,h4]
             repeat refine an ?_
             refine cl (hfi) ?_;push_cast -dsimp [hE]
             refine cl (hx) ?_;push_cast -dsimp [hk3,List.map_nil,List.length_nil,hq40]
             refine cl (hlo) ?_;push_cast -dsimp
             exact dn (by push_cast -dsimp [zb,za,CLe,ze,e1,zU]))
      · have hr':=eq_false hr
        refine fof (fun i=>if i=31 then UB [(0,.pure),(1,.pure),(2,.pure),(3,.pure),(4,.pure),(5,.pure),(7,.pure),(9,.pure),(10,.pure),(11,.pure),(12,.pure),(6,.flt [0,1,2,6,7,8,9,10]),(8,.flt [0,1,2,7,8,9,10]),(13,.bar),(14,.pure),(15,.pure),(16,.bar),(17,.pure)] else []) Tryz.func102 ?_;dsimp only[Tryz.f102]
        push_cast -dsimp [hz,h1]
        refine cl (hg) ?_;push_cast -dsimp [h2,h3,h4]
        repeat refine an ?_
        refine cl (hfi) ?_;push_cast -dsimp [hE]
        refine cl (hx) ?_;push_cast -dsimp [hk3,hgo,hr',hq40]
        refine cl (hlo) ?_;push_cast -dsimp
        exact dn (by push_cast -dsimp [zb,za,CLe,ze,e1,zU])
    | false =>
      rw[hlp,if_neg (by decide)]at e1
      rw[hlp]at hlo
      have hkn:∀ z∈zx (zg x.data),z.length=1:=fun z hz=>by obtain ⟨y,_,rfl⟩:=List.mem_map.1 hz;rfl
      have hkr:∀ z∈zx r,z.length=1:=fun z hz=>by obtain ⟨y,_,rfl⟩:=List.mem_map.1 hz;rfl
      have hkb:∀ z∈zx (zg x.data++r),z.length=1:=fun z hz=>by obtain ⟨y,_,rfl⟩:=List.mem_map.1 hz;rfl
      have hsb:jp (zx (zg x.data++r)):=fun z hz=>by obtain ⟨y,_,rfl⟩:=List.mem_map.1 hz;rfl
      have hnl:(zx (zg x.data)).length=(zg x.data).length:=List.length_map ..
      obtain ⟨fr,hfr⟩:∃ fr,(if X1 x.data=true then 1 else d.ino)=fr:=⟨_,rfl⟩
      obtain ⟨D,hD⟩:∃ D,(dir||(qo x.data&&decide (r = [])))=D:=⟨_,rfl⟩
      have hon:=hon D
      rw[hfr]at hon e1
      rw[hD]at e1
      by_cases hr:r = []
      · have hr':=eq_true hr
        rw[decide_eq_true hr,Bool.and_true]at hD
        cases hab:X1 x.data<;>cases hsp:qo x.data <;>
        · rw[hab,hsp]at hre
          rw[hab]at hfr
          rw[hsp]at hD
          simp only[if_true,if_false,Bool.false_eq_true]at hfr
          subst hfr
          cases follow<;>cases dir<;>first
            | exact absurd ⟨hr,rfl,rfl⟩ hst
            | (simp only[Bool.or_true,Bool.or_false]at hD
               subst hD
               refine fof (fun i=>if i=31 then UB [(0,.pure),(1,.pure),(2,.pure),(3,.pure),(4,.pure),(5,.pure),(7,.pure),(9,.pure),(10,.pure),(11,.pure),(12,.pure),(6,.flt [0,1,2,6,7,8,9,10]),(8,.flt [0,1,2,7,8,9,10]),(13,.bar),(14,.pure),(15,.pure),(16,.bar),(17,.pure)] else []) Tryz.func102 ?_;dsimp only[Tryz.f102]
               push_cast -dsimp [hz,h1]
               refine cl (hg) ?_;push_cast -dsimp [h2,h3,h4]
               repeat refine an ?_
               refine cl (hfi) ?_;push_cast -dsimp [hE]
               refine cl (hx) ?_;push_cast -dsimp [hk3,hgo,hr',hq40]
               refine cl (hlo) ?_;push_cast -dsimp
               refine cl (hre) ?_;push_cast -dsimp [hgo,hr']
               repeat refine an ?_
               refine vv UF zfC rfl rfl (by decide) rfl (zB hkn) (by omega) (by omega) (fun g0=>?_) (fun g0 cap c1 c2=>?_)
               · push_cast -dsimp
                 refine ⟨by split<;>first | omega | trivial,?_⟩
                 refine vv UF zfC rfl rfl (by decide) rfl (zB hkr) (by omega) (by omega) (fun g1=>?_) (fun g1 cap c1 c2=>?_)
                 · have hn0:zg x.data = []:=List.eq_nil_of_length_eq_zero (by omega)
                   have hr0:r = []:=List.eq_nil_of_length_eq_zero (by omega)
                   push_cast -dsimp
                   refine ⟨by split<;>first | omega | trivial,?_⟩
                   push_cast -dsimp
                   rw[show zg x.data++r = [] by rw[hn0,hr0];rfl]at hon e1
                   refine call (hon.less (by push_cast -dsimp [zb,za,CLe,ze])) ?_
                   push_cast -dsimp
                   exact dn (by push_cast -dsimp [zb,za,CLe,ze,e1])
                 · have hn0:zg x.data = []:=List.eq_nil_of_length_eq_zero (by omega)
                   have hn1:(zg x.data).length=0:=by rw[hn0];rfl
                   push_cast -dsimp
                   refine ⟨by split<;>first | omega | trivial,?_⟩
                   push_cast -dsimp
                   refine uu [.agg (fsC f),.agg (jI ⟨0,[],_⟩),.sl 1 (zx (zg x.data++r)),.sc (.bool _),.sc (.bool _),.sc (.int .i64 (q+1))] hon rfl ?_ ?_
                   · exact zI (qq rfl) (zI (qq rfl) (zI (Xw rfl (by rw[List.length_map,List.length_append];try omega) (by omega) c2 hkb hsb (by rw[hn0];exact XA ((zB hkr).trans (by rw[hsl])))) (q9 rfl)))
                   · push_cast -dsimp
                     exact dn (by push_cast -dsimp [zb,za,CLe,ze,e1])
               · push_cast -dsimp
                 refine ⟨by split<;>first | omega | trivial,?_⟩
                 refine ZZ UF zfC rfl rfl (by decide) rfl (zB hkr) rfl (by rw[List.length_append,zB hkn,List.length_replicate];omega) (by omega) (by omega) (by omega) (fun g1=>?_) (fun g1 cap2 c3 c4=>?_)
                 · push_cast -dsimp
                   refine ⟨by split<;>first | omega | trivial,?_⟩
                   push_cast -dsimp
                   refine uu [.agg (fsC f),.agg (jI ⟨0,[],_⟩),.sl 1 (zx (zg x.data++r)),.sc (.bool _),.sc (.bool _),.sc (.int .i64 (q+1))] hon rfl ?_ ?_
                   · exact zI (qq rfl) (zI (qq rfl) (zI (Xw rfl (by rw[List.length_map,List.length_append];try omega) (by omega) c2 hkb hsb (by exact (vE ((zB hkn).trans (by omega)) ((zB hkr).trans (by omega))).trans Z9.symm)) (q9 rfl)))
                   · push_cast -dsimp
                     exact dn (by push_cast -dsimp [zb,za,CLe,ze,e1])
                 · push_cast -dsimp
                   refine ⟨by split<;>first | omega | trivial,?_⟩
                   push_cast -dsimp
                   refine uu [.agg (fsC f),.agg (jI ⟨0,[],_⟩),.sl 1 (zx (zg x.data++r)),.sc (.bool _),.sc (.bool _),.sc (.int .i64 (q+1))] hon rfl ?_ ?_
                   · exact zI (qq rfl) (zI (qq rfl) (zI (Xw rfl (by rw[List.length_map,List.length_append];try omega) (by omega) c4 hkb hsb (by exact (Nb ((zB hkn).trans (by omega)) ((zB hkr).trans (by omega))).trans Z9.symm)) (q9 rfl)))
                   · push_cast -dsimp
                     exact dn (by push_cast -dsimp [zb,za,CLe,ze,e1]))
      · have hr':=eq_false hr
        rw[decide_eq_false hr,Bool.and_false,Bool.or_false]at hD
        subst hD
        cases hab:X1 x.data<;>cases hsp:qo x.data <;>
        · rw[hab,hsp]at hre
          rw[hab]at hfr
          simp only[if_true,if_false,Bool.false_eq_true]at hfr
          subst hfr
          refine fof (fun i=>if i=31 then UB [(0,.pure),(1,.pure),(2,.pure),(3,.pure),(4,.pure),(5,.pure),(7,.pure),(9,.pure),(10,.pure),(11,.pure),(12,.pure),(6,.flt [0,1,2,6,7,8,9,10]),(8,.flt [0,1,2,7,8,9,10]),(13,.bar),(14,.pure),(15,.pure),(16,.bar),(17,.pure)] else []) Tryz.func102 ?_;dsimp only[Tryz.f102]
          push_cast -dsimp [hz,h1]
          refine cl (hg) ?_;push_cast -dsimp [h2,h3,h4]
          repeat refine an ?_
          refine cl (hfi) ?_;push_cast -dsimp [hE]
          refine cl (hx) ?_;push_cast -dsimp [hk3,hgo,hr',hq40]
          refine cl (hlo) ?_;push_cast -dsimp
          refine cl (hre) ?_;push_cast -dsimp [hgo,hr']
          repeat refine an ?_
          refine vv UF zfC rfl rfl (by decide) rfl (zB hkn) (by omega) (by omega) (fun g0=>?_) (fun g0 cap c1 c2=>?_)
          · push_cast -dsimp
            refine ⟨by split<;>first | omega | trivial,?_⟩
            refine vv UF zfC rfl rfl (by decide) rfl (zB hkr) (by omega) (by omega) (fun g1=>?_) (fun g1 cap c1 c2=>?_)
            · exact absurd (List.eq_nil_of_length_eq_zero (by omega)) hr
            · have hn0:zg x.data = []:=List.eq_nil_of_length_eq_zero (by omega)
              have hn1:(zg x.data).length=0:=by rw[hn0];rfl
              push_cast -dsimp
              refine ⟨by split<;>first | omega | trivial,?_⟩
              push_cast -dsimp
              refine uu [.agg (fsC f),.agg (jI ⟨0,[],_⟩),.sl 1 (zx (zg x.data++r)),.sc (.bool _),.sc (.bool _),.sc (.int .i64 (q+1))] hon rfl ?_ ?_
              · exact zI (qq rfl) (zI (qq rfl) (zI (Xw rfl (by rw[List.length_map,List.length_append];try omega) (by omega) c2 hkb hsb (by rw[hn0];exact XA ((zB hkr).trans (by rw[hsl])))) (q9 rfl)))
              · push_cast -dsimp
                exact dn (by push_cast -dsimp [zb,za,CLe,ze,e1])
          · push_cast -dsimp
            refine ⟨by split<;>first | omega | trivial,?_⟩
            refine ZZ UF zfC rfl rfl (by decide) rfl (zB hkr) rfl (by rw[List.length_append,zB hkn,List.length_replicate];omega) (by omega) (by omega) (by omega) (fun g1=>?_) (fun g1 cap2 c3 c4=>?_)
            · push_cast -dsimp
              refine ⟨by split<;>first | omega | trivial,?_⟩
              push_cast -dsimp
              refine uu [.agg (fsC f),.agg (jI ⟨0,[],_⟩),.sl 1 (zx (zg x.data++r)),.sc (.bool _),.sc (.bool _),.sc (.int .i64 (q+1))] hon rfl ?_ ?_
              · exact zI (qq rfl) (zI (qq rfl) (zI (Xw rfl (by rw[List.length_map,List.length_append];try omega) (by omega) c2 hkb hsb (by exact (vE ((zB hkn).trans (by omega)) ((zB hkr).trans (by omega))).trans Z9.symm)) (q9 rfl)))
              · push_cast -dsimp
                exact dn (by push_cast -dsimp [zb,za,CLe,ze,e1])
            · push_cast -dsimp
              refine ⟨by split<;>first | omega | trivial,?_⟩
              push_cast -dsimp
              refine uu [.agg (fsC f),.agg (jI ⟨0,[],_⟩),.sl 1 (zx (zg x.data++r)),.sc (.bool _),.sc (.bool _),.sc (.int .i64 (q+1))] hon rfl ?_ ?_
              · exact zI (qq rfl) (zI (qq rfl) (zI (Xw rfl (by rw[List.length_map,List.length_append];try omega) (by omega) c4 hkb hsb (by exact (Nb ((zB hkn).trans (by omega)) ((zB hkr).trans (by omega))).trans Z9.symm)) (q9 rfl)))
              · push_cast -dsimp
                exact dn (by push_cast -dsimp [zb,za,CLe,ze,e1])
theorem zmP {f:FsV} (hs:FsS f) (follow:Bool):∀ k,zqJ f follow k:=by
 intro k
 induction k using Nat.strongRecOn with
 | ind k ihk =>
  intro hk l
  induction l with
  | nil=>intro s dir q hq hl;exact zna hs follow k s dir q
  | cons n r ih=>intro s dir q hq hl;exact zlr hs follow k hk ihk n r ih s dir q hq hl
end
section
open CA CB
open Go.RowKit
theorem Ng (f:FsV) (hf:FsI f) (hs:FsS f) (b p:List UInt8) (follow:Bool) (hb:b.length<=100000) (hp:p.length<=100000):Fun Tryz.prog G0 52 [.agg (fsC f),.str b,.str p,.sc (.bool follow)] (.tup [.agg (jI (zH f b p follow).1),.sc (.int .i64 (zH f b p follow).2)]) 0:=by
 have hns:=zS p
 have hlo:=XW p hp
 have hre:=X0 p hp
 have hon:=fun fr=>zmP hs follow 40 (Nat.le_refl _) (zg p) ⟨0,[],fr⟩ (qo p) 0 rfl (by omega)
 unfold UO at hre
 change Fun _ _ _ _ (.agg [qe (X1 p),.own 0 9 1 (zx (zg p)),qe (qo p)]) _ at hre
 by_cases h1:p = []
 ·subst h1
  have e:zH f b [] follow=(zU,1):=by unfold zH;rw[if_pos rfl]
  refine fon Tryz.func52 ?_;dsimp only[Tryz.f52]
  push_cast -dsimp
  exact dn (by push_cast -dsimp [zb,za,CLe,ze,e,zU])
 cases h2:J0 p with
 | true =>
  rw[h2]at hlo
  have e:zH f b p follow=(zU,7):=by unfold zH;rw[if_neg h1,if_pos h2]
  refine fon Tryz.func52 ?_;dsimp only[Tryz.f52]
  push_cast -dsimp [h1]
  refine cl (hlo) ?_;push_cast -dsimp
  exact dn (by push_cast -dsimp [zb,za,CLe,ze,e,zU])
 | false =>
 rw[h2]at hlo
 cases h3:X1 p with
 | true =>
  rw[h3]at hre
  have e:zH f b p follow=onN f follow 40 (zg p) ⟨0,[],1⟩ (qo p):=by unfold zH;rw[if_neg h1,if_neg (by rw[h2];decide),if_pos h3]
  have hon:=hon 1
  refine fon Tryz.func52 ?_;dsimp only[Tryz.f52]
  push_cast -dsimp [h1]
  refine cl (hlo) ?_;push_cast -dsimp
  refine cl (hre) ?_;push_cast -dsimp
  refine cl (hon) ?_;push_cast -dsimp
  exact dn (by push_cast -dsimp [zb,za,CLe,ze,e])
 | false =>
  rw[h3]at hre
  have hh:=zg6 f hf hs b hb
  by_cases h4:(jS f b).2=0
  ·have e:zH f b p follow=onN f follow 40 (zg p) ⟨0,[],(jS f b).1⟩ (qo p):=by unfold zH;rw[if_neg h1,if_neg (by rw[h2];decide),if_neg (by rw[h3];decide),if_neg (fun q=>q h4)]
   have hon:=hon (jS f b).1
   rw[h4]at hh
   refine fon Tryz.func52 ?_;dsimp only[Tryz.f52]
   push_cast -dsimp [h1]
   refine cl (hlo) ?_;push_cast -dsimp
   refine cl (hre) ?_;push_cast -dsimp
   refine cl (hh) ?_;push_cast -dsimp
   refine cl (hon) ?_;push_cast -dsimp
   exact dn (by push_cast -dsimp [zb,za,CLe,ze,e])
  ·have e:zH f b p follow=(zU,(jS f b).2):=by unfold zH;rw[if_neg h1,if_neg (by rw[h2];decide),if_neg (by rw[h3];decide),if_pos h4]
   refine fon Tryz.func52 ?_;dsimp only[Tryz.f52]
   push_cast -dsimp [h1]
   refine cl (hlo) ?_;push_cast -dsimp
   refine cl (hre) ?_;push_cast -dsimp
   refine cl (hh) ?_;push_cast -dsimp [h4]
   exact dn (by push_cast -dsimp [zb,za,CLe,ze,e,zU])
end
section
open CA CB
open Go.RowKit
theorem zht (f:FsV) (hf:FsI f) (hs:FsS f) (b p:List UInt8) (hb:b.length<=100000) (hp:p.length<=100000):Fun Tryz.prog G0 51 [.agg (fsC f),.str b,.str p] (.sc (.bool (Jc f b p))) 0:=by
 have hsk:=Ng f hf hs b p true hb hp
 have hg:=jb (G:=G0) f (zH f b p true).1.ino (by have:=hs.len;omega)
 have e:Jc f b p=(decide ((zH f b p true).2=0)&&decide ((zf (zH f b p true).1.ino f.xs).kind=2)):=rfl
 have hno:=vF (f:=f) (b:=b) (p:=p)
 by_cases h1:(zH f b p true).2=0
 ·have h1':=eq_true h1
  rw[decide_eq_true h1,Bool.true_and]at e
  cases hh:zw (zH f b p true).1.ino f.xs with
  | false =>
   rw[hh]at hg
   rw[hno hh]
   refine fon Tryz.func51 ?_;dsimp only[Tryz.f51]
   push_cast -dsimp
   refine cl (hsk) ?_;push_cast -dsimp [h1']
   refine cl (hg) ?_;push_cast -dsimp [h1']
   exact dn (by push_cast -dsimp [zb,za,CLe,ze])
  | true =>
   rw[hh]at hg
   rw[e]
   refine fon Tryz.func51 ?_;dsimp only[Tryz.f51]
   push_cast -dsimp
   refine cl (hsk) ?_;push_cast -dsimp [h1']
   refine cl (hg) ?_;push_cast -dsimp [h1']
   exact dn (by push_cast -dsimp [zb,za,CLe,ze])
 ·have h1':=eq_false h1
  rw[decide_eq_false h1,Bool.false_and]at e
  rw[e]
  refine fon Tryz.func51 ?_;dsimp only[Tryz.f51]
  push_cast -dsimp
  refine cl (hsk) ?_;push_cast -dsimp [h1']
  refine cl (hg) ?_;push_cast -dsimp [h1']
  exact dn (by push_cast -dsimp [zb,za,CLe,ze])
theorem zaY (f:FsV) (s:zT) (hm:may s.name=false) (hnl:s.name.length<=100000) (k:Int) (t:List UInt8):Fun Tryz.prog G0 131 [.agg (fsC f),.agg (jI s),.sc (.int .i64 k),.str t] (.tup [.agg (fsC f),.sc (.int .i64 9)]) 0:=by
 have h:=Xy s.name (by omega)
 rw[hm]at h
 refine fof (fun j=>if j=13 then [false,false,false,false,false,true] else []) Tryz.func131 ?_;dsimp only[Tryz.f131]
 push_cast -dsimp
 refine cl (h) ?_;push_cast -dsimp
 exact dn (by push_cast -dsimp [zb,za,CLe,ze])
theorem zge (f:FsV) (hf:FsI f) (hs:FsS f) (hn:zhY f) (b p:List UInt8) (hb:b.length<=100000) (hp:p.length<=100000):Fun Tryz.prog G0 39 [.agg (fsC f),.str b,.str p] (.tup [.agg (fsC (mkF b f p).1),.sc (.int .i64 (mkF b f p).2)]) 0:=by
 have hsk:=Ng f hf hs b p false hb hp
 have key:Fun Tryz.prog G0 80 [.agg (fsC f),.str b,.str p,.sc (.int .i64 2),.str [],.sc (.int .i64 0)] (.tup [.agg (fsC (mkF b f p).1),.sc (.int .i64 (mkF b f p).2)]) 0:=by
  by_cases h1:(zH f b p false).2=0
  case neg =>
   have e:mkF b f p=(f,(zH f b p false).2):=by unfold mkF;rw[if_pos h1]
   have h1':=eq_false h1
   rw[e]
   refine fon Tryz.func80 ?_;dsimp only[Tryz.f80]
   push_cast -dsimp
   refine cl (hsk) ?_;push_cast -dsimp [h1']
   exact dn (by push_cast -dsimp [zb,za,CLe,ze])
  have h1':=eq_true h1
  by_cases h2:(zH f b p false).1.ino=0
  case neg =>
   have e:mkF b f p=(f,2):=by unfold mkF;rw[if_neg (fun q=>q h1),if_pos h2]
   have h2':=eq_false h2
   rw[e]
   refine fon Tryz.func80 ?_;dsimp only[Tryz.f80]
   push_cast -dsimp
   refine cl (hsk) ?_;push_cast -dsimp [h1',h2']
   exact dn (by push_cast -dsimp [zb,za,CLe,ze])
  have h2':=eq_true h2
  have e:mkF b f p=Yx f (zH f b p false).1 2 []:=by unfold mkF;rw[if_neg (fun q=>q h1),if_neg (fun q=>q h2)]
  have hnl:=kx hs b p false hp
  have hnew:Fun Tryz.prog G0 131 [.agg (fsC f),.agg (jI (zH f b p false).1),.sc (.int .i64 2),.str []] (.tup [.agg (fsC (mkF b f p).1),.sc (.int .i64 (mkF b f p).2)]) 0:=by
   rw[e]
   cases hm:may (zH f b p false).1.name with
   | false =>
    have:=zaY f (zH f b p false).1 hm hnl 2 []
    rw[show Yx f (zH f b p false).1 2 []=(f,9) by unfold Yx;rw[hm];rfl]
    exact this
   | true=>exact MP f hf hs hn _ (Vy hf (VC h1) h2 hm) hnl 2 [] (Nat.zero_le _)
  clear e
  generalize mkF b f p=R at *
  refine fon Tryz.func80 ?_;dsimp only[Tryz.f80]
  push_cast -dsimp
  refine cl (hsk) ?_;push_cast -dsimp [h1',h2']
  refine cl (hnew) ?_;push_cast -dsimp
  exact dn (by push_cast -dsimp [zb,za,CLe,ze])
 refine fon Tryz.func39 ?_;dsimp only[Tryz.f39]
 push_cast -dsimp
 refine cl (key) ?_;push_cast -dsimp
 exact dn (by push_cast -dsimp [zb,za,CLe,ze])
end
section
open CA CB
open Go.RowKit
theorem Ny {w0:qd} {N K:Nat} {d:zr} (h:MkG w0 N K d) (hN:N<=3200) (hK:K<=80000) (b p:List UInt8) (hb:b.length<=100000) (hp:p.length<=2000):Fun Tryz.prog GD 33 [Ur d,.str b,.str p] (.tup [Ur (jh b d p).1,.sc (.int .i64 (jh b d p).2)]) 0:=by
 have hs:=h.s (by omega) hK
 have hsk:=(Nl d.w.fs h.wi.fs h.wr.fs hs.ws.fs h.dat b p false hb (by omega)).g0 (G':=GD)
 obtain ⟨R,e⟩:∃ R,jh b d p=R:=⟨_,rfl⟩
 rw[e]
 unfold jh at e
 by_cases h1:(zH d.w.fs b p false).2=0
 case neg =>
  have h1':=eq_false h1
  rw[if_pos h1]at e
  rw[←e]
  refine fof (fun i=>if i=9 then [false,false,false,false,false,false,false,false,true] else []) Tryz.func33 ?_;dsimp only[Tryz.f33]
  push_cast -dsimp
  refine cl (hsk) ?_;push_cast -dsimp [h1']
  exact dn (by push_cast -dsimp [zb,za,CLe,ze])
 have h1':=eq_true h1
 rw[if_neg (fun q=>q h1)]at e
 by_cases h2:(zH d.w.fs b p false).1.ino=0
 case neg =>
  have h2':=eq_false h2
  rw[if_pos h2]at e
  rw[←e]
  refine fof (fun i=>if i=9 then [false,false,false,false,false,false,false,false,true] else []) Tryz.func33 ?_;dsimp only[Tryz.f33]
  push_cast -dsimp
  refine cl (hsk) ?_;push_cast -dsimp [h1',h2']
  exact dn (by push_cast -dsimp [zb,za,CLe,ze])
 have h2':=eq_true h2
 rw[if_neg (fun q=>q h2)]at e
 have hma:=(x4 (zH d.w.fs b p false).1.name (by have:=kx hs.ws.fs b p false (by omega);omega)).g0 (G':=GD)
 cases hm:may (zH d.w.fs b p false).1.name with
 | false =>
  rw[hm]at hma e
  rw[if_pos rfl]at e
  rw[←e]
  refine fof (fun i=>if i=9 then [false,false,false,false,false,false,false,false,true] else []) Tryz.func33 ?_;dsimp only[Tryz.f33]
  push_cast -dsimp
  refine cl (hsk) ?_;push_cast -dsimp [h1',h2']
  refine cl (hma) ?_;push_cast -dsimp
  exact dn (by push_cast -dsimp [zb,za,CLe,ze])
 | true =>
  have hok:=h.ok hN
  have hfr:=Vy h.wi.fs (VC h1) h2 hm
  rw[hm]at hma e
  rw[if_neg (by simp)]at e
  have hpa:=(zdc d.w.fs hok _ hfr.has hfr.kind hm).g0 (G':=GD)
  have hpl:=y8 hok hfr.has hfr.kind hm
  have hadd:=zoL d hs (jJ d.w.fs (zH d.w.fs b p false).1) (by omega) (zjc h.wi hok hfr h2 hm).1
  rw[e]at hadd
  have eo:opL (JF (jJ d.w.fs (zH d.w.fs b p false).1)) = [.sc (.int .i64 1),.sc (.int .i64 0),.str (jJ d.w.fs (zH d.w.fs b p false).1),.str [],.str []]:=rfl
  rw[eo]at hadd
  refine fof (fun i=>if i=9 then [false,false,false,false,false,false,false,false,true] else []) Tryz.func33 ?_;dsimp only[Tryz.f33]
  push_cast -dsimp
  refine cl (hsk) ?_;push_cast -dsimp [h1',h2']
  refine cl (hma) ?_;push_cast -dsimp
  refine cl (hpa) ?_;push_cast -dsimp
  refine cl (hadd) ?_;push_cast -dsimp
  exact dn (by push_cast -dsimp [zb,za,CLe,ze])
theorem Ve (p:List UInt8) (i:Nat):(Gs p i).length<=p.length+2:=by
 have h1:=VP p
 have h2:kj ((zg p).take (i+1))<=kj (zg p):=by
  have:zg p=(zg p).take (i+1)++(zg p).drop (i+1):=(List.take_append_drop ..).symm
  have e:kj (zg p)=kj ((zg p).take (i+1))+kj ((zg p).drop (i+1)):=by
   conv=>lhs;rw[this]
   unfold kj
   rw[List.map_append,List.sum_append]
  omega
 have h3:=Yr ((zg p).take (i+1))
 unfold Gs put
 cases X1 p<;>simp<;>omega
theorem Hq {p:List UInt8} {i:Nat} (h:i<(zg p).length):(Y8 p)[i]?=some (Gs p i):=by
 unfold Y8
 rw[List.getElem?_map,List.getElem?_range h]
 rfl
end
section
open CA CB
open Go.RowKit
def goD (b:List UInt8) (d:zr) (r:List UInt8):zr:=if Jc d.w.fs b r then d else (jh b d r).1
def goE (b:List UInt8) (d:zr) (r:List UInt8):Int:=if Jc d.w.fs b r then 0 else (jh b d r).2
def qB (b:List UInt8) (d:zr) (l:List (List UInt8)) (k:Nat):zr:=(l.take k).foldl (goD b) d
theorem Gi {b:List UInt8} {d:zr} {p:List UInt8} (h:(jh b d p).2≠0):(jh b d p).1=d:=by
 unfold jh at h ⊢
 by_cases h1:(zH d.w.fs b p false).2≠0
 ·rw[if_pos h1]
 rw[if_neg h1]at h ⊢
 by_cases h2:(zH d.w.fs b p false).1.ino≠0
 ·rw[if_pos h2]
 rw[if_neg h2]at h ⊢
 by_cases h3:may (zH d.w.fs b p false).1.name=false
 ·rw[if_pos h3]
 rw[if_neg h3]at h ⊢
 exact zfu h
theorem Nm (b r:List UInt8) (l:List (List UInt8)) (d:zr):Xr b (r :: l) d=if goE b d r≠0 then (goD b d r,goE b d r) else Xr b l (goD b d r):=by
 unfold goE goD
 show (if Jc d.w.fs b r then Xr b l d else if (jh b d r).2≠0 then (d,(jh b d r).2) else Xr b l (jh b d r).1)=_
 cases hd:Jc d.w.fs b r with
 | true=>rfl
 | false =>
  simp only[Bool.false_eq_true,if_false]
  by_cases he:(jh b d r).2≠0
  ·rw[if_pos he,if_pos he,Gi he]
  ·rw[if_neg he,if_neg he]
theorem Ys {b:List UInt8} {d:zr} {l:List (List UInt8)} {k:Nat} (h:k<l.length):qB b d l (k+1)=goD b (qB b d l k) l[k]:=by
 unfold qB
 rw[List.take_succ_eq_append_getElem h,List.foldl_append]
 rfl
theorem kP {b:List UInt8} {d:zr} {l:List (List UInt8)}:∀ k,k<=l.length->(∀ j (h:j<l.length),j<k->goE b (qB b d l j) l[j]=0)->Xr b l d=Xr b (l.drop k) (qB b d l k)
 | 0,_,_=>rfl
 | k+1,hk,h=>by
  rw[kP k (by omega) fun j hj hl=>h j hj (by omega),List.drop_eq_getElem_cons (show k<l.length by omega),Nm,if_neg (fun q=>q (h k (by omega) (by omega))),Ys (show k<l.length by omega)]
theorem N9 {b:List UInt8} {d:zr} {l:List (List UInt8)} {k:Nat} (hk:k<l.length) (h:∀ j (h:j<l.length),j<k->goE b (qB b d l j) l[j]=0) (he:goE b (qB b d l k) l[k]≠0):Xr b l d=(qB b d l (k+1),goE b (qB b d l k) l[k]):=by
 rw[kP k (by omega) h,List.drop_eq_getElem_cons hk,Nm,if_pos he,Ys hk]
theorem MV {w0:qd} {N K:Nat} {d:zr} (h:MkG w0 N K d) (b:List UInt8) {l:List (List UInt8)} (hl:N+l.length<=3200):∀ k,k<=l.length->MkG w0 (N+k) K (qB b d l k)
 | 0,_=>h
 | k+1,hk=>by
  have ih:=MV h b hl k (by omega)
  rw[Ys (show k<l.length by omega)]
  unfold goD
  split
  ·exact ih.mono (by omega) (Nat.le_refl _)
  ·exact (H3 (P:=fun _=>True) (fun _ _ _ _ _ _ _ _ _ _=>trivial) ih (by omega) trivial b _).1.mono (by split<;>omega) (Nat.le_refl _)
abbrev zeY (l:List (List UInt8)):List (List C):=l.map fun x=>[.str x]
theorem zem (p:List UInt8):Fun Tryz.prog GD 73 [.str p] (.clo (.func 122) [] [.row [.str p]]) 0:=by
 refine fon Tryz.func73 ?_;dsimp only[Tryz.f73]
 push_cast -dsimp
 exact dn (by push_cast -dsimp [zb,za,CLe,ze])
theorem zfq (p:List UInt8) (hp:p.length<=2000):Nx Tryz.prog GD 122 [] [.row [.str p]] [] (zeY (Y8 p)):=by
 have hre:Fun Tryz.prog GD 107 [.str p] (.agg [qe (X1 p),.own 0 9 1 (zx (zg p)),qe (qo p)]) 1:=(Z8 p (by omega)).g0
 have hns:=zS p
 have hput:=fun k:Nat=>(zk2 (X1 p) ((zg p).take (k+1)) false (by rw[List.length_take];omega) (by
  have h1:=Ve p k
  unfold Gs put at h1
  simp at h1
  omega)).g0 (G':=GD)
 have hk:=fun k (h:k<(zg p).length)=>Hq (p:=p) h
 have hll:(zx (zg p)).length=(zg p).length:=List.length_map ..
 have htk:=fun k:Nat=>show (zx (zg p)).take (k+1)=zx ((zg p).take (k+1)) from List.map_take.symm
 have hrl:=jA p
 have e:∀ k,put (X1 p) ((zg p).take (k+1)) false=Gs p k:=fun k=>rfl
 unfold uU at hput
 simp only[e]at hput
 clear e
 generalize zg p=ns at *
 refine foI (fun i=>if i=4 then [false,false,false,false,false,false,false,false,false,false,true] else []) Tryz.func122 ?_;dsimp only[Tryz.f122]
 intro l sf
 push_cast -dsimp
 refine cl (hre) ?_;push_cast -dsimp
 refine loop (fun k:Nat=>⟨[(0,.sc (.func (.yield l) #[] #[])),(3,.ptr 0 0),(9,.sc (.int .i64 (ns.length:Nat))),(10,.sc (.int .i64 k))],[[qe (X1 p),.sl 1 (zx ns),qe (qo p)]],0,k⟩) (fun k=>k<=ns.length/\∀ j,j<k->sf j=false) (fun k=>ns.length-k) 0 ⟨Nat.zero_le _,fun j hj=>absurd hj (Nat.not_lt_zero _)⟩ ?_ ?_
 ·exact wk (h4:=by push_cast -dsimp [zb,za,CLe,ze,hll])
 rintro k ⟨h1,h2⟩
 by_cases hi:k<ns.length
 ·have hi':=eq_true (show (k:Int)<ns.length by omega)
  have hik:(zeY (Y8 p))[k]?=some [.str (Gs p k)]:=by
   rw[List.getElem?_map,hk k hi];rfl
  have ht:=htk k
  have hpk:=hput k
  push_cast -dsimp [hi',hll,ht]
  repeat refine an ?_
  refine cl (hpk) ?_;push_cast -dsimp [hik]
  refine ⟨by push_cast -dsimp [zb,za,CLe,ze],h2,br (fun hs=>?_) (fun hs=>?_)⟩
  ·push_cast -dsimp
   exact .inr ⟨Nat.succ_pos _,hs⟩
  ·push_cast -dsimp
   repeat refine an ?_
   refine ⟨k+1,⟨by omega,fun j hj=>?_⟩,by omega,wk⟩
   rcases Nat.lt_or_ge j k with q | q
   ·exact h2 j q
   ·rw[show j=k by omega];exact hs
 ·have hi':=eq_false (show ¬(k:Int)<ns.length by omega)
  push_cast -dsimp [hi']
  exact .inl ⟨by rw[List.length_map,hrl];omega,h2⟩
theorem zgU {w0:qd} {N K:Nat} {d:zr} (h:MkG w0 N K d) (b p:List UInt8) (hN:N+(zg p).length<=3200) (hK:K<=80000) (hb:b.length<=100000) (hp:p.length<=1000):Fun Tryz.prog GD 35 [Ur d,.str b,.str p] (.tup [Ur (Gu b d p).1,.sc (.int .i64 (Gu b d p).2)]) 0:=by
 have hlo:=(Hb p (by omega)).g0 (G':=GD)
 by_cases h1:p = []
 ·have e:Gu b d p=(d,1):=if_pos h1
  rw[e]
  subst h1
  refine fon Tryz.func35 ?_;dsimp only[Tryz.f35]
  push_cast -dsimp
  exact dn (by push_cast -dsimp [zb,za,CLe,ze])
 have h1':=eq_false h1
 cases h2:J0 p with
 | true =>
  have e:Gu b d p=(d,7):=by unfold Gu;rw[if_neg h1,if_pos h2]
  rw[h2]at hlo
  rw[e]
  refine fon Tryz.func35 ?_;dsimp only[Tryz.f35]
  push_cast -dsimp [h1']
  refine cl (hlo) ?_;push_cast -dsimp
  exact dn (by push_cast -dsimp [zb,za,CLe,ze])
 | false =>
  have e:Gu b d p=Xr b (Y8 p) d:=by unfold Gu;rw[if_neg h1,if_neg (by rw[h2];decide)]
  rw[h2]at hlo
  rw[e]
  have hit:=zfq p (by omega)
  have hG:=MV h b (l:=Y8 p) (by rw[jA];exact hN)
  have hrs:∀ (k:Nat) (hk:k<(Y8 p).length),(Y8 p)[k].length<=2000:=fun k hk=>by
   have:=Hq (p:=p) (i:=k) (by rw[jA]at hk;exact hk)
   rw[List.getElem?_eq_getElem hk]at this
   have:=Ve p k
   simp_all
   omega
  have hrl:(Y8 p).length=(zg p).length:=jA p
  have hro:=zem p
  generalize Y8 p=L at *
  refine fon Tryz.func35 ?_;dsimp only[Tryz.f35]
  push_cast -dsimp [h1']
  refine cl (hlo) ?_;push_cast -dsimp
  refine cl (hro) ?_;push_cast -dsimp
  refine range (zeY L) (fun k=>match L[k]? with | some r=>!decide (goE b (qB b d L k) r=0) | none=>false) 4 (fun k=>⟨[],[zm7 (qB b d L k),[.str b],ZC,[.any]],0,0⟩) hit (by push_cast -dsimp) (by push_cast -dsimp) (by push_cast -dsimp) (Nat.zero_le _) (by push_cast -dsimp) (fun it h=>?_) (fun k _=>rfl) ?_ (fun k it hk hsf=>?_) (fun hsf=>?_)
  ·obtain ⟨x,_,rfl⟩:=List.mem_map.1 h;rfl
  ·exact wk (h5:=by push_cast -dsimp [zb,za,CLe,ze,show qB b d L 0=d from rfl])
  ·have hkl:k<L.length:=by
    have:=(List.getElem?_eq_some_iff.1 hk).1
    rwa [List.length_map]at this
   have hit:it = [.str L[k]]:=by
    rw[List.getElem?_map,List.getElem?_eq_getElem hkl]at hk
    exact (Option.some.inj hk).symm
   subst hit
   have hz:∀ j (hj:j<L.length),j<k->goE b (qB b d L j) L[j]=0:=fun j hj hl=>by
    have:=hsf j hl
    rw[List.getElem?_eq_getElem hj]at this
    simpa using this
   have hst:=N9 (b:=b) (d:=d) hkl hz
   have hsu:=Ys (b:=b) (d:=d) hkl
   have hGk:=hG k (by omega)
   have hgk:L[k]?=some L[k]:=List.getElem?_eq_getElem hkl
   have hr:=hrs k hkl
   have hs:=hGk.s (by omega) hK
   have hdi:=(zg2 (qB b d L k).w.fs hGk.wi.fs hGk.wr.fs hs.ws.fs hGk.dat b L[k] hb (by omega)).g0 (G':=GD)
   have hma:=Ny hGk (by omega) hK b L[k] hb hr
   have eE:goE b (qB b d L k) L[k]=if Jc (qB b d L k).w.fs b L[k] then 0 else (jh b (qB b d L k) L[k]).2:=rfl
   have eD:goD b (qB b d L k) L[k]=if Jc (qB b d L k).w.fs b L[k] then qB b d L k else (jh b (qB b d L k) L[k]).1:=rfl
   generalize qB b d L (k+1)=D1 at *
   generalize hDk:qB b d L k=D at *
   generalize L[k]=r at *
   cases hd:Jc D.w.fs b r with
   | true =>
    rw[hd]at hdi
    rw[hd,if_pos rfl]at eE eD
    rw[eD]at hsu
    subst hsu
    push_cast -dsimp
    refine cl (hdi) ?_;push_cast -dsimp
    refine ⟨by rw[hgk];simp[hDk,eE],wk⟩
   | false =>
    rw[hd]at hdi
    rw[hd,if_neg (by simp)]at eE eD
    rw[eD]at hsu
    rw[←hsu,←eE]at hma
    by_cases he:goE b D r=0
    ·have he':=eq_true he
     push_cast -dsimp
     refine cl (hdi) ?_;push_cast -dsimp
     refine cl (hma) ?_;push_cast -dsimp [he']
     refine ⟨by rw[hgk];simp[hDk,he],wk⟩
    ·have he':=eq_false he
     have hst:=hst he
     push_cast -dsimp
     refine cl (hdi) ?_;push_cast -dsimp
     refine cl (hma) ?_;push_cast -dsimp [he']
     have hse:=Gi (b:=b) (d:=D) (p:=r) (by rw[←eE];exact he)
     rw[hse]at hsu
     refine ⟨by rw[hgk];simp[hDk,he],⟨[],[ZC,[.any],zm7 D1,[.sc (.int .i64 (goE b D r))]],0,0⟩,rfl,wk (h5:=by push_cast -dsimp [zb,za,CLe,ze,hsu]),?_⟩
     rw[hst]
     push_cast -dsimp
     exact dn (by push_cast -dsimp [zb,za,CLe,ze])
  ·have hz:∀ j (hj:j<L.length),j<L.length->goE b (qB b d L j) L[j]=0:=fun j hj hl=>by
    have:=hsf j (by rw[List.length_map];exact hj)
    rw[List.getElem?_eq_getElem hj]at this
    simpa using this
   have hfin:=kP (b:=b) (d:=d) L.length (Nat.le_refl _) hz
   rw[List.drop_length]at hfin
   have hfin:Xr b L d=(qB b d L L.length,0):=hfin
   rw[hfin,List.length_map]
   push_cast -dsimp
   exact dn (by push_cast -dsimp [zb,za,CLe,ze])
end
section
open CA CB
open Go.RowKit
theorem Jr {l:List (List UInt8)} {i:Nat} (hi:i<l.length):qz (l.take i)+(zg l[i]).length<=qz l:=by
 have e:qz (l.take (i+1))=qz (l.take i)+(zg l[i]).length:=by
  rw[List.take_succ_eq_append_getElem hi]
  unfold qz
  rw[List.map_append,List.sum_append]
  simp
 have e2:qz l=qz (l.take (i+1))+qz (l.drop (i+1)):=by
  conv=>lhs;rw[←List.take_append_drop (i+1) l]
  unfold qz
  rw[List.map_append,List.sum_append]
 omega
structure MpI (w0:qd) (N K:Nat) (b o:List UInt8) (l:List (List UInt8)) (d:zr) (i:Nat) (D:zr):Prop where
 le:i<=l.length
 eq:D=y9 b o (l.take i) d
 g:MkG w0 (N+qz (l.take i)) (K+i) D
theorem MpI.step {w0:qd} {N K:Nat} {b o:List UInt8} {l:List (List UInt8)} {d D:zr} {i:Nat} (h:MpI w0 N K b o l d i D) (hi:i<l.length) (hN:N+qz l<=3200):MpI w0 N K b o l d (i+1) (zha b o D l[i]):=by
 have hnm:=Jr hi
 have e:qz (l.take (i+1))=qz (l.take i)+(zg l[i]).length:=by
  rw[List.take_succ_eq_append_getElem hi]
  unfold qz
  rw[List.map_append,List.sum_append]
  simp
 obtain ⟨g1,_⟩:=zeg (P:=fun _=>True) (p:=l[i]) (fun _ _ _ _ _ _ _ _ _ _=>trivial) (fun _ _ _=>trivial) b o h.g (by omega) trivial
 refine ⟨by omega,?_,g1.mono (by rw[e];omega) (by omega)⟩
 rw[List.take_succ_eq_append_getElem hi]
 unfold y9
 rw[List.foldl_append]
 show _=zha b o (y9 b o (l.take i) d) l[i]
 rw[←h.eq]
theorem VF (k:Int) (b o:List UInt8) (l:List (List UInt8)) {w0:qd} {N K:Nat} {d:zr} (hG:MkG w0 N K d) (hN:N+qz l<=3200) (hK:K+l.length<=80000) (hb:b.length<=1000) (hp:∀ x∈l,x.length<=1000):Fun Tryz.prog GD 11 [Ur d,.str b,.agg (zpd k o l)] (Ur (y9 b o l d)) 0:=by
 have hll:(zx l).length=l.length:=List.length_map ..
 have hha:=(zjU k o (.sl 1 (zx l)) 112 rfl).g0 (G':=GD)
 by_cases hc:(112:UInt8)∈o
 ·have hF:∀ i (hi:i<l.length) D,MkG w0 (N+qz (l.take i)) (K+i) D->Fun Tryz.prog GD 35 [Ur D,.str b,.str l[i]] (.tup [Ur (jv b o D l[i]).1,.sc (.int .i64 (jv b o D l[i]).2)]) 0:=fun i hi D hD=>by
   have e:jv b o D l[i]=Gu b D l[i]:=if_pos hc
   rw[e]
   exact zgU hD b l[i] (by have:=Jr hi;omega) (by omega) (by omega) (hp _ (List.getElem_mem hi))
  rw[decide_eq_true hc]at hha
  refine fon Tryz.func11 ?_;dsimp only[Tryz.f11]
  push_cast -dsimp
  refine cl (hha) ?_;push_cast -dsimp
  refine loop (fun q:Nat×zr=>⟨[(1,.str b),(3,.ptr 0 0),(5,.ptr 1 0),(6,.ptr 2 0),(7,.clo (.func 35) [] []),(15,.sl 1 (zx l)),(16,.sc (.int .i64 (l.length:Nat))),(17,.sc (.int .i64 q.1))],[zm7 q.2,zpd k o l,ZC],0,0⟩) (fun q=>MpI w0 N K b o l d q.1 q.2) (fun q=>l.length-q.1) (0,d) ⟨Nat.zero_le _,rfl,hG.mono (by omega) (by omega)⟩ ?_ ?_
  ·exact wk (h4:=by push_cast -dsimp [zb,za,CLe,ze,hll])
  rintro ⟨i,D⟩ hI
  dsimp only at hI
  have h1:=hI.le
  by_cases hi:i<l.length
  case neg =>
   have hil:i=l.length:=by omega
   have hi':=eq_false (show ¬(i:Int)<l.length by omega)
   have e:=hI.eq
   rw[hil,List.take_length]at e
   push_cast -dsimp [hi']
   rw[←e]
   exact dn (by push_cast -dsimp [zb,za,CLe,ze])
  have hN2:=hI.step hi hN
  have hi':=eq_true (show (i:Int)<l.length by omega)
  have hgi:(zx l)[i]?=some [.str l[i]]:=by simp[zx,hi]
  have hpl:=hp _ (List.getElem_mem hi)
  have hop:=hF i hi D hI.g
  have hnm:=Jr hi
  have hfr:=(Vf (P:=fun _=>True) (fun _ _ _ _ _ _ _ _ _ _=>trivial) b o (p:=l[i]) hI.g (by omega) trivial).1
  have eM:zha b o D l[i]=if (jv b o D l[i]).2≠0 then J9 (jv b o D l[i]).1 (JD 1 1 l[i] [] (jv b o D l[i]).2) else (jv b o D l[i]).1:=rfl
  generalize l[i]=p at *
  generalize jv b o D p=R at *
  by_cases he:R.2=0
  ·have he':=eq_true he
   rw[if_neg (fun q=>q he)]at eM
   rw[eM]at hN2
   push_cast -dsimp [hi',hgi,hll,Int.toNat_natCast]
   repeat refine an ?_
   refine cl (hop) ?_;push_cast -dsimp [he']
   repeat refine an ?_
   exact ⟨(i+1,R.1),hN2,by dsimp only;omega,wk⟩
  ·have he':=eq_false he
   rw[if_pos he]at eM
   rw[eM]at hN2
   have ht:=zeW R.1 (by have:=hfr.diags;omega) 1 1 p [] R.2 hpl (Nat.zero_le _)
   push_cast -dsimp [hi',hgi,hll,Int.toNat_natCast]
   repeat refine an ?_
   refine cl (hop) ?_;push_cast -dsimp [he']
   refine cl (ht) ?_;push_cast -dsimp
   repeat refine an ?_
   exact ⟨(i+1,_),hN2,by dsimp only;omega,wk (h5:=by push_cast -dsimp [zb,za,CLe,ze,J9])⟩
 ·have hF:∀ i (hi:i<l.length) D,MkG w0 (N+qz (l.take i)) (K+i) D->Fun Tryz.prog GD 33 [Ur D,.str b,.str l[i]] (.tup [Ur (jv b o D l[i]).1,.sc (.int .i64 (jv b o D l[i]).2)]) 0:=fun i hi D hD=>by
   have e:jv b o D l[i]=jh b D l[i]:=if_neg hc
   rw[e]
   exact Ny hD (by have:=Jr hi;omega) (by omega) b l[i] (by omega) (by have:=hp _ (List.getElem_mem hi);omega)
  rw[decide_eq_false hc]at hha
  refine fon Tryz.func11 ?_;dsimp only[Tryz.f11]
  push_cast -dsimp
  refine cl (hha) ?_;push_cast -dsimp
  refine loop (fun q:Nat×zr=>⟨[(1,.str b),(3,.ptr 0 0),(5,.ptr 1 0),(6,.ptr 2 0),(7,.clo (.func 33) [] []),(15,.sl 1 (zx l)),(16,.sc (.int .i64 (l.length:Nat))),(17,.sc (.int .i64 q.1))],[zm7 q.2,zpd k o l,ZC],0,0⟩) (fun q=>MpI w0 N K b o l d q.1 q.2) (fun q=>l.length-q.1) (0,d) ⟨Nat.zero_le _,rfl,hG.mono (by omega) (by omega)⟩ ?_ ?_
  ·exact wk (h4:=by push_cast -dsimp [zb,za,CLe,ze,hll])
  rintro ⟨i,D⟩ hI
  dsimp only at hI
  have h1:=hI.le
  by_cases hi:i<l.length
  case neg =>
   have hil:i=l.length:=by omega
   have hi':=eq_false (show ¬(i:Int)<l.length by omega)
   have e:=hI.eq
   rw[hil,List.take_length]at e
   push_cast -dsimp [hi']
   rw[←e]
   exact dn (by push_cast -dsimp [zb,za,CLe,ze])
  have hN2:=hI.step hi hN
  have hi':=eq_true (show (i:Int)<l.length by omega)
  have hgi:(zx l)[i]?=some [.str l[i]]:=by simp[zx,hi]
  have hpl:=hp _ (List.getElem_mem hi)
  have hop:=hF i hi D hI.g
  have hnm:=Jr hi
  have hfr:=(Vf (P:=fun _=>True) (fun _ _ _ _ _ _ _ _ _ _=>trivial) b o (p:=l[i]) hI.g (by omega) trivial).1
  have eM:zha b o D l[i]=if (jv b o D l[i]).2≠0 then J9 (jv b o D l[i]).1 (JD 1 1 l[i] [] (jv b o D l[i]).2) else (jv b o D l[i]).1:=rfl
  generalize l[i]=p at *
  generalize jv b o D p=R at *
  by_cases he:R.2=0
  ·have he':=eq_true he
   rw[if_neg (fun q=>q he)]at eM
   rw[eM]at hN2
   push_cast -dsimp [hi',hgi,hll,Int.toNat_natCast]
   repeat refine an ?_
   refine cl (hop) ?_;push_cast -dsimp [he']
   repeat refine an ?_
   exact ⟨(i+1,R.1),hN2,by dsimp only;omega,wk⟩
  ·have he':=eq_false he
   rw[if_pos he]at eM
   rw[eM]at hN2
   have ht:=zeW R.1 (by have:=hfr.diags;omega) 1 1 p [] R.2 hpl (Nat.zero_le _)
   push_cast -dsimp [hi',hgi,hll,Int.toNat_natCast]
   repeat refine an ?_
   refine cl (hop) ?_;push_cast -dsimp [he']
   refine cl (ht) ?_;push_cast -dsimp
   repeat refine an ?_
   exact ⟨(i+1,_),hN2,by dsimp only;omega,wk (h5:=by push_cast -dsimp [zb,za,CLe,ze,J9])⟩
end
section
open CA CB
open Go.RowKit
theorem zeQ {w0:qd} {N K:Nat} {d:zr} (h:MkG w0 N K d) (hN:N<=3200) (b p:List UInt8):mkF b d.w.fs p=((jh b d p).1.w.fs,(jh b d p).2):=by
 rcases km h hN b p with ⟨e1,_,e2⟩ | ⟨q,_,_,_,_,e1,e2⟩
 ·rw[e2,e1]
 ·rw[e2,e1]
theorem ze6 {w0:qd} {N K:Nat} {d:zr} (h:MkG w0 N K d) (hN:N<=3200) (hK:K<=80000) (b p:List UInt8) (hb:b.length<=100000) (hp:p.length<=100000):Fun Tryz.prog G0 39 [.agg (fsC d.w.fs),.str b,.str p] (.tup [.agg (fsC (jh b d p).1.w.fs),.sc (.int .i64 (jh b d p).2)]) 0:=by
 have hs:=(h.s (by omega) hK).ws
 have:=zge d.w.fs h.wi.fs hs.fs hs.next b p hb hp
 rw[zeQ h hN b p]at this
 exact this
theorem zhd {w0:qd} {N K:Nat} {d:zr} (h:MkG w0 N K d) (b p:List UInt8) (hN:N+(zg p).length<=3200) (hK:K<=80000) (hb:b.length<=100000) (hp:p.length<=1000):Fun Tryz.prog G0 38 [.agg (fsC d.w.fs),.str b,.str p] (.tup [.agg (fsC (Gu b d p).1.w.fs),.sc (.int .i64 (Gu b d p).2)]) 0:=by
 have hlo:=XW p (by omega)
 by_cases h1:p = []
 ·have e:Gu b d p=(d,1):=if_pos h1
  rw[e]
  subst h1
  refine fon Tryz.func38 ?_;dsimp only[Tryz.f38]
  push_cast -dsimp
  exact dn (by push_cast -dsimp [zb,za,CLe,ze])
 have h1':=eq_false h1
 cases h2:J0 p with
 | true =>
  have e:Gu b d p=(d,7):=by unfold Gu;rw[if_neg h1,if_pos h2]
  rw[h2]at hlo
  rw[e]
  refine fon Tryz.func38 ?_;dsimp only[Tryz.f38]
  push_cast -dsimp [h1']
  refine cl (hlo) ?_;push_cast -dsimp
  exact dn (by push_cast -dsimp [zb,za,CLe,ze])
 | false =>
  have e:Gu b d p=Xr b (Y8 p) d:=by unfold Gu;rw[if_neg h1,if_neg (by rw[h2];decide)]
  rw[h2]at hlo
  rw[e]
  have hre:Fun Tryz.prog G0 78 [.str p] (.agg [qe (X1 p),.own 0 9 1 (zx (zg p)),qe (qo p)]) 1:=X0 p (by omega)
  have hG:=MV h b (l:=Y8 p) (by rw[jA];exact hN)
  have hns:=zS p
  have hput:=fun k:Nat=>uB (X1 p) ((zg p).take (k+1)) false (by rw[List.length_take];omega) (by
   have h1:=Ve p k
   unfold Gs put at h1
   simp at h1
   omega)
  have hk:=fun k (h:k<(zg p).length)=>Hq (p:=p) h
  have hll:(zx (zg p)).length=(zg p).length:=List.length_map ..
  have htk:=fun k:Nat=>show (zx (zg p)).take (k+1)=zx ((zg p).take (k+1)) from List.map_take.symm
  have hrl:=jA p
  have hsz:=Ve p
  have ep:∀ k,put (X1 p) ((zg p).take (k+1)) false=Gs p k:=fun k=>rfl
  unfold uU at hput
  simp only[ep]at hput
  clear ep
  generalize zg p=ns at *
  generalize Y8 p=L at *
  refine fon Tryz.func38 ?_;dsimp only[Tryz.f38]
  push_cast -dsimp [h1']
  refine cl (hlo) ?_;push_cast -dsimp
  refine cl (hre) ?_;push_cast -dsimp
  refine loop (fun k:Nat=>⟨[(1,.str b),(3,.ptr 0 0),(6,.ptr 1 0),(8,.ptr 2 0),(9,.sc (.int .i64 ((k:Int)+1)))],[fsC (qB b d L k).w.fs,[.any,.any,.any,.any],[qe (X1 p),.sl 1 (zx ns),qe (qo p)]],0,0⟩) (fun k=>k<=ns.length/\∀ j (hj:j<L.length),j<k->goE b (qB b d L j) L[j]=0) (fun k=>ns.length-k) 0 ⟨Nat.zero_le _,fun j _ hj=>absurd hj (Nat.not_lt_zero _)⟩ ?_ ?_
  ·exact wk (h5:=by push_cast -dsimp [zb,za,CLe,ze,show qB b d L 0=d from rfl])
  rintro k ⟨g1,g2⟩
  by_cases hi:k<ns.length
  case neg =>
   have hi':=eq_false (show ¬(k:Int)+1<=ns.length by omega)
   have hkl:k=L.length:=by omega
   have hfin:=kP (b:=b) (d:=d) k (by omega) g2
   rw[hkl,List.drop_length]at hfin
   have hfin:Xr b L d=(qB b d L L.length,0):=hfin
   rw[hfin,hkl]
   rw[hkl]at hi'
   push_cast -dsimp [hi',hll]
   exact dn (by push_cast -dsimp [zb,za,CLe,ze])
  have hi':=eq_true (show (k:Int)+1<=ns.length by omega)
  have hkl:k<L.length:=by omega
  have hrow:=hk k hi
  rw[List.getElem?_eq_getElem hkl]at hrow
  have hrow:=Option.some.inj hrow
  have hst:=N9 (b:=b) (d:=d) hkl g2
  have hsu:=Ys (b:=b) (d:=d) hkl
  have hGk:=hG k (by omega)
  have hs:=hGk.s (by omega) hK
  have hpk:=hput k
  have ht:=htk k
  have hr:=hsz k
  have hnx:goE b (qB b d L k) L[k]=0->∀ j (hj:j<L.length),j<k+1->goE b (qB b d L j) L[j]=0:=fun q j hj hl=>by
   rcases Nat.lt_or_ge j k with z | z
   ·exact g2 j hj z
   ·have:j=k:=by omega
    subst this;exact q
  rw[hrow]at hst hsu hnx
  have hdi:=zht (qB b d L k).w.fs hGk.wi.fs hs.ws.fs b (Gs p k) hb (by omega)
  have hma:=ze6 hGk (by omega) hK b (Gs p k) hb (by omega)
  have eE:goE b (qB b d L k) (Gs p k)=if Jc (qB b d L k).w.fs b (Gs p k) then 0 else (jh b (qB b d L k) (Gs p k)).2:=rfl
  have eD:goD b (qB b d L k) (Gs p k)=if Jc (qB b d L k).w.fs b (Gs p k) then qB b d L k else (jh b (qB b d L k) (Gs p k)).1:=rfl
  have hkn:((k:Int)+1).toNat=k+1:=by omega
  clear hrow hk
  generalize Gs p k=r at *
  generalize hD1:qB b d L (k+1)=D1 at *
  generalize hDk:qB b d L k=D at *
  cases hd:Jc D.w.fs b r with
  | true =>
   rw[hd]at hdi
   rw[hd,if_pos rfl]at eE eD
   rw[eD]at hsu
   subst hsu
   push_cast -dsimp [hi',hll,hkn,ht]
   repeat refine an ?_
   refine cl (hpk) ?_;push_cast -dsimp
   refine cl (hdi) ?_;push_cast -dsimp
   repeat refine an ?_
   exact ⟨k+1,⟨by omega,hnx eE⟩,by omega,wk (h5:=by push_cast -dsimp [zb,za,CLe,ze,hD1])⟩
  | false =>
   rw[hd]at hdi
   rw[hd,if_neg (by simp)]at eE eD
   rw[eD]at hsu
   rw[←hsu,←eE]at hma
   by_cases he:goE b D r=0
   ·have he':=eq_true he
    push_cast -dsimp [hi',hll,hkn,ht]
    repeat refine an ?_
    refine cl (hpk) ?_;push_cast -dsimp
    refine cl (hdi) ?_;push_cast -dsimp
    refine cl (hma) ?_;push_cast -dsimp [he']
    repeat refine an ?_
    exact ⟨k+1,⟨by omega,hnx he⟩,by omega,wk (h5:=by push_cast -dsimp [zb,za,CLe,ze,hD1])⟩
   ·have he':=eq_false he
    have hst:=hst he
    have hse:=Gi (b:=b) (d:=D) (p:=r) (by rw[←eE];exact he)
    rw[hse]at hsu
    rw[hst,hsu]
    rw[hsu]at hma
    push_cast -dsimp [hi',hll,hkn,ht]
    repeat refine an ?_
    refine cl (hpk) ?_;push_cast -dsimp
    refine cl (hdi) ?_;push_cast -dsimp
    refine cl (hma) ?_;push_cast -dsimp [he']
    exact dn (by push_cast -dsimp [zb,za,CLe,ze])
theorem zeb {w0:qd} {N K:Nat} {d:zr} (h:MkG w0 N K d) (b o p:List UInt8) (hN:N+(zg p).length<=3200):(jv b o d p).1.diags=d.diags:=
 (Vf (P:=fun q=>q.diags=d.diags) (fun _ _ _ _ _ _ _ _ _ hq=>hq) b o (p:=p) h hN rfl).2
theorem zc8 (k:Int) (b o:List UInt8) (l:List (List UInt8)) {w0:qd} {N K:Nat} {d:zr} (hG:MkG w0 N K d) (h0:d.diags = []) (hN:N+qz l<=3200) (hK:K+l.length<=70000) (hb:b.length<=1000) (ho:o.length<=1000) (hp:∀ x∈l,x.length<=1000):Fun Tryz.prog G0 13 [.agg (fsC d.w.fs),.str b,zrG k o l] (.agg (zhM (y9 b o l d).w.fs (.own 0 9 1 (zx (y9 b o l d).diags)))) 1:=by
 have hll:(zx l).length=l.length:=List.length_map ..
 have hin:=ZL o 112 (by omega)
 refine fof (fun i=>if i=7 then UB [(0,.pure),(1,.pure),(2,.pure),(3,.pure),(4,.pure),(5,.pure),(6,.pure),(7,.pure),(8,.pure),(9,.pure),(10,.pure),(11,.pure),(12,.pure),(13,.flt [11]),(14,.pure)] else if i=8 then UB [(0,.pure),(1,.pure),(2,.pure),(3,.pure),(4,.pure),(5,.pure),(6,.pure),(7,.pure),(8,.pure),(9,.pure),(10,.pure),(11,.pure),(12,.pure),(13,.flt [11]),(14,.pure)] else if i=10 then [false,false,false,false,false,false,false,true,true] else []) Tryz.func13 ?_;dsimp only[Tryz.f13]
 push_cast -dsimp
 refine loop (fun q:Nat×zr=>⟨[(1,.str b),(3,.ptr 0 0),(5,.ptr 1 0),(6,.ptr 2 0),(7,.ptr 3 0),(8,.sc (.int .i64 q.1))],[[.any,.any,.any,.any],zpd k o l,zcs,zhM q.2.w.fs (.own 0 9 1 (zx q.2.diags))],1,0⟩) (fun q=>MpI w0 N K b o l d q.1 q.2) (fun q=>l.length-q.1) (0,d) ⟨Nat.zero_le _,rfl,hG.mono (by omega) (by omega)⟩ ?_ ?_
 ·exact wks [.inr (9,1)] (h5:=by push_cast -dsimp [zb,za,CLe,ze,h0,zx,List.map_nil])
 rintro ⟨i,D⟩ hI
 dsimp only at hI
 have h1:=hI.le
 by_cases hi:i<l.length
 case neg =>
  have hil:i=l.length:=by omega
  have hi':=eq_false (show ¬(i:Int)<l.length by omega)
  have e:=hI.eq
  rw[hil,List.take_length]at e
  push_cast -dsimp [hi',hll]
  rw[←e]
  exact ⟨[.inl 0],rfl,rfl,by push_cast -dsimp [zb,za,CLe,ze]⟩
 have hN2:=hI.step hi hN
 have hi':=eq_true (show (i:Int)<l.length by omega)
 have hgi:(zx l)[i]?=some [.str l[i]]:=by simp[zx,hi]
 have hpl:=hp _ (List.getElem_mem hi)
 have hnm:=Jr hi
 have hdg:=hI.g.diags
 have hsd:=zeb hI.g b o l[i] (by omega)
 have eM:zha b o D l[i]=if (jv b o D l[i]).2≠0 then J9 (jv b o D l[i]).1 (JD 1 1 l[i] [] (jv b o D l[i]).2) else (jv b o D l[i]).1:=rfl
 have e1:jv b o D l[i]=if (112:UInt8)∈o then Gu b D l[i] else jh b D l[i]:=rfl
 have hA:=zhd hI.g b l[i] (by omega) (by omega) (by omega) hpl
 have hM:=ze6 hI.g (by omega) (by omega) b l[i] (by omega) (by omega)
 generalize l[i]=p at *
 have htd:=fun e:Int=>zhE (jv b o D p).1.w.fs D.diags (by omega) 1 1 p [] e hpl (Nat.zero_le _)
 by_cases hc:(112:UInt8)∈o
 all_goals
  first
  | (rw[if_pos hc]at e1;rw[←e1]at hA;rw[decide_eq_true hc]at hin)
  | (rw[if_neg hc]at e1;rw[←e1]at hM;rw[decide_eq_false hc]at hin)
  clear e1
  generalize jv b o D p=R at *
  by_cases he:R.2=0
  ·have he':=eq_true he
   rw[if_neg (fun q=>q he)]at eM
   rw[eM]at hN2
   push_cast -dsimp [hi',hll,hgi,Int.toNat_natCast]
   repeat refine an ?_
   refine cl (hin) ?_;push_cast -dsimp [hi',hll,hgi,Int.toNat_natCast]
   repeat refine an ?_
   first
   | (refine cl (hA) ?_;push_cast -dsimp [he'])
   | (refine cl (hM) ?_;push_cast -dsimp [he'])
   refine ⟨by simp,?_⟩
   repeat refine an ?_
   exact ⟨(i+1,R.1),hN2,by dsimp only;omega,wks [.inl 0] (h5:=by push_cast -dsimp [zb,za,CLe,ze,hsd])⟩
  ·have he':=eq_false he
   rw[if_pos he]at eM
   rw[eM]at hN2
   have htd:=htd R.2
   push_cast -dsimp [hi',hll,hgi,Int.toNat_natCast]
   repeat refine an ?_
   refine cl (hin) ?_;push_cast -dsimp [hi',hll,hgi,Int.toNat_natCast]
   repeat refine an ?_
   first
   | (refine cl (hA) ?_;push_cast -dsimp [he',hgi,hll,Int.toNat_natCast])
   | (refine cl (hM) ?_;push_cast -dsimp [he',hgi,hll,Int.toNat_natCast])
   refine ⟨by simp,?_⟩
   repeat refine an ?_
   refine YF [] [0] htd rfl (by decide) (by decide) (by simp) (by push_cast -dsimp) (by push_cast -dsimp) (fun r bx' m hp=>?_)
   obtain ⟨rfl,rfl,rfl⟩:=hp
   push_cast -dsimp
   repeat refine an ?_
   exact ⟨(i+1,_),hN2,by dsimp only;omega,wks [.inl 1] (h5:=by push_cast -dsimp [zb,za,CLe,ze,J9,hsd])⟩
end
section
open CA CB
open Go.RowKit
def JL (w:qd) (b:List UInt8) (l:List (List UInt8)):Prop:=(∀ x∈l.take 20,x.length<=1000)/\okW w/\w.fs.next<549755813888/\jF w.kept<536870912/\Qy w.fs b []=true/\Jw b=true/\l.length<=6
instance (w:qd) (b:List UInt8) (l:List (List UInt8)):Decidable (JL w b l):=by unfold JL;infer_instance
theorem zaG (w:qd) (b:List UInt8) (l:List (List UInt8)) (hb:b.length<=2000000):Fun Tryz.prog G0 9 [N0 w,.str b,.sl 1 (zx l)] (qe (decide (JL w b l))) 0:=by
 have hll:(zx l).length=l.length:=List.length_map ..
 have hpl:=ZQ b hb
 unfold JP at hpl
 have hok:=zfp w
 have hsh:=uE w.fs b []
 refine fon Tryz.func9 ?_;dsimp only[Tryz.f9]
 push_cast -dsimp
 refine cl (hpl) ?_;push_cast -dsimp
 refine loop (fun i:Nat=>⟨[(1,.str b),(2,.sl 1 (zx l)),(3,.ptr 0 0),(8,.sc (.bool (Jw b))),(9,.sc (.int .i64 i))],[vC w],0,0⟩) (fun i=>i<=l.length/\i<=20/\∀ x∈l.take i,x.length<=1000) (fun i=>l.length-i) 0 ⟨Nat.zero_le _,Nat.zero_le _,fun x hx=>by rw[List.take_zero]at hx;cases hx⟩ ?_ ?_
 ·exact wk
 rintro i ⟨h1,h2,h3⟩
 by_cases hi:i<l.length
 ·have hi':=eq_true (show (i:Int)<l.length by omega)
  by_cases h20:i<20
  ·have h20':=eq_true (show (i:Int)<20 by omega)
   have hgi:(zx l)[i]?=some [.str l[i]]:=by simp[zx,hi]
   have ht:l.take (i+1)=l.take i++[l[i]]:=List.take_succ_eq_append_getElem hi
   by_cases hx:l[i].length<=1000
   ·have hx':=eq_false (show ¬(1000:Int)<l[i].length by omega)
    push_cast -dsimp [hi',h20',hgi,hll,hx',Int.toNat_natCast]
    repeat refine an ?_
    exact ⟨i+1,⟨by omega,by omega,fun x hm=>by
     rw[ht]at hm
     rcases List.mem_append.1 hm with hm | hm
     ·exact h3 x hm
     ·rw[List.mem_singleton.1 hm];exact hx⟩,by omega,wk⟩
   ·have hx':=eq_true (show (1000:Int)<l[i].length by omega)
    have hn:¬JL w b l:=fun h=>hx (h.1 _ (List.mem_take_iff_getElem.2 ⟨i,by omega,rfl⟩))
    push_cast -dsimp [hi',h20',hgi,hll,hx',Int.toNat_natCast]
    repeat refine an ?_
    exact dn (by push_cast -dsimp [zb,za,CLe,ze,hn])
  ·have h20':=eq_false (show ¬(i:Int)<20 by omega)
   have hx:∀ x∈l.take 20,x.length<=1000:=by rw[show i=20 by omega]at h3;exact h3
   by_cases k1:okW w
   case neg =>
    have hn:¬JL w b l:=fun h=>k1 h.2.1
    rw[decide_eq_false k1]at hok
    push_cast -dsimp [hi',h20',hll]
    refine cl (hok) ?_;push_cast -dsimp
    exact dn (by push_cast -dsimp [zb,za,CLe,ze,hn])
   rw[decide_eq_true k1]at hok
   have hs:=k1.2.2.2.2.1
   have hla:=Vz (G:=G0) w (by have:=(zcS k1).klen;omega) hs.1 hs.2
   by_cases k2:w.fs.next<549755813888
   case neg =>
    have hn:¬JL w b l:=fun h=>k2 h.2.2.1
    have k2':=eq_false k2
    push_cast -dsimp [hi',h20',hll]
    refine cl (hok) ?_;push_cast -dsimp [k2']
    exact dn (by push_cast -dsimp [zb,za,CLe,ze,hn])
   have k2':=eq_true k2
   by_cases k3:jF w.kept<536870912
   case neg =>
    have hn:¬JL w b l:=fun h=>k3 h.2.2.2.1
    have k3':=eq_false k3
    push_cast -dsimp [hi',h20',hll]
    refine cl (hok) ?_;push_cast -dsimp [k2']
    refine cl (hla) ?_;push_cast -dsimp [k3']
    exact dn (by push_cast -dsimp [zb,za,CLe,ze,hn])
   have k3':=eq_true k3
   cases k4:Qy w.fs b []
   case false =>
    have hn:¬JL w b l:=fun h=>by rw[h.2.2.2.2.1]at k4;cases k4
    rw[k4]at hsh
    push_cast -dsimp [hi',h20',hll]
    refine cl (hok) ?_;push_cast -dsimp [k2']
    refine cl (hla) ?_;push_cast -dsimp [k3']
    refine cl (hsh) ?_;push_cast -dsimp
    exact dn (by push_cast -dsimp [zb,za,CLe,ze,hn])
   rw[k4]at hsh
   cases k5:Jw b
   case false =>
    have hn:¬JL w b l:=fun h=>by rw[h.2.2.2.2.2.1]at k5;cases k5
    push_cast -dsimp [hi',h20',hll]
    refine cl (hok) ?_;push_cast -dsimp [k2']
    refine cl (hla) ?_;push_cast -dsimp [k3']
    refine cl (hsh) ?_;push_cast -dsimp
    exact dn (by push_cast -dsimp [zb,za,CLe,ze,hn])
   by_cases k6:l.length<=6
   ·have hn:JL w b l:=⟨hx,k1,k2,k3,k4,k5,k6⟩
    have k6':=eq_true (show (l.length:Int)<=6 by omega)
    push_cast -dsimp [hi',h20',hll]
    refine cl (hok) ?_;push_cast -dsimp [k2']
    refine cl (hla) ?_;push_cast -dsimp [k3']
    refine cl (hsh) ?_;push_cast -dsimp [hll,k6']
    exact dn (by push_cast -dsimp [zb,za,CLe,ze,hn])
   ·have hn:¬JL w b l:=fun h=>k6 h.2.2.2.2.2.2
    have k6':=eq_false (show ¬(l.length:Int)<=6 by omega)
    push_cast -dsimp [hi',h20',hll]
    refine cl (hok) ?_;push_cast -dsimp [k2']
    refine cl (hla) ?_;push_cast -dsimp [k3']
    refine cl (hsh) ?_;push_cast -dsimp [hll,k6']
    exact dn (by push_cast -dsimp [zb,za,CLe,ze,hn])
 ·have hi':=eq_false (show ¬(i:Int)<l.length by omega)
  have hx:∀ x∈l.take 20,x.length<=1000:=by
   rw[show i=l.length by omega,List.take_length]at h3
   exact fun x hm=>h3 x (List.mem_of_mem_take hm)
  by_cases k1:okW w
  case neg =>
   have hn:¬JL w b l:=fun h=>k1 h.2.1
   rw[decide_eq_false k1]at hok
   push_cast -dsimp [hi',hll]
   refine cl (hok) ?_;push_cast -dsimp
   exact dn (by push_cast -dsimp [zb,za,CLe,ze,hn])
  rw[decide_eq_true k1]at hok
  have hs:=k1.2.2.2.2.1
  have hla:=Vz (G:=G0) w (by have:=(zcS k1).klen;omega) hs.1 hs.2
  by_cases k2:w.fs.next<549755813888
  case neg =>
   have hn:¬JL w b l:=fun h=>k2 h.2.2.1
   have k2':=eq_false k2
   push_cast -dsimp [hi',hll]
   refine cl (hok) ?_;push_cast -dsimp [k2']
   exact dn (by push_cast -dsimp [zb,za,CLe,ze,hn])
  have k2':=eq_true k2
  by_cases k3:jF w.kept<536870912
  case neg =>
   have hn:¬JL w b l:=fun h=>k3 h.2.2.2.1
   have k3':=eq_false k3
   push_cast -dsimp [hi',hll]
   refine cl (hok) ?_;push_cast -dsimp [k2']
   refine cl (hla) ?_;push_cast -dsimp [k3']
   exact dn (by push_cast -dsimp [zb,za,CLe,ze,hn])
  have k3':=eq_true k3
  cases k4:Qy w.fs b []
  case false =>
   have hn:¬JL w b l:=fun h=>by rw[h.2.2.2.2.1]at k4;cases k4
   rw[k4]at hsh
   push_cast -dsimp [hi',hll]
   refine cl (hok) ?_;push_cast -dsimp [k2']
   refine cl (hla) ?_;push_cast -dsimp [k3']
   refine cl (hsh) ?_;push_cast -dsimp
   exact dn (by push_cast -dsimp [zb,za,CLe,ze,hn])
  rw[k4]at hsh
  cases k5:Jw b
  case false =>
   have hn:¬JL w b l:=fun h=>by rw[h.2.2.2.2.2.1]at k5;cases k5
   push_cast -dsimp [hi',hll]
   refine cl (hok) ?_;push_cast -dsimp [k2']
   refine cl (hla) ?_;push_cast -dsimp [k3']
   refine cl (hsh) ?_;push_cast -dsimp
   exact dn (by push_cast -dsimp [zb,za,CLe,ze,hn])
  by_cases k6:l.length<=6
  ·have hn:JL w b l:=⟨hx,k1,k2,k3,k4,k5,k6⟩
   have k6':=eq_true (show (l.length:Int)<=6 by omega)
   push_cast -dsimp [hi',hll]
   refine cl (hok) ?_;push_cast -dsimp [k2']
   refine cl (hla) ?_;push_cast -dsimp [k3']
   refine cl (hsh) ?_;push_cast -dsimp [hll,k6']
   exact dn (by push_cast -dsimp [zb,za,CLe,ze,hn])
  ·have hn:¬JL w b l:=fun h=>k6 h.2.2.2.2.2.2
   have k6':=eq_false (show ¬(l.length:Int)<=6 by omega)
   push_cast -dsimp [hi',hll]
   refine cl (hok) ?_;push_cast -dsimp [k2']
   refine cl (hla) ?_;push_cast -dsimp [k3']
   refine cl (hsh) ?_;push_cast -dsimp [hll,k6']
   exact dn (by push_cast -dsimp [zb,za,CLe,ze,hn])
theorem zgH (k:Int) (l:List (List UInt8)) (hk:k=1∨k=2∨k=3∨k=4∨k=5) (hl:l.length<=90) (hs:∀ x∈l,x.length<=1000):Fun Tryz.prog G0 10 [.sc (.int .i64 k),.sl 1 (zx l)] (.tup [zqU (Y3 (jR k :: l)).1,qe (decide ((Y3 (jR k :: l)).2 = []))]) 1:=by
 have hn:=VR k
 have hll:(zx l).length=l.length:=List.length_map ..
 have hr:=zcx (jR k :: l) (by rw[List.length_cons];omega) (fun x hx=>by
  rcases List.mem_cons.1 hx with rfl | hx
  ·rcases hk with rfl | rfl | rfl | rfl | rfl<;>decide
  ·exact hs x hx)
 have e:zx (jR k :: l) = [.str (jR k)] :: zx l:=rfl
 rw[e]at hr
 refine fof (fun i=>if i=1 then Y0 9 10 else if i=2 then [false,false,false,true] else []) Tryz.func10 ?_;dsimp only[Tryz.f10]
 push_cast -dsimp
 refine cl (hn) ?_;push_cast -dsimp
 repeat refine an ?_
 refine cl (hr) ?_;push_cast -dsimp
 exact ⟨[.inl 1],rfl,rfl,by push_cast -dsimp [zb,za,CLe,ze]⟩
end
section
theorem zf1 (k:Int) (s:List UInt8):(Yc k s 58).length<=58:=by
 unfold Yc
 refine Nat.le_trans (List.length_filter_le _ _) ?_
 simp
theorem xv (l:List (List UInt8)):(Y3 l).1.opts.length<=58/\(Y3 l).1.operands.length<=l.length/\∀ x∈(Y3 l).1.operands,x∈l:=by
 refine ⟨?_,zb8 l,?_⟩
 ·cases l with
  | nil=>exact Nat.zero_le _
  | cons w r =>
   rw[Y3]
   split
   ·exact Nat.zero_le _
   ·unfold j4
    split
    ·exact Nat.zero_le _
    ·split
     ·exact Nat.zero_le _
     ·exact zf1 _ _
 ·cases l with
  | nil=>intro x hx;cases hx
  | cons w r =>
   rw[Y3]
   split
   ·intro x hx;cases hx
   ·unfold j4
    split
    ·intro x hx;cases hx
    ·split
     ·intro x hx;cases hx
     ·exact fun x hx=>List.mem_cons_of_mem _ (List.mem_of_mem_drop hx)
theorem zgY {w:qd} {b:List UInt8} {l:List (List UInt8)} (h:JL w b l):uk w.fs.xs/\b.length<=1000:=by
 have hs:=h.2.2.2.2.1
 have hl:=(zcS h.2.1).len
 unfold Qy at hs
 simp only[Bool.and_eq_true,decide_eq_true_eq,Bool.not_eq_true',List.any_eq_false]at hs
 obtain ⟨⟨h1,h2⟩,_⟩:=hs
 rw[List.take_of_length_le (by omega)]at h1
 refine ⟨fun x hx hk=>?_,by omega⟩
 have:=h1 x hx
 unfold Z1 at this
 simp only[Bool.and_eq_true,decide_eq_true_eq,not_and]at this
 have:=this hk
 omega
theorem kG {w:qd} {b:List UInt8} {l:List (List UInt8)} (h:JL w b l):∀ x∈l,x.length<=1000:=by
 have h1:=h.1
 rw[List.take_of_length_le (by have:=h.2.2.2.2.2.2;omega)]at h1
 exact h1
theorem zao (w:List UInt8) (r:List (List UInt8)):(Y3 (w :: r)).1.operands.length<=r.length:=by
 rw[Y3]
 split
 ·exact Nat.zero_le _
 ·unfold j4
  split
  ·exact Nat.zero_le _
  ·split
   ·exact Nat.zero_le _
   ·show (r.drop _).length<=_
    rw[List.length_drop];omega
end
section
open CA CB
open Go.RowKit
def w26:qd:=⟨⟨3,9,2,[⟨1,2,0,[],1,[]⟩]⟩,[],[]⟩
theorem zi7:okW w26:=by decide
theorem zoK:MkG w26 0 0 (yh w26):=zoO zi7 (by
 intro x hx
 have:∀ x∈w26.fs.xs,x.kind=3->x.data.length<=1000:=by decide
 exact this x hx) (by decide) (by decide)
def tM:List (List UInt8):=[[109,107,100,105,114,58,32,99,97,110,110,111,116,32,99,114,101,97,116,101,32,100,105,114,101,99,116,111,114,121,32,34,97,34,58,32,70,105,108,101,32,101,120,105,115,116,115],[109,107,100,105,114,58,32,99,97,110,110,111,116,32,99,114,101,97,116,101,32,100,105,114,101,99,116,111,114,121,32,34,99,34,58,32,78,111,32,115,112,97,99,101,32,108,101,102,116,32,111,110,32,100,101,118,105,99,101]]
theorem xp:Fun Tryz.prog GD 8 [] (qe true) 0:=by
 have q0:=zhH (G:=GD) 3 9
 have q1:Fun Tryz.prog GD 12 [.agg [.sc (.int .i64 3),.sc (.int .i64 9),.sc (.int .i64 2),.sl 6 [JJ ⟨1,2,0,[],1,[]⟩],.sc (.slice none 0 0),.sc (.slice none 0 0)]] (Ur (yh w26)) 0:=Fun.less (GX w26 (by decide) zi7.2.2.2.2.1).g0 (by push_cast -dsimp [zb,za,CLe,ze,w26,zF,YZ,List.map_nil,List.map_cons])
 have q2:Fun Tryz.prog GD 11 [Ur (yh w26),.str [47],.agg [.sc (.int .i64 1),.str [112],.sl 1 [[.str [97,47,98]]]]] (Ur (y9 [47] [112] [[97,47,98]] (yh w26))) 0:=VF 1 [47] [112] [[97,47,98]] zoK (by decide) (by decide) (by decide) (by decide)
 have hM:MkG w26 (0+qz [[97,47,98]]) (0+1) (y9 [47] [112] [[97,47,98]] (yh w26)):=(ym (P:=fun _=>True) (fun _ _ _ _ _ _ _ _ _ _=>trivial) (fun _ _ _=>trivial) [47] [112] [[97,47,98]] 0 0 (yh w26) zoK (by decide) trivial).1
 obtain ⟨dA,hA⟩:∃ d,y9 [47] [112] [[97,47,98]] (yh w26)=d:=⟨_,rfl⟩
 obtain ⟨dB,hB⟩:∃ d,y9 [47] [] [[97],[99]] (y9 [47] [112] [[97,47,98]] (yh w26))=d:=⟨_,rfl⟩
 have p1:dA.ops = [JF [47,97],JF [47,97,47,98]]:=by rw[←hA];kernel_rfl
 have p2:dA.status=0:=by rw[←hA];kernel_rfl
 have p3:dB.diags=tM:=by rw[←hB];kernel_rfl
 have p4:dB.ops.length=2:=by rw[←hB];kernel_rfl
 have p5:dB.status=1:=by rw[←hB];kernel_rfl
 rw[hA]at q2 hM hB
 have q3:Fun Tryz.prog GD 11 [Ur dA,.str [47],.agg [.sc (.int .i64 1),.str [],.sl 1 [[.str [97]],[.str [99]]]]] (Ur dB) 0:=by
  rw[←hB]
  exact VF 1 [47] [] [[97],[99]] hM (by decide) (by decide) (by decide) (by decide)
 have q4:Fun Tryz.prog GD 26 [.sl 5 (dA.ops.map opL),.sl 5 [opL (JF [47,97]),opL (JF [47,97,47,98])]] (qe true) 0:=by
  have h:=zcg dA.ops [JF [47,97],JF [47,97,47,98]] (by rw[p1];decide)
  rw[show JA dA.ops [JF [47,97],JF [47,97,47,98]]=true by rw[p1];rfl]at h
  exact h.g0
 have q5:Fun Tryz.prog GD 15 [.sl 1 (zx dB.diags),.sl 1 (zx tM)] (qe true) 0:=by
  have h:=vK dB.diags tM (by rw[p3];decide)
  rw[decide_eq_true p3]at h
  exact h.g0
 have p6:((dB.ops.map opL).length:Int)=2:=by rw[List.length_map,p4];rfl
 have p7:(dA.status=0)=True:=eq_true p2
 have p8:(dB.status=1)=True:=eq_true p5
 have p9:((dB.ops.length:Int)=2)=True:=eq_true (by rw[p4];rfl)
 clear hA hB p1 p2 p3 p4 p5 hM
 refine fon Tryz.func8 ?_;dsimp only[Tryz.f8]
 push_cast -dsimp
 refine cl (q0) ?_;push_cast -dsimp
 refine cl (q1) ?_;push_cast -dsimp
 refine cl (q2) ?_;push_cast -dsimp
 refine cl (q3) ?_;push_cast -dsimp
 refine cl (q4) ?_;push_cast -dsimp [p6,p7,p8,p9]
 refine cl (q5) ?_;push_cast -dsimp [p6,p7,p8,p9]
 exact dn
end
section
open CA CB
open Go.RowKit
structure zqB (w:qd) (b:List UInt8) (l:List (List UInt8)) (c:zmB):Prop where
 g:MkG w 0 0 (yh w)
 b:b.length<=1000
 o:c.opts.length<=1000
 n:c.operands.length<=6
 p:∀ x∈c.operands,x.length<=1000
theorem zqB.of {w:qd} {b:List UInt8} {l:List (List UInt8)} (h:JL w b l):zqB w b l (Y3 (jR 1 :: l)).1:=by
 obtain ⟨p1,p2,p3⟩:=xv (jR 1 :: l)
 obtain ⟨d1,d2⟩:=zgY h
 have h6:=h.2.2.2.2.2.2
 have ht:=zao (jR 1) l
 refine ⟨zoO h.2.1 d1 (by have:=h.2.2.1;omega) (by have:=h.2.2.2.1;omega),d2,by omega,by omega,fun x hx=>?_⟩
 rcases List.mem_cons.1 (p3 x hx) with rfl | hx
 ·decide
 ·exact kG h x hx
theorem UM (w:qd) (b:List UInt8) (l:List (List UInt8)) (hb:b.length<=2000000):Fun Tryz.prog GD 3 [N0 w,.str b,.sl 1 (zx l)] (qe true) 0:=by
 have ha:=xp
 have hf:Fun Tryz.prog GD 9 _ _ 0:=(zaG w b l hb).g0
 by_cases h:JL w b l
 case neg =>
  rw[decide_eq_false h]at hf
  refine fof (fun i=>if i=6 then Y0 5 6 else []) Tryz.func3 ?_;dsimp only[Tryz.f3]
  push_cast -dsimp
  refine cl (ha) ?_;push_cast -dsimp
  refine cl (hf) ?_;push_cast -dsimp
  refine cl (ha) ?_;push_cast -dsimp
  exact dn (by push_cast -dsimp [zb,za,CLe,ze])
 rw[decide_eq_true h]at hf
 have hc:Fun Tryz.prog GD 10 _ _ 1:=(zgH 1 l (by decide) (by have:=h.2.2.2.2.2.2;omega) (kG h)).g0
 have hF:=zqB.of h
 generalize Y3 (jR 1 :: l)=rc at hc hF
 obtain ⟨⟨ck,co,cz⟩,s⟩:=rc
 dsimp only at hF hc
 have hcn:cz.length<=6:=hF.n
 have hnn:qz cz<=500*cz.length:=GA hF.p
 by_cases hs:s = []
 case neg =>
  rw[decide_eq_false hs]at hc
  refine fof (fun i=>if i=6 then Y0 5 6 else []) Tryz.func3 ?_;dsimp only[Tryz.f3]
  push_cast -dsimp
  refine cl (ha) ?_;push_cast -dsimp
  refine cl (hf) ?_;push_cast -dsimp
  refine cl (hc) ?_;push_cast -dsimp
  exact dn (by push_cast -dsimp [zb,za,CLe,ze])
 rw[decide_eq_true hs]at hc
 have q1:Fun Tryz.prog GD 12 [N0 w] (Ur (yh w)) 0:=(GX w (by have:=(zcS h.2.1).klen;omega) h.2.1.2.2.2.2.1).g0
 have q2:=VF ck b co cz hF.g (by omega) (by omega) hF.b hF.p
 have q3:Fun Tryz.prog GD 13 _ _ 1:=(zc8 ck b co cz hF.g rfl (by omega) (by omega) hF.b hF.o hF.p).g0
 obtain ⟨g1,_⟩:=ym (P:=fun _=>True) (fun _ _ _ _ _ _ _ _ _ _=>trivial) (fun _ _ _=>trivial) b co cz 0 0 (yh w) hF.g (by omega) trivial
 generalize y9 b co cz (yh w)=P at q2 q3 g1
 have hst:=g1.stat
 have q4:=zdd (G:=GD) P.w.fs P.w.fs (by have:=g1.wb.len;omega) (fun z hz=>by have:=(g1.wb.node z hz).1;omega)
 rw[decide_eq_true rfl]at q4
 have q5:Fun Tryz.prog GD 15 _ _ 0:=(vK P.diags P.diags (by have:=g1.diags;omega)).g0
 rw[decide_eq_true rfl]at q5
 have hdl:(zx P.diags).length=P.diags.length:=List.length_map ..
 by_cases hz:P.status=1
 ·have z1:=eq_true hz
  have z2:=eq_true (show (0:Int)<P.diags.length by have:=hst.1 hz;omega)
  refine fof (fun i=>if i=6 then Y0 5 6 else []) Tryz.func3 ?_;dsimp only[Tryz.f3]
  push_cast -dsimp
  refine cl (ha) ?_;push_cast -dsimp
  refine cl (hf) ?_;push_cast -dsimp
  refine cl (hc) ?_;push_cast -dsimp
  refine cl (q1) ?_;push_cast -dsimp
  refine cl (q2) ?_;push_cast -dsimp
  refine cl (q3) ?_;push_cast -dsimp
  refine cl (q4) ?_;push_cast -dsimp
  refine cl (q5) ?_;push_cast -dsimp [hdl,z1,z2]
  exact dn (by push_cast -dsimp [zb,za,CLe,ze])
 ·have z1:=eq_false hz
  have z2:=eq_false (show ¬(0:Int)<P.diags.length by
   intro q
   exact hz (hst.2 (by omega)))
  refine fof (fun i=>if i=6 then Y0 5 6 else []) Tryz.func3 ?_;dsimp only[Tryz.f3]
  push_cast -dsimp
  refine cl (ha) ?_;push_cast -dsimp
  refine cl (hf) ?_;push_cast -dsimp
  refine cl (hc) ?_;push_cast -dsimp
  refine cl (q1) ?_;push_cast -dsimp
  refine cl (q2) ?_;push_cast -dsimp
  refine cl (q3) ?_;push_cast -dsimp
  refine cl (q4) ?_;push_cast -dsimp
  refine cl (q5) ?_;push_cast -dsimp [hdl,z1,z2]
  exact dn (by push_cast -dsimp [zb,za,CLe,ze])
end
end Go.Proofs.YtaipngaejfndgaaGreatDoor.Vcg
