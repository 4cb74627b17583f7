/- The statement of DraftMakes is proved: for every input the law answers true, and each argument reads behind the call as it read before. Condition: none but what the row itself prints. -/
import Derived.Test.YtiblepfehggicaaGreatDoorDraftMakesKe
import Derived.Sort.Walk0
import Derived.Test.YtiblepfehggicaaGreatDoorCards
import Derived.Test.YtiblepfehggicaaGreatDoorTie
import Derived.WalkKit
import Derived.ProofKit
import Derived.OpenShut
import Derived.ShutString
import Derived.ChangeOld
import Derived.Below
import Derived.LaidMore
import Derived.Lay
import Derived.SevenTiedAt
import Derived.Stop.Joined
set_option linter.unusedVariables false
set_option linter.unusedSimpArgs false
set_option linter.unusedSectionVars false
set_option maxRecDepth 100000
set_option maxHeartbeats 4000000
namespace Go.Proofs.YtiblepfehggicaaGreatDoor.Vcg
section
inductive Dep (xs:List zy):Nat->Int->Prop
 | root:Dep xs 0 1
 | step {k:Nat} {n:Int} {e:zZ}:Dep xs k n->zF n xs=true->e∈(zg n xs).es->Dep xs (k+1) e.ino
theorem qY {f:FsV} (h:okV f):Vi f.xs/\Ju f/\Y1 f/\YH f/\YX f/\Q4 f/\Hn f:=by
 obtain ⟨h0,h⟩:=h
 unfold J1 at h
 refine ⟨h0,?_⟩
 split at h
 ·split at h
  ·split at h
   ·split at h
    ·split at h
     ·split at h
      ·exact ⟨by assumption,by assumption,by assumption,by assumption,by assumption,by assumption⟩
      ·cases h
     ·cases h
    ·cases h
   ·cases h
  ·cases h
 ·cases h
theorem ziN {es:List zZ}:∀ {S:List Int} {n:Int},n∈NR S es↔n∈S∨∃ e∈es,e.ino=n:=by
 induction es with
 | nil=>intro S n;simp[NR]
 | cons e r ih =>
  intro S n
  show n∈NR (XD S e.ino) r↔_
  rw[ih,kK]
  constructor
  ·rintro ((h | h) | ⟨e',he,h⟩)
   ·exact .inl h
   ·exact .inr ⟨e,List.mem_cons_self,h.symm⟩
   ·exact .inr ⟨e',List.mem_cons_of_mem _ he,h⟩
  ·rintro (h | ⟨e',he,h⟩)
   ·exact .inl (.inl h)
   ·rcases List.mem_cons.1 he with rfl | he
    ·exact .inl (.inr h.symm)
    ·exact .inr ⟨e',he,h⟩
theorem zdl {xs:List zy} {es:List zZ}:∀ {S:List Int},Xl xs S->(∀ e∈es,zF e.ino xs=true)->Xl xs (NR S es):=by
 induction es with
 | nil=>intro S h _;exact h
 | cons e r ih=>intro S h he;exact ih (h.one (he e List.mem_cons_self)) fun e' h'=>he e' (List.mem_cons_of_mem _ h')
theorem vg {xs:List zy} (h3:∀ x∈xs,∀ e∈x.es,zF e.ino xs=true):∀ (m i:Nat) (S:List Int),Xl xs S->(∀ n∈S,∃ k,Dep xs k n)->Xl xs (UC xs m i S)/\∀ n∈UC xs m i S,∃ k,Dep xs k n
 | 0,i,S,h,hd=>by unfold UC;exact ⟨h,hd⟩
 | m+1,i,S,h,hd=>by
  unfold UC
  split
  ·rename_i n hn
   have hmem:=List.mem_of_getElem? hn
   have hh:=h.has n hmem
   obtain ⟨hm,_⟩:=jf hh
   obtain ⟨k,hk⟩:=hd n hmem
   refine vg h3 m (i+1) _ (zdl h fun e he=>h3 _ hm e he) fun n' hn'=>?_
   rcases ziN.1 hn' with h' | ⟨e,he,rfl⟩
   ·exact hd n' h'
   ·exact ⟨k+1,.step hk hh he⟩
  ·exact ⟨h,hd⟩
theorem zc9 {S T:List Int} (hS:S.Nodup) (hs:∀ n∈S,n∈T) (hl:T.length<=S.length):∀ n∈T,n∈S:=by
 intro n hn
 by_cases h:n∈S
 ·exact h
 ·exfalso
  have:=H9 (S:=n :: S) (T:=T) (List.nodup_cons.2 ⟨h,hS⟩) fun m hm=>by
   rcases List.mem_cons.1 hm with rfl | hm
   ·exact hn
   ·exact hs m hm
  rw[List.length_cons]at this;omega
theorem zev {f:FsV} (h:okV f) {n:Int} (hn:zF n f.xs=true):∃ k,Dep f.xs k n:=by
 obtain ⟨_,h1,_,h3,_,h5,_⟩:=qY h
 have hroot:Xl f.xs [1]:=⟨by simp,fun n hn=>by simp at hn;subst hn;exact h1.2.2.2.2.2.2.2.1⟩
 obtain ⟨g1,g2⟩:=vg h3 (f.xs.length+1) 0 [1] hroot fun n hn=>by simp at hn;subst hn;exact ⟨0,.root⟩
 have hS:=zc9 (T:=f.xs.map (·.ino)) g1.nodup (fun m hm=>xe.1 (g1.has m hm)) (by rw[List.length_map];exact Nat.le_of_eq h5.symm) n (xe.1 hn)
 exact g2 n hS
theorem Qz {xs:List zy} {n:Int} {e:zZ} (hh:zF n xs=true) (he:e∈(zg n xs).es):(e.ino,n)∈qq xs:=by
 obtain ⟨hm,hi⟩:=jf hh
 unfold qq
 exact List.mem_flatMap.2 ⟨_,hm,List.mem_map.2 ⟨e,he,by rw[hi]⟩⟩
theorem zlG {n p:Int} {l:List (Int×Int)} (h:(n,p)∈l):1<=Vs n l:=by
 unfold Vs
 exact List.length_pos_iff.2 (List.ne_nil_of_mem (List.mem_filter.2 ⟨h,by simp⟩))
theorem zcN {n p q:Int} {l:List (Int×Int)} (hp:(n,p)∈l) (hq:(n,q)∈l) (h:Vs n l=1):p=q:=by
 unfold Vs at h
 obtain ⟨x,hx⟩:=List.length_eq_one_iff.1 h
 have h1:(n,p)∈l.filter fun p=>p.1==n:=List.mem_filter.2 ⟨hp,by simp⟩
 have h2:(n,q)∈l.filter fun p=>p.1==n:=List.mem_filter.2 ⟨hq,by simp⟩
 rw[hx]at h1 h2
 simp only[List.mem_singleton]at h1 h2
 exact congrArg Prod.snd (h1.trans h2.symm)
theorem kH {f:FsV} (h:okV f) {n:Int} (hh:zF n f.xs=true) {e:zZ} (he:e∈(zg n f.xs).es):(zg n f.xs).kind=2:=by
 obtain ⟨_,_,h2,_⟩:=qY h
 obtain ⟨hm,_⟩:=jf hh
 by_cases hk:(zg n f.xs).kind=2
 ·exact hk
 ·have:=((h2 _ hm).2.1 hk).1
  rw[this]at he;cases he
theorem Jt {f:FsV} (h:okV f) {n:Int} (hh:zF n f.xs=true) {e:zZ} (he:e∈(zg n f.xs).es):e.ino≠1:=fun h1=>by
 obtain ⟨_,hf,_,_,h4,_⟩:=qY h
 obtain ⟨hm,hi⟩:=jf hf.2.2.2.2.2.2.2.1
 have hq:=(h4 _ hm).2
 rw[if_pos hi,hi]at hq
 have:=zlG (Qz hh he)
 rw[h1]at this;omega
theorem Gt {f:FsV} (h:okV f):∀ (k k':Nat) (n:Int),Dep f.xs k n->Dep f.xs k' n->zF n f.xs=true->(zg n f.xs).kind=2->k=k'
 | 0,0,_,_,_,_,_=>rfl
 | 0,k'+1,_,h1,h2,hh,hk=>by
  cases h1
  generalize hn:(1:Int)=n at h2
  cases h2 with
  | step a b c=>exact absurd hn.symm (Jt h b c)
 | k+1,0,_,h1,h2,hh,hk=>by
  cases h2
  generalize hn:(1:Int)=n at h1
  cases h1 with
  | step a b c=>exact absurd hn.symm (Jt h b c)
 | k+1,k'+1,n,h1,h2,hh,hk=>by
  obtain ⟨_,hf,_,_,h4,_⟩:=qY h
  cases h1 with
  | @step _ p e a b c =>
   generalize hn:e.ino=n at h2 hh hk
   cases h2 with
   | @step _ p' e' a' b' c' =>
    have hp:=Qz b c
    have hp':=Qz b' c'
    rw[hn]at hp
    obtain ⟨hm,hi⟩:=jf hh
    have hq:=(h4 _ hm).2
    rw[hi]at hq
    have hne:e'.ino≠1:=Jt h b' c'
    rw[if_neg hne]at hq
    have:=zcN hp hp' (hq.2 hk).1
    subst this
    rw[Gt h k k' p a a' b (kH h b c)]
end
section
theorem Ut (n:Int):∀ xs:List zy,Vs n (qq xs)=JJ n xs
 | []=>rfl
 | x :: r=>by
  have ih:=Ut n r
  unfold JJ MN at ih ⊢
  unfold qq at ih ⊢
  rw[List.flatMap_cons,List.map_cons,List.sum_cons,←ih]
  unfold Vs JT
  rw[List.filter_append,List.length_append]
  congr 1
  induction x.es with
  | nil=>rfl
  | cons e es ie =>
   unfold Vq at ie ⊢
   rw[List.map_cons,List.filter_cons,List.filter_cons]
   by_cases h:e.ino=n
   ·simp only[h,beq_self_eq_true,if_true,decide_true,List.length_cons,ie]
   ·simp only[show (e.ino==n)=false from beq_eq_false_iff_ne.2 h,decide_eq_false h,Bool.false_eq_true,if_false,ie]
theorem ZW {f:FsV} (h:J1 f=0):Ju f/\Y1 f/\YH f/\YX f/\Q4 f/\Hn f:=by
 unfold J1 at h
 split at h
 ·split at h
  ·split at h
   ·split at h
    ·split at h
     ·split at h
      ·exact ⟨by assumption,by assumption,by assumption,by assumption,by assumption,by assumption⟩
      ·cases h
     ·cases h
    ·cases h
   ·cases h
  ·cases h
 ·cases h
theorem Mv {es:List zZ} (h:Xi es):JA es:=by
 have hadj:∀ i (h1:i+1<es.length),Op.bytesLess es[i].name es[i+1].name=true:=fun i h1=>(h (i+1) h1).2.2 (by omega)
 have key:∀ (d i:Nat) (h1:i+d+1<es.length),Op.bytesLess (es[i]'(by omega)).name es[i+d+1].name=true:=by
  intro d
  induction d with
  | zero=>intro i h1;exact hadj i h1
  | succ d ih=>intro i h1;exact Gj (ih i (by omega)) (hadj (i+d+1) (by omega))
 refine List.pairwise_iff_getElem.2 fun i j hi hj hij=>?_
 have:=key (j-i-1) i (by omega)
 have e:i+(j-i-1)+1=j:=by omega
 simp only[e]at this
 exact this
theorem zeV {f:FsV} (h:J1 f=0):FsI f:=by
 obtain ⟨h1,h2,h3,h4,h5,h6⟩:=ZW h
 obtain ⟨a1,a2,a3,a4,a5,a6,a7,a8,a9⟩:=h1
 refine ⟨a7,a6,fun x hx=>(h2 x hx).1,fun x hx=>?_,fun x hx hk=>((h2 x hx).2.1 hk).1,h3,fun x hx=>?_,a8,a9,?_⟩
 ·by_cases hk:x.kind=2
  ·exact Mv ((h2 x hx).2.2.1 hk).2
  ·rw[((h2 x hx).2.1 hk).1];exact List.Pairwise.nil
 ·rw[(h4 x hx).1,Ut]
 ·obtain ⟨b1,b2⟩:=jf a8
  have q:=(h4 _ b1).2
  rw[b2,if_pos rfl,Ut]at q
  exact q.1
theorem zpL {w:qv} (h:okW w):Xc w:=by
 obtain ⟨h1,h2,h3,h4,h5⟩:=h.2
 exact ⟨zeV h1,h4.1,h2,fun x hx=>⟨(h3 x hx).1,(h3 x hx).2.2.1⟩⟩
theorem zjO {w:qv} (h:okW w):zbo 40 w:=by
 obtain ⟨⟨g1,g2,g3,g4⟩,h1,_⟩:=h
 obtain ⟨a1,a2,a3,a4,a5,_⟩:=(ZW h1).1
 exact ⟨g2.1,fun x hx=>by obtain ⟨q1,q2,q3⟩:=g2.2 x hx;exact ⟨q2,q1,q3⟩,g4,g1,g3.1,fun x hx=>by obtain ⟨q1,q2,q3⟩:=g3.2 x hx;exact ⟨q2,q1,q3⟩,by omega,by omega⟩
theorem zbo.s {N:Nat} {w:qv} (h:zbo N w) (hi:Xc w) (hN:N<=10000):Vx w:=by
 have hr:=zct hi.fs
 have hn:=h.next
 exact ⟨⟨by have:=h.len;omega,fun x hx=>by obtain ⟨q1,q2,q3⟩:=h.node x hx;exact ⟨by omega,by omega,fun e he=>by have:=q3 e he;omega⟩⟩,⟨by omega,by omega⟩,by have:=h.klen;omega,by have:=h.plen;omega⟩
def HS (d:jo) (i:Nat) (o:OpV):jo:=
 if o.kind<1 then d else if (Yj d o).2=0 then (Yj d o).1 else ZS d (Xo (1+((i % 5:Nat):Int)) (1+((i % 22:Nat):Int)) o.a o.b (Yj d o).2)
def mkD (w:qv) (l:List OpV):Nat->jo
 | 0=>zdS w
 | i+1=>match l[i]? with
  | some o=>HS (mkD w l i) i o
  | none=>mkD w l i
structure OpS (o:OpV):Prop where
 a:o.a.length<=1000
 b:o.b.length<=1000
 d:o.d.length<=5000
structure Xp (N:Nat) (d:jo):Prop where
 wi:Xc d.w
 wb:zbo (40+N) d.w
 ops:d.ops.length<=N
 diags:d.diags.length<=N
 slot:0<=d.slot/\d.slot<=1073741824+N
theorem Xp.s {N:Nat} {d:jo} (h:Xp N d) (hN:N<=9000):QR d:=
 ⟨h.wi,h.wb.s h.wi (by omega),by have:=h.ops;omega,by have:=h.diags;omega,h.slot.1,by have:=h.slot.2;omega⟩
theorem Xp.up {N:Nat} {d:jo} (h:Xp N d):Xp (N+1) d:=⟨h.wi,h.wb.up,by have:=h.ops;omega,by have:=h.diags;omega,h.slot.1,by have:=h.slot.2;omega⟩
theorem MM {d:jo} {o:OpV} (h:(Yj d o).2≠0):(Yj d o).1=d:=by
 unfold Yj at h ⊢
 split
 ·rfl
 ·split
  ·rfl
  ·rename_i h1 h2;rw[if_neg h1,if_neg h2]at h;exact absurd rfl h
theorem zoh {N:Nat} {d:jo} (h:Xp N d) {o:OpV} (ho:o.d.length<=5000):Xp (N+1) (Yj d o).1:=by
 by_cases hz:(Yj d o).2=0
 case neg=>rw[MM hz];exact h.up
 unfold Yj at hz ⊢
 split at hz
 ·exact absurd hz (show ¬(12:Int)=0 by decide)
 rename_i hk
 rw[if_neg hk]
 split at hz
 ·rename_i hd;exact absurd hz hd
 rename_i hd
 rw[if_neg hd]
 have hs:=h.slot
 have hk7:(YP d o).kind<=7:=by show o.kind<=7;omega
 refine ⟨zpn h.wi _ hk7,doB h.wi h.wb _ ho hk7,by simp;exact h.ops,by have:=h.diags;simp only;omega,?_⟩
 simp only
 unfold YP
 simp only
 split<;>split<;>omega
theorem zkP {N:Nat} {d:jo} (h:Xp N d) {i:Nat} {o:OpV} (ho:o.d.length<=5000):Xp (N+1) (HS d i o):=by
 unfold HS
 split
 ·exact h.up
 ·split
  ·exact zoh h ho
  ·have:=h.up
   exact ⟨this.wi,this.wb,this.ops,by unfold ZS;simp;exact h.diags,this.slot⟩
theorem zdb {w:qv} (h:okW w) (hl:jQ w.kept<=1073741824) {l:List OpV} (hd:∀ o∈l,o.d.length<=5000):∀ i,Xp i (mkD w l i)
 | 0=>⟨zpL h,zjO h,Nat.zero_le _,Nat.zero_le _,(VS h.2.2.2.2.1).1,by show jQ w.kept<=_;omega⟩
 | i+1=>by
  have ih:=zdb h hl hd i
  show Xp (i+1) (match l[i]? with | some o=>HS (mkD w l i) i o | none=>mkD w l i)
  cases hg:l[i]? with
  | none=>exact ih.up
  | some o=>exact zkP ih (hd o (List.mem_of_getElem? hg))
theorem zhY {w:qv} {l:List OpV} {i:Nat} (h:i<l.length):mkD w l (i+1)=HS (mkD w l i) i l[i]:=by
 show (match l[i]? with | some o=>HS (mkD w l i) i o | none=>mkD w l i)=_
 rw[List.getElem?_eq_getElem h]
end
section
theorem Mr {f:FsV} (h:okV f):∀ (k:Nat) (n:Int),Dep f.xs k n->zF n f.xs=true->(zg n f.xs).kind=2->∃ L:List Int,L.length=k+1/\L.Nodup/\(∀ m∈L,zF m f.xs=true)/\∀ m∈L,(zg m f.xs).kind=2/\∃ j,j<=k/\Dep f.xs j m
 | 0,n,hd,hh,hk=>⟨[n],rfl,by simp,fun m hm=>by simp at hm;subst hm;exact hh,fun m hm=>by simp at hm;subst hm;exact ⟨hk,0,Nat.le_refl _,hd⟩⟩
 | k+1,_,hd,hh,hk=>by
  generalize hn:k+1=k1 at hd
  cases hd with
  | root=>cases hn
  | @step k0 p e a b c =>
   obtain rfl:k=k0:=by omega
   obtain ⟨L,l1,l2,l3,l4⟩:=Mr h k p a b (kH h b c)
   refine ⟨e.ino :: L,by simp[l1],List.nodup_cons.2 ⟨fun hm=>?_,l2⟩,fun m hm=>?_,fun m hm=>?_⟩
   ·obtain ⟨_,j,hj,hd⟩:=l4 _ hm
    have:=Gt h _ _ _ hd (.step a b c) hh hk
    omega
   ·rcases List.mem_cons.1 hm with rfl | hm
    ·exact hh
    ·exact l3 m hm
   ·rcases List.mem_cons.1 hm with rfl | hm
    ·exact ⟨hk,k+1,Nat.le_refl _,.step a b c⟩
    ·obtain ⟨q1,j,q2,q3⟩:=l4 m hm
     exact ⟨q1,j,by omega,q3⟩
theorem zeS {f:FsV} (h:okV f) {k:Nat} {n:Int} (hd:Dep f.xs k n) (hh:zF n f.xs=true) (hk:(zg n f.xs).kind=2):k<f.xs.length:=by
 obtain ⟨L,l1,l2,l3,_⟩:=Mr h k n hd hh hk
 have:=Gv l2 l3
 omega
def jg (xs:List zy):Nat->Int->List (List UInt8)->Jv
 | 0,_,_=>[]
 | m+1,n,ns=>if zF n xs then (ns,zg n xs) :: (zg n xs).es.flatMap (fun e=>jg xs m e.ino (ns++[e.name])) else []
theorem X7 {α β:Type} {l:List α} {g g':α->List β} (h:∀ a∈l,g a=g' a):l.flatMap g=l.flatMap g':=by
 induction l with
 | nil=>rfl
 | cons a r ih=>rw[List.flatMap_cons,List.flatMap_cons,h a List.mem_cons_self,ih fun b hb=>h b (List.mem_cons_of_mem _ hb)]
theorem Na {f:FsV} (h:okV f):∀ (m m' k:Nat) (n:Int) (ns:List (List UInt8)),Dep f.xs k n->k<=f.xs.length->f.xs.length+1<=m+k->f.xs.length+1<=m'+k->jg f.xs m n ns=jg f.xs m' n ns
 | 0,m',k,n,ns,hd,hk,h1,h2=>by omega
 | m+1,0,k,n,ns,hd,hk,h1,h2=>by omega
 | m+1,m'+1,k,n,ns,hd,hk,h1,h2=>by
  unfold jg
  split
  ·rename_i hh
   congr 1
   refine X7 fun e he=>?_
   have hdir:=kH h hh he
   have hlt:=zeS h hd hh hdir
   exact Na h m m' (k+1) e.ino _ (.step hd hh he) (by omega) (by omega) (by omega)
  ·rfl
abbrev trV (xs:List zy):Int->List (List UInt8)->Jv:=jg xs (xs.length+1)
theorem ziX {f:FsV} (h:okV f) {n:Int} (hh:zF n f.xs=true):∃ k,k<=f.xs.length/\Dep f.xs k n:=by
 obtain ⟨k,hd⟩:=zev h hh
 refine ⟨k,?_,hd⟩
 cases hd with
 | root=>exact Nat.zero_le _
 | step a b c=>exact zeS h a b (kH h b c)
theorem zjW {f:FsV} (h:okV f):vi f (trV f.xs):=⟨fun n ns hh=>by
 obtain ⟨k,hk,hd⟩:=ziX h hh
 show jg f.xs (f.xs.length+1) n ns=_
 rw[jg,if_pos hh]
 congr 1
 refine X7 fun e he=>?_
 have hlt:=zeS h hd hh (kH h hh he)
 exact Na h _ _ (k+1) e.ino _ (.step hd hh he) (by omega) (by omega) (by omega),fun n ns hh=>by
 show jg f.xs (f.xs.length+1) n ns=_
 rw[jg,if_neg (by rw[hh];decide)]⟩
theorem zks {f:FsV} (h:okV f):zeF f (trV f.xs):=by
 obtain ⟨p0,p1,p2,p3,_⟩:=qY h
 exact ⟨zjW h,p0,p1.2.2.2.2.2.2.1,p3,fun x hx hk=>((p2 x hx).2.1 hk).1⟩
end
section
theorem zbr (ns:List (List UInt8)) (x:List UInt8) (hne:∀ y∈ns,y≠[]):q9 (ns++[x])=uc (q9 ns) x:=by
 have hj:=Ma (ns++[x]) ns.length x (by simp)
 rw[List.take_of_length_le (by simp),List.take_left' rfl]at hj
 unfold q9
 rw[if_neg (by simp),hj]
 by_cases h:ns = []
 ·subst h;rfl
 ·have hl:ns.length≠0:=fun h0=>h (List.eq_nil_of_length_eq_zero h0)
  rw[if_neg hl,if_neg h]
  have hne47:(47 :: Lib.join ns [47])≠[47]:=fun he=>by
   have h1:Lib.join ns [47] = []:=(List.cons.inj he).2
   have h2:=XY ns h
   rw[h1]at h2
   cases ns with
   | nil=>exact h rfl
   | cons y r =>
    have:=List.length_pos_iff.2 (hne y List.mem_cons_self)
    simp at h2;omega
  unfold uc
  rw[if_neg hne47]
  simp
end
section
inductive Anc (xs:List zy) (n:Int):Nat->Int->Prop
 | same:Anc xs n 0 n
 | step {j:Nat} {p:Int} {e:zZ}:Anc xs n j p->zF p xs=true->e∈(zg p xs).es->Anc xs n (j+1) e.ino
theorem Anc.dep {xs:List zy} {n:Int} {k:Nat} (hd:Dep xs k n):∀ {j:Nat} {d:Int},Anc xs n j d->Dep xs (k+j) d
 | _,_,.same=>hd
 | _,_,.step a b c=>.step (a.dep hd) b c
theorem Anc.up {xs:List zy} {n:Int} {e:zZ} (hh:zF n xs=true) (he:e∈(zg n xs).es):∀ {j:Nat} {d:Int},Anc xs e.ino j d->Anc xs n (j+1) d
 | _,_,.same=>.step .same hh he
 | _,_,.step a b c=>.step (a.up hh he) b c
theorem Y2 {xs:List zy}:∀ (m:Nat) (n:Int) (ns:List (List UInt8)),∀ p∈jg xs m n ns,∃ j,Anc xs n j p.2.ino/\zF p.2.ino xs=true/\zg p.2.ino xs=p.2
 | 0,n,ns,p,hp=>by cases hp
 | m+1,n,ns,p,hp=>by
  unfold jg at hp
  split at hp
  ·rename_i hh
   obtain ⟨_,hi⟩:=jf hh
   rcases List.mem_cons.1 hp with rfl | hp
   ·exact ⟨0,by rw[hi];exact .same,by rw[hi];exact hh,by rw[hi]⟩
   ·obtain ⟨e,he,hp⟩:=List.mem_flatMap.1 hp
    obtain ⟨j,q1,q2⟩:=Y2 m _ _ p hp
    exact ⟨j+1,q1.up hh he,q2⟩
  ·cases hp
theorem vP {f:FsV} (h:okV f) {a b:Int}:∀ (j:Nat) (d:Int),Anc f.xs a j d->Anc f.xs b j d->zF d f.xs=true->(zg d f.xs).kind=2->a=b/\zF a f.xs=true/\(zg a f.xs).kind=2
 | 0,d,h1,h2,hh,hk=>by
  cases h1;cases h2
  exact ⟨rfl,hh,hk⟩
 | j+1,d,h1,h2,hh,hk=>by
  obtain ⟨_,_,_,_,h4,_⟩:=qY h
  cases h1 with
  | @step _ p e x y z =>
   generalize hn:e.ino=d at h2 hh hk
   cases h2 with
   | @step _ p' e' x' y' z' =>
    have hp:=Qz y z
    have hp':=Qz y' z'
    rw[hn]at hp
    obtain ⟨hm,hi⟩:=jf hh
    have hq:=(h4 _ hm).2
    rw[hi,if_neg (Jt h y' z')]at hq
    have:=zcN hp hp' (hq.2 hk).1
    subst this
    exact vP h j p x x' y (kH h y z)
theorem zkX {xs:List zy} {n:Int} {e e':zZ} (hh:zF n xs=true) (hs:[e,e'].Sublist (zg n xs).es) (hi:e.ino=e'.ino):2<=Vs e.ino (qq xs):=by
 obtain ⟨hm,hino⟩:=jf hh
 have h1:([e,e'].map fun e=>(e.ino,(zg n xs).ino)).Sublist (Vq (zg n xs) (zg n xs).es):=hs.map _
 obtain ⟨i,hi',hx⟩:=List.getElem_of_mem hm
 have h2:(Vq (zg n xs) (zg n xs).es).Sublist (qq xs):=by
  obtain ⟨s,t,hst⟩:=List.append_of_mem hm
  unfold qq
  conv=>rhs;rw[hst]
  rw[List.flatMap_append,List.flatMap_cons]
  exact (List.sublist_append_left _ _).trans (List.sublist_append_right _ _)
 have h3:=((h1.trans h2).filter fun p=>p.1==e.ino).length_le
 unfold Vs
 simpa [hi] using h3
abbrev YA (l:Jv):List Int:=(l.filter fun p=>decide (p.2.kind=2)).map fun p=>p.2.ino
theorem Vv {l:Jv} {d:Int} (h:d∈YA l):∃ p∈l,p.2.kind=2/\p.2.ino=d:=by
 obtain ⟨p,hp,rfl⟩:=List.mem_map.1 h
 obtain ⟨h1,h2⟩:=List.mem_filter.1 hp
 exact ⟨p,h1,of_decide_eq_true h2,rfl⟩
theorem XM {f:FsV} (h:okV f):∀ (m:Nat) (n:Int) (ns:List (List UInt8)),zF n f.xs=true->(YA (jg f.xs m n ns)).Nodup
 | 0,n,ns,_=>List.nodup_nil
 | m+1,n,ns,hh=>by
  obtain ⟨k,hd⟩:=zev h hh
  obtain ⟨_,_,_,h3,h4,_⟩:=qY h
  obtain ⟨hm,hi⟩:=jf hh
  have key:∀ L:List zZ,L.Sublist (zg n f.xs).es->(YA (L.flatMap fun e=>jg f.xs m e.ino (ns++[e.name]))).Nodup:=by
   intro L
   induction L with
   | nil=>intro _;exact List.nodup_nil
   | cons e r ih =>
    intro hs
    have he:e∈(zg n f.xs).es:=hs.subset List.mem_cons_self
    have hr:r.Sublist (zg n f.xs).es:=(List.sublist_cons_self e r).trans hs
    have hap:YA ((e :: r).flatMap fun e=>jg f.xs m e.ino (ns++[e.name]))=YA (jg f.xs m e.ino (ns++[e.name]))++YA (r.flatMap fun e=>jg f.xs m e.ino (ns++[e.name])):=by
     rw[List.flatMap_cons];unfold YA;rw[List.filter_append,List.map_append]
    rw[hap,List.nodup_append]
    refine ⟨XM h m e.ino _ (h3 _ hm e he),ih hr,fun d hd1 d' hd2 hdd=>?_⟩
    subst hdd
    obtain ⟨p,p1,p2,rfl⟩:=Vv hd1
    obtain ⟨p',p1',p2',p3'⟩:=Vv hd2
    obtain ⟨e',he',p1'⟩:=List.mem_flatMap.1 p1'
    obtain ⟨j,a1,a2,a3⟩:=Y2 m _ _ p p1
    obtain ⟨j',b1,b2,b3⟩:=Y2 m _ _ p' p1'
    rw[p3']at b1
    have hk:(zg p.2.ino f.xs).kind=2:=by rw[a3];exact p2
    have hdep:=Gt h _ _ _ (a1.dep (.step hd hh he)) (b1.dep (.step hd hh (hr.subset he'))) a2 hk
    obtain rfl:j=j':=by omega
    obtain ⟨q1,q2,q3⟩:=vP h j _ a1 b1 a2 hk
    have hs2:[e,e'].Sublist (zg n f.xs).es:=(List.Sublist.cons_cons e (List.singleton_sublist.2 he')).trans hs
    have h2:=zkX hh hs2 q1
    obtain ⟨hm2,hi2⟩:=jf q2
    have hq:=(h4 _ hm2).2
    rw[hi2,if_neg (Jt h hh he)]at hq
    have:=(hq.2 q3).1
    omega
  unfold jg
  rw[if_pos hh]
  by_cases hk:(zg n f.xs).kind=2
  ·have hc:YA ((ns,zg n f.xs) :: (zg n f.xs).es.flatMap fun e=>jg f.xs m e.ino (ns++[e.name]))=n :: YA ((zg n f.xs).es.flatMap fun e=>jg f.xs m e.ino (ns++[e.name])):=by
    unfold YA
    rw[List.filter_cons_of_pos (by simpa using hk),List.map_cons,hi]
   rw[hc,List.nodup_cons]
   refine ⟨fun hmem=>?_,key _ (List.Sublist.refl _)⟩
   obtain ⟨p,p1,p2,p3⟩:=Vv hmem
   obtain ⟨e,he,p1⟩:=List.mem_flatMap.1 p1
   obtain ⟨j,a1,a2,a3⟩:=Y2 m _ _ p p1
   rw[p3]at a1
   have:=Gt h _ _ _ (a1.dep (.step hd hh he)) hd hh hk
   omega
  ·have hc:YA ((ns,zg n f.xs) :: (zg n f.xs).es.flatMap fun e=>jg f.xs m e.ino (ns++[e.name]))=YA ((zg n f.xs).es.flatMap fun e=>jg f.xs m e.ino (ns++[e.name])):=by
    unfold YA
    rw[List.filter_cons_of_neg (by simpa using hk)]
   rw[hc]
   exact key _ (List.Sublist.refl _)
end
section
def UD (l:Jv):Nat:=(l.map fun p=>p.2.es.length).sum
theorem zdA (a b:Jv):UD (a++b)=UD a+UD b:=by unfold UD;rw[List.map_append,List.sum_append]
theorem ug {xs:List zy}:∀ (m:Nat) (n:Int) (ns:List (List UInt8)),(jg xs m n ns).length<=1+UD (jg xs m n ns)
 | 0,n,ns=>Nat.zero_le _
 | m+1,n,ns=>by
  unfold jg
  split
  ·have key:∀ L:List zZ,(L.flatMap fun e=>jg xs m e.ino (ns++[e.name])).length<=L.length+UD (L.flatMap fun e=>jg xs m e.ino (ns++[e.name])):=by
    intro L
    induction L with
    | nil=>exact Nat.le_refl _
    | cons e r ih =>
     rw[List.flatMap_cons,List.length_append,zdA,List.length_cons]
     have:=ug (xs:=xs) m e.ino (ns++[e.name])
     omega
   have:=key (zg n xs).es
   have hs:∀ l:Jv,UD ((ns,zg n xs) :: l)=(zg n xs).es.length+UD l:=fun l=>by unfold UD;rw[List.map_cons,List.sum_cons]
   rw[List.length_cons,hs]
   omega
  ·exact Nat.zero_le _
theorem zf4 {l:Jv} (h:∀ p∈l,p.2.es.length<=40/\(p.2.kind≠2->p.2.es = [])):UD l<=40*(YA l).length:=by
 induction l with
 | nil=>exact Nat.zero_le _
 | cons p r ih =>
  have hp:=h p List.mem_cons_self
  have ih:=ih fun q hq=>h q (List.mem_cons_of_mem _ hq)
  unfold UD at ih ⊢
  rw[List.map_cons,List.sum_cons]
  unfold YA at ih ⊢
  by_cases hk:p.2.kind=2
  ·rw[List.filter_cons_of_pos (by simpa using hk),List.map_cons,List.length_cons];omega
  ·rw[List.filter_cons_of_neg (by simpa using hk),hp.2 hk]
   simpa using ih
theorem ziG {f:FsV} (h:okV f) (m:Nat) (n:Int) (ns:List (List UInt8)):(jg f.xs m n ns).length<=1601:=by
 obtain ⟨h0,_,h2,_⟩:=qY h
 cases hh:zF n f.xs with
 | false =>
  cases m with
  | zero=>exact Nat.zero_le _
  | succ m=>unfold jg;rw[hh];exact Nat.zero_le _
 | true =>
  have h1:=ug (xs:=f.xs) m n ns
  have hg:∀ p∈jg f.xs m n ns,p.2∈f.xs:=fun p hp=>by
   obtain ⟨j,_,q2,q3⟩:=Y2 m n ns p hp
   rw[←q3];exact (jf q2).1
  have hs:=zf4 (l:=jg f.xs m n ns) fun p hp=>⟨(h0.2 _ (hg p hp)).2.1,fun hk=>((h2 _ (hg p hp)).2.1 hk).1⟩
  have hd:=Gv (XM h m n ns hh) fun d hd=>by
   obtain ⟨p,p1,_,rfl⟩:=Vv hd
   obtain ⟨_,_,q2,_⟩:=Y2 m n ns p p1
   exact q2
  have:=h0.1
  omega
def zfM (ns:List (List UInt8)):Nat:=(ns.map fun x=>x.length+1).sum
theorem ME (ns:List (List UInt8)) (x:List UInt8):zfM (ns++[x])=zfM ns+(x.length+1):=by
 unfold zfM;rw[List.map_append,List.sum_append];simp
theorem Zw {xs:List zy} (h0:Vi xs):∀ (m:Nat) (n:Int) (ns:List (List UInt8)),∀ p∈jg xs m n ns,p.1.length<=ns.length+m/\zfM p.1<=zfM ns+m*301
 | 0,n,ns,p,hp=>by cases hp
 | m+1,n,ns,p,hp=>by
  unfold jg at hp
  split at hp
  ·rename_i hh
   obtain ⟨hm,_⟩:=jf hh
   rcases List.mem_cons.1 hp with rfl | hp
   ·exact ⟨Nat.le_add_right _ _,Nat.le_add_right _ _⟩
   ·obtain ⟨e,he,hp⟩:=List.mem_flatMap.1 hp
    obtain ⟨q1,q2⟩:=Zw h0 m _ _ p hp
    have:=(h0.2 _ hm).2.2 e he
    rw[ME]at q2
    rw[List.length_append,List.length_singleton]at q1
    exact ⟨by omega,by omega⟩
  ·cases hp
theorem QP (ns:List (List UInt8)):(Lib.join ns [47]).length<=zfM ns:=by
 by_cases h:ns = []
 ·subst h;exact Nat.zero_le _
 ·have:=XY ns h
  unfold zfM;omega
theorem zgg {f:FsV} (h:okV f) (n:Int) (ns:List (List UInt8)) (h1:ns.length<=100000) (h2:zfM ns<=100000):yR (trV f.xs) n ns:=by
 obtain ⟨h0,_⟩:=qY h
 refine ⟨Nat.le_trans (ziG h _ n ns) (by decide),fun p hp=>?_⟩
 obtain ⟨q1,q2⟩:=Zw h0 _ n ns p hp
 have:=QP p.1
 have:=h0.1
 exact ⟨by omega,by omega⟩
end
section
theorem ku {xs:List zy}:∀ (m:Nat) (n:Int) (ns:List (List UInt8)) (j:Nat) (d:Int),Anc xs n j d->j<m->zF n xs=true->(∀ x∈xs,∀ e∈x.es,zF e.ino xs=true)->∃ p∈jg xs m n ns,p.2.ino=d
 | 0,n,ns,j,d,ha,hj,hh,h3=>by omega
 | m+1,n,ns,0,d,ha,hj,hh,h3=>by
  cases ha
  obtain ⟨_,hi⟩:=jf hh
  refine ⟨(ns,zg n xs),?_,hi⟩
  unfold jg
  rw[if_pos hh]
  exact List.mem_cons_self
 | m+1,n,ns,j+1,d,ha,hj,hh,h3=>by
  have key:∀ (j:Nat) (d:Int),Anc xs n (j+1) d->∃ e∈(zg n xs).es,Anc xs e.ino j d:=by
   intro j
   induction j with
   | zero =>
    intro d ha
    cases ha with
    | step a b c=>cases a;exact ⟨_,c,.same⟩
   | succ j ih =>
    intro d ha
    cases ha with
    | step a b c =>
     obtain ⟨e,he,h⟩:=ih _ a
     exact ⟨e,he,.step h b c⟩
  obtain ⟨e,he,h⟩:=key j d ha
  obtain ⟨hm,_⟩:=jf hh
  obtain ⟨p,p1,p2⟩:=ku m e.ino (ns++[e.name]) j d h (by omega) (h3 _ hm e he) h3
  refine ⟨p,?_,p2⟩
  unfold jg
  rw[if_pos hh]
  exact List.mem_cons_of_mem _ (List.mem_flatMap.2 ⟨e,he,p1⟩)
theorem zeu {xs:List zy}:∀ {k:Nat} {n:Int},Dep xs k n->Anc xs 1 k n
 | _,_,.root=>.same
 | _,_,.step a b c=>.step (zeu a) b c
theorem zjh {f:FsV} (h:okV f) {n:Int} (hh:zF n f.xs=true):∃ p∈trV f.xs 1 [],p.2.ino=n:=by
 obtain ⟨_,h1,_,h3,_⟩:=qY h
 obtain ⟨k,hk,hd⟩:=ziX h hh
 exact ku _ 1 [] k n (zeu hd) (by omega) h1.2.2.2.2.2.2.2.1 h3
theorem NI {f:FsV} {m:Nat} {n:Int} {ns:List (List UInt8)} {p:List (List UInt8)×zy} (hp:p∈jg f.xs m n ns):zF p.2.ino f.xs=true/\zg p.2.ino f.xs=p.2:=by
 obtain ⟨_,_,q⟩:=Y2 m n ns p hp
 exact q
theorem Hy:∀ {l:Jv} {n:Int},(YA l).Nodup->(∀ p∈l,p.2.ino=n->p.2.kind=2)->(∃ p∈l,p.2.ino=n)->∃ p,l.filter (fun p=>decide (p.2.ino=n)) = [p]
 | [],n,_,_,⟨p,hp,_⟩=>by cases hp
 | q :: l,n,hn,hk,hex=>by
  have hk':∀ p∈l,p.2.ino=n->p.2.kind=2:=fun p hp=>hk p (List.mem_cons_of_mem _ hp)
  by_cases hq:q.2.ino=n
  ·have hk2:=hk q List.mem_cons_self hq
   have hc:YA (q :: l)=q.2.ino :: YA l:=by
    unfold YA;rw[List.filter_cons_of_pos (by simpa using hk2),List.map_cons]
   rw[hc,List.nodup_cons,hq]at hn
   have he:l.filter (fun p=>decide (p.2.ino=n)) = []:=by
    rw[List.filter_eq_nil_iff]
    intro p hp hpn
    have hpn:=of_decide_eq_true hpn
    refine hn.1 ?_
    exact List.mem_map.2 ⟨p,List.mem_filter.2 ⟨hp,by simpa using hk' p hp hpn⟩,hpn⟩
   exact ⟨q,by rw[List.filter_cons_of_pos (by simpa using hq),he]⟩
  ·have hn':(YA l).Nodup:=by
    unfold YA at hn ⊢
    by_cases hk2:q.2.kind=2
    ·rw[List.filter_cons_of_pos (by simpa using hk2),List.map_cons,List.nodup_cons]at hn;exact hn.2
    ·rw[List.filter_cons_of_neg (by simpa using hk2)]at hn;exact hn
   obtain ⟨p,hp,hpn⟩:=hex
   have hpl:p∈l:=by
    rcases List.mem_cons.1 hp with rfl | hp
    ·exact absurd hpn hq
    ·exact hp
   obtain ⟨p',h⟩:=Hy hn' hk' ⟨p,hpl,hpn⟩
   exact ⟨p',by rw[List.filter_cons_of_neg (by simpa using hq)];exact h⟩
theorem zfd {f:FsV} (h:okV f) {n:Int} (hh:zF n f.xs=true) (hk:(zg n f.xs).kind=2):∃ p,V7 n (trV f.xs 1 []) = [p]/\U7 n (trV f.xs 1 [])=some p:=by
 obtain ⟨_,h1,_⟩:=qY h
 have hkk:∀ p∈trV f.xs 1 [],p.2.ino=n->p.2.kind=2:=fun p hp hpn=>by
  obtain ⟨_,q⟩:=NI hp
  rw[hpn]at q;rw[←q];exact hk
 obtain ⟨p,hp⟩:=Hy (XM h _ 1 [] h1.2.2.2.2.2.2.2.1) hkk (zjh h hh)
 refine ⟨q9 p.1,by unfold V7;rw[hp];rfl,?_⟩
 unfold U7
 have he:(fun q:List (List UInt8)×zy=>decide (q.2.ino=n)&&decide (q.2.kind=2))=fun q=>decide (q.2.ino=n)&&decide (q.2.kind=2):=rfl
 rw[←List.head?_filter]
 have hf:(trV f.xs 1 []).filter (fun q=>decide (q.2.ino=n)&&decide (q.2.kind=2))=(trV f.xs 1 []).filter fun q=>decide (q.2.ino=n):=by
  refine List.filter_congr fun q hq=>?_
  by_cases hqn:q.2.ino=n
  ·simp[hqn,hkk q hq hqn]
  ·simp[hqn]
 rw[hf,hp];rfl
end
section
theorem vE {xs:List zy} (hm:∀ x∈xs,∀ e∈x.es,may e.name=true):∀ (m:Nat) (n:Int) (ns:List (List UInt8)),∀ p∈jg xs m n ns,∃ zs,p.1=ns++zs/\∀ z∈zs,may z=true
 | 0,n,ns,p,hp=>by unfold jg at hp;cases hp
 | m+1,n,ns,p,hp=>by
  unfold jg at hp
  split at hp
  ·rename_i hh
   rcases List.mem_cons.1 hp with rfl | hp
   ·exact ⟨[],by simp,fun z hz=>by cases hz⟩
   ·obtain ⟨e,he,hp⟩:=List.mem_flatMap.1 hp
    obtain ⟨zs,h1,h2⟩:=vE hm m e.ino _ p hp
    refine ⟨e.name :: zs,by rw[h1,List.append_assoc];rfl,fun z hz=>?_⟩
    rcases List.mem_cons.1 hz with rfl | hz
    ·exact hm _ (jf hh).1 e he
    ·exact h2 z hz
  ·cases hp
theorem zcQ {es:List zZ} (h:Xi es):es.Pairwise fun a b=>a.name≠b.name:=by
 have key:∀ (d i:Nat) (hj:i+d+1<es.length),es[i].name<es[i+d+1].name:=by
  intro d
  induction d with
  | zero =>
   intro i hj
   have h1:=(h (i+1) hj).2.2 (by omega)
   rw[bytesLess_eq]at h1
   exact of_decide_eq_true h1
  | succ d ih =>
   intro i hj
   have h1:=(h (i+(d+1)+1) hj).2.2 (by omega)
   rw[bytesLess_eq]at h1
   have h1:=of_decide_eq_true h1
   have h2:=ih i (by omega)
   exact List.lt_trans h2 h1
 refine List.pairwise_iff_getElem.2 fun i j hi hj hij he=>?_
 obtain ⟨d,rfl⟩:∃ d,j=i+d+1:=⟨j-i-1,by omega⟩
 have h1:=key d i hj
 rw[he]at h1
 exact List.lt_irrefl _ h1
theorem MT {f:FsV} (h:okV f):(∀ x∈f.xs,∀ e∈x.es,may e.name=true)/\∀ x∈f.xs,x.es.Pairwise fun a b=>a.name≠b.name:=by
 obtain ⟨_,_,h2,_⟩:=qY h
 have key:∀ x∈f.xs,Xi x.es:=fun x hx=>by
  by_cases hk:x.kind=2
  ·exact ((h2 x hx).2.2.1 hk).2
  ·rw[((h2 x hx).2.1 hk).1];intro i hi;simp at hi
 refine ⟨fun x hx e he=>?_,fun x hx=>zcQ (key x hx)⟩
 obtain ⟨i,hi,rfl⟩:=List.getElem_of_mem he
 exact (key x hx i hi).1
end
section
open CA CB
open Go.RowKit
def xE (p n:List UInt8):List UInt8:=if Lib.hasSuffix p [47] then p++n else p++[47]++n
theorem Nh (p n:List UInt8) (hp:p.length<=1000000) (hn:n.length<=1000000):Fun Tryz.prog G0 13 [.str p,.str n] (.str (xE p n)) 0:=by
 have h:=Zg p [47] hp
 cases hs:Lib.hasSuffix p [47] with
 | true =>
  have e:xE p n=p++n:=by unfold xE;rw[hs,if_pos rfl]
  rw[hs]at h
  refine Fun.of (fun _=>[]) Tryz.func13 rfl (zi rfl) (by kernel_rfl) ?_;dsimp only[Tryz.f13]
  push_cast -dsimp
  refine cl (h) ?_;push_cast -dsimp
  (try simp only[lS]);repeat refine And.intro (by omega) ?_
  exact ⟨[],rfl,rfl,by push_cast -dsimp [zb,za,CLe,zd,e]⟩
 | false =>
  have e:xE p n=p++[47]++n:=by unfold xE;rw[hs];rfl
  rw[hs]at h
  refine Fun.of (fun _=>[]) Tryz.func13 rfl (zi rfl) (by kernel_rfl) ?_;dsimp only[Tryz.f13]
  push_cast -dsimp
  refine cl (h) ?_;push_cast -dsimp
  (try simp only[lS]);repeat refine And.intro (by omega) ?_
  exact ⟨[],rfl,rfl,by push_cast -dsimp [zb,za,CLe,zd,e]⟩
theorem zn5 {f:FsV} (h:okV f) {n:Int} (hh:zF n f.xs=true) (hk:(zg n f.xs).kind=2) :
  ∃ ns,(∀ z∈ns,may z=true)/\ns.length<=41/\zfM ns<=20000/\V7 n (trV f.xs 1 []) = [q9 ns]/\U7 n (trV f.xs 1 [])=some (q9 ns):=by
 obtain ⟨h0,h1,_⟩:=qY h
 have hkk:∀ p∈trV f.xs 1 [],p.2.ino=n->p.2.kind=2:=fun p hp hpn=>by
  obtain ⟨_,q⟩:=NI hp
  rw[hpn]at q;rw[←q];exact hk
 obtain ⟨p,hp⟩:=Hy (XM h _ 1 [] h1.2.2.2.2.2.2.2.1) hkk (zjh h hh)
 obtain ⟨q,q1,q2⟩:=zfd h hh hk
 have hq:V7 n (trV f.xs 1 []) = [q9 p.1]:=by unfold V7;rw[hp];rfl
 rw[hq]at q1
 have hqe:q9 p.1=q:=by simpa using q1
 have hpm:p∈trV f.xs 1 []:=(List.mem_filter.1 (by rw[hp];exact List.mem_singleton.2 rfl)).1
 obtain ⟨zs,z1,z2⟩:=vE (MT h).1 _ 1 [] p hpm
 obtain ⟨t1,t2⟩:=Zw h0 _ 1 [] p hpm
 have t3:=QP p.1
 have t4:zfM []=0:=rfl
 have h40:=h0.1
 rw[List.nil_append]at z1
 rw[←z1]at z2
 simp only[List.length_nil,t4]at t1 t2
 exact ⟨p.1,z2,by omega,by omega,hq,by rw[q2,hqe]⟩
def vM (f:FsV) (s:qM):List UInt8:=uc ((U7 s.dir (trV f.xs 1 [])).getD []) s.name
theorem zeN (f:FsV) (h:okV f) (s:qM) (hh:zF s.dir f.xs=true) (hk:(zg s.dir f.xs).kind=2) (hm:may s.name=true):Fun Tryz.prog G0 17 [.agg (fsC f),.agg (YB s)] (.str (vM f s)) 0:=by
 obtain ⟨ns,n1,n2,n3,n4,n5⟩:=zn5 h hh hk
 have hp:=M5 f s.dir _ (zks h) (zgg h 1 [] (by decide) (by decide))
 have hml:=xC hm
 have hjw:=QP ns
 have hjl:(q9 ns).length<=20001:=by unfold q9;split<;>simp<;>omega
 have hr:=zgp (q9 ns) (by omega)
 unfold zil at hr
 rw[Ql ns fun z hz=>vo (n1 z hz)]at hr
 have hj:=Xu (ns++[s.name]) (by simp;omega) (by
  have a1:=QP (ns++[s.name])
  rw[ME]at a1
  omega)
 rw[zbr ns s.name fun y hy=>(vo (n1 y hy)).1]at hj
 have e:vM f s=uc (q9 ns) s.name:=by unfold vM;rw[n5];rfl
 rw[n5]at hp
 have hsl:(qZ ns).length=ns.length:=List.length_map ..
 refine Fun.of (fun i=>if i=2 then [false,false,false,false,false,false,true,false,false] else []) Tryz.func17 rfl (zi rfl) (by kernel_rfl) ?_;dsimp only[Tryz.f17]
 push_cast -dsimp
 refine cl (hp) ?_;push_cast -dsimp [Option.getD_some,Option.isSome_some]
 refine cl (hr) ?_;push_cast -dsimp
 (try simp only[lS]);repeat refine And.intro (by omega) ?_
 refine cl (hj) ?_;push_cast -dsimp
 exact ⟨[],rfl,rfl,by push_cast -dsimp [zb,za,CLe,zd,e]⟩
end
section
open CA CB
open Go.RowKit
theorem Fun.gd0 {f:FuncId} {args:List C} {r:C} {n:Nat} (h:Fun Tryz.prog G0 f args r n):Fun Tryz.prog GD f args r n:=h.glob0
def QI (w:qv) (l:List OpV):Bool:=decide (okW w)&&(decide (w.fs.next<549755813888)&&(zjl l&&(decide (l.length<=30)&&decide (jQ w.kept<536870912))))
theorem zaY (w:qv) (l:List OpV):Fun Tryz.prog G0 8 [jv w,.sl 5 (GQ l)] (qD (QI w l)) 0:=by
 have h1:=zdd w
 have h2:=zhU l
 have hll:=Qc l
 by_cases c1:okW w
 case neg =>
  have e:QI w l=false:=by unfold QI;rw[decide_eq_false c1];rfl
  rw[decide_eq_false c1]at h1
  refine Fun.of (fun _=>[]) Tryz.func8 rfl (zi rfl) (by kernel_rfl) ?_;dsimp only[Tryz.f8]
  push_cast -dsimp
  refine cl (h1) ?_;push_cast -dsimp
  exact ⟨[],rfl,rfl,by push_cast -dsimp [zb,za,CLe,zd,e]⟩
 rw[decide_eq_true c1]at h1
 by_cases c2:w.fs.next<549755813888
 case neg =>
  have e:QI w l=false:=by unfold QI;rw[decide_eq_true c1,decide_eq_false c2];rfl
  refine Fun.of (fun _=>[]) Tryz.func8 rfl (zi rfl) (by kernel_rfl) ?_;dsimp only[Tryz.f8]
  push_cast -dsimp
  refine cl (h1) ?_;push_cast -dsimp [c2]
  exact ⟨[],rfl,rfl,by push_cast -dsimp [zb,za,CLe,zd,e]⟩
 cases c3:zjl l with
 | false =>
  have e:QI w l=false:=by unfold QI;rw[decide_eq_true c1,decide_eq_true c2,c3];rfl
  rw[c3]at h2
  refine Fun.of (fun _=>[]) Tryz.func8 rfl (zi rfl) (by kernel_rfl) ?_;dsimp only[Tryz.f8]
  push_cast -dsimp
  refine cl (h1) ?_;push_cast -dsimp [c2]
  refine cl (h2) ?_;push_cast -dsimp
  exact ⟨[],rfl,rfl,by push_cast -dsimp [zb,za,CLe,zd,e]⟩
 | true =>
  rw[c3]at h2
  by_cases c4:l.length<=30
  ·have c4':((l.length:Int)<=30)=True:=eq_true (by omega)
   have hk:=(zjO c1).klen
   have h3:=NQ (G:=G0) w (by omega) c1.2.2.2.2.1.1 c1.2.2.2.2.1.2
   have e:QI w l=decide (jQ w.kept<536870912):=by unfold QI;rw[decide_eq_true c1,decide_eq_true c2,c3,decide_eq_true c4];rfl
   refine Fun.of (fun _=>[]) Tryz.func8 rfl (zi rfl) (by kernel_rfl) ?_;dsimp only[Tryz.f8]
   push_cast -dsimp
   refine cl (h1) ?_;push_cast -dsimp [c2]
   refine cl (h2) ?_;push_cast -dsimp [hll,c4']
   refine cl (h3) ?_;push_cast -dsimp
   exact ⟨[],rfl,rfl,by push_cast -dsimp [zb,za,CLe,zd,e]⟩
  ·have c4':((l.length:Int)<=30)=False:=eq_false (by omega)
   have e:QI w l=false:=by unfold QI;rw[decide_eq_true c1,decide_eq_true c2,c3,decide_eq_false c4];rfl
   refine Fun.of (fun _=>[]) Tryz.func8 rfl (zi rfl) (by kernel_rfl) ?_;dsimp only[Tryz.f8]
   push_cast -dsimp
   refine cl (h1) ?_;push_cast -dsimp [c2]
   refine cl (h2) ?_;push_cast -dsimp [hll,c4']
   exact ⟨[],rfl,rfl,by push_cast -dsimp [zb,za,CLe,zd,e]⟩
theorem zaq {w:qv} {l:List OpV} (h:QI w l=true):okW w/\jQ w.kept<=1073741824/\l.length<=30/\∀ o∈l,OpS o:=by
 unfold QI at h
 simp only[Bool.and_eq_true,decide_eq_true_eq]at h
 obtain ⟨h1,h2,h3,h4,h5⟩:=h
 refine ⟨h1,by omega,h4,fun o ho=>?_⟩
 unfold zjl at h3
 simp only[Bool.and_eq_true,decide_eq_true_eq]at h3
 have:=List.all_eq_true.1 h3.1 o (by rw[List.take_of_length_le (by omega)];exact ho)
 unfold okO at this
 simp only[Bool.and_eq_true,Bool.not_eq_true',Bool.or_eq_false_iff,decide_eq_true_eq,decide_eq_false_iff_not]at this
 exact ⟨by omega,by omega,by omega⟩
theorem uk (o:OpV):opL o = [.sc (.int .i64 o.kind),.sc (.int .i64 o.slot),.str o.a,.str o.b,.str o.d]:=rfl
theorem OpS.short {o:OpV} (h:OpS o):short o:=⟨by have:=h.a;omega,by have:=h.b;omega,by have:=h.d;omega⟩
theorem zbk (w:qv) (l:List OpV) (hw:okW w) (hl:jQ w.kept<=1073741824) (h30:l.length<=30) (ho:∀ o∈l,OpS o):Fun Tryz.prog GD 9 [jv w,.sl 5 (GQ l)] (.tup [zar (mkD w l l.length),zar (mkD w l l.length),.sc (.bool true)]) 0:=by
 have hk:=(zjO hw).klen
 have h1:=(ud (G:=G0) w (by omega)).gd0
 have h2:=(zej w (by omega) hw.2.2.2.2.1).gd0
 have hll:=Qc l
 have hB:=zdb hw hl fun o h=>(ho o h).d
 refine Fun.of (fun i=>if i=7 then kl 9 10 else if i=8 then kl 9 10 else if i=10 then kN [(0,.pure),(1,.pure),(2,.flt [1]),(3,.flt []),(4,.pure)] else if i=16 then kN [(0,.pure),(1,.pure),(2,.flt [1]),(3,.flt []),(4,.pure)] else if i=14 then [false,false,false,false,false,false,false,false,false,false,false,false,false,false,false,false,false,false,false,true] else if i=15 then [false,false,false,false,false,false,false,false,false,false,false,false,false,false,false,false,false,false,false,true] else []) Tryz.func9 rfl (zi rfl) (by kernel_rfl) ?_;dsimp only[Tryz.f9]
 push_cast -dsimp
 refine cl (h1) ?_;push_cast -dsimp
 refine cl (h2) ?_;push_cast -dsimp
 refine loop (fun i:Nat=>⟨[(1,.sl 5 (GQ l)),(4,.ptr 1 0),(5,.ptr 2 0),(7,.ptr 3 0),(8,.ptr 4 0),(9,.sc (.int .i64 i))],[[.any,.any,.any,.any,.any,.any],[.any,.any,.any,.any,.any,.any,.any,.any,.any,.any],[.any,.any,.any,.any,.any,.any,.any,.any,.any,.any],zoE (mkD w l i),zoE (mkD w l i)],0,0⟩) (fun i=>i<=l.length) (fun i=>l.length-i) 0 (Nat.zero_le _) ?_ ?_
 ·exact zH.mk [] rfl rfl (Nat.zero_le _) rfl (by push_cast -dsimp [zb,za,CLe,zd]) (by push_cast -dsimp [zb,za,CLe,zd,mkD,zdS])
 intro i hi
 by_cases h:i<l.length
 case neg =>
  have hil:i=l.length:=by omega
  subst hil
  push_cast -dsimp [hll,Int.lt_irrefl]
  exact ⟨[],rfl,rfl,by push_cast -dsimp [zb,za,CLe,zd]⟩
 have g:=Hp l i h
 have hsu:=zhY (w:=w) h
 have hbi:=hB i
 have hoi:=ho _ (List.getElem_mem h)
 have hds:=hbi.s (by omega)
 have hdg:=hbi.diags
 generalize hd':mkD w l (i+1)=d' at hsu
 generalize mkD w l i=d at hsu hbi hds hdg
 generalize l[i]=o at g hsu hoi
 have hra:=(zhQ d hds o hoi.short (by have:=hoi.d;omega)).gd0
 have hrt:=(zex d (by omega) (1+((i % 5:Nat):Int)) (1+((i % 22:Nat):Int)) o.a o.b (Yj d o).2 hoi.a hoi.b).gd0
 have hpt:=Np d (by omega) (1+((i % 5:Nat):Int)) (1+((i % 22:Nat):Int)) o.a o.b (Yj d o).2 hoi.a hoi.b
 by_cases c1:o.kind<1
 ·have e:d'=d:=by rw[hsu];unfold HS;rw[if_pos c1]
  subst e
  rw[uk]at g
  push_cast -dsimp [hll,h,g,c1]
  (try simp only[lS]);repeat refine And.intro (by omega) ?_
  exact ⟨i+1,h,by omega,zH.mk [] rfl rfl (Nat.zero_le _) rfl (by push_cast -dsimp [zb,za,CLe,zd]) (by push_cast -dsimp [zb,za,CLe,zd,hd'])⟩
 by_cases c2:(Yj d o).2=0
 ·have e:d'=(Yj d o).1:=by rw[hsu];unfold HS;rw[if_neg c1,if_pos c2]
  subst e
  have hpa:=GF d hds o hoi.short (by have:=hoi.d;omega) c2
  rw[c2]at hra
  rw[uk]at g hpa hra
  push_cast -dsimp [hll,h,g,c1]
  (try simp only[lS]);repeat refine And.intro (by omega) ?_
  refine cl (hpa) ?_;push_cast -dsimp [hll,h,g]
  (try simp only[lS]);repeat refine And.intro (by omega) ?_
  refine cl (hra) ?_;push_cast -dsimp
  (try simp only[lS]);repeat refine And.intro (by omega) ?_
  exact ⟨i+1,h,by omega,zH.mk [] rfl rfl (Nat.zero_le _) rfl (by push_cast -dsimp [zb,za,CLe,zd]) (by push_cast -dsimp [zb,za,CLe,zd,hd'])⟩
 ·have e:d'=ZS d (Xo (1+((i % 5:Nat):Int)) (1+((i % 22:Nat):Int)) o.a o.b (Yj d o).2):=by rw[hsu];unfold HS;rw[if_neg c1,if_neg c2]
  subst e
  have hpa:=zdM d hds o hoi.short (by have:=hoi.d;omega) c2 _ _ rfl rfl
  rw[MM c2]at hra
  rw[uk]at g hpa hra
  push_cast -dsimp [hll,h,g,c1]
  (try simp only[lS]);repeat refine And.intro (by omega) ?_
  refine cl (hpa) ?_;push_cast -dsimp [hll,h,g]
  (try simp only[lS]);repeat refine And.intro (by omega) ?_
  refine cl (hra) ?_;push_cast -dsimp [hll,h,g,c2]
  (try simp only[lS]);repeat refine And.intro (by omega) ?_
  refine cl (hpt) ?_;push_cast -dsimp [hll,h,g]
  (try simp only[lS]);repeat refine And.intro (by omega) ?_
  have htl:∀ x,(ZS d x).ops=d.ops:=fun _=>rfl
  refine cl (hrt) ?_;push_cast -dsimp
  (try simp only[lS]);repeat refine And.intro (by omega) ?_
  exact ⟨i+1,h,by omega,zH.mk [] rfl rfl (Nat.zero_le _) rfl (by push_cast -dsimp [zb,za,CLe,zd]) (by push_cast -dsimp [zb,za,CLe,zd,hd',htl])⟩
end
section
open CA CB
open Go.RowKit
def kJ:FsV:=⟨4,9,9,[⟨1,2,0,[],1,[⟨[97],4⟩,⟨[98],3⟩]⟩,⟨3,1,1,[121],0,[]⟩,⟨4,1,1,[122],0,[]⟩]⟩
def Xm:qv:=⟨kJ,[],[]⟩
def ve:List OpV:=[⟨7,0,[47,97],[],[]⟩,⟨7,99,[47,98],[],[]⟩,⟨8,0,[47,98],[],[]⟩]
theorem Qq:okW Xm:=by decide
theorem zcq:okV kJ:=⟨Qq.1.2.1,Qq.2.1⟩
theorem MU:Fun Tryz.prog G0 29 [] (jv Xm) 0:=by
 have h1:=zim (G:=G0) 4 9
 have h2:=jV (G:=G0) ⟨4,9,9,[⟨1,2,0,[],1,[]⟩]⟩ ⟨1,2,0,[],1,[⟨[97],4⟩,⟨[98],3⟩]⟩ (by decide)
 have h3:=Gm (G:=G0) ⟨4,9,9,[⟨1,2,0,[],1,[⟨[97],4⟩,⟨[98],3⟩]⟩]⟩ ⟨3,1,1,[121],0,[]⟩ rfl (by decide)
 have h4:=Gm (G:=G0) ⟨4,9,9,[⟨1,2,0,[],1,[⟨[97],4⟩,⟨[98],3⟩]⟩,⟨3,1,1,[121],0,[]⟩]⟩ ⟨4,1,1,[122],0,[]⟩ rfl (by decide)
 have e2:qH ⟨1,2,0,[],1,[⟨[97],4⟩,⟨[98],3⟩]⟩ [⟨1,2,0,[],1,[]⟩] = [⟨1,2,0,[],1,[⟨[97],4⟩,⟨[98],3⟩]⟩]:=by decide
 have e3:qH ⟨3,1,1,[121],0,[]⟩ [⟨1,2,0,[],1,[⟨[97],4⟩,⟨[98],3⟩]⟩] = [⟨1,2,0,[],1,[⟨[97],4⟩,⟨[98],3⟩]⟩,⟨3,1,1,[121],0,[]⟩]:=by decide
 have e4:qH ⟨4,1,1,[122],0,[]⟩ [⟨1,2,0,[],1,[⟨[97],4⟩,⟨[98],3⟩]⟩,⟨3,1,1,[121],0,[]⟩]=kJ.xs:=by decide
 simp only[e2]at h2
 simp only[e3]at h3
 simp only[e4]at h4
 refine Fun.of (fun _=>[]) Tryz.func29 rfl (zi rfl) (by kernel_rfl) ?_;dsimp only[Tryz.f29]
 push_cast -dsimp
 refine cl (h1) ?_;push_cast -dsimp
 refine cl (h2) ?_;push_cast -dsimp
 refine cl (h3) ?_;push_cast -dsimp
 refine cl (h4) ?_;push_cast -dsimp
 exact ⟨[],rfl,rfl,by push_cast -dsimp [zb,za,CLe,zd,Xm,kJ]⟩
theorem GE (i:Nat) (hi:i<=3):QR (mkD Xm ve i):=(zdb Qq (by decide) (fun o ho=>by
 have:∀ o∈ve,o.d.length<=5000:=by decide
 exact this o ho) i).s (by omega)
theorem zpZ:vM kJ ⟨1,[110],0⟩ = [47,110]:=by decide
end
section
open CA CB
open Go.RowKit
theorem Qg:Fun Tryz.prog GD 7 [] (qD true) 0:=by
 obtain ⟨d1,hd1⟩:∃ d,(Yj (zdS Xm) ⟨7,0,[47,97],[],[]⟩).1=d:=⟨_,rfl⟩
 obtain ⟨d2,hd2⟩:∃ d,(Yj d1 ⟨7,99,[47,98],[],[]⟩).1=d:=⟨_,rfl⟩
 have s0:QR (zdS Xm):=GE 0 (by decide)
 have s1:QR d1:=by
  have e:mkD Xm ve 1=d1:=by rw[←hd1];decide
  rw[←e];exact GE 1 (by decide)
 have s2:QR d2:=by
  have e:mkD Xm ve 2=d2:=by rw[←hd2,←hd1];decide
  rw[←e];exact GE 2 (by decide)
 have z1:(Yj (zdS Xm) ⟨7,0,[47,97],[],[]⟩).2=0:=by decide
 have z2:(Yj d1 ⟨7,99,[47,98],[],[]⟩).2=0:=by rw[←hd1];decide
 have z3:(Yj d2 ⟨8,0,[47,98],[],[]⟩).2=12:=by rw[←hd2,←hd1];decide
 have p1:d2.ops = [⟨7,1,[47,97],[],[]⟩,⟨7,2,[47,98],[],[]⟩]:=by rw[←hd2,←hd1];decide
 have p2:d2.slot=2:=by rw[←hd2,←hd1];decide
 have p3:d2.diags = []:=by rw[←hd2,←hd1];decide
 have p4:(zdS Xm).slot=0:=rfl
 have p5:Xo 2 2 [120] [] 1 = [114,109,58,32,99,97,110,110,111,116,32,114,101,109,111,118,101,32,34,120,34,58,32,78,111,32,115,117,99,104,32,102,105,108,101,32,111,114,32,100,105,114,101,99,116,111,114,121]:=by decide
 have q0:=(ud (G:=G0) Xm (by decide)).gd0
 have q1:=GF (zdS Xm) s0 ⟨7,0,[47,97],[],[]⟩ ⟨by decide,by decide,by decide⟩ (by decide) z1
 have q2:=GF d1 s1 ⟨7,99,[47,98],[],[]⟩ ⟨by decide,by decide,by decide⟩ (by decide) z2
 have q3:=zdM d2 s2 ⟨8,0,[47,98],[],[]⟩ ⟨by decide,by decide,by decide⟩ (by decide) (by rw[z3];decide) _ _ rfl rfl
 have q4:=Np d2 (by rw[p3];decide) 2 2 [120] [] 1 (by decide) (by decide)
 have hsm:=MU.gd0
 have q5:=(zeN kJ zcq ⟨1,[110],0⟩ (by decide) (by decide) (by decide)).gd0
 have q6:=(Nh [97] [98] (by decide) (by decide)).gd0
 have q7:=(Nh [97,47] [98] (by decide) (by decide)).gd0
 rw[hd1]at q1
 rw[hd2]at q2
 rw[z3]at q3
 rw[p5]at q4
 rw[zpZ]at q5
 rw[show xE [97] [98] = [97,47,98] from rfl]at q6
 rw[show xE [97,47] [98] = [97,47,98] from rfl]at q7
 rw[uk]at q1 q2 q3
 have p6:(ZS d2 ([114,109,58,32,99,97,110,110,111,116,32,114,101,109,111,118,101,32,34,120,34,58,32,78,111,32,115,117,99,104,32,102,105,108,101,32,111,114,32,100,105,114,101,99,116,111,114,121])).diags = [[114,109,58,32,99,97,110,110,111,116,32,114,101,109,111,118,101,32,34,120,34,58,32,78,111,32,115,117,99,104,32,102,105,108,101,32,111,114,32,100,105,114,101,99,116,111,114,121]]:=by unfold ZS;rw[p3];rfl
 have p7:(ZS d2 ([114,109,58,32,99,97,110,110,111,116,32,114,101,109,111,118,101,32,34,120,34,58,32,78,111,32,115,117,99,104,32,102,105,108,101,32,111,114,32,100,105,114,101,99,116,111,114,121])).status=1:=rfl
 rw[p6]at q4
 simp only[zar,zoE,zmI,p1,p2,List.map_cons,List.map_nil]at q2 q3 q4
 refine Fun.of (fun _=>[]) Tryz.func7 rfl (zi rfl) (by kernel_rfl) ?_;dsimp only[Tryz.f7]
 dsimp only[List.append_eq,List.cons_append,List.nil_append]
 push_cast -dsimp
 refine cl (hsm) ?_;push_cast -dsimp
 refine cl (q0) ?_;push_cast -dsimp
 refine cl (q1) ?_;push_cast -dsimp
 refine cl (q2) ?_;push_cast -dsimp
 refine cl (q3) ?_;push_cast -dsimp
 refine cl (q4) ?_;push_cast -dsimp [p4,p7,opL]
 refine cl (q5) ?_;push_cast -dsimp
 refine cl (q6) ?_;push_cast -dsimp
 refine cl (q7) ?_;push_cast -dsimp
 exact ⟨[],rfl,rfl,by push_cast -dsimp [zb,za,CLe,zd]⟩
theorem Mo (l:List OpV):Yb l l=true:=(J7 l l).2 ⟨rfl,fun j h h'=>by unfold zi1;simp⟩
theorem zfb (ops:List OpV) (diags:List (List UInt8)) (s:Int) (h1:ops.length<=100000) (h2:diags.length<=100000):Fun Tryz.prog G0 28 [.agg [.sl 5 (ops.map opL),.sl 1 (qZ diags),.sc (.int .i64 s)],.agg [.sl 5 (ops.map opL),.sl 1 (qZ diags),.sc (.int .i64 s)]] (qD true) 0:=by
 have q1:=zdv ops ops h1
 have q2:=zgw diags diags (by omega)
 rw[Mo]at q1
 rw[decide_eq_true rfl]at q2
 refine Fun.of (fun _=>[]) Tryz.func28 rfl (zi rfl) (by kernel_rfl) ?_;dsimp only[Tryz.f28]
 push_cast -dsimp
 refine cl (q1) ?_;push_cast -dsimp
 refine cl (q2) ?_;push_cast -dsimp
 exact ⟨[],rfl,rfl,by push_cast -dsimp [zb,za,CLe,zd]⟩
theorem zfz (d:jo) (h:QR d) (hp:∀ z∈d.w.pool,z.es.length<=9223372036854775807):Fun Tryz.prog G0 10 [zar d,zar d] (qD true) 0:=by
 have hs:=h.ws
 have q1:=zbT d.w d.w (by have:=hs.fs.len;omega) (by have:=hs.pool;omega) (by have:=hs.kept;omega) (fun z hz=>by have:=(hs.fs.node z hz).1;omega) hp
 have q2:=zfb d.ops d.diags d.status (by have:=h.ops;omega) (by have:=h.diags;omega)
 rw[decide_eq_true rfl]at q1
 refine Fun.of (fun _=>[]) Tryz.func10 rfl (zi rfl) (by kernel_rfl) ?_;dsimp only[Tryz.f10]
 push_cast -dsimp
 refine cl (q1) ?_;push_cast -dsimp
 refine cl (q2) ?_;push_cast -dsimp
 exact ⟨[],rfl,rfl,by push_cast -dsimp [zb,za,CLe,zd]⟩
theorem U6 (w:qv) (l:List OpV):Fun Tryz.prog GD 3 [jv w,.sl 5 (GQ l)] (qD true) 0:=by
 have h1:=(zaY w l).gd0
 cases hf:QI w l with
 | false =>
  rw[hf]at h1
  refine Fun.of (fun _=>[]) Tryz.func3 rfl (zi rfl) (by kernel_rfl) ?_;dsimp only[Tryz.f3]
  push_cast -dsimp
  refine cl (Qg) ?_;push_cast -dsimp
  refine cl (h1) ?_;push_cast -dsimp
  refine cl (Qg) ?_;push_cast -dsimp
  exact ⟨[],rfl,rfl,by push_cast -dsimp [zb,za,CLe,zd]⟩
 | true =>
  rw[hf]at h1
  obtain ⟨p1,p2,p3,p4⟩:=zaq hf
  have h2:=zbk w l p1 p2 p3 p4
  have hd:=(zdb p1 p2 (fun o h=>(p4 o h).d) l.length).s (by omega)
  have hb:=(zdb p1 p2 (fun o h=>(p4 o h).d) l.length).wb
  have h3:=(zfz _ hd fun z hz=>by have:=(hb.pnode z hz).1;omega).gd0
  generalize mkD w l l.length=d at h2 h3
  refine Fun.of (fun _=>[]) Tryz.func3 rfl (zi rfl) (by kernel_rfl) ?_;dsimp only[Tryz.f3]
  push_cast -dsimp
  refine cl (Qg) ?_;push_cast -dsimp
  refine cl (h1) ?_;push_cast -dsimp
  refine cl (h2) ?_;push_cast -dsimp
  refine cl (h3) ?_;push_cast -dsimp
  exact ⟨[],rfl,rfl,by push_cast -dsimp [zb,za,CLe,zd]⟩
end
section
open Go.RowKit Go.ChangeMaps Go.ChangeShapes Go.WideShapes Go.Deep Go.Joins
section
variable {H:Type} {enc:TypeId×Value->H} {W:World}
theorem zmZ:jd enc Tryz.prog W 63 5 fun row=>∃ o:OpV,row=opL o/\True:=fun fuel cs x hx=>by
 obtain ⟨row,⟨hl,hq⟩,h1,h2,h3⟩:=jd.struct (W:=W) (enc:=enc) (Qs:=fun j c=>match j with | 0=>∃ n,c = .sc (.int .i64 n)/\(Lit.int .i64 n).wf=true | 1=>∃ n,c = .sc (.int .i64 n)/\(Lit.int .i64 n).wf=true | 2=>∃ l:List UInt8,c = .str l/\l.length<=maxLen | 3=>∃ l:List UInt8,c = .str l/\l.length<=maxLen | 4=>∃ l:List UInt8,c = .str l/\l.length<=maxLen | _=>True) Tryz.underlying63 (by kernel_rfl) (by kernel_rfl) (fun j f hj=>by
  match j,hj with
  | 0,hj=>cases hj;exact Opn.int Tryz.underlying3
  | 1,hj=>cases hj;exact Opn.int Tryz.underlying3
  | 2,hj=>cases hj;exact Opn.str Tryz.underlying9
  | 3,hj=>cases hj;exact Opn.str Tryz.underlying9
  | 4,hj=>cases hj;exact Opn.str Tryz.underlying9
  | j+5,hj=>simp at hj) fuel cs x hx
 match row,h1,hq,h3 with
 | [c0,c1,c2,c3,c4],_,hq,h3 =>
  obtain ⟨k,rfl,_⟩:=hq 0 c0 rfl
  obtain ⟨s,rfl,_⟩:=hq 1 c1 rfl
  obtain ⟨a,rfl,_⟩:=hq 2 c2 rfl
  obtain ⟨b,rfl,_⟩:=hq 3 c3 rfl
  obtain ⟨d,rfl,_⟩:=hq 4 c4 rfl
  exact ⟨_,⟨⟨k,s,a,b,d⟩,rfl,trivial⟩,rfl,h2,h3⟩
theorem UH:∀ {rows:List (List C)},(∀ r∈rows,∃ o:OpV,r=opL o/\True)->∃ xs:List OpV,rows=GQ xs
 | [],_=>⟨[],rfl⟩
 | r :: rows,h=>by
  obtain ⟨xs,rfl⟩:=UH fun r' hr=>h r' (List.mem_cons_of_mem _ hr)
  obtain ⟨o,rfl,_⟩:=h r List.mem_cons_self
  exact ⟨o :: xs,rfl⟩
theorem zjV:Opn enc Tryz.prog W 30 fun c=>∃ xs:List OpV,c = .sl 5 (GQ xs)/\True:=fun fuel cs x hx=>by
 obtain ⟨v,c,rfl,⟨rows,rfl,hl,hr⟩,h1,h2⟩:=Opn.slice (W:=W) (enc:=enc) Tryz.underlying30 (show Tryz.prog.cellsOf 63=5 by kernel_rfl) (by decide) zmZ fuel cs x hx
 obtain ⟨xs,rfl⟩:=UH hr
 exact ⟨v,_,rfl,⟨xs,rfl,trivial⟩,h1,h2⟩
end
theorem zpV {W:World} {l:List (String×DataW Unit)} (h:laidMetH Tryz.prog l W) (hp:(l.filter fun x=>x.2.handleName?.isSome) = []) (hm:("drayman/op.has",Rows.laid_drayman_op_has)∈l):Xe G1 (GZ W):=fun g cs hc=>by
 unfold G1 at hc
 split at hc
 ·rename_i hg
  subst hg
  cases hc
  exact Jr (t:=181) h hp hm (by kernel_rfl) (by kernel_rfl) (m:=4) (by kernel_rfl) (by kernel_rfl) (by kernel_rfl)
 ·cases hc
theorem zoM {W:World} {l:List (String×DataW Unit)} (h:laidMetH Tryz.prog l W) (hp:(l.filter fun x=>x.2.handleName?.isSome) = []) (hm1:("drayman/diag.phrases",Rows.laid_drayman_diag_phrases)∈l) (hm2:("drayman/args.kinds",Rows.laid_drayman_args_kinds)∈l) (hm3:("drayman/errs.messages",Rows.laid_drayman_errs_messages)∈l):Xe G2 (GZ W):=fun g cs hc=>by
 unfold G2 at hc
 split at hc
 ·rename_i hg
  subst hg
  cases hc
  exact Jr (t:=190) h hp hm1 (by kernel_rfl) (by kernel_rfl) (m:=4) (vs:=phr.map fun l=>Value.string ⟨l.toArray⟩) (by kernel_rfl) (by kernel_rfl) (by kernel_rfl)
 ·split at hc
  ·rename_i hg
   subst hg
   cases hc
   exact Jr (t:=189) h hp hm2 (by kernel_rfl) (by kernel_rfl) (m:=4) (by kernel_rfl) (by kernel_rfl) (by kernel_rfl)
  ·split at hc
   ·rename_i hg
    subst hg
    cases hc
    exact Jr (t:=231) h hp hm3 (by kernel_rfl) (by kernel_rfl) (m:=4) (vs:=zp9.map fun l=>Value.string ⟨l.toArray⟩) (by kernel_rfl) (by kernel_rfl) (by kernel_rfl)
   ·cases hc
theorem zpK {W:World} {l:List (String×DataW Unit)} (h:laidMetH Tryz.prog l W) (hp:(l.filter fun x=>x.2.handleName?.isSome) = []) (hm:("drayman/op.has",Rows.laid_drayman_op_has)∈l) (hm1:("drayman/diag.phrases",Rows.laid_drayman_diag_phrases)∈l) (hm2:("drayman/args.kinds",Rows.laid_drayman_args_kinds)∈l) (hm3:("drayman/errs.messages",Rows.laid_drayman_errs_messages)∈l):Xe GD (GZ W):=fun g cs hc=>by
 unfold GD at hc
 split at hc
 ·exact zpV h hp hm g cs hc
 ·exact zoM h hp hm1 hm2 hm3 g cs hc
end
end Go.Proofs.YtiblepfehggicaaGreatDoor.Vcg
section
namespace Go.Proofs.YtiblepfehggicaaGreatDoor.PDraftMakes
open Go.ChangeShapes Go.WideShapes Go.ChangeAt Go.RowKit Vcg
theorem own:ownKnob Tryz.prog.godebug=none:=by kernel_rfl
theorem laidOut:laidOutB Tryz.prog=true:=by kernel_rfl
theorem contract (H:Type) (enc:TypeId×Value->H) (W:World) (base:Nat) (args:Array Value) (ds gs:List (DataW H)) (before:List MemPlace)
  (hval:∀ (j:Nat) t v,Tryz.f3.params[j]?=some t->args[j]?=some v->Value.okWide Tryz.prog W .any base t v)
  (hW:DataW.Whole enc Tryz.prog Tryz.f3.params.toList Rows.draftMakesSpec.vars false W args.toList ds gs before) (hL:laidMetH Tryz.prog Rows.draftMakesRow.laid W) :
  Calls Tryz.prog 3 args W fun e W'=>∃ v,e = .returned v/\Rows.draftMakesSpec.post enc Tryz.prog Tryz.f3 false true false false W args v W':=by
 have hW':=hW
 obtain ⟨p,q,hA0,hV,rfl,hfz,hnd⟩:=hW
 have hA:DataW.TrodAll enc Tryz.prog W 0 (fun _=>true) true Tryz.f3.params.toList args.toList ds p:=hA0
 rw[Tryz.params3]at hA hval
 obtain ⟨v0,vs0,d0,ds0,p0,q0,hargs,rfl,rfl,h0,r0⟩:=trodAll_cons hA
 obtain ⟨v1,vs1,d1,ds1,p1,q1,rfl,rfl,rfl,h1,r1⟩:=trodAll_cons r0
 obtain ⟨rfl,rfl,rfl⟩:=trodAll_nil r1
 obtain rfl:args = #[v0,v1]:=by cases args;simp_all
 obtain ⟨rfl,rfl⟩:=trodVars_none hV
 have lt0:∀ x∈p0,x.block<W.heap.size:=by obtain ⟨m,hm⟩:=h0;exact DataW.trod_lt m _ _ _ hm
 have lt1:∀ x∈p1,x.block<W.heap.size:=by obtain ⟨m,hm⟩:=h1;exact DataW.trod_lt m _ _ _ hm
 obtain ⟨row0,⟨a0,rfl,w0⟩,rep0⟩:=jd.arg zbN Tryz.underlying29 (hval 0 29 v0 rfl rfl) h0
 obtain ⟨n1,m1,c1,hn1⟩:=okWide_slice Tryz.underlying30 (hval 1 30 v1 rfl rfl)
 obtain ⟨_,⟨a1,rfl,w1⟩,rep1⟩:=Opn.arg (r:=.any) (b0:=base) zjV (by rw[hn1];rfl) h1
 clear hA0
 refine (Fun.answers (U6 a0 a1) (zpK hL (by kernel_rfl) (by repeat (first | exact List.mem_cons_self | refine List.mem_cons_of_mem _ ?_)) (by repeat (first | exact List.mem_cons_self | refine List.mem_cons_of_mem _ ?_)) (by repeat (first | exact List.mem_cons_self | refine List.mem_cons_of_mem _ ?_)) (by repeat (first | exact List.mem_cons_self | refine List.mem_cons_of_mem _ ?_))) (ze.2 ⟨_,_,rfl,rep0,ze.2 ⟨_,_,rfl,rep1,zj.2 rfl⟩⟩)).mono fun e W' ⟨he,bel⟩=>?_
 subst he
 exact ⟨_,rfl,_,_,_,[],_,[],hW',trodAll_mk1 (shut_bool Tryz.underlying4 _),(trodAll_cons_mk (Below.trod laidOut (by kernel_rfl) (of_decide_eq_true (by kernel_rfl)) h0 bel lt0) (trodAll_cons_mk (Below.trod laidOut (by kernel_rfl) (of_decide_eq_true (by kernel_rfl)) h1 bel lt1) trodAll_mk0)),rfl,bel.frame _,fun h=>by cases h⟩
theorem lifted (os:Os) (started:os.Started) (H:Type) (enc:TypeId×Value->H) :
  ReturnsInHanded {} Tryz.checked os 3 .any (fun w args=>(Rows.draftMakesSpec.pre enc Tryz.prog Tryz.f3 Rows.draftMakesRow.domain false w args/\laidMetH Tryz.prog Rows.draftMakesRow.laid w)/\sizedMet enc Tryz.prog Tryz.f3 (OpenSpec.ofChange Rows.draftMakesSpec) false w args)
   (Rows.draftMakesSpec.post enc Tryz.prog Tryz.f3 false true false false):=by
 refine returnsInHanded_of_change_and (C:=Tryz.checked) (X:=fun w _=>laidMetH Tryz.prog Rows.draftMakesRow.laid w) (fun _ _ _ hh h=>h.of_heap hh) own started (by kernel_rfl) Tryz.func3
  (ChangeSpec.witness_shaped (enc:=enc) (C:=Tryz.checked) (os:=os) (X:=fun w _=>laidMetH Tryz.prog Rows.draftMakesRow.laid w) false (World.laidAll Tryz.prog os Rows.draftMakesRow.laid) #[.agg #[.int .i64 0,.int .i64 0,.int .i64 0,.slice none 0 0,.slice none 0 0,.slice none 0 0],.slice none 0 0] 8 (World.laidAll_os _ _ _)
   (World.shaped_of_ZipB (by kernel_rfl) (by kernel_rfl)) (by kernel_rfl) (by kernel_rfl) (by kernel_rfl)
   (by rw[MakeChecks.laidMetH_plain _ _ _ (by kernel_rfl)];exact laidMet_laidAll _ (by kernel_rfl) (by kernel_rfl))) ?_
 intro W base args ds gs before hval hW _ _ hL _
 exact contract H enc W base args ds gs before hval hW hL
theorem said:Rows.DraftMakesSaid:=
 OpenClaim.holds_of_wide 3 Tryz.f3 rfl rfl rfl rfl rfl rfl rfl ⟨rfl,rfl,rfl,rfl,rfl⟩ rfl rfl rfl rfl rfl (by kernel_rfl) Tryz.func3 (by kernel_rfl)
  (of_decide_eq_true (by kernel_rfl)) (by unfold Func.isWrapper;first | (rw[if_pos (by decide +kernel)];kernel_rfl) | (rw[if_neg (by decide +kernel)];exact ⟨rfl,rfl⟩))
  (fun os started H enc _=>lifted os started H enc)
theorem Yk (f:FuncId) (fn:Func) (hf:Tryz.pinned.checked.prog.funcNamed "drayman/draymanlaw25.DraftMakes"=some f) (hfn:Tryz.pinned.checked.prog.funcs[f]?=some fn) :
  false=Tryz.pinned.checked.prog.looks []/\∀ (j:Nat) t,fn.params[j]?=some t->Tryz.pinned.checked.prog.wantsStandIn t=false:=by
 obtain rfl:f=3:=Option.some.inj ((show Tryz.prog.funcNamed "drayman/draymanlaw25.DraftMakes"=some 3 by kernel_rfl).symm.trans hf) |>.symm
 obtain rfl:fn=Tryz.f3:=(Option.some.inj (Tryz.func3.symm.trans hfn)).symm
 exact ⟨by kernel_rfl,fun j t ht=>by
  rw[Tryz.params3]at ht
  have hm:t∈[29,30]:=by simpa using Array.mem_of_getElem? ht
  have hall:([29,30].all fun u=>!Tryz.prog.wantsStandIn u)=true:=by kernel_rfl
  exact (show Tryz.prog.wantsStandIn t=false by simpa using List.all_eq_true.1 hall t hm)⟩
theorem card:Rows.DraftMakesCardSaid:=
 Claim7.holds_tied_plain_at .later [] _ _ _ _ said (fun _ h=>by cases h) (by kernel_rfl) (fun _ h=>by cases h) draftMakes_row_tie rfl ⟨rfl,rfl⟩ (by kernel_rfl) rfl Yk (by kernel_rfl)
theorem proved:Rows.DraftMakesCardSaid:=card
end Go.Proofs.YtiblepfehggicaaGreatDoor.PDraftMakes
end
