/- What the proof of DraftStays leans on, part 5: Snd3 Snd4 Snd5 Snd6 Snd7 Rf9 Rf10 Grw Con Kit KitBytes QuoteWalk1 Builder QuoteWalk2 Diag1 Spl Diag2 Diag3 Diag4 Dra3 Ref19b Ref19c Rf11 Ref8 Wlk1 Wlk2 Tree1 Mak0 Tree2 Tree3 Tree4 Tree5 Tree6 Tree7 Dra4 Mak1 Mak2 Mak3 OpenD Lend Slc2. No condition beyond what each theorem states. -/
import Derived.Test.YtiblepfehggicaaGreatDoorDraftStaysKd
import Derived.WalkKit
import Derived.Lib.Hide
import Derived.Lib.Join
import Derived.Deep.Draws
import Derived.Lib.SlBytesRow
import Derived.StillTailTactics
import Derived.Test.YtiblepfehggicaaGreatDoorProg
import Derived.WalkLawsBesides
import Derived.WalkSpells
import Derived.Shelf.Strings.Builder1
import Derived.Shelf.Strings.BuilderF
import Derived.Shelf.Strings.SlTrimAscii
import Derived.Sort.Walk0
set_option linter.unusedVariables false
set_option linter.unusedSimpArgs false
set_option linter.unusedSectionVars false
set_option maxRecDepth 100000
set_option maxHeartbeats 4000000
namespace Go.Proofs.YtiblepfehggicaaGreatDoor.Vcg
section
open Go.RowKit
abbrev Vy (x:zA) (es:List z6):List (Int×Int):=es.map fun e=>(e.ino,x.ino)
def qp (xs:List zA):List (Int×Int):=xs.flatMap fun x=>Vy x x.es
def Vv (n:Int) (l:List (Int×Int)):Nat:=(l.filter fun p=>p.1==n).length
def U6 (n:Int) (l:List (Int×Int)):Int:=(((l.filter fun p=>p.1==n).getLast?).map (·.2)).getD 0
theorem zk6 {n:Int} {l:List (Int×Int)} {p:Int×Int}:Vv n (l++[p])=Vv n l+if p.1=n then 1 else 0:=by
 unfold Vv
 rw[List.filter_append,List.length_append]
 by_cases h:p.1=n<;>simp[h]
theorem ziQ {n:Int} {l:List (Int×Int)} {p:Int×Int}:U6 n (l++[p])=if p.1=n then p.2 else U6 n l:=by
 unfold U6
 rw[List.filter_append]
 by_cases h:p.1=n<;>simp[h]
theorem zbv {xs:List zA} {i:Nat} (h:i<xs.length):qp (xs.take (i+1))=qp (xs.take i)++Vy xs[i] xs[i].es:=by
 unfold qp
 rw[List.take_add_one,List.getElem?_eq_getElem h,List.flatMap_append]
 simp
theorem zaN {x:zA} {es:List z6} {k:Nat} (h:k<es.length):Vy x (es.take (k+1))=Vy x (es.take k)++[(es[k].ino,x.ino)]:=by
 rw[List.take_add_one,List.getElem?_eq_getElem h,Option.toList_some]
 exact List.map_append
theorem zcl {xs:List zA} (hf:∀ x∈xs,x.es.length<=10000):(qp xs).length<=xs.length*10000:=by
 induction xs with
 | nil=>exact Nat.le_refl _
 | cons x r ih =>
  have h1:=hf x List.mem_cons_self
  have h2:=ih fun y hy=>hf y (List.mem_cons_of_mem _ hy)
  unfold qp at h2 ⊢
  rw[List.flatMap_cons,List.length_append,List.length_map,List.length_cons]
  omega
theorem znK {n:Int} {l:List (Int×Int)}:Vv n l<=l.length:=List.length_filter_le _ _
def ZP (xs:List zA) (x:zA):Prop:=x.links=Vv x.ino (qp xs)/\if x.ino=1 then Vv x.ino (qp xs)=0/\x.parent=1 else 1<=Vv x.ino (qp xs)/\(x.kind=2->Vv x.ino (qp xs)=1/\x.parent=U6 x.ino (qp xs))
instance (xs:List zA) (x:zA):Decidable (ZP xs x):=by unfold ZP;infer_instance
def Xf (f:FsV):Prop:=∀ x∈f.xs,ZP f.xs x
instance (f:FsV):Decidable (Xf f):=by unfold Xf;infer_instance
section
variable {G:zq}
theorem zbw (f:FsV) (n:Int) (hf:FsS f):Fun Tryz.prog G 113 [.agg (fsC f),.sc (.int .i64 n)] (.tup [.sc (.int .i64 (Vv n (qp f.xs):Nat)),.sc (.int .i64 (U6 n (qp f.xs)))]) 0:=by
 have hll:(zr f.xs).length=f.xs.length:=List.length_map ..
 have h40:=hf.len
 have hc0:Vv n (qp [])=0:=rfl
 have hl0:U6 n (qp [])=0:=rfl
 refine fon Tryz.func113 ?_;dsimp only[Tryz.f113]
 push_cast -dsimp
 refine loop (fun i:Nat=>⟨[(1,.sc (.int .i64 n)),(2,.ptr 0 0),(6,.sc (.int .i64 (Vv n (qp (f.xs.take i)):Nat))),(7,.sc (.int .i64 (U6 n (qp (f.xs.take i))))),(8,.sc (.int .i64 i))],[fsC f],0,0⟩) (fun i=>i<=f.xs.length) (fun i=>f.xs.length-i) 0 (Nat.zero_le _) ?_ ?_
 ·exact wk (by push_cast -dsimp [zb,za,CLe,ze,List.take_zero,hc0,hl0])
 ·intro i h1
  by_cases h:i<f.xs.length
  ·have g1:=jg f.xs i h
   have hle:(zI f.xs[i].es).length=f.xs[i].es.length:=List.length_map ..
   have hpl:(qp (f.xs.take i)).length<=i*10000:=by
    have:=zcl (xs:=f.xs.take i) fun x hx=>(hf.node x (List.mem_of_mem_take hx)).1
    rw[List.length_take]at this
    exact Nat.le_trans this (Nat.mul_le_mul_right _ (Nat.min_le_left _ _))
   have h40e:=(hf.node _ (List.getElem_mem h)).1
   push_cast -dsimp [hll,h]
   refine loop (fun k:Nat=>⟨[(1,.sc (.int .i64 n)),(2,.ptr 0 0),(6,.sc (.int .i64 (Vv n (qp (f.xs.take i)++Vy f.xs[i] (f.xs[i].es.take k)):Nat))),(7,.sc (.int .i64 (U6 n (qp (f.xs.take i)++Vy f.xs[i] (f.xs[i].es.take k))))),(8,.sc (.int .i64 i)),(9,.sc (.int .i64 k))],[fsC f],0,0⟩) (fun k=>k<=f.xs[i].es.length) (fun k=>f.xs[i].es.length-k) 0 (Nat.zero_le _) ?_ ?_
   ·exact wk (by push_cast -dsimp [zb,za,CLe,ze,List.take_zero,List.append_nil])
   ·intro k hk0
    by_cases hk:k<f.xs[i].es.length
    ·have g2:=Jt f.xs[i].es k hk
     have ht:=zaN (x:=f.xs[i]) hk
     have hcl:=znK (n:=n) (l:=qp (f.xs.take i)++Vy f.xs[i] (f.xs[i].es.take k))
     rw[List.length_append,List.length_map,List.length_take]at hcl
     have hca:=zk6 (n:=n) (l:=qp (f.xs.take i)++Vy f.xs[i] (f.xs[i].es.take k)) (p:=(f.xs[i].es[k].ino,f.xs[i].ino))
     have hla:=ziQ (n:=n) (l:=qp (f.xs.take i)++Vy f.xs[i] (f.xs[i].es.take k)) (p:=(f.xs[i].es[k].ino,f.xs[i].ino))
     rw[List.append_assoc,←ht]at hca hla
     by_cases hc:f.xs[i].es[k].ino=n
     ·rw[if_pos hc]at hca hla
      push_cast -dsimp [g1,hle,hk,g2,hc]
      repeat refine an ?_
      exact ⟨k+1,hk,by omega,wk (by push_cast -dsimp [zb,za,CLe,ze,hca,hla])⟩
     ·rw[if_neg hc]at hca hla
      push_cast -dsimp [g1,hle,hk,g2,hc]
      repeat refine an ?_
      exact ⟨k+1,hk,by omega,wk (by push_cast -dsimp [zb,za,CLe,ze,hca,hla])⟩
    ·have hkk:f.xs[i].es.take k=f.xs[i].es:=List.take_of_length_le (by omega)
     rw[hkk]
     have ht:=zbv h
     push_cast -dsimp [g1,hle,hk]
     repeat refine an ?_
     exact ⟨i+1,h,by omega,wk (by push_cast -dsimp [zb,za,CLe,ze,ht])⟩
  ·rw[List.take_of_length_le (by omega)]
   push_cast -dsimp [hll,h]
   exact dn
end
end
section
open CA CB
open Go.RowKit
section
variable {G:zq}
theorem k8 (f:FsV) (hf:FsS f):Fun Tryz.prog G 70 [.agg (fsC f)] (.sc (.bool (decide (Xf f)))) 0:=by
 have hll:(zr f.xs).length=f.xs.length:=List.length_map ..
 have h40:=hf.len
 refine fon Tryz.func70 ?_;dsimp only[Tryz.f70]
 push_cast -dsimp
 refine loop (fun i:Nat=>⟨[(1,.ptr 0 0),(3,.sc (.int .i64 i))],[fsC f],0,0⟩) (fun i=>i<=f.xs.length/\∀ x∈f.xs.take i,ZP f.xs x) (fun i=>f.xs.length-i) 0 ⟨Nat.zero_le _,fun x hx=>by simp at hx⟩ ?_ ?_
 ·exact wk
 ·rintro i ⟨h1,h2⟩
  by_cases h:i<f.xs.length
  ·have g1:=jg f.xs i h
   have hbad:¬ZP f.xs f.xs[i]->¬Xf f:=fun hn h'=>hn (h' _ (List.getElem_mem h))
   have hdef:ZP f.xs f.xs[i]↔f.xs[i].links=Vv f.xs[i].ino (qp f.xs)/\if f.xs[i].ino=1 then Vv f.xs[i].ino (qp f.xs)=0/\f.xs[i].parent=1 else 1<=Vv f.xs[i].ino (qp f.xs)/\(f.xs[i].kind=2->Vv f.xs[i].ino (qp f.xs)=1/\f.xs[i].parent=U6 f.xs[i].ino (qp f.xs)):=Iff.rfl
   push_cast -dsimp [hll,h,g1]
   repeat refine an ?_
   refine cl (zbw f f.xs[i].ino hf) ?_;push_cast -dsimp
   generalize Vv f.xs[i].ino (qp f.xs)=c at hdef
   generalize U6 f.xs[i].ino (qp f.xs)=d at hdef
   by_cases c1:f.xs[i].links=(c:Int)
   case neg =>
    have hn:=hbad fun h=>c1 (hdef.1 h).1
    push_cast -dsimp [c1]
    exact dn (by push_cast -dsimp [zb,za,CLe,ze,hn])
   by_cases c2:f.xs[i].ino=1
   ·rw[if_pos c2]at hdef
    by_cases c3:(c:Int)=0
    ·by_cases c4:f.xs[i].parent=1
     ·push_cast -dsimp [c1,c2,c3,c4]
      repeat refine an ?_
      exact ⟨i+1,⟨h,qi h h2 (hdef.2 ⟨c1,by omega,c4⟩)⟩,by omega,wk⟩
     ·have hn:=hbad fun h=>c4 (hdef.1 h).2.2
      push_cast -dsimp [c1,c2,c3,c4]
      exact dn (by push_cast -dsimp [zb,za,CLe,ze,hn])
    ·have hn:=hbad fun h=>by have:=(hdef.1 h).2.1;omega
     push_cast -dsimp [c1,c2,c3]
     exact dn (by push_cast -dsimp [zb,za,CLe,ze,hn])
   ·rw[if_neg c2]at hdef
    by_cases c3:(c:Int)<1
    ·have hn:=hbad fun h=>by have:=(hdef.1 h).2.1;omega
     push_cast -dsimp [c1,c2,c3]
     exact dn (by push_cast -dsimp [zb,za,CLe,ze,hn])
    by_cases c4:f.xs[i].kind=2
    ·by_cases c5:(c:Int)=1
     ·by_cases c6:f.xs[i].parent=d
      ·push_cast -dsimp [c1,c2,c3,c4,c5,c6]
       repeat refine an ?_
       exact ⟨i+1,⟨h,qi h h2 (hdef.2 ⟨c1,by omega,fun _=>⟨by omega,c6⟩⟩)⟩,by omega,wk⟩
      ·have hn:=hbad fun h=>c6 ((hdef.1 h).2.2 c4).2
       push_cast -dsimp [c1,c2,c3,c4,c5,c6]
       exact dn (by push_cast -dsimp [zb,za,CLe,ze,hn])
     ·have hn:=hbad fun h=>by have:=((hdef.1 h).2.2 c4).1;omega
      push_cast -dsimp [c1,c2,c3,c4,c5]
      exact dn (by push_cast -dsimp [zb,za,CLe,ze,hn])
    ·push_cast -dsimp [c1,c2,c3,c4]
     repeat refine an ?_
     exact ⟨i+1,⟨h,qi h h2 (hdef.2 ⟨c1,by omega,fun h=>absurd h c4⟩)⟩,by omega,wk⟩
  ·rw[List.take_of_length_le (by omega)]at h2
   have hn:Xf f:=h2
   push_cast -dsimp [hll,h]
   exact dn (by push_cast -dsimp [zb,za,CLe,ze,hn])
end
end
section
open CA CB
open Go.RowKit
abbrev uY (S:List Int):List (List C):=S.map fun n=>[C.sc (.int .i64 n)]
def XH (S:List Int) (n:Int):List Int:=if n∈S then S else S++[n]
def G4 (S:List Int) (es:List z6):List Int:=es.foldl (fun s e=>XH s e.ino) S
def UE (xs:List zA):Nat->Nat->List Int->List Int
 | 0,_,S=>S
 | m+1,i,S=>match S[i]? with
  | some n=>UE xs m (i+1) (G4 S (zg n xs).es)
  | none=>S
def Zh (f:FsV):Prop:=(UE f.xs (f.xs.length+1) 0 [1]).length=f.xs.length
instance (f:FsV):Decidable (Zh f):=by unfold Zh;infer_instance
theorem Gk:∀ {S T:List Int},S.Nodup->(∀ n∈S,n∈T)->S.length<=T.length
 | [],T,_,_=>Nat.zero_le _
 | a :: r,T,hn,hs=>by
  have ha:=hs a List.mem_cons_self
  obtain ⟨h1,h2⟩:=List.nodup_cons.1 hn
  have:=Gk (S:=r) (T:=T.erase a) h2 fun n hr=>(List.mem_erase_of_ne (fun e=>h1 (by rw[←e];exact hr))).2 (hs n (List.mem_cons_of_mem _ hr))
  rw[List.length_erase_of_mem ha]at this
  have hpos:=List.length_pos_iff.2 (List.ne_nil_of_mem ha)
  rw[List.length_cons];omega
theorem xH {n:Int} {xs:List zA}:zG n xs=true↔n∈xs.map (·.ino):=by
 unfold zG
 rw[List.any_eq_true,List.mem_map]
 simp
theorem Gw {S:List Int} {xs:List zA} (hn:S.Nodup) (hs:∀ n∈S,zG n xs=true):S.length<=xs.length:=by
 have:=Gk (T:=xs.map (·.ino)) hn fun n h=>xH.1 (hs n h)
 rwa [List.length_map]at this
theorem N2 {S:List Int} {n:Int} (h:S.Nodup):(XH S n).Nodup:=by
 unfold XH
 split
 ·exact h
 ·rw[List.nodup_append]
  refine ⟨h,by simp,fun a ha b hb e=>?_⟩
  simp at hb;subst hb;subst e;contradiction
theorem kA {S:List Int} {n m:Int}:m∈XH S n↔m∈S∨m=n:=by
 unfold XH
 split
 ·constructor
  ·exact .inl
  ·rintro (h | h)
   ·exact h
   ·rw[h];assumption
 ·simp
theorem jf {n:Int} {xs:List zA} (h:zG n xs=true):zg n xs∈xs/\(zg n xs).ino=n:=by
 unfold zG at h
 unfold zg YX
 cases hq:xs.find? fun x=>x.ino==n with
 | none =>
  rw[List.find?_eq_none]at hq
  obtain ⟨x,hx,he⟩:=List.any_eq_true.1 h
  exact absurd he (hq x hx)
 | some y =>
  exact ⟨List.mem_of_find?_eq_some hq,by simpa using List.find?_some hq⟩
theorem zfO {S:List Int} {es:List z6} {k:Nat} (h:k<es.length):G4 S (es.take (k+1))=XH (G4 S (es.take k)) es[k].ino:=by
 unfold G4
 rw[List.take_add_one,List.getElem?_eq_getElem h,List.foldl_append]
 rfl
theorem zf2 (es:List z6):∀ (S:List Int),S <+: G4 S es:=by
 induction es with
 | nil=>exact fun S=>List.prefix_refl S
 | cons e r ih =>
  intro S
  refine List.IsPrefix.trans ?_ (ih (XH S e.ino))
  unfold XH
  split
  ·exact List.prefix_refl S
  ·exact List.prefix_append S _
theorem zgB (S:List Int) (es:List z6):S.length<=(G4 S es).length:=(zf2 es S).length_le
structure Xu (xs:List zA) (S:List Int):Prop where
 nodup:S.Nodup
 has:∀ n∈S,zG n xs=true
theorem Xu.len {xs:List zA} {S:List Int} (h:Xu xs S):S.length<=xs.length:=Gw h.nodup h.has
theorem Xu.one {xs:List zA} {S:List Int} {n:Int} (h:Xu xs S) (hn:zG n xs=true):Xu xs (XH S n):=⟨N2 h.nodup,fun m hm=>by
 rcases kA.1 hm with hm | rfl
 ·exact h.has m hm
 ·exact hn⟩
theorem zeU {S:List Int} {n:Int} {j:Nat} (h:j<S.length):((S.take (j+1)).any fun m=>decide (m=n))=(((S.take j).any fun m=>decide (m=n))||decide (S[j]=n)):=by
 rw[List.take_add_one,List.getElem?_eq_getElem h,List.any_append]
 simp
theorem zjU {S:List Int} {n:Int}:(S.any fun m=>decide (m=n))=decide (n∈S):=by
 rw[Bool.eq_iff_iff,List.any_eq_true,decide_eq_true_iff]
 constructor
 ·rintro ⟨m,hm,h⟩;exact (of_decide_eq_true h)▸hm
 ·exact fun h=>⟨n,h,decide_eq_true rfl⟩
theorem ut (S:List Int) (i:Nat) (h:i<S.length):(uY S)[i]?=some [.sc (.int .i64 S[i])]:=by simp[List.getElem?_map,List.getElem?_eq_getElem h]
section
variable {G:zq}
theorem NZ (f:FsV) (hf:FsS f) (h3:YU f) (h1:zG 1 f.xs=true):Fun Tryz.prog G 71 [.agg (fsC f)] (.sc (.bool (decide (Zh f)))) 0:=by
 have hll:(zr f.xs).length=f.xs.length:=List.length_map ..
 have h40:=hf.len
 refine fof (fun i=>if i=5 then kj 9 10 else []) Tryz.func71 ?_;dsimp only[Tryz.f71]
 push_cast -dsimp
 refine loop (fun p:Nat×List Int=>⟨[(1,.ptr 0 0),(3,.own 0 3 1 (uY p.2)),(4,.sc (.int .i64 p.1))],[fsC f],1,0⟩) (fun p=>p.1<=p.2.length/\Xu f.xs p.2/\UE f.xs (f.xs.length+1-p.1) p.1 p.2=UE f.xs (f.xs.length+1) 0 [1]) (fun p=>f.xs.length+1-p.1) (0,[1]) ⟨Nat.zero_le _,⟨by simp,fun n hn=>by simp at hn;subst hn;exact h1⟩,rfl⟩ ?_ ?_
 ·exact wks [.inl 0]
 ·rintro ⟨i,S⟩ ⟨k1,k2,k3⟩
  dsimp only at k1 k2 k3 ⊢
  have hSl:=k2.len
  have hli:(uY S).length=S.length:=List.length_map ..
  by_cases h:i<S.length
  ·have g0:=ut S i h
   obtain ⟨hm,hino⟩:=jf (k2.has S[i] (List.getElem_mem h))
   push_cast -dsimp [hli,h,g0]
   repeat refine an ?_
   refine cl (qz f S[i] (by omega)) ?_;push_cast -dsimp
   rw[show f.xs.length+1-i=(f.xs.length+1-(i+1))+1 by omega,UE,List.getElem?_eq_getElem h]at k3
   dsimp only at k3
   generalize zg S[i] f.xs=x at hm hino k3
   have hx40:=(hf.node x hm).1
   have hle:(zI x.es).length=x.es.length:=List.length_map ..
   refine loop (fun k:Nat=>⟨[(1,.ptr 0 0),(3,.own 0 3 1 (uY (G4 S (x.es.take k)))),(4,.sc (.int .i64 i)),(5,.ptr 1 0),(7,.sc (.int .i64 k))],[fsC f,Yi x],1,0⟩) (fun k=>k<=x.es.length/\Xu f.xs (G4 S (x.es.take k))) (fun k=>x.es.length-k) 0 ⟨Nat.zero_le _,k2⟩ ?_ ?_
   ·exact wks [.inl 0] (by push_cast -dsimp [zb,za,CLe,ze,List.take_zero,G4,List.foldl_nil])
   ·rintro k ⟨hk0,k4⟩
    by_cases hk:k<x.es.length
    ·have g2:=Jt x.es k hk
     have hT:=k4.len
     have ht:=zfO (S:=S) hk
     have hhas:zG x.es[k].ino f.xs=true:=h3 x hm _ (List.getElem_mem hk)
     have k5:=k4.one hhas
     rw[←ht]at k5
     generalize hT1:G4 S (x.es.take (k+1))=T1 at ht k5
     generalize G4 S (x.es.take k)=T at k4 hT ht
     have hlT:(uY T).length=T.length:=List.length_map ..
     generalize hn:x.es[k].ino=n at g2 ht
     push_cast -dsimp [hle,hk]
     refine loop (fun j:Nat=>⟨[(1,.ptr 0 0),(3,.own 0 3 1 (uY T)),(4,.sc (.int .i64 i)),(5,.ptr 1 0),(7,.sc (.int .i64 k)),(8,.sc (.bool ((T.take j).any fun m=>decide (m=n)))),(9,.sc (.int .i64 j))],[fsC f,Yi x],1,0⟩) (fun j=>j<=T.length) (fun j=>T.length-j) 0 (Nat.zero_le _) ?_ ?_
     ·exact wks [.inl 0] (by push_cast -dsimp [zb,za,CLe,ze,List.take_zero,List.any_nil])
     ·intro j hj0
      by_cases hj:j<T.length
      ·have g3:=ut T j hj
       have ha:=zeU (n:=n) hj
       by_cases hq:((T.take j).any fun m=>decide (m=n))=true
       ·rw[hq,Bool.true_or]at ha
        push_cast -dsimp [hlT,hj,hq]
        repeat refine an ?_
        exact ⟨j+1,hj,by omega,wks [.inl 0] (by push_cast -dsimp [zb,za,CLe,ze,ha])⟩
       ·have hq:=Bool.eq_false_iff.2 hq
        rw[hq,Bool.false_or]at ha
        push_cast -dsimp [hlT,hj,hq,g3,g2,hn]
        repeat refine an ?_
        exact ⟨j+1,hj,by omega,wks [.inl 0] (by push_cast -dsimp [zb,za,CLe,ze,ha])⟩
      ·have hTj:(T.take j)=T:=List.take_of_length_le (by omega)
       have hany:=zjU (S:=T) (n:=n)
       unfold XH at ht
       by_cases hin:n∈T
       ·rw[if_pos hin]at ht
        rw[decide_eq_true hin]at hany
        push_cast -dsimp [hlT,hj,hTj,hany]
        repeat refine an ?_
        exact ⟨k+1,⟨hk,by rw[hT1];exact k5⟩,by omega,wks [.inl 0] (by push_cast -dsimp [zb,za,CLe,ze,hT1,ht])⟩
       ·rw[if_neg hin]at ht
        rw[decide_eq_false hin]at hany
        push_cast -dsimp [hlT,hj,hTj,hany,g2,hn]
        repeat refine an ?_
        exact ⟨k+1,⟨hk,by rw[hT1];exact k5⟩,by omega,wks [.inl 0] (by push_cast -dsimp [zb,za,CLe,ze,hT1,ht,List.map_append])⟩
    ·have hkk:x.es.take k=x.es:=List.take_of_length_le (by omega)
     rw[hkk]at k4
     have hge:i+1<=(G4 S x.es).length:=Nat.le_trans h (zgB S x.es)
     push_cast -dsimp [hle,hk,hkk]
     repeat refine an ?_
     exact ⟨(i+1,G4 S x.es),⟨hge,k4,k3⟩,by dsimp only;omega,wks [.inl 0]⟩
  ·push_cast -dsimp [hli,h]
   have hfin:UE f.xs (f.xs.length+1-i) i S=S:=by
    rw[show f.xs.length+1-i=(f.xs.length-i)+1 by omega,UE,List.getElem?_eq_none (by omega)]
   rw[hfin]at k3
   have hn:Zh f↔S.length=f.xs.length:=by unfold Zh;rw[←k3]
   exact dn (by push_cast -dsimp [zb,za,CLe,ze,hn,hll])
end
end
section
open CA CB
open Go.RowKit
def Xn (es:List z6):Prop:=∀ i (h:i<es.length),may es[i].name=true/\1<=es[i].ino/\(0<i->Op.bytesLess es[i-1].name es[i].name=true)
instance (es:List z6):Decidable (Xn es):=by unfold Xn;infer_instance
def YB (x:zA):Prop:=(x.kind=1∨x.kind=2∨x.kind=3)/\(x.kind≠2->x.es = []/\x.parent=0)/\(x.kind=2->x.data = []/\Xn x.es)/\(x.kind=3->1<=x.data.length/\x.data.length<=4095/\∀ b∈x.data,b≠0)
instance (x:zA):Decidable (YB x):=by unfold YB;infer_instance
def Y0 (f:FsV):Prop:=∀ x∈f.xs,YB x
instance (f:FsV):Decidable (Y0 f):=by unfold Y0;infer_instance
def Yf (f:FsV):Int:=if Jy f then if Y0 f then if YU f then if Xf f then if Zh f then if HQ f then 0 else 6 else 5 else 4 else 3 else 2 else 1
def okV (f:FsV):Prop:=Vk f.xs/\Yf f=0
instance (f:FsV):Decidable (okV f):=by unfold okV;infer_instance
theorem zev (es:List z6) (hl:es.length<=100000) (hn:∀ e∈es,e.name.length<=1000000):Fun Tryz.prog G0 112 [.sl 2 (zI es)] (qG (decide (Xn es))) 0:=by
 have hle:(zI es).length=es.length:=List.length_map ..
 refine fon Tryz.func112 ?_;dsimp only[Tryz.f112]
 push_cast -dsimp
 refine loop (fun i:Nat=>⟨[(0,.sl 2 (zI es)),(3,.sc (.int .i64 i))],[],0,0⟩) (fun i=>i<=es.length/\∀ j (h:j<es.length),j<i->may es[j].name=true/\1<=es[j].ino/\(0<j->Op.bytesLess es[j-1].name es[j].name=true)) (fun i=>es.length-i) 0 ⟨Nat.zero_le _,fun j h h'=>absurd h' (Nat.not_lt_zero _)⟩ ?_ ?_
 ·exact wk
 ·rintro i ⟨h1,h2⟩
  by_cases h:i<es.length
  ·have g1:=Jt es i h
   have hm:=ZJ es[i].name (hn _ (List.getElem_mem h))
   push_cast -dsimp [hle,h,g1]
   repeat refine an ?_
   cases c1:may es[i].name with
   | false =>
    have hno:¬Xn es:=fun hr=>by have:=(hr i h).1;rw[c1]at this;cases this
    refine cl (hm) ?_;push_cast -dsimp [c1]
    exact dn (by push_cast -dsimp [zb,za,CLe,ze,hno])
   | true =>
    by_cases c2:es[i].ino<1
    ·have hno:¬Xn es:=fun hr=>by have:=(hr i h).2.1;omega
     refine cl (hm) ?_;push_cast -dsimp [c1,g1,c2]
     repeat refine an ?_
     exact dn (by push_cast -dsimp [zb,za,CLe,ze,hno])
    ·have step:(0<i->Op.bytesLess es[i-1].name es[i].name=true)->∀ j (h:j<es.length),j<i+1->may es[j].name=true/\1<=es[j].ino/\(0<j->Op.bytesLess es[j-1].name es[j].name=true):=fun hb j hj hlt=>by
      rcases Nat.lt_or_ge j i with q | q
      ·exact h2 j hj q
      ·have:j=i:=by omega
       subst this
       exact ⟨c1,by omega,hb⟩
     by_cases c3:0<i
     ·have g2:=Jt es (i-1) (by omega)
      have e1:(i:Int)-1=((i-1:Nat):Int):=by omega
      cases c4:Op.bytesLess es[i-1].name es[i].name with
      | true =>
       refine cl (hm) ?_;push_cast -dsimp [c1,g1,c2]
       repeat refine an ?_
       push_cast -dsimp [c3,e1,g2,g1,c4]
       repeat refine an ?_
       exact ⟨i+1,⟨h,step fun _=>c4⟩,by omega,wk⟩
      | false =>
       have hno:¬Xn es:=fun hr=>by have:=(hr i h).2.2 c3;rw[c4]at this;cases this
       refine cl (hm) ?_;push_cast -dsimp [c1,g1,c2]
       repeat refine an ?_
       push_cast -dsimp [c3,e1,g2,g1,c4]
       repeat refine an ?_
       exact dn (by push_cast -dsimp [zb,za,CLe,ze,hno])
     ·refine cl (hm) ?_;push_cast -dsimp [c1,g1,c2]
      repeat refine an ?_
      push_cast -dsimp [c3]
      repeat refine an ?_
      exact ⟨i+1,⟨h,step fun h=>absurd h c3⟩,by omega,wk⟩
  ·have hr:Xn es:=fun j hj=>h2 j hj (by omega)
   push_cast -dsimp [hle,h]
   exact dn (by push_cast -dsimp [zb,za,CLe,ze,hr])
end
section
open CA CB
open Go.RowKit
theorem kO (f:FsV) (hf:FsS f):Fun Tryz.prog G0 68 [.agg (fsC f)] (qG (decide (Y0 f))) 0:=by
 have hll:(zr f.xs).length=f.xs.length:=List.length_map ..
 have h40:=hf.len
 refine fon Tryz.func68 ?_;dsimp only[Tryz.f68]
 push_cast -dsimp
 refine loop (fun i:Nat=>⟨[(1,.ptr 0 0),(3,.sc (.int .i64 i))],[fsC f],0,0⟩) (fun i=>i<=f.xs.length/\∀ x∈f.xs.take i,YB x) (fun i=>f.xs.length-i) 0 ⟨Nat.zero_le _,fun x hx=>by simp at hx⟩ ?_ ?_
 ·exact wk
 ·rintro i ⟨h1,h2⟩
  by_cases h:i<f.xs.length
  case neg =>
   rw[List.take_of_length_le (by omega)]at h2
   have hn:Y0 f:=h2
   push_cast -dsimp [hll,h]
   exact dn (by push_cast -dsimp [zb,za,CLe,ze,hn])
  have g1:=jg f.xs i h
  have hbad:¬YB f.xs[i]->¬Y0 f:=fun hn h'=>hn (h' _ (List.getElem_mem h))
  have hs:=hf.node _ (List.getElem_mem h)
  have step:YB f.xs[i]->∀ x∈f.xs.take (i+1),YB x:=fun hq=>qi h h2 hq
  push_cast -dsimp [hll,h,g1]
  repeat refine an ?_
  generalize f.xs[i]=x at g1 hbad hs step
  have hle:(zI x.es).length=x.es.length:=List.length_map ..
  have hent:x.es.length<=10000:=hs.1
  by_cases k2:x.kind=2
  ·by_cases d0:x.data = []
   ·have hr:=zev x.es (by omega) fun e he=>by have:=hs.2.2 e he;omega
    cases c1:decide (Xn x.es) with
    | false =>
     have hn:=hbad fun hq=>of_decide_eq_false c1 (hq.2.2.1 k2).2
     push_cast -dsimp [k2,d0]
     refine cl (hr) ?_;push_cast -dsimp [c1]
     exact dn (by push_cast -dsimp [zb,za,CLe,ze,hn])
    | true =>
     have hq:YB x:=⟨.inr (.inl k2),fun h=>absurd k2 h,fun _=>⟨d0,of_decide_eq_true c1⟩,fun h=>by omega⟩
     push_cast -dsimp [k2,d0]
     refine cl (hr) ?_;push_cast -dsimp [c1,k2]
     refine loop (fun j:Nat=>⟨[(1,.ptr 0 0),(3,.sc (.int .i64 i)),(4,.ptr 1 0),(5,.sc (.int .i64 j))],[fsC f,Yi x],0,0⟩) (fun j=>j=0) (fun j=>0) 0 rfl ?_ ?_
     ·exact wk (by push_cast -dsimp [zb,za,CLe,ze,k2,d0]) (by push_cast -dsimp [zb,za,CLe,ze,k2,d0])
     ·rintro j rfl
      push_cast -dsimp [d0]
      repeat refine an ?_
      exact ⟨i+1,⟨h,step hq⟩,by omega,wk⟩
   ·have hn:=hbad fun hq=>d0 (hq.2.2.1 k2).1
    push_cast -dsimp [k2,d0]
    exact dn (by push_cast -dsimp [zb,za,CLe,ze,hn])
  by_cases e0:x.es = []
  case neg =>
   have hn:=hbad fun hq=>e0 (hq.2.1 k2).1
   have hpos:0<(x.es.length:Int):=by have:=List.length_pos_iff.2 e0;omega
   by_cases k1:x.kind=1
   ·push_cast -dsimp [k1,hle,hpos]
    exact dn (by push_cast -dsimp [zb,za,CLe,ze,hn])
   ·by_cases k3:x.kind=3
    ·push_cast -dsimp [k1,k2,k3,hle,hpos]
     exact dn (by push_cast -dsimp [zb,za,CLe,ze,hn])
    ·have hn:=hbad fun hq=>by rcases hq.1 with q | q | q<;>contradiction
     push_cast -dsimp [k1,k2,k3]
     exact dn (by push_cast -dsimp [zb,za,CLe,ze,hn])
  have hl0:x.es.length=0:=by rw[e0];rfl
  by_cases p0:x.parent=0
  case neg =>
   have hn:=hbad fun hq=>p0 (hq.2.1 k2).2
   by_cases k1:x.kind=1
   ·push_cast -dsimp [k1,hle,hl0,p0]
    exact dn (by push_cast -dsimp [zb,za,CLe,ze,hn])
   ·by_cases k3:x.kind=3
    ·push_cast -dsimp [k1,k2,k3,hle,hl0,p0]
     exact dn (by push_cast -dsimp [zb,za,CLe,ze,hn])
    ·have hn:=hbad fun hq=>by rcases hq.1 with q | q | q<;>contradiction
     push_cast -dsimp [k1,k2,k3]
     exact dn (by push_cast -dsimp [zb,za,CLe,ze,hn])
  by_cases k1:x.kind=1
  ·have hq:YB x:=⟨.inl k1,fun _=>⟨e0,p0⟩,fun h=>absurd h k2,fun h=>by omega⟩
   push_cast -dsimp [k1,hle,hl0,p0]
   refine loop (fun j:Nat=>⟨[(1,.ptr 0 0),(3,.sc (.int .i64 i)),(4,.ptr 1 0),(5,.sc (.int .i64 j))],[fsC f,Yi x],0,0⟩) (fun j=>j=0) (fun j=>0) 0 rfl ?_ ?_
   ·exact wk (by push_cast -dsimp [zb,za,CLe,ze,k1,p0]) (by push_cast -dsimp [zb,za,CLe,ze,k1,p0])
   ·rintro j rfl
    by_cases hd:(0:Int)<x.data.length
    ·push_cast -dsimp [hd,k1]
     repeat refine an ?_
     exact ⟨i+1,⟨h,step hq⟩,by omega,wk⟩
    ·push_cast -dsimp [hd,k1]
     repeat refine an ?_
     exact ⟨i+1,⟨h,step hq⟩,by omega,wk⟩
  by_cases k3:x.kind=3
  case neg =>
   have hn:=hbad fun hq=>by rcases hq.1 with q | q | q<;>contradiction
   push_cast -dsimp [k1,k2,k3]
   exact dn (by push_cast -dsimp [zb,za,CLe,ze,hn])
  by_cases l1:(x.data.length:Int)<1
  ·have hn:=hbad fun hq=>by have:=(hq.2.2.2 k3).1;omega
   push_cast -dsimp [k1,k2,k3,hle,hl0,p0,l1]
   exact dn (by push_cast -dsimp [zb,za,CLe,ze,hn])
  by_cases l2:4095<(x.data.length:Int)
  ·have hn:=hbad fun hq=>by have:=(hq.2.2.2 k3).2.1;omega
   push_cast -dsimp [k1,k2,k3,hle,hl0,p0,l1,l2]
   exact dn (by push_cast -dsimp [zb,za,CLe,ze,hn])
  push_cast -dsimp [k1,k2,k3,hle,hl0,p0,l1,l2]
  refine loop (fun j:Nat=>⟨[(1,.ptr 0 0),(3,.sc (.int .i64 i)),(4,.ptr 1 0),(5,.sc (.int .i64 j))],[fsC f,Yi x],0,0⟩) (fun j=>j<=x.data.length/\∀ b∈x.data.take j,b≠0) (fun j=>x.data.length-j) 0 ⟨Nat.zero_le _,fun b hb=>by simp at hb⟩ ?_ ?_
  ·exact wk (by push_cast -dsimp [zb,za,CLe,ze,k3,p0]) (by push_cast -dsimp [zb,za,CLe,ze,k3,p0])
  ·rintro j ⟨j1,j2⟩
   by_cases hj:j<x.data.length
   ·have hb:x.data[j]?=some x.data[j]:=List.getElem?_eq_getElem hj
    by_cases z:(x.data[j].toNat:Int)=0
    ·have hn:=hbad fun hq=>(hq.2.2.2 k3).2.2 _ (List.getElem_mem hj) (UInt8.toNat_inj.1 (by simpa using z))
     push_cast -dsimp [hj,k3,hb,z]
     repeat refine an ?_
     exact dn (by push_cast -dsimp [zb,za,CLe,ze,hn])
    ·push_cast -dsimp [hj,k3,hb,z]
     repeat refine an ?_
     exact ⟨j+1,⟨hj,qi hj j2 fun hz=>z (by rw[hz];rfl)⟩,by omega,wk⟩
   ·rw[List.take_of_length_le (by omega)]at j2
    have hq:YB x:=⟨.inr (.inr k3),fun _=>⟨e0,p0⟩,fun h=>absurd h k2,fun _=>⟨by omega,by omega,j2⟩⟩
    push_cast -dsimp [hj,k3]
    repeat refine an ?_
    exact ⟨i+1,⟨h,step hq⟩,by omega,wk⟩
theorem ze8 (f:FsV) (hf:FsS f):Fun Tryz.prog G0 37 [.agg (fsC f)] (.sc (.int .i64 (Yf f))) 0:=by
 have h40:=hf.len
 have hb:jd f.xs<=100000000:=by have:=hf.bytes;omega
 refine fon Tryz.func37 ?_;dsimp only[Tryz.f37]
 push_cast -dsimp
 by_cases c1:Jy f
 case neg =>
  refine cl (N9 f (by omega)) ?_;push_cast -dsimp [decide_eq_false c1]
  exact dn (by push_cast -dsimp [zb,za,CLe,ze,Yf,c1])
 refine cl (N9 f (by omega)) ?_;push_cast -dsimp [decide_eq_true c1]
 by_cases c2:Y0 f
 case neg =>
  refine cl (kO f hf) ?_;push_cast -dsimp [decide_eq_false c2]
  exact dn (by push_cast -dsimp [zb,za,CLe,ze,Yf,c1,c2])
 refine cl (kO f hf) ?_;push_cast -dsimp [decide_eq_true c2]
 by_cases c3:YU f
 case neg =>
  refine cl (NU f hf) ?_;push_cast -dsimp [decide_eq_false c3]
  exact dn (by push_cast -dsimp [zb,za,CLe,ze,Yf,c1,c2,c3])
 refine cl (NU f hf) ?_;push_cast -dsimp [decide_eq_true c3]
 by_cases c4:Xf f
 case neg =>
  refine cl (k8 f hf) ?_;push_cast -dsimp [decide_eq_false c4]
  exact dn (by push_cast -dsimp [zb,za,CLe,ze,Yf,c1,c2,c3,c4])
 refine cl (k8 f hf) ?_;push_cast -dsimp [decide_eq_true c4]
 by_cases c5:Zh f
 case neg =>
  refine cl (NZ f hf c3 c1.2.2.2.2.2.2.2.1) ?_;push_cast -dsimp [decide_eq_false c5]
  exact dn (by push_cast -dsimp [zb,za,CLe,ze,Yf,c1,c2,c3,c4,c5])
 refine cl (NZ f hf c3 c1.2.2.2.2.2.2.2.1) ?_;push_cast -dsimp [decide_eq_true c5]
 by_cases c6:HQ f
 case neg =>
  refine cl (vw f hf hb) ?_;push_cast -dsimp [decide_eq_false c6]
  exact dn (by push_cast -dsimp [zb,za,CLe,ze,Yf,c1,c2,c3,c4,c5,c6])
 refine cl (vw f hf hb) ?_;push_cast -dsimp [decide_eq_true c6]
 exact dn (by push_cast -dsimp [zb,za,CLe,ze,Yf,c1,c2,c3,c4,c5,c6])
end
section
open CA CB
open Go.RowKit
def jx (x:zA) (k:zN):Bool:=decide (k.ino=x.ino)&&!k.content
def qH (w:qy) (x:zA):Prop:=zG x.ino w.fs.xs=false/\1<=x.ino/\x.ino<w.fs.next/\x.links=0/\x.parent=0/\x.es = []/\(x.kind=1∨x.kind=2∨x.kind=3)/\(x.kind=2->x.data = [])/\(x.kind=3->1<=x.data.length/\x.data.length<=4095/\∀ b∈x.data,b≠0)/\w.kept.any (jx x)=true
instance (w:qy) (x:zA):Decidable (qH w x):=by unfold qH;infer_instance
theorem zoK {α:Type} {P:α->Bool} {l:List α} {k:Nat} (h:k<l.length):(l.take (k+1)).any P=((l.take k).any P||P l[k]):=by
 rw[List.take_add_one,List.getElem?_eq_getElem h,List.any_append];simp
theorem za2 (w:qy) (x:zA) (hl:w.fs.xs.length<=100000) (hk:w.kept.length<=100000) (he:x.es.length<=100000) (hd:x.data.length<=100000):Fun Tryz.prog G0 51 [js w,.agg (Yi x)] (qG (decide (qH w x))) 0:=by
 have hg:=qz (G:=G0) w.fs x.ino hl
 have hkl:(zF w.kept).length=w.kept.length:=List.length_map ..
 have hle:(zI x.es).length=x.es.length:=List.length_map ..
 by_cases c1:zG x.ino w.fs.xs=true
 ·have hn:¬qH w x:=fun h=>by have:=h.1;rw[c1]at this;cases this
  rw[c1]at hg
  refine fon Tryz.func51 ?_;dsimp only[Tryz.f51]
  push_cast -dsimp
  refine cl (hg) ?_;push_cast -dsimp
  exact dn (by push_cast -dsimp [zb,za,CLe,ze,hn])
 have c1:=Bool.eq_false_iff.2 c1
 rw[c1]at hg
 by_cases c2:x.ino<1
 case pos =>
  have hn:¬qH w x:=fun h=>by have:=h.2.1;omega
  refine fon Tryz.func51 ?_;dsimp only[Tryz.f51]
  push_cast -dsimp
  refine cl (hg) ?_;push_cast -dsimp [hle,c2]
  exact dn (by push_cast -dsimp [zb,za,CLe,ze,hn])
 by_cases c3:w.fs.next<=x.ino
 case pos =>
  have hn:¬qH w x:=fun h=>by have:=h.2.2.1;omega
  refine fon Tryz.func51 ?_;dsimp only[Tryz.f51]
  push_cast -dsimp
  refine cl (hg) ?_;push_cast -dsimp [hle,c2,c3]
  exact dn (by push_cast -dsimp [zb,za,CLe,ze,hn])
 by_cases c4:x.links=0
 case neg =>
  have hn:¬qH w x:=fun h=>c4 h.2.2.2.1
  refine fon Tryz.func51 ?_;dsimp only[Tryz.f51]
  push_cast -dsimp
  refine cl (hg) ?_;push_cast -dsimp [hle,c2,c3,c4]
  exact dn (by push_cast -dsimp [zb,za,CLe,ze,hn])
 by_cases c5:x.parent=0
 case neg =>
  have hn:¬qH w x:=fun h=>c5 h.2.2.2.2.1
  refine fon Tryz.func51 ?_;dsimp only[Tryz.f51]
  push_cast -dsimp
  refine cl (hg) ?_;push_cast -dsimp [hle,c2,c3,c4,c5]
  exact dn (by push_cast -dsimp [zb,za,CLe,ze,hn])
 by_cases c6:(x.es.length:Int)=0
 case neg =>
  have hn:¬qH w x:=fun h=>c6 (by rw[h.2.2.2.2.2.1];rfl)
  refine fon Tryz.func51 ?_;dsimp only[Tryz.f51]
  push_cast -dsimp
  refine cl (hg) ?_;push_cast -dsimp [hle,c2,c3,c4,c5,c6]
  exact dn (by push_cast -dsimp [zb,za,CLe,ze,hn])
 by_cases c7:x.kind<1
 case pos =>
  have hn:¬qH w x:=fun h=>by have:=h.2.2.2.2.2.2.1;omega
  refine fon Tryz.func51 ?_;dsimp only[Tryz.f51]
  push_cast -dsimp
  refine cl (hg) ?_;push_cast -dsimp [hle,c2,c3,c4,c5,c6,c7]
  exact dn (by push_cast -dsimp [zb,za,CLe,ze,hn])
 by_cases c8:3<x.kind
 case pos =>
  have hn:¬qH w x:=fun h=>by have:=h.2.2.2.2.2.2.1;omega
  refine fon Tryz.func51 ?_;dsimp only[Tryz.f51]
  push_cast -dsimp
  refine cl (hg) ?_;push_cast -dsimp [hle,c2,c3,c4,c5,c6,c7,c8]
  exact dn (by push_cast -dsimp [zb,za,CLe,ze,hn])
 have hes:x.es = []:=List.eq_nil_of_length_eq_zero (by omega)
 have hkd:x.kind=1∨x.kind=2∨x.kind=3:=by omega
 have key:(x.kind=2->x.data = [])->(x.kind=3->1<=x.data.length/\x.data.length<=4095/\∀ b∈x.data,b≠0)->decide (qH w x)=w.kept.any (jx x):=fun q1 q2=>by
  cases hn:w.kept.any (jx x) with
  | true=>exact decide_eq_true ⟨c1,by omega,by omega,c4,c5,hes,hkd,q1,q2,hn⟩
  | false=>exact decide_eq_false fun h=>by have:=h.2.2.2.2.2.2.2.2.2;rw[hn]at this;cases this
 by_cases k2:x.kind=2
 ·by_cases d0:x.data = []
  ·have hdl:((0:Int)<x.data.length)=False:=eq_false (by rw[d0];simp)
   refine fon Tryz.func51 ?_;dsimp only[Tryz.f51]
   push_cast -dsimp
   refine cl (hg) ?_;push_cast -dsimp [hle,c2,c3,c4,c5,c6,c7,c8,k2,d0,hdl]
   refine loop (fun j:Nat=>⟨[(2,.ptr 0 0),(3,.ptr 1 0),(7,.sc (.int .i64 j))],[Ga w,Yi x],0,0⟩) (fun j=>j=0) (fun j=>0) 0 rfl ?_ ?_
   ·exact wk (h5:=by push_cast -dsimp [zb,za,CLe,ze,k2,d0,c4,c5])
   ·rintro j rfl
    push_cast -dsimp [hdl,d0]
    refine loop (fun i:Nat=>⟨[(2,.ptr 0 0),(3,.ptr 1 0),(8,.sc (.bool ((w.kept.take i).any (jx x)))),(9,.sc (.int .i64 i))],[Ga w,Yi x],0,0⟩) (fun i=>i<=w.kept.length) (fun i=>w.kept.length-i) 0 (Nat.zero_le _) ?_ ?_
    ·exact wk (by push_cast -dsimp [zb,za,CLe,ze,List.take_zero,List.any_nil])
    ·intro i hi
     by_cases h:i<w.kept.length
     ·have g:=jE w.kept i h
      have ha:=zoK (P:=jx x) h
      have hp:jx x w.kept[i]=(decide (w.kept[i].ino=x.ino)&&!w.kept[i].content):=rfl
      by_cases hn:((w.kept.take i).any (jx x))=true
      ·rw[hn,Bool.true_or]at ha
       push_cast -dsimp [hkl,h,hn]
       repeat refine an ?_
       exact ⟨i+1,h,by omega,wk (by push_cast -dsimp [zb,za,CLe,ze,ha])⟩
      ·have hn:=Bool.eq_false_iff.2 hn
       rw[hn,Bool.false_or,hp]at ha
       by_cases he:w.kept[i].ino=x.ino
       ·rw[decide_eq_true he,Bool.true_and]at ha
        push_cast -dsimp [hkl,h,hn,g,he]
        repeat refine an ?_
        exact ⟨i+1,h,by omega,wk (by push_cast -dsimp [zb,za,CLe,ze,ha])⟩
       ·rw[decide_eq_false he,Bool.false_and]at ha
        push_cast -dsimp [hkl,h,hn,g,he]
        repeat refine an ?_
        exact ⟨i+1,h,by omega,wk (by push_cast -dsimp [zb,za,CLe,ze,ha])⟩
     ·rw[List.take_of_length_le (by omega)]
      have hd:decide (qH w x)=w.kept.any (jx x):=key (fun _=>d0) (fun h=>by omega)
      push_cast -dsimp [hkl,h]
      exact dn (by push_cast -dsimp [zb,za,CLe,ze,hd])
  ·have hn:¬qH w x:=fun h=>d0 (h.2.2.2.2.2.2.2.1 k2)
   refine fon Tryz.func51 ?_;dsimp only[Tryz.f51]
   push_cast -dsimp
   refine cl (hg) ?_;push_cast -dsimp [hle,c2,c3,c4,c5,c6,c7,c8,k2,d0]
   exact dn (by push_cast -dsimp [zb,za,CLe,ze,hn])
 by_cases k3:x.kind=3
 ·by_cases l1:(x.data.length:Int)<1
  ·have hn:¬qH w x:=fun h=>by have:=(h.2.2.2.2.2.2.2.2.1 k3).1;omega
   refine fon Tryz.func51 ?_;dsimp only[Tryz.f51]
   push_cast -dsimp
   refine cl (hg) ?_;push_cast -dsimp [hle,c2,c3,c4,c5,c6,c7,c8,k2,k3,l1]
   exact dn (by push_cast -dsimp [zb,za,CLe,ze,hn])
  by_cases l2:4095<(x.data.length:Int)
  ·have hn:¬qH w x:=fun h=>by have:=(h.2.2.2.2.2.2.2.2.1 k3).2.1;omega
   refine fon Tryz.func51 ?_;dsimp only[Tryz.f51]
   push_cast -dsimp
   refine cl (hg) ?_;push_cast -dsimp [hle,c2,c3,c4,c5,c6,c7,c8,k2,k3,l1,l2]
   exact dn (by push_cast -dsimp [zb,za,CLe,ze,hn])
  refine fon Tryz.func51 ?_;dsimp only[Tryz.f51]
  push_cast -dsimp
  refine cl (hg) ?_;push_cast -dsimp [hle,c2,c3,c4,c5,c6,c7,c8,k2,k3,l1,l2]
  refine loop (fun j:Nat=>⟨[(2,.ptr 0 0),(3,.ptr 1 0),(7,.sc (.int .i64 j))],[Ga w,Yi x],0,0⟩) (fun j=>j<=x.data.length/\∀ b∈x.data.take j,b≠0) (fun j=>x.data.length-j) 0 ⟨Nat.zero_le _,fun b hb=>by simp at hb⟩ ?_ ?_
  ·exact wk (h5:=by push_cast -dsimp [zb,za,CLe,ze,k3,c4,c5])
  ·rintro j ⟨j1,j2⟩
   by_cases hj:j<x.data.length
   ·have hb:x.data[j]?=some x.data[j]:=List.getElem?_eq_getElem hj
    by_cases z:(x.data[j].toNat:Int)=0
    ·have hn:¬qH w x:=fun h=>(h.2.2.2.2.2.2.2.2.1 k3).2.2 _ (List.getElem_mem hj) (UInt8.toNat_inj.1 (by simpa using z))
     push_cast -dsimp [hj,k3,hb,z]
     repeat refine an ?_
     exact dn (by push_cast -dsimp [zb,za,CLe,ze,hn])
    ·push_cast -dsimp [hj,k3,hb,z]
     repeat refine an ?_
     exact ⟨j+1,⟨hj,qi hj j2 fun hz=>z (by rw[hz];rfl)⟩,by omega,wk⟩
   ·rw[List.take_of_length_le (by omega)]at j2
    push_cast -dsimp [hj,k3]
    refine loop (fun i:Nat=>⟨[(2,.ptr 0 0),(3,.ptr 1 0),(8,.sc (.bool ((w.kept.take i).any (jx x)))),(9,.sc (.int .i64 i))],[Ga w,Yi x],0,0⟩) (fun i=>i<=w.kept.length) (fun i=>w.kept.length-i) 0 (Nat.zero_le _) ?_ ?_
    ·exact wk (by push_cast -dsimp [zb,za,CLe,ze,List.take_zero,List.any_nil])
    ·intro i hi
     by_cases h:i<w.kept.length
     ·have g:=jE w.kept i h
      have ha:=zoK (P:=jx x) h
      have hp:jx x w.kept[i]=(decide (w.kept[i].ino=x.ino)&&!w.kept[i].content):=rfl
      by_cases hn:((w.kept.take i).any (jx x))=true
      ·rw[hn,Bool.true_or]at ha
       push_cast -dsimp [hkl,h,hn]
       repeat refine an ?_
       exact ⟨i+1,h,by omega,wk (by push_cast -dsimp [zb,za,CLe,ze,ha])⟩
      ·have hn:=Bool.eq_false_iff.2 hn
       rw[hn,Bool.false_or,hp]at ha
       by_cases he:w.kept[i].ino=x.ino
       ·rw[decide_eq_true he,Bool.true_and]at ha
        push_cast -dsimp [hkl,h,hn,g,he]
        repeat refine an ?_
        exact ⟨i+1,h,by omega,wk (by push_cast -dsimp [zb,za,CLe,ze,ha])⟩
       ·rw[decide_eq_false he,Bool.false_and]at ha
        push_cast -dsimp [hkl,h,hn,g,he]
        repeat refine an ?_
        exact ⟨i+1,h,by omega,wk (by push_cast -dsimp [zb,za,CLe,ze,ha])⟩
     ·rw[List.take_of_length_le (by omega)]
      have hd:decide (qH w x)=w.kept.any (jx x):=key (fun h=>absurd h k2) (fun _=>⟨by omega,by omega,j2⟩)
      push_cast -dsimp [hkl,h]
      exact dn (by push_cast -dsimp [zb,za,CLe,ze,hd])
 ·have k1:x.kind=1:=by omega
  refine fon Tryz.func51 ?_;dsimp only[Tryz.f51]
  push_cast -dsimp
  refine cl (hg) ?_;push_cast -dsimp [hle,c2,c3,c4,c5,c6,c7,c8,k2,k3]
  refine loop (fun j:Nat=>⟨[(2,.ptr 0 0),(3,.ptr 1 0),(7,.sc (.int .i64 j))],[Ga w,Yi x],0,0⟩) (fun j=>j=0) (fun j=>0) 0 rfl ?_ ?_
  ·exact wk (h5:=by push_cast -dsimp [zb,za,CLe,ze,c4,c5])
  ·rintro j rfl
   by_cases hd0:(0:Int)<x.data.length
   ·push_cast -dsimp [hd0,k3]
    refine loop (fun i:Nat=>⟨[(2,.ptr 0 0),(3,.ptr 1 0),(8,.sc (.bool ((w.kept.take i).any (jx x)))),(9,.sc (.int .i64 i))],[Ga w,Yi x],0,0⟩) (fun i=>i<=w.kept.length) (fun i=>w.kept.length-i) 0 (Nat.zero_le _) ?_ ?_
    ·exact wk (by push_cast -dsimp [zb,za,CLe,ze,List.take_zero,List.any_nil])
    ·intro i hi
     by_cases h:i<w.kept.length
     ·have g:=jE w.kept i h
      have ha:=zoK (P:=jx x) h
      have hp:jx x w.kept[i]=(decide (w.kept[i].ino=x.ino)&&!w.kept[i].content):=rfl
      by_cases hn:((w.kept.take i).any (jx x))=true
      ·rw[hn,Bool.true_or]at ha
       push_cast -dsimp [hkl,h,hn]
       repeat refine an ?_
       exact ⟨i+1,h,by omega,wk (by push_cast -dsimp [zb,za,CLe,ze,ha])⟩
      ·have hn:=Bool.eq_false_iff.2 hn
       rw[hn,Bool.false_or,hp]at ha
       by_cases he:w.kept[i].ino=x.ino
       ·rw[decide_eq_true he,Bool.true_and]at ha
        push_cast -dsimp [hkl,h,hn,g,he]
        repeat refine an ?_
        exact ⟨i+1,h,by omega,wk (by push_cast -dsimp [zb,za,CLe,ze,ha])⟩
       ·rw[decide_eq_false he,Bool.false_and]at ha
        push_cast -dsimp [hkl,h,hn,g,he]
        repeat refine an ?_
        exact ⟨i+1,h,by omega,wk (by push_cast -dsimp [zb,za,CLe,ze,ha])⟩
     ·rw[List.take_of_length_le (by omega)]
      have hd:decide (qH w x)=w.kept.any (jx x):=key (fun h=>absurd h k2) (fun h=>absurd h k3)
      push_cast -dsimp [hkl,h]
      exact dn (by push_cast -dsimp [zb,za,CLe,ze,hd])
   ·push_cast -dsimp [hd0,k3]
    refine loop (fun i:Nat=>⟨[(2,.ptr 0 0),(3,.ptr 1 0),(8,.sc (.bool ((w.kept.take i).any (jx x)))),(9,.sc (.int .i64 i))],[Ga w,Yi x],0,0⟩) (fun i=>i<=w.kept.length) (fun i=>w.kept.length-i) 0 (Nat.zero_le _) ?_ ?_
    ·exact wk (by push_cast -dsimp [zb,za,CLe,ze,List.take_zero,List.any_nil])
    ·intro i hi
     by_cases h:i<w.kept.length
     ·have g:=jE w.kept i h
      have ha:=zoK (P:=jx x) h
      have hp:jx x w.kept[i]=(decide (w.kept[i].ino=x.ino)&&!w.kept[i].content):=rfl
      by_cases hn:((w.kept.take i).any (jx x))=true
      ·rw[hn,Bool.true_or]at ha
       push_cast -dsimp [hkl,h,hn]
       repeat refine an ?_
       exact ⟨i+1,h,by omega,wk (by push_cast -dsimp [zb,za,CLe,ze,ha])⟩
      ·have hn:=Bool.eq_false_iff.2 hn
       rw[hn,Bool.false_or,hp]at ha
       by_cases he:w.kept[i].ino=x.ino
       ·rw[decide_eq_true he,Bool.true_and]at ha
        push_cast -dsimp [hkl,h,hn,g,he]
        repeat refine an ?_
        exact ⟨i+1,h,by omega,wk (by push_cast -dsimp [zb,za,CLe,ze,ha])⟩
       ·rw[decide_eq_false he,Bool.false_and]at ha
        push_cast -dsimp [hkl,h,hn,g,he]
        repeat refine an ?_
        exact ⟨i+1,h,by omega,wk (by push_cast -dsimp [zb,za,CLe,ze,ha])⟩
     ·rw[List.take_of_length_le (by omega)]
      have hd:decide (qH w x)=w.kept.any (jx x):=key (fun h=>absurd h k2) (fun h=>absurd h k3)
      push_cast -dsimp [hkl,h]
      exact dn (by push_cast -dsimp [zb,za,CLe,ze,hd])
end
section
open CA CB
open Go.RowKit
def zfV (w:qy):Prop:=(∀ k∈w.kept,k.data.length<=5000)/\Vk w.fs.xs/\Vk w.pool/\w.kept.length<=40
instance (w:qy):Decidable (zfV w):=by unfold zfV;infer_instance
def Xw (w:qy) (k:zN):Prop:=k.slot<=1073741824/\(zG k.ino w.fs.xs=true∨zG k.ino w.pool=true)/\(k.content=true->(if zG k.ino w.pool=true then zg k.ino w.pool else zg k.ino w.fs.xs).kind=1)/\(k.content=false->k.data = [])
instance (w:qy) (k:zN):Decidable (Xw w k):=by unfold Xw;infer_instance
def Xx (ks:List zN):Prop:=qA jC zN.slot ks/\∀ k∈ks,1<=k.slot
instance (ks:List zN):Decidable (Xx ks):=by unfold Xx qA;infer_instance
def Xs (w:qy):Prop:=Yf w.fs=0/\qc w.pool/\(∀ x∈w.pool,qH w x)/\Xx w.kept/\∀ k∈w.kept,Xw w k
instance (w:qy):Decidable (Xs w):=by unfold Xs;infer_instance
def okW (w:qy):Prop:=zfV w/\Xs w
instance (w:qy):Decidable (okW w):=by unfold okW;infer_instance
theorem Uw {ks:List zN} (h:Xx ks):0<=jM ks/\∀ k∈ks,k.slot<=jM ks:=by
 rcases List.eq_nil_or_concat ks with rfl | ⟨l,b,rfl⟩
 ·exact ⟨Int.le_refl 0,fun k hk=>by cases hk⟩
 ·rw[List.concat_eq_append]at h ⊢
  have hl:jM (l++[b])=b.slot:=by unfold jM;rw[List.getLast?_append];rfl
  rw[hl]
  have hb:=h.2 b (by simp)
  refine ⟨by omega,fun k hk=>?_⟩
  rcases List.mem_append.1 hk with hk | hk
  ·have:=(List.pairwise_append.1 h.1).2.2 k hk b (by simp)
   have:k.slot<b.slot:=of_decide_eq_true this
   omega
  ·rw[List.mem_singleton.1 hk];exact Int.le_refl _
theorem Uv {ks:List zN} {k:zN}:Xx (ks++[k])↔Xx ks/\jM ks<k.slot:=by
 constructor
 ·rintro ⟨h1,h2⟩
  have h0:Xx ks:=⟨(List.pairwise_append.1 h1).1,fun x hx=>h2 x (List.mem_append_left _ hx)⟩
  refine ⟨h0,?_⟩
  rcases List.eq_nil_or_concat ks with rfl | ⟨l,b,rfl⟩
  ·have:=h2 k (by simp)
   show (0:Int)<k.slot
   omega
  ·rw[List.concat_eq_append]at h1 ⊢
   have hl:jM (l++[b])=b.slot:=by unfold jM;rw[List.getLast?_append];rfl
   rw[hl]
   exact of_decide_eq_true ((List.pairwise_append.1 h1).2.2 b (by simp) k (by simp))
 ·rintro ⟨h,hk⟩
  obtain ⟨q1,q2⟩:=Uw h
  refine ⟨List.pairwise_append.2 ⟨h.1,List.pairwise_singleton _ _,fun a ha b hb=>?_⟩,fun x hx=>?_⟩
  ·rw[List.mem_singleton.1 hb]
   have:=q2 a ha
   exact decide_eq_true (show a.slot<k.slot by omega)
  ·rcases List.mem_append.1 hx with hx | hx
   ·exact h.2 x hx
   ·rw[List.mem_singleton.1 hx];omega
theorem Hf (w:qy):Fun Tryz.prog G0 65 [js w] (qG (decide (zfV w))) 0:=by
 have hkl:(zF w.kept).length=w.kept.length:=List.length_map ..
 have hf:=uh (G:=G0) w.fs
 have hq:=Zl (G:=G0) w
 have hp:=uh (G:=G0) ⟨0,0,0,w.pool⟩
 simp only at hp
 have fin:(∀ k∈w.kept.take 100,k.data.length<=5000)->(zfV w↔Vk w.fs.xs/\Vk w.pool/\w.kept.length<=40):=fun h=>by
  refine ⟨fun q=>q.2,fun q=>⟨?_,q⟩⟩
  rw[List.take_of_length_le (by have:=q.2.2;omega)]at h
  exact h
 refine fon Tryz.func65 ?_;dsimp only[Tryz.f65]
 push_cast -dsimp
 refine loop (fun i:Nat=>⟨[(1,.ptr 0 0),(3,.sc (.int .i64 i))],[Ga w],0,0⟩) (fun i=>i<=w.kept.length/\i<=100/\∀ k∈w.kept.take i,k.data.length<=5000) (fun i=>w.kept.length-i) 0 ⟨Nat.zero_le _,Nat.zero_le _,fun x hx=>by simp at hx⟩ ?_ ?_
 ·exact wk
 ·rintro i ⟨h1,h2,h3⟩
  have last:(∀ k∈w.kept.take 100,k.data.length<=5000)->decide (zfV w)=(decide (Vk w.fs.xs)&&(decide (Vk w.pool)&&decide (w.kept.length<=40))):=fun h=>by
   have:=fin h
   by_cases a:Vk w.fs.xs<;>by_cases b:Vk w.pool<;>by_cases c:w.kept.length<=40<;>simp[this,a,b,c]
  by_cases h:i<w.kept.length
  ·by_cases h100:i<100
   ·have g:=jE w.kept i h
    have h100':((i:Int)<100)=True:=eq_true (by omega)
    by_cases hd:5000<(w.kept[i].data.length:Int)
    ·have hn:¬zfV w:=fun q=>by have:=q.1 _ (List.getElem_mem h);omega
     push_cast -dsimp [hkl,h,h100',g,hd]
     repeat refine an ?_
     exact dn (by push_cast -dsimp [zb,za,CLe,ze,hn])
    ·push_cast -dsimp [hkl,h,h100',g,hd]
     repeat refine an ?_
     exact ⟨i+1,⟨h,h100,qi h h3 (by omega)⟩,by omega,wk⟩
   ·have h100':((i:Int)<100)=False:=eq_false (by omega)
    have e:i=100:=by omega
    have hl:=last (by rw[←e];exact h3)
    have h40:((w.kept.length:Int)<=40)=False:=eq_false (by omega)
    rw[decide_eq_false (show ¬w.kept.length<=40 by omega)]at hl
    rw[hl]
    by_cases a:Vk w.fs.xs
    ·by_cases b:Vk w.pool
     ·push_cast -dsimp [hkl,h,h100']
      refine cl (hf) ?_;push_cast -dsimp [decide_eq_true a]
      refine cl (hq) ?_;push_cast -dsimp
      refine cl (hp) ?_;push_cast -dsimp [decide_eq_true b,hkl,h40]
      exact dn (by push_cast -dsimp [zb,za,CLe,ze,a,b,Bool.false_and])
     ·push_cast -dsimp [hkl,h,h100']
      refine cl (hf) ?_;push_cast -dsimp [decide_eq_true a]
      refine cl (hq) ?_;push_cast -dsimp
      refine cl (hp) ?_;push_cast -dsimp [decide_eq_false b]
      exact dn (by push_cast -dsimp [zb,za,CLe,ze,a,b,Bool.false_and])
    ·push_cast -dsimp [hkl,h,h100']
     refine cl (hf) ?_;push_cast -dsimp [decide_eq_false a]
     exact dn (by push_cast -dsimp [zb,za,CLe,ze,a,Bool.false_and])
  ·rw[List.take_of_length_le (by omega)]at h3
   have hl:=last fun k hk=>h3 k (List.mem_of_mem_take hk)
   rw[hl]
   by_cases a:Vk w.fs.xs
   ·by_cases b:Vk w.pool
    ·by_cases c:w.kept.length<=40
     ·have h40:((w.kept.length:Int)<=40)=True:=eq_true (by omega)
      push_cast -dsimp [hkl,h]
      refine cl (hf) ?_;push_cast -dsimp [decide_eq_true a]
      refine cl (hq) ?_;push_cast -dsimp
      refine cl (hp) ?_;push_cast -dsimp [decide_eq_true b,hkl,h40]
      exact dn (by push_cast -dsimp [zb,za,CLe,ze,a,b,c,Bool.false_and])
     ·have h40:((w.kept.length:Int)<=40)=False:=eq_false (by omega)
      push_cast -dsimp [hkl,h]
      refine cl (hf) ?_;push_cast -dsimp [decide_eq_true a]
      refine cl (hq) ?_;push_cast -dsimp
      refine cl (hp) ?_;push_cast -dsimp [decide_eq_true b,hkl,h40]
      exact dn (by push_cast -dsimp [zb,za,CLe,ze,a,b,c,Bool.false_and])
    ·push_cast -dsimp [hkl,h]
     refine cl (hf) ?_;push_cast -dsimp [decide_eq_true a]
     refine cl (hq) ?_;push_cast -dsimp
     refine cl (hp) ?_;push_cast -dsimp [decide_eq_false b]
     exact dn (by push_cast -dsimp [zb,za,CLe,ze,a,b,Bool.false_and])
   ·push_cast -dsimp [hkl,h]
    refine cl (hf) ?_;push_cast -dsimp [decide_eq_false a]
    exact dn (by push_cast -dsimp [zb,za,CLe,ze,a,Bool.false_and])
structure zqb (w:qy):Prop where
 fs:FsS w.fs
 kept:w.kept.length<=10000
 pool:FsS ⟨0,0,0,w.pool⟩
theorem yf (w:qy) (hw:zqb w):Fun Tryz.prog G0 20 [js w] (qG (decide (Xs w))) 0:=by
 have hfl:=hw.fs.len
 have hkk:=hw.kept
 have hpp:w.pool.length<=10000:=hw.pool.len
 have hkl:(zF w.kept).length=w.kept.length:=List.length_map ..
 have hpl:(zr w.pool).length=w.pool.length:=List.length_map ..
 have hch:=ze8 w.fs hw.fs
 have hq:=Zl (G:=G0) w
 have hri:=Vz (G:=G0) ⟨0,0,0,w.pool⟩ (by simp only;omega)
 by_cases c1:Yf w.fs=0
 case neg =>
  have hn:¬Xs w:=fun h=>c1 h.1
  refine fof (fun i=>if i=14 then kj 8 9 else []) Tryz.func20 ?_;dsimp only[Tryz.f20]
  push_cast -dsimp
  refine cl (hch) ?_;push_cast -dsimp [c1]
  exact dn (by push_cast -dsimp [zb,za,CLe,ze,hn])
 by_cases c2:qc w.pool
 case neg =>
  have hn:¬Xs w:=fun h=>c2 h.2.1
  rw[decide_eq_false c2]at hri
  refine fof (fun i=>if i=14 then kj 8 9 else []) Tryz.func20 ?_;dsimp only[Tryz.f20]
  push_cast -dsimp
  refine cl (hch) ?_;push_cast -dsimp [c1]
  refine cl (hq) ?_;push_cast -dsimp
  refine cl (hri) ?_;push_cast -dsimp
  exact dn (by push_cast -dsimp [zb,za,CLe,ze,hn])
 rw[decide_eq_true c2]at hri
 refine fof (fun i=>if i=14 then kj 8 9 else []) Tryz.func20 ?_;dsimp only[Tryz.f20]
 push_cast -dsimp
 refine cl (hch) ?_;push_cast -dsimp [c1]
 refine cl (hq) ?_;push_cast -dsimp
 refine cl (hri) ?_;push_cast -dsimp
 refine loop (fun i:Nat=>⟨[(1,.ptr 0 0),(3,.sc (.int .i64 i))],[Ga w],0,0⟩) (fun i=>i<=w.pool.length/\∀ x∈w.pool.take i,qH w x) (fun i=>w.pool.length-i) 0 ⟨Nat.zero_le _,fun x hx=>by simp at hx⟩ ?_ ?_
 ·exact wk
 rintro i ⟨h1,h2⟩
 by_cases h:i<w.pool.length
 ·have g:=jg w.pool i h
  have hn:=hw.pool.node _ (List.getElem_mem h)
  have hpo:=za2 w w.pool[i] (by omega) (by omega) (by omega) (by omega)
  by_cases c3:qH w w.pool[i]
  ·rw[decide_eq_true c3]at hpo
   push_cast -dsimp [hpl,h,g]
   repeat refine an ?_
   refine cl (hpo) ?_;push_cast -dsimp
   repeat refine an ?_
   exact ⟨i+1,⟨h,qi h h2 c3⟩,by omega,wk⟩
  ·rw[decide_eq_false c3]at hpo
   have hn:¬Xs w:=fun q=>c3 (q.2.2.1 _ (List.getElem_mem h))
   push_cast -dsimp [hpl,h,g]
   repeat refine an ?_
   refine cl (hpo) ?_;push_cast -dsimp
   exact dn (by push_cast -dsimp [zb,za,CLe,ze,hn])
 rw[List.take_of_length_le (by omega)]at h2
 have hs0:Xx []:=⟨List.Pairwise.nil,fun k hk=>by cases hk⟩
 have hl0:jM []=0:=rfl
 push_cast -dsimp [hpl,h]
 clear hri hq hch
 refine loop (fun i:Nat=>⟨[(1,.ptr 0 0),(4,.sc (.int .i64 (jM (w.kept.take i)))),(5,.sc (.int .i64 i))],[Ga w],0,0⟩) (fun i=>i<=w.kept.length/\Xx (w.kept.take i)/\∀ k∈w.kept.take i,Xw w k) (fun i=>w.kept.length-i) 0 ⟨Nat.zero_le _,by rw[List.take_zero];exact hs0,fun x hx=>by simp at hx⟩ ?_ ?_
 ·exact wk (by push_cast -dsimp [zb,za,CLe,ze,List.take_zero,hl0])
 rintro i ⟨i1,i2,i3⟩
 by_cases hi:i<w.kept.length
 case neg =>
  rw[List.take_of_length_le (by omega)]at i2 i3
  have hn:Xs w:=⟨c1,c2,h2,i2,i3⟩
  push_cast -dsimp [hkl,hi]
  exact dn (by push_cast -dsimp [zb,za,CLe,ze,hn])
 have g:=jE w.kept i hi
 have hlt:=Uh hi
 have hst:w.kept.take (i+1)=w.kept.take i++[w.kept[i]]:=by rw[List.take_add_one,List.getElem?_eq_getElem hi];rfl
 have hbad1:¬jM (w.kept.take i)<w.kept[i].slot->¬Xs w:=fun hn q=>hn (Uv.1 (by
  rw[←hst]
  exact ⟨q.2.2.2.1.1.sublist (List.take_sublist _ _),fun k hk=>q.2.2.2.1.2 k (List.mem_of_mem_take hk)⟩)).2
 have hbad2:¬Xw w w.kept[i]->¬Xs w:=fun hn q=>hn (q.2.2.2.2 _ (List.getElem_mem hi))
 have hgood:jM (w.kept.take i)<w.kept[i].slot->Xx (w.kept.take (i+1)):=fun q=>by rw[hst];exact Uv.2 ⟨i2,q⟩
 have hgood2:Xw w w.kept[i]->∀ k∈w.kept.take (i+1),Xw w k:=fun q=>qi hi i3 q
 have hg1:=qz (G:=G0) w.fs w.kept[i].ino (by omega)
 have hq:=Zl (G:=G0) w
 have hg2:=qz (G:=G0) ⟨0,0,0,w.pool⟩ w.kept[i].ino (by simp only;omega)
 simp only at hg2
 generalize w.kept[i]=k at g hlt hbad1 hbad2 hgood hgood2 hg1 hg2
 generalize jM (w.kept.take i)=la at hbad1 hgood
 clear hst i2 i3
 by_cases d1:k.slot<=la
 ·have hn:=hbad1 (by omega)
  push_cast -dsimp [hkl,hi,g]
  repeat refine an ?_
  refine cl (hg1) ?_;push_cast -dsimp
  refine cl (hq) ?_;push_cast -dsimp
  refine cl (hg2) ?_;push_cast -dsimp [d1]
  exact dn (by push_cast -dsimp [zb,za,CLe,ze,hn])
 have hgd:=hgood (by omega)
 by_cases d2:1073741824<k.slot
 ·have hn:=hbad2 fun q=>by have:=q.1;omega
  push_cast -dsimp [hkl,hi,g]
  repeat refine an ?_
  refine cl (hg1) ?_;push_cast -dsimp
  refine cl (hq) ?_;push_cast -dsimp
  refine cl (hg2) ?_;push_cast -dsimp [d1,d2]
  exact dn (by push_cast -dsimp [zb,za,CLe,ze,hn])
 cases e2:zG k.ino w.pool with
 | true =>
  rw[e2]at hg2
  by_cases d4:k.content=true
  ·by_cases d5:(zg k.ino w.pool).kind=1
   ·have hok:Xw w k:=⟨by omega,.inr e2,fun _=>by rw[if_pos e2];exact d5,fun q=>by rw[d4]at q;cases q⟩
    cases e1:zG k.ino w.fs.xs <;>
    ·rw[e1]at hg1
     push_cast -dsimp [hkl,hi,g]
     repeat refine an ?_
     refine cl (hg1) ?_;push_cast -dsimp
     refine cl (hq) ?_;push_cast -dsimp
     refine cl (hg2) ?_;push_cast -dsimp [d1,d2,d4,d5]
     repeat refine an ?_
     exact ⟨i+1,⟨hi,hgd,hgood2 hok⟩,by omega,wk (by push_cast -dsimp [zb,za,CLe,ze,hlt])⟩
   ·have hn:=hbad2 fun q=>d5 (by have:=q.2.2.1 d4;rwa [if_pos e2]at this)
    cases e1:zG k.ino w.fs.xs <;>
    ·rw[e1]at hg1
     push_cast -dsimp [hkl,hi,g]
     repeat refine an ?_
     refine cl (hg1) ?_;push_cast -dsimp
     refine cl (hq) ?_;push_cast -dsimp
     refine cl (hg2) ?_;push_cast -dsimp [d1,d2,d4,d5]
     exact dn (by push_cast -dsimp [zb,za,CLe,ze,hn])
  ·have d4:=Bool.eq_false_iff.2 d4
   by_cases d6:k.data = []
   ·have hok:Xw w k:=⟨by omega,.inr e2,fun q=>(by rw[d4]at q;cases q),fun _=>d6⟩
    cases e1:zG k.ino w.fs.xs <;>
    ·rw[e1]at hg1
     push_cast -dsimp [hkl,hi,g]
     repeat refine an ?_
     refine cl (hg1) ?_;push_cast -dsimp
     refine cl (hq) ?_;push_cast -dsimp
     refine cl (hg2) ?_;push_cast -dsimp [d1,d2,d4,d6]
     repeat refine an ?_
     exact ⟨i+1,⟨hi,hgd,hgood2 hok⟩,by omega,wk (by push_cast -dsimp [zb,za,CLe,ze,hlt])⟩
   ·have hn:=hbad2 fun q=>d6 (q.2.2.2 d4)
    cases e1:zG k.ino w.fs.xs <;>
    ·rw[e1]at hg1
     push_cast -dsimp [hkl,hi,g]
     repeat refine an ?_
     refine cl (hg1) ?_;push_cast -dsimp
     refine cl (hq) ?_;push_cast -dsimp
     refine cl (hg2) ?_;push_cast -dsimp [d1,d2,d4,d6]
     exact dn (by push_cast -dsimp [zb,za,CLe,ze,hn])
 | false =>
  rw[e2]at hg2
  cases e1:zG k.ino w.fs.xs with
  | false =>
   rw[e1]at hg1
   have hn:=hbad2 fun q=>by
    rcases q.2.1 with q | q
    ·rw[e1]at q;cases q
    ·rw[e2]at q;cases q
   push_cast -dsimp [hkl,hi,g]
   repeat refine an ?_
   refine cl (hg1) ?_;push_cast -dsimp
   refine cl (hq) ?_;push_cast -dsimp
   refine cl (hg2) ?_;push_cast -dsimp [d1,d2]
   exact dn (by push_cast -dsimp [zb,za,CLe,ze,hn])
  | true =>
   rw[e1]at hg1
   have e2':¬zG k.ino w.pool=true:=by rw[e2];decide
   by_cases d4:k.content=true
   ·by_cases d5:(zg k.ino w.fs.xs).kind=1
    ·have hok:Xw w k:=⟨by omega,.inl e1,fun _=>by rw[if_neg e2'];exact d5,fun q=>by rw[d4]at q;cases q⟩
     push_cast -dsimp [hkl,hi,g]
     repeat refine an ?_
     refine cl (hg1) ?_;push_cast -dsimp
     refine cl (hq) ?_;push_cast -dsimp
     refine cl (hg2) ?_;push_cast -dsimp [d1,d2,d4,d5]
     repeat refine an ?_
     exact ⟨i+1,⟨hi,hgd,hgood2 hok⟩,by omega,wk (by push_cast -dsimp [zb,za,CLe,ze,hlt])⟩
    ·have hn:=hbad2 fun q=>d5 (by have:=q.2.2.1 d4;rwa [if_neg e2']at this)
     push_cast -dsimp [hkl,hi,g]
     repeat refine an ?_
     refine cl (hg1) ?_;push_cast -dsimp
     refine cl (hq) ?_;push_cast -dsimp
     refine cl (hg2) ?_;push_cast -dsimp [d1,d2,d4,d5]
     exact dn (by push_cast -dsimp [zb,za,CLe,ze,hn])
   ·have d4:=Bool.eq_false_iff.2 d4
    by_cases d6:k.data = []
    ·have hok:Xw w k:=⟨by omega,.inl e1,fun q=>(by rw[d4]at q;cases q),fun _=>d6⟩
     push_cast -dsimp [hkl,hi,g]
     repeat refine an ?_
     refine cl (hg1) ?_;push_cast -dsimp
     refine cl (hq) ?_;push_cast -dsimp
     refine cl (hg2) ?_;push_cast -dsimp [d1,d2,d4,d6]
     repeat refine an ?_
     exact ⟨i+1,⟨hi,hgd,hgood2 hok⟩,by omega,wk (by push_cast -dsimp [zb,za,CLe,ze,hlt])⟩
    ·have hn:=hbad2 fun q=>d6 (q.2.2.2 d4)
     push_cast -dsimp [hkl,hi,g]
     repeat refine an ?_
     refine cl (hg1) ?_;push_cast -dsimp
     refine cl (hq) ?_;push_cast -dsimp
     refine cl (hg2) ?_;push_cast -dsimp [d1,d2,d4,d6]
     exact dn (by push_cast -dsimp [zb,za,CLe,ze,hn])
theorem zfV.m {w:qy} (h:zfV w):zqb w:=⟨h.2.1.fs,by have:=h.2.2.2;omega,Vk.fs (f:=⟨0,0,0,w.pool⟩) h.2.2.1⟩
theorem zdV (w:qy):Fun Tryz.prog G0 31 [js w] (qG (decide (okW w))) 0:=by
 by_cases c:zfV w
 ·have h1:=Hf w
  have h2:=yf w c.m
  rw[decide_eq_true c]at h1
  have e:decide (okW w)=decide (Xs w):=by by_cases r:Xs w<;>simp[okW,c,r]
  refine fon Tryz.func31 ?_;dsimp only[Tryz.f31]
  push_cast -dsimp
  refine cl (h1) ?_;push_cast -dsimp
  refine cl (h2) ?_;push_cast -dsimp
  exact dn (by push_cast -dsimp [zb,za,CLe,ze,e])
 ·have h1:=Hf w
  rw[decide_eq_false c]at h1
  have e:¬okW w:=fun h=>c h.1
  refine fon Tryz.func31 ?_;dsimp only[Tryz.f31]
  push_cast -dsimp
  refine cl (h1) ?_;push_cast -dsimp
  exact dn (by push_cast -dsimp [zb,za,CLe,ze,e])
end
section
open Go.RowKit
section
variable {G:zq}
theorem zdq (n:Nat) (hn:n<=200000) (h0:0<n):JT Tryz.prog G 100 [.sc (.slice none 0 0),.sc (.int .i64 n)] [] 0 (fun r bx' m=>m=0/\∃ (c:Nat) (B:List C),n<=c/\c<=9223372036854775807/\B.length=c*5/\(B.all C.stayB)=true/\r = .bs 0 0 5 0 c/\bx' = [B]):=by
 have hp:((n:Int)<0)=False:=eq_false (by omega)
 have hq:((0:Int)<(n:Int))=True:=eq_true (by omega)
 refine foX (fun i=>if i=1000000+30 then [true,true] else []) Tryz.func100 ?_;dsimp only[Tryz.f100]
 push_cast -dsimp [hp,hq]
 refine ⟨⟨by omega,by omega⟩,zfm yp zl7 xm rfl (by decide) rfl (by omega) (by omega) (by omega) (fun c h1 h2=>?_)⟩
 push_cast -dsimp
 have hm:(n:Int).toNat=n:=by omega
 rw[hm]at h1
 have h2:c<=9223372036854775807:=h2
 refine ⟨by omega,by omega,_,[(List.replicate n [C.sc (.int .i64 0),C.sc (.int .i64 0),C.str [],C.str [],C.str []]).flatten++List.replicate ((c-n)*5) C.any],0,⟨⟨rfl,c,_,h1,h2,?_,?_,rfl,rfl⟩,Nat.zero_le _⟩,[],rfl,rfl,?_,by push_cast -dsimp [zb,za,CLe,ze]⟩
 ·simp[hm];omega
 ·simp[List.all_append,List.all_replicate,C.stayB]
 ·push_cast -dsimp [zb,za,CLe,ze]
  exact zp (by simp[List.all_append,List.all_replicate,C.stayB])
theorem zcI (n:Nat) (hn:n<=200000) (h0:0<n):JT Tryz.prog G 101 [.sc (.slice none 0 0),.sc (.int .i64 n)] [] 0 (fun r bx' m=>m=0/\∃ (c:Nat) (B:List C),n<=c/\c<=9223372036854775807/\B.length=c*1/\(B.all C.stayB)=true/\r = .bs 0 0 1 0 c/\bx' = [B]):=by
 have hp:((n:Int)<0)=False:=eq_false (by omega)
 have hq:((0:Int)<(n:Int))=True:=eq_true (by omega)
 refine foX (fun i=>if i=1000000+33 then [true,true] else []) Tryz.func101 ?_;dsimp only[Tryz.f101]
 push_cast -dsimp [hp,hq]
 refine ⟨⟨by omega,by omega⟩,zfm ziq zl7 zoJ rfl (by decide) rfl (by omega) (by omega) (by omega) (fun c h1 h2=>?_)⟩
 push_cast -dsimp
 have hm:(n:Int).toNat=n:=by omega
 rw[hm]at h1
 have h2:c<=9223372036854775807:=h2
 refine ⟨by omega,by omega,_,[(List.replicate n [C.str []]).flatten++List.replicate ((c-n)*1) C.any],0,⟨⟨rfl,c,_,h1,h2,?_,?_,rfl,rfl⟩,Nat.zero_le _⟩,[],rfl,rfl,?_,by push_cast -dsimp [zb,za,CLe,ze]⟩
 ·simp[hm];omega
 ·simp[List.all_append,List.all_replicate,C.stayB]
 ·push_cast -dsimp [zb,za,CLe,ze]
  exact zp (by simp[List.all_append,List.all_replicate,C.stayB])
end
end
section
open Go.RowKit
def szN (a b:Nat):Nat->Nat
 | 0=>0
 | 1=>a
 | _=>a+b
def znL {α:Type} (a b:List α):Nat->List α
 | 0=>[]
 | 1=>a
 | _=>a++b
structure GS (k c:Nat) (a b:List (List C)) (j:Nat) (X:List C):Prop where
 len:X.length=c*k
 stay:(X.all C.stayB)=true
 cells:X.take (szN a.length b.length j*k)=(znL a b j).flatten
theorem GS.step {k c:Nat} {a b r:List (List C)} {j:Nat} {X:List C} (h:GS k c a b j X) (hr:znL a b (j+1)=znL a b j++r) (hn:szN a.length b.length (j+1)=szN a.length b.length j+r.length) (hk:∀ x∈r,x.length=k) (hs:qV r) (hc:szN a.length b.length (j+1)<=c) :
  GS k c a b (j+1) (spl X (szN a.length b.length j*k) r.flatten):=by
 have hf:=qf hk
 obtain ⟨h1,h2,h3⟩:=h
 have hle:(szN a.length b.length j+r.length)*k<=c*k:=Nat.mul_le_mul_right k (by omega)
 rw[Nat.add_mul]at hle
 refine ⟨by rw[Qr (by omega)];exact h1,?_,?_⟩
 ·unfold spl
  rw[List.all_append,List.all_append,Bool.and_eq_true,Bool.and_eq_true]
  rw[List.all_eq_true]at h2
  exact ⟨⟨List.all_eq_true.2 fun x hx=>h2 x (List.mem_of_mem_take hx),JZ hs⟩,List.all_eq_true.2 fun x hx=>h2 x (List.mem_of_mem_drop hx)⟩
 ·unfold spl
  rw[hn,Nat.add_mul,hr,List.flatten_append,←h3,List.append_assoc,List.take_append]
  have e1:(X.take (szN a.length b.length j*k)).length=szN a.length b.length j*k:=by rw[List.length_take];omega
  rw[e1,List.take_of_length_le (by omega),Nat.add_sub_cancel_left,List.take_append,←hf,List.take_of_length_le (Nat.le_refl _)]
  simp
structure zmf (k c:Nat) (rows:List (List C)) (B:List C):Prop where
 fit:rows.length<=c
 max:c<=9223372036854775807
 len:B.length=c*k
 stay:(B.all C.stayB)=true
 cells:B.take (rows.length*k)=rows.flatten
theorem zmf.ok {k c e i:Nat} {rows:List (List C)} {B:List C} {bx:List (List C)} (h:zmf k c rows B) (hb:bx[i]?=some B) (h0:0<rows.length) (hk:∀ r∈rows,r.length=k):zbl [(i,e,k,rows,c)] bx:=
 uF hb (Nat.lt_of_lt_of_le h0 h.fit) h.fit h.max h.len hk h.stay h.cells
section
variable {G:zq}
theorem zeN (a b:List (List C)) (ka:∀ r∈a,r.length=5) (kb:∀ r∈b,r.length=5) (sa:qV a) (sb:qV b) (la:a.length<=90000) (lb:b.length<=90000) (h0:0<b.length) :
  JT Tryz.prog G 58 [.sl 1 [[.sl 5 a],[.sl 5 b]]] [] 0 (fun r bx n=>n=0/\∃ c B,zmf 5 c (a++b) B/\r = .bs 0 0 5 (a++b).length c/\bx = [B]):=by
 refine foX (fun i=>if i=1000000+30 then [true,true] else []) Tryz.func58 ?_;dsimp only[Tryz.f58]
 push_cast -dsimp
 refine loop (fun j:Nat=>⟨[(0,.sl 1 [[.sl 5 a],[.sl 5 b]]),(2,.sc (.slice none 0 0)),(3,.sc (.int .i64 (szN a.length b.length j:Nat))),(9,.sl 1 [[.sl 5 a],[.sl 5 b]]),(10,.sc (.int .i64 2)),(11,.sc (.int .i64 j))],[],0,0⟩) (fun j=>j<=2) (fun j=>2-j) 0 (by decide) ?_ ?_
 ·exact wk (by push_cast -dsimp [zb,za,CLe,ze,szN])
 intro j hj
 obtain rfl | rfl | rfl:j=0∨j=1∨j=2:=by omega
 ·have hn:(((a.length:Int))<0)=False:=eq_false (by omega)
  push_cast -dsimp [szN,hn]
  exact ⟨⟨by omega,by omega⟩,1,by decide,by decide,wk (by push_cast -dsimp [zb,za,CLe,ze,szN])⟩
 ·have hn:(((a.length:Int)+(b.length:Int))<0)=False:=eq_false (by omega)
  push_cast -dsimp [szN,hn]
  exact ⟨⟨by omega,by omega⟩,2,by decide,by decide,wk (by push_cast -dsimp [zb,za,CLe,ze,szN])⟩
 ·push_cast -dsimp [szN]
  refine jo [] [] (zdq (G:=G) (a.length+b.length) (by omega) (by omega)) rfl (by decide) (by decide) (by simp) (by push_cast -dsimp) (by push_cast -dsimp) (fun r bx' m hp=>?_)
  obtain ⟨rfl,c,B,h1,h2,h3,h4,rfl,rfl⟩:=hp
  have hre:∀ fp fo,C.reL fp fo B=B:=fun fp fo=>zl h4
  push_cast -dsimp [hre]
  refine loop (fun p:Nat×List C=>⟨[(0,.sl 1 [[.sl 5 a],[.sl 5 b]]),(6,.bs 0 0 5 (szN a.length b.length p.1) c),(25,.sl 1 [[.sl 5 a],[.sl 5 b]]),(26,.sc (.int .i64 2)),(27,.sc (.int .i64 p.1))],[p.2],0,0⟩) (fun p=>p.1<=2/\GS 5 c a b p.1 p.2) (fun p=>2-p.1) (0,B) ⟨Nat.zero_le _,h3,h4,by simp[szN,znL]⟩ ?_ ?_
  ·exact JS.mk [] rfl rfl (Nat.zero_le _) rfl (by push_cast -dsimp [zb,za,CLe,ze,szN]) (by (push_cast -dsimp [zb,za,CLe,ze];exact zp h4))
  rintro ⟨j,X⟩ ⟨hj,hX⟩
  have hj:j<=2:=hj
  obtain rfl | rfl | rfl:j=0∨j=1∨j=2:=by omega
  ·have hs:=hX.step (r:=a) rfl (by simp[szN]) ka sa (by simp[szN];omega)
   push_cast -dsimp [szN]
   refine Qq yp xm rfl rfl (by decide) rfl (qf ka) rfl (by rw[hX.len];omega) (Nat.zero_le _) (by omega) (by omega) (fun hc=>?_) (fun hc=>absurd hc (by omega))
   push_cast -dsimp
   have hs:GS 5 c a b 1 (spl X 0 a.flatten):=by simpa [szN] using hs
   exact ⟨(1,spl X 0 a.flatten),⟨Nat.le_succ 1,hs⟩,by (simp only;omega),JS.mk [] rfl rfl (Nat.zero_le _) rfl (by push_cast -dsimp [zb,za,CLe,ze,szN]) (by (push_cast -dsimp [zb,za,CLe,ze];exact zp hs.stay))⟩
  ·have hs:=hX.step (r:=b) rfl (by simp[szN]) kb sb (by simp[szN];omega)
   push_cast -dsimp [szN]
   refine Qq yp xm rfl rfl (by decide) rfl (qf kb) rfl (by rw[hX.len];omega) (by omega) (by omega) (by omega) (fun hc=>?_) (fun hc=>absurd hc (by omega))
   push_cast -dsimp
   have hs:GS 5 c a b 2 (spl X (a.length*5) b.flatten):=by simpa [szN] using hs
   exact ⟨(2,spl X (a.length*5) b.flatten),⟨Nat.le_refl 2,hs⟩,by (simp only;omega),JS.mk [] rfl rfl (Nat.zero_le _) rfl (by push_cast -dsimp [zb,za,CLe,ze,szN]) (by (push_cast -dsimp [zb,za,CLe,ze];exact zp hs.stay))⟩
  ·push_cast -dsimp [szN]
   exact ⟨_,[X],0,⟨⟨rfl,c,X,⟨by rw[List.length_append];omega,h2,hX.len,hX.stay,by rw[List.length_append];exact hX.cells⟩,rfl,rfl⟩,Nat.zero_le _⟩,[],rfl,rfl,by (push_cast -dsimp [zb,za,CLe,ze];exact zp hX.stay),by push_cast -dsimp [zb,za,CLe,ze,List.length_append]⟩
theorem zeh (a b:List (List C)) (ka:∀ r∈a,r.length=1) (kb:∀ r∈b,r.length=1) (sa:qV a) (sb:qV b) (la:a.length<=90000) (lb:b.length<=90000) (h0:0<b.length) :
  JT Tryz.prog G 59 [.sl 1 [[.sl 1 a],[.sl 1 b]]] [] 0 (fun r bx n=>n=0/\∃ c B,zmf 1 c (a++b) B/\r = .bs 0 0 1 (a++b).length c/\bx = [B]):=by
 refine foX (fun i=>if i=1000000+33 then [true,true] else []) Tryz.func59 ?_;dsimp only[Tryz.f59]
 push_cast -dsimp
 refine loop (fun j:Nat=>⟨[(0,.sl 1 [[.sl 1 a],[.sl 1 b]]),(2,.sc (.slice none 0 0)),(3,.sc (.int .i64 (szN a.length b.length j:Nat))),(9,.sl 1 [[.sl 1 a],[.sl 1 b]]),(10,.sc (.int .i64 2)),(11,.sc (.int .i64 j))],[],0,0⟩) (fun j=>j<=2) (fun j=>2-j) 0 (by decide) ?_ ?_
 ·exact wk (by push_cast -dsimp [zb,za,CLe,ze,szN])
 intro j hj
 obtain rfl | rfl | rfl:j=0∨j=1∨j=2:=by omega
 ·have hn:(((a.length:Int))<0)=False:=eq_false (by omega)
  push_cast -dsimp [szN,hn]
  exact ⟨⟨by omega,by omega⟩,1,by decide,by decide,wk (by push_cast -dsimp [zb,za,CLe,ze,szN])⟩
 ·have hn:(((a.length:Int)+(b.length:Int))<0)=False:=eq_false (by omega)
  push_cast -dsimp [szN,hn]
  exact ⟨⟨by omega,by omega⟩,2,by decide,by decide,wk (by push_cast -dsimp [zb,za,CLe,ze,szN])⟩
 ·push_cast -dsimp [szN]
  refine jo [] [] (zcI (G:=G) (a.length+b.length) (by omega) (by omega)) rfl (by decide) (by decide) (by simp) (by push_cast -dsimp) (by push_cast -dsimp) (fun r bx' m hp=>?_)
  obtain ⟨rfl,c,B,h1,h2,h3,h4,rfl,rfl⟩:=hp
  have hre:∀ fp fo,C.reL fp fo B=B:=fun fp fo=>zl h4
  push_cast -dsimp [hre]
  refine loop (fun p:Nat×List C=>⟨[(0,.sl 1 [[.sl 1 a],[.sl 1 b]]),(6,.bs 0 0 1 (szN a.length b.length p.1) c),(25,.sl 1 [[.sl 1 a],[.sl 1 b]]),(26,.sc (.int .i64 2)),(27,.sc (.int .i64 p.1))],[p.2],0,0⟩) (fun p=>p.1<=2/\GS 1 c a b p.1 p.2) (fun p=>2-p.1) (0,B) ⟨Nat.zero_le _,h3,h4,by simp[szN,znL]⟩ ?_ ?_
  ·exact JS.mk [] rfl rfl (Nat.zero_le _) rfl (by push_cast -dsimp [zb,za,CLe,ze,szN]) (by (push_cast -dsimp [zb,za,CLe,ze];exact zp h4))
  rintro ⟨j,X⟩ ⟨hj,hX⟩
  have hj:j<=2:=hj
  obtain rfl | rfl | rfl:j=0∨j=1∨j=2:=by omega
  ·have hs:=hX.step (r:=a) rfl (by simp[szN]) ka sa (by simp[szN];omega)
   push_cast -dsimp [szN]
   refine Qq ziq zoJ rfl rfl (by decide) rfl (qf ka) rfl (by rw[hX.len];omega) (Nat.zero_le _) (by omega) (by omega) (fun hc=>?_) (fun hc=>absurd hc (by omega))
   push_cast -dsimp
   have hs:GS 1 c a b 1 (spl X 0 a.flatten):=by simpa [szN] using hs
   exact ⟨(1,spl X 0 a.flatten),⟨Nat.le_succ 1,hs⟩,by (simp only;omega),JS.mk [] rfl rfl (Nat.zero_le _) rfl (by push_cast -dsimp [zb,za,CLe,ze,szN]) (by (push_cast -dsimp [zb,za,CLe,ze];exact zp hs.stay))⟩
  ·have hs:=hX.step (r:=b) rfl (by simp[szN]) kb sb (by simp[szN];omega)
   push_cast -dsimp [szN]
   refine Qq ziq zoJ rfl rfl (by decide) rfl (qf kb) rfl (by rw[hX.len];omega) (by omega) (by omega) (by omega) (fun hc=>?_) (fun hc=>absurd hc (by omega))
   push_cast -dsimp
   have hs:GS 1 c a b 2 (spl X (a.length) b.flatten):=by simpa [szN] using hs
   exact ⟨(2,spl X (a.length) b.flatten),⟨Nat.le_refl 2,hs⟩,by (simp only;omega),JS.mk [] rfl rfl (Nat.zero_le _) rfl (by push_cast -dsimp [zb,za,CLe,ze,szN]) (by (push_cast -dsimp [zb,za,CLe,ze];exact zp hs.stay))⟩
  ·push_cast -dsimp [szN]
   exact ⟨_,[X],0,⟨⟨rfl,c,X,⟨by rw[List.length_append];omega,h2,hX.len,hX.stay,by rw[List.length_append];exact hX.cells⟩,rfl,rfl⟩,Nat.zero_le _⟩,[],rfl,rfl,by (push_cast -dsimp [zb,za,CLe,ze];exact zp hX.stay),by push_cast -dsimp [zb,za,CLe,ze,List.length_append]⟩
end
end
end Go.Proofs.YtiblepfehggicaaGreatDoor.Vcg
section
namespace Go.Proofs.YtiblepfehggicaaGreatDoor.Kit
open Go.RowKit
theorem kz {a b:ByteArray} (h:a=b):Ending.returned (.string a) = .returned (.string b):=by rw[h]
def toL (s:ByteArray):List UInt8:=s.data.toList
def ofL (l:List UInt8):ByteArray:=⟨l.toArray⟩
@[simp] theorem zeJ (l:List UInt8):toL (ofL l)=l:=by simp[toL,ofL]
@[simp] theorem zpa (s:ByteArray):ofL (toL s)=s:=by cases s;simp[toL,ofL]
theorem Hg (a b:List UInt8):ofL a++ofL b=ofL (a++b):=ByteArray.mk_append_mk a b
theorem GR (s:ByteArray):(toL s).length=s.size:=Array.length_toList
theorem Zb (l:List UInt8):(ofL l).size=l.length:=by rw[←GR,zeJ]
def join (sep:ByteArray) (xs:List ByteArray):ByteArray:=⟨(Lib.join (xs.map (·.data.toList)) sep.data.toList).toArray⟩
theorem join_one (sep x:ByteArray):join sep [x]=x:=by
 cases x;simp[join,Lib.join_one]
def zkC (w:World) (v:Value) (xs:List ByteArray):Prop:=
 ∃ a cap,v = .slice a xs.length cap/\xs.length<=cap/\(cap:Int)<=9223372036854775807 /\
  (xs = []∨∃ b o,a=some ⟨b,o,none⟩/\b<w.heap.size/\∀ j,j<xs.length->w.cell? ⟨b,o+j,none⟩=some (.string (xs.getD j ⟨#[]⟩)))
theorem zkC.below {w w':World} {v:Value} {xs:List ByteArray} {B:Nat} (h:zkC w v xs) (hb:Below B w w') (hB:w.heap.size<=B):zkC w' v xs:=by
 obtain ⟨a,cap,e,h1,h2,h3⟩:=h
 refine ⟨a,cap,e,h1,h2,?_⟩
 rcases h3 with h3 | ⟨b,o,e1,e2,e3⟩
 ·exact .inl h3
 ·exact .inr ⟨b,o,e1,Nat.lt_of_lt_of_le e2 hb.size,fun j hj=>by rw[hb.cell (p:=⟨b,o+j,none⟩) (Nat.lt_of_lt_of_le e2 hB)];exact e3 j hj⟩
theorem zkC.new (w:World) (xs:List ByteArray) (cs:Array Value) (T:TypeId) (n:Nat) (hcs:cs=(xs.map Value.string).toArray) (hn:n=xs.length) (hm:n<=9223372036854775807) (fr:Nat×Nat) :
  zkC (w.alloc (.cells cs T fr)) (.slice (some ⟨w.heap.size,0,none⟩) n n) xs:=by
 subst hcs hn
 refine ⟨_,_,rfl,Nat.le_refl _,by omega,?_⟩
 refine .inr ⟨_,_,rfl,by rw[World.size_alloc];omega,fun j hj=>?_⟩
 have h1:(w.alloc (.cells (xs.map Value.string).toArray T fr)).heap[w.heap.size]?=some (.cells (xs.map Value.string).toArray T fr):=by
  show (w.heap.push _)[w.heap.size]?=_
  rw[Array.getElem?_push,if_pos rfl]
 simp only[World.cell?,h1]
 show ((xs.map Value.string).toArray)[0+j]?=_
 rw[Nat.zero_add,List.getElem?_toArray,List.getElem?_map,List.getElem?_eq_getElem hj,List.getD_eq_getElem?_getD,List.getElem?_eq_getElem hj];rfl
theorem zkC.nil (w:World) (a:Option Addr) (cap:Nat) (hm:cap<=9223372036854775807):zkC w (.slice a 0 cap) []:=⟨a,cap,rfl,Nat.zero_le _,by omega,.inl rfl⟩
end Go.Proofs.YtiblepfehggicaaGreatDoor.Kit
end
section
namespace Go.Proofs.YtiblepfehggicaaGreatDoor.Kit
open Go.RowKit
def byteCells (l:List UInt8):Array Value:=(l.map fun c=>Value.int .u8 (c.toNat:Int)).toArray
theorem zfb (w:World) (l:List UInt8) (T:TypeId) (fr:Nat×Nat) (n:Nat) (hn:n=w.heap.size):Lib.Bytes (w.alloc (.cells (byteCells l) T fr)) n 0 (ofL l):=by
 intro i h
 subst hn
 have h1:(w.alloc (.cells (byteCells l) T fr)).heap[w.heap.size]?=some (.cells (byteCells l) T fr):=by
  show (w.heap.push _)[w.heap.size]?=_
  rw[Array.getElem?_push,if_pos rfl]
 simp only[World.cell?,h1]
 show (byteCells l)[0+i]?=_
 have h2:i<l.length:=by rw[Zb]at h;exact h
 rw[Nat.zero_add,byteCells,List.getElem?_toArray,List.getElem?_map,List.getElem?_eq_getElem h2]
 rfl
theorem HF {P:Program} (w:World) (l:List UInt8) (src e dst:TypeId) (hs:P.underlying src=some (.slice e)) (he:P.underlying e=some (.int .u8)) (hd:P.underlying dst=some .string) (cs:Array Value) (hcs:cs=byteCells l) (fr:Nat×Nat) (m cap n:Nat) (hm:m=w.heap.size) (hn:n=l.length) :
  (convert src dst (.slice (some ⟨m,0,none⟩) n cap)).run P (w.alloc (.cells cs e fr)) = .ok (.string (ofL l)) (w.alloc (.cells cs e fr)):=by
 subst hcs hm hn
 have:=Lib.run_convert_whole (P:=P) (w.alloc (.cells (byteCells l) e fr)) src e dst hs he hd w.heap.size 0 (ofL l) (zfb w l e fr _ rfl) cap
 rw[Zb]at this
 exact this
end Go.Proofs.YtiblepfehggicaaGreatDoor.Kit
end
section
namespace Go.Proofs.YtiblepfehggicaaGreatDoor
open Go.RowKit
namespace QuoteWalk
open Kit QuotePlain
theorem MD {c:UInt8} (h:good c=false):¬(32:Int)<=(c.toNat:Int)∨((32:Int)<=(c.toNat:Int)/\¬(c.toNat:Int)<=126)∨((32:Int)<=(c.toNat:Int)/\(c.toNat:Int)<=126/\((c.toNat:Int) != 34)=false) ∨
  ((32:Int)<=(c.toNat:Int)/\(c.toNat:Int)<=126/\((c.toNat:Int) != 34)=true/\((c.toNat:Int) != 92)=false):=by
 simp only[good,decide_eq_false_iff_not]at h
 simp only[bne_iff_ne,ne_eq,bne_eq_false_iff_eq]
 omega
theorem Hk {c:UInt8} (h:good c=true):(32:Int)<=(c.toNat:Int)/\(c.toNat:Int)<=126/\((c.toNat:Int) != 34)=true/\((c.toNat:Int) != 92)=true:=by
 simp only[good,decide_eq_true_eq]at h
 refine ⟨by omega,by omega,?_,?_⟩<;>(simp only[bne_iff_ne,ne_eq];omega)
theorem x7 (c:UInt8) (w:World) :
  Calls Tryz.prog 192 #[.int .u8 c.toNat] w fun e w'=>e = .returned (.bool (good c))/\w=w':=by
 have hc:=c.toNat_lt
 cases hg:good c with
 | true =>
  obtain ⟨g1,g2,g3,g4⟩:=Hk hg
  clear hg
  go_enter Tryz.func192,Tryz.ntmps192
  go_wp2
  go_ret
  exact ⟨rfl,rfl⟩
 | false =>
  rcases MD hg with h | ⟨h0,h⟩ | ⟨h0,h1,h2⟩ | ⟨h0,h1,h2,h3⟩
  all_goals clear hg
  ·go_enter Tryz.func192,Tryz.ntmps192
   go_wp2
   go_ret
   exact ⟨rfl,rfl⟩
  ·go_enter Tryz.func192,Tryz.ntmps192
   go_wp2
   go_ret
   exact ⟨rfl,rfl⟩
  ·go_enter Tryz.func192,Tryz.ntmps192
   go_wp2
   go_ret
   exact ⟨rfl,rfl⟩
  ·go_enter Tryz.func192,Tryz.ntmps192
   go_wp2
   go_ret
   exact ⟨rfl,rfl⟩
theorem Na (c:UInt8) (w:World) (hg:good c=true) :
  Calls Tryz.prog 156 #[.int .u8 c.toNat] w fun e w'=>e = .returned (.string (ofL (qb c)))/\Below w.heap.size w w':=by
 have hc:=c.toNat_lt
 have hq:=Lib.hid (show qb c = [c] by rw[qb,if_pos hg])
 obtain ⟨g1,g2,g3,g4⟩:=Hk hg
 have hcv:=HF (P:=Tryz.prog) w [c] 157 5 9 Tryz.underlying157 Tryz.underlying5 Tryz.underlying9 #[.int .u8 c.toNat] rfl (0,0) w.heap.size 1 1 rfl rfl
 clear hg
 go_enter Tryz.func156,Tryz.ntmps156
 go_wp2
 go_ret
 exact ⟨by rw[hq.out];rfl,(Below.refl _ _).alloc (Nat.le_refl _) _⟩
theorem zqd (n:Nat) (h:n<16) (w:World):(Instr.index 9 (.string ⟨#[48,49,50,51,52,53,54,55,56,57,97,98,99,100,101,102]⟩) (.int .u8 (n:Int))).run Tryz.prog w = .ok (.int .u8 ((GI n).toNat:Int)) w:=by
 rcases (by omega:n=0∨n=1∨n=2∨n=3∨n=4∨n=5∨n=6∨n=7∨n=8∨n=9∨n=10∨n=11∨n=12∨n=13∨n=14∨n=15) with rfl | rfl | rfl | rfl | rfl | rfl | rfl | rfl | rfl | rfl | rfl | rfl | rfl | rfl | rfl | rfl
 all_goals kernel_rfl
theorem zjr (c:UInt8) (w:World):(Instr.index 9 (.string ⟨#[48,49,50,51,52,53,54,55,56,57,97,98,99,100,101,102]⟩) (.int .u8 ((c.toNat:Int) / 16))).run Tryz.prog w = .ok (.int .u8 ((GI (c.toNat / 16)).toNat:Int)) w:=
 zqd (c.toNat / 16) (by have:=c.toNat_lt;omega) w
theorem zi1 (c:UInt8) (w:World):(Instr.index 9 (.string ⟨#[48,49,50,51,52,53,54,55,56,57,97,98,99,100,101,102]⟩) (.int .u8 ((c.toNat:Int) % 16))).run Tryz.prog w = .ok (.int .u8 ((GI (c.toNat % 16)).toNat:Int)) w:=
 zqd (c.toNat % 16) (by omega) w
theorem zlQ (c:UInt8):IntKind.u8.wrap ((c.toNat:Int) / 16)=(c.toNat:Int) / 16:=by
 have:=c.toNat_lt
 exact IntWalk.u8_in _ (by omega)
theorem zkY (c:UInt8):IntKind.u8.wrap ((c.toNat:Int) % 16)=(c.toNat:Int) % 16:=by
 have:=c.toNat_lt
 exact IntWalk.u8_in _ (by omega)
theorem zl4 (c:UInt8):(c.toNat:Int).tmod 16=(c.toNat:Int) % 16:=Int.tmod_eq_emod_of_nonneg (by omega)
theorem xp (c:UInt8) (w:World) (hg:good c=false) :
  Calls Tryz.prog 156 #[.int .u8 c.toNat] w fun e w'=>e = .returned (.string (ofL (qb c)))/\Below w.heap.size w w':=by
 have hc:=c.toNat_lt
 have hq:=Lib.hid (show qb c = [92,120,GI (c.toNat / 16),GI (c.toNat % 16)] by rw[qb,hg];rfl)
 have hb:=MD hg
 have x1:=zjr c
 have x2:=zi1 c
 have y1:=zlQ c
 have y2:=zkY c
 have y3:=zl4 c
 have hcv:=fun w2:World=>HF (P:=Tryz.prog) w2 [92,120,GI (c.toNat / 16),GI (c.toNat % 16)] 157 5 9 Tryz.underlying157 Tryz.underlying5 Tryz.underlying9 #[.int .u8 92,.int .u8 120,.int .u8 (GI (c.toNat / 16)).toNat,.int .u8 (GI (c.toNat % 16)).toNat] rfl (0,0) w2.heap.size 4 4 rfl rfl
 clear hg
 rcases hb with h | ⟨h0,h⟩ | ⟨h0,h1,h2⟩ | ⟨h0,h1,h2,h3⟩
 ·go_enter Tryz.func156,Tryz.ntmps156
  go_wp2
  go_still_tail 6,(by kernel_rfl)
  change wpList _ _ _ _ _ w.drew
  obtain ⟨w2,hw2,hsz⟩:∃ w2:World,Below w.heap.size w w2/\w2=w.drew:=⟨_,(Below.refl _ _).drew,rfl⟩
  rw[←hsz]
  clear hsz
  go_wp2
  go_ret
  exact ⟨by rw[hq.out];rfl,hw2.alloc hw2.size _⟩
 ·go_enter Tryz.func156,Tryz.ntmps156
  go_wp2
  go_still_tail 6,(by kernel_rfl)
  change wpList _ _ _ _ _ w.drew
  obtain ⟨w2,hw2,hsz⟩:∃ w2:World,Below w.heap.size w w2/\w2=w.drew:=⟨_,(Below.refl _ _).drew,rfl⟩
  rw[←hsz]
  clear hsz
  go_wp2
  go_ret
  exact ⟨by rw[hq.out];rfl,hw2.alloc hw2.size _⟩
 ·go_enter Tryz.func156,Tryz.ntmps156
  go_wp2
  go_still_tail 6,(by kernel_rfl)
  change wpList _ _ _ _ _ w.drew
  obtain ⟨w2,hw2,hsz⟩:∃ w2:World,Below w.heap.size w w2/\w2=w.drew:=⟨_,(Below.refl _ _).drew,rfl⟩
  rw[←hsz]
  clear hsz
  go_wp2
  go_ret
  exact ⟨by rw[hq.out];rfl,hw2.alloc hw2.size _⟩
 ·go_enter Tryz.func156,Tryz.ntmps156
  go_wp2
  go_still_tail 6,(by kernel_rfl)
  change wpList _ _ _ _ _ w.drew
  obtain ⟨w2,hw2,hsz⟩:∃ w2:World,Below w.heap.size w w2/\w2=w.drew:=⟨_,(Below.refl _ _).drew,rfl⟩
  rw[←hsz]
  clear hsz
  go_wp2
  go_ret
  exact ⟨by rw[hq.out];rfl,hw2.alloc hw2.size _⟩
theorem MQ (c:UInt8) (w:World) :
  Calls Tryz.prog 156 #[.int .u8 c.toNat] w fun e w'=>e = .returned (.string (ofL (qb c)))/\Below w.heap.size w w':=by
 cases h:good c with
 | true=>exact Na c w h
 | false=>exact xp c w h
end QuoteWalk
end Go.Proofs.YtiblepfehggicaaGreatDoor
end
section
namespace Go.Proofs
open Go.Shelf
def Tryz.zlays166_ren:Go.Shelf.Ren:=⟨fun | 166=>118 | 240=>159 | 276=>194 | n=>n,fun | 0=>0 | 3=>3 | 4=>4 | 9=>9 | 20=>20 | 37=>157 | 70=>156 | 72=>159 | 75=>162 | 164=>233 | 80=>165 | 5=>5 | n=>n,fun | n=>n⟩
theorem Tryz.zlays166:Go.Proofs.Lays.n166 Tryz.prog Tryz.zlays166_ren:={
 mixed:=by kernel_rfl
 f166:=Tryz.func118.trans (congrArg some (by kernel_rfl))
 f240:=Tryz.func159.trans (congrArg some (by kernel_rfl))
 f276:=Tryz.func194.trans (congrArg some (by kernel_rfl))
 t0:=Tryz.underlying0
 a0:=Tryz.isAgg0
 z0:=Tryz.sizeOf0
 v0:=Tryz.zeroValue0
 t3:=Tryz.underlying3
 a3:=Tryz.isAgg3
 z3:=Tryz.sizeOf3
 v3:=Tryz.zeroValue3
 t4:=Tryz.underlying4
 a4:=Tryz.isAgg4
 z4:=Tryz.sizeOf4
 v4:=Tryz.zeroValue4
 t9:=Tryz.underlying9
 a9:=Tryz.isAgg9
 z9:=Tryz.sizeOf9
 v9:=Tryz.zeroValue9
 t20:=Tryz.underlying20
 a20:=Tryz.isAgg20
 z20:=Tryz.sizeOf20
 v20:=Tryz.zeroValue20
 t37:=Tryz.underlying157
 a37:=Tryz.isAgg157
 z37:=Tryz.sizeOf157
 v37:=Tryz.zeroValue157
 t70:=Tryz.underlying156
 a70:=Tryz.isAgg156
 z70:=Tryz.sizeOf156
 v70:=Tryz.zeroValue156
 t72:=Tryz.underlying159
 a72:=Tryz.isAgg159
 z72:=Tryz.sizeOf159
 v72:=Tryz.zeroValue159
 t75:=Tryz.underlying162
 a75:=Tryz.isAgg162
 z75:=Tryz.sizeOf162
 v75:=Tryz.zeroValue162
 t164:=Tryz.underlying233
 a164:=Tryz.isAgg233
 z164:=Tryz.sizeOf233
 v164:=Tryz.zeroValue233 }
theorem Tryz.zBuilder_Extra_166:Builder.Extra Tryz.prog Tryz.zlays166_ren:={
 sizeBuilder:=by kernel_rfl
 liesBuilder:=by kernel_rfl
 t5:=Tryz.underlying5
 a5:=Tryz.isAgg5
 z5:=Tryz.sizeOf5
 v5:=Tryz.zeroValue5
 infoByte:=by kernel_rfl
 cellsByte:=by kernel_rfl
 sizeByte:=by kernel_rfl
 neB5:=by decide }
def Tryz.zlays167_ren:Go.Shelf.Ren:=⟨fun | 167=>191 | 240=>159 | 276=>194 | n=>n,fun | 0=>0 | 4=>4 | 5=>5 | 9=>9 | 20=>20 | 37=>157 | 70=>156 | 72=>159 | 75=>162 | 164=>233 | 80=>165 | n=>n,fun | n=>n⟩
theorem Tryz.zlays167:Go.Proofs.Lays.n167 Tryz.prog Tryz.zlays167_ren:={
 mixed:=by kernel_rfl
 f167:=Tryz.func191.trans (congrArg some (by kernel_rfl))
 f240:=Tryz.func159.trans (congrArg some (by kernel_rfl))
 f276:=Tryz.func194.trans (congrArg some (by kernel_rfl))
 t0:=Tryz.underlying0
 a0:=Tryz.isAgg0
 z0:=Tryz.sizeOf0
 v0:=Tryz.zeroValue0
 t4:=Tryz.underlying4
 a4:=Tryz.isAgg4
 z4:=Tryz.sizeOf4
 v4:=Tryz.zeroValue4
 t5:=Tryz.underlying5
 a5:=Tryz.isAgg5
 z5:=Tryz.sizeOf5
 v5:=Tryz.zeroValue5
 t9:=Tryz.underlying9
 a9:=Tryz.isAgg9
 z9:=Tryz.sizeOf9
 v9:=Tryz.zeroValue9
 t20:=Tryz.underlying20
 a20:=Tryz.isAgg20
 z20:=Tryz.sizeOf20
 v20:=Tryz.zeroValue20
 t37:=Tryz.underlying157
 a37:=Tryz.isAgg157
 z37:=Tryz.sizeOf157
 v37:=Tryz.zeroValue157
 t70:=Tryz.underlying156
 a70:=Tryz.isAgg156
 z70:=Tryz.sizeOf156
 v70:=Tryz.zeroValue156
 t72:=Tryz.underlying159
 a72:=Tryz.isAgg159
 z72:=Tryz.sizeOf159
 v72:=Tryz.zeroValue159
 t75:=Tryz.underlying162
 a75:=Tryz.isAgg162
 z75:=Tryz.sizeOf162
 v75:=Tryz.zeroValue162
 t164:=Tryz.underlying233
 a164:=Tryz.isAgg233
 z164:=Tryz.sizeOf233
 v164:=Tryz.zeroValue233 }
theorem Tryz.zBuilder_Extra_167:Builder.Extra Tryz.prog Tryz.zlays167_ren:={
 sizeBuilder:=by kernel_rfl
 liesBuilder:=by kernel_rfl
 t5:=Tryz.underlying5
 a5:=Tryz.isAgg5
 z5:=Tryz.sizeOf5
 v5:=Tryz.zeroValue5
 infoByte:=by kernel_rfl
 cellsByte:=by kernel_rfl
 sizeByte:=by kernel_rfl
 neB5:=by decide }
open Go.RowKit in
theorem Tryz.zBuilder_WriteByte (B b:Nat) (bs:List Value) (c:Int) (w:World) (h:Lib.IsBuilder 159 5 B b bs w) (hlen:bs.length+1<=140737488355328) (hBw:B<=w.heap.size) :
  Calls Tryz.prog 191 #[.pointer (some ⟨b,0,none⟩),.int .u8 c] w fun e w'=>e = .returned .nilIface/\(Lib.BuilderAt 159 5 B b (.pointer (some ⟨b,0,none⟩)) (bs++[.int .u8 c]) w'/\Below B w w'):=Any.Builder_WriteByte Tryz.zlays167 Tryz.zBuilder_Extra_167 B b bs c w h hlen hBw
open Go.RowKit in
theorem Tryz.zBuilder_WriteString (B b:Nat) (bs:List Value) (s:ByteArray) (w:World) (h:Lib.IsBuilder 159 5 B b bs w) (hlen:bs.length+s.size<=140737488355328) (hBw:B<=w.heap.size) :
  Calls Tryz.prog 118 #[.pointer (some ⟨b,0,none⟩),.string s] w fun e w'=>e = .returned (.tuple #[.int .i64 s.size,.nilIface])/\(Lib.BuilderAt 159 5 B b (.pointer (some ⟨b,0,none⟩)) (bs++Lib.strCells s) w'/\Below B w w'):=Any.Builder_WriteString Tryz.zlays166 Tryz.zBuilder_Extra_166 B b bs s w h hlen hBw
end Go.Proofs
end
section
namespace Go.Proofs.YtiblepfehggicaaGreatDoor
open Go.RowKit
namespace QuoteWalk
open Kit QuotePlain
def pre (s:ByteArray) (k:Nat):Bs:=34 :: mid ((toL s).take k)
theorem vN (s:ByteArray):pre s 0 = [34]:=by simp[pre,mid]
theorem vP (s:ByteArray) (k:Nat) (h:k<s.size) {c:UInt8} (hc:s[k]=c):pre s (k+1)=pre s k++qb c:=by
 have h':k<(toL s).length:=by rw[GR];exact h
 have:(toL s)[k]=c:=hc
 rw[pre,pre,List.take_succ_eq_append_getElem h',this,mid,mid,List.flatMap_append]
 simp
theorem zc4 (s:ByteArray) (k:Nat) (h:s.size<=k):pre s k++[34]=qx (toL s):=by
 rw[pre,List.take_of_length_le (by rw[GR];exact h)];rfl
theorem zi4 (c:UInt8):(qb c).length<=4:=by unfold qb;split<;>simp
theorem mid_len (l:Bs):(mid l).length<=4*l.length:=by
 induction l with
 | nil=>simp[mid]
 | cons c l ih =>
  have:=zi4 c
  simp only[mid,List.flatMap_cons,List.length_append,List.length_cons]at ih ⊢
  omega
theorem ze9 (s:ByteArray) (k:Nat):(pre s k).length<=1+4*k:=by
 have h1:=mid_len ((toL s).take k)
 have h2:((toL s).take k).length<=k:=List.length_take_le _ _
 simp only[pre,List.length_cons];omega
theorem refQuote_walk (s:ByteArray) (w:World) (hs:s.size<=1099511627776) :
  Calls Tryz.prog 110 #[.string s] w fun e w'=>e = .returned (.string (ofL (qx (toL s))))/\Below w.heap.size w w':=by
 go_enter Tryz.func110,Tryz.ntmps110
 go_wp2
 go_loopw [3,4] (fun o i wr=>∃ k:Nat,k<=s.size/\i = .int .i64 k/\o = .string (ofL (pre s k))/\Below w.heap.size w wr) (fun _ i _=>s.size-(intOf i).toNat)
 case atStart=>exact ⟨0,by omega,rfl,by rw[vN];rfl,Below.refl _ _⟩
 case round =>
  obtain ⟨k,hk,rfl,rfl,hB⟩:=hrel
  have hpl:=ze9 s k
  have hps:(ofL (pre s k)).size<=1+4*k:=by rw[Zb];exact hpl
  by_cases hlt:k<s.size
  ·obtain ⟨c,hc⟩:∃ c,s[k]=c:=⟨_,rfl⟩
   have hsn:=Lib.hid (vP s k hlt hc)
   have hql:=zi4 c
   have hqs:(ofL (qb c)).size<=4:=by rw[Zb];exact hql
   generalize hp:ofL (pre s k)=p at *
   have hp':=Lib.hid hp
   clear hp
   go_wp2_with fail
   refine (MQ c _).mono ?_
   rintro e w1 ⟨rfl,hb1⟩
   generalize hq:ofL (qb c)=q at *
   have hq':=Lib.hid hq
   clear hq
   go_wp2
   go_roundw
   case rel=>exact ⟨k+1,by omega,by go_num,by rw[hsn.out,←Hg,hp'.out,hq'.out],hB.trans (hb1.mono hB.size)⟩
   case measure=>simp[intOf];omega
  ·have hfin:=Lib.hid (zc4 s k (by omega))
   generalize hp:ofL (pre s k)=p at *
   have hp':=Lib.hid hp
   clear hp
   go_wp2
   go_ret
   exact ⟨kz (by rw[←hp'.out,←hfin.out,←Hg];rfl),hB⟩
def Bld (B:Nat) (l:Bs) (w:World):Prop:=Lib.BuilderAt 159 5 B B (.pointer (some ⟨B,0,none⟩)) (Lib.byteCells l) w
theorem Bld.alloc {B:Nat} {l:Bs} {w:World} (h:Bld B l w) (o:Obj):Bld B l (w.alloc o):=by
 obtain ⟨h1,v,h2,h3,h4⟩:=h
 refine ⟨h1,v,?_,h3.alloc o,h4⟩
 rw[Lib.alloc_old _ _ _ (Array.getElem?_eq_some_iff.1 h2).1];exact h2
theorem Bld.drew {B:Nat} {l:Bs} {w:World} (h:Bld B l w):Bld B l w.drew:=h
theorem NT (B:Nat) (l:Bs) (c:UInt8) (w:World) (h:Bld B l w) (hl:l.length<140737488355328) (hB:B<=w.heap.size) :
  Calls Tryz.prog 191 #[.pointer (some ⟨B,0,none⟩),.int .u8 (c.toNat:Int)] w fun e w'=>e = .returned .nilIface/\Bld B (l++[c]) w'/\Below B w w':=by
 refine (Tryz.zBuilder_WriteByte B B (Lib.byteCells l) c.toNat w (.inr h) (by rw[Lib.byteCells_length];omega) hB).mono ?_
 rintro e w' ⟨h1,h2,h3⟩
 exact ⟨h1,by rw[Bld,Lib.byteCells_append];exact h2,h3⟩
theorem zbE (w:World) (c:UInt8) :
  Calls Tryz.prog 191 #[.pointer (some ⟨w.heap.size,0,none⟩),.int .u8 (c.toNat:Int)] (w.alloc (.cells #[.pointer none,.slice none 0 0] 159 (0,0))) fun e w'=>e = .returned .nilIface/\Bld w.heap.size [c] w'/\Below w.heap.size w w':=by
 refine (Tryz.zBuilder_WriteByte w.heap.size w.heap.size [] c.toNat _ (Lib.fresh_isBuilder _ _ w) (by decide) (by simp)).mono ?_
 rintro e w' ⟨h1,h2,h3⟩
 exact ⟨h1,h2,((Below.refl _ _).alloc (Nat.le_refl _) _).trans h3⟩
theorem yu (B:Nat) (l:Bs) (x:ByteArray) (w:World) (h:Bld B l w) (hl:l.length+x.size<=140737488355328) (hB:B<=w.heap.size) :
  Calls Tryz.prog 118 #[.pointer (some ⟨B,0,none⟩),.string x] w fun e w'=>e = .returned (.tuple #[.int .i64 x.size,.nilIface])/\Bld B (l++toL x) w'/\Below B w w':=by
 refine (Tryz.zBuilder_WriteString B B (Lib.byteCells l) x w (.inr h) (by rw[Lib.byteCells_length];omega) hB).mono ?_
 rintro e w' ⟨h1,h2,h3⟩
 exact ⟨h1,by rw[Bld,Lib.byteCells_append];exact h2,h3⟩
theorem zcd (B:Nat) (l:Bs) (w:World) (h:Bld B l w) (hB:B<=w.heap.size) :
  Calls Tryz.prog 119 #[.pointer (some ⟨B,0,none⟩)] w fun e w'=>e = .returned (.string (ofL l))/\Below B w w':=
 Tryz.Builder_String_any B B l w (.inr h) hB
theorem zn0 (c:UInt8):bits BinOp.and IntKind.u8 (c.toNat:Int) 15=(c.toNat:Int) % 16:=by
 have:=zcG (p:=fun c=>decide (bits BinOp.and IntKind.u8 (c.toNat:Int) 15=(c.toNat:Int) % 16)) (by decide +kernel) c
 exact of_decide_eq_true this
theorem quote_walk (s:ByteArray) (w:World) (hs:s.size<=1099511627776) :
  Calls Tryz.prog 154 #[.string s] w fun e w'=>e = .returned (.string (ofL (qx (toL s))))/\Below w.heap.size w w':=by
 go_enter Tryz.func154,Tryz.ntmps154
 go_wp2_with fail
 refine (zbE w 34).mono ?_
 rintro e w1 ⟨rfl,hI1,hB1⟩
 go_wp2_with fail
 go_loopw [9] (fun i wr=>∃ k:Nat,k<=s.size/\i = .int .i64 k/\Bld w.heap.size (pre s k) wr/\Below w.heap.size w wr) (fun i _=>s.size-(intOf i).toNat)
 case atStart=>exact ⟨0,by omega,rfl,by rw[vN];exact hI1,hB1⟩
 case round =>
  obtain ⟨k,hk,rfl,hI,hB⟩:=hrel
  clear hI1 hB1
  have hpl:=ze9 s k
  by_cases hlt:k<s.size
  ·obtain ⟨c,hc⟩:∃ c,s[k]=c:=⟨_,rfl⟩
   have hsn:=Lib.hid (vP s k hlt hc)
   go_wp2_with fail
   refine (x7 c _).mono ?_
   rintro e w' ⟨rfl,rfl⟩
   cases hg:good c with
   | true =>
    have hq:=Lib.hid (show qb c = [c] by rw[qb,if_pos hg])
    clear hg
    go_wp2_with fail
    refine (NT w.heap.size (pre s k) c _ hI (by omega) hB.size).mono ?_
    rintro e w2 ⟨rfl,hI2,hb2⟩
    go_wp2
    go_roundw
    case rel=>exact ⟨k+1,by omega,by go_num,by rw[hsn.out,hq.out];exact hI2,hB.trans hb2⟩
    case measure=>simp[intOf];omega
   | false =>
    have hq:=Lib.hid (show qb c = [92,120,GI (c.toNat / 16),GI (c.toNat % 16)] by rw[qb,hg];rfl)
    clear hg
    have x1:=zjr c
    have x2:=zi1 c
    have x3:=zn0 c
    have hcv:=fun w2:World=>HF (P:=Tryz.prog) w2 [92,120,GI (c.toNat / 16),GI (c.toNat % 16)] 157 5 9 Tryz.underlying157 Tryz.underlying5 Tryz.underlying9 #[.int .u8 92,.int .u8 120,.int .u8 (GI (c.toNat / 16)).toNat,.int .u8 (GI (c.toNat % 16)).toNat] rfl (0,0) w2.heap.size 4 4 rfl rfl
    go_wp2_with fail
    go_still_tail 6,(by kernel_rfl)
    change wpList _ _ _ _ _ wr.drew
    obtain ⟨w2,hw2,hI2,hsz⟩:∃ w2:World,Below w.heap.size w w2/\Bld w.heap.size (pre s k) w2/\w2=wr.drew:=⟨_,hB.drew,hI.drew,rfl⟩
    rw[←hsz]
    clear hsz hI hB
    go_wp2_with fail
    refine (yu w.heap.size (pre s k) (ofL [92,120,GI (c.toNat / 16),GI (c.toNat % 16)]) _ (hI2.alloc _) (by rw[Zb];show _+4<=_;omega) (by have:=hw2.size;simp;omega)).mono ?_
    rintro e w3 ⟨rfl,hI3,hb3⟩
    rw[zeJ]at hI3
    have hB3:=(hw2.alloc hw2.size _).trans hb3
    clear hb3 hcv x1 x2 x3 hI2
    go_wp2
    go_roundw
    case rel=>exact ⟨k+1,by omega,by go_num,by rw[hsn.out,hq.out];exact hI3,hB3⟩
    case measure=>simp[intOf];omega
  ·have hfin:=Lib.hid (zc4 s k (by omega))
   go_wp2_with fail
   refine (NT w.heap.size (pre s k) 34 _ hI (by omega) hB.size).mono ?_
   rintro e w2 ⟨rfl,hI2,hb2⟩
   go_wp2_with fail
   refine (zcd w.heap.size _ _ hI2 (hB.trans hb2).size).mono ?_
   rintro e w3 ⟨rfl,hb3⟩
   go_wp2
   go_ret
   exact ⟨kz (by rw[hfin.out]),(hB.trans hb2).trans hb3⟩
end QuoteWalk
end Go.Proofs.YtiblepfehggicaaGreatDoor
end
namespace Go.Proofs.YtiblepfehggicaaGreatDoor.Vcg
section
open Go.RowKit
def phr:List (List UInt8):=[[],[99,97,110,110,111,116,32,99,114,101,97,116,101,32,100,105,114,101,99,116,111,114,121,32,65,58,32,69],[99,97,110,110,111,116,32,114,101,109,111,118,101,32,65,58,32,69],[114,101,102,117,115,105,110,103,32,116,111,32,114,101,109,111,118,101,32,34,46,34,32,111,114,32,34,46,46,34,32,100,105,114,101,99,116,111,114,121,58,32,115,107,105,112,112,105,110,103,32,65],[105,116,32,105,115,32,100,97,110,103,101,114,111,117,115,32,116,111,32,111,112,101,114,97,116,101,32,114,101,99,117,114,115,105,118,101,108,121,32,111,110,32,65],[102,97,105,108,101,100,32,116,111,32,97,99,99,101,115,115,32,65,58,32,69],[65,58,32,104,97,114,100,32,108,105,110,107,32,110,111,116,32,97,108,108,111,119,101,100,32,102,111,114,32,100,105,114,101,99,116,111,114,121],[102,97,105,108,101,100,32,116,111,32,99,114,101,97,116,101,32,104,97,114,100,32,108,105,110,107,32,66,58,32,69],[102,97,105,108,101,100,32,116,111,32,99,114,101,97,116,101,32,115,121,109,98,111,108,105,99,32,108,105,110,107,32,66,58,32,69],[65,32,97,110,100,32,66,32,97,114,101,32,116,104,101,32,115,97,109,101,32,102,105,108,101],[116,97,114,103,101,116,32,65,32,105,115,32,110,111,116,32,97,32,100,105,114,101,99,116,111,114,121],[99,97,110,110,111,116,32,115,116,97,116,32,65,58,32,69],[99,97,110,110,111,116,32,111,118,101,114,119,114,105,116,101,32,110,111,110,45,100,105,114,101,99,116,111,114,121,32,66,32,119,105,116,104,32,100,105,114,101,99,116,111,114,121,32,65],[99,97,110,110,111,116,32,111,118,101,114,119,114,105,116,101,32,100,105,114,101,99,116,111,114,121,32,66,32,119,105,116,104,32,110,111,110,45,100,105,114,101,99,116,111,114,121,32,65],[99,97,110,110,111,116,32,109,111,118,101,32,65,32,116,111,32,97,32,115,117,98,100,105,114,101,99,116,111,114,121,32,111,102,32,105,116,115,101,108,102,44,32,66],[99,97,110,110,111,116,32,109,111,118,101,32,65,32,116,111,32,66,58,32,69],[45,114,32,110,111,116,32,115,112,101,99,105,102,105,101,100,59,32,111,109,105,116,116,105,110,103,32,100,105,114,101,99,116,111,114,121,32,65],[99,97,110,110,111,116,32,99,114,101,97,116,101,32,114,101,103,117,108,97,114,32,102,105,108,101,32,66,58,32,69],[99,97,110,110,111,116,32,99,114,101,97,116,101,32,115,121,109,98,111,108,105,99,32,108,105,110,107,32,66,58,32,69],[99,97,110,110,111,116,32,99,111,112,121,32,97,32,100,105,114,101,99,116,111,114,121,44,32,65,44,32,105,110,116,111,32,105,116,115,101,108,102,44,32,66],[110,111,116,32,119,114,105,116,105,110,103,32,116,104,114,111,117,103,104,32,100,97,110,103,108,105,110,103,32,115,121,109,108,105,110,107,32,66],[101,114,114,111,114,32,119,114,105,116,105,110,103,32,66,58,32,69],[99,97,110,110,111,116,32,99,114,101,97,116,101,32,100,105,114,101,99,116,111,114,121,32,66,58,32,69]]
def zqa:List (List UInt8):=[[83,117,99,99,101,115,115],[78,111,32,115,117,99,104,32,102,105,108,101,32,111,114,32,100,105,114,101,99,116,111,114,121],[70,105,108,101,32,101,120,105,115,116,115],[78,111,116,32,97,32,100,105,114,101,99,116,111,114,121],[73,115,32,97,32,100,105,114,101,99,116,111,114,121],[68,105,114,101,99,116,111,114,121,32,110,111,116,32,101,109,112,116,121],[84,111,111,32,109,97,110,121,32,108,101,118,101,108,115,32,111,102,32,115,121,109,98,111,108,105,99,32,108,105,110,107,115],[70,105,108,101,32,110,97,109,101,32,116,111,111,32,108,111,110,103],[78,111,32,115,112,97,99,101,32,108,101,102,116,32,111,110,32,100,101,118,105,99,101],[73,110,118,97,108,105,100,32,97,114,103,117,109,101,110,116],[68,101,118,105,99,101,32,111,114,32,114,101,115,111,117,114,99,101,32,98,117,115,121],[79,112,101,114,97,116,105,111,110,32,110,111,116,32,112,101,114,109,105,116,116,101,100],[77,97,108,102,111,114,109,101,100,32,116,101,120,116],[78,111,116,32,105,110,32,116,104,101,32,115,116,97,115,104]]
def zoB:List Value:=[.string ⟨#[]⟩,.string ⟨#[]⟩,.int .i64 0,.string ⟨#[109,107,100,105,114]⟩,.string ⟨#[112]⟩,.int .i64 1,.string ⟨#[114,109]⟩,.string ⟨#[82,100,102,114]⟩,.int .i64 1,.string ⟨#[108,110]⟩,.string ⟨#[84,102,110,115]⟩,.int .i64 1,.string ⟨#[109,118]⟩,.string ⟨#[84,102,110]⟩,.int .i64 2,.string ⟨#[99,112]⟩,.string ⟨#[80,82,84,102,110,114]⟩,.int .i64 2]
def G2:zq:=fun g=>if g=2 then some (phr.map C.str) else if g=1 then some (zoB.map zC) else if g=3 then some (zqa.map C.str) else none
theorem znT:G2 2=some [.str [],.str [99,97,110,110,111,116,32,99,114,101,97,116,101,32,100,105,114,101,99,116,111,114,121,32,65,58,32,69],.str [99,97,110,110,111,116,32,114,101,109,111,118,101,32,65,58,32,69],.str [114,101,102,117,115,105,110,103,32,116,111,32,114,101,109,111,118,101,32,34,46,34,32,111,114,32,34,46,46,34,32,100,105,114,101,99,116,111,114,121,58,32,115,107,105,112,112,105,110,103,32,65],.str [105,116,32,105,115,32,100,97,110,103,101,114,111,117,115,32,116,111,32,111,112,101,114,97,116,101,32,114,101,99,117,114,115,105,118,101,108,121,32,111,110,32,65],.str [102,97,105,108,101,100,32,116,111,32,97,99,99,101,115,115,32,65,58,32,69],.str [65,58,32,104,97,114,100,32,108,105,110,107,32,110,111,116,32,97,108,108,111,119,101,100,32,102,111,114,32,100,105,114,101,99,116,111,114,121],.str [102,97,105,108,101,100,32,116,111,32,99,114,101,97,116,101,32,104,97,114,100,32,108,105,110,107,32,66,58,32,69],.str [102,97,105,108,101,100,32,116,111,32,99,114,101,97,116,101,32,115,121,109,98,111,108,105,99,32,108,105,110,107,32,66,58,32,69],.str [65,32,97,110,100,32,66,32,97,114,101,32,116,104,101,32,115,97,109,101,32,102,105,108,101],.str [116,97,114,103,101,116,32,65,32,105,115,32,110,111,116,32,97,32,100,105,114,101,99,116,111,114,121],.str [99,97,110,110,111,116,32,115,116,97,116,32,65,58,32,69],.str [99,97,110,110,111,116,32,111,118,101,114,119,114,105,116,101,32,110,111,110,45,100,105,114,101,99,116,111,114,121,32,66,32,119,105,116,104,32,100,105,114,101,99,116,111,114,121,32,65],.str [99,97,110,110,111,116,32,111,118,101,114,119,114,105,116,101,32,100,105,114,101,99,116,111,114,121,32,66,32,119,105,116,104,32,110,111,110,45,100,105,114,101,99,116,111,114,121,32,65],.str [99,97,110,110,111,116,32,109,111,118,101,32,65,32,116,111,32,97,32,115,117,98,100,105,114,101,99,116,111,114,121,32,111,102,32,105,116,115,101,108,102,44,32,66],.str [99,97,110,110,111,116,32,109,111,118,101,32,65,32,116,111,32,66,58,32,69],.str [45,114,32,110,111,116,32,115,112,101,99,105,102,105,101,100,59,32,111,109,105,116,116,105,110,103,32,100,105,114,101,99,116,111,114,121,32,65],.str [99,97,110,110,111,116,32,99,114,101,97,116,101,32,114,101,103,117,108,97,114,32,102,105,108,101,32,66,58,32,69],.str [99,97,110,110,111,116,32,99,114,101,97,116,101,32,115,121,109,98,111,108,105,99,32,108,105,110,107,32,66,58,32,69],.str [99,97,110,110,111,116,32,99,111,112,121,32,97,32,100,105,114,101,99,116,111,114,121,44,32,65,44,32,105,110,116,111,32,105,116,115,101,108,102,44,32,66],.str [110,111,116,32,119,114,105,116,105,110,103,32,116,104,114,111,117,103,104,32,100,97,110,103,108,105,110,103,32,115,121,109,108,105,110,107,32,66],.str [101,114,114,111,114,32,119,114,105,116,105,110,103,32,66,58,32,69],.str [99,97,110,110,111,116,32,99,114,101,97,116,101,32,100,105,114,101,99,116,111,114,121,32,66,58,32,69]]:=rfl
theorem zh7:G2 1=some [.str [],.str [],.sc (.int .i64 0),.str [109,107,100,105,114],.str [112],.sc (.int .i64 1),.str [114,109],.str [82,100,102,114],.sc (.int .i64 1),.str [108,110],.str [84,102,110,115],.sc (.int .i64 1),.str [109,118],.str [84,102,110],.sc (.int .i64 2),.str [99,112],.str [80,82,84,102,110,114],.sc (.int .i64 2)]:=rfl
theorem zko:G2 3=some [.str [83,117,99,99,101,115,115],.str [78,111,32,115,117,99,104,32,102,105,108,101,32,111,114,32,100,105,114,101,99,116,111,114,121],.str [70,105,108,101,32,101,120,105,115,116,115],.str [78,111,116,32,97,32,100,105,114,101,99,116,111,114,121],.str [73,115,32,97,32,100,105,114,101,99,116,111,114,121],.str [68,105,114,101,99,116,111,114,121,32,110,111,116,32,101,109,112,116,121],.str [84,111,111,32,109,97,110,121,32,108,101,118,101,108,115,32,111,102,32,115,121,109,98,111,108,105,99,32,108,105,110,107,115],.str [70,105,108,101,32,110,97,109,101,32,116,111,111,32,108,111,110,103],.str [78,111,32,115,112,97,99,101,32,108,101,102,116,32,111,110,32,100,101,118,105,99,101],.str [73,110,118,97,108,105,100,32,97,114,103,117,109,101,110,116],.str [68,101,118,105,99,101,32,111,114,32,114,101,115,111,117,114,99,101,32,98,117,115,121],.str [79,112,101,114,97,116,105,111,110,32,110,111,116,32,112,101,114,109,105,116,116,101,100],.str [77,97,108,102,111,114,109,101,100,32,116,101,120,116],.str [78,111,116,32,105,110,32,116,104,101,32,115,116,97,115,104]]:=rfl
attribute [push_cast] znT zh7 zko
def X7 (k:Int):List UInt8:=if k=1 then [109,107,100,105,114] else if k=2 then [114,109] else if k=3 then [108,110] else if k=4 then [109,118] else if k=5 then [99,112] else []
def zR (k:Int):List UInt8:=if k=1 then [99,97,110,110,111,116,32,99,114,101,97,116,101,32,100,105,114,101,99,116,111,114,121,32,65,58,32,69] else if k=2 then [99,97,110,110,111,116,32,114,101,109,111,118,101,32,65,58,32,69] else if k=3 then [114,101,102,117,115,105,110,103,32,116,111,32,114,101,109,111,118,101,32,34,46,34,32,111,114,32,34,46,46,34,32,100,105,114,101,99,116,111,114,121,58,32,115,107,105,112,112,105,110,103,32,65] else if k=4 then [105,116,32,105,115,32,100,97,110,103,101,114,111,117,115,32,116,111,32,111,112,101,114,97,116,101,32,114,101,99,117,114,115,105,118,101,108,121,32,111,110,32,65] else if k=5 then [102,97,105,108,101,100,32,116,111,32,97,99,99,101,115,115,32,65,58,32,69] else if k=6 then [65,58,32,104,97,114,100,32,108,105,110,107,32,110,111,116,32,97,108,108,111,119,101,100,32,102,111,114,32,100,105,114,101,99,116,111,114,121] else if k=7 then [102,97,105,108,101,100,32,116,111,32,99,114,101,97,116,101,32,104,97,114,100,32,108,105,110,107,32,66,58,32,69] else if k=8 then [102,97,105,108,101,100,32,116,111,32,99,114,101,97,116,101,32,115,121,109,98,111,108,105,99,32,108,105,110,107,32,66,58,32,69] else if k=9 then [65,32,97,110,100,32,66,32,97,114,101,32,116,104,101,32,115,97,109,101,32,102,105,108,101] else if k=10 then [116,97,114,103,101,116,32,65,32,105,115,32,110,111,116,32,97,32,100,105,114,101,99,116,111,114,121] else if k=11 then [99,97,110,110,111,116,32,115,116,97,116,32,65,58,32,69] else if k=12 then [99,97,110,110,111,116,32,111,118,101,114,119,114,105,116,101,32,110,111,110,45,100,105,114,101,99,116,111,114,121,32,66,32,119,105,116,104,32,100,105,114,101,99,116,111,114,121,32,65] else if k=13 then [99,97,110,110,111,116,32,111,118,101,114,119,114,105,116,101,32,100,105,114,101,99,116,111,114,121,32,66,32,119,105,116,104,32,110,111,110,45,100,105,114,101,99,116,111,114,121,32,65] else if k=14 then [99,97,110,110,111,116,32,109,111,118,101,32,65,32,116,111,32,97,32,115,117,98,100,105,114,101,99,116,111,114,121,32,111,102,32,105,116,115,101,108,102,44,32,66] else if k=15 then [99,97,110,110,111,116,32,109,111,118,101,32,65,32,116,111,32,66,58,32,69] else if k=16 then [45,114,32,110,111,116,32,115,112,101,99,105,102,105,101,100,59,32,111,109,105,116,116,105,110,103,32,100,105,114,101,99,116,111,114,121,32,65] else if k=17 then [99,97,110,110,111,116,32,99,114,101,97,116,101,32,114,101,103,117,108,97,114,32,102,105,108,101,32,66,58,32,69] else if k=18 then [99,97,110,110,111,116,32,99,114,101,97,116,101,32,115,121,109,98,111,108,105,99,32,108,105,110,107,32,66,58,32,69] else if k=19 then [99,97,110,110,111,116,32,99,111,112,121,32,97,32,100,105,114,101,99,116,111,114,121,44,32,65,44,32,105,110,116,111,32,105,116,115,101,108,102,44,32,66] else if k=20 then [110,111,116,32,119,114,105,116,105,110,103,32,116,104,114,111,117,103,104,32,100,97,110,103,108,105,110,103,32,115,121,109,108,105,110,107,32,66] else if k=21 then [101,114,114,111,114,32,119,114,105,116,105,110,103,32,66,58,32,69] else if k=22 then [99,97,110,110,111,116,32,99,114,101,97,116,101,32,100,105,114,101,99,116,111,114,121,32,66,58,32,69] else []
def V8 (k:Int):List UInt8:=if k=0 then [83,117,99,99,101,115,115] else if k=1 then [78,111,32,115,117,99,104,32,102,105,108,101,32,111,114,32,100,105,114,101,99,116,111,114,121] else if k=2 then [70,105,108,101,32,101,120,105,115,116,115] else if k=3 then [78,111,116,32,97,32,100,105,114,101,99,116,111,114,121] else if k=4 then [73,115,32,97,32,100,105,114,101,99,116,111,114,121] else if k=5 then [68,105,114,101,99,116,111,114,121,32,110,111,116,32,101,109,112,116,121] else if k=6 then [84,111,111,32,109,97,110,121,32,108,101,118,101,108,115,32,111,102,32,115,121,109,98,111,108,105,99,32,108,105,110,107,115] else if k=7 then [70,105,108,101,32,110,97,109,101,32,116,111,111,32,108,111,110,103] else if k=8 then [78,111,32,115,112,97,99,101,32,108,101,102,116,32,111,110,32,100,101,118,105,99,101] else if k=9 then [73,110,118,97,108,105,100,32,97,114,103,117,109,101,110,116] else if k=10 then [68,101,118,105,99,101,32,111,114,32,114,101,115,111,117,114,99,101,32,98,117,115,121] else if k=11 then [79,112,101,114,97,116,105,111,110,32,110,111,116,32,112,101,114,109,105,116,116,101,100] else if k=12 then [77,97,108,102,111,114,109,101,100,32,116,101,120,116] else if k=13 then [78,111,116,32,105,110,32,116,104,101,32,115,116,97,115,104] else [85,110,107,110,111,119,110,32,101,114,114,111,114]
theorem Nm (k:Int):Fun Tryz.prog G2 102 [.sc (.int .i64 k)] (.str (X7 k)) 0:=by
 by_cases h1:1<=k
 ·by_cases h2:k<=5
  ·have hc:k=1∨k=2∨k=3∨k=4∨k=5:=by omega
   clear h1 h2
   rcases hc with rfl | rfl | rfl | rfl | rfl
   all_goals
    refine fon Tryz.func102 ?_;dsimp only[Tryz.f102]
    push_cast -dsimp
    exact ⟨[],rfl,rfl,by simp only[X7];push_cast -dsimp [zb,za,CLe,ze]<;>rfl⟩
  ·have n1:¬k=1:=(by omega);have n2:¬k=2:=(by omega);have n3:¬k=3:=(by omega);have n4:¬k=4:=(by omega);have n5:¬k=5:=(by omega)
   have f1:¬k<1:=(by omega);have f2:6<=k:=(by omega);have f3:5<k:=(by omega)
   refine fon Tryz.func102 ?_;dsimp only[Tryz.f102]
   push_cast -dsimp [f1,f2,f3,n1,n2,n3,n4,n5]
   exact ⟨[],rfl,rfl,by push_cast -dsimp [zb,za,CLe,ze]<;>simp[X7,n1,n2,n3,n4,n5]⟩
 ·have n1:¬k=1:=(by omega);have n2:¬k=2:=(by omega);have n3:¬k=3:=(by omega);have n4:¬k=4:=(by omega);have n5:¬k=5:=(by omega)
  have f1:k<1:=by omega
  refine fon Tryz.func102 ?_;dsimp only[Tryz.f102]
  push_cast -dsimp [f1,n1,n2,n3,n4,n5]
  exact ⟨[],rfl,rfl,by push_cast -dsimp [zb,za,CLe,ze]<;>simp[X7,n1,n2,n3,n4,n5]⟩
theorem zd5 (k:Int):Fun Tryz.prog G0 108 [.sc (.int .i64 k)] (.str (X7 k)) 0:=by
 by_cases h1:1<=k
 ·by_cases h2:k<=5
  ·have hc:k=1∨k=2∨k=3∨k=4∨k=5:=by omega
   clear h1 h2
   rcases hc with rfl | rfl | rfl | rfl | rfl
   all_goals
    refine fon Tryz.func108 ?_;dsimp only[Tryz.f108]
    push_cast -dsimp
    exact ⟨[],rfl,rfl,by simp only[X7];push_cast -dsimp [zb,za,CLe,ze]<;>rfl⟩
  ·have n1:¬k=1:=(by omega);have n2:¬k=2:=(by omega);have n3:¬k=3:=(by omega);have n4:¬k=4:=(by omega);have n5:¬k=5:=(by omega)
   have f1:¬k<1:=(by omega);have f2:6<=k:=(by omega);have f3:5<k:=(by omega)
   refine fon Tryz.func108 ?_;dsimp only[Tryz.f108]
   push_cast -dsimp [f1,f2,f3,n1,n2,n3,n4,n5]
   exact ⟨[],rfl,rfl,by push_cast -dsimp [zb,za,CLe,ze]<;>simp[X7,n1,n2,n3,n4,n5]⟩
 ·have n1:¬k=1:=(by omega);have n2:¬k=2:=(by omega);have n3:¬k=3:=(by omega);have n4:¬k=4:=(by omega);have n5:¬k=5:=(by omega)
  have f1:k<1:=by omega
  refine fon Tryz.func108 ?_;dsimp only[Tryz.f108]
  push_cast -dsimp [f1,n1,n2,n3,n4,n5]
  exact ⟨[],rfl,rfl,by push_cast -dsimp [zb,za,CLe,ze]<;>simp[X7,n1,n2,n3,n4,n5]⟩
theorem zai (k:Int):Fun Tryz.prog G2 103 [.sc (.int .i64 k)] (.str (zR k)) 0:=by
 by_cases h1:0<=k
 ·by_cases h2:k<=22
  ·have hc:k=0∨k=1∨k=2∨k=3∨k=4∨k=5∨k=6∨k=7∨k=8∨k=9∨k=10∨k=11∨k=12∨k=13∨k=14∨k=15∨k=16∨k=17∨k=18∨k=19∨k=20∨k=21∨k=22:=by omega
   clear h1 h2
   rcases hc with rfl | rfl | rfl | rfl | rfl | rfl | rfl | rfl | rfl | rfl | rfl | rfl | rfl | rfl | rfl | rfl | rfl | rfl | rfl | rfl | rfl | rfl | rfl
   all_goals
    refine fon Tryz.func103 ?_;dsimp only[Tryz.f103]
    push_cast -dsimp
    exact ⟨[],rfl,rfl,by simp only[zR];push_cast -dsimp [zb,za,CLe,ze]<;>rfl⟩
  ·have n1:¬k=1:=(by omega);have n2:¬k=2:=(by omega);have n3:¬k=3:=(by omega);have n4:¬k=4:=(by omega);have n5:¬k=5:=(by omega);have n6:¬k=6:=(by omega);have n7:¬k=7:=(by omega);have n8:¬k=8:=(by omega);have n9:¬k=9:=(by omega);have n10:¬k=10:=(by omega);have n11:¬k=11:=(by omega);have n12:¬k=12:=(by omega);have n13:¬k=13:=(by omega);have n14:¬k=14:=(by omega);have n15:¬k=15:=(by omega);have n16:¬k=16:=(by omega);have n17:¬k=17:=(by omega);have n18:¬k=18:=(by omega);have n19:¬k=19:=(by omega);have n20:¬k=20:=(by omega);have n21:¬k=21:=(by omega);have n22:¬k=22:=(by omega)
   have f1:¬k<0:=(by omega);have f2:23<=k:=(by omega);have f3:22<k:=(by omega)
   refine fon Tryz.func103 ?_;dsimp only[Tryz.f103]
   push_cast -dsimp [f1,f2,f3,n1,n2,n3,n4,n5,n6,n7,n8,n9,n10,n11,n12,n13,n14,n15,n16,n17,n18,n19,n20,n21,n22]
   exact ⟨[],rfl,rfl,by push_cast -dsimp [zb,za,CLe,ze]<;>simp[zR,n1,n2,n3,n4,n5,n6,n7,n8,n9,n10,n11,n12,n13,n14,n15,n16,n17,n18,n19,n20,n21,n22]⟩
 ·have n1:¬k=1:=(by omega);have n2:¬k=2:=(by omega);have n3:¬k=3:=(by omega);have n4:¬k=4:=(by omega);have n5:¬k=5:=(by omega);have n6:¬k=6:=(by omega);have n7:¬k=7:=(by omega);have n8:¬k=8:=(by omega);have n9:¬k=9:=(by omega);have n10:¬k=10:=(by omega);have n11:¬k=11:=(by omega);have n12:¬k=12:=(by omega);have n13:¬k=13:=(by omega);have n14:¬k=14:=(by omega);have n15:¬k=15:=(by omega);have n16:¬k=16:=(by omega);have n17:¬k=17:=(by omega);have n18:¬k=18:=(by omega);have n19:¬k=19:=(by omega);have n20:¬k=20:=(by omega);have n21:¬k=21:=(by omega);have n22:¬k=22:=(by omega)
  have f1:k<0:=by omega
  refine fon Tryz.func103 ?_;dsimp only[Tryz.f103]
  push_cast -dsimp [f1,n1,n2,n3,n4,n5,n6,n7,n8,n9,n10,n11,n12,n13,n14,n15,n16,n17,n18,n19,n20,n21,n22]
  exact ⟨[],rfl,rfl,by push_cast -dsimp [zb,za,CLe,ze]<;>simp[zR,n1,n2,n3,n4,n5,n6,n7,n8,n9,n10,n11,n12,n13,n14,n15,n16,n17,n18,n19,n20,n21,n22]⟩
theorem y6 (k:Int):Fun Tryz.prog G2 155 [.sc (.int .i64 k)] (.str (V8 k)) 0:=by
 by_cases h1:0<=k
 ·by_cases h2:k<=13
  ·have hc:k=0∨k=1∨k=2∨k=3∨k=4∨k=5∨k=6∨k=7∨k=8∨k=9∨k=10∨k=11∨k=12∨k=13:=by omega
   clear h1 h2
   rcases hc with rfl | rfl | rfl | rfl | rfl | rfl | rfl | rfl | rfl | rfl | rfl | rfl | rfl | rfl
   all_goals
    refine fon Tryz.func155 ?_;dsimp only[Tryz.f155]
    push_cast -dsimp
    exact ⟨[],rfl,rfl,by simp only[V8];push_cast -dsimp [zb,za,CLe,ze]<;>rfl⟩
  ·have n0:¬k=0:=(by omega);have n1:¬k=1:=(by omega);have n2:¬k=2:=(by omega);have n3:¬k=3:=(by omega);have n4:¬k=4:=(by omega);have n5:¬k=5:=(by omega);have n6:¬k=6:=(by omega);have n7:¬k=7:=(by omega);have n8:¬k=8:=(by omega);have n9:¬k=9:=(by omega);have n10:¬k=10:=(by omega);have n11:¬k=11:=(by omega);have n12:¬k=12:=(by omega);have n13:¬k=13:=(by omega)
   have f1:¬k<0:=(by omega);have f2:14<=k:=(by omega);have f3:13<k:=(by omega)
   refine fon Tryz.func155 ?_;dsimp only[Tryz.f155]
   push_cast -dsimp [f1,f2,f3,n0,n1,n2,n3,n4,n5,n6,n7,n8,n9,n10,n11,n12,n13]
   exact ⟨[],rfl,rfl,by push_cast -dsimp [zb,za,CLe,ze]<;>simp[V8,n0,n1,n2,n3,n4,n5,n6,n7,n8,n9,n10,n11,n12,n13]⟩
 ·have n0:¬k=0:=(by omega);have n1:¬k=1:=(by omega);have n2:¬k=2:=(by omega);have n3:¬k=3:=(by omega);have n4:¬k=4:=(by omega);have n5:¬k=5:=(by omega);have n6:¬k=6:=(by omega);have n7:¬k=7:=(by omega);have n8:¬k=8:=(by omega);have n9:¬k=9:=(by omega);have n10:¬k=10:=(by omega);have n11:¬k=11:=(by omega);have n12:¬k=12:=(by omega);have n13:¬k=13:=(by omega)
  have f1:k<0:=by omega
  refine fon Tryz.func155 ?_;dsimp only[Tryz.f155]
  push_cast -dsimp [f1,n0,n1,n2,n3,n4,n5,n6,n7,n8,n9,n10,n11,n12,n13]
  exact ⟨[],rfl,rfl,by push_cast -dsimp [zb,za,CLe,ze]<;>simp[V8,n0,n1,n2,n3,n4,n5,n6,n7,n8,n9,n10,n11,n12,n13]⟩
theorem NN (k:Int):Fun Tryz.prog G0 111 [.sc (.int .i64 k)] (.str (V8 k)) 0:=by
 by_cases h1:0<=k
 ·by_cases h2:k<=13
  ·have hc:k=0∨k=1∨k=2∨k=3∨k=4∨k=5∨k=6∨k=7∨k=8∨k=9∨k=10∨k=11∨k=12∨k=13:=by omega
   clear h1 h2
   rcases hc with rfl | rfl | rfl | rfl | rfl | rfl | rfl | rfl | rfl | rfl | rfl | rfl | rfl | rfl
   all_goals
    refine fon Tryz.func111 ?_;dsimp only[Tryz.f111]
    push_cast -dsimp
    exact ⟨[],rfl,rfl,by simp only[V8];push_cast -dsimp [zb,za,CLe,ze]<;>rfl⟩
  ·have n0:¬k=0:=(by omega);have n1:¬k=1:=(by omega);have n2:¬k=2:=(by omega);have n3:¬k=3:=(by omega);have n4:¬k=4:=(by omega);have n5:¬k=5:=(by omega);have n6:¬k=6:=(by omega);have n7:¬k=7:=(by omega);have n8:¬k=8:=(by omega);have n9:¬k=9:=(by omega);have n10:¬k=10:=(by omega);have n11:¬k=11:=(by omega);have n12:¬k=12:=(by omega);have n13:¬k=13:=(by omega)
   have f1:¬k<0:=(by omega);have f2:14<=k:=(by omega);have f3:13<k:=(by omega)
   refine fon Tryz.func111 ?_;dsimp only[Tryz.f111]
   push_cast -dsimp [f1,f2,f3,n0,n1,n2,n3,n4,n5,n6,n7,n8,n9,n10,n11,n12,n13]
   exact ⟨[],rfl,rfl,by push_cast -dsimp [zb,za,CLe,ze]<;>simp[V8,n0,n1,n2,n3,n4,n5,n6,n7,n8,n9,n10,n11,n12,n13]⟩
 ·have n0:¬k=0:=(by omega);have n1:¬k=1:=(by omega);have n2:¬k=2:=(by omega);have n3:¬k=3:=(by omega);have n4:¬k=4:=(by omega);have n5:¬k=5:=(by omega);have n6:¬k=6:=(by omega);have n7:¬k=7:=(by omega);have n8:¬k=8:=(by omega);have n9:¬k=9:=(by omega);have n10:¬k=10:=(by omega);have n11:¬k=11:=(by omega);have n12:¬k=12:=(by omega);have n13:¬k=13:=(by omega)
  have f1:k<0:=by omega
  refine fon Tryz.func111 ?_;dsimp only[Tryz.f111]
  push_cast -dsimp [f1,n0,n1,n2,n3,n4,n5,n6,n7,n8,n9,n10,n11,n12,n13]
  exact ⟨[],rfl,rfl,by push_cast -dsimp [zb,za,CLe,ze]<;>simp[V8,n0,n1,n2,n3,n4,n5,n6,n7,n8,n9,n10,n11,n12,n13]⟩
open QuotePlain in
theorem Np (l:List UInt8) (hl:l.length<=1000000):Fun Tryz.prog G0 154 [.str l] (.str (qx l)) 0:=by
 refine Fun.wrap (by kernel_rfl) fun R vs h=>?_
 obtain ⟨v1,us1,rfl,h1,h⟩:=zd.1 h
 rw[zj]at h
 subst h
 rw[zV]at h1
 subst h1
 refine (QuoteWalk.quote_walk ⟨l.toArray⟩ R.w (by simp[ByteArray.size];omega)).mono ?_
 rintro e w' ⟨rfl,hb⟩
 exact ⟨_,rfl,hb,fun R' _=>zV.2 (by simp[Kit.ofL,Kit.toL])⟩
open QuotePlain in
theorem kX (l:List UInt8) (hl:l.length<=1000000):Fun Tryz.prog G0 110 [.str l] (.str (qx l)) 0:=by
 refine Fun.wrap (by kernel_rfl) fun R vs h=>?_
 obtain ⟨v1,us1,rfl,h1,h⟩:=zd.1 h
 rw[zj]at h
 subst h
 rw[zV]at h1
 subst h1
 refine (QuoteWalk.refQuote_walk ⟨l.toArray⟩ R.w (by simp[ByteArray.size];omega)).mono ?_
 rintro e w' ⟨rfl,hb⟩
 exact ⟨_,rfl,hb,fun R' _=>zV.2 (by simp[Kit.ofL,Kit.toL])⟩
end
section
open Go.RowKit
theorem Fun.res {P:Program} {G:zq} {f:FuncId} {args:List C} {r r':C} {n:Nat} (h:Fun P G f args r n) (e:r=r'):Fun P G f args r' n:=e▸h
theorem MZ.glob0 {P:Program} {G':zq} {f:FuncId} {args:List C} {bx bx':List (List C)} {q:Nat} {r:C} {n:Nat} (h:MZ P G0 f args bx q r bx' n):MZ P G' f args bx q r bx' n:=
 ⟨h.1,fun R L vs hg=>h.2 R L vs fun g cs e=>by cases e⟩
theorem MX.glob0 {P:Program} {G':zq} {f:FuncId} {first cap:List C} {bx items:List (List C)} (h:MX P G0 f first cap bx items):MX P G' f first cap bx items:=
 ⟨h.1,fun l st J R L us vs hg=>h.2 l st J R L us vs fun g cs e=>by cases e⟩
def JG (c:UInt8):List UInt8->List (List UInt8)
 | []=>[[]]
 | b :: l=>if b=c then [] :: JG c l else match JG c l with
  | []=>[[b]]
  | x :: r=>(b :: x) :: r
theorem V0 (c:UInt8):∀ l:List UInt8,Lib.indexByte l c<0->JG c l = [l]
 | [],_=>rfl
 | b :: l,h=>by
  unfold Lib.indexByte at h
  by_cases hb:b=c
  ·subst hb;simp at h
  ·have hb':(b==c)=false:=by simpa using hb
   rw[hb']at h
   simp only[Bool.false_eq_true,if_false]at h
   have hl:Lib.indexByte l c<0:=by
    split at h
    ·rename_i g;have:=beq_iff_eq.1 g;omega
    ·omega
   unfold JG
   rw[if_neg hb,V0 c l hl]
theorem UI (c:UInt8):∀ l:List UInt8,-1<=Lib.indexByte l c
 | []=>Int.le_refl _
 | b :: l=>by
  have:=UI c l
  unfold Lib.indexByte
  split
  ·decide
  ·split
   ·decide
   ·omega
theorem NW (c:UInt8):∀ (l:List UInt8) (i:Nat),Lib.indexByte l c=(i:Int)->i<l.length/\JG c l=l.take i :: JG c (l.drop (i+1))
 | [],i,h=>by
  have h:(-1:Int)=(i:Int):=h
  omega
 | b :: l,i,h=>by
  unfold Lib.indexByte at h
  by_cases hb:b=c
  ·subst hb
   simp at h
   obtain rfl:i=0:=by omega
   refine ⟨by simp,?_⟩
   conv=>lhs;unfold JG
   simp
  ·have hb':(b==c)=false:=by simpa using hb
   rw[hb']at h
   simp only[Bool.false_eq_true,if_false]at h
   split at h
   ·omega
   ·rename_i g
    have g':Lib.indexByte l c≠-1:=by simpa using g
    have hg:=UI c l
    obtain ⟨j,rfl⟩:∃ j,i=j+1:=⟨i-1,by omega⟩
    have hj:Lib.indexByte l c=(j:Int):=by omega
    obtain ⟨h1,h2⟩:=NW c l j hj
    refine ⟨by simp;omega,?_⟩
    conv=>lhs;unfold JG
    rw[if_neg hb,h2]
    simp
theorem yi (c:UInt8) (l:List UInt8):(JG c l).length<=l.length+1:=by
 induction l with
 | nil=>simp[JG]
 | cons b l ih =>
  unfold JG
  split
  ·simp;omega
  ·split
   ·simp
   ·rename_i x r h
    rw[h]at ih
    simp at ih ⊢;omega
theorem zaO (c:UInt8) (l:List UInt8):Fun Tryz.prog G0 186 [.str l,.str [c]] (.sc (.int .i64 (Lib.indexByte l c))) 0:=by
 refine Fun.wrap (by kernel_rfl) fun R vs h=>?_
 obtain ⟨v1,us1,rfl,h1,h⟩:=zd.1 h
 obtain ⟨v2,us2,rfl,h2,h⟩:=zd.1 h
 rw[zj]at h
 subst h
 rw[zV]at h1 h2
 subst h1 h2
 refine (Tryz.strings_Index_one ⟨l.toArray⟩ c R.w).mono ?_
 rintro e w' ⟨rfl,rfl⟩
 exact ⟨_,rfl,Below.refl _ _,fun R' _=>zo.2 (by simp)⟩
theorem G8 (c:UInt8) (s:List UInt8) (hs:s.length<=1000000):MX Tryz.prog G0 184 [] [.ptr 1 0,.ptr 0 0,.ptr 2 0] [[.str s],[.str [c]],[.sc (.int .i64 0)]] (qv (JG c s)):=by
 refine foI (fun _=>[]) Tryz.func184 ?_;dsimp only[Tryz.f184]
 intro l sf
 push_cast -dsimp
 refine loop (fun x:List UInt8×Nat=>⟨[(0,.sc (.func (.yield l) #[] #[])),(1,.ptr 1 0),(2,.ptr 0 0),(3,.ptr 2 0)],[[.str x.1],[.str [c]],[.sc (.int .i64 0)]],0,x.2⟩)
  (fun x=>x.1.length<=1000000/\(∃ done,JG c s=done++JG c x.1/\done.length=x.2)/\∀ j,j<x.2->sf j=false) (fun x=>x.1.length) (s,0) ⟨hs,⟨[],rfl,rfl⟩,fun j hj=>by omega⟩ ?_ ?_
 ·refine JS.mk [] rfl rfl (Nat.zero_le _) rfl ?_ ?_<;>push_cast -dsimp [zb,za,CLe,ze]<;>omega
 ·rintro ⟨r,k⟩ hx
  simp only at hx ⊢
  have hr:=hx.1
  have hsf:=hx.2.2
  obtain ⟨done,hd,hdl⟩:=hx.2.1
  clear hx
  push_cast -dsimp
  refine call (zaO c r) ?_
  push_cast -dsimp
  by_cases hi:Lib.indexByte r c<0
  ·push_cast -dsimp [hi]
   have hk:(qv (JG c s))[k]?=some [.str r]:=by
    rw[hd,V0 c r hi];simp[←hdl]
   rw[hk]
   push_cast -dsimp
   refine ⟨by push_cast -dsimp [zb,za,CLe,ze],hsf,?_⟩
   cases hk2:sf k with
   | true=>exact .inr ⟨Nat.succ_pos k,hk2⟩
   | false =>
    refine .inl ⟨?_,fun j (hj:j<k+1)=>?_⟩
    ·rw[hd,V0 c r hi];simp[hdl]
    ·rcases Nat.lt_or_ge j k with g | g
     ·exact hsf j g
     ·rw[show j=k by omega];exact hk2
  ·have hg:=UI c r
   obtain ⟨i,hii⟩:∃ i:Nat,Lib.indexByte r c=(i:Int):=⟨(Lib.indexByte r c).toNat,by omega⟩
   obtain ⟨hir,hsp⟩:=NW c r i hii
   have hk:(qv (JG c s))[k]?=some [.str (r.take i)]:=by
    rw[hd,hsp];simp[←hdl]
   rw[hii]at hi ⊢
   push_cast -dsimp [hi]
   rw[hk]
   push_cast -dsimp
   refine ⟨by omega,by omega,by push_cast -dsimp [zb,za,CLe,ze],hsf,br (fun hk2=>?_) (fun hk2=>?_)⟩
   ·push_cast -dsimp
    exact .inr ⟨Nat.succ_pos k,hk2⟩
   ·push_cast -dsimp
    refine ⟨by omega,by omega,(r.drop (i+1),k+1),⟨by simp;omega,⟨done++[r.take i],by rw[hd,hsp];simp,by simp[hdl]⟩,fun j (hj:j<k+1)=>?_⟩,by simp;omega,JS.mk [] rfl rfl (Nat.zero_le _) rfl ?_ ?_⟩
    ·rcases Nat.lt_or_ge j k with g | g
     ·exact hsf j g
     ·rw[show j=k by omega];exact hk2
    ·push_cast -dsimp [zb,za,CLe,ze]
    ·push_cast -dsimp [zb,za,CLe,ze]
theorem Hn (c:UInt8) (s:List UInt8):MZ Tryz.prog G0 152 [.str s,.str [c],.sc (.int .i64 0)] [] 0 (.clo (.func 184) [] [.ptr 1 0,.ptr 0 0,.ptr 2 0]) [[.str s],[.str [c]],[.sc (.int .i64 0)]] 0:=by
 refine foB (fun _=>[]) Tryz.func152 ?_;dsimp only[Tryz.f152]
 push_cast -dsimp
 exact ⟨[],rfl,rfl,by push_cast -dsimp [zb,za,CLe,ze],by push_cast -dsimp [zb,za,CLe,ze]⟩
theorem HU (c:UInt8) (s:List UInt8):MZ Tryz.prog G0 104 [.str s,.str [c]] [] 0 (.clo (.func 184) [] [.ptr 1 0,.ptr 0 0,.ptr 2 0]) [[.str s],[.str [c]],[.sc (.int .i64 0)]] 0:=by
 refine foB (fun _=>[]) Tryz.func104 ?_;dsimp only[Tryz.f104]
 push_cast -dsimp
 refine yY [] [] (Hn c s) rfl (by simp) (by simp) (fun i hi=>by cases hi) (by push_cast -dsimp) rfl ?_
 push_cast -dsimp
 exact ⟨[],rfl,rfl,by push_cast -dsimp [zb,za,CLe,ze],by push_cast -dsimp [zb,za,CLe,ze]⟩
end
section
open CA CB
open Go.RowKit QuotePlain
def zn (l:List UInt8):List UInt8:=Lib.trimRightS l [58,44]
theorem zeT (l:List UInt8):(zn l).length<=l.length:=by
 unfold zn Lib.trimRightS
 rw[List.length_reverse]
 have:=(List.dropWhile_sublist (([58,44]:List UInt8).contains ·) (l:=l.reverse)).length_le
 rw[List.length_reverse]at this
 exact this
theorem zib (l:List UInt8) (h0:l≠[]) (hl:l.length<=1000000):Fun Tryz.prog G0 153 [.str l,.str [58,44]] (.str (zn l)) 0:=by
 refine Fun.wrap (by kernel_rfl) fun R vs h=>?_
 obtain ⟨v1,us1,rfl,h1,h⟩:=zd.1 h
 obtain ⟨v2,us2,rfl,h2,h⟩:=zd.1 h
 rw[zj]at h
 subst h
 rw[zV]at h1 h2
 subst h1 h2
 have hpos:=List.length_pos_iff.2 h0
 refine (Any.strings_TrimRight_set Tryz.lays162 k6 (by kernel_rfl) ⟨l.toArray⟩ ⟨#[58,44]⟩ R.w (by decide) (by simpa [ByteArray.size] using hpos) (by simp[ByteArray.size];omega) (by decide) (fun j b hb=>?_)).mono ?_
 ·match j,hb with
  | 0,hb=>cases hb;decide
  | 1,hb=>cases hb;decide
  | j+2,hb=>simp at hb
 ·rintro e w' ⟨rfl,rfl⟩
  exact ⟨_,rfl,((Below.refl _ _).alloc (Nat.le_refl _) _).alloc (by simp) _,fun R' _=>zV.2 (by simp[zn])⟩
def zf (w qa qb m:List UInt8):List UInt8:=
 if zn w = [65] then qa++w.drop (zn w).length else if zn w = [66] then qb++w.drop (zn w).length else if zn w = [69] then m++w.drop (zn w).length else w
theorem JY (l:List UInt8):(qx l).length<=4*l.length+2:=by
 have:=QuoteWalk.mid_len l
 simp only[qx,List.length_cons,List.length_append,List.length_nil]
 omega
theorem GT (e:Int):(V8 e).length<=100:=by
 have key:∀ (c:Prop) [Decidable c] (x y:List UInt8),x.length<=100->y.length<=100->(if c then x else y).length<=100:=fun c _ x y hx hy=>by
  by_cases h:c
  ·rw[if_pos h];exact hx
  ·rw[if_neg h];exact hy
 unfold V8
 repeat' (first | decide | refine key _ _ _ (by decide) ?_)
theorem zeu (w a b:List UInt8) (e:Int) (ha:a.length<=1000) (hb:b.length<=1000):(zf w (qx a) (qx b) (V8 e)).length<=w.length+5000:=by
 have h1:=JY a
 have h2:=JY b
 have h3:=GT e
 unfold zf
 repeat' split
 all_goals (try simp only[List.length_append,List.length_drop]);omega
theorem zgQ (w a b:List UInt8) (e:Int) (h0:w≠[]) (hw:w.length<=1000) (ha:a.length<=1000) (hb:b.length<=1000):Fun Tryz.prog G2 105 [.str w,.str a,.str b,.sc (.int .i64 e)] (.str (zf w (qx a) (qx b) (V8 e))) 0:=by
 have h1:=(zib w h0 (by omega)).glob0 (G':=G2)
 have h2:=(Np a (by omega)).glob0 (G':=G2)
 have h3:=(Np b (by omega)).glob0 (G':=G2)
 have h4:=y6 e
 have hl:=zeT w
 have l1:=JY a
 have l2:=JY b
 have l3:=GT e
 by_cases hA:zn w = [65]
 ·refine fon Tryz.func105 ?_;dsimp only[Tryz.f105]
  push_cast -dsimp
  refine cl (h1) ?_;push_cast -dsimp
  repeat refine an ?_
  push_cast -dsimp [hA]
  refine cl (h2) ?_;push_cast -dsimp
  repeat refine an ?_
  exact ⟨[],rfl,rfl,by push_cast -dsimp [zb,za,CLe,ze]<;>simp[zf,hA]⟩
 ·by_cases hB:zn w = [66]
  ·have hA':¬([66]:List UInt8) = [65]:=by decide
   refine fon Tryz.func105 ?_;dsimp only[Tryz.f105]
   push_cast -dsimp
   refine cl (h1) ?_;push_cast -dsimp
   repeat refine an ?_
   push_cast -dsimp [hB,hA']
   refine cl (h3) ?_;push_cast -dsimp
   repeat refine an ?_
   exact ⟨[],rfl,rfl,by push_cast -dsimp [zb,za,CLe,ze]<;>simp[zf,hB]⟩
  ·by_cases hE:zn w = [69]
   ·have hA':¬([69]:List UInt8) = [65]:=by decide
    have hB':¬([69]:List UInt8) = [66]:=by decide
    refine fon Tryz.func105 ?_;dsimp only[Tryz.f105]
    push_cast -dsimp
    refine cl (h1) ?_;push_cast -dsimp
    repeat refine an ?_
    push_cast -dsimp [hE,hA',hB']
    refine cl (h4) ?_;push_cast -dsimp
    repeat refine an ?_
    exact ⟨[],rfl,rfl,by push_cast -dsimp [zb,za,CLe,ze]<;>simp[zf,hE]⟩
   ·refine fon Tryz.func105 ?_;dsimp only[Tryz.f105]
    push_cast -dsimp
    refine cl (h1) ?_;push_cast -dsimp
    repeat refine an ?_
    push_cast -dsimp [hA,hB,hE]
    exact ⟨[],rfl,rfl,by push_cast -dsimp [zb,za,CLe,ze]<;>simp[zf,hA,hB,hE]⟩
theorem ziJ (xs:List (List UInt8)) (hx:xs.length<=1000001) (hl:(Lib.join xs [58,32]).length<=100000000):Fun Tryz.prog G0 106 [.sl 1 (qv xs)] (.str (Lib.join xs [58,32])) 0:=by
 refine fon Tryz.func106 ?_;dsimp only[Tryz.f106]
 push_cast -dsimp
 refine cl (GN xs [58,32] hx hl) ?_;push_cast -dsimp
 exact dn
end
section
open CA CB
open Go.RowKit QuotePlain
def X9 (k:Int) (qa qb m:List UInt8):List UInt8:=if k=1 then [99,97,110,110,111,116,32,99,114,101,97,116,101,32,100,105,114,101,99,116,111,114,121,32]++qa++[58,32]++m else if k=2 then [99,97,110,110,111,116,32,114,101,109,111,118,101,32]++qa++[58,32]++m else if k=3 then [114,101,102,117,115,105,110,103,32,116,111,32,114,101,109,111,118,101,32,34,46,34,32,111,114,32,34,46,46,34,32,100,105,114,101,99,116,111,114,121,58,32,115,107,105,112,112,105,110,103,32]++qa else if k=4 then [105,116,32,105,115,32,100,97,110,103,101,114,111,117,115,32,116,111,32,111,112,101,114,97,116,101,32,114,101,99,117,114,115,105,118,101,108,121,32,111,110,32]++qa else if k=5 then [102,97,105,108,101,100,32,116,111,32,97,99,99,101,115,115,32]++qa++[58,32]++m else if k=6 then qa++[58,32,104,97,114,100,32,108,105,110,107,32,110,111,116,32,97,108,108,111,119,101,100,32,102,111,114,32,100,105,114,101,99,116,111,114,121] else if k=7 then [102,97,105,108,101,100,32,116,111,32,99,114,101,97,116,101,32,104,97,114,100,32,108,105,110,107,32]++qb++[58,32]++m else if k=8 then [102,97,105,108,101,100,32,116,111,32,99,114,101,97,116,101,32,115,121,109,98,111,108,105,99,32,108,105,110,107,32]++qb++[58,32]++m else if k=9 then qa++[32,97,110,100,32]++qb++[32,97,114,101,32,116,104,101,32,115,97,109,101,32,102,105,108,101] else if k=10 then [116,97,114,103,101,116,32]++qa++[32,105,115,32,110,111,116,32,97,32,100,105,114,101,99,116,111,114,121] else if k=11 then [99,97,110,110,111,116,32,115,116,97,116,32]++qa++[58,32]++m else if k=12 then [99,97,110,110,111,116,32,111,118,101,114,119,114,105,116,101,32,110,111,110,45,100,105,114,101,99,116,111,114,121,32]++qb++[32,119,105,116,104,32,100,105,114,101,99,116,111,114,121,32]++qa else if k=13 then [99,97,110,110,111,116,32,111,118,101,114,119,114,105,116,101,32,100,105,114,101,99,116,111,114,121,32]++qb++[32,119,105,116,104,32,110,111,110,45,100,105,114,101,99,116,111,114,121,32]++qa else if k=14 then [99,97,110,110,111,116,32,109,111,118,101,32]++qa++[32,116,111,32,97,32,115,117,98,100,105,114,101,99,116,111,114,121,32,111,102,32,105,116,115,101,108,102,44,32]++qb else if k=15 then [99,97,110,110,111,116,32,109,111,118,101,32]++qa++[32,116,111,32]++qb++[58,32]++m else if k=16 then [45,114,32,110,111,116,32,115,112,101,99,105,102,105,101,100,59,32,111,109,105,116,116,105,110,103,32,100,105,114,101,99,116,111,114,121,32]++qa else if k=17 then [99,97,110,110,111,116,32,99,114,101,97,116,101,32,114,101,103,117,108,97,114,32,102,105,108,101,32]++qb++[58,32]++m else if k=18 then [99,97,110,110,111,116,32,99,114,101,97,116,101,32,115,121,109,98,111,108,105,99,32,108,105,110,107,32]++qb++[58,32]++m else if k=19 then [99,97,110,110,111,116,32,99,111,112,121,32,97,32,100,105,114,101,99,116,111,114,121,44,32]++qa++[44,32,105,110,116,111,32,105,116,115,101,108,102,44,32]++qb else if k=20 then [110,111,116,32,119,114,105,116,105,110,103,32,116,104,114,111,117,103,104,32,100,97,110,103,108,105,110,103,32,115,121,109,108,105,110,107,32]++qb else if k=21 then [101,114,114,111,114,32,119,114,105,116,105,110,103,32]++qb++[58,32]++m else if k=22 then [99,97,110,110,111,116,32,99,114,101,97,116,101,32,100,105,114,101,99,116,111,114,121,32]++qb++[58,32]++m else []
theorem Qk (k:Int) (h:¬(1<=k/\k<=22)):zR k = []:=by
 have n1:¬k=1:=by omega
 have n2:¬k=2:=by omega
 have n3:¬k=3:=by omega
 have n4:¬k=4:=by omega
 have n5:¬k=5:=by omega
 have n6:¬k=6:=by omega
 have n7:¬k=7:=by omega
 have n8:¬k=8:=by omega
 have n9:¬k=9:=by omega
 have n10:¬k=10:=by omega
 have n11:¬k=11:=by omega
 have n12:¬k=12:=by omega
 have n13:¬k=13:=by omega
 have n14:¬k=14:=by omega
 have n15:¬k=15:=by omega
 have n16:¬k=16:=by omega
 have n17:¬k=17:=by omega
 have n18:¬k=18:=by omega
 have n19:¬k=19:=by omega
 have n20:¬k=20:=by omega
 have n21:¬k=21:=by omega
 have n22:¬k=22:=by omega
 simp only[zR,n1,n2,n3,n4,n5,n6,n7,n8,n9,n10,n11,n12,n13,n14,n15,n16,n17,n18,n19,n20,n21,n22,if_false]
theorem Gc (k:Int) (qa qb m:List UInt8) (h:¬(1<=k/\k<=22)):X9 k qa qb m = []:=by
 have n1:¬k=1:=by omega
 have n2:¬k=2:=by omega
 have n3:¬k=3:=by omega
 have n4:¬k=4:=by omega
 have n5:¬k=5:=by omega
 have n6:¬k=6:=by omega
 have n7:¬k=7:=by omega
 have n8:¬k=8:=by omega
 have n9:¬k=9:=by omega
 have n10:¬k=10:=by omega
 have n11:¬k=11:=by omega
 have n12:¬k=12:=by omega
 have n13:¬k=13:=by omega
 have n14:¬k=14:=by omega
 have n15:¬k=15:=by omega
 have n16:¬k=16:=by omega
 have n17:¬k=17:=by omega
 have n18:¬k=18:=by omega
 have n19:¬k=19:=by omega
 have n20:¬k=20:=by omega
 have n21:¬k=21:=by omega
 have n22:¬k=22:=by omega
 simp only[X9,n1,n2,n3,n4,n5,n6,n7,n8,n9,n10,n11,n12,n13,n14,n15,n16,n17,n18,n19,n20,n21,n22,if_false]
theorem NF (k:Int):zR k = []∨((∀ x∈JG 32 (zR k),x≠[]/\x.length<=100)/\(zR k).length<=100):=by
 by_cases h:1<=k/\k<=22
 ·refine .inr ?_
  have hc:k=1∨k=2∨k=3∨k=4∨k=5∨k=6∨k=7∨k=8∨k=9∨k=10∨k=11∨k=12∨k=13∨k=14∨k=15∨k=16∨k=17∨k=18∨k=19∨k=20∨k=21∨k=22:=by omega
  clear h
  rcases hc with rfl | rfl | rfl | rfl | rfl | rfl | rfl | rfl | rfl | rfl | rfl | rfl | rfl | rfl | rfl | rfl | rfl | rfl | rfl | rfl | rfl | rfl<;>exact ⟨by decide +kernel,by decide +kernel⟩
 ·exact .inl (Qk k h)
theorem zhv (k:Int) (qa qb m:List UInt8) (h:1<=k/\k<=22):Lib.join ((JG 32 (zR k)).map fun w=>zf w qa qb m) [32]=X9 k qa qb m:=by
 have hc:k=1∨k=2∨k=3∨k=4∨k=5∨k=6∨k=7∨k=8∨k=9∨k=10∨k=11∨k=12∨k=13∨k=14∨k=15∨k=16∨k=17∨k=18∨k=19∨k=20∨k=21∨k=22:=by omega
 rcases hc with rfl | rfl | rfl | rfl | rfl | rfl | rfl | rfl | rfl | rfl | rfl | rfl | rfl | rfl | rfl | rfl | rfl | rfl | rfl | rfl | rfl | rfl
 ·have e1:JG 32 (zR 1) = [[99,97,110,110,111,116],[99,114,101,97,116,101],[100,105,114,101,99,116,111,114,121],[65,58],[69]]:=by decide +kernel
  have s0:zf [99,97,110,110,111,116] qa qb m = [99,97,110,110,111,116]:=by simp only[zf,show zn [99,97,110,110,111,116] = [99,97,110,110,111,116] by decide +kernel];rfl
  have s1:zf [99,114,101,97,116,101] qa qb m = [99,114,101,97,116,101]:=by simp only[zf,show zn [99,114,101,97,116,101] = [99,114,101,97,116,101] by decide +kernel];rfl
  have s2:zf [100,105,114,101,99,116,111,114,121] qa qb m = [100,105,114,101,99,116,111,114,121]:=by simp only[zf,show zn [100,105,114,101,99,116,111,114,121] = [100,105,114,101,99,116,111,114,121] by decide +kernel];rfl
  have s3:zf [65,58] qa qb m=qa++[58]:=by simp only[zf,show zn [65,58] = [65] by decide +kernel];rfl
  have s4:zf [69] qa qb m=m++[]:=by simp only[zf,show zn [69] = [69] by decide +kernel];rfl
  rw[e1]
  simp only[List.map_cons,List.map_nil,s0,s1,s2,s3,s4]
  simp[Lib.join,List.intercalate,List.intersperse,X9]
 ·have e1:JG 32 (zR 2) = [[99,97,110,110,111,116],[114,101,109,111,118,101],[65,58],[69]]:=by decide +kernel
  have s0:zf [99,97,110,110,111,116] qa qb m = [99,97,110,110,111,116]:=by simp only[zf,show zn [99,97,110,110,111,116] = [99,97,110,110,111,116] by decide +kernel];rfl
  have s1:zf [114,101,109,111,118,101] qa qb m = [114,101,109,111,118,101]:=by simp only[zf,show zn [114,101,109,111,118,101] = [114,101,109,111,118,101] by decide +kernel];rfl
  have s2:zf [65,58] qa qb m=qa++[58]:=by simp only[zf,show zn [65,58] = [65] by decide +kernel];rfl
  have s3:zf [69] qa qb m=m++[]:=by simp only[zf,show zn [69] = [69] by decide +kernel];rfl
  rw[e1]
  simp only[List.map_cons,List.map_nil,s0,s1,s2,s3]
  simp[Lib.join,List.intercalate,List.intersperse,X9]
 ·have e1:JG 32 (zR 3) = [[114,101,102,117,115,105,110,103],[116,111],[114,101,109,111,118,101],[34,46,34],[111,114],[34,46,46,34],[100,105,114,101,99,116,111,114,121,58],[115,107,105,112,112,105,110,103],[65]]:=by decide +kernel
  have s0:zf [114,101,102,117,115,105,110,103] qa qb m = [114,101,102,117,115,105,110,103]:=by simp only[zf,show zn [114,101,102,117,115,105,110,103] = [114,101,102,117,115,105,110,103] by decide +kernel];rfl
  have s1:zf [116,111] qa qb m = [116,111]:=by simp only[zf,show zn [116,111] = [116,111] by decide +kernel];rfl
  have s2:zf [114,101,109,111,118,101] qa qb m = [114,101,109,111,118,101]:=by simp only[zf,show zn [114,101,109,111,118,101] = [114,101,109,111,118,101] by decide +kernel];rfl
  have s3:zf [34,46,34] qa qb m = [34,46,34]:=by simp only[zf,show zn [34,46,34] = [34,46,34] by decide +kernel];rfl
  have s4:zf [111,114] qa qb m = [111,114]:=by simp only[zf,show zn [111,114] = [111,114] by decide +kernel];rfl
  have s5:zf [34,46,46,34] qa qb m = [34,46,46,34]:=by simp only[zf,show zn [34,46,46,34] = [34,46,46,34] by decide +kernel];rfl
  have s6:zf [100,105,114,101,99,116,111,114,121,58] qa qb m = [100,105,114,101,99,116,111,114,121,58]:=by simp only[zf,show zn [100,105,114,101,99,116,111,114,121,58] = [100,105,114,101,99,116,111,114,121] by decide +kernel];rfl
  have s7:zf [115,107,105,112,112,105,110,103] qa qb m = [115,107,105,112,112,105,110,103]:=by simp only[zf,show zn [115,107,105,112,112,105,110,103] = [115,107,105,112,112,105,110,103] by decide +kernel];rfl
  have s8:zf [65] qa qb m=qa++[]:=by simp only[zf,show zn [65] = [65] by decide +kernel];rfl
  rw[e1]
  simp only[List.map_cons,List.map_nil,s0,s1,s2,s3,s4,s5,s6,s7,s8]
  simp[Lib.join,List.intercalate,List.intersperse,X9]
 ·have e1:JG 32 (zR 4) = [[105,116],[105,115],[100,97,110,103,101,114,111,117,115],[116,111],[111,112,101,114,97,116,101],[114,101,99,117,114,115,105,118,101,108,121],[111,110],[65]]:=by decide +kernel
  have s0:zf [105,116] qa qb m = [105,116]:=by simp only[zf,show zn [105,116] = [105,116] by decide +kernel];rfl
  have s1:zf [105,115] qa qb m = [105,115]:=by simp only[zf,show zn [105,115] = [105,115] by decide +kernel];rfl
  have s2:zf [100,97,110,103,101,114,111,117,115] qa qb m = [100,97,110,103,101,114,111,117,115]:=by simp only[zf,show zn [100,97,110,103,101,114,111,117,115] = [100,97,110,103,101,114,111,117,115] by decide +kernel];rfl
  have s3:zf [116,111] qa qb m = [116,111]:=by simp only[zf,show zn [116,111] = [116,111] by decide +kernel];rfl
  have s4:zf [111,112,101,114,97,116,101] qa qb m = [111,112,101,114,97,116,101]:=by simp only[zf,show zn [111,112,101,114,97,116,101] = [111,112,101,114,97,116,101] by decide +kernel];rfl
  have s5:zf [114,101,99,117,114,115,105,118,101,108,121] qa qb m = [114,101,99,117,114,115,105,118,101,108,121]:=by simp only[zf,show zn [114,101,99,117,114,115,105,118,101,108,121] = [114,101,99,117,114,115,105,118,101,108,121] by decide +kernel];rfl
  have s6:zf [111,110] qa qb m = [111,110]:=by simp only[zf,show zn [111,110] = [111,110] by decide +kernel];rfl
  have s7:zf [65] qa qb m=qa++[]:=by simp only[zf,show zn [65] = [65] by decide +kernel];rfl
  rw[e1]
  simp only[List.map_cons,List.map_nil,s0,s1,s2,s3,s4,s5,s6,s7]
  simp[Lib.join,List.intercalate,List.intersperse,X9]
 ·have e1:JG 32 (zR 5) = [[102,97,105,108,101,100],[116,111],[97,99,99,101,115,115],[65,58],[69]]:=by decide +kernel
  have s0:zf [102,97,105,108,101,100] qa qb m = [102,97,105,108,101,100]:=by simp only[zf,show zn [102,97,105,108,101,100] = [102,97,105,108,101,100] by decide +kernel];rfl
  have s1:zf [116,111] qa qb m = [116,111]:=by simp only[zf,show zn [116,111] = [116,111] by decide +kernel];rfl
  have s2:zf [97,99,99,101,115,115] qa qb m = [97,99,99,101,115,115]:=by simp only[zf,show zn [97,99,99,101,115,115] = [97,99,99,101,115,115] by decide +kernel];rfl
  have s3:zf [65,58] qa qb m=qa++[58]:=by simp only[zf,show zn [65,58] = [65] by decide +kernel];rfl
  have s4:zf [69] qa qb m=m++[]:=by simp only[zf,show zn [69] = [69] by decide +kernel];rfl
  rw[e1]
  simp only[List.map_cons,List.map_nil,s0,s1,s2,s3,s4]
  simp[Lib.join,List.intercalate,List.intersperse,X9]
 ·have e1:JG 32 (zR 6) = [[65,58],[104,97,114,100],[108,105,110,107],[110,111,116],[97,108,108,111,119,101,100],[102,111,114],[100,105,114,101,99,116,111,114,121]]:=by decide +kernel
  have s0:zf [65,58] qa qb m=qa++[58]:=by simp only[zf,show zn [65,58] = [65] by decide +kernel];rfl
  have s1:zf [104,97,114,100] qa qb m = [104,97,114,100]:=by simp only[zf,show zn [104,97,114,100] = [104,97,114,100] by decide +kernel];rfl
  have s2:zf [108,105,110,107] qa qb m = [108,105,110,107]:=by simp only[zf,show zn [108,105,110,107] = [108,105,110,107] by decide +kernel];rfl
  have s3:zf [110,111,116] qa qb m = [110,111,116]:=by simp only[zf,show zn [110,111,116] = [110,111,116] by decide +kernel];rfl
  have s4:zf [97,108,108,111,119,101,100] qa qb m = [97,108,108,111,119,101,100]:=by simp only[zf,show zn [97,108,108,111,119,101,100] = [97,108,108,111,119,101,100] by decide +kernel];rfl
  have s5:zf [102,111,114] qa qb m = [102,111,114]:=by simp only[zf,show zn [102,111,114] = [102,111,114] by decide +kernel];rfl
  have s6:zf [100,105,114,101,99,116,111,114,121] qa qb m = [100,105,114,101,99,116,111,114,121]:=by simp only[zf,show zn [100,105,114,101,99,116,111,114,121] = [100,105,114,101,99,116,111,114,121] by decide +kernel];rfl
  rw[e1]
  simp only[List.map_cons,List.map_nil,s0,s1,s2,s3,s4,s5,s6]
  simp[Lib.join,List.intercalate,List.intersperse,X9]
 ·have e1:JG 32 (zR 7) = [[102,97,105,108,101,100],[116,111],[99,114,101,97,116,101],[104,97,114,100],[108,105,110,107],[66,58],[69]]:=by decide +kernel
  have s0:zf [102,97,105,108,101,100] qa qb m = [102,97,105,108,101,100]:=by simp only[zf,show zn [102,97,105,108,101,100] = [102,97,105,108,101,100] by decide +kernel];rfl
  have s1:zf [116,111] qa qb m = [116,111]:=by simp only[zf,show zn [116,111] = [116,111] by decide +kernel];rfl
  have s2:zf [99,114,101,97,116,101] qa qb m = [99,114,101,97,116,101]:=by simp only[zf,show zn [99,114,101,97,116,101] = [99,114,101,97,116,101] by decide +kernel];rfl
  have s3:zf [104,97,114,100] qa qb m = [104,97,114,100]:=by simp only[zf,show zn [104,97,114,100] = [104,97,114,100] by decide +kernel];rfl
  have s4:zf [108,105,110,107] qa qb m = [108,105,110,107]:=by simp only[zf,show zn [108,105,110,107] = [108,105,110,107] by decide +kernel];rfl
  have s5:zf [66,58] qa qb m=qb++[58]:=by simp only[zf,show zn [66,58] = [66] by decide +kernel];rfl
  have s6:zf [69] qa qb m=m++[]:=by simp only[zf,show zn [69] = [69] by decide +kernel];rfl
  rw[e1]
  simp only[List.map_cons,List.map_nil,s0,s1,s2,s3,s4,s5,s6]
  simp[Lib.join,List.intercalate,List.intersperse,X9]
 ·have e1:JG 32 (zR 8) = [[102,97,105,108,101,100],[116,111],[99,114,101,97,116,101],[115,121,109,98,111,108,105,99],[108,105,110,107],[66,58],[69]]:=by decide +kernel
  have s0:zf [102,97,105,108,101,100] qa qb m = [102,97,105,108,101,100]:=by simp only[zf,show zn [102,97,105,108,101,100] = [102,97,105,108,101,100] by decide +kernel];rfl
  have s1:zf [116,111] qa qb m = [116,111]:=by simp only[zf,show zn [116,111] = [116,111] by decide +kernel];rfl
  have s2:zf [99,114,101,97,116,101] qa qb m = [99,114,101,97,116,101]:=by simp only[zf,show zn [99,114,101,97,116,101] = [99,114,101,97,116,101] by decide +kernel];rfl
  have s3:zf [115,121,109,98,111,108,105,99] qa qb m = [115,121,109,98,111,108,105,99]:=by simp only[zf,show zn [115,121,109,98,111,108,105,99] = [115,121,109,98,111,108,105,99] by decide +kernel];rfl
  have s4:zf [108,105,110,107] qa qb m = [108,105,110,107]:=by simp only[zf,show zn [108,105,110,107] = [108,105,110,107] by decide +kernel];rfl
  have s5:zf [66,58] qa qb m=qb++[58]:=by simp only[zf,show zn [66,58] = [66] by decide +kernel];rfl
  have s6:zf [69] qa qb m=m++[]:=by simp only[zf,show zn [69] = [69] by decide +kernel];rfl
  rw[e1]
  simp only[List.map_cons,List.map_nil,s0,s1,s2,s3,s4,s5,s6]
  simp[Lib.join,List.intercalate,List.intersperse,X9]
 ·have e1:JG 32 (zR 9) = [[65],[97,110,100],[66],[97,114,101],[116,104,101],[115,97,109,101],[102,105,108,101]]:=by decide +kernel
  have s0:zf [65] qa qb m=qa++[]:=by simp only[zf,show zn [65] = [65] by decide +kernel];rfl
  have s1:zf [97,110,100] qa qb m = [97,110,100]:=by simp only[zf,show zn [97,110,100] = [97,110,100] by decide +kernel];rfl
  have s2:zf [66] qa qb m=qb++[]:=by simp only[zf,show zn [66] = [66] by decide +kernel];rfl
  have s3:zf [97,114,101] qa qb m = [97,114,101]:=by simp only[zf,show zn [97,114,101] = [97,114,101] by decide +kernel];rfl
  have s4:zf [116,104,101] qa qb m = [116,104,101]:=by simp only[zf,show zn [116,104,101] = [116,104,101] by decide +kernel];rfl
  have s5:zf [115,97,109,101] qa qb m = [115,97,109,101]:=by simp only[zf,show zn [115,97,109,101] = [115,97,109,101] by decide +kernel];rfl
  have s6:zf [102,105,108,101] qa qb m = [102,105,108,101]:=by simp only[zf,show zn [102,105,108,101] = [102,105,108,101] by decide +kernel];rfl
  rw[e1]
  simp only[List.map_cons,List.map_nil,s0,s1,s2,s3,s4,s5,s6]
  simp[Lib.join,List.intercalate,List.intersperse,X9]
 ·have e1:JG 32 (zR 10) = [[116,97,114,103,101,116],[65],[105,115],[110,111,116],[97],[100,105,114,101,99,116,111,114,121]]:=by decide +kernel
  have s0:zf [116,97,114,103,101,116] qa qb m = [116,97,114,103,101,116]:=by simp only[zf,show zn [116,97,114,103,101,116] = [116,97,114,103,101,116] by decide +kernel];rfl
  have s1:zf [65] qa qb m=qa++[]:=by simp only[zf,show zn [65] = [65] by decide +kernel];rfl
  have s2:zf [105,115] qa qb m = [105,115]:=by simp only[zf,show zn [105,115] = [105,115] by decide +kernel];rfl
  have s3:zf [110,111,116] qa qb m = [110,111,116]:=by simp only[zf,show zn [110,111,116] = [110,111,116] by decide +kernel];rfl
  have s4:zf [97] qa qb m = [97]:=by simp only[zf,show zn [97] = [97] by decide +kernel];rfl
  have s5:zf [100,105,114,101,99,116,111,114,121] qa qb m = [100,105,114,101,99,116,111,114,121]:=by simp only[zf,show zn [100,105,114,101,99,116,111,114,121] = [100,105,114,101,99,116,111,114,121] by decide +kernel];rfl
  rw[e1]
  simp only[List.map_cons,List.map_nil,s0,s1,s2,s3,s4,s5]
  simp[Lib.join,List.intercalate,List.intersperse,X9]
 ·have e1:JG 32 (zR 11) = [[99,97,110,110,111,116],[115,116,97,116],[65,58],[69]]:=by decide +kernel
  have s0:zf [99,97,110,110,111,116] qa qb m = [99,97,110,110,111,116]:=by simp only[zf,show zn [99,97,110,110,111,116] = [99,97,110,110,111,116] by decide +kernel];rfl
  have s1:zf [115,116,97,116] qa qb m = [115,116,97,116]:=by simp only[zf,show zn [115,116,97,116] = [115,116,97,116] by decide +kernel];rfl
  have s2:zf [65,58] qa qb m=qa++[58]:=by simp only[zf,show zn [65,58] = [65] by decide +kernel];rfl
  have s3:zf [69] qa qb m=m++[]:=by simp only[zf,show zn [69] = [69] by decide +kernel];rfl
  rw[e1]
  simp only[List.map_cons,List.map_nil,s0,s1,s2,s3]
  simp[Lib.join,List.intercalate,List.intersperse,X9]
 ·have e1:JG 32 (zR 12) = [[99,97,110,110,111,116],[111,118,101,114,119,114,105,116,101],[110,111,110,45,100,105,114,101,99,116,111,114,121],[66],[119,105,116,104],[100,105,114,101,99,116,111,114,121],[65]]:=by decide +kernel
  have s0:zf [99,97,110,110,111,116] qa qb m = [99,97,110,110,111,116]:=by simp only[zf,show zn [99,97,110,110,111,116] = [99,97,110,110,111,116] by decide +kernel];rfl
  have s1:zf [111,118,101,114,119,114,105,116,101] qa qb m = [111,118,101,114,119,114,105,116,101]:=by simp only[zf,show zn [111,118,101,114,119,114,105,116,101] = [111,118,101,114,119,114,105,116,101] by decide +kernel];rfl
  have s2:zf [110,111,110,45,100,105,114,101,99,116,111,114,121] qa qb m = [110,111,110,45,100,105,114,101,99,116,111,114,121]:=by simp only[zf,show zn [110,111,110,45,100,105,114,101,99,116,111,114,121] = [110,111,110,45,100,105,114,101,99,116,111,114,121] by decide +kernel];rfl
  have s3:zf [66] qa qb m=qb++[]:=by simp only[zf,show zn [66] = [66] by decide +kernel];rfl
  have s4:zf [119,105,116,104] qa qb m = [119,105,116,104]:=by simp only[zf,show zn [119,105,116,104] = [119,105,116,104] by decide +kernel];rfl
  have s5:zf [100,105,114,101,99,116,111,114,121] qa qb m = [100,105,114,101,99,116,111,114,121]:=by simp only[zf,show zn [100,105,114,101,99,116,111,114,121] = [100,105,114,101,99,116,111,114,121] by decide +kernel];rfl
  have s6:zf [65] qa qb m=qa++[]:=by simp only[zf,show zn [65] = [65] by decide +kernel];rfl
  rw[e1]
  simp only[List.map_cons,List.map_nil,s0,s1,s2,s3,s4,s5,s6]
  simp[Lib.join,List.intercalate,List.intersperse,X9]
 ·have e1:JG 32 (zR 13) = [[99,97,110,110,111,116],[111,118,101,114,119,114,105,116,101],[100,105,114,101,99,116,111,114,121],[66],[119,105,116,104],[110,111,110,45,100,105,114,101,99,116,111,114,121],[65]]:=by decide +kernel
  have s0:zf [99,97,110,110,111,116] qa qb m = [99,97,110,110,111,116]:=by simp only[zf,show zn [99,97,110,110,111,116] = [99,97,110,110,111,116] by decide +kernel];rfl
  have s1:zf [111,118,101,114,119,114,105,116,101] qa qb m = [111,118,101,114,119,114,105,116,101]:=by simp only[zf,show zn [111,118,101,114,119,114,105,116,101] = [111,118,101,114,119,114,105,116,101] by decide +kernel];rfl
  have s2:zf [100,105,114,101,99,116,111,114,121] qa qb m = [100,105,114,101,99,116,111,114,121]:=by simp only[zf,show zn [100,105,114,101,99,116,111,114,121] = [100,105,114,101,99,116,111,114,121] by decide +kernel];rfl
  have s3:zf [66] qa qb m=qb++[]:=by simp only[zf,show zn [66] = [66] by decide +kernel];rfl
  have s4:zf [119,105,116,104] qa qb m = [119,105,116,104]:=by simp only[zf,show zn [119,105,116,104] = [119,105,116,104] by decide +kernel];rfl
  have s5:zf [110,111,110,45,100,105,114,101,99,116,111,114,121] qa qb m = [110,111,110,45,100,105,114,101,99,116,111,114,121]:=by simp only[zf,show zn [110,111,110,45,100,105,114,101,99,116,111,114,121] = [110,111,110,45,100,105,114,101,99,116,111,114,121] by decide +kernel];rfl
  have s6:zf [65] qa qb m=qa++[]:=by simp only[zf,show zn [65] = [65] by decide +kernel];rfl
  rw[e1]
  simp only[List.map_cons,List.map_nil,s0,s1,s2,s3,s4,s5,s6]
  simp[Lib.join,List.intercalate,List.intersperse,X9]
 ·have e1:JG 32 (zR 14) = [[99,97,110,110,111,116],[109,111,118,101],[65],[116,111],[97],[115,117,98,100,105,114,101,99,116,111,114,121],[111,102],[105,116,115,101,108,102,44],[66]]:=by decide +kernel
  have s0:zf [99,97,110,110,111,116] qa qb m = [99,97,110,110,111,116]:=by simp only[zf,show zn [99,97,110,110,111,116] = [99,97,110,110,111,116] by decide +kernel];rfl
  have s1:zf [109,111,118,101] qa qb m = [109,111,118,101]:=by simp only[zf,show zn [109,111,118,101] = [109,111,118,101] by decide +kernel];rfl
  have s2:zf [65] qa qb m=qa++[]:=by simp only[zf,show zn [65] = [65] by decide +kernel];rfl
  have s3:zf [116,111] qa qb m = [116,111]:=by simp only[zf,show zn [116,111] = [116,111] by decide +kernel];rfl
  have s4:zf [97] qa qb m = [97]:=by simp only[zf,show zn [97] = [97] by decide +kernel];rfl
  have s5:zf [115,117,98,100,105,114,101,99,116,111,114,121] qa qb m = [115,117,98,100,105,114,101,99,116,111,114,121]:=by simp only[zf,show zn [115,117,98,100,105,114,101,99,116,111,114,121] = [115,117,98,100,105,114,101,99,116,111,114,121] by decide +kernel];rfl
  have s6:zf [111,102] qa qb m = [111,102]:=by simp only[zf,show zn [111,102] = [111,102] by decide +kernel];rfl
  have s7:zf [105,116,115,101,108,102,44] qa qb m = [105,116,115,101,108,102,44]:=by simp only[zf,show zn [105,116,115,101,108,102,44] = [105,116,115,101,108,102] by decide +kernel];rfl
  have s8:zf [66] qa qb m=qb++[]:=by simp only[zf,show zn [66] = [66] by decide +kernel];rfl
  rw[e1]
  simp only[List.map_cons,List.map_nil,s0,s1,s2,s3,s4,s5,s6,s7,s8]
  simp[Lib.join,List.intercalate,List.intersperse,X9]
 ·have e1:JG 32 (zR 15) = [[99,97,110,110,111,116],[109,111,118,101],[65],[116,111],[66,58],[69]]:=by decide +kernel
  have s0:zf [99,97,110,110,111,116] qa qb m = [99,97,110,110,111,116]:=by simp only[zf,show zn [99,97,110,110,111,116] = [99,97,110,110,111,116] by decide +kernel];rfl
  have s1:zf [109,111,118,101] qa qb m = [109,111,118,101]:=by simp only[zf,show zn [109,111,118,101] = [109,111,118,101] by decide +kernel];rfl
  have s2:zf [65] qa qb m=qa++[]:=by simp only[zf,show zn [65] = [65] by decide +kernel];rfl
  have s3:zf [116,111] qa qb m = [116,111]:=by simp only[zf,show zn [116,111] = [116,111] by decide +kernel];rfl
  have s4:zf [66,58] qa qb m=qb++[58]:=by simp only[zf,show zn [66,58] = [66] by decide +kernel];rfl
  have s5:zf [69] qa qb m=m++[]:=by simp only[zf,show zn [69] = [69] by decide +kernel];rfl
  rw[e1]
  simp only[List.map_cons,List.map_nil,s0,s1,s2,s3,s4,s5]
  simp[Lib.join,List.intercalate,List.intersperse,X9]
 ·have e1:JG 32 (zR 16) = [[45,114],[110,111,116],[115,112,101,99,105,102,105,101,100,59],[111,109,105,116,116,105,110,103],[100,105,114,101,99,116,111,114,121],[65]]:=by decide +kernel
  have s0:zf [45,114] qa qb m = [45,114]:=by simp only[zf,show zn [45,114] = [45,114] by decide +kernel];rfl
  have s1:zf [110,111,116] qa qb m = [110,111,116]:=by simp only[zf,show zn [110,111,116] = [110,111,116] by decide +kernel];rfl
  have s2:zf [115,112,101,99,105,102,105,101,100,59] qa qb m = [115,112,101,99,105,102,105,101,100,59]:=by simp only[zf,show zn [115,112,101,99,105,102,105,101,100,59] = [115,112,101,99,105,102,105,101,100,59] by decide +kernel];rfl
  have s3:zf [111,109,105,116,116,105,110,103] qa qb m = [111,109,105,116,116,105,110,103]:=by simp only[zf,show zn [111,109,105,116,116,105,110,103] = [111,109,105,116,116,105,110,103] by decide +kernel];rfl
  have s4:zf [100,105,114,101,99,116,111,114,121] qa qb m = [100,105,114,101,99,116,111,114,121]:=by simp only[zf,show zn [100,105,114,101,99,116,111,114,121] = [100,105,114,101,99,116,111,114,121] by decide +kernel];rfl
  have s5:zf [65] qa qb m=qa++[]:=by simp only[zf,show zn [65] = [65] by decide +kernel];rfl
  rw[e1]
  simp only[List.map_cons,List.map_nil,s0,s1,s2,s3,s4,s5]
  simp[Lib.join,List.intercalate,List.intersperse,X9]
 ·have e1:JG 32 (zR 17) = [[99,97,110,110,111,116],[99,114,101,97,116,101],[114,101,103,117,108,97,114],[102,105,108,101],[66,58],[69]]:=by decide +kernel
  have s0:zf [99,97,110,110,111,116] qa qb m = [99,97,110,110,111,116]:=by simp only[zf,show zn [99,97,110,110,111,116] = [99,97,110,110,111,116] by decide +kernel];rfl
  have s1:zf [99,114,101,97,116,101] qa qb m = [99,114,101,97,116,101]:=by simp only[zf,show zn [99,114,101,97,116,101] = [99,114,101,97,116,101] by decide +kernel];rfl
  have s2:zf [114,101,103,117,108,97,114] qa qb m = [114,101,103,117,108,97,114]:=by simp only[zf,show zn [114,101,103,117,108,97,114] = [114,101,103,117,108,97,114] by decide +kernel];rfl
  have s3:zf [102,105,108,101] qa qb m = [102,105,108,101]:=by simp only[zf,show zn [102,105,108,101] = [102,105,108,101] by decide +kernel];rfl
  have s4:zf [66,58] qa qb m=qb++[58]:=by simp only[zf,show zn [66,58] = [66] by decide +kernel];rfl
  have s5:zf [69] qa qb m=m++[]:=by simp only[zf,show zn [69] = [69] by decide +kernel];rfl
  rw[e1]
  simp only[List.map_cons,List.map_nil,s0,s1,s2,s3,s4,s5]
  simp[Lib.join,List.intercalate,List.intersperse,X9]
 ·have e1:JG 32 (zR 18) = [[99,97,110,110,111,116],[99,114,101,97,116,101],[115,121,109,98,111,108,105,99],[108,105,110,107],[66,58],[69]]:=by decide +kernel
  have s0:zf [99,97,110,110,111,116] qa qb m = [99,97,110,110,111,116]:=by simp only[zf,show zn [99,97,110,110,111,116] = [99,97,110,110,111,116] by decide +kernel];rfl
  have s1:zf [99,114,101,97,116,101] qa qb m = [99,114,101,97,116,101]:=by simp only[zf,show zn [99,114,101,97,116,101] = [99,114,101,97,116,101] by decide +kernel];rfl
  have s2:zf [115,121,109,98,111,108,105,99] qa qb m = [115,121,109,98,111,108,105,99]:=by simp only[zf,show zn [115,121,109,98,111,108,105,99] = [115,121,109,98,111,108,105,99] by decide +kernel];rfl
  have s3:zf [108,105,110,107] qa qb m = [108,105,110,107]:=by simp only[zf,show zn [108,105,110,107] = [108,105,110,107] by decide +kernel];rfl
  have s4:zf [66,58] qa qb m=qb++[58]:=by simp only[zf,show zn [66,58] = [66] by decide +kernel];rfl
  have s5:zf [69] qa qb m=m++[]:=by simp only[zf,show zn [69] = [69] by decide +kernel];rfl
  rw[e1]
  simp only[List.map_cons,List.map_nil,s0,s1,s2,s3,s4,s5]
  simp[Lib.join,List.intercalate,List.intersperse,X9]
 ·have e1:JG 32 (zR 19) = [[99,97,110,110,111,116],[99,111,112,121],[97],[100,105,114,101,99,116,111,114,121,44],[65,44],[105,110,116,111],[105,116,115,101,108,102,44],[66]]:=by decide +kernel
  have s0:zf [99,97,110,110,111,116] qa qb m = [99,97,110,110,111,116]:=by simp only[zf,show zn [99,97,110,110,111,116] = [99,97,110,110,111,116] by decide +kernel];rfl
  have s1:zf [99,111,112,121] qa qb m = [99,111,112,121]:=by simp only[zf,show zn [99,111,112,121] = [99,111,112,121] by decide +kernel];rfl
  have s2:zf [97] qa qb m = [97]:=by simp only[zf,show zn [97] = [97] by decide +kernel];rfl
  have s3:zf [100,105,114,101,99,116,111,114,121,44] qa qb m = [100,105,114,101,99,116,111,114,121,44]:=by simp only[zf,show zn [100,105,114,101,99,116,111,114,121,44] = [100,105,114,101,99,116,111,114,121] by decide +kernel];rfl
  have s4:zf [65,44] qa qb m=qa++[44]:=by simp only[zf,show zn [65,44] = [65] by decide +kernel];rfl
  have s5:zf [105,110,116,111] qa qb m = [105,110,116,111]:=by simp only[zf,show zn [105,110,116,111] = [105,110,116,111] by decide +kernel];rfl
  have s6:zf [105,116,115,101,108,102,44] qa qb m = [105,116,115,101,108,102,44]:=by simp only[zf,show zn [105,116,115,101,108,102,44] = [105,116,115,101,108,102] by decide +kernel];rfl
  have s7:zf [66] qa qb m=qb++[]:=by simp only[zf,show zn [66] = [66] by decide +kernel];rfl
  rw[e1]
  simp only[List.map_cons,List.map_nil,s0,s1,s2,s3,s4,s5,s6,s7]
  simp[Lib.join,List.intercalate,List.intersperse,X9]
 ·have e1:JG 32 (zR 20) = [[110,111,116],[119,114,105,116,105,110,103],[116,104,114,111,117,103,104],[100,97,110,103,108,105,110,103],[115,121,109,108,105,110,107],[66]]:=by decide +kernel
  have s0:zf [110,111,116] qa qb m = [110,111,116]:=by simp only[zf,show zn [110,111,116] = [110,111,116] by decide +kernel];rfl
  have s1:zf [119,114,105,116,105,110,103] qa qb m = [119,114,105,116,105,110,103]:=by simp only[zf,show zn [119,114,105,116,105,110,103] = [119,114,105,116,105,110,103] by decide +kernel];rfl
  have s2:zf [116,104,114,111,117,103,104] qa qb m = [116,104,114,111,117,103,104]:=by simp only[zf,show zn [116,104,114,111,117,103,104] = [116,104,114,111,117,103,104] by decide +kernel];rfl
  have s3:zf [100,97,110,103,108,105,110,103] qa qb m = [100,97,110,103,108,105,110,103]:=by simp only[zf,show zn [100,97,110,103,108,105,110,103] = [100,97,110,103,108,105,110,103] by decide +kernel];rfl
  have s4:zf [115,121,109,108,105,110,107] qa qb m = [115,121,109,108,105,110,107]:=by simp only[zf,show zn [115,121,109,108,105,110,107] = [115,121,109,108,105,110,107] by decide +kernel];rfl
  have s5:zf [66] qa qb m=qb++[]:=by simp only[zf,show zn [66] = [66] by decide +kernel];rfl
  rw[e1]
  simp only[List.map_cons,List.map_nil,s0,s1,s2,s3,s4,s5]
  simp[Lib.join,List.intercalate,List.intersperse,X9]
 ·have e1:JG 32 (zR 21) = [[101,114,114,111,114],[119,114,105,116,105,110,103],[66,58],[69]]:=by decide +kernel
  have s0:zf [101,114,114,111,114] qa qb m = [101,114,114,111,114]:=by simp only[zf,show zn [101,114,114,111,114] = [101,114,114,111,114] by decide +kernel];rfl
  have s1:zf [119,114,105,116,105,110,103] qa qb m = [119,114,105,116,105,110,103]:=by simp only[zf,show zn [119,114,105,116,105,110,103] = [119,114,105,116,105,110,103] by decide +kernel];rfl
  have s2:zf [66,58] qa qb m=qb++[58]:=by simp only[zf,show zn [66,58] = [66] by decide +kernel];rfl
  have s3:zf [69] qa qb m=m++[]:=by simp only[zf,show zn [69] = [69] by decide +kernel];rfl
  rw[e1]
  simp only[List.map_cons,List.map_nil,s0,s1,s2,s3]
  simp[Lib.join,List.intercalate,List.intersperse,X9]
 ·have e1:JG 32 (zR 22) = [[99,97,110,110,111,116],[99,114,101,97,116,101],[100,105,114,101,99,116,111,114,121],[66,58],[69]]:=by decide +kernel
  have s0:zf [99,97,110,110,111,116] qa qb m = [99,97,110,110,111,116]:=by simp only[zf,show zn [99,97,110,110,111,116] = [99,97,110,110,111,116] by decide +kernel];rfl
  have s1:zf [99,114,101,97,116,101] qa qb m = [99,114,101,97,116,101]:=by simp only[zf,show zn [99,114,101,97,116,101] = [99,114,101,97,116,101] by decide +kernel];rfl
  have s2:zf [100,105,114,101,99,116,111,114,121] qa qb m = [100,105,114,101,99,116,111,114,121]:=by simp only[zf,show zn [100,105,114,101,99,116,111,114,121] = [100,105,114,101,99,116,111,114,121] by decide +kernel];rfl
  have s3:zf [66,58] qa qb m=qb++[58]:=by simp only[zf,show zn [66,58] = [66] by decide +kernel];rfl
  have s4:zf [69] qa qb m=m++[]:=by simp only[zf,show zn [69] = [69] by decide +kernel];rfl
  rw[e1]
  simp only[List.map_cons,List.map_nil,s0,s1,s2,s3,s4]
  simp[Lib.join,List.intercalate,List.intersperse,X9]
theorem No (f:List UInt8->List UInt8) (n:Nat):∀ xs:List (List UInt8),(∀ x∈xs,(f x).length<=n)->((xs.map f).map fun x=>x.length+1).sum<=xs.length*(n+1)
 | [],_=>by simp
 | x :: r,h=>by
  have ih:=No f n r fun y hy=>h y (List.mem_cons_of_mem _ hy)
  have:=h x List.mem_cons_self
  simp only[List.map_cons,List.sum_cons,List.length_cons,Nat.add_mul]
  omega
theorem u6 (xs:List (List UInt8)) (sep:List UInt8) (n:Nat) (hs:sep.length<=1) (h:(xs.map fun x=>x.length+1).sum<=n):(Lib.join xs sep).length<=n:=by
 have key:∀ xs:List (List UInt8),(Lib.join xs sep).length<=(xs.map fun x=>x.length+1).sum:=by
  intro xs
  match xs with
  | []=>simp[Lib.join]
  | [x]=>simp[Lib.join_one]
  | x :: y :: r =>
   have ih:∀ (zs:List (List UInt8)) (z:List UInt8),(Lib.join (z :: zs) sep).length<=((z :: zs).map fun x=>x.length+1).sum:=by
    intro zs
    induction zs with
    | nil=>intro z;simp[Lib.join_one]
    | cons u t iht =>
     intro z
     rw[j9]
     have:=iht u
     simp only[List.length_append,List.map_cons,List.sum_cons]at this ⊢
     omega
   exact ih (y :: r) x
 exact Nat.le_trans (key xs) h
def YI (k w:Int) (a b:List UInt8) (e:Int):List UInt8:=
 if X7 k = [] then [] else if zR w = [] then [] else X7 k++[58,32]++X9 w (qx a) (qx b) (V8 e)
theorem Ms (k:Int):(X7 k).length<=10:=by
 have key:∀ (c:Prop) [Decidable c] (x y:List UInt8),x.length<=10->y.length<=10->(if c then x else y).length<=10:=fun c _ x y hx hy=>by
  by_cases h:c
  ·rw[if_pos h];exact hx
  ·rw[if_neg h];exact hy
 unfold X7
 repeat' (first | decide | refine key _ _ _ (by decide) ?_)
theorem zgx (k w:Int) (a b:List UInt8) (e:Int) (ha:a.length<=1000) (hb:b.length<=1000):Fun Tryz.prog G2 60 [.sc (.int .i64 k),.sc (.int .i64 w),.str a,.str b,.sc (.int .i64 e)] (.str (YI k w a b e)) 0:=by
 have h1:=Nm k
 have h2:=zai w
 have hnl:=Ms k
 by_cases hn:X7 k = []
 ·rw[hn]at h1
  refine fon Tryz.func60 ?_;dsimp only[Tryz.f60]
  push_cast -dsimp
  refine cl (h1) ?_;push_cast -dsimp
  refine cl (h2) ?_;push_cast -dsimp
  exact ⟨[],rfl,rfl,by push_cast -dsimp [zb,za,CLe,ze]<;>simp[YI,hn]⟩
 by_cases hp:zR w = []
 ·rw[hp]at h2
  refine fon Tryz.func60 ?_;dsimp only[Tryz.f60]
  push_cast -dsimp
  refine cl (h1) ?_;push_cast -dsimp
  refine cl (h2) ?_;push_cast -dsimp [hn]
  exact ⟨[],rfl,rfl,by push_cast -dsimp [zb,za,CLe,ze]<;>simp[YI,hn,hp]⟩
 obtain ⟨hws,hpl⟩:(∀ x∈JG 32 (zR w),x≠[]/\x.length<=100)/\(zR w).length<=100:=(NF w).resolve_left hp
 have hin:1<=w/\w<=22:=Classical.byContradiction fun h=>hp (Qk w h)
 have hpw:=hp
 have hsay:=zhv w (qx a) (qx b) (V8 e) hin
 have hsl:=yi 32 (zR w)
 have hsum:=No (fun x=>zf x (qx a) (qx b) (V8 e)) 5100 (JG 32 (zR w)) fun x hx=>by
  have:=zeu x a b e ha hb
  have:=(hws x hx).2
  omega
 have hjl:=u6 ((JG 32 (zR w)).map fun x=>zf x (qx a) (qx b) (V8 e)) [32] 600000 (by decide) (by
  have:(JG 32 (zR w)).length*(5100+1)<=101*5101:=Nat.mul_le_mul_right _ (by omega)
  omega)
 have hit:=G8 32 (zR w) (by omega)
 generalize zR w=P at h2 hp hws hpl hsay hsl hsum hjl hit
 rw[hsay]at hjl
 refine fof (fun i=>if i=7 then [false,false,false,false,false,false,false,true,true] else []) Tryz.func60 ?_;dsimp only[Tryz.f60]
 push_cast -dsimp
 refine cl (h1) ?_;push_cast -dsimp
 refine cl (h2) ?_;push_cast -dsimp [hn,hp]
 refine yY [] [] ((HU 32 P).glob0) rfl (by simp) (by simp) (fun i hi=>by cases hi) (by push_cast -dsimp) rfl ?_
 push_cast -dsimp
 refine range (qv (JG 32 P)) (fun _=>false) 4 (fun j=>⟨[],[[.str a],[.str b],[.sc (.int .i64 e)],[.own 0 9 1 (qv (((JG 32 P).take j).map fun x=>zf x (qx a) (qx b) (V8 e)))]],1,0⟩) hit.glob0 (by push_cast -dsimp) (by push_cast -dsimp) (by push_cast -dsimp) (Nat.zero_le _) (by push_cast -dsimp) (fun it h=>?_) (fun j _=>rfl) ?_ (fun j it hj hsf=>?_) (fun hsf=>?_)
 ·obtain ⟨x,_,rfl⟩:=List.mem_map.1 h;rfl
 ·exact wks [.inr (9,1)]
 ·obtain ⟨x,hx,rfl⟩:=Ht hj
  have hjl2:j<(JG 32 P).length:=(List.getElem?_eq_some_iff.1 hx).1
  have hxw:=hws x (List.mem_of_getElem? hx)
  have hs1:=zgQ x a b e hxw.1 (by omega) ha hb
  push_cast -dsimp
  refine cl (hs1) ?_;push_cast -dsimp
  repeat refine an ?_
  refine JS.mk [.inl 0] rfl rfl (Nat.le_refl _) rfl (by push_cast -dsimp [zb,za,CLe,ze]) ?_
  push_cast -dsimp [zb,za,CLe,ze]
  rw[List.take_add_one,hx]
  simp
 ·have htk:(JG 32 P).take (JG 32 P).length=JG 32 P:=List.take_length
  have j1:=((GN ((JG 32 P).map fun x=>zf x (qx a) (qx b) (V8 e)) [32] (by rw[List.length_map];omega) (by rw[hsay];omega)).res (congrArg C.str hsay)).glob0 (G':=G2)
  have j2:=((ziJ [X7 k,X9 w (qx a) (qx b) (V8 e)] (by simp) (by rw[j9,Lib.join_one];simp only[List.length_append,List.length_cons,List.length_nil];omega)).res (congrArg C.str (show _=YI k w a b e by rw[j9,Lib.join_one,YI,if_neg hn,if_neg hpw]))).glob0 (G':=G2)
  push_cast -dsimp [htk]
  refine cl (j1) ?_;push_cast -dsimp
  refine cl (j2) ?_;push_cast -dsimp
  exact dn
end
section
open CA CB
open Go.RowKit QuotePlain
theorem xE (k:Int) (h:1<=k/\k<=22):zR k≠[]:=by
 have hc:k=1∨k=2∨k=3∨k=4∨k=5∨k=6∨k=7∨k=8∨k=9∨k=10∨k=11∨k=12∨k=13∨k=14∨k=15∨k=16∨k=17∨k=18∨k=19∨k=20∨k=21∨k=22:=by omega
 clear h
 rcases hc with rfl | rfl | rfl | rfl | rfl | rfl | rfl | rfl | rfl | rfl | rfl | rfl | rfl | rfl | rfl | rfl | rfl | rfl | rfl | rfl | rfl | rfl<;>decide +kernel
theorem zhB (k:Int) (qa qb m:List UInt8) (h:1<=k/\k<=22):X9 k qa qb m≠[]:=by
 have hc:k=1∨k=2∨k=3∨k=4∨k=5∨k=6∨k=7∨k=8∨k=9∨k=10∨k=11∨k=12∨k=13∨k=14∨k=15∨k=16∨k=17∨k=18∨k=19∨k=20∨k=21∨k=22:=by omega
 clear h
 rcases hc with rfl | rfl | rfl | rfl | rfl | rfl | rfl | rfl | rfl | rfl | rfl | rfl | rfl | rfl | rfl | rfl | rfl | rfl | rfl | rfl | rfl | rfl<;>simp[X9]
theorem zli (k:Int) (qa qb m:List UInt8):(X9 k qa qb m).length<=qa.length+qb.length+m.length+100:=by
 by_cases h:1<=k/\k<=22
 ·have hc:k=1∨k=2∨k=3∨k=4∨k=5∨k=6∨k=7∨k=8∨k=9∨k=10∨k=11∨k=12∨k=13∨k=14∨k=15∨k=16∨k=17∨k=18∨k=19∨k=20∨k=21∨k=22:=by omega
  clear h
  rcases hc with rfl | rfl | rfl | rfl | rfl | rfl | rfl | rfl | rfl | rfl | rfl | rfl | rfl | rfl | rfl | rfl | rfl | rfl | rfl | rfl | rfl | rfl<;>simp only[X9,if_true,if_false,Int.reduceEq,List.length_append,List.length_cons,List.length_nil]<;>omega
 ·rw[Gc k _ _ _ h];simp
theorem zf5 (k:Int) (qa qb m:List UInt8) (ha:qa.length<=100000) (hb:qb.length<=100000) (hm:m.length<=100000):Fun Tryz.prog G0 109 [.sc (.int .i64 k),.str qa,.str qb,.str m] (.str (X9 k qa qb m)) 0:=by
 by_cases h:1<=k/\k<=22
 ·have hc:k=1∨k=2∨k=3∨k=4∨k=5∨k=6∨k=7∨k=8∨k=9∨k=10∨k=11∨k=12∨k=13∨k=14∨k=15∨k=16∨k=17∨k=18∨k=19∨k=20∨k=21∨k=22:=by omega
  clear h
  rcases hc with rfl | rfl | rfl | rfl | rfl | rfl | rfl | rfl | rfl | rfl | rfl | rfl | rfl | rfl | rfl | rfl | rfl | rfl | rfl | rfl | rfl | rfl
  all_goals
   refine fon Tryz.func109 ?_;dsimp only[Tryz.f109]
   push_cast -dsimp
   repeat refine an ?_
   exact ⟨[],rfl,rfl,by simp only[X9];push_cast -dsimp [zb,za,CLe,ze]<;>simp⟩
 ·have hn:=Gc k qa qb m h
  have n1:¬k=1:=by omega
  have n2:¬k=2:=by omega
  have n3:¬k=3:=by omega
  have n4:¬k=4:=by omega
  have n5:¬k=5:=by omega
  have n6:¬k=6:=by omega
  have n7:¬k=7:=by omega
  have n8:¬k=8:=by omega
  have n9:¬k=9:=by omega
  have n10:¬k=10:=by omega
  have n11:¬k=11:=by omega
  have n12:¬k=12:=by omega
  have n13:¬k=13:=by omega
  have n14:¬k=14:=by omega
  have n15:¬k=15:=by omega
  have n16:¬k=16:=by omega
  have n17:¬k=17:=by omega
  have n18:¬k=18:=by omega
  have n19:¬k=19:=by omega
  have n20:¬k=20:=by omega
  have n21:¬k=21:=by omega
  have n22:¬k=22:=by omega
  refine fon Tryz.func109 ?_;dsimp only[Tryz.f109]
  push_cast -dsimp [n1,n2,n3,n4,n5,n6,n7,n8,n9,n10,n11,n12,n13,n14,n15,n16,n17,n18,n19,n20,n21,n22]
  exact ⟨[],rfl,rfl,by push_cast -dsimp [zb,za,CLe,ze]<;>simp[hn]⟩
theorem zeV (k w:Int) (a b:List UInt8) (e:Int) (ha:a.length<=1000) (hb:b.length<=1000):Fun Tryz.prog G0 66 [.sc (.int .i64 k),.sc (.int .i64 w),.str a,.str b,.sc (.int .i64 e)] (.str (YI k w a b e)) 0:=by
 have l1:=JY a
 have l2:=JY b
 have l3:=GT e
 have l4:=zli w (qx a) (qx b) (V8 e)
 have l5:=Ms k
 have h1:=zd5 k
 have h2:=kX a (by omega)
 have h3:=kX b (by omega)
 have h4:=NN e
 have h5:=zf5 w (qx a) (qx b) (V8 e) (by omega) (by omega) (by omega)
 by_cases hw:1<=w/\w<=22
 ·have hp:=xE w hw
  have hs:=zhB w (qx a) (qx b) (V8 e) hw
  by_cases hn:X7 k = []
  ·rw[hn]at h1
   refine fon Tryz.func66 ?_;dsimp only[Tryz.f66]
   push_cast -dsimp
   refine cl (h1) ?_;push_cast -dsimp
   refine cl (h2) ?_;push_cast -dsimp
   refine cl (h3) ?_;push_cast -dsimp
   refine cl (h4) ?_;push_cast -dsimp
   refine cl (h5) ?_;push_cast -dsimp
   exact ⟨[],rfl,rfl,by push_cast -dsimp [zb,za,CLe,ze]<;>simp[YI,hn]⟩
  ·refine fon Tryz.func66 ?_;dsimp only[Tryz.f66]
   push_cast -dsimp
   refine cl (h1) ?_;push_cast -dsimp
   refine cl (h2) ?_;push_cast -dsimp
   refine cl (h3) ?_;push_cast -dsimp
   refine cl (h4) ?_;push_cast -dsimp
   refine cl (h5) ?_;push_cast -dsimp [hn,hs]
   repeat refine an ?_
   exact ⟨[],rfl,rfl,by push_cast -dsimp [zb,za,CLe,ze]<;>simp[YI,hn,hp]⟩
 ·have hp:=Qk w hw
  have hs:=Gc w (qx a) (qx b) (V8 e) hw
  rw[hs]at h5
  by_cases hn:X7 k = []
  ·rw[hn]at h1
   refine fon Tryz.func66 ?_;dsimp only[Tryz.f66]
   push_cast -dsimp
   refine cl (h1) ?_;push_cast -dsimp
   refine cl (h2) ?_;push_cast -dsimp
   refine cl (h3) ?_;push_cast -dsimp
   refine cl (h4) ?_;push_cast -dsimp
   refine cl (h5) ?_;push_cast -dsimp
   exact ⟨[],rfl,rfl,by push_cast -dsimp [zb,za,CLe,ze]<;>simp[YI,hn]⟩
  ·refine fon Tryz.func66 ?_;dsimp only[Tryz.f66]
   push_cast -dsimp
   refine cl (h1) ?_;push_cast -dsimp
   refine cl (h2) ?_;push_cast -dsimp
   refine cl (h3) ?_;push_cast -dsimp
   refine cl (h4) ?_;push_cast -dsimp
   refine cl (h5) ?_;push_cast -dsimp [hn]
   exact ⟨[],rfl,rfl,by push_cast -dsimp [zb,za,CLe,ze]<;>simp[YI,hn,hp]⟩
end
section
open CA CB
open Go.RowKit
def GD:zq:=fun g=>if g=0 then G1 g else G2 g
theorem zqF (g:Nat) (cs:List C) (h:G1 g=some cs):GD g=some cs:=by
 unfold GD
 by_cases hg:g=0
 ·rw[if_pos hg];exact h
 ·unfold G1 at h
  rw[if_neg hg]at h
  cases h
theorem zqw (g:Nat) (cs:List C) (h:G2 g=some cs):GD g=some cs:=by
 unfold GD
 by_cases hg:g=0
 ·subst hg
  have q:G2 0=none:=rfl
  rw[q]at h;cases h
 ·rw[if_neg hg];exact h
theorem Fun.gd1 {f:FuncId} {args:List C} {r:C} {n:Nat} (h:Fun Tryz.prog G1 f args r n):Fun Tryz.prog GD f args r n:=h.glob zqF
theorem Fun.gd2 {f:FuncId} {args:List C} {r:C} {n:Nat} (h:Fun Tryz.prog G2 f args r n):Fun Tryz.prog GD f args r n:=h.glob zqw
abbrev zbT (d:qC) (ops diags:C):C:=.agg [.sc (.int .i64 d.w.fs.maxI),.sc (.int .i64 d.w.fs.maxB),.sc (.int .i64 d.w.fs.next),.sl 6 (zr d.w.fs.xs),.sl 4 (zF d.w.kept),.sl 6 (zr d.w.pool),ops,diags,.sc (.int .i64 d.status),.sc (.int .i64 d.slot)]
structure Xp (d:qC):Prop where
 wi:Xl d.w
 ws:VI d.w
 ops:d.ops.length<=80000
 diags:d.diags.length<=80000
 slot:0<=d.slot/\d.slot<=4000000000000000000
theorem Qb (o:OpV):opL o = [.sc (.int .i64 o.kind),.sc (.int .i64 o.slot),.str o.a,.str o.b,.str o.d]:=rfl
abbrev Yo:List C:=[.any,.any,.any,.any,.any]
abbrev jn:List C:=[.any,.any,.any,.any,.any,.any]
abbrev zi:List C:=[.any,.any,.any,.any,.any,.any,.any,.any,.any,.any]
theorem zep (d:qC) (hd:Xp d) (o:OpV) (ho:short o) (hl:o.d.length<=10000) (hne:(jT d o).2≠0) (oc dc:C) (hoc:oc = .sl 5 (d.ops.map opL)) (hdc:dc = .sl 1 (qv d.diags)):Fun Tryz.prog GD 25 [zbT d oc dc,.agg (opL o)] (.tup [zbT d oc dc,.sc (.int .i64 (jT d o).2)]) 0:=by
 subst hoc hdc
 obtain ⟨k,s,a,b,t⟩:=o
 have hsl:=XA (G:=GD) ⟨k,0,a,b,t⟩
 have hb1:=hd.slot.1
 have hb2:=hd.slot.2
 by_cases hk:k=3∨k=7
 ·have e:Yn d ⟨k,s,a,b,t⟩=⟨k,d.slot+1,a,b,t⟩:=by unfold Yn;rw[if_pos hk]
  rw[decide_eq_true hk]at hsl
  have hk7:(7<k)=False:=eq_false (by omega)
  have hdo:=(Mo d.w hd.wi hd.ws ⟨k,d.slot+1,a,b,t⟩ ho hl (show k<=7 by omega)).gd1
  have ea:jT d ⟨k,s,a,b,t⟩=if (doV d.w ⟨k,d.slot+1,a,b,t⟩).2≠0 then (d,(doV d.w ⟨k,d.slot+1,a,b,t⟩).2) else (⟨(doV d.w ⟨k,d.slot+1,a,b,t⟩).1,d.ops++[⟨k,d.slot+1,a,b,t⟩],d.diags,d.status,if 0<d.slot+1 then d.slot+1 else d.slot⟩,0):=by
   unfold jT;rw[if_neg (show ¬7<k by omega),e]
  by_cases hz:(doV d.w ⟨k,d.slot+1,a,b,t⟩).2=0
  ·rw[ea,if_neg (fun h=>h hz)]at hne;exact absurd rfl hne
  ·rw[ea,if_pos hz]
   have hz':=eq_false hz
   unfold opL at hsl hdo ⊢
   refine fon Tryz.func25 ?_;dsimp only[Tryz.f25]
   push_cast -dsimp
   refine cl (hsl) ?_;push_cast -dsimp
   repeat refine an ?_
   push_cast -dsimp [hk7]
   refine cl (hdo) ?_;push_cast -dsimp [hz']
   exact dn
 ·have e:Yn d ⟨k,s,a,b,t⟩=⟨k,0,a,b,t⟩:=by unfold Yn;rw[if_neg hk]
  rw[decide_eq_false hk]at hsl
  by_cases hk7:7<k
  ·have ea:jT d ⟨k,s,a,b,t⟩=(d,12):=by unfold jT;rw[if_pos hk7]
   rw[ea]
   have hk7':=eq_true hk7
   unfold opL at hsl ⊢
   refine fon Tryz.func25 ?_;dsimp only[Tryz.f25]
   push_cast -dsimp
   refine cl (hsl) ?_;push_cast -dsimp [hk7']
   exact dn
  ·have hdo:=(Mo d.w hd.wi hd.ws ⟨k,0,a,b,t⟩ ho hl (show k<=7 by omega)).gd1
   have ea:jT d ⟨k,s,a,b,t⟩=if (doV d.w ⟨k,0,a,b,t⟩).2≠0 then (d,(doV d.w ⟨k,0,a,b,t⟩).2) else (⟨(doV d.w ⟨k,0,a,b,t⟩).1,d.ops++[⟨k,0,a,b,t⟩],d.diags,d.status,if (0:Int)<0 then 0 else d.slot⟩,0):=by
    unfold jT;rw[if_neg hk7,e]
   by_cases hz:(doV d.w ⟨k,0,a,b,t⟩).2=0
   ·rw[ea,if_neg (fun h=>h hz)]at hne;exact absurd rfl hne
   ·rw[ea,if_pos hz]
    have hz':=eq_false hz
    have hk7':=eq_false hk7
    unfold opL at hsl hdo ⊢
    refine fon Tryz.func25 ?_;dsimp only[Tryz.f25]
    push_cast -dsimp
    refine cl (hsl) ?_;push_cast -dsimp [hk7']
    refine cl (hdo) ?_;push_cast -dsimp [hz']
    exact dn
theorem zjq (d:qC) (hd:Xp d) (o:OpV) (ho:short o) (hl:o.d.length<=10000) (hne:(jT d o).2=0):JT Tryz.prog GD 25 [v8 d,.agg (opL o)] [] 0 (fun r bx n=>n=0/\∃ c B,zmf 5 c ((jT d o).1.ops.map opL) B/\r = .tup [zbT (jT d o).1 (.bs 4 0 5 (jT d o).1.ops.length c) (.sl 1 (qv (jT d o).1.diags)),.sc (.int .i64 0)]/\bx = [zi,Yo,zi,jn,B]):=by
 obtain ⟨k,s,a,b,t⟩:=o
 have hsl:=XA (G:=GD) ⟨k,0,a,b,t⟩
 have hb1:=hd.slot.1
 have hb2:=hd.slot.2
 have hopl:(d.ops.map opL).length=d.ops.length:=List.length_map ..
 have hol:=hd.ops
 have hka:∀ r∈d.ops.map opL,r.length=5:=fun r hr=>by obtain ⟨x,_,rfl⟩:=List.mem_map.1 hr;rfl
 have hsa:qV (d.ops.map opL):=fun r hr=>by obtain ⟨x,_,rfl⟩:=List.mem_map.1 hr;rfl
 have hkb:∀ v:Int,∀ r∈[opL ⟨k,v,a,b,t⟩],r.length=5:=fun v r hr=>by rw[List.mem_singleton.1 hr];rfl
 have hsb:∀ v:Int,qV [opL ⟨k,v,a,b,t⟩]:=fun v r hr=>by rw[List.mem_singleton.1 hr];rfl
 have hcc:=fun v:Int=>zeN (G:=GD) (d.ops.map opL) [opL ⟨k,v,a,b,t⟩] hka (hkb v) hsa (hsb v) (by omega) (by simp) (by simp)
 by_cases hk:k=3∨k=7
 ·have e:Yn d ⟨k,s,a,b,t⟩=⟨k,d.slot+1,a,b,t⟩:=by unfold Yn;rw[if_pos hk]
  rw[decide_eq_true hk]at hsl
  have hk7:(7<k)=False:=eq_false (by omega)
  have hdo:=(Mo d.w hd.wi hd.ws ⟨k,d.slot+1,a,b,t⟩ ho hl (show k<=7 by omega)).gd1
  have ea:jT d ⟨k,s,a,b,t⟩=if (doV d.w ⟨k,d.slot+1,a,b,t⟩).2≠0 then (d,(doV d.w ⟨k,d.slot+1,a,b,t⟩).2) else (⟨(doV d.w ⟨k,d.slot+1,a,b,t⟩).1,d.ops++[⟨k,d.slot+1,a,b,t⟩],d.diags,d.status,if 0<d.slot+1 then d.slot+1 else d.slot⟩,0):=by
   unfold jT;rw[if_neg (show ¬7<k by omega),e]
  by_cases hz:(doV d.w ⟨k,d.slot+1,a,b,t⟩).2=0
  ·rw[ea,if_neg (fun h=>h hz),if_pos (show 0<d.slot+1 by omega)]
   rw[hz]at hdo
   have hmx:(if d.slot+1>d.slot then d.slot+1 else d.slot)=d.slot+1:=if_pos (by omega)
   have hc:=hcc (d.slot+1)
   unfold opL at hsl hdo ⊢
   rw[Qb]at hc
   refine foX (fun _=>[]) Tryz.func25 ?_;dsimp only[Tryz.f25]
   push_cast -dsimp
   refine cl (hsl) ?_;push_cast -dsimp
   repeat refine an ?_
   push_cast -dsimp [hk7]
   refine cl (hdo) ?_;push_cast -dsimp
   refine jo [] [] hc rfl (by decide) (by decide) (by simp) (by push_cast -dsimp) (by push_cast -dsimp) (fun r bx' m hp=>?_)
   obtain ⟨rfl,c,B,hB,rfl,rfl⟩:=hp
   have hre:∀ fp fo,C.reL fp fo B=B:=fun fp fo=>zl hB.stay
   push_cast -dsimp [hre,hmx]
   exact ⟨_,[zi,Yo,zi,jn,B],0,⟨⟨rfl,c,B,by rw[List.map_append];exact hB,rfl,rfl⟩,Nat.zero_le _⟩,[],rfl,rfl,by (push_cast -dsimp [zb,za,CLe,ze];exact zp hB.stay),by push_cast -dsimp [zb,za,CLe,ze,List.length_append,List.length_map]⟩
  ·rw[ea,if_pos hz]at hne;exact absurd hne hz
 ·have e:Yn d ⟨k,s,a,b,t⟩=⟨k,0,a,b,t⟩:=by unfold Yn;rw[if_neg hk]
  rw[decide_eq_false hk]at hsl
  by_cases hk7:7<k
  ·have ea:jT d ⟨k,s,a,b,t⟩=(d,12):=by unfold jT;rw[if_pos hk7]
   rw[ea]at hne;exact absurd hne (show ¬(12:Int)=0 by decide)
  ·have hdo:=(Mo d.w hd.wi hd.ws ⟨k,0,a,b,t⟩ ho hl (show k<=7 by omega)).gd1
   have ea:jT d ⟨k,s,a,b,t⟩=if (doV d.w ⟨k,0,a,b,t⟩).2≠0 then (d,(doV d.w ⟨k,0,a,b,t⟩).2) else (⟨(doV d.w ⟨k,0,a,b,t⟩).1,d.ops++[⟨k,0,a,b,t⟩],d.diags,d.status,if (0:Int)<0 then 0 else d.slot⟩,0):=by
    unfold jT;rw[if_neg hk7,e]
   by_cases hz:(doV d.w ⟨k,0,a,b,t⟩).2=0
   ·rw[ea,if_neg (fun h=>h hz),if_neg (show ¬(0:Int)<0 by omega)]
    rw[hz]at hdo
    have hmx:(if 0>d.slot then 0 else d.slot)=d.slot:=if_neg (by omega)
    have hk7':=eq_false hk7
    have hc:=hcc 0
    unfold opL at hsl hdo ⊢
    rw[Qb]at hc
    refine foX (fun _=>[]) Tryz.func25 ?_;dsimp only[Tryz.f25]
    push_cast -dsimp
    refine cl (hsl) ?_;push_cast -dsimp [hk7']
    refine cl (hdo) ?_;push_cast -dsimp
    refine jo [] [] hc rfl (by decide) (by decide) (by simp) (by push_cast -dsimp) (by push_cast -dsimp) (fun r bx' m hp=>?_)
    obtain ⟨rfl,c,B,hB,rfl,rfl⟩:=hp
    have hre:∀ fp fo,C.reL fp fo B=B:=fun fp fo=>zl hB.stay
    push_cast -dsimp [hre,hmx]
    exact ⟨_,[zi,Yo,zi,jn,B],0,⟨⟨rfl,c,B,by rw[List.map_append];exact hB,rfl,rfl⟩,Nat.zero_le _⟩,[],rfl,rfl,by (push_cast -dsimp [zb,za,CLe,ze];exact zp hB.stay),by push_cast -dsimp [zb,za,CLe,ze,List.length_append,List.length_map]⟩
   ·rw[ea,if_pos hz]at hne;exact absurd hne hz
theorem zhQ {d:qC} {o:OpV} (h:(jT d o).2=0):(jT d o).1.ops=d.ops++[Yn d o]:=by
 unfold jT at h ⊢
 split at h
 ·cases h
 ·rw[if_neg (by assumption)]
  split at h
  ·rename_i h1 h2;exact absurd h h2
  ·rw[if_neg (by assumption)]
theorem GG (d:qC) (hd:Xp d) (o:OpV) (ho:short o) (hl:o.d.length<=10000) (hne:(jT d o).2=0):Fun Tryz.prog GD 25 [v8 d,.agg (opL o)] (.tup [zbT (jT d o).1 (.own 0 63 5 ((jT d o).1.ops.map opL)) (.sl 1 (qv (jT d o).1.diags)),.sc (.int .i64 0)]) 1:=
 (zjq d hd o ho hl hne).fun (by
  rintro r bx m ⟨rfl,c,B,hB,rfl,rfl⟩
  exact ⟨[(4,63,5,(jT d o).1.ops.map opL,c)],[.inl 0],hB.ok rfl (by rw[zhQ hne];simp) (fun r hr=>by obtain ⟨x,_,rfl⟩:=List.mem_map.1 hr;rfl),rfl,rfl,by push_cast -dsimp [zb,za,CLe,ze,List.length_map]⟩)
def Xb (d:qC) (x:List UInt8):qC:={ d with diags:=d.diags++[x],status:=1 }
theorem zfo (d:qC) (hd:d.diags.length<=80000) (k w:Int) (a b:List UInt8) (e:Int) (ha:a.length<=1000) (hb:b.length<=1000) :
  JT Tryz.prog GD 26 [v8 d,.sc (.int .i64 k),.sc (.int .i64 w),.str a,.str b,.sc (.int .i64 e)] [] 0 (fun r bx n=>n=0/\∃ c B,zmf 1 c (qv (Xb d (YI k w a b e)).diags) B/\r=zbT (Xb d (YI k w a b e)) (.sl 5 (d.ops.map opL)) (.bs 2 0 1 (d.diags.length+1) c)/\bx = [zi,zi,B]):=by
 have ht:=(zgx k w a b e ha hb).gd2
 generalize YI k w a b e=x at ht ⊢
 have hsl:(qv d.diags).length=d.diags.length:=List.length_map ..
 have hc:=zeh (G:=GD) (qv d.diags) [[.str x]] (fun r hr=>by obtain ⟨x,_,rfl⟩:=List.mem_map.1 hr;rfl) (fun r hr=>by rw[List.mem_singleton.1 hr];rfl) (fun r hr=>by obtain ⟨x,_,rfl⟩:=List.mem_map.1 hr;rfl) (fun r hr=>by rw[List.mem_singleton.1 hr];rfl) (by omega) (by simp) (by simp)
 refine foX (fun i=>if i=1 then [false,false,false,false,false,false,false,false,false,false,false,true,false,false,true] else []) Tryz.func26 ?_;dsimp only[Tryz.f26]
 push_cast -dsimp
 refine cl (ht) ?_;push_cast -dsimp
 refine jo [] [] hc rfl (by decide) (by decide) (by simp) (by push_cast -dsimp) (by push_cast -dsimp) (fun r bx' m hp=>?_)
 obtain ⟨rfl,c,B,hB,rfl,rfl⟩:=hp
 have hre:∀ fp fo,C.reL fp fo B=B:=fun fp fo=>zl hB.stay
 push_cast -dsimp [hre]
 have hm:qv (Xb d x).diags=qv d.diags++[[.str x]]:=List.map_append
 exact ⟨_,[zi,zi,B],0,⟨⟨rfl,c,B,by rw[hm];exact hB,rfl,rfl⟩,Nat.zero_le _⟩,[],rfl,rfl,by (push_cast -dsimp [zb,za,CLe,ze];exact zp hB.stay),by push_cast -dsimp [zb,za,CLe,ze,Xb,List.length_append,hsl]⟩
theorem Mm (d:qC) (hd:d.diags.length<=80000) (k w:Int) (a b:List UInt8) (e:Int) (ha:a.length<=1000) (hb:b.length<=1000) :
  Fun Tryz.prog GD 26 [v8 d,.sc (.int .i64 k),.sc (.int .i64 w),.str a,.str b,.sc (.int .i64 e)] (zbT (Xb d (YI k w a b e)) (.sl 5 (d.ops.map opL)) (.own 0 9 1 (qv (Xb d (YI k w a b e)).diags))) 1:=
 (zfo d hd k w a b e ha hb).fun (by
  rintro r bx m ⟨rfl,c,B,hB,rfl,rfl⟩
  exact ⟨[(2,9,1,qv (Xb d (YI k w a b e)).diags,c)],[.inl 0],hB.ok rfl (by simp[Xb]) (fun r hr=>by obtain ⟨x,_,rfl⟩:=List.mem_map.1 hr;rfl),rfl,rfl,by push_cast -dsimp [zb,za,CLe,ze,List.length_map,List.length_append,Xb]⟩)
end
section
open CA CB
open Go.RowKit
end
section
open CA CB
open Go.RowKit
theorem G6 (a b:List OpV) (ha:a.length<=100000):Fun Tryz.prog G0 27 [.sl 5 (GV a),.sl 5 (GV b)] (qG (Ya a b)) 0:=by
 by_cases hl:a.length=b.length
 ·refine fon Tryz.func27 ?_;dsimp only[Tryz.f27]
  push_cast -dsimp [hl]
  refine loop (fun k:Nat=>⟨[(0,.sl 5 (GV a)),(1,.sl 5 (GV b)),(5,.sc (.int .i64 k))],[],0,0⟩) (fun k=>k<=a.length/\∀ (j:Nat) (h:j<a.length) (h':j<b.length),j<k->zjc (a[j]'h) (b[j]'h')=true) (fun k=>a.length-k) 0 ⟨Nat.zero_le _,fun j _ _ hj=>by omega⟩ ?_ ?_
  ·exact wk (by push_cast -dsimp [zb,za,CLe,ze,hl])
  ·intro k hk
   have hk1:=hk.1
   have hk2:=hk.2
   by_cases h:k<a.length
   ·have hga:=GB a k h
    have hgb:=GB b k (by omega)
    have heq:zjc (a[k]'h) (b[k]'(by omega))=zjc (a[k]'h) (b[k]'(by omega)):=rfl
    simp only[opL]at hga hgb
    conv at heq=>lhs;unfold zjc
    cases he:zjc (a[k]'h) (b[k]'(by omega)) with
    | true =>
     rw[he]at heq
     push_cast -dsimp [h,hga,hgb,heq]
     repeat refine an ?_
     refine ⟨k+1,⟨by omega,fun j hj hj' hjk=>?_⟩,by omega,wk⟩
     rcases Nat.lt_or_ge j k with g | g
     ·exact hk2 j hj hj' g
     ·have:j=k:=by omega
      subst this;exact he
    | false =>
     rw[he]at heq
     push_cast -dsimp [h,hga,hgb,heq]
     repeat refine an ?_
     refine ⟨[],rfl,rfl,?_⟩
     push_cast -dsimp [zb,za,CLe,ze]
     have:¬Ya a b=true:=fun e=>by
      have:=((J4 a b).1 e).2 k h (by omega)
      rw[he]at this;cases this
     simp[this]
   ·push_cast -dsimp [h]
    refine ⟨[],rfl,rfl,?_⟩
    push_cast -dsimp [zb,za,CLe,ze]
    have:Ya a b=true:=(J4 a b).2 ⟨hl,fun j hj hj'=>hk2 j hj hj' (by omega)⟩
    simp[this]
 ·refine fon Tryz.func27 ?_;dsimp only[Tryz.f27]
  push_cast -dsimp [hl]
  refine ⟨[],rfl,rfl,?_⟩
  push_cast -dsimp [zb,za,CLe,ze]
  have:¬Ya a b=true:=fun e=>hl ((J4 a b).1 e).1
  simp[this]
def okO (o:OpV):Bool:=decide (o.a.length<=1000)&&decide (o.b.length<=1000)&&decide (o.d.length<=5000)
def zjp (l:List OpV):Bool:=(l.take 200).all okO&&decide (l.length<=100)
theorem zhk (l:List OpV):Fun Tryz.prog G0 32 [.sl 5 (GV l)] (qG (zjp l)) 0:=by
 refine fon Tryz.func32 ?_;dsimp only[Tryz.f32]
 push_cast -dsimp
 refine loop (fun k:Nat=>⟨[(0,.sl 5 (GV l)),(3,.sc (.int .i64 k))],[],0,0⟩) (fun k=>k<=l.length/\k<=200/\∀ j (hj:j<l.length),j<k->okO (l[j]'hj)=true) (fun k=>l.length-k) 0 ⟨Nat.zero_le _,Nat.zero_le _,fun j _ hj=>by omega⟩ ?_ ?_
 ·exact wk
 ·intro k hk
  have hk1:=hk.1
  have hk2:=hk.2.1
  have hk3:=hk.2.2
  have fin:(¬k<l.length∨¬k<200)->zjp l=decide ((l.length:Int)<=100):=fun hh=>by
   have:(l.take 200).all okO=true:=List.all_eq_true.2 fun x hx=>by
    obtain ⟨j,hj,rfl⟩:=List.getElem_of_mem hx
    rw[List.length_take]at hj
    rw[List.getElem_take]
    exact hk3 j (by omega) (by omega)
   simp only[zjp,this,Bool.true_and]
   rw[decide_eq_decide];omega
  by_cases h:k<l.length
  ·by_cases h2:k<200
   ·have hg:=GB l k h
    have h2':(k:Int)<200:=by omega
    have hno:okO (l[k]'h)=false->zjp l=false:=fun e=>by
     have:(l.take 200).all okO=false:=List.all_eq_false.2 ⟨l[k]'h,List.mem_of_getElem? (i:=k) (by rw[List.getElem?_take,if_pos h2,List.getElem?_eq_getElem h]),by simp[e]⟩
     simp[zjp,this]
    have hyes:okO (l[k]'h)=true->∀ j (hj:j<l.length),j<k+1->okO (l[j]'hj)=true:=fun e j hj hjk=>by
     rcases Nat.lt_or_ge j k with g | g
     ·exact hk3 j hj g
     ·have:j=k:=by omega
      subst this;exact e
    cases ho:l[k]'h with
    | mk kd s a b d =>
     rw[ho]at hg hno hyes
     simp only[opL]at hg
     simp only[okO]at hno hyes
     by_cases ha:a.length<=1000
     ·have ha':¬(1000:Int)<(a.length:Int):=by omega
      by_cases hb:b.length<=1000
      ·have hb':¬(1000:Int)<(b.length:Int):=by omega
       by_cases hd:d.length<=5000
       ·have hd':¬(5000:Int)<(d.length:Int):=by omega
        push_cast -dsimp [h,h2',hg,ha',hb',hd']
        repeat refine an ?_
        refine ⟨k+1,⟨by omega,by omega,hyes (by simp[ha,hb,hd])⟩,by omega,wk⟩
       ·have hd':(5000:Int)<(d.length:Int):=by omega
        have hf:=hno (by simp[hd])
        push_cast -dsimp [h,h2',hg,ha',hb',hd']
        repeat refine an ?_
        exact ⟨[],rfl,rfl,by push_cast -dsimp [zb,za,CLe,ze];simp[hf]⟩
      ·have hb':(1000:Int)<(b.length:Int):=by omega
       have hf:=hno (by simp[hb])
       push_cast -dsimp [h,h2',hg,ha',hb']
       repeat refine an ?_
       exact ⟨[],rfl,rfl,by push_cast -dsimp [zb,za,CLe,ze];simp[hf]⟩
     ·have ha':(1000:Int)<(a.length:Int):=by omega
      have hf:=hno (by simp[ha])
      push_cast -dsimp [h,h2',hg,ha']
      repeat refine an ?_
      exact ⟨[],rfl,rfl,by push_cast -dsimp [zb,za,CLe,ze];simp[hf]⟩
   ·have h2':¬(k:Int)<200:=by omega
    have hf:=fin (.inr h2)
    push_cast -dsimp [h,h2']
    refine ⟨[],rfl,rfl,?_⟩
    push_cast -dsimp [zb,za,CLe,ze]
    rw[hf]
  ·have hf:=fin (.inl h)
   push_cast -dsimp [h]
   refine ⟨[],rfl,rfl,?_⟩
   push_cast -dsimp [zb,za,CLe,ze]
   rw[hf]
end
section
open CA CB
open Go.RowKit
theorem zfz (w:qy) (hk:w.kept.length<=100000) (hs:Xx w.kept):Fun Tryz.prog G0 33 [js w] (v8 (zfD w)) 0:=by
 have h:=My (G:=G0) w hk hs.1 hs.2
 refine fof (fun i=>if i=1 then [false,false,false,false,true] else []) Tryz.func33 ?_;dsimp only[Tryz.f33]
 push_cast -dsimp
 refine cl (h) ?_;push_cast -dsimp
 exact dn (by push_cast -dsimp [zb,za,CLe,ze,zfD])
theorem zhh (d:qC) (hd:Xp d) (o:OpV) (ho:short o) (hl:o.d.length<=10000):Fun Tryz.prog G0 34 [v8 d,.agg (opL o)] (.tup [v8 (jT d o).1,.sc (.int .i64 (jT d o).2)]) 0:=by
 obtain ⟨k,s,a,b,t⟩:=o
 have hb1:=hd.slot.1
 have hb2:=hd.slot.2
 have hopl:(d.ops.map opL).length=d.ops.length:=List.length_map ..
 have hol:=hd.ops
 have hka:∀ r∈d.ops.map opL,r.length=5:=fun r hr=>by obtain ⟨x,_,rfl⟩:=List.mem_map.1 hr;rfl
 by_cases hk:k=3∨k=7
 ·have e:Yn d ⟨k,s,a,b,t⟩=⟨k,d.slot+1,a,b,t⟩:=by unfold Yn;rw[if_pos hk]
  have hk7:(7<k)=False:=eq_false (by omega)
  have hdo:=zdT d.w hd.wi hd.ws ⟨k,d.slot+1,a,b,t⟩ ho hl (show k<=7 by omega)
  have ea:jT d ⟨k,s,a,b,t⟩=if (doV d.w ⟨k,d.slot+1,a,b,t⟩).2≠0 then (d,(doV d.w ⟨k,d.slot+1,a,b,t⟩).2) else (⟨(doV d.w ⟨k,d.slot+1,a,b,t⟩).1,d.ops++[⟨k,d.slot+1,a,b,t⟩],d.diags,d.status,if 0<d.slot+1 then d.slot+1 else d.slot⟩,0):=by
   unfold jT;rw[if_neg (show ¬7<k by omega),e]
  have hmx:(0<d.slot+1)=True:=eq_true (by omega)
  unfold opL at hdo ⊢
  by_cases hz:(doV d.w ⟨k,d.slot+1,a,b,t⟩).2=0
  ·rw[ea,if_neg (fun h=>h hz),if_pos (show 0<d.slot+1 by omega)]
   rw[hz]at hdo
   rcases hk with hk3 | hk3 <;>
   ·have hk3':=eq_true hk3
    by_cases hoe:d.ops.map opL = []
    ·refine fof (fun i=>if i=10 then [false,false,false,false,false,false,false,true,false,false,true] else []) Tryz.func34 ?_;dsimp only[Tryz.f34]
     push_cast -dsimp [hk3,hk7,Int.reduceEq]
     subst hk3
     repeat refine an ?_
     refine cl (hdo) ?_;push_cast -dsimp [hmx,hoe]
     repeat refine an ?_
     exact dn (by push_cast -dsimp [zb,za,CLe,ze,List.map_append,hoe,opL])
    ·have hoe':=eq_false hoe
     refine fof (fun i=>if i=10 then [false,false,false,false,false,false,false,true,false,false,true] else []) Tryz.func34 ?_;dsimp only[Tryz.f34]
     push_cast -dsimp [hk3,hk7,Int.reduceEq]
     subst hk3
     repeat refine an ?_
     refine cl (hdo) ?_;push_cast -dsimp [hmx,hoe']
     repeat refine an ?_
     exact dn (by push_cast -dsimp [zb,za,CLe,ze,List.map_append,opL])
  ·rw[ea,if_pos hz]
   have hz':=eq_false hz
   rcases hk with hk3 | hk3 <;>
   ·have hk3':=eq_true hk3
    refine fof (fun i=>if i=10 then [false,false,false,false,false,false,false,true,false,false,true] else []) Tryz.func34 ?_;dsimp only[Tryz.f34]
    push_cast -dsimp [hk3,hk7,Int.reduceEq]
    subst hk3
    repeat refine an ?_
    refine cl (hdo) ?_;push_cast -dsimp [hz']
    exact dn
 ·have e:Yn d ⟨k,s,a,b,t⟩=⟨k,0,a,b,t⟩:=by unfold Yn;rw[if_neg hk]
  have k3:(k=3)=False:=eq_false fun h=>hk (.inl h)
  have k7:(k=7)=False:=eq_false fun h=>hk (.inr h)
  by_cases hk7:7<k
  ·have ea:jT d ⟨k,s,a,b,t⟩=(d,12):=by unfold jT;rw[if_pos hk7]
   rw[ea]
   have hk7':=eq_true hk7
   unfold opL
   refine fof (fun i=>if i=10 then [false,false,false,false,false,false,false,true,false,false,true] else []) Tryz.func34 ?_;dsimp only[Tryz.f34]
   push_cast -dsimp [k3,k7,hk7']
   exact dn
  ·have hdo:=zdT d.w hd.wi hd.ws ⟨k,0,a,b,t⟩ ho hl (show k<=7 by omega)
   have ea:jT d ⟨k,s,a,b,t⟩=if (doV d.w ⟨k,0,a,b,t⟩).2≠0 then (d,(doV d.w ⟨k,0,a,b,t⟩).2) else (⟨(doV d.w ⟨k,0,a,b,t⟩).1,d.ops++[⟨k,0,a,b,t⟩],d.diags,d.status,if (0:Int)<0 then 0 else d.slot⟩,0):=by
    unfold jT;rw[if_neg hk7,e]
   have hk7':=eq_false hk7
   unfold opL at hdo ⊢
   by_cases hz:(doV d.w ⟨k,0,a,b,t⟩).2=0
   ·rw[ea,if_neg (fun h=>h hz),if_neg (show ¬(0:Int)<0 by omega)]
    rw[hz]at hdo
    by_cases hoe:d.ops.map opL = []
    ·refine fof (fun i=>if i=10 then [false,false,false,false,false,false,false,true,false,false,true] else []) Tryz.func34 ?_;dsimp only[Tryz.f34]
     push_cast -dsimp [k3,k7,hk7']
     refine cl (hdo) ?_;push_cast -dsimp [hoe]
     repeat refine an ?_
     exact dn (by push_cast -dsimp [zb,za,CLe,ze,List.map_append,hoe,opL])
    ·have hoe':=eq_false hoe
     refine fof (fun i=>if i=10 then [false,false,false,false,false,false,false,true,false,false,true] else []) Tryz.func34 ?_;dsimp only[Tryz.f34]
     push_cast -dsimp [k3,k7,hk7']
     refine cl (hdo) ?_;push_cast -dsimp [hoe']
     repeat refine an ?_
     exact dn (by push_cast -dsimp [zb,za,CLe,ze,List.map_append,opL])
   ·rw[ea,if_pos hz]
    have hz':=eq_false hz
    refine fof (fun i=>if i=10 then [false,false,false,false,false,false,false,true,false,false,true] else []) Tryz.func34 ?_;dsimp only[Tryz.f34]
    push_cast -dsimp [k3,k7,hk7']
    refine cl (hdo) ?_;push_cast -dsimp [hz']
    exact dn
theorem zeS (d:qC) (hd:d.diags.length<=80000) (k w:Int) (a b:List UInt8) (e:Int) (ha:a.length<=1000) (hb:b.length<=1000) :
  Fun Tryz.prog G0 35 [v8 d,.sc (.int .i64 k),.sc (.int .i64 w),.str a,.str b,.sc (.int .i64 e)] (v8 (Xb d (YI k w a b e))) 0:=by
 have ht:=zeV k w a b e ha hb
 generalize YI k w a b e=x at ht ⊢
 have hsl:(qv d.diags).length=d.diags.length:=List.length_map ..
 refine fon Tryz.func35 ?_;dsimp only[Tryz.f35]
 push_cast -dsimp
 repeat refine an ?_
 refine cl (ht) ?_;push_cast -dsimp
 repeat refine an ?_
 exact dn (by push_cast -dsimp [zb,za,CLe,ze,Xb])
end
section
open CA CB
open Go.RowKit
structure zq3 where
 path:List UInt8
 ino:Int
deriving DecidableEq,Inhabited
def va (p n:List UInt8):List UInt8:=if p = [47] then p++n else p++[47]++n
section
variable {G:zq}
end
end
section
open CA CB
open Go.RowKit
abbrev Jx:=List (List (List UInt8)×zA)
structure vJ (f:FsV) (tr:Int->List (List UInt8)->Jx):Prop where
 has:∀ n ns,zG n f.xs=true->tr n ns=(ns,zg n f.xs) :: (zg n f.xs).es.flatMap fun e=>tr e.ino (ns++[e.name])
 not:∀ n ns,zG n f.xs=false->tr n ns = []
abbrev Uj (p:List (List UInt8)×zA):List C:=[.str (qY p.1),.agg (Yi p.2)]
def zby (tr:Int->List (List UInt8)->Jx) (ns:List (List UInt8)) (es:List z6):Jx:=es.flatMap fun e=>tr e.ino (ns++[e.name])
def XO (tr:Int->List (List UInt8)->Jx) (S:List (List (List UInt8)×List z6)):Jx:=S.flatMap fun p=>zby tr p.1 p.2
abbrev lvC (p:List (List UInt8)×List z6):List C:=[.sl 1 (qv p.1),.sl 2 (zI p.2)]
def U8 (S:List (List (List UInt8)×List z6)):List C:=(S.reverse.map lvC).flatten
theorem zjx (S:List (List (List UInt8)×List z6)):(U8 S).length=S.length*2:=by
 unfold U8
 rw[qf (k:=2) fun r hr=>by obtain ⟨p,_,rfl⟩:=List.mem_map.1 hr;rfl]
 simp
theorem vZ (p:List (List UInt8)×List z6) (S:List (List (List UInt8)×List z6)):U8 (p :: S)=U8 S++lvC p:=by
 unfold U8;simp
def ZC (p:List (List UInt8)×zA):Prop:=p.1.length<=1000000/\(Lib.join p.1 [47]).length<=1000000
structure YE (f:FsV) (tr:Int->List (List UInt8)->Jx) (IT:List (List C)) (sf:Nat->Bool) (S:List (List (List UInt8)×List z6)) (k cap:Nat):Prop where
 rest:IT.drop k=(XO tr S).map Uj
 bound:∀ p∈XO tr S,ZC p
 le:k<=IT.length
 go:∀ j,j<k->sf j=false
 pos:S.length<=k
 room:S.length<=cap
 roomM:cap<=9223372036854775807
 has:∀ p∈S,p.2.length<=40/\∀ e∈p.2,zG e.ino f.xs=true
theorem Zi (S:List (List (List UInt8)×List z6)):((U8 S).all C.stayB)=true:=JZ fun r hr=>by
 obtain ⟨p,_,rfl⟩:=List.mem_map.1 hr;rfl
theorem YE.pop {f:FsV} {tr:Int->List (List UInt8)->Jx} {IT:List (List C)} {sf:Nat->Bool} {S:List (List (List UInt8)×List z6)} {ns:List (List UInt8)} {k cap:Nat} (h:YE f tr IT sf ((ns,[]) :: S) k cap):YE f tr IT sf S k cap:=by
 have e:XO tr ((ns,[]) :: S)=XO tr S:=by simp[XO,zby]
 exact ⟨by rw[←e];exact h.rest,fun p hp=>h.bound p (by rw[e];exact hp),h.le,h.go,by have:=h.pos;rw[List.length_cons]at this;omega,by have:=h.room;rw[List.length_cons]at this;omega,h.roomM,fun p hp=>h.has p (List.mem_cons_of_mem _ hp)⟩
theorem YE.next {f:FsV} {tr:Int->List (List UInt8)->Jx} {IT:List (List C)} {sf:Nat->Bool} {S:List (List (List UInt8)×List z6)} {ns:List (List UInt8)} {e:z6} {r:List z6} {k cap:Nat} (h:YE f tr IT sf ((ns,e :: r) :: S) k cap) (ht:vJ f tr) (hf:Vk f.xs) (h3:YU f) :
  ∃ y,y=zg e.ino f.xs/\y∈f.xs/\IT[k]?=some (Uj (ns++[e.name],y))/\ZC (ns++[e.name],y)/\(sf k=false->(∀ c,S.length+2<=c->c<=9223372036854775807->YE f tr IT sf ((ns++[e.name],y.es) :: (ns,r) :: S) (k+1) c)/\(y.es = []->YE f tr IT sf ((ns,r) :: S) (k+1) cap)):=by
 have hh:zG e.ino f.xs=true:=(h.has (ns,e :: r) List.mem_cons_self).2 e List.mem_cons_self
 obtain ⟨hm,hi⟩:=jf hh
 have hu:=ht.has e.ino (ns++[e.name]) hh
 have hrest:XO tr ((ns,e :: r) :: S)=(ns++[e.name],zg e.ino f.xs) :: XO tr ((ns++[e.name],(zg e.ino f.xs).es) :: (ns,r) :: S):=by
  simp only[XO,zby,List.flatMap_cons,hu,List.cons_append,List.append_assoc]
 refine ⟨_,rfl,hm,?_,h.bound _ (by rw[hrest];exact List.mem_cons_self),fun hs=>?_⟩
 ·have:=h.rest
  rw[hrest]at this
  have:=congrArg (·[0]?) this
  simpa using this
 ·have hd:IT.drop (k+1)=(XO tr ((ns++[e.name],(zg e.ino f.xs).es) :: (ns,r) :: S)).map Uj:=by
   rw[←List.drop_drop,h.rest,hrest];rfl
  have hb:∀ p∈XO tr ((ns++[e.name],(zg e.ino f.xs).es) :: (ns,r) :: S),ZC p:=fun p hp=>h.bound p (by rw[hrest];exact List.mem_cons_of_mem _ hp)
  have hkl:k+1<=IT.length:=by
   rcases Nat.lt_or_ge k IT.length with g | g
   ·exact g
   ·have:=h.rest
    rw[List.drop_eq_nil_of_le g,hrest]at this;cases this
  have hgo:∀ j,j<k+1->sf j=false:=fun j hj=>by
   rcases Nat.lt_or_ge j k with g | g
   ·exact h.go j g
   ·rw[show j=k by omega];exact hs
  have hp:=h.pos
  have hro:=h.room
  have hrm:=h.roomM
  rw[List.length_cons]at hp hro
  have h0:=h.has (ns,e :: r) List.mem_cons_self
  have hr0:r.length<=40/\∀ e'∈r,zG e'.ino f.xs=true:=⟨by have:=h0.1;simp at this;omega,fun e' he=>h0.2 e' (List.mem_cons_of_mem _ he)⟩
  refine ⟨fun c h1 h2=>⟨hd,hb,hkl,hgo,by simp;omega,by simp;omega,h2,fun p hp=>?_⟩,fun hne=>?_⟩
  ·rcases List.mem_cons.1 hp with rfl | hp
   ·exact ⟨(hf.2 _ hm).2.1,fun e' he=>h3 _ hm e' he⟩
   ·rcases List.mem_cons.1 hp with rfl | hp
    ·exact hr0
    ·exact h.has p (List.mem_cons_of_mem _ hp)
  ·have hz:XO tr ((ns++[e.name],(zg e.ino f.xs).es) :: (ns,r) :: S)=XO tr ((ns,r) :: S):=by rw[hne];simp[XO,zby]
   rw[hz]at hd hb
   exact ⟨hd,hb,hkl,hgo,by simp;omega,by simp;omega,hrm,fun p hp=>by
    rcases List.mem_cons.1 hp with rfl | hp
    ·exact hr0
    ·exact h.has p (List.mem_cons_of_mem _ hp)⟩
theorem zan (f:FsV) (ino:Int) (ns:List (List UInt8)) (tr:Int->List (List UInt8)->Jx) (ht:vJ f tr) (hf:Vk f.xs) (hR:qc f.xs) (h3:YU f) (h2:∀ x∈f.xs,x.kind≠2->x.es = []) (hl:(tr ino ns).length<=1000000) (hb:∀ p∈tr ino ns,ZC p) :
  MX Tryz.prog G0 157 [] [.row (fsC f),.row [.sc (.int .i64 ino)],.row [.sl 1 (qv ns)]] [] ((tr ino ns).map Uj):=by
 have h40:=hf.1
 refine foI (fun i=>if i=1000000+197 then [true] else if i=1 then [false,false,false,false,false,false,false,true] else if i=10 then [false,false,false,false,true] else []) Tryz.func157 ?_;dsimp only[Tryz.f157]
 intro l sf
 push_cast -dsimp
 refine cl (jO f ino (by omega) hR) ?_;push_cast -dsimp
 cases hh:zG ino f.xs with
 | false =>
  have hn:=ht.not ino ns hh
  push_cast -dsimp
  rw[hn]
  exact .inl ⟨rfl,fun j hj=>absurd hj (Nat.not_lt_zero _)⟩
 | true =>
  have hn:=ht.has ino ns hh
  have q:ZC (ns,zg ino f.xs):=hb _ (by rw[hn];exact List.mem_cons_self)
  have h0:((tr ino ns).map Uj)[0]?=some (Uj (ns,zg ino f.xs)):=by rw[hn];rfl
  obtain ⟨hm,hino⟩:=jf hh
  generalize zg ino f.xs=x at hn h0 hm hino
  have hITl:((tr ino ns).map Uj).length<=1000000:=by rw[List.length_map];exact hl
  generalize hIT:(tr ino ns).map Uj=IT at h0 hITl
  push_cast -dsimp
  refine cl (XQ ns (by have:=q.1;dsimp only at this;omega) (by have:=q.2;dsimp only at this;omega)) ?_;push_cast -dsimp [h0]
  refine ⟨by push_cast -dsimp [zb,za,CLe,ze],fun j hj=>absurd hj (Nat.not_lt_zero _),br (fun hs=>?_) (fun hs=>?_)⟩
  ·push_cast -dsimp
   exact .inr ⟨Nat.succ_pos _,hs⟩
  ·push_cast -dsimp
   refine loop (fun p:List (List (List UInt8)×List z6)×Nat×Nat=>⟨[(0,.sc (.func (.yield l) #[] #[])),(1,.row (fsC f)),(7,.bs 1 0 2 p.1.length p.2.2)],[[.any,.any,.any,.any,.any,.any],U8 p.1++List.replicate ((p.2.2-p.1.length)*2) .any],0,p.2.1⟩) (fun p=>YE f tr IT sf p.1 p.2.1 p.2.2) (fun p=>2*(IT.length-p.2.1)+p.1.length) ([(ns,x.es)],1,1) ?_ ?_ ?_
   ·have hdr:IT.drop 1=(XO tr [(ns,x.es)]).map Uj:=by
     rw[←hIT,hn]
     simp[XO,zby]
    show YE f tr IT sf [(ns,x.es)] 1 1
    exact ⟨hdr,fun p hp=>hb p (by rw[hn];exact List.mem_cons_of_mem _ (by simpa [XO,zby] using hp)),by have:=(List.getElem?_eq_some_iff.1 h0).1;omega,fun j hj=>by rw[show j=0 by omega];exact hs,Nat.le_refl _,Nat.le_refl _,by omega,fun p hp=>by
     rw[List.mem_singleton]at hp;subst hp
     exact ⟨(hf.2 x hm).2.1,fun e he=>h3 x hm e he⟩⟩
   ·have hl1:U8 [(ns,x.es)] = [.sl 1 (qv ns),.sl 2 (zI x.es)]:=rfl
    exact wk (h5:=by push_cast -dsimp [zb,za,CLe,ze,hl1])
   ·rintro ⟨S,k,cap⟩ hS
    dsimp only at hS ⊢
    cases S with
    | nil =>
     push_cast -dsimp
     have hr:=hS.rest
     have he:IT.length<=k:=by
      rcases Nat.lt_or_ge k IT.length with g | g
      ·have:=congrArg List.length hr
       simp[XO]at this;omega
      ·exact g
     exact .inl ⟨by have:=hS.le;omega,hS.go⟩
    | cons p S' =>
     obtain ⟨ns1,es1⟩:=p
     have hL:=zjx S'
     have hd0:∀ X,(U8 S'++X).drop (S'.length*2)=X:=fun X=>List.drop_left' hL
     have hd1:∀ X,(U8 S'++X).drop (S'.length*2+1)=X.drop 1:=fun X=>by rw[←List.drop_drop,hd0]
     have hd2:∀ X,(U8 S'++X).drop (S'.length*2+2)=X.drop 2:=fun X=>by rw[←List.drop_drop,hd0]
     have ht0:∀ X,(U8 S'++X).take (S'.length*2)=U8 S':=fun X=>List.take_left' hL
     have ht1:∀ X,(U8 S'++X).take (S'.length*2+1)=U8 S'++X.take 1:=fun X=>by
      rw[List.take_append,List.take_of_length_le (by omega),hL];congr 2;omega
     have hpos:((0:Int)<(S'.length:Int)+1)=True:=eq_true (by omega)
     have hroom:=hS.room
     have hroomM:=hS.roomM
     rw[List.length_cons]at hroom
     have hlc:(((S'.length:Int)+1-1)=(S'.length:Int)):=by omega
     push_cast -dsimp [vZ,hlc,hpos]
     repeat refine an ?_
     generalize hpad:List.replicate ((cap-(S'.length+1))*2) C.any=pad
     have hps:(pad.all C.stayB)=true:=by rw[←hpad];simp[List.all_replicate,C.stayB]
     have hst1:((U8 S'++(lvC (ns1,es1)++pad)).all C.stayB)=true:=by rw[List.all_append,Zi,List.all_append,hps];rfl
     have hpl:pad.length=(cap-(S'.length+1))*2:=by rw[←hpad];simp
     refine loop (fun p:List z6×Nat=>⟨[(0,.sc (.func (.yield l) #[] #[])),(1,.row (fsC f)),(7,.bs 1 0 2 (S'.length+1) cap),(8,.ptr 1 (S'.length*2))],[[.any,.any,.any,.any,.any,.any],U8 S'++([.sl 1 (qv ns1),.sl 2 (zI p.1)]++pad)],0,p.2⟩) (fun p=>YE f tr IT sf ((ns1,p.1) :: S') p.2 cap/\2*(IT.length-p.2)<=2*(IT.length-k)) (fun p=>p.1.length) (es1,k) ⟨hS,Nat.le_refl _⟩ ?_ ?_
     ·exact JS.mk [] rfl rfl (Nat.zero_le _) rfl (by push_cast -dsimp [zb,za,CLe,ze]) (by push_cast -dsimp [zb,za,CLe,ze,List.append_assoc];exact zp hst1)
     ·rintro ⟨es,k1⟩ ⟨hT,hkk⟩
      dsimp only at hT hkk ⊢
      cases es with
      | nil =>
       push_cast -dsimp [hd0,hd1,hd2,ht0,ht1,hlc]
       refine ⟨by omega,by omega,⟨by omega,by omega⟩,(S',k1,cap),hT.pop,by dsimp only;omega,JS.mk [] rfl rfl (Nat.zero_le _) rfl (by push_cast -dsimp [zb,za,CLe,ze]) ?_⟩
       push_cast -dsimp [zb,za,CLe,ze]
       exact zdc (zp (Zi S')) (Xa (by simp[hpl];omega))
      | cons e r =>
       obtain ⟨y,hy,hym,hk1,hbd,hnext⟩:=hT.next ht hf h3
       have hrl:((0:Int)<(r.length:Int)+1)=True:=eq_true (by omega)
       have hlr:(zI r).length=r.length:=List.length_map ..
       have hhe:zG e.ino f.xs=true:=(hT.has (ns1,e :: r) List.mem_cons_self).2 e List.mem_cons_self
       have hgy:zg e.ino f.xs=y:=hy.symm
       have hb1:ns1.length+1<=1000000:=by have:=hbd.1;simpa using this
       have hb2:(Lib.join (ns1++[e.name]) [47]).length<=1000000:=hbd.2
       have hst2:(qv ns1).length=ns1.length:=List.length_map ..
       push_cast -dsimp [hd0,hd1,hd2,ht0,ht1,hlc,hlr,hrl,hst2,List.append_assoc,List.take_length]
       repeat refine an ?_
       refine cl (jO f e.ino (by omega) hR) ?_;push_cast -dsimp [hgy,hhe]
       refine cl (XQ (ns1++[e.name]) (by simp;omega) (by omega)) ?_;push_cast -dsimp [hk1]
       refine ⟨by push_cast -dsimp [zb,za,CLe,ze],hT.go,br (fun hs1=>?_) (fun hs1=>?_)⟩
       ·push_cast -dsimp
        exact .inr ⟨Nat.succ_pos _,hs1⟩
       ·obtain ⟨w1,w2⟩:=hnext hs1
        by_cases k2:y.kind=2
        ·have hSk:=hT.pos
         have hkl:=hT.le
         rw[List.length_cons]at hSk
         have hc1:(U8 S'++C.sl 1 (qv ns1) :: C.sl 2 (List.map GP r) :: pad).length=cap*2:=by
          rw[List.length_append,hL,List.length_cons,List.length_cons,hpl];omega
         have hc2:(U8 S'++C.sl 1 (qv ns1) :: C.sl 2 (List.map GP r) :: pad).take ((S'.length+1)*2)=U8 S'++[C.sl 1 (qv ns1),C.sl 2 (List.map GP r)]:=by
          rw[List.take_append,List.take_of_length_le (by omega),hL,show (S'.length+1)*2-S'.length*2=2 by omega];rfl
         push_cast -dsimp [k2]
         refine zp2 (U8 S'++[C.sl 1 (qv ns1),C.sl 2 (List.map GP r)]++[C.sl 1 (qv (ns1++[e.name])),C.sl 2 (zI y.es)]) rfl rfl (by decide) rfl (by decide) (Nat.zero_le _) hc1 hroom hroomM (by omega) (by omega) (by rw[hc2];exact zl (by rw[List.all_append,List.all_append,Zi];rfl)) (fun c' g1 g2=>?_)
         have hw:=w1 c' (by omega) g2
         have hwl:=hw.le
         push_cast -dsimp [k2]
         refine ⟨((ns1++[e.name],y.es) :: (ns1,r) :: S',k1+1,c'),hw,by simp only[List.length_cons];omega,JS.mk [] rfl rfl (Nat.zero_le _) rfl (by push_cast -dsimp [zb,za,CLe,ze]) ?_⟩
         push_cast -dsimp [zb,za,CLe,ze,vZ,List.append_assoc]
         exact zp (by rw[List.all_append,Zi];simp[List.all_replicate,C.stayB])
        ·push_cast -dsimp [k2]
         have hz:=w2 (h2 y hym k2)
         have hle:=hz.le
         refine ⟨(r,k1+1),⟨hz,by dsimp only;omega⟩,by dsimp only;simp,JS.mk [] rfl rfl (Nat.zero_le _) rfl (by push_cast -dsimp [zb,za,CLe,ze]) ?_⟩
         push_cast -dsimp [zb,za,CLe,ze,List.append_assoc]
         exact zp (by rw[List.all_append,Zi,List.all_cons,List.all_cons,hps];rfl)
end
section
open CA CB
open Go.RowKit
structure zb5 (f:FsV) (tr:Int->List (List UInt8)->Jx):Prop where
 tree:vJ f tr
 few:Vk f.xs
 rise:qc f.xs
 third:YU f
 leaf:∀ x∈f.xs,x.kind≠2->x.es = []
structure xN (tr:Int->List (List UInt8)->Jx) (ino:Int) (ns:List (List UInt8)):Prop where
 len:(tr ino ns).length<=1000000
 bound:∀ p∈tr ino ns,ZC p
abbrev zb6 (l:Jx):List (List C):=l.map Uj
theorem zgG {l:Jx} {k:Nat} {it:List C} (h:(zb6 l)[k]?=some it):∃ p,l[k]?=some p/\it=Uj p:=by
 rw[List.getElem?_map]at h
 cases hq:l[k]? with
 | none=>rw[hq]at h;cases h
 | some x=>rw[hq]at h;cases h;exact ⟨x,rfl,rfl⟩
theorem zlv {f:FsV} {tr:Int->List (List UInt8)->Jx} {ino:Int} {ns:List (List UInt8)} (hw:zb5 f tr) (hs:xN tr ino ns):MX Tryz.prog G0 157 [] [.row (fsC f),.row [.sc (.int .i64 ino)],.row [.sl 1 (qv ns)]] [] (zb6 (tr ino ns)):=
 zan f ino ns tr hw.tree hw.few hw.rise hw.third hw.leaf hs.len hs.bound
theorem zhn (f:FsV) (ino:Int) (ns:List (List UInt8)):Fun Tryz.prog G0 116 [.agg (fsC f),.sc (.int .i64 ino),.sl 1 (qv ns)] (.clo (.func 157) [] [.row (fsC f),.row [.sc (.int .i64 ino)],.row [.sl 1 (qv ns)]]) 0:=by
 refine fon Tryz.func116 ?_;dsimp only[Tryz.f116]
 push_cast -dsimp
 exact dn
theorem zjQ (f:FsV):Fun Tryz.prog G0 77 [.agg (fsC f)] (.clo (.func 157) [] [.row (fsC f),.row [.sc (.int .i64 1)],.row [.sl 1 (qv [])]]) 0:=by
 refine fon Tryz.func77 ?_;dsimp only[Tryz.f77]
 push_cast -dsimp
 refine call (Fun.less (zhn f 1 []) (by push_cast -dsimp [zb,za,CLe,ze])) ?_
 push_cast -dsimp
 exact dn
def UY (n:Int) (l:Jx):List (List UInt8):=(l.filter fun p=>decide (p.2.ino=n)).map fun p=>qY p.1
def ku (n:Int) (l:Jx):Option (List UInt8):=(l.find? fun p=>decide (p.2.ino=n)&&decide (p.2.kind=2)).map fun p=>qY p.1
theorem xB (f:FsV) (n:Int) (tr:Int->List (List UInt8)->Jx) (hw:zb5 f tr) (hs:xN tr 1 []) :
  Fun Tryz.prog G0 43 [.agg (fsC f),.sc (.int .i64 n)] (.tup [.str ((ku n (tr 1 [])).getD []),.sc (.bool (ku n (tr 1 [])).isSome)]) 0:=by
 refine fon Tryz.func43 ?_;dsimp only[Tryz.f43]
 push_cast -dsimp
 refine cl (zjQ f) ?_;push_cast -dsimp
 have hl:=hs.len
 have hit:=zlv hw hs
 generalize tr 1 []=l at hit hl
 refine range (zb6 l) (fun k=>match l[k]? with | some p=>decide (p.2.ino=n)&&decide (p.2.kind=2) | none=>false) 4 (fun k=>⟨[],[[.any,.any,.any,.any],[.sc (.int .i64 n)],[.any],[.any]],0,0⟩) hit (by push_cast -dsimp) (by push_cast -dsimp) (by push_cast -dsimp) (Nat.zero_le _) (by push_cast -dsimp) (fun it h=>?_) (fun k _=>rfl) ?_ (fun k it hk hsf=>?_) (fun hsf=>?_)
 ·obtain ⟨x,_,rfl⟩:=List.mem_map.1 h;rfl
 ·exact wk
 ·obtain ⟨x,hx2,rfl⟩:=zgG hk
  have hfirst:(decide (x.2.ino=n)&&decide (x.2.kind=2))=true->ku n l=some (qY x.1):=fun hb=>by
   obtain ⟨hkl,hxe⟩:=List.getElem?_eq_some_iff.1 hx2
   unfold ku
   rw[List.find?_eq_some_iff_getElem (b:=x) |>.2 ⟨hb,k,hkl,hxe,fun j hj=>?_⟩]
   ·rfl
   ·have:=hsf j hj
    rw[List.getElem?_eq_getElem (by omega)]at this
    simp only[this];rfl
  by_cases c1:x.2.ino=n
  ·by_cases c2:x.2.kind=2
   ·have hd:=hfirst (by simp[c1,c2])
    push_cast -dsimp [c1,c2]
    refine ⟨by rw[hx2];simp[c1,c2],⟨[],[[.any,.any,.any,.any],[.sc (.int .i64 n)],[.str (qY x.1)],[.sc (.bool true)]],0,0⟩,rfl,wk,?_⟩
    push_cast -dsimp [hd]
    exact dn (by push_cast -dsimp [zb,za,CLe,ze,hd,Option.getD_some,Option.isSome_some])
   ·push_cast -dsimp [c1,c2]
    refine ⟨by rw[hx2];simp[c2],wk⟩
  ·push_cast -dsimp [c1]
   refine ⟨by rw[hx2];simp[c1],wk⟩
 ·have hnone:ku n l=none:=by
   unfold ku
   rw[Option.map_eq_none_iff,List.find?_eq_none]
   intro x hx
   obtain ⟨k,hk,rfl⟩:=List.getElem_of_mem hx
   have:=hsf k (by simpa using hk)
   rw[List.getElem?_eq_getElem hk]at this
   simpa only[Bool.not_eq_true] using this
  push_cast -dsimp [hnone]
  exact dn (by push_cast -dsimp [zb,za,CLe,ze,Option.getD_none,Option.isSome_none])
end
section
inductive Dep (xs:List zA):Nat->Int->Prop
 | root:Dep xs 0 1
 | step {k:Nat} {n:Int} {e:z6}:Dep xs k n->zG n xs=true->e∈(zg n xs).es->Dep xs (k+1) e.ino
theorem qT {f:FsV} (h:okV f):Vk f.xs/\Jy f/\Y0 f/\YU f/\Xf f/\Zh f/\HQ f:=by
 obtain ⟨h0,h⟩:=h
 unfold Yf at h
 refine ⟨h0,?_⟩
 split at h
 ·split at h
  ·split at h
   ·split at h
    ·split at h
     ·split at h
      ·exact ⟨by assumption,by assumption,by assumption,by assumption,by assumption,by assumption⟩
      ·cases h
     ·cases h
    ·cases h
   ·cases h
  ·cases h
 ·cases h
theorem zg2 {es:List z6}:∀ {S:List Int} {n:Int},n∈G4 S es↔n∈S∨∃ e∈es,e.ino=n:=by
 induction es with
 | nil=>intro S n;simp[G4]
 | cons e r ih =>
  intro S n
  show n∈G4 (XH S e.ino) r↔_
  rw[ih,kA]
  constructor
  ·rintro ((h | h) | ⟨e',he,h⟩)
   ·exact .inl h
   ·exact .inr ⟨e,List.mem_cons_self,h.symm⟩
   ·exact .inr ⟨e',List.mem_cons_of_mem _ he,h⟩
  ·rintro (h | ⟨e',he,h⟩)
   ·exact .inl (.inl h)
   ·rcases List.mem_cons.1 he with rfl | he
    ·exact .inl (.inr h.symm)
    ·exact .inr ⟨e',he,h⟩
theorem zeD {xs:List zA} {es:List z6}:∀ {S:List Int},Xu xs S->(∀ e∈es,zG e.ino xs=true)->Xu xs (G4 S es):=by
 induction es with
 | nil=>intro S h _;exact h
 | cons e r ih=>intro S h he;exact ih (h.one (he e List.mem_cons_self)) fun e' h'=>he e' (List.mem_cons_of_mem _ h')
theorem vx {xs:List zA} (h3:∀ x∈xs,∀ e∈x.es,zG e.ino xs=true):∀ (m i:Nat) (S:List Int),Xu xs S->(∀ n∈S,∃ k,Dep xs k n)->Xu xs (UE xs m i S)/\∀ n∈UE xs m i S,∃ k,Dep xs k n
 | 0,i,S,h,hd=>by unfold UE;exact ⟨h,hd⟩
 | m+1,i,S,h,hd=>by
  unfold UE
  split
  ·rename_i n hn
   have hmem:=List.mem_of_getElem? hn
   have hh:=h.has n hmem
   obtain ⟨hm,_⟩:=jf hh
   obtain ⟨k,hk⟩:=hd n hmem
   refine vx h3 m (i+1) _ (zeD h fun e he=>h3 _ hm e he) fun n' hn'=>?_
   rcases zg2.1 hn' with h' | ⟨e,he,rfl⟩
   ·exact hd n' h'
   ·exact ⟨k+1,.step hk hh he⟩
  ·exact ⟨h,hd⟩
theorem zdL {S T:List Int} (hS:S.Nodup) (hs:∀ n∈S,n∈T) (hl:T.length<=S.length):∀ n∈T,n∈S:=by
 intro n hn
 by_cases h:n∈S
 ·exact h
 ·exfalso
  have:=Gk (S:=n :: S) (T:=T) (List.nodup_cons.2 ⟨h,hS⟩) fun m hm=>by
   rcases List.mem_cons.1 hm with rfl | hm
   ·exact hn
   ·exact hs m hm
  rw[List.length_cons]at this;omega
theorem zfK {f:FsV} (h:okV f) {n:Int} (hn:zG n f.xs=true):∃ k,Dep f.xs k n:=by
 obtain ⟨_,h1,_,h3,_,h5,_⟩:=qT h
 have hroot:Xu f.xs [1]:=⟨by simp,fun n hn=>by simp at hn;subst hn;exact h1.2.2.2.2.2.2.2.1⟩
 obtain ⟨g1,g2⟩:=vx h3 (f.xs.length+1) 0 [1] hroot fun n hn=>by simp at hn;subst hn;exact ⟨0,.root⟩
 have hS:=zdL (T:=f.xs.map (·.ino)) g1.nodup (fun m hm=>xH.1 (g1.has m hm)) (by rw[List.length_map];exact Nat.le_of_eq h5.symm) n (xH.1 hn)
 exact g2 n hS
theorem QI {xs:List zA} {n:Int} {e:z6} (hh:zG n xs=true) (he:e∈(zg n xs).es):(e.ino,n)∈qp xs:=by
 obtain ⟨hm,hi⟩:=jf hh
 unfold qp
 exact List.mem_flatMap.2 ⟨_,hm,List.mem_map.2 ⟨e,he,by rw[hi]⟩⟩
theorem zlZ {n p:Int} {l:List (Int×Int)} (h:(n,p)∈l):1<=Vv n l:=by
 unfold Vv
 exact List.length_pos_iff.2 (List.ne_nil_of_mem (List.mem_filter.2 ⟨h,by simp⟩))
theorem zdU {n p q:Int} {l:List (Int×Int)} (hp:(n,p)∈l) (hq:(n,q)∈l) (h:Vv n l=1):p=q:=by
 unfold Vv at h
 obtain ⟨x,hx⟩:=List.length_eq_one_iff.1 h
 have h1:(n,p)∈l.filter fun p=>p.1==n:=List.mem_filter.2 ⟨hp,by simp⟩
 have h2:(n,q)∈l.filter fun p=>p.1==n:=List.mem_filter.2 ⟨hq,by simp⟩
 rw[hx]at h1 h2
 simp only[List.mem_singleton]at h1 h2
 exact congrArg Prod.snd (h1.trans h2.symm)
theorem Hc {f:FsV} (h:okV f) {n:Int} (hh:zG n f.xs=true) {e:z6} (he:e∈(zg n f.xs).es):(zg n f.xs).kind=2:=by
 obtain ⟨_,_,h2,_⟩:=qT h
 obtain ⟨hm,_⟩:=jf hh
 by_cases hk:(zg n f.xs).kind=2
 ·exact hk
 ·have:=((h2 _ hm).2.1 hk).1
  rw[this]at he;cases he
theorem JE {f:FsV} (h:okV f) {n:Int} (hh:zG n f.xs=true) {e:z6} (he:e∈(zg n f.xs).es):e.ino≠1:=fun h1=>by
 obtain ⟨_,hf,_,_,h4,_⟩:=qT h
 obtain ⟨hm,hi⟩:=jf hf.2.2.2.2.2.2.2.1
 have hq:=(h4 _ hm).2
 rw[if_pos hi,hi]at hq
 have:=zlZ (QI hh he)
 rw[h1]at this;omega
theorem Gb {f:FsV} (h:okV f):∀ (k k':Nat) (n:Int),Dep f.xs k n->Dep f.xs k' n->zG n f.xs=true->(zg n f.xs).kind=2->k=k'
 | 0,0,_,_,_,_,_=>rfl
 | 0,k'+1,_,h1,h2,hh,hk=>by
  cases h1
  generalize hn:(1:Int)=n at h2
  cases h2 with
  | step a b c=>exact absurd hn.symm (JE h b c)
 | k+1,0,_,h1,h2,hh,hk=>by
  cases h2
  generalize hn:(1:Int)=n at h1
  cases h1 with
  | step a b c=>exact absurd hn.symm (JE h b c)
 | k+1,k'+1,n,h1,h2,hh,hk=>by
  obtain ⟨_,hf,_,_,h4,_⟩:=qT h
  cases h1 with
  | @step _ p e a b c =>
   generalize hn:e.ino=n at h2 hh hk
   cases h2 with
   | @step _ p' e' a' b' c' =>
    have hp:=QI b c
    have hp':=QI b' c'
    rw[hn]at hp
    obtain ⟨hm,hi⟩:=jf hh
    have hq:=(h4 _ hm).2
    rw[hi]at hq
    have hne:e'.ino≠1:=JE h b' c'
    rw[if_neg hne]at hq
    have:=zdU hp hp' (hq.2 hk).1
    subst this
    rw[Gb h k k' p a a' b (Hc h b c)]
end
section
theorem UB (n:Int):∀ xs:List zA,Vv n (qp xs)=JM n xs
 | []=>rfl
 | x :: r=>by
  have ih:=UB n r
  unfold JM MY at ih ⊢
  unfold qp at ih ⊢
  rw[List.flatMap_cons,List.map_cons,List.sum_cons,←ih]
  unfold Vv JV
  rw[List.filter_append,List.length_append]
  congr 1
  induction x.es with
  | nil=>rfl
  | cons e es ie =>
   unfold Vy at ie ⊢
   rw[List.map_cons,List.filter_cons,List.filter_cons]
   by_cases h:e.ino=n
   ·simp only[h,beq_self_eq_true,if_true,decide_true,List.length_cons,ie]
   ·simp only[show (e.ino==n)=false from beq_eq_false_iff_ne.2 h,decide_eq_false h,Bool.false_eq_true,if_false,ie]
theorem Z9 {f:FsV} (h:Yf f=0):Jy f/\Y0 f/\YU f/\Xf f/\Zh f/\HQ f:=by
 unfold Yf at h
 split at h
 ·split at h
  ·split at h
   ·split at h
    ·split at h
     ·split at h
      ·exact ⟨by assumption,by assumption,by assumption,by assumption,by assumption,by assumption⟩
      ·cases h
     ·cases h
    ·cases h
   ·cases h
  ·cases h
 ·cases h
theorem NX {es:List z6} (h:Xn es):JA es:=by
 have hadj:∀ i (h1:i+1<es.length),Op.bytesLess es[i].name es[i+1].name=true:=fun i h1=>(h (i+1) h1).2.2 (by omega)
 have key:∀ (d i:Nat) (h1:i+d+1<es.length),Op.bytesLess (es[i]'(by omega)).name es[i+d+1].name=true:=by
  intro d
  induction d with
  | zero=>intro i h1;exact hadj i h1
  | succ d ih=>intro i h1;exact GE (ih i (by omega)) (hadj (i+d+1) (by omega))
 refine List.pairwise_iff_getElem.2 fun i j hi hj hij=>?_
 have:=key (j-i-1) i (by omega)
 have e:i+(j-i-1)+1=j:=by omega
 simp only[e]at this
 exact this
theorem zco {f:FsV} (h:Yf f=0):FsI f:=by
 obtain ⟨h1,h2,h3,h4,h5,h6⟩:=Z9 h
 obtain ⟨a1,a2,a3,a4,a5,a6,a7,a8,a9⟩:=h1
 refine ⟨a7,a6,fun x hx=>(h2 x hx).1,fun x hx=>?_,fun x hx hk=>((h2 x hx).2.1 hk).1,h3,fun x hx=>?_,a8,a9,?_⟩
 ·by_cases hk:x.kind=2
  ·exact NX ((h2 x hx).2.2.1 hk).2
  ·rw[((h2 x hx).2.1 hk).1];exact List.Pairwise.nil
 ·rw[(h4 x hx).1,UB]
 ·obtain ⟨b1,b2⟩:=jf a8
  have q:=(h4 _ b1).2
  rw[b2,if_pos rfl,UB]at q
  exact q.1
theorem zpB {w:qy} (h:okW w):Xl w:=by
 obtain ⟨h1,h2,h3,h4,h5⟩:=h.2
 exact ⟨zco h1,h4.1,h2,fun x hx=>⟨(h3 x hx).1,(h3 x hx).2.2.1⟩⟩
theorem zlB {w:qy} (h:okW w):zbi 40 w:=by
 obtain ⟨⟨g1,g2,g3,g4⟩,h1,_⟩:=h
 obtain ⟨a1,a2,a3,a4,a5,_⟩:=(Z9 h1).1
 exact ⟨g2.1,fun x hx=>by obtain ⟨q1,q2,q3⟩:=g2.2 x hx;exact ⟨q2,q1,q3⟩,g4,g1,g3.1,fun x hx=>by obtain ⟨q1,q2,q3⟩:=g3.2 x hx;exact ⟨q2,q1,q3⟩,by omega,by omega⟩
theorem zbi.s {N:Nat} {w:qy} (h:zbi N w) (hi:Xl w) (hN:N<=10000):VI w:=by
 have hr:=zbW hi.fs
 have hn:=h.next
 exact ⟨⟨by have:=h.len;omega,fun x hx=>by obtain ⟨q1,q2,q3⟩:=h.node x hx;exact ⟨by omega,by omega,fun e he=>by have:=q3 e he;omega⟩⟩,⟨by omega,by omega⟩,by have:=h.klen;omega,by have:=h.plen;omega⟩
def Hs (d:qC) (i:Nat) (o:OpV):qC:=
 if o.kind<1 then d else if (jT d o).2=0 then (jT d o).1 else Xb d (YI (1+((i % 5:Nat):Int)) (1+((i % 22:Nat):Int)) o.a o.b (jT d o).2)
def mkD (w:qy) (l:List OpV):Nat->qC
 | 0=>zfD w
 | i+1=>match l[i]? with
  | some o=>Hs (mkD w l i) i o
  | none=>mkD w l i
structure OpS (o:OpV):Prop where
 a:o.a.length<=1000
 b:o.b.length<=1000
 d:o.d.length<=5000
structure XD (N:Nat) (d:qC):Prop where
 wi:Xl d.w
 wb:zbi (40+N) d.w
 ops:d.ops.length<=N
 diags:d.diags.length<=N
 slot:0<=d.slot/\d.slot<=1073741824+N
theorem XD.s {N:Nat} {d:qC} (h:XD N d) (hN:N<=9000):Xp d:=
 ⟨h.wi,h.wb.s h.wi (by omega),by have:=h.ops;omega,by have:=h.diags;omega,h.slot.1,by have:=h.slot.2;omega⟩
theorem XD.up {N:Nat} {d:qC} (h:XD N d):XD (N+1) d:=⟨h.wi,h.wb.up,by have:=h.ops;omega,by have:=h.diags;omega,h.slot.1,by have:=h.slot.2;omega⟩
theorem NA {d:qC} {o:OpV} (h:(jT d o).2≠0):(jT d o).1=d:=by
 unfold jT at h ⊢
 split
 ·rfl
 ·split
  ·rfl
  ·rename_i h1 h2;rw[if_neg h1,if_neg h2]at h;exact absurd rfl h
theorem zoi {N:Nat} {d:qC} (h:XD N d) {o:OpV} (ho:o.d.length<=5000):XD (N+1) (jT d o).1:=by
 by_cases hz:(jT d o).2=0
 case neg=>rw[NA hz];exact h.up
 unfold jT at hz ⊢
 split at hz
 ·exact absurd hz (show ¬(12:Int)=0 by decide)
 rename_i hk
 rw[if_neg hk]
 split at hz
 ·rename_i hd;exact absurd hz hd
 rename_i hd
 rw[if_neg hd]
 have hs:=h.slot
 have hk7:(Yn d o).kind<=7:=by show o.kind<=7;omega
 refine ⟨zpY h.wi _ hk7,doB h.wi h.wb _ ho hk7,by simp;exact h.ops,by have:=h.diags;simp only;omega,?_⟩
 simp only
 unfold Yn
 simp only
 split<;>split<;>omega
theorem zky {N:Nat} {d:qC} (h:XD N d) {i:Nat} {o:OpV} (ho:o.d.length<=5000):XD (N+1) (Hs d i o):=by
 unfold Hs
 split
 ·exact h.up
 ·split
  ·exact zoi h ho
  ·have:=h.up
   exact ⟨this.wi,this.wb,this.ops,by unfold Xb;simp;exact h.diags,this.slot⟩
theorem zhx {w:qy} (h:okW w) (hl:jM w.kept<=1073741824) {l:List OpV} (hd:∀ o∈l,o.d.length<=5000):∀ i,XD i (mkD w l i)
 | 0=>⟨zpB h,zlB h,Nat.zero_le _,Nat.zero_le _,(Uw h.2.2.2.2.1).1,by show jM w.kept<=_;omega⟩
 | i+1=>by
  have ih:=zhx h hl hd i
  show XD (i+1) (match l[i]? with | some o=>Hs (mkD w l i) i o | none=>mkD w l i)
  cases hg:l[i]? with
  | none=>exact ih.up
  | some o=>exact zky ih (hd o (List.mem_of_getElem? hg))
theorem zgj {w:qy} {l:List OpV} {i:Nat} (h:i<l.length):mkD w l (i+1)=Hs (mkD w l i) i l[i]:=by
 show (match l[i]? with | some o=>Hs (mkD w l i) i o | none=>mkD w l i)=_
 rw[List.getElem?_eq_getElem h]
end
section
theorem Nt {f:FsV} (h:okV f):∀ (k:Nat) (n:Int),Dep f.xs k n->zG n f.xs=true->(zg n f.xs).kind=2->∃ L:List Int,L.length=k+1/\L.Nodup/\(∀ m∈L,zG m f.xs=true)/\∀ m∈L,(zg m f.xs).kind=2/\∃ j,j<=k/\Dep f.xs j m
 | 0,n,hd,hh,hk=>⟨[n],rfl,by simp,fun m hm=>by simp at hm;subst hm;exact hh,fun m hm=>by simp at hm;subst hm;exact ⟨hk,0,Nat.le_refl _,hd⟩⟩
 | k+1,_,hd,hh,hk=>by
  generalize hn:k+1=k1 at hd
  cases hd with
  | root=>cases hn
  | @step k0 p e a b c =>
   obtain rfl:k=k0:=by omega
   obtain ⟨L,l1,l2,l3,l4⟩:=Nt h k p a b (Hc h b c)
   refine ⟨e.ino :: L,by simp[l1],List.nodup_cons.2 ⟨fun hm=>?_,l2⟩,fun m hm=>?_,fun m hm=>?_⟩
   ·obtain ⟨_,j,hj,hd⟩:=l4 _ hm
    have:=Gb h _ _ _ hd (.step a b c) hh hk
    omega
   ·rcases List.mem_cons.1 hm with rfl | hm
    ·exact hh
    ·exact l3 m hm
   ·rcases List.mem_cons.1 hm with rfl | hm
    ·exact ⟨hk,k+1,Nat.le_refl _,.step a b c⟩
    ·obtain ⟨q1,j,q2,q3⟩:=l4 m hm
     exact ⟨q1,j,by omega,q3⟩
theorem zfa {f:FsV} (h:okV f) {k:Nat} {n:Int} (hd:Dep f.xs k n) (hh:zG n f.xs=true) (hk:(zg n f.xs).kind=2):k<f.xs.length:=by
 obtain ⟨L,l1,l2,l3,_⟩:=Nt h k n hd hh hk
 have:=Gw l2 l3
 omega
def jl (xs:List zA):Nat->Int->List (List UInt8)->Jx
 | 0,_,_=>[]
 | m+1,n,ns=>if zG n xs then (ns,zg n xs) :: (zg n xs).es.flatMap (fun e=>jl xs m e.ino (ns++[e.name])) else []
theorem Qf {α β:Type} {l:List α} {g g':α->List β} (h:∀ a∈l,g a=g' a):l.flatMap g=l.flatMap g':=by
 induction l with
 | nil=>rfl
 | cons a r ih=>rw[List.flatMap_cons,List.flatMap_cons,h a List.mem_cons_self,ih fun b hb=>h b (List.mem_cons_of_mem _ hb)]
theorem MH {f:FsV} (h:okV f):∀ (m m' k:Nat) (n:Int) (ns:List (List UInt8)),Dep f.xs k n->k<=f.xs.length->f.xs.length+1<=m+k->f.xs.length+1<=m'+k->jl f.xs m n ns=jl f.xs m' n ns
 | 0,m',k,n,ns,hd,hk,h1,h2=>by omega
 | m+1,0,k,n,ns,hd,hk,h1,h2=>by omega
 | m+1,m'+1,k,n,ns,hd,hk,h1,h2=>by
  unfold jl
  split
  ·rename_i hh
   congr 1
   refine Qf fun e he=>?_
   have hdir:=Hc h hh he
   have hlt:=zfa h hd hh hdir
   exact MH h m m' (k+1) e.ino _ (.step hd hh he) (by omega) (by omega) (by omega)
  ·rfl
abbrev trV (xs:List zA):Int->List (List UInt8)->Jx:=jl xs (xs.length+1)
theorem zja {f:FsV} (h:okV f) {n:Int} (hh:zG n f.xs=true):∃ k,k<=f.xs.length/\Dep f.xs k n:=by
 obtain ⟨k,hd⟩:=zfK h hh
 refine ⟨k,?_,hd⟩
 cases hd with
 | root=>exact Nat.zero_le _
 | step a b c=>exact zfa h a b (Hc h b c)
theorem zjI {f:FsV} (h:okV f):vJ f (trV f.xs):=⟨fun n ns hh=>by
 obtain ⟨k,hk,hd⟩:=zja h hh
 show jl f.xs (f.xs.length+1) n ns=_
 rw[jl,if_pos hh]
 congr 1
 refine Qf fun e he=>?_
 have hlt:=zfa h hd hh (Hc h hh he)
 exact MH h _ _ (k+1) e.ino _ (.step hd hh he) (by omega) (by omega) (by omega),fun n ns hh=>by
 show jl f.xs (f.xs.length+1) n ns=_
 rw[jl,if_neg (by rw[hh];decide)]⟩
theorem zk5 {f:FsV} (h:okV f):zb5 f (trV f.xs):=by
 obtain ⟨p0,p1,p2,p3,_⟩:=qT h
 exact ⟨zjI h,p0,p1.2.2.2.2.2.2.1,p3,fun x hx hk=>((p2 x hx).2.1 hk).1⟩
end
section
theorem zaI (ns:List (List UInt8)) (x:List UInt8) (hne:∀ y∈ns,y≠[]):qY (ns++[x])=va (qY ns) x:=by
 have hj:=Mb (ns++[x]) ns.length x (by simp)
 rw[List.take_of_length_le (by simp),List.take_left' rfl]at hj
 unfold qY
 rw[if_neg (by simp),hj]
 by_cases h:ns = []
 ·subst h;rfl
 ·have hl:ns.length≠0:=fun h0=>h (List.eq_nil_of_length_eq_zero h0)
  rw[if_neg hl,if_neg h]
  have hne47:(47 :: Lib.join ns [47])≠[47]:=fun he=>by
   have h1:Lib.join ns [47] = []:=(List.cons.inj he).2
   have h2:=XW ns h
   rw[h1]at h2
   cases ns with
   | nil=>exact h rfl
   | cons y r =>
    have:=List.length_pos_iff.2 (hne y List.mem_cons_self)
    simp at h2;omega
  unfold va
  rw[if_neg hne47]
  simp
end
section
inductive Anc (xs:List zA) (n:Int):Nat->Int->Prop
 | same:Anc xs n 0 n
 | step {j:Nat} {p:Int} {e:z6}:Anc xs n j p->zG p xs=true->e∈(zg p xs).es->Anc xs n (j+1) e.ino
theorem Anc.dep {xs:List zA} {n:Int} {k:Nat} (hd:Dep xs k n):∀ {j:Nat} {d:Int},Anc xs n j d->Dep xs (k+j) d
 | _,_,.same=>hd
 | _,_,.step a b c=>.step (a.dep hd) b c
theorem Anc.up {xs:List zA} {n:Int} {e:z6} (hh:zG n xs=true) (he:e∈(zg n xs).es):∀ {j:Nat} {d:Int},Anc xs e.ino j d->Anc xs n (j+1) d
 | _,_,.same=>.step .same hh he
 | _,_,.step a b c=>.step (a.up hh he) b c
theorem Xe {xs:List zA}:∀ (m:Nat) (n:Int) (ns:List (List UInt8)),∀ p∈jl xs m n ns,∃ j,Anc xs n j p.2.ino/\zG p.2.ino xs=true/\zg p.2.ino xs=p.2
 | 0,n,ns,p,hp=>by cases hp
 | m+1,n,ns,p,hp=>by
  unfold jl at hp
  split at hp
  ·rename_i hh
   obtain ⟨_,hi⟩:=jf hh
   rcases List.mem_cons.1 hp with rfl | hp
   ·exact ⟨0,by rw[hi];exact .same,by rw[hi];exact hh,by rw[hi]⟩
   ·obtain ⟨e,he,hp⟩:=List.mem_flatMap.1 hp
    obtain ⟨j,q1,q2⟩:=Xe m _ _ p hp
    exact ⟨j+1,q1.up hh he,q2⟩
  ·cases hp
theorem vm {f:FsV} (h:okV f) {a b:Int}:∀ (j:Nat) (d:Int),Anc f.xs a j d->Anc f.xs b j d->zG d f.xs=true->(zg d f.xs).kind=2->a=b/\zG a f.xs=true/\(zg a f.xs).kind=2
 | 0,d,h1,h2,hh,hk=>by
  cases h1;cases h2
  exact ⟨rfl,hh,hk⟩
 | j+1,d,h1,h2,hh,hk=>by
  obtain ⟨_,_,_,_,h4,_⟩:=qT h
  cases h1 with
  | @step _ p e x y z =>
   generalize hn:e.ino=d at h2 hh hk
   cases h2 with
   | @step _ p' e' x' y' z' =>
    have hp:=QI y z
    have hp':=QI y' z'
    rw[hn]at hp
    obtain ⟨hm,hi⟩:=jf hh
    have hq:=(h4 _ hm).2
    rw[hi,if_neg (JE h y' z')]at hq
    have:=zdU hp hp' (hq.2 hk).1
    subst this
    exact vm h j p x x' y (Hc h y z)
theorem zjY {xs:List zA} {n:Int} {e e':z6} (hh:zG n xs=true) (hs:[e,e'].Sublist (zg n xs).es) (hi:e.ino=e'.ino):2<=Vv e.ino (qp xs):=by
 obtain ⟨hm,hino⟩:=jf hh
 have h1:([e,e'].map fun e=>(e.ino,(zg n xs).ino)).Sublist (Vy (zg n xs) (zg n xs).es):=hs.map _
 obtain ⟨i,hi',hx⟩:=List.getElem_of_mem hm
 have h2:(Vy (zg n xs) (zg n xs).es).Sublist (qp xs):=by
  obtain ⟨s,t,hst⟩:=List.append_of_mem hm
  unfold qp
  conv=>rhs;rw[hst]
  rw[List.flatMap_append,List.flatMap_cons]
  exact (List.sublist_append_left _ _).trans (List.sublist_append_right _ _)
 have h3:=((h1.trans h2).filter fun p=>p.1==e.ino).length_le
 unfold Vv
 simpa [hi] using h3
abbrev YD (l:Jx):List Int:=(l.filter fun p=>decide (p.2.kind=2)).map fun p=>p.2.ino
theorem VD {l:Jx} {d:Int} (h:d∈YD l):∃ p∈l,p.2.kind=2/\p.2.ino=d:=by
 obtain ⟨p,hp,rfl⟩:=List.mem_map.1 h
 obtain ⟨h1,h2⟩:=List.mem_filter.1 hp
 exact ⟨p,h1,of_decide_eq_true h2,rfl⟩
theorem X4 {f:FsV} (h:okV f):∀ (m:Nat) (n:Int) (ns:List (List UInt8)),zG n f.xs=true->(YD (jl f.xs m n ns)).Nodup
 | 0,n,ns,_=>List.nodup_nil
 | m+1,n,ns,hh=>by
  obtain ⟨k,hd⟩:=zfK h hh
  obtain ⟨_,_,_,h3,h4,_⟩:=qT h
  obtain ⟨hm,hi⟩:=jf hh
  have key:∀ L:List z6,L.Sublist (zg n f.xs).es->(YD (L.flatMap fun e=>jl f.xs m e.ino (ns++[e.name]))).Nodup:=by
   intro L
   induction L with
   | nil=>intro _;exact List.nodup_nil
   | cons e r ih =>
    intro hs
    have he:e∈(zg n f.xs).es:=hs.subset List.mem_cons_self
    have hr:r.Sublist (zg n f.xs).es:=(List.sublist_cons_self e r).trans hs
    have hap:YD ((e :: r).flatMap fun e=>jl f.xs m e.ino (ns++[e.name]))=YD (jl f.xs m e.ino (ns++[e.name]))++YD (r.flatMap fun e=>jl f.xs m e.ino (ns++[e.name])):=by
     rw[List.flatMap_cons];unfold YD;rw[List.filter_append,List.map_append]
    rw[hap,List.nodup_append]
    refine ⟨X4 h m e.ino _ (h3 _ hm e he),ih hr,fun d hd1 d' hd2 hdd=>?_⟩
    subst hdd
    obtain ⟨p,p1,p2,rfl⟩:=VD hd1
    obtain ⟨p',p1',p2',p3'⟩:=VD hd2
    obtain ⟨e',he',p1'⟩:=List.mem_flatMap.1 p1'
    obtain ⟨j,a1,a2,a3⟩:=Xe m _ _ p p1
    obtain ⟨j',b1,b2,b3⟩:=Xe m _ _ p' p1'
    rw[p3']at b1
    have hk:(zg p.2.ino f.xs).kind=2:=by rw[a3];exact p2
    have hdep:=Gb h _ _ _ (a1.dep (.step hd hh he)) (b1.dep (.step hd hh (hr.subset he'))) a2 hk
    obtain rfl:j=j':=by omega
    obtain ⟨q1,q2,q3⟩:=vm h j _ a1 b1 a2 hk
    have hs2:[e,e'].Sublist (zg n f.xs).es:=(List.Sublist.cons_cons e (List.singleton_sublist.2 he')).trans hs
    have h2:=zjY hh hs2 q1
    obtain ⟨hm2,hi2⟩:=jf q2
    have hq:=(h4 _ hm2).2
    rw[hi2,if_neg (JE h hh he)]at hq
    have:=(hq.2 q3).1
    omega
  unfold jl
  rw[if_pos hh]
  by_cases hk:(zg n f.xs).kind=2
  ·have hc:YD ((ns,zg n f.xs) :: (zg n f.xs).es.flatMap fun e=>jl f.xs m e.ino (ns++[e.name]))=n :: YD ((zg n f.xs).es.flatMap fun e=>jl f.xs m e.ino (ns++[e.name])):=by
    unfold YD
    rw[List.filter_cons_of_pos (by simpa using hk),List.map_cons,hi]
   rw[hc,List.nodup_cons]
   refine ⟨fun hmem=>?_,key _ (List.Sublist.refl _)⟩
   obtain ⟨p,p1,p2,p3⟩:=VD hmem
   obtain ⟨e,he,p1⟩:=List.mem_flatMap.1 p1
   obtain ⟨j,a1,a2,a3⟩:=Xe m _ _ p p1
   rw[p3]at a1
   have:=Gb h _ _ _ (a1.dep (.step hd hh he)) hd hh hk
   omega
  ·have hc:YD ((ns,zg n f.xs) :: (zg n f.xs).es.flatMap fun e=>jl f.xs m e.ino (ns++[e.name]))=YD ((zg n f.xs).es.flatMap fun e=>jl f.xs m e.ino (ns++[e.name])):=by
    unfold YD
    rw[List.filter_cons_of_neg (by simpa using hk)]
   rw[hc]
   exact key _ (List.Sublist.refl _)
end
section
def VQ (l:Jx):Nat:=(l.map fun p=>p.2.es.length).sum
theorem zdC (a b:Jx):VQ (a++b)=VQ a+VQ b:=by unfold VQ;rw[List.map_append,List.sum_append]
theorem un {xs:List zA}:∀ (m:Nat) (n:Int) (ns:List (List UInt8)),(jl xs m n ns).length<=1+VQ (jl xs m n ns)
 | 0,n,ns=>Nat.zero_le _
 | m+1,n,ns=>by
  unfold jl
  split
  ·have key:∀ L:List z6,(L.flatMap fun e=>jl xs m e.ino (ns++[e.name])).length<=L.length+VQ (L.flatMap fun e=>jl xs m e.ino (ns++[e.name])):=by
    intro L
    induction L with
    | nil=>exact Nat.le_refl _
    | cons e r ih =>
     rw[List.flatMap_cons,List.length_append,zdC,List.length_cons]
     have:=un (xs:=xs) m e.ino (ns++[e.name])
     omega
   have:=key (zg n xs).es
   have hs:∀ l:Jx,VQ ((ns,zg n xs) :: l)=(zg n xs).es.length+VQ l:=fun l=>by unfold VQ;rw[List.map_cons,List.sum_cons]
   rw[List.length_cons,hs]
   omega
  ·exact Nat.zero_le _
theorem zfZ {l:Jx} (h:∀ p∈l,p.2.es.length<=40/\(p.2.kind≠2->p.2.es = [])):VQ l<=40*(YD l).length:=by
 induction l with
 | nil=>exact Nat.zero_le _
 | cons p r ih =>
  have hp:=h p List.mem_cons_self
  have ih:=ih fun q hq=>h q (List.mem_cons_of_mem _ hq)
  unfold VQ at ih ⊢
  rw[List.map_cons,List.sum_cons]
  unfold YD at ih ⊢
  by_cases hk:p.2.kind=2
  ·rw[List.filter_cons_of_pos (by simpa using hk),List.map_cons,List.length_cons];omega
  ·rw[List.filter_cons_of_neg (by simpa using hk),hp.2 hk]
   simpa using ih
theorem zh3 {f:FsV} (h:okV f) (m:Nat) (n:Int) (ns:List (List UInt8)):(jl f.xs m n ns).length<=1601:=by
 obtain ⟨h0,_,h2,_⟩:=qT h
 cases hh:zG n f.xs with
 | false =>
  cases m with
  | zero=>exact Nat.zero_le _
  | succ m=>unfold jl;rw[hh];exact Nat.zero_le _
 | true =>
  have h1:=un (xs:=f.xs) m n ns
  have hg:∀ p∈jl f.xs m n ns,p.2∈f.xs:=fun p hp=>by
   obtain ⟨j,_,q2,q3⟩:=Xe m n ns p hp
   rw[←q3];exact (jf q2).1
  have hs:=zfZ (l:=jl f.xs m n ns) fun p hp=>⟨(h0.2 _ (hg p hp)).2.1,fun hk=>((h2 _ (hg p hp)).2.1 hk).1⟩
  have hd:=Gw (X4 h m n ns hh) fun d hd=>by
   obtain ⟨p,p1,_,rfl⟩:=VD hd
   obtain ⟨_,_,q2,_⟩:=Xe m n ns p p1
   exact q2
  have:=h0.1
  omega
def zfY (ns:List (List UInt8)):Nat:=(ns.map fun x=>x.length+1).sum
theorem NS (ns:List (List UInt8)) (x:List UInt8):zfY (ns++[x])=zfY ns+(x.length+1):=by
 unfold zfY;rw[List.map_append,List.sum_append];simp
theorem ZT {xs:List zA} (h0:Vk xs):∀ (m:Nat) (n:Int) (ns:List (List UInt8)),∀ p∈jl xs m n ns,p.1.length<=ns.length+m/\zfY p.1<=zfY ns+m*301
 | 0,n,ns,p,hp=>by cases hp
 | m+1,n,ns,p,hp=>by
  unfold jl at hp
  split at hp
  ·rename_i hh
   obtain ⟨hm,_⟩:=jf hh
   rcases List.mem_cons.1 hp with rfl | hp
   ·exact ⟨Nat.le_add_right _ _,Nat.le_add_right _ _⟩
   ·obtain ⟨e,he,hp⟩:=List.mem_flatMap.1 hp
    obtain ⟨q1,q2⟩:=ZT h0 m _ _ p hp
    have:=(h0.2 _ hm).2.2 e he
    rw[NS]at q2
    rw[List.length_append,List.length_singleton]at q1
    exact ⟨by omega,by omega⟩
  ·cases hp
theorem Q9 (ns:List (List UInt8)):(Lib.join ns [47]).length<=zfY ns:=by
 by_cases h:ns = []
 ·subst h;exact Nat.zero_le _
 ·have:=XW ns h
  unfold zfY;omega
theorem zit {f:FsV} (h:okV f) (n:Int) (ns:List (List UInt8)) (h1:ns.length<=100000) (h2:zfY ns<=100000):xN (trV f.xs) n ns:=by
 obtain ⟨h0,_⟩:=qT h
 refine ⟨Nat.le_trans (zh3 h _ n ns) (by decide),fun p hp=>?_⟩
 obtain ⟨q1,q2⟩:=ZT h0 _ n ns p hp
 have:=Q9 p.1
 have:=h0.1
 exact ⟨by omega,by omega⟩
end
section
theorem kP {xs:List zA}:∀ (m:Nat) (n:Int) (ns:List (List UInt8)) (j:Nat) (d:Int),Anc xs n j d->j<m->zG n xs=true->(∀ x∈xs,∀ e∈x.es,zG e.ino xs=true)->∃ p∈jl xs m n ns,p.2.ino=d
 | 0,n,ns,j,d,ha,hj,hh,h3=>by omega
 | m+1,n,ns,0,d,ha,hj,hh,h3=>by
  cases ha
  obtain ⟨_,hi⟩:=jf hh
  refine ⟨(ns,zg n xs),?_,hi⟩
  unfold jl
  rw[if_pos hh]
  exact List.mem_cons_self
 | m+1,n,ns,j+1,d,ha,hj,hh,h3=>by
  have key:∀ (j:Nat) (d:Int),Anc xs n (j+1) d->∃ e∈(zg n xs).es,Anc xs e.ino j d:=by
   intro j
   induction j with
   | zero =>
    intro d ha
    cases ha with
    | step a b c=>cases a;exact ⟨_,c,.same⟩
   | succ j ih =>
    intro d ha
    cases ha with
    | step a b c =>
     obtain ⟨e,he,h⟩:=ih _ a
     exact ⟨e,he,.step h b c⟩
  obtain ⟨e,he,h⟩:=key j d ha
  obtain ⟨hm,_⟩:=jf hh
  obtain ⟨p,p1,p2⟩:=kP m e.ino (ns++[e.name]) j d h (by omega) (h3 _ hm e he) h3
  refine ⟨p,?_,p2⟩
  unfold jl
  rw[if_pos hh]
  exact List.mem_cons_of_mem _ (List.mem_flatMap.2 ⟨e,he,p1⟩)
theorem zdu {xs:List zA}:∀ {k:Nat} {n:Int},Dep xs k n->Anc xs 1 k n
 | _,_,.root=>.same
 | _,_,.step a b c=>.step (zdu a) b c
theorem zjs {f:FsV} (h:okV f) {n:Int} (hh:zG n f.xs=true):∃ p∈trV f.xs 1 [],p.2.ino=n:=by
 obtain ⟨_,h1,_,h3,_⟩:=qT h
 obtain ⟨k,hk,hd⟩:=zja h hh
 exact kP _ 1 [] k n (zdu hd) (by omega) h1.2.2.2.2.2.2.2.1 h3
theorem MJ {f:FsV} {m:Nat} {n:Int} {ns:List (List UInt8)} {p:List (List UInt8)×zA} (hp:p∈jl f.xs m n ns):zG p.2.ino f.xs=true/\zg p.2.ino f.xs=p.2:=by
 obtain ⟨_,_,q⟩:=Xe m n ns p hp
 exact q
theorem Gf:∀ {l:Jx} {n:Int},(YD l).Nodup->(∀ p∈l,p.2.ino=n->p.2.kind=2)->(∃ p∈l,p.2.ino=n)->∃ p,l.filter (fun p=>decide (p.2.ino=n)) = [p]
 | [],n,_,_,⟨p,hp,_⟩=>by cases hp
 | q :: l,n,hn,hk,hex=>by
  have hk':∀ p∈l,p.2.ino=n->p.2.kind=2:=fun p hp=>hk p (List.mem_cons_of_mem _ hp)
  by_cases hq:q.2.ino=n
  ·have hk2:=hk q List.mem_cons_self hq
   have hc:YD (q :: l)=q.2.ino :: YD l:=by
    unfold YD;rw[List.filter_cons_of_pos (by simpa using hk2),List.map_cons]
   rw[hc,List.nodup_cons,hq]at hn
   have he:l.filter (fun p=>decide (p.2.ino=n)) = []:=by
    rw[List.filter_eq_nil_iff]
    intro p hp hpn
    have hpn:=of_decide_eq_true hpn
    refine hn.1 ?_
    exact List.mem_map.2 ⟨p,List.mem_filter.2 ⟨hp,by simpa using hk' p hp hpn⟩,hpn⟩
   exact ⟨q,by rw[List.filter_cons_of_pos (by simpa using hq),he]⟩
  ·have hn':(YD l).Nodup:=by
    unfold YD at hn ⊢
    by_cases hk2:q.2.kind=2
    ·rw[List.filter_cons_of_pos (by simpa using hk2),List.map_cons,List.nodup_cons]at hn;exact hn.2
    ·rw[List.filter_cons_of_neg (by simpa using hk2)]at hn;exact hn
   obtain ⟨p,hp,hpn⟩:=hex
   have hpl:p∈l:=by
    rcases List.mem_cons.1 hp with rfl | hp
    ·exact absurd hpn hq
    ·exact hp
   obtain ⟨p',h⟩:=Gf hn' hk' ⟨p,hpl,hpn⟩
   exact ⟨p',by rw[List.filter_cons_of_neg (by simpa using hq)];exact h⟩
theorem zfx {f:FsV} (h:okV f) {n:Int} (hh:zG n f.xs=true) (hk:(zg n f.xs).kind=2):∃ p,UY n (trV f.xs 1 []) = [p]/\ku n (trV f.xs 1 [])=some p:=by
 obtain ⟨_,h1,_⟩:=qT h
 have hkk:∀ p∈trV f.xs 1 [],p.2.ino=n->p.2.kind=2:=fun p hp hpn=>by
  obtain ⟨_,q⟩:=MJ hp
  rw[hpn]at q;rw[←q];exact hk
 obtain ⟨p,hp⟩:=Gf (X4 h _ 1 [] h1.2.2.2.2.2.2.2.1) hkk (zjs h hh)
 refine ⟨qY p.1,by unfold UY;rw[hp];rfl,?_⟩
 unfold ku
 have he:(fun q:List (List UInt8)×zA=>decide (q.2.ino=n)&&decide (q.2.kind=2))=fun q=>decide (q.2.ino=n)&&decide (q.2.kind=2):=rfl
 rw[←List.head?_filter]
 have hf:(trV f.xs 1 []).filter (fun q=>decide (q.2.ino=n)&&decide (q.2.kind=2))=(trV f.xs 1 []).filter fun q=>decide (q.2.ino=n):=by
  refine List.filter_congr fun q hq=>?_
  by_cases hqn:q.2.ino=n
  ·simp[hqn,hkk q hq hqn]
  ·simp[hqn]
 rw[hf,hp];rfl
end
section
theorem vj {xs:List zA} (hm:∀ x∈xs,∀ e∈x.es,may e.name=true):∀ (m:Nat) (n:Int) (ns:List (List UInt8)),∀ p∈jl xs m n ns,∃ zs,p.1=ns++zs/\∀ z∈zs,may z=true
 | 0,n,ns,p,hp=>by unfold jl at hp;cases hp
 | m+1,n,ns,p,hp=>by
  unfold jl at hp
  split at hp
  ·rename_i hh
   rcases List.mem_cons.1 hp with rfl | hp
   ·exact ⟨[],by simp,fun z hz=>by cases hz⟩
   ·obtain ⟨e,he,hp⟩:=List.mem_flatMap.1 hp
    obtain ⟨zs,h1,h2⟩:=vj hm m e.ino _ p hp
    refine ⟨e.name :: zs,by rw[h1,List.append_assoc];rfl,fun z hz=>?_⟩
    rcases List.mem_cons.1 hz with rfl | hz
    ·exact hm _ (jf hh).1 e he
    ·exact h2 z hz
  ·cases hp
theorem zcJ {es:List z6} (h:Xn es):es.Pairwise fun a b=>a.name≠b.name:=by
 have key:∀ (d i:Nat) (hj:i+d+1<es.length),es[i].name<es[i+d+1].name:=by
  intro d
  induction d with
  | zero =>
   intro i hj
   have h1:=(h (i+1) hj).2.2 (by omega)
   rw[bytesLess_eq]at h1
   exact of_decide_eq_true h1
  | succ d ih =>
   intro i hj
   have h1:=(h (i+(d+1)+1) hj).2.2 (by omega)
   rw[bytesLess_eq]at h1
   have h1:=of_decide_eq_true h1
   have h2:=ih i (by omega)
   exact List.lt_trans h2 h1
 refine List.pairwise_iff_getElem.2 fun i j hi hj hij he=>?_
 obtain ⟨d,rfl⟩:∃ d,j=i+d+1:=⟨j-i-1,by omega⟩
 have h1:=key d i hj
 rw[he]at h1
 exact List.lt_irrefl _ h1
theorem xR {f:FsV} (h:okV f):(∀ x∈f.xs,∀ e∈x.es,may e.name=true)/\∀ x∈f.xs,x.es.Pairwise fun a b=>a.name≠b.name:=by
 obtain ⟨_,_,h2,_⟩:=qT h
 have key:∀ x∈f.xs,Xn x.es:=fun x hx=>by
  by_cases hk:x.kind=2
  ·exact ((h2 x hx).2.2.1 hk).2
  ·rw[((h2 x hx).2.1 hk).1];intro i hi;simp at hi
 refine ⟨fun x hx e he=>?_,fun x hx=>zcJ (key x hx)⟩
 obtain ⟨i,hi,rfl⟩:=List.getElem_of_mem he
 exact (key x hx i hi).1
end
section
open CA CB
open Go.RowKit
def xv (p n:List UInt8):List UInt8:=if Lib.hasSuffix p [47] then p++n else p++[47]++n
theorem NC (p n:List UInt8) (hp:p.length<=1000000) (hn:n.length<=1000000):Fun Tryz.prog G0 13 [.str p,.str n] (.str (xv p n)) 0:=by
 have h:=QK p [47] hp
 cases hs:Lib.hasSuffix p [47] with
 | true =>
  have e:xv p n=p++n:=by unfold xv;rw[hs,if_pos rfl]
  rw[hs]at h
  refine fon Tryz.func13 ?_;dsimp only[Tryz.f13]
  push_cast -dsimp
  refine cl (h) ?_;push_cast -dsimp
  repeat refine an ?_
  exact dn (by push_cast -dsimp [zb,za,CLe,ze,e])
 | false =>
  have e:xv p n=p++[47]++n:=by unfold xv;rw[hs];rfl
  rw[hs]at h
  refine fon Tryz.func13 ?_;dsimp only[Tryz.f13]
  push_cast -dsimp
  refine cl (h) ?_;push_cast -dsimp
  repeat refine an ?_
  exact dn (by push_cast -dsimp [zb,za,CLe,ze,e])
theorem zoH {f:FsV} (h:okV f) {n:Int} (hh:zG n f.xs=true) (hk:(zg n f.xs).kind=2) :
  ∃ ns,(∀ z∈ns,may z=true)/\ns.length<=41/\zfY ns<=20000/\UY n (trV f.xs 1 []) = [qY ns]/\ku n (trV f.xs 1 [])=some (qY ns):=by
 obtain ⟨h0,h1,_⟩:=qT h
 have hkk:∀ p∈trV f.xs 1 [],p.2.ino=n->p.2.kind=2:=fun p hp hpn=>by
  obtain ⟨_,q⟩:=MJ hp
  rw[hpn]at q;rw[←q];exact hk
 obtain ⟨p,hp⟩:=Gf (X4 h _ 1 [] h1.2.2.2.2.2.2.2.1) hkk (zjs h hh)
 obtain ⟨q,q1,q2⟩:=zfx h hh hk
 have hq:UY n (trV f.xs 1 []) = [qY p.1]:=by unfold UY;rw[hp];rfl
 rw[hq]at q1
 have hqe:qY p.1=q:=by simpa using q1
 have hpm:p∈trV f.xs 1 []:=(List.mem_filter.1 (by rw[hp];exact List.mem_singleton.2 rfl)).1
 obtain ⟨zs,z1,z2⟩:=vj (xR h).1 _ 1 [] p hpm
 obtain ⟨t1,t2⟩:=ZT h0 _ 1 [] p hpm
 have t3:=Q9 p.1
 have t4:zfY []=0:=rfl
 have h40:=h0.1
 rw[List.nil_append]at z1
 rw[←z1]at z2
 simp only[List.length_nil,t4]at t1 t2
 exact ⟨p.1,z2,by omega,by omega,hq,by rw[q2,hqe]⟩
def vS (f:FsV) (s:qM):List UInt8:=va ((ku s.dir (trV f.xs 1 [])).getD []) s.name
theorem zcg (f:FsV) (h:okV f) (s:qM) (hh:zG s.dir f.xs=true) (hk:(zg s.dir f.xs).kind=2) (hm:may s.name=true):Fun Tryz.prog G0 17 [.agg (fsC f),.agg (YG s)] (.str (vS f s)) 0:=by
 obtain ⟨ns,n1,n2,n3,n4,n5⟩:=zoH h hh hk
 have hp:=xB f s.dir _ (zk5 h) (zit h 1 [] (by decide) (by decide))
 have hml:=yS hm
 have hjw:=Q9 ns
 have hjl:(qY ns).length<=20001:=by unfold qY;split<;>simp<;>omega
 have hr:=zij (qY ns) (by omega)
 unfold zgq at hr
 rw[Qn ns fun z hz=>vF (n1 z hz)]at hr
 have hj:=XQ (ns++[s.name]) (by simp;omega) (by
  have a1:=Q9 (ns++[s.name])
  rw[NS]at a1
  omega)
 rw[zaI ns s.name fun y hy=>(vF (n1 y hy)).1]at hj
 have e:vS f s=va (qY ns) s.name:=by unfold vS;rw[n5];rfl
 rw[n5]at hp
 have hsl:(qv ns).length=ns.length:=List.length_map ..
 refine fof (fun i=>if i=2 then [false,false,false,false,false,false,true,false,false] else []) Tryz.func17 ?_;dsimp only[Tryz.f17]
 push_cast -dsimp
 refine cl (hp) ?_;push_cast -dsimp [Option.getD_some,Option.isSome_some]
 refine cl (hr) ?_;push_cast -dsimp
 repeat refine an ?_
 refine cl (hj) ?_;push_cast -dsimp
 exact dn (by push_cast -dsimp [zb,za,CLe,ze,e])
end
section
open CA CB
open Go.RowKit
theorem Fun.gd0 {f:FuncId} {args:List C} {r:C} {n:Nat} (h:Fun Tryz.prog G0 f args r n):Fun Tryz.prog GD f args r n:=h.glob0
def Q3 (w:qy) (l:List OpV):Bool:=decide (okW w)&&(decide (w.fs.next<549755813888)&&(zjp l&&(decide (l.length<=30)&&decide (jM w.kept<536870912))))
theorem zbg (w:qy) (l:List OpV):Fun Tryz.prog G0 8 [js w,.sl 5 (GV l)] (qG (Q3 w l)) 0:=by
 have h1:=zdV w
 have h2:=zhk l
 have hll:=QB l
 by_cases c1:okW w
 case neg =>
  have e:Q3 w l=false:=by unfold Q3;rw[decide_eq_false c1];rfl
  rw[decide_eq_false c1]at h1
  refine fon Tryz.func8 ?_;dsimp only[Tryz.f8]
  push_cast -dsimp
  refine cl (h1) ?_;push_cast -dsimp
  exact dn (by push_cast -dsimp [zb,za,CLe,ze,e])
 rw[decide_eq_true c1]at h1
 by_cases c2:w.fs.next<549755813888
 case neg =>
  have e:Q3 w l=false:=by unfold Q3;rw[decide_eq_true c1,decide_eq_false c2];rfl
  refine fon Tryz.func8 ?_;dsimp only[Tryz.f8]
  push_cast -dsimp
  refine cl (h1) ?_;push_cast -dsimp [c2]
  exact dn (by push_cast -dsimp [zb,za,CLe,ze,e])
 cases c3:zjp l with
 | false =>
  have e:Q3 w l=false:=by unfold Q3;rw[decide_eq_true c1,decide_eq_true c2,c3];rfl
  rw[c3]at h2
  refine fon Tryz.func8 ?_;dsimp only[Tryz.f8]
  push_cast -dsimp
  refine cl (h1) ?_;push_cast -dsimp [c2]
  refine cl (h2) ?_;push_cast -dsimp
  exact dn (by push_cast -dsimp [zb,za,CLe,ze,e])
 | true =>
  rw[c3]at h2
  by_cases c4:l.length<=30
  ·have c4':((l.length:Int)<=30)=True:=eq_true (by omega)
   have hk:=(zlB c1).klen
   have h3:=My (G:=G0) w (by omega) c1.2.2.2.2.1.1 c1.2.2.2.2.1.2
   have e:Q3 w l=decide (jM w.kept<536870912):=by unfold Q3;rw[decide_eq_true c1,decide_eq_true c2,c3,decide_eq_true c4];rfl
   refine fon Tryz.func8 ?_;dsimp only[Tryz.f8]
   push_cast -dsimp
   refine cl (h1) ?_;push_cast -dsimp [c2]
   refine cl (h2) ?_;push_cast -dsimp [hll,c4']
   refine cl (h3) ?_;push_cast -dsimp
   exact dn (by push_cast -dsimp [zb,za,CLe,ze,e])
  ·have c4':((l.length:Int)<=30)=False:=eq_false (by omega)
   have e:Q3 w l=false:=by unfold Q3;rw[decide_eq_true c1,decide_eq_true c2,c3,decide_eq_false c4];rfl
   refine fon Tryz.func8 ?_;dsimp only[Tryz.f8]
   push_cast -dsimp
   refine cl (h1) ?_;push_cast -dsimp [c2]
   refine cl (h2) ?_;push_cast -dsimp [hll,c4']
   exact dn (by push_cast -dsimp [zb,za,CLe,ze,e])
theorem zbm {w:qy} {l:List OpV} (h:Q3 w l=true):okW w/\jM w.kept<=1073741824/\l.length<=30/\∀ o∈l,OpS o:=by
 unfold Q3 at h
 simp only[Bool.and_eq_true,decide_eq_true_eq]at h
 obtain ⟨h1,h2,h3,h4,h5⟩:=h
 refine ⟨h1,by omega,h4,fun o ho=>?_⟩
 unfold zjp at h3
 simp only[Bool.and_eq_true,decide_eq_true_eq]at h3
 have:=List.all_eq_true.1 h3.1 o (by rw[List.take_of_length_le (by omega)];exact ho)
 unfold okO at this
 simp only[Bool.and_eq_true,Bool.not_eq_true',Bool.or_eq_false_iff,decide_eq_true_eq,decide_eq_false_iff_not]at this
 exact ⟨by omega,by omega,by omega⟩
theorem OpS.short {o:OpV} (h:OpS o):short o:=⟨by have:=h.a;omega,by have:=h.b;omega,by have:=h.d;omega⟩
theorem zbO (w:qy) (l:List OpV) (hw:okW w) (hl:jM w.kept<=1073741824) (h30:l.length<=30) (ho:∀ o∈l,OpS o):Fun Tryz.prog GD 9 [js w,.sl 5 (GV l)] (.tup [v8 (mkD w l l.length),v8 (mkD w l l.length),.sc (.bool true)]) 0:=by
 have hk:=(zlB hw).klen
 have h1:=(uE (G:=G0) w (by omega)).gd0
 have h2:=(zfz w (by omega) hw.2.2.2.2.1).gd0
 have hll:=QB l
 have hB:=zhx hw hl fun o h=>(ho o h).d
 refine fof (fun i=>if i=7 then kj 9 10 else if i=8 then kj 9 10 else if i=10 then Vf [(0,.pure),(1,.pure),(2,.flt [1]),(3,.flt []),(4,.pure)] else if i=16 then Vf [(0,.pure),(1,.pure),(2,.flt [1]),(3,.flt []),(4,.pure)] else if i=14 then [false,false,false,false,false,false,false,false,false,false,false,false,false,false,false,false,false,false,false,true] else if i=15 then [false,false,false,false,false,false,false,false,false,false,false,false,false,false,false,false,false,false,false,true] else []) Tryz.func9 ?_;dsimp only[Tryz.f9]
 push_cast -dsimp
 refine cl (h1) ?_;push_cast -dsimp
 refine cl (h2) ?_;push_cast -dsimp
 refine loop (fun i:Nat=>⟨[(1,.sl 5 (GV l)),(4,.ptr 1 0),(5,.ptr 2 0),(7,.ptr 3 0),(8,.ptr 4 0),(9,.sc (.int .i64 i))],[[.any,.any,.any,.any,.any,.any],[.any,.any,.any,.any,.any,.any,.any,.any,.any,.any],[.any,.any,.any,.any,.any,.any,.any,.any,.any,.any],kG (mkD w l i),kG (mkD w l i)],0,0⟩) (fun i=>i<=l.length) (fun i=>l.length-i) 0 (Nat.zero_le _) ?_ ?_
 ·exact wk (h5:=by push_cast -dsimp [zb,za,CLe,ze,mkD,zfD])
 intro i hi
 by_cases h:i<l.length
 case neg =>
  have hil:i=l.length:=by omega
  subst hil
  push_cast -dsimp [hll,Int.lt_irrefl]
  exact dn
 have g:=GB l i h
 have hsu:=zgj (w:=w) h
 have hbi:=hB i
 have hoi:=ho _ (List.getElem_mem h)
 have hds:=hbi.s (by omega)
 have hdg:=hbi.diags
 generalize hd':mkD w l (i+1)=d' at hsu
 generalize mkD w l i=d at hsu hbi hds hdg
 generalize l[i]=o at g hsu hoi
 have hra:=(zhh d hds o hoi.short (by have:=hoi.d;omega)).gd0
 have hrt:=(zeS d (by omega) (1+((i % 5:Nat):Int)) (1+((i % 22:Nat):Int)) o.a o.b (jT d o).2 hoi.a hoi.b).gd0
 have hpt:=Mm d (by omega) (1+((i % 5:Nat):Int)) (1+((i % 22:Nat):Int)) o.a o.b (jT d o).2 hoi.a hoi.b
 by_cases c1:o.kind<1
 ·have e:d'=d:=by rw[hsu];unfold Hs;rw[if_pos c1]
  subst e
  rw[Qb]at g
  push_cast -dsimp [hll,h,g,c1]
  repeat refine an ?_
  exact ⟨i+1,h,by omega,wk (h5:=by push_cast -dsimp [zb,za,CLe,ze,hd'])⟩
 by_cases c2:(jT d o).2=0
 ·have e:d'=(jT d o).1:=by rw[hsu];unfold Hs;rw[if_neg c1,if_pos c2]
  subst e
  have hpa:=GG d hds o hoi.short (by have:=hoi.d;omega) c2
  rw[c2]at hra
  rw[Qb]at g hpa hra
  push_cast -dsimp [hll,h,g,c1]
  repeat refine an ?_
  refine cl (hpa) ?_;push_cast -dsimp [hll,h,g]
  repeat refine an ?_
  refine cl (hra) ?_;push_cast -dsimp
  repeat refine an ?_
  exact ⟨i+1,h,by omega,wk (h5:=by push_cast -dsimp [zb,za,CLe,ze,hd'])⟩
 ·have e:d'=Xb d (YI (1+((i % 5:Nat):Int)) (1+((i % 22:Nat):Int)) o.a o.b (jT d o).2):=by rw[hsu];unfold Hs;rw[if_neg c1,if_neg c2]
  subst e
  have hpa:=zep d hds o hoi.short (by have:=hoi.d;omega) c2 _ _ rfl rfl
  rw[NA c2]at hra
  rw[Qb]at g hpa hra
  push_cast -dsimp [hll,h,g,c1]
  repeat refine an ?_
  refine cl (hpa) ?_;push_cast -dsimp [hll,h,g]
  repeat refine an ?_
  refine cl (hra) ?_;push_cast -dsimp [hll,h,g,c2]
  repeat refine an ?_
  refine cl (hpt) ?_;push_cast -dsimp [hll,h,g]
  repeat refine an ?_
  have htl:∀ x,(Xb d x).ops=d.ops:=fun _=>rfl
  refine cl (hrt) ?_;push_cast -dsimp
  repeat refine an ?_
  exact ⟨i+1,h,by omega,wk (h5:=by push_cast -dsimp [zb,za,CLe,ze,hd',htl])⟩
end
section
open CA CB
open Go.RowKit
def kK:FsV:=⟨4,9,9,[⟨1,2,0,[],1,[⟨[97],4⟩,⟨[98],3⟩]⟩,⟨3,1,1,[121],0,[]⟩,⟨4,1,1,[122],0,[]⟩]⟩
def Xk:qy:=⟨kK,[],[]⟩
def vf:List OpV:=[⟨7,0,[47,97],[],[]⟩,⟨7,99,[47,98],[],[]⟩,⟨8,0,[47,98],[],[]⟩]
theorem Qh:okW Xk:=by decide
theorem zdR:okV kK:=⟨Qh.1.2.1,Qh.2.1⟩
theorem xf:Fun Tryz.prog G0 29 [] (js Xk) 0:=by
 have h1:=zhs (G:=G0) 4 9
 have h2:=jY (G:=G0) ⟨4,9,9,[⟨1,2,0,[],1,[]⟩]⟩ ⟨1,2,0,[],1,[⟨[97],4⟩,⟨[98],3⟩]⟩ (by decide)
 have h3:=Gr (G:=G0) ⟨4,9,9,[⟨1,2,0,[],1,[⟨[97],4⟩,⟨[98],3⟩]⟩]⟩ ⟨3,1,1,[121],0,[]⟩ rfl (by decide)
 have h4:=Gr (G:=G0) ⟨4,9,9,[⟨1,2,0,[],1,[⟨[97],4⟩,⟨[98],3⟩]⟩,⟨3,1,1,[121],0,[]⟩]⟩ ⟨4,1,1,[122],0,[]⟩ rfl (by decide)
 have e2:qF ⟨1,2,0,[],1,[⟨[97],4⟩,⟨[98],3⟩]⟩ [⟨1,2,0,[],1,[]⟩] = [⟨1,2,0,[],1,[⟨[97],4⟩,⟨[98],3⟩]⟩]:=by decide
 have e3:qF ⟨3,1,1,[121],0,[]⟩ [⟨1,2,0,[],1,[⟨[97],4⟩,⟨[98],3⟩]⟩] = [⟨1,2,0,[],1,[⟨[97],4⟩,⟨[98],3⟩]⟩,⟨3,1,1,[121],0,[]⟩]:=by decide
 have e4:qF ⟨4,1,1,[122],0,[]⟩ [⟨1,2,0,[],1,[⟨[97],4⟩,⟨[98],3⟩]⟩,⟨3,1,1,[121],0,[]⟩]=kK.xs:=by decide
 simp only[e2]at h2
 simp only[e3]at h3
 simp only[e4]at h4
 refine fon Tryz.func29 ?_;dsimp only[Tryz.f29]
 push_cast -dsimp
 refine cl (h1) ?_;push_cast -dsimp
 refine cl (h2) ?_;push_cast -dsimp
 refine cl (h3) ?_;push_cast -dsimp
 refine cl (h4) ?_;push_cast -dsimp
 exact dn (by push_cast -dsimp [zb,za,CLe,ze,Xk,kK])
theorem Gp (i:Nat) (hi:i<=3):Xp (mkD Xk vf i):=(zhx Qh (by decide) (fun o ho=>by
 have:∀ o∈vf,o.d.length<=5000:=by decide
 exact this o ho) i).s (by omega)
theorem zo6:vS kK ⟨1,[110],0⟩ = [47,110]:=by decide
end
section
open CA CB
open Go.RowKit
theorem Qz:Fun Tryz.prog GD 7 [] (qG true) 0:=by
 obtain ⟨d1,hd1⟩:∃ d,(jT (zfD Xk) ⟨7,0,[47,97],[],[]⟩).1=d:=⟨_,rfl⟩
 obtain ⟨d2,hd2⟩:∃ d,(jT d1 ⟨7,99,[47,98],[],[]⟩).1=d:=⟨_,rfl⟩
 have s0:Xp (zfD Xk):=Gp 0 (by decide)
 have s1:Xp d1:=by
  have e:mkD Xk vf 1=d1:=by rw[←hd1];decide
  rw[←e];exact Gp 1 (by decide)
 have s2:Xp d2:=by
  have e:mkD Xk vf 2=d2:=by rw[←hd2,←hd1];decide
  rw[←e];exact Gp 2 (by decide)
 have z1:(jT (zfD Xk) ⟨7,0,[47,97],[],[]⟩).2=0:=by decide
 have z2:(jT d1 ⟨7,99,[47,98],[],[]⟩).2=0:=by rw[←hd1];decide
 have z3:(jT d2 ⟨8,0,[47,98],[],[]⟩).2=12:=by rw[←hd2,←hd1];decide
 have p1:d2.ops = [⟨7,1,[47,97],[],[]⟩,⟨7,2,[47,98],[],[]⟩]:=by rw[←hd2,←hd1];decide
 have p2:d2.slot=2:=by rw[←hd2,←hd1];decide
 have p3:d2.diags = []:=by rw[←hd2,←hd1];decide
 have p4:(zfD Xk).slot=0:=rfl
 have p5:YI 2 2 [120] [] 1 = [114,109,58,32,99,97,110,110,111,116,32,114,101,109,111,118,101,32,34,120,34,58,32,78,111,32,115,117,99,104,32,102,105,108,101,32,111,114,32,100,105,114,101,99,116,111,114,121]:=by decide
 have q0:=(uE (G:=G0) Xk (by decide)).gd0
 have q1:=GG (zfD Xk) s0 ⟨7,0,[47,97],[],[]⟩ ⟨by decide,by decide,by decide⟩ (by decide) z1
 have q2:=GG d1 s1 ⟨7,99,[47,98],[],[]⟩ ⟨by decide,by decide,by decide⟩ (by decide) z2
 have q3:=zep d2 s2 ⟨8,0,[47,98],[],[]⟩ ⟨by decide,by decide,by decide⟩ (by decide) (by rw[z3];decide) _ _ rfl rfl
 have q4:=Mm d2 (by rw[p3];decide) 2 2 [120] [] 1 (by decide) (by decide)
 have hsm:=xf.gd0
 have q5:=(zcg kK zdR ⟨1,[110],0⟩ (by decide) (by decide) (by decide)).gd0
 have q6:=(NC [97] [98] (by decide) (by decide)).gd0
 have q7:=(NC [97,47] [98] (by decide) (by decide)).gd0
 rw[hd1]at q1
 rw[hd2]at q2
 rw[z3]at q3
 rw[p5]at q4
 rw[zo6]at q5
 rw[show xv [97] [98] = [97,47,98] from rfl]at q6
 rw[show xv [97,47] [98] = [97,47,98] from rfl]at q7
 rw[Qb]at q1 q2 q3
 have p6:(Xb d2 ([114,109,58,32,99,97,110,110,111,116,32,114,101,109,111,118,101,32,34,120,34,58,32,78,111,32,115,117,99,104,32,102,105,108,101,32,111,114,32,100,105,114,101,99,116,111,114,121])).diags = [[114,109,58,32,99,97,110,110,111,116,32,114,101,109,111,118,101,32,34,120,34,58,32,78,111,32,115,117,99,104,32,102,105,108,101,32,111,114,32,100,105,114,101,99,116,111,114,121]]:=by unfold Xb;rw[p3];rfl
 have p7:(Xb d2 ([114,109,58,32,99,97,110,110,111,116,32,114,101,109,111,118,101,32,34,120,34,58,32,78,111,32,115,117,99,104,32,102,105,108,101,32,111,114,32,100,105,114,101,99,116,111,114,121])).status=1:=rfl
 rw[p6]at q4
 simp only[v8,kG,zbT,p1,p2,List.map_cons,List.map_nil]at q2 q3 q4
 refine fon Tryz.func7 ?_;dsimp only[Tryz.f7]
 dsimp only[List.append_eq,List.cons_append,List.nil_append]
 push_cast -dsimp
 refine cl (hsm) ?_;push_cast -dsimp
 refine cl (q0) ?_;push_cast -dsimp
 refine cl (q1) ?_;push_cast -dsimp
 refine cl (q2) ?_;push_cast -dsimp
 refine cl (q3) ?_;push_cast -dsimp
 refine cl (q4) ?_;push_cast -dsimp [p4,p7,opL]
 refine cl (q5) ?_;push_cast -dsimp
 refine cl (q6) ?_;push_cast -dsimp
 refine cl (q7) ?_;push_cast -dsimp
 exact dn
theorem Vj (l:List OpV):Ya l l=true:=(J4 l l).2 ⟨rfl,fun j h h'=>by unfold zjc;simp⟩
theorem zcD (ops:List OpV) (diags:List (List UInt8)) (s:Int) (h1:ops.length<=100000) (h2:diags.length<=100000):Fun Tryz.prog G0 28 [.agg [.sl 5 (ops.map opL),.sl 1 (qv diags),.sc (.int .i64 s)],.agg [.sl 5 (ops.map opL),.sl 1 (qv diags),.sc (.int .i64 s)]] (qG true) 0:=by
 have q1:=G6 ops ops h1
 have q2:=zgt diags diags (by omega)
 rw[Vj]at q1
 rw[decide_eq_true rfl]at q2
 refine fon Tryz.func28 ?_;dsimp only[Tryz.f28]
 push_cast -dsimp
 refine cl (q1) ?_;push_cast -dsimp
 refine cl (q2) ?_;push_cast -dsimp
 exact dn
end
section
open Go.RowKit Go.ChangeMaps Go.ChangeShapes Go.WideShapes Go.Deep Go.Joins
section
variable {H:Type} {enc:TypeId×Value->H} {W:World}
theorem znu:jb enc Tryz.prog W 63 5 fun row=>∃ o:OpV,row=opL o/\True:=fun fuel cs x hx=>by
 obtain ⟨row,⟨hl,hq⟩,h1,h2,h3⟩:=jb.struct (W:=W) (enc:=enc) (Qs:=fun j c=>match j with | 0=>∃ n,c = .sc (.int .i64 n)/\(Lit.int .i64 n).wf=true | 1=>∃ n,c = .sc (.int .i64 n)/\(Lit.int .i64 n).wf=true | 2=>∃ l:List UInt8,c = .str l/\l.length<=maxLen | 3=>∃ l:List UInt8,c = .str l/\l.length<=maxLen | 4=>∃ l:List UInt8,c = .str l/\l.length<=maxLen | _=>True) Tryz.underlying63 (by kernel_rfl) (by kernel_rfl) (fun j f hj=>by
  match j,hj with
  | 0,hj=>cases hj;exact Opn.int Tryz.underlying3
  | 1,hj=>cases hj;exact Opn.int Tryz.underlying3
  | 2,hj=>cases hj;exact Opn.str Tryz.underlying9
  | 3,hj=>cases hj;exact Opn.str Tryz.underlying9
  | 4,hj=>cases hj;exact Opn.str Tryz.underlying9
  | j+5,hj=>simp at hj) fuel cs x hx
 match row,h1,hq,h3 with
 | [c0,c1,c2,c3,c4],_,hq,h3 =>
  obtain ⟨k,rfl,_⟩:=hq 0 c0 rfl
  obtain ⟨s,rfl,_⟩:=hq 1 c1 rfl
  obtain ⟨a,rfl,_⟩:=hq 2 c2 rfl
  obtain ⟨b,rfl,_⟩:=hq 3 c3 rfl
  obtain ⟨d,rfl,_⟩:=hq 4 c4 rfl
  exact ⟨_,⟨⟨k,s,a,b,d⟩,rfl,trivial⟩,rfl,h2,h3⟩
theorem Ud:∀ {rows:List (List C)},(∀ r∈rows,∃ o:OpV,r=opL o/\True)->∃ xs:List OpV,rows=GV xs
 | [],_=>⟨[],rfl⟩
 | r :: rows,h=>by
  obtain ⟨xs,rfl⟩:=Ud fun r' hr=>h r' (List.mem_cons_of_mem _ hr)
  obtain ⟨o,rfl,_⟩:=h r List.mem_cons_self
  exact ⟨o :: xs,rfl⟩
theorem zkK:Opn enc Tryz.prog W 30 fun c=>∃ xs:List OpV,c = .sl 5 (GV xs)/\True:=fun fuel cs x hx=>by
 obtain ⟨v,c,rfl,⟨rows,rfl,hl,hr⟩,h1,h2⟩:=Opn.slice (W:=W) (enc:=enc) Tryz.underlying30 (show Tryz.prog.cellsOf 63=5 by kernel_rfl) (by decide) znu fuel cs x hx
 obtain ⟨xs,rfl⟩:=Ud hr
 exact ⟨v,_,rfl,⟨xs,rfl,trivial⟩,h1,h2⟩
end
theorem zp0 {W:World} {l:List (String×DataW Unit)} (h:laidMetH Tryz.prog l W) (hp:(l.filter fun x=>x.2.handleName?.isSome) = []) (hm:("drayman/op.has",Rows.laid_drayman_op_has)∈l):Xm G1 (Nx W):=fun g cs hc=>by
 unfold G1 at hc
 split at hc
 ·rename_i hg
  subst hg
  cases hc
  exact Ju (t:=181) h hp hm (by kernel_rfl) (by kernel_rfl) (m:=4) (by kernel_rfl) (by kernel_rfl) (by kernel_rfl)
 ·cases hc
theorem zo2 {W:World} {l:List (String×DataW Unit)} (h:laidMetH Tryz.prog l W) (hp:(l.filter fun x=>x.2.handleName?.isSome) = []) (hm1:("drayman/diag.phrases",Rows.laid_drayman_diag_phrases)∈l) (hm2:("drayman/args.kinds",Rows.laid_drayman_args_kinds)∈l) (hm3:("drayman/errs.messages",Rows.laid_drayman_errs_messages)∈l):Xm G2 (Nx W):=fun g cs hc=>by
 unfold G2 at hc
 split at hc
 ·rename_i hg
  subst hg
  cases hc
  exact Ju (t:=190) h hp hm1 (by kernel_rfl) (by kernel_rfl) (m:=4) (vs:=phr.map fun l=>Value.string ⟨l.toArray⟩) (by kernel_rfl) (by kernel_rfl) (by kernel_rfl)
 ·split at hc
  ·rename_i hg
   subst hg
   cases hc
   exact Ju (t:=189) h hp hm2 (by kernel_rfl) (by kernel_rfl) (m:=4) (by kernel_rfl) (by kernel_rfl) (by kernel_rfl)
  ·split at hc
   ·rename_i hg
    subst hg
    cases hc
    exact Ju (t:=231) h hp hm3 (by kernel_rfl) (by kernel_rfl) (m:=4) (vs:=zqa.map fun l=>Value.string ⟨l.toArray⟩) (by kernel_rfl) (by kernel_rfl) (by kernel_rfl)
   ·cases hc
theorem zo3 {W:World} {l:List (String×DataW Unit)} (h:laidMetH Tryz.prog l W) (hp:(l.filter fun x=>x.2.handleName?.isSome) = []) (hm:("drayman/op.has",Rows.laid_drayman_op_has)∈l) (hm1:("drayman/diag.phrases",Rows.laid_drayman_diag_phrases)∈l) (hm2:("drayman/args.kinds",Rows.laid_drayman_args_kinds)∈l) (hm3:("drayman/errs.messages",Rows.laid_drayman_errs_messages)∈l):Xm GD (Nx W):=fun g cs hc=>by
 unfold GD at hc
 split at hc
 ·exact zp0 h hp hm g cs hc
 ·exact zo2 h hp hm1 hm2 hm3 g cs hc
end
section
open Go.RowKit
mutual
/-- what is left of an answer: boxes, these being the m-th and on; slices are just values -/
def wsh (m:Nat):C->C->Prop
 | .sc v,d=>d = .sc v
 | .str l,d=>d = .str l
 | .agg cs,d=>∃ ds,d = .agg ds/\vK m cs ds
 | .tup cs,d=>∃ ds,d = .tup ds/\vK m cs ds
 | .bs i off k n c,d=>d = .bs (m+i) off k n c
 | .sl _ _,d=>∃ a n c,d = .sc (.slice a n c)
 | _,d=>d = .any
def vK (m:Nat):List C->List C->Prop
 | [],d=>d = []
 | c :: r,d=>∃ e s,d=e :: s/\wsh m c e/\vK m r s
end
def zfW (m:Nat):List (List C)->List (List C)->Prop
 | [],d=>d = []
 | c :: r,d=>∃ e s,d=e :: s/\vK m c e/\zfW m r s
theorem v7 {m:Nat}:∀ {b d:List (List C)},zfW m b d->d.length=b.length
 | [],d,h=>by unfold zfW at h;subst h;rfl
 | c :: r,d,h=>by
  unfold zfW at h
  obtain ⟨e,s,rfl,_,h⟩:=h
  simp[v7 h]
section
variable {P:Program} {G:zq} {R R':Env} {L L':Loc} {m:Nat}
mutual
theorem zdG (hβ:∀ i b,L.β[i]?=some b->L'.β[m+i]?=some b):∀ (c:C) (v:Value),Rep R L c v->∃ d,wsh m c d/\Rep R' L' d v
 | .sc u,_,h=>⟨.sc u,by unfold wsh;rfl,by rw[zo]at h ⊢;exact h⟩
 | .str u,_,h=>⟨.str u,by unfold wsh;rfl,by rw[zV]at h ⊢;exact h⟩
 | .agg cs,_,h=>by
  unfold Rep at h
  obtain ⟨vs,e,hl⟩:=h
  obtain ⟨ds,h1,h2⟩:=VB hβ cs _ hl
  exact ⟨.agg ds,by unfold wsh;exact ⟨ds,rfl,h1⟩,by unfold Rep;exact ⟨vs,e,h2⟩⟩
 | .tup cs,_,h=>by
  unfold Rep at h
  obtain ⟨vs,e,hl⟩:=h
  obtain ⟨ds,h1,h2⟩:=VB hβ cs _ hl
  exact ⟨.tup ds,by unfold wsh;exact ⟨ds,rfl,h1⟩,by unfold Rep;exact ⟨vs,e,h2⟩⟩
 | .bs i off k n c,_,h=>by
  obtain ⟨b,hb,h⟩:=qQ.1 h
  exact ⟨.bs (m+i) off k n c,by unfold wsh;rfl,qQ.2 ⟨b,hβ i b hb,h⟩⟩
 | .sl k rows,_,h=>by
  unfold Rep at h
  obtain ⟨a,cap,e,_⟩:=h
  exact ⟨_,by unfold wsh;exact ⟨a,rows.length,cap,rfl⟩,zo.2 e⟩
 | .ptr _ _,_,_ | .tight _ _,_,_ | .own _ _ _ _,_,_ | .row _,_,_ | .clo _ _ _,_,_ | .mo _ _ _ _,_,_ | .any,_,_=>⟨.any,by unfold wsh;rfl,QR⟩
theorem VB (hβ:∀ i b,L.β[i]?=some b->L'.β[m+i]?=some b):∀ (cs:List C) (vs:List Value),zw R L cs vs->∃ ds,vK m cs ds/\zw R' L' ds vs
 | [],_,h=>⟨[],by unfold vK;rfl,by rw[zj]at h ⊢;exact h⟩
 | c :: r,_,h=>by
  obtain ⟨v,us,e,h1,h2⟩:=zd.1 h
  obtain ⟨d,g1,g2⟩:=zdG hβ c v h1
  obtain ⟨ds,g3,g4⟩:=VB hβ r us h2
  exact ⟨d :: ds,by unfold vK;exact ⟨d,ds,rfl,g1,g3⟩,zd.2 ⟨v,us,e,g2,g4⟩⟩
end
theorem ur (hβ:∀ i b,L.β[i]?=some b->L'.β[m+i]?=some b):∀ (bx:List (List C)) (β:List Nat),β.length=bx.length->(∀ (i b:Nat) cs,β[i]?=some b->bx[i]?=some cs->∃ vs ty,R.w.heap[b]?=some (.cells vs ty (0,0))/\zw R L cs vs.toList/\(∀ v∈vs.toList,v.oneCell'=true)/\∀ o,R.M b o) ->
  ∃ ds,zfW m bx ds/\∀ (i b:Nat) cs,β[i]?=some b->ds[i]?=some cs->∃ vs ty,R.w.heap[b]?=some (.cells vs ty (0,0))/\zw R' L' cs vs.toList/\(∀ v∈vs.toList,v.oneCell'=true)/\∀ o,R.M b o
 | [],β,_,_=>⟨[],by unfold zfW;rfl,fun i b cs _ h=>by simp at h⟩
 | c :: r,[],hl,_=>by simp at hl
 | c :: r,b :: β,hl,h=>by
  obtain ⟨ds,h1,h2⟩:=ur hβ r β (by simpa using hl) fun i b' cs h3 h4=>h (i+1) b' cs (by simpa using h3) (by simpa using h4)
  obtain ⟨vs,ty,e1,e2,e3,e4⟩:=h 0 b c rfl rfl
  obtain ⟨d,g1,g2⟩:=VB (R':=R') hβ c _ e2
  refine ⟨d :: ds,by unfold zfW;exact ⟨d,ds,rfl,g1,h1⟩,fun i b' cs h3 h4=>?_⟩
  cases i with
  | zero=>simp at h3 h4;subst h3 h4;exact ⟨vs,ty,e1,g2,e3,e4⟩
  | succ i=>exact h2 i b' cs (by simpa using h3) (by simpa using h4)
theorem JT.mono {f:FuncId} {args:List C} {bx:List (List C)} {q:Nat} {post post':C->List (List C)->Nat->Prop} (h:JT P G f args bx q post) (hp:∀ r b n,post r b n->post' r b n):JT P G f args bx q post':=
 ⟨h.1,fun R L vs a1 a2 a3 a4 a5 a6 a7=>(h.2 R L vs a1 a2 a3 a4 a5 a6 a7).mono fun _ _=>by
  rintro ⟨r,b,n,⟨hq,hl⟩,hv⟩
  exact ⟨r,b,n,⟨hp r b n hq,hl⟩,hv⟩⟩
theorem JT.lend {f:FuncId} {args fargs:List C} {bx:List (List C)} {post:C->List (List C)->Nat->Prop} (h:JT P G f fargs [] 0 post) (hp:∀ r b n,post r b n->n=0) (hl:je bx args fargs) :
  JT P G f args bx 0 (fun r' b' n=>n=0/\∃ r b d,post r b 0/\wsh bx.length r r'/\b'=bx++d/\zfW bx.length b d):=by
 refine ⟨h.1,fun R L vs hg hbx how hfree hflt hFT hargs=>?_⟩
 have hT:∀ id,L.T id=none:=fun id=>hfree id (Nat.zero_le _)
 have hnt:∀ b,¬YW zH b:=fun b hb=>by
  rcases hb with hb | ⟨_,_,_,_,ht,_⟩
  ·cases hb
  ·cases ht
 have hbl:=hbx.len
 have hlt:∀ b∈L.β,b<R.w.heap.size:=fun b hb=>by
  obtain ⟨i,hi,rfl⟩:=List.getElem_of_mem hb
  obtain ⟨vs,ty,g,_⟩:=hbx.box i L.β[i] (bx[i]'(by omega)) (List.getElem?_eq_getElem hi) (List.getElem?_eq_getElem (by omega))
  exact zZ g
 refine (h.2 (Hv R L) zH vs (hg.ext (qS R L)) ⟨rfl,List.nodup_nil,fun i b cs hi=>(by simp at hi)⟩ ⟨fun id e k v ht=>(by cases ht),fun id id' e k v e' k' v' b ht=>(by cases ht)⟩ (fun _ _=>rfl) hflt (fun b hb=>absurd hb (hnt b)) (J0 hbx _ _ _ hl hargs)).mono ?_
 rintro e w' ⟨r,b',n,⟨hpost,_⟩,v,R1,L1,rfl,rfl,hn,hbx1,how1,⟨more,hm1,hm2⟩,hfree1,hrep⟩
 obtain rfl:=hp _ _ _ hpost
 have hm1:L1.β=more:=hm1
 have hblk:∀ b,b<R.w.heap.size->R1.w.heap[b]?=R.w.heap[b]?/\∀ o,((Ho R R1 L).M b o↔R.M b o):=fun b hb=>by
  rcases hn.blk b hb with ⟨q1,q2⟩ | q
  ·refine ⟨q1,fun o=>?_⟩
   show (R1.M b o∨(b∈L.β/\R.M b o))↔R.M b o
   rw[q2 o]
   show ((R.M b o/\b∉L.β)∨_)↔_
   by_cases hx:b∈L.β<;>simp[hx]
  ·rcases q.1 with q | q
   ·have q:R.w.heap.size<=b:=q
    omega
   ·exact absurd q (hnt b)
 have hext:Ext R (Ho R R1 L):=Ext.of_below ⟨hn.os,hn.tape,hn.output,hn.size,fun b hb=>(hblk b hb).1⟩ fun b o hb=>(hblk b hb).2 o
 have hnd:=hbx1.nodup
 rw[hm1]at hnd
 have hl1:=hbx1.len
 rw[hm1]at hl1
 have hup:∀ i b,L1.β[i]?=some b->(L.β++more)[bx.length+i]?=some b:=fun i b hb=>by
  rw[hm1]at hb
  rw[←hbl,List.getElem?_append_right (by omega),Nat.add_sub_cancel_left];exact hb
 obtain ⟨r',g1,g2⟩:=zdG (R':=Ho R R1 L) (L':=⟨L.β++more,fun _=>none⟩) hup _ _ hrep
 obtain ⟨d,g3,g4⟩:=ur (R':=Ho R R1 L) (L':=⟨L.β++more,fun _=>none⟩) hup b' L1.β hbx1.len hbx1.box
 have hdl:d.length=b'.length:=v7 g3
 refine ⟨r',bx++d,0,⟨⟨rfl,r,b',d,hpost,g1,rfl,g3⟩,by simp⟩,v,Ho R R1 L,⟨L.β++more,fun _=>none⟩,rfl,rfl,⟨hn.os,hn.tape,hn.output,hn.size,hn.fgn,hext,fun b hb=>.inl (hblk b hb)⟩,⟨by simp[hbl,hl1,hdl],?_,fun i b cs hi hc=>?_⟩,⟨fun id e k v ht=>(by cases ht),fun id id' e k v e' k' v' b ht=>(by cases ht)⟩,⟨more,rfl,hm2⟩,fun _ _=>rfl,g2⟩
 ·rw[List.nodup_append]
  refine ⟨hbx.nodup,hnd,fun x hx y hy e=>?_⟩
  have:=hlt x hx
  have q:R.w.heap.size<=y:=hm2 y hy
  omega
 ·have hi:(L.β++more)[i]?=some b:=hi
  rcases Nat.lt_or_ge i bx.length with hlt' | hge
  ·rw[List.getElem?_append_left hlt']at hc
   rw[List.getElem?_append_left (by omega)]at hi
   obtain ⟨vs,ty,e1,e2,e3,e4⟩:=hbx.box i b cs hi hc
   refine ⟨vs,ty,((hblk b (zZ e1)).1).trans e1,zw.ext hext ⟨fun i b hb=>?_,fun id x hx=>by rw[hT]at hx;cases hx⟩ _ _ e2,e3,fun o=>((hblk b (zZ e1)).2 o).2 (e4 o)⟩
   show (L.β++more)[i]?=some b
   rw[List.getElem?_append_left (List.getElem?_eq_some_iff.1 hb).1];exact hb
  ·rw[List.getElem?_append_right hge]at hc
   rw[List.getElem?_append_right (by omega),hbl]at hi
   obtain ⟨vs,ty,e1,e2,e3,e4⟩:=g4 (i-bx.length) b cs (by rw[hm1];exact hi) hc
   exact ⟨vs,ty,e1,e2,e3,fun o=>.inl (e4 o)⟩
end
end
section
open Go.RowKit
section
variable {G:zq}
theorem JN {bx:List (List C)} {i k n cap:Nat} {rows:List (List C)} {cs:List C} (hb:bx[i]?=some cs) (hn:rows.length=n) (hc:n<=cap) (hm:cap<=9223372036854775807) (hk:∀ r∈rows,r.length=k) (hs:qV rows) (ht:cs.take (n*k)=rows.flatten):qZ bx (.bs i 0 k n cap) (.sl k rows):=by
 unfold qZ
 exact ⟨rows,cs,rfl,hn,hc,by unfold maxLen;omega,hb,hk,by rw[List.drop_zero,ht,V5 (JZ hs)]⟩
end
end
end Go.Proofs.YtiblepfehggicaaGreatDoor.Vcg
