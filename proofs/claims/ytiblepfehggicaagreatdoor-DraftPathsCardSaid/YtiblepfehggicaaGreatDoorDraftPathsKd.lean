/- What the proof of DraftPaths leans on, part 4: TabR Snd1 PathN Ref1 Path1 Path2 Path3 Path4 May1 May2 May3 Path5 Ref3 PathLaw Open Laid Op1 QuotePlain QuotePlain2 QuotePlain3 OpV Op2 Wld0 Ent1 Ent2 EntW TabW Wld1 Wld2 Wld3 Wld4 Wld5 Room Plc Crt Drp Mov SlcK Sts OpenW StW Sts2 StX Kep Stp Stp2 Stp3 Stp4 Deed Doo Dra1 Dra2. No condition beyond what each theorem states. -/
import Derived.Test.YtiblepfehggicaaGreatDoorDraftPathsKc
import Derived.Laws.Runes
import Derived.Laws.RangeString
import Derived.WalkKit
import Derived.Deep.LoopGhost
import Derived.Lib.QuoteLoop
import Derived.Lib.IndexAny
import Derived.ProofKit
import Derived.Deep.Slices
import Derived.Deep.Fields
import Derived.ChangeSame
import Derived.ChangeOld
import Derived.Lib.SmallJoins
import Derived.Lib.LaidU8
import Derived.OpenShut
import Derived.FnData
import Derived.Lib.Bytealg
set_option linter.unusedVariables false
set_option linter.unusedSimpArgs false
set_option linter.unusedSectionVars false
set_option maxRecDepth 100000
set_option maxHeartbeats 4000000
namespace Go.Proofs.YtiblepfehggicaaGreatDoor.Vcg
section
open CA CB
open Go.RowKit
section
variable {G:zk}
theorem uX {xs:List zw} {i:Nat} (hi:i<xs.length) (h0:0<i):zZ (xs.take (i+1))↔zZ (xs.take i)/\xs[i-1].ino<xs[i].ino:=by
 rw[List.take_add_one,List.getElem?_eq_getElem hi]
 unfold zZ
 rw[List.pairwise_append]
 simp only[Option.toList_some,List.pairwise_singleton,true_and,List.mem_singleton,forall_eq]
 constructor
 ·rintro ⟨h1,h2⟩
  exact ⟨h1,h2 _ (List.mem_take_iff_getElem.2 ⟨i-1,by omega,rfl⟩)⟩
 ·rintro ⟨h1,h2⟩
  refine ⟨h1,fun a ha=>?_⟩
  obtain ⟨j,hj,rfl⟩:=List.mem_take_iff_getElem.1 ha
  rcases Nat.lt_or_ge j (i-1) with q | q
  ·have:=(List.pairwise_iff_getElem.1 h1) j (i-1) (by simp;omega) (by simp;omega) q
   simp at this
   omega
  ·have:j=i-1:=by omega
   subst this;exact h2
instance (xs:List zw):Decidable (zZ xs):=by unfold zZ;infer_instance
theorem k7 (f:FsV) (hl:f.xs.length<=100000):Fun Tryz.prog G 49 [.agg (fsC f)] (.sc (.bool (decide (zZ f.xs)))) 0:=by
 have hll:(zt f.xs).length=f.xs.length:=List.length_map ..
 refine Fun.of (fun _=>[]) Tryz.func49 rfl (zp rfl) (by kernel_rfl) ?_;dsimp only[Tryz.f49]
 push_cast -dsimp
 refine loop (fun i:Nat=>⟨[(1,.ptr 0 0),(3,.sc (.int .i64 i))],[fsC f],0,0⟩) (fun i=>1<=i/\zZ (f.xs.take i)) (fun i=>f.xs.length-i) 1 ⟨Nat.le_refl _,by
  cases f.xs with
  | nil=>exact List.Pairwise.nil
  | cons x r=>exact List.pairwise_singleton _ _⟩ ?_ ?_
 ·exact zS.mk [] rfl rfl (Nat.zero_le _) rfl (by push_cast -dsimp [zb,za,CLe,ze]) (by push_cast -dsimp [zb,za,CLe,ze])
 ·rintro i ⟨h1,h2⟩
  by_cases h:i<f.xs.length
  ·have g1:=jh f.xs i h
   have g2:=jh f.xs (i-1) (by omega)
   have e1:(i:Int)-1=((i-1:Nat):Int):=by omega
   push_cast -dsimp [hll,h,e1,g1,g2]
   by_cases hc:f.xs[i].ino<=f.xs[i-1].ino
   ·push_cast -dsimp [hc]
    (try simp only[lS]);repeat refine And.intro (by omega) ?_
    have hn:¬zZ f.xs:=fun hR=>by
     have:=(List.pairwise_iff_getElem.1 hR) (i-1) i (by omega) h (by omega)
     omega
    exact ⟨[],rfl,rfl,by push_cast -dsimp [zb,za,CLe,ze,hn]⟩
   ·push_cast -dsimp [hc]
    (try simp only[lS]);repeat refine And.intro (by omega) ?_
    exact ⟨i+1,⟨by omega,(uX h (by omega)).2 ⟨h2,by omega⟩⟩,by omega,zS.mk [] rfl rfl (Nat.zero_le _) rfl (by push_cast -dsimp [zb,za,CLe,ze]) (by push_cast -dsimp [zb,za,CLe,ze])⟩
  ·push_cast -dsimp [hll,h]
   rw[List.take_of_length_le (by omega)]at h2
   exact ⟨[],rfl,rfl,by push_cast -dsimp [zb,za,CLe,ze,h2]⟩
def NI (x:zw):Prop:=x.data.length<=5000/\x.es.length<=40/\∀ e∈x.es,e.name.length<=300
instance (x:zw):Decidable (NI x):=by unfold NI;infer_instance
def U8 (xs:List zw):Prop:=xs.length<=40/\∀ x∈xs,NI x
instance (xs:List zw):Decidable (U8 xs):=by unfold U8;infer_instance
structure FsS (f:FsV):Prop where
 len:f.xs.length<=10000
 node:∀ x∈f.xs,x.es.length<=10000/\x.data.length<=10000/\∀ e∈x.es,e.name.length<=10000
theorem U8.fs {f:FsV} (h:U8 f.xs):FsS f:=⟨by have:=h.1;omega,fun x hx=>by
 obtain ⟨h1,h2,h3⟩:=h.2 x hx
 exact ⟨by omega,by omega,fun e he=>by have:=h3 e he;omega⟩⟩
theorem vk (f:FsV):Fun Tryz.prog G 36 [.agg (fsC f)] (.sc (.bool (decide (U8 f.xs)))) 0:=by
 have hll:(zt f.xs).length=f.xs.length:=List.length_map ..
 refine Fun.of (fun _=>[]) Tryz.func36 rfl (zp rfl) (by kernel_rfl) ?_;dsimp only[Tryz.f36]
 push_cast -dsimp
 refine loop (fun i:Nat=>⟨[(1,.ptr 0 0),(3,.sc (.int .i64 i))],[fsC f],0,0⟩) (fun i=>i<=100/\∀ t (h:t<f.xs.length),t<i->NI f.xs[t]) (fun i=>100-i) 0 ⟨Nat.zero_le _,fun t h h'=>absurd h' (Nat.not_lt_zero _)⟩ ?_ ?_
 ·exact zS.mk [] rfl rfl (Nat.zero_le _) rfl (by push_cast -dsimp [zb,za,CLe,ze]) (by push_cast -dsimp [zb,za,CLe,ze])
 ·rintro i ⟨h1,h2⟩
  have hend:¬(i<f.xs.length/\i<100)->decide ((f.xs.length:Int)<=40)=decide (U8 f.xs):=fun h=>by
   rw[decide_eq_decide]
   constructor
   ·intro hle
    refine ⟨by omega,fun x hx=>?_⟩
    obtain ⟨t,ht,rfl⟩:=List.getElem_of_mem hx
    exact h2 t ht (by omega)
   ·intro h;have:=h.1;omega
  by_cases h:i<f.xs.length
  ·by_cases h100:i<100
   ·have g1:=jh f.xs i h
    have h100':(i:Int)<100:=by omega
    have hbad:¬NI f.xs[i]->¬U8 f.xs:=fun hs hf=>hs (hf.2 _ (List.getElem_mem h))
    by_cases hd:5000<(f.xs[i].data.length:Int)
    ·have hn:=hbad fun hs=>by have:=hs.1;omega
     push_cast -dsimp [hll,h,h100',g1,hd]
     (try simp only[lS]);repeat refine And.intro (by omega) ?_
     exact ⟨[],rfl,rfl,by push_cast -dsimp [zb,za,CLe,ze,hn]⟩
    ·by_cases he:40<(f.xs[i].es.length:Int)
     ·have hn:=hbad fun hs=>by have:=hs.2.1;omega
      push_cast -dsimp [hll,h,h100',g1,hd,List.length_map,he]
      (try simp only[lS]);repeat refine And.intro (by omega) ?_
      exact ⟨[],rfl,rfl,by push_cast -dsimp [zb,za,CLe,ze,hn]⟩
     ·push_cast -dsimp [hll,h,h100',g1,hd,List.length_map,he]
      (try simp only[lS]);repeat refine And.intro (by omega) ?_
      refine loop (fun j:Nat=>⟨[(1,.ptr 0 0),(3,.sc (.int .i64 i)),(4,.ptr 1 0),(5,.sc (.int .i64 j))],[fsC f,Xg f.xs[i]],0,0⟩) (fun j=>j<=f.xs[i].es.length/\∀ t (h':t<f.xs[i].es.length),t<j->f.xs[i].es[t].name.length<=300) (fun j=>f.xs[i].es.length-j) 0 ⟨Nat.zero_le _,fun t h h'=>absurd h' (Nat.not_lt_zero _)⟩ ?_ ?_
      ·exact zS.mk [] rfl rfl (Nat.zero_le _) rfl (by push_cast -dsimp [zb,za,CLe,ze]) (by push_cast -dsimp [zb,za,CLe,ze])
      ·rintro j ⟨h3,h4⟩
       by_cases hj:j<f.xs[i].es.length
       ·have g2:=JD f.xs[i].es j hj
        by_cases hs:300<(f.xs[i].es[j].name.length:Int)
        ·have hn:=hbad fun hs'=>by have:=hs'.2.2 _ (List.getElem_mem hj);omega
         push_cast -dsimp [List.length_map,hj,g2,hs]
         (try simp only[lS]);repeat refine And.intro (by omega) ?_
         exact ⟨[],rfl,rfl,by push_cast -dsimp [zb,za,CLe,ze,hn]⟩
        ·push_cast -dsimp [List.length_map,hj,g2,hs]
         (try simp only[lS]);repeat refine And.intro (by omega) ?_
         refine ⟨j+1,⟨hj,fun t ht hlt=>?_⟩,by omega,zS.mk [] rfl rfl (Nat.zero_le _) rfl (by push_cast -dsimp [zb,za,CLe,ze]) (by push_cast -dsimp [zb,za,CLe,ze])⟩
         rcases Nat.lt_or_ge t j with q | q
         ·exact h4 t ht q
         ·have:t=j:=by omega
          subst this;omega
       ·push_cast -dsimp [List.length_map,hj]
        (try simp only[lS]);repeat refine And.intro (by omega) ?_
        refine ⟨i+1,⟨by omega,fun t ht hlt=>?_⟩,by omega,zS.mk [] rfl rfl (Nat.zero_le _) rfl (by push_cast -dsimp [zb,za,CLe,ze]) (by push_cast -dsimp [zb,za,CLe,ze])⟩
        rcases Nat.lt_or_ge t i with q | q
        ·exact h2 t ht q
        ·have:t=i:=by omega
         subst this
         refine ⟨by omega,by omega,fun e hee=>?_⟩
         obtain ⟨u,hu,rfl⟩:=List.getElem_of_mem hee
         exact h4 u hu (by omega)
   ·have h100':((i:Int)<100)=False:=eq_false (by omega)
    have:=hend (by omega)
    push_cast -dsimp [hll,h,h100']
    exact ⟨[],rfl,rfl,by push_cast -dsimp [zb,za,CLe,ze,this]⟩
  ·have:=hend (by omega)
   push_cast -dsimp [hll,h]
   exact ⟨[],rfl,rfl,by push_cast -dsimp [zb,za,CLe,ze,this]⟩
theorem zbZ (f:FsV) (n:Int) (hl:f.xs.length<=90000) :
  Fun Tryz.prog G 107 [.agg (fsC f),.sc (.int .i64 n)] (.agg [.sc (.int .i64 f.maxI),.sc (.int .i64 f.maxB),.sc (.int .i64 f.next),.own 0 75 6 (zt (qg n f.xs))]) 1:=by
 have hll:(zt f.xs).length=f.xs.length:=List.length_map ..
 refine Fun.of (fun _=>[]) Tryz.func107 rfl (zp rfl) (by kernel_rfl) ?_;dsimp only[Tryz.f107]
 push_cast -dsimp
 refine loop (fun i:Nat=>⟨[(1,.sc (.int .i64 n)),(2,.ptr 0 0),(4,.ptr 1 0),(5,.own 0 75 6 (zt (qg n (f.xs.take i)))),(6,.sc (.int .i64 i))],[fsC f,[.sc (.int .i64 0),.sc (.int .i64 0),.sc (.int .i64 0),.sc (.slice none 0 0)]],1,0⟩) (fun i=>i<=f.xs.length) (fun i=>f.xs.length-i) 0 (Nat.zero_le _) ?_ ?_
 ·exact zS.mk [.inr (75,6)] rfl rfl (Nat.zero_le _) rfl (by push_cast -dsimp [zb,za,CLe,ze,qg,List.filter_nil]) (by push_cast -dsimp [zb,za,CLe,ze])
 ·intro i h1
  by_cases h:i<f.xs.length
  ·have g1:=jh f.xs i h
   have ht:qg n (f.xs.take (i+1))=qg n (f.xs.take i)++qg n [f.xs[i]]:=by
    unfold qg;rw[List.take_add_one,List.getElem?_eq_getElem h,List.filter_append];rfl
   have hle:(qg n (f.xs.take i)).length<=i:=Nat.le_trans Qp (by simp;omega)
   by_cases hc:f.xs[i].ino=n
   ·have ht:qg n (f.xs.take (i+1))=qg n (f.xs.take i):=by rw[ht,jY hc];simp[qg]
    push_cast -dsimp [hll,h,g1,hc]
    (try simp only[lS]);repeat refine And.intro (by omega) ?_
    exact ⟨i+1,h,by omega,zS.mk [.inl 0] rfl rfl (Nat.zero_le _) rfl (by push_cast -dsimp [zb,za,CLe,ze,ht]) (by push_cast -dsimp [zb,za,CLe,ze])⟩
   ·have ht:qg n (f.xs.take (i+1))=qg n (f.xs.take i)++[f.xs[i]]:=by rw[ht,Jr hc];simp[qg]
    push_cast -dsimp [hll,h,g1,hc]
    (try simp only[lS]);repeat refine And.intro (by omega) ?_
    exact ⟨i+1,h,by omega,zS.mk [.inl 0] rfl rfl (Nat.zero_le _) rfl (by push_cast -dsimp [zb,za,CLe,ze,ht,List.map_append]) (by push_cast -dsimp [zb,za,CLe,ze])⟩
  ·rw[List.take_of_length_le (by omega)]
   push_cast -dsimp [hll,h]
   exact ⟨[.inl 0],rfl,rfl,by push_cast -dsimp [zb,za,CLe,ze]⟩
theorem yt (f:FsV) (x:zw) (hl:f.xs.length<=90000) :
  Fun Tryz.prog G 63 [.agg (fsC f),.agg (Xg x)] (.agg [.sc (.int .i64 f.maxI),.sc (.int .i64 f.maxB),.sc (.int .i64 f.next),.own 0 75 6 (zt (qP x f.xs))]) 1:=by
 have hdl:(qg x.ino f.xs).length<=90000:=Nat.le_trans Qp hl
 have hl2:(zt (qg x.ino f.xs)).length=(qg x.ino f.xs).length:=List.length_map ..
 refine Fun.of (fun _=>[]) Tryz.func63 rfl (zp rfl) (by kernel_rfl) ?_;dsimp only[Tryz.f63]
 push_cast -dsimp
 refine cl (zbZ f x.ino hl) ?_;push_cast -dsimp
 unfold qP
 generalize qg x.ino f.xs=rest at hdl hl2
 refine loop (fun p:Nat×List zw×Bool=>⟨[(2,.ptr 0 0),(3,.ptr 1 0),(4,.ptr 2 0),(5,.sl 6 (zt rest)),(6,.own 0 75 6 (zt p.2.1)),(7,.sc (.bool p.2.2)),(8,.sc (.int .i64 p.1))],[fsC f,Xg x,[.sc (.int .i64 0),.sc (.int .i64 0),.sc (.int .i64 0),.sc (.slice none 0 0)]],1,0⟩)
  (fun p=>p.1<=rest.length/\p.2.1.length<=p.1+p.2.2.toNat/\QX x rest=p.2.1++(if p.2.2 then rest.drop p.1 else QX x (rest.drop p.1))) (fun p=>rest.length-p.1) (0,[],false) ⟨Nat.zero_le _,Nat.zero_le _,by simp⟩ ?_ ?_
 ·exact zS.mk [.inr (75,6)] rfl rfl (Nat.zero_le _) rfl (by push_cast -dsimp [zb,za,CLe,ze]) (by push_cast -dsimp [zb,za,CLe,ze])
 ·rintro ⟨i,out,d⟩ ⟨h1,h2,h3⟩
  dsimp only at h1 h2 h3 ⊢
  have hlo:(zt out).length=out.length:=List.length_map ..
  by_cases h:i<rest.length
  ·have g1:=jh rest i h
   rw[List.drop_eq_getElem_cons h]at h3
   cases d with
   | true =>
    simp only[Bool.toNat_true]at h2
    push_cast -dsimp [hl2,h,g1]
    (try simp only[lS]);repeat refine And.intro (by omega) ?_
    exact ⟨(i+1,out++[rest[i]],true),⟨h,by simp;omega,by rw[h3];simp⟩,by dsimp only;omega,zS.mk [.inl 0] rfl rfl (Nat.zero_le _) rfl (by push_cast -dsimp [zb,za,CLe,ze,List.map_append]) (by push_cast -dsimp [zb,za,CLe,ze])⟩
   | false =>
    simp only[Bool.false_eq_true,if_false,QX]at h3
    simp only[Bool.toNat_false]at h2
    by_cases hc:x.ino<rest[i].ino
    ·rw[if_pos hc]at h3
     push_cast -dsimp [hl2,h,g1,hc]
     (try simp only[lS]);repeat refine And.intro (by omega) ?_
     exact ⟨(i+1,out++[x]++[rest[i]],true),⟨h,by simp;omega,by rw[h3];simp⟩,by dsimp only;omega,zS.mk [.inl 0] rfl rfl (Nat.zero_le _) rfl (by push_cast -dsimp [zb,za,CLe,ze,List.map_append]) (by push_cast -dsimp [zb,za,CLe,ze])⟩
    ·rw[if_neg hc]at h3
     push_cast -dsimp [hl2,h,g1,hc]
     (try simp only[lS]);repeat refine And.intro (by omega) ?_
     exact ⟨(i+1,out++[rest[i]],false),⟨h,by simp;omega,by rw[h3];simp⟩,by dsimp only;omega,zS.mk [.inl 0] rfl rfl (Nat.zero_le _) rfl (by push_cast -dsimp [zb,za,CLe,ze,List.map_append]) (by push_cast -dsimp [zb,za,CLe,ze])⟩
  ·rw[List.drop_of_length_le (by omega)]at h3
   cases d with
   | true =>
    simp only[Bool.toNat_true]at h2
    have h3:QX x rest=out:=by rw[h3];simp
    push_cast -dsimp [hl2,h]
    exact ⟨[.inl 0],rfl,rfl,by push_cast -dsimp [zb,za,CLe,ze,h3]⟩
   | false =>
    simp only[Bool.toNat_false]at h2
    have h3:QX x rest=out++[x]:=by rw[h3];simp[QX]
    push_cast -dsimp [hl2,h]
    (try simp only[lS]);repeat refine And.intro (by omega) ?_
    exact ⟨[.inl 0],rfl,rfl,by push_cast -dsimp [zb,za,CLe,ze,h3,List.map_append]⟩
theorem zf3 (i b:Int):Fun Tryz.prog G 62 [.sc (.int .i64 i),.sc (.int .i64 b)] (.agg [.sc (.int .i64 i),.sc (.int .i64 b),.sc (.int .i64 2),.own 0 75 6 (zt [⟨1,2,0,[],1,[]⟩])]) 1:=by
 refine Fun.resX (r:=.agg [.sc (.int .i64 i),.sc (.int .i64 b),.sc (.int .i64 2),.own 0 75 6 [[.sc (.int .i64 1),.sc (.int .i64 2),.sc (.int .i64 0),.str [],.sc (.int .i64 1),.sc (.slice none 0 0)]]]) ?_ fun R L v h =>
  uv (fun vs=>Yi (fun v h=>h) (fun vs=>Yi (fun v h=>h) fun vs=>Yi (fun v h=>h) fun vs=>Yi (fun v=>zg7) fun vs h=>h)) h
 refine Fun.of (fun _=>[]) Tryz.func62 rfl (zp rfl) (by kernel_rfl) ?_;dsimp only[Tryz.f62]
 push_cast -dsimp
 exact ⟨[.inl 0],rfl,rfl,by push_cast -dsimp [zb,za,CLe,ze]⟩
end
end
section
open Go.RowKit
section
variable {G:zk}
theorem zhh {n:Int} {xs:List zw} {i:Nat} (h:i<xs.length):zF n (xs.take (i+1))=(zF n (xs.take i)||(xs[i].ino==n)):=by
 unfold zF
 rw[List.take_add_one,List.getElem?_eq_getElem h,List.any_append]
 simp
theorem zfV {n:Int} {xs:List zw} {i:Nat} (h:i<xs.length) (h0:zF n (xs.take i)=false) (he:xs[i].ino=n):zF n xs=true/\zg n xs=xs[i]:=by
 refine ⟨List.any_eq_true.2 ⟨xs[i],List.getElem_mem h,by simp[he]⟩,?_⟩
 unfold zg YM
 rw[List.find?_eq_some_iff_getElem (b:=xs[i]) |>.2 ⟨by simp[he],i,h,rfl,fun j hj=>?_⟩]
 ·rfl
 ·unfold zF at h0
  rw[List.any_eq_false]at h0
  have:=h0 xs[j] (List.mem_take_iff_getElem.2 ⟨j,by omega,rfl⟩)
  simpa using this
theorem Jl (f:FsV) (n:Int) (hl:f.xs.length<=100000):Fun Tryz.prog G 52 [.agg (fsC f),.sc (.int .i64 n)] (.tup [.agg (Xg (zg n f.xs)),.sc (.bool (zF n f.xs))]) 0:=by
 have hll:(zt f.xs).length=f.xs.length:=List.length_map ..
 refine Fun.of (fun _=>[]) Tryz.func52 rfl (zp rfl) (by kernel_rfl) ?_;dsimp only[Tryz.f52]
 push_cast -dsimp
 refine loop (fun i:Nat=>⟨[(1,.sc (.int .i64 n)),(2,.ptr 0 0),(4,.ptr 1 0),(6,.sc (.int .i64 i))],[fsC f,[.sc (.int .i64 0),.sc (.int .i64 0),.sc (.int .i64 0),.str [],.sc (.int .i64 0),.sc (.slice none 0 0)]],0,0⟩) (fun i=>i<=f.xs.length/\zF n (f.xs.take i)=false) (fun i=>f.xs.length-i) 0 ⟨Nat.zero_le _,rfl⟩ ?_ ?_
 ·exact zS.mk [] rfl rfl (Nat.zero_le _) rfl (by push_cast -dsimp [zb,za,CLe,ze]) (by push_cast -dsimp [zb,za,CLe,ze])
 ·rintro i ⟨h1,h2⟩
  by_cases h:i<f.xs.length
  ·have g1:=jh f.xs i h
   by_cases he:f.xs[i].ino=n
   ·obtain ⟨q1,q2⟩:=zfV h h2 he
    push_cast -dsimp [hll,h,g1,he]
    (try simp only[lS]);repeat refine And.intro (by omega) ?_
    exact ⟨[],rfl,rfl,by push_cast -dsimp [zb,za,CLe,ze,q1,q2,he]⟩
   ·have q:=zhh (n:=n) h
    rw[h2,show (f.xs[i].ino==n)=false from beq_eq_false_iff_ne.2 he]at q
    push_cast -dsimp [hll,h,g1,he]
    (try simp only[lS]);repeat refine And.intro (by omega) ?_
    exact ⟨i+1,⟨h,q⟩,by omega,zS.mk [] rfl rfl (Nat.zero_le _) rfl (by push_cast -dsimp [zb,za,CLe,ze]) (by push_cast -dsimp [zb,za,CLe,ze])⟩
  ·rw[List.take_of_length_le (by omega)]at h2
   have hg:zg n f.xs=vX:=by unfold zg;rw[Hn h2];rfl
   push_cast -dsimp [hll,h]
   exact ⟨[],rfl,rfl,by push_cast -dsimp [zb,za,CLe,ze,hg,h2,vX]⟩
def jk (xs:List zw):Nat:=((xs.filter fun x=>decide (x.kind=1)).map fun x=>x.data.length).sum
theorem Uu:∀ {xs:List zw} {n:Nat},(∀ x∈xs,x.data.length<=n)->jk xs<=xs.length*n
 | [],n,_=>by simp[jk]
 | x :: r,n,h=>by
  have ih:=Uu (xs:=r) (n:=n) fun y hy=>h y (List.mem_cons_of_mem _ hy)
  have hx:=h x List.mem_cons_self
  unfold jk at ih ⊢
  rw[List.filter_cons]
  split
  ·simp only[List.map_cons,List.sum_cons,List.length_cons]
   rw[Nat.succ_mul];omega
  ·rw[List.length_cons,Nat.succ_mul];omega
theorem FsS.bytes {f:FsV} (h:FsS f):jk f.xs<=100000000:=by
 have h1:=Uu (xs:=f.xs) (n:=10000) fun x hx=>(h.node x hx).2.1
 have h2:=h.len
 have:f.xs.length*10000<=10000*10000:=Nat.mul_le_mul_right _ h2
 omega
theorem kM {xs:List zw} {i:Nat} (h:i<xs.length):jk (xs.take (i+1))=jk (xs.take i)+if xs[i].kind=1 then xs[i].data.length else 0:=by
 unfold jk
 rw[List.take_add_one,List.getElem?_eq_getElem h,List.filter_append,List.map_append,List.sum_append]
 by_cases hk:xs[i].kind=1<;>simp[hk]
theorem zb0 (f:FsV) (hf:FsS f):Fun Tryz.prog G 114 [.agg (fsC f)] (.sc (.int .i64 (jk f.xs:Nat))) 0:=by
 have hll:(zt f.xs).length=f.xs.length:=List.length_map ..
 have h40:=hf.len
 have hb0:jk []=0:=rfl
 refine Fun.of (fun _=>[]) Tryz.func114 rfl (zp rfl) (by kernel_rfl) ?_;dsimp only[Tryz.f114]
 push_cast -dsimp
 refine loop (fun i:Nat=>⟨[(1,.ptr 0 0),(3,.sc (.int .i64 (jk (f.xs.take i):Nat))),(4,.sc (.int .i64 i))],[fsC f],0,0⟩) (fun i=>i<=f.xs.length/\jk (f.xs.take i)<=i*10000) (fun i=>f.xs.length-i) 0 ⟨Nat.zero_le _,Nat.zero_le _⟩ ?_ ?_
 ·exact zS.mk [] rfl rfl (Nat.zero_le _) rfl (by push_cast -dsimp [zb,za,CLe,ze,hb0,List.take_zero]) (by push_cast -dsimp [zb,za,CLe,ze])
 ·rintro i ⟨h1,h2⟩
  by_cases h:i<f.xs.length
  ·have g1:=jh f.xs i h
   have hd:=(hf.node _ (List.getElem_mem h)).2.1
   have q:=kM h
   by_cases hk:f.xs[i].kind=1
   ·rw[if_pos hk]at q
    have q':((jk (f.xs.take (i+1)):Nat):Int)=(jk (f.xs.take i):Int)+(f.xs[i].data.length:Int):=by omega
    push_cast -dsimp [hll,h,g1,hk]
    (try simp only[lS]);repeat refine And.intro (by omega) ?_
    exact ⟨i+1,⟨h,by omega⟩,by omega,zS.mk [] rfl rfl (Nat.zero_le _) rfl (by push_cast -dsimp [zb,za,CLe,ze,q']) (by push_cast -dsimp [zb,za,CLe,ze])⟩
   ·rw[if_neg hk]at q
    have q':jk (f.xs.take (i+1))=jk (f.xs.take i):=by omega
    push_cast -dsimp [hll,h,g1,hk]
    (try simp only[lS]);repeat refine And.intro (by omega) ?_
    exact ⟨i+1,⟨h,by omega⟩,by omega,zS.mk [] rfl rfl (Nat.zero_le _) rfl (by push_cast -dsimp [zb,za,CLe,ze,q']) (by push_cast -dsimp [zb,za,CLe,ze])⟩
  ·rw[List.take_of_length_le (by omega)]
   push_cast -dsimp [hll,h]
   exact ⟨[],rfl,rfl,by push_cast -dsimp [zb,za,CLe,ze]⟩
end
end
section
open Go.RowKit
abbrev G0:zk:=fun _=>none
abbrev zk9 (l:List UInt8):List C:=[.str l]
def Zv (s:List (List UInt8)×List UInt8) (b:UInt8):List (List UInt8)×List UInt8:=
 if b=47 then (if s.2 = [] then s.1 else s.1++[s.2],[]) else (s.1,s.2++[b])
def zig (s:List (List UInt8)×List UInt8):List (List UInt8):=if s.2 = [] then s.1 else s.1++[s.2]
def nst (l:List UInt8) (k:Nat):List (List UInt8)×List UInt8:=if k<=l.length then (l.take k).foldl Zv ([],[]) else (zig (l.foldl Zv ([],[])),[])
def zE (l:List UInt8):List (List UInt8):=zig (l.foldl Zv ([],[]))
theorem vr (l:List UInt8):nst l 0=([],[]):=by simp[nst]
theorem yz (l:List UInt8) (k:Nat) (b:UInt8) (h:l[k]?=some b):nst l (k+1)=Zv (nst l k) b:=by
 have hk:k<l.length:=(List.getElem?_eq_some_iff.1 h).1
 unfold nst
 rw[if_pos (by omega),if_pos (by omega),List.take_add_one,h]
 simp
theorem zbV (l:List UInt8):nst l (l.length+1)=(zE l,[]):=by
 unfold nst zE
 rw[if_neg (by omega)]
theorem zck (l:List UInt8):zig (nst l l.length)=zE l:=by
 unfold nst zE
 rw[if_pos (Nat.le_refl _),List.take_length]
theorem HD (l:List UInt8):∀ k,k<=l.length->(nst l k).1.length+(nst l k).2.length<=k
 | 0,_=>by simp[vr]
 | k+1,h=>by
  have hk:k<l.length:=by omega
  have ih:=HD l k (by omega)
  rw[yz l k l[k] (List.getElem?_eq_getElem hk)]
  unfold Zv
  by_cases h47:l[k]=47
  ·rw[if_pos h47]
   by_cases h2:(nst l k).2 = []
   ·simp[h2];omega
   ·have:0<(nst l k).2.length:=List.length_pos_iff.2 h2
    simp[h2];omega
  ·rw[if_neg h47];simp;omega
theorem jl (l:List UInt8):(zE l).length<=l.length:=by
 rw[←zck]
 have:=HD l l.length (Nat.le_refl _)
 unfold zig
 split
 ·omega
 ·rename_i h
  have:0<(nst l l.length).2.length:=List.length_pos_iff.2 h
  simp;omega
theorem xW {b c:UInt8} (h:b≠c):¬((b.toNat:Int)=(c.toNat:Int)):=fun e=>h (UInt8.toNat_inj.1 (by omega))
theorem zda {α:Type} (l:List α) (k:Nat) (b:α) (h:l[k]?=some b):(l.take (k+1)).drop k = [b]:=by
 have hk:k<l.length:=(List.getElem?_eq_some_iff.1 h).1
 rw[List.take_add_one,h,List.drop_append]
 simp[Nat.min_eq_left (by omega:k<=l.length)]
theorem Uk (l:List UInt8) (h:l.length<=100000):Fun Tryz.prog G0 74 [.str l] (.own 0 9 1 ((zE l).map zk9)) 1:=by
 refine Fun.of (fun _=>[]) Tryz.func74 rfl (zp rfl) (by kernel_rfl) ?_;dsimp only[Tryz.f74]
 push_cast -dsimp
 refine loop (fun k:Nat=>⟨[(0,.str l),(3,.own 0 9 1 ((nst l k).1.map zk9)),(4,.str (nst l k).2),(5,.sc (.int .i64 k))],[],1,0⟩) (fun k=>k<=l.length+1) (fun k=>l.length+1-k) 0 (Nat.zero_le _) ?_ ?_
 ·refine zS.mk [.inr (9,1)] rfl rfl (Nat.le_refl _) rfl ?_ trivial
  push_cast -dsimp [zb,za,CLe,ze]
  simp[vr]
 ·intro k hk
  push_cast -dsimp
  by_cases h1:k<=l.length
  ·have hs:=HD l k h1
   by_cases h2:k<l.length
   ·obtain ⟨b,hb⟩:∃ b,l[k]?=some b:=⟨l[k],List.getElem?_eq_getElem h2⟩
    have hn:=yz l k b hb
    by_cases h3:b=47
    ·have h3':(b.toNat:Int)=47:=by subst h3;rfl
     by_cases h4:(nst l k).2 = []
     ·push_cast -dsimp [h1,h2,h3',hb,h4]
      and_intros<;>try omega
      refine ⟨k+1,by omega,by omega,zS.mk [.inl 0] rfl rfl (Nat.le_refl _) rfl ?_ trivial⟩
      push_cast -dsimp [zb,za,CLe,ze]
      simp[hn,Zv,h3,h4]
     ·push_cast -dsimp [h1,h2,h3',hb,h4]
      simp only[List.length_map,List.length_cons,List.length_nil]
      and_intros<;>try omega
      refine ⟨k+1,by omega,by omega,zS.mk [.inl 0] rfl rfl (Nat.le_refl _) rfl ?_ trivial⟩
      push_cast -dsimp [zb,za,CLe,ze]
      simp[hn,Zv,h3,h4,zk9]
    ·have h3':¬((b.toNat:Int)=47):=xW h3
     push_cast -dsimp [h1,h2,h3',hb]
     rw[zda l k b hb]
     and_intros<;>try omega
     ·simp;omega
     refine ⟨k+1,by omega,by omega,zS.mk [.inl 0] rfl rfl (Nat.le_refl _) rfl ?_ trivial⟩
     push_cast -dsimp [zb,za,CLe,ze]
     simp[hn,Zv,h3]
   ·obtain rfl:k=l.length:=by omega
    have hl:=zck l
    have he:=zbV l
    have hz:=jl l
    by_cases h4:(nst l l.length).2 = []
    ·push_cast -dsimp [h1,h2,h4]
     and_intros<;>try omega
     refine ⟨l.length+1,by omega,by omega,zS.mk [.inl 0] rfl rfl (Nat.le_refl _) rfl ?_ trivial⟩
     push_cast -dsimp [zb,za,CLe,ze]
     simp[he,←hl,zig,h4]
    ·push_cast -dsimp [h1,h2,h4]
     simp only[List.length_map,List.length_cons,List.length_nil]
     and_intros<;>try omega
     refine ⟨l.length+1,by omega,by omega,zS.mk [.inl 0] rfl rfl (Nat.le_refl _) rfl ?_ trivial⟩
     push_cast -dsimp [zb,za,CLe,ze]
     simp[he,←hl,zig,h4,zk9]
  ·obtain rfl:k=l.length+1:=by omega
   have he:=zbV l
   push_cast -dsimp [h1]
   exact ⟨[.inl 0],rfl,rfl,by push_cast -dsimp [zb,za,CLe,ze,he]⟩
end
section
open Go.RowKit
abbrev qA (xs:List (List UInt8)):List (List C):=xs.map zk9
theorem xm (xs:List (List UInt8)):(qA xs).length=xs.length:=List.length_map _
theorem zch (xs:List (List UInt8)) (x:List UInt8):qA xs++[[.str x]]=qA (xs++[x]):=by simp
theorem strs_get? (xs:List (List UInt8)) (k:Nat):(qA xs)[k]?=(xs[k]?).map zk9:=List.getElem?_map
theorem zbY (xs:List (List UInt8)) (k:Nat):(qA xs).drop k=qA (xs.drop k):=List.map_drop.symm
theorem zeX (xs:List (List UInt8)) (k:Nat):(qA xs).take k=qA (xs.take k):=List.map_take.symm
theorem xD (xs ys:List (List UInt8)):qA xs++qA ys=qA (xs++ys):=List.map_append.symm
theorem xz (xs:List (List UInt8)) (k:Nat) (h:k<xs.length):(qA xs)[k]?=some [.str (xs[k]'h)]:=by rw[strs_get?,List.getElem?_eq_getElem h];rfl
attribute [push_cast] xm zch zbY zeX xD
abbrev jN (b:Bool):C:=.sc (.bool b)
def few (l:List (List UInt8)):Bool:=(l.take 100).all (fun x=>decide (x.length<=300))&&decide (l.length<=40)
end
section
open Go.RowKit
theorem Fun.wrap {P:Program} {G:zk} {f:FuncId} {args:List C} {r:C} (he:Yk P f=true)
  (h:∀ (R:Env) (vs:List Value),zx R zH args vs->Calls P f vs.toArray R.w fun e w'=>∃ v,e = .returned v/\Below R.w.heap.size R.w w'/\∀ R',Ext R R'->Rep R' zH r v):Fun P G f args r 0:=by
 refine ⟨he,fun R vs hg ha=>(h R vs ha).mono ?_⟩
 rintro e w' ⟨v,rfl,hb,hr⟩
 have st:qn 0 0 R zH ⟨w',fun b o=>b<R.w.heap.size/\R.M b o,R.F⟩ zH:=qn.mem (nx:=0) hb
 exact ⟨v,_,zH,rfl,rfl,st,hr _ st.ext⟩
def j8:List UInt8->List (List UInt8)
 | []=>[[]]
 | b :: l=>if b=47 then [] :: j8 l else match j8 l with
  | []=>[[b]]
  | x :: r=>(b :: x) :: r
theorem yM (l:List UInt8):j8 l≠[]:=by
 cases l with
 | nil=>simp[j8]
 | cons b l =>
  unfold j8
  split
  ·simp
  ·split<;>simp
theorem HX:∀ l:List UInt8,Lib.indexByte l 47<0->j8 l = [l]
 | [],_=>rfl
 | b :: l,h=>by
  unfold Lib.indexByte at h
  by_cases hb:b=47
  ·subst hb;simp at h
  ·have hb':(b==47)=false:=by simpa using hb
   rw[hb']at h
   simp only[Bool.false_eq_true,if_false]at h
   have hl:Lib.indexByte l 47<0:=by
    split at h
    ·rename_i g;have:=beq_iff_eq.1 g;omega
    ·omega
   unfold j8
   rw[if_neg hb,HX l hl]
theorem HB:∀ l:List UInt8,-1<=Lib.indexByte l 47
 | []=>Int.le_refl _
 | b :: l=>by
  have:=HB l
  unfold Lib.indexByte
  split
  ·decide
  ·split
   ·decide
   ·omega
theorem yu:∀ (l:List UInt8) (i:Nat),Lib.indexByte l 47=(i:Int)->i<l.length/\j8 l=l.take i :: j8 (l.drop (i+1))
 | [],i,h=>by
  have h:(-1:Int)=(i:Int):=h
  omega
 | b :: l,i,h=>by
  unfold Lib.indexByte at h
  by_cases hb:b=47
  ·subst hb
   simp at h
   obtain rfl:i=0:=by omega
   refine ⟨by simp,?_⟩
   conv=>lhs;unfold j8
   simp
  ·have hb':(b==47)=false:=by simpa using hb
   rw[hb']at h
   simp only[Bool.false_eq_true,if_false]at h
   split at h
   ·omega
   ·rename_i g
    have g':Lib.indexByte l 47≠-1:=by simpa using g
    have hg:=HB l
    obtain ⟨j,rfl⟩:∃ j,i=j+1:=⟨i-1,by omega⟩
    have hj:Lib.indexByte l 47=(j:Int):=by omega
    obtain ⟨h1,h2⟩:=yu l j hj
    refine ⟨by simp;omega,?_⟩
    conv=>lhs;unfold j8
    rw[if_neg hb,h2]
    simp
theorem Vs:∀ (l:List UInt8) (a:List (List UInt8)) (cur:List UInt8),zig (l.foldl Zv (a,cur))=a++(match j8 l with | []=>[] | x :: r=>(cur++x) :: r).filter (fun x=>!decide (x = []))
 | [],a,cur=>by
  simp only[List.foldl_nil,zig,j8]
  by_cases h:cur = []<;>simp[h]
 | b :: l,a,cur=>by
  simp only[List.foldl_cons]
  by_cases hb:b=47
  ·subst hb
   have hn:Zv (a,cur) 47=(if cur = [] then a else a++[cur],[]):=by simp[Zv]
   rw[hn,Vs l]
   conv=>rhs;unfold j8
   simp only[if_true]
   have hne:=yM l
   cases hs:j8 l with
   | nil=>exact absurd hs hne
   | cons x r=>by_cases h:cur = []<;>simp[h]
  ·have hn:Zv (a,cur) b=(a,cur++[b]):=by simp[Zv,hb]
   rw[hn,Vs l]
   conv=>rhs;unfold j8
   rw[if_neg hb]
   have hne:=yM l
   cases hs:j8 l with
   | nil=>exact absurd hs hne
   | cons x r=>simp
theorem YA (l:List UInt8):zE l=(j8 l).filter (fun x=>!decide (x = [])):=by
 unfold zE
 rw[Vs]
 cases hs:j8 l with
 | nil=>rfl
 | cons x r=>simp
theorem zeE (l:List UInt8):Fun Tryz.prog G0 186 [.str l,.str [47]] (.sc (.int .i64 (Lib.indexByte l 47))) 0:=by
 refine Fun.wrap (by kernel_rfl) fun R vs h=>?_
 obtain ⟨v1,us1,rfl,h1,h⟩:=zd.1 h
 obtain ⟨v2,us2,rfl,h2,h⟩:=zd.1 h
 rw[zh]at h
 subst h
 rw[zR]at h1 h2
 subst h1 h2
 refine (Tryz.strings_Index_one ⟨l.toArray⟩ 47 R.w).mono ?_
 rintro e w' ⟨rfl,rfl⟩
 exact ⟨_,rfl,Below.refl _ _,fun R' _=>zn.2 (by simp)⟩
theorem UT (s:List UInt8) (hs:s.length<=1000000):UM Tryz.prog G0 184 [] [.ptr 1 0,.ptr 0 0,.ptr 2 0] [[.str s],[.str [47]],[.sc (.int .i64 0)]] (qA (j8 s)):=by
 refine UM.of (fun _=>[]) Tryz.func184 rfl (zp rfl) (by kernel_rfl) ?_;dsimp only[Tryz.f184]
 intro l sf
 push_cast -dsimp
 refine loop (fun x:List UInt8×Nat=>⟨[(0,.sc (.func (.yield l) #[] #[])),(1,.ptr 1 0),(2,.ptr 0 0),(3,.ptr 2 0)],[[.str x.1],[.str [47]],[.sc (.int .i64 0)]],0,x.2⟩)
  (fun x=>x.1.length<=1000000/\(∃ done,j8 s=done++j8 x.1/\done.length=x.2)/\∀ j,j<x.2->sf j=false) (fun x=>x.1.length) (s,0) ⟨hs,⟨[],rfl,rfl⟩,fun j hj=>by omega⟩ ?_ ?_
 ·refine zS.mk [] rfl rfl (Nat.zero_le _) rfl ?_ ?_<;>push_cast -dsimp [zb,za,CLe,ze]<;>omega
 ·rintro ⟨r,k⟩ hx
  simp only at hx ⊢
  have hr:=hx.1
  have hsf:=hx.2.2
  obtain ⟨done,hd,hdl⟩:=hx.2.1
  clear hx
  push_cast -dsimp
  refine call (zeE r) ?_
  push_cast -dsimp
  by_cases hi:Lib.indexByte r 47<0
  ·push_cast -dsimp [hi]
   have hk:(qA (j8 s))[k]?=some [.str r]:=by
    rw[hd,HX r hi];simp[←hdl]
   rw[hk]
   push_cast -dsimp
   refine ⟨by push_cast -dsimp [zb,za,CLe,ze],hsf,?_⟩
   cases hk2:sf k with
   | true=>exact .inr ⟨Nat.succ_pos k,hk2⟩
   | false =>
    refine .inl ⟨?_,fun j (hj:j<k+1)=>?_⟩
    ·rw[hd,HX r hi];simp[hdl]
    ·rcases Nat.lt_or_ge j k with g | g
     ·exact hsf j g
     ·rw[show j=k by omega];exact hk2
  ·have hg:=HB r
   obtain ⟨i,hii⟩:∃ i:Nat,Lib.indexByte r 47=(i:Int):=⟨(Lib.indexByte r 47).toNat,by omega⟩
   obtain ⟨hir,hsp⟩:=yu r i hii
   have hk:(qA (j8 s))[k]?=some [.str (r.take i)]:=by
    rw[hd,hsp];simp[←hdl]
   rw[hii]at hi ⊢
   push_cast -dsimp [hi]
   rw[hk]
   push_cast -dsimp
   refine ⟨by omega,by omega,by push_cast -dsimp [zb,za,CLe,ze],hsf,br (fun hk2=>?_) (fun hk2=>?_)⟩
   ·push_cast -dsimp
    exact .inr ⟨Nat.succ_pos k,hk2⟩
   ·push_cast -dsimp
    refine ⟨by omega,by omega,(r.drop (i+1),k+1),⟨by simp;omega,⟨done++[r.take i],by rw[hd,hsp];simp,by simp[hdl]⟩,fun j (hj:j<k+1)=>?_⟩,by simp;omega,zS.mk [] rfl rfl (Nat.zero_le _) rfl ?_ ?_⟩
    ·rcases Nat.lt_or_ge j k with g | g
     ·exact hsf j g
     ·rw[show j=k by omega];exact hk2
    ·push_cast -dsimp [zb,za,CLe,ze]
    ·push_cast -dsimp [zb,za,CLe,ze]
theorem GT (s:List UInt8):ZM Tryz.prog G0 152 [.str s,.str [47],.sc (.int .i64 0)] [] 0 (.clo (.func 184) [] [.ptr 1 0,.ptr 0 0,.ptr 2 0]) [[.str s],[.str [47]],[.sc (.int .i64 0)]] 0:=by
 refine ZM.of (fun _=>[]) Tryz.func152 rfl (zp rfl) (by kernel_rfl) (zp rfl) ?_;dsimp only[Tryz.f152]
 push_cast -dsimp
 exact ⟨[],rfl,rfl,by push_cast -dsimp [zb,za,CLe,ze],by push_cast -dsimp [zb,za,CLe,ze]⟩
theorem GE (s:List UInt8):ZM Tryz.prog G0 104 [.str s,.str [47]] [] 0 (.clo (.func 184) [] [.ptr 1 0,.ptr 0 0,.ptr 2 0]) [[.str s],[.str [47]],[.sc (.int .i64 0)]] 0:=by
 refine ZM.of (fun _=>[]) Tryz.func104 rfl (zp rfl) (by kernel_rfl) (zp rfl) ?_;dsimp only[Tryz.f104]
 push_cast -dsimp
 refine MY [] [] (GT s) rfl (by simp) (by simp) (fun i hi=>by cases hi) (by push_cast -dsimp) rfl ?_
 push_cast -dsimp
 exact ⟨[],rfl,rfl,by push_cast -dsimp [zb,za,CLe,ze],by push_cast -dsimp [zb,za,CLe,ze]⟩
end
section
open Go.RowKit
abbrev kI (x:List UInt8):Bool:=!decide (x = [])
def cnt (xs:List (List UInt8)) (k:Nat):Nat:=((xs.take k).filter kI).length
theorem vp (xs:List (List UInt8)) (k:Nat) (x:List UInt8) (h:xs[k]?=some x):cnt xs (k+1)=if x = [] then cnt xs k else cnt xs k+1:=by
 unfold cnt
 rw[List.take_add_one,h]
 by_cases hx:x = []<;>simp[hx]
theorem ziE (xs:List (List UInt8)) (k:Nat) (x:List UInt8) (h:xs[k]?=some x) (hx:x≠[]):(xs.filter kI)[cnt xs k]?=some x:=by
 have hk:k<xs.length:=(List.getElem?_eq_some_iff.1 h).1
 have e:xs=xs.take k++x :: xs.drop (k+1):=by
  have:=List.take_append_drop k xs
  rw[List.drop_eq_getElem_cons hk]at this
  rw[List.getElem?_eq_getElem hk]at h
  cases h;exact this.symm
 have e2:xs.filter kI=(xs.take k).filter kI++x :: (xs.drop (k+1)).filter kI:=by
  conv=>lhs;rw[e]
  rw[List.filter_append,List.filter_cons]
  simp[hx]
 rw[e2]
 unfold cnt
 simp
theorem ziM (xs:List (List UInt8)):cnt xs xs.length=(xs.filter kI).length:=by unfold cnt;rw[List.take_length]
theorem Zk {xs:List (List UInt8)} {sf:Nat->Bool}:∀ k,k<=xs.length->(∀ j,j<k->(kI (xs.getD j [])&&sf (cnt xs j))=false)->∀ j,j<cnt xs k->sf j=false
 | 0,_,_,j,hj=>by simp[cnt]at hj
 | k+1,hk,h,j,hj=>by
  have ih:=Zk k (by omega) fun i hi=>h i (by omega)
  have hx:xs[k]?=some (xs.getD k []):=by rw[List.getD_eq_getElem?_getD,List.getElem?_eq_getElem (by omega)];rfl
  rw[vp xs k _ hx]at hj
  by_cases he:xs.getD k [] = []
  ·rw[if_pos he]at hj;exact ih j hj
  ·rw[if_neg he]at hj
   rcases Nat.lt_or_ge j (cnt xs k) with g | g
   ·exact ih j g
   ·have h2:=h k (by omega)
    have h3:kI (xs.getD k [])=true:=by simp only[kI,Bool.not_eq_true',decide_eq_false_iff_not];exact he
    rw[h3,Bool.true_and]at h2
    rw[show j=cnt xs k by omega];exact h2
theorem HG {xs:List (List UInt8)} {k:Nat} {it:List C} (h:(qA xs)[k]?=some it):∃ x,xs[k]?=some x/\it = [.str x]:=by
 rw[List.getElem?_map]at h
 cases hq:xs[k]? with
 | none=>rw[hq]at h;cases h
 | some x=>rw[hq]at h;cases h;exact ⟨x,rfl,rfl⟩
theorem xT (p:List UInt8) (hs:p.length<=1000000):UM Tryz.prog G0 121 [] [.row [.str p]] [] (qA (zE p)):=by
 rw[YA]
 refine UM.of (fun _=>[]) Tryz.func121 rfl (zp rfl) (by kernel_rfl) ?_;dsimp only[Tryz.f121]
 intro l sf
 push_cast -dsimp
 refine MY [] [] (GE p) rfl (by simp) (by simp) (fun i hi=>by cases hi) (by push_cast -dsimp) rfl ?_
 push_cast -dsimp
 refine range (qA (j8 p)) (fun k=>kI ((j8 p).getD k [])&&sf (cnt (j8 p) k)) 1 (fun k=>⟨[],[[.sc (.func (.yield l) #[] #[])]],0,cnt (j8 p) k⟩) (UT p hs) (by push_cast -dsimp) (by push_cast -dsimp) (by push_cast -dsimp) (Nat.zero_le _) (by push_cast -dsimp) (fun it hit=>?_) (fun k _=>rfl) ?_ (fun k it hk hsf=>?_) (fun hsf=>?_)
 ·obtain ⟨x,_,rfl⟩:=List.mem_map.1 hit;rfl
 ·exact zS.mk [] rfl rfl (Nat.le_refl _) rfl (by push_cast -dsimp [zb,za,CLe,ze]) (by push_cast -dsimp [zb,za,CLe,ze])
 ·obtain ⟨x,hx,rfl⟩:=HG hk
  have hxd:(j8 p).getD k []=x:=by rw[List.getD_eq_getElem?_getD,hx];rfl
  have hkl:k<(j8 p).length:=(List.getElem?_eq_some_iff.1 hx).1
  have hcs:=vp (j8 p) k x hx
  have hbef:=Zk (xs:=j8 p) (sf:=sf) k (by omega) hsf
  by_cases he:x = []
  ·push_cast -dsimp [he]
   refine ⟨?_,zS.mk [] rfl rfl (Nat.le_refl _) ?_ (by push_cast -dsimp [zb,za,CLe,ze]) (by push_cast -dsimp [zb,za,CLe,ze])⟩
   ·rw[hxd,he];rfl
   ·simp[hcs,he,St.wt]
  ·have hget:=ziE (j8 p) k x hx he
   have hg2:(qA ((j8 p).filter kI))[cnt (j8 p) k]?=some [.str x]:=by rw[List.getElem?_map,hget];rfl
   push_cast -dsimp [he]
   rw[hg2]
   push_cast -dsimp
   refine ⟨by push_cast -dsimp [zb,za,CLe,ze],hbef,br (fun h2=>?_) (fun h2=>?_)⟩
   ·push_cast -dsimp
    refine ⟨by rw[hxd,h2];simp[kI,he],⟨[],[[.sc (.func (.yield l) #[] #[])]],0,cnt (j8 p) k+1⟩,rfl,zS.mk [] rfl rfl (Nat.le_refl _) rfl (by push_cast -dsimp [zb,za,CLe,ze]) (by push_cast -dsimp [zb,za,CLe,ze]),?_⟩
    push_cast -dsimp
    exact .inr ⟨Nat.succ_pos _,h2⟩
   ·push_cast -dsimp
    refine ⟨by rw[h2,Bool.and_false],zS.mk [] rfl rfl (Nat.le_refl _) ?_ (by push_cast -dsimp [zb,za,CLe,ze]) (by push_cast -dsimp [zb,za,CLe,ze])⟩
    simp[hcs,he,St.wt]
 ·have hall:=ziM (j8 p)
  have hbef:=Zk (xs:=j8 p) (sf:=sf) (j8 p).length (Nat.le_refl _) fun j hj=>hsf j (by simpa using hj)
  push_cast -dsimp
  refine .inl ⟨?_,?_⟩
  ·simp[hall]
  ·simpa using hbef
end
section
open Go.RowKit
theorem Zy (p:List UInt8):Fun Tryz.prog G0 80 [.str p] (.clo (.func 121) [] [.row [.str p]]) 0:=by
 refine Fun.of (fun _=>[]) Tryz.func80 rfl (zp rfl) (by kernel_rfl) ?_;dsimp only[Tryz.f80]
 push_cast -dsimp
 exact ⟨[],rfl,rfl,by push_cast -dsimp [zb,za,CLe,ze]⟩
theorem Hc (xs:List (List UInt8)) (f:FuncId) (cap:List C) (hsel:C.selL (Yu 1) cap=cap) (hit:UM Tryz.prog G0 f [] cap [] (qA xs)) (hx:xs.length<=1000001):Fun Tryz.prog G0 120 [.sc (.slice none 0 0),.clo (.func f) [] cap] (.own 0 9 1 (qA xs)) 1:=by
 refine Fun.of (fun _=>[]) Tryz.func120 rfl (zp rfl) (by kernel_rfl) ?_;dsimp only[Tryz.f120]
 push_cast -dsimp
 refine range (qA xs) (fun _=>false) 1 (fun k=>⟨[],[[.own 0 9 1 (qA (xs.take k))]],1,0⟩) hit (by push_cast -dsimp) hsel (by push_cast -dsimp) (Nat.zero_le _) (by push_cast -dsimp) (fun it h=>?_) (fun k _=>rfl) ?_ (fun k it hk hsf=>?_) (fun hsf=>?_)
 ·obtain ⟨x,_,rfl⟩:=List.mem_map.1 h;rfl
 ·exact zS.mk [.inr (9,1)] rfl rfl (Nat.le_refl _) rfl (by push_cast -dsimp [zb,za,CLe,ze]) (by push_cast -dsimp [zb,za,CLe,ze])
 ·obtain ⟨x,hx2,rfl⟩:=HG hk
  have hkl:k<xs.length:=(List.getElem?_eq_some_iff.1 hx2).1
  push_cast -dsimp
  simp only[List.length_take]
  refine ⟨by omega,by omega,zS.mk [.inl 0] rfl rfl (Nat.le_refl _) rfl (by push_cast -dsimp [zb,za,CLe,ze]) ?_⟩
  push_cast -dsimp [zb,za,CLe,ze]
  rw[List.take_add_one,hx2]
  rfl
 ·push_cast -dsimp
  refine ⟨[.inl 0],rfl,rfl,?_⟩
  push_cast -dsimp [zb,za,CLe,ze]
  simp
theorem M6 (xs:List (List UInt8)) (f:FuncId) (cap:List C) (hsel:C.selL (Yu 1) cap=cap) (hfrz:C.frzL cap=cap) (hit:UM Tryz.prog G0 f [] cap [] (qA xs)) (hx:xs.length<=1000001):Fun Tryz.prog G0 79 [.clo (.func f) [] cap] (.own 0 9 1 (qA xs)) 1:=by
 refine Fun.of (fun _=>[]) Tryz.func79 rfl (zp rfl) (by kernel_rfl) ?_;dsimp only[Tryz.f79]
 push_cast -dsimp [hfrz]
 refine call (Hc xs f cap hsel hit hx) ?_
 push_cast -dsimp
 exact ⟨[.inl 0],rfl,rfl,by push_cast -dsimp [zb,za,CLe,ze]⟩
theorem Xm (p:List UInt8) (hp:p.length<=1000000):Fun Tryz.prog G0 79 [.clo (.func 121) [] [.row [.str p]]] (.own 0 9 1 (qA (zE p))) 1:=
 M6 (zE p) _ _ (by push_cast -dsimp) (by push_cast -dsimp) (xT p hp) (by have:=jl p;omega)
theorem Qo (s p:List UInt8):Fun Tryz.prog G0 81 [.str s,.str p] (.sc (.bool (Lib.hasPrefix s p))) 0:=by
 refine Fun.wrap (by kernel_rfl) fun R vs h=>?_
 obtain ⟨v1,us1,rfl,h1,h⟩:=zd.1 h
 obtain ⟨v2,us2,rfl,h2,h⟩:=zd.1 h
 rw[zh]at h
 subst h
 rw[zR]at h1 h2
 subst h1 h2
 refine (Tryz.strings_HasPrefix ⟨s.toArray⟩ ⟨p.toArray⟩ R.w).mono ?_
 rintro e w' ⟨rfl,rfl⟩
 exact ⟨_,rfl,Below.refl _ _,fun R' _=>zn.2 (by simp)⟩
theorem QT (s p:List UInt8) (hs:s.length<=1000000):Fun Tryz.prog G0 38 [.str s,.str p] (.sc (.bool (Lib.hasSuffix s p))) 0:=by
 refine Fun.wrap (by kernel_rfl) fun R vs h=>?_
 obtain ⟨v1,us1,rfl,h1,h⟩:=zd.1 h
 obtain ⟨v2,us2,rfl,h2,h⟩:=zd.1 h
 rw[zh]at h
 subst h
 rw[zR]at h1 h2
 subst h1 h2
 refine (Tryz.strings_HasSuffix ⟨s.toArray⟩ ⟨p.toArray⟩ R.w (by simp[ByteArray.size];omega)).mono ?_
 rintro e w' ⟨rfl,rfl⟩
 exact ⟨_,rfl,Below.refl _ _,fun R' _=>zn.2 (by simp)⟩
theorem Hj (xs:List (List UInt8)) (sep:List UInt8) (hx:xs.length<=1000001) (hl:(Lib.join xs sep).length<=100000000):Fun Tryz.prog G0 78 [.sl 1 (qA xs),.str sep] (.str (Lib.join xs sep)) 0:=by
 refine Fun.wrap (by kernel_rfl) fun R vs h=>?_
 obtain ⟨v1,us1,rfl,h1,h⟩:=zd.1 h
 obtain ⟨v2,us2,rfl,h2,h⟩:=zd.1 h
 rw[zh]at h
 subst h
 rw[zR]at h2
 subst h2
 obtain ⟨a,cap,rfl,hc1,hc2,hr⟩:=U2.1 h1
 have hlen:(qA xs).length=xs.length:=by simp
 have hmap:(xs.map fun x=>ByteArray.mk x.toArray).map (·.data.toList)=xs:=by
  rw[List.map_map]
  conv=>rhs;rw[←List.map_id xs]
  exact List.map_congr_left fun x _=>by simp
 rcases hr with hr | ⟨b,o,rfl,hr⟩
 ·have:xs = []:=by simpa using hr
  subst this
  refine (Tryz.strings_Join_none a cap ⟨sep.toArray⟩ R.w).mono ?_
  rintro e w' ⟨rfl,rfl⟩
  exact ⟨_,rfl,Below.refl _ _,fun R' _=>zR.2 (by simp[Lib.join])⟩
 ·by_cases hx0:xs = []
  ·subst hx0
   refine (Tryz.strings_Join_none _ cap ⟨sep.toArray⟩ R.w).mono ?_
   rintro e w' ⟨rfl,rfl⟩
   exact ⟨_,rfl,Below.refl _ _,fun R' _=>zR.2 (by simp[Lib.join])⟩
  ·have hcells:∀ (j:Nat) x,(xs.map fun x=>ByteArray.mk x.toArray)[j]?=some x->R.w.cell? ⟨b,o+j,none⟩=some (.string x):=fun j x hj=>by
    rw[List.getElem?_map]at hj
    cases hq:xs[j]? with
    | none=>rw[hq]at hj;cases hj
    | some y =>
     rw[hq]at hj;cases hj
     obtain ⟨_,g⟩:=jd hr j [.str y] (by rw[List.getElem?_map,hq];rfl)
     obtain ⟨⟨v,g1,_,g2,_⟩,_⟩:=qf.1 g
     rw[zR]at g2
     subst g2
     simpa using g1
   have hb:b<R.w.heap.size:=by
    cases xs with
    | nil=>exact absurd rfl hx0
    | cons x r =>
     exact M9 (hcells 0 ⟨x.toArray⟩ rfl)
   have hj:=Tryz.strings_Join b o cap (xs.map fun x=>ByteArray.mk x.toArray) ⟨sep.toArray⟩ R.w hcells hb (by simp;omega) (by simpa using hc1) (by rw[hmap];simp;omega)
   rw[hmap]at hj
   simp only[List.length_map]at hj
   rw[hlen]
   refine hj.mono ?_
   rintro e w' ⟨rfl,hbl⟩
   exact ⟨_,rfl,hbl,fun R' _=>zR.2 (by simp)⟩
end
section
open Go.RowKit
def UG (p:List UInt8):C:=.agg [jN (Lib.hasPrefix p [47]),.own 0 9 1 (qA (zE p)),jN (!decide (zE p = [])&&Lib.hasSuffix p [47])]
theorem zfF (p:List UInt8) (hp:p.length<=1000000):Fun Tryz.prog G0 45 [.str p] (UG p) 1:=by
 refine Fun.of (fun _=>[]) Tryz.func45 rfl (zp rfl) (by kernel_rfl) ?_;dsimp only[Tryz.f45]
 push_cast -dsimp
 refine call (Zy p) ?_
 push_cast -dsimp
 refine call (Xm p hp) ?_
 push_cast -dsimp
 refine call (Qo p [47]) ?_
 push_cast -dsimp
 by_cases h:zE p = []
 ·push_cast -dsimp [h]
  exact ⟨[.inl 0],rfl,rfl,by simp only[UG];push_cast -dsimp [zb,za,CLe,ze,h];simp⟩
 ·have h':0<(zE p).length:=List.length_pos_iff.2 h
  push_cast -dsimp [h']
  refine call (QT p [47] hp) ?_
  push_cast -dsimp
  exact ⟨[.inl 0],rfl,rfl,by simp only[UG];push_cast -dsimp [zb,za,CLe,ze,h]⟩
def put (a:Bool) (xs:List (List UInt8)) (s:Bool):List UInt8:=(if a then [47] else [])++Lib.join xs [47]++(if s&&!decide (xs = []) then [47] else [])
def qF (xs:List (List UInt8)):List UInt8:=if xs = [] then [47] else 47 :: Lib.join xs [47]
theorem XB (xs:List (List UInt8)) (hx:xs.length<=1000001) (hl:(Lib.join xs [47]).length<=100000000):Fun Tryz.prog G0 44 [.sl 1 (qA xs)] (.str (qF xs)) 0:=by
 refine Fun.of (fun _=>[]) Tryz.func44 rfl (zp rfl) (by kernel_rfl) ?_;dsimp only[Tryz.f44]
 push_cast -dsimp
 by_cases h:xs = []
 ·push_cast -dsimp [h]
  exact ⟨[],rfl,rfl,by simp only[qF,h];push_cast -dsimp [zb,za,CLe,ze]⟩
 ·have h':¬((xs.length:Int)=0):=by have:=List.length_pos_iff.2 h;omega
  push_cast -dsimp [h']
  refine call ((Hj xs [47] hx hl)) ?_
  push_cast -dsimp
  exact ⟨by omega,[],rfl,rfl,by simp only[qF,if_neg h];push_cast -dsimp [zb,za,CLe,ze]⟩
def HV (p:List UInt8):Bool:=(zE p).any (fun x=>decide (255<x.length))||decide (4095<p.length)
def kp (p q:List UInt8):Bool:=decide (p=q)||decide (q = [47])||Lib.hasPrefix p (q++[47])
theorem U1 (p q:List UInt8) (hq:q.length<=1000000):Fun Tryz.prog G0 135 [.str p,.str q] (jN (kp p q)) 0:=by
 refine Fun.of (fun _=>[]) Tryz.func135 rfl (zp rfl) (by kernel_rfl) ?_;dsimp only[Tryz.f135]
 push_cast -dsimp
 by_cases h1:p=q
 ·push_cast -dsimp [h1]
  exact ⟨[],rfl,rfl,by push_cast -dsimp [zb,za,CLe,ze];simp[kp]⟩
 ·by_cases h2:q = [47]
  ·subst h2
   push_cast -dsimp [h1]
   exact ⟨[],rfl,rfl,by push_cast -dsimp [zb,za,CLe,ze];simp[kp]⟩
  ·push_cast -dsimp [h1,h2]
   refine ⟨by omega,?_⟩
   refine call (Qo p (q++[47])) ?_
   push_cast -dsimp
   exact ⟨[],rfl,rfl,by push_cast -dsimp [zb,za,CLe,ze];simp[kp,h1,h2]⟩
end
section
open Go.RowKit
theorem Gg (l:List UInt8) (c:UInt8):Fun Tryz.prog G0 260 [.str l,.sc (.int .u8 (c.toNat:Int))] (.sc (.int .i64 (Lib.indexByte l c))) 0:=by
 refine Fun.wrap (by kernel_rfl) fun R vs h=>?_
 obtain ⟨v1,us1,rfl,h1,h⟩:=zd.1 h
 obtain ⟨v2,us2,rfl,h2,h⟩:=zd.1 h
 rw[zh]at h
 subst h
 rw[zR]at h1
 rw[zn]at h2
 subst h1 h2
 refine (Tryz.strings_IndexByte ⟨l.toArray⟩ (c.toNat:Int) R.w).mono ?_
 rintro e w' ⟨rfl,rfl⟩
 exact ⟨_,rfl,Below.refl _ _,fun R' _=>zn.2 (by simp)⟩
theorem YO (r:Int):Fun Tryz.prog G0 261 [.sc (.int .i32 r)] (.sc (.bool (Lib.validRune r))) 0:=by
 refine Fun.wrap (by kernel_rfl) fun R vs h=>?_
 obtain ⟨v1,us1,rfl,h1,h⟩:=zd.1 h
 rw[zh]at h
 subst h
 rw[zn]at h1
 subst h1
 refine (Tryz.utf8_ValidRune r R.w).mono ?_
 rintro e w' ⟨rfl,rfl⟩
 exact ⟨_,rfl,Below.refl _ _,fun R' _=>zn.2 rfl⟩
theorem zgI (r:Int) (hv:Utf8.valid r=true) (h128:128<=r):∃ l c,(Utf8.encode r).data.toList=l++[c]/\1<=l.length/\l.length<=3/\128<=c.toNat:=by
 obtain ⟨h1,h2,h3⟩:=encode_facts r hv h128
 generalize Utf8.encode r=bs at h1 h2 h3 ⊢
 have hs:bs.data.toList.length=bs.size:=Array.length_toList
 have h4:=h3 (by omega)
 have h5:bs.data.toList[bs.size-1]?=some (bs[bs.size-1]'(by omega)):=Lib.data_getElem? bs _ (by omega)
 generalize bs[bs.size-1]'(by omega)=c at h4 h5
 generalize bs.data.toList=l at hs h5
 refine ⟨l.take (bs.size-1),c,?_,by simp;omega,by simp;omega,h4⟩
 have:=List.take_append_drop (bs.size-1) l
 have hd:l.drop (bs.size-1) = [c]:=by
  have hlt:bs.size-1<l.length:=by omega
  rw[List.drop_eq_getElem_cons hlt]
  rw[List.getElem?_eq_getElem hlt]at h5
  cases h5
  rw[List.drop_eq_nil_of_le (by omega)]
 rw[hd]at this
 exact this.symm
theorem Gt (r:Int) (h1:128<=r) (hv:Utf8.valid r=true) (h2:r≠65533):Fun Tryz.prog G0 249 [.str [47,0],.sc (.int .i32 r)] (.sc (.int .i64 (-1))) 0:=by
 have hlv:Lib.validRune r=true:=by
  have:=validRune_eq r
  rw[hv]at this
  exact this.symm
 obtain ⟨l,c,he,hl1,hl3,hc⟩:=zgI r hv h1
 have ha:0<=r:=by omega
 have hb:¬r<128:=by omega
 have hc0:¬((0:Int)=(c.toNat:Int)):=by omega
 have hix:=Gg [] c
 match l,hl1,hl3 with
 | [x],_,_ =>
  refine Fun.of (fun _=>[]) Tryz.func249 rfl (zp rfl) (by kernel_rfl) ?_;dsimp only[Tryz.f249]
  push_cast -dsimp [ha,hb,h2]
  refine call (YO r) ?_
  push_cast -dsimp [hlv,he]
  refine loop (fun k:Nat=>⟨[(0,.str [47,0]),(1,.sc (.int .i32 r)),(7,.str [x,c]),(8,.sc (.int .i64 1)),(9,.sc (.int .i64 1)),(10,.sc (.int .i64 0))],[],0,0⟩) (fun k=>True) (fun k=>0) 0 trivial ?_ ?_
  ·exact zS.mk [] rfl rfl (Nat.le_refl _) rfl (by push_cast -dsimp [zb,za,CLe,ze]) (by push_cast -dsimp [zb,za,CLe,ze])
  ·intro k _
   push_cast -dsimp [hc0]
   refine uB hix ?_
   have hi0:Lib.indexByte [] c = -1:=rfl
   push_cast -dsimp [hi0]
   exact ⟨[],rfl,rfl,by push_cast -dsimp [zb,za,CLe,ze]⟩
 | [x,y],_,_ =>
  refine Fun.of (fun _=>[]) Tryz.func249 rfl (zp rfl) (by kernel_rfl) ?_;dsimp only[Tryz.f249]
  push_cast -dsimp [ha,hb,h2]
  refine call (YO r) ?_
  push_cast -dsimp [hlv,he]
  refine loop (fun k:Nat=>⟨[(0,.str [47,0]),(9,.sc (.int .i64 2))],[],0,0⟩) (fun k=>True) (fun k=>0) 0 trivial ?_ ?_
  ·exact zS.mk [] rfl rfl (Nat.le_refl _) rfl (by push_cast -dsimp [zb,za,CLe,ze]) (by push_cast -dsimp [zb,za,CLe,ze])
  ·intro k _
   push_cast -dsimp
   exact ⟨[],rfl,rfl,by push_cast -dsimp [zb,za,CLe,ze]⟩
 | [x,y,z],_,_ =>
  refine Fun.of (fun _=>[]) Tryz.func249 rfl (zp rfl) (by kernel_rfl) ?_;dsimp only[Tryz.f249]
  push_cast -dsimp [ha,hb,h2]
  refine call (YO r) ?_
  push_cast -dsimp [hlv,he]
  refine loop (fun k:Nat=>⟨[(0,.str [47,0]),(9,.sc (.int .i64 3))],[],0,0⟩) (fun k=>True) (fun k=>0) 0 trivial ?_ ?_
  ·exact zS.mk [] rfl rfl (Nat.le_refl _) rfl (by push_cast -dsimp [zb,za,CLe,ze]) (by push_cast -dsimp [zb,za,CLe,ze])
  ·intro k _
   push_cast -dsimp
   exact ⟨[],rfl,rfl,by push_cast -dsimp [zb,za,CLe,ze]⟩
theorem H7 (w:World):Calls Tryz.prog 249 #[.string ⟨#[47,0]⟩,.int .i32 65533] w fun e w'=>e = .returned (.int .i64 (-1))/\Below w.heap.size w w':=by
 go_enter Tryz.func249,Tryz.ntmps249
 go_wp2
 go_loopg [5,6] 2 (fun g _ _ wx=>∃ i:Nat,i+g=2/\wx=w.iter ⟨#[47,0]⟩ i)
 case atStart=>exact ⟨0,by omega,rfl⟩
 case round =>
  obtain ⟨i,hig,rfl⟩:=hrel
  cases gk with
  | zero =>
   obtain rfl:i=2:=by omega
   have hnx:=fun ty=>run_next_end (P:=Tryz.prog) w ⟨#[47,0]⟩ 2 ty (by decide)
   go_wp2
   go_ret
   exact ⟨rfl,(Below.refl _ _).alloc (Nat.le_refl _) _⟩
  | succ g =>
   have hi:i<(ByteArray.mk #[47,0]).size:=by show i<2;omega
   have hx128:((ByteArray.mk #[47,0])[i]'hi).toNat<128:=by
    have:i=0∨i=1:=by omega
    rcases this with rfl | rfl
    ·exact (by decide:(47:UInt8).toNat<128)
    ·exact (by decide:(0:UInt8).toNat<128)
   have hnx:=fun ty=>run_next_ascii (P:=Tryz.prog) w ⟨#[47,0]⟩ i ty hi hx128
   have hne:((((ByteArray.mk #[47,0])[i]'hi).toNat:Int)==65533)=false:=by
    rw[beq_eq_false_iff_ne];omega
   go_wp2
   go_roundg g
   case measure=>omega
   case rel=>exact ⟨i+1,by omega,rfl⟩
end
section
open Go.RowKit Go.Shelf
def bad (b:UInt8):Bool:=decide (b=47)||decide (b=0)
theorem ZQ (b:UInt8):[47,0].contains b=bad b:=by simp[bad,List.contains_iff_mem,Bool.eq_iff_iff]
theorem xj {P:Program} {W:World} {b:Nat} {s:ByteArray} {pos:Nat} (hb:W.heap[b]?=some (.stringIter s pos)) (h:pos<s.size) (ty:TypeId) :
  (Instr.next (.pointer (some ⟨b,0,none⟩)) true ty).run P W = .ok (.tuple #[.bool true,.int .i64 pos,.int .i32 (Utf8.decode s pos).1]) (W.putObj b (.stringIter s (pos+(Utf8.decode s pos).2))):=by
 simp only[Instr.next,getObj,setObj,Sem.run_bind,Sem.run,hb,Result.andThen,h,if_true]
 simp[goInt,Sem.run,hb,World.putObj]
theorem VZ {P:Program} {W:World} {b:Nat} {s:ByteArray} {pos:Nat} (hb:W.heap[b]?=some (.stringIter s pos)) (h:¬pos<s.size) (ty:TypeId) :
  (Instr.next (.pointer (some ⟨b,0,none⟩)) true ty).run P W = .ok (.tuple #[.bool false]) W:=by
 simp[Instr.next,getObj,Sem.run,hb,h]
theorem get!_eq (s:ByteArray) (k:Nat) (hk:k<s.size):s.get! k=s[k]'hk:=by
 simp[ByteArray.get!,getElem!_pos,hk];rfl
theorem zgm {c:Nat} (h:c<55296∨(57344<=c/\c<=1114111)):Utf8.valid (c:Int)=true:=by
 unfold Utf8.valid
 rcases h with h | h
 ·have h1:((c:Int)<55296):=by omega
  simp;omega
 ·simp;omega
theorem xw (s:ByteArray) (i:Nat) (h:i<s.size):(((s[i]'h).toNat<128/\Utf8.decode s i=((s[i]'h).toNat,1))∨(128<=(Utf8.decode s i).1/\Utf8.valid ((Utf8.decode s i).1:Int)=true/\1<=(Utf8.decode s i).2/\i+(Utf8.decode s i).2<=s.size/\∀ j (hj:j<s.size),i<=j->j<i+(Utf8.decode s i).2->128<=(s[j]'hj).toNat)):=by
 by_cases ha:(s[i]'h).toNat<128
 ·exact .inl ⟨ha,decode_ascii s i h ha⟩
 ·refine .inr ?_
  have hb0:¬(s.get! (i+0)).toNat<128:=by rw[Nat.add_zero,get!_eq s i h];exact ha
  have hby:∀ n,(∀ k,k<n->128<=(s.get! (i+k)).toNat)->∀ j (hj:j<s.size),i<=j->j<i+n->128<=(s[j]'hj).toNat:=fun n hn j hj h1 h2=>by
   have:=hn (j-i) (by omega)
   rw[show i+(j-i)=j by omega,get!_eq s j hj]at this
   exact this
  have hone:128<=65533/\Utf8.valid ((65533:Nat):Int)=true/\1<=1/\i+1<=s.size/\∀ j (hj:j<s.size),i<=j->j<i+1->128<=(s[j]'hj).toNat:=
   ⟨by omega,by decide,by omega,by omega,hby 1 fun k hk=>by rw[show k=0 by omega];omega⟩
  unfold Utf8.decode
  simp only[if_neg hb0,Utf8.runeError]
  obtain ⟨b0,hg0⟩:∃ b,(s.get! (i+0)).toNat=b:=⟨_,rfl⟩
  obtain ⟨b1,hg1⟩:∃ b,(s.get! (i+1)).toNat=b:=⟨_,rfl⟩
  obtain ⟨b2,hg2⟩:∃ b,(s.get! (i+2)).toNat=b:=⟨_,rfl⟩
  obtain ⟨b3,hg3⟩:∃ b,(s.get! (i+3)).toNat=b:=⟨_,rfl⟩
  rw[hg0]at hb0
  simp only[hg0,hg1,hg2,hg3]
  have hlt:b0<256:=by rw[←hg0];exact (s.get! (i+0)).toNat_lt
  split
  ·rename_i hc
   simp only[Bool.and_eq_true,beq_iff_eq,decide_eq_true_eq]at hc
   split
   ·rename_i hv
    refine ⟨by show 128<=_;omega,zgm (.inl (by omega)),by show 1<=2;omega,by show i+2<=_;omega,hby 2 fun k hk=>?_⟩
    rcases (show k=0∨k=1 by omega) with rfl | rfl
    ·rw[hg0];omega
    ·rw[hg1];omega
   ·exact hone
  ·split
   ·rename_i hc
    simp only[Bool.and_eq_true,beq_iff_eq,decide_eq_true_eq]at hc
    split
    ·rename_i hv
     simp only[Bool.and_eq_true,decide_eq_true_eq]at hv
     refine ⟨by show 128<=_;omega,hv.2,by show 1<=3;omega,by show i+3<=_;omega,hby 3 fun k hk=>?_⟩
     rcases (show k=0∨k=1∨k=2 by omega) with rfl | rfl | rfl
     ·rw[hg0];omega
     ·rw[hg1];omega
     ·rw[hg2];omega
    ·exact hone
   ·split
    ·rename_i hc
     simp only[Bool.and_eq_true,beq_iff_eq,decide_eq_true_eq]at hc
     split
     ·rename_i hv
      simp only[Bool.and_eq_true,decide_eq_true_eq]at hv
      refine ⟨by show 128<=_;omega,hv.2,by show 1<=4;omega,by show i+4<=_;omega,hby 4 fun k hk=>?_⟩
      rcases (show k=0∨k=1∨k=2∨k=3 by omega) with rfl | rfl | rfl | rfl
      ·rw[hg0];omega
      ·rw[hg1];omega
      ·rw[hg2];omega
      ·rw[hg3];omega
     ·exact hone
    ·exact hone
theorem Ga (r:Int) (h1:128<=r) (hv:Utf8.valid r=true) (w:World):Calls Tryz.prog 249 #[.string ⟨#[47,0]⟩,.int .i32 r] w fun e w'=>e = .returned (.int .i64 (-1))/\Below w.heap.size w w':=by
 by_cases h2:r=65533
 ·subst h2;exact H7 w
 ·refine ((Gt r h1 hv h2).2 ⟨w,fun _ _=>False,fun _=>False⟩ [.string ⟨#[47,0]⟩,.int .i32 r] (fun g cs h=>by cases h) ?_).mono ?_
  ·exact zd.2 ⟨_,_,rfl,zR.2 rfl,zd.2 ⟨_,_,rfl,zn.2 rfl,zh.2 rfl⟩⟩
  ·rintro e w' ⟨v,R',L',rfl,rfl,hst,hr⟩
   rw[zn]at hr
   exact ⟨by rw[hr],hst.below⟩
theorem zdm (w:World) (s:ByteArray):(w.iter s 0).heap[w.heap.size]?=some (.stringIter s 0):=World.iter_heap w s 0
theorem Mn {w W:World} {s:ByteArray} {p:Nat} (hb:Below w.heap.size w W) (hs:W.heap[w.heap.size]?=some (.stringIter s p)) (p':Nat):Below w.heap.size w (W.putObj w.heap.size (.stringIter s p'))/\(W.putObj w.heap.size (.stringIter s p')).heap[w.heap.size]?=some (.stringIter s p'):=
 ⟨⟨hb.os,hb.tape,hb.output,by simpa using hb.size,fun k hk=>(World.putObj_heap_other (by omega)).trans (hb.block k hk)⟩,World.putObj_heap_same (zW hs)⟩
theorem uN {w W W':World} {s:ByteArray} {p:Nat} (hb:Below w.heap.size w W) (hs:W.heap[w.heap.size]?=some (.stringIter s p)) (h:Below W.heap.size W W'):Below w.heap.size w W'/\W'.heap[w.heap.size]?=some (.stringIter s p):=
 ⟨hb.trans (h.mono hb.size),(h.block _ (zW hs)).trans hs⟩
theorem UP (s:ByteArray) (w:World) (h8:s.size<=8):Calls Tryz.prog 250 #[.string s,.string ⟨#[47,0]⟩] w fun e w'=>e = .returned (.int .i64 (Lib.indexAny s.data.toList [47,0]))/\Below w.heap.size w w':=by
 have h8z:decide ((8:Int)<(s.size:Int))=false:=decide_eq_false (by omega)
 have hsi:=zdm w s
 have hbi:Below w.heap.size w (w.iter s 0):=(Below.refl _ _).alloc (Nat.le_refl _) _
 have HI:Aside ((w.iter s 0).heap[w.heap.size]?=some (.stringIter s 0)/\Below w.heap.size w (w.iter s 0)):=⟨hsi,hbi⟩
 clear hsi hbi
 go_enter Tryz.func250,Tryz.ntmps250
 go_wp2_with (go_at_call 262;refine (Tryz.strings_shouldUseASCIISet _ _).mono ?_;rintro e w' ⟨rfl,hw⟩;rw[hw,h8z])
 go_loopg [9,10] s.size (fun g _ _ wx=>∃ i:Nat,i+g=s.size/\wx.heap[w.heap.size]?=some (.stringIter s i)/\Below w.heap.size w wx/\Lib.NoAny s.data.toList [47,0] i)
 case atStart=>exact ⟨0,by omega,HI.out.1,HI.out.2,Lib.NoAny.zero _ _⟩
 case round =>
  obtain ⟨i,hig,hs,hbl,hno⟩:=hrel
  have HN:Aside (Lib.NoAny s.data.toList [47,0] i/\wr.heap[w.heap.size]?=some (.stringIter s i)/\Below w.heap.size w wr):=⟨hno,hs,hbl⟩
  cases gk with
  | zero =>
   obtain rfl:i=s.size:=by omega
   have hnx:=fun ty=>VZ (P:=Tryz.prog) hs (by omega) ty
   clear hno hs hbl
   go_wp2
   go_ret
   exact ⟨by rw[Lib.indexAny_none (by rw[←Lib.size_eq];exact HN.out.1)];rfl,HN.out.2.2⟩
  | succ g =>
   have hi:i<s.size:=by omega
   have hnx:=fun ty=>xj (P:=Tryz.prog) hs hi ty
   have hpi:=Mn hbl hs (i+(Utf8.decode s i).2)
   have HP:Aside (Below w.heap.size w (wr.putObj w.heap.size (.stringIter s (i+(Utf8.decode s i).2)))/\(wr.putObj w.heap.size (.stringIter s (i+(Utf8.decode s i).2))).heap[w.heap.size]?=some (.stringIter s (i+(Utf8.decode s i).2))):=hpi
   clear hno hs hbl hpi
   obtain ⟨x,hx⟩:∃ x:UInt8,s[i]'hi=x:=⟨_,rfl⟩
   have hxl:s.data.toList[i]?=some x:=by rw[←hx];exact Lib.data_getElem? s i hi
   rcases xw s i hi with ⟨hd1,hd2⟩ | ⟨hd1,hd2,hd3,hd4,hd5⟩
   ·rw[hx]at hd1 hd2
    rw[hd2]at hnx HP
    have Hx:Aside (s.data.toList[i]?=some x):=hxl
    clear hxl hx hd2
    have hcon:=Lib.contains_iff_indexByte [47,0] x
    have hback:((x.toNat:Int)).toNat.toUInt8=x:=by simp
    cases hin:([47,0]:List UInt8).contains x
    ·rw[hin]at hcon
     have hlt:¬((0:Int)<=Lib.indexByte [47,0] x):=of_decide_eq_false hcon.symm
     clear hcon
     go_wp2_with (go_at_call 249;refine (Tryz.strings_IndexRune_ascii _ _ _ (by omega) (by omega)).mono ?_;rintro e w' ⟨rfl,hw⟩;rw[hw,hback])
     go_roundg g
     case measure=>omega
     case rel=>exact ⟨i+1,by omega,HP.out.2,HP.out.1,HN.out.1.succ Hx.out hin⟩
    ·rw[hin]at hcon
     have hge:(0:Int)<=Lib.indexByte [47,0] x:=of_decide_eq_true hcon.symm
     clear hcon
     go_wp2_with (go_at_call 249;refine (Tryz.strings_IndexRune_ascii _ _ _ (by omega) (by omega)).mono ?_;rintro e w' ⟨rfl,hw⟩;rw[hw,hback])
     go_ret
     exact ⟨by rw[Lib.indexAny_hit HN.out.1 Hx.out hin];rfl,HP.out.1⟩
   ·obtain ⟨c,hc⟩:∃ c,(Utf8.decode s i).1=c:=⟨_,rfl⟩
    obtain ⟨n,hn⟩:∃ n,(Utf8.decode s i).2=n:=⟨_,rfl⟩
    rw[hc,hn]at hnx
    rw[hn]at HP hd3 hd4 hd5
    rw[hc]at hd1 hd2
    have H5:Aside (∀ j (hj:j<s.size),i<=j->j<i+n->128<=(s[j]'hj).toNat):=hd5
    have H2:Aside (Utf8.valid (c:Int)=true):=hd2
    clear hd5 hd2 hxl hx hc hn
    go_wp2_with (go_at_call 249;refine (Ga _ (by omega) H2.out _).mono ?_;rintro e w' ⟨rfl,hw⟩;have HW:=uN HP.out.1 HP.out.2 hw)
    go_roundg (s.size-(i+n))
    case measure=>omega
    case rel =>
     refine ⟨i+n,by omega,HW.2,HW.1,fun j b hj hb=>?_⟩
     rcases Nat.lt_or_ge j i with g | g
     ·exact HN.out.1 j b g hb
     ·have hjs:j<s.size:=by omega
      have:=H5.out j hjs g hj
      have hb2:=Lib.data_getElem? s j hjs
      rw[hb]at hb2
      have hb3:b=s[j]'hjs:=Option.some.inj hb2
      rw[ZQ,hb3]
      have h47:s[j]'hjs≠47:=fun e=>by rw[e]at this;revert this;decide
      have h00:s[j]'hjs≠0:=fun e=>by rw[e]at this;revert this;decide
      simp[bad,h47,h00]
end
section
open Go.RowKit Go.Shelf
theorem kK (w:World):(zeroValue 223).run Tryz.prog w = .ok (.agg (Array.replicate 256 (.bool false))) w:=by kernel_rfl
theorem Z2:∀ l:List UInt8,decide (0<=Lib.indexAny l [47,0])=l.any bad
 | []=>rfl
 | b :: l=>by
  have ih:=Z2 l
  have hg:=Lib.indexAny_ge [47,0] l
  unfold Lib.indexAny
  rw[ZQ,List.any_cons]
  cases hb:bad b with
  | true=>simp
  | false =>
   simp only[Bool.false_eq_true,if_false,Bool.false_or,←ih]
   split
   ·rename_i h
    have:=beq_iff_eq.1 h
    first | rw[this];done | (rw[this];rfl)
   ·rename_i h
    have h':Lib.indexAny l [47,0]≠-1:=by simpa using h
    rw[decide_eq_decide];omega
theorem Nz (l:List UInt8) (hl:l.length<=1000000):Fun Tryz.prog G0 250 [.str l,.str [47,0]] (.sc (.int .i64 (Lib.indexAny l [47,0]))) 0:=by
 refine Fun.wrap (by kernel_rfl) fun R vs h=>?_
 obtain ⟨v1,us1,rfl,h1,h⟩:=zd.1 h
 obtain ⟨v2,us2,rfl,h2,h⟩:=zd.1 h
 rw[zh]at h
 subst h
 rw[zR]at h1 h2
 subst h1 h2
 have hsz:(ByteArray.mk l.toArray).size=l.length:=by simp[ByteArray.size]
 by_cases h8:l.length<=8
 ·refine (UP ⟨l.toArray⟩ R.w (by omega)).mono ?_
  rintro e w' ⟨rfl,hb⟩
  exact ⟨_,rfl,hb,fun R' _=>zn.2 (by simp)⟩
 ·refine (Tryz.strings_IndexAny_long kK ⟨l.toArray⟩ ⟨#[47,0]⟩ R.w (by decide) (by omega) (by omega) (by decide) ?_).mono ?_
  ·intro j b hb
   have:b=47∨b=0:=by
    have:=List.mem_of_getElem? hb
    simpa using this
   rcases this with rfl | rfl<;>decide
  ·rintro e w' ⟨rfl,rfl⟩
   exact ⟨_,rfl,((Below.refl _ _).alloc (Nat.le_refl _) _).alloc (by simp) _,fun R' _=>zn.2 (by simp)⟩
theorem J2 (l:List UInt8) (hl:l.length<=1000000):Fun Tryz.prog G0 227 [.str l,.str [47,0]] (jN (l.any bad)) 0:=by
 have h:=Z2 l
 refine Fun.of (fun _=>[]) Tryz.func227 rfl (zp rfl) (by kernel_rfl) ?_;dsimp only[Tryz.f227]
 push_cast -dsimp
 refine call (Nz l hl) ?_
 push_cast -dsimp
 exact ⟨[],rfl,rfl,by push_cast -dsimp [zb,za,CLe,ze,h]⟩
def may (l:List UInt8):Bool:=!decide (l = [])&&decide (l.length<=255)&&!l.any bad&&!decide (l = [46])&&!decide (l = [46,46])
theorem zdI (l:List UInt8) (hl:l.length<=1000000):Fun Tryz.prog G0 198 [.str l] (jN (may l)) 0:=by
 by_cases h1:l = []
 ·refine Fun.of (fun _=>[]) Tryz.func198 rfl (zp rfl) (by kernel_rfl) ?_;dsimp only[Tryz.f198]
  push_cast -dsimp [h1]
  exact ⟨[],rfl,rfl,by push_cast -dsimp [zb,za,CLe,ze];simp[may]⟩
 ·by_cases h2:l.length<=255
  ·have h2':(l.length:Int)<=255:=by omega
   cases h3:l.any bad with
   | true =>
    refine Fun.of (fun _=>[]) Tryz.func198 rfl (zp rfl) (by kernel_rfl) ?_;dsimp only[Tryz.f198]
    push_cast -dsimp [h1,h2']
    refine call (J2 l hl) ?_
    push_cast -dsimp [h3]
    exact ⟨[],rfl,rfl,by push_cast -dsimp [zb,za,CLe,ze];simp[may,h3]⟩
   | false =>
    by_cases h4:l = [46]
    ·subst h4
     refine Fun.of (fun _=>[]) Tryz.func198 rfl (zp rfl) (by kernel_rfl) ?_;dsimp only[Tryz.f198]
     push_cast -dsimp [h2']
     refine call (J2 _ hl) ?_
     push_cast -dsimp [h3]
     exact ⟨[],rfl,rfl,by push_cast -dsimp [zb,za,CLe,ze];simp[may]⟩
    ·refine Fun.of (fun _=>[]) Tryz.func198 rfl (zp rfl) (by kernel_rfl) ?_;dsimp only[Tryz.f198]
     push_cast -dsimp [h1,h2']
     refine call (J2 l hl) ?_
     push_cast -dsimp [h3,h4]
     exact ⟨[],rfl,rfl,by push_cast -dsimp [zb,za,CLe,ze];simp[may,h1,h2,h3,h4]⟩
  ·have h2':¬(l.length:Int)<=255:=by omega
   refine Fun.of (fun _=>[]) Tryz.func198 rfl (zp rfl) (by kernel_rfl) ?_;dsimp only[Tryz.f198]
   push_cast -dsimp [h1,h2']
   exact ⟨[],rfl,rfl,by push_cast -dsimp [zb,za,CLe,ze];simp[may,h2]⟩
theorem zaW (l:List UInt8) (hl:l.length<=1000000):Fun Tryz.prog G0 197 [.str l] (jN (!may l)) 0:=by
 refine Fun.of (fun _=>[]) Tryz.func197 rfl (zp rfl) (by kernel_rfl) ?_;dsimp only[Tryz.f197]
 push_cast -dsimp
 refine call (zdI l hl) ?_
 push_cast -dsimp
 exact ⟨[],rfl,rfl,by push_cast -dsimp [zb,za,CLe,ze]⟩
end
section
open Go.RowKit
def zd5 (xs:List (List UInt8)):Int:=match xs.findIdx? (fun x=>!may x) with | some i=>(i:Int) | none=>-1
theorem zfa (xs:List (List UInt8)):decide (0<=zd5 xs) = !xs.all may:=by
 unfold zd5
 cases h:xs.findIdx? (fun x=>!may x) with
 | none =>
  have:=List.findIdx?_eq_none_iff.1 h
  have h2:xs.all may=true:=List.all_eq_true.2 fun x hx=>by simpa using this x hx
  rw[h2];rfl
 | some i =>
  have h1:=List.findIdx?_eq_some_iff_getElem.1 h
  obtain ⟨hi,hp,_⟩:=h1
  have h2:xs.all may=false:=List.all_eq_false.2 ⟨xs[i],List.getElem_mem hi,by simpa using hp⟩
  rw[h2];simp
theorem H6 (xs:List (List UInt8)) (hx:xs.length<=1000001) (hl:∀ x∈xs,x.length<=1000000):Fun Tryz.prog G0 226 [.sl 1 (qA xs),.clo (.func 197) [] []] (.sc (.int .i64 (zd5 xs))) 0:=by
 refine Fun.of (fun _=>[]) Tryz.func226 rfl (zp rfl) (by kernel_rfl) ?_;dsimp only[Tryz.f226]
 push_cast -dsimp
 refine loop (fun k:Nat=>⟨[(0,.sl 1 (qA xs)),(1,.clo (.func 197) [] []),(7,.sc (.int .i64 (xs.length:Int))),(8,.sc (.int .i64 k))],[],0,0⟩) (fun k=>k<=xs.length/\∀ j (hj:j<xs.length),j<k->may (xs[j]'hj)=true) (fun k=>xs.length-k) 0 ⟨Nat.zero_le _,fun j _ hj=>by omega⟩ ?_ ?_
 ·exact zS.mk [] rfl rfl (Nat.le_refl _) rfl (by push_cast -dsimp [zb,za,CLe,ze]) (by push_cast -dsimp [zb,za,CLe,ze])
 ·intro k hk
  have hk1:=hk.1
  have hk2:=hk.2
  by_cases h:k<xs.length
  ·have hg:(qA xs)[k]?=some [.str (xs[k]'h)]:=by rw[strs_get?,List.getElem?_eq_getElem h];rfl
   push_cast -dsimp [h,hg]
   refine ⟨by omega,?_⟩
   refine call (zaW (xs[k]'h) (hl _ (List.getElem_mem h))) ?_
   push_cast -dsimp
   cases hm:may (xs[k]'h) with
   | true =>
    push_cast -dsimp
    refine ⟨by omega,k+1,⟨by omega,fun j hj hjk=>?_⟩,by omega,zS.mk [] rfl rfl (Nat.le_refl _) rfl (by push_cast -dsimp [zb,za,CLe,ze]) (by push_cast -dsimp [zb,za,CLe,ze])⟩
    rcases Nat.lt_or_ge j k with g | g
    ·exact hk2 j hj g
    ·have:j=k:=by omega
     subst this;exact hm
   | false =>
    push_cast -dsimp
    refine ⟨[],rfl,rfl,?_⟩
    push_cast -dsimp [zb,za,CLe,ze]
    have:xs.findIdx? (fun x=>!may x)=some k:=List.findIdx?_eq_some_iff_getElem.2 ⟨h,by simp[hm],fun j hj=>by simp[hk2 j (by omega) hj]⟩
    simp[zd5,this]
  ·push_cast -dsimp [h]
   refine ⟨[],rfl,rfl,?_⟩
   push_cast -dsimp [zb,za,CLe,ze]
   have:xs.findIdx? (fun x=>!may x)=none:=List.findIdx?_eq_none_iff.2 fun x hx=>by
    obtain ⟨j,hj,rfl⟩:=List.getElem_of_mem hx
    simp[hk2 j hj (by omega)]
   simp[zd5,this]
theorem Vb (xs:List (List UInt8)) (hx:xs.length<=1000001) (hl:∀ x∈xs,x.length<=1000000):Fun Tryz.prog G0 196 [.sl 1 (qA xs),.clo (.func 197) [] []] (jN (!xs.all may)) 0:=by
 have h:=zfa xs
 refine Fun.of (fun _=>[]) Tryz.func196 rfl (zp rfl) (by kernel_rfl) ?_;dsimp only[Tryz.f196]
 push_cast -dsimp
 refine call (H6 xs hx hl) ?_
 push_cast -dsimp
 exact ⟨[],rfl,rfl,by push_cast -dsimp [zb,za,CLe,ze,h]⟩
def XA (p:List UInt8):Bool:=decide (qF (zE p)=p)&&(zE p).all may
def YH (p:List UInt8):C:=.tup [.own 0 9 1 (qA (if XA p then zE p else [])),jN (XA p)]
theorem JO (x y:List UInt8) (r:List (List UInt8)) (sep:List UInt8):Lib.join (x :: y :: r) sep=x++sep++Lib.join (y :: r) sep:=by
 simp[Lib.join,List.intercalate,List.intersperse]
theorem XF:∀ xs:List (List UInt8),xs≠[]->(Lib.join xs [47]).length+1=(xs.map fun x=>x.length+1).sum
 | [],h=>absurd rfl h
 | [x],_=>by simp[Lib.join]
 | x :: y :: r,_=>by
  have ih:=XF (y :: r) (by simp)
  rw[JO]
  simp only[List.length_append,List.length_cons,List.length_nil,List.map_cons,List.sum_cons]at ih ⊢
  omega
theorem zew:∀ l:List UInt8,((j8 l).map fun x=>x.length+1).sum=l.length+1
 | []=>rfl
 | b :: l=>by
  have ih:=zew l
  unfold j8
  split
  ·simp only[List.map_cons,List.sum_cons,List.length_nil,List.length_cons,ih];omega
  ·cases h:j8 l with
   | nil=>exact absurd h (yM l)
   | cons x r =>
    rw[h]at ih
    simp only[List.map_cons,List.sum_cons,List.length_cons]at ih ⊢
    omega
theorem U0 (f:List UInt8->Bool):∀ xs:List (List UInt8),((xs.filter f).map fun x=>x.length+1).sum<=(xs.map fun x=>x.length+1).sum
 | []=>by simp
 | x :: r=>by
  have ih:=U0 f r
  rw[List.filter_cons]
  split
  ·simp only[List.map_cons,List.sum_cons];omega
  ·simp only[List.map_cons,List.sum_cons];omega
theorem zeP:∀ (xs:List (List UInt8)) (x:List UInt8),x∈xs->x.length+1<=(xs.map fun x=>x.length+1).sum
 | y :: r,x,h=>by
  simp only[List.map_cons,List.sum_cons]
  rcases List.mem_cons.1 h with rfl | h
  ·omega
  ·have:=zeP r x h;omega
theorem QC (l:List UInt8):(Lib.join (zE l) [47]).length<=l.length/\∀ x∈zE l,x.length<=l.length:=by
 have h1:=zew l
 have h2:=U0 (fun x=>!decide (x = [])) (j8 l)
 rw[←YA]at h2
 refine ⟨?_,fun x hx=>?_⟩
 ·by_cases h:zE l = []
  ·rw[h];simp[Lib.join]
  ·have:=XF (zE l) h;omega
 ·have:=zeP (zE l) x hx;omega
theorem Nm (p:List UInt8) (hp:p.length<=1000000):Fun Tryz.prog G0 163 [.str p] (YH p) 1:=by
 have hz:=jl p
 have hj:=QC p
 by_cases h1:qF (zE p)=p
 ·have h1':(p=qF (zE p)):=h1.symm
  refine Fun.of (fun _=>[]) Tryz.func163 rfl (zp rfl) (by kernel_rfl) ?_;dsimp only[Tryz.f163]
  push_cast -dsimp
  refine call (Zy p) ?_
  push_cast -dsimp
  refine call (Xm p hp) ?_
  push_cast -dsimp
  refine call (XB (zE p) (by omega) (by omega)) ?_
  push_cast -dsimp [h1]
  refine call (Vb (zE p) (by omega) fun x hx=>by have:=hj.2 x hx;omega) ?_
  push_cast -dsimp
  cases hm:(zE p).all may with
  | true =>
   push_cast -dsimp
   exact ⟨[.inl 0],rfl,rfl,by simp only[YH,XA,h1,hm];push_cast -dsimp [zb,za,CLe,ze]<;>simp⟩
  | false =>
   push_cast -dsimp
   exact ⟨[.inr (9,1)],rfl,rfl,by simp only[YH,XA,h1,hm];push_cast -dsimp [zb,za,CLe,ze]<;>simp⟩
 ·refine Fun.of (fun _=>[]) Tryz.func163 rfl (zp rfl) (by kernel_rfl) ?_;dsimp only[Tryz.f163]
  push_cast -dsimp
  refine call (Zy p) ?_
  push_cast -dsimp
  refine call (Xm p hp) ?_
  push_cast -dsimp
  refine call (XB (zE p) (by omega) (by omega)) ?_
  push_cast -dsimp [h1]
  exact ⟨[.inr (9,1)],rfl,rfl,by simp only[YH,XA,h1];push_cast -dsimp [zb,za,CLe,ze]<;>simp⟩
end
section
open Go.RowKit
theorem zmS (l:List UInt8) (b:UInt8) (h:l[0]?=some b):Lib.hasPrefix l [47]=decide ((b.toNat:Int)=47):=by
 cases l with
 | nil=>simp at h
 | cons x r =>
  simp at h;subst h
  unfold Lib.hasPrefix
  by_cases h:x=47
  ·subst h;rfl
  ·have h2:¬((x.toNat:Int)=47):=xW h
   have h3:¬(47=x):=fun e=>h e.symm
   simp[List.isPrefixOf,h2,h3]
theorem zik (l:List UInt8) (b:UInt8) (h:l[l.length-1]?=some b):Lib.hasSuffix l [47]=decide ((b.toNat:Int)=47):=by
 have hne:l≠[]:=fun e=>by subst e;simp at h
 have hl:l=l.take (l.length-1)++[b]:=by
  have hlt:l.length-1<l.length:=by have:=List.length_pos_iff.2 hne;omega
  have:=List.take_append_drop (l.length-1) l
  rw[List.drop_eq_getElem_cons hlt]at this
  rw[List.getElem?_eq_getElem hlt]at h
  cases h
  rw[List.drop_eq_nil_of_le (by omega)]at this
  exact this.symm
 rw[hl]
 unfold Lib.hasSuffix
 by_cases h:b=47
 ·subst h
  have:([47]:List UInt8) <:+ l.take (l.length-1)++[47]:=List.suffix_append _ _
  rw[List.isSuffixOf_iff_suffix.2 this];rfl
 ·have h2:¬((b.toNat:Int)=47):=xW h
  have h3:¬([47]:List UInt8) <:+ l.take (l.length-1)++[b]:=fun ⟨t,ht⟩=>by
   have:=List.append_inj_right' ht rfl
   simp at this
   exact h this.symm
  have h4:([47]:List UInt8).isSuffixOf (l.take (l.length-1)++[b])=false:=by
   rw[Bool.eq_false_iff];exact fun e=>h3 (List.isSuffixOf_iff_suffix.1 e)
  rw[h4];simp[h2]
theorem zc0:zE [] = []:=rfl
theorem Vt (p:List UInt8) (hp:p.length<=100000):Fun Tryz.prog G0 40 [.str p] (UG p) 1:=by
 have hn:=Uk p hp
 have hs:=jl p
 by_cases hp0:p = []
 ·subst hp0
  have h0:=zc0
  refine Fun.of (fun _=>[]) Tryz.func40 rfl (zp rfl) (by kernel_rfl) ?_;dsimp only[Tryz.f40]
  push_cast -dsimp
  refine call hn ?_
  push_cast -dsimp [h0]
  exact ⟨[.inl 0],rfl,rfl,by simp only[UG];push_cast -dsimp [zb,za,CLe,ze,h0]<;>exact ⟨rfl,rfl⟩⟩
 ·have hl:0<p.length:=List.length_pos_iff.2 hp0
  obtain ⟨b,hb⟩:∃ b,p[0]?=some b:=⟨_,List.getElem?_eq_getElem hl⟩
  have hpb:=zmS p b hb
  by_cases h0:zE p = []
  ·refine Fun.of (fun _=>[]) Tryz.func40 rfl (zp rfl) (by kernel_rfl) ?_;dsimp only[Tryz.f40]
   push_cast -dsimp
   refine call hn ?_
   push_cast -dsimp [h0,hl,hb]
   exact ⟨[.inl 0],rfl,rfl,by simp only[UG];push_cast -dsimp [zb,za,CLe,ze,h0,hpb]<;>simp⟩
  ·have hlen:0<(zE p).length:=List.length_pos_iff.2 h0
   obtain ⟨c,hc⟩:∃ c,p[p.length-1]?=some c:=⟨_,List.getElem?_eq_getElem (by omega)⟩
   have hsf:=zik p c hc
   have hidx:((p.length:Int)-1).toNat=p.length-1:=by omega
   refine Fun.of (fun _=>[]) Tryz.func40 rfl (zp rfl) (by kernel_rfl) ?_;dsimp only[Tryz.f40]
   push_cast -dsimp
   refine call hn ?_
   push_cast -dsimp [hlen,hl,hb,hidx,hc]
   refine ⟨by omega,by omega,[.inl 0],rfl,rfl,by simp only[UG];push_cast -dsimp [zb,za,CLe,ze,h0,hpb,hsf]<;>simp⟩
theorem NB (xs:List (List UInt8)) (k:Nat) (x:List UInt8) (h:xs[k]?=some x):Lib.join (xs.take (k+1)) [47]=(if k=0 then x else Lib.join (xs.take k) [47]++[47]++x):=by
 cases xs with
 | nil=>simp at h
 | cons y r =>
  cases k with
  | zero=>simp at h;subst h;simp[Lib.join_one]
  | succ k =>
   simp only[List.take_succ_cons,Nat.succ_ne_zero,if_false]
   rw[Lib.join_cons,Lib.join_cons,Lib.joinTail_take_succ _ _ _ x (by simpa using h)]
   simp[List.append_assoc]
theorem zko (xs:List (List UInt8)) (k:Nat):(Lib.join (xs.take k) [47]).length<=(Lib.join xs [47]).length:=by
 by_cases h:xs.take k = []
 ·rw[h];simp[Lib.join]
 ·have h1:=XF (xs.take k) h
  have hx:xs≠[]:=fun e=>h (by rw[e];simp)
  have h2:=XF xs hx
  have h3:((xs.take k).map fun x=>x.length+1).sum<=(xs.map fun x=>x.length+1).sum:=by
   conv=>rhs;rw[←List.take_append_drop k xs,List.map_append,List.sum_append]
   omega
  omega
theorem vW (xs:List (List UInt8)) (k:Nat) (x:List UInt8) (h:xs[k]?=some x):(if xs.take (k+1) = [] then [] else qF (xs.take (k+1)))=(if xs.take k = [] then [] else qF (xs.take k))++[47]++x:=by
 have hk:k<xs.length:=(List.getElem?_eq_some_iff.1 h).1
 have h1:xs.take (k+1)≠[]:=fun e=>by have:=congrArg List.length e;rw[List.length_take]at this;simp only[List.length_nil]at this;omega
 rw[if_neg h1]
 unfold qF
 rw[if_neg h1,NB xs k x h]
 by_cases hk0:k=0
 ·subst hk0;simp
 ·have h2:xs.take k≠[]:=fun e=>by have:=congrArg List.length e;rw[List.length_take]at this;simp only[List.length_nil]at this;omega
  simp[h2,hk0]
def jst (xs:List (List UInt8)) (k:Nat):List UInt8:=if xs.take k = [] then [] else qF (xs.take k)
theorem zcL (xs:List (List UInt8)) (k:Nat):(jst xs k).length<=(Lib.join xs [47]).length+1:=by
 unfold jst
 split
 ·simp
 ·rename_i h
  have:=zko xs k
  unfold qF
  rw[if_neg h]
  simp;omega
theorem MS (xs:List (List UInt8)) (hx:xs.length<=1000001) (hl:(Lib.join xs [47]).length<=100000000):Fun Tryz.prog G0 162 [.sl 1 (qA xs)] (.str (qF xs)) 0:=by
 by_cases h0:xs = []
 ·subst h0
  refine Fun.of (fun _=>[]) Tryz.func162 rfl (zp rfl) (by kernel_rfl) ?_;dsimp only[Tryz.f162]
  push_cast -dsimp
  exact ⟨[],rfl,rfl,by push_cast -dsimp [zb,za,CLe,ze]<;>simp[qF]⟩
 ·have h0':¬((xs.length:Int)=0):=by have:=List.length_pos_iff.2 h0;omega
  refine Fun.of (fun _=>[]) Tryz.func162 rfl (zp rfl) (by kernel_rfl) ?_;dsimp only[Tryz.f162]
  push_cast -dsimp [h0']
  refine loop (fun k:Nat=>⟨[(0,.sl 1 (qA xs)),(3,.str (jst xs k)),(4,.sc (.int .i64 k))],[],0,0⟩) (fun k=>k<=xs.length) (fun k=>xs.length-k) 0 (Nat.zero_le _) ?_ ?_
  ·exact zS.mk [] rfl rfl (Nat.zero_le _) rfl (by push_cast -dsimp [zb,za,CLe,ze]<;>simp[jst]) (by push_cast -dsimp [zb,za,CLe,ze])
  ·intro k hk
   by_cases h:k<xs.length
   ·have hg:=xz xs k h
    have hst:jst xs (k+1)=jst xs k++[47]++xs[k]'h:=vW xs k (xs[k]'h) (List.getElem?_eq_getElem h)
    have hjk:=zcL xs k
    have hjl:=zcL xs (k+1)
    rw[hst]at hjl
    simp only[List.length_append,List.length_cons,List.length_nil]at hjl
    push_cast -dsimp [h,hg]
    (try simp only[lS]);repeat refine And.intro (by omega) ?_
    refine ⟨k+1,by omega,by omega,zS.mk [] rfl rfl (Nat.zero_le _) rfl ?_ (by push_cast -dsimp [zb,za,CLe,ze])⟩
    push_cast -dsimp [zb,za,CLe,ze]
    simp[hst]
   ·have hkl:k=xs.length:=by omega
    push_cast -dsimp [h]
    exact ⟨[],rfl,rfl,by push_cast -dsimp [zb,za,CLe,ze]<;>simp[jst,hkl,h0]⟩
theorem Zr (l:List UInt8) (hl:l.length<=1000000):Fun Tryz.prog G0 16 [.str l] (jN (may l)) 0:=by
 refine Fun.of (fun _=>[]) Tryz.func16 rfl (zp rfl) (by kernel_rfl) ?_;dsimp only[Tryz.f16]
 push_cast -dsimp
 refine loop (fun k:Nat=>⟨[(0,.str l),(3,.sc (.int .i64 k))],[],0,0⟩) (fun k=>k<=l.length/\∀ j (hj:j<l.length),j<k->bad (l[j]'hj)=false) (fun k=>l.length-k) 0 ⟨Nat.zero_le _,fun j _ hj=>by omega⟩ ?_ ?_
 ·exact zS.mk [] rfl rfl (Nat.zero_le _) rfl (by push_cast -dsimp [zb,za,CLe,ze]) (by push_cast -dsimp [zb,za,CLe,ze])
 ·intro k hk
  have hk1:=hk.1
  have hk2:=hk.2
  by_cases h:k<l.length
  ·have hb:l[k]?=some (l[k]'h):=List.getElem?_eq_getElem h
   have hbad:bad (l[k]'h)=true->may l=false:=fun hb=>by
    have:l.any bad=true:=List.any_eq_true.2 ⟨l[k]'h,List.getElem_mem h,hb⟩
    simp[may,this]
   by_cases h47:l[k]'h=47
   ·have h1:(((l[k]'h).toNat:Int)=47):=by rw[h47];rfl
    push_cast -dsimp [h,hb,h1]
    refine ⟨by omega,[],rfl,rfl,?_⟩
    push_cast -dsimp [zb,za,CLe,ze]
    rw[hbad (by simp[bad,h47])]
   ·have h1:¬(((l[k]'h).toNat:Int)=47):=xW h47
    by_cases h00:l[k]'h=0
    ·have h2:(((l[k]'h).toNat:Int)=0):=by rw[h00];rfl
     push_cast -dsimp [h,hb,h1,h2]
     refine ⟨by omega,by omega,[],rfl,rfl,?_⟩
     push_cast -dsimp [zb,za,CLe,ze]
     rw[hbad (by simp[bad,h00])]
    ·have h2:¬(((l[k]'h).toNat:Int)=0):=xW h00
     push_cast -dsimp [h,hb,h1,h2]
     (try simp only[lS]);repeat refine And.intro (by omega) ?_
     refine ⟨k+1,⟨by omega,fun j hj hjk=>?_⟩,by omega,zS.mk [] rfl rfl (Nat.zero_le _) rfl (by push_cast -dsimp [zb,za,CLe,ze]) (by push_cast -dsimp [zb,za,CLe,ze])⟩
     rcases Nat.lt_or_ge j k with g | g
     ·exact hk2 j hj g
     ·have:j=k:=by omega
      subst this
      simp[bad,h47,h00]
  ·have hany:l.any bad=false:=List.any_eq_false.2 fun x hx=>by
    obtain ⟨j,hj,rfl⟩:=List.getElem_of_mem hx
    simp[hk2 j hj (by omega)]
   obtain rfl:k=l.length:=by omega
   by_cases h0:l = []
   ·subst h0
    push_cast -dsimp
    exact ⟨[],rfl,rfl,by push_cast -dsimp [zb,za,CLe,ze]<;>simp[may]⟩
   ·have h1:(1:Int)<=(l.length:Int):=by have:=List.length_pos_iff.2 h0;omega
    by_cases h2:(l.length:Int)<=255
    ·have h2':l.length<=255:=by omega
     by_cases h4:l = [46]
     ·subst h4
      push_cast -dsimp
      exact ⟨[],rfl,rfl,by push_cast -dsimp [zb,za,CLe,ze]<;>simp[may]⟩
     ·by_cases h5:l = [46,46]
      ·subst h5
       push_cast -dsimp [h4]
       exact ⟨[],rfl,rfl,by push_cast -dsimp [zb,za,CLe,ze]<;>simp[may]⟩
      ·push_cast -dsimp [h,h1,h2,h4,h5]
       exact ⟨[],rfl,rfl,by push_cast -dsimp [zb,za,CLe,ze]<;>simp[may,h0,h2',hany,h4,h5]⟩
    ·have h2':¬l.length<=255:=by omega
     push_cast -dsimp [h,h1,h2]
     exact ⟨[],rfl,rfl,by push_cast -dsimp [zb,za,CLe,ze]<;>simp[may,h2']⟩
theorem Um (p:List UInt8) (hp:p.length<=100000):Fun Tryz.prog G0 39 [.str p] (jN (HV p)) 0:=by
 have hn:=Uk p hp
 refine Fun.of (fun _=>[]) Tryz.func39 rfl (zp rfl) (by kernel_rfl) ?_;dsimp only[Tryz.f39]
 push_cast -dsimp
 refine call hn ?_
 push_cast -dsimp
 refine loop (fun k:Nat=>⟨[(0,.str p),(3,.own 0 9 1 (qA (zE p))),(4,.sc (.int .i64 k))],[],1,0⟩) (fun k=>k<=(zE p).length/\∀ j (hj:j<(zE p).length),j<k->((zE p)[j]'hj).length<=255) (fun k=>(zE p).length-k) 0 ⟨Nat.zero_le _,fun j _ hj=>by omega⟩ ?_ ?_
 ·exact zS.mk [.inl 0] rfl rfl (Nat.zero_le _) rfl (by push_cast -dsimp [zb,za,CLe,ze]) (by push_cast -dsimp [zb,za,CLe,ze])
 ·intro k hk
  have hk1:=hk.1
  have hk2:=hk.2
  have hs:=jl p
  by_cases h:k<(zE p).length
  ·have hg:=xz (zE p) k h
   by_cases h2:((zE p)[k]'h).length<=255
   ·have h2':¬(255:Int)<(((zE p)[k]'h).length:Int):=by omega
    push_cast -dsimp [h,hg,h2']
    (try simp only[lS]);repeat refine And.intro (by omega) ?_
    refine ⟨k+1,⟨by omega,fun j hj hjk=>?_⟩,by omega,zS.mk [.inl 0] rfl rfl (Nat.zero_le _) rfl (by push_cast -dsimp [zb,za,CLe,ze]) (by push_cast -dsimp [zb,za,CLe,ze])⟩
    rcases Nat.lt_or_ge j k with g | g
    ·exact hk2 j hj g
    ·have:j=k:=by omega
     subst this;exact h2
   ·have h2':(255:Int)<(((zE p)[k]'h).length:Int):=by omega
    push_cast -dsimp [h,hg,h2']
    refine ⟨by omega,[],rfl,rfl,?_⟩
    push_cast -dsimp [zb,za,CLe,ze]
    have:(zE p).any (fun x=>decide (255<x.length))=true:=List.any_eq_true.2 ⟨(zE p)[k]'h,List.getElem_mem h,by simp;omega⟩
    simp[HV,this]
  ·have:(zE p).any (fun x=>decide (255<x.length))=false:=List.any_eq_false.2 fun x hx=>by
    obtain ⟨j,hj,rfl⟩:=List.getElem_of_mem hx
    have:=hk2 j hj (by omega)
    simp;omega
   push_cast -dsimp [h]
   refine ⟨[],rfl,rfl,?_⟩
   push_cast -dsimp [zb,za,CLe,ze]
   simp[HV,this]
   omega
theorem GU (p:List UInt8) (hp:p.length<=100000):Fun Tryz.prog G0 124 [.str p] (YH p) 1:=by
 have hn:=Uk p hp
 have hs:=jl p
 have hj:=QC p
 refine Fun.of (fun _=>[]) Tryz.func124 rfl (zp rfl) (by kernel_rfl) ?_;dsimp only[Tryz.f124]
 push_cast -dsimp
 refine call hn ?_
 push_cast -dsimp
 refine loop (fun k:Nat=>⟨[(0,.str p),(4,.own 0 9 1 (qA (zE p))),(5,.sc (.int .i64 k))],[],1,0⟩) (fun k=>k<=(zE p).length/\∀ j (hj:j<(zE p).length),j<k->may ((zE p)[j]'hj)=true) (fun k=>(zE p).length-k) 0 ⟨Nat.zero_le _,fun j _ hj=>by omega⟩ ?_ ?_
 ·exact zS.mk [.inl 0] rfl rfl (Nat.zero_le _) rfl (by push_cast -dsimp [zb,za,CLe,ze]) (by push_cast -dsimp [zb,za,CLe,ze])
 ·intro k hk
  have hk1:=hk.1
  have hk2:=hk.2
  by_cases h:k<(zE p).length
  ·have hg:=xz (zE p) k h
   have hlen:=hj.2 ((zE p)[k]'h) (List.getElem_mem h)
   push_cast -dsimp [h,hg]
   refine ⟨by omega,?_⟩
   refine call (Zr ((zE p)[k]'h) (by omega)) ?_
   push_cast -dsimp
   cases hm:may ((zE p)[k]'h) with
   | true =>
    push_cast -dsimp
    (try simp only[lS]);repeat refine And.intro (by omega) ?_
    refine ⟨k+1,⟨by omega,fun j hj hjk=>?_⟩,by omega,zS.mk [.inl 0] rfl rfl (Nat.zero_le _) rfl (by push_cast -dsimp [zb,za,CLe,ze]) (by push_cast -dsimp [zb,za,CLe,ze])⟩
    rcases Nat.lt_or_ge j k with g | g
    ·exact hk2 j hj g
    ·have:j=k:=by omega
     subst this;exact hm
   | false =>
    have hall:(zE p).all may=false:=List.all_eq_false.2 ⟨(zE p)[k]'h,List.getElem_mem h,by simp[hm]⟩
    push_cast -dsimp
    exact ⟨[.inr (9,1)],rfl,rfl,by simp only[YH,XA,hall];push_cast -dsimp [zb,za,CLe,ze]<;>simp⟩
  ·have hall:(zE p).all may=true:=List.all_eq_true.2 fun x hx=>by
    obtain ⟨j,hj,rfl⟩:=List.getElem_of_mem hx
    exact hk2 j hj (by omega)
   push_cast -dsimp [h]
   refine call (MS (zE p) (by omega) (by omega)) ?_
   push_cast -dsimp
   by_cases h1:qF (zE p)=p
   ·push_cast -dsimp [h1]
    exact ⟨[.inl 0],rfl,rfl,by simp only[YH,XA,h1,hall];push_cast -dsimp [zb,za,CLe,ze]<;>simp⟩
   ·push_cast -dsimp [h1]
    exact ⟨[.inr (9,1)],rfl,rfl,by simp only[YH,XA,h1];push_cast -dsimp [zb,za,CLe,ze]<;>simp⟩
end
section
open Go.RowKit
def kh (x:List UInt8):Prop:=x≠[]/\(47:UInt8)∉x
theorem zcP:∀ a t:List UInt8,j8 (a++47 :: t)=j8 a++j8 t
 | [],t=>by
  have:j8 (47 :: t) = [] :: j8 t:=rfl
  exact this
 | b :: a,t=>by
  have ih:=zcP a t
  have e1:j8 (b :: (a++47 :: t))=if b=47 then [] :: j8 (a++47 :: t) else match j8 (a++47 :: t) with
   | []=>[[b]]
   | x :: r=>(b :: x) :: r:=rfl
  have e2:j8 (b :: a)=if b=47 then [] :: j8 a else match j8 a with
   | []=>[[b]]
   | x :: r=>(b :: x) :: r:=rfl
  rw[List.cons_append,e1,e2,ih]
  by_cases hb:b=47
  ·simp[hb]
  ·rw[if_neg hb,if_neg hb]
   have hne:=yM a
   cases hs:j8 a with
   | nil=>exact absurd hs hne
   | cons x r=>simp
theorem zen:∀ x:List UInt8,(47:UInt8)∉x->j8 x = [x]
 | [],_=>rfl
 | b :: x,h=>by
  have hb:¬(b=47):=fun e=>h (by rw[e];exact List.mem_cons_self)
  have ih:=zen x (fun hx=>h (List.mem_cons_of_mem _ hx))
  unfold j8
  rw[if_neg hb,ih]
theorem N0 (a t:List UInt8):zE (a++47 :: t)=zE a++zE t:=by
 rw[YA,YA,YA,zcP,List.filter_append]
theorem G5 {x:List UInt8} (h:kh x):zE x = [x]:=by
 rw[YA,zen x h.2]
 simp[h.1]
theorem xM (l:List UInt8):zE (47 :: l)=zE l:=N0 [] l
theorem kG:∀ xs:List (List UInt8),(∀ x∈xs,kh x)->zE (Lib.join xs [47])=xs
 | [],_=>rfl
 | [x],h=>by rw[Lib.join_one];exact G5 (h x List.mem_cons_self)
 | x :: y :: r,h=>by
  have ih:=kG (y :: r) fun z hz=>h z (List.mem_cons_of_mem _ hz)
  rw[JO,List.append_assoc]
  show zE (x++47 :: Lib.join (y :: r) [47])=_
  rw[N0,ih,G5 (h x List.mem_cons_self)]
  rfl
theorem yi (xs:List (List UInt8)) (h:∀ x∈xs,kh x):zE (qF xs)=xs:=by
 unfold qF
 by_cases hx:xs = []
 ·rw[if_pos hx,hx];rfl
 ·rw[if_neg hx,xM,kG xs h]
theorem He (l:List UInt8) (b:UInt8):Lib.hasSuffix (l++[b]) [47]=decide (b=47):=by
 have:=zik (l++[b]) b (by simp)
 rw[this]
 by_cases h:b=47
 ·subst h;rfl
 ·have h2:¬((b.toNat:Int)=47):=xW h
  simp[h,h2]
theorem G4:∀ xs:List (List UInt8),xs≠[]->(∀ x∈xs,kh x)->∃ t b,Lib.join xs [47]=t++[b]/\b≠47
 | [],h,_=>absurd rfl h
 | [x],_,h=>by
  have hx:=h x List.mem_cons_self
  refine ⟨x.dropLast,x.getLast hx.1,?_,fun e=>hx.2 ?_⟩
  ·rw[Lib.join_one,List.dropLast_concat_getLast]
  ·rw[←e];exact List.getLast_mem _
 | x :: y :: r,_,h=>by
  obtain ⟨t,b,e,hb⟩:=G4 (y :: r) (by simp) fun z hz=>h z (List.mem_cons_of_mem _ hz)
  exact ⟨x++[47]++t,b,by rw[JO,e];simp,hb⟩
theorem zcg (a:Bool) (xs:List (List UInt8)) (s:Bool) (h:∀ x∈xs,kh x):(!decide (xs = [])&&Lib.hasSuffix (put a xs s) [47])=(s&&!decide (xs = [])):=by
 by_cases hx:xs = []
 ·simp[hx]
 ·unfold put
  cases s
  ·obtain ⟨t,b,e,hb⟩:=G4 xs hx h
   have:=He ((if a then [47] else [])++t) b
   simp only[Bool.false_and,Bool.false_eq_true,if_false,List.append_nil,e]
   rw[←List.append_assoc,this]
   simp[hb]
  ·have:=He ((if a then [47] else [])++Lib.join xs [47]) 47
   simp only[hx,Bool.true_and,decide_false,Bool.not_false,if_true]
   rw[this];rfl
theorem HE {x:List UInt8} (h:may x=true):kh x:=by
 simp only[may,Bool.and_eq_true,Bool.not_eq_true',decide_eq_false_iff_not]at h
 refine ⟨h.1.1.1.1,fun hm=>?_⟩
 have:=List.any_eq_false.1 h.1.1.2 47 hm
 exact this (by decide)
end
section
open Go.RowKit Go.ChangeMaps Go.ChangeShapes Go.WideShapes Go.Deep Go.Joins
theorem xN (R:Env):Y7 G0 R:=fun g cs h=>by cases h
section
variable {H:Type} {enc:TypeId×Value->H} {W:World}
end
end
section
open Go.RowKit
mutual
/-- the cells that read as a datum of XA data -/
def Zf:DataW Unit->Option (List Value)
 | .lit (.int k n)=>some [.int k n]
 | .lit (.bool b)=>some [.bool b]
 | .lit (.string l)=>some [.string ⟨l.toArray⟩]
 | .agg ds=>VF ds
 | _=>none
def VF:List (DataW Unit)->Option (List Value)
 | []=>some []
 | d :: ds=>match Zf d,VF ds with
  | some a,some b=>some (a++b)
  | _,_=>none
end
def Gp (P:Program):Nat->List Field->Nat->Bool
 | j,[],n=>j==n
 | j,f :: fs,n=>f.offset==j&&Gp P (j+P.cellsOf f.type) fs n
def Us (P:Program):Nat->TypeId->Bool
 | 0,_=>false
 | m+1,t=>match P.underlying t with
  | some .bool=>true
  | some (.int _)=>true
  | some .string=>true
  | some (.struct fs)=>Gp P 0 fs.toList (P.cellsOf t)&&fs.toList.all fun f=>Us P m f.type
  | some (.array n e)=>Us P m e&&P.cellsOf t==n*P.cellsOf e
  | _=>false
section
variable {enc:TypeId×Value->Unit} {P:Program} {w:World} {base:Nat} {spare:Nat->Bool} {held:Bool}
theorem VS {d:DataW Unit} {ds:List (DataW Unit)} {a b:List Value} (h1:Zf d=some a) (h2:VF ds=some b):VF (d :: ds)=some (a++b):=by
 rw[VF,h1,h2]
theorem QN {n:Nat} {cs:List Value} (ih:∀ t cs d p,Us P n t=true->DataW.trod enc P w base spare held n t cs=some (d,p)->Zf d=some cs) {m:Nat} (hm:∀ t cs d p,Us P m t=true->DataW.trod enc P w base spare held n t cs=some (d,p)->Zf d=some cs) :
  ∀ (fs:List Field) (j N:Nat) (xs:List (DataW Unit×List MemPlace)),Gp P j fs N=true->(fs.all fun f=>Us P m f.type)=true->cs.length=N->xs.length=fs.length ->
   (∀ (i:Nat) (f:Field),fs[i]?=some f->DataW.trod enc P w base spare held n f.type ((cs.drop f.offset).take (P.cellsOf f.type))=xs[i]?)->VF (xs.map (·.1))=some (cs.drop j)
 | [],j,N,xs,hc,_,hl,hx,_=>by
  simp only[Gp,beq_iff_eq]at hc
  match xs,hx with
  | [],_=>rw[List.drop_of_length_le (by omega)];rfl
 | f :: fs,j,N,xs,hc,ha,hl,hx,hf=>by
  simp only[Gp,Bool.and_eq_true,beq_iff_eq]at hc
  simp only[List.all_cons,Bool.and_eq_true]at ha
  match xs,hx with
  | x :: xs,hx =>
   have h0:=hf 0 f rfl
   have e0:Zf x.1=some ((cs.drop f.offset).take (P.cellsOf f.type)):=hm _ _ _ x.2 ha.1 h0
   have e1:=QN ih hm fs _ N xs hc.2 ha.2 hl (by simpa using hx) fun i g hg=>hf (i+1) g hg
   rw[List.map_cons,VS e0 e1,hc.1,←List.drop_drop,List.take_append_drop]
theorem Z3 {n:Nat} {e:TypeId} {cs:List Value}:∀ (N j:Nat) (xs:List (DataW Unit×List MemPlace)),(∀ cs d p,DataW.trod enc P w base spare held n e cs=some (d,p)->Zf d=some cs)->cs.length=(j+N)*P.cellsOf e->xs.length=N ->
   (∀ (i:Nat),i<N->DataW.trod enc P w base spare held n e ((cs.drop ((j+i)*P.cellsOf e)).take (P.cellsOf e))=xs[i]?)->VF (xs.map (·.1))=some (cs.drop (j*P.cellsOf e))
 | 0,j,xs,_,hl,hx,_=>by
  match xs,hx with
  | [],_=>rw[List.drop_of_length_le (by simp at hl;omega)];rfl
 | N+1,j,xs,hm,hl,hx,hf=>by
  match xs,hx with
  | x :: xs,hx =>
   have e0:=hm _ _ x.2 (hf 0 (Nat.zero_lt_succ _))
   have e1:=Z3 N (j+1) xs hm (by rw[hl];congr 1;omega) (by simpa using hx) fun i hi=>by
    have:=hf (i+1) (by omega)
    rw[show j+(i+1)=j+1+i by omega]at this
    exact this
   rw[List.map_cons,VS e0 e1,Nat.add_zero,show (j+1)*P.cellsOf e=j*P.cellsOf e+P.cellsOf e by rw[Nat.add_mul];omega,←List.drop_drop,List.take_append_drop]
theorem Xq:∀ (n m:Nat) (t:TypeId) (cs:List Value) (d:DataW Unit) (p:List MemPlace),Us P m t=true->DataW.trod enc P w base spare held n t cs=some (d,p)->Zf d=some cs
 | 0,m,t,cs,d,p,_,h=>by simp[DataW.trod]at h
 | n+1,0,t,cs,d,p,hf,h=>by simp[Us]at hf
 | n+1,m+1,t,cs,d,p,hf,h=>by
  unfold Us at hf
  split at hf
  ·rename_i hu
   obtain ⟨b,rfl,e⟩:=DataW.trod_bool hu h
   cases e;rfl
  ·rename_i k hu
   obtain ⟨b,rfl,e,_⟩:=DataW.trod_int hu h
   cases e;rfl
  ·rename_i hu
   obtain ⟨s,rfl,e,_⟩:=DataW.trod_string hu h
   cases e
   rw[Zf]
  ·rename_i fs hu
   simp only[Bool.and_eq_true]at hf
   obtain ⟨xs,n',hn,e,hl,hx,hg⟩:=DataW.trod_struct hu h
   cases hn;cases e
   have hrec:∀ t cs d p,Us P m t=true->DataW.trod enc P w base spare held n t cs=some (d,p)->Zf d=some cs:=fun t cs d p=>Xq n m t cs d p
   have:=QN (n:=n) (fun t cs d p=>Xq n n t cs d p) hrec fs.toList 0 _ xs hf.1 hf.2 hl (by rw[hx];rfl) fun i f hif=>hg i f (by simpa using hif)
   rw[List.drop_zero]at this
   rw[Zf,this]
  ·rename_i N e hu
   simp only[Bool.and_eq_true,beq_iff_eq]at hf
   obtain ⟨xs,n',hn,e',hl,hx,hg⟩:=DataW.trod_array hu h
   cases hn;cases e'
   have:=Z3 (n:=n) (e:=e) (cs:=cs) N 0 xs (fun cs d p=>Xq n m e cs d p hf.1) (by rw[hl,hf.2,Nat.zero_add]) hx fun i hi=>by rw[Nat.zero_add];exact hg i hi
   rw[Nat.zero_mul,List.drop_zero]at this
   rw[Zf,this]
  ·cases hf
end
theorem Ha {W:World} {g:Nat}:∀ (vs:List Value) (o:Nat),(∀ (i:Nat) v,vs[i]?=some v->W.cell? ⟨g,o+i,none⟩=some v)->(vs.all fun v=>v.oneCell')=true->zK (NF W) (vs.map zB) g o:=fun vs o h ho=>by
 refine zY fun i c hc=>?_
 rw[List.getElem?_map,Option.map_eq_some_iff]at hc
 obtain ⟨v,hv,rfl⟩:=hc
 exact ⟨v,h i v hv,fun hf=>hf,jf _ _ v,List.all_eq_true.1 ho v (List.mem_of_getElem? hv)⟩
theorem Hv {P:Program} {W:World} {l:List (String×DataW Unit)} (h:laidMetH P l W) (hp:(l.filter fun x=>x.2.handleName?.isSome) = []) {n:String} {d:DataW Unit} (hm:(n,d)∈l) {g:Nat} {t:TypeId} {m:Nat} {vs:List Value}
  (hg:P.globalNamed n=some g) (ht:(P.globals[g]?).map (·.type)=some t) (hf:Us P m t=true) (hd:Zf d=some vs) (ho:(vs.all fun v=>v.oneCell')=true):zK (NF W) (vs.map zB) g 0:=by
 unfold laidMetH at h
 rw[hp]at h
 obtain ⟨g',t',cs,fuel,p,hg',ht',hvar,htr⟩:=Lib.laidMet.reads h hm
 rw[hg]at hg';cases hg'
 rw[ht]at ht';cases ht'
 have e:=Xq _ _ _ _ _ _ hf htr
 have e':vs=cs.toList:=Option.some.inj (hd.symm.trans e)
 subst e'
 refine Ha _ 0 (fun i v hv=>?_) ho
 rw[World.var?_cell hg hvar,Nat.zero_add]
 simpa using hv
theorem Jj {P:Program} {W:World} {l:List (String×DataW Unit)} (h:laidMetH P l W) (hp:(l.filter fun x=>x.2.handleName?.isSome) = []) {n:String} {d:DataW Unit} (hm:(n,d)∈l) {g:Nat} {t:TypeId} {m:Nat} {vs:List Value}
  (hg:P.globalNamed n=some g) (ht:(P.globals[g]?).map (·.type)=some t) (hf:Us P m t=true) (hd:Zf d=some vs) (ho:(vs.all fun v=>v.oneCell')=true) :
  zK (NF W) (vs.map zB) g 0/\(∃ us ty fl,(NF W).w.heap[g]?=some (.cells us ty fl)/\us.size=(vs.map zB).length)/\∀ o,¬(NF W).M g o:=by
 refine ⟨Hv h hp hm hg ht hf hd ho,?_,fun o h=>h⟩
 unfold laidMetH at h
 rw[hp]at h
 obtain ⟨g',t',cs,fuel,p,hg',ht',hvar,htr⟩:=Lib.laidMet.reads h hm
 rw[hg]at hg';cases hg'
 rw[ht]at ht';cases ht'
 have e:=Xq _ _ _ _ _ _ hf htr
 have e':vs=cs.toList:=Option.some.inj (hd.symm.trans e)
 subst e'
 unfold World.var? at hvar
 rw[hg]at hvar
 simp only[Option.bind_some]at hvar
 split at hvar
 ·rename_i cs' ty fl hh
  cases hvar
  exact ⟨_,_,_,hh,by simp⟩
 ·cases hvar
theorem Fun.glob {P:Program} {G G':zk} {f:FuncId} {args:List C} {r:C} {n:Nat} (h:Fun P G f args r n) (hG:∀ g cs,G g=some cs->G' g=some cs):Fun P G' f args r n:=
 ⟨h.1,fun R vs hg ha=>h.2 R vs (fun g cs e=>hg g cs (hG g cs e)) ha⟩
theorem Fun.glob0 {P:Program} {G':zk} {f:FuncId} {args:List C} {r:C} {n:Nat} (h:Fun P G0 f args r n):Fun P G' f args r n:=h.glob fun g cs e=>by cases e
end
section
open CA CB
open Go.RowKit
def zmh:List Value:=[.bool false,.bool false,.bool false,.bool false,.bool false,.bool false,.bool false,.bool true,.bool false,.bool true,.bool true,.bool false,.bool false,.bool false,.bool true,.bool false,.bool true,.bool false,.bool false,.bool true,.bool false,.bool true,.bool false,.bool false,.bool false,.bool false,.bool false,.bool true,.bool false,.bool false,.bool true,.bool false,.bool false]
def G1:zk:=fun g=>if g=0 then some (zmh.map zB) else none
theorem zmQ:G1 0=some [.sc (.bool false),.sc (.bool false),.sc (.bool false),.sc (.bool false),.sc (.bool false),.sc (.bool false),.sc (.bool false),.sc (.bool true),.sc (.bool false),.sc (.bool true),.sc (.bool true),.sc (.bool false),.sc (.bool false),.sc (.bool false),.sc (.bool true),.sc (.bool false),.sc (.bool true),.sc (.bool false),.sc (.bool false),.sc (.bool true),.sc (.bool false),.sc (.bool true),.sc (.bool false),.sc (.bool false),.sc (.bool false),.sc (.bool false),.sc (.bool false),.sc (.bool true),.sc (.bool false),.sc (.bool false),.sc (.bool true),.sc (.bool false),.sc (.bool false)]:=rfl
attribute [push_cast] zmQ
def qz (p:List UInt8):Bool:=XA p&&!decide (zE p = [])
theorem Gv (p:List UInt8) (hp:p.length<=1000000):Fun Tryz.prog G0 133 [.str p] (jN (qz p)) 0:=by
 have h:=Nm p hp
 unfold YH at h
 cases hb:XA p with
 | false =>
  rw[hb]at h
  refine Fun.of (fun _=>[]) Tryz.func133 rfl (zp rfl) (by kernel_rfl) ?_;dsimp only[Tryz.f133]
  push_cast -dsimp
  refine cl (h) ?_;push_cast -dsimp
  exact ⟨[],rfl,rfl,by push_cast -dsimp [zb,za,CLe,ze];simp[qz,hb]⟩
 | true =>
  rw[hb,if_pos rfl]at h
  refine Fun.of (fun _=>[]) Tryz.func133 rfl (zp rfl) (by kernel_rfl) ?_;dsimp only[Tryz.f133]
  push_cast -dsimp
  refine cl (h) ?_;push_cast -dsimp
  refine ⟨[],rfl,rfl,?_⟩
  push_cast -dsimp [zb,za,CLe,ze]
  by_cases hn:zE p = []
  ·simp[qz,hb,hn]
  ·have:=List.length_pos_iff.2 hn
   simp[qz,hb,hn,this]
theorem vV (l:List UInt8):Fun Tryz.prog G0 186 [.str l,.str [0]] (.sc (.int .i64 (Lib.indexByte l 0))) 0:=by
 refine Fun.wrap (by kernel_rfl) fun R vs h=>?_
 obtain ⟨v1,us1,rfl,h1,h⟩:=zd.1 h
 obtain ⟨v2,us2,rfl,h2,h⟩:=zd.1 h
 rw[zh]at h
 subst h
 rw[zR]at h1 h2
 subst h1 h2
 refine (Tryz.strings_Index_one ⟨l.toArray⟩ 0 R.w).mono ?_
 rintro e w' ⟨rfl,rfl⟩
 exact ⟨_,rfl,Below.refl _ _,fun R' _=>zn.2 (by simp)⟩
theorem U6:∀ l:List UInt8,decide (0<=Lib.indexByte l 0)=l.any (fun b=>decide (b=0))/\-1<=Lib.indexByte l 0
 | []=>⟨rfl,by decide⟩
 | b :: l=>by
  obtain ⟨h1,h2⟩:=U6 l
  unfold Lib.indexByte
  by_cases hb:b=0
  ·subst hb;simp
  ·have hb':(b==0)=false:=by simpa using hb
   rw[hb']
   simp only[Bool.false_eq_true,if_false,List.any_cons,hb,decide_false,Bool.false_or,←h1]
   split
   ·rename_i hm
    have:=beq_iff_eq.1 hm
    rw[this];simp
   ·rename_i hm
    have:¬Lib.indexByte l 0 = -1:=fun e=>hm (by rw[e];rfl)
    constructor
    ·rw[decide_eq_decide];omega
    ·omega
theorem kX (l:List UInt8) (hl:l.length<=1000000):Fun Tryz.prog G0 164 [.str l,.str [0]] (jN (l.any fun b=>decide (b=0))) 0:=by
 have h:=(U6 l).1
 refine Fun.of (fun _=>[]) Tryz.func164 rfl (zp rfl) (by kernel_rfl) ?_;dsimp only[Tryz.f164]
 push_cast -dsimp
 refine cl (vV l) ?_;push_cast -dsimp
 exact ⟨[],rfl,rfl,by push_cast -dsimp [zb,za,CLe,ze,h]⟩
def VN (s:List UInt8):Bool:=!decide (s = [])&&decide (s.length<=4095)&&!(s.any fun b=>decide (b=0))
theorem za0 (s:List UInt8) (hs:s.length<=1000000):Fun Tryz.prog G0 134 [.str s] (jN (VN s)) 0:=by
 have h:=kX s hs
 by_cases h1:s = []
 ·refine Fun.of (fun _=>[]) Tryz.func134 rfl (zp rfl) (by kernel_rfl) ?_;dsimp only[Tryz.f134]
  push_cast -dsimp [h1]
  exact ⟨[],rfl,rfl,by push_cast -dsimp [zb,za,CLe,ze];simp[VN,h1]⟩
 ·by_cases h2:s.length<=4095
  ·have h2':(s.length:Int)<=4095:=by omega
   refine Fun.of (fun _=>[]) Tryz.func134 rfl (zp rfl) (by kernel_rfl) ?_;dsimp only[Tryz.f134]
   push_cast -dsimp [h1,h2']
   refine cl (h) ?_;push_cast -dsimp
   exact ⟨[],rfl,rfl,by push_cast -dsimp [zb,za,CLe,ze];simp[VN,h1,h2]⟩
  ·have h2':¬(s.length:Int)<=4095:=by omega
   refine Fun.of (fun _=>[]) Tryz.func134 rfl (zp rfl) (by kernel_rfl) ?_;dsimp only[Tryz.f134]
   push_cast -dsimp [h1,h2']
   exact ⟨[],rfl,rfl,by push_cast -dsimp [zb,za,CLe,ze];simp[VN,h1,h2]⟩
end
end Go.Proofs.YtiblepfehggicaaGreatDoor.Vcg
section
namespace Go.Proofs.YtiblepfehggicaaGreatDoor.QuotePlain
abbrev Bs:=List UInt8
def good (c:UInt8):Bool:=decide (32<=c.toNat/\c.toNat<=126/\c.toNat≠34/\c.toNat≠92)
def zit:Bs:=[48,49,50,51,52,53,54,55,56,57,97,98,99,100,101,102]
def uT (n:Nat):UInt8:=zit.getD n 0
def qb (c:UInt8):Bs:=if good c then [c] else [92,120,uT (c.toNat / 16),uT (c.toNat % 16)]
def mid (l:Bs):Bs:=l.flatMap qb
def ju (l:Bs):Bs:=34 :: (mid l++[34])
def zmL (l:Bs):Bool:=decide (l≠[])&&l.all fun c=>decide (33<=c.toNat/\c.toNat<=126/\c.toNat≠34)
def zlb (c:UInt8):Nat:=(zit.findIdx? (·==c)).getD 16
def zgU:Bs->UInt8×Nat
 | []=>(0,0)
 | c :: r =>
  if c≠92 then (if good c then (c,1) else (0,0))
  else match r with
   | x :: a :: b :: _=>if x=120/\zlb a<16/\zlb b<16/\good (UInt8.ofNat (zlb a*16+zlb b))=false then (UInt8.ofNat (zlb a*16+zlb b),4) else (0,0)
   | _=>(0,0)
theorem zdO {p:UInt8->Bool} (h:(List.range 256).all (fun n=>p (UInt8.ofNat n))=true) (c:UInt8):p c=true:=by
 have h1:=List.all_eq_true.1 h c.toNat (List.mem_range.2 c.toNat_lt)
 simpa using h1
def zmW:Nat->Bs->Option (Bs×Nat)
 | 0,_=>none
 | _+1,[]=>none
 | f+1,c :: r=>if c=34 then some ([],1) else if (zgU (c :: r)).2=0 then none else (zmW f ((c :: r).drop (zgU (c :: r)).2)).map fun x=>((zgU (c :: r)).1 :: x.1,(zgU (c :: r)).2+x.2)
def body (l:Bs):Option (Bs×Nat):=zmW (l.length+1) l
def qtd:Bs->Option (Bs×Nat)
 | []=>none
 | c :: r=>if c=34 then (body r).map fun x=>(x.1,x.2+1) else none
def unq (l:Bs):Option Bs:=match qtd l with | some (t,n)=>if n=l.length then some t else none | none=>none
end Go.Proofs.YtiblepfehggicaaGreatDoor.QuotePlain
end
section
namespace Go.Proofs.YtiblepfehggicaaGreatDoor.QuotePlain
def okw (w:Bs):Bool:=(unq w).isSome||zmL w
def cut:Bs->Bs->Bool->Option (List Bs)
 | [],w,_=>if okw w then some [w] else none
 | c :: r,w,i=>if c=32/\i=false then (if okw w then (cut r [] i).map (w :: ·) else none) else cut r (w++[c]) (if c=34 then !i else i)
end Go.Proofs.YtiblepfehggicaaGreatDoor.QuotePlain
end
section
namespace Go.Proofs.YtiblepfehggicaaGreatDoor.QuotePlain
def F (q:List Bs):Bs:=q.flatMap (·++[32])
end Go.Proofs.YtiblepfehggicaaGreatDoor.QuotePlain
end
namespace Go.Proofs.YtiblepfehggicaaGreatDoor.Vcg
section
structure OpV where
 kind:Int
 slot:Int
 a:List UInt8
 b:List UInt8
 d:List UInt8
deriving DecidableEq,Inhabited
def zec (k:Int):Bool:=decide (k=3)||decide (k=7)||decide (k=9)||decide (k=10)
def zol (k:Int):Bool:=decide (k=2)||decide (k=3)||decide (k=5)||decide (k=6)
end
section
open CA CB
open Go.RowKit
def opL (o:OpV):List C:=[.sc (.int .i64 o.kind),.sc (.int .i64 o.slot),.str o.a,.str o.b,.str o.d]
def zba (o:OpV):Bool:=decide (1<=o.kind)&&decide (o.kind<=10)&&qz o.a&&(if zec o.kind then decide (1<=o.slot)&&decide (o.slot<=1073741824) else decide (o.slot=0))&&(if zol o.kind then qz o.b else decide (o.b = []))
 && (if o.kind=4 then VN o.d else decide (o.d = []))&&(!decide (o.kind=6)||(!kp o.a o.b&&!kp o.b o.a))
def short (o:OpV):Prop:=o.a.length<=100000/\o.b.length<=100000/\o.d.length<=100000
theorem Js (k s:Int) (a b d:List UInt8) (hs:short ⟨k,s,a,b,d⟩):Fun Tryz.prog G1 98 [.agg (opL ⟨k,s,a,b,d⟩)] (jN (zba ⟨k,s,a,b,d⟩)) 0:=by
 have hs1:a.length<=100000:=hs.1
 have hs2:b.length<=100000:=hs.2.1
 have hs3:d.length<=100000:=hs.2.2
 have h1:=(Gv a (by omega)).glob0 (G':=G1)
 have h2:=(Gv b (by omega)).glob0 (G':=G1)
 have h3:=(za0 d (by omega)).glob0 (G':=G1)
 have h4:=(U1 a b (by omega)).glob0 (G':=G1)
 have h5:=(U1 b a (by omega)).glob0 (G':=G1)
 unfold opL
 by_cases hk1:k<1
 ·have:¬1<=k:=by omega
  refine Fun.of (fun _=>[]) Tryz.func98 rfl (zp rfl) (by kernel_rfl) ?_;dsimp only[Tryz.f98]
  push_cast -dsimp [hk1]
  exact ⟨[],rfl,rfl,by push_cast -dsimp [zb,za,CLe,ze];simp[zba,this]⟩
 by_cases hk2:10<k
 ·have:¬k<=10:=by omega
  refine Fun.of (fun _=>[]) Tryz.func98 rfl (zp rfl) (by kernel_rfl) ?_;dsimp only[Tryz.f98]
  push_cast -dsimp [hk1,hk2]
  exact ⟨[],rfl,rfl,by push_cast -dsimp [zb,za,CLe,ze];simp[zba,this]⟩
 cases hp:qz a with
 | false =>
  rw[hp]at h1
  refine Fun.of (fun _=>[]) Tryz.func98 rfl (zp rfl) (by kernel_rfl) ?_;dsimp only[Tryz.f98]
  push_cast -dsimp [hk1,hk2]
  refine cl (h1) ?_;push_cast -dsimp
  exact ⟨[],rfl,rfl,by push_cast -dsimp [zb,za,CLe,ze];simp[zba,hp]⟩
 | true =>
  rw[hp]at h1
  have hk:k=1∨k=2∨k=3∨k=4∨k=5∨k=6∨k=7∨k=8∨k=9∨k=10:=by omega
  clear hk1 hk2 hs hs1 hs2 hs3
  rcases hk with rfl | rfl | rfl | rfl | rfl | rfl | rfl | rfl | rfl | rfl
  all_goals
   refine Fun.of (fun _=>[]) Tryz.func98 rfl (zp rfl) (by kernel_rfl) ?_;dsimp only[Tryz.f98]
   push_cast -dsimp
   refine cl (h1) ?_;push_cast -dsimp
   repeat' (first
    | (refine call h2 ?_;push_cast -dsimp)
    | (refine uB h2 ?_;push_cast -dsimp)
    | (refine call h3 ?_;push_cast -dsimp)
    | (refine uB h3 ?_;push_cast -dsimp)
    | (refine call h4 ?_;push_cast -dsimp)
    | (refine uB h4 ?_;push_cast -dsimp)
    | (refine call h5 ?_;push_cast -dsimp)
    | (refine uB h5 ?_;push_cast -dsimp)
    | (refine br (fun h=>?_) (fun h=>?_)<;>push_cast -dsimp [h])
    | (refine ⟨[],rfl,rfl,?_⟩;push_cast -dsimp [zb,za,CLe,ze];clear h1 h2 h3 h4 h5;simp_all [zba,zec,zol]<;>omega))
end
section
structure qk where
 dir:Int
 name:List UInt8
 ino:Int
deriving DecidableEq,Inhabited
structure zT where
 slot:Int
 ino:Int
 content:Bool
 data:List UInt8
deriving DecidableEq,Inhabited
structure jt where
 fs:FsV
 kept:List zT
 pool:List zw
deriving DecidableEq,Inhabited
def qL:qk:=⟨0,[],0⟩
def zjM:zT:=⟨0,0,false,[]⟩
abbrev Ju (es:List zX):Prop:=qD j9 zX.name es
def Q4 (n:List UInt8) (es:List zX):Bool:=JR zX.name n es
def qr (n:List UInt8) (es:List zX):Int:=match Ja zX.name n es with | some e=>e.ino | none=>0
def zm (n:List UInt8) (es:List zX):List zX:=YZ zX.name n es
def qe (n:List UInt8) (i:Int) (es:List zX):List zX:=Va j9 zX.name ⟨n,i⟩ (YZ zX.name n es)
def atW (xs:List zw):List (List UInt8)->qk->qk×Int
 | [],s=>(s,0)
 | n :: r,s=>if s.ino=0 then (qL,1) else if (zg s.ino xs).kind≠2 then (qL,3) else atW xs r ⟨(zg s.ino xs).ino,n,qr n (zg s.ino xs).es⟩
def atV (f:FsV) (p:List UInt8):qk×Int:=if XA p then atW f.xs (zE p) ⟨0,[],1⟩ else (qL,9)
def Xx (f:FsV) (n b:Int):Bool:=decide (f.xs.length+n<=f.maxI)&&decide (jk f.xs+b<=f.maxB)
def jr (d:Int) (es:List zX->List zX) (xs:List zw):List zw:=qP { zg d xs with es:=es (zg d xs).es } xs
def zin (f:FsV) (s:qk) (k:Int) (t:List UInt8):FsV:={ f with next:=f.next+1,xs:=qP ⟨f.next,k,1,t,if k=2 then s.dir else 0,[]⟩ (jr s.dir (qe s.name f.next) f.xs) }
def Gj (f:FsV) (s:qk) (k:Int) (t:List UInt8):FsV×Int:=
 if may s.name then (if Xx f 1 (if k=1 then (t.length:Int) else 0) then (zin f s k t,0) else (f,8)) else (f,9)
def z7 (f:FsV) (s:qk):FsV:=
 if (zg s.ino f.xs).links-1=0 then { f with xs:=qg s.ino (jr s.dir (zm s.name) f.xs) }
 else { f with xs:=qP { zg s.ino f.xs with links:=(zg s.ino f.xs).links-1 } (jr s.dir (zm s.name) f.xs) }
def GW (f:FsV) (s:qk) (i:Int):FsV:={ f with xs:=qP { zg i f.xs with links:=(zg i f.xs).links+1 } (jr s.dir (qe s.name i) f.xs) }
def UJ (f:FsV) (a b:qk):FsV:=
 let g:=jr b.dir (qe b.name a.ino) (jr a.dir (zm a.name) f.xs)
 if (zg a.ino g).kind=2 then { f with xs:=qP { zg a.ino g with parent:=b.dir } g } else { f with xs:=g }
def zb3 (f:FsV) (i:Int) (t:List UInt8):FsV:={ f with xs:=qP { zg i f.xs with data:=t } f.xs }
def QO (f:FsV) (i:Int) (t:List UInt8):FsV×Int:=
 if Xx f 0 ((t.length:Int)-(zg i f.xs).data.length) then (zb3 f i t,0) else (f,8)
def MR (n:Int) (ks:List zT):Bool:=JR zT.slot n ks
def qw (k:zT) (ks:List zT):List zT:=Va j3 zT.slot k ks
def X3 (w:jt) (n:Int) (s:qk):jt×Int:=
 if MR n w.kept then (w,13)
 else (⟨z7 w.fs s,qw ⟨n,s.ino,false,[]⟩ w.kept,if (zg s.ino w.fs.xs).links=1 then qP { zg s.ino w.fs.xs with links:=0,parent:=0 } w.pool else w.pool⟩,0)
def qC (w:jt) (n i:Int):jt×Int:=
 if MR n w.kept then (w,13) else ({ w with kept:=qw ⟨n,i,true,(zg i w.fs.xs).data⟩ w.kept },0)
def isV (f:FsV) (p:List UInt8) (want:Bool):qk×zw×Int:=
 let a:=atV f p
 (a.1,zg a.1.ino f.xs,if a.2≠0 then a.2 else if want&&!zF a.1.ino f.xs then 1 else if !want&&zF a.1.ino f.xs then 2 else 0)
def qc (f:FsV) (p:List UInt8):zw×Int:=
 let a:=isV f p true
 (a.2.1,if a.2.2≠0 then a.2.2 else if a.2.1.kind=2 then 4 else if a.2.1.kind=3 then 9 else 0)
def YI (w:jt) (p:List UInt8) (k:Int) (t:List UInt8):jt×Int:=
 if (isV w.fs p false).2.2≠0 then (w,(isV w.fs p false).2.2) else ({ w with fs:=(Gj w.fs (isV w.fs p false).1 k t).1 },(Gj w.fs (isV w.fs p false).1 k t).2)
def Yo (w:jt) (o:OpV):jt×Int:=
 if (qc w.fs o.a).2≠0 then (w,(qc w.fs o.a).2) else YI w o.b 1 (qc w.fs o.a).1.data
def qE (w:jt) (o:OpV):jt×Int:=
 if (qc w.fs o.a).2≠0 then (w,(qc w.fs o.a).2)
 else if (qc w.fs o.b).2≠0 then (w,(qc w.fs o.b).2)
 else if (qc w.fs o.a).1.ino=(qc w.fs o.b).1.ino then (w,9)
 else if (qC w o.slot (qc w.fs o.b).1.ino).2≠0 then (w,(qC w o.slot (qc w.fs o.b).1.ino).2)
 else if (QO w.fs (qc w.fs o.b).1.ino (qc w.fs o.a).1.data).2≠0 then (w,(QO w.fs (qc w.fs o.b).1.ino (qc w.fs o.a).1.data).2)
 else ({ (qC w o.slot (qc w.fs o.b).1.ino).1 with fs:=(QO w.fs (qc w.fs o.b).1.ino (qc w.fs o.a).1.data).1 },0)
def j7 (w:jt) (o:OpV):jt×Int:=
 let a:=isV w.fs o.a true
 if a.2.2≠0 then (w,a.2.2) else if a.2.1.kind=2 then (w,11)
 else if (isV w.fs o.b false).2.2≠0 then (w,(isV w.fs o.b false).2.2)
 else ({ w with fs:=GW w.fs (isV w.fs o.b false).1 a.2.1.ino },0)
def Xe (w:jt) (o:OpV):jt×Int:=
 if (isV w.fs o.a true).2.2≠0 then (w,(isV w.fs o.a true).2.2)
 else if (isV w.fs o.b false).2.2≠0 then (w,(isV w.fs o.b false).2.2)
 else ({ w with fs:=UJ w.fs (isV w.fs o.a true).1 (isV w.fs o.b false).1 },0)
def jo (w:jt) (o:OpV):jt×Int:=
 let a:=isV w.fs o.a true
 if a.2.2≠0 then (w,a.2.2) else if a.2.1.es≠[] then (w,5) else X3 w o.slot a.1
def doV (w:jt) (o:OpV):jt×Int:=
 if !zba o then (w,12)
 else if o.kind=1 then YI w o.a 2 []
 else if o.kind=2 then Yo w o
 else if o.kind=3 then qE w o
 else if o.kind=4 then YI w o.a 3 o.d
 else if o.kind=5 then j7 w o
 else if o.kind=6 then Xe w o
 else jo w o
def Vr (ks:List zT):Int:=match ks.getLast? with | some k=>k.slot | none=>0
structure jG where
 w:jt
 ops:List OpV
 diags:List (List UInt8)
 status:Int
 slot:Int
deriving DecidableEq,Inhabited
def zh5 (w:jt):jG:=⟨w,[],[],0,Vr w.kept⟩
def XS (d:jG) (o:OpV):OpV:={ o with slot:=if o.kind=3∨o.kind=7 then d.slot+1 else 0 }
def X0 (d:jG) (o:OpV):jG×Int:=
 if 7<o.kind then (d,12)
 else if (doV d.w (XS d o)).2≠0 then (d,(doV d.w (XS d o)).2)
 else (⟨(doV d.w (XS d o)).1,d.ops++[XS d o],d.diags,d.status,if 0<(XS d o).slot then (XS d o).slot else d.slot⟩,0)
end
section
open CA CB
open Go.RowKit
theorem uH (a b:List UInt8):Fun Tryz.prog G0 253 [.str a,.str b] (.sc (.int .i64 (Lib.compareBytes a b))) 0:=by
 refine Fun.wrap (by kernel_rfl) fun R vs h=>?_
 obtain ⟨v1,us1,rfl,h1,h⟩:=zd.1 h
 obtain ⟨v2,us2,rfl,h2,h⟩:=zd.1 h
 rw[zh]at h
 subst h
 rw[zR]at h1 h2
 subst h1 h2
 refine (Tryz.strings_Compare ⟨a.toArray⟩ ⟨b.toArray⟩ R.w).mono ?_
 rintro e w' ⟨rfl,rfl⟩
 exact ⟨_,rfl,Below.refl _ _,fun R' _=>zn.2 (by simp)⟩
section
variable {G:zk}
theorem vh (e:zX) (n:List UInt8):Fun Tryz.prog G 252 [.agg (k9 e),.str n] (.sc (.int .i64 (Lib.compareBytes e.name n))) 0:=by
 have h:=(uH e.name n).glob0 (G':=G)
 refine Fun.of (fun _=>[]) Tryz.func252 rfl (zp rfl) (by kernel_rfl) ?_;dsimp only[Tryz.f252]
 push_cast -dsimp
 refine cl (h) ?_;push_cast -dsimp
 exact ⟨[],rfl,rfl,by push_cast -dsimp [zb,za,CLe,ze]⟩
theorem Nn (es:List zX) (n:List UInt8) (hl:es.length<=100000) (hR:qD j9 zX.name es) :
  Fun Tryz.prog G 251 [.sl 2 (zL es),.str n,.clo (.func 252) [] []] (.tup [.sc (.int .i64 (qh j9 zX.name n es:Nat)),.sc (.bool (JR zX.name n es))]) 0:=by
 refine Fun.of (fun _=>[]) Tryz.func251 rfl (zp rfl) (by kernel_rfl) ?_;dsimp only[Tryz.f251]
 push_cast -dsimp
 refine loop (fun p:Nat×Nat=>⟨[(0,.sl 2 (zL es)),(1,.str n),(2,.clo (.func 252) [] []),(8,.sc (.int .i64 (es.length:Nat))),(9,.sc (.int .i64 p.1)),(10,.sc (.int .i64 p.2))],[],0,0⟩)
  (fun p=>p.1<=p.2/\p.2<=es.length/\(∀ t (h:t<es.length),t<p.1->(j9).lt (zX.name es[t]) n=true)/\∀ t (h:t<es.length),p.2<=t->(j9).lt (zX.name es[t]) n=false) (fun p=>p.2-p.1) (0,es.length) ⟨Nat.zero_le _,Nat.le_refl _,fun t _ h=>by (simp at h),fun t h h'=>by (dsimp only at h';omega)⟩ ?_ ?_
 ·exact zS.mk [] rfl rfl (Nat.le_refl _) rfl (by push_cast -dsimp [zb,za,CLe,ze,List.length_map]) (by push_cast -dsimp [zb,za,CLe,ze])
 ·rintro ⟨i,j⟩ ⟨h1,h2,h3,h4⟩
  dsimp only at h1 h2 h3 h4 ⊢
  by_cases h:i<j
  ·obtain ⟨m,hm⟩:∃ m,m=(i+j) / 2:=⟨_,rfl⟩
   have hmi:((i:Int)+(j:Int)) / 2=(m:Int):=by omega
   have hml:m<es.length:=by omega
   have hat:=JD es m hml
   have hlt:=(zcz es[m].name n).to_iff
   push_cast -dsimp [h,hmi,hat]
   (try simp only[lS]);repeat refine And.intro (by omega) ?_
   refine cl ((vh es[m] n)) ?_;push_cast -dsimp
   cases hc:(j9).lt (zX.name es[m]) n with
   | true =>
    have hcv:(Lib.compareBytes es[m].name n<0)=True:=eq_true (hlt.mpr hc)
    push_cast -dsimp [hcv]
    (try simp only[lS]);repeat refine And.intro (by omega) ?_
    refine ⟨(m+1,j),⟨by omega,h2,fun t ht hlt2=>?_,h4⟩,by dsimp only;omega,zS.mk [] rfl rfl (Nat.le_refl _) rfl (by push_cast -dsimp [zb,za,CLe,ze]) (by push_cast -dsimp [zb,za,CLe,ze])⟩
    dsimp only at hlt2
    rcases Nat.lt_or_ge t m with q | q
    ·exact (j9).tr ((List.pairwise_iff_getElem.1 hR) t m ht hml q) hc
    ·have:t=m:=by omega
     subst this;exact hc
   | false =>
    have hcv:(Lib.compareBytes es[m].name n<0)=False:=eq_false (fun e=>by have h7:(j9).lt (zX.name es[m]) n=true:=hlt.mp e;rw[hc]at h7;cases h7)
    push_cast -dsimp [hcv]
    (try simp only[lS]);repeat refine And.intro (by omega) ?_
    refine ⟨(i,m),⟨by omega,by omega,h3,fun t ht hge=>?_⟩,by dsimp only;omega,zS.mk [] rfl rfl (Nat.le_refl _) rfl (by push_cast -dsimp [zb,za,CLe,ze]) (by push_cast -dsimp [zb,za,CLe,ze])⟩
    dsimp only at hge
    rcases Nat.lt_or_ge m t with q | q
    ·cases h9:(j9).lt (zX.name es[t]) n with
     | false=>rfl
     | true=>have:=(j9).tr ((List.pairwise_iff_getElem.1 hR) m t hml ht q) h9;rw[hc]at this;cases this
    ·have:t=m:=by omega
     subst this;exact hc
  ·have hij:i=j:=by omega
   subst hij
   have hrk:=QG (o:=j9) (key:=zX.name) n es i h2 h3 h4
   push_cast -dsimp [h]
   refine br (fun hx=>?_) (fun hx=>?_)
   ·have hx:i<es.length:=by simpa using hx
    have hat:=JD es i hx
    have hh:=xI n hR hrk hx
    push_cast -dsimp [hx,hat]
    (try simp only[lS]);repeat refine And.intro (by omega) ?_
    refine cl ((vh es[i] n)) ?_;push_cast -dsimp
    have hcv:decide (Lib.compareBytes es[i].name n=0)=JR zX.name n es:=by
     rw[hh]
     exact decide_eq_decide.2 (zbX es[i].name n).to_iff
    push_cast -dsimp [hcv]
    exact ⟨[],rfl,rfl,by push_cast -dsimp [zb,za,CLe,ze,hrk]⟩
   ·have hx:¬i<es.length:=by simpa using hx
    have hh:=HK n hR (by omega)
    push_cast -dsimp [hx]
    exact ⟨[],rfl,rfl,by push_cast -dsimp [zb,za,CLe,ze,hrk,hh]⟩
theorem M7 (es:List zX) (n:List UInt8) (hl:es.length<=100000) (hR:Ju es):Fun Tryz.prog G 231 [.sl 2 (zL es),.str n] (.tup [.sc (.int .i64 (qh j9 zX.name n es:Nat)),.sc (.bool (JR zX.name n es))]) 0:=by
 refine Fun.of (fun _=>[]) Tryz.func231 rfl (zp rfl) (by kernel_rfl) ?_;dsimp only[Tryz.f231]
 push_cast -dsimp
 refine cl (Nn es n hl hR) ?_;push_cast -dsimp
 exact ⟨[],rfl,rfl,by push_cast -dsimp [zb,za,CLe,ze]⟩
theorem zd6 (es:List zX) (n:List UInt8) (hl:es.length<=100000) (hR:Ju es):Fun Tryz.prog G 228 [.sl 2 (zL es),.str n] (.tup [.sc (.int .i64 (qr n es)),.sc (.bool (Q4 n es))]) 0:=by
 obtain ⟨_,_,h3,h4⟩:=Z5 n hR
 have h:=M7 (G:=G) es n hl hR
 cases hh:JR zX.name n es with
 | false =>
  have hf:qr n es=0:=by unfold qr;rw[(h4 hh).1]
  have he:Q4 n es=false:=hh
  rw[hh]at h
  refine Fun.of (fun _=>[]) Tryz.func228 rfl (zp rfl) (by kernel_rfl) ?_;dsimp only[Tryz.f228]
  push_cast -dsimp
  refine cl (h) ?_;push_cast -dsimp
  exact ⟨[],rfl,rfl,by push_cast -dsimp [zb,za,CLe,ze,hf,he]⟩
 | true =>
  obtain ⟨hlt,_,g2,_⟩:=h3 hh
  have hf:qr n es=es[qh j9 zX.name n es].ino:=by unfold qr;rw[g2]
  have he:Q4 n es=true:=hh
  have hat:=JD es _ hlt
  rw[hh]at h
  refine Fun.of (fun _=>[]) Tryz.func228 rfl (zp rfl) (by kernel_rfl) ?_;dsimp only[Tryz.f228]
  push_cast -dsimp
  refine cl (h) ?_;push_cast -dsimp [hat]
  (try simp only[lS]);repeat refine And.intro (by omega) ?_
  exact ⟨[],rfl,rfl,by push_cast -dsimp [zb,za,CLe,ze,hf,he]⟩
end
end
section
open CA CB
open Go.RowKit
section
variable {G:zk}
theorem qT {es:List zX}:∀ r∈zL es,r.length=2:=fun r hr=>by
 obtain ⟨x,_,rfl⟩:=List.mem_map.1 hr;rfl
theorem qY {es:List zX}:qU (zL es):=fun r hr=>by
 obtain ⟨x,_,rfl⟩:=List.mem_map.1 hr;rfl
theorem vt {k c i:Nat} {rows:List (List C)} (hk:∀ r∈rows,r.length=k) (hi:i<=rows.length):(qm k rows c).take (i*k)=(rows.take i).flatten:=by
 have hf:=zG hk
 have h1:i*k<=rows.length*k:=Nat.mul_le_mul_right _ hi
 unfold qm
 rw[List.take_append_of_le_length (by omega),QL hk]
theorem zff {es:List zX} {c r:Nat} {i:Int} (hr:r<es.length) :
  (qm 2 (zL es) c).take (r*2+1)++[C.sc (.int .i64 i)]++(qm 2 (zL es) c).drop (r*2+1+1)=qm 2 (zL (es.set r ⟨es[r].name,i⟩)) c:=by
 have hll:(zL es).length=es.length:=List.length_map ..
 have h:=vC (c:=c) (row:=k9 ⟨es[r].name,i⟩) (i:=r) qT rfl (show r<(zL es).length by omega)
 have e1:(zL es).set r (k9 ⟨es[r].name,i⟩)=zL (es.set r ⟨es[r].name,i⟩):=by simp[List.map_set]
 rw[e1]at h
 rw[←h]
 have t0:=vt (c:=c) (i:=r) (qT (es:=es)) (by omega)
 have t1:=vt (c:=c) (i:=r+1) (qT (es:=es)) (by omega)
 have e2:((zL es).take (r+1)).flatten=((zL es).take r).flatten++k9 es[r]:=by
  rw[List.take_add_one,JD es r hr];simp
 have e3:(qm 2 (zL es) c).take (r*2+1)=(qm 2 (zL es) c).take (r*2)++[C.str es[r].name]:=by
  have e4:(qm 2 (zL es) c).take (r*2+1)=((qm 2 (zL es) c).take ((r+1)*2)).take (r*2+1):=by rw[List.take_take,Nat.min_eq_left (by omega)]
  have hl0:((zL es).take r).flatten.length=r*2:=by
   rw[zG (k:=2) fun x hx=>qT x (List.mem_of_mem_take hx),List.length_take,hll,Nat.min_eq_left (by omega)]
  rw[e4,t1,e2,t0,List.take_append,hl0,List.take_of_length_le (by omega),show r*2+1-r*2=1 by omega]
  rfl
 rw[e3]
 simp
theorem Uv (es:List zX) (n:List UInt8) (i:Int) (hl:es.length<=90000) (hR:Ju es) :
  Fun Tryz.prog G 202 [.sl 2 (zL es),.str n,.sc (.int .i64 i)] (.own 0 108 2 (zL (qe n i es))) 1:=by
 obtain ⟨_,_,h3,h4⟩:=Z5 n hR
 have hll:(zL es).length=es.length:=List.length_map ..
 have hat:=M7 (G:=G) es n (by omega) hR
 have hrl:=QZ (o:=j9) (key:=zX.name) n es
 refine Fun.ofF (fun _=>[]) Tryz.func202 rfl (zp rfl) (by kernel_rfl) ?_;dsimp only[Tryz.f202]
 push_cast -dsimp
 refine cl (hat) ?_;push_cast -dsimp
 refine Jp [] [] (za4 (zL es) qT qY (by omega)) rfl (by decide) (by decide) (by simp) (by push_cast -dsimp) (by push_cast -dsimp) (fun r bx' m hp=>?_)
 obtain ⟨rfl,⟨hne,c,h1,h2,rfl,rfl⟩ | ⟨he,⟨rfl,rfl⟩ | ⟨rfl,rfl⟩⟩⟩:=hp
 ·have hbl:=Jm qT h1
  have hre:∀ fp fo,C.reL fp fo (qm 2 (zL es) c)=qm 2 (zL es) c:=fun fp fo=>zC (zD qY)
  have hpos:=List.length_pos_iff.2 hne
  cases hh:JR zX.name n es with
  | true =>
   obtain ⟨hlt,g1,g2,g3,g4⟩:=h3 hh
   have hset:qe n i es=es.set (qh j9 zX.name n es) ⟨n,i⟩:=g4 ⟨n,i⟩ rfl
   have hbs:=zff (c:=c) (i:=i) hlt
   rw[g1,←hset]at hbs
   have hwl:(qe n i es).length=es.length:=by rw[hset,List.length_set]
   push_cast -dsimp [hh,hre]
   rw[hbs]
   refine ⟨by omega,by omega,by rw[hbl];omega,[(1,108,2,zL (qe n i es),c)],[.inl 0],zy rfl (by omega) (by rw[List.length_map,hwl];omega) h2 qT qY,rfl,rfl,?_⟩
   rw[hll,←hwl]
   push_cast -dsimp [zb,za,CLe,ze,show (zL (qe n i es)).length=(qe n i es).length from List.length_map ..]
  | false =>
   have hw:qe n i es=es.take (qh j9 zX.name n es)++⟨n,i⟩ :: es.drop (qh j9 zX.name n es):=by
    unfold qe
    rw[(h4 hh).2.1]
    exact (h4 hh).2.2 ⟨n,i⟩ rfl
   have hset:zL (qe n i es)=(zL es).take (qh j9 zX.name n es)++k9 ⟨n,i⟩ :: (zL es).drop (qh j9 zX.name n es):=by rw[hw];simp
   have hsl:(zL (qe n i es)).length=(zL es).length+1:=by rw[hset];simp;omega
   push_cast -dsimp [hh,hre]
   refine Jp [1] [0] (yJ (e:=108) (zL es) (k9 ⟨n,i⟩) (qh j9 zX.name n es) c qT rfl qY rfl (by omega) (by omega) h1 h2) rfl (by decide) (by decide) (by simp) (by push_cast -dsimp) (by push_cast -dsimp [hre]) (fun r bx' m hp=>?_)
   rw[←hset]at hp
   have hre2:∀ fp fo c,C.reL fp fo (qm 2 (zL (qe n i es)) c)=qm 2 (zL (qe n i es)) c:=fun fp fo c=>zC (zD qY)
   obtain ⟨rfl,c',g1,g2,⟨rfl,rfl⟩ | ⟨rfl,rfl⟩⟩:=hp
   ·push_cast -dsimp [hre2,hre]
    exact ⟨[(1,108,2,zL (qe n i es),c')],[.inl 1],zy rfl (by omega) g1 g2 qT qY,rfl,rfl,by push_cast -dsimp [zb,za,CLe,ze]⟩
   ·have hra:∀ fp fo,C.reL fp fo (List.replicate (c*2) .any)=List.replicate (c*2) .any:=fun fp fo=>zC (by simp[List.all_replicate,C.stayB])
    push_cast -dsimp [hre2,hre,hra]
    exact ⟨[(2,108,2,zL (qe n i es),c')],[.inl 1],zy rfl (by omega) g1 g2 qT qY,rfl,rfl,by push_cast -dsimp [zb,za,CLe,ze]⟩
 ·have he:es = []:=by simpa using he
  have hh:JR zX.name n es=false:=by rw[he];rfl
  have hr0:qh j9 zX.name n es=0:=by rw[he];rfl
  have hset:qe n i es = [⟨n,i⟩]:=by rw[he];rfl
  push_cast -dsimp [hh,hr0]
  refine Jp [] [0] (zg1 (e:=108) (k9 ⟨n,i⟩) rfl rfl) rfl (by decide) (by decide) (by simp) (by push_cast -dsimp) (by push_cast -dsimp) (fun r bx' m hp=>?_)
  obtain ⟨rfl,c,g1,g2,rfl,rfl⟩:=hp
  have hre:∀ fp fo,C.reL fp fo (qm 2 [k9 ⟨n,i⟩] c)=qm 2 [k9 ⟨n,i⟩] c:=fun fp fo=>zC (zD (qY (es:=[⟨n,i⟩])))
  push_cast -dsimp [hre]
  exact ⟨[(0,108,2,zL [⟨n,i⟩],c)],[.inl 1],zy rfl (by omega) g1 g2 qT qY,rfl,rfl,by push_cast -dsimp [zb,za,CLe,ze,hset]⟩
 ·have he:es = []:=by simpa using he
  have hh:JR zX.name n es=false:=by rw[he];rfl
  have hr0:qh j9 zX.name n es=0:=by rw[he];rfl
  have hset:qe n i es = [⟨n,i⟩]:=by rw[he];rfl
  push_cast -dsimp [hh,hr0]
  refine Jp [0] [0] (yJ (e:=108) [] (k9 ⟨n,i⟩) 0 0 (fun r hr=>by cases hr) rfl (fun r hr=>by cases hr) rfl (by simp) (by simp) (by simp) (by simp)) rfl (by decide) (by decide) (by simp) (by push_cast -dsimp) (by push_cast -dsimp [qm]) (fun r bx' m hp=>?_)
  obtain ⟨rfl,c,g1,g2,hp⟩:=hp
  have hre:∀ fp fo,C.reL fp fo (qm 2 [k9 ⟨n,i⟩] c)=qm 2 [k9 ⟨n,i⟩] c:=fun fp fo=>zC (zD (qY (es:=[⟨n,i⟩])))
  rcases hp with ⟨rfl,rfl⟩ | ⟨rfl,rfl⟩
  ·push_cast -dsimp [hre]
   exact ⟨[(0,108,2,zL [⟨n,i⟩],c)],[.inl 1],zy rfl (Nat.lt_of_lt_of_le (Nat.zero_lt_succ _) g1) g1 g2 qT qY,rfl,rfl,by push_cast -dsimp [zb,za,CLe,ze,hset]⟩
  ·push_cast -dsimp [hre]
   exact ⟨[(1,108,2,zL [⟨n,i⟩],c)],[.inl 1],zy rfl (Nat.lt_of_lt_of_le (Nat.zero_lt_succ _) g1) g1 g2 qT qY,rfl,rfl,by push_cast -dsimp [zb,za,CLe,ze,hset]⟩
end
end
section
open CA CB
open Go.RowKit
section
variable {G:zk}
theorem zi6 {A B Z:List C} {r k:Nat} (hA:A.length=r*2) (hB:B.length=(k-r)*2) (hZ:Z.length=k*2) (hr:r<=k):spl (A++Z.drop (r*2)) (r*2) (B.take ((k-r)*2))=A++B:=by
 unfold spl
 rw[List.take_of_length_le (l:=B) (by omega),List.take_append_of_le_length (by omega),List.take_of_length_le (l:=A) (by omega),List.drop_of_length_le (l:=A++Z.drop (r*2)) (by rw[List.length_append,List.length_drop];omega),List.append_nil]
theorem ZY (es:List zX) (n:List UInt8) (hl:es.length<=90000) (hR:Ju es) (hh:JR zX.name n es=true) :
  Fun Tryz.prog G 204 [.sl 2 (zL es),.str n] (.own 0 108 2 (zL (zm n es))) 1:=by
 obtain ⟨_,_,h3,h4⟩:=Z5 n hR
 have hll:(zL es).length=es.length:=List.length_map ..
 have hat:=M7 (G:=G) es n (by omega) hR
 have hrl:=QZ (o:=j9) (key:=zX.name) n es
 rw[hh]at hat
 obtain ⟨hlt,g1,g2,g3,g4⟩:=h3 hh
 have hw:zm n es=es.take (qh j9 zX.name n es)++es.drop (qh j9 zX.name n es+1):=g3
 obtain ⟨k,hk⟩:∃ k,es.length=k+1:=⟨es.length-1,by omega⟩
 have hkc:(zL es).length=k+1:=by omega
 have hn:((zL es).length:Int)-1=(k:Int):=by omega
 have hwl:(zm n es).length=k:=by rw[hw];simp;omega
 generalize qh j9 zX.name n es=r at *
 have hm:min r k=r:=by omega
 rcases Nat.eq_zero_or_pos k with h1 | h1
 ·subst h1
  obtain rfl:r=0:=by omega
  have hn:((zL es).length:Int)-1=0:=hn
  have hwe:zm n es = []:=List.length_eq_zero_iff.1 hwl
  refine Fun.of (fun i=>if i=5 then Qj [(0,.pure),(1,.pure),(2,.pure),(3,.pure),(4,.pure),(7,.pure),(8,.pure),(9,.pure),(10,.pure),(5,.flt [0,5,6,7,8]),(6,.pure),(11,.bar)] else []) Tryz.func204 rfl (zp rfl) (by kernel_rfl) ?_;dsimp only[Tryz.f204]
  push_cast -dsimp
  refine cl (hat) ?_;push_cast -dsimp [hn,Int.toNat_zero]
  refine ⟨by omega,by omega,zlI (m:=0) (xs:=[]) Qg J3 rfl rfl (fun _ _ _ _ _ h=>by cases h) rfl ?_⟩
  push_cast -dsimp
  have hd:(zL es).drop 1 = []:=List.drop_of_length_le (by omega)
  rw[hd]
  refine ⟨⟨by split<;>first | omega | trivial,by split<;>first | omega | trivial⟩,zlI (m:=0) (xs:=[]) Qg J3 rfl rfl (fun _ _ _ _ _ h=>by cases h) rfl ?_⟩
  push_cast -dsimp
  exact ⟨[.inl 0],rfl,rfl,by push_cast -dsimp [zb,za,CLe,ze,hwe]⟩
 ·refine Fun.ofF (fun i=>if i=5 then Qj [(0,.pure),(1,.pure),(2,.pure),(3,.pure),(4,.pure),(7,.pure),(8,.pure),(9,.pure),(10,.pure),(5,.flt [0,5,6,7,8]),(6,.pure),(11,.bar)] else if i=1000000+73 then [true,true] else []) Tryz.func204 rfl (zp rfl) (by kernel_rfl) ?_;dsimp only[Tryz.f204]
  push_cast -dsimp
  refine cl (hat) ?_;push_cast -dsimp [hn,Int.toNat_natCast]
  have hA:((zL es).take r).flatten.length=r*2:=by
   rw[zG (k:=2) fun x hx=>qT x (List.mem_of_mem_take hx),List.length_take,hkc,Nat.min_eq_left (by omega)]
  have hB:((zL es).drop (r+1)).flatten.length=(k-r)*2:=by
   rw[zG (k:=2) fun x hx=>qT x (List.mem_of_mem_drop hx),List.length_drop,hkc];omega
  have hZ:((List.replicate k [C.str [],C.sc (.int .i64 0)]).flatten).length=k*2:=by simp
  refine ⟨⟨by omega,by omega⟩,by omega,by omega,by omega,by omega,⟨by omega,by omega⟩,⟨by omega,by omega⟩,⟨by omega,by omega⟩,ziQ (m:=r) (xs:=((zL es).take r).flatten) Qg J3 (by simp[C.xs?,C.rows?,hkc];omega) rfl hA (by rw[hZ];omega) ?_⟩
  rw[hm]
  push_cast -dsimp
  have hS:spl (List.replicate k [C.str [],C.sc (.int .i64 0)]).flatten 0 (((zL es).take r).flatten.take (r*2))=((zL es).take r).flatten++((List.replicate k [C.str [],C.sc (.int .i64 0)]).flatten).drop (r*2):=by
   unfold spl
   rw[List.take_zero,List.nil_append,Nat.zero_add,List.take_of_length_le (by omega),hA]
  have hm2:min (k-r) (k-r)=k-r:=Nat.min_self _
  rw[hS]
  refine ⟨⟨by split<;>first | exact ⟨by omega,by omega⟩ | trivial,by split<;>first | exact ⟨by omega,by omega⟩ | trivial,by split<;>first | exact ⟨by omega,by omega⟩ | trivial⟩,Nat.le_refl _,⟨by omega,by omega⟩,ziQ (m:=k-r) (xs:=((zL es).drop (r+1)).flatten) Qg J3 (by simp[C.xs?,C.rows?,hkc]) rfl hB (by rw[List.length_append,List.length_drop,hA,hZ];omega) ?_⟩
  rw[hm2]
  push_cast -dsimp
  have hwc:(zL (zm n es)).length=k:=(List.length_map ..).trans hwl
  have hF:spl (((zL es).take r).flatten++((List.replicate k [C.str [],C.sc (.int .i64 0)]).flatten).drop (r*2)) (r*2) (((zL es).drop (r+1)).flatten.take ((k-r)*2))=qm 2 (zL (zm n es)) k:=by
   rw[zi6 hA hB hZ (by omega)]
   unfold qm
   rw[hwc,Nat.sub_self,Nat.zero_mul,hw]
   simp
  rw[hF]
  refine ⟨[(0,108,2,zL (zm n es),k)],[.inl 0],zy rfl h1 (by omega) (by omega) qT qY,rfl,rfl,?_⟩
  push_cast -dsimp [zb,za,CLe,ze,hwc]
end
end
section
theorem Ql (n:Int) (xs:List zw):zF n xs=(YM n xs).isSome:=by
 unfold zF YM
 induction xs with
 | nil=>rfl
 | cons y r ih =>
  rw[List.any_cons,List.find?_cons]
  cases h:(y.ino==n) with
  | true=>rfl
  | false=>rw[Bool.false_or,ih]
theorem H1 {n:Int} {xs:List zw} {x:zw} (h:YM n xs=some x):x.ino=n/\x∈xs:=by
 unfold YM at h
 have h1:=List.find?_some h
 exact ⟨by simpa using h1,List.mem_of_find?_eq_some h⟩
theorem ym (n:Int) (x:zw):∀ xs:List zw,(∀ z∈xs,z.ino≠x.ino)->YM n (QX x xs)=if x.ino=n then some x else YM n xs
 | [],_=>by
  unfold QX YM
  by_cases h:x.ino=n<;>simp[h]
 | y :: r,hn=>by
  have hy:=hn y List.mem_cons_self
  have ih:=ym n x r fun z hz=>hn z (List.mem_cons_of_mem _ hz)
  unfold YM at ih ⊢
  unfold QX
  split
  ·by_cases h:x.ino=n
   ·simp[h]
   ·simp[h,List.find?_cons]
  ·by_cases h:x.ino=n
   ·rw[if_pos h]at ih ⊢
    have hyn:(y.ino==n)=false:=by simp;omega
    rw[List.find?_cons,hyn];exact ih
   ·rw[if_neg h]at ih ⊢
    rw[List.find?_cons,List.find?_cons,ih]
theorem QF (n m:Int):∀ xs:List zw,YM n (qg m xs)=if n=m then none else YM n xs
 | []=>by unfold YM qg;simp
 | y :: r=>by
  have ih:=QF n m r
  by_cases hy:y.ino=m
  ·rw[jY hy,ih]
   by_cases h:n=m
   ·rw[if_pos h,if_pos h]
   ·rw[if_neg h,if_neg h]
    have hyn:(y.ino==n)=false:=by simp;omega
    unfold YM
    rw[List.find?_cons,hyn]
  ·rw[Jr hy]
   unfold YM at ih ⊢
   rw[List.find?_cons,List.find?_cons,ih]
   by_cases h:n=m
   ·have hyn:(y.ino==n)=false:=by simp;omega
    simp only[hyn,if_pos h]
   ·simp only[if_neg h]
theorem ziZ {n:Int} {xs:List zw}:∀ z∈qg n xs,z.ino≠n:=fun z hz=>by
 unfold qg at hz
 simpa using (List.mem_filter.1 hz).2
theorem vA (n:Int) (x:zw) (xs:List zw):YM n (qP x xs)=if x.ino=n then some x else YM n xs:=by
 unfold qP
 rw[ym n x _ ziZ,QF]
 by_cases h:x.ino=n
 ·rw[if_pos h,if_pos h]
 ·rw[if_neg h,if_neg h,if_neg (fun e=>h e.symm)]
theorem jP (n:Int) (x:zw) (xs:List zw):zF n (qP x xs)=(decide (x.ino=n)||zF n xs):=by
 rw[Ql,vA,Ql]
 by_cases h:x.ino=n<;>simp[h]
theorem Vv (n m:Int) (xs:List zw):zF n (qg m xs)=(!decide (n=m)&&zF n xs):=by
 rw[Ql,QF,Ql]
 by_cases h:n=m<;>simp[h]
theorem ND {x:zw}:∀ {xs:List zw},zZ xs->YM x.ino xs=some x->qP x xs=xs
 | [],_,h=>by unfold YM at h;simp at h
 | y :: r,hR,h=>by
  obtain ⟨h1,h2⟩:=jD.1 hR
  by_cases hy:y.ino=x.ino
  ·have e:y=x:=by
    unfold YM at h
    rw[List.find?_cons_of_pos (by simpa using hy)]at h
    simpa using h
   subst e
   have hb:zF y.ino r=false:=Q6 h1
   unfold qP
   rw[jY rfl,XJ hb,zc6 h1]
  ·have hx:YM x.ino r=some x:=by
    unfold YM at h ⊢
    rwa [List.find?_cons_of_neg (by simpa using hy)]at h
   have hlt:=h1 x (H1 hx).2
   rw[Qb hlt,ND h2 hx]
theorem zk2 {xs:List zw}:∀ {x:zw},zZ xs->(x∈xs↔YM x.ino xs=some x):=by
 induction xs with
 | nil=>intro x _;simp[YM]
 | cons y r ih =>
  intro x hR
  obtain ⟨h1,h2⟩:=jD.1 hR
  constructor
  ·intro hx
   rcases List.mem_cons.1 hx with rfl | hx
   ·unfold YM;rw[List.find?_cons_of_pos (by simp)]
   ·have:=h1 x hx
    unfold YM
    rw[List.find?_cons_of_neg (by simp;omega)]
    exact (ih h2).1 hx
  ·intro h;exact (H1 h).2
def Ma (g:zw->Nat) (xs:List zw):Nat:=(xs.map g).sum
theorem VI (g:zw->Nat) {n:Int}:∀ {xs:List zw},zZ xs->Ma g xs=Ma g (qg n xs)+(match YM n xs with | some x=>g x | none=>0)
 | [],_=>rfl
 | y :: r,hR=>by
  obtain ⟨h1,h2⟩:=jD.1 hR
  have ih:=VI g (n:=n) h2
  unfold Ma at ih ⊢
  by_cases hy:y.ino=n
  ·have hb:zF n r=false:=Q6 fun z hz=>by have:=h1 z hz;omega
   have hg:YM n (y :: r)=some y:=by unfold YM;rw[List.find?_cons_of_pos (by simpa using hy)]
   rw[hg,jY hy,XJ hb]
   simp;omega
  ·have hg:YM n (y :: r)=YM n r:=by unfold YM;rw[List.find?_cons_of_neg (by simpa using hy)]
   rw[hg,Jr hy]
   simp only[List.map_cons,List.sum_cons]
   omega
theorem yB (g:zw->Nat) (x:zw):∀ xs:List zw,Ma g (QX x xs)=Ma g xs+g x
 | []=>by unfold QX Ma;simp
 | y :: r=>by
  have ih:=yB g x r
  unfold Ma at ih ⊢
  unfold QX
  split
  ·simp;omega
  ·simp only[List.map_cons,List.sum_cons];omega
theorem yx (g:zw->Nat) {x:zw} {xs:List zw} (hR:zZ xs):Ma g (qP x xs)+(match YM x.ino xs with | some y=>g y | none=>0)=Ma g xs+g x:=by
 unfold qP
 rw[yB,VI g (n:=x.ino) hR]
 omega
end
section
def JN (n:Int) (x:zw):Nat:=(x.es.filter fun e=>decide (e.ino=n)).length
def JG (n:Int) (xs:List zw):Nat:=Ma (JN n) xs
structure FsI (f:FsV):Prop where
 rises:zZ f.xs
 ino:∀ x∈f.xs,1<=x.ino/\x.ino<f.next
 kind:∀ x∈f.xs,x.kind=1∨x.kind=2∨x.kind=3
 es:∀ x∈f.xs,Ju x.es
 file:∀ x∈f.xs,x.kind≠2->x.es = []
 led:∀ x∈f.xs,∀ e∈x.es,zF e.ino f.xs=true
 links:∀ x∈f.xs,x.links=(JG x.ino f.xs:Int)
 root:zF 1 f.xs=true
 base:(zg 1 f.xs).kind=2
 bare:JG 1 f.xs=0
theorem zi {n:Int} {xs:List zw} (h:zF n xs=true):YM n xs=some (zg n xs)/\zg n xs∈xs/\(zg n xs).ino=n:=by
 rw[Ql]at h
 obtain ⟨x,hx⟩:=Option.isSome_iff_exists.1 h
 have e:zg n xs=x:=by unfold zg;rw[hx];rfl
 obtain ⟨h1,h2⟩:=H1 hx
 rw[e]
 exact ⟨hx,h2,h1⟩
theorem Q1 {n:Int} {xs:List zw} (h:zF n xs=false):YM n xs=none/\zg n xs=vX:=by
 have h1:=Hn h
 exact ⟨h1,by unfold zg;rw[h1];rfl⟩
theorem QA (n:Int) (x:zw) (xs:List zw):zg n (qP x xs)=if x.ino=n then x else zg n xs:=by
 unfold zg
 rw[vA]
 split<;>rfl
theorem zdL (n m:Int) (xs:List zw):zg n (qg m xs)=if n=m then vX else zg n xs:=by
 unfold zg
 rw[QF]
 split<;>rfl
theorem jA {x z:zw} {xs:List zw}:z∈qP x xs↔z=x∨(z∈xs/\z.ino≠x.ino):=by
 unfold qP
 rw[xa]
 unfold qg
 simp
theorem Ua {n:Int} {z:zw} {xs:List zw}:z∈qg n xs↔z∈xs/\z.ino≠n:=by
 unfold qg
 simp
theorem vl {α κ:Type} [DecidableEq κ] {o:zh4 κ} {key:α->κ} (p:α->Bool) (x:α):∀ xs:List α,((Va o key x xs).filter p).length=(xs.filter p).length+if p x then 1 else 0
 | []=>by unfold Va;cases h:p x<;>simp[h]
 | y :: r=>by
  have ih:=vl (o:=o) (key:=key) p x r
  unfold Va
  split
  ·cases h:p x<;>simp[h,List.filter_cons]
  ·rw[List.filter_cons,List.filter_cons]
   cases h:p y
   ·simpa using ih
   ·simp[ih];omega
theorem zbv {α κ:Type} [DecidableEq κ] {o:zh4 κ} {key:α->κ} (p:α->Bool) {n:κ} {xs:List α} (hR:qD o key xs) {e:α} (h:Ja key n xs=some e):(xs.filter p).length=((YZ key n xs).filter p).length+if p e then 1 else 0:=by
 obtain ⟨_,_,h3,h4⟩:=Z5 n hR
 cases hh:JR key n xs with
 | false=>rw[(h4 hh).1]at h;cases h
 | true =>
  obtain ⟨g,_,g2,g3,_⟩:=h3 hh
  rw[g2]at h
  simp only[Option.some.injEq]at h
  have e0:xs=xs.take (qh o key n xs)++e :: xs.drop (qh o key n xs+1):=by
   rw[←h,←List.drop_eq_getElem_cons g,List.take_append_drop]
  rw[g3]
  conv=>lhs;rw[e0]
  rw[List.filter_append,List.filter_append,List.filter_cons]
  cases hp:p e<;>simp<;>omega
theorem jZ {α κ:Type} [DecidableEq κ] {key:α->κ} {n:κ} {xs:List α} {e:α} (h:Ja key n xs=some e):key e=n/\e∈xs:=by
 unfold Ja at h
 exact ⟨by have:=List.find?_some h;simpa using this,List.mem_of_find?_eq_some h⟩
theorem jM {α κ:Type} [DecidableEq κ] {key:α->κ} {n:κ} {xs:List α}:JR key n xs=(Ja key n xs).isSome:=by
 unfold JR Ja
 induction xs with
 | nil=>rfl
 | cons y r ih =>
  rw[List.any_cons,List.find?_cons]
  cases h:decide (key y=n) with
  | true=>rfl
  | false=>rw[Bool.false_or,ih]
theorem VW {n m:Int} {x:zw} {xs:List zw} (hR:zZ xs) (hh:zF n xs=true) (hx:x.ino=n):JG m (qP x xs)+JN m (zg n xs)=JG m xs+JN m x:=by
 have h:=yx (JN m) (x:=x) hR
 rw[hx,(zi hh).1]at h
 exact h
theorem zdc {m:Int} {x:zw} {xs:List zw} (hR:zZ xs) (hh:zF x.ino xs=false):JG m (qP x xs)=JG m xs+JN m x:=by
 have h:=yx (JN m) (x:=x) hR
 rw[(Q1 hh).1]at h
 exact h
theorem zgh {n m:Int} {xs:List zw} (hR:zZ xs) (hh:zF n xs=true):JG m xs=JG m (qg n xs)+JN m (zg n xs):=by
 have h:=VI (JN m) (n:=n) hR
 rw[(zi hh).1]at h
 exact h
theorem zhD {n:Int} {xs:List zw} (h:∀ x∈xs,∀ e∈x.es,e.ino≠n):JG n xs=0:=by
 unfold JG Ma
 rw[List.sum_eq_zero_iff_forall_eq_nat]
 intro k hk
 obtain ⟨x,hx,rfl⟩:=List.mem_map.1 hk
 unfold JN
 rw[List.length_eq_zero_iff,List.filter_eq_nil_iff]
 intro e he
 simpa using h x hx e he
theorem vB {n:Int} {xs:List zw} (h:JG n xs=0):∀ x∈xs,∀ e∈x.es,e.ino≠n:=fun x hx e he hn=>by
 unfold JG Ma at h
 rw[List.sum_eq_zero_iff_forall_eq_nat]at h
 have:=h _ (List.mem_map_of_mem hx)
 unfold JN at this
 rw[List.length_eq_zero_iff,List.filter_eq_nil_iff]at this
 exact this e he (by simpa using hn)
theorem Qz {m i:Int} {n:List UInt8} {es:List zX} {x:zw} (hR:Ju es) (h:Q4 n es=false):JN m { x with es:=qe n i es }=JN m { x with es:=es }+if i=m then 1 else 0:=by
 obtain ⟨_,_,_,h4⟩:=Z5 n hR
 unfold qe JN
 rw[(h4 h).2.1]
 show ((Va j9 zX.name ⟨n,i⟩ es).filter _).length=_
 rw[vl]
 by_cases hi:i=m<;>simp[hi]
theorem ZX {m i:Int} {n:List UInt8} {es:List zX} {x:zw} (hR:Ju es) (h:Ja zX.name n es=some ⟨n,i⟩):JN m { x with es:=es }=JN m { x with es:=zm n es }+if i=m then 1 else 0:=by
 unfold zm JN
 have:=zbv (fun e:zX=>decide (e.ino=m)) hR h
 simp only at this ⊢
 rw[this]
 by_cases hi:i=m<;>simp[hi]
theorem Qt {n:List UInt8} {es:List zX} (h:Q4 n es=true):Ja zX.name n es=some ⟨n,qr n es⟩:=by
 unfold Q4 at h
 rw[jM]at h
 obtain ⟨e,he⟩:=Option.isSome_iff_exists.1 h
 have h1:=(jZ he).1
 unfold qr
 rw[he]
 cases e with
 | mk a b=>simp at h1 ⊢;exact h1
theorem Q7 {n:List UInt8} {i:Int} {es:List zX} (h:Ju es):Ju (qe n i es):=Uc (x:=(⟨n,i⟩:zX)) h
theorem JM {n:List UInt8} {es:List zX} (h:Ju es):Ju (zm n es):=V1 n h
theorem Vo {n:List UInt8} {i:Int} {es:List zX} {e:zX} (h:e∈qe n i es):e=⟨n,i⟩∨e∈es:=by
 unfold qe at h
 rcases QB.1 h with h | h
 ·exact .inl h
 ·exact .inr (Ue.1 h).1
theorem JX {n:List UInt8} {es:List zX} {e:zX} (h:e∈zm n es):e∈es/\e.name≠n:=Ue.1 h
end
section
structure ZT (f:FsV) (s:qk):Prop where
 has:zF s.dir f.xs=true
 kind:(zg s.dir f.xs).kind=2
 free:Q4 s.name (zg s.dir f.xs).es=false
structure qo (f:FsV) (s:qk):Prop where
 has:zF s.dir f.xs=true
 kind:(zg s.dir f.xs).kind=2
 there:Ja zX.name s.name (zg s.dir f.xs).es=some ⟨s.name,s.ino⟩
theorem qo.ino {f:FsV} {s:qk} (hf:FsI f) (h:qo f s):zF s.ino f.xs=true:=by
 have:=hf.led _ (zi h.has).2.1 ⟨s.name,s.ino⟩ (jZ h.there).2
 exact this
abbrev qM (d:zw) (es:List zX):zw:={ d with es:=es }
theorem jH {xs:List zw} {n:Int} {F:List zX->List zX} (hh:zF n xs=true) {z:zw}:z∈jr n F xs↔z=qM (zg n xs) (F (zg n xs).es)∨(z∈xs/\z.ino≠n):=by
 unfold jr
 rw[jA]
 show z=qM _ _∨(z∈xs/\z.ino≠(zg n xs).ino)↔_
 rw[(zi hh).2.2]
theorem qi {xs:List zw} {n m:Int} {F:List zX->List zX} (hh:zF n xs=true):zF m (jr n F xs)=zF m xs:=by
 unfold jr
 rw[jP]
 show (decide ((zg n xs).ino=m)||zF m xs)=_
 rw[(zi hh).2.2]
 by_cases h:n=m
 ·subst h;rw[hh];simp
 ·simp[h]
theorem Yp {xs:List zw} {n m:Int} {F:List zX->List zX} (hh:zF n xs=true):zg m (jr n F xs)=if n=m then qM (zg n xs) (F (zg n xs).es) else zg m xs:=by
 unfold jr
 rw[QA]
 show (if (zg n xs).ino=m then _ else _)=_
 rw[(zi hh).2.2]
theorem Zx {xs:List zw} {n m:Int} {F:List zX->List zX} (hR:zZ xs) (hh:zF n xs=true):JG m (jr n F xs)+JN m (zg n xs)=JG m xs+JN m (qM (zg n xs) (F (zg n xs).es)):=
 VW hR hh (zi hh).2.2
theorem zhX {f:FsV} (hf:FsI f):zF f.next f.xs=false/\∀ x∈f.xs,∀ e∈x.es,e.ino≠f.next:=by
 have h1:zF f.next f.xs=false:=by
  rw[Bool.eq_false_iff]
  intro h
  have:=(hf.ino _ (zi h).2.1).2
  rw[(zi h).2.2]at this
  omega
 refine ⟨h1,fun x hx e he hn=>?_⟩
 have:=hf.led x hx e he
 rw[hn,h1]at this
 cases this
theorem zcS {f:FsV} (hf:FsI f):1<f.next:=by
 have:=(hf.ino _ (zi hf.root).2.1).2
 rw[(zi hf.root).2.2]at this
 exact this
theorem zkr {f:FsV} (hf:FsI f) {s:qk} (hs:ZT f s) (k:Int) (hk:k=1∨k=2∨k=3) (t:List UInt8):FsI (zin f s k t):=by
 obtain ⟨n1,n2⟩:=zhX hf
 have hd:=(zi hs.has).2.1
 have hR1:zZ (jr s.dir (qe s.name f.next) f.xs):=qd hf.rises
 have hn1:zF f.next (jr s.dir (qe s.name f.next) f.xs)=false:=by rw[qi hs.has];exact n1
 have hlt:=zcS hf
 have hdn:s.dir≠f.next:=fun e=>by have:=hs.has;rw[e,n1]at this;cases this
 refine ⟨qd hR1,fun x hx=>?_,fun x hx=>?_,fun x hx=>?_,fun x hx hk2=>?_,fun x hx e he=>?_,fun x hx=>?_,?_,?_,?_⟩
 ·rcases jA.1 hx with rfl | ⟨hx,_⟩
  ·exact ⟨by show 1<=f.next;omega,by show f.next<f.next+1;omega⟩
  ·rcases (jH hs.has).1 hx with rfl | ⟨hx,_⟩
   ·have:=hf.ino _ hd
    exact ⟨this.1,by show (zg s.dir f.xs).ino<f.next+1;omega⟩
   ·have:=hf.ino _ hx
    exact ⟨this.1,by show x.ino<f.next+1;omega⟩
 ·rcases jA.1 hx with rfl | ⟨hx,_⟩
  ·exact hk
  ·rcases (jH hs.has).1 hx with rfl | ⟨hx,_⟩
   ·exact .inr (.inl hs.kind)
   ·exact hf.kind _ hx
 ·rcases jA.1 hx with rfl | ⟨hx,_⟩
  ·exact List.Pairwise.nil
  ·rcases (jH hs.has).1 hx with rfl | ⟨hx,_⟩
   ·exact Q7 (hf.es _ hd)
   ·exact hf.es _ hx
 ·rcases jA.1 hx with rfl | ⟨hx,_⟩
  ·rfl
  ·rcases (jH hs.has).1 hx with rfl | ⟨hx,_⟩
   ·exact absurd hs.kind hk2
   ·exact hf.file _ hx hk2
 ·show zF e.ino (qP _ _)=true
  rw[jP,qi hs.has]
  show (decide (f.next=e.ino)||zF e.ino f.xs)=true
  rcases jA.1 hx with rfl | ⟨hx,_⟩
  ·cases he
  ·rcases (jH hs.has).1 hx with rfl | ⟨hx,_⟩
   ·rcases Vo he with rfl | he
    ·simp
    ·rw[hf.led _ hd e he,Bool.or_true]
   ·rw[hf.led _ hx e he,Bool.or_true]
 ·show x.links=(JG x.ino (qP _ _):Int)
  rw[zdc hR1 hn1]
  have hc:=Zx (m:=x.ino) (F:=qe s.name f.next) hf.rises hs.has
  have hw:=Qz (m:=x.ino) (i:=f.next) (x:=zg s.dir f.xs) (hf.es _ hd) hs.free
  have hz:JN x.ino (⟨f.next,k,1,t,if k=2 then s.dir else 0,[]⟩:zw)=0:=rfl
  have hw:JN x.ino (qM (zg s.dir f.xs) (qe s.name f.next (zg s.dir f.xs).es))=JN x.ino (zg s.dir f.xs)+if f.next=x.ino then 1 else 0:=hw
  rw[hz]
  rcases jA.1 hx with rfl | ⟨hx,hxn⟩
  ·have h0:JG f.next f.xs=0:=zhD n2
   have hw:JN f.next (qM (zg s.dir f.xs) (qe s.name f.next (zg s.dir f.xs).es))=JN f.next (zg s.dir f.xs)+if f.next=f.next then 1 else 0:=hw
   rw[if_pos rfl]at hw
   show (1:Int)=((JG f.next (jr s.dir (qe s.name f.next) f.xs)+0:Nat):Int)
   have hc:JG f.next (jr s.dir (qe s.name f.next) f.xs)+JN f.next (zg s.dir f.xs)=JG f.next f.xs+JN f.next (qM (zg s.dir f.xs) (qe s.name f.next (zg s.dir f.xs).es)):=hc
   omega
  ·have hxn:x.ino≠f.next:=hxn
   rw[if_neg fun e=>hxn e.symm]at hw
   have hl:x.links=(JG x.ino f.xs:Int):=by
    rcases (jH hs.has).1 hx with rfl | ⟨hx,_⟩
    ·exact hf.links (zg s.dir f.xs) hd
    ·exact hf.links _ hx
   omega
 ·show zF 1 (qP _ _)=true
  rw[jP,qi hs.has,hf.root,Bool.or_true]
 ·show (zg 1 (qP _ _)).kind=2
  rw[QA]
  rw[if_neg (show ¬f.next=1 by omega),Yp hs.has]
  split
  ·exact hs.kind
  ·exact hf.base
 ·show JG 1 (qP _ _)=0
  rw[zdc hR1 hn1]
  have hc:=Zx (m:=1) (F:=qe s.name f.next) hf.rises hs.has
  have hw:JN 1 (qM (zg s.dir f.xs) (qe s.name f.next (zg s.dir f.xs).es))=JN 1 (zg s.dir f.xs)+if f.next=1 then 1 else 0:=Qz (m:=1) (i:=f.next) (x:=zg s.dir f.xs) (hf.es (zg s.dir f.xs) hd) hs.free
  have hz:JN 1 (⟨f.next,k,1,t,if k=2 then s.dir else 0,[]⟩:zw)=0:=rfl
  have:=hf.bare
  rw[if_neg (show ¬f.next=1 by omega)]at hw
  omega
theorem zlB {f:FsV} (hf:FsI f) {s:qk} (hs:ZT f s) (k:Int) (hk:k=1∨k=2∨k=3) (t:List UInt8):FsI (Gj f s k t).1:=by
 unfold Gj
 by_cases h1:may s.name=true
 ·rw[if_pos h1]
  by_cases h2:Xx f 1 (if k=1 then (t.length:Int) else 0)=true
  ·rw[if_pos h2];exact zkr hf hs k hk t
  ·rw[if_neg h2];exact hf
 ·rw[if_neg h1];exact hf
theorem zj8 {f:FsV} (hf:FsI f) {i:Int} (hh:zF i f.xs=true) (t:List UInt8):FsI (zb3 f i t):=by
 have hg:=zi hh
 have hmem:∀ {z:zw},z∈(zb3 f i t).xs->∃ y∈f.xs,z.ino=y.ino/\z.kind=y.kind/\z.es=y.es/\z.links=y.links:=fun {z} hz=>by
  rcases jA.1 hz with rfl | ⟨hz,_⟩
  ·exact ⟨_,hg.2.1,rfl,rfl,rfl,rfl⟩
  ·exact ⟨_,hz,rfl,rfl,rfl,rfl⟩
 have hhas:∀ m,zF m (zb3 f i t).xs=zF m f.xs:=fun m=>by
  show zF m (qP _ _)=_
  rw[jP]
  show (decide ((zg i f.xs).ino=m)||_)=_
  rw[hg.2.2]
  by_cases h:i=m
  ·subst h;rw[hh];simp
  ·simp[h]
 have hcnt:∀ m,JG m (zb3 f i t).xs=JG m f.xs:=fun m=>by
  have h:=VW (m:=m) (x:={ zg i f.xs with data:=t }) hf.rises hh hg.2.2
  have e:JN m { zg i f.xs with data:=t }=JN m (zg i f.xs):=rfl
  show JG m (qP _ _)=_
  omega
 refine ⟨qd hf.rises,fun x hx=>?_,fun x hx=>?_,fun x hx=>?_,fun x hx hk2=>?_,fun x hx e he=>?_,fun x hx=>?_,by rw[hhas];exact hf.root,?_,?_⟩
 ·obtain ⟨y,hy,e1,_⟩:=hmem hx;rw[e1];exact hf.ino y hy
 ·obtain ⟨y,hy,_,e2,_⟩:=hmem hx;rw[e2];exact hf.kind y hy
 ·obtain ⟨y,hy,_,_,e3,_⟩:=hmem hx;rw[e3];exact hf.es y hy
 ·obtain ⟨y,hy,_,e2,e3,_⟩:=hmem hx;rw[e3];exact hf.file y hy (by rw[←e2];exact hk2)
 ·obtain ⟨y,hy,_,_,e3,_⟩:=hmem hx;rw[hhas];exact hf.led y hy e (by rw[←e3];exact he)
 ·obtain ⟨y,hy,e1,_,_,e4⟩:=hmem hx;rw[hcnt,e4,e1];exact hf.links y hy
 ·show (zg 1 (qP _ _)).kind=2
  rw[QA]
  split
  ·rename_i h
   have h:(zg i f.xs).ino=1:=h
   rw[hg.2.2]at h
   subst h
   exact hf.base
  ·exact hf.base
 ·rw[hcnt];exact hf.bare
theorem zjC {f:FsV} (hf:FsI f) {s:qk} (hs:ZT f s) {i:Int} (hi:zF i f.xs=true) (hk:(zg i f.xs).kind≠2):FsI (GW f s i):=by
 have hd:=zi hs.has
 have hx:=zi hi
 have hne:s.dir≠i:=fun e=>hk (by rw[←e];exact hs.kind)
 have hR1:zZ (jr s.dir (qe s.name i) f.xs):=qd hf.rises
 have hi1:zF i (jr s.dir (qe s.name i) f.xs)=true:=by rw[qi hs.has];exact hi
 have hg1:zg i (jr s.dir (qe s.name i) f.xs)=zg i f.xs:=by rw[Yp hs.has,if_neg hne]
 have hmem:∀ {z:zw},z∈(GW f s i).xs->z = { zg i f.xs with links:=(zg i f.xs).links+1 }∨z=qM (zg s.dir f.xs) (qe s.name i (zg s.dir f.xs).es)∨(z∈f.xs/\z.ino≠s.dir/\z.ino≠i):=fun {z} hz=>by
  rcases jA.1 hz with rfl | ⟨hz,hzi⟩
  ·exact .inl rfl
  ·have hzi:z.ino≠(zg i f.xs).ino:=hzi
   rw[hx.2.2]at hzi
   rcases (jH hs.has).1 hz with rfl | ⟨hz,hzd⟩
   ·exact .inr (.inl rfl)
   ·exact .inr (.inr ⟨hz,hzd,hzi⟩)
 have hhas:∀ m,zF m (GW f s i).xs=zF m f.xs:=fun m=>by
  show zF m (qP _ _)=_
  rw[jP,qi hs.has]
  show (decide ((zg i f.xs).ino=m)||_)=_
  rw[hx.2.2]
  by_cases h:i=m
  ·subst h;rw[hi];simp
  ·simp[h]
 have hcnt:∀ m,JG m (GW f s i).xs=JG m f.xs+if i=m then 1 else 0:=fun m=>by
  have h:=VW (m:=m) (x:={ zg i f.xs with links:=(zg i f.xs).links+1 }) hR1 hi1 hx.2.2
  rw[hg1]at h
  have e:JN m { zg i f.xs with links:=(zg i f.xs).links+1 }=JN m (zg i f.xs):=rfl
  have hc:=Zx (m:=m) (F:=qe s.name i) hf.rises hs.has
  have hw:JN m (qM (zg s.dir f.xs) (qe s.name i (zg s.dir f.xs).es))=JN m (zg s.dir f.xs)+if i=m then 1 else 0:=Qz (m:=m) (i:=i) (x:=zg s.dir f.xs) (hf.es (zg s.dir f.xs) hd.2.1) hs.free
  show JG m (qP _ _)=_
  omega
 refine ⟨qd hR1,fun x hx'=>?_,fun x hx'=>?_,fun x hx'=>?_,fun x hx' hk2=>?_,fun x hx' e he=>?_,fun x hx'=>?_,by rw[hhas];exact hf.root,?_,?_⟩
 ·rcases hmem hx' with rfl | rfl | ⟨h,_⟩
  ·exact hf.ino (zg i f.xs) hx.2.1
  ·exact hf.ino (zg s.dir f.xs) hd.2.1
  ·exact hf.ino _ h
 ·rcases hmem hx' with rfl | rfl | ⟨h,_⟩
  ·exact hf.kind (zg i f.xs) hx.2.1
  ·exact hf.kind (zg s.dir f.xs) hd.2.1
  ·exact hf.kind _ h
 ·rcases hmem hx' with rfl | rfl | ⟨h,_⟩
  ·exact hf.es (zg i f.xs) hx.2.1
  ·exact Q7 (hf.es (zg s.dir f.xs) hd.2.1)
  ·exact hf.es _ h
 ·rcases hmem hx' with rfl | rfl | ⟨h,_⟩
  ·exact hf.file (zg i f.xs) hx.2.1 hk2
  ·exact absurd hs.kind hk2
  ·exact hf.file _ h hk2
 ·rw[hhas]
  rcases hmem hx' with rfl | rfl | ⟨h,_⟩
  ·exact hf.led (zg i f.xs) hx.2.1 e he
  ·rcases Vo he with rfl | he
   ·exact hi
   ·exact hf.led (zg s.dir f.xs) hd.2.1 e he
  ·exact hf.led _ h e he
 ·rw[hcnt]
  rcases hmem hx' with rfl | rfl | ⟨h,_,hzi⟩
  ·have:=hf.links (zg i f.xs) hx.2.1
   show (zg i f.xs).links+1=((JG (zg i f.xs).ino f.xs+if i=(zg i f.xs).ino then 1 else 0:Nat):Int)
   rw[if_pos hx.2.2.symm,this];rfl
  ·have:=hf.links (zg s.dir f.xs) hd.2.1
   show (zg s.dir f.xs).links=((JG (zg s.dir f.xs).ino f.xs+if i=(zg s.dir f.xs).ino then 1 else 0:Nat):Int)
   rw[if_neg (by rw[hd.2.2];exact fun e=>hne e.symm),this];rfl
  ·rw[if_neg fun e=>hzi e.symm]
   exact hf.links _ h
 ·show (zg 1 (qP _ _)).kind=2
  rw[QA]
  split
  ·rename_i h
   have h:(zg i f.xs).ino=1:=h
   rw[hx.2.2]at h
   subst h
   exact hf.base
  ·rw[Yp hs.has]
   split
   ·exact hs.kind
   ·exact hf.base
 ·rw[hcnt,hf.bare,if_neg fun e=>hk (by rw[e];exact hf.base)]
theorem zaU {f:FsV} (hf:FsI f) {s:qk} (hs:qo f s):s.ino≠1:=fun e =>
 vB hf.bare _ (zi hs.has).2.1 _ (jZ hs.there).2 e
theorem NA {f:FsV} (hf:FsI f) {s:qk} (hs:qo f s) (he:(zg s.ino f.xs).es = []):FsI (z7 f s):=by
 have hi:=qo.ino hf hs
 have hd:=zi hs.has
 have hx:=zi hi
 have hr:=zaU hf hs
 have hne:s.dir≠s.ino:=fun e=>by
  have:=(jZ hs.there).2
  rw[e,he]at this
  cases this
 have hR1:zZ (jr s.dir (zm s.name) f.xs):=qd hf.rises
 have hi1:zF s.ino (jr s.dir (zm s.name) f.xs)=true:=by rw[qi hs.has];exact hi
 have hg1:zg s.ino (jr s.dir (zm s.name) f.xs)=zg s.ino f.xs:=by rw[Yp hs.has,if_neg hne]
 have hc1:∀ m,JG m (jr s.dir (zm s.name) f.xs)+(if s.ino=m then 1 else 0)=JG m f.xs:=fun m=>by
  have hc:=Zx (m:=m) (F:=zm s.name) hf.rises hs.has
  have hw:JN m (zg s.dir f.xs)=JN m (qM (zg s.dir f.xs) (zm s.name (zg s.dir f.xs).es))+if s.ino=m then 1 else 0:=ZX (m:=m) (i:=s.ino) (x:=zg s.dir f.xs) (hf.es (zg s.dir f.xs) hd.2.1) hs.there
  omega
 have hlk:=hf.links (zg s.ino f.xs) hx.2.1
 rw[hx.2.2]at hlk
 have hci:=hc1 s.ino
 rw[if_pos rfl]at hci
 have hz:∀ m,JN m (zg s.ino f.xs)=0:=fun m=>by unfold JN;rw[he];rfl
 unfold z7
 by_cases hl:(zg s.ino f.xs).links-1=0
 ·rw[if_pos hl]
  have hc0:JG s.ino (jr s.dir (zm s.name) f.xs)=0:=by omega
  have hcnt:∀ m,JG m (qg s.ino (jr s.dir (zm s.name) f.xs))=JG m (jr s.dir (zm s.name) f.xs):=fun m=>by
   have:=zgh (m:=m) hR1 hi1
   rw[hg1,hz]at this
   omega
  have hmem:∀ {z:zw},z∈qg s.ino (jr s.dir (zm s.name) f.xs)->(z=qM (zg s.dir f.xs) (zm s.name (zg s.dir f.xs).es)∨(z∈f.xs/\z.ino≠s.dir))/\z.ino≠s.ino:=fun {z} hz=>by
   obtain ⟨hz,hzi⟩:=Ua.1 hz
   exact ⟨(jH hs.has).1 hz,hzi⟩
  have hin:∀ {z:zw},z∈qg s.ino (jr s.dir (zm s.name) f.xs)->z∈jr s.dir (zm s.name) f.xs:=fun {z} hz=>(Ua.1 hz).1
  refine ⟨kx hR1,fun x hx'=>?_,fun x hx'=>?_,fun x hx'=>?_,fun x hx' hk2=>?_,fun x hx' e hee=>?_,fun x hx'=>?_,?_,?_,?_⟩
  ·rcases hmem hx' with ⟨rfl | ⟨h,_⟩,_⟩
   ·exact hf.ino (zg s.dir f.xs) hd.2.1
   ·exact hf.ino _ h
  ·rcases hmem hx' with ⟨rfl | ⟨h,_⟩,_⟩
   ·exact hf.kind (zg s.dir f.xs) hd.2.1
   ·exact hf.kind _ h
  ·rcases hmem hx' with ⟨rfl | ⟨h,_⟩,_⟩
   ·exact JM (hf.es (zg s.dir f.xs) hd.2.1)
   ·exact hf.es _ h
  ·rcases hmem hx' with ⟨rfl | ⟨h,_⟩,_⟩
   ·exact absurd hs.kind hk2
   ·exact hf.file _ h hk2
  ·show zF e.ino (qg _ _)=true
   rw[Vv,qi hs.has]
   have h1:e.ino≠s.ino:=vB hc0 x (hin hx') e hee
   rw[decide_eq_false h1]
   show zF e.ino f.xs=true
   rcases hmem hx' with ⟨rfl | ⟨h,_⟩,_⟩
   ·exact hf.led (zg s.dir f.xs) hd.2.1 e (JX hee).1
   ·exact hf.led _ h e hee
  ·show x.links=((JG x.ino (qg _ _):Nat):Int)
   rw[hcnt]
   obtain ⟨h1,h2⟩:=hmem hx'
   have h3:=hc1 x.ino
   rw[if_neg fun e=>h2 e.symm]at h3
   have h4:x.links=(JG x.ino f.xs:Int):=by
    rcases h1 with rfl | ⟨h,_⟩
    ·exact hf.links (zg s.dir f.xs) hd.2.1
    ·exact hf.links _ h
   omega
  ·show zF 1 (qg _ _)=true
   rw[Vv,qi hs.has,hf.root,decide_eq_false fun e=>hr e.symm];rfl
  ·show (zg 1 (qg _ _)).kind=2
   rw[zdL,if_neg fun e=>hr e.symm,Yp hs.has]
   split
   ·exact hs.kind
   ·exact hf.base
  ·show JG 1 (qg _ _)=0
   rw[hcnt]
   have:=hc1 1
   have:=hf.bare
   omega
 ·rw[if_neg hl]
  have hmem:∀ {z:zw},z∈qP { zg s.ino f.xs with links:=(zg s.ino f.xs).links-1 } (jr s.dir (zm s.name) f.xs)->z = { zg s.ino f.xs with links:=(zg s.ino f.xs).links-1 }∨z=qM (zg s.dir f.xs) (zm s.name (zg s.dir f.xs).es)∨(z∈f.xs/\z.ino≠s.dir/\z.ino≠s.ino):=fun {z} hz=>by
   rcases jA.1 hz with rfl | ⟨hz,hzi⟩
   ·exact .inl rfl
   ·have hzi:z.ino≠(zg s.ino f.xs).ino:=hzi
    rw[hx.2.2]at hzi
    rcases (jH hs.has).1 hz with rfl | ⟨hz,hzd⟩
    ·exact .inr (.inl rfl)
    ·exact .inr (.inr ⟨hz,hzd,hzi⟩)
  have hhas:∀ m,zF m (qP { zg s.ino f.xs with links:=(zg s.ino f.xs).links-1 } (jr s.dir (zm s.name) f.xs))=zF m f.xs:=fun m=>by
   rw[jP,qi hs.has]
   show (decide ((zg s.ino f.xs).ino=m)||_)=_
   rw[hx.2.2]
   by_cases h:s.ino=m
   ·rw[←h,hi];simp
   ·simp[h]
  have hcnt:∀ m,JG m (qP { zg s.ino f.xs with links:=(zg s.ino f.xs).links-1 } (jr s.dir (zm s.name) f.xs))=JG m (jr s.dir (zm s.name) f.xs):=fun m=>by
   have h:=VW (m:=m) (x:={ zg s.ino f.xs with links:=(zg s.ino f.xs).links-1 }) hR1 hi1 hx.2.2
   rw[hg1]at h
   have e:JN m { zg s.ino f.xs with links:=(zg s.ino f.xs).links-1 }=JN m (zg s.ino f.xs):=rfl
   omega
  refine ⟨qd hR1,fun x hx'=>?_,fun x hx'=>?_,fun x hx'=>?_,fun x hx' hk2=>?_,fun x hx' e hee=>?_,fun x hx'=>?_,by rw[hhas];exact hf.root,?_,?_⟩
  ·rcases hmem hx' with rfl | rfl | ⟨h,_⟩
   ·exact hf.ino (zg s.ino f.xs) hx.2.1
   ·exact hf.ino (zg s.dir f.xs) hd.2.1
   ·exact hf.ino _ h
  ·rcases hmem hx' with rfl | rfl | ⟨h,_⟩
   ·exact hf.kind (zg s.ino f.xs) hx.2.1
   ·exact hf.kind (zg s.dir f.xs) hd.2.1
   ·exact hf.kind _ h
  ·rcases hmem hx' with rfl | rfl | ⟨h,_⟩
   ·exact hf.es (zg s.ino f.xs) hx.2.1
   ·exact JM (hf.es (zg s.dir f.xs) hd.2.1)
   ·exact hf.es _ h
  ·rcases hmem hx' with rfl | rfl | ⟨h,_⟩
   ·exact he
   ·exact absurd hs.kind hk2
   ·exact hf.file _ h hk2
  ·rw[hhas]
   rcases hmem hx' with rfl | rfl | ⟨h,_⟩
   ·exact hf.led (zg s.ino f.xs) hx.2.1 e hee
   ·exact hf.led (zg s.dir f.xs) hd.2.1 e (JX hee).1
   ·exact hf.led _ h e hee
  ·rw[hcnt]
   rcases hmem hx' with rfl | rfl | ⟨h,_,hzi⟩
   ·show (zg s.ino f.xs).links-1=((JG (zg s.ino f.xs).ino (jr s.dir (zm s.name) f.xs):Nat):Int)
    rw[hx.2.2];omega
   ·have h3:=hc1 (zg s.dir f.xs).ino
    have h4:=hf.links (zg s.dir f.xs) hd.2.1
    rw[if_neg (by rw[hd.2.2];exact fun e=>hne e.symm)]at h3
    show (zg s.dir f.xs).links=((JG (zg s.dir f.xs).ino (jr s.dir (zm s.name) f.xs):Nat):Int)
    omega
   ·have h3:=hc1 x.ino
    rw[if_neg fun e=>hzi e.symm]at h3
    have h4:=hf.links _ h
    omega
  ·show (zg 1 (qP _ _)).kind=2
   rw[QA,if_neg (show ¬(zg s.ino f.xs).ino=1 by rw[hx.2.2];exact hr),Yp hs.has]
   split
   ·exact hs.kind
   ·exact hf.base
  ·rw[hcnt]
   have:=hc1 1
   have:=hf.bare
   omega
end
section
theorem yD {f:FsV} (hf:FsI f) {ys:List zw} (hR:zZ ys) (hall:∀ z∈ys,∃ y∈f.xs,z.ino=y.ino/\z.kind=y.kind/\z.links=y.links/\Ju z.es/\(z.kind≠2->z.es = [])/\∀ e∈z.es,zF e.ino f.xs=true)
  (hhas:∀ m,zF m ys=zF m f.xs) (hcnt:∀ m,JG m ys=JG m f.xs):FsI { f with xs:=ys }:=by
 refine ⟨hR,fun x hx=>?_,fun x hx=>?_,fun x hx=>?_,fun x hx hk=>?_,fun x hx e he=>?_,fun x hx=>?_,by rw[hhas];exact hf.root,?_,by rw[hcnt];exact hf.bare⟩
 ·obtain ⟨y,hy,e1,_⟩:=hall x hx;rw[e1];exact hf.ino y hy
 ·obtain ⟨y,hy,_,e2,_⟩:=hall x hx;rw[e2];exact hf.kind y hy
 ·obtain ⟨y,hy,_,_,_,e4,_⟩:=hall x hx;exact e4
 ·obtain ⟨y,hy,_,_,_,_,e5,_⟩:=hall x hx;exact e5 hk
 ·obtain ⟨y,hy,_,_,_,_,_,e6⟩:=hall x hx;rw[hhas];exact e6 e he
 ·obtain ⟨y,hy,e1,_,e3,_⟩:=hall x hx;rw[hcnt,e3,e1];exact hf.links y hy
 ·have h1:zF 1 ys=true:=by rw[hhas];exact hf.root
  obtain ⟨y,hy,e1,e2,_⟩:=hall _ (zi h1).2.1
  rw[(zi h1).2.2]at e1
  have e7:=(zk2 hf.rises).1 hy
  rw[←e1,(zi hf.root).1]at e7
  simp only[Option.some.injEq]at e7
  show (zg 1 ys).kind=2
  rw[e2,←e7]
  exact hf.base
theorem zjc {f:FsV} (hf:FsI f) {a b:qk} (ha:qo f a) (hb:ZT f b):FsI (UJ f a b):=by
 have hda:=zi ha.has
 have hdb:=zi hb.has
 have hai:=qo.ino hf ha
 obtain ⟨g1,hg1⟩:∃ g1,jr a.dir (zm a.name) f.xs=g1:=⟨_,rfl⟩
 obtain ⟨g2,hg2⟩:∃ g2,jr b.dir (qe b.name a.ino) g1=g2:=⟨_,rfl⟩
 have hR1:zZ g1:=by rw[←hg1];exact qd hf.rises
 have hR2:zZ g2:=by rw[←hg2];exact qd hR1
 have hh1:∀ m,zF m g1=zF m f.xs:=fun m=>by rw[←hg1];exact qi ha.has
 have hb1:zF b.dir g1=true:=by rw[hh1];exact hb.has
 have hh2:∀ m,zF m g2=zF m f.xs:=fun m=>by rw[←hg2,qi hb1];exact hh1 m
 have hgb:zg b.dir g1=if a.dir=b.dir then qM (zg a.dir f.xs) (zm a.name (zg a.dir f.xs).es) else zg b.dir f.xs:=by rw[←hg1,Yp ha.has]
 have hmem1:∀ {z:zw},z∈g1->z=qM (zg a.dir f.xs) (zm a.name (zg a.dir f.xs).es)∨(z∈f.xs/\z.ino≠a.dir):=fun {z} hz=>by rw[←hg1]at hz;exact (jH ha.has).1 hz
 have hmem2:∀ {z:zw},z∈g2->z=qM (zg b.dir g1) (qe b.name a.ino (zg b.dir g1).es)∨(z∈g1/\z.ino≠b.dir):=fun {z} hz=>by rw[←hg2]at hz;exact (jH hb1).1 hz
 have hal1:∀ z∈g1,∃ y∈f.xs,z.ino=y.ino/\z.kind=y.kind/\z.links=y.links/\Ju z.es/\(z.kind≠2->z.es = [])/\∀ e∈z.es,zF e.ino f.xs=true:=fun z hz=>by
  rcases hmem1 hz with rfl | ⟨h,_⟩
  ·exact ⟨_,hda.2.1,rfl,rfl,rfl,JM (hf.es _ hda.2.1),fun hk=>absurd ha.kind hk,fun e he=>hf.led _ hda.2.1 e (JX he).1⟩
  ·exact ⟨_,h,rfl,rfl,rfl,hf.es _ h,hf.file _ h,hf.led _ h⟩
 have hal2:∀ z∈g2,∃ y∈f.xs,z.ino=y.ino/\z.kind=y.kind/\z.links=y.links/\Ju z.es/\(z.kind≠2->z.es = [])/\∀ e∈z.es,zF e.ino f.xs=true:=fun z hz=>by
  rcases hmem2 hz with rfl | ⟨h,_⟩
  ·obtain ⟨y,hy,e1,e2,e3,e4,e5,e6⟩:=hal1 _ (zi hb1).2.1
   refine ⟨y,hy,e1,e2,e3,Q7 e4,fun hk=>?_,fun e he=>?_⟩
   ·have hk':(zg b.dir g1).kind≠2:=hk
    have:(zg b.dir g1).kind=2:=by
     rw[hgb]
     split
     ·exact ha.kind
     ·exact hb.kind
    exact absurd this hk'
   ·rcases Vo he with rfl | he
    ·exact hai
    ·exact e6 e he
  ·exact hal1 z h
 have hfree:Q4 b.name (zg b.dir g1).es=false:=by
  rw[hgb]
  split
  ·rename_i hab
   show Q4 b.name (zm a.name (zg a.dir f.xs).es)=false
   rw[Bool.eq_false_iff]
   intro h
   have h1:=Qt h
   have h2:=(JX (jZ h1).2).1
   have h3:Q4 b.name (zg a.dir f.xs).es=true:=by
    unfold Q4 JR
    exact List.any_eq_true.2 ⟨_,h2,by simp⟩
   have:=hb.free
   rw[←hab,h3]at this
   cases this
  ·exact hb.free
 have hc1:∀ m,JG m g1+(if a.ino=m then 1 else 0)=JG m f.xs:=fun m=>by
  have hc:=Zx (m:=m) (F:=zm a.name) hf.rises ha.has
  have hw:JN m (zg a.dir f.xs)=JN m (qM (zg a.dir f.xs) (zm a.name (zg a.dir f.xs).es))+if a.ino=m then 1 else 0:=ZX (m:=m) (i:=a.ino) (x:=zg a.dir f.xs) (hf.es _ hda.2.1) ha.there
  rw[hg1]at hc
  omega
 have hc2:∀ m,JG m g2=JG m f.xs:=fun m=>by
  have hc:=Zx (m:=m) (F:=qe b.name a.ino) hR1 hb1
  obtain ⟨_,_,_,_,_,e4,_⟩:=hal1 _ (zi hb1).2.1
  have hw:JN m (qM (zg b.dir g1) (qe b.name a.ino (zg b.dir g1).es))=JN m (zg b.dir g1)+if a.ino=m then 1 else 0:=Qz (m:=m) (i:=a.ino) (x:=zg b.dir g1) e4 hfree
  have:=hc1 m
  rw[hg2]at hc
  omega
 have key:FsI { f with xs:=g2 }:=yD hf hR2 hal2 hh2 hc2
 unfold UJ
 rw[hg1,hg2]
 show FsI (if (zg a.ino g2).kind=2 then _ else _)
 split
 ·have hia:zF a.ino g2=true:=by rw[hh2];exact hai
  have hx:=zi hia
  refine yD hf (qd hR2) (fun z hz=>?_) (fun m=>?_) (fun m=>?_)
  ·rcases jA.1 hz with rfl | ⟨hz,_⟩
   ·exact hal2 (zg a.ino g2) hx.2.1
   ·exact hal2 z hz
  ·rw[jP]
   show (decide ((zg a.ino g2).ino=m)||_)=_
   rw[hx.2.2,hh2]
   by_cases h:a.ino=m
   ·rw[←h,hai];simp
   ·simp[h]
  ·have h:=VW (m:=m) (x:={ zg a.ino g2 with parent:=b.dir }) hR2 hia hx.2.2
   have e:JN m { zg a.ino g2 with parent:=b.dir }=JN m (zg a.ino g2):=rfl
   have:=hc2 m
   omega
 ·exact key
theorem zis {f:FsV} (hf:FsI f):∀ (ns:List (List UInt8)) (s:qk),(s.ino≠0->zF s.ino f.xs=true)->(atW f.xs ns s).2=0->ns≠[] ->
  zF (atW f.xs ns s).1.dir f.xs=true/\(zg (atW f.xs ns s).1.dir f.xs).kind=2/\(atW f.xs ns s).1.ino=qr (atW f.xs ns s).1.name (zg (atW f.xs ns s).1.dir f.xs).es/\(atW f.xs ns s).1.name∈ns
 | [],s,_,_,h=>absurd rfl h
 | n :: r,s,hs,h0,_=>by
  unfold atW at h0 ⊢
  by_cases h1:s.ino=0
  ·rw[if_pos h1]at h0;cases h0
  rw[if_neg h1]at h0 ⊢
  by_cases h2:(zg s.ino f.xs).kind≠2
  ·rw[if_pos h2]at h0;cases h0
  rw[if_neg h2]at h0 ⊢
  have h2:(zg s.ino f.xs).kind=2:=Classical.not_not.1 h2
  have hg:=zi (hs h1)
  have hnx:qr n (zg s.ino f.xs).es≠0->zF (qr n (zg s.ino f.xs).es) f.xs=true:=fun hne=>by
   have hh:Q4 n (zg s.ino f.xs).es=true:=by
    unfold Q4
    rw[jM]
    cases hq:Ja zX.name n (zg s.ino f.xs).es with
    | some e=>rfl
    | none=>unfold qr at hne;rw[hq]at hne;exact absurd rfl hne
   exact hf.led _ hg.2.1 _ (jZ (Qt hh)).2
  cases r with
  | nil =>
   unfold atW
   rw[hg.2.2]
   exact ⟨hs h1,h2,rfl,List.mem_cons_self⟩
  | cons m r =>
   obtain ⟨i1,i2,i3,i4⟩:=zis hf (m :: r) ⟨(zg s.ino f.xs).ino,n,qr n (zg s.ino f.xs).es⟩ hnx h0 (by simp)
   exact ⟨i1,i2,i3,List.mem_cons_of_mem _ i4⟩
theorem zdN {f:FsV} (hf:FsI f):∀ (ns:List (List UInt8)) (s:qk),(s.ino≠0->zF s.ino f.xs=true)->(atW f.xs ns s).1.ino≠0->zF (atW f.xs ns s).1.ino f.xs=true
 | [],s,hs,h=>hs h
 | n :: r,s,hs,h=>by
  unfold atW at h ⊢
  by_cases h1:s.ino=0
  ·rw[if_pos h1]at h;exact absurd rfl h
  rw[if_neg h1]at h ⊢
  by_cases h2:(zg s.ino f.xs).kind≠2
  ·rw[if_pos h2]at h;exact absurd rfl h
  rw[if_neg h2]at h ⊢
  have hg:=zi (hs h1)
  refine zdN hf r _ (fun hne=>?_) h
  have hne:qr n (zg s.ino f.xs).es≠0:=hne
  have hh:Q4 n (zg s.ino f.xs).es=true:=by
   unfold Q4
   rw[jM]
   cases hq:Ja zX.name n (zg s.ino f.xs).es with
   | some e=>rfl
   | none=>unfold qr at hne;rw[hq]at hne;exact absurd rfl hne
  exact hf.led _ hg.2.1 _ (jZ (Qt hh)).2
end
section
structure Zh (w:jt):Prop where
 fs:FsI w.fs
 kept:qD j3 zT.slot w.kept
 pool:zZ w.pool
 apart:∀ x∈w.pool,zF x.ino w.fs.xs=false/\x.ino<w.fs.next
theorem zbo {f:FsV} (hf:FsI f) {n:Int} (h:zF n f.xs=true):n≠0:=fun e=>by
 have:=(hf.ino _ (zi h).2.1).1
 rw[(zi h).2.2]at this
 omega
theorem yf {f:FsV} (hf:FsI f) {d:Int} (hd:zF d f.xs=true) {n:List UInt8} (h:Q4 n (zg d f.xs).es=true):zF (qr n (zg d f.xs).es) f.xs=true:=
 hf.led _ (zi hd).2.1 _ (jZ (Qt h)).2
theorem zj4 {f:FsV} (hf:FsI f) {p:List UInt8} (hp:qz p=true) (h:(atV f p).2=0) :
  zF (atV f p).1.dir f.xs=true/\(zg (atV f p).1.dir f.xs).kind=2/\(atV f p).1.ino=qr (atV f p).1.name (zg (atV f p).1.dir f.xs).es/\(atV f p).1.name∈zE p:=by
 unfold qz at hp
 simp only[Bool.and_eq_true,Bool.not_eq_true',decide_eq_false_iff_not]at hp
 unfold atV at h ⊢
 rw[if_pos hp.1]at h ⊢
 exact zis hf (zE p) ⟨0,[],1⟩ (fun _=>hf.root) h hp.2
theorem Jk {f:FsV} (hf:FsI f) {p:List UInt8} (hp:qz p=true) (h:(isV f p true).2.2=0):qo f (isV f p true).1/\(isV f p true).2.1=zg (isV f p true).1.ino f.xs:=by
 unfold isV at h ⊢
 simp only at h ⊢
 by_cases h0:(atV f p).2≠0
 ·rw[if_pos h0]at h;exact absurd h h0
 rw[if_neg h0]at h
 have h0:(atV f p).2=0:=Classical.not_not.1 h0
 obtain ⟨a1,a2,a3,_⟩:=zj4 hf hp h0
 refine ⟨⟨a1,a2,?_⟩,trivial⟩
 have hh:zF (atV f p).1.ino f.xs=true:=by
  cases hq:zF (atV f p).1.ino f.xs with
  | true=>rfl
  | false=>rw[hq]at h;simp at h
 have he:Q4 (atV f p).1.name (zg (atV f p).1.dir f.xs).es=true:=by
  unfold Q4
  rw[jM]
  cases hq:Ja zX.name (atV f p).1.name (zg (atV f p).1.dir f.xs).es with
  | some e=>rfl
  | none =>
   unfold qr at a3
   rw[hq]at a3
   exact absurd a3 (zbo hf hh)
 rw[Qt he,←a3]
theorem YN {f:FsV} (hf:FsI f) {p:List UInt8} (hp:qz p=true) (h:(isV f p false).2.2=0):ZT f (isV f p false).1:=by
 unfold isV at h ⊢
 simp only at h ⊢
 by_cases h0:(atV f p).2≠0
 ·rw[if_pos h0]at h;exact absurd h h0
 rw[if_neg h0]at h
 have h0:(atV f p).2=0:=Classical.not_not.1 h0
 obtain ⟨a1,a2,a3,_⟩:=zj4 hf hp h0
 refine ⟨a1,a2,?_⟩
 have hh:zF (atV f p).1.ino f.xs=false:=by
  cases hq:zF (atV f p).1.ino f.xs with
  | false=>rfl
  | true=>rw[hq]at h;simp at h
 rw[Bool.eq_false_iff]
 intro he
 have:=yf hf a1 he
 rw[←a3,hh]at this
 cases this
theorem ZD {o:OpV} (h:zba o=true):qz o.a=true/\(zol o.kind=true->qz o.b=true)/\1<=o.kind/\o.kind<=10:=by
 unfold zba at h
 simp only[Bool.and_eq_true,decide_eq_true_eq]at h
 obtain ⟨⟨⟨⟨⟨⟨h1,h2⟩,h3⟩,h4⟩,h5⟩,h6⟩,h7⟩:=h
 exact ⟨h3,fun hb=>by rw[if_pos hb]at h5;exact h5,h1,h2⟩
theorem zkm {w:jt} (hw:Zh w) {g:FsV} (hg:FsI g) (hn:w.fs.next<=g.next) (hh:∀ x∈w.pool,zF x.ino g.xs=false):Zh { w with fs:=g }:=
 ⟨hg,hw.kept,hw.pool,fun x hx=>⟨hh x hx,by have:=(hw.apart x hx).2;show x.ino<g.next;omega⟩⟩
theorem U7 (f:FsV) (s:qk) (k:Int) (t:List UInt8):(Gj f s k t).1=f∨(Gj f s k t).1=zin f s k t:=by
 unfold Gj
 by_cases h1:may s.name=true
 ·rw[if_pos h1]
  by_cases h2:Xx f 1 (if k=1 then (t.length:Int) else 0)=true
  ·rw[if_pos h2];exact .inr rfl
  ·rw[if_neg h2];exact .inl rfl
 ·rw[if_neg h1];exact .inl rfl
theorem yh {w:jt} (hw:Zh w) {p:List UInt8} (hp:qz p=true) {k:Int} (hk:k=1∨k=2∨k=3) (t:List UInt8):Zh (YI w p k t).1:=by
 unfold YI
 by_cases h:(isV w.fs p false).2.2≠0
 ·rw[if_pos h];exact hw
 rw[if_neg h]
 have hs:=YN hw.fs hp (Classical.not_not.1 h)
 refine zkm hw (zlB hw.fs hs k hk t) ?_ ?_
 ·rcases U7 w.fs (isV w.fs p false).1 k t with e | e
  ·rw[e];exact Int.le_refl _
  ·rw[e];show w.fs.next<=w.fs.next+1;omega
 ·intro x hx
  obtain ⟨a1,a2⟩:=hw.apart x hx
  rcases U7 w.fs (isV w.fs p false).1 k t with e | e
  ·rw[e];exact a1
  ·rw[e]
   show zF x.ino (qP _ _)=false
   rw[jP,qi hs.has,a1]
   show (decide (w.fs.next=x.ino)||false)=false
   rw[decide_eq_false (by omega)];rfl
theorem Q8 {f:FsV} (hf:FsI f) {p:List UInt8} (hp:qz p=true) (h:(qc f p).2=0):zF (qc f p).1.ino f.xs=true/\(qc f p).1.kind=1/\(qc f p).1=zg (qc f p).1.ino f.xs:=by
 unfold qc at h ⊢
 simp only at h ⊢
 by_cases h0:(isV f p true).2.2≠0
 ·rw[if_pos h0]at h;exact absurd h h0
 rw[if_neg h0]at h
 obtain ⟨h1,h2⟩:=Jk hf hp (Classical.not_not.1 h0)
 have hi:=qo.ino hf h1
 have hg:=zi hi
 rw[h2]at h ⊢
 rw[hg.2.2]
 refine ⟨hi,?_,rfl⟩
 have hk:=hf.kind _ hg.2.1
 by_cases h3:(zg (isV f p true).1.ino f.xs).kind=2
 ·rw[if_pos h3]at h;cases h
 rw[if_neg h3]at h
 by_cases h4:(zg (isV f p true).1.ino f.xs).kind=3
 ·rw[if_pos h4]at h;cases h
 omega
theorem zdq {k:zT} {ks:List zT} (h:qD j3 zT.slot ks) (hn:MR k.slot ks=false):qD j3 zT.slot (qw k ks):=
 Zu h fun y hy e=>by
  unfold MR JR at hn
  rw[List.any_eq_false]at hn
  exact hn y hy (by simpa using e)
theorem U9 {f:FsV} {s:qk} (h:zF s.dir f.xs=true) (hi:zF s.ino f.xs=true) (m:Int):zF m (z7 f s).xs=if (zg s.ino f.xs).links-1=0 then (!decide (m=s.ino)&&zF m f.xs) else zF m f.xs:=by
 unfold z7
 split
 ·show zF m (qg _ _)=_
  rw[Vv,qi h]
 ·show zF m (qP _ _)=_
  rw[jP,qi h]
  show (decide ((zg s.ino f.xs).ino=m)||_)=_
  rw[(zi hi).2.2]
  by_cases e:s.ino=m
  ·rw[←e,hi];simp
  ·simp[e]
theorem yc (f:FsV) (s:qk):(z7 f s).next=f.next:=by unfold z7;split<;>rfl
theorem zku {w:jt} (hw:Zh w) {n:Int} {s:qk} (hs:qo w.fs s) (he:(zg s.ino w.fs.xs).es = []):Zh (X3 w n s).1:=by
 unfold X3
 cases hn:MR n w.kept with
 | true=>rw[if_pos rfl];exact hw
 | false =>
  rw[if_neg (by simp)]
  have hi:=qo.ino hw.fs hs
  have hg:=zi hi
  have hf:=NA hw.fs hs he
  refine ⟨hf,zdq hw.kept hn,?_,fun x hx=>?_⟩
  ·show zZ (if _ then _ else _)
   split
   ·exact qd hw.pool
   ·exact hw.pool
  ·show zF x.ino (z7 w.fs s).xs=false/\x.ino<(z7 w.fs s).next
   rw[U9 hs.has hi,yc]
   have hx:x∈(if (zg s.ino w.fs.xs).links=1 then qP { zg s.ino w.fs.xs with links:=0,parent:=0 } w.pool else w.pool):=hx
   by_cases h1:(zg s.ino w.fs.xs).links=1
   ·rw[if_pos h1]at hx
    rw[if_pos (by omega)]
    rcases jA.1 hx with rfl | ⟨hx,_⟩
    ·refine ⟨?_,?_⟩
     ·show (!decide ((zg s.ino w.fs.xs).ino=s.ino)&&_)=false
      rw[hg.2.2];simp
     ·exact (hw.fs.ino _ hg.2.1).2
    ·obtain ⟨a1,a2⟩:=hw.apart x hx
     rw[a1,Bool.and_false]
     exact ⟨rfl,a2⟩
   ·rw[if_neg h1]at hx
    rw[if_neg (by omega)]
    exact hw.apart x hx
theorem zoM {w:jt} (hw:Zh w) (o:OpV) (hk:o.kind<=7):Zh (doV w o).1:=by
 unfold doV
 cases hm:zba o with
 | false=>exact hw
 | true =>
  obtain ⟨p1,p2,k1,_⟩:=ZD hm
  rw[if_neg (by simp)]
  by_cases h1:o.kind=1
  ·rw[if_pos h1];exact yh hw p1 (.inr (.inl rfl)) []
  rw[if_neg h1]
  by_cases h2:o.kind=2
  ·rw[if_pos h2]
   unfold Yo
   split
   ·exact hw
   ·exact yh hw (p2 (by rw[h2];rfl)) (.inl rfl) _
  rw[if_neg h2]
  by_cases h3:o.kind=3
  ·rw[if_pos h3]
   have pb:=p2 (by rw[h3];rfl)
   unfold qE
   split
   ·exact hw
   ·split
    ·exact hw
    ·rename_i hfb
     have hfb:=Q8 hw.fs pb (Classical.not_not.1 hfb)
     split
     ·exact hw
     ·split
      ·exact hw
      ·rename_i hkd
       split
       ·exact hw
       ·rename_i hda
        have hkd:=Classical.not_not.1 hkd
        have hda:=Classical.not_not.1 hda
        unfold qC at hkd ⊢
        cases hn:MR o.slot w.kept with
        | true=>rw[hn]at hkd;simp at hkd
        | false =>
         rw[if_neg (by simp)]
         unfold QO at hda ⊢
         by_cases hr:Xx w.fs 0 (((qc w.fs o.a).1.data.length:Int)-(zg (qc w.fs o.b).1.ino w.fs.xs).data.length)=true
         ·rw[if_pos hr]
          have hfi:=zj8 hw.fs hfb.1 (qc w.fs o.a).1.data
          refine ⟨hfi,zdq hw.kept hn,hw.pool,fun x hx=>⟨?_,(hw.apart x hx).2⟩⟩
          show zF x.ino (qP _ _)=false
          rw[jP,(hw.apart x hx).1]
          show (decide ((zg (qc w.fs o.b).1.ino w.fs.xs).ino=x.ino)||false)=false
          rw[(zi hfb.1).2.2,Bool.or_false,decide_eq_false_iff_not]
          intro e
          have:=(hw.apart x hx).1
          rw[←e,hfb.1]at this
          cases this
         ·rw[if_neg hr]at hda;cases hda
  rw[if_neg h3]
  by_cases h4:o.kind=4
  ·rw[if_pos h4];exact yh hw p1 (.inr (.inr rfl)) _
  rw[if_neg h4]
  by_cases h5:o.kind=5
  ·rw[if_pos h5]
   have pb:=p2 (by rw[h5];rfl)
   unfold j7
   simp only
   split
   ·exact hw
   ·rename_i ha
    obtain ⟨t1,t2⟩:=Jk hw.fs p1 (Classical.not_not.1 ha)
    split
    ·exact hw
    ·rename_i hkd
     split
     ·exact hw
     ·rename_i hb
      have hfree:=YN hw.fs pb (Classical.not_not.1 hb)
      have hi:=qo.ino hw.fs t1
      rw[t2]at hkd
      have e:(isV w.fs o.a true).2.1.ino=(isV w.fs o.a true).1.ino:=by rw[t2,(zi hi).2.2]
      rw[e]
      have hfi:=zjC hw.fs hfree hi hkd
      refine zkm hw hfi (Int.le_refl _) fun x hx=>?_
      show zF x.ino (qP _ _)=false
      rw[jP,qi hfree.has,(hw.apart x hx).1]
      show (decide ((zg (isV w.fs o.a true).1.ino w.fs.xs).ino=x.ino)||false)=false
      rw[(zi hi).2.2,Bool.or_false,decide_eq_false_iff_not]
      intro e2
      have:=(hw.apart x hx).1
      rw[←e2,hi]at this
      cases this
  rw[if_neg h5]
  by_cases h6:o.kind=6
  ·rw[if_pos h6]
   have pb:=p2 (by rw[h6];rfl)
   unfold Xe
   split
   ·exact hw
   ·rename_i ha
    split
    ·exact hw
    ·rename_i hb
     obtain ⟨t1,t2⟩:=Jk hw.fs p1 (Classical.not_not.1 ha)
     have hfree:=YN hw.fs pb (Classical.not_not.1 hb)
     have hmv:=zjc hw.fs t1 hfree
     refine zkm hw hmv ?_ fun x hx=>?_
     ·unfold UJ;simp only;split<;>exact Int.le_refl _
     ·have hi:=qo.ino hw.fs t1
      have hb1:zF (isV w.fs o.b false).1.dir (jr (isV w.fs o.a true).1.dir (zm (isV w.fs o.a true).1.name) w.fs.xs)=true:=by rw[qi t1.has];exact hfree.has
      have h2:∀ m,zF m (jr (isV w.fs o.b false).1.dir (qe (isV w.fs o.b false).1.name (isV w.fs o.a true).1.ino) (jr (isV w.fs o.a true).1.dir (zm (isV w.fs o.a true).1.name) w.fs.xs))=zF m w.fs.xs:=fun m=>by rw[qi hb1,qi t1.has]
      unfold UJ
      simp only
      split
      ·show zF x.ino (qP _ _)=false
       have hi2:=h2 (isV w.fs o.a true).1.ino
       rw[hi]at hi2
       rw[jP,h2,(hw.apart x hx).1]
       show (decide ((zg (isV w.fs o.a true).1.ino _).ino=x.ino)||false)=false
       rw[(zi hi2).2.2,Bool.or_false,decide_eq_false_iff_not]
       intro e2
       have:=(hw.apart x hx).1
       rw[←e2,hi]at this
       cases this
      ·show zF x.ino (jr _ _ _)=false
       rw[h2];exact (hw.apart x hx).1
  rw[if_neg h6]
  unfold jo
  simp only
  split
  ·exact hw
  ·rename_i ha
   split
   ·exact hw
   ·rename_i hes
    obtain ⟨t1,t2⟩:=Jk hw.fs p1 (Classical.not_not.1 ha)
    rw[t2]at hes
    exact zku hw t1 (Classical.not_not.1 hes)
end
section
def UC (N:Nat) (x:zw):Prop:=x.es.length<=N/\x.data.length<=5000/\∀ e∈x.es,e.name.length<=300
structure zaO (N:Nat) (w:jt):Prop where
 len:w.fs.xs.length<=N
 node:∀ x∈w.fs.xs,UC N x
 klen:w.kept.length<=N
 kdata:∀ k∈w.kept,k.data.length<=5000
 plen:w.pool.length<=N
 pnode:∀ x∈w.pool,UC N x
 next:w.fs.next<=1099511627776+N
 room:w.fs.maxI<=1073741824/\w.fs.maxB<=1073741824/\-1073741824<=w.fs.maxI/\-1073741824<=w.fs.maxB
theorem UC.up {N:Nat} {x:zw} (h:UC N x):UC (N+1) x:=⟨Nat.le_succ_of_le h.1,h.2⟩
theorem zaO.up {N:Nat} {w:jt} (h:zaO N w):zaO (N+1) w:=
 ⟨Nat.le_succ_of_le h.len,fun x hx=>(h.node x hx).up,Nat.le_succ_of_le h.klen,h.kdata,Nat.le_succ_of_le h.plen,fun x hx=>(h.pnode x hx).up,by have:=h.next;omega,h.room⟩
theorem Hz {n:List UInt8} (h:may n=true):n.length<=255:=by
 unfold may at h
 simp only[Bool.and_eq_true,decide_eq_true_eq]at h
 exact h.1.1.1.2
theorem zcJ (n:List UInt8) (i:Int) (es:List zX):(qe n i es).length<=es.length+1:=by
 unfold qe
 rw[Vn]
 have:=Uq (key:=zX.name) n es
 omega
theorem VJ {N:Nat} {x:zw} (h:UC N x) {n:List UInt8} (hn:n.length<=300) (i:Int):UC (N+1) (qM x (qe n i x.es)):=by
 refine ⟨?_,h.2.1,fun e he=>?_⟩
 ·have:=zcJ n i x.es
  have:=h.1
  show (qe n i x.es).length<=N+1
  omega
 ·rcases Vo he with rfl | he
  ·exact hn
  ·exact h.2.2 e he
theorem ZS {N:Nat} {x:zw} (h:UC N x) (n:List UInt8):UC N (qM x (zm n x.es)):=by
 refine ⟨?_,h.2.1,fun e he=>h.2.2 e (JX he).1⟩
 have:=Uq (key:=zX.name) n x.es
 have:=h.1
 show (YZ zX.name n x.es).length<=N
 omega
theorem jE {N:Nat} {xs:List zw} (h:∀ x∈xs,UC N x) {n:Int} (hh:zF n xs=true):UC N (zg n xs):=h _ (zi hh).2.1
theorem Zc {N:Nat} {xs:List zw} {x:zw} (h:∀ x∈xs,UC N x) (hx:UC N x):∀ z∈qP x xs,UC N z:=fun z hz=>by
 rcases jA.1 hz with rfl | ⟨hz,_⟩
 ·exact hx
 ·exact h z hz
theorem XI {x:zw} {xs:List zw} (hR:zZ xs) (hh:zF x.ino xs=true):(qP x xs).length=xs.length:=by rw[←MT hR hh];simp
theorem JZ {xs:List zw} {n:Int} {F:List zX->List zX} (hR:zZ xs) (hh:zF n xs=true):(jr n F xs).length=xs.length:=by
 unfold jr
 refine XI hR ?_
 show zF (zg n xs).ino xs=true
 rw[(zi hh).2.2];exact hh
theorem zb1 {f:FsV} (hf:FsI f) {p:List UInt8} (hp:qz p=true) (h:(atV f p).2=0):(atV f p).1.name.length<=300:=by
 have h1:=(zj4 hf hp h).2.2.2
 unfold qz XA at hp
 simp only[Bool.and_eq_true]at hp
 have:=Hz (List.all_eq_true.1 hp.1.2 _ h1)
 omega
theorem VU {f:FsV} {p:List UInt8} {b:Bool} (h:(isV f p b).2.2=0):(atV f p).2=0:=by
 unfold isV at h
 simp only at h
 by_cases h0:(atV f p).2≠0
 ·rw[if_pos h0]at h;exact h
 ·exact Classical.not_not.1 h0
theorem zkb {N:Nat} {w:jt} (hw:Zh w) (hb:zaO N w) {p:List UInt8} (hp:qz p=true) {k:Int} {t:List UInt8} (ht:t.length<=5000):zaO (N+1) (YI w p k t).1:=by
 unfold YI
 by_cases h:(isV w.fs p false).2.2≠0
 ·rw[if_pos h];exact hb.up
 rw[if_neg h]
 have h:=Classical.not_not.1 h
 have hs:=YN hw.fs hp h
 unfold Gj
 by_cases h1:may (isV w.fs p false).1.name=true
 ·rw[if_pos h1]
  by_cases h2:Xx w.fs 1 (if k=1 then (t.length:Int) else 0)=true
  ·rw[if_pos h2]
   have hl:=Hz h1
   refine ⟨?_,?_,by have:=hb.klen;show w.kept.length<=N+1;omega,hb.kdata,by have:=hb.plen;show w.pool.length<=N+1;omega,fun x hx=>(hb.pnode x hx).up,?_,hb.room⟩
   ·show (qP _ _).length<=N+1
    refine Nat.le_trans zcU ?_
    rw[JZ hw.fs.rises hs.has]
    have:=hb.len;omega
   ·refine Zc (fun z hz=>?_) ⟨Nat.zero_le _,ht,fun e he=>by cases he⟩
    rcases (jH hs.has).1 hz with rfl | ⟨hz,_⟩
    ·exact VJ (jE hb.node hs.has) (by omega) _
    ·exact (hb.node z hz).up
   ·show w.fs.next+1<=_
    have:=hb.next;omega
  ·rw[if_neg h2];exact hb.up
 ·rw[if_neg h1];exact hb.up
theorem fsB {N:Nat} {w:jt} (hb:zaO N w) {g:FsV} (h1:g.xs.length<=N+1) (h2:∀ x∈g.xs,UC (N+1) x) (h3:g.next=w.fs.next) (h4:g.maxI=w.fs.maxI/\g.maxB=w.fs.maxB):zaO (N+1) { w with fs:=g }:=
 ⟨h1,h2,Nat.le_succ_of_le hb.klen,hb.kdata,Nat.le_succ_of_le hb.plen,fun x hx=>(hb.pnode x hx).up,by show g.next<=_;rw[h3];have:=hb.next;omega,by show g.maxI<=_/\g.maxB<=_/\_<=g.maxI/\_<=g.maxB;rw[h4.1,h4.2];exact hb.room⟩
theorem N5 (k:zT) (ks:List zT):(qw k ks).length=ks.length+1:=Vn k ks
theorem zkG {N:Nat} {f:FsV} (hf:FsI f) (h1:f.xs.length<=N) (h2:∀ x∈f.xs,UC N x) {s:qk} (hs:qo f s):(z7 f s).xs.length<=N/\(∀ x∈(z7 f s).xs,UC N x)/\(z7 f s).next=f.next/\(z7 f s).maxI=f.maxI/\(z7 f s).maxB=f.maxB:=by
 have hi:=qo.ino hf hs
 have hd:∀ z∈jr s.dir (zm s.name) f.xs,UC N z:=fun z hz=>by
  rcases (jH hs.has).1 hz with rfl | ⟨hz,_⟩
  ·exact ZS (jE h2 hs.has) _
  ·exact h2 z hz
 have hl:=JZ (F:=zm s.name) hf.rises hs.has
 unfold z7
 split
 ·refine ⟨?_,fun x hx=>hd x (Ua.1 hx).1,rfl,rfl,rfl⟩
  show (qg _ _).length<=N
  exact Nat.le_trans Qp (by rw[hl];exact h1)
 ·refine ⟨?_,Zc hd (jE h2 hi),rfl,rfl,rfl⟩
  show (qP _ _).length<=N
  rw[XI (show zZ (jr s.dir (zm s.name) f.xs) from qd hf.rises) ?_,hl]
  ·exact h1
  ·show zF (zg s.ino f.xs).ino (jr _ _ _)=true
   rw[(zi hi).2.2,qi hs.has];exact hi
theorem doB {N:Nat} {w:jt} (hw:Zh w) (hb:zaO N w) (o:OpV) (hd:o.d.length<=5000) (hk:o.kind<=7):zaO (N+1) (doV w o).1:=by
 unfold doV
 cases hm:zba o with
 | false=>exact hb.up
 | true =>
  obtain ⟨p1,p2,k1,_⟩:=ZD hm
  rw[if_neg (by simp)]
  by_cases h1:o.kind=1
  ·rw[if_pos h1];exact zkb hw hb p1 (by simp)
  rw[if_neg h1]
  by_cases h2:o.kind=2
  ·rw[if_pos h2]
   unfold Yo
   split
   ·exact hb.up
   ·rename_i hfa
    have hfa:=Q8 hw.fs p1 (Classical.not_not.1 hfa)
    refine zkb hw hb (p2 (by rw[h2];rfl)) ?_
    rw[hfa.2.2]
    exact (jE hb.node hfa.1).2.1
  rw[if_neg h2]
  by_cases h3:o.kind=3
  ·rw[if_pos h3]
   have pb:=p2 (by rw[h3];rfl)
   unfold qE
   split
   ·exact hb.up
   ·rename_i hfa
    have hfa:=Q8 hw.fs p1 (Classical.not_not.1 hfa)
    split
    ·exact hb.up
    ·rename_i hfb
     have hfb:=Q8 hw.fs pb (Classical.not_not.1 hfb)
     split
     ·exact hb.up
     ·split
      ·exact hb.up
      ·rename_i hkd
       split
       ·exact hb.up
       ·rename_i hda
        have hkd:=Classical.not_not.1 hkd
        have hda:=Classical.not_not.1 hda
        unfold qC at hkd ⊢
        cases hn:MR o.slot w.kept with
        | true=>rw[hn]at hkd;simp at hkd
        | false =>
         rw[if_neg (by simp)]
         unfold QO at hda ⊢
         by_cases hr:Xx w.fs 0 (((qc w.fs o.a).1.data.length:Int)-(zg (qc w.fs o.b).1.ino w.fs.xs).data.length)=true
         ·rw[if_pos hr]
          have hg:=zi hfb.1
          refine ⟨?_,?_,?_,fun k hk=>?_,Nat.le_succ_of_le hb.plen,fun x hx=>(hb.pnode x hx).up,by have:=hb.next;show w.fs.next<=_;omega,hb.room⟩
          ·show (qP _ _).length<=N+1
           rw[XI hw.fs.rises (by show zF (zg _ _).ino _=true;rw[hg.2.2];exact hfb.1)]
           exact Nat.le_succ_of_le hb.len
          ·refine Zc (fun z hz=>(hb.node z hz).up) ?_
           have h7:=(jE hb.node hfb.1).up
           refine ⟨h7.1,?_,h7.2.2⟩
           show (qc w.fs o.a).1.data.length<=5000
           rw[hfa.2.2]
           exact (jE hb.node hfa.1).2.1
          ·show (qw _ _).length<=N+1
           rw[N5]
           have:=hb.klen;omega
          ·rcases QB.1 hk with rfl | hk
           ·exact (jE hb.node hfb.1).2.1
           ·exact hb.kdata k hk
         ·rw[if_neg hr]at hda;cases hda
  rw[if_neg h3]
  by_cases h4:o.kind=4
  ·rw[if_pos h4];exact zkb hw hb p1 hd
  rw[if_neg h4]
  by_cases h5:o.kind=5
  ·rw[if_pos h5]
   have pb:=p2 (by rw[h5];rfl)
   unfold j7
   simp only
   split
   ·exact hb.up
   ·rename_i ha
    obtain ⟨t1,t2⟩:=Jk hw.fs p1 (Classical.not_not.1 ha)
    split
    ·exact hb.up
    ·split
     ·exact hb.up
     ·rename_i hb2
      have hb2:=Classical.not_not.1 hb2
      have hfree:=YN hw.fs pb hb2
      have hi:=qo.ino hw.fs t1
      have e:(isV w.fs o.a true).2.1.ino=(isV w.fs o.a true).1.ino:=by rw[t2,(zi hi).2.2]
      rw[e]
      have hln:=zb1 hw.fs pb (VU hb2)
      refine fsB hb ?_ ?_ rfl ⟨rfl,rfl⟩
      ·show (qP _ _).length<=N+1
       rw[XI (show zZ (jr (isV w.fs o.b false).1.dir (qe (isV w.fs o.b false).1.name (isV w.fs o.a true).1.ino) w.fs.xs) from qd hw.fs.rises) (by show zF (zg _ _).ino _=true;rw[(zi hi).2.2,qi hfree.has];exact hi),JZ hw.fs.rises hfree.has]
       exact Nat.le_succ_of_le hb.len
      ·refine Zc (fun z hz=>?_) (jE hb.node hi).up
       rcases (jH hfree.has).1 hz with rfl | ⟨hz,_⟩
       ·exact VJ (jE hb.node hfree.has) hln _
       ·exact (hb.node z hz).up
  rw[if_neg h5]
  by_cases h6:o.kind=6
  ·rw[if_pos h6]
   have pb:=p2 (by rw[h6];rfl)
   unfold Xe
   split
   ·exact hb.up
   ·rename_i ha
    split
    ·exact hb.up
    ·rename_i hb2
     have hb2:=Classical.not_not.1 hb2
     obtain ⟨t1,t2⟩:=Jk hw.fs p1 (Classical.not_not.1 ha)
     have hfree:=YN hw.fs pb hb2
     have hi:=qo.ino hw.fs t1
     have hln:=zb1 hw.fs pb (VU hb2)
     obtain ⟨g1,hg1⟩:∃ g1,jr (isV w.fs o.a true).1.dir (zm (isV w.fs o.a true).1.name) w.fs.xs=g1:=⟨_,rfl⟩
     obtain ⟨g2,hg2⟩:∃ g2,jr (isV w.fs o.b false).1.dir (qe (isV w.fs o.b false).1.name (isV w.fs o.a true).1.ino) g1=g2:=⟨_,rfl⟩
     have hR1:zZ g1:=by rw[←hg1];exact qd hw.fs.rises
     have hb1:zF (isV w.fs o.b false).1.dir g1=true:=by rw[←hg1,qi t1.has];exact hfree.has
     have hn1:∀ z∈g1,UC N z:=fun z hz=>by
      rw[←hg1]at hz
      rcases (jH t1.has).1 hz with rfl | ⟨hz,_⟩
      ·exact ZS (jE hb.node t1.has) _
      ·exact hb.node z hz
     have hn2:∀ z∈g2,UC (N+1) z:=fun z hz=>by
      rw[←hg2]at hz
      rcases (jH hb1).1 hz with rfl | ⟨hz,_⟩
      ·exact VJ (jE hn1 hb1) hln _
      ·exact (hn1 z hz).up
     have hl2:g2.length=w.fs.xs.length:=by rw[←hg2,JZ hR1 hb1,←hg1,JZ hw.fs.rises t1.has]
     have hi2:zF (isV w.fs o.a true).1.ino g2=true:=by rw[←hg2,qi hb1,←hg1,qi t1.has];exact hi
     have hR2:zZ g2:=by rw[←hg2];exact qd hR1
     unfold UJ
     rw[hg1,hg2]
     simp only
     split
     ·refine fsB hb ?_ (Zc hn2 (jE hn2 hi2)) rfl ⟨rfl,rfl⟩
      show (qP _ _).length<=N+1
      rw[XI hR2 (by show zF (zg _ _).ino _=true;rw[(zi hi2).2.2];exact hi2),hl2]
      exact Nat.le_succ_of_le hb.len
     ·refine fsB hb ?_ hn2 rfl ⟨rfl,rfl⟩
      show g2.length<=N+1
      rw[hl2];exact Nat.le_succ_of_le hb.len
  rw[if_neg h6]
  unfold jo
  simp only
  split
  ·exact hb.up
  ·rename_i ha
   split
   ·exact hb.up
   ·obtain ⟨t1,t2⟩:=Jk hw.fs p1 (Classical.not_not.1 ha)
    have hi:=qo.ino hw.fs t1
    unfold X3
    split
    ·exact hb.up
    ·obtain ⟨u1,u2,u3,u4,u5⟩:=zkG hw.fs hb.len hb.node t1
     refine ⟨Nat.le_succ_of_le u1,fun x hx=>(u2 x hx).up,?_,fun k hk=>?_,?_,fun x hx=>?_,?_,?_⟩
     ·show (qw _ _).length<=N+1
      rw[N5]
      have:=hb.klen;omega
     ·rcases QB.1 hk with rfl | hk
      ·exact Nat.zero_le _
      ·exact hb.kdata k hk
     ·show (if _ then _ else _:List zw).length<=N+1
      split
      ·exact Nat.le_trans zcU (by have:=hb.plen;omega)
      ·exact Nat.le_succ_of_le hb.plen
     ·have hx:x∈(if (zg (isV w.fs o.a true).1.ino w.fs.xs).links=1 then qP { zg (isV w.fs o.a true).1.ino w.fs.xs with links:=0,parent:=0 } w.pool else w.pool):=hx
      split at hx
      ·exact Zc (x:={ zg (isV w.fs o.a true).1.ino w.fs.xs with links:=0,parent:=0 }) (fun z hz=>(hb.pnode z hz).up) (show UC (N+1) _ from (jE hb.node hi).up) x hx
      ·exact (hb.pnode x hx).up
     ·show (z7 _ _).next<=_
      rw[u3];have:=hb.next;omega
     ·show (z7 _ _).maxI<=_/\(z7 _ _).maxB<=_/\_<=(z7 _ _).maxI/\_<=(z7 _ _).maxB
      rw[u4,u5];exact hb.room
end
section
open CA CB
open Go.RowKit
section
variable {G:zk}
theorem xL (f:FsV):Fun Tryz.prog G 229 [.agg (fsC f)] (.sc (.int .i64 (f.xs.length:Nat))) 0:=by
 refine Fun.of (fun _=>[]) Tryz.func229 rfl (zp rfl) (by kernel_rfl) ?_;dsimp only[Tryz.f229]
 push_cast -dsimp
 exact ⟨[],rfl,rfl,by push_cast -dsimp [zb,za,CLe,ze,show (zt f.xs).length=f.xs.length from List.length_map ..]⟩
theorem uD (f:FsV) (hf:FsS f):Fun Tryz.prog G 230 [.agg (fsC f)] (.sc (.int .i64 (jk f.xs:Nat))) 0:=by
 have hll:(zt f.xs).length=f.xs.length:=List.length_map ..
 have hb:=hf.bytes
 have h4:=hf.len
 have hb0:jk []=0:=rfl
 have hmono:∀ i,jk (f.xs.take i)<=100000000:=fun i=>by
  have h1:=Uu (xs:=f.xs.take i) (n:=10000) fun x hx=>(hf.node x (List.mem_of_mem_take hx)).2.1
  have h2:(f.xs.take i).length<=10000:=by rw[List.length_take];have:=hf.len;omega
  have:(f.xs.take i).length*10000<=10000*10000:=Nat.mul_le_mul_right _ h2
  omega
 refine Fun.of (fun _=>[]) Tryz.func230 rfl (zp rfl) (by kernel_rfl) ?_;dsimp only[Tryz.f230]
 push_cast -dsimp
 refine loop (fun i:Nat=>⟨[(1,.ptr 0 0),(3,.sc (.int .i64 (jk (f.xs.take i):Nat))),(7,.sc (.int .i64 (f.xs.length:Nat))),(8,.sc (.int .i64 i))],[fsC f],0,0⟩) (fun i=>i<=f.xs.length) (fun i=>f.xs.length-i) 0 (Nat.zero_le _) ?_ ?_
 ·exact zS.mk [] rfl rfl (Nat.zero_le _) rfl (by push_cast -dsimp [zb,za,CLe,ze,hb0,hll,List.take_zero]) (by push_cast -dsimp [zb,za,CLe,ze])
 ·intro i h1
  by_cases h:i<f.xs.length
  ·have g1:=jh f.xs i h
   have ht:=kM h
   have hm:=hmono (i+1)
   have hm0:=hmono i
   rw[ht]at hm
   by_cases hk:f.xs[i].kind=1
   ·rw[if_pos hk]at ht hm
    push_cast -dsimp [hll,h,g1,hk]
    (try simp only[lS]);repeat refine And.intro (by omega) ?_
    exact ⟨i+1,h,by omega,zS.mk [] rfl rfl (Nat.zero_le _) rfl (by push_cast -dsimp [zb,za,CLe,ze,ht]) (by push_cast -dsimp [zb,za,CLe,ze])⟩
   ·rw[if_neg hk]at ht hm
    push_cast -dsimp [hll,h,g1,hk]
    (try simp only[lS]);repeat refine And.intro (by omega) ?_
    exact ⟨i+1,h,by omega,zS.mk [] rfl rfl (Nat.zero_le _) rfl (by push_cast -dsimp [zb,za,CLe,ze,ht,Nat.add_zero]) (by push_cast -dsimp [zb,za,CLe,ze])⟩
  ·rw[List.take_of_length_le (by omega)]
   push_cast -dsimp [hll,h]
   exact ⟨[],rfl,rfl,by push_cast -dsimp [zb,za,CLe,ze]⟩
theorem V3 (f:FsV) (hf:FsS f) (n b:Int) (hn:-1000000000<=n/\n<=1000000000) (hb:-1000000000<=b/\b<=1000000000):Fun Tryz.prog G 200 [.agg (fsC f),.sc (.int .i64 n),.sc (.int .i64 b)] (.sc (.bool (Xx f n b))) 0:=by
 have h1:=xL (G:=G) f
 have h2:=uD (G:=G) f hf
 have h3:=hf.bytes
 have h4:=hf.len
 by_cases c1:(f.xs.length:Int)+n<=f.maxI
 ·have e:Xx f n b=decide ((jk f.xs:Int)+b<=f.maxB):=by unfold Xx;rw[decide_eq_true c1,Bool.true_and]
  refine Fun.of (fun _=>[]) Tryz.func200 rfl (zp rfl) (by kernel_rfl) ?_;dsimp only[Tryz.f200]
  push_cast -dsimp
  refine cl (h1) ?_;push_cast -dsimp [c1]
  (try simp only[lS]);repeat refine And.intro (by omega) ?_
  refine cl (h2) ?_;push_cast -dsimp
  (try simp only[lS]);repeat refine And.intro (by omega) ?_
  exact ⟨[],rfl,rfl,by push_cast -dsimp [zb,za,CLe,ze,e]⟩
 ·have e:Xx f n b=false:=by unfold Xx;rw[decide_eq_false c1,Bool.false_and]
  refine Fun.of (fun _=>[]) Tryz.func200 rfl (zp rfl) (by kernel_rfl) ?_;dsimp only[Tryz.f200]
  push_cast -dsimp
  refine cl (h1) ?_;push_cast -dsimp [c1]
  (try simp only[lS]);repeat refine And.intro (by omega) ?_
  exact ⟨[],rfl,rfl,by push_cast -dsimp [zb,za,CLe,ze,e]⟩
end
end
section
open CA CB
open Go.RowKit
abbrev j0 (s:qk):List C:=[.sc (.int .i64 s.dir),.str s.name,.sc (.int .i64 s.ino)]
theorem FsS.es {f:FsV} (h:FsS f) {n:Int} (hh:zF n f.xs=true):(zg n f.xs).es.length<=10000:=(h.node _ (zi hh).2.1).1
theorem NK {xs:List (List UInt8)} {k:Nat} (h:k<xs.length):(qA xs)[k]?=some [.str xs[k]]:=by simp[List.getElem?_map,List.getElem?_eq_getElem h]
theorem vz (f:FsV) (hf:FsI f) (hs:FsS f) (p:List UInt8) (hp:p.length<=100000):Fun Tryz.prog G0 199 [.agg (fsC f),.str p] (.tup [.agg (j0 (atV f p).1),.sc (.int .i64 (atV f p).2)]) 0:=by
 have hpl:=Nm p (by omega)
 have hlen:=hs.len
 have hnl:(zE p).length<=100000:=by have:=jl p;omega
 cases hpp:XA p with
 | false =>
  have e:atV f p=(qL,9):=by unfold atV;rw[hpp];rfl
  unfold YH at hpl
  rw[hpp]at hpl
  refine Fun.of (fun _=>[]) Tryz.func199 rfl (zp rfl) (by kernel_rfl) ?_;dsimp only[Tryz.f199]
  push_cast -dsimp
  refine cl (hpl) ?_;push_cast -dsimp
  exact ⟨[],rfl,rfl,by push_cast -dsimp [zb,za,CLe,ze,e,qL]⟩
 | true =>
  have e:atV f p=atW f.xs (zE p) ⟨0,[],1⟩:=by unfold atV;rw[hpp];rfl
  unfold YH at hpl
  rw[hpp,if_pos rfl]at hpl
  generalize zE p=ns at hpl hnl e
  have hsl:(qA ns).length=ns.length:=List.length_map ..
  refine Fun.of (fun _=>[]) Tryz.func199 rfl (zp rfl) (by kernel_rfl) ?_;dsimp only[Tryz.f199]
  push_cast -dsimp
  refine cl (hpl) ?_;push_cast -dsimp
  refine loop (fun x:Nat×qk=>⟨[(1,.str p),(2,.ptr 0 0),(4,.ptr 1 0),(8,.ptr 2 0),(24,.own 0 9 1 (qA ns)),(25,.sc (.int .i64 (ns.length:Nat))),(26,.sc (.int .i64 x.1))],[fsC f,[.sc (.int .i64 0),.str [],.sc (.int .i64 0)],j0 x.2],1,0⟩)
   (fun x=>x.1<=ns.length/\atW f.xs ns ⟨0,[],1⟩=atW f.xs (ns.drop x.1) x.2/\(x.2.ino≠0->zF x.2.ino f.xs=true)) (fun x=>ns.length-x.1) (0,⟨0,[],1⟩) ⟨Nat.zero_le _,rfl,fun _=>hf.root⟩ ?_ ?_
  ·exact zS.mk [.inl 0] rfl rfl (Nat.zero_le _) rfl (by push_cast -dsimp [zb,za,CLe,ze,hsl]) (by push_cast -dsimp [zb,za,CLe,ze])
  rintro ⟨k,s⟩ ⟨hk,hat,hin⟩
  simp only at hk hat hin ⊢
  by_cases hlt:k<ns.length
  ·have gs:=NK hlt
   have hdr:ns.drop k=ns[k] :: ns.drop (k+1):=List.drop_eq_getElem_cons hlt
   obtain ⟨nm,hnm⟩:∃ nm,ns[k]=nm:=⟨_,rfl⟩
   rw[hnm]at gs hdr
   have hg:=jI (G:=G0) f s.ino (by omega) hf.rises
   cases hh:zF s.ino f.xs with
   | false =>
    have h0:s.ino=0:=Classical.byContradiction fun hne=>by rw[hin hne]at hh;cases hh
    have hr:atV f p=(qL,1):=by rw[e,hat,hdr];unfold atW;rw[if_pos h0]
    rw[hh]at hg
    push_cast -dsimp [hlt,gs]
    (try simp only[lS]);repeat refine And.intro (by omega) ?_
    refine cl (hg) ?_;push_cast -dsimp
    exact ⟨[],rfl,rfl,by push_cast -dsimp [zb,za,CLe,ze,hr,qL]⟩
   | true =>
    have hn0:s.ino≠0:=zbo hf hh
    have hgg:=zi hh
    rw[hh]at hg
    by_cases hk2:(zg s.ino f.xs).kind=2
    ·have hfd:=zd6 (G:=G0) (zg s.ino f.xs).es nm (by have:=hs.es hh;omega) (hf.es _ hgg.2.1)
     have hnx:atW f.xs ns ⟨0,[],1⟩=atW f.xs (ns.drop (k+1)) ⟨(zg s.ino f.xs).ino,nm,qr nm (zg s.ino f.xs).es⟩:=by
      rw[hat,hdr]
      conv=>lhs;unfold atW
      rw[if_neg hn0,if_neg (by simp[hk2])]
     have hin2:qr nm (zg s.ino f.xs).es≠0->zF (qr nm (zg s.ino f.xs).es) f.xs=true:=fun hne=>by
      refine yf hf hh ?_
      unfold Q4
      rw[jM]
      cases hq:Ja zX.name nm (zg s.ino f.xs).es with
      | some e=>rfl
      | none=>unfold qr at hne;rw[hq]at hne;exact absurd rfl hne
     push_cast -dsimp [hlt,gs]
     (try simp only[lS]);repeat refine And.intro (by omega) ?_
     refine cl (hg) ?_;push_cast -dsimp [hk2]
     refine cl (hfd) ?_;push_cast -dsimp
     (try simp only[lS]);repeat refine And.intro (by omega) ?_
     exact ⟨(k+1,⟨(zg s.ino f.xs).ino,nm,qr nm (zg s.ino f.xs).es⟩),⟨hlt,hnx,hin2⟩,by simp only;omega,zS.mk [.inl 0] rfl rfl (Nat.zero_le _) rfl (by push_cast -dsimp [zb,za,CLe,ze]) (by push_cast -dsimp [zb,za,CLe,ze])⟩
    ·have hr:atV f p=(qL,3):=by rw[e,hat,hdr];unfold atW;rw[if_neg hn0,if_pos hk2]
     push_cast -dsimp [hlt,gs]
     (try simp only[lS]);repeat refine And.intro (by omega) ?_
     refine cl (hg) ?_;push_cast -dsimp [hk2]
     exact ⟨[],rfl,rfl,by push_cast -dsimp [zb,za,CLe,ze,hr,qL]⟩
  ·have hr:atV f p=(s,0):=by rw[e,hat,List.drop_of_length_le (by omega)];unfold atW;rfl
   push_cast -dsimp [hlt]
   exact ⟨[],rfl,rfl,by push_cast -dsimp [zb,za,CLe,ze,hr]⟩
end
section
open CA CB
open Go.RowKit
abbrev zmA (f:FsV):Prop:=0<=f.next/\f.next<=4000000000000000000
theorem VC {f:FsV} (hf:FsI f):f.xs≠[]:=fun h=>by have:=hf.root;rw[h]at this;cases this
theorem YE {f:FsV} (hf:FsI f) {n:Int} (hh:zF n f.xs=true):Ju (zg n f.xs).es:=hf.es _ (zi hh).2.1
theorem Fun.argsLe {P:Program} {G:zk} {f:FuncId} {args args':List C} {r:C} {n:Nat} (h:Fun P G f args r n) (ha:∀ R vs,zx R zH args' vs->zx R zH args vs):Fun P G f args' r n:=
 ⟨h.1,fun R vs hg hv=>h.2 R vs hg (ha R vs hv)⟩
theorem yZ {R:Env} {L:Loc} {k:Nat} {v:Value} (h:Rep R L (.sc (.slice none 0 0)) v):Rep R L (.sl k []) v:=by
 rw[zn]at h
 subst h
 unfold Rep
 exact ⟨none,0,rfl,Nat.le_refl _,Nat.zero_le _,.inl rfl⟩
theorem zja {G:zk} (f:FsV) (x:zw) (hx:x.es = []) (hl:f.xs.length<=90000) (hR:zZ f.xs) :
  Fun Tryz.prog G 203 [.agg (fsC f),.agg [.sc (.int .i64 x.ino),.sc (.int .i64 x.kind),.sc (.int .i64 x.links),.str x.data,.sc (.int .i64 x.parent),.sc (.slice none 0 0)]] (.agg [.sc (.int .i64 f.maxI),.sc (.int .i64 f.maxB),.sc (.int .i64 f.next),.own 0 75 6 (zt (qP x f.xs))]) 1:=by
 refine (Yq f x hl hR).argsLe fun R vs h=>?_
 obtain ⟨v1,us1,rfl,h1,h⟩:=zd.1 h
 obtain ⟨v2,us2,rfl,h2,h⟩:=zd.1 h
 refine zd.2 ⟨_,_,rfl,h1,zd.2 ⟨_,_,rfl,?_,h⟩⟩
 obtain ⟨ws,rfl,hw⟩:=jJ.1 h2
 obtain ⟨w1,t1,e1,g1,hw⟩:=zd.1 hw
 obtain ⟨w2,t2,e2,g2,hw⟩:=zd.1 hw
 obtain ⟨w3,t3,e3,g3,hw⟩:=zd.1 hw
 obtain ⟨w4,t4,e4,g4,hw⟩:=zd.1 hw
 obtain ⟨w5,t5,e5,g5,hw⟩:=zd.1 hw
 obtain ⟨w6,t6,e6,g6,hw⟩:=zd.1 hw
 refine jJ.2 ⟨ws,rfl,?_⟩
 have g6':Rep R zH (.sl 2 (zL x.es)) w6:=by rw[hx];exact yZ g6
 rw[e1,e2,e3,e4,e5,e6]
 exact zd.2 ⟨_,_,rfl,g1,zd.2 ⟨_,_,rfl,g2,zd.2 ⟨_,_,rfl,g3,zd.2 ⟨_,_,rfl,g4,zd.2 ⟨_,_,rfl,g5,zd.2 ⟨_,_,rfl,g6',hw⟩⟩⟩⟩⟩⟩
theorem zaf (f:FsV) (hf:FsI f) (hs:FsS f) (hn:zmA f) (s:qk) (hsp:ZT f s) (hnl:s.name.length<=100000) (k:Int) (t:List UInt8) (ht:t.length<=100000) :
  Fun Tryz.prog G0 166 [.agg (fsC f),.agg (j0 s),.sc (.int .i64 k),.str t] (.tup [.agg (fsC (Gj f s k t).1),.sc (.int .i64 (Gj f s k t).2)]) 0:=by
 have hm:=zdI s.name (by omega)
 have hlen:=hs.len
 cases hmay:may s.name with
 | false =>
  have e:Gj f s k t=(f,9):=by unfold Gj;rw[hmay];rfl
  rw[hmay]at hm
  by_cases hk:k=1
  ·have hk':=eq_true hk
   refine Fun.of (fun j=>if j=14 then [false,false,false,false,false,true] else []) Tryz.func166 rfl (zp rfl) (by kernel_rfl) ?_;dsimp only[Tryz.f166]
   push_cast -dsimp [hk']
   refine cl (hm) ?_;push_cast -dsimp
   exact ⟨[],rfl,rfl,by push_cast -dsimp [zb,za,CLe,ze,e]⟩
  ·have hk':=eq_false hk
   refine Fun.of (fun j=>if j=14 then [false,false,false,false,false,true] else []) Tryz.func166 rfl (zp rfl) (by kernel_rfl) ?_;dsimp only[Tryz.f166]
   push_cast -dsimp [hk']
   refine cl (hm) ?_;push_cast -dsimp
   exact ⟨[],rfl,rfl,by push_cast -dsimp [zb,za,CLe,ze,e]⟩
 | true =>
  rw[hmay]at hm
  have key:∀ b:Int,(if k=1 then (t.length:Int) else 0)=b->Xx f 1 b=false->Gj f s k t=(f,8):=fun b hb hr=>by unfold Gj;rw[hmay,if_pos rfl,hb,hr];rfl
  have key2:∀ b:Int,(if k=1 then (t.length:Int) else 0)=b->Xx f 1 b=true->Gj f s k t=(zin f s k t,0):=fun b hb hr=>by unfold Gj;rw[hmay,if_pos rfl,hb,hr];rfl
  have hg:=jI (G:=G0) f s.dir (by omega) hf.rises
  rw[hsp.has]at hg
  have htk:=zgb (G:=G0) f (by omega) (VC hf) (by have:=hn.1;omega) (by have:=hn.2;omega)
  have hes:=hs.es hsp.has
  have hw:=Uv (G:=G0) (zg s.dir f.xs).es s.name f.next (by omega) (YE hf hsp.has)
  have hd1:=Yq (G:=G0) ⟨f.maxI,f.maxB,f.next+1,f.xs⟩ (qM (zg s.dir f.xs) (qe s.name f.next (zg s.dir f.xs).es)) (by simp only;omega) hf.rises
  have hdl:(jr s.dir (qe s.name f.next) f.xs).length=f.xs.length:=JZ hf.rises hsp.has
  have hd2:=fun pr:Int=>zja (G:=G0) ⟨f.maxI,f.maxB,f.next+1,jr s.dir (qe s.name f.next) f.xs⟩ ⟨f.next,k,1,t,pr,[]⟩ rfl (by simp only;omega) (qd hf.rises)
  have hx0:k=2->zin f s k t=⟨f.maxI,f.maxB,f.next+1,qP ⟨f.next,k,1,t,s.dir,[]⟩ (jr s.dir (qe s.name f.next) f.xs)⟩:=fun h=>by unfold zin;rw[if_pos h]
  have hx1:k≠2->zin f s k t=⟨f.maxI,f.maxB,f.next+1,qP ⟨f.next,k,1,t,0,[]⟩ (jr s.dir (qe s.name f.next) f.xs)⟩:=fun h=>by unfold zin;rw[if_neg h]
  unfold jr at hd2 hx0 hx1
  by_cases hk:k=1
  ·have hk':=eq_true hk
   have hk2:(k=2)=False:=eq_false (by omega)
   have hr:=V3 (G:=G0) f hs 1 t.length (by omega) (by omega)
   cases hrm:Xx f 1 t.length with
   | false =>
    have e:=key _ (if_pos hk) hrm
    rw[hrm]at hr
    refine Fun.of (fun j=>if j=14 then [false,false,false,false,false,true] else []) Tryz.func166 rfl (zp rfl) (by kernel_rfl) ?_;dsimp only[Tryz.f166]
    push_cast -dsimp [hk']
    refine cl (hm) ?_;push_cast -dsimp
    refine cl (hr) ?_;push_cast -dsimp
    exact ⟨[],rfl,rfl,by push_cast -dsimp [zb,za,CLe,ze,e]⟩
   | true =>
    have e:=key2 _ (if_pos hk) hrm
    have ex:=hx1 (by omega)
    rw[hrm]at hr
    refine Fun.of (fun j=>if j=14 then [false,false,false,false,false,true] else []) Tryz.func166 rfl (zp rfl) (by kernel_rfl) ?_;dsimp only[Tryz.f166]
    push_cast -dsimp [hk']
    refine cl (hm) ?_;push_cast -dsimp
    refine cl (hr) ?_;push_cast -dsimp
    refine cl (hg) ?_;push_cast -dsimp
    refine cl (htk) ?_;push_cast -dsimp [hk2]
    refine cl (hw) ?_;push_cast -dsimp
    refine cl (hd1) ?_;push_cast -dsimp
    refine cl (hd2 0) ?_;push_cast -dsimp
    exact ⟨[],rfl,rfl,by push_cast -dsimp [zb,za,CLe,ze,e,ex]⟩
  ·have hk':=eq_false hk
   have hr:=V3 (G:=G0) f hs 1 0 (by omega) (by omega)
   cases hrm:Xx f 1 0 with
   | false =>
    have e:=key _ (if_neg hk) hrm
    rw[hrm]at hr
    refine Fun.of (fun j=>if j=14 then [false,false,false,false,false,true] else []) Tryz.func166 rfl (zp rfl) (by kernel_rfl) ?_;dsimp only[Tryz.f166]
    push_cast -dsimp [hk']
    refine cl (hm) ?_;push_cast -dsimp
    refine cl (hr) ?_;push_cast -dsimp
    exact ⟨[],rfl,rfl,by push_cast -dsimp [zb,za,CLe,ze,e]⟩
   | true =>
    have e:=key2 _ (if_neg hk) hrm
    rw[hrm]at hr
    by_cases hk2:k=2
    ·have ex:=hx0 hk2
     have hk2':=eq_true hk2
     refine Fun.of (fun j=>if j=14 then [false,false,false,false,false,true] else []) Tryz.func166 rfl (zp rfl) (by kernel_rfl) ?_;dsimp only[Tryz.f166]
     push_cast -dsimp [hk']
     refine cl (hm) ?_;push_cast -dsimp
     refine cl (hr) ?_;push_cast -dsimp
     refine cl (hg) ?_;push_cast -dsimp
     refine cl (htk) ?_;push_cast -dsimp [hk2']
     refine cl (hw) ?_;push_cast -dsimp
     refine cl (hd1) ?_;push_cast -dsimp
     refine cl (hd2 s.dir) ?_;push_cast -dsimp
     exact ⟨[],rfl,rfl,by push_cast -dsimp [zb,za,CLe,ze,e,ex]⟩
    ·have ex:=hx1 hk2
     have hk2':=eq_false hk2
     refine Fun.of (fun j=>if j=14 then [false,false,false,false,false,true] else []) Tryz.func166 rfl (zp rfl) (by kernel_rfl) ?_;dsimp only[Tryz.f166]
     push_cast -dsimp [hk']
     refine cl (hm) ?_;push_cast -dsimp
     refine cl (hr) ?_;push_cast -dsimp
     refine cl (hg) ?_;push_cast -dsimp
     refine cl (htk) ?_;push_cast -dsimp [hk2']
     refine cl (hw) ?_;push_cast -dsimp
     refine cl (hd1) ?_;push_cast -dsimp
     refine cl (hd2 0) ?_;push_cast -dsimp
     exact ⟨[],rfl,rfl,by push_cast -dsimp [zb,za,CLe,ze,e,ex]⟩
end
section
open CA CB
open Go.RowKit
theorem zbu {g:zw->Nat} {n:Nat}:∀ {xs:List zw},(∀ x∈xs,g x<=n)->Ma g xs<=xs.length*n
 | [],_=>by simp[Ma]
 | x :: r,h=>by
  have ih:=zbu (g:=g) (n:=n) (xs:=r) fun y hy=>h y (List.mem_cons_of_mem _ hy)
  have hx:=h x List.mem_cons_self
  unfold Ma at ih ⊢
  simp only[List.map_cons,List.sum_cons,List.length_cons]
  rw[Nat.succ_mul];omega
theorem yP {f:FsV} (hf:FsI f) (hs:FsS f) {n:Int} (hh:zF n f.xs=true):0<=(zg n f.xs).links/\(zg n f.xs).links<=100000000:=by
 have h1:=hf.links _ (zi hh).2.1
 have h2:=zbu (g:=JN (zg n f.xs).ino) (n:=10000) (xs:=f.xs) fun x hx=>Nat.le_trans (List.length_filter_le _ _) (hs.node x hx).1
 have h3:=hs.len
 have h4:f.xs.length*10000<=10000*10000:=Nat.mul_le_mul_right _ h3
 unfold JG at h1
 omega
theorem zfC (f:FsV) (hf:FsI f) (hs:FsS f) (s:qk) (hsp:ZT f s) (i:Int) (hi:zF i f.xs=true) (hne:s.dir≠i):Fun Tryz.prog G0 171 [.agg (fsC f),.agg (j0 s),.sc (.int .i64 i)] (.agg (fsC (GW f s i))) 0:=by
 have hlen:=hs.len
 have hg:=jI (G:=G0) f s.dir (by omega) hf.rises
 rw[hsp.has]at hg
 have hes:=hs.es hsp.has
 have hw:=Uv (G:=G0) (zg s.dir f.xs).es s.name i (by omega) (YE hf hsp.has)
 have hd1:=Yq (G:=G0) f (qM (zg s.dir f.xs) (qe s.name i (zg s.dir f.xs).es)) (by omega) hf.rises
 have hdl:(jr s.dir (qe s.name i) f.xs).length=f.xs.length:=JZ hf.rises hsp.has
 have hR1:zZ (jr s.dir (qe s.name i) f.xs):=qd hf.rises
 have hg2:=jI (G:=G0) ⟨f.maxI,f.maxB,f.next,jr s.dir (qe s.name i) f.xs⟩ i (by simp only;omega) hR1
 simp only at hg2
 rw[qi hsp.has,hi,Yp hsp.has,if_neg hne]at hg2
 have hl:=yP hf hs hi
 have hd2:=Yq (G:=G0) ⟨f.maxI,f.maxB,f.next,jr s.dir (qe s.name i) f.xs⟩ { zg i f.xs with links:=(zg i f.xs).links+1 } (by simp only;omega) hR1
 have e:GW f s i=⟨f.maxI,f.maxB,f.next,qP { zg i f.xs with links:=(zg i f.xs).links+1 } (jr s.dir (qe s.name i) f.xs)⟩:=rfl
 unfold jr at hg2 hd2 e
 refine Fun.of (fun _=>[]) Tryz.func171 rfl (zp rfl) (by kernel_rfl) ?_;dsimp only[Tryz.f171]
 push_cast -dsimp
 refine cl (hg) ?_;push_cast -dsimp
 refine cl (hw) ?_;push_cast -dsimp
 refine cl (hd1) ?_;push_cast -dsimp
 refine cl (hg2) ?_;push_cast -dsimp
 (try simp only[lS]);repeat refine And.intro (by omega) ?_
 refine cl (hd2) ?_;push_cast -dsimp
 exact ⟨[],rfl,rfl,by push_cast -dsimp [zb,za,CLe,ze,e]⟩
theorem vY (f:FsV) (hf:FsI f) (hs:FsS f) (s:qk) (hsp:qo f s) (hne:s.dir≠s.ino):Fun Tryz.prog G0 174 [.agg (fsC f),.agg (j0 s)] (.agg (fsC (z7 f s))) 0:=by
 have hi:=qo.ino hf hsp
 have hlen:=hs.len
 have hg:=jI (G:=G0) f s.dir (by omega) hf.rises
 rw[hsp.has]at hg
 have hes:=hs.es hsp.has
 have hhe:JR zX.name s.name (zg s.dir f.xs).es=true:=by rw[jM,hsp.there];rfl
 have hw:=ZY (G:=G0) (zg s.dir f.xs).es s.name (by omega) (YE hf hsp.has) hhe
 have hd1:=Yq (G:=G0) f (qM (zg s.dir f.xs) (zm s.name (zg s.dir f.xs).es)) (by omega) hf.rises
 have hdl:(jr s.dir (zm s.name) f.xs).length=f.xs.length:=JZ hf.rises hsp.has
 have hR1:zZ (jr s.dir (zm s.name) f.xs):=qd hf.rises
 have hg2:=jI (G:=G0) ⟨f.maxI,f.maxB,f.next,jr s.dir (zm s.name) f.xs⟩ s.ino (by simp only;omega) hR1
 simp only at hg2
 rw[qi hsp.has,hi,Yp hsp.has,if_neg hne]at hg2
 have hl:=yP hf hs hi
 have hxi:=(zi hi).2.2
 have hd2:=Yq (G:=G0) ⟨f.maxI,f.maxB,f.next,jr s.dir (zm s.name) f.xs⟩ { zg s.ino f.xs with links:=(zg s.ino f.xs).links-1 } (by simp only;omega) hR1
 have hd3:=zgF (G:=G0) ⟨f.maxI,f.maxB,f.next,jr s.dir (zm s.name) f.xs⟩ s.ino (by simp only;omega) hR1 (by intro h;have h0:f.xs = []:=List.length_eq_zero_iff.1 (by rw[←hdl];exact congrArg List.length h);exact VC hf h0)
 have e0:z7 f s=if (zg s.ino f.xs).links-1=0 then ⟨f.maxI,f.maxB,f.next,qg s.ino (jr s.dir (zm s.name) f.xs)⟩ else ⟨f.maxI,f.maxB,f.next,qP { zg s.ino f.xs with links:=(zg s.ino f.xs).links-1 } (jr s.dir (zm s.name) f.xs)⟩:=rfl
 unfold jr at hg2 hd2 hd3 e0
 by_cases hz:(zg s.ino f.xs).links-1=0
 ·rw[if_pos hz]at e0
  have hz':=eq_true hz
  rw[←hxi]at hd3
  refine Fun.of (fun _=>[]) Tryz.func174 rfl (zp rfl) (by kernel_rfl) ?_;dsimp only[Tryz.f174]
  push_cast -dsimp
  refine cl (hg) ?_;push_cast -dsimp
  refine cl (hw) ?_;push_cast -dsimp
  refine cl (hd1) ?_;push_cast -dsimp
  refine cl (hg2) ?_;push_cast -dsimp [hz']
  (try simp only[lS]);repeat refine And.intro (by omega) ?_
  refine cl (hd3) ?_;push_cast -dsimp
  exact ⟨[],rfl,rfl,by push_cast -dsimp [zb,za,CLe,ze,e0,hxi]⟩
 ·rw[if_neg hz]at e0
  have hz':=eq_false hz
  refine Fun.of (fun _=>[]) Tryz.func174 rfl (zp rfl) (by kernel_rfl) ?_;dsimp only[Tryz.f174]
  push_cast -dsimp
  refine cl (hg) ?_;push_cast -dsimp
  refine cl (hw) ?_;push_cast -dsimp
  refine cl (hd1) ?_;push_cast -dsimp
  refine cl (hg2) ?_;push_cast -dsimp [hz']
  (try simp only[lS]);repeat refine And.intro (by omega) ?_
  refine cl (hd2) ?_;push_cast -dsimp
  exact ⟨[],rfl,rfl,by push_cast -dsimp [zb,za,CLe,ze,e0]⟩
theorem xl (f:FsV) (hf:FsI f) (hs:FsS f) (i:Int) (hi:zF i f.xs=true) (t:List UInt8) (ht:t.length<=10000):Fun Tryz.prog G0 169 [.agg (fsC f),.sc (.int .i64 i),.str t] (.tup [.agg (fsC (QO f i t).1),.sc (.int .i64 (QO f i t).2)]) 0:=by
 have hlen:=hs.len
 have hg:=jI (G:=G0) f i (by omega) hf.rises
 rw[hi]at hg
 have hdat:=(hs.node _ (zi hi).2.1).2.1
 have hr:=V3 (G:=G0) f hs 0 ((t.length:Int)-((zg i f.xs).data.length:Int)) (by omega) (by omega)
 have hd:=Yq (G:=G0) f { zg i f.xs with data:=t } (by omega) hf.rises
 cases hrm:Xx f 0 ((t.length:Int)-((zg i f.xs).data.length:Int)) with
 | false =>
  have e:QO f i t=(f,8):=by unfold QO;rw[hrm];rfl
  rw[hrm]at hr
  refine Fun.of (fun _=>[]) Tryz.func169 rfl (zp rfl) (by kernel_rfl) ?_;dsimp only[Tryz.f169]
  push_cast -dsimp
  refine cl (hg) ?_;push_cast -dsimp
  (try simp only[lS]);repeat refine And.intro (by omega) ?_
  refine cl (hr) ?_;push_cast -dsimp
  exact ⟨[],rfl,rfl,by push_cast -dsimp [zb,za,CLe,ze,e]⟩
 | true =>
  have e:QO f i t=(⟨f.maxI,f.maxB,f.next,qP { zg i f.xs with data:=t } f.xs⟩,0):=by unfold QO;rw[hrm];rfl
  rw[hrm]at hr
  refine Fun.of (fun _=>[]) Tryz.func169 rfl (zp rfl) (by kernel_rfl) ?_;dsimp only[Tryz.f169]
  push_cast -dsimp
  refine cl (hg) ?_;push_cast -dsimp
  (try simp only[lS]);repeat refine And.intro (by omega) ?_
  refine cl (hr) ?_;push_cast -dsimp
  refine cl (hd) ?_;push_cast -dsimp
  exact ⟨[],rfl,rfl,by push_cast -dsimp [zb,za,CLe,ze,e]⟩
end
section
open CA CB
open Go.RowKit
theorem zfM (f:FsV) (hf:FsI f) (hs:FsS f) (a b:qk) (ha:qo f a) (hb:ZT f b) (hb0:b.ino=0):Fun Tryz.prog G0 172 [.agg (fsC f),.agg (j0 a),.agg (j0 b)] (.agg (fsC (UJ f a b))) 0:=by
 have hai:=qo.ino hf ha
 have hlen:=hs.len
 have hhe:JR zX.name a.name (zg a.dir f.xs).es=true:=by rw[jM,ha.there];rfl
 have hga:=jI (G:=G0) f a.dir (by omega) hf.rises
 rw[ha.has]at hga
 have hwa:=ZY (G:=G0) (zg a.dir f.xs).es a.name (by have:=hs.es ha.has;omega) (YE hf ha.has) hhe
 have hda:=Yq (G:=G0) f (qM (zg a.dir f.xs) (zm a.name (zg a.dir f.xs).es)) (by omega) hf.rises
 obtain ⟨g1,hg1⟩:∃ g1,jr a.dir (zm a.name) f.xs=g1:=⟨_,rfl⟩
 obtain ⟨g2,hg2⟩:∃ g2,jr b.dir (qe b.name a.ino) g1=g2:=⟨_,rfl⟩
 have hR1:zZ g1:=by rw[←hg1];exact qd hf.rises
 have hR2:zZ g2:=by rw[←hg2];exact qd hR1
 have hl1:g1.length=f.xs.length:=by rw[←hg1];exact JZ hf.rises ha.has
 have hb1:zF b.dir g1=true:=by rw[←hg1,qi ha.has];exact hb.has
 have hl2:g2.length=f.xs.length:=by rw[←hg2,JZ hR1 hb1,hl1]
 have hi2:zF a.ino g2=true:=by rw[←hg2,qi hb1,←hg1,qi ha.has];exact hai
 have hgb:=jI (G:=G0) ⟨f.maxI,f.maxB,f.next,g1⟩ b.dir (by simp only;omega) hR1
 simp only at hgb
 rw[hb1]at hgb
 have hres:Ju (zg b.dir g1).es/\(zg b.dir g1).es.length<=10000:=by
  rw[←hg1,Yp ha.has]
  split
  ·refine ⟨JM (YE hf ha.has),?_⟩
   show (YZ zX.name _ _).length<=10000
   have:=Uq (key:=zX.name) a.name (zg a.dir f.xs).es
   have:=hs.es ha.has
   omega
  ·exact ⟨YE hf hb.has,hs.es hb.has⟩
 have hwb:=Uv (G:=G0) (zg b.dir g1).es b.name a.ino (by have:=hres.2;omega) hres.1
 have hdb:=Yq (G:=G0) ⟨f.maxI,f.maxB,f.next,g1⟩ (qM (zg b.dir g1) (qe b.name a.ino (zg b.dir g1).es)) (by simp only;omega) hR1
 have hgx:=jI (G:=G0) ⟨f.maxI,f.maxB,f.next,g2⟩ a.ino (by simp only;omega) hR2
 simp only at hgx
 rw[hi2]at hgx
 have hxi:=(zi hi2).2.2
 have e0:UJ f a b=if (zg a.ino g2).kind=2 then ⟨f.maxI,f.maxB,f.next,qP { zg a.ino g2 with parent:=b.dir } g2⟩ else ⟨f.maxI,f.maxB,f.next,g2⟩:=by unfold UJ;rw[hg1,hg2]
 have hdx:=fun x:zw=>Yq (G:=G0) ⟨f.maxI,f.maxB,f.next,g2⟩ x (by simp only;omega) hR2
 have hda':Fun Tryz.prog G0 203 [.agg (fsC f),.agg (Xg (qM (zg a.dir f.xs) (zm a.name (zg a.dir f.xs).es)))] (.agg [.sc (.int .i64 f.maxI),.sc (.int .i64 f.maxB),.sc (.int .i64 f.next),.own 0 75 6 (zt g1)]) 1:=by rw[←hg1];exact hda
 have hdb':Fun Tryz.prog G0 203 [.agg (fsC ⟨f.maxI,f.maxB,f.next,g1⟩),.agg (Xg (qM (zg b.dir g1) (qe b.name a.ino (zg b.dir g1).es)))] (.agg [.sc (.int .i64 f.maxI),.sc (.int .i64 f.maxB),.sc (.int .i64 f.next),.own 0 75 6 (zt g2)]) 1:=by rw[←hg2];exact hdb
 have hb0':=eq_true hb0
 by_cases hk:(zg a.ino g2).kind=2
 ·rw[if_pos hk]at e0
  have hk':=eq_true hk
  have hd:=hdx { zg a.ino g2 with parent:=b.dir }
  refine Fun.of (fun _=>[]) Tryz.func172 rfl (zp rfl) (by kernel_rfl) ?_;dsimp only[Tryz.f172]
  push_cast -dsimp [hb0']
  refine cl (hga) ?_;push_cast -dsimp
  refine cl (hwa) ?_;push_cast -dsimp
  refine cl (hda') ?_;push_cast -dsimp
  refine cl (hgb) ?_;push_cast -dsimp
  refine cl (hwb) ?_;push_cast -dsimp
  refine cl (hdb') ?_;push_cast -dsimp
  refine cl (hgx) ?_;push_cast -dsimp [hk']
  refine cl (hd) ?_;push_cast -dsimp
  exact ⟨[],rfl,rfl,by push_cast -dsimp [zb,za,CLe,ze,e0]⟩
 ·rw[if_neg hk]at e0
  have hk':=eq_false hk
  have hsm:qP (zg a.ino g2) g2=g2:=ND hR2 (by rw[hxi];exact (zi hi2).1)
  have hd:=hdx (zg a.ino g2)
  rw[hsm]at hd
  refine Fun.of (fun _=>[]) Tryz.func172 rfl (zp rfl) (by kernel_rfl) ?_;dsimp only[Tryz.f172]
  push_cast -dsimp [hb0']
  refine cl (hga) ?_;push_cast -dsimp
  refine cl (hwa) ?_;push_cast -dsimp
  refine cl (hda') ?_;push_cast -dsimp
  refine cl (hgb) ?_;push_cast -dsimp
  refine cl (hwb) ?_;push_cast -dsimp
  refine cl (hdb') ?_;push_cast -dsimp
  refine cl (hgx) ?_;push_cast -dsimp [hk']
  refine cl (hd) ?_;push_cast -dsimp
  exact ⟨[],rfl,rfl,by push_cast -dsimp [zb,za,CLe,ze,e0]⟩
end
section
open Go.RowKit
section
variable {G:zk}
theorem kC (rows:List (List C)) (hk:∀ r∈rows,r.length=4) (hs:qU rows) (hl:rows.length<=100000) :
  Jz Tryz.prog G 214 [.sl 4 rows] [] 0 (zdX 4 rows):=by
 refine Jz.bySlice (fun h=>?_) (fun h a cap hr=>?_)
 ·refine Jz.of (fun i=>if i=1000000+25 then [true,true] else []) Tryz.func214 rfl (zp rfl) (by kernel_rfl) ?_;dsimp only[Tryz.f214]
  push_cast -dsimp
  refine ⟨h,XU Ul VX rfl rfl (by decide) rfl (zG hk) rfl (Nat.le_refl _) (Nat.le_refl _) (by omega) (by omega) (fun hc=>absurd hc ?_) (fun _ c hc hm=>?_)⟩
  ·have:=List.length_pos_iff.2 h;omega
  ·push_cast -dsimp
   rw[Nat.zero_add]at hc
   refine ⟨_,_,_,⟨⟨rfl,.inl ⟨h,c,hc,hm,rfl,rfl⟩⟩,Nat.zero_le _⟩,[],rfl,rfl,?_,by push_cast -dsimp [zb,za,CLe,ze]⟩
   push_cast -dsimp [zb,za,CLe,ze]
   exact zQ (zD hs)
 ·cases a with
  | none =>
   refine Jz.of (fun i=>if i=1000000+25 then [true,true] else []) Tryz.func214 rfl (zp rfl) (by kernel_rfl) ?_;dsimp only[Tryz.f214]
   push_cast -dsimp [hr,Option.isNone_none]
   exact ⟨_,_,_,⟨⟨rfl,.inr ⟨h,.inl ⟨rfl,rfl⟩⟩⟩,Nat.zero_le _⟩,[],rfl,rfl,by push_cast -dsimp [zb,za,CLe,ze],by push_cast -dsimp [zb,za,CLe,ze]⟩
  | some a =>
   refine Jz.of (fun i=>if i=1000000+25 then [true,true] else []) Tryz.func214 rfl (zp rfl) (by kernel_rfl) ?_;dsimp only[Tryz.f214]
   push_cast -dsimp [hr,Option.isNone_some]
   have hx:C.xs? 4 [[]] (C.sc (.slice (some a) 0 cap))=some (0,[]):=by simp[C.xs?,hr]
   refine XU Ul VX hx rfl (by decide) rfl rfl rfl (Nat.le_refl _) (Nat.le_refl _) (by omega) (by omega) (fun _=>?_) (fun hc=>absurd hc (by omega))
   push_cast -dsimp
   exact ⟨_,_,_,⟨⟨rfl,.inr ⟨h,.inr ⟨rfl,rfl⟩⟩⟩,Nat.zero_le _⟩,[],rfl,rfl,by (push_cast -dsimp [zb,za,CLe,ze];simp[spl,ze]),by push_cast -dsimp [zb,za,CLe,ze]⟩
theorem Vf (rows:List (List C)) (x:List C) (i c e:Nat) (hk:∀ r∈rows,r.length=4) (hx:x.length=4) (hs:qU rows) (hsx:(x.all C.stayB)=true) (hl:rows.length<=100000) (hi:i<=rows.length) (hc:rows.length<=c) (hcm:c<=9223372036854775807) :
  Jz Tryz.prog G 213 [.bs 0 0 4 rows.length c,.sc (.int .i64 i),.own 0 e 4 [x]] [qm 4 rows c] 1 (znZ 4 (c*4) (rows.take i++x :: rows.drop i)):=by
 refine Jz.of (fun j=>if j=1000000+25 then [true,true] else if j=11 then [false,false,false,false,false,false,false,false,true] else if j=15 then [false,false,false,false,false,false,false,false,true] else []) Tryz.func213 rfl (zp rfl) (by kernel_rfl) ?_;dsimp only[Tryz.f213]
 push_cast -dsimp
 have hlen:(rows.take i++x :: rows.drop i).length=rows.length+1:=by simp;omega
 have hki:∀ r∈rows.take i++x :: rows.drop i,r.length=4:=fun r hr=>by
  rcases List.mem_append.1 hr with hr | hr
  ·exact hk r (List.mem_of_mem_take hr)
  ·rcases List.mem_cons.1 hr with rfl | hr
   ·exact hx
   ·exact hk r (List.mem_of_mem_drop hr)
 have hsi:qU (rows.take i++x :: rows.drop i):=fun r hr=>by
  rcases List.mem_append.1 hr with hr | hr
  ·exact hs r (List.mem_of_mem_take hr)
  ·rcases List.mem_cons.1 hr with rfl | hr
   ·exact hsx
   ·exact hs r (List.mem_of_mem_drop hr)
 have hbl:=Jm hk hc
 have hfl:=zG hk
 have hxl:[x].flatten.length=1*4:=by simp[hx]
 have hpre:(qm 4 rows c).take rows.flatten.length=rows.flatten:=by unfold qm;rw[List.take_left]
 refine ⟨hc,⟨by omega,hi⟩,br (fun h=>?_) (fun h=>?_)⟩
 ·push_cast -dsimp
  refine XU Ul VX rfl rfl (by decide) rfl hxl rfl (by rw[hbl];omega) hc (by simp;omega) (by simp;omega) (fun h1=>?_) (fun h1 c' h2 h3=>?_)
  ·push_cast -dsimp
   have hi':i=rows.length:=of_decide_eq_true h
   refine ⟨_,_,_,⟨⟨rfl,c,by rw[hlen];exact h1,hcm,.inl ⟨rfl,rfl⟩⟩,Nat.le_refl _⟩,[],rfl,rfl,?_,by push_cast -dsimp [zb,za,CLe,ze,hlen]⟩
   push_cast -dsimp [zb,za,CLe,ze]
   have h6:rows.length*4+4<=c*4:=by have:rows.length+1<=c:=h1;omega
   refine Jg hki hsi (by rw[hlen];exact h1) (by rw[X7 (by rw[hbl,hx];exact h6),hbl]) ?_
   rw[hlen,hi',List.take_length,List.drop_length]
   unfold spl
   rw[←hfl,hpre,List.take_left' (by simp[hx,hfl];omega)]
   simp
  ·push_cast -dsimp
   have hi':i=rows.length:=of_decide_eq_true h
   have h2':rows.length+1<=c':=h2
   refine ⟨_,_,_,⟨⟨rfl,c',by rw[hlen];exact h2,h3,.inr ⟨rfl,rfl⟩⟩,Nat.le_of_ble_eq_true rfl⟩,[],rfl,rfl,?_,by push_cast -dsimp [zb,za,CLe,ze,hlen]⟩
   push_cast -dsimp [zb,za,CLe,ze]
   refine ⟨YW hbl,Jg hki hsi (by rw[hlen];exact h2) (by simp[hx,hbl];omega) ?_⟩
   rw[hlen,hi',List.take_length,List.drop_length,←hfl,hpre,List.take_left' (by simp[hx,hfl];omega)]
   simp
 ·have hne:i≠rows.length:=of_decide_eq_false h
  push_cast -dsimp
  refine ⟨⟨by omega,by omega⟩,br (fun h1=>?_) (fun h1=>?_)⟩
  ·have h1':(c:Int)<(rows.length:Int)+1:=of_decide_eq_true h1
   push_cast -dsimp
   (try simp only[lS]);repeat refine And.intro (by omega) ?_
   refine zi5 Ul zle VX rfl (by decide) rfl rfl (by rw[hbl];omega) (by omega) (by omega) (by omega) (by omega) (by omega) (fun c' B h2 h3 hBl hBt=>?_)
   have e1:((rows.length:Int)+1-(i:Int)).toNat=rows.length+1-i:=by omega
   rw[e1]at h2 ⊢
   have e2:i+(rows.length+1-i)=rows.length+1:=by omega
   rw[e2]at h2 ⊢
   push_cast -dsimp
   (try simp only[lS]);repeat refine And.intro (by omega) ?_
   refine Xa Ul VX rfl rfl hxl (by rw[hBl];omega) (fun B1 hB1 hl1=>?_)
   rw[hBl]at hl1
   push_cast -dsimp
   (try simp only[lS]);repeat refine And.intro (by omega) ?_
   have hbp:=YX (c:=c) hk hi
   refine Xa Ul VX (V6 rfl (by rw[hbl];omega)) rfl (by rw[hbp,List.length_drop,hfl];omega) (by rw[hl1];omega) (fun B2 hB2 hl2=>?_)
   rw[hl1]at hl2
   have hX:[x].flatten.take (min [x].length (rows.length+1-i)*4)=x:=by
    rw[List.length_singleton,Nat.min_eq_left (by omega),List.take_of_length_le (by omega)];simp
   rw[hX]at hB1
   rw[hbp,show min (rows.length-i) (rows.length-i)*4=(rows.length-i)*4 by omega,List.take_of_length_le (by rw[List.length_drop,hfl];omega),hB1]at hB2
   push_cast -dsimp
   refine ⟨_,_,_,⟨⟨rfl,c',by rw[hlen];exact h2,h3,.inr ⟨rfl,rfl⟩⟩,Nat.le_of_ble_eq_true rfl⟩,[],rfl,rfl,?_,by push_cast -dsimp [zb,za,CLe,ze,hlen]⟩
   push_cast -dsimp [zb,za,CLe,ze]
   refine ⟨YW hbl,Jg hki hsi (by rw[hlen];exact h2) hl2 ?_⟩
   rw[hlen,←XO hk,hB2]
   have hg:=kT (cs:=B) (L:=rows.flatten) (X:=x) (p:=i*4) (q:=(i+1)*4) (by omega) (by omega) (by
    rw[hBt,List.drop_zero];unfold qm;rw[List.take_append_of_le_length (by omega)]) (by omega)
   rw[hfl,hx]at hg
   rw[←hg]
   congr 1;omega
  ·have h1':¬(c:Int)<(rows.length:Int)+1:=of_decide_eq_false h1
   push_cast -dsimp
   (try simp only[lS]);repeat refine And.intro (by omega) ?_
   refine ziB (M2 (P:=Tryz.prog) (tR:=4) Tryz.func239 (by kernel_rfl) (by kernel_rfl) (by kernel_rfl) (by kernel_rfl) Ul VX rfl (List.ne_nil_of_length_pos (by rw[hbl];omega)) (by simp) (by omega)) ?_
   push_cast -dsimp
   (try simp only[lS]);repeat refine And.intro (by omega) ?_
   have hbp:=YX (c:=c) hk hi
   refine Xa Ul VX (V6 rfl (by rw[hbl];omega)) rfl (by simp[hbl];omega) (by rw[hbl];omega) (fun B1 hB1 hl1=>?_)
   rw[hbl]at hl1
   rw[List.take_take,Nat.min_eq_left (by omega),show min (rows.length+1-i) (rows.length-i)*4=(rows.length-i)*4 by omega,hbp]at hB1
   push_cast -dsimp
   (try simp only[lS]);repeat refine And.intro (by omega) ?_
   refine Xa Ul VX rfl rfl hxl (by rw[hl1];omega) (fun B2 hB2 hl2=>?_)
   rw[hl1]at hl2
   have hX:[x].flatten.take (min [x].length (rows.length+1-i)*4)=x:=by
    rw[List.length_singleton,Nat.min_eq_left (by omega),List.take_of_length_le (by omega)];simp
   rw[hX,hB1]at hB2
   push_cast -dsimp
   have hcc:rows.length+1<=c:=by omega
   refine ⟨_,_,_,⟨⟨rfl,c,by rw[hlen];exact hcc,hcm,.inl ⟨rfl,rfl⟩⟩,Nat.le_of_ble_eq_true rfl⟩,[],rfl,rfl,?_,by push_cast -dsimp [zb,za,CLe,ze,hlen]⟩
   push_cast -dsimp [zb,za,CLe,ze]
   refine Jg hki hsi (by rw[hlen];exact hcc) hl2 ?_
   rw[hlen,←XO hk,hB2]
   have hg:=Ub (cs:=qm 4 rows c) (L:=rows.flatten) (X:=x) (p:=i*4) (q:=(i+1)*4) (by omega) (by omega) hpre (by omega)
   rw[hfl,hx]at hg
   rw[←hg]
   congr 1;omega
theorem vo {e:Nat} (x:List C) (hx:x.length=4) (hsx:(x.all C.stayB)=true) :
  Jz Tryz.prog G 213 [.sc (.slice none 0 0),.sc (.int .i64 0),.own 0 e 4 [x]] [] 1 (fun r bx' n=>n=0/\∃ c,1<=c/\c<=9223372036854775807/\r = .bs 0 0 4 1 c/\bx' = [qm 4 [x] c]):=by
 refine Jz.of (fun j=>if j=1000000+25 then [true,true] else if j=11 then [false,false,false,false,false,false,false,false,true] else if j=15 then [false,false,false,false,false,false,false,false,true] else []) Tryz.func213 rfl (zp rfl) (by kernel_rfl) ?_;dsimp only[Tryz.f213]
 push_cast -dsimp
 refine HM Ul VX rfl rfl (by decide) rfl (by simp[hx]) (by simp) (by simp) (by simp) (fun c h1 h2=>?_)
 push_cast -dsimp
 refine ⟨_,_,_,⟨⟨rfl,c,h1,h2,rfl,rfl⟩,Nat.zero_le _⟩,[],rfl,rfl,?_,by push_cast -dsimp [zb,za,CLe,ze]⟩
 push_cast -dsimp [zb,za,CLe,ze]
 have:=zQ (src:=[]) (n:=1) (zD (k:=4) (c:=c) (rows:=[x]) fun r hr=>by
  rw[List.mem_singleton.1 hr];exact hsx)
 unfold qm at this ⊢
 simpa using this
end
end
section
open CA CB
open Go.RowKit
abbrev Jv (k:zT):List C:=[.sc (.int .i64 k.slot),.sc (.int .i64 k.ino),.sc (.bool k.content),.str k.data]
abbrev zJ (ks:List zT):List (List C):=ks.map Jv
theorem Vj (ks:List zT) (i:Nat) (h:i<ks.length):(zJ ks)[i]?=some (Jv ks[i]):=by simp[List.getElem?_map,List.getElem?_eq_getElem h]
abbrev zl7 (w:jt):List C:=[.sc (.int .i64 w.fs.maxI),.sc (.int .i64 w.fs.maxB),.sc (.int .i64 w.fs.next),.sl 6 (zt w.fs.xs),.sl 4 (zJ w.kept),.sl 6 (zt w.pool)]
abbrev X9 (w:jt):C:=.agg (zl7 w)
theorem zd2 (a b:Int):Vl a b<0↔j3.lt a b=true:=by
 show Vl a b<0↔decide (a<b)=true
 unfold Vl
 rw[decide_eq_true_eq]
 split
 ·simp;assumption
 ·split<;>omega
theorem zdP (a b:Int):Vl a b=0↔a=b:=by
 unfold Vl
 split
 ·constructor
  ·intro h;cases h
  ·intro h;omega
 ·split
  ·constructor
   ·intro h;cases h
   ·intro h;omega
  ·constructor
   ·intro _;omega
   ·intro _;rfl
section
variable {G:zk}
theorem zhK (k:zT):Fun Tryz.prog G 206 [.agg (Jv k)] (.sc (.int .i64 k.slot)) 0:=by
 refine Fun.of (fun _=>[]) Tryz.func206 rfl (zp rfl) (by kernel_rfl) ?_;dsimp only[Tryz.f206]
 push_cast -dsimp
 exact ⟨[],rfl,rfl,by push_cast -dsimp [zb,za,CLe,ze]⟩
theorem vf (k:zT) (n:Int):Fun Tryz.prog G 235 [.agg (Jv k),.sc (.int .i64 n),.row [.clo (.func 206) [] []]] (.sc (.int .i64 (Vl k.slot n))) 0:=by
 refine Fun.of (fun _=>[]) Tryz.func235 rfl (zp rfl) (by kernel_rfl) ?_;dsimp only[Tryz.f235]
 push_cast -dsimp
 refine cl (zhK k) ?_;push_cast -dsimp
 refine cl (xh k.slot n) ?_;push_cast -dsimp
 exact ⟨[],rfl,rfl,by push_cast -dsimp [zb,za,CLe,ze]⟩
theorem GI (ks:List zT) (n:Int) (hl:ks.length<=100000) (hR:qD j3 zT.slot ks) :
  Fun Tryz.prog G 234 [.sl 4 (zJ ks),.sc (.int .i64 n),.clo (.func 235) [] [.row [.clo (.func 206) [] []]]] (.tup [.sc (.int .i64 (qh j3 zT.slot n ks:Nat)),.sc (.bool (JR zT.slot n ks))]) 0:=by
 refine Fun.of (fun _=>[]) Tryz.func234 rfl (zp rfl) (by kernel_rfl) ?_;dsimp only[Tryz.f234]
 push_cast -dsimp
 refine loop (fun p:Nat×Nat=>⟨[(0,.sl 4 (zJ ks)),(1,.sc (.int .i64 n)),(2,.clo (.func 235) [] [.row [.clo (.func 206) [] []]]),(8,.sc (.int .i64 (ks.length:Nat))),(9,.sc (.int .i64 p.1)),(10,.sc (.int .i64 p.2))],[],0,0⟩)
  (fun p=>p.1<=p.2/\p.2<=ks.length/\(∀ t (h:t<ks.length),t<p.1->(j3).lt (zT.slot ks[t]) n=true)/\∀ t (h:t<ks.length),p.2<=t->(j3).lt (zT.slot ks[t]) n=false) (fun p=>p.2-p.1) (0,ks.length) ⟨Nat.zero_le _,Nat.le_refl _,fun t _ h=>by (simp at h),fun t h h'=>by (dsimp only at h';omega)⟩ ?_ ?_
 ·exact zS.mk [] rfl rfl (Nat.le_refl _) rfl (by push_cast -dsimp [zb,za,CLe,ze,List.length_map]) (by push_cast -dsimp [zb,za,CLe,ze])
 ·rintro ⟨i,j⟩ ⟨h1,h2,h3,h4⟩
  dsimp only at h1 h2 h3 h4 ⊢
  by_cases h:i<j
  ·obtain ⟨m,hm⟩:∃ m,m=(i+j) / 2:=⟨_,rfl⟩
   have hmi:((i:Int)+(j:Int)) / 2=(m:Int):=by omega
   have hml:m<ks.length:=by omega
   have hat:=Vj ks m hml
   have hlt:=(zd2 ks[m].slot n)
   push_cast -dsimp [h,hmi,hat]
   (try simp only[lS]);repeat refine And.intro (by omega) ?_
   refine cl ((vf ks[m] n)) ?_;push_cast -dsimp
   cases hc:(j3).lt (zT.slot ks[m]) n with
   | true =>
    have hcv:(Vl ks[m].slot n<0)=True:=eq_true (hlt.mpr hc)
    push_cast -dsimp [hcv]
    (try simp only[lS]);repeat refine And.intro (by omega) ?_
    refine ⟨(m+1,j),⟨by omega,h2,fun t ht hlt2=>?_,h4⟩,by dsimp only;omega,zS.mk [] rfl rfl (Nat.le_refl _) rfl (by push_cast -dsimp [zb,za,CLe,ze]) (by push_cast -dsimp [zb,za,CLe,ze])⟩
    dsimp only at hlt2
    rcases Nat.lt_or_ge t m with q | q
    ·exact (j3).tr ((List.pairwise_iff_getElem.1 hR) t m ht hml q) hc
    ·have:t=m:=by omega
     subst this;exact hc
   | false =>
    have hcv:(Vl ks[m].slot n<0)=False:=eq_false (fun e=>by have h7:(j3).lt (zT.slot ks[m]) n=true:=hlt.mp e;rw[hc]at h7;cases h7)
    push_cast -dsimp [hcv]
    (try simp only[lS]);repeat refine And.intro (by omega) ?_
    refine ⟨(i,m),⟨by omega,by omega,h3,fun t ht hge=>?_⟩,by dsimp only;omega,zS.mk [] rfl rfl (Nat.le_refl _) rfl (by push_cast -dsimp [zb,za,CLe,ze]) (by push_cast -dsimp [zb,za,CLe,ze])⟩
    dsimp only at hge
    rcases Nat.lt_or_ge m t with q | q
    ·cases h9:(j3).lt (zT.slot ks[t]) n with
     | false=>rfl
     | true=>have:=(j3).tr ((List.pairwise_iff_getElem.1 hR) m t hml ht q) h9;rw[hc]at this;cases this
    ·have:t=m:=by omega
     subst this;exact hc
  ·have hij:i=j:=by omega
   subst hij
   have hrk:=QG (o:=j3) (key:=zT.slot) n ks i h2 h3 h4
   push_cast -dsimp [h]
   refine br (fun hx=>?_) (fun hx=>?_)
   ·have hx:i<ks.length:=by simpa using hx
    have hat:=Vj ks i hx
    have hh:=xI n hR hrk hx
    push_cast -dsimp [hx,hat]
    (try simp only[lS]);repeat refine And.intro (by omega) ?_
    refine cl ((vf ks[i] n)) ?_;push_cast -dsimp
    have hcv:decide (Vl ks[i].slot n=0)=JR zT.slot n ks:=by
     rw[hh]
     exact decide_eq_decide.2 (zdP ks[i].slot n)
    push_cast -dsimp [hcv]
    exact ⟨[],rfl,rfl,by push_cast -dsimp [zb,za,CLe,ze,hrk]⟩
   ·have hx:¬i<ks.length:=by simpa using hx
    have hh:=HK n hR (by omega)
    push_cast -dsimp [hx]
    exact ⟨[],rfl,rfl,by push_cast -dsimp [zb,za,CLe,ze,hrk,hh]⟩
theorem x8 (ks:List zT) (n:Int) (hl:ks.length<=100000) (hR:qD j3 zT.slot ks):Fun Tryz.prog G 205 [.sl 4 (zJ ks),.sc (.int .i64 n),.clo (.func 206) [] []] (.tup [.sc (.int .i64 (qh j3 zT.slot n ks:Nat)),.sc (.bool (JR zT.slot n ks))]) 0:=by
 refine Fun.of (fun _=>[]) Tryz.func205 rfl (zp rfl) (by kernel_rfl) ?_;dsimp only[Tryz.f205]
 push_cast -dsimp
 refine G9 [.sl 4 (zJ ks),.sc (.int .i64 n),.clo (.func 235) [] [.row [.clo (.func 206) [] []]]] (GI ks n hl hR) rfl ?_ ?_
 ·simp[Jc,JJ,C.frz,C.frzL]
 push_cast -dsimp
 exact ⟨[],rfl,rfl,by push_cast -dsimp [zb,za,CLe,ze]⟩
def zcv (n:Int) (ks:List zT):zT:=(Ja zT.slot n ks).getD zjM
theorem NH (w:jt) (n:Int) (hl:w.kept.length<=100000) (hR:qD j3 zT.slot w.kept):Fun Tryz.prog G 173 [X9 w,.sc (.int .i64 n)] (.tup [.agg (Jv (zcv n w.kept)),.sc (.bool (MR n w.kept))]) 0:=by
 obtain ⟨_,_,h3,h4⟩:=Z5 n hR
 have h:=x8 (G:=G) w.kept n hl hR
 cases hh:JR zT.slot n w.kept with
 | false =>
  have hf:zcv n w.kept=zjM:=by unfold zcv;rw[(h4 hh).1];rfl
  have he:MR n w.kept=false:=hh
  rw[hh]at h
  refine Fun.of (fun _=>[]) Tryz.func173 rfl (zp rfl) (by kernel_rfl) ?_;dsimp only[Tryz.f173]
  push_cast -dsimp
  refine cl (h) ?_;push_cast -dsimp
  exact ⟨[],rfl,rfl,by push_cast -dsimp [zb,za,CLe,ze,hf,he,zjM]⟩
 | true =>
  obtain ⟨hlt,_,g2,_⟩:=h3 hh
  have hf:zcv n w.kept=w.kept[qh j3 zT.slot n w.kept]:=by unfold zcv;rw[g2];rfl
  have he:MR n w.kept=true:=hh
  have hat:=Vj w.kept _ hlt
  rw[hh]at h
  refine Fun.of (fun _=>[]) Tryz.func173 rfl (zp rfl) (by kernel_rfl) ?_;dsimp only[Tryz.f173]
  push_cast -dsimp
  refine cl (h) ?_;push_cast -dsimp [hat]
  (try simp only[lS]);repeat refine And.intro (by omega) ?_
  exact ⟨[],rfl,rfl,by push_cast -dsimp [zb,za,CLe,ze,hf,he]⟩
end
end
section
open Go.RowKit Go.ChangeMaps Go.ChangeShapes Go.WideShapes Go.Deep Go.Joins
section
variable {H:Type} {enc:TypeId×Value->H} {P:Program} {W:World}
end
end
section
open CA CB
open Go.RowKit
section
variable {G:zk}
theorem zP {ks:List zT}:∀ r∈zJ ks,r.length=4:=fun r hr=>by
 obtain ⟨x,_,rfl⟩:=List.mem_map.1 hr;rfl
theorem zq {ks:List zT}:qU (zJ ks):=fun r hr=>by
 obtain ⟨x,_,rfl⟩:=List.mem_map.1 hr;rfl
theorem NQ (w:jt) (k:zT) (hl:w.kept.length<=90000) (hR:qD j3 zT.slot w.kept) (hn:MR k.slot w.kept=false):Fun Tryz.prog G 179 [X9 w,.agg (Jv k)] (X9 { w with kept:=qw k w.kept }) 0:=by
 obtain ⟨_,_,h3,h4⟩:=Z5 (o:=j3) k.slot hR
 have hll:(zJ w.kept).length=w.kept.length:=List.length_map ..
 have hat:=x8 (G:=G) w.kept k.slot (by omega) hR
 have hrl:=QZ (o:=j3) (key:=zT.slot) k.slot w.kept
 have hn':JR zT.slot k.slot w.kept=false:=hn
 rw[hn']at hat
 have hw:qw k w.kept=w.kept.take (qh j3 zT.slot k.slot w.kept)++k :: w.kept.drop (qh j3 zT.slot k.slot w.kept):=(h4 hn').2.2 k rfl
 have hset:zJ (qw k w.kept)=(zJ w.kept).take (qh j3 zT.slot k.slot w.kept)++Jv k :: (zJ w.kept).drop (qh j3 zT.slot k.slot w.kept):=by rw[hw];simp
 have hsl:(zJ (qw k w.kept)).length=(zJ w.kept).length+1:=by rw[hset];simp;omega
 refine Fun.ofF (fun i=>if i=2 then Qj [(0,.pure),(1,.pure),(2,.pure),(4,.pure),(5,.pure),(6,.pure),(3,.flt [3,4,5]),(7,.bar),(8,.pure),(9,.pure),(10,.bar)] else []) Tryz.func179 rfl (zp rfl) (by kernel_rfl) ?_;dsimp only[Tryz.f179]
 push_cast -dsimp
 refine cl (hat) ?_;push_cast -dsimp
 refine zkK [] (kC (zJ w.kept) zP zq (by omega)) (by decide) (by simp) (by push_cast -dsimp) (by push_cast -dsimp) (fun r bx' m hp=>?_)
 obtain ⟨rfl,⟨hne,c,h1,h2,rfl,rfl⟩ | ⟨he,⟨rfl,rfl⟩ | ⟨rfl,rfl⟩⟩⟩:=hp
 ·have hbl:=Jm zP h1
  have hre:∀ fp fo,C.reL fp fo (qm 4 (zJ w.kept) c)=qm 4 (zJ w.kept) c:=fun fp fo=>zC (zD zq)
  have hpos:=List.length_pos_iff.2 hne
  have hre2:∀ fp fo c,C.reL fp fo (qm 4 (zJ (qw k w.kept)) c)=qm 4 (zJ (qw k w.kept)) c:=fun fp fo c=>zC (zD zq)
  push_cast -dsimp [hre]
  refine Jp [4] [0] (Vf (e:=92) (zJ w.kept) (Jv k) (qh j3 zT.slot k.slot w.kept) c zP rfl zq rfl (by omega) (by omega) h1 h2) rfl (by decide) (by decide) (by simp) (by push_cast -dsimp) (by push_cast -dsimp [hre]) (fun r bx' m hp=>?_)
  rw[←hset]at hp
  obtain ⟨rfl,c',g1,g2,⟨rfl,rfl⟩ | ⟨rfl,rfl⟩⟩:=hp
  ·push_cast -dsimp [hre2,hre]
   exact ⟨[(4,92,4,zJ (qw k w.kept),c')],[],zy rfl (by omega) g1 g2 zP zq,rfl,rfl,by push_cast -dsimp [zb,za,CLe,ze]⟩
  ·have hra:∀ fp fo,C.reL fp fo (List.replicate (c*4) .any)=List.replicate (c*4) .any:=fun fp fo=>zC (by simp[List.all_replicate,C.stayB])
   push_cast -dsimp [hre2,hre,hra]
   exact ⟨[(5,92,4,zJ (qw k w.kept),c')],[],zy rfl (by omega) g1 g2 zP zq,rfl,rfl,by push_cast -dsimp [zb,za,CLe,ze]⟩
 ·have he:w.kept = []:=by simpa using he
  have hr0:qh j3 zT.slot k.slot w.kept=0:=by rw[he];rfl
  have hs1:qw k w.kept = [k]:=by rw[he];rfl
  push_cast -dsimp [hr0]
  refine Jp [] [0] (vo (e:=92) (Jv k) rfl rfl) rfl (by decide) (by decide) (by simp) (by push_cast -dsimp) (by push_cast -dsimp) (fun r bx' m hp=>?_)
  obtain ⟨rfl,c,g1,g2,rfl,rfl⟩:=hp
  have hre:∀ fp fo,C.reL fp fo (qm 4 [Jv k] c)=qm 4 [Jv k] c:=fun fp fo=>zC (zD (zq (ks:=[k])))
  push_cast -dsimp [hre]
  exact ⟨[(3,92,4,zJ [k],c)],[],zy rfl (by omega) g1 g2 zP zq,rfl,rfl,by push_cast -dsimp [zb,za,CLe,ze,hs1]⟩
 ·have he:w.kept = []:=by simpa using he
  have hr0:qh j3 zT.slot k.slot w.kept=0:=by rw[he];rfl
  have hs1:qw k w.kept = [k]:=by rw[he];rfl
  push_cast -dsimp [hr0]
  refine Jp [3] [0] (Vf (e:=92) [] (Jv k) 0 0 (fun r hr=>by cases hr) rfl (fun r hr=>by cases hr) rfl (by simp) (by simp) (by simp) (by simp)) rfl (by decide) (by decide) (by simp) (by push_cast -dsimp) (by push_cast -dsimp [qm]) (fun r bx' m hp=>?_)
  obtain ⟨rfl,c,g1,g2,hp⟩:=hp
  have hre:∀ fp fo,C.reL fp fo (qm 4 [Jv k] c)=qm 4 [Jv k] c:=fun fp fo=>zC (zD (zq (ks:=[k])))
  rcases hp with ⟨rfl,rfl⟩ | ⟨rfl,rfl⟩
  ·push_cast -dsimp [hre]
   exact ⟨[(3,92,4,zJ [k],c)],[],zy rfl (Nat.lt_of_lt_of_le (Nat.zero_lt_succ _) g1) g1 g2 zP zq,rfl,rfl,by push_cast -dsimp [zb,za,CLe,ze,hs1]⟩
  ·push_cast -dsimp [hre]
   exact ⟨[(4,92,4,zJ [k],c)],[],zy rfl (Nat.lt_of_lt_of_le (Nat.zero_lt_succ _) g1) g1 g2 zP zq,rfl,rfl,by push_cast -dsimp [zb,za,CLe,ze,hs1]⟩
theorem Q0 (f:FsV) (hf:FsI f) (hs:FsS f) (p:List UInt8) (hp:p.length<=100000):Fun Tryz.prog G0 170 [.agg (fsC f),.str p] (.tup [.agg (j0 (isV f p true).1),.agg (Xg (isV f p true).2.1),.sc (.int .i64 (isV f p true).2.2)]) 0:=by
 have h1:=vz f hf hs p hp
 have h2:=jI (G:=G0) f (atV f p).1.ino (by have:=hs.len;omega) hf.rises
 have e1:(isV f p true).1=(atV f p).1:=rfl
 have e2:(isV f p true).2.1=zg (atV f p).1.ino f.xs:=rfl
 by_cases h0:(atV f p).2=0
 ·have h0':=eq_true h0
  cases hz:zF (atV f p).1.ino f.xs with
  | true =>
   have e3:(isV f p true).2.2=0:=by unfold isV;simp[h0,hz]
   rw[hz]at h2
   refine Fun.of (fun i=>if i=4 then Qj [(0,.pure),(1,.pure),(2,.pure),(3,.flt [1,2]),(4,.flt [2]),(5,.pure)] else if i=6 then Y9 2 [true,false] else if i=7 then Y9 2 [true,false] else []) Tryz.func170 rfl (zp rfl) (by kernel_rfl) ?_;dsimp only[Tryz.f170]
   push_cast -dsimp
   refine cl (h1) ?_;push_cast -dsimp
   refine cl (h2) ?_;push_cast -dsimp [h0']
   exact ⟨[],rfl,rfl,by push_cast -dsimp [zb,za,CLe,ze,e1,e2,e3]⟩
  | false =>
   have e3:(isV f p true).2.2=1:=by unfold isV;simp[h0,hz]
   rw[hz]at h2
   refine Fun.of (fun i=>if i=4 then Qj [(0,.pure),(1,.pure),(2,.pure),(3,.flt [1,2]),(4,.flt [2]),(5,.pure)] else if i=6 then Y9 2 [true,false] else if i=7 then Y9 2 [true,false] else []) Tryz.func170 rfl (zp rfl) (by kernel_rfl) ?_;dsimp only[Tryz.f170]
   push_cast -dsimp
   refine cl (h1) ?_;push_cast -dsimp
   refine cl (h2) ?_;push_cast -dsimp [h0']
   exact ⟨[],rfl,rfl,by push_cast -dsimp [zb,za,CLe,ze,e1,e2,e3]⟩
 ·have h0':=eq_false h0
  have e3:(isV f p true).2.2=(atV f p).2:=by unfold isV;simp[h0]
  refine Fun.of (fun i=>if i=4 then Qj [(0,.pure),(1,.pure),(2,.pure),(3,.flt [1,2]),(4,.flt [2]),(5,.pure)] else if i=6 then Y9 2 [true,false] else if i=7 then Y9 2 [true,false] else []) Tryz.func170 rfl (zp rfl) (by kernel_rfl) ?_;dsimp only[Tryz.f170]
  push_cast -dsimp
  refine cl (h1) ?_;push_cast -dsimp
  refine cl (h2) ?_;push_cast -dsimp [h0',ite_self]
  exact ⟨[],rfl,rfl,by push_cast -dsimp [zb,za,CLe,ze,e1,e2,e3]⟩
end
end
section
open CA CB
open Go.RowKit
section
variable {G:zk}
theorem zfO (k:zw):Fun Tryz.prog G 176 [.agg (Xg k)] (.sc (.int .i64 k.ino)) 0:=by
 refine Fun.of (fun _=>[]) Tryz.func176 rfl (zp rfl) (by kernel_rfl) ?_;dsimp only[Tryz.f176]
 push_cast -dsimp
 exact ⟨[],rfl,rfl,by push_cast -dsimp [zb,za,CLe,ze]⟩
theorem y8 (k:zw) (n:Int):Fun Tryz.prog G 209 [.agg (Xg k),.sc (.int .i64 n),.row [.clo (.func 176) [] []]] (.sc (.int .i64 (Vl k.ino n))) 0:=by
 refine Fun.of (fun _=>[]) Tryz.func209 rfl (zp rfl) (by kernel_rfl) ?_;dsimp only[Tryz.f209]
 push_cast -dsimp
 refine cl (zfO k) ?_;push_cast -dsimp
 refine cl (xh k.ino n) ?_;push_cast -dsimp
 exact ⟨[],rfl,rfl,by push_cast -dsimp [zb,za,CLe,ze]⟩
theorem NN (ks:List zw) (n:Int) (hl:ks.length<=100000) (hR:qD j3 zw.ino ks) :
  Fun Tryz.prog G 208 [.sl 6 (zt ks),.sc (.int .i64 n),.clo (.func 209) [] [.row [.clo (.func 176) [] []]]] (.tup [.sc (.int .i64 (qh j3 zw.ino n ks:Nat)),.sc (.bool (JR zw.ino n ks))]) 0:=by
 refine Fun.of (fun _=>[]) Tryz.func208 rfl (zp rfl) (by kernel_rfl) ?_;dsimp only[Tryz.f208]
 push_cast -dsimp
 refine loop (fun p:Nat×Nat=>⟨[(0,.sl 6 (zt ks)),(1,.sc (.int .i64 n)),(2,.clo (.func 209) [] [.row [.clo (.func 176) [] []]]),(8,.sc (.int .i64 (ks.length:Nat))),(9,.sc (.int .i64 p.1)),(10,.sc (.int .i64 p.2))],[],0,0⟩)
  (fun p=>p.1<=p.2/\p.2<=ks.length/\(∀ t (h:t<ks.length),t<p.1->(j3).lt (zw.ino ks[t]) n=true)/\∀ t (h:t<ks.length),p.2<=t->(j3).lt (zw.ino ks[t]) n=false) (fun p=>p.2-p.1) (0,ks.length) ⟨Nat.zero_le _,Nat.le_refl _,fun t _ h=>by (simp at h),fun t h h'=>by (dsimp only at h';omega)⟩ ?_ ?_
 ·exact zS.mk [] rfl rfl (Nat.le_refl _) rfl (by push_cast -dsimp [zb,za,CLe,ze,List.length_map]) (by push_cast -dsimp [zb,za,CLe,ze])
 ·rintro ⟨i,j⟩ ⟨h1,h2,h3,h4⟩
  dsimp only at h1 h2 h3 h4 ⊢
  by_cases h:i<j
  ·obtain ⟨m,hm⟩:∃ m,m=(i+j) / 2:=⟨_,rfl⟩
   have hmi:((i:Int)+(j:Int)) / 2=(m:Int):=by omega
   have hml:m<ks.length:=by omega
   have hat:=jh ks m hml
   have hlt:=(zd2 ks[m].ino n)
   push_cast -dsimp [h,hmi,hat]
   (try simp only[lS]);repeat refine And.intro (by omega) ?_
   refine cl ((y8 ks[m] n)) ?_;push_cast -dsimp
   cases hc:(j3).lt (zw.ino ks[m]) n with
   | true =>
    have hcv:(Vl ks[m].ino n<0)=True:=eq_true (hlt.mpr hc)
    push_cast -dsimp [hcv]
    (try simp only[lS]);repeat refine And.intro (by omega) ?_
    refine ⟨(m+1,j),⟨by omega,h2,fun t ht hlt2=>?_,h4⟩,by dsimp only;omega,zS.mk [] rfl rfl (Nat.le_refl _) rfl (by push_cast -dsimp [zb,za,CLe,ze]) (by push_cast -dsimp [zb,za,CLe,ze])⟩
    dsimp only at hlt2
    rcases Nat.lt_or_ge t m with q | q
    ·exact (j3).tr ((List.pairwise_iff_getElem.1 hR) t m ht hml q) hc
    ·have:t=m:=by omega
     subst this;exact hc
   | false =>
    have hcv:(Vl ks[m].ino n<0)=False:=eq_false (fun e=>by have h7:(j3).lt (zw.ino ks[m]) n=true:=hlt.mp e;rw[hc]at h7;cases h7)
    push_cast -dsimp [hcv]
    (try simp only[lS]);repeat refine And.intro (by omega) ?_
    refine ⟨(i,m),⟨by omega,by omega,h3,fun t ht hge=>?_⟩,by dsimp only;omega,zS.mk [] rfl rfl (Nat.le_refl _) rfl (by push_cast -dsimp [zb,za,CLe,ze]) (by push_cast -dsimp [zb,za,CLe,ze])⟩
    dsimp only at hge
    rcases Nat.lt_or_ge m t with q | q
    ·cases h9:(j3).lt (zw.ino ks[t]) n with
     | false=>rfl
     | true=>have:=(j3).tr ((List.pairwise_iff_getElem.1 hR) m t hml ht q) h9;rw[hc]at this;cases this
    ·have:t=m:=by omega
     subst this;exact hc
  ·have hij:i=j:=by omega
   subst hij
   have hrk:=QG (o:=j3) (key:=zw.ino) n ks i h2 h3 h4
   push_cast -dsimp [h]
   refine br (fun hx=>?_) (fun hx=>?_)
   ·have hx:i<ks.length:=by simpa using hx
    have hat:=jh ks i hx
    have hh:=xI n hR hrk hx
    push_cast -dsimp [hx,hat]
    (try simp only[lS]);repeat refine And.intro (by omega) ?_
    refine cl ((y8 ks[i] n)) ?_;push_cast -dsimp
    have hcv:decide (Vl ks[i].ino n=0)=JR zw.ino n ks:=by
     rw[hh]
     exact decide_eq_decide.2 (zdP ks[i].ino n)
    push_cast -dsimp [hcv]
    exact ⟨[],rfl,rfl,by push_cast -dsimp [zb,za,CLe,ze,hrk]⟩
   ·have hx:¬i<ks.length:=by simpa using hx
    have hh:=HK n hR (by omega)
    push_cast -dsimp [hx]
    exact ⟨[],rfl,rfl,by push_cast -dsimp [zb,za,CLe,ze,hrk,hh]⟩
theorem zjf (ks:List zw) (n:Int) (hl:ks.length<=100000) (hR:qD j3 zw.ino ks):Fun Tryz.prog G 175 [.sl 6 (zt ks),.sc (.int .i64 n),.clo (.func 176) [] []] (.tup [.sc (.int .i64 (qh j3 zw.ino n ks:Nat)),.sc (.bool (JR zw.ino n ks))]) 0:=by
 refine Fun.of (fun _=>[]) Tryz.func175 rfl (zp rfl) (by kernel_rfl) ?_;dsimp only[Tryz.f175]
 push_cast -dsimp
 refine G9 [.sl 6 (zt ks),.sc (.int .i64 n),.clo (.func 209) [] [.row [.clo (.func 176) [] []]]] (NN ks n hl hR) rfl ?_ ?_
 ·simp[Jc,JJ,C.frz,C.frzL]
 push_cast -dsimp
 exact ⟨[],rfl,rfl,by push_cast -dsimp [zb,za,CLe,ze]⟩
end
end
section
open CA CB
open Go.RowKit
section
variable {G:zk}
abbrev znL (w:jt) (kc pc:C):C:=.agg [.sc (.int .i64 w.fs.maxI),.sc (.int .i64 w.fs.maxB),.sc (.int .i64 w.fs.next),.sl 6 (zt w.fs.xs),kc,pc]
def zn3 (w:jt) (k:zT) (B:List C) (pn pc:Nat) (r:C) (bx':List (List C)) (m:Nat):Prop:=
 m=0/\∃ (c':Nat) (Ls:List (List C)),(Ls = []∨(∃ X,Ls = [X]/\(X.all C.stayB)=true)∨∃ X Y,Ls = [X,Y]/\(X.all C.stayB)=true/\(Y.all C.stayB)=true)/\(zJ (qw k w.kept)).length<=c'/\c'<=9223372036854775807/\r=znL w (.bs (4+Ls.length) 0 4 (zJ (qw k w.kept)).length c') (.bs 0 0 6 pn pc) /\
  bx'=B :: [.any,.any,.any,.any,.any,.any] :: [.any,.any,.any,.any] :: [.any,.any,.any,.any,.any,.any] :: (Ls++[qm 4 (zJ (qw k w.kept)) c'])
theorem VR (w:jt) (k:zT) (B:List C) (pn pc:Nat) (hB:(B.all C.stayB)=true) (hl:w.kept.length<=90000) (hR:qD j3 zT.slot w.kept) (hn:MR k.slot w.kept=false):Jz Tryz.prog G 179 [znL w (.sl 4 (zJ w.kept)) (.bs 0 0 6 pn pc),.agg (Jv k)] [B] 0 (zn3 w k B pn pc):=by
 obtain ⟨_,_,h3,h4⟩:=Z5 (o:=j3) k.slot hR
 have hll:(zJ w.kept).length=w.kept.length:=List.length_map ..
 have hat:=x8 (G:=G) w.kept k.slot (by omega) hR
 have hrl:=QZ (o:=j3) (key:=zT.slot) k.slot w.kept
 have hn':JR zT.slot k.slot w.kept=false:=hn
 rw[hn']at hat
 have hw:qw k w.kept=w.kept.take (qh j3 zT.slot k.slot w.kept)++k :: w.kept.drop (qh j3 zT.slot k.slot w.kept):=(h4 hn').2.2 k rfl
 have hset:zJ (qw k w.kept)=(zJ w.kept).take (qh j3 zT.slot k.slot w.kept)++Jv k :: (zJ w.kept).drop (qh j3 zT.slot k.slot w.kept):=by rw[hw];simp
 have hsl:(zJ (qw k w.kept)).length=(zJ w.kept).length+1:=by rw[hset];simp;omega
 refine Jz.of (fun i=>if i=2 then Qj [(0,.pure),(1,.pure),(2,.pure),(4,.pure),(5,.pure),(6,.pure),(3,.flt [3,4,5]),(7,.bar),(8,.pure),(9,.pure),(10,.bar)] else []) Tryz.func179 rfl (zp rfl) (by kernel_rfl) ?_;dsimp only[Tryz.f179]
 have hBr:∀ fp fo,C.reL fp fo B=B:=fun fp fo=>zC hB
 push_cast -dsimp
 refine cl (hat) ?_;push_cast -dsimp
 refine zkK [] (kC (zJ w.kept) zP zq (by omega)) (by decide) (by simp) (by push_cast -dsimp) (by push_cast -dsimp) (fun r bx' m hp=>?_)
 obtain ⟨rfl,⟨hne,c,h1,h2,rfl,rfl⟩ | ⟨he,⟨rfl,rfl⟩ | ⟨rfl,rfl⟩⟩⟩:=hp
 ·have hbl:=Jm zP h1
  have hre:∀ fp fo,C.reL fp fo (qm 4 (zJ w.kept) c)=qm 4 (zJ w.kept) c:=fun fp fo=>zC (zD zq)
  have hpos:=List.length_pos_iff.2 hne
  have hre2:∀ fp fo c,C.reL fp fo (qm 4 (zJ (qw k w.kept)) c)=qm 4 (zJ (qw k w.kept)) c:=fun fp fo c=>zC (zD zq)
  push_cast -dsimp [hre,hBr]
  refine Jp [5] [0] (Vf (e:=92) (zJ w.kept) (Jv k) (qh j3 zT.slot k.slot w.kept) c zP rfl zq rfl (by omega) (by omega) h1 h2) rfl (by decide) (by decide) (by simp) (by push_cast -dsimp [hBr]) (by push_cast -dsimp [hre,hBr]) (fun r bx' m hp=>?_)
  rw[←hset]at hp
  obtain ⟨rfl,c',g1,g2,⟨rfl,rfl⟩ | ⟨rfl,rfl⟩⟩:=hp
  ·push_cast -dsimp [hre2,hre,hBr]
   refine ⟨_,_,0,⟨⟨rfl,c',[[]],.inr (.inl ⟨[],rfl,rfl⟩),g1,g2,rfl,rfl⟩,by simp⟩,[],rfl,rfl,?_,by push_cast -dsimp [zb,za,CLe,ze]⟩
   push_cast -dsimp [zb,za,CLe,ze]
   exact ⟨zQ hB,zQ (zD zq)⟩
  ·have hra:∀ fp fo,C.reL fp fo (List.replicate (c*4) .any)=List.replicate (c*4) .any:=fun fp fo=>zC (by simp[List.all_replicate,C.stayB])
   push_cast -dsimp [hre2,hre,hra,hBr]
   refine ⟨_,_,0,⟨⟨rfl,c',[[],List.replicate (c*4) .any],.inr (.inr ⟨[],_,rfl,rfl,by simp[List.all_replicate,C.stayB]⟩),g1,g2,rfl,rfl⟩,by simp⟩,[],rfl,rfl,?_,by push_cast -dsimp [zb,za,CLe,ze]⟩
   push_cast -dsimp [zb,za,CLe,ze]
   exact ⟨zQ hB,zQ (by simp[List.all_replicate,C.stayB]),zQ (zD zq)⟩
 ·have he:w.kept = []:=by simpa using he
  have hr0:qh j3 zT.slot k.slot w.kept=0:=by rw[he];rfl
  have hs1:qw k w.kept = [k]:=by rw[he];rfl
  push_cast -dsimp [hr0]
  refine Jp [] [0] (vo (e:=92) (Jv k) rfl rfl) rfl (by decide) (by decide) (by simp) (by push_cast -dsimp) (by push_cast -dsimp) (fun r bx' m hp=>?_)
  obtain ⟨rfl,c,g1,g2,rfl,rfl⟩:=hp
  have hre:∀ fp fo,C.reL fp fo (qm 4 [Jv k] c)=qm 4 [Jv k] c:=fun fp fo=>zC (zD (zq (ks:=[k])))
  push_cast -dsimp [hre,hBr]
  refine ⟨znL w (.bs 4 0 4 1 c) (.bs 0 0 6 pn pc),B :: [.any,.any,.any,.any,.any,.any] :: [.any,.any,.any,.any] :: [.any,.any,.any,.any,.any,.any] :: ([]++[qm 4 [Jv k] c]),0,⟨⟨rfl,c,[],.inl rfl,by rw[hs1];exact g1,g2,by rw[hs1];rfl,by rw[hs1];rfl⟩,by simp⟩,[],rfl,rfl,?_,by push_cast -dsimp [zb,za,CLe,ze]⟩
  push_cast -dsimp [zb,za,CLe,ze]
  exact ⟨zQ hB,zQ (zD (zq (ks:=[k])))⟩
 ·have he:w.kept = []:=by simpa using he
  have hr0:qh j3 zT.slot k.slot w.kept=0:=by rw[he];rfl
  have hs1:qw k w.kept = [k]:=by rw[he];rfl
  push_cast -dsimp [hr0]
  refine Jp [4] [0] (Vf (e:=92) [] (Jv k) 0 0 (fun r hr=>by cases hr) rfl (fun r hr=>by cases hr) rfl (by simp) (by simp) (by simp) (by simp)) rfl (by decide) (by decide) (by simp) (by push_cast -dsimp) (by push_cast -dsimp [qm]) (fun r bx' m hp=>?_)
  obtain ⟨rfl,c,g1,g2,hp⟩:=hp
  have hre:∀ fp fo,C.reL fp fo (qm 4 [Jv k] c)=qm 4 [Jv k] c:=fun fp fo=>zC (zD (zq (ks:=[k])))
  rcases hp with ⟨rfl,rfl⟩ | ⟨rfl,rfl⟩
  ·push_cast -dsimp [hre,hBr]
   refine ⟨znL w (.bs 4 0 4 1 c) (.bs 0 0 6 pn pc),B :: [.any,.any,.any,.any,.any,.any] :: [.any,.any,.any,.any] :: [.any,.any,.any,.any,.any,.any] :: ([]++[qm 4 [Jv k] c]),0,⟨⟨rfl,c,[],.inl rfl,by rw[hs1];exact g1,g2,by rw[hs1];rfl,by rw[hs1];rfl⟩,by simp⟩,[],rfl,rfl,?_,by push_cast -dsimp [zb,za,CLe,ze]⟩
   push_cast -dsimp [zb,za,CLe,ze]
   exact ⟨zQ hB,zQ (zD (zq (ks:=[k])))⟩
  ·push_cast -dsimp [hre,hBr]
   refine ⟨znL w (.bs 5 0 4 1 c) (.bs 0 0 6 pn pc),B :: [.any,.any,.any,.any,.any,.any] :: [.any,.any,.any,.any] :: [.any,.any,.any,.any,.any,.any] :: ([[]]++[qm 4 [Jv k] c]),0,⟨⟨rfl,c,[[]],.inr (.inl ⟨[],rfl,rfl⟩),by rw[hs1];exact g1,g2,by rw[hs1];rfl,by rw[hs1];rfl⟩,by simp⟩,[],rfl,rfl,?_,by push_cast -dsimp [zb,za,CLe,ze]⟩
   push_cast -dsimp [zb,za,CLe,ze]
   exact ⟨zQ hB,zQ (zD (zq (ks:=[k])))⟩
end
end
section
open CA CB
open Go.RowKit
theorem jg {bx:List (List C)} {a b:Nat×TypeId×Nat×List (List C)×Nat} (h1:ze1 [a] bx) (h2:ze1 [b] bx) (hne:a.1≠b.1):ze1 [a,b] bx:=⟨by simp[hne],fun x hx=>by
 rcases List.mem_cons.1 hx with rfl | hx
 ·exact h1.2 _ List.mem_cons_self
 ·exact h2.2 _ hx⟩
theorem vO {f:FsV} (hf:FsI f) {s:qk} (hs:qo f s):(z7 f s).xs.length<=f.xs.length:=by
 have hi:=qo.ino hf hs
 have hl:=JZ (F:=zm s.name) hf.rises hs.has
 unfold z7
 split
 ·show (qg _ _).length<=_
  exact Nat.le_trans Qp (by rw[hl];exact Nat.le_refl _)
 ·show (qP _ _).length<=_
  rw[XI (show zZ (jr s.dir (zm s.name) f.xs) from qd hf.rises) ?_,hl]
  ·exact Nat.le_refl _
  ·show zF (zg s.ino f.xs).ino (jr _ _ _)=true
   rw[(zi hi).2.2,qi hs.has];exact hi
theorem zh9 {xs:List zw} (h:zZ xs):qD j3 zw.ino xs:=List.Pairwise.imp (fun {a b} h=>by show decide (a.ino<b.ino)=true;exact decide_eq_true h) h
theorem zir (x:zw):∀ xs:List zw,QX x xs=Va j3 zw.ino x xs
 | []=>rfl
 | y :: r=>by
  unfold QX Va
  rw[zir x r]
  have e:j3.lt x.ino y.ino=decide (x.ino<y.ino):=rfl
  rw[e]
  by_cases h:x.ino<y.ino
  ·rw[if_pos h,if_pos (decide_eq_true h)]
  ·rw[if_neg h,if_neg (by simpa using h)]
theorem zjz {x:zw} {xs:List zw} (hR:zZ xs) (h:∀ y∈xs,y.ino≠x.ino):qP x xs=xs.take (qh j3 zw.ino x.ino xs)++x :: xs.drop (qh j3 zw.ino x.ino xs):=by
 have h1:qg x.ino xs=xs:=List.filter_eq_self.2 fun y hy=>by simpa using h y hy
 have h2:JR zw.ino x.ino xs=false:=by
  unfold JR
  rw[List.any_eq_false]
  intro y hy
  simpa using h y hy
 obtain ⟨_,_,_,h4⟩:=Z5 (o:=j3) x.ino (zh9 hR)
 unfold qP
 rw[h1,zir]
 exact (h4 h2).2.2 x rfl
theorem zhS (w:jt) (hw:Zh w) (hs:FsS w.fs) (hk:w.kept.length<=90000) (hp:w.pool.length<=90000) (n:Int) (s:qk) (hsp:qo w.fs s) (he:(zg s.ino w.fs.xs).es = []):Fun Tryz.prog G0 146 [X9 w,.sc (.int .i64 n),.agg (j0 s)] (.tup [X9 (X3 w n s).1,.sc (.int .i64 (X3 w n s).2)]) 0:=by
 have hf:=hw.fs
 have hlen:=hs.len
 have hino:=hsp.ino hf
 have h1:=NH (G:=G0) w n (by omega) hw.kept
 cases hh:MR n w.kept with
 | true =>
  have e:X3 w n s=(w,13):=by unfold X3;rw[hh];rfl
  rw[hh]at h1
  refine Fun.of (fun i=>if i=10 then Qj [(0,.pure),(1,.pure),(2,.pure),(4,.pure),(5,.pure),(6,.pure),(3,.flt [3,4,5]),(7,.bar),(8,.pure),(9,.pure),(10,.bar)] else []) Tryz.func146 rfl (zp rfl) (by kernel_rfl) ?_;dsimp only[Tryz.f146]
  push_cast -dsimp
  refine cl (h1) ?_;push_cast -dsimp
  exact ⟨[],rfl,rfl,by push_cast -dsimp [zb,za,CLe,ze,e]⟩
 | false =>
  rw[hh]at h1
  have hg:=jI (G:=G0) w.fs s.ino (by omega) hf.rises
  rw[hino]at hg
  have hne:s.dir≠s.ino:=fun e=>by
   have:=hsp.there
   rw[e,he]at this;cases this
  have hu:=vY w.fs hf hs s hsp hne
  have hul:=vO hf hsp
  have hg2:=jI (G:=G0) (z7 w.fs s) s.ino (by omega) (NA hf hsp he).rises
  rw[U9 hsp.has hino]at hg2
  by_cases hz:(zg s.ino w.fs.xs).links=1
  ·rw[if_pos (show (zg s.ino w.fs.xs).links-1=0 by omega)]at hg2
   simp only[decide_true,Bool.not_true,Bool.false_and]at hg2
   have hxi:=(zi hino).2.2
   have hno:∀ y∈w.pool,y.ino≠s.ino:=fun y hy e=>by
    have:=(hw.apart y hy).1
    rw[e,hino]at this;cases this
   have hnk:JR zw.ino s.ino w.pool=false:=by
    unfold JR
    rw[List.any_eq_false]
    intro y hy
    simpa using hno y hy
   have e:X3 w n s=(⟨z7 w.fs s,qw ⟨n,s.ino,false,[]⟩ w.kept,qP { zg s.ino w.fs.xs with links:=0,parent:=0 } w.pool⟩,0):=by unfold X3;rw[hh,if_pos hz];rfl
   have hset:=zjz (x:={ zg s.ino w.fs.xs with links:=0,parent:=0 }) hw.pool (fun y hy=>by rw[show ({ zg s.ino w.fs.xs with links:=0,parent:=0 }:zw).ino=(zg s.ino w.fs.xs).ino from rfl,hxi];exact hno y hy)
   rw[show ({ zg s.ino w.fs.xs with links:=0,parent:=0 }:zw).ino=s.ino from hxi]at hset
   have hat:=zjf (G:=G0) w.pool s.ino (by omega) (zh9 hw.pool)
   rw[hnk]at hat
   have hll:(zt w.pool).length=w.pool.length:=List.length_map ..
   have hrl:=QZ (o:=j3) (key:=zw.ino) s.ino w.pool
   generalize qh j3 zw.ino s.ino w.pool=r at *
   generalize hpl:qP { zg s.ino w.fs.xs with links:=0,parent:=0 } w.pool=pl at *
   have hpc:zt pl=(zt w.pool).take r++[.sc (.int .i64 s.ino),.sc (.int .i64 (zg s.ino w.fs.xs).kind),.sc (.int .i64 0),.str (zg s.ino w.fs.xs).data,.sc (.int .i64 0),.sl 2 (zL (zg s.ino w.fs.xs).es)] :: (zt w.pool).drop r:=by rw[hset];simp[hxi]
   have hpl1:(zt pl).length=(zt w.pool).length+1:=by rw[hpc];simp;omega
   have hre2:∀ fp fo c,C.reL fp fo (qm 6 (zt pl) c)=qm 6 (zt pl) c:=fun fp fo c=>zC (zD zo)
   have hre4:∀ fp fo c,C.reL fp fo (qm 4 (zJ (qw ⟨n,s.ino,false,[]⟩ w.kept)) c)=qm 4 (zJ (qw ⟨n,s.ino,false,[]⟩ w.kept)) c:=fun fp fo c=>zC (zD zq)
   have hkp:0<(zJ (qw ⟨n,s.ino,false,[]⟩ w.kept)).length:=by rw[List.length_map,qw,Vn];omega
   refine Fun.ofF (fun i=>if i=10 then Qj [(0,.pure),(1,.pure),(2,.pure),(4,.pure),(5,.pure),(6,.pure),(3,.flt [3,4,5]),(7,.bar),(8,.pure),(9,.pure),(10,.bar)] else []) Tryz.func146 rfl (zp rfl) (by kernel_rfl) ?_;dsimp only[Tryz.f146]
   push_cast -dsimp
   refine cl (h1) ?_;push_cast -dsimp
   refine cl (hg) ?_;push_cast -dsimp
   refine cl (hu) ?_;push_cast -dsimp
   refine cl (hg2) ?_;push_cast -dsimp
   rw[hxi]
   refine cl (hat) ?_;push_cast -dsimp
   refine zkK [] (XE (zt w.pool) zN zo (by omega)) (by decide) (by simp) (by push_cast -dsimp) (by push_cast -dsimp) (fun r0 bx' m hp=>?_)
   obtain ⟨rfl,⟨hne',c,c1,c2,rfl,rfl⟩ | ⟨hnil,⟨rfl,rfl⟩ | ⟨rfl,rfl⟩⟩⟩:=hp
   ·have hbl:=Jm zN c1
    have hre:∀ fp fo,C.reL fp fo (qm 6 (zt w.pool) c)=qm 6 (zt w.pool) c:=fun fp fo=>zC (zD zo)
    push_cast -dsimp [hre]
    refine Jp [7] [0] (Vp (e:=75) (zt w.pool) [.sc (.int .i64 s.ino),.sc (.int .i64 (zg s.ino w.fs.xs).kind),.sc (.int .i64 0),.str (zg s.ino w.fs.xs).data,.sc (.int .i64 0),.sl 2 (zL (zg s.ino w.fs.xs).es)] r c zN rfl zo rfl (by omega) (by omega) c1 c2) rfl (by decide) (by decide) (by simp) (by push_cast -dsimp) (by push_cast -dsimp [hre]) (fun r1 bx' m hp=>?_)
    rw[←hpc]at hp
    obtain ⟨rfl,c',g1,g2,⟨rfl,rfl⟩ | ⟨rfl,rfl⟩⟩:=hp
    ·push_cast -dsimp [hre2,hre]
     refine Jp [7] [] (VR (G:=G0) { w with fs:=z7 w.fs s } ⟨n,s.ino,false,[]⟩ (qm 6 (zt pl) c') (zt pl).length c' (zD zo) hk hw.kept hh) rfl (by decide) (by decide) (by simp) (by push_cast -dsimp) (by push_cast -dsimp [hre2]) (fun r2 bx' m hp=>?_)
     obtain ⟨rfl,c3,Ls,hLs,k1,k2,rfl,rfl⟩:=hp
     rcases hLs with rfl | ⟨X,rfl,hX⟩ | ⟨X,Y,rfl,hX,hY⟩
     ·push_cast -dsimp [hre2,hre4]
      exact ⟨[(11,92,4,zJ (qw ⟨n,s.ino,false,[]⟩ w.kept),c3),(7,75,6,zt pl,c')],[],jg (zy rfl (Nat.lt_of_lt_of_le hkp k1) k1 k2 zP zq) (zy rfl (by omega) g1 g2 zN zo) (show (11:Nat)≠7 by decide),rfl,rfl,by push_cast -dsimp [zb,za,CLe,ze,e,false_and,if_false]⟩
     ·have hXr:∀ fp fo,C.reL fp fo X=X:=fun fp fo=>zC hX
      push_cast -dsimp [hre2,hre4,hXr]
      exact ⟨[(12,92,4,zJ (qw ⟨n,s.ino,false,[]⟩ w.kept),c3),(7,75,6,zt pl,c')],[],jg (zy rfl (Nat.lt_of_lt_of_le hkp k1) k1 k2 zP zq) (zy rfl (by omega) g1 g2 zN zo) (show (12:Nat)≠7 by decide),rfl,rfl,by push_cast -dsimp [zb,za,CLe,ze,e,false_and,if_false]⟩
     ·have hXr:∀ fp fo,C.reL fp fo X=X:=fun fp fo=>zC hX
      have hYr:∀ fp fo,C.reL fp fo Y=Y:=fun fp fo=>zC hY
      push_cast -dsimp [hre2,hre4,hXr,hYr]
      exact ⟨[(13,92,4,zJ (qw ⟨n,s.ino,false,[]⟩ w.kept),c3),(7,75,6,zt pl,c')],[],jg (zy rfl (Nat.lt_of_lt_of_le hkp k1) k1 k2 zP zq) (zy rfl (by omega) g1 g2 zN zo) (show (13:Nat)≠7 by decide),rfl,rfl,by push_cast -dsimp [zb,za,CLe,ze,e,false_and,if_false]⟩
    ·have hra:∀ fp fo,C.reL fp fo (List.replicate (c*6) .any)=List.replicate (c*6) .any:=fun fp fo=>zC (by simp[List.all_replicate,C.stayB])
     push_cast -dsimp [hre2,hre,hra]
     refine Jp [8] [] (VR (G:=G0) { w with fs:=z7 w.fs s } ⟨n,s.ino,false,[]⟩ (qm 6 (zt pl) c') (zt pl).length c' (zD zo) hk hw.kept hh) rfl (by decide) (by decide) (by simp) (by push_cast -dsimp) (by push_cast -dsimp [hre2,hra]) (fun r2 bx' m hp=>?_)
     obtain ⟨rfl,c3,Ls,hLs,k1,k2,rfl,rfl⟩:=hp
     rcases hLs with rfl | ⟨X,rfl,hX⟩ | ⟨X,Y,rfl,hX,hY⟩
     ·push_cast -dsimp [hre2,hre4,hra]
      exact ⟨[(12,92,4,zJ (qw ⟨n,s.ino,false,[]⟩ w.kept),c3),(8,75,6,zt pl,c')],[],jg (zy rfl (Nat.lt_of_lt_of_le hkp k1) k1 k2 zP zq) (zy rfl (by omega) g1 g2 zN zo) (show (12:Nat)≠8 by decide),rfl,rfl,by push_cast -dsimp [zb,za,CLe,ze,e,false_and,if_false]⟩
     ·have hXr:∀ fp fo,C.reL fp fo X=X:=fun fp fo=>zC hX
      push_cast -dsimp [hre2,hre4,hra,hXr]
      exact ⟨[(13,92,4,zJ (qw ⟨n,s.ino,false,[]⟩ w.kept),c3),(8,75,6,zt pl,c')],[],jg (zy rfl (Nat.lt_of_lt_of_le hkp k1) k1 k2 zP zq) (zy rfl (by omega) g1 g2 zN zo) (show (13:Nat)≠8 by decide),rfl,rfl,by push_cast -dsimp [zb,za,CLe,ze,e,false_and,if_false]⟩
     ·have hXr:∀ fp fo,C.reL fp fo X=X:=fun fp fo=>zC hX
      have hYr:∀ fp fo,C.reL fp fo Y=Y:=fun fp fo=>zC hY
      push_cast -dsimp [hre2,hre4,hra,hXr,hYr]
      exact ⟨[(14,92,4,zJ (qw ⟨n,s.ino,false,[]⟩ w.kept),c3),(8,75,6,zt pl,c')],[],jg (zy rfl (Nat.lt_of_lt_of_le hkp k1) k1 k2 zP zq) (zy rfl (by omega) g1 g2 zN zo) (show (14:Nat)≠8 by decide),rfl,rfl,by push_cast -dsimp [zb,za,CLe,ze,e,false_and,if_false]⟩
   ·have hpe:w.pool = []:=by simpa using hnil
    have hr0:r=0:=by rw[hpe]at hrl;exact Nat.le_zero.1 hrl
    subst hr0
    have hq:zt pl = [[.sc (.int .i64 s.ino),.sc (.int .i64 (zg s.ino w.fs.xs).kind),.sc (.int .i64 0),.str (zg s.ino w.fs.xs).data,.sc (.int .i64 0),.sl 2 (zL (zg s.ino w.fs.xs).es)]]:=by rw[hpc,hpe];rfl
    push_cast -dsimp
    refine Jp [] [0] (yS (e:=75) [.sc (.int .i64 s.ino),.sc (.int .i64 (zg s.ino w.fs.xs).kind),.sc (.int .i64 0),.str (zg s.ino w.fs.xs).data,.sc (.int .i64 0),.sl 2 (zL (zg s.ino w.fs.xs).es)] rfl rfl) rfl (by decide) (by decide) (by simp) (by push_cast -dsimp) (by push_cast -dsimp) (fun r1 bx' m hp=>?_)
    have hp:m=0/\∃ c,(zt pl).length<=c/\c<=9223372036854775807/\r1 = .bs 0 0 6 (zt pl).length c/\bx' = [qm 6 (zt pl) c]:=by rw[hq];exact hp
    obtain ⟨rfl,c',g1,g2,rfl,rfl⟩:=hp
    push_cast -dsimp [hre2]
    refine Jp [6] [] (VR (G:=G0) { w with fs:=z7 w.fs s } ⟨n,s.ino,false,[]⟩ (qm 6 (zt pl) c') (zt pl).length c' (zD zo) hk hw.kept hh) rfl (by decide) (by decide) (by simp) (by push_cast -dsimp) (by push_cast -dsimp [hre2]) (fun r2 bx' m hp=>?_)
    obtain ⟨rfl,c3,Ls,hLs,k1,k2,rfl,rfl⟩:=hp
    rcases hLs with rfl | ⟨X,rfl,hX⟩ | ⟨X,Y,rfl,hX,hY⟩
    ·push_cast -dsimp [hre2,hre4]
     exact ⟨[(10,92,4,zJ (qw ⟨n,s.ino,false,[]⟩ w.kept),c3),(6,75,6,zt pl,c')],[],jg (zy rfl (Nat.lt_of_lt_of_le hkp k1) k1 k2 zP zq) (zy rfl (by omega) g1 g2 zN zo) (show (10:Nat)≠6 by decide),rfl,rfl,by push_cast -dsimp [zb,za,CLe,ze,e,false_and,if_false]⟩
    ·have hXr:∀ fp fo,C.reL fp fo X=X:=fun fp fo=>zC hX
     push_cast -dsimp [hre2,hre4,hXr]
     exact ⟨[(11,92,4,zJ (qw ⟨n,s.ino,false,[]⟩ w.kept),c3),(6,75,6,zt pl,c')],[],jg (zy rfl (Nat.lt_of_lt_of_le hkp k1) k1 k2 zP zq) (zy rfl (by omega) g1 g2 zN zo) (show (11:Nat)≠6 by decide),rfl,rfl,by push_cast -dsimp [zb,za,CLe,ze,e,false_and,if_false]⟩
    ·have hXr:∀ fp fo,C.reL fp fo X=X:=fun fp fo=>zC hX
     have hYr:∀ fp fo,C.reL fp fo Y=Y:=fun fp fo=>zC hY
     push_cast -dsimp [hre2,hre4,hXr,hYr]
     exact ⟨[(12,92,4,zJ (qw ⟨n,s.ino,false,[]⟩ w.kept),c3),(6,75,6,zt pl,c')],[],jg (zy rfl (Nat.lt_of_lt_of_le hkp k1) k1 k2 zP zq) (zy rfl (by omega) g1 g2 zN zo) (show (12:Nat)≠6 by decide),rfl,rfl,by push_cast -dsimp [zb,za,CLe,ze,e,false_and,if_false]⟩
   ·have hpe:w.pool = []:=by simpa using hnil
    have hr0:r=0:=by rw[hpe]at hrl;exact Nat.le_zero.1 hrl
    subst hr0
    have hq:zt pl = [[.sc (.int .i64 s.ino),.sc (.int .i64 (zg s.ino w.fs.xs).kind),.sc (.int .i64 0),.str (zg s.ino w.fs.xs).data,.sc (.int .i64 0),.sl 2 (zL (zg s.ino w.fs.xs).es)]]:=by rw[hpc,hpe];rfl
    push_cast -dsimp
    refine Jp [6] [0] (Vp (e:=75) [] [.sc (.int .i64 s.ino),.sc (.int .i64 (zg s.ino w.fs.xs).kind),.sc (.int .i64 0),.str (zg s.ino w.fs.xs).data,.sc (.int .i64 0),.sl 2 (zL (zg s.ino w.fs.xs).es)] 0 0 (fun r hr=>by cases hr) rfl (fun r hr=>by cases hr) rfl (by simp) (by simp) (by simp) (by simp)) rfl (by decide) (by decide) (by simp) (by push_cast -dsimp) (by push_cast -dsimp [qm]) (fun r1 bx' m hp=>?_)
    have hp:znZ 6 (0*6) (zt pl) r1 bx' m:=by rw[hq];exact hp
    obtain ⟨rfl,c',g1,g2,⟨rfl,rfl⟩ | ⟨rfl,rfl⟩⟩:=hp
    ·push_cast -dsimp [hre2]
     refine Jp [6] [] (VR (G:=G0) { w with fs:=z7 w.fs s } ⟨n,s.ino,false,[]⟩ (qm 6 (zt pl) c') (zt pl).length c' (zD zo) hk hw.kept hh) rfl (by decide) (by decide) (by simp) (by push_cast -dsimp) (by push_cast -dsimp [hre2]) (fun r2 bx' m hp=>?_)
     obtain ⟨rfl,c3,Ls,hLs,k1,k2,rfl,rfl⟩:=hp
     rcases hLs with rfl | ⟨X,rfl,hX⟩ | ⟨X,Y,rfl,hX,hY⟩
     ·push_cast -dsimp [hre2,hre4]
      exact ⟨[(10,92,4,zJ (qw ⟨n,s.ino,false,[]⟩ w.kept),c3),(6,75,6,zt pl,c')],[],jg (zy rfl (Nat.lt_of_lt_of_le hkp k1) k1 k2 zP zq) (zy rfl (by omega) g1 g2 zN zo) (show (10:Nat)≠6 by decide),rfl,rfl,by push_cast -dsimp [zb,za,CLe,ze,e,false_and,if_false]⟩
     ·have hXr:∀ fp fo,C.reL fp fo X=X:=fun fp fo=>zC hX
      push_cast -dsimp [hre2,hre4,hXr]
      exact ⟨[(11,92,4,zJ (qw ⟨n,s.ino,false,[]⟩ w.kept),c3),(6,75,6,zt pl,c')],[],jg (zy rfl (Nat.lt_of_lt_of_le hkp k1) k1 k2 zP zq) (zy rfl (by omega) g1 g2 zN zo) (show (11:Nat)≠6 by decide),rfl,rfl,by push_cast -dsimp [zb,za,CLe,ze,e,false_and,if_false]⟩
     ·have hXr:∀ fp fo,C.reL fp fo X=X:=fun fp fo=>zC hX
      have hYr:∀ fp fo,C.reL fp fo Y=Y:=fun fp fo=>zC hY
      push_cast -dsimp [hre2,hre4,hXr,hYr]
      exact ⟨[(12,92,4,zJ (qw ⟨n,s.ino,false,[]⟩ w.kept),c3),(6,75,6,zt pl,c')],[],jg (zy rfl (Nat.lt_of_lt_of_le hkp k1) k1 k2 zP zq) (zy rfl (by omega) g1 g2 zN zo) (show (12:Nat)≠6 by decide),rfl,rfl,by push_cast -dsimp [zb,za,CLe,ze,e,false_and,if_false]⟩
    ·push_cast -dsimp [hre2]
     refine Jp [7] [] (VR (G:=G0) { w with fs:=z7 w.fs s } ⟨n,s.ino,false,[]⟩ (qm 6 (zt pl) c') (zt pl).length c' (zD zo) hk hw.kept hh) rfl (by decide) (by decide) (by simp) (by push_cast -dsimp) (by push_cast -dsimp [hre2]) (fun r2 bx' m hp=>?_)
     obtain ⟨rfl,c3,Ls,hLs,k1,k2,rfl,rfl⟩:=hp
     rcases hLs with rfl | ⟨X,rfl,hX⟩ | ⟨X,Y,rfl,hX,hY⟩
     ·push_cast -dsimp [hre2,hre4]
      exact ⟨[(11,92,4,zJ (qw ⟨n,s.ino,false,[]⟩ w.kept),c3),(7,75,6,zt pl,c')],[],jg (zy rfl (Nat.lt_of_lt_of_le hkp k1) k1 k2 zP zq) (zy rfl (by omega) g1 g2 zN zo) (show (11:Nat)≠7 by decide),rfl,rfl,by push_cast -dsimp [zb,za,CLe,ze,e,false_and,if_false]⟩
     ·have hXr:∀ fp fo,C.reL fp fo X=X:=fun fp fo=>zC hX
      push_cast -dsimp [hre2,hre4,hXr]
      exact ⟨[(12,92,4,zJ (qw ⟨n,s.ino,false,[]⟩ w.kept),c3),(7,75,6,zt pl,c')],[],jg (zy rfl (Nat.lt_of_lt_of_le hkp k1) k1 k2 zP zq) (zy rfl (by omega) g1 g2 zN zo) (show (12:Nat)≠7 by decide),rfl,rfl,by push_cast -dsimp [zb,za,CLe,ze,e,false_and,if_false]⟩
     ·have hXr:∀ fp fo,C.reL fp fo X=X:=fun fp fo=>zC hX
      have hYr:∀ fp fo,C.reL fp fo Y=Y:=fun fp fo=>zC hY
      push_cast -dsimp [hre2,hre4,hXr,hYr]
      exact ⟨[(13,92,4,zJ (qw ⟨n,s.ino,false,[]⟩ w.kept),c3),(7,75,6,zt pl,c')],[],jg (zy rfl (Nat.lt_of_lt_of_le hkp k1) k1 k2 zP zq) (zy rfl (by omega) g1 g2 zN zo) (show (13:Nat)≠7 by decide),rfl,rfl,by push_cast -dsimp [zb,za,CLe,ze,e,false_and,if_false]⟩
  ·have hz2:¬(zg s.ino w.fs.xs).links-1=0:=by omega
   rw[if_neg hz2,hino]at hg2
   have e:X3 w n s=({ w with fs:=z7 w.fs s,kept:=qw ⟨n,s.ino,false,[]⟩ w.kept },0):=by unfold X3;rw[hh,if_neg hz];rfl
   have hwi:=NQ (G:=G0) { w with fs:=z7 w.fs s } ⟨n,s.ino,false,[]⟩ hk hw.kept hh
   refine Fun.of (fun i=>if i=10 then Qj [(0,.pure),(1,.pure),(2,.pure),(4,.pure),(5,.pure),(6,.pure),(3,.flt [3,4,5]),(7,.bar),(8,.pure),(9,.pure),(10,.bar)] else []) Tryz.func146 rfl (zp rfl) (by kernel_rfl) ?_;dsimp only[Tryz.f146]
   push_cast -dsimp
   refine cl (h1) ?_;push_cast -dsimp
   refine cl (hg) ?_;push_cast -dsimp
   refine cl (hu) ?_;push_cast -dsimp
   refine cl (hg2) ?_;push_cast -dsimp
   refine cl (hwi) ?_;push_cast -dsimp
   exact ⟨[],rfl,rfl,by push_cast -dsimp [zb,za,CLe,ze,e]⟩
end
section
open CA CB
open Go.RowKit
theorem NR (w:jt) (hf:FsI w.fs) (hs:FsS w.fs) (hk:w.kept.length<=90000) (hR:qD j3 zT.slot w.kept) (n i:Int):Fun Tryz.prog G0 168 [X9 w,.sc (.int .i64 n),.sc (.int .i64 i)] (.tup [X9 (qC w n i).1,.sc (.int .i64 (qC w n i).2)]) 0:=by
 have hlen:=hs.len
 have h1:=NH (G:=G0) w n (by omega) hR
 have hg:=jI (G:=G0) w.fs i (by omega) hf.rises
 cases hh:MR n w.kept with
 | true =>
  have e:qC w n i=(w,13):=by unfold qC;rw[hh];rfl
  rw[hh]at h1
  refine Fun.of (fun _=>[]) Tryz.func168 rfl (zp rfl) (by kernel_rfl) ?_;dsimp only[Tryz.f168]
  push_cast -dsimp
  refine cl (h1) ?_;push_cast -dsimp
  exact ⟨[],rfl,rfl,by push_cast -dsimp [zb,za,CLe,ze,e]⟩
 | false =>
  have e:qC w n i=({ w with kept:=qw ⟨n,i,true,(zg i w.fs.xs).data⟩ w.kept },0):=by unfold qC;rw[hh];rfl
  have hw:=NQ (G:=G0) w ⟨n,i,true,(zg i w.fs.xs).data⟩ hk hR hh
  rw[hh]at h1
  refine Fun.of (fun _=>[]) Tryz.func168 rfl (zp rfl) (by kernel_rfl) ?_;dsimp only[Tryz.f168]
  push_cast -dsimp
  refine cl (h1) ?_;push_cast -dsimp
  refine cl (hg) ?_;push_cast -dsimp
  refine cl (hw) ?_;push_cast -dsimp
  exact ⟨[],rfl,rfl,by push_cast -dsimp [zb,za,CLe,ze,e]⟩
end
section
open CA CB
open Go.RowKit
theorem zl8 {f:FsV} (hf:FsI f) (p:List UInt8):(atV f p).1.ino≠0->zF (atV f p).1.ino f.xs=true:=by
 unfold atV
 split
 ·exact zdN hf (zE p) ⟨0,[],1⟩ fun _=>hf.root
 ·intro h;exact absurd rfl h
theorem zcG {f:FsV} (hf:FsI f) (p:List UInt8):zF (atV f p).1.ino f.xs = !decide ((atV f p).1.ino=0):=by
 by_cases h:(atV f p).1.ino=0
 ·rw[decide_eq_true h]
  cases hh:zF (atV f p).1.ino f.xs with
  | false=>rfl
  | true=>exact absurd h (zbo hf hh)
 ·rw[zl8 hf p h,decide_eq_false h];rfl
theorem Hl (f:FsV) (hf:FsI f) (hs:FsS f) (p:List UInt8) (hp:p.length<=100000):Fun Tryz.prog G0 165 [.agg (fsC f),.str p] (.tup [.agg (j0 (isV f p false).1),.sc (.int .i64 (isV f p false).2.2)]) 0:=by
 have h1:=vz f hf hs p hp
 have hi:=zcG hf p
 have e1:(isV f p false).1=(atV f p).1:=rfl
 by_cases h0:(atV f p).2=0
 ·have h0':=eq_true h0
  by_cases hz:(atV f p).1.ino=0
  ·have hz':=eq_true hz
   rw[decide_eq_true hz]at hi
   have e3:(isV f p false).2.2=0:=by unfold isV;simp[h0,hi]
   refine Fun.of (fun _=>[]) Tryz.func165 rfl (zp rfl) (by kernel_rfl) ?_;dsimp only[Tryz.f165]
   push_cast -dsimp
   refine cl (h1) ?_;push_cast -dsimp [h0',hz']
   exact ⟨[],rfl,rfl,by push_cast -dsimp [zb,za,CLe,ze,e1,e3]⟩
  ·have hz':=eq_false hz
   rw[decide_eq_false hz]at hi
   have e3:(isV f p false).2.2=2:=by unfold isV;simp[h0,hi]
   refine Fun.of (fun _=>[]) Tryz.func165 rfl (zp rfl) (by kernel_rfl) ?_;dsimp only[Tryz.f165]
   push_cast -dsimp
   refine cl (h1) ?_;push_cast -dsimp [h0',hz']
   exact ⟨[],rfl,rfl,by push_cast -dsimp [zb,za,CLe,ze,e1,e3]⟩
 ·have h0':=eq_false h0
  have e3:(isV f p false).2.2=(atV f p).2:=by unfold isV;simp[h0]
  refine Fun.of (fun _=>[]) Tryz.func165 rfl (zp rfl) (by kernel_rfl) ?_;dsimp only[Tryz.f165]
  push_cast -dsimp
  refine cl (h1) ?_;push_cast -dsimp [h0']
  exact ⟨[],rfl,rfl,by push_cast -dsimp [zb,za,CLe,ze,e1,e3]⟩
theorem ub {f:FsV} (hf:FsI f) {p:List UInt8} (h:(isV f p true).2.2=0):(isV f p true).2.1.kind=1∨(isV f p true).2.1.kind=2∨(isV f p true).2.1.kind=3:=by
 have hz:=VU h
 have hh:zF (atV f p).1.ino f.xs=true:=by
  unfold isV at h
  simp only[hz]at h
  cases hq:zF (atV f p).1.ino f.xs with
  | true=>rfl
  | false=>rw[hq]at h;simp at h
 exact hf.kind _ (zi hh).2.1
theorem H8 (f:FsV) (hf:FsI f) (hs:FsS f) (p:List UInt8) (hp:p.length<=100000):Fun Tryz.prog G0 167 [.agg (fsC f),.str p] (.tup [.agg (Xg (qc f p).1),.sc (.int .i64 (qc f p).2)]) 0:=by
 have h1:=Q0 f hf hs p hp
 have e1:(qc f p).1=(isV f p true).2.1:=rfl
 have e2:(qc f p).2=if (isV f p true).2.2≠0 then (isV f p true).2.2 else if (isV f p true).2.1.kind=2 then 4 else if (isV f p true).2.1.kind=3 then 9 else 0:=rfl
 have hkt:=fun h=>ub hf (p:=p) h
 generalize isV f p true=r at h1 e1 e2 hkt
 obtain ⟨s,x,w⟩:=r
 simp only at h1 e1 e2 hkt
 by_cases h0:w=0
 ·have h0':=eq_true h0
  by_cases k2:x.kind=2
  ·have k2':=eq_true k2
   have e3:(qc f p).2=4:=by rw[e2];simp[h0,k2]
   refine Fun.of (fun _=>[]) Tryz.func167 rfl (zp rfl) (by kernel_rfl) ?_;dsimp only[Tryz.f167]
   push_cast -dsimp
   refine cl (h1) ?_;push_cast -dsimp [h0',k2']
   exact ⟨[],rfl,rfl,by push_cast -dsimp [zb,za,CLe,ze,e1,e3]⟩
  ·have k2':=eq_false k2
   by_cases k1:x.kind=1
   ·have k1':=eq_true k1
    have e3:(qc f p).2=0:=by rw[e2];simp[h0,k1]
    refine Fun.of (fun _=>[]) Tryz.func167 rfl (zp rfl) (by kernel_rfl) ?_;dsimp only[Tryz.f167]
    push_cast -dsimp
    refine cl (h1) ?_;push_cast -dsimp [h0',k2',k1']
    exact ⟨[],rfl,rfl,by push_cast -dsimp [zb,za,CLe,ze,e1,e3]⟩
   ·have k1':=eq_false k1
    have k3:x.kind=3:=by rcases hkt h0 with h | h | h;exact absurd h k1;exact absurd h k2;exact h
    have e3:(qc f p).2=9:=by rw[e2];simp[h0,k3]
    refine Fun.of (fun _=>[]) Tryz.func167 rfl (zp rfl) (by kernel_rfl) ?_;dsimp only[Tryz.f167]
    push_cast -dsimp
    refine cl (h1) ?_;push_cast -dsimp [h0',k2',k1']
    exact ⟨[],rfl,rfl,by push_cast -dsimp [zb,za,CLe,ze,e1,e3]⟩
 ·have h0':=eq_false h0
  have e3:(qc f p).2=w:=by rw[e2];simp[h0]
  refine Fun.of (fun _=>[]) Tryz.func167 rfl (zp rfl) (by kernel_rfl) ?_;dsimp only[Tryz.f167]
  push_cast -dsimp
  refine cl (h1) ?_;push_cast -dsimp [h0']
  exact ⟨[],rfl,rfl,by push_cast -dsimp [zb,za,CLe,ze,e1,e3]⟩
structure vI (w:jt):Prop where
 fs:FsS w.fs
 next:zmA w.fs
 kept:w.kept.length<=10000
 pool:w.pool.length<=10000
theorem HY (w:jt) (hw:Zh w) (hs:vI w) (p:List UInt8) (hp:p.length<=100000) (hpl:qz p=true) (k:Int) (t:List UInt8) (ht:t.length<=10000):Fun Tryz.prog G0 137 [X9 w,.str p,.sc (.int .i64 k),.str t] (.tup [X9 (YI w p k t).1,.sc (.int .i64 (YI w p k t).2)]) 0:=by
 have h1:=Hl w.fs hw.fs hs.fs p hp
 by_cases h0:(isV w.fs p false).2.2=0
 ·have h0':=eq_true h0
  have hfr:=YN hw.fs hpl h0
  have hln:=zb1 hw.fs hpl (VU h0)
  have hln:(isV w.fs p false).1.name.length<=300:=hln
  have hc:=zaf w.fs hw.fs hs.fs hs.next (isV w.fs p false).1 hfr (by omega) k t (by omega)
  have e:YI w p k t=({ w with fs:=(Gj w.fs (isV w.fs p false).1 k t).1 },(Gj w.fs (isV w.fs p false).1 k t).2):=by unfold YI;rw[if_neg (by simp[h0])]
  refine Fun.of (fun _=>[]) Tryz.func137 rfl (zp rfl) (by kernel_rfl) ?_;dsimp only[Tryz.f137]
  push_cast -dsimp
  refine cl (h1) ?_;push_cast -dsimp [h0']
  refine cl (hc) ?_;push_cast -dsimp
  exact ⟨[],rfl,rfl,by push_cast -dsimp [zb,za,CLe,ze,e]⟩
 ·have h0':=eq_false h0
  have e:YI w p k t=(w,(isV w.fs p false).2.2):=by unfold YI;rw[if_pos h0]
  refine Fun.of (fun _=>[]) Tryz.func137 rfl (zp rfl) (by kernel_rfl) ?_;dsimp only[Tryz.f137]
  push_cast -dsimp
  refine cl (h1) ?_;push_cast -dsimp [h0']
  exact ⟨[],rfl,rfl,by push_cast -dsimp [zb,za,CLe,ze,e]⟩
end
section
open CA CB
open Go.RowKit
theorem NL {w:jt} (hw:Zh w) (hs:vI w) {p:List UInt8} (hp:qz p=true) (h:(qc w.fs p).2=0):(qc w.fs p).1.data.length<=10000:=by
 obtain ⟨h1,_,h3⟩:=Q8 hw.fs hp h
 rw[h3]
 exact (hs.fs.node _ (zi h1).2.1).2.1
theorem uz (w:jt) (hw:Zh w) (hs:vI w) (o:OpV) (ho:short o) (pa:qz o.a=true) (pb:qz o.b=true):Fun Tryz.prog G0 138 [X9 w,.agg (opL o)] (.tup [X9 (Yo w o).1,.sc (.int .i64 (Yo w o).2)]) 0:=by
 have h1:=H8 w.fs hw.fs hs.fs o.a ho.1
 unfold opL
 by_cases h0:(qc w.fs o.a).2=0
 ·have h0':=eq_true h0
  have hm:=HY w hw hs o.b ho.2.1 pb 1 (qc w.fs o.a).1.data (NL hw hs pa h0)
  have e:Yo w o=YI w o.b 1 (qc w.fs o.a).1.data:=by unfold Yo;rw[if_neg (by simp[h0])]
  refine Fun.of (fun _=>[]) Tryz.func138 rfl (zp rfl) (by kernel_rfl) ?_;dsimp only[Tryz.f138]
  push_cast -dsimp
  refine cl (h1) ?_;push_cast -dsimp [h0']
  refine cl (hm) ?_;push_cast -dsimp
  exact ⟨[],rfl,rfl,by push_cast -dsimp [zb,za,CLe,ze,e]⟩
 ·have h0':=eq_false h0
  have e:Yo w o=(w,(qc w.fs o.a).2):=by unfold Yo;rw[if_pos h0]
  refine Fun.of (fun _=>[]) Tryz.func138 rfl (zp rfl) (by kernel_rfl) ?_;dsimp only[Tryz.f138]
  push_cast -dsimp
  refine cl (h1) ?_;push_cast -dsimp [h0']
  exact ⟨[],rfl,rfl,by push_cast -dsimp [zb,za,CLe,ze,e]⟩
theorem ul (w:jt) (hw:Zh w) (hs:vI w) (o:OpV) (ho:short o) (pa:qz o.a=true) (pb:qz o.b=true):Fun Tryz.prog G0 141 [X9 w,.agg (opL o)] (.tup [X9 (j7 w o).1,.sc (.int .i64 (j7 w o).2)]) 0:=by
 have h1:=Q0 w.fs hw.fs hs.fs o.a ho.1
 have h2:=Hl w.fs hw.fs hs.fs o.b ho.2.1
 unfold opL
 by_cases h0:(isV w.fs o.a true).2.2=0
 ·have h0':=eq_true h0
  obtain ⟨t1,t2⟩:=Jk hw.fs pa h0
  have hi:=qo.ino hw.fs t1
  have hino:(isV w.fs o.a true).2.1.ino=(isV w.fs o.a true).1.ino:=by rw[t2,(zi hi).2.2]
  by_cases hk:(isV w.fs o.a true).2.1.kind=2
  ·have hk':=eq_true hk
   have e:j7 w o=(w,11):=by unfold j7;simp[h0,hk]
   refine Fun.of (fun _=>[]) Tryz.func141 rfl (zp rfl) (by kernel_rfl) ?_;dsimp only[Tryz.f141]
   push_cast -dsimp
   refine cl (h1) ?_;push_cast -dsimp [h0',hk']
   exact ⟨[],rfl,rfl,by push_cast -dsimp [zb,za,CLe,ze,e]⟩
  ·have hk':=eq_false hk
   by_cases hb:(isV w.fs o.b false).2.2=0
   ·have hb':=eq_true hb
    have hfree:=YN hw.fs pb hb
    have hne:(isV w.fs o.b false).1.dir≠(isV w.fs o.a true).2.1.ino:=fun e=>by
     rw[hino]at e
     have:=hfree.kind
     rw[e,←t2]at this
     exact hk this
    have hn:=zfC w.fs hw.fs hs.fs (isV w.fs o.b false).1 hfree (isV w.fs o.a true).2.1.ino (by rw[hino];exact hi) hne
    have e:j7 w o=({ w with fs:=GW w.fs (isV w.fs o.b false).1 (isV w.fs o.a true).2.1.ino },0):=by unfold j7;simp[h0,hk,hb]
    refine Fun.of (fun _=>[]) Tryz.func141 rfl (zp rfl) (by kernel_rfl) ?_;dsimp only[Tryz.f141]
    push_cast -dsimp
    refine cl (h1) ?_;push_cast -dsimp [h0',hk']
    refine cl (h2) ?_;push_cast -dsimp [hb']
    refine cl (hn) ?_;push_cast -dsimp
    exact ⟨[],rfl,rfl,by push_cast -dsimp [zb,za,CLe,ze,e,hb]⟩
   ·have hb':=eq_false hb
    have e:j7 w o=(w,(isV w.fs o.b false).2.2):=by unfold j7;simp[h0,hk,hb]
    refine Fun.of (fun _=>[]) Tryz.func141 rfl (zp rfl) (by kernel_rfl) ?_;dsimp only[Tryz.f141]
    push_cast -dsimp
    refine cl (h1) ?_;push_cast -dsimp [h0',hk']
    refine cl (h2) ?_;push_cast -dsimp [hb']
    exact ⟨[],rfl,rfl,by push_cast -dsimp [zb,za,CLe,ze,e]⟩
 ·have h0':=eq_false h0
  have e:j7 w o=(w,(isV w.fs o.a true).2.2):=by unfold j7;simp[h0]
  refine Fun.of (fun _=>[]) Tryz.func141 rfl (zp rfl) (by kernel_rfl) ?_;dsimp only[Tryz.f141]
  push_cast -dsimp
  refine cl (h1) ?_;push_cast -dsimp [h0']
  exact ⟨[],rfl,rfl,by push_cast -dsimp [zb,za,CLe,ze,e]⟩
theorem zdu {f:FsV} (hf:FsI f) {p:List UInt8} (h:(isV f p false).2.2=0):(isV f p false).1.ino=0:=by
 have hz:=VU h
 have hi:=zcG hf p
 unfold isV at h ⊢
 simp only[hz]at h ⊢
 by_cases h0:(atV f p).1.ino=0
 ·exact h0
 ·rw[decide_eq_false h0]at hi
  rw[hi]at h
  simp at h
theorem zbr (w:jt) (hw:Zh w) (hs:vI w) (o:OpV) (ho:short o) (pa:qz o.a=true) (pb:qz o.b=true):Fun Tryz.prog G0 142 [X9 w,.agg (opL o)] (.tup [X9 (Xe w o).1,.sc (.int .i64 (Xe w o).2)]) 0:=by
 have h1:=Q0 w.fs hw.fs hs.fs o.a ho.1
 have h2:=Hl w.fs hw.fs hs.fs o.b ho.2.1
 unfold opL
 by_cases h0:(isV w.fs o.a true).2.2=0
 ·have h0':=eq_true h0
  obtain ⟨t1,t2⟩:=Jk hw.fs pa h0
  by_cases hb:(isV w.fs o.b false).2.2=0
  ·have hb':=eq_true hb
   have hfree:=YN hw.fs pb hb
   have hn:=zfM w.fs hw.fs hs.fs (isV w.fs o.a true).1 (isV w.fs o.b false).1 t1 hfree (zdu hw.fs hb)
   have e:Xe w o=({ w with fs:=UJ w.fs (isV w.fs o.a true).1 (isV w.fs o.b false).1 },0):=by unfold Xe;simp[h0,hb]
   refine Fun.of (fun _=>[]) Tryz.func142 rfl (zp rfl) (by kernel_rfl) ?_;dsimp only[Tryz.f142]
   push_cast -dsimp
   refine cl (h1) ?_;push_cast -dsimp [h0']
   refine cl (h2) ?_;push_cast -dsimp [hb']
   refine cl (hn) ?_;push_cast -dsimp
   exact ⟨[],rfl,rfl,by push_cast -dsimp [zb,za,CLe,ze,e,hb]⟩
  ·have hb':=eq_false hb
   have e:Xe w o=(w,(isV w.fs o.b false).2.2):=by unfold Xe;simp[h0,hb]
   refine Fun.of (fun _=>[]) Tryz.func142 rfl (zp rfl) (by kernel_rfl) ?_;dsimp only[Tryz.f142]
   push_cast -dsimp
   refine cl (h1) ?_;push_cast -dsimp [h0']
   refine cl (h2) ?_;push_cast -dsimp [hb']
   exact ⟨[],rfl,rfl,by push_cast -dsimp [zb,za,CLe,ze,e]⟩
 ·have h0':=eq_false h0
  have e:Xe w o=(w,(isV w.fs o.a true).2.2):=by unfold Xe;simp[h0]
  refine Fun.of (fun _=>[]) Tryz.func142 rfl (zp rfl) (by kernel_rfl) ?_;dsimp only[Tryz.f142]
  push_cast -dsimp
  refine cl (h1) ?_;push_cast -dsimp [h0']
  exact ⟨[],rfl,rfl,by push_cast -dsimp [zb,za,CLe,ze,e]⟩
end
section
open CA CB
open Go.RowKit
theorem xZ (w:jt) (hw:Zh w) (hs:vI w) (o:OpV) (ho:short o) (pa:qz o.a=true) (pb:qz o.b=true):Fun Tryz.prog G0 139 [X9 w,.agg (opL o)] (.tup [X9 (qE w o).1,.sc (.int .i64 (qE w o).2)]) 0:=by
 have h1:=H8 w.fs hw.fs hs.fs o.a ho.1
 have h2:=H8 w.fs hw.fs hs.fs o.b ho.2.1
 have h3:=NR w hw.fs hs.fs (by have:=hs.kept;omega) hw.kept o.slot (qc w.fs o.b).1.ino
 unfold opL
 by_cases a0:(qc w.fs o.a).2=0
 rotate_left
 ·have a0':=eq_false a0
  have e:qE w o=(w,(qc w.fs o.a).2):=by unfold qE;rw[if_pos a0]
  refine Fun.of (fun _=>[]) Tryz.func139 rfl (zp rfl) (by kernel_rfl) ?_;dsimp only[Tryz.f139]
  push_cast -dsimp
  refine cl (h1) ?_;push_cast -dsimp [a0']
  exact ⟨[],rfl,rfl,by push_cast -dsimp [zb,za,CLe,ze,e]⟩
 have a0':=eq_true a0
 have hfa:=NL hw hs pa a0
 by_cases b0:(qc w.fs o.b).2=0
 rotate_left
 ·have b0':=eq_false b0
  have e:qE w o=(w,(qc w.fs o.b).2):=by unfold qE;rw[if_neg (by simp[a0]),if_pos b0]
  refine Fun.of (fun _=>[]) Tryz.func139 rfl (zp rfl) (by kernel_rfl) ?_;dsimp only[Tryz.f139]
  push_cast -dsimp
  refine cl (h1) ?_;push_cast -dsimp [a0']
  refine cl (h2) ?_;push_cast -dsimp [b0']
  exact ⟨[],rfl,rfl,by push_cast -dsimp [zb,za,CLe,ze,e]⟩
 have b0':=eq_true b0
 obtain ⟨fb1,fb2,fb3⟩:=Q8 hw.fs pb b0
 by_cases i0:(qc w.fs o.a).1.ino=(qc w.fs o.b).1.ino
 ·have i0':=eq_true i0
  have e:qE w o=(w,9):=by unfold qE;rw[if_neg (by simp[a0]),if_neg (by simp[b0]),if_pos i0]
  refine Fun.of (fun _=>[]) Tryz.func139 rfl (zp rfl) (by kernel_rfl) ?_;dsimp only[Tryz.f139]
  push_cast -dsimp
  refine cl (h1) ?_;push_cast -dsimp [a0']
  refine cl (h2) ?_;push_cast -dsimp [b0',i0']
  exact ⟨[],rfl,rfl,by push_cast -dsimp [zb,za,CLe,ze,e]⟩
 have i0':=eq_false i0
 cases hh:MR o.slot w.kept with
 | true =>
  have ek:qC w o.slot (qc w.fs o.b).1.ino=(w,13):=by unfold qC;rw[hh];rfl
  have e:qE w o=(w,13):=by unfold qE;rw[if_neg (by simp[a0]),if_neg (by simp[b0]),if_neg i0,ek];rfl
  rw[ek]at h3
  refine Fun.of (fun _=>[]) Tryz.func139 rfl (zp rfl) (by kernel_rfl) ?_;dsimp only[Tryz.f139]
  push_cast -dsimp
  refine cl (h1) ?_;push_cast -dsimp [a0']
  refine cl (h2) ?_;push_cast -dsimp [b0',i0']
  refine cl (h3) ?_;push_cast -dsimp
  exact ⟨[],rfl,rfl,by push_cast -dsimp [zb,za,CLe,ze,e]⟩
 | false =>
  have ek:qC w o.slot (qc w.fs o.b).1.ino=({ w with kept:=qw ⟨o.slot,(qc w.fs o.b).1.ino,true,(zg (qc w.fs o.b).1.ino w.fs.xs).data⟩ w.kept },0):=by unfold qC;rw[hh];rfl
  have h4:=xl w.fs hw.fs hs.fs (qc w.fs o.b).1.ino fb1 (qc w.fs o.a).1.data hfa
  rw[ek]at h3
  by_cases d0:(QO w.fs (qc w.fs o.b).1.ino (qc w.fs o.a).1.data).2=0
  ·have d0':=eq_true d0
   have e:qE w o=(⟨(QO w.fs (qc w.fs o.b).1.ino (qc w.fs o.a).1.data).1,qw ⟨o.slot,(qc w.fs o.b).1.ino,true,(zg (qc w.fs o.b).1.ino w.fs.xs).data⟩ w.kept,w.pool⟩,0):=by unfold qE;rw[if_neg (by simp[a0]),if_neg (by simp[b0]),if_neg i0,ek,if_neg (by simp),if_neg (by simp[d0])]
   refine Fun.of (fun _=>[]) Tryz.func139 rfl (zp rfl) (by kernel_rfl) ?_;dsimp only[Tryz.f139]
   push_cast -dsimp
   refine cl (h1) ?_;push_cast -dsimp [a0']
   refine cl (h2) ?_;push_cast -dsimp [b0',i0']
   refine cl (h3) ?_;push_cast -dsimp
   refine cl (h4) ?_;push_cast -dsimp [d0']
   exact ⟨[],rfl,rfl,by push_cast -dsimp [zb,za,CLe,ze,e]⟩
  ·have d0':=eq_false d0
   have e:qE w o=(w,(QO w.fs (qc w.fs o.b).1.ino (qc w.fs o.a).1.data).2):=by unfold qE;rw[if_neg (by simp[a0]),if_neg (by simp[b0]),if_neg i0,ek,if_neg (by simp),if_pos d0]
   refine Fun.of (fun _=>[]) Tryz.func139 rfl (zp rfl) (by kernel_rfl) ?_;dsimp only[Tryz.f139]
   push_cast -dsimp
   refine cl (h1) ?_;push_cast -dsimp [a0']
   refine cl (h2) ?_;push_cast -dsimp [b0',i0']
   refine cl (h3) ?_;push_cast -dsimp
   refine cl (h4) ?_;push_cast -dsimp [d0']
   exact ⟨[],rfl,rfl,by push_cast -dsimp [zb,za,CLe,ze,e]⟩
theorem u0 (w:jt) (hw:Zh w) (hs:vI w) (o:OpV) (s:qk) (hsp:qo w.fs s) (he:(zg s.ino w.fs.xs).es = []):ZM Tryz.prog G0 145 [.agg (j0 s),.ptr 0 0,.ptr 1 0] [zl7 w,opL o] 0 (.tup [X9 (X3 w o.slot s).1,.sc (.int .i64 (X3 w o.slot s).2)]) [zl7 w,opL o] 0:=by
 have h:=zhS w hw hs.fs (by have:=hs.kept;omega) (by have:=hs.pool;omega) o.slot s hsp he
 unfold opL
 refine ZM.of (fun _=>[]) Tryz.func145 rfl (zp rfl) (by kernel_rfl) (zp rfl) ?_;dsimp only[Tryz.f145]
 push_cast -dsimp
 refine cl (h) ?_;push_cast -dsimp
 exact ⟨[],rfl,rfl,by push_cast -dsimp [zb,za,CLe,ze],by push_cast -dsimp [zb,za,CLe,ze]⟩
theorem zgE (w:jt) (hw:Zh w) (hs:vI w) (o:OpV) (ho:short o) (pa:qz o.a=true):ZM Tryz.prog G0 144 [X9 w,.str o.a,.clo (.func 145) [] [.ptr 0 0,.ptr 1 0]] [zl7 w,opL o] 0 (.tup [X9 (jo w o).1,.sc (.int .i64 (jo w o).2)]) [zl7 w,opL o] 0:=by
 have h1:=Q0 w.fs hw.fs hs.fs o.a ho.1
 by_cases h0:(isV w.fs o.a true).2.2=0
 ·have h0':=eq_true h0
  obtain ⟨t1,t2⟩:=Jk hw.fs pa h0
  by_cases hes:(isV w.fs o.a true).2.1.es = []
  ·have hel:(0<(zL (isV w.fs o.a true).2.1.es).length)=False:=eq_false (by rw[hes];simp)
   have he:(zg (isV w.fs o.a true).1.ino w.fs.xs).es = []:=by rw[←t2];exact hes
   have hd:=u0 w hw hs o (isV w.fs o.a true).1 t1 he
   have e:jo w o=X3 w o.slot (isV w.fs o.a true).1:=by unfold jo;simp[h0,hes]
   unfold opL at hd ⊢
   refine ZM.of (fun _=>[]) Tryz.func144 rfl (zp rfl) (by kernel_rfl) (zp rfl) ?_;dsimp only[Tryz.f144]
   push_cast -dsimp
   refine cl (h1) ?_;push_cast -dsimp [h0',hel]
   refine MY [0,1] [] hd rfl (by decide) (by decide) (by simp) (by push_cast -dsimp) (by push_cast -dsimp) ?_
   push_cast -dsimp
   exact ⟨[],rfl,rfl,by push_cast -dsimp [zb,za,CLe,ze],by push_cast -dsimp [zb,za,CLe,ze,e]⟩
  ·have hel:(0<(zL (isV w.fs o.a true).2.1.es).length)=True:=eq_true (by rw[List.length_map];exact List.length_pos_iff.2 hes)
   have e:jo w o=(w,5):=by unfold jo;simp[h0,hes]
   unfold opL
   refine ZM.of (fun _=>[]) Tryz.func144 rfl (zp rfl) (by kernel_rfl) (zp rfl) ?_;dsimp only[Tryz.f144]
   push_cast -dsimp
   refine cl (h1) ?_;push_cast -dsimp [h0',hel]
   exact ⟨[],rfl,rfl,by push_cast -dsimp [zb,za,CLe,ze],by push_cast -dsimp [zb,za,CLe,ze,e]⟩
 ·have h0':=eq_false h0
  have e:jo w o=(w,(isV w.fs o.a true).2.2):=by unfold jo;simp[h0]
  unfold opL
  refine ZM.of (fun _=>[]) Tryz.func144 rfl (zp rfl) (by kernel_rfl) (zp rfl) ?_;dsimp only[Tryz.f144]
  push_cast -dsimp
  refine cl (h1) ?_;push_cast -dsimp [h0']
  exact ⟨[],rfl,rfl,by push_cast -dsimp [zb,za,CLe,ze],by push_cast -dsimp [zb,za,CLe,ze,e]⟩
theorem zdS (w:jt) (hw:Zh w) (hs:vI w) (o:OpV) (ho:short o) (pa:qz o.a=true):Fun Tryz.prog G0 136 [X9 w,.agg (opL o)] (.tup [X9 (YI w o.a 2 []).1,.sc (.int .i64 (YI w o.a 2 []).2)]) 0:=by
 have h:=HY w hw hs o.a ho.1 pa 2 [] (by simp)
 unfold opL
 refine Fun.of (fun _=>[]) Tryz.func136 rfl (zp rfl) (by kernel_rfl) ?_;dsimp only[Tryz.f136]
 push_cast -dsimp
 refine cl (h) ?_;push_cast -dsimp
 exact ⟨[],rfl,rfl,by push_cast -dsimp [zb,za,CLe,ze]⟩
theorem zem (w:jt) (hw:Zh w) (hs:vI w) (o:OpV) (ho:short o) (pa:qz o.a=true) (hd:o.d.length<=10000):Fun Tryz.prog G0 140 [X9 w,.agg (opL o)] (.tup [X9 (YI w o.a 3 o.d).1,.sc (.int .i64 (YI w o.a 3 o.d).2)]) 0:=by
 have h:=HY w hw hs o.a ho.1 pa 3 o.d hd
 unfold opL
 refine Fun.of (fun _=>[]) Tryz.func140 rfl (zp rfl) (by kernel_rfl) ?_;dsimp only[Tryz.f140]
 push_cast -dsimp
 refine cl (h) ?_;push_cast -dsimp
 exact ⟨[],rfl,rfl,by push_cast -dsimp [zb,za,CLe,ze]⟩
theorem zbz (w:jt) (hw:Zh w) (hs:vI w) (o:OpV) (ho:short o) (pa:qz o.a=true):Fun Tryz.prog G0 143 [X9 w,.agg (opL o)] (.tup [X9 (jo w o).1,.sc (.int .i64 (jo w o).2)]) 0:=by
 have h:=zgE w hw hs o ho pa
 unfold opL at h ⊢
 refine Fun.of (fun _=>[]) Tryz.func143 rfl (zp rfl) (by kernel_rfl) ?_;dsimp only[Tryz.f143]
 push_cast -dsimp
 refine MY [0,1] [] h rfl (by decide) (by decide) (by simp) (by push_cast -dsimp) (by push_cast -dsimp) ?_
 push_cast -dsimp
 exact ⟨[],rfl,rfl,by push_cast -dsimp [zb,za,CLe,ze]⟩
end
section
open Go.RowKit
section
variable {G:zk}
abbrev zmP:List C:=[.clo (.func 136) [] [],.clo (.func 138) [] [],.clo (.func 139) [] [],.clo (.func 140) [] [],.clo (.func 141) [] [],.clo (.func 142) [] [],.clo (.func 143) [] [],.clo (.func 147) [] [],.clo (.func 150) [] [],.clo (.func 151) [] []]
theorem JU:Fun Tryz.prog G 99 [] (.mo 0 140 (.int .i64 [1,2,3,4,5,6,7,8,9,10]) zmP) 1:=by
 refine Fun.of (fun _=>[]) Tryz.func99 rfl (zp rfl) (by kernel_rfl) ?_;dsimp only[Tryz.f99]
 push_cast -dsimp [UL,Q3,Option.map_none,List.nil_append,List.cons_append,reduceIte,Int.reduceEq]
 exact ⟨[.inl 0],rfl,rfl,by push_cast -dsimp [zb,za,CLe,ze]⟩
end
end
section
open CA CB
open Go.RowKit
theorem Fun.g0 {P:Program} {G':zk} {f:FuncId} {args:List C} {r:C} {n:Nat} (h:Fun P G0 f args r n):Fun P G' f args r n:=⟨h.1,fun R vs hg hv=>h.2 R vs (xN R) hv⟩
theorem yl (w:jt) (hw:Zh w) (hs:vI w) (o:OpV) (ho:short o) (hd:o.d.length<=10000) (hk:o.kind<=7):Fun Tryz.prog G1 57 [X9 w,.agg (opL o)] (.tup [X9 (doV w o).1,.sc (.int .i64 (doV w o).2)]) 0:=by
 obtain ⟨k,s,a,b,d⟩:=o
 cases hm:zba ⟨k,s,a,b,d⟩ with
 | false =>
  have e:doV w ⟨k,s,a,b,d⟩=(w,12):=by unfold doV;rw[hm];rfl
  have hop:=Js k s a b d ho
  rw[hm]at hop
  rw[e]
  unfold opL jN at hop
  unfold opL
  refine Fun.of (fun i=>if i=3 then [false,false,false,false,false,false,false,false,false,true] else []) Tryz.func57 rfl (zp rfl) (by kernel_rfl) ?_;dsimp only[Tryz.f57]
  push_cast -dsimp
  refine cl (hop) ?_;push_cast -dsimp
  exact ⟨[],rfl,rfl,by push_cast -dsimp [zb,za,CLe,ze]⟩
 | true =>
 have hk1:1<=k:=by
  unfold zba at hm
  simp only[Bool.and_eq_true,decide_eq_true_eq]at hm
  exact hm.1.1.1.1.1.1
 obtain ⟨p1,p2,_⟩:=ZD hm
 have hk7:k<=7:=hk
 obtain rfl | rfl | rfl | rfl | rfl | rfl | rfl:k=1∨k=2∨k=3∨k=4∨k=5∨k=6∨k=7:=by omega
 ·have e:doV w ⟨1,s,a,b,d⟩=YI w a 2 []:=by unfold doV;rw[hm];rfl
  have hq:=(zdS w hw hs ⟨1,s,a,b,d⟩ ho p1).g0 (G':=G1)
  have hop:=Js 1 s a b d ho
  rw[hm]at hop
  rw[e]
  unfold opL jN at hop
  unfold opL at hq ⊢
  refine Fun.of (fun i=>if i=3 then [false,false,false,false,false,false,false,false,false,true] else []) Tryz.func57 rfl (zp rfl) (by kernel_rfl) ?_;dsimp only[Tryz.f57]
  push_cast -dsimp
  refine cl (hop) ?_;push_cast -dsimp
  refine cl (JU (G:=G1)) ?_;push_cast -dsimp [vy,Q3,reduceIte,Int.reduceEq,Option.map_some,Option.map_none]
  refine cl (hq) ?_;push_cast -dsimp
  exact ⟨[],rfl,rfl,by push_cast -dsimp [zb,za,CLe,ze]⟩
 ·have e:doV w ⟨2,s,a,b,d⟩=Yo w ⟨2,s,a,b,d⟩:=by unfold doV;rw[hm];rfl
  have hq:=(uz w hw hs ⟨2,s,a,b,d⟩ ho p1 (p2 rfl)).g0 (G':=G1)
  have hop:=Js 2 s a b d ho
  rw[hm]at hop
  rw[e]
  unfold opL jN at hop
  unfold opL at hq ⊢
  refine Fun.of (fun i=>if i=3 then [false,false,false,false,false,false,false,false,false,true] else []) Tryz.func57 rfl (zp rfl) (by kernel_rfl) ?_;dsimp only[Tryz.f57]
  push_cast -dsimp
  refine cl (hop) ?_;push_cast -dsimp
  refine cl (JU (G:=G1)) ?_;push_cast -dsimp [vy,Q3,reduceIte,Int.reduceEq,Option.map_some,Option.map_none]
  refine cl (hq) ?_;push_cast -dsimp
  exact ⟨[],rfl,rfl,by push_cast -dsimp [zb,za,CLe,ze]⟩
 ·have e:doV w ⟨3,s,a,b,d⟩=qE w ⟨3,s,a,b,d⟩:=by unfold doV;rw[hm];rfl
  have hq:=(xZ w hw hs ⟨3,s,a,b,d⟩ ho p1 (p2 rfl)).g0 (G':=G1)
  have hop:=Js 3 s a b d ho
  rw[hm]at hop
  rw[e]
  unfold opL jN at hop
  unfold opL at hq ⊢
  refine Fun.of (fun i=>if i=3 then [false,false,false,false,false,false,false,false,false,true] else []) Tryz.func57 rfl (zp rfl) (by kernel_rfl) ?_;dsimp only[Tryz.f57]
  push_cast -dsimp
  refine cl (hop) ?_;push_cast -dsimp
  refine cl (JU (G:=G1)) ?_;push_cast -dsimp [vy,Q3,reduceIte,Int.reduceEq,Option.map_some,Option.map_none]
  refine cl (hq) ?_;push_cast -dsimp
  exact ⟨[],rfl,rfl,by push_cast -dsimp [zb,za,CLe,ze]⟩
 ·have e:doV w ⟨4,s,a,b,d⟩=YI w a 3 d:=by unfold doV;rw[hm];rfl
  have hq:=(zem w hw hs ⟨4,s,a,b,d⟩ ho p1 hd).g0 (G':=G1)
  have hop:=Js 4 s a b d ho
  rw[hm]at hop
  rw[e]
  unfold opL jN at hop
  unfold opL at hq ⊢
  refine Fun.of (fun i=>if i=3 then [false,false,false,false,false,false,false,false,false,true] else []) Tryz.func57 rfl (zp rfl) (by kernel_rfl) ?_;dsimp only[Tryz.f57]
  push_cast -dsimp
  refine cl (hop) ?_;push_cast -dsimp
  refine cl (JU (G:=G1)) ?_;push_cast -dsimp [vy,Q3,reduceIte,Int.reduceEq,Option.map_some,Option.map_none]
  refine cl (hq) ?_;push_cast -dsimp
  exact ⟨[],rfl,rfl,by push_cast -dsimp [zb,za,CLe,ze]⟩
 ·have e:doV w ⟨5,s,a,b,d⟩=j7 w ⟨5,s,a,b,d⟩:=by unfold doV;rw[hm];rfl
  have hq:=(ul w hw hs ⟨5,s,a,b,d⟩ ho p1 (p2 rfl)).g0 (G':=G1)
  have hop:=Js 5 s a b d ho
  rw[hm]at hop
  rw[e]
  unfold opL jN at hop
  unfold opL at hq ⊢
  refine Fun.of (fun i=>if i=3 then [false,false,false,false,false,false,false,false,false,true] else []) Tryz.func57 rfl (zp rfl) (by kernel_rfl) ?_;dsimp only[Tryz.f57]
  push_cast -dsimp
  refine cl (hop) ?_;push_cast -dsimp
  refine cl (JU (G:=G1)) ?_;push_cast -dsimp [vy,Q3,reduceIte,Int.reduceEq,Option.map_some,Option.map_none]
  refine cl (hq) ?_;push_cast -dsimp
  exact ⟨[],rfl,rfl,by push_cast -dsimp [zb,za,CLe,ze]⟩
 ·have e:doV w ⟨6,s,a,b,d⟩=Xe w ⟨6,s,a,b,d⟩:=by unfold doV;rw[hm];rfl
  have hq:=(zbr w hw hs ⟨6,s,a,b,d⟩ ho p1 (p2 rfl)).g0 (G':=G1)
  have hop:=Js 6 s a b d ho
  rw[hm]at hop
  rw[e]
  unfold opL jN at hop
  unfold opL at hq ⊢
  refine Fun.of (fun i=>if i=3 then [false,false,false,false,false,false,false,false,false,true] else []) Tryz.func57 rfl (zp rfl) (by kernel_rfl) ?_;dsimp only[Tryz.f57]
  push_cast -dsimp
  refine cl (hop) ?_;push_cast -dsimp
  refine cl (JU (G:=G1)) ?_;push_cast -dsimp [vy,Q3,reduceIte,Int.reduceEq,Option.map_some,Option.map_none]
  refine cl (hq) ?_;push_cast -dsimp
  exact ⟨[],rfl,rfl,by push_cast -dsimp [zb,za,CLe,ze]⟩
 ·have e:doV w ⟨7,s,a,b,d⟩=jo w ⟨7,s,a,b,d⟩:=by unfold doV;rw[hm];rfl
  have hq:=(zbz w hw hs ⟨7,s,a,b,d⟩ ho p1).g0 (G':=G1)
  have hop:=Js 7 s a b d ho
  rw[hm]at hop
  rw[e]
  unfold opL jN at hop
  unfold opL at hq ⊢
  refine Fun.of (fun i=>if i=3 then [false,false,false,false,false,false,false,false,false,true] else []) Tryz.func57 rfl (zp rfl) (by kernel_rfl) ?_;dsimp only[Tryz.f57]
  push_cast -dsimp
  refine cl (hop) ?_;push_cast -dsimp
  refine cl (JU (G:=G1)) ?_;push_cast -dsimp [vy,Q3,reduceIte,Int.reduceEq,Option.map_some,Option.map_none]
  refine cl (hq) ?_;push_cast -dsimp
  exact ⟨[],rfl,rfl,by push_cast -dsimp [zb,za,CLe,ze]⟩
end
section
open Go.RowKit
section
variable {G:zk}
theorem zhd (w:jt) (hk:w.kept.length<=100000):Fun Tryz.prog G 64 [X9 w] (.sc (.int .i64 (Vr w.kept))) 0:=by
 obtain ⟨f,ks,pool⟩:=w
 have hk:ks.length<=100000:=hk
 have hll:(zJ ks).length=ks.length:=List.length_map ..
 rcases Nat.eq_zero_or_pos ks.length with h0 | h0
 ·have e:ks = []:=List.length_eq_zero_iff.1 h0
  subst e
  refine Fun.of (fun _=>[]) Tryz.func64 rfl (zp rfl) (by kernel_rfl) ?_;dsimp only[Tryz.f64]
  push_cast -dsimp [List.map_nil,List.length_nil]
  exact ⟨[],rfl,rfl,by push_cast -dsimp [zb,za,CLe,ze,show Vr []=0 from rfl]⟩
 ·obtain ⟨m,hm⟩:∃ m,ks.length=m+1:=⟨ks.length-1,by omega⟩
  have hz:(((zJ ks).length:Int)=0)=False:=eq_false (by omega)
  have hn:((zJ ks).length:Int)-1=(m:Int):=by omega
  have hat:=Vj ks m (by omega)
  have hls:Vr ks=(ks[m]'(by omega)).slot:=by
   unfold Vr
   rw[List.getLast?_eq_getElem?,show ks.length-1=m by omega,List.getElem?_eq_getElem (by omega)]
  refine Fun.of (fun _=>[]) Tryz.func64 rfl (zp rfl) (by kernel_rfl) ?_;dsimp only[Tryz.f64]
  push_cast -dsimp [hz,hn,hat,Int.toNat_natCast]
  refine ⟨by omega,by omega,?_⟩
  exact ⟨[],rfl,rfl,by push_cast -dsimp [zb,za,CLe,ze,hls]⟩
theorem ZK (o:OpV):Fun Tryz.prog G 56 [.agg (opL o)] (.sc (.bool (decide (o.kind=3∨o.kind=7)))) 0:=by
 unfold opL
 by_cases h:o.kind=3
 ·have h':=eq_true h
  refine Fun.of (fun _=>[]) Tryz.func56 rfl (zp rfl) (by kernel_rfl) ?_;dsimp only[Tryz.f56]
  push_cast -dsimp [h']
  exact ⟨[],rfl,rfl,by push_cast -dsimp [zb,za,CLe,ze,h',true_or,decide_true]⟩
 ·have h':=eq_false h
  refine Fun.of (fun _=>[]) Tryz.func56 rfl (zp rfl) (by kernel_rfl) ?_;dsimp only[Tryz.f56]
  push_cast -dsimp [h']
  exact ⟨[],rfl,rfl,by push_cast -dsimp [zb,za,CLe,ze,h',false_or]⟩
end
end
section
open CA CB
open Go.RowKit
abbrev zpu (d:jG):List C:=[.sc (.int .i64 d.w.fs.maxI),.sc (.int .i64 d.w.fs.maxB),.sc (.int .i64 d.w.fs.next),.sl 6 (zt d.w.fs.xs),.sl 4 (zJ d.w.kept),.sl 6 (zt d.w.pool),.sl 5 (d.ops.map opL),.sl 1 (qA d.diags),.sc (.int .i64 d.status),.sc (.int .i64 d.slot)]
abbrev znX (d:jG):C:=.agg (zpu d)
section
variable {G:zk}
theorem zhW (w:jt) (hk:w.kept.length<=100000):Fun Tryz.prog G 30 [X9 w] (znX (zh5 w)) 0:=by
 have h:=zhd (G:=G) w hk
 refine Fun.of (fun i=>if i=1 then [false,false,false,false,true] else []) Tryz.func30 rfl (zp rfl) (by kernel_rfl) ?_;dsimp only[Tryz.f30]
 push_cast -dsimp
 refine cl (h) ?_;push_cast -dsimp
 exact ⟨[],rfl,rfl,by push_cast -dsimp [zb,za,CLe,ze,zh5]⟩
end
end
end Go.Proofs.YtiblepfehggicaaGreatDoor.Vcg
