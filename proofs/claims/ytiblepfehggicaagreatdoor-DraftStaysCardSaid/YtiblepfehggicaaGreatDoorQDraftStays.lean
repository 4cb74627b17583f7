/- The statement of DraftStays is proved: for every input the law answers true, and each argument reads behind the call as it read before. Condition: none but what the row itself prints. -/
import Derived.Test.YtiblepfehggicaaGreatDoorDraftStaysKe
import Derived.Test.YtiblepfehggicaaGreatDoorCards
import Derived.Test.YtiblepfehggicaaGreatDoorTie
import Derived.WalkKit
import Derived.ProofKit
import Derived.OpenShut
import Derived.ShutString
import Derived.ChangeOld
import Derived.Below
import Derived.LaidMore
import Derived.Lay
import Derived.SevenTiedAt
import Derived.Stop.Joined
set_option linter.unusedVariables false
set_option linter.unusedSimpArgs false
set_option linter.unusedSectionVars false
set_option maxRecDepth 100000
set_option maxHeartbeats 4000000
namespace Go.Proofs.YtiblepfehggicaaGreatDoor.Vcg
section
open CA CB
open Go.RowKit
theorem H0 {m:Nat}:∀ {cs ds:List C},vK m cs ds->(cs.all C.stayB)=true->(ds.all C.stayB)=true/\ds.length=cs.length
 | [],ds,h,_=>by unfold vK at h;subst h;exact ⟨rfl,rfl⟩
 | c :: r,ds,h,hs=>by
  unfold vK at h
  obtain ⟨e,s,rfl,h1,h2⟩:=h
  simp only[List.all_cons,Bool.and_eq_true]at hs ⊢
  obtain ⟨g1,g2⟩:=H0 h2 hs.2
  refine ⟨⟨?_,g1⟩,by simp[g2]⟩
  have h3:=hs.1
  cases c<;>simp[C.stayB]at h3<;>simp only[wsh]at h1<;>first | (subst h1;rfl) | (obtain ⟨_,_,_,rfl⟩:=h1;rfl)
abbrev jU:OpV:=⟨1,0,[47,111,116,104,101,114],[],[]⟩
theorem vQ (d:qC) (hd:Xp d) (hne:(jT d jU).2≠0) (X:List C) (n c:Nat) (hX:(X.all C.stayB)=true):JT Tryz.prog GD 25 [zbT d (.bs 0 0 5 n c) (.sl 1 (qv d.diags)),.agg (opL jU)] [X] 0 (fun r bx m=>m=0/\r = .tup [zbT d (.bs 0 0 5 n c) (.sl 1 (qv d.diags)),.sc (.int .i64 (jT d jU).2)]/\bx = [X,zi,Yo,zi,jn]):=by
 have hsl:=XA (G:=GD) jU
 rw[decide_eq_false (show ¬(jU.kind=3∨jU.kind=7) by decide)]at hsl
 have hdo:=(Mo d.w hd.wi hd.ws jU ⟨by decide,by decide,by decide⟩ (by decide) (by decide)).gd1
 have ea:(jT d jU).2=(doV d.w jU).2:=by
  have e:Yn d jU=jU:=rfl
  unfold jT;rw[if_neg (by decide),e]
  by_cases hz:(doV d.w jU).2=0
  ·rw[if_neg (fun h=>h hz),hz]
  ·rw[if_pos hz]
 rw[ea]at hne
 have hz':=eq_false hne
 have hre:∀ fp fo,C.reL fp fo X=X:=fun fp fo=>zl hX
 unfold opL at hsl hdo ⊢
 refine foX (fun _=>[]) Tryz.func25 ?_;dsimp only[Tryz.f25]
 push_cast -dsimp
 refine cl (hsl) ?_;push_cast -dsimp [hre]
 repeat refine an ?_
 push_cast -dsimp
 refine cl (hdo) ?_;push_cast -dsimp [hre,hz']
 exact ⟨_,[X,zi,Yo,zi,jn],0,⟨⟨rfl,rfl,rfl⟩,by simp⟩,[],rfl,rfl,by (push_cast -dsimp [zb,za,CLe,ze];exact zp hX),by push_cast -dsimp [zb,za,CLe,ze,ea]⟩
theorem vC (d:qC) {bx:List (List C)} {i n c:Nat} {X:List C} (hb:bx[i]?=some X) (hn:d.ops.length=n) (hc:n<=c) (hm:c<=9223372036854775807) (ht:X.take (n*5)=(d.ops.map opL).flatten):qZ bx (zbT d (.bs i 0 5 n c) (.sl 1 (qv d.diags))) (v8 d):=by
 have hl:=JN hb ((List.length_map opL).trans hn) hc hm (fun r hr=>by obtain ⟨x,_,rfl⟩:=List.mem_map.1 hr;rfl) (fun r hr=>by obtain ⟨x,_,rfl⟩:=List.mem_map.1 hr;rfl) ht
 simp only[qZ,je,C.frz]
 exact ⟨_,rfl,_,_,rfl,rfl,_,_,rfl,rfl,_,_,rfl,rfl,_,_,rfl,rfl,_,_,rfl,rfl,_,_,rfl,rfl,_,_,rfl,by simpa [qZ] using hl,_,_,rfl,rfl,_,_,rfl,rfl,_,_,rfl,rfl,rfl⟩
abbrev zO:List C:=[.sc (.int .i64 0),.sc (.int .i64 0),.str [],.str [],.str []]
theorem uz {d:qC} {m:Nat} {Z O R:List C} (hfl2:(d.ops.map opL).flatten.length=d.ops.length*5) (hfs:((d.ops.map opL).flatten.all C.stayB)=true) (hm:m=d.ops.length+2) (hZ:(List.replicate m zO).flatten=Z) (hOt:O.take (d.ops.length*5)=(d.ops.map opL).flatten) (hR:spl Z 0 (List.take (min d.ops.length m*5) (List.take (d.ops.length*5) O))=R) :
  (R.all C.stayB)=true/\R.length=m*5/\R.take (d.ops.length*5)=(d.ops.map opL).flatten/\R.drop (d.ops.length*5)=zO++zO:=by
 have hRe:R=(d.ops.map opL).flatten++(zO++zO):=by
  rw[←hR,List.take_take,show min (min d.ops.length m*5) (d.ops.length*5)=d.ops.length*5 by omega,hOt,←hZ,hm]
  unfold spl
  rw[List.take_zero,List.nil_append,Nat.zero_add,hfl2,←List.replicate_append_replicate,List.flatten_append,List.drop_left' (by rw[qf (k:=5) (fun r hr=>by rw[List.eq_of_mem_replicate hr];rfl),List.length_replicate])]
  rfl
 rw[hRe]
 exact ⟨by simp[hfs,C.stayB],by simp[hfl2];omega,List.take_left' hfl2,List.drop_left' hfl2⟩
theorem Yw {X row:List C} {p k:Nat} (hk:row.length=k) (h:p+k<=X.length) (hs:(X.all C.stayB)=true) (hr:(row.all C.stayB)=true):(X.take p++row++X.drop (p+k)).length=X.length/\((X.take p++row++X.drop (p+k)).all C.stayB)=true/\∀ q,p+k<=q->(X.take p++row++X.drop (p+k)).drop q=X.drop q:=by
 have hl:(X.take p++row).length=p+k:=by simp[hk];omega
 refine ⟨by simp[hk];omega,?_,fun q hq=>?_⟩
 ·rw[List.all_append,List.all_append,Bool.and_eq_true,Bool.and_eq_true]
  rw[List.all_eq_true]at hs
  exact ⟨⟨List.all_eq_true.2 fun x hx=>hs x (List.mem_of_mem_take hx),hr⟩,List.all_eq_true.2 fun x hx=>hs x (List.mem_of_mem_drop hx)⟩
 ·rw[List.drop_append,hl,List.drop_eq_nil_of_le (by omega),List.nil_append,List.drop_drop]
  congr 1;omega
structure zqc (k n c:Nat) (B:List C):Prop where
 fit:n<=c
 max:c<=9223372036854775807
 len:B.length=c*k
 stay:(B.all C.stayB)=true
theorem MM (d:qC) (hd:Xp d) (hne:(jT d jU).2=0) {n c:Nat} {X:List C} (hn:d.ops.length=n) (hc:n<=c) (hm:c<=9223372036854775807) (ht:X.take (n*5)=(d.ops.map opL).flatten) :
  JT Tryz.prog GD 25 [zbT d (.bs 0 0 5 n c) (.sl 1 (qv d.diags)),.agg (opL jU)] [X] 0 (fun r bx m=>m=0/\∃ c' B x1 x2 x3 x4,∃ y1 y2 y3 z1 z2:Int,∃ n1 n2 n3 n4 k1 k2 k3 k4,zqc 5 (jT d jU).1.ops.length c' B/\r = .tup [.agg [.sc (.int .i64 y1),.sc (.int .i64 y2),.sc (.int .i64 y3),.sc (.slice x1 n1 k1),.sc (.slice x2 n2 k2),.sc (.slice x3 n3 k3),.bs 5 0 5 (jT d jU).1.ops.length c',.sc (.slice x4 n4 k4),.sc (.int .i64 z1),.sc (.int .i64 z2)],.sc (.int .i64 0)]/\bx = [X,zi,Yo,zi,jn,B]):=by
 refine (JT.lend (zjq d hd jU ⟨by decide,by decide,by decide⟩ (by decide) hne) (fun r b n h=>h.1) ?_).mono ?_
 ·have:=vC d (bx:=[X]) (i:=0) rfl hn hc hm ht
  unfold je
  exact ⟨_,_,rfl,this,by simp[je,qZ,opL,C.frz]⟩
 ·rintro r b m ⟨rfl,r0,b0,d0,⟨_,c',B,hB,rfl,rfl⟩,hr,rfl,hb⟩
  simp only[wsh,vK]at hr
  obtain ⟨_,rfl,_,_,rfl,⟨_,rfl,_,_,rfl,rfl,_,_,rfl,rfl,_,_,rfl,rfl,_,_,rfl,⟨x1,n1,k1,rfl⟩,_,_,rfl,⟨x2,n2,k2,rfl⟩,_,_,rfl,⟨x3,n3,k3,rfl⟩,_,_,rfl,rfl,_,_,rfl,⟨x4,n4,k4,rfl⟩,_,_,rfl,rfl,_,_,rfl,rfl,rfl⟩,_,_,rfl,rfl,rfl⟩:=hr
  simp only[zfW,vK,wsh]at hb
  obtain ⟨_,_,rfl,⟨_,_,rfl,rfl,_,_,rfl,rfl,_,_,rfl,rfl,_,_,rfl,rfl,_,_,rfl,rfl,_,_,rfl,rfl,_,_,rfl,rfl,_,_,rfl,rfl,_,_,rfl,rfl,_,_,rfl,rfl,rfl⟩,_,_,rfl,⟨_,_,rfl,rfl,_,_,rfl,rfl,_,_,rfl,rfl,_,_,rfl,rfl,_,_,rfl,rfl,rfl⟩,_,_,rfl,⟨_,_,rfl,rfl,_,_,rfl,rfl,_,_,rfl,rfl,_,_,rfl,rfl,_,_,rfl,rfl,_,_,rfl,rfl,_,_,rfl,rfl,_,_,rfl,rfl,_,_,rfl,rfl,_,_,rfl,rfl,rfl⟩,_,_,rfl,⟨_,_,rfl,rfl,_,_,rfl,rfl,_,_,rfl,rfl,_,_,rfl,rfl,_,_,rfl,rfl,_,_,rfl,rfl,rfl⟩,B2,_,rfl,hB2,rfl⟩:=hb
  obtain ⟨g1,g2⟩:=H0 hB2 hB.stay
  exact ⟨rfl,c',B2,x1,x2,x3,x4,_,_,_,_,_,n1,n2,n3,n4,k1,k2,k3,k4,⟨by have:=hB.fit;rwa [List.length_map]at this,hB.max,by rw[g2,hB.len],g1⟩,rfl,rfl⟩
theorem XX (d:qC) (hd:Xp d) {n c:Nat} {X:List C} (hn:d.ops.length=n) (hc:n<=c) (hm:c<=9223372036854775807) (ht:X.take (n*5)=(d.ops.map opL).flatten) :
  JT Tryz.prog GD 26 [zbT d (.bs 0 0 5 n c) (.sl 1 (qv d.diags)),.sc (.int .i64 1),.sc (.int .i64 1),.str [120],.str [],.sc (.int .i64 1)] [X] 0 (fun r bx m=>m=0/\∃ c' B x1 x2 x3 x4,∃ y1 y2 y3 z1 z2:Int,∃ n1 n2 n3 n4 k1 k2 k3 k4,zqc 1 (d.diags.length+1) c' B/\r = .agg [.sc (.int .i64 y1),.sc (.int .i64 y2),.sc (.int .i64 y3),.sc (.slice x1 n1 k1),.sc (.slice x2 n2 k2),.sc (.slice x3 n3 k3),.sc (.slice x4 n4 k4),.bs 3 0 1 (d.diags.length+1) c',.sc (.int .i64 z1),.sc (.int .i64 z2)]/\bx = [X,zi,zi,B]):=by
 refine (JT.lend (zfo d hd.diags 1 1 [120] [] 1 (by decide) (by decide)) (fun r b n h=>h.1) ?_).mono ?_
 ·have:=vC d (bx:=[X]) (i:=0) rfl hn hc hm ht
  unfold je
  exact ⟨_,_,rfl,this,by simp[je,qZ,C.frz]⟩
 ·rintro r b m ⟨rfl,r0,b0,d0,⟨_,c',B,hB,rfl,rfl⟩,hr,rfl,hb⟩
  simp only[wsh,vK]at hr
  obtain ⟨_,rfl,_,_,rfl,rfl,_,_,rfl,rfl,_,_,rfl,rfl,_,_,rfl,⟨x1,n1,k1,rfl⟩,_,_,rfl,⟨x2,n2,k2,rfl⟩,_,_,rfl,⟨x3,n3,k3,rfl⟩,_,_,rfl,⟨x4,n4,k4,rfl⟩,_,_,rfl,rfl,_,_,rfl,rfl,_,_,rfl,rfl,rfl⟩:=hr
  simp only[zfW,vK,wsh]at hb
  obtain ⟨_,_,rfl,⟨_,_,rfl,rfl,_,_,rfl,rfl,_,_,rfl,rfl,_,_,rfl,rfl,_,_,rfl,rfl,_,_,rfl,rfl,_,_,rfl,rfl,_,_,rfl,rfl,_,_,rfl,rfl,_,_,rfl,rfl,rfl⟩,_,_,rfl,⟨_,_,rfl,rfl,_,_,rfl,rfl,_,_,rfl,rfl,_,_,rfl,rfl,_,_,rfl,rfl,_,_,rfl,rfl,_,_,rfl,rfl,_,_,rfl,rfl,_,_,rfl,rfl,_,_,rfl,rfl,rfl⟩,B2,_,rfl,hB2,rfl⟩:=hb
  obtain ⟨g1,g2⟩:=H0 hB2 hB.stay
  exact ⟨rfl,c',B2,x1,x2,x3,x4,_,_,_,_,_,n1,n2,n3,n4,k1,k2,k3,k4,⟨by have:=hB.fit;simpa [Xb] using this,hB.max,by rw[g2,hB.len],g1⟩,rfl,rfl⟩
theorem kw (w:qy) (l:List OpV):Fun Tryz.prog GD 6 [js w,.sl 5 (GV l)] (qG true) 0:=by
 have h1:=(zbg w l).gd0
 cases hf:Q3 w l with
 | false =>
  rw[hf]at h1
  refine fof (fun i=>if i=1000000+30 then [true,true] else []) Tryz.func6 ?_;dsimp only[Tryz.f6]
  push_cast -dsimp
  refine cl (Qz) ?_;push_cast -dsimp
  refine cl (h1) ?_;push_cast -dsimp
  refine cl (Qz) ?_;push_cast -dsimp
  exact dn
 | true =>
  rw[hf]at h1
  obtain ⟨p1,p2,p3,p4⟩:=zbm hf
  have h2:=zbO w l p1 p2 p3 p4
  have hd:=(zhx p1 p2 (fun o h=>(p4 o h).d) l.length).s (by omega)
  generalize mkD w l l.length=d at h2 hd
  have hol:=hd.ops
  have hol2:(d.ops.map opL).length=d.ops.length:=List.length_map ..
  have hdl:=hd.diags
  have hfl:(d.ops.map opL).flatten.length=(d.ops.map opL).length*5:=qf (fun r hr=>by obtain ⟨x,_,rfl⟩:=List.mem_map.1 hr;rfl)
  have hfs:((d.ops.map opL).flatten.all C.stayB)=true:=JZ (fun r hr=>by obtain ⟨x,_,rfl⟩:=List.mem_map.1 hr;rfl)
  have hfl2:(d.ops.map opL).flatten.length=d.ops.length*5:=by rw[hfl,hol2]
  obtain ⟨m,hm⟩:∃ m,m=d.ops.length+2:=⟨_,rfl⟩
  have htn:((d.ops.length:Int)+2).toNat=m:=by omega
  obtain ⟨Z,hZ⟩:∃ Z,(List.replicate m zO).flatten=Z:=⟨_,rfl⟩
  have hZl:Z.length=m*5:=by rw[←hZ,qf (k:=5) (fun r hr=>by rw[List.eq_of_mem_replicate hr];rfl),List.length_replicate]
  have hk5:∀ r∈d.ops.map opL,r.length=5:=fun r hr=>by obtain ⟨x,_,rfl⟩:=List.mem_map.1 hr;rfl
  have hst5:qV (d.ops.map opL):=fun r hr=>by obtain ⟨x,_,rfl⟩:=List.mem_map.1 hr;rfl
  have hs1:=(G6 d.ops d.ops (by omega)).gd0
  rw[Vj]at hs1
  have hs2:=(zcD d.ops d.diags d.status (by omega) (by omega)).gd0
  refine fof (fun i=>if i=1000000+30 then [true,true] else []) Tryz.func6 ?_;dsimp only[Tryz.f6]
  push_cast -dsimp
  refine cl (Qz) ?_;push_cast -dsimp
  refine cl (h1) ?_;push_cast -dsimp
  refine cl (h2) ?_;push_cast -dsimp
  refine Qq yp xm rfl rfl (by decide) rfl hfl rfl (by simp) (by omega) (by omega) (by omega) (fun h0=>?_) (fun h0 c0 q1 q2=>?_)
  ·obtain ⟨O,hO⟩:∃ O,spl [] 0 (d.ops.map opL).flatten=O:=⟨_,rfl⟩
   have hn0:d.ops.length=0:=by omega
   have hOe:O = []:=by rw[←hO,List.eq_nil_of_length_eq_zero hn0];rfl
   have hOs:(O.all C.stayB)=true:=by rw[hOe];rfl
   have hOt:O.take (d.ops.length*5)=(d.ops.map opL).flatten:=by rw[hOe,List.eq_nil_of_length_eq_zero hn0];rfl
   have hOl:d.ops.length*5<=O.length:=by rw[hn0];omega
   have hdg:∀ id,C.dgL id O=O:=fun id=>Gt hOs
   obtain ⟨R,hR⟩:∃ R,spl Z 0 (List.take (min d.ops.length m*5) (List.take (d.ops.length*5) O))=R:=⟨_,rfl⟩
   obtain ⟨hRs,hRl,hRt,hRd⟩:=uz hfl2 hfs hm hZ hOt hR
   have hreR:∀ fp fo,C.reL fp fo R=R:=fun fp fo=>zl hRs
   have hreO:∀ fp fo,C.reL fp fo O=O:=fun fp fo=>zl hOs
   have lO:∀ src n,ze src n O O:=fun _ _=>zp hOs
   have lR:∀ src n,ze src n R R:=fun _ _=>zp hRs
   push_cast -dsimp [hO,hdg,htn,hZ]
   repeat refine an ?_
   refine zb8 yp xm (QJ rfl (by rw[Nat.zero_add];exact hOl)) rfl (by simp;omega) (by omega) ?_
   push_cast -dsimp [hR]
   repeat refine an ?_
   by_cases hz:(jT d jU).2=0
   ·refine jo [4] [] (MM d hd hz (c:=m) rfl (by omega) (by omega) hRt) rfl (by decide) (by decide) (by simp) (by push_cast -dsimp [Qb]) (by push_cast -dsimp [hreR]) (fun r bx' m' hp=>?_)
    obtain ⟨rfl,c',B,x1,x2,x3,x4,y1,y2,y3,z1,z2,n1,n2,n3,n4,k1,k2,k3,k4,hB,rfl,rfl⟩:=hp
    have hre:∀ fp fo,C.reL fp fo B=B:=fun fp fo=>zl hB.stay
    have lB:∀ src n,ze src n B B:=fun _ _=>zp hB.stay
    obtain ⟨N1,hN1⟩:∃ N1,(jT d jU).1.ops.length=N1:=⟨_,rfl⟩
    rw[hN1]at hB
    have hf1:=hB.fit
    have hm1:=hB.max
    push_cast -dsimp [hreR,hreO,hre,hN1,List.not_mem_nil]
    refine jo [4] [] (XX d hd (c:=m) rfl (by omega) (by omega) hRt) rfl (by decide) (by decide) (by simp) (by push_cast -dsimp) (by push_cast -dsimp [hreR]) (fun r bx' m' hp=>?_)
    obtain ⟨rfl,c2,B2,u1,u2,u3,u4,v1,v2,v3,w1,w2,m1,m2,m3,m4,j1,j2,j3,j4,hB2,rfl,rfl⟩:=hp
    have hre2:∀ fp fo,C.reL fp fo B2=B2:=fun fp fo=>zl hB2.stay
    have lB2:∀ src n,ze src n B2 B2:=fun _ _=>zp hB2.stay
    have hf2:=hB2.fit
    push_cast -dsimp [hreR,hreO,hre2,hre,List.not_mem_nil]
    refine loop (fun p:Nat×List C=>⟨[(5,.ptr 1 0),(8,.bs 3 0 5 d.ops.length 0),(9,.own 0 9 1 (qv d.diags)),(10,.bs 4 0 5 m m),(12,.ptr 11 0),(14,.ptr 15 0),(15,.sc (.int .i64 p.1))],[jn,kG d,zi,O,R,zi,zi,Yo,zi,jn,p.2,[.any,.any,.any,.any,.any,.any,.bs 10 0 5 N1 c',.any,.any,.any],zi,zi,B2,[.any,.any,.any,.any,.any,.any,.any,.bs 14 0 1 (d.diags.length+1) c2,.any,.any]],1,0⟩) (fun p=>p.1<=N1/\p.2.length=c'*5/\(p.2.all C.stayB)=true) (fun p=>N1-p.1) (0,B) ⟨Nat.zero_le _,hB.len,hB.stay⟩ ?_ ?_
    ·exact wks [.inl 0] (by push_cast -dsimp [zb,za,CLe,ze]) (by push_cast -dsimp [zb,za,CLe,ze,lO,lR,lB,lB2])
    rintro ⟨i,X⟩ ⟨hi,hX,hXs⟩
    dsimp only at hi hX hXs
    have lX:∀ src n,ze src n X X:=fun _ _=>zp hXs
    by_cases h:i<N1
    ·obtain ⟨g1,g2,g3⟩:=Yw (X:=X) (p:=i*5) (row:=zO) (k:=5) rfl (by rw[hX];omega) hXs rfl
     have lX2:∀ src n,ze src n (X.take (i*5)++zO++X.drop (i*5+5)) (X.take (i*5)++zO++X.drop (i*5+5)):=fun _ _=>zp g2
     push_cast -dsimp [h]
     repeat refine an ?_
     exact ⟨(i+1,X.take (i*5)++zO++X.drop (i*5+5)),⟨h,g1.trans hX,g2⟩,Nat.sub_succ_lt_self _ _ h,wks [.inl 0] (by push_cast -dsimp [zb,za,CLe,ze]) (by push_cast -dsimp [zb,za,CLe,ze,lO,lR,lB,lB2,lX2])⟩
    push_cast -dsimp [h]
    refine loop (fun p:Nat×List C=>⟨[(5,.ptr 1 0),(8,.bs 3 0 5 d.ops.length 0),(9,.own 0 9 1 (qv d.diags)),(10,.bs 4 0 5 m m),(14,.ptr 15 0),(16,.sc (.int .i64 p.1))],[jn,kG d,zi,O,R,zi,zi,Yo,zi,jn,X,[.any,.any,.any,.any,.any,.any,.bs 10 0 5 N1 c',.any,.any,.any],zi,zi,p.2,[.any,.any,.any,.any,.any,.any,.any,.bs 14 0 1 (d.diags.length+1) c2,.any,.any]],1,0⟩) (fun p=>p.1<=d.diags.length+1/\p.2.length=c2/\(p.2.all C.stayB)=true) (fun p=>d.diags.length+1-p.1) (0,B2) ⟨Nat.zero_le _,by rw[hB2.len,Nat.mul_one],hB2.stay⟩ ?_ ?_
    ·exact wks [.inl 0] (by push_cast -dsimp [zb,za,CLe,ze]) (by push_cast -dsimp [zb,za,CLe,ze,lO,lR,lB,lB2,lX])
    rintro ⟨j,Y⟩ ⟨hj,hY,hYs⟩
    dsimp only at hj hY hYs
    have hjm:(((j:Int)<((d.diags.length:Int)+1)))=(j<d.diags.length+1):=propext (by omega)
    by_cases hh:j<d.diags.length+1
    ·obtain ⟨g1,g2,g3⟩:=Yw (X:=Y) (p:=j) (row:=[.str []]) (k:=1) rfl (by rw[hY];omega) hYs rfl
     have lY2:∀ src n,ze src n (Y.take j++[.str []]++Y.drop (j+1)) (Y.take j++[.str []]++Y.drop (j+1)):=fun _ _=>zp g2
     push_cast -dsimp [hjm,hh]
     repeat refine an ?_
     exact ⟨(j+1,Y.take j++[.str []]++Y.drop (j+1)),⟨hh,g1.trans hY,g2⟩,Nat.sub_succ_lt_self _ _ hh,wks [.inl 0] (by push_cast -dsimp [zb,za,CLe,ze]) (by push_cast -dsimp [zb,za,CLe,ze,lO,lR,lB,lB2,lX,lY2])⟩
    push_cast -dsimp [hjm,hh]
    refine kr [.sl 5 (d.ops.map opL),.sl 5 (d.ops.map opL)] hs1 rfl (by (simp only[je,qZ,C.frz];exact ⟨_,_,rfl,rfl,_,_,rfl,by simpa [qZ] using JN (k:=5) (rows:=d.ops.map opL) (bx:=[jn,kG d,zi,O,R,zi,zi,Yo,zi,jn,X,[.any,.any,.any,.any,.any,.any,.bs 10 0 5 N1 c',.any,.any,.any],zi,zi,Y,[.any,.any,.any,.any,.any,.any,.any,.bs 14 0 1 (d.diags.length+1) c2,.any,.any]]) (i:=3) (cap:=0) rfl hol2 (by omega) (by omega) hk5 hst5 hOt,rfl⟩)) ?_
    push_cast -dsimp [hRd]
    repeat refine an ?_
    refine kr [.agg [.sl 5 (d.ops.map opL),.sl 1 (qv d.diags),.sc (.int .i64 d.status)],.agg [.sl 5 (d.ops.map opL),.sl 1 (qv d.diags),.sc (.int .i64 d.status)]] hs2 rfl (by (simp only[je,qZ,C.frz];exact ⟨_,_,rfl,⟨_,rfl,_,_,rfl,rfl,_,_,rfl,rfl,_,_,rfl,rfl,rfl⟩,_,_,rfl,⟨_,rfl,_,_,rfl,by simpa [qZ] using JN (k:=5) (rows:=d.ops.map opL) (bx:=[jn,kG d,zi,O,R,zi,zi,Yo,zi,jn,X,[.any,.any,.any,.any,.any,.any,.bs 10 0 5 N1 c',.any,.any,.any],zi,zi,Y,[.any,.any,.any,.any,.any,.any,.any,.bs 14 0 1 (d.diags.length+1) c2,.any,.any]]) (i:=3) (cap:=0) rfl hol2 (by omega) (by omega) hk5 hst5 hOt,_,_,rfl,rfl,_,_,rfl,rfl,rfl⟩,rfl⟩)) ?_
    push_cast -dsimp
    exact dn
   ·refine jo [4] [] (vQ d hd hz R d.ops.length m hRs) rfl (by decide) (by decide) (by simp) (by push_cast -dsimp [Qb]) (by push_cast -dsimp [hreR]) (fun r bx' m' hp=>?_)
    obtain ⟨rfl,rfl,rfl⟩:=hp
    push_cast -dsimp [hreR,hreO,List.not_mem_nil]
    refine jo [4] [] (XX d hd (c:=m) rfl (by omega) (by omega) hRt) rfl (by decide) (by decide) (by simp) (by push_cast -dsimp) (by push_cast -dsimp [hreR]) (fun r bx' m' hp=>?_)
    obtain ⟨rfl,c2,B2,u1,u2,u3,u4,v1,v2,v3,w1,w2,m1,m2,m3,m4,j1,j2,j3,j4,hB2,rfl,rfl⟩:=hp
    have hre2:∀ fp fo,C.reL fp fo B2=B2:=fun fp fo=>zl hB2.stay
    have lB2:∀ src n,ze src n B2 B2:=fun _ _=>zp hB2.stay
    have hf2:=hB2.fit
    push_cast -dsimp [hreR,hreO,hre2,List.not_mem_nil]
    refine loop (fun p:Nat×List C=>⟨[(5,.ptr 1 0),(8,.bs 3 0 5 d.ops.length 0),(9,.own 0 9 1 (qv d.diags)),(10,.bs 4 0 5 m m),(12,.ptr 10 0),(14,.ptr 14 0),(15,.sc (.int .i64 p.1))],[jn,kG d,zi,O,p.2,zi,zi,Yo,zi,jn,[.any,.any,.any,.any,.any,.any,.bs 4 0 5 d.ops.length m,.any,.any,.any],zi,zi,B2,[.any,.any,.any,.any,.any,.any,.any,.bs 13 0 1 (d.diags.length+1) c2,.any,.any]],1,0⟩) (fun p=>p.1<=d.ops.length/\p.2.length=m*5/\(p.2.all C.stayB)=true/\p.2.drop (d.ops.length*5)=zO++zO) (fun p=>d.ops.length-p.1) (0,R) ⟨Nat.zero_le _,hRl,hRs,hRd⟩ ?_ ?_
    ·exact wks [.inl 0] (by push_cast -dsimp [zb,za,CLe,ze]) (by push_cast -dsimp [zb,za,CLe,ze,lO,lR,lB2])
    rintro ⟨i,X⟩ ⟨hi,hX,hXs,hXd⟩
    dsimp only at hi hX hXs hXd
    have lX:∀ src n,ze src n X X:=fun _ _=>zp hXs
    by_cases h:i<d.ops.length
    ·obtain ⟨g1,g2,g3⟩:=Yw (X:=X) (p:=i*5) (row:=zO) (k:=5) rfl (by rw[hX];omega) hXs rfl
     have lX2:∀ src n,ze src n (X.take (i*5)++zO++X.drop (i*5+5)) (X.take (i*5)++zO++X.drop (i*5+5)):=fun _ _=>zp g2
     push_cast -dsimp [h]
     repeat refine an ?_
     exact ⟨(i+1,X.take (i*5)++zO++X.drop (i*5+5)),⟨h,g1.trans hX,g2,(g3 _ (by omega)).trans hXd⟩,Nat.sub_succ_lt_self _ _ h,wks [.inl 0] (by push_cast -dsimp [zb,za,CLe,ze]) (by push_cast -dsimp [zb,za,CLe,ze,lO,lR,lB2,lX2])⟩
    push_cast -dsimp [h]
    refine loop (fun p:Nat×List C=>⟨[(5,.ptr 1 0),(8,.bs 3 0 5 d.ops.length 0),(9,.own 0 9 1 (qv d.diags)),(10,.bs 4 0 5 m m),(14,.ptr 14 0),(16,.sc (.int .i64 p.1))],[jn,kG d,zi,O,X,zi,zi,Yo,zi,jn,[.any,.any,.any,.any,.any,.any,.bs 4 0 5 d.ops.length m,.any,.any,.any],zi,zi,p.2,[.any,.any,.any,.any,.any,.any,.any,.bs 13 0 1 (d.diags.length+1) c2,.any,.any]],1,0⟩) (fun p=>p.1<=d.diags.length+1/\p.2.length=c2/\(p.2.all C.stayB)=true) (fun p=>d.diags.length+1-p.1) (0,B2) ⟨Nat.zero_le _,by rw[hB2.len,Nat.mul_one],hB2.stay⟩ ?_ ?_
    ·exact wks [.inl 0] (by push_cast -dsimp [zb,za,CLe,ze]) (by push_cast -dsimp [zb,za,CLe,ze,lO,lR,lB2,lX])
    rintro ⟨j,Y⟩ ⟨hj,hY,hYs⟩
    dsimp only at hj hY hYs
    have hjm:(((j:Int)<((d.diags.length:Int)+1)))=(j<d.diags.length+1):=propext (by omega)
    by_cases hh:j<d.diags.length+1
    ·obtain ⟨g1,g2,g3⟩:=Yw (X:=Y) (p:=j) (row:=[.str []]) (k:=1) rfl (by rw[hY];omega) hYs rfl
     have lY2:∀ src n,ze src n (Y.take j++[.str []]++Y.drop (j+1)) (Y.take j++[.str []]++Y.drop (j+1)):=fun _ _=>zp g2
     push_cast -dsimp [hjm,hh]
     repeat refine an ?_
     exact ⟨(j+1,Y.take j++[.str []]++Y.drop (j+1)),⟨hh,g1.trans hY,g2⟩,Nat.sub_succ_lt_self _ _ hh,wks [.inl 0] (by push_cast -dsimp [zb,za,CLe,ze]) (by push_cast -dsimp [zb,za,CLe,ze,lO,lR,lB2,lX,lY2])⟩
    push_cast -dsimp [hjm,hh]
    refine kr [.sl 5 (d.ops.map opL),.sl 5 (d.ops.map opL)] hs1 rfl (by (simp only[je,qZ,C.frz];exact ⟨_,_,rfl,rfl,_,_,rfl,by simpa [qZ] using JN (k:=5) (rows:=d.ops.map opL) (bx:=[jn,kG d,zi,O,X,zi,zi,Yo,zi,jn,[.any,.any,.any,.any,.any,.any,.bs 4 0 5 d.ops.length m,.any,.any,.any],zi,zi,Y,[.any,.any,.any,.any,.any,.any,.any,.bs 13 0 1 (d.diags.length+1) c2,.any,.any]]) (i:=3) (cap:=0) rfl hol2 (by omega) (by omega) hk5 hst5 hOt,rfl⟩)) ?_
    push_cast -dsimp [hXd]
    repeat refine an ?_
    refine kr [.agg [.sl 5 (d.ops.map opL),.sl 1 (qv d.diags),.sc (.int .i64 d.status)],.agg [.sl 5 (d.ops.map opL),.sl 1 (qv d.diags),.sc (.int .i64 d.status)]] hs2 rfl (by (simp only[je,qZ,C.frz];exact ⟨_,_,rfl,⟨_,rfl,_,_,rfl,rfl,_,_,rfl,rfl,_,_,rfl,rfl,rfl⟩,_,_,rfl,⟨_,rfl,_,_,rfl,by simpa [qZ] using JN (k:=5) (rows:=d.ops.map opL) (bx:=[jn,kG d,zi,O,X,zi,zi,Yo,zi,jn,[.any,.any,.any,.any,.any,.any,.bs 4 0 5 d.ops.length m,.any,.any,.any],zi,zi,Y,[.any,.any,.any,.any,.any,.any,.any,.bs 13 0 1 (d.diags.length+1) c2,.any,.any]]) (i:=3) (cap:=0) rfl hol2 (by omega) (by omega) hk5 hst5 hOt,_,_,rfl,rfl,_,_,rfl,rfl,rfl⟩,rfl⟩)) ?_
    push_cast -dsimp
    exact dn
  ·obtain ⟨O,hO⟩:∃ O,(d.ops.map opL).flatten++List.replicate ((c0-d.ops.length)*5) C.any=O:=⟨_,rfl⟩
   have hOs:(O.all C.stayB)=true:=by rw[←hO];simp[hfs,C.stayB]
   have hOt:O.take (d.ops.length*5)=(d.ops.map opL).flatten:=by rw[←hO,List.take_left' hfl2]
   have hOl:d.ops.length*5<=O.length:=by rw[←hO,List.length_append,hfl2];omega
   have hdg:∀ id,C.dgL id O=O:=fun id=>Gt hOs
   obtain ⟨R,hR⟩:∃ R,spl Z 0 (List.take (min d.ops.length m*5) (List.take (d.ops.length*5) O))=R:=⟨_,rfl⟩
   obtain ⟨hRs,hRl,hRt,hRd⟩:=uz hfl2 hfs hm hZ hOt hR
   have hreR:∀ fp fo,C.reL fp fo R=R:=fun fp fo=>zl hRs
   have hreO:∀ fp fo,C.reL fp fo O=O:=fun fp fo=>zl hOs
   have lO:∀ src n,ze src n O O:=fun _ _=>zp hOs
   have lR:∀ src n,ze src n R R:=fun _ _=>zp hRs
   push_cast -dsimp [hO,hdg,htn,hZ]
   repeat refine an ?_
   refine zb8 yp xm (QJ rfl (by rw[Nat.zero_add];exact hOl)) rfl (by simp;omega) (by omega) ?_
   push_cast -dsimp [hR]
   repeat refine an ?_
   by_cases hz:(jT d jU).2=0
   ·refine jo [5] [] (MM d hd hz (c:=m) rfl (by omega) (by omega) hRt) rfl (by decide) (by decide) (by simp) (by push_cast -dsimp [Qb]) (by push_cast -dsimp [hreR]) (fun r bx' m' hp=>?_)
    obtain ⟨rfl,c',B,x1,x2,x3,x4,y1,y2,y3,z1,z2,n1,n2,n3,n4,k1,k2,k3,k4,hB,rfl,rfl⟩:=hp
    have hre:∀ fp fo,C.reL fp fo B=B:=fun fp fo=>zl hB.stay
    have lB:∀ src n,ze src n B B:=fun _ _=>zp hB.stay
    obtain ⟨N1,hN1⟩:∃ N1,(jT d jU).1.ops.length=N1:=⟨_,rfl⟩
    rw[hN1]at hB
    have hf1:=hB.fit
    have hm1:=hB.max
    push_cast -dsimp [hreR,hreO,hre,hN1,List.not_mem_nil]
    refine jo [5] [] (XX d hd (c:=m) rfl (by omega) (by omega) hRt) rfl (by decide) (by decide) (by simp) (by push_cast -dsimp) (by push_cast -dsimp [hreR]) (fun r bx' m' hp=>?_)
    obtain ⟨rfl,c2,B2,u1,u2,u3,u4,v1,v2,v3,w1,w2,m1,m2,m3,m4,j1,j2,j3,j4,hB2,rfl,rfl⟩:=hp
    have hre2:∀ fp fo,C.reL fp fo B2=B2:=fun fp fo=>zl hB2.stay
    have lB2:∀ src n,ze src n B2 B2:=fun _ _=>zp hB2.stay
    have hf2:=hB2.fit
    push_cast -dsimp [hreR,hreO,hre2,hre,List.not_mem_nil]
    refine loop (fun p:Nat×List C=>⟨[(5,.ptr 1 0),(8,.bs 4 0 5 d.ops.length c0),(9,.own 0 9 1 (qv d.diags)),(10,.bs 5 0 5 m m),(12,.ptr 12 0),(14,.ptr 16 0),(15,.sc (.int .i64 p.1))],[jn,kG d,zi,[],O,R,zi,zi,Yo,zi,jn,p.2,[.any,.any,.any,.any,.any,.any,.bs 11 0 5 N1 c',.any,.any,.any],zi,zi,B2,[.any,.any,.any,.any,.any,.any,.any,.bs 15 0 1 (d.diags.length+1) c2,.any,.any]],1,0⟩) (fun p=>p.1<=N1/\p.2.length=c'*5/\(p.2.all C.stayB)=true) (fun p=>N1-p.1) (0,B) ⟨Nat.zero_le _,hB.len,hB.stay⟩ ?_ ?_
    ·exact wks [.inl 0] (by push_cast -dsimp [zb,za,CLe,ze]) (by push_cast -dsimp [zb,za,CLe,ze,lO,lR,lB,lB2])
    rintro ⟨i,X⟩ ⟨hi,hX,hXs⟩
    dsimp only at hi hX hXs
    have lX:∀ src n,ze src n X X:=fun _ _=>zp hXs
    by_cases h:i<N1
    ·obtain ⟨g1,g2,g3⟩:=Yw (X:=X) (p:=i*5) (row:=zO) (k:=5) rfl (by rw[hX];omega) hXs rfl
     have lX2:∀ src n,ze src n (X.take (i*5)++zO++X.drop (i*5+5)) (X.take (i*5)++zO++X.drop (i*5+5)):=fun _ _=>zp g2
     push_cast -dsimp [h]
     repeat refine an ?_
     exact ⟨(i+1,X.take (i*5)++zO++X.drop (i*5+5)),⟨h,g1.trans hX,g2⟩,Nat.sub_succ_lt_self _ _ h,wks [.inl 0] (by push_cast -dsimp [zb,za,CLe,ze]) (by push_cast -dsimp [zb,za,CLe,ze,lO,lR,lB,lB2,lX2])⟩
    push_cast -dsimp [h]
    refine loop (fun p:Nat×List C=>⟨[(5,.ptr 1 0),(8,.bs 4 0 5 d.ops.length c0),(9,.own 0 9 1 (qv d.diags)),(10,.bs 5 0 5 m m),(14,.ptr 16 0),(16,.sc (.int .i64 p.1))],[jn,kG d,zi,[],O,R,zi,zi,Yo,zi,jn,X,[.any,.any,.any,.any,.any,.any,.bs 11 0 5 N1 c',.any,.any,.any],zi,zi,p.2,[.any,.any,.any,.any,.any,.any,.any,.bs 15 0 1 (d.diags.length+1) c2,.any,.any]],1,0⟩) (fun p=>p.1<=d.diags.length+1/\p.2.length=c2/\(p.2.all C.stayB)=true) (fun p=>d.diags.length+1-p.1) (0,B2) ⟨Nat.zero_le _,by rw[hB2.len,Nat.mul_one],hB2.stay⟩ ?_ ?_
    ·exact wks [.inl 0] (by push_cast -dsimp [zb,za,CLe,ze]) (by push_cast -dsimp [zb,za,CLe,ze,lO,lR,lB,lB2,lX])
    rintro ⟨j,Y⟩ ⟨hj,hY,hYs⟩
    dsimp only at hj hY hYs
    have hjm:(((j:Int)<((d.diags.length:Int)+1)))=(j<d.diags.length+1):=propext (by omega)
    by_cases hh:j<d.diags.length+1
    ·obtain ⟨g1,g2,g3⟩:=Yw (X:=Y) (p:=j) (row:=[.str []]) (k:=1) rfl (by rw[hY];omega) hYs rfl
     have lY2:∀ src n,ze src n (Y.take j++[.str []]++Y.drop (j+1)) (Y.take j++[.str []]++Y.drop (j+1)):=fun _ _=>zp g2
     push_cast -dsimp [hjm,hh]
     repeat refine an ?_
     exact ⟨(j+1,Y.take j++[.str []]++Y.drop (j+1)),⟨hh,g1.trans hY,g2⟩,Nat.sub_succ_lt_self _ _ hh,wks [.inl 0] (by push_cast -dsimp [zb,za,CLe,ze]) (by push_cast -dsimp [zb,za,CLe,ze,lO,lR,lB,lB2,lX,lY2])⟩
    push_cast -dsimp [hjm,hh]
    refine kr [.sl 5 (d.ops.map opL),.sl 5 (d.ops.map opL)] hs1 rfl (by (simp only[je,qZ,C.frz];exact ⟨_,_,rfl,rfl,_,_,rfl,by simpa [qZ] using JN (k:=5) (rows:=d.ops.map opL) (bx:=[jn,kG d,zi,[],O,R,zi,zi,Yo,zi,jn,X,[.any,.any,.any,.any,.any,.any,.bs 11 0 5 N1 c',.any,.any,.any],zi,zi,Y,[.any,.any,.any,.any,.any,.any,.any,.bs 15 0 1 (d.diags.length+1) c2,.any,.any]]) (i:=4) (cap:=c0) rfl hol2 (by omega) (by omega) hk5 hst5 hOt,rfl⟩)) ?_
    push_cast -dsimp [hRd]
    repeat refine an ?_
    refine kr [.agg [.sl 5 (d.ops.map opL),.sl 1 (qv d.diags),.sc (.int .i64 d.status)],.agg [.sl 5 (d.ops.map opL),.sl 1 (qv d.diags),.sc (.int .i64 d.status)]] hs2 rfl (by (simp only[je,qZ,C.frz];exact ⟨_,_,rfl,⟨_,rfl,_,_,rfl,rfl,_,_,rfl,rfl,_,_,rfl,rfl,rfl⟩,_,_,rfl,⟨_,rfl,_,_,rfl,by simpa [qZ] using JN (k:=5) (rows:=d.ops.map opL) (bx:=[jn,kG d,zi,[],O,R,zi,zi,Yo,zi,jn,X,[.any,.any,.any,.any,.any,.any,.bs 11 0 5 N1 c',.any,.any,.any],zi,zi,Y,[.any,.any,.any,.any,.any,.any,.any,.bs 15 0 1 (d.diags.length+1) c2,.any,.any]]) (i:=4) (cap:=c0) rfl hol2 (by omega) (by omega) hk5 hst5 hOt,_,_,rfl,rfl,_,_,rfl,rfl,rfl⟩,rfl⟩)) ?_
    push_cast -dsimp
    exact dn
   ·refine jo [5] [] (vQ d hd hz R d.ops.length m hRs) rfl (by decide) (by decide) (by simp) (by push_cast -dsimp [Qb]) (by push_cast -dsimp [hreR]) (fun r bx' m' hp=>?_)
    obtain ⟨rfl,rfl,rfl⟩:=hp
    push_cast -dsimp [hreR,hreO,List.not_mem_nil]
    refine jo [5] [] (XX d hd (c:=m) rfl (by omega) (by omega) hRt) rfl (by decide) (by decide) (by simp) (by push_cast -dsimp) (by push_cast -dsimp [hreR]) (fun r bx' m' hp=>?_)
    obtain ⟨rfl,c2,B2,u1,u2,u3,u4,v1,v2,v3,w1,w2,m1,m2,m3,m4,j1,j2,j3,j4,hB2,rfl,rfl⟩:=hp
    have hre2:∀ fp fo,C.reL fp fo B2=B2:=fun fp fo=>zl hB2.stay
    have lB2:∀ src n,ze src n B2 B2:=fun _ _=>zp hB2.stay
    have hf2:=hB2.fit
    push_cast -dsimp [hreR,hreO,hre2,List.not_mem_nil]
    refine loop (fun p:Nat×List C=>⟨[(5,.ptr 1 0),(8,.bs 4 0 5 d.ops.length c0),(9,.own 0 9 1 (qv d.diags)),(10,.bs 5 0 5 m m),(12,.ptr 11 0),(14,.ptr 15 0),(15,.sc (.int .i64 p.1))],[jn,kG d,zi,[],O,p.2,zi,zi,Yo,zi,jn,[.any,.any,.any,.any,.any,.any,.bs 5 0 5 d.ops.length m,.any,.any,.any],zi,zi,B2,[.any,.any,.any,.any,.any,.any,.any,.bs 14 0 1 (d.diags.length+1) c2,.any,.any]],1,0⟩) (fun p=>p.1<=d.ops.length/\p.2.length=m*5/\(p.2.all C.stayB)=true/\p.2.drop (d.ops.length*5)=zO++zO) (fun p=>d.ops.length-p.1) (0,R) ⟨Nat.zero_le _,hRl,hRs,hRd⟩ ?_ ?_
    ·exact wks [.inl 0] (by push_cast -dsimp [zb,za,CLe,ze]) (by push_cast -dsimp [zb,za,CLe,ze,lO,lR,lB2])
    rintro ⟨i,X⟩ ⟨hi,hX,hXs,hXd⟩
    dsimp only at hi hX hXs hXd
    have lX:∀ src n,ze src n X X:=fun _ _=>zp hXs
    by_cases h:i<d.ops.length
    ·obtain ⟨g1,g2,g3⟩:=Yw (X:=X) (p:=i*5) (row:=zO) (k:=5) rfl (by rw[hX];omega) hXs rfl
     have lX2:∀ src n,ze src n (X.take (i*5)++zO++X.drop (i*5+5)) (X.take (i*5)++zO++X.drop (i*5+5)):=fun _ _=>zp g2
     push_cast -dsimp [h]
     repeat refine an ?_
     exact ⟨(i+1,X.take (i*5)++zO++X.drop (i*5+5)),⟨h,g1.trans hX,g2,(g3 _ (by omega)).trans hXd⟩,Nat.sub_succ_lt_self _ _ h,wks [.inl 0] (by push_cast -dsimp [zb,za,CLe,ze]) (by push_cast -dsimp [zb,za,CLe,ze,lO,lR,lB2,lX2])⟩
    push_cast -dsimp [h]
    refine loop (fun p:Nat×List C=>⟨[(5,.ptr 1 0),(8,.bs 4 0 5 d.ops.length c0),(9,.own 0 9 1 (qv d.diags)),(10,.bs 5 0 5 m m),(14,.ptr 15 0),(16,.sc (.int .i64 p.1))],[jn,kG d,zi,[],O,X,zi,zi,Yo,zi,jn,[.any,.any,.any,.any,.any,.any,.bs 5 0 5 d.ops.length m,.any,.any,.any],zi,zi,p.2,[.any,.any,.any,.any,.any,.any,.any,.bs 14 0 1 (d.diags.length+1) c2,.any,.any]],1,0⟩) (fun p=>p.1<=d.diags.length+1/\p.2.length=c2/\(p.2.all C.stayB)=true) (fun p=>d.diags.length+1-p.1) (0,B2) ⟨Nat.zero_le _,by rw[hB2.len,Nat.mul_one],hB2.stay⟩ ?_ ?_
    ·exact wks [.inl 0] (by push_cast -dsimp [zb,za,CLe,ze]) (by push_cast -dsimp [zb,za,CLe,ze,lO,lR,lB2,lX])
    rintro ⟨j,Y⟩ ⟨hj,hY,hYs⟩
    dsimp only at hj hY hYs
    have hjm:(((j:Int)<((d.diags.length:Int)+1)))=(j<d.diags.length+1):=propext (by omega)
    by_cases hh:j<d.diags.length+1
    ·obtain ⟨g1,g2,g3⟩:=Yw (X:=Y) (p:=j) (row:=[.str []]) (k:=1) rfl (by rw[hY];omega) hYs rfl
     have lY2:∀ src n,ze src n (Y.take j++[.str []]++Y.drop (j+1)) (Y.take j++[.str []]++Y.drop (j+1)):=fun _ _=>zp g2
     push_cast -dsimp [hjm,hh]
     repeat refine an ?_
     exact ⟨(j+1,Y.take j++[.str []]++Y.drop (j+1)),⟨hh,g1.trans hY,g2⟩,Nat.sub_succ_lt_self _ _ hh,wks [.inl 0] (by push_cast -dsimp [zb,za,CLe,ze]) (by push_cast -dsimp [zb,za,CLe,ze,lO,lR,lB2,lX,lY2])⟩
    push_cast -dsimp [hjm,hh]
    refine kr [.sl 5 (d.ops.map opL),.sl 5 (d.ops.map opL)] hs1 rfl (by (simp only[je,qZ,C.frz];exact ⟨_,_,rfl,rfl,_,_,rfl,by simpa [qZ] using JN (k:=5) (rows:=d.ops.map opL) (bx:=[jn,kG d,zi,[],O,X,zi,zi,Yo,zi,jn,[.any,.any,.any,.any,.any,.any,.bs 5 0 5 d.ops.length m,.any,.any,.any],zi,zi,Y,[.any,.any,.any,.any,.any,.any,.any,.bs 14 0 1 (d.diags.length+1) c2,.any,.any]]) (i:=4) (cap:=c0) rfl hol2 (by omega) (by omega) hk5 hst5 hOt,rfl⟩)) ?_
    push_cast -dsimp [hXd]
    repeat refine an ?_
    refine kr [.agg [.sl 5 (d.ops.map opL),.sl 1 (qv d.diags),.sc (.int .i64 d.status)],.agg [.sl 5 (d.ops.map opL),.sl 1 (qv d.diags),.sc (.int .i64 d.status)]] hs2 rfl (by (simp only[je,qZ,C.frz];exact ⟨_,_,rfl,⟨_,rfl,_,_,rfl,rfl,_,_,rfl,rfl,_,_,rfl,rfl,rfl⟩,_,_,rfl,⟨_,rfl,_,_,rfl,by simpa [qZ] using JN (k:=5) (rows:=d.ops.map opL) (bx:=[jn,kG d,zi,[],O,X,zi,zi,Yo,zi,jn,[.any,.any,.any,.any,.any,.any,.bs 5 0 5 d.ops.length m,.any,.any,.any],zi,zi,Y,[.any,.any,.any,.any,.any,.any,.any,.bs 14 0 1 (d.diags.length+1) c2,.any,.any]]) (i:=4) (cap:=c0) rfl hol2 (by omega) (by omega) hk5 hst5 hOt,_,_,rfl,rfl,_,_,rfl,rfl,rfl⟩,rfl⟩)) ?_
    push_cast -dsimp
    exact dn
end
end Go.Proofs.YtiblepfehggicaaGreatDoor.Vcg
section
namespace Go.Proofs.YtiblepfehggicaaGreatDoor.PDraftStays
open Go.ChangeShapes Go.WideShapes Go.ChangeAt Go.RowKit Vcg
theorem own:ownKnob Tryz.prog.godebug=none:=by kernel_rfl
theorem laidOut:laidOutB Tryz.prog=true:=by kernel_rfl
theorem contract (H:Type) (enc:TypeId×Value->H) (W:World) (base:Nat) (args:Array Value) (ds gs:List (DataW H)) (before:List MemPlace)
  (hval:∀ (j:Nat) t v,Tryz.f6.params[j]?=some t->args[j]?=some v->Value.okWide Tryz.prog W .any base t v)
  (hW:DataW.Whole enc Tryz.prog Tryz.f6.params.toList Rows.draftStaysSpec.vars false W args.toList ds gs before) (hL:laidMetH Tryz.prog Rows.draftStaysRow.laid W) :
  Calls Tryz.prog 6 args W fun e W'=>∃ v,e = .returned v/\Rows.draftStaysSpec.post enc Tryz.prog Tryz.f6 false true false false W args v W':=by
 have hW':=hW
 obtain ⟨p,q,hA0,hV,rfl,hfz,hnd⟩:=hW
 have hA:DataW.TrodAll enc Tryz.prog W 0 (fun _=>true) true Tryz.f6.params.toList args.toList ds p:=hA0
 rw[Tryz.params6]at hA hval
 obtain ⟨v0,vs0,d0,ds0,p0,q0,hargs,rfl,rfl,h0,r0⟩:=trodAll_cons hA
 obtain ⟨v1,vs1,d1,ds1,p1,q1,rfl,rfl,rfl,h1,r1⟩:=trodAll_cons r0
 obtain ⟨rfl,rfl,rfl⟩:=trodAll_nil r1
 obtain rfl:args = #[v0,v1]:=by cases args;simp_all
 obtain ⟨rfl,rfl⟩:=trodVars_none hV
 have lt0:∀ x∈p0,x.block<W.heap.size:=by obtain ⟨m,hm⟩:=h0;exact DataW.trod_lt m _ _ _ hm
 have lt1:∀ x∈p1,x.block<W.heap.size:=by obtain ⟨m,hm⟩:=h1;exact DataW.trod_lt m _ _ _ hm
 obtain ⟨row0,⟨a0,rfl,w0⟩,rep0⟩:=jb.arg zem Tryz.underlying29 (hval 0 29 v0 rfl rfl) h0
 obtain ⟨n1,m1,c1,hn1⟩:=okWide_slice Tryz.underlying30 (hval 1 30 v1 rfl rfl)
 obtain ⟨_,⟨a1,rfl,w1⟩,rep1⟩:=Opn.arg (r:=.any) (b0:=base) zkK (by rw[hn1];rfl) h1
 clear hA0
 refine (Fun.answers (kw a0 a1) (zo3 hL (by kernel_rfl) (by repeat (first | exact List.mem_cons_self | refine List.mem_cons_of_mem _ ?_)) (by repeat (first | exact List.mem_cons_self | refine List.mem_cons_of_mem _ ?_)) (by repeat (first | exact List.mem_cons_self | refine List.mem_cons_of_mem _ ?_)) (by repeat (first | exact List.mem_cons_self | refine List.mem_cons_of_mem _ ?_))) (zd.2 ⟨_,_,rfl,rep0,zd.2 ⟨_,_,rfl,rep1,zj.2 rfl⟩⟩)).mono fun e W' ⟨he,bel⟩=>?_
 subst he
 exact ⟨_,rfl,_,_,_,[],_,[],hW',trodAll_mk1 (shut_bool Tryz.underlying4 _),(trodAll_cons_mk (Below.trod laidOut (by kernel_rfl) (of_decide_eq_true (by kernel_rfl)) h0 bel lt0) (trodAll_cons_mk (Below.trod laidOut (by kernel_rfl) (of_decide_eq_true (by kernel_rfl)) h1 bel lt1) trodAll_mk0)),rfl,bel.frame _,fun h=>by cases h⟩
theorem lifted (os:Os) (started:os.Started) (H:Type) (enc:TypeId×Value->H) :
  ReturnsInHanded {} Tryz.checked os 6 .any (fun w args=>(Rows.draftStaysSpec.pre enc Tryz.prog Tryz.f6 Rows.draftStaysRow.domain false w args/\laidMetH Tryz.prog Rows.draftStaysRow.laid w)/\sizedMet enc Tryz.prog Tryz.f6 (OpenSpec.ofChange Rows.draftStaysSpec) false w args)
   (Rows.draftStaysSpec.post enc Tryz.prog Tryz.f6 false true false false):=by
 refine returnsInHanded_of_change_and (C:=Tryz.checked) (X:=fun w _=>laidMetH Tryz.prog Rows.draftStaysRow.laid w) (fun _ _ _ hh h=>h.of_heap hh) own started (by kernel_rfl) Tryz.func6
  (ChangeSpec.witness_shaped (enc:=enc) (C:=Tryz.checked) (os:=os) (X:=fun w _=>laidMetH Tryz.prog Rows.draftStaysRow.laid w) false (World.laidAll Tryz.prog os Rows.draftStaysRow.laid) #[.agg #[.int .i64 0,.int .i64 0,.int .i64 0,.slice none 0 0,.slice none 0 0,.slice none 0 0],.slice none 0 0] 8 (World.laidAll_os _ _ _)
   (World.shaped_of_ZipB (by kernel_rfl) (by kernel_rfl)) (by kernel_rfl) (by kernel_rfl) (by kernel_rfl)
   (by rw[MakeChecks.laidMetH_plain _ _ _ (by kernel_rfl)];exact laidMet_laidAll _ (by kernel_rfl) (by kernel_rfl))) ?_
 intro W base args ds gs before hval hW _ _ hL _
 exact contract H enc W base args ds gs before hval hW hL
theorem said:Rows.DraftStaysSaid:=
 OpenClaim.holds_of_wide 6 Tryz.f6 rfl rfl rfl rfl rfl rfl rfl ⟨rfl,rfl,rfl,rfl,rfl⟩ rfl rfl rfl rfl rfl (by kernel_rfl) Tryz.func6 (by kernel_rfl)
  (of_decide_eq_true (by kernel_rfl)) (by unfold Func.isWrapper;first | (rw[if_pos (by decide +kernel)];kernel_rfl) | (rw[if_neg (by decide +kernel)];exact ⟨rfl,rfl⟩))
  (fun os started H enc _=>lifted os started H enc)
theorem Yj (f:FuncId) (fn:Func) (hf:Tryz.pinned.checked.prog.funcNamed "drayman/draymanlaw25.DraftStays"=some f) (hfn:Tryz.pinned.checked.prog.funcs[f]?=some fn) :
  false=Tryz.pinned.checked.prog.looks []/\∀ (j:Nat) t,fn.params[j]?=some t->Tryz.pinned.checked.prog.wantsStandIn t=false:=by
 obtain rfl:f=6:=Option.some.inj ((show Tryz.prog.funcNamed "drayman/draymanlaw25.DraftStays"=some 6 by kernel_rfl).symm.trans hf) |>.symm
 obtain rfl:fn=Tryz.f6:=(Option.some.inj (Tryz.func6.symm.trans hfn)).symm
 exact ⟨by kernel_rfl,fun j t ht=>by
  rw[Tryz.params6]at ht
  have hm:t∈[29,30]:=by simpa using Array.mem_of_getElem? ht
  have hall:([29,30].all fun u=>!Tryz.prog.wantsStandIn u)=true:=by kernel_rfl
  exact (show Tryz.prog.wantsStandIn t=false by simpa using List.all_eq_true.1 hall t hm)⟩
theorem card:Rows.DraftStaysCardSaid:=
 Claim7.holds_tied_plain_at .later [] _ _ _ _ said (fun _ h=>by cases h) (by kernel_rfl) (fun _ h=>by cases h) draftStays_row_tie rfl ⟨rfl,rfl⟩ (by kernel_rfl) rfl Yj (by kernel_rfl)
theorem proved:Rows.DraftStaysCardSaid:=card
end Go.Proofs.YtiblepfehggicaaGreatDoor.PDraftStays
end
