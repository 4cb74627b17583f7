/- What the proof of MvsStays leans on, part 6: Mvy Mvz Mvq Sk1 Sk3 Rfi Fit Mvb Mvs. No condition beyond what each theorem states. -/
import Derived.Test.YtnpdbhbmakdklaaGreatDoorMvsStaysKe
set_option linter.unusedVariables false
set_option linter.unusedSimpArgs false
set_option linter.unusedSectionVars false
set_option maxRecDepth 100000
set_option maxHeartbeats 4000000
namespace Go.Proofs.YtnpdbhbmakdklaaGreatDoor.Vcg
section
open CA CB
open Go.RowKit
def kJ (x y:zm):(Int×Int)×Bool:=if x.kind=2/\y.kind≠2 then ((12,0),false) else if x.kind≠2/\y.kind=2 then ((13,0),false) else ((15,5),decide (y.es = []))
theorem zjm (a t:zR) (x y:zm) (th:Bool) (d:qd) (k:Int) (o:List UInt8) (ops:List (List UInt8)) (u v:List UInt8) (hy:y.es.length<=100000):Nj Tryz.prog GD 124 [.ptr 0 0] [vC (zpL a t x y th) d k o ops u v] 0 (zf4 (kJ x y).1 (kJ x y).2) [vC (zpL a t x y th) d k o ops u v] 0:=by
 have hel:(zL y.es).length=y.es.length:=List.length_map ..;by_cases c1:x.kind=2<;>by_cases c2:y.kind=2
 ·have c1':=eq_true c1;have c2':=eq_true c2;have e:kJ x y=((15,5),decide (y.es = [])):=by unfold kJ;rw[if_neg (fun q=>q.2 c2),if_neg (fun q=>q.1 c1)]
  rw[e];by_cases c3:y.es = []
  ·have c3':((y.es.length:Int)=0)=True:=eq_true (by rw[c3];rfl);rw[decide_eq_true c3];refine foB (fun i=>if i=1 then jS 15 16 else if i=6 then QT [(0,.pure),(1,.pure),(2,.pure),(3,.pure),(4,.pure),(5,.pure),(6,.pure),(7,.pure),(8,.pure),(9,.flt [1,2,3,4,5,6,7,8]),(10,.pure)] else []) Tryz.func124 ?_;dsimp only[Tryz.f124];push_cast -dsimp [c1',c2',hel,c3'];exact ⟨[],rfl,rfl,by push_cast -dsimp [ze,zd,CLe,zg],by push_cast -dsimp [ze,zd,CLe,zg]⟩
  ·have c3':((y.es.length:Int)=0)=False:=eq_false (by have:=List.length_pos_iff.2 c3;omega);rw[decide_eq_false c3];refine foB (fun i=>if i=1 then jS 15 16 else if i=6 then QT [(0,.pure),(1,.pure),(2,.pure),(3,.pure),(4,.pure),(5,.pure),(6,.pure),(7,.pure),(8,.pure),(9,.flt [1,2,3,4,5,6,7,8]),(10,.pure)] else []) Tryz.func124 ?_;dsimp only[Tryz.f124];push_cast -dsimp [c1',c2',hel,c3'];exact ⟨[],rfl,rfl,by push_cast -dsimp [ze,zd,CLe,zg],by push_cast -dsimp [ze,zd,CLe,zg]⟩
 ·have c1':=eq_true c1;have c2':=eq_false c2;have e:kJ x y=((12,0),false):=if_pos ⟨c1,c2⟩;rw[e];refine foB (fun i=>if i=1 then jS 15 16 else if i=6 then QT [(0,.pure),(1,.pure),(2,.pure),(3,.pure),(4,.pure),(5,.pure),(6,.pure),(7,.pure),(8,.pure),(9,.flt [1,2,3,4,5,6,7,8]),(10,.pure)] else []) Tryz.func124 ?_;dsimp only[Tryz.f124];push_cast -dsimp [c1',c2',hel];exact ⟨[],rfl,rfl,by push_cast -dsimp [ze,zd,CLe,zg],by push_cast -dsimp [ze,zd,CLe,zg]⟩
 ·have c1':=eq_false c1;have c2':=eq_true c2;have e:kJ x y=((13,0),false):=by unfold kJ;rw[if_neg (fun q=>c1 q.1),if_pos ⟨c1,c2⟩]
  rw[e];refine foB (fun i=>if i=1 then jS 15 16 else if i=6 then QT [(0,.pure),(1,.pure),(2,.pure),(3,.pure),(4,.pure),(5,.pure),(6,.pure),(7,.pure),(8,.pure),(9,.flt [1,2,3,4,5,6,7,8]),(10,.pure)] else []) Tryz.func124 ?_;dsimp only[Tryz.f124];push_cast -dsimp [c1',c2',hel];exact ⟨[],rfl,rfl,by push_cast -dsimp [ze,zd,CLe,zg],by push_cast -dsimp [ze,zd,CLe,zg]⟩
 ·have c1':=eq_false c1;have c2':=eq_false c2;have e:kJ x y=((15,5),decide (y.es = [])):=by unfold kJ;rw[if_neg (fun q=>c1 q.1),if_neg (fun q=>c2 q.2)]
  rw[e];by_cases c3:y.es = []
  ·have c3':((y.es.length:Int)=0)=True:=eq_true (by rw[c3];rfl);rw[decide_eq_true c3];refine foB (fun i=>if i=1 then jS 15 16 else if i=6 then QT [(0,.pure),(1,.pure),(2,.pure),(3,.pure),(4,.pure),(5,.pure),(6,.pure),(7,.pure),(8,.pure),(9,.flt [1,2,3,4,5,6,7,8]),(10,.pure)] else []) Tryz.func124 ?_;dsimp only[Tryz.f124];push_cast -dsimp [c1',c2',hel,c3'];exact ⟨[],rfl,rfl,by push_cast -dsimp [ze,zd,CLe,zg],by push_cast -dsimp [ze,zd,CLe,zg]⟩
  ·have c3':((y.es.length:Int)=0)=False:=eq_false (by have:=List.length_pos_iff.2 c3;omega);rw[decide_eq_false c3];refine foB (fun i=>if i=1 then jS 15 16 else if i=6 then QT [(0,.pure),(1,.pure),(2,.pure),(3,.pure),(4,.pure),(5,.pure),(6,.pure),(7,.pure),(8,.pure),(9,.flt [1,2,3,4,5,6,7,8]),(10,.pure)] else []) Tryz.func124 ?_;dsimp only[Tryz.f124];push_cast -dsimp [c1',c2',hel,c3'];exact ⟨[],rfl,rfl,by push_cast -dsimp [ze,zd,CLe,zg],by push_cast -dsimp [ze,zd,CLe,zg]⟩
theorem zaT {N:Nat} {d:qd} (h:GrD N d) (hN:N<=3000) (a t:zR) (k:Int) (o:List UInt8) (ops:List (List UInt8)) (u v:List UInt8) (hv:v.length<=3000) (ht:t.name.length<=100000) :
  Nj Tryz.prog GD 73 [.ptr 0 0] [vC (zpL a t (zf a.ino d.w.fs.xs) (zf t.ino d.w.fs.xs) (zk t.ino d.w.fs.xs)) d k o ops u v] 0 (zf4 (mvJ d.w.fs o a t v).1 (mvJ d.w.fs o a t v).2) [vC (zpL a t (zf a.ino d.w.fs.xs) (zf t.ino d.w.fs.xs) (zk t.ino d.w.fs.xs)) d k o ops u v] 0:=by
 have hs:=(h.s (by omega)).ws.fs;have hha:=(xH k o (.sl 1 (zM ops)) 110 rfl).g0 (G':=GD);have hin:=(za1 d.w.fs h.b.wi.fs hs t.dir a.ino).g0 (G':=GD);have hre:Fun Tryz.prog GD 125 [.str v] (.agg [qP (zai v),.own 0 9 1 (zM (zE v)),qP (jv v)]) 1:=(Ud v (by omega)).g0;have hma:=(zf1 t.name (by omega)).g0 (G':=GD);have hye:(zf t.ino d.w.fs.xs).es.length<=100000:=by
  cases hq:zk t.ino d.w.fs.xs with
  | true=>have:=hs.es hq;omega
  | false=>rw[vh hq];exact Nat.zero_le _
 have hov:=zjm a t (zf a.ino d.w.fs.xs) (zf t.ino d.w.fs.xs) true d k o ops u v hye;have e:mvJ d.w.fs o a t v=if zk t.ino d.w.fs.xs=true/\(110:UInt8)∈o then ((0,0),false)
  else if zk t.ino d.w.fs.xs=true/\a.ino=t.ino then ((9,0),false)
  else if (zf a.ino d.w.fs.xs).kind=2/\ud d.w.fs.xs d.w.fs.xs.length t.dir a.ino=true then ((14,0),false)
  else if zk t.ino d.w.fs.xs=true then kJ (zf a.ino d.w.fs.xs) (zf t.ino d.w.fs.xs)
  else if jv v=true/\(zf a.ino d.w.fs.xs).kind≠2 then ((15,3),false) else if may t.name=false then ((15,9),false) else ((0,0),true):=rfl
 generalize mvJ d.w.fs o a t v=J at *;generalize ud d.w.fs.xs d.w.fs.xs.length t.dir a.ino=I at *;generalize zf a.ino d.w.fs.xs=X at *;generalize zf t.ino d.w.fs.xs=Y at *;cases hT:zk t.ino d.w.fs.xs with
 | true =>
  rw[hT]at e;by_cases c1:(110:UInt8)∈o
  ·rw[if_pos ⟨rfl,c1⟩]at e;rw[decide_eq_true c1]at hha;subst e;refine foB (fun _=>[]) Tryz.func73 ?_;dsimp only[Tryz.f73];push_cast -dsimp;refine cl (hha) ?_;push_cast -dsimp;exact ⟨[],rfl,rfl,by push_cast -dsimp [ze,zd,CLe,zg],by push_cast -dsimp [ze,zd,CLe,zg]⟩
  rw[if_neg (fun q=>c1 q.2)]at e;rw[decide_eq_false c1]at hha;by_cases c2:a.ino=t.ino
  ·have c2':=eq_true c2;rw[if_pos ⟨rfl,c2⟩]at e;subst e;refine foB (fun _=>[]) Tryz.func73 ?_;dsimp only[Tryz.f73];push_cast -dsimp;refine cl (hha) ?_;push_cast -dsimp [c2'];exact ⟨[],rfl,rfl,by push_cast -dsimp [ze,zd,CLe,zg],by push_cast -dsimp [ze,zd,CLe,zg]⟩
  have c2':=eq_false c2;rw[if_neg (fun q=>c2 q.2)]at e;by_cases c3:X.kind=2
  ·have c3':=eq_true c3;cases hI:I with
   | true =>
    rw[hI]at hin e;rw[if_pos ⟨c3,rfl⟩]at e;subst e;refine foB (fun _=>[]) Tryz.func73 ?_;dsimp only[Tryz.f73];push_cast -dsimp;refine cl (hha) ?_;push_cast -dsimp [c2',c3'];refine cl (hin) ?_;push_cast -dsimp [c2',c3'];exact ⟨[],rfl,rfl,by push_cast -dsimp [ze,zd,CLe,zg],by push_cast -dsimp [ze,zd,CLe,zg]⟩
   | false =>
    rw[hI]at hin e;rw[if_neg (fun q=>by cases q.2),if_pos rfl]at e;subst e;refine foB (fun _=>[]) Tryz.func73 ?_;dsimp only[Tryz.f73];push_cast -dsimp;refine cl (hha) ?_;push_cast -dsimp [c2',c3'];refine cl (hin) ?_;push_cast -dsimp [c2',c3'];refine Vn [0] [] hov rfl (by decide) (by decide) (by simp) (by push_cast -dsimp) (by push_cast -dsimp) ?_;push_cast -dsimp;exact ⟨[],rfl,rfl,by push_cast -dsimp [ze,zd,CLe,zg],by push_cast -dsimp [ze,zd,CLe,zg]⟩
  ·have c3':=eq_false c3;rw[if_neg (fun q=>c3 q.1),if_pos rfl]at e;subst e;refine foB (fun _=>[]) Tryz.func73 ?_;dsimp only[Tryz.f73];push_cast -dsimp;refine cl (hha) ?_;push_cast -dsimp [c2',c3'];refine Vn [0] [] hov rfl (by decide) (by decide) (by simp) (by push_cast -dsimp) (by push_cast -dsimp) ?_;push_cast -dsimp;exact ⟨[],rfl,rfl,by push_cast -dsimp [ze,zd,CLe,zg],by push_cast -dsimp [ze,zd,CLe,zg]⟩
 | false =>
  rw[hT]at e;rw[if_neg (fun q=>by cases q.1),if_neg (fun q=>by cases q.1)]at e;by_cases c3:X.kind=2
  ·have c3':=eq_true c3;cases hI:I with
   | true =>
    rw[hI]at hin e;rw[if_pos ⟨c3,rfl⟩]at e;subst e;refine foB (fun _=>[]) Tryz.func73 ?_;dsimp only[Tryz.f73];push_cast -dsimp [c3'];refine cl (hin) ?_;push_cast -dsimp [c3'];exact ⟨[],rfl,rfl,by push_cast -dsimp [ze,zd,CLe,zg],by push_cast -dsimp [ze,zd,CLe,zg]⟩
   | false =>
    rw[hI]at hin e;rw[if_neg (fun q=>by cases q.2),if_neg (by decide),if_neg (fun q=>q.2 c3)]at e;cases hS:jv v
    all_goals
     rw[hS]at hre;cases hM:may t.name
     all_goals
      rw[hM]at hma e
      first | rw[if_pos rfl]at e | rw[if_neg (by decide)]at e
      subst e;refine foB (fun _=>[]) Tryz.func73 ?_;dsimp only[Tryz.f73];push_cast -dsimp [c3'];refine cl (hin) ?_;push_cast -dsimp [c3'];refine cl (hre) ?_;push_cast -dsimp [c3'];refine cl (hma) ?_;push_cast -dsimp;exact ⟨[],rfl,rfl,by push_cast -dsimp [ze,zd,CLe,zg],by push_cast -dsimp [ze,zd,CLe,zg]⟩
  ·have c3':=eq_false c3;rw[if_neg (fun q=>c3 q.1),if_neg (by decide)]at e;cases hS:jv v with
   | true =>
    rw[hS]at hre e;rw[if_pos ⟨rfl,c3⟩]at e;subst e;refine foB (fun _=>[]) Tryz.func73 ?_;dsimp only[Tryz.f73];push_cast -dsimp [c3'];refine cl (hre) ?_;push_cast -dsimp [c3'];exact ⟨[],rfl,rfl,by push_cast -dsimp [ze,zd,CLe,zg],by push_cast -dsimp [ze,zd,CLe,zg]⟩
   | false =>
    rw[hS]at hre e;rw[if_neg (fun q=>by cases q.1)]at e;cases hM:may t.name
    all_goals
     rw[hM]at hma e
     first | rw[if_pos rfl]at e | rw[if_neg (by decide)]at e
     subst e;refine foB (fun _=>[]) Tryz.func73 ?_;dsimp only[Tryz.f73];push_cast -dsimp [c3'];refine cl (hre) ?_;push_cast -dsimp [c3'];refine cl (hma) ?_;push_cast -dsimp;exact ⟨[],rfl,rfl,by push_cast -dsimp [ze,zd,CLe,zg],by push_cast -dsimp [ze,zd,CLe,zg]⟩
end
section
open CA CB
open Go.RowKit
abbrev Mg:List C:=[.any,.any,.any,.any,.any,.any,.any,.any,.any,.any,.any,.any,.any,.any,.any,.any,.any,.any,.any,.any,.any,.any,.any,.any,.any,.any,.any,.any,.any,.any,.any,.any,.any,.any]
theorem zdY {N:Nat} {d:qd} (h:GrD N d) (hN:N<=3000) (b:List UInt8) (hb:b.length<=100000) (k:Int) (o:List UInt8) (ops:List (List UInt8)) (u v:List UInt8) (hu:u.length<=3000) (hv:v.length<=3000) :
  Yr Tryz.prog GD 41 [.ptr 0 0,.str b] [vC zmk d k o ops u v] 0 (fun r bx' n=>n=0/\r=kG (ku b o d u v)/\∃ X,bx' = [X]):=by
 have hso:=zaE h hN b hb k o ops u v hu hv;have hdl:d.diags.length<=80000:=by have:=h.b.diags;omega
 have htl:=fun w e:Int=>zdK d hdl 4 w u v e hu hv;cases hM:mvS d.w.fs b u v with
 | some e =>
  have eo:ku b o d u v=YD d (Xy 4 e.1 u v e.2):=by unfold ku;rw[hM]
  have hne:=eq_false (znM hM);rw[hM]at hso;simp only[Option.getD_some,Option.isNone_some]at hso;have ht:=htl e.1 e.2;rw[eo];refine foX (fun i=>if i=7 then [false,false,false,false,false,false,false,false,false,false,false,false,false,false,false,false,false,true] else []) Tryz.func41 ?_;dsimp only[Tryz.f41];push_cast -dsimp;refine jo [0] [] hso rfl (by decide) (by decide) (by simp) (by push_cast -dsimp) (by push_cast -dsimp) (fun r bx' m hp=>?_);obtain ⟨rfl,rfl,rfl⟩:=hp;push_cast -dsimp [hne];refine cl (ht) ?_;push_cast -dsimp;exact ⟨_,[Mg],0,⟨⟨rfl,rfl,_,rfl⟩,Nat.le_refl _⟩,[],rfl,rfl,by push_cast -dsimp [ze,zd,CLe,zg,YD],by push_cast -dsimp [ze,zd,CLe,zg]⟩
 | none =>
  obtain ⟨s1,s2,s3,s4,s5⟩:=zpv hM;have hi:=h.b.wi.fs;have hr:=h.r.fs;have hok:=h.ok (by omega);have hS:=(h.s (by omega)).ws.fs;have eo:ku b o d u v=if (mvJ d.w.fs o (zI d.w.fs b u false).1 (zI d.w.fs b v false).1 v).2 then znJ d (zI d.w.fs b u false).1 (zI d.w.fs b v false).1
   else if (mvJ d.w.fs o (zI d.w.fs b u false).1 (zI d.w.fs b v false).1 v).1.1=0 then d
   else YD d (Xy 4 (mvJ d.w.fs o (zI d.w.fs b u false).1 (zI d.w.fs b v false).1 v).1.1 u v (mvJ d.w.fs o (zI d.w.fs b u false).1 (zI d.w.fs b v false).1 v).1.2):=by
   show (match mvS d.w.fs b u v with | some e=>_ | none=>_)=_
   rw[hM]
  have hjd:=zaT h hN (zI d.w.fs b u false).1 (zI d.w.fs b v false).1 k o ops u v hv (zaW hS b v false (by omega));rw[hM]at hso;simp only[Option.getD_none,Option.isNone_none]at hso;have ha:=HL (Mn s1) hi s2 s3;have hgt:=Mn s4;have ma:=xy hr ha;have hjo:=znV (f:=d.w.fs) (o:=o) (a:=(zI d.w.fs b u false).1) (t:=(zI d.w.fs b v false).1) (v:=v);have hpa:=(M6 d.w.fs hok (zI d.w.fs b u false).1 ha.has ha.kind ma).g0 (G':=GD);have hla:=um hok ha.has ha.kind ma;generalize (zI d.w.fs b u false).1=A at *;generalize (zI d.w.fs b v false).1=T at *;cases hJ2:(mvJ d.w.fs o A T v).2 with
  | false =>
   rw[hJ2]at hjd eo;rw[if_neg (by decide)]at eo;have ht:=htl (mvJ d.w.fs o A T v).1.1 (mvJ d.w.fs o A T v).1.2;generalize (mvJ d.w.fs o A T v).1=J at *;by_cases h0:J.1=0
   ·have h0':=eq_true h0;rw[if_pos h0]at eo;rw[eo];refine foX (fun i=>if i=7 then [false,false,false,false,false,false,false,false,false,false,false,false,false,false,false,false,false,true] else []) Tryz.func41 ?_;dsimp only[Tryz.f41];push_cast -dsimp;refine jo [0] [] hso rfl (by decide) (by decide) (by simp) (by push_cast -dsimp) (by push_cast -dsimp) (fun r bx' m hp=>?_);obtain ⟨rfl,rfl,rfl⟩:=hp;push_cast -dsimp;refine Vn [0] [] hjd rfl (by decide) (by decide) (by simp) (by push_cast -dsimp) (by push_cast -dsimp) ?_;push_cast -dsimp [h0'];exact ⟨_,[Mg],0,⟨⟨rfl,rfl,_,rfl⟩,Nat.le_refl _⟩,[],rfl,rfl,by push_cast -dsimp [ze,zd,CLe,zg],by push_cast -dsimp [ze,zd,CLe,zg]⟩
   ·have h0':=eq_false h0;rw[if_neg h0]at eo;rw[eo];refine foX (fun i=>if i=7 then [false,false,false,false,false,false,false,false,false,false,false,false,false,false,false,false,false,true] else []) Tryz.func41 ?_;dsimp only[Tryz.f41];push_cast -dsimp;refine jo [0] [] hso rfl (by decide) (by decide) (by simp) (by push_cast -dsimp) (by push_cast -dsimp) (fun r bx' m hp=>?_);obtain ⟨rfl,rfl,rfl⟩:=hp;push_cast -dsimp;refine Vn [0] [] hjd rfl (by decide) (by decide) (by simp) (by push_cast -dsimp) (by push_cast -dsimp) ?_;push_cast -dsimp [h0'];refine cl (ht) ?_;push_cast -dsimp;exact ⟨_,[Mg],0,⟨⟨rfl,rfl,_,rfl⟩,Nat.le_refl _⟩,[],rfl,rfl,by push_cast -dsimp [ze,zd,CLe,zg,YD],by push_cast -dsimp [ze,zd,CLe,zg]⟩
  | true =>
   rw[hJ2]at hjd eo;rw[if_pos rfl]at eo;obtain ⟨j1,j2,_⟩:=hjo hJ2;have gT:zk T.dir d.w.fs.xs=true/\(zf T.dir d.w.fs.xs).kind=2/\T.ino=qh T.name (zf T.dir d.w.fs.xs).es:=hgt.resolve_left s5;have mt:may T.name=true:=by
    cases hq:zk T.ino d.w.fs.xs with
    | true=>exact xy hr (HL hgt hi hq s5)
    | false=>exact (j2 hq).1
   have hpt:=(M6 d.w.fs hok T gT.1 gT.2.1 mt).g0 (G':=GD);have hlt:=um hok gT.1 gT.2.1 mt;have eg:znJ d A T=(VZ (if zk T.ino d.w.fs.xs then (VZ d (zbv (qx d.w.fs T))).1 else d) (XS (qx d.w.fs A) (qx d.w.fs T))).1:=rfl;have hrm:=znZ d (h.s (by omega)) (qx d.w.fs T) (by omega);have h1:=h.add (o:=zbv (qx d.w.fs T)) (Nat.zero_le _) (show ¬(7:Int)=3 by decide);rw[show opL (zbv (qx d.w.fs T)) = [.sc (.int .i64 7),.sc (.int .i64 0),.str (qx d.w.fs T),.str [],.str []] from rfl]at hrm;cases hT:zk T.ino d.w.fs.xs with
   | true =>
    rw[hT,if_pos rfl]at eg;rw[hT]at hso hjd;have hmv:=zkl _ (h1.s (by omega)) (qx d.w.fs A) (qx d.w.fs T) (by omega) (by omega);rw[show opL (XS (qx d.w.fs A) (qx d.w.fs T)) = [.sc (.int .i64 6),.sc (.int .i64 0),.str (qx d.w.fs A),.str (qx d.w.fs T),.str []] from rfl]at hmv;rw[eo,eg];generalize (VZ d (zbv (qx d.w.fs T)))=R1 at *;generalize (VZ R1.1 (XS (qx d.w.fs A) (qx d.w.fs T)))=R2 at *;refine foX (fun i=>if i=7 then [false,false,false,false,false,false,false,false,false,false,false,false,false,false,false,false,false,true] else []) Tryz.func41 ?_;dsimp only[Tryz.f41];push_cast -dsimp;refine jo [0] [] hso rfl (by decide) (by decide) (by simp) (by push_cast -dsimp) (by push_cast -dsimp) (fun r bx' m hp=>?_);obtain ⟨rfl,rfl,rfl⟩:=hp;push_cast -dsimp;refine Vn [0] [] hjd rfl (by decide) (by decide) (by simp) (by push_cast -dsimp) (by push_cast -dsimp) ?_;push_cast -dsimp;refine cl (hpa) ?_;push_cast -dsimp;refine cl (hpt) ?_;push_cast -dsimp;refine cl (hrm) ?_;push_cast -dsimp;refine cl (hmv) ?_;push_cast -dsimp;exact ⟨_,[Mg],0,⟨⟨rfl,rfl,_,rfl⟩,Nat.le_refl _⟩,[],rfl,rfl,by push_cast -dsimp [ze,zd,CLe,zg],by push_cast -dsimp [ze,zd,CLe,zg]⟩
   | false =>
    rw[hT,if_neg (by decide)]at eg;rw[hT]at hso hjd;have hmv:=zkl d (h.s (by omega)) (qx d.w.fs A) (qx d.w.fs T) (by omega) (by omega);rw[show opL (XS (qx d.w.fs A) (qx d.w.fs T)) = [.sc (.int .i64 6),.sc (.int .i64 0),.str (qx d.w.fs A),.str (qx d.w.fs T),.str []] from rfl]at hmv;rw[eo,eg];generalize (VZ d (XS (qx d.w.fs A) (qx d.w.fs T)))=R2 at *;refine foX (fun i=>if i=7 then [false,false,false,false,false,false,false,false,false,false,false,false,false,false,false,false,false,true] else []) Tryz.func41 ?_;dsimp only[Tryz.f41];push_cast -dsimp;refine jo [0] [] hso rfl (by decide) (by decide) (by simp) (by push_cast -dsimp) (by push_cast -dsimp) (fun r bx' m hp=>?_);obtain ⟨rfl,rfl,rfl⟩:=hp;push_cast -dsimp;refine Vn [0] [] hjd rfl (by decide) (by decide) (by simp) (by push_cast -dsimp) (by push_cast -dsimp) ?_;push_cast -dsimp;refine cl (hpa) ?_;push_cast -dsimp;refine cl (hpt) ?_;push_cast -dsimp;refine cl (hmv) ?_;push_cast -dsimp;exact ⟨_,[Mg],0,⟨⟨rfl,rfl,_,rfl⟩,Nat.le_refl _⟩,[],rfl,rfl,by push_cast -dsimp [ze,zd,CLe,zg],by push_cast -dsimp [ze,zd,CLe,zg]⟩
end
section
open CA CB
open Go.RowKit
theorem ZA (k:Int) (b o:List UInt8) (ops:List (List UInt8)) {N:Nat} {d:qd} (h:GrD N d) (hN:N+2*ops.length+2<=2000) (hb:b.length<=1000) (hp:∀ x∈ops,x.length<=1000) (h1:0<ops.length):Fun Tryz.prog GD 12 [kG d,.str b,.agg (znB k o ops)] (kG (zit k b o ops d)) 0:=by
 have hll:(zM ops).length=ops.length:=List.length_map ..;have hS:=(h.s (by omega)).ws.fs;have hpl:=(zbX d.w.fs h.b.wi.fs h.r.fs hS h.dat b (by omega) k o ops (by omega) hp).g0 (G':=GD);have e:zit k b o ops d=match Ja d.w.fs b k o ops with | none=>YD d (Xy k 10 (ops.getLastD []) [] 0) | some ps=>zk7 b o (ops.zip ps) d:=rfl
 cases hP:Ja d.w.fs b k o ops with
 | none =>
  rw[hP]at hpl e;simp only[Option.getD_none,Option.isSome_none]at hpl;have hlg:=Ua h1;have hla:(zM ops)[ops.length-1]?=some [.str (ops.getLastD [])]:=by rw[List.getElem?_map,hlg];rfl
  have hlx:((ops.length:Int)-1).toNat=ops.length-1:=by omega
  have hl2:(ops.getLastD []).length<=1000:=hp _ (List.mem_of_getElem? hlg);have ht:=zdK d (by have:=h.b.diags;omega) k 10 (ops.getLastD []) [] 0 (by omega) (Nat.zero_le _);rw[e];refine fof (fun i=>if i=3 then [false,false,false,false,false,false,false,false,false,false,false,false,true] else if i=7 then [false,false,false,false,false,false,false,false,false,true] else []) Tryz.func12 ?_;dsimp only[Tryz.f12];push_cast -dsimp;refine cl (hpl) ?_;push_cast -dsimp [hll,hla,hlx]
  repeat refine an ?_
  refine cl (ht) ?_;push_cast -dsimp;exact dn (by push_cast -dsimp [ze,zd,CLe,zg,YD])
 | some ps =>
  rw[hP]at hpl e;simp only[Option.getD_some,Option.isSome_some]at hpl;obtain ⟨p1,p2⟩:=zaU hP hp;have hpsl:(zM ps).length=ps.length:=List.length_map ..;have hz:(ops.zip ps).length=ps.length:=by rw[List.length_zip];omega
  have e:zit k b o ops d=zk7 b o (ops.zip ps) d:=e;rw[e];refine fof (fun i=>if i=3 then [false,false,false,false,false,false,false,false,false,false,false,false,true] else if i=7 then [false,false,false,false,false,false,false,false,false,true] else []) Tryz.func12 ?_;dsimp only[Tryz.f12];push_cast -dsimp;refine cl (hpl) ?_;push_cast -dsimp [hpsl];refine loop (fun q:Nat×qd=>⟨[(1,.str b),(3,.ptr 0 0),(5,.ptr 1 0),(6,.ptr 2 0),(35,.sl 1 (zM ps)),(36,.sc (.int .i64 (ps.length:Nat))),(37,.sc (.int .i64 q.1))],[zrF q.2,znB k o ops,NS],0,0⟩) (fun q=>q.1<=ps.length/\q.2=zk7 b o ((ops.zip ps).take q.1) d/\GrD (N+2*q.1) q.2) (fun q=>ps.length-q.1) (0,d) ⟨Nat.zero_le _,rfl,h⟩ ?_ ?_
  ·exact wk (h4:=by push_cast -dsimp [ze,zd,CLe,zg,hpsl])
  rintro ⟨i,D⟩ ⟨i1,i2,i3⟩;dsimp only at i1 i2 i3;by_cases hi:i<ps.length
  case neg =>
   have hil:i=ps.length:=by omega
   have hi':=eq_false (show ¬(i:Int)<ps.length by omega);rw[hil,←hz,List.take_length]at i2;push_cast -dsimp [hi'];rw[←i2];exact dn (by push_cast -dsimp [ze,zd,CLe,zg])
  have hi':=eq_true (show (i:Int)<ps.length by omega);have hio:i<ops.length:=by omega
  have hgp:(zM ps)[i]?=some [.str ps[i]]:=by simp[zM,hi]
  have hgo:(zM ops)[i]?=some [.str ops[i]]:=by simp[zM,hio]
  have hlp:=p2 _ (List.getElem_mem hi);have hlo:=hp _ (List.getElem_mem hio);have hst:ku b o D ops[i] ps[i]=zk7 b o ((ops.zip ps).take (i+1)) d:=by
   have hzi:i<(ops.zip ps).length:=by omega
   rw[List.take_succ_eq_append_getElem hzi];unfold zk7;rw[List.foldl_append];show ku b o D ops[i] ps[i]=ku b o (zk7 b o ((ops.zip ps).take i) d) (ops.zip ps)[i].1 (ops.zip ps)[i].2;rw[←i2,List.getElem_zip]
  have hG:=zml i3 b o ops[i] ps[i];have hg:=zdY i3 (by omega) b (by omega) k o ops ops[i] ps[i] (by omega) (by omega);generalize ops[i]=u at *;generalize ps[i]=v at *;generalize ku b o D u v=D2 at *;push_cast -dsimp [hi',hgp,hgo,hll,hpsl,Int.toNat_natCast]
  repeat refine an ?_
  push_cast -dsimp [hi',hgp,hgo,hll,hpsl,Int.toNat_natCast]
  repeat refine an ?_
  refine jo [3] [] hg rfl (by decide) (by decide) (by simp) (by push_cast -dsimp) (by push_cast -dsimp) (fun r bx' m hp=>?_);obtain ⟨rfl,rfl,X,rfl⟩:=hp;push_cast -dsimp
  repeat refine an ?_
  exact ⟨(i+1,D2),⟨by dsimp only;omega,hst,by rw[show N+2*(i+1)=N+2*i+2 by omega];exact hG⟩,by dsimp only;omega,wk⟩
end
section
open CA CB
open Go.RowKit
end
section
open CA CB
open Go.RowKit
end
section
open CA CB
open Go.RowKit
def Yk (w:qA) (b:List UInt8) (l:List (List UInt8)):Prop:=(∀ x∈l.take 20,x.length<=1000)/\okW w/\w.fs.next<549755813888/\j7 w.kept<536870912/\Zt w.fs b []=true/\J5 b=true/\l.length<=6
instance (w:qA) (b:List UInt8) (l:List (List UInt8)):Decidable (Yk w b l):=by unfold Yk;infer_instance
theorem zbt (w:qA) (b:List UInt8) (l:List (List UInt8)) (hb:b.length<=2000000):Fun Tryz.prog G0 10 [Qv w,.str b,.sl 1 (zM l)] (qP (decide (Yk w b l))) 0:=by
 have hll:(zM l).length=l.length:=List.length_map ..;have hpl:=xp b hb;unfold Xw at hpl;have hok:=zfi w;have hsh:=za3 w.fs b [];refine fon Tryz.func10 ?_;dsimp only[Tryz.f10];push_cast -dsimp;refine cl (hpl) ?_;push_cast -dsimp;refine loop (fun i:Nat=>⟨[(1,.str b),(2,.sl 1 (zM l)),(3,.ptr 0 0),(8,.sc (.bool (J5 b))),(9,.sc (.int .i64 i))],[HB w],0,0⟩) (fun i=>i<=l.length/\i<=20/\∀ x∈l.take i,x.length<=1000) (fun i=>l.length-i) 0 ⟨Nat.zero_le _,Nat.zero_le _,fun x hx=>by rw[List.take_zero]at hx;cases hx⟩ ?_ ?_
 ·exact wk
 rintro i ⟨h1,h2,h3⟩;by_cases hi:i<l.length
 ·have hi':=eq_true (show (i:Int)<l.length by omega);by_cases h20:i<20
  ·have h20':=eq_true (show (i:Int)<20 by omega);have hgi:(zM l)[i]?=some [.str l[i]]:=by simp[zM,hi]
   have ht:l.take (i+1)=l.take i++[l[i]]:=List.take_succ_eq_append_getElem hi;by_cases hx:l[i].length<=1000
   ·have hx':=eq_false (show ¬(1000:Int)<l[i].length by omega);push_cast -dsimp [hi',h20',hgi,hll,hx',Int.toNat_natCast]
    repeat refine an ?_
    exact ⟨i+1,⟨by omega,by omega,fun x hm=>by
     rw[ht]at hm;rcases List.mem_append.1 hm with hm | hm
     ·exact h3 x hm
     ·rw[List.mem_singleton.1 hm];exact hx⟩,by omega,wk⟩
   ·have hx':=eq_true (show (1000:Int)<l[i].length by omega);have hn:¬Yk w b l:=fun h=>hx (h.1 _ (List.mem_take_iff_getElem.2 ⟨i,by omega,rfl⟩));push_cast -dsimp [hi',h20',hgi,hll,hx',Int.toNat_natCast]
    repeat refine an ?_
    exact dn (by push_cast -dsimp [ze,zd,CLe,zg,hn])
  ·have h20':=eq_false (show ¬(i:Int)<20 by omega);have hx:∀ x∈l.take 20,x.length<=1000:=by rw[show i=20 by omega]at h3;exact h3
   by_cases k1:okW w
   case neg =>
    have hn:¬Yk w b l:=fun h=>k1 h.2.1;rw[decide_eq_false k1]at hok;push_cast -dsimp [hi',h20',hll];refine cl (hok) ?_;push_cast -dsimp;exact dn (by push_cast -dsimp [ze,zd,CLe,zg,hn])
   rw[decide_eq_true k1]at hok;have hs:=k1.2.2.2.2.1;have hla:=Uv (G:=G0) w (by have:=(zbD k1).klen;omega) hs.1 hs.2;by_cases k2:w.fs.next<549755813888
   case neg =>
    have hn:¬Yk w b l:=fun h=>k2 h.2.2.1;have k2':=eq_false k2;push_cast -dsimp [hi',h20',hll];refine cl (hok) ?_;push_cast -dsimp [k2'];exact dn (by push_cast -dsimp [ze,zd,CLe,zg,hn])
   have k2':=eq_true k2;by_cases k3:j7 w.kept<536870912
   case neg =>
    have hn:¬Yk w b l:=fun h=>k3 h.2.2.2.1;have k3':=eq_false k3;push_cast -dsimp [hi',h20',hll];refine cl (hok) ?_;push_cast -dsimp [k2'];refine cl (hla) ?_;push_cast -dsimp [k3'];exact dn (by push_cast -dsimp [ze,zd,CLe,zg,hn])
   have k3':=eq_true k3;cases k4:Zt w.fs b []
   case false =>
    have hn:¬Yk w b l:=fun h=>by rw[h.2.2.2.2.1]at k4;cases k4
    rw[k4]at hsh;push_cast -dsimp [hi',h20',hll];refine cl (hok) ?_;push_cast -dsimp [k2'];refine cl (hla) ?_;push_cast -dsimp [k3'];refine cl (hsh) ?_;push_cast -dsimp;exact dn (by push_cast -dsimp [ze,zd,CLe,zg,hn])
   rw[k4]at hsh;cases k5:J5 b
   case false =>
    have hn:¬Yk w b l:=fun h=>by rw[h.2.2.2.2.2.1]at k5;cases k5
    push_cast -dsimp [hi',h20',hll];refine cl (hok) ?_;push_cast -dsimp [k2'];refine cl (hla) ?_;push_cast -dsimp [k3'];refine cl (hsh) ?_;push_cast -dsimp;exact dn (by push_cast -dsimp [ze,zd,CLe,zg,hn])
   by_cases k6:l.length<=6
   ·have hn:Yk w b l:=⟨hx,k1,k2,k3,k4,k5,k6⟩;have k6':=eq_true (show (l.length:Int)<=6 by omega);push_cast -dsimp [hi',h20',hll];refine cl (hok) ?_;push_cast -dsimp [k2'];refine cl (hla) ?_;push_cast -dsimp [k3'];refine cl (hsh) ?_;push_cast -dsimp [hll,k6'];exact dn (by push_cast -dsimp [ze,zd,CLe,zg,hn])
   ·have hn:¬Yk w b l:=fun h=>k6 h.2.2.2.2.2.2;have k6':=eq_false (show ¬(l.length:Int)<=6 by omega);push_cast -dsimp [hi',h20',hll];refine cl (hok) ?_;push_cast -dsimp [k2'];refine cl (hla) ?_;push_cast -dsimp [k3'];refine cl (hsh) ?_;push_cast -dsimp [hll,k6'];exact dn (by push_cast -dsimp [ze,zd,CLe,zg,hn])
 ·have hi':=eq_false (show ¬(i:Int)<l.length by omega);have hx:∀ x∈l.take 20,x.length<=1000:=by
   rw[show i=l.length by omega,List.take_length]at h3;exact fun x hm=>h3 x (List.mem_of_mem_take hm)
  by_cases k1:okW w
  case neg =>
   have hn:¬Yk w b l:=fun h=>k1 h.2.1;rw[decide_eq_false k1]at hok;push_cast -dsimp [hi',hll];refine cl (hok) ?_;push_cast -dsimp;exact dn (by push_cast -dsimp [ze,zd,CLe,zg,hn])
  rw[decide_eq_true k1]at hok;have hs:=k1.2.2.2.2.1;have hla:=Uv (G:=G0) w (by have:=(zbD k1).klen;omega) hs.1 hs.2;by_cases k2:w.fs.next<549755813888
  case neg =>
   have hn:¬Yk w b l:=fun h=>k2 h.2.2.1;have k2':=eq_false k2;push_cast -dsimp [hi',hll];refine cl (hok) ?_;push_cast -dsimp [k2'];exact dn (by push_cast -dsimp [ze,zd,CLe,zg,hn])
  have k2':=eq_true k2;by_cases k3:j7 w.kept<536870912
  case neg =>
   have hn:¬Yk w b l:=fun h=>k3 h.2.2.2.1;have k3':=eq_false k3;push_cast -dsimp [hi',hll];refine cl (hok) ?_;push_cast -dsimp [k2'];refine cl (hla) ?_;push_cast -dsimp [k3'];exact dn (by push_cast -dsimp [ze,zd,CLe,zg,hn])
  have k3':=eq_true k3;cases k4:Zt w.fs b []
  case false =>
   have hn:¬Yk w b l:=fun h=>by rw[h.2.2.2.2.1]at k4;cases k4
   rw[k4]at hsh;push_cast -dsimp [hi',hll];refine cl (hok) ?_;push_cast -dsimp [k2'];refine cl (hla) ?_;push_cast -dsimp [k3'];refine cl (hsh) ?_;push_cast -dsimp;exact dn (by push_cast -dsimp [ze,zd,CLe,zg,hn])
  rw[k4]at hsh;cases k5:J5 b
  case false =>
   have hn:¬Yk w b l:=fun h=>by rw[h.2.2.2.2.2.1]at k5;cases k5
   push_cast -dsimp [hi',hll];refine cl (hok) ?_;push_cast -dsimp [k2'];refine cl (hla) ?_;push_cast -dsimp [k3'];refine cl (hsh) ?_;push_cast -dsimp;exact dn (by push_cast -dsimp [ze,zd,CLe,zg,hn])
  by_cases k6:l.length<=6
  ·have hn:Yk w b l:=⟨hx,k1,k2,k3,k4,k5,k6⟩;have k6':=eq_true (show (l.length:Int)<=6 by omega);push_cast -dsimp [hi',hll];refine cl (hok) ?_;push_cast -dsimp [k2'];refine cl (hla) ?_;push_cast -dsimp [k3'];refine cl (hsh) ?_;push_cast -dsimp [hll,k6'];exact dn (by push_cast -dsimp [ze,zd,CLe,zg,hn])
  ·have hn:¬Yk w b l:=fun h=>k6 h.2.2.2.2.2.2;have k6':=eq_false (show ¬(l.length:Int)<=6 by omega);push_cast -dsimp [hi',hll];refine cl (hok) ?_;push_cast -dsimp [k2'];refine cl (hla) ?_;push_cast -dsimp [k3'];refine cl (hsh) ?_;push_cast -dsimp [hll,k6'];exact dn (by push_cast -dsimp [ze,zd,CLe,zg,hn])
theorem zjb (k:Int) (l:List (List UInt8)) (hk:k=1∨k=2∨k=3∨k=4∨k=5) (hl:l.length<=90) (hs:∀ x∈l,x.length<=1000):Fun Tryz.prog G0 11 [.sc (.int .i64 k),.sl 1 (zM l)] (.tup [zsa (Yh (jN k :: l)).1,qP (decide ((Yh (jN k :: l)).2 = []))]) 1:=by
 have hn:=MZ k;have hll:(zM l).length=l.length:=List.length_map ..;have hr:=zf8 (jN k :: l) (by rw[List.length_cons];omega) (fun x hx=>by
  rcases List.mem_cons.1 hx with rfl | hx
  ·rcases hk with rfl | rfl | rfl | rfl | rfl<;>decide
  ·exact hs x hx)
 have e:zM (jN k :: l) = [.str (jN k)] :: zM l:=rfl;rw[e]at hr;refine fof (fun i=>if i=1 then jS 9 10 else if i=2 then [false,false,false,true] else []) Tryz.func11 ?_;dsimp only[Tryz.f11];push_cast -dsimp;refine cl (hn) ?_;push_cast -dsimp
 repeat refine an ?_
 refine cl (hr) ?_;push_cast -dsimp;exact ⟨[.inl 1],rfl,rfl,by push_cast -dsimp [ze,zd,CLe,zg]⟩
end
section
theorem zhH (k:Int) (s:List UInt8):(Ye k s 58).length<=58:=by
 unfold Ye;refine Nat.le_trans (List.length_filter_le _ _) ?_;simp
theorem vo (l:List (List UInt8)):(Yh l).1.opts.length<=58/\(Yh l).1.operands.length<=l.length/\∀ x∈(Yh l).1.operands,x∈l:=by
 refine ⟨?_,zde l,?_⟩
 ·cases l with
  | nil=>exact Nat.zero_le _
  | cons w r =>
   rw[Yh];split
   ·exact Nat.zero_le _
   ·unfold jU;split
    ·exact Nat.zero_le _
    ·split
     ·exact Nat.zero_le _
     ·exact zhH _ _
 ·cases l with
  | nil=>intro x hx;cases hx
  | cons w r =>
   rw[Yh];split
   ·intro x hx;cases hx
   ·unfold jU;split
    ·intro x hx;cases hx
    ·split
     ·intro x hx;cases hx
     ·exact fun x hx=>List.mem_cons_of_mem _ (List.mem_of_mem_drop hx)
theorem zht {w:qA} {b:List UInt8} {l:List (List UInt8)} (h:Yk w b l):kU w.fs.xs/\b.length<=1000:=by
 have hs:=h.2.2.2.2.1;have hl:=(zbD h.2.1).len;unfold Zt at hs;simp only[Bool.and_eq_true,decide_eq_true_eq,Bool.not_eq_true',List.any_eq_false]at hs;obtain ⟨⟨h1,h2⟩,_⟩:=hs;rw[List.take_of_length_le (by omega)]at h1;refine ⟨fun x hx hk=>?_,by omega⟩;have:=h1 x hx;unfold VX at this;simp only[Bool.and_eq_true,decide_eq_true_eq,not_and]at this;have:=this hk;omega
theorem Hc {w:qA} {b:List UInt8} {l:List (List UInt8)} (h:Yk w b l):∀ x∈l,x.length<=1000:=by
 have h1:=h.1;rw[List.take_of_length_le (by have:=h.2.2.2.2.2.2;omega)]at h1;exact h1
theorem zby (w:List UInt8) (r:List (List UInt8)):(Yh (w :: r)).1.operands.length<=r.length:=by
 rw[Yh];split
 ·exact Nat.zero_le _
 ·unfold jU;split
  ·exact Nat.zero_le _
  ·split
   ·exact Nat.zero_le _
   ·show (r.drop _).length<=_;rw[List.length_drop];omega
end
section
open CA CB
open Go.RowKit
def j9:qA:=⟨⟨9,9,9,[⟨1,2,0,[],1,[⟨[100],3⟩,⟨[102],4⟩,⟨[103],5⟩]⟩,⟨3,2,1,[],1,[]⟩,⟨4,1,1,[122],0,[]⟩,⟨5,1,1,[121],0,[]⟩]⟩,[],[]⟩
theorem MT:okW j9:=by decide
theorem G7:GrD 0 (xf j9):=zke MT (by
 intro x hx;have:∀ x∈j9.fs.xs,x.kind=3->x.data.length<=1000:=by decide
 exact this x hx) (by decide) (by decide)
theorem yF:Fun Tryz.prog G0 31 [] (Qv j9) 0:=by
 have h1:=zi9 (G:=G0) 9 9;have h2:=uA (G:=G0) ⟨9,9,9,[⟨1,2,0,[],1,[]⟩]⟩ ⟨1,2,0,[],1,[⟨[100],3⟩,⟨[102],4⟩,⟨[103],5⟩]⟩ (by decide);have h3:=Gw (G:=G0) ⟨9,9,9,[⟨1,2,0,[],1,[⟨[100],3⟩,⟨[102],4⟩,⟨[103],5⟩]⟩]⟩ ⟨3,2,1,[],1,[]⟩ rfl (by decide);have h4:=Gw (G:=G0) ⟨9,9,9,[⟨1,2,0,[],1,[⟨[100],3⟩,⟨[102],4⟩,⟨[103],5⟩]⟩,⟨3,2,1,[],1,[]⟩]⟩ ⟨5,1,1,[121],0,[]⟩ rfl (by decide);have h5:=Gw (G:=G0) ⟨9,9,9,[⟨1,2,0,[],1,[⟨[100],3⟩,⟨[102],4⟩,⟨[103],5⟩]⟩,⟨3,2,1,[],1,[]⟩,⟨5,1,1,[121],0,[]⟩]⟩ ⟨4,1,1,[122],0,[]⟩ rfl (by decide);have e2:ql ⟨1,2,0,[],1,[⟨[100],3⟩,⟨[102],4⟩,⟨[103],5⟩]⟩ [⟨1,2,0,[],1,[]⟩] = [⟨1,2,0,[],1,[⟨[100],3⟩,⟨[102],4⟩,⟨[103],5⟩]⟩]:=by decide
 have e3:ql ⟨3,2,1,[],1,[]⟩ [⟨1,2,0,[],1,[⟨[100],3⟩,⟨[102],4⟩,⟨[103],5⟩]⟩] = [⟨1,2,0,[],1,[⟨[100],3⟩,⟨[102],4⟩,⟨[103],5⟩]⟩,⟨3,2,1,[],1,[]⟩]:=by decide
 have e4:ql ⟨5,1,1,[121],0,[]⟩ [⟨1,2,0,[],1,[⟨[100],3⟩,⟨[102],4⟩,⟨[103],5⟩]⟩,⟨3,2,1,[],1,[]⟩] = [⟨1,2,0,[],1,[⟨[100],3⟩,⟨[102],4⟩,⟨[103],5⟩]⟩,⟨3,2,1,[],1,[]⟩,⟨5,1,1,[121],0,[]⟩]:=by decide
 have e5:ql ⟨4,1,1,[122],0,[]⟩ [⟨1,2,0,[],1,[⟨[100],3⟩,⟨[102],4⟩,⟨[103],5⟩]⟩,⟨3,2,1,[],1,[]⟩,⟨5,1,1,[121],0,[]⟩]=j9.fs.xs:=by decide
 simp only[e2]at h2;simp only[e3]at h3;simp only[e4]at h4;simp only[e5]at h5;refine fon Tryz.func31 ?_;dsimp only[Tryz.f31];push_cast -dsimp;refine cl (h1) ?_;push_cast -dsimp;refine cl (h2) ?_;push_cast -dsimp;refine cl (h3) ?_;push_cast -dsimp;refine cl (h4) ?_;push_cast -dsimp;refine cl (h5) ?_;push_cast -dsimp;exact dn (by push_cast -dsimp [ze,zd,CLe,zg,j9])
def tB:List (List UInt8):=[[109,118,58,32,99,97,110,110,111,116,32,115,116,97,116,32,34,120,34,58,32,78,111,32,115,117,99,104,32,102,105,108,101,32,111,114,32,100,105,114,101,99,116,111,114,121]]
def tC:List (List UInt8):=[[109,118,58,32,99,97,110,110,111,116,32,111,118,101,114,119,114,105,116,101,32,100,105,114,101,99,116,111,114,121,32,34,100,34,32,119,105,116,104,32,110,111,110,45,100,105,114,101,99,116,111,114,121,32,34,102,34]]
theorem xY:Fun Tryz.prog GD 9 [] (qP true) 0:=by
 have q0:Fun Tryz.prog GD 31 [] (Qv j9) 0:=yF.g0;have q1:Fun Tryz.prog GD 13 [Qv j9] (kG (xf j9)) 0:=(MO j9 (by decide) MT.2.2.2.2.1).g0;have q2:Fun Tryz.prog GD 12 [kG (xf j9),.str [47],.agg [.sc (.int .i64 4),.str [],.sl 1 [[.str [102]],[.str [103]]]]] (kG (zit 4 [47] [] [[102],[103]] (xf j9))) 0:=ZA 4 [47] [] [[102],[103]] G7 (by decide) (by decide) (by decide) (by decide);have q3:Fun Tryz.prog GD 12 [kG (xf j9),.str [47],.agg [.sc (.int .i64 4),.str [],.sl 1 [[.str [102]],[.str [120]],[.str [100]]]]] (kG (zit 4 [47] [] [[102],[120],[100]] (xf j9))) 0:=ZA 4 [47] [] [[102],[120],[100]] G7 (by decide) (by decide) (by decide) (by decide);have q4:Fun Tryz.prog GD 12 [kG (xf j9),.str [47],.agg [.sc (.int .i64 4),.str [84],.sl 1 [[.str [102]],[.str [100]]]]] (kG (zit 4 [47] [84] [[102],[100]] (xf j9))) 0:=ZA 4 [47] [84] [[102],[100]] G7 (by decide) (by decide) (by decide) (by decide);obtain ⟨dA,hA⟩:∃ d,zit 4 [47] [] [[102],[103]] (xf j9)=d:=⟨_,rfl⟩;obtain ⟨dB,hB⟩:∃ d,zit 4 [47] [] [[102],[120],[100]] (xf j9)=d:=⟨_,rfl⟩;obtain ⟨dC,hC⟩:∃ d,zit 4 [47] [84] [[102],[100]] (xf j9)=d:=⟨_,rfl⟩;have p1:dA.ops = [⟨7,1,[47,103],[],[]⟩,⟨6,0,[47,102],[47,103],[]⟩]:=by rw[←hA];kernel_rfl
 have p2:dB.ops = [⟨6,0,[47,102],[47,100,47,102],[]⟩]:=by rw[←hB];kernel_rfl
 have p3:dB.diags=tB:=by rw[←hB];kernel_rfl
 have p4:dC.diags=tC:=by rw[←hC];kernel_rfl
 rw[hA]at q2;rw[hB]at q3;rw[hC]at q4;have q5:Fun Tryz.prog GD 32 [.sl 5 (dA.ops.map opL),.sl 5 [opL ⟨7,1,[47,103],[],[]⟩,opL ⟨6,0,[47,102],[47,103],[]⟩]] (qP true) 0:=by
  have h:=Uo dA.ops [⟨7,1,[47,103],[],[]⟩,⟨6,0,[47,102],[47,103],[]⟩] (by rw[p1];decide);rw[show Jq dA.ops [⟨7,1,[47,103],[],[]⟩,⟨6,0,[47,102],[47,103],[]⟩]=true by rw[p1];rfl]at h;exact h.g0
 have q6:Fun Tryz.prog GD 32 [.sl 5 (dB.ops.map opL),.sl 5 [opL ⟨6,0,[47,102],[47,100,47,102],[]⟩]] (qP true) 0:=by
  have h:=Uo dB.ops [⟨6,0,[47,102],[47,100,47,102],[]⟩] (by rw[p2];decide);rw[show Jq dB.ops [⟨6,0,[47,102],[47,100,47,102],[]⟩]=true by rw[p2];rfl]at h;exact h.g0
 have q7:Fun Tryz.prog GD 16 [.sl 1 (zM dB.diags),.sl 1 (zM tB)] (qP true) 0:=by
  have h:=V7 dB.diags tB (by rw[p3];decide);rw[decide_eq_true p3]at h;exact h.g0
 have q8:Fun Tryz.prog GD 16 [.sl 1 (zM dC.diags),.sl 1 (zM tC)] (qP true) 0:=by
  have h:=V7 dC.diags tC (by rw[p4];decide);rw[decide_eq_true p4]at h;exact h.g0
 clear hA hB hC p1 p2 p3 p4;refine fon Tryz.func9 ?_;dsimp only[Tryz.f9];push_cast -dsimp;refine cl (q0) ?_;push_cast -dsimp;refine cl (q1) ?_;push_cast -dsimp;refine cl (q2) ?_;push_cast -dsimp;refine cl (q1) ?_;push_cast -dsimp;refine cl (q3) ?_;push_cast -dsimp;refine cl (q1) ?_;push_cast -dsimp;refine cl (q4) ?_;push_cast -dsimp;refine cl (q5) ?_;push_cast -dsimp;refine cl (q6) ?_;push_cast -dsimp;refine cl (q7) ?_;push_cast -dsimp;refine cl (q8) ?_;push_cast -dsimp;exact dn (by push_cast -dsimp [ze,zd,CLe,zg])
end
section
open CA CB
open Go.RowKit
theorem zhu {l:List (List UInt8)} (h:(Yh (jN 4 :: l)).2 = []):0<(Yh (jN 4 :: l)).1.operands.length:=by
 have e:Yh (jN 4 :: l)=jU 4 (jN 4) (qz (Qx 4) Yg [] 0 l) l:=rfl;rw[e]at h ⊢;unfold jU at h ⊢;generalize qz (Qx 4) Yg [] 0 l=q at *;by_cases a:q.2.2≠[]
 ·rw[if_pos a]at h;have h:jN 4++[58,32,105,110,118,97,108,105,100,32,111,112,116,105,111,110,32]++QuotePlain.quoteL q.2.2 = []:=h;simp at h
 rw[if_neg a]at h ⊢;by_cases c:jO 4 (Ye 4 q.1 58) (l.drop q.2.1)≠[]
 ·rw[if_pos c]at h;have h:jN 4++[58,32]++jO 4 (Ye 4 q.1 58) (l.drop q.2.1) = []:=h;simp at h
 rw[if_neg c];show 0<(l.drop q.2.1).length;refine List.length_pos_iff.2 fun z=>c ?_;rw[z];simp[jO]
structure zrm (w:qA) (b:List UInt8) (l:List (List UInt8)) (c:zpe) (s:List UInt8):Prop where
 g:GrD 0 (xf w)
 b:b.length<=1000
 o:c.opts.length<=1000
 n:c.operands.length<=6
 p:∀ x∈c.operands,x.length<=1000
 ne:s = []->0<c.operands.length
theorem zrm.of {w:qA} {b:List UInt8} {l:List (List UInt8)} (h:Yk w b l):zrm w b l (Yh (jN 4 :: l)).1 (Yh (jN 4 :: l)).2:=by
 obtain ⟨p1,p2,p3⟩:=vo (jN 4 :: l);obtain ⟨d1,d2⟩:=zht h;have h6:=h.2.2.2.2.2.2;have ht:=zby (jN 4) l;refine ⟨zke h.2.1 d1 (by have:=h.2.2.1;omega) (by have:=h.2.2.2.1;omega),d2,by omega,by omega,fun x hx=>?_,zhu⟩;rcases List.mem_cons.1 (p3 x hx) with rfl | hx
 ·decide
 ·exact Hc h x hx
theorem NY (w:qA) (b:List UInt8) (l:List (List UInt8)) (hb:b.length<=2000000):Fun Tryz.prog GD 6 [Qv w,.str b,.sl 1 (zM l)] (qP true) 0:=by
 have ha:=xY;have hf:Fun Tryz.prog GD 10 _ _ 0:=(zbt w b l hb).g0;by_cases h:Yk w b l
 case neg =>
  rw[decide_eq_false h]at hf;refine fon Tryz.func6 ?_;dsimp only[Tryz.f6];push_cast -dsimp;refine cl (ha) ?_;push_cast -dsimp;refine cl (hf) ?_;push_cast -dsimp;refine cl (ha) ?_;push_cast -dsimp;exact dn (by push_cast -dsimp [ze,zd,CLe,zg])
 rw[decide_eq_true h]at hf;have hc:Fun Tryz.prog GD 11 _ _ 1:=(zjb 4 l (by decide) (by have:=h.2.2.2.2.2.2;omega) (Hc h)).g0;have hF:=zrm.of h;generalize Yh (jN 4 :: l)=rc at hc hF;obtain ⟨⟨ck,co,cz⟩,s⟩:=rc;dsimp only at hF hc;have hcn:cz.length<=6:=hF.n;by_cases hs:s = []
 case neg =>
  rw[decide_eq_false hs]at hc;refine fon Tryz.func6 ?_;dsimp only[Tryz.f6];push_cast -dsimp;refine cl (ha) ?_;push_cast -dsimp;refine cl (hf) ?_;push_cast -dsimp;refine cl (hc) ?_;push_cast -dsimp;exact dn (by push_cast -dsimp [ze,zd,CLe,zg])
 rw[decide_eq_true hs]at hc;have q1:Fun Tryz.prog GD 13 [Qv w] (kG (xf w)) 0:=(MO w (by have:=(zbD h.2.1).klen;omega) h.2.1.2.2.2.2.1).g0;have q2:=ZA ck b co cz hF.g (by omega) hF.b hF.p (hF.ne hs);have hB:=zbD h.2.1;have q4:Fun Tryz.prog GD 27 _ _ 0:=(ze9 (xf w) (hF.g.s (by omega)) (fun z hz=>by have:=(hB.pnode z hz).1;omega)).g0;have q5:Fun Tryz.prog GD 16 _ _ 0:=(V7 cz cz (by omega)).g0;rw[decide_eq_true rfl]at q5;have l1:(zq w.fs.xs).length=w.fs.xs.length:=List.length_map ..;have l2:(zG w.kept).length=w.kept.length:=List.length_map ..;have l3:(zq w.pool).length=w.pool.length:=List.length_map ..;have b1:=hB.len;have b2:=hB.klen;have b3:=hB.plen;refine fon Tryz.func6 ?_;dsimp only[Tryz.f6];push_cast -dsimp;refine cl (ha) ?_;push_cast -dsimp;refine cl (hf) ?_;push_cast -dsimp;refine cl (hc) ?_;push_cast -dsimp;refine cl (q1) ?_;push_cast -dsimp
 repeat refine an ?_
 refine cl (q2) ?_;push_cast -dsimp;refine cl (hc) ?_;push_cast -dsimp;refine cl (q4) ?_;push_cast -dsimp;refine cl (q5) ?_;push_cast -dsimp;exact dn (by push_cast -dsimp [ze,zd,CLe,zg])
end
end Go.Proofs.YtnpdbhbmakdklaaGreatDoor.Vcg
