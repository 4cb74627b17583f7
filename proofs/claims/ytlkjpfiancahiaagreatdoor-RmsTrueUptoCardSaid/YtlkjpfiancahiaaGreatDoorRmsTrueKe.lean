/- What the proof of RmsTrue leans on, part 5: Spl Diag2 Diag3 Diag4 Dra3 Ref19b Ref19c Rf11 Ref8 Wlk1 Wlk2 Tree1 Mak0 Tree2 Tree3 Tree4 Tree5 Tree6 Tree7 Dra4 Mak1 Mak2 Mak3 OpenD Sk0 Slc2 Sk2 Rgt0 SekP SekL Rgt1 Rgt2 Rgt3 Rgt4 Rgt5 Rgt6 PthL Rms0 Rms1 Rms2 Rms3 Rms4 Rms5 Do7 Sek1 Sek2 Sek3 Rmv Rea Rml Rpl0 Rpl Rrm Sk1 Sk3. No condition beyond what each theorem states. -/
import Derived.Test.YtlkjpfiancahiaaGreatDoorRmsTrueKd
import Derived.Shelf.Strings.SlTrimAscii
import Derived.Sort.Walk0
import Derived.Lib.IndexLaws
set_option linter.unusedVariables false
set_option linter.unusedSimpArgs false
set_option linter.unusedSectionVars false
set_option maxRecDepth 100000
set_option maxHeartbeats 4000000
namespace Go.Proofs.YtlkjpfiancahiaaGreatDoor.Vcg
section
open Go.RowKit
theorem Fun.res {P:Program} {G:zo} {f:FuncId} {args:List C} {r r':C} {n:Nat} (h:Fun P G f args r n) (e:r=r'):Fun P G f args r' n:=e▸h
theorem Mc.glob0 {P:Program} {G':zo} {f:FuncId} {args:List C} {bx bx':List (List C)} {q:Nat} {r:C} {n:Nat} (h:Mc P G0 f args bx q r bx' n):Mc P G' f args bx q r bx' n:=
 ⟨h.1,fun R L vs hg=>h.2 R L vs fun g cs e=>by cases e⟩
theorem xz.glob0 {P:Program} {G':zo} {f:FuncId} {first cap:List C} {bx items:List (List C)} (h:xz P G0 f first cap bx items):xz P G' f first cap bx items:=
 ⟨h.1,fun l st J R L us vs hg=>h.2 l st J R L us vs fun g cs e=>by cases e⟩
def Qe (c:UInt8):List UInt8->List (List UInt8)
 | []=>[[]]
 | b :: l=>if b=c then [] :: Qe c l else match Qe c l with
  | []=>[[b]]
  | x :: r=>(b :: x) :: r
theorem UR (c:UInt8):∀ l:List UInt8,Lib.indexByte l c<0->Qe c l = [l]
 | [],_=>rfl
 | b :: l,h=>by
  unfold Lib.indexByte at h
  by_cases hb:b=c
  ·subst hb;simp at h
  ·have hb':(b==c)=false:=by simpa using hb
   rw[hb']at h
   simp only[Bool.false_eq_true,if_false]at h
   have hl:Lib.indexByte l c<0:=by
    split at h
    ·rename_i g;have:=beq_iff_eq.1 g;omega
    ·omega
   unfold Qe
   rw[if_neg hb,UR c l hl]
theorem UP (c:UInt8):∀ l:List UInt8,-1<=Lib.indexByte l c
 | []=>Int.le_refl _
 | b :: l=>by
  have:=UP c l
  unfold Lib.indexByte
  split
  ·decide
  ·split
   ·decide
   ·omega
theorem My (c:UInt8):∀ (l:List UInt8) (i:Nat),Lib.indexByte l c=(i:Int)->i<l.length/\Qe c l=l.take i :: Qe c (l.drop (i+1))
 | [],i,h=>by
  have h:(-1:Int)=(i:Int):=h
  omega
 | b :: l,i,h=>by
  unfold Lib.indexByte at h
  by_cases hb:b=c
  ·subst hb
   simp at h
   obtain rfl:i=0:=by omega
   refine ⟨by simp,?_⟩
   conv=>lhs;unfold Qe
   simp
  ·have hb':(b==c)=false:=by simpa using hb
   rw[hb']at h
   simp only[Bool.false_eq_true,if_false]at h
   split at h
   ·omega
   ·rename_i g
    have g':Lib.indexByte l c≠-1:=by simpa using g
    have hg:=UP c l
    obtain ⟨j,rfl⟩:∃ j,i=j+1:=⟨i-1,by omega⟩
    have hj:Lib.indexByte l c=(j:Int):=by omega
    obtain ⟨h1,h2⟩:=My c l j hj
    refine ⟨by simp;omega,?_⟩
    conv=>lhs;unfold Qe
    rw[if_neg hb,h2]
    simp
theorem UU (c:UInt8) (l:List UInt8):(Qe c l).length<=l.length+1:=by
 induction l with
 | nil=>simp[Qe]
 | cons b l ih =>
  unfold Qe
  split
  ·simp;omega
  ·split
   ·simp
   ·rename_i x r h
    rw[h]at ih
    simp at ih ⊢;omega
theorem zaK (c:UInt8) (l:List UInt8):Fun Tryz.prog G0 170 [.str l,.str [c]] (.sc (.int .i64 (Lib.indexByte l c))) 0:=by
 refine Fun.wrap (by kernel_rfl) fun R vs h=>?_
 obtain ⟨v1,us1,rfl,h1,h⟩:=zf.1 h
 obtain ⟨v2,us2,rfl,h2,h⟩:=zf.1 h
 rw[zj]at h
 subst h
 rw[zQ]at h1 h2
 subst h1 h2
 refine (Tryz.strings_Index_one ⟨l.toArray⟩ c R.w).mono ?_
 rintro e w' ⟨rfl,rfl⟩
 exact ⟨_,rfl,Below.refl _ _,fun R' _=>zm.2 (by simp)⟩
theorem Mu (c:UInt8) (s:List UInt8) (hs:s.length<=1000000):xz Tryz.prog G0 168 [] [.ptr 1 0,.ptr 0 0,.ptr 2 0] [[.str s],[.str [c]],[.sc (.int .i64 0)]] (zJ (Qe c s)):=by
 refine foI (fun _=>[]) Tryz.func168 ?_;dsimp only[Tryz.f168]
 intro l sf
 push_cast -dsimp
 refine loop (fun x:List UInt8×Nat=>⟨[(0,.sc (.func (.yield l) #[] #[])),(1,.ptr 1 0),(2,.ptr 0 0),(3,.ptr 2 0)],[[.str x.1],[.str [c]],[.sc (.int .i64 0)]],0,x.2⟩)
  (fun x=>x.1.length<=1000000/\(∃ done,Qe c s=done++Qe c x.1/\done.length=x.2)/\∀ j,j<x.2->sf j=false) (fun x=>x.1.length) (s,0) ⟨hs,⟨[],rfl,rfl⟩,fun j hj=>by omega⟩ ?_ ?_
 ·refine j8.mk [] rfl rfl (Nat.zero_le _) rfl ?_ ?_<;>push_cast -dsimp [zb,za,CLe,zd]<;>omega
 ·rintro ⟨r,k⟩ hx
  simp only at hx ⊢
  have hr:=hx.1
  have hsf:=hx.2.2
  obtain ⟨done,hd,hdl⟩:=hx.2.1
  clear hx
  push_cast -dsimp
  refine call (zaK c r) ?_
  push_cast -dsimp
  by_cases hi:Lib.indexByte r c<0
  ·push_cast -dsimp [hi]
   have hk:(zJ (Qe c s))[k]?=some [.str r]:=by
    rw[hd,UR c r hi];simp[←hdl]
   rw[hk]
   push_cast -dsimp
   refine ⟨by push_cast -dsimp [zb,za,CLe,zd],hsf,?_⟩
   cases hk2:sf k with
   | true=>exact .inr ⟨Nat.succ_pos k,hk2⟩
   | false =>
    refine .inl ⟨?_,fun j (hj:j<k+1)=>?_⟩
    ·rw[hd,UR c r hi];simp[hdl]
    ·rcases Nat.lt_or_ge j k with g | g
     ·exact hsf j g
     ·rw[show j=k by omega];exact hk2
  ·have hg:=UP c r
   obtain ⟨i,hii⟩:∃ i:Nat,Lib.indexByte r c=(i:Int):=⟨(Lib.indexByte r c).toNat,by omega⟩
   obtain ⟨hir,hsp⟩:=My c r i hii
   have hk:(zJ (Qe c s))[k]?=some [.str (r.take i)]:=by
    rw[hd,hsp];simp[←hdl]
   rw[hii]at hi ⊢
   push_cast -dsimp [hi]
   rw[hk]
   push_cast -dsimp
   refine ⟨by omega,by omega,by push_cast -dsimp [zb,za,CLe,zd],hsf,br (fun hk2=>?_) (fun hk2=>?_)⟩
   ·push_cast -dsimp
    exact .inr ⟨Nat.succ_pos k,hk2⟩
   ·push_cast -dsimp
    refine ⟨by omega,by omega,(r.drop (i+1),k+1),⟨by simp;omega,⟨done++[r.take i],by rw[hd,hsp];simp,by simp[hdl]⟩,fun j (hj:j<k+1)=>?_⟩,by simp;omega,j8.mk [] rfl rfl (Nat.zero_le _) rfl ?_ ?_⟩
    ·rcases Nat.lt_or_ge j k with g | g
     ·exact hsf j g
     ·rw[show j=k by omega];exact hk2
    ·push_cast -dsimp [zb,za,CLe,zd]
    ·push_cast -dsimp [zb,za,CLe,zd]
theorem G3 (c:UInt8) (s:List UInt8):Mc Tryz.prog G0 146 [.str s,.str [c],.sc (.int .i64 0)] [] 0 (.clo (.func 168) [] [.ptr 1 0,.ptr 0 0,.ptr 2 0]) [[.str s],[.str [c]],[.sc (.int .i64 0)]] 0:=by
 refine foB (fun _=>[]) Tryz.func146 ?_;dsimp only[Tryz.f146]
 push_cast -dsimp
 exact ⟨[],rfl,rfl,by push_cast -dsimp [zb,za,CLe,zd],by push_cast -dsimp [zb,za,CLe,zd]⟩
theorem HV (c:UInt8) (s:List UInt8):Mc Tryz.prog G0 102 [.str s,.str [c]] [] 0 (.clo (.func 168) [] [.ptr 1 0,.ptr 0 0,.ptr 2 0]) [[.str s],[.str [c]],[.sc (.int .i64 0)]] 0:=by
 refine foB (fun _=>[]) Tryz.func102 ?_;dsimp only[Tryz.f102]
 push_cast -dsimp
 refine Qz [] [] (G3 c s) rfl (by simp) (by simp) (fun i hi=>by cases hi) (by push_cast -dsimp) rfl ?_
 push_cast -dsimp
 exact ⟨[],rfl,rfl,by push_cast -dsimp [zb,za,CLe,zd],by push_cast -dsimp [zb,za,CLe,zd]⟩
end
section
open CA CB
open Go.RowKit QuotePlain
def YX (l:List UInt8):List UInt8:=Lib.trimRightS l [58,44]
theorem zf2 (l:List UInt8):(YX l).length<=l.length:=by
 unfold YX Lib.trimRightS
 rw[List.length_reverse]
 have:=(List.dropWhile_sublist (([58,44]:List UInt8).contains ·) (l:=l.reverse)).length_le
 rw[List.length_reverse]at this
 exact this
theorem zhb (l:List UInt8) (h0:l≠[]) (hl:l.length<=1000000):Fun Tryz.prog G0 147 [.str l,.str [58,44]] (.str (YX l)) 0:=by
 refine Fun.wrap (by kernel_rfl) fun R vs h=>?_
 obtain ⟨v1,us1,rfl,h1,h⟩:=zf.1 h
 obtain ⟨v2,us2,rfl,h2,h⟩:=zf.1 h
 rw[zj]at h
 subst h
 rw[zQ]at h1 h2
 subst h1 h2
 have hpos:=List.length_pos_iff.2 h0
 refine (Any.strings_TrimRight_set Tryz.lays162 Hh (by kernel_rfl) ⟨l.toArray⟩ ⟨#[58,44]⟩ R.w (by decide) (by simpa [ByteArray.size] using hpos) (by simp[ByteArray.size];omega) (by decide) (fun j b hb=>?_)).mono ?_
 ·match j,hb with
  | 0,hb=>cases hb;decide
  | 1,hb=>cases hb;decide
  | j+2,hb=>simp at hb
 ·rintro e w' ⟨rfl,rfl⟩
  exact ⟨_,rfl,((Below.refl _ _).alloc (Nat.le_refl _) _).alloc (by simp) _,fun R' _=>zQ.2 (by simp[YX])⟩
def QC (w qa qb m:List UInt8):List UInt8:=
 if YX w = [65] then qa++w.drop (YX w).length else if YX w = [66] then qb++w.drop (YX w).length else if YX w = [69] then m++w.drop (YX w).length else w
theorem JL (l:List UInt8):(qc l).length<=4*l.length+2:=by
 have:=QuoteWalk.mid_len l
 simp only[qc,List.length_cons,List.length_append,List.length_nil]
 omega
theorem GO (e:Int):(VV e).length<=100:=by
 have key:∀ (c:Prop) [Decidable c] (x y:List UInt8),x.length<=100->y.length<=100->(if c then x else y).length<=100:=fun c _ x y hx hy=>by
  by_cases h:c
  ·rw[if_pos h];exact hx
  ·rw[if_neg h];exact hy
 unfold VV
 repeat' (first | decide | refine key _ _ _ (by decide) ?_)
theorem Nq (w a b:List UInt8) (e:Int) (ha:a.length<=1000) (hb:b.length<=1000):(QC w (qc a) (qc b) (VV e)).length<=w.length+5000:=by
 have h1:=JL a
 have h2:=JL b
 have h3:=GO e
 unfold QC
 repeat' split
 all_goals (try simp only[List.length_append,List.length_drop]);omega
theorem zh9 (w a b:List UInt8) (e:Int) (h0:w≠[]) (hw:w.length<=1000) (ha:a.length<=1000) (hb:b.length<=1000):Fun Tryz.prog G2 106 [.str w,.str a,.str b,.sc (.int .i64 e)] (.str (QC w (qc a) (qc b) (VV e))) 0:=by
 have h1:=(zhb w h0 (by omega)).glob0 (G':=G2)
 have h2:=(MR a (by omega)).glob0 (G':=G2)
 have h3:=(MR b (by omega)).glob0 (G':=G2)
 have h4:=yj e
 have hl:=zf2 w
 have l1:=JL a
 have l2:=JL b
 have l3:=GO e
 by_cases hA:YX w = [65]
 ·refine fon Tryz.func106 ?_;dsimp only[Tryz.f106]
  push_cast -dsimp
  refine cl (h1) ?_;push_cast -dsimp
  repeat refine an ?_
  push_cast -dsimp [hA]
  refine cl (h2) ?_;push_cast -dsimp
  repeat refine an ?_
  exact ⟨[],rfl,rfl,by push_cast -dsimp [zb,za,CLe,zd]<;>simp[QC,hA]⟩
 ·by_cases hB:YX w = [66]
  ·have hA':¬([66]:List UInt8) = [65]:=by decide
   refine fon Tryz.func106 ?_;dsimp only[Tryz.f106]
   push_cast -dsimp
   refine cl (h1) ?_;push_cast -dsimp
   repeat refine an ?_
   push_cast -dsimp [hB,hA']
   refine cl (h3) ?_;push_cast -dsimp
   repeat refine an ?_
   exact ⟨[],rfl,rfl,by push_cast -dsimp [zb,za,CLe,zd]<;>simp[QC,hB]⟩
  ·by_cases hE:YX w = [69]
   ·have hA':¬([69]:List UInt8) = [65]:=by decide
    have hB':¬([69]:List UInt8) = [66]:=by decide
    refine fon Tryz.func106 ?_;dsimp only[Tryz.f106]
    push_cast -dsimp
    refine cl (h1) ?_;push_cast -dsimp
    repeat refine an ?_
    push_cast -dsimp [hE,hA',hB']
    refine cl (h4) ?_;push_cast -dsimp
    repeat refine an ?_
    exact ⟨[],rfl,rfl,by push_cast -dsimp [zb,za,CLe,zd]<;>simp[QC,hE]⟩
   ·refine fon Tryz.func106 ?_;dsimp only[Tryz.f106]
    push_cast -dsimp
    refine cl (h1) ?_;push_cast -dsimp
    repeat refine an ?_
    push_cast -dsimp [hA,hB,hE]
    exact ⟨[],rfl,rfl,by push_cast -dsimp [zb,za,CLe,zd]<;>simp[QC,hA,hB,hE]⟩
theorem zim (xs:List (List UInt8)) (hx:xs.length<=1000001) (hl:(Lib.join xs [58,32]).length<=100000000):Fun Tryz.prog G0 107 [.sl 1 (zJ xs)] (.str (Lib.join xs [58,32])) 0:=by
 refine fon Tryz.func107 ?_;dsimp only[Tryz.f107]
 push_cast -dsimp
 refine cl (V2 xs [58,32] hx hl) ?_;push_cast -dsimp
 exact dn
end
section
open CA CB
open Go.RowKit QuotePlain
abbrev Atm:=Nat ⊕ UInt8
def zrR (w:List UInt8):List Atm:=
 if YX w = [65] then .inl 0 :: (w.drop (YX w).length).map .inr else if YX w = [66] then .inl 1 :: (w.drop (YX w).length).map .inr else if YX w = [69] then .inl 2 :: (w.drop (YX w).length).map .inr else w.map .inr
def vA (qa qb m:List UInt8):Atm->List UInt8
 | .inl 0=>qa
 | .inl 1=>qb
 | .inl _=>m
 | .inr b=>[b]
def flA (qa qb m:List UInt8):List Atm->List UInt8
 | []=>[]
 | [a]=>vA qa qb m a
 | a :: b :: r=>vA qa qb m a++flA qa qb m (b :: r)
theorem Yl (qa qb m:List UInt8):∀ l:List Atm,flA qa qb m l=l.flatMap (vA qa qb m)
 | []=>rfl
 | [a]=>by simp[flA]
 | a :: b :: r=>by rw[flA,Yl qa qb m (b :: r)];rfl
def Va (k:Int):List Atm:=List.intercalate [.inr 32] ((Qe 32 (qm k)).map zrR)
def zjs (k:Int) (qa qb m:List UInt8):List UInt8:=flA qa qb m (Va k)
theorem zhX (qa qb m l:List UInt8):flA qa qb m (l.map .inr)=l:=by
 rw[Yl]
 induction l with
 | nil=>rfl
 | cons b r ih=>exact congrArg (b :: ·) ih
theorem HZ (qa qb m:List UInt8) (a:Atm) (l:List Atm):flA qa qb m (a :: l)=vA qa qb m a++flA qa qb m l:=by rw[Yl,Yl];rfl
theorem ziJ (w qa qb m:List UInt8):QC w qa qb m=flA qa qb m (zrR w):=by
 have h:=fun l=>zhX qa qb m l
 unfold QC zrR
 split
 ·rw[HZ,h];rfl
 ·split
  ·rw[HZ,h];rfl
  ·split
   ·rw[HZ,h];rfl
   ·rw[h]
theorem zfB (qa qb m:List UInt8) (a b:List Atm):flA qa qb m (a++b)=flA qa qb m a++flA qa qb m b:=by rw[Yl,Yl,Yl];exact List.flatMap_append
theorem uZ (qa qb m:List UInt8):∀ ws:List (List Atm),flA qa qb m (List.intercalate [.inr 32] ws)=List.intercalate [32] (ws.map (flA qa qb m))
 | []=>rfl
 | [w]=>by simp[List.intercalate,List.intersperse]
 | w :: v :: r=>by
  have ih:=uZ qa qb m (v :: r)
  have e1:List.intercalate [(.inr 32:Atm)] (w :: v :: r)=w++([.inr 32]++List.intercalate [.inr 32] (v :: r)):=by simp[List.intercalate,List.intersperse]
  have e2:List.intercalate [(32:UInt8)] ((w :: v :: r).map (flA qa qb m))=flA qa qb m w++([32]++List.intercalate [32] ((v :: r).map (flA qa qb m))):=by simp[List.intercalate,List.intersperse]
  rw[e1,e2,zfB,zfB,ih]
  rfl
theorem HT (k:Int) (qa qb m:List UInt8):Lib.join ((Qe 32 (qm k)).map fun w=>QC w qa qb m) [32]=zjs k qa qb m:=by
 unfold zjs Va
 rw[uZ,List.map_map]
 show List.intercalate [32] _=_
 congr 1
 exact List.map_congr_left fun w _=>ziJ w qa qb m
theorem GK (k:Int) (qa qb m:List UInt8) (h:qm k = []):zjs k qa qb m = []:=by
 unfold zjs Va
 rw[h]
 rfl
theorem Qy (k:Int) (h:¬(1<=k/\k<=22)):qm k = []:=by
 have n1:¬k=1:=by omega
 have n2:¬k=2:=by omega
 have n3:¬k=3:=by omega
 have n4:¬k=4:=by omega
 have n5:¬k=5:=by omega
 have n6:¬k=6:=by omega
 have n7:¬k=7:=by omega
 have n8:¬k=8:=by omega
 have n9:¬k=9:=by omega
 have n10:¬k=10:=by omega
 have n11:¬k=11:=by omega
 have n12:¬k=12:=by omega
 have n13:¬k=13:=by omega
 have n14:¬k=14:=by omega
 have n15:¬k=15:=by omega
 have n16:¬k=16:=by omega
 have n17:¬k=17:=by omega
 have n18:¬k=18:=by omega
 have n19:¬k=19:=by omega
 have n20:¬k=20:=by omega
 have n21:¬k=21:=by omega
 have n22:¬k=22:=by omega
 simp only[qm,n1,n2,n3,n4,n5,n6,n7,n8,n9,n10,n11,n12,n13,n14,n15,n16,n17,n18,n19,n20,n21,n22,if_false]
theorem Vf (k:Int):qm k = []∨((∀ x∈Qe 32 (qm k),x≠[]/\x.length<=100)/\(qm k).length<=100):=by
 by_cases h:1<=k/\k<=22
 ·refine .inr ?_
  have hc:k=1∨k=2∨k=3∨k=4∨k=5∨k=6∨k=7∨k=8∨k=9∨k=10∨k=11∨k=12∨k=13∨k=14∨k=15∨k=16∨k=17∨k=18∨k=19∨k=20∨k=21∨k=22:=by omega
  clear h
  rcases hc with rfl | rfl | rfl | rfl | rfl | rfl | rfl | rfl | rfl | rfl | rfl | rfl | rfl | rfl | rfl | rfl | rfl | rfl | rfl | rfl | rfl | rfl<;>exact ⟨by decide +kernel,by decide +kernel⟩
 ·exact .inl (Qy k h)
theorem Uz (f:List UInt8->List UInt8) (n:Nat):∀ xs:List (List UInt8),(∀ x∈xs,(f x).length<=n)->((xs.map f).map fun x=>x.length+1).sum<=xs.length*(n+1)
 | [],_=>by simp
 | x :: r,h=>by
  have ih:=Uz f n r fun y hy=>h y (List.mem_cons_of_mem _ hy)
  have:=h x List.mem_cons_self
  simp only[List.map_cons,List.sum_cons,List.length_cons,Nat.add_mul]
  omega
theorem Hp (xs:List (List UInt8)) (sep:List UInt8) (n:Nat) (hs:sep.length<=1) (h:(xs.map fun x=>x.length+1).sum<=n):(Lib.join xs sep).length<=n:=by
 have key:∀ xs:List (List UInt8),(Lib.join xs sep).length<=(xs.map fun x=>x.length+1).sum:=by
  intro xs
  match xs with
  | []=>simp[Lib.join]
  | [x]=>simp[Lib.join_one]
  | x :: y :: r =>
   have ih:∀ (zs:List (List UInt8)) (z:List UInt8),(Lib.join (z :: zs) sep).length<=((z :: zs).map fun x=>x.length+1).sum:=by
    intro zs
    induction zs with
    | nil=>intro z;simp[Lib.join_one]
    | cons u t iht =>
     intro z
     rw[Ja]
     have:=iht u
     simp only[List.length_append,List.map_cons,List.sum_cons]at this ⊢
     omega
   exact ih (y :: r) x
 exact Nat.le_trans (key xs) h
def Jy (k w:Int) (a b:List UInt8) (e:Int):List UInt8:=
 if Je k = [] then [] else if qm w = [] then [] else Je k++[58,32]++zjs w (qc a) (qc b) (VV e)
theorem M5 (k:Int):(Je k).length<=10:=by
 have key:∀ (c:Prop) [Decidable c] (x y:List UInt8),x.length<=10->y.length<=10->(if c then x else y).length<=10:=fun c _ x y hx hy=>by
  by_cases h:c
  ·rw[if_pos h];exact hx
  ·rw[if_neg h];exact hy
 unfold Je
 repeat' (first | decide | refine key _ _ _ (by decide) ?_)
theorem zhE (k w:Int) (a b:List UInt8) (e:Int) (ha:a.length<=1000) (hb:b.length<=1000):Fun Tryz.prog G2 59 [.sc (.int .i64 k),.sc (.int .i64 w),.str a,.str b,.sc (.int .i64 e)] (.str (Jy k w a b e)) 0:=by
 have h1:=MW k
 have h2:=zbU w
 have hnl:=M5 k
 by_cases hn:Je k = []
 ·rw[hn]at h1
  refine fon Tryz.func59 ?_;dsimp only[Tryz.f59]
  push_cast -dsimp
  refine cl (h1) ?_;push_cast -dsimp
  refine cl (h2) ?_;push_cast -dsimp
  exact ⟨[],rfl,rfl,by push_cast -dsimp [zb,za,CLe,zd]<;>simp[Jy,hn]⟩
 by_cases hp:qm w = []
 ·rw[hp]at h2
  refine fon Tryz.func59 ?_;dsimp only[Tryz.f59]
  push_cast -dsimp
  refine cl (h1) ?_;push_cast -dsimp
  refine cl (h2) ?_;push_cast -dsimp [hn]
  exact ⟨[],rfl,rfl,by push_cast -dsimp [zb,za,CLe,zd]<;>simp[Jy,hn,hp]⟩
 obtain ⟨hws,hpl⟩:(∀ x∈Qe 32 (qm w),x≠[]/\x.length<=100)/\(qm w).length<=100:=(Vf w).resolve_left hp
 have hpw:=hp
 have hsay:=HT w (qc a) (qc b) (VV e)
 have hsl:=UU 32 (qm w)
 have hsum:=Uz (fun x=>QC x (qc a) (qc b) (VV e)) 5100 (Qe 32 (qm w)) fun x hx=>by
  have:=Nq x a b e ha hb
  have:=(hws x hx).2
  omega
 have hjl:=Hp ((Qe 32 (qm w)).map fun x=>QC x (qc a) (qc b) (VV e)) [32] 600000 (by decide) (by
  have:(Qe 32 (qm w)).length*(5100+1)<=101*5101:=Nat.mul_le_mul_right _ (by omega)
  omega)
 have hit:=Mu 32 (qm w) (by omega)
 generalize qm w=P at h2 hp hws hpl hsay hsl hsum hjl hit
 rw[hsay]at hjl
 refine fof (fun i=>if i=7 then [false,false,false,false,false,false,false,true,true] else []) Tryz.func59 ?_;dsimp only[Tryz.f59]
 push_cast -dsimp
 refine cl (h1) ?_;push_cast -dsimp
 refine cl (h2) ?_;push_cast -dsimp [hn,hp]
 refine Qz [] [] ((HV 32 P).glob0) rfl (by simp) (by simp) (fun i hi=>by cases hi) (by push_cast -dsimp) rfl ?_
 push_cast -dsimp
 refine range (zJ (Qe 32 P)) (fun _=>false) 4 (fun j=>⟨[],[[.str a],[.str b],[.sc (.int .i64 e)],[.own 0 9 1 (zJ (((Qe 32 P).take j).map fun x=>QC x (qc a) (qc b) (VV e)))]],1,0⟩) hit.glob0 (by push_cast -dsimp) (by push_cast -dsimp) (by push_cast -dsimp) (Nat.zero_le _) (by push_cast -dsimp) (fun it h=>?_) (fun j _=>rfl) ?_ (fun j it hj hsf=>?_) (fun hsf=>?_)
 ·obtain ⟨x,_,rfl⟩:=List.mem_map.1 h;rfl
 ·exact wks [.inr (9,1)]
 ·obtain ⟨x,hx,rfl⟩:=XY hj
  have hjl2:j<(Qe 32 P).length:=(List.getElem?_eq_some_iff.1 hx).1
  have hxw:=hws x (List.mem_of_getElem? hx)
  have hs1:=zh9 x a b e hxw.1 (by omega) ha hb
  push_cast -dsimp
  refine cl (hs1) ?_;push_cast -dsimp
  repeat refine an ?_
  refine j8.mk [.inl 0] rfl rfl (Nat.le_refl _) rfl (by push_cast -dsimp [zb,za,CLe,zd]) ?_
  push_cast -dsimp [zb,za,CLe,zd]
  rw[List.take_add_one,hx]
  simp
 ·have htk:(Qe 32 P).take (Qe 32 P).length=Qe 32 P:=List.take_length
  have j1:=((V2 ((Qe 32 P).map fun x=>QC x (qc a) (qc b) (VV e)) [32] (by rw[List.length_map];omega) (by rw[hsay];omega)).res (congrArg C.str hsay)).glob0 (G':=G2)
  have j2:=((zim [Je k,zjs w (qc a) (qc b) (VV e)] (by simp) (by rw[Ja,Lib.join_one];simp only[List.length_append,List.length_cons,List.length_nil];omega)).res (congrArg C.str (show _=Jy k w a b e by rw[Ja,Lib.join_one,Jy,if_neg hn,if_neg hpw]))).glob0 (G':=G2)
  push_cast -dsimp [htk]
  refine cl (j1) ?_;push_cast -dsimp
  refine cl (j2) ?_;push_cast -dsimp
  exact dn
end
section
open CA CB
open Go.RowKit QuotePlain
theorem k22 {P:Int->Prop} (h:∀ n:Fin 22,P (n.val+1)) (k:Int) (hk:1<=k/\k<=22):P k:=by
 have:=h ⟨(k-1).toNat,by omega⟩
 rw[show ((k-1).toNat:Int)+1=k by omega]at this
 exact this
theorem zhV (k:Int) (qa qb m:List UInt8) (h:1<=k/\k<=22):zjs k qa qb m≠[]:=by
 have hA:((Va k).any fun x=>x.isRight)=true:=k22 (P:=fun k=>((Va k).any fun x=>x.isRight)=true) (by decide +kernel) k h
 intro e
 have e:flA qa qb m (Va k) = []:=e
 rw[Yl]at e
 obtain ⟨x,hx,hr⟩:=List.any_eq_true.1 hA
 have:=List.flatMap_eq_nil_iff.1 e x hx
 cases x with
 | inl n=>cases hr
 | inr b=>cases this
theorem zmI (k:Int) (a b:List UInt8) (e:Int) (ha:a.length<=1000) (hb:b.length<=1000):(zjs k (qc a) (qc b) (VV e)).length<=600000:=by
 rw[←HT]
 rcases Vf k with h | ⟨hws,hpl⟩
 ·rw[HT,GK k _ _ _ h];exact Nat.zero_le _
 have hsl:=UU 32 (qm k)
 have hsum:=Uz (fun x=>QC x (qc a) (qc b) (VV e)) 5100 (Qe 32 (qm k)) fun x hx=>by
  have:=Nq x a b e ha hb
  have:=(hws x hx).2
  omega
 exact Hp _ [32] 600000 (by decide) (by
  have:(Qe 32 (qm k)).length*(5100+1)<=101*5101:=Nat.mul_le_mul_right _ (by omega)
  omega)
theorem zjp (k:Int) (qa qb m:List UInt8) (ha:qa.length<=100000) (hb:qb.length<=100000) (hm:m.length<=100000):Fun Tryz.prog G0 129 [.sc (.int .i64 k),.str qa,.str qb,.str m] (.str (zjs k qa qb m)) 0:=by
 by_cases h:1<=k/\k<=22
 ·have hc:k=1∨k=2∨k=3∨k=4∨k=5∨k=6∨k=7∨k=8∨k=9∨k=10∨k=11∨k=12∨k=13∨k=14∨k=15∨k=16∨k=17∨k=18∨k=19∨k=20∨k=21∨k=22:=by omega
  clear h
  rcases hc with rfl | rfl | rfl | rfl | rfl | rfl | rfl | rfl | rfl | rfl | rfl | rfl | rfl | rfl | rfl | rfl | rfl | rfl | rfl | rfl | rfl | rfl
  all_goals
   refine fon Tryz.func129 ?_;dsimp only[Tryz.f129]
   push_cast -dsimp
   repeat refine an ?_
   exact ⟨[],rfl,rfl,by push_cast -dsimp [zb,za,CLe,zd];(try simp only[List.append_assoc]);kernel_rfl⟩
 ·have hn:=GK k qa qb m (Qy k h)
  have n1:¬k=1:=by omega
  have n2:¬k=2:=by omega
  have n3:¬k=3:=by omega
  have n4:¬k=4:=by omega
  have n5:¬k=5:=by omega
  have n6:¬k=6:=by omega
  have n7:¬k=7:=by omega
  have n8:¬k=8:=by omega
  have n9:¬k=9:=by omega
  have n10:¬k=10:=by omega
  have n11:¬k=11:=by omega
  have n12:¬k=12:=by omega
  have n13:¬k=13:=by omega
  have n14:¬k=14:=by omega
  have n15:¬k=15:=by omega
  have n16:¬k=16:=by omega
  have n17:¬k=17:=by omega
  have n18:¬k=18:=by omega
  have n19:¬k=19:=by omega
  have n20:¬k=20:=by omega
  have n21:¬k=21:=by omega
  have n22:¬k=22:=by omega
  refine fon Tryz.func129 ?_;dsimp only[Tryz.f129]
  push_cast -dsimp [n1,n2,n3,n4,n5,n6,n7,n8,n9,n10,n11,n12,n13,n14,n15,n16,n17,n18,n19,n20,n21,n22]
  exact ⟨[],rfl,rfl,by push_cast -dsimp [zb,za,CLe,zd]<;>simp[hn]⟩
theorem zef (k w:Int) (a b:List UInt8) (e:Int) (ha:a.length<=1000) (hb:b.length<=1000):Fun Tryz.prog G0 76 [.sc (.int .i64 k),.sc (.int .i64 w),.str a,.str b,.sc (.int .i64 e)] (.str (Jy k w a b e)) 0:=by
 have l1:=JL a
 have l2:=JL b
 have l3:=GO e
 have l4:=zmI w a b e ha hb
 have l5:=M5 k
 have h1:=UM k
 have h2:=JM a (by omega)
 have h3:=JM b (by omega)
 have h4:=M9 e
 have h5:=zjp w (qc a) (qc b) (VV e) (by omega) (by omega) (by omega)
 by_cases hw:1<=w/\w<=22
 ·have hp:qm w≠[]:=k22 (P:=fun k=>qm k≠[]) (by decide +kernel) w hw
  have hs:=zhV w (qc a) (qc b) (VV e) hw
  by_cases hn:Je k = []
  ·rw[hn]at h1
   refine fon Tryz.func76 ?_;dsimp only[Tryz.f76]
   push_cast -dsimp
   refine cl (h1) ?_;push_cast -dsimp
   refine cl (h2) ?_;push_cast -dsimp
   refine cl (h3) ?_;push_cast -dsimp
   refine cl (h4) ?_;push_cast -dsimp
   refine cl (h5) ?_;push_cast -dsimp
   exact ⟨[],rfl,rfl,by push_cast -dsimp [zb,za,CLe,zd]<;>simp[Jy,hn]⟩
  ·refine fon Tryz.func76 ?_;dsimp only[Tryz.f76]
   push_cast -dsimp
   refine cl (h1) ?_;push_cast -dsimp
   refine cl (h2) ?_;push_cast -dsimp
   refine cl (h3) ?_;push_cast -dsimp
   refine cl (h4) ?_;push_cast -dsimp
   refine cl (h5) ?_;push_cast -dsimp [hn,hs]
   repeat refine an ?_
   exact ⟨[],rfl,rfl,by push_cast -dsimp [zb,za,CLe,zd]<;>simp[Jy,hn,hp]⟩
 ·have hp:=Qy w hw
  have hs:=GK w (qc a) (qc b) (VV e) hp
  rw[hs]at h5
  by_cases hn:Je k = []
  ·rw[hn]at h1
   refine fon Tryz.func76 ?_;dsimp only[Tryz.f76]
   push_cast -dsimp
   refine cl (h1) ?_;push_cast -dsimp
   refine cl (h2) ?_;push_cast -dsimp
   refine cl (h3) ?_;push_cast -dsimp
   refine cl (h4) ?_;push_cast -dsimp
   refine cl (h5) ?_;push_cast -dsimp
   exact ⟨[],rfl,rfl,by push_cast -dsimp [zb,za,CLe,zd]<;>simp[Jy,hn]⟩
  ·refine fon Tryz.func76 ?_;dsimp only[Tryz.f76]
   push_cast -dsimp
   refine cl (h1) ?_;push_cast -dsimp
   refine cl (h2) ?_;push_cast -dsimp
   refine cl (h3) ?_;push_cast -dsimp
   refine cl (h4) ?_;push_cast -dsimp
   refine cl (h5) ?_;push_cast -dsimp [hn]
   exact ⟨[],rfl,rfl,by push_cast -dsimp [zb,za,CLe,zd]<;>simp[Jy,hn,hp]⟩
end
section
open CA CB
open Go.RowKit
def GD:zo:=fun g=>if g=4 then G1 g else G2 g
theorem zsy (g:Nat) (cs:List C) (h:G1 g=some cs):GD g=some cs:=by
 unfold GD
 by_cases hg:g=4
 ·rw[if_pos hg];exact h
 ·unfold G1 at h
  rw[if_neg hg]at h
  cases h
theorem zsZ (g:Nat) (cs:List C) (h:G2 g=some cs):GD g=some cs:=by
 unfold GD
 by_cases hg:g=4
 ·subst hg
  have q:G2 4=none:=rfl
  rw[q]at h;cases h
 ·rw[if_neg hg];exact h
theorem Fun.gd1 {f:FuncId} {args:List C} {r:C} {n:Nat} (h:Fun Tryz.prog G1 f args r n):Fun Tryz.prog GD f args r n:=h.glob zsy
theorem Fun.gd2 {f:FuncId} {args:List C} {r:C} {n:Nat} (h:Fun Tryz.prog G2 f args r n):Fun Tryz.prog GD f args r n:=h.glob zsZ
abbrev zsc (d:zH) (ops diags:C):C:=.agg [.sc (.int .i64 d.w.fs.maxI),.sc (.int .i64 d.w.fs.maxB),.sc (.int .i64 d.w.fs.next),.sl 6 (zq d.w.fs.xs),.sl 4 (zF d.w.kept),.sl 6 (zq d.w.pool),ops,diags,.sc (.int .i64 d.status),.sc (.int .i64 d.slot)]
structure zky (d:zH):Prop where
 wi:yW d.w
 ws:zpu d.w
 ops:d.ops.length<=80000
 diags:d.diags.length<=80000
 slot:0<=d.slot/\d.slot<=4000000000000000000
theorem zn3 (o:OpV):opL o = [.sc (.int .i64 o.kind),.sc (.int .i64 o.slot),.str o.a,.str o.b,.str o.d]:=rfl
abbrev zfe:List C:=[.any,.any,.any,.any,.any]
abbrev HF:List C:=[.any,.any,.any,.any,.any,.any,.any,.any,.any,.any]
def Jj (d:zH) (x:List UInt8):zH:={ d with diags:=d.diags++[x],status:=1 }
theorem zmS (d:zH) (hd:d.diags.length<=80000) (k w:Int) (a b:List UInt8) (e:Int) (ha:a.length<=1000) (hb:b.length<=1000) :
  Xh Tryz.prog GD 29 [kF d,.sc (.int .i64 k),.sc (.int .i64 w),.str a,.str b,.sc (.int .i64 e)] [] 0 (fun r bx n=>n=0/\∃ c B,zpp 1 c (zJ (Jj d (Jy k w a b e)).diags) B/\r=zsc (Jj d (Jy k w a b e)) (.sl 5 (d.ops.map opL)) (.bs 2 0 1 (d.diags.length+1) c)/\bx = [HF,HF,B]):=by
 have ht:=(zhE k w a b e ha hb).gd2
 generalize Jy k w a b e=x at ht ⊢
 have hsl:(zJ d.diags).length=d.diags.length:=List.length_map ..
 have hc:=NM (G:=GD) (zJ d.diags) [[.str x]] (fun r hr=>by obtain ⟨x,_,rfl⟩:=List.mem_map.1 hr;rfl) (fun r hr=>by rw[List.mem_singleton.1 hr];rfl) (fun r hr=>by obtain ⟨x,_,rfl⟩:=List.mem_map.1 hr;rfl) (fun r hr=>by rw[List.mem_singleton.1 hr];rfl) (by omega) (by simp) (by simp)
 refine foX (fun i=>if i=1 then [false,false,false,false,false,false,false,false,false,false,false,true,false,false,true] else []) Tryz.func29 ?_;dsimp only[Tryz.f29]
 push_cast -dsimp
 refine cl (ht) ?_;push_cast -dsimp
 refine jY [] [] hc rfl (by decide) (by decide) (by simp) (by push_cast -dsimp) (by push_cast -dsimp) (fun r bx' m hp=>?_)
 obtain ⟨rfl,c,B,hB,rfl,rfl⟩:=hp
 have hre:∀ fp fo,C.reL fp fo B=B:=fun fp fo=>zC hB.stay
 push_cast -dsimp [hre]
 have hm:zJ (Jj d x).diags=zJ d.diags++[[.str x]]:=List.map_append
 exact ⟨_,[HF,HF,B],0,⟨⟨rfl,c,B,by rw[hm];exact hB,rfl,rfl⟩,Nat.zero_le _⟩,[],rfl,rfl,by (push_cast -dsimp [zb,za,CLe,zd];exact zR hB.stay),by push_cast -dsimp [zb,za,CLe,zd,Jj,List.length_append,hsl]⟩
theorem zdC (d:zH) (hd:d.diags.length<=80000) (k w:Int) (a b:List UInt8) (e:Int) (ha:a.length<=1000) (hb:b.length<=1000) :
  Fun Tryz.prog GD 29 [kF d,.sc (.int .i64 k),.sc (.int .i64 w),.str a,.str b,.sc (.int .i64 e)] (zsc (Jj d (Jy k w a b e)) (.sl 5 (d.ops.map opL)) (.own 0 9 1 (zJ (Jj d (Jy k w a b e)).diags))) 1:=
 (zmS d hd k w a b e ha hb).fun (by
  rintro r bx m ⟨rfl,c,B,hB,rfl,rfl⟩
  exact ⟨[(2,9,1,zJ (Jj d (Jy k w a b e)).diags,c)],[.inl 0],hB.ok rfl (by simp[Jj]) (fun r hr=>by obtain ⟨x,_,rfl⟩:=List.mem_map.1 hr;rfl),rfl,rfl,by push_cast -dsimp [zb,za,CLe,zd,List.length_map,List.length_append,Jj]⟩)
end
section
open CA CB
open Go.RowKit
end
section
open Go.RowKit
theorem zeY (a b:List OpV) (ha:a.length<=100000):Fun Tryz.prog G0 20 [.sl 5 (zgN a),.sl 5 (zgN b)] (qu (JZ a b)) 0:=by
 by_cases hl:a.length=b.length
 ·refine fon Tryz.func20 ?_;dsimp only[Tryz.f20]
  push_cast -dsimp [hl]
  refine loop (fun k:Nat=>⟨[(0,.sl 5 (zgN a)),(1,.sl 5 (zgN b)),(5,.sc (.int .i64 k))],[],0,0⟩) (fun k=>k<=a.length/\∀ (j:Nat) (h:j<a.length) (h':j<b.length),j<k->zmb (a[j]'h) (b[j]'h')=true) (fun k=>a.length-k) 0 ⟨Nat.zero_le _,fun j _ _ hj=>by omega⟩ ?_ ?_
  ·exact wk (by push_cast -dsimp [zb,za,CLe,zd,hl])
  ·intro k hk
   have hk1:=hk.1
   have hk2:=hk.2
   by_cases h:k<a.length
   ·have hga:=zen a k h
    have hgb:=zen b k (by omega)
    have heq:zmb (a[k]'h) (b[k]'(by omega))=zmb (a[k]'h) (b[k]'(by omega)):=rfl
    simp only[opL]at hga hgb
    conv at heq=>lhs;unfold zmb
    cases he:zmb (a[k]'h) (b[k]'(by omega)) with
    | true =>
     rw[he]at heq
     push_cast -dsimp [h,hga,hgb,heq]
     repeat refine an ?_
     refine ⟨k+1,⟨by omega,fun j hj hj' hjk=>?_⟩,by omega,wk⟩
     rcases Nat.lt_or_ge j k with g | g
     ·exact hk2 j hj hj' g
     ·have:j=k:=by omega
      subst this;exact he
    | false =>
     rw[he]at heq
     push_cast -dsimp [h,hga,hgb,heq]
     repeat refine an ?_
     refine ⟨[],rfl,rfl,?_⟩
     push_cast -dsimp [zb,za,CLe,zd]
     have:¬JZ a b=true:=fun e=>by
      have:=((Xf a b).1 e).2 k h (by omega)
      rw[he]at this;cases this
     simp[this]
   ·push_cast -dsimp [h]
    refine ⟨[],rfl,rfl,?_⟩
    push_cast -dsimp [zb,za,CLe,zd]
    have:JZ a b=true:=(Xf a b).2 ⟨hl,fun j hj hj'=>hk2 j hj hj' (by omega)⟩
    simp[this]
 ·refine fon Tryz.func20 ?_;dsimp only[Tryz.f20]
  push_cast -dsimp [hl]
  refine ⟨[],rfl,rfl,?_⟩
  push_cast -dsimp [zb,za,CLe,zd]
  have:¬JZ a b=true:=fun e=>hl ((Xf a b).1 e).1
  simp[this]
end
section
open CA CB
open Go.RowKit
theorem xe (w:qR) (hk:w.kept.length<=100000) (hs:XT w.kept):Fun Tryz.prog G0 10 [Vu w] (kF (kl w)) 0:=by
 have h:=U5 (G:=G0) w hk hs.1 hs.2
 refine fof (fun i=>if i=1 then [false,false,false,false,true] else []) Tryz.func10 ?_;dsimp only[Tryz.f10]
 push_cast -dsimp
 refine cl (h) ?_;push_cast -dsimp
 exact dn (by push_cast -dsimp [zb,za,CLe,zd,kl])
end
section
open Go.RowKit
structure ztb where
 path:List UInt8
 ino:Int
deriving DecidableEq,Inhabited
def QU (p n:List UInt8):List UInt8:=if p = [47] then p++n else p++[47]++n
theorem zcF (p n:List UInt8):(QU p n).length<=p.length+1+n.length:=by
 unfold QU
 split<;>simp<;>omega
section
variable {G:zo}
end
end
section
open CA CB
open Go.RowKit
abbrev Jp:=List (List (List UInt8)×zn)
structure zab (f:FsV) (tr:Int->List (List UInt8)->Jp):Prop where
 has:∀ n ns,zt n f.xs=true->tr n ns=(ns,ze n f.xs) :: (ze n f.xs).es.flatMap fun e=>tr e.ino (ns++[e.name])
 not:∀ n ns,zt n f.xs=false->tr n ns = []
abbrev Uk (p:List (List UInt8)×zn):List C:=[.str (zY p.1),.agg (JG p.2)]
def zaX (tr:Int->List (List UInt8)->Jp) (ns:List (List UInt8)) (es:List z8):Jp:=es.flatMap fun e=>tr e.ino (ns++[e.name])
def Xy (tr:Int->List (List UInt8)->Jp) (S:List (List (List UInt8)×List z8)):Jp:=S.flatMap fun p=>zaX tr p.1 p.2
abbrev lvC (p:List (List UInt8)×List z8):List C:=[.sl 1 (zJ p.1),.sl 2 (z6 p.2)]
def kJ (S:List (List (List UInt8)×List z8)):List C:=(S.reverse.map lvC).flatten
theorem zlm (S:List (List (List UInt8)×List z8)):(kJ S).length=S.length*2:=by
 unfold kJ
 rw[zN (k:=2) fun r hr=>by obtain ⟨p,_,rfl⟩:=List.mem_map.1 hr;rfl]
 simp
theorem ub (p:List (List UInt8)×List z8) (S:List (List (List UInt8)×List z8)):kJ (p :: S)=kJ S++lvC p:=by
 unfold kJ;simp
def ZS (p:List (List UInt8)×zn):Prop:=p.1.length<=1000000/\(Lib.join p.1 [47]).length<=1000000
structure Yx (f:FsV) (tr:Int->List (List UInt8)->Jp) (IT:List (List C)) (sf:Nat->Bool) (S:List (List (List UInt8)×List z8)) (k cap:Nat):Prop where
 rest:IT.drop k=(Xy tr S).map Uk
 bound:∀ p∈Xy tr S,ZS p
 le:k<=IT.length
 go:∀ j,j<k->sf j=false
 pos:S.length<=k
 room:S.length<=cap
 roomM:cap<=9223372036854775807
 has:∀ p∈S,p.2.length<=40/\∀ e∈p.2,zt e.ino f.xs=true
theorem Zg (S:List (List (List UInt8)×List z8)):((kJ S).all C.stayB)=true:=YO fun r hr=>by
 obtain ⟨p,_,rfl⟩:=List.mem_map.1 hr;rfl
theorem Yx.pop {f:FsV} {tr:Int->List (List UInt8)->Jp} {IT:List (List C)} {sf:Nat->Bool} {S:List (List (List UInt8)×List z8)} {ns:List (List UInt8)} {k cap:Nat} (h:Yx f tr IT sf ((ns,[]) :: S) k cap):Yx f tr IT sf S k cap:=by
 have e:Xy tr ((ns,[]) :: S)=Xy tr S:=by simp[Xy,zaX]
 exact ⟨by rw[←e];exact h.rest,fun p hp=>h.bound p (by rw[e];exact hp),h.le,h.go,by have:=h.pos;rw[List.length_cons]at this;omega,by have:=h.room;rw[List.length_cons]at this;omega,h.roomM,fun p hp=>h.has p (List.mem_cons_of_mem _ hp)⟩
theorem Yx.next {f:FsV} {tr:Int->List (List UInt8)->Jp} {IT:List (List C)} {sf:Nat->Bool} {S:List (List (List UInt8)×List z8)} {ns:List (List UInt8)} {e:z8} {r:List z8} {k cap:Nat} (h:Yx f tr IT sf ((ns,e :: r) :: S) k cap) (ht:zab f tr) (hf:Vz f.xs) (h3:Yj f) :
  ∃ y,y=ze e.ino f.xs/\y∈f.xs/\IT[k]?=some (Uk (ns++[e.name],y))/\ZS (ns++[e.name],y)/\(sf k=false->(∀ c,S.length+2<=c->c<=9223372036854775807->Yx f tr IT sf ((ns++[e.name],y.es) :: (ns,r) :: S) (k+1) c)/\(y.es = []->Yx f tr IT sf ((ns,r) :: S) (k+1) cap)):=by
 have hh:zt e.ino f.xs=true:=(h.has (ns,e :: r) List.mem_cons_self).2 e List.mem_cons_self
 obtain ⟨hm,hi⟩:=qV hh
 have hu:=ht.has e.ino (ns++[e.name]) hh
 have hrest:Xy tr ((ns,e :: r) :: S)=(ns++[e.name],ze e.ino f.xs) :: Xy tr ((ns++[e.name],(ze e.ino f.xs).es) :: (ns,r) :: S):=by
  simp only[Xy,zaX,List.flatMap_cons,hu,List.cons_append,List.append_assoc]
 refine ⟨_,rfl,hm,?_,h.bound _ (by rw[hrest];exact List.mem_cons_self),fun hs=>?_⟩
 ·have:=h.rest
  rw[hrest]at this
  have:=congrArg (·[0]?) this
  simpa using this
 ·have hd:IT.drop (k+1)=(Xy tr ((ns++[e.name],(ze e.ino f.xs).es) :: (ns,r) :: S)).map Uk:=by
   rw[←List.drop_drop,h.rest,hrest];rfl
  have hb:∀ p∈Xy tr ((ns++[e.name],(ze e.ino f.xs).es) :: (ns,r) :: S),ZS p:=fun p hp=>h.bound p (by rw[hrest];exact List.mem_cons_of_mem _ hp)
  have hkl:k+1<=IT.length:=by
   rcases Nat.lt_or_ge k IT.length with g | g
   ·exact g
   ·have:=h.rest
    rw[List.drop_eq_nil_of_le g,hrest]at this;cases this
  have hgo:∀ j,j<k+1->sf j=false:=fun j hj=>by
   rcases Nat.lt_or_ge j k with g | g
   ·exact h.go j g
   ·rw[show j=k by omega];exact hs
  have hp:=h.pos
  have hro:=h.room
  have hrm:=h.roomM
  rw[List.length_cons]at hp hro
  have h0:=h.has (ns,e :: r) List.mem_cons_self
  have hr0:r.length<=40/\∀ e'∈r,zt e'.ino f.xs=true:=⟨by have:=h0.1;simp at this;omega,fun e' he=>h0.2 e' (List.mem_cons_of_mem _ he)⟩
  refine ⟨fun c h1 h2=>⟨hd,hb,hkl,hgo,by simp;omega,by simp;omega,h2,fun p hp=>?_⟩,fun hne=>?_⟩
  ·rcases List.mem_cons.1 hp with rfl | hp
   ·exact ⟨(hf.2 _ hm).2.1,fun e' he=>h3 _ hm e' he⟩
   ·rcases List.mem_cons.1 hp with rfl | hp
    ·exact hr0
    ·exact h.has p (List.mem_cons_of_mem _ hp)
  ·have hz:Xy tr ((ns++[e.name],(ze e.ino f.xs).es) :: (ns,r) :: S)=Xy tr ((ns,r) :: S):=by rw[hne];simp[Xy,zaX]
   rw[hz]at hd hb
   exact ⟨hd,hb,hkl,hgo,by simp;omega,by simp;omega,hrm,fun p hp=>by
    rcases List.mem_cons.1 hp with rfl | hp
    ·exact hr0
    ·exact h.has p (List.mem_cons_of_mem _ hp)⟩
theorem zch (f:FsV) (ino:Int) (ns:List (List UInt8)) (tr:Int->List (List UInt8)->Jp) (ht:zab f tr) (hf:Vz f.xs) (hR:qh f.xs) (h3:Yj f) (h2:∀ x∈f.xs,x.kind≠2->x.es = []) (hl:(tr ino ns).length<=1000000) (hb:∀ p∈tr ino ns,ZS p) :
  xz Tryz.prog G0 202 [] [.row (fsC f),.row [.sc (.int .i64 ino)],.row [.sl 1 (zJ ns)]] [] ((tr ino ns).map Uk):=by
 have h40:=hf.1
 refine foI (fun i=>if i=1000000+246 then [true] else if i=1 then [false,false,false,false,false,false,false,true] else if i=10 then [false,false,false,false,true] else []) Tryz.func202 ?_;dsimp only[Tryz.f202]
 intro l sf
 push_cast -dsimp
 refine cl (jG f ino (by omega) hR) ?_;push_cast -dsimp
 cases hh:zt ino f.xs with
 | false =>
  have hn:=ht.not ino ns hh
  push_cast -dsimp
  rw[hn]
  exact .inl ⟨rfl,fun j hj=>absurd hj (Nat.not_lt_zero _)⟩
 | true =>
  have hn:=ht.has ino ns hh
  have q:ZS (ns,ze ino f.xs):=hb _ (by rw[hn];exact List.mem_cons_self)
  have h0:((tr ino ns).map Uk)[0]?=some (Uk (ns,ze ino f.xs)):=by rw[hn];rfl
  obtain ⟨hm,hino⟩:=qV hh
  generalize ze ino f.xs=x at hn h0 hm hino
  have hITl:((tr ino ns).map Uk).length<=1000000:=by rw[List.length_map];exact hl
  generalize hIT:(tr ino ns).map Uk=IT at h0 hITl
  push_cast -dsimp
  refine cl (XM ns (by have:=q.1;dsimp only at this;omega) (by have:=q.2;dsimp only at this;omega)) ?_;push_cast -dsimp [h0]
  refine ⟨by push_cast -dsimp [zb,za,CLe,zd],fun j hj=>absurd hj (Nat.not_lt_zero _),br (fun hs=>?_) (fun hs=>?_)⟩
  ·push_cast -dsimp
   exact .inr ⟨Nat.succ_pos _,hs⟩
  ·push_cast -dsimp
   refine loop (fun p:List (List (List UInt8)×List z8)×Nat×Nat=>⟨[(0,.sc (.func (.yield l) #[] #[])),(1,.row (fsC f)),(7,.bs 1 0 2 p.1.length p.2.2)],[[.any,.any,.any,.any,.any,.any],kJ p.1++List.replicate ((p.2.2-p.1.length)*2) .any],0,p.2.1⟩) (fun p=>Yx f tr IT sf p.1 p.2.1 p.2.2) (fun p=>2*(IT.length-p.2.1)+p.1.length) ([(ns,x.es)],1,1) ?_ ?_ ?_
   ·have hdr:IT.drop 1=(Xy tr [(ns,x.es)]).map Uk:=by
     rw[←hIT,hn]
     simp[Xy,zaX]
    show Yx f tr IT sf [(ns,x.es)] 1 1
    exact ⟨hdr,fun p hp=>hb p (by rw[hn];exact List.mem_cons_of_mem _ (by simpa [Xy,zaX] using hp)),by have:=(List.getElem?_eq_some_iff.1 h0).1;omega,fun j hj=>by rw[show j=0 by omega];exact hs,Nat.le_refl _,Nat.le_refl _,by omega,fun p hp=>by
     rw[List.mem_singleton]at hp;subst hp
     exact ⟨(hf.2 x hm).2.1,fun e he=>h3 x hm e he⟩⟩
   ·have hl1:kJ [(ns,x.es)] = [.sl 1 (zJ ns),.sl 2 (z6 x.es)]:=rfl
    exact wk (h5:=by push_cast -dsimp [zb,za,CLe,zd,hl1])
   ·rintro ⟨S,k,cap⟩ hS
    dsimp only at hS ⊢
    cases S with
    | nil =>
     push_cast -dsimp
     have hr:=hS.rest
     have he:IT.length<=k:=by
      rcases Nat.lt_or_ge k IT.length with g | g
      ·have:=congrArg List.length hr
       simp[Xy]at this;omega
      ·exact g
     exact .inl ⟨by have:=hS.le;omega,hS.go⟩
    | cons p S' =>
     obtain ⟨ns1,es1⟩:=p
     have hL:=zlm S'
     have hd0:∀ X,(kJ S'++X).drop (S'.length*2)=X:=fun X=>List.drop_left' hL
     have hd1:∀ X,(kJ S'++X).drop (S'.length*2+1)=X.drop 1:=fun X=>by rw[←List.drop_drop,hd0]
     have hd2:∀ X,(kJ S'++X).drop (S'.length*2+2)=X.drop 2:=fun X=>by rw[←List.drop_drop,hd0]
     have ht0:∀ X,(kJ S'++X).take (S'.length*2)=kJ S':=fun X=>List.take_left' hL
     have ht1:∀ X,(kJ S'++X).take (S'.length*2+1)=kJ S'++X.take 1:=fun X=>by
      rw[List.take_append,List.take_of_length_le (by omega),hL];congr 2;omega
     have hpos:((0:Int)<(S'.length:Int)+1)=True:=eq_true (by omega)
     have hroom:=hS.room
     have hroomM:=hS.roomM
     rw[List.length_cons]at hroom
     have hlc:(((S'.length:Int)+1-1)=(S'.length:Int)):=by omega
     push_cast -dsimp [ub,hlc,hpos]
     repeat refine an ?_
     generalize hpad:List.replicate ((cap-(S'.length+1))*2) C.any=pad
     have hps:(pad.all C.stayB)=true:=by rw[←hpad];simp[List.all_replicate,C.stayB]
     have hst1:((kJ S'++(lvC (ns1,es1)++pad)).all C.stayB)=true:=by rw[List.all_append,Zg,List.all_append,hps];rfl
     have hpl:pad.length=(cap-(S'.length+1))*2:=by rw[←hpad];simp
     refine loop (fun p:List z8×Nat=>⟨[(0,.sc (.func (.yield l) #[] #[])),(1,.row (fsC f)),(7,.bs 1 0 2 (S'.length+1) cap),(8,.ptr 1 (S'.length*2))],[[.any,.any,.any,.any,.any,.any],kJ S'++([.sl 1 (zJ ns1),.sl 2 (z6 p.1)]++pad)],0,p.2⟩) (fun p=>Yx f tr IT sf ((ns1,p.1) :: S') p.2 cap/\2*(IT.length-p.2)<=2*(IT.length-k)) (fun p=>p.1.length) (es1,k) ⟨hS,Nat.le_refl _⟩ ?_ ?_
     ·exact j8.mk [] rfl rfl (Nat.zero_le _) rfl (by push_cast -dsimp [zb,za,CLe,zd]) (by push_cast -dsimp [zb,za,CLe,zd,List.append_assoc];exact zR hst1)
     ·rintro ⟨es,k1⟩ ⟨hT,hkk⟩
      dsimp only at hT hkk ⊢
      cases es with
      | nil =>
       push_cast -dsimp [hd0,hd1,hd2,ht0,ht1,hlc]
       refine ⟨by omega,by omega,⟨by omega,by omega⟩,(S',k1,cap),hT.pop,by dsimp only;omega,j8.mk [] rfl rfl (Nat.zero_le _) rfl (by push_cast -dsimp [zb,za,CLe,zd]) ?_⟩
       push_cast -dsimp [zb,za,CLe,zd]
       exact zfq (zR (Zg S')) (Qx (by simp[hpl];omega))
      | cons e r =>
       obtain ⟨y,hy,hym,hk1,hbd,hnext⟩:=hT.next ht hf h3
       have hrl:((0:Int)<(r.length:Int)+1)=True:=eq_true (by omega)
       have hlr:(z6 r).length=r.length:=List.length_map ..
       have hhe:zt e.ino f.xs=true:=(hT.has (ns1,e :: r) List.mem_cons_self).2 e List.mem_cons_self
       have hgy:ze e.ino f.xs=y:=hy.symm
       have hb1:ns1.length+1<=1000000:=by have:=hbd.1;simpa using this
       have hb2:(Lib.join (ns1++[e.name]) [47]).length<=1000000:=hbd.2
       have hst2:(zJ ns1).length=ns1.length:=List.length_map ..
       push_cast -dsimp [hd0,hd1,hd2,ht0,ht1,hlc,hlr,hrl,hst2,List.append_assoc,List.take_length]
       repeat refine an ?_
       refine cl (jG f e.ino (by omega) hR) ?_;push_cast -dsimp [hgy,hhe]
       refine cl (XM (ns1++[e.name]) (by simp;omega) (by omega)) ?_;push_cast -dsimp [hk1]
       refine ⟨by push_cast -dsimp [zb,za,CLe,zd],hT.go,br (fun hs1=>?_) (fun hs1=>?_)⟩
       ·push_cast -dsimp
        exact .inr ⟨Nat.succ_pos _,hs1⟩
       ·obtain ⟨w1,w2⟩:=hnext hs1
        by_cases k2:y.kind=2
        ·have hSk:=hT.pos
         have hkl:=hT.le
         rw[List.length_cons]at hSk
         have hc1:(kJ S'++C.sl 1 (zJ ns1) :: C.sl 2 (List.map zj5 r) :: pad).length=cap*2:=by
          rw[List.length_append,hL,List.length_cons,List.length_cons,hpl];omega
         have hc2:(kJ S'++C.sl 1 (zJ ns1) :: C.sl 2 (List.map zj5 r) :: pad).take ((S'.length+1)*2)=kJ S'++[C.sl 1 (zJ ns1),C.sl 2 (List.map zj5 r)]:=by
          rw[List.take_append,List.take_of_length_le (by omega),hL,show (S'.length+1)*2-S'.length*2=2 by omega];rfl
         push_cast -dsimp [k2]
         refine zq3 (kJ S'++[C.sl 1 (zJ ns1),C.sl 2 (List.map zj5 r)]++[C.sl 1 (zJ (ns1++[e.name])),C.sl 2 (z6 y.es)]) rfl rfl (by decide) rfl (by decide) (Nat.zero_le _) hc1 hroom hroomM (by omega) (by omega) (by rw[hc2];exact zC (by rw[List.all_append,List.all_append,Zg];rfl)) (fun c' g1 g2=>?_)
         have hw:=w1 c' (by omega) g2
         have hwl:=hw.le
         push_cast -dsimp [k2]
         refine ⟨((ns1++[e.name],y.es) :: (ns1,r) :: S',k1+1,c'),hw,by simp only[List.length_cons];omega,j8.mk [] rfl rfl (Nat.zero_le _) rfl (by push_cast -dsimp [zb,za,CLe,zd]) ?_⟩
         push_cast -dsimp [zb,za,CLe,zd,ub,List.append_assoc]
         exact zR (by rw[List.all_append,Zg];simp[List.all_replicate,C.stayB])
        ·push_cast -dsimp [k2]
         have hz:=w2 (h2 y hym k2)
         have hle:=hz.le
         refine ⟨(r,k1+1),⟨hz,by dsimp only;omega⟩,by dsimp only;simp,j8.mk [] rfl rfl (Nat.zero_le _) rfl (by push_cast -dsimp [zb,za,CLe,zd]) ?_⟩
         push_cast -dsimp [zb,za,CLe,zd,List.append_assoc]
         exact zR (by rw[List.all_append,Zg,List.all_cons,List.all_cons,hps];rfl)
end
section
open CA CB
open Go.RowKit
structure zfE (f:FsV) (tr:Int->List (List UInt8)->Jp):Prop where
 tree:zab f tr
 few:Vz f.xs
 rise:qh f.xs
 third:Yj f
 leaf:∀ x∈f.xs,x.kind≠2->x.es = []
structure vz (tr:Int->List (List UInt8)->Jp) (ino:Int) (ns:List (List UInt8)):Prop where
 len:(tr ino ns).length<=1000000
 bound:∀ p∈tr ino ns,ZS p
abbrev zgg (l:Jp):List (List C):=l.map Uk
theorem zh4 {l:Jp} {k:Nat} {it:List C} (h:(zgg l)[k]?=some it):∃ p,l[k]?=some p/\it=Uk p:=by
 rw[List.getElem?_map]at h
 cases hq:l[k]? with
 | none=>rw[hq]at h;cases h
 | some x=>rw[hq]at h;cases h;exact ⟨x,rfl,rfl⟩
theorem zmM {f:FsV} {tr:Int->List (List UInt8)->Jp} {ino:Int} {ns:List (List UInt8)} (hw:zfE f tr) (hs:vz tr ino ns):xz Tryz.prog G0 202 [] [.row (fsC f),.row [.sc (.int .i64 ino)],.row [.sl 1 (zJ ns)]] [] (zgg (tr ino ns)):=
 zch f ino ns tr hw.tree hw.few hw.rise hw.third hw.leaf hs.len hs.bound
theorem zg0 (f:FsV) (ino:Int) (ns:List (List UInt8)):Fun Tryz.prog G0 162 [.agg (fsC f),.sc (.int .i64 ino),.sl 1 (zJ ns)] (.clo (.func 202) [] [.row (fsC f),.row [.sc (.int .i64 ino)],.row [.sl 1 (zJ ns)]]) 0:=by
 refine fon Tryz.func162 ?_;dsimp only[Tryz.f162]
 push_cast -dsimp
 exact dn
theorem zkK (f:FsV):Fun Tryz.prog G0 124 [.agg (fsC f)] (.clo (.func 202) [] [.row (fsC f),.row [.sc (.int .i64 1)],.row [.sl 1 (zJ [])]]) 0:=by
 refine fon Tryz.func124 ?_;dsimp only[Tryz.f124]
 push_cast -dsimp
 refine call (Fun.less (zg0 f 1 []) (by push_cast -dsimp [zb,za,CLe,zd])) ?_
 push_cast -dsimp
 exact dn
def Qn (n:Int) (l:Jp):List (List UInt8):=(l.filter fun p=>decide (p.2.ino=n)).map fun p=>zY p.1
def Uj (n:Int) (l:Jp):Option (List UInt8):=(l.find? fun p=>decide (p.2.ino=n)&&decide (p.2.kind=2)).map fun p=>zY p.1
theorem ym (f:FsV) (n:Int) (tr:Int->List (List UInt8)->Jp) (hw:zfE f tr) (hs:vz tr 1 []) :
  Fun Tryz.prog G0 68 [.agg (fsC f),.sc (.int .i64 n)] (.tup [.str ((Uj n (tr 1 [])).getD []),.sc (.bool (Uj n (tr 1 [])).isSome)]) 0:=by
 refine fon Tryz.func68 ?_;dsimp only[Tryz.f68]
 push_cast -dsimp
 refine cl (zkK f) ?_;push_cast -dsimp
 have hl:=hs.len
 have hit:=zmM hw hs
 generalize tr 1 []=l at hit hl
 refine range (zgg l) (fun k=>match l[k]? with | some p=>decide (p.2.ino=n)&&decide (p.2.kind=2) | none=>false) 4 (fun k=>⟨[],[[.any,.any,.any,.any],[.sc (.int .i64 n)],[.any],[.any]],0,0⟩) hit (by push_cast -dsimp) (by push_cast -dsimp) (by push_cast -dsimp) (Nat.zero_le _) (by push_cast -dsimp) (fun it h=>?_) (fun k _=>rfl) ?_ (fun k it hk hsf=>?_) (fun hsf=>?_)
 ·obtain ⟨x,_,rfl⟩:=List.mem_map.1 h;rfl
 ·exact wk
 ·obtain ⟨x,hx2,rfl⟩:=zh4 hk
  have hfirst:(decide (x.2.ino=n)&&decide (x.2.kind=2))=true->Uj n l=some (zY x.1):=fun hb=>by
   obtain ⟨hkl,hxe⟩:=List.getElem?_eq_some_iff.1 hx2
   unfold Uj
   rw[List.find?_eq_some_iff_getElem (b:=x) |>.2 ⟨hb,k,hkl,hxe,fun j hj=>?_⟩]
   ·rfl
   ·have:=hsf j hj
    rw[List.getElem?_eq_getElem (by omega)]at this
    simp only[this];rfl
  by_cases c1:x.2.ino=n
  ·by_cases c2:x.2.kind=2
   ·have hd:=hfirst (by simp[c1,c2])
    push_cast -dsimp [c1,c2]
    refine ⟨by rw[hx2];simp[c1,c2],⟨[],[[.any,.any,.any,.any],[.sc (.int .i64 n)],[.str (zY x.1)],[.sc (.bool true)]],0,0⟩,rfl,wk,?_⟩
    push_cast -dsimp [hd]
    exact dn (by push_cast -dsimp [zb,za,CLe,zd,hd,Option.getD_some,Option.isSome_some])
   ·push_cast -dsimp [c1,c2]
    refine ⟨by rw[hx2];simp[c2],wk⟩
  ·push_cast -dsimp [c1]
   refine ⟨by rw[hx2];simp[c1],wk⟩
 ·have hnone:Uj n l=none:=by
   unfold Uj
   rw[Option.map_eq_none_iff,List.find?_eq_none]
   intro x hx
   obtain ⟨k,hk,rfl⟩:=List.getElem_of_mem hx
   have:=hsf k (by simpa using hk)
   rw[List.getElem?_eq_getElem hk]at this
   simpa only[Bool.not_eq_true] using this
  push_cast -dsimp [hnone]
  exact dn (by push_cast -dsimp [zb,za,CLe,zd,Option.getD_none,Option.isSome_none])
end
section
inductive Dep (xs:List zn):Nat->Int->Prop
 | root:Dep xs 0 1
 | step {k:Nat} {n:Int} {e:z8}:Dep xs k n->zt n xs=true->e∈(ze n xs).es->Dep xs (k+1) e.ino
theorem qA {f:FsV} (h:okV f):Vz f.xs/\j5 f/\Yu f/\Yj f/\Yp f/\Qh f/\kA f:=by
 obtain ⟨h0,h⟩:=h
 unfold Ji at h
 refine ⟨h0,?_⟩
 split at h
 ·split at h
  ·split at h
   ·split at h
    ·split at h
     ·split at h
      ·exact ⟨by assumption,by assumption,by assumption,by assumption,by assumption,by assumption⟩
      ·cases h
     ·cases h
    ·cases h
   ·cases h
  ·cases h
 ·cases h
theorem Gr {es:List z8}:∀ {S:List Int} {n:Int},n∈kj S es↔n∈S∨∃ e∈es,e.ino=n:=by
 induction es with
 | nil=>intro S n;simp[kj]
 | cons e r ih =>
  intro S n
  show n∈kj (Ym S e.ino) r↔_
  rw[ih,Hy]
  constructor
  ·rintro ((h | h) | ⟨e',he,h⟩)
   ·exact .inl h
   ·exact .inr ⟨e,List.mem_cons_self,h.symm⟩
   ·exact .inr ⟨e',List.mem_cons_of_mem _ he,h⟩
  ·rintro (h | ⟨e',he,h⟩)
   ·exact .inl (.inl h)
   ·rcases List.mem_cons.1 he with rfl | he
    ·exact .inl (.inr h.symm)
    ·exact .inr ⟨e',he,h⟩
theorem Mp {xs:List zn} {es:List z8}:∀ {S:List Int},J9 xs S->(∀ e∈es,zt e.ino xs=true)->J9 xs (kj S es):=by
 induction es with
 | nil=>intro S h _;exact h
 | cons e r ih=>intro S h he;exact ih (h.one (he e List.mem_cons_self)) fun e' h'=>he e' (List.mem_cons_of_mem _ h')
theorem GW {xs:List zn} (h3:∀ x∈xs,∀ e∈x.es,zt e.ino xs=true):∀ (m i:Nat) (S:List Int),J9 xs S->(∀ n∈S,∃ k,Dep xs k n)->J9 xs (QE xs m i S)/\∀ n∈QE xs m i S,∃ k,Dep xs k n
 | 0,i,S,h,hd=>by unfold QE;exact ⟨h,hd⟩
 | m+1,i,S,h,hd=>by
  unfold QE
  split
  ·rename_i n hn
   have hmem:=List.mem_of_getElem? hn
   have hh:=h.has n hmem
   obtain ⟨hm,_⟩:=qV hh
   obtain ⟨k,hk⟩:=hd n hmem
   refine GW h3 m (i+1) _ (Mp h fun e he=>h3 _ hm e he) fun n' hn'=>?_
   rcases Gr.1 hn' with h' | ⟨e,he,rfl⟩
   ·exact hd n' h'
   ·exact ⟨k+1,.step hk hh he⟩
  ·exact ⟨h,hd⟩
theorem ze1 {S T:List Int} (hS:S.Nodup) (hs:∀ n∈S,n∈T) (hl:T.length<=S.length):∀ n∈T,n∈S:=by
 intro n hn
 by_cases h:n∈S
 ·exact h
 ·exfalso
  have:=V4 (S:=n :: S) (T:=T) (List.nodup_cons.2 ⟨h,hS⟩) fun m hm=>by
   rcases List.mem_cons.1 hm with rfl | hm
   ·exact hn
   ·exact hs m hm
  rw[List.length_cons]at this;omega
theorem HM {f:FsV} (h:okV f) {n:Int} (hn:zt n f.xs=true):∃ k,Dep f.xs k n:=by
 obtain ⟨_,h1,_,h3,_,h5,_⟩:=qA h
 have hroot:J9 f.xs [1]:=⟨by simp,fun n hn=>by simp at hn;subst hn;exact h1.2.2.2.2.2.2.2.1⟩
 obtain ⟨g1,g2⟩:=GW h3 (f.xs.length+1) 0 [1] hroot fun n hn=>by simp at hn;subst hn;exact ⟨0,.root⟩
 have hS:=ze1 (T:=f.xs.map (·.ino)) g1.nodup (fun m hm=>Gi.1 (g1.has m hm)) (by rw[List.length_map];exact Nat.le_of_eq h5.symm) n (Gi.1 hn)
 exact g2 n hS
theorem Zt {xs:List zn} {n:Int} {e:z8} (hh:zt n xs=true) (he:e∈(ze n xs).es):(e.ino,n)∈qg xs:=by
 obtain ⟨hm,hi⟩:=qV hh
 unfold qg
 exact List.mem_flatMap.2 ⟨_,hm,List.mem_map.2 ⟨e,he,by rw[hi]⟩⟩
theorem zmR {n p:Int} {l:List (Int×Int)} (h:(n,p)∈l):1<=QJ n l:=by
 unfold QJ
 exact List.length_pos_iff.2 (List.ne_nil_of_mem (List.mem_filter.2 ⟨h,by simp⟩))
theorem ya {n p q:Int} {l:List (Int×Int)} (hp:(n,p)∈l) (hq:(n,q)∈l) (h:QJ n l=1):p=q:=by
 unfold QJ at h
 obtain ⟨x,hx⟩:=List.length_eq_one_iff.1 h
 have h1:(n,p)∈l.filter fun p=>p.1==n:=List.mem_filter.2 ⟨hp,by simp⟩
 have h2:(n,q)∈l.filter fun p=>p.1==n:=List.mem_filter.2 ⟨hq,by simp⟩
 rw[hx]at h1 h2
 simp only[List.mem_singleton]at h1 h2
 exact congrArg Prod.snd (h1.trans h2.symm)
theorem Uc {f:FsV} (h:okV f) {n:Int} (hh:zt n f.xs=true) {e:z8} (he:e∈(ze n f.xs).es):(ze n f.xs).kind=2:=by
 obtain ⟨_,_,h2,_⟩:=qA h
 obtain ⟨hm,_⟩:=qV hh
 by_cases hk:(ze n f.xs).kind=2
 ·exact hk
 ·have:=((h2 _ hm).2.1 hk).1
  rw[this]at he;cases he
theorem jJ {f:FsV} (h:okV f) {n:Int} (hh:zt n f.xs=true) {e:z8} (he:e∈(ze n f.xs).es):e.ino≠1:=fun h1=>by
 obtain ⟨_,hf,_,_,h4,_⟩:=qA h
 obtain ⟨hm,hi⟩:=qV hf.2.2.2.2.2.2.2.1
 have hq:=(h4 _ hm).2
 rw[if_pos hi,hi]at hq
 have:=zmR (Zt hh he)
 rw[h1]at this;omega
theorem ZI {f:FsV} (h:okV f):∀ (k k':Nat) (n:Int),Dep f.xs k n->Dep f.xs k' n->zt n f.xs=true->(ze n f.xs).kind=2->k=k'
 | 0,0,_,_,_,_,_=>rfl
 | 0,k'+1,_,h1,h2,hh,hk=>by
  cases h1
  generalize hn:(1:Int)=n at h2
  cases h2 with
  | step a b c=>exact absurd hn.symm (jJ h b c)
 | k+1,0,_,h1,h2,hh,hk=>by
  cases h2
  generalize hn:(1:Int)=n at h1
  cases h1 with
  | step a b c=>exact absurd hn.symm (jJ h b c)
 | k+1,k'+1,n,h1,h2,hh,hk=>by
  obtain ⟨_,hf,_,_,h4,_⟩:=qA h
  cases h1 with
  | @step _ p e a b c =>
   generalize hn:e.ino=n at h2 hh hk
   cases h2 with
   | @step _ p' e' a' b' c' =>
    have hp:=Zt b c
    have hp':=Zt b' c'
    rw[hn]at hp
    obtain ⟨hm,hi⟩:=qV hh
    have hq:=(h4 _ hm).2
    rw[hi]at hq
    have hne:e'.ino≠1:=jJ h b' c'
    rw[if_neg hne]at hq
    have:=ya hp hp' (hq.2 hk).1
    subst this
    rw[ZI h k k' p a a' b (Uc h b c)]
end
section
theorem Xw (n:Int):∀ xs:List zn,QJ n (qg xs)=VK n xs
 | []=>rfl
 | x :: r=>by
  have ih:=Xw n r
  unfold VK J1 at ih ⊢
  unfold qg at ih ⊢
  rw[List.flatMap_cons,List.map_cons,List.sum_cons,←ih]
  unfold QJ HA
  rw[List.filter_append,List.length_append]
  congr 1
  induction x.es with
  | nil=>rfl
  | cons e es ie =>
   unfold ZV at ie ⊢
   rw[List.map_cons,List.filter_cons,List.filter_cons]
   by_cases h:e.ino=n
   ·simp only[h,beq_self_eq_true,if_true,decide_true,List.length_cons,ie]
   ·simp only[show (e.ino==n)=false from beq_eq_false_iff_ne.2 h,decide_eq_false h,Bool.false_eq_true,if_false,ie]
theorem Vr {f:FsV} (h:Ji f=0):j5 f/\Yu f/\Yj f/\Yp f/\Qh f/\kA f:=by
 unfold Ji at h
 split at h
 ·split at h
  ·split at h
   ·split at h
    ·split at h
     ·split at h
      ·exact ⟨by assumption,by assumption,by assumption,by assumption,by assumption,by assumption⟩
      ·cases h
     ·cases h
    ·cases h
   ·cases h
  ·cases h
 ·cases h
theorem xj {es:List z8} (h:YJ es):XC es:=by
 have hadj:∀ i (h1:i+1<es.length),Op.bytesLess es[i].name es[i+1].name=true:=fun i h1=>(h (i+1) h1).2.2 (by omega)
 have key:∀ (d i:Nat) (h1:i+d+1<es.length),Op.bytesLess (es[i]'(by omega)).name es[i+d+1].name=true:=by
  intro d
  induction d with
  | zero=>intro i h1;exact hadj i h1
  | succ d ih=>intro i h1;exact GI (ih i (by omega)) (hadj (i+d+1) (by omega))
 refine List.pairwise_iff_getElem.2 fun i j hi hj hij=>?_
 have:=key (j-i-1) i (by omega)
 have e:i+(j-i-1)+1=j:=by omega
 simp only[e]at this
 exact this
theorem XH {f:FsV} (h:Ji f=0):FsI f:=by
 obtain ⟨h1,h2,h3,h4,h5,h6⟩:=Vr h
 obtain ⟨a1,a2,a3,a4,a5,a6,a7,a8,a9⟩:=h1
 refine ⟨a7,a6,fun x hx=>(h2 x hx).1,fun x hx=>?_,fun x hx hk=>((h2 x hx).2.1 hk).1,h3,fun x hx=>?_,a8,a9,?_⟩
 ·by_cases hk:x.kind=2
  ·exact xj ((h2 x hx).2.2.1 hk).2
  ·rw[((h2 x hx).2.1 hk).1];exact List.Pairwise.nil
 ·rw[(h4 x hx).1,Xw]
 ·obtain ⟨b1,b2⟩:=qV a8
  have q:=(h4 _ b1).2
  rw[b2,if_pos rfl,Xw]at q
  exact q.1
theorem zqb {w:qR} (h:okW w):yW w:=by
 obtain ⟨h1,h2,h3,h4,h5⟩:=h.2
 exact ⟨XH h1,h4.1,h2,fun x hx=>⟨(h3 x hx).1,(h3 x hx).2.2.1⟩⟩
theorem zga {w:qR} (h:okW w):zr6 40 w:=by
 obtain ⟨⟨g1,g2,g3,g4⟩,h1,_⟩:=h
 obtain ⟨a1,a2,a3,a4,a5,_⟩:=(Vr h1).1
 exact ⟨g2.1,fun x hx=>by obtain ⟨q1,q2,q3⟩:=g2.2 x hx;exact ⟨q2,q1,q3⟩,g4,g1,g3.1,fun x hx=>by obtain ⟨q1,q2,q3⟩:=g3.2 x hx;exact ⟨q2,q1,q3⟩,by omega,by omega⟩
structure OpS (o:OpV):Prop where
 a:o.a.length<=1000
 b:o.b.length<=1000
 d:o.d.length<=5000
structure zsa (N:Nat) (d:zH):Prop where
 wi:yW d.w
 wb:zr6 (40+N) d.w
 ops:d.ops.length<=N
 diags:d.diags.length<=N
 slot:0<=d.slot/\d.slot<=1073741824+N
theorem NB {d:zH} {o:OpV} (h:(QG d o).2≠0):(QG d o).1=d:=by
 unfold QG at h ⊢
 split
 ·rfl
 ·split
  ·rfl
  ·rename_i h1 h2;rw[if_neg h1,if_neg h2]at h;exact absurd rfl h
end
section
theorem MF {f:FsV} (h:okV f):∀ (k:Nat) (n:Int),Dep f.xs k n->zt n f.xs=true->(ze n f.xs).kind=2->∃ L:List Int,L.length=k+1/\L.Nodup/\(∀ m∈L,zt m f.xs=true)/\∀ m∈L,(ze m f.xs).kind=2/\∃ j,j<=k/\Dep f.xs j m
 | 0,n,hd,hh,hk=>⟨[n],rfl,by simp,fun m hm=>by simp at hm;subst hm;exact hh,fun m hm=>by simp at hm;subst hm;exact ⟨hk,0,Nat.le_refl _,hd⟩⟩
 | k+1,_,hd,hh,hk=>by
  generalize hn:k+1=k1 at hd
  cases hd with
  | root=>cases hn
  | @step k0 p e a b c =>
   obtain rfl:k=k0:=by omega
   obtain ⟨L,l1,l2,l3,l4⟩:=MF h k p a b (Uc h b c)
   refine ⟨e.ino :: L,by simp[l1],List.nodup_cons.2 ⟨fun hm=>?_,l2⟩,fun m hm=>?_,fun m hm=>?_⟩
   ·obtain ⟨_,j,hj,hd⟩:=l4 _ hm
    have:=ZI h _ _ _ hd (.step a b c) hh hk
    omega
   ·rcases List.mem_cons.1 hm with rfl | hm
    ·exact hh
    ·exact l3 m hm
   ·rcases List.mem_cons.1 hm with rfl | hm
    ·exact ⟨hk,k+1,Nat.le_refl _,.step a b c⟩
    ·obtain ⟨q1,j,q2,q3⟩:=l4 m hm
     exact ⟨q1,j,by omega,q3⟩
theorem um {f:FsV} (h:okV f) {k:Nat} {n:Int} (hd:Dep f.xs k n) (hh:zt n f.xs=true) (hk:(ze n f.xs).kind=2):k<f.xs.length:=by
 obtain ⟨L,l1,l2,l3,_⟩:=MF h k n hd hh hk
 have:=Zv l2 l3
 omega
def qM (xs:List zn):Nat->Int->List (List UInt8)->Jp
 | 0,_,_=>[]
 | m+1,n,ns=>if zt n xs then (ns,ze n xs) :: (ze n xs).es.flatMap (fun e=>qM xs m e.ino (ns++[e.name])) else []
theorem Qk {α β:Type} {l:List α} {g g':α->List β} (h:∀ a∈l,g a=g' a):l.flatMap g=l.flatMap g':=by
 induction l with
 | nil=>rfl
 | cons a r ih=>rw[List.flatMap_cons,List.flatMap_cons,h a List.mem_cons_self,ih fun b hb=>h b (List.mem_cons_of_mem _ hb)]
theorem MO {f:FsV} (h:okV f):∀ (m m' k:Nat) (n:Int) (ns:List (List UInt8)),Dep f.xs k n->k<=f.xs.length->f.xs.length+1<=m+k->f.xs.length+1<=m'+k->qM f.xs m n ns=qM f.xs m' n ns
 | 0,m',k,n,ns,hd,hk,h1,h2=>by omega
 | m+1,0,k,n,ns,hd,hk,h1,h2=>by omega
 | m+1,m'+1,k,n,ns,hd,hk,h1,h2=>by
  unfold qM
  split
  ·rename_i hh
   congr 1
   refine Qk fun e he=>?_
   have hdir:=Uc h hh he
   have hlt:=um h hd hh hdir
   exact MO h m m' (k+1) e.ino _ (.step hd hh he) (by omega) (by omega) (by omega)
  ·rfl
abbrev trV (xs:List zn):Int->List (List UInt8)->Jp:=qM xs (xs.length+1)
theorem zj7 {f:FsV} (h:okV f) {n:Int} (hh:zt n f.xs=true):∃ k,k<=f.xs.length/\Dep f.xs k n:=by
 obtain ⟨k,hd⟩:=HM h hh
 refine ⟨k,?_,hd⟩
 cases hd with
 | root=>exact Nat.zero_le _
 | step a b c=>exact um h a b (Uc h b c)
theorem zln {f:FsV} (h:okV f):zab f (trV f.xs):=⟨fun n ns hh=>by
 obtain ⟨k,hk,hd⟩:=zj7 h hh
 show qM f.xs (f.xs.length+1) n ns=_
 rw[qM,if_pos hh]
 congr 1
 refine Qk fun e he=>?_
 have hlt:=um h hd hh (Uc h hh he)
 exact MO h _ _ (k+1) e.ino _ (.step hd hh he) (by omega) (by omega) (by omega),fun n ns hh=>by
 show qM f.xs (f.xs.length+1) n ns=_
 rw[qM,if_neg (by rw[hh];decide)]⟩
theorem zlG {f:FsV} (h:okV f):zfE f (trV f.xs):=by
 obtain ⟨p0,p1,p2,p3,_⟩:=qA h
 exact ⟨zln h,p0,p1.2.2.2.2.2.2.1,p3,fun x hx hk=>((p2 x hx).2.1 hk).1⟩
end
section
theorem Z5 (ns:List (List UInt8)) (x:List UInt8) (hne:∀ y∈ns,y≠[]):zY (ns++[x])=QU (zY ns) x:=by
 have hj:=U9 (ns++[x]) ns.length x (by simp)
 rw[List.take_of_length_le (by simp),List.take_left' rfl]at hj
 unfold zY
 rw[if_neg (by simp),hj]
 by_cases h:ns = []
 ·subst h;rfl
 ·have hl:ns.length≠0:=fun h0=>h (List.eq_nil_of_length_eq_zero h0)
  rw[if_neg hl,if_neg h]
  have hne47:(47 :: Lib.join ns [47])≠[47]:=fun he=>by
   have h1:Lib.join ns [47] = []:=(List.cons.inj he).2
   have h2:=YU ns h
   rw[h1]at h2
   cases ns with
   | nil=>exact h rfl
   | cons y r =>
    have:=List.length_pos_iff.2 (hne y List.mem_cons_self)
    simp at h2;omega
  unfold QU
  rw[if_neg hne47]
  simp
end
section
inductive Anc (xs:List zn) (n:Int):Nat->Int->Prop
 | same:Anc xs n 0 n
 | step {j:Nat} {p:Int} {e:z8}:Anc xs n j p->zt p xs=true->e∈(ze p xs).es->Anc xs n (j+1) e.ino
theorem Anc.dep {xs:List zn} {n:Int} {k:Nat} (hd:Dep xs k n):∀ {j:Nat} {d:Int},Anc xs n j d->Dep xs (k+j) d
 | _,_,.same=>hd
 | _,_,.step a b c=>.step (a.dep hd) b c
theorem Anc.up {xs:List zn} {n:Int} {e:z8} (hh:zt n xs=true) (he:e∈(ze n xs).es):∀ {j:Nat} {d:Int},Anc xs e.ino j d->Anc xs n (j+1) d
 | _,_,.same=>.step .same hh he
 | _,_,.step a b c=>.step (a.up hh he) b c
theorem YT {xs:List zn}:∀ (m:Nat) (n:Int) (ns:List (List UInt8)),∀ p∈qM xs m n ns,∃ j,Anc xs n j p.2.ino/\zt p.2.ino xs=true/\ze p.2.ino xs=p.2
 | 0,n,ns,p,hp=>by cases hp
 | m+1,n,ns,p,hp=>by
  unfold qM at hp
  split at hp
  ·rename_i hh
   obtain ⟨_,hi⟩:=qV hh
   rcases List.mem_cons.1 hp with rfl | hp
   ·exact ⟨0,by rw[hi];exact .same,by rw[hi];exact hh,by rw[hi]⟩
   ·obtain ⟨e,he,hp⟩:=List.mem_flatMap.1 hp
    obtain ⟨j,q1,q2⟩:=YT m _ _ p hp
    exact ⟨j+1,q1.up hh he,q2⟩
  ·cases hp
theorem uE {f:FsV} (h:okV f) {a b:Int}:∀ (j:Nat) (d:Int),Anc f.xs a j d->Anc f.xs b j d->zt d f.xs=true->(ze d f.xs).kind=2->a=b/\zt a f.xs=true/\(ze a f.xs).kind=2
 | 0,d,h1,h2,hh,hk=>by
  cases h1;cases h2
  exact ⟨rfl,hh,hk⟩
 | j+1,d,h1,h2,hh,hk=>by
  obtain ⟨_,_,_,_,h4,_⟩:=qA h
  cases h1 with
  | @step _ p e x y z =>
   generalize hn:e.ino=d at h2 hh hk
   cases h2 with
   | @step _ p' e' x' y' z' =>
    have hp:=Zt y z
    have hp':=Zt y' z'
    rw[hn]at hp
    obtain ⟨hm,hi⟩:=qV hh
    have hq:=(h4 _ hm).2
    rw[hi,if_neg (jJ h y' z')]at hq
    have:=ya hp hp' (hq.2 hk).1
    subst this
    exact uE h j p x x' y (Uc h y z)
theorem zkL {xs:List zn} {n:Int} {e e':z8} (hh:zt n xs=true) (hs:[e,e'].Sublist (ze n xs).es) (hi:e.ino=e'.ino):2<=QJ e.ino (qg xs):=by
 obtain ⟨hm,hino⟩:=qV hh
 have h1:([e,e'].map fun e=>(e.ino,(ze n xs).ino)).Sublist (ZV (ze n xs) (ze n xs).es):=hs.map _
 obtain ⟨i,hi',hx⟩:=List.getElem_of_mem hm
 have h2:(ZV (ze n xs) (ze n xs).es).Sublist (qg xs):=by
  obtain ⟨s,t,hst⟩:=List.append_of_mem hm
  unfold qg
  conv=>rhs;rw[hst]
  rw[List.flatMap_append,List.flatMap_cons]
  exact (List.sublist_append_left _ _).trans (List.sublist_append_right _ _)
 have h3:=((h1.trans h2).filter fun p=>p.1==e.ino).length_le
 unfold QJ
 simpa [hi] using h3
abbrev Yt (l:Jp):List Int:=(l.filter fun p=>decide (p.2.kind=2)).map fun p=>p.2.ino
theorem V3 {l:Jp} {d:Int} (h:d∈Yt l):∃ p∈l,p.2.kind=2/\p.2.ino=d:=by
 obtain ⟨p,hp,rfl⟩:=List.mem_map.1 h
 obtain ⟨h1,h2⟩:=List.mem_filter.1 hp
 exact ⟨p,h1,of_decide_eq_true h2,rfl⟩
theorem YI {f:FsV} (h:okV f):∀ (m:Nat) (n:Int) (ns:List (List UInt8)),zt n f.xs=true->(Yt (qM f.xs m n ns)).Nodup
 | 0,n,ns,_=>List.nodup_nil
 | m+1,n,ns,hh=>by
  obtain ⟨k,hd⟩:=HM h hh
  obtain ⟨_,_,_,h3,h4,_⟩:=qA h
  obtain ⟨hm,hi⟩:=qV hh
  have key:∀ L:List z8,L.Sublist (ze n f.xs).es->(Yt (L.flatMap fun e=>qM f.xs m e.ino (ns++[e.name]))).Nodup:=by
   intro L
   induction L with
   | nil=>intro _;exact List.nodup_nil
   | cons e r ih =>
    intro hs
    have he:e∈(ze n f.xs).es:=hs.subset List.mem_cons_self
    have hr:r.Sublist (ze n f.xs).es:=(List.sublist_cons_self e r).trans hs
    have hap:Yt ((e :: r).flatMap fun e=>qM f.xs m e.ino (ns++[e.name]))=Yt (qM f.xs m e.ino (ns++[e.name]))++Yt (r.flatMap fun e=>qM f.xs m e.ino (ns++[e.name])):=by
     rw[List.flatMap_cons];unfold Yt;rw[List.filter_append,List.map_append]
    rw[hap,List.nodup_append]
    refine ⟨YI h m e.ino _ (h3 _ hm e he),ih hr,fun d hd1 d' hd2 hdd=>?_⟩
    subst hdd
    obtain ⟨p,p1,p2,rfl⟩:=V3 hd1
    obtain ⟨p',p1',p2',p3'⟩:=V3 hd2
    obtain ⟨e',he',p1'⟩:=List.mem_flatMap.1 p1'
    obtain ⟨j,a1,a2,a3⟩:=YT m _ _ p p1
    obtain ⟨j',b1,b2,b3⟩:=YT m _ _ p' p1'
    rw[p3']at b1
    have hk:(ze p.2.ino f.xs).kind=2:=by rw[a3];exact p2
    have hdep:=ZI h _ _ _ (a1.dep (.step hd hh he)) (b1.dep (.step hd hh (hr.subset he'))) a2 hk
    obtain rfl:j=j':=by omega
    obtain ⟨q1,q2,q3⟩:=uE h j _ a1 b1 a2 hk
    have hs2:[e,e'].Sublist (ze n f.xs).es:=(List.Sublist.cons_cons e (List.singleton_sublist.2 he')).trans hs
    have h2:=zkL hh hs2 q1
    obtain ⟨hm2,hi2⟩:=qV q2
    have hq:=(h4 _ hm2).2
    rw[hi2,if_neg (jJ h hh he)]at hq
    have:=(hq.2 q3).1
    omega
  unfold qM
  rw[if_pos hh]
  by_cases hk:(ze n f.xs).kind=2
  ·have hc:Yt ((ns,ze n f.xs) :: (ze n f.xs).es.flatMap fun e=>qM f.xs m e.ino (ns++[e.name]))=n :: Yt ((ze n f.xs).es.flatMap fun e=>qM f.xs m e.ino (ns++[e.name])):=by
    unfold Yt
    rw[List.filter_cons_of_pos (by simpa using hk),List.map_cons,hi]
   rw[hc,List.nodup_cons]
   refine ⟨fun hmem=>?_,key _ (List.Sublist.refl _)⟩
   obtain ⟨p,p1,p2,p3⟩:=V3 hmem
   obtain ⟨e,he,p1⟩:=List.mem_flatMap.1 p1
   obtain ⟨j,a1,a2,a3⟩:=YT m _ _ p p1
   rw[p3]at a1
   have:=ZI h _ _ _ (a1.dep (.step hd hh he)) hd hh hk
   omega
  ·have hc:Yt ((ns,ze n f.xs) :: (ze n f.xs).es.flatMap fun e=>qM f.xs m e.ino (ns++[e.name]))=Yt ((ze n f.xs).es.flatMap fun e=>qM f.xs m e.ino (ns++[e.name])):=by
    unfold Yt
    rw[List.filter_cons_of_neg (by simpa using hk)]
   rw[hc]
   exact key _ (List.Sublist.refl _)
end
section
def UH (l:Jp):Nat:=(l.map fun p=>p.2.es.length).sum
theorem zf8 (a b:Jp):UH (a++b)=UH a+UH b:=by unfold UH;rw[List.map_append,List.sum_append]
theorem uJ {xs:List zn}:∀ (m:Nat) (n:Int) (ns:List (List UInt8)),(qM xs m n ns).length<=1+UH (qM xs m n ns)
 | 0,n,ns=>Nat.zero_le _
 | m+1,n,ns=>by
  unfold qM
  split
  ·have key:∀ L:List z8,(L.flatMap fun e=>qM xs m e.ino (ns++[e.name])).length<=L.length+UH (L.flatMap fun e=>qM xs m e.ino (ns++[e.name])):=by
    intro L
    induction L with
    | nil=>exact Nat.le_refl _
    | cons e r ih =>
     rw[List.flatMap_cons,List.length_append,zf8,List.length_cons]
     have:=uJ (xs:=xs) m e.ino (ns++[e.name])
     omega
   have:=key (ze n xs).es
   have hs:∀ l:Jp,UH ((ns,ze n xs) :: l)=(ze n xs).es.length+UH l:=fun l=>by unfold UH;rw[List.map_cons,List.sum_cons]
   rw[List.length_cons,hs]
   omega
  ·exact Nat.zero_le _
theorem zjM {l:Jp} (h:∀ p∈l,p.2.es.length<=40/\(p.2.kind≠2->p.2.es = [])):UH l<=40*(Yt l).length:=by
 induction l with
 | nil=>exact Nat.zero_le _
 | cons p r ih =>
  have hp:=h p List.mem_cons_self
  have ih:=ih fun q hq=>h q (List.mem_cons_of_mem _ hq)
  unfold UH at ih ⊢
  rw[List.map_cons,List.sum_cons]
  unfold Yt at ih ⊢
  by_cases hk:p.2.kind=2
  ·rw[List.filter_cons_of_pos (by simpa using hk),List.map_cons,List.length_cons];omega
  ·rw[List.filter_cons_of_neg (by simpa using hk),hp.2 hk]
   simpa using ih
theorem zjJ {f:FsV} (h:okV f) (m:Nat) (n:Int) (ns:List (List UInt8)):(qM f.xs m n ns).length<=1601:=by
 obtain ⟨h0,_,h2,_⟩:=qA h
 cases hh:zt n f.xs with
 | false =>
  cases m with
  | zero=>exact Nat.zero_le _
  | succ m=>unfold qM;rw[hh];exact Nat.zero_le _
 | true =>
  have h1:=uJ (xs:=f.xs) m n ns
  have hg:∀ p∈qM f.xs m n ns,p.2∈f.xs:=fun p hp=>by
   obtain ⟨j,_,q2,q3⟩:=YT m n ns p hp
   rw[←q3];exact (qV q2).1
  have hs:=zjM (l:=qM f.xs m n ns) fun p hp=>⟨(h0.2 _ (hg p hp)).2.1,fun hk=>((h2 _ (hg p hp)).2.1 hk).1⟩
  have hd:=Zv (YI h m n ns hh) fun d hd=>by
   obtain ⟨p,p1,_,rfl⟩:=V3 hd
   obtain ⟨_,_,q2,_⟩:=YT m n ns p p1
   exact q2
  have:=h0.1
  omega
def xB (ns:List (List UInt8)):Nat:=(ns.map fun x=>x.length+1).sum
theorem MD (ns:List (List UInt8)) (x:List UInt8):xB (ns++[x])=xB ns+(x.length+1):=by
 unfold xB;rw[List.map_append,List.sum_append];simp
theorem ZK {xs:List zn} (h0:Vz xs):∀ (m:Nat) (n:Int) (ns:List (List UInt8)),∀ p∈qM xs m n ns,p.1.length<=ns.length+m/\xB p.1<=xB ns+m*301
 | 0,n,ns,p,hp=>by cases hp
 | m+1,n,ns,p,hp=>by
  unfold qM at hp
  split at hp
  ·rename_i hh
   obtain ⟨hm,_⟩:=qV hh
   rcases List.mem_cons.1 hp with rfl | hp
   ·exact ⟨Nat.le_add_right _ _,Nat.le_add_right _ _⟩
   ·obtain ⟨e,he,hp⟩:=List.mem_flatMap.1 hp
    obtain ⟨q1,q2⟩:=ZK h0 m _ _ p hp
    have:=(h0.2 _ hm).2.2 e he
    rw[MD]at q2
    rw[List.length_append,List.length_singleton]at q1
    exact ⟨by omega,by omega⟩
  ·cases hp
theorem XL (ns:List (List UInt8)):(Lib.join ns [47]).length<=xB ns:=by
 by_cases h:ns = []
 ·subst h;exact Nat.zero_le _
 ·have:=YU ns h
  unfold xB;omega
theorem zhC {f:FsV} (h:okV f) (n:Int) (ns:List (List UInt8)) (h1:ns.length<=100000) (h2:xB ns<=100000):vz (trV f.xs) n ns:=by
 obtain ⟨h0,_⟩:=qA h
 refine ⟨Nat.le_trans (zjJ h _ n ns) (by decide),fun p hp=>?_⟩
 obtain ⟨q1,q2⟩:=ZK h0 _ n ns p hp
 have:=XL p.1
 have:=h0.1
 exact ⟨by omega,by omega⟩
end
section
theorem Hg {xs:List zn}:∀ (m:Nat) (n:Int) (ns:List (List UInt8)) (j:Nat) (d:Int),Anc xs n j d->j<m->zt n xs=true->(∀ x∈xs,∀ e∈x.es,zt e.ino xs=true)->∃ p∈qM xs m n ns,p.2.ino=d
 | 0,n,ns,j,d,ha,hj,hh,h3=>by omega
 | m+1,n,ns,0,d,ha,hj,hh,h3=>by
  cases ha
  obtain ⟨_,hi⟩:=qV hh
  refine ⟨(ns,ze n xs),?_,hi⟩
  unfold qM
  rw[if_pos hh]
  exact List.mem_cons_self
 | m+1,n,ns,j+1,d,ha,hj,hh,h3=>by
  have key:∀ (j:Nat) (d:Int),Anc xs n (j+1) d->∃ e∈(ze n xs).es,Anc xs e.ino j d:=by
   intro j
   induction j with
   | zero =>
    intro d ha
    cases ha with
    | step a b c=>cases a;exact ⟨_,c,.same⟩
   | succ j ih =>
    intro d ha
    cases ha with
    | step a b c =>
     obtain ⟨e,he,h⟩:=ih _ a
     exact ⟨e,he,.step h b c⟩
  obtain ⟨e,he,h⟩:=key j d ha
  obtain ⟨hm,_⟩:=qV hh
  obtain ⟨p,p1,p2⟩:=Hg m e.ino (ns++[e.name]) j d h (by omega) (h3 _ hm e he) h3
  refine ⟨p,?_,p2⟩
  unfold qM
  rw[if_pos hh]
  exact List.mem_cons_of_mem _ (List.mem_flatMap.2 ⟨e,he,p1⟩)
theorem zeH {xs:List zn}:∀ {k:Nat} {n:Int},Dep xs k n->Anc xs 1 k n
 | _,_,.root=>.same
 | _,_,.step a b c=>.step (zeH a) b c
theorem zdP {f:FsV} (h:okV f) {n:Int} (hh:zt n f.xs=true):∃ p∈trV f.xs 1 [],p.2.ino=n:=by
 obtain ⟨_,h1,_,h3,_⟩:=qA h
 obtain ⟨k,hk,hd⟩:=zj7 h hh
 exact Hg _ 1 [] k n (zeH hd) (by omega) h1.2.2.2.2.2.2.2.1 h3
theorem Ur {f:FsV} {m:Nat} {n:Int} {ns:List (List UInt8)} {p:List (List UInt8)×zn} (hp:p∈qM f.xs m n ns):zt p.2.ino f.xs=true/\ze p.2.ino f.xs=p.2:=by
 obtain ⟨_,_,q⟩:=YT m n ns p hp
 exact q
theorem VU:∀ {l:Jp} {n:Int},(Yt l).Nodup->(∀ p∈l,p.2.ino=n->p.2.kind=2)->(∃ p∈l,p.2.ino=n)->∃ p,l.filter (fun p=>decide (p.2.ino=n)) = [p]
 | [],n,_,_,⟨p,hp,_⟩=>by cases hp
 | q :: l,n,hn,hk,hex=>by
  have hk':∀ p∈l,p.2.ino=n->p.2.kind=2:=fun p hp=>hk p (List.mem_cons_of_mem _ hp)
  by_cases hq:q.2.ino=n
  ·have hk2:=hk q List.mem_cons_self hq
   have hc:Yt (q :: l)=q.2.ino :: Yt l:=by
    unfold Yt;rw[List.filter_cons_of_pos (by simpa using hk2),List.map_cons]
   rw[hc,List.nodup_cons,hq]at hn
   have he:l.filter (fun p=>decide (p.2.ino=n)) = []:=by
    rw[List.filter_eq_nil_iff]
    intro p hp hpn
    have hpn:=of_decide_eq_true hpn
    refine hn.1 ?_
    exact List.mem_map.2 ⟨p,List.mem_filter.2 ⟨hp,by simpa using hk' p hp hpn⟩,hpn⟩
   exact ⟨q,by rw[List.filter_cons_of_pos (by simpa using hq),he]⟩
  ·have hn':(Yt l).Nodup:=by
    unfold Yt at hn ⊢
    by_cases hk2:q.2.kind=2
    ·rw[List.filter_cons_of_pos (by simpa using hk2),List.map_cons,List.nodup_cons]at hn;exact hn.2
    ·rw[List.filter_cons_of_neg (by simpa using hk2)]at hn;exact hn
   obtain ⟨p,hp,hpn⟩:=hex
   have hpl:p∈l:=by
    rcases List.mem_cons.1 hp with rfl | hp
    ·exact absurd hpn hq
    ·exact hp
   obtain ⟨p',h⟩:=VU hn' hk' ⟨p,hpl,hpn⟩
   exact ⟨p',by rw[List.filter_cons_of_neg (by simpa using hq)];exact h⟩
theorem M3 {f:FsV} (h:okV f) {n:Int} (hh:zt n f.xs=true) (hk:(ze n f.xs).kind=2):∃ p,Qn n (trV f.xs 1 []) = [p]/\Uj n (trV f.xs 1 [])=some p:=by
 obtain ⟨_,h1,_⟩:=qA h
 have hkk:∀ p∈trV f.xs 1 [],p.2.ino=n->p.2.kind=2:=fun p hp hpn=>by
  obtain ⟨_,q⟩:=Ur hp
  rw[hpn]at q;rw[←q];exact hk
 obtain ⟨p,hp⟩:=VU (YI h _ 1 [] h1.2.2.2.2.2.2.2.1) hkk (zdP h hh)
 refine ⟨zY p.1,by unfold Qn;rw[hp];rfl,?_⟩
 unfold Uj
 have he:(fun q:List (List UInt8)×zn=>decide (q.2.ino=n)&&decide (q.2.kind=2))=fun q=>decide (q.2.ino=n)&&decide (q.2.kind=2):=rfl
 rw[←List.head?_filter]
 have hf:(trV f.xs 1 []).filter (fun q=>decide (q.2.ino=n)&&decide (q.2.kind=2))=(trV f.xs 1 []).filter fun q=>decide (q.2.ino=n):=by
  refine List.filter_congr fun q hq=>?_
  by_cases hqn:q.2.ino=n
  ·simp[hqn,hkk q hq hqn]
  ·simp[hqn]
 rw[hf,hp];rfl
end
section
theorem Gy {xs:List zn} (hm:∀ x∈xs,∀ e∈x.es,may e.name=true):∀ (m:Nat) (n:Int) (ns:List (List UInt8)),∀ p∈qM xs m n ns,∃ zs,p.1=ns++zs/\∀ z∈zs,may z=true
 | 0,n,ns,p,hp=>by unfold qM at hp;cases hp
 | m+1,n,ns,p,hp=>by
  unfold qM at hp
  split at hp
  ·rename_i hh
   rcases List.mem_cons.1 hp with rfl | hp
   ·exact ⟨[],by simp,fun z hz=>by cases hz⟩
   ·obtain ⟨e,he,hp⟩:=List.mem_flatMap.1 hp
    obtain ⟨zs,h1,h2⟩:=Gy hm m e.ino _ p hp
    refine ⟨e.name :: zs,by rw[h1,List.append_assoc];rfl,fun z hz=>?_⟩
    rcases List.mem_cons.1 hz with rfl | hz
    ·exact hm _ (qV hh).1 e he
    ·exact h2 z hz
  ·cases hp
theorem zgd {es:List z8} (h:YJ es):es.Pairwise fun a b=>a.name≠b.name:=by
 have key:∀ (d i:Nat) (hj:i+d+1<es.length),es[i].name<es[i+d+1].name:=by
  intro d
  induction d with
  | zero =>
   intro i hj
   have h1:=(h (i+1) hj).2.2 (by omega)
   rw[bytesLess_eq]at h1
   exact of_decide_eq_true h1
  | succ d ih =>
   intro i hj
   have h1:=(h (i+(d+1)+1) hj).2.2 (by omega)
   rw[bytesLess_eq]at h1
   have h1:=of_decide_eq_true h1
   have h2:=ih i (by omega)
   exact List.lt_trans h2 h1
 refine List.pairwise_iff_getElem.2 fun i j hi hj hij he=>?_
 obtain ⟨d,rfl⟩:∃ d,j=i+d+1:=⟨j-i-1,by omega⟩
 have h1:=key d i hj
 rw[he]at h1
 exact List.lt_irrefl _ h1
theorem U4 {f:FsV} (h:okV f):(∀ x∈f.xs,∀ e∈x.es,may e.name=true)/\∀ x∈f.xs,x.es.Pairwise fun a b=>a.name≠b.name:=by
 obtain ⟨_,_,h2,_⟩:=qA h
 have key:∀ x∈f.xs,YJ x.es:=fun x hx=>by
  by_cases hk:x.kind=2
  ·exact ((h2 x hx).2.2.1 hk).2
  ·rw[((h2 x hx).2.1 hk).1];intro i hi;simp at hi
 refine ⟨fun x hx e he=>?_,fun x hx=>zgd (key x hx)⟩
 obtain ⟨i,hi,rfl⟩:=List.getElem_of_mem he
 exact (key x hx i hi).1
end
section
open CA CB
open Go.RowKit
def jx (p n:List UInt8):List UInt8:=if Lib.hasSuffix p [47] then p++n else p++[47]++n
theorem zdd (p n:List UInt8) (hp:p.length<=1000000) (hn:n.length<=1000000):Fun Tryz.prog G0 66 [.str p,.str n] (.str (jx p n)) 0:=by
 have h:=Q8 p [47] hp
 cases hs:Lib.hasSuffix p [47] with
 | true =>
  have e:jx p n=p++n:=by unfold jx;rw[hs,if_pos rfl]
  rw[hs]at h
  refine fon Tryz.func66 ?_;dsimp only[Tryz.f66]
  push_cast -dsimp
  refine cl (h) ?_;push_cast -dsimp
  repeat refine an ?_
  exact dn (by push_cast -dsimp [zb,za,CLe,zd,e])
 | false =>
  have e:jx p n=p++[47]++n:=by unfold jx;rw[hs];rfl
  rw[hs]at h
  refine fon Tryz.func66 ?_;dsimp only[Tryz.f66]
  push_cast -dsimp
  refine cl (h) ?_;push_cast -dsimp
  repeat refine an ?_
  exact dn (by push_cast -dsimp [zb,za,CLe,zd,e])
theorem zkj {f:FsV} (h:okV f) {n:Int} (hh:zt n f.xs=true) (hk:(ze n f.xs).kind=2) :
  ∃ ns,(∀ z∈ns,may z=true)/\ns.length<=41/\xB ns<=20000/\Qn n (trV f.xs 1 []) = [zY ns]/\Uj n (trV f.xs 1 [])=some (zY ns):=by
 obtain ⟨h0,h1,_⟩:=qA h
 have hkk:∀ p∈trV f.xs 1 [],p.2.ino=n->p.2.kind=2:=fun p hp hpn=>by
  obtain ⟨_,q⟩:=Ur hp
  rw[hpn]at q;rw[←q];exact hk
 obtain ⟨p,hp⟩:=VU (YI h _ 1 [] h1.2.2.2.2.2.2.2.1) hkk (zdP h hh)
 obtain ⟨q,q1,q2⟩:=M3 h hh hk
 have hq:Qn n (trV f.xs 1 []) = [zY p.1]:=by unfold Qn;rw[hp];rfl
 rw[hq]at q1
 have hqe:zY p.1=q:=by simpa using q1
 have hpm:p∈trV f.xs 1 []:=(List.mem_filter.1 (by rw[hp];exact List.mem_singleton.2 rfl)).1
 obtain ⟨zs,z1,z2⟩:=Gy (U4 h).1 _ 1 [] p hpm
 obtain ⟨t1,t2⟩:=ZK h0 _ 1 [] p hpm
 have t3:=XL p.1
 have t4:xB []=0:=rfl
 have h40:=h0.1
 rw[List.nil_append]at z1
 rw[←z1]at z2
 simp only[List.length_nil,t4]at t1 t2
 exact ⟨p.1,z2,by omega,by omega,hq,by rw[q2,hqe]⟩
theorem vp (ns:List (List UInt8)) (x:List UInt8) (h:∀ z∈ns,may z=true):jx (zY ns) x=QU (zY ns) x:=by
 by_cases h0:ns = []
 ·subst h0;rfl
 ·have hs:Lib.hasSuffix (zY ns) [47]=false:=by
   have:=NA true ns false fun z hz=>X0 (h z hz)
   have e:put true ns false=zY ns:=by unfold put zY;rw[if_neg h0];simp
   rw[e,decide_eq_false h0]at this
   simpa using this
  have hne:zY ns≠[47]:=fun e=>by
   rw[e]at hs
   exact absurd hs (by decide)
  unfold jx QU
  rw[hs,if_neg hne];rfl
def Ya (f:FsV) (s:zV):List UInt8:=QU ((Uj s.dir (trV f.xs 1 [])).getD []) s.name
theorem zgb (f:FsV) (h:okV f) (s:zV) (hh:zt s.dir f.xs=true) (hk:(ze s.dir f.xs).kind=2) (hm:may s.name=true):Fun Tryz.prog G0 36 [.agg (fsC f),.agg (jq s)] (.str (Ya f s)) 0:=by
 obtain ⟨ns,n1,n2,n3,n4,n5⟩:=zkj h hh hk
 have hp:=ym f s.dir _ (zlG h) (zhC h 1 [] (by decide) (by decide))
 have hml:=zdF hm
 have hjw:=XL ns
 have hjl:(zY ns).length<=20001:=by unfold zY;split<;>simp<;>omega
 have hr:=QL (zY ns) (by omega)
 unfold VI at hr
 rw[Ug ns fun z hz=>X0 (n1 z hz)]at hr
 have hj:=XM (ns++[s.name]) (by simp;omega) (by
  have a1:=XL (ns++[s.name])
  rw[MD]at a1
  omega)
 rw[Z5 ns s.name fun y hy=>(X0 (n1 y hy)).1]at hj
 have e:Ya f s=QU (zY ns) s.name:=by unfold Ya;rw[n5];rfl
 rw[n5]at hp
 have hsl:(zJ ns).length=ns.length:=List.length_map ..
 refine fof (fun i=>if i=2 then [false,false,false,false,false,false,true,false,false] else []) Tryz.func36 ?_;dsimp only[Tryz.f36]
 push_cast -dsimp
 refine cl (hp) ?_;push_cast -dsimp [Option.getD_some,Option.isSome_some]
 refine cl (hr) ?_;push_cast -dsimp
 repeat refine an ?_
 refine cl (hj) ?_;push_cast -dsimp
 exact dn (by push_cast -dsimp [zb,za,CLe,zd,e])
end
section
open Go.RowKit
end
section
open Go.RowKit
end
section
open CA CB
open Go.RowKit
end
section
open Go.RowKit Go.ChangeMaps Go.ChangeShapes Go.WideShapes Go.Deep Go.Joins
section
variable {H:Type} {enc:TypeId×Value->H} {W:World}
end
theorem zq5 {W:World} {l:List (String×DataW Unit)} (h:laidMetH Tryz.prog l W) (hp:(l.filter fun x=>x.2.handleName?.isSome) = []) (hm:("drayman/op.has",Rows.laid_drayman_op_has)∈l):Xp G1 (NJ W):=fun g cs hc=>by
 unfold G1 at hc
 split at hc
 ·rename_i hg
  subst hg
  cases hc
  exact Jh (t:=237) h hp hm (by kernel_rfl) (by kernel_rfl) (m:=4) (by kernel_rfl) (by kernel_rfl) (by kernel_rfl)
 ·cases hc
theorem zqQ {W:World} {l:List (String×DataW Unit)} (h:laidMetH Tryz.prog l W) (hp:(l.filter fun x=>x.2.handleName?.isSome) = []) (hm1:("drayman/diag.phrases",Rows.laid_drayman_diag_phrases)∈l) (hm2:("drayman/args.kinds",Rows.laid_drayman_args_kinds)∈l) (hm3:("drayman/errs.messages",Rows.laid_drayman_errs_messages)∈l):Xp G2 (NJ W):=fun g cs hc=>by
 unfold G2 at hc
 split at hc
 ·rename_i hg
  subst hg
  cases hc
  exact Jh (t:=195) h hp hm1 (by kernel_rfl) (by kernel_rfl) (m:=4) (vs:=phr.map fun l=>Value.string ⟨l.toArray⟩) (by kernel_rfl) (by kernel_rfl) (by kernel_rfl)
 ·split at hc
  ·rename_i hg
   subst hg
   cases hc
   exact Jh (t:=194) h hp hm2 (by kernel_rfl) (by kernel_rfl) (m:=4) (by kernel_rfl) (by kernel_rfl) (by kernel_rfl)
  ·split at hc
   ·rename_i hg
    subst hg
    cases hc
    exact Jh (t:=230) h hp hm3 (by kernel_rfl) (by kernel_rfl) (m:=4) (vs:=zsf.map fun l=>Value.string ⟨l.toArray⟩) (by kernel_rfl) (by kernel_rfl) (by kernel_rfl)
   ·cases hc
theorem zr1 {W:World} {l:List (String×DataW Unit)} (h:laidMetH Tryz.prog l W) (hp:(l.filter fun x=>x.2.handleName?.isSome) = []) (hm:("drayman/op.has",Rows.laid_drayman_op_has)∈l) (hm1:("drayman/diag.phrases",Rows.laid_drayman_diag_phrases)∈l) (hm2:("drayman/args.kinds",Rows.laid_drayman_args_kinds)∈l) (hm3:("drayman/errs.messages",Rows.laid_drayman_errs_messages)∈l):Xp GD (NJ W):=fun g cs hc=>by
 unfold GD at hc
 split at hc
 ·exact zq5 h hp hm g cs hc
 ·exact zqQ h hp hm1 hm2 hm3 g cs hc
end
section
abbrev YC:=List (List UInt8)
def onL (f:FsV) (follow:Bool) (lk:zn->zn->YC->Bool->zV×Int):YC->zV->Bool->zV×Int
 | [],s,dir=>if zt s.ino f.xs=true/\dir=true/\(ze s.ino f.xs).kind≠2 then (qd,3) else (s,0)
 | n :: r,s,dir =>
  if s.ino=0 then (qd,1)
  else if (ze s.ino f.xs).kind≠2 then (qd,3)
  else if n = [46] then onL f follow lk r ⟨0,[],(ze s.ino f.xs).ino⟩ dir
  else if n = [46,46] then onL f follow lk r ⟨0,[],(ze s.ino f.xs).parent⟩ dir
  else if Xl n (ze s.ino f.xs).es=false∨(ze (zG n (ze s.ino f.xs).es) f.xs).kind≠3∨(r = []/\follow=false/\dir=false) then
   onL f follow lk r ⟨(ze s.ino f.xs).ino,n,zG n (ze s.ino f.xs).es⟩ dir
  else lk (ze (zG n (ze s.ino f.xs).es) f.xs) (ze s.ino f.xs) r dir
def qk (p:List UInt8):Bool:=!decide (zi p = [])&&Lib.hasSuffix p [47]
def YH (p:List UInt8):Bool:=Lib.hasPrefix p [47]
def onN (f:FsV) (follow:Bool):Nat->YC->zV->Bool->zV×Int
 | 0=>onL f follow fun _ _ _ _=>(qd,6)
 | k+1=>onL f follow fun x d r dir=>if J7 x.data then (qd,7) else onN f follow k (zi x.data++r) ⟨0,[],if YH x.data then 1 else d.ino⟩ (dir||(qk x.data&&decide (r = [])))
def jO (f:FsV) (b:List UInt8):Int×Int:=
 if (atV f b).2≠0 then (0,(atV f b).2) else if (atV f b).1.ino=0 then (0,1) else if (ze (atV f b).1.ino f.xs).kind≠2 then (0,3) else ((ze (atV f b).1.ino f.xs).ino,0)
def qx (f:FsV) (p:List UInt8):zn×Int:=if (atV f p).2≠0 then (kH,(atV f p).2) else if (atV f p).1.ino=0 then (kH,1) else (ze (atV f p).1.ino f.xs,0)
def zD (f:FsV) (b p:List UInt8) (follow:Bool):zV×Int:=
 if p = [] then (qd,1) else if J7 p then (qd,7)
 else if YH p then onN f follow 40 (zi p) ⟨0,[],1⟩ (qk p)
 else if (jO f b).2≠0 then (qd,(jO f b).2) else onN f follow 40 (zi p) ⟨0,[],(jO f b).1⟩ (qk p)
theorem Gc {xs:List zn} {n:Int} (h:(ze n xs).kind=2):zt n xs=true:=by
 cases hh:zt n xs with
 | true=>rfl
 | false=>rw[(Jk hh).2]at h;exact absurd h (by decide)
def lkN (f:FsV) (follow:Bool):Nat->zn->zn->YC->Bool->zV×Int
 | 0=>fun _ _ _ _=>(qd,6)
 | k+1=>fun x d r dir=>if J7 x.data then (qd,7) else onN f follow k (zi x.data++r) ⟨0,[],if YH x.data then 1 else d.ino⟩ (dir||(qk x.data&&decide (r = [])))
theorem JT (f:FsV) (follow:Bool) (k:Nat):onN f follow k=onL f follow (lkN f follow k):=by cases k<;>rfl
theorem JH (f:FsV) (follow:Bool) (k:Nat) (x d:zn) (r:YC) (dir:Bool):lkN f follow (k+1) x d r dir=if J7 x.data then (qd,7) else onN f follow k (zi x.data++r) ⟨0,[],if YH x.data then 1 else d.ino⟩ (dir||(qk x.data&&decide (r = []))):=rfl
end
section
open Go.RowKit
section
variable {G:zo}
theorem X7 {bx:List (List C)} {i k n cap:Nat} {rows:List (List C)} {cs:List C} (hb:bx[i]?=some cs) (hn:rows.length=n) (hc:n<=cap) (hm:cap<=9223372036854775807) (hk:∀ r∈rows,r.length=k) (hs:ji rows) (ht:cs.take (n*k)=rows.flatten):JD bx (.bs i 0 k n cap) (.sl k rows):=by
 unfold JD
 exact ⟨rows,cs,rfl,hn,hc,by unfold maxLen;omega,hb,hk,by rw[List.drop_zero,ht,UW (YO hs)]⟩
end
end
section
open Go.RowKit
def VG (x:zn):Bool:=decide (x.kind=3)&&decide (300<(x.data.length:Int))
def QM (f:FsV) (b p:List UInt8):Bool:=!((f.xs.take 100).any VG)&&decide ((b.length:Int)<=1000)&&decide ((p.length:Int)<=5000)
theorem zcl (f:FsV) (b p:List UInt8):Fun Tryz.prog G0 24 [.agg (fsC f),.str b,.str p] (qu (QM f b p)) 0:=by
 have hll:(zq f.xs).length=f.xs.length:=List.length_map ..
 refine fon Tryz.func24 ?_;dsimp only[Tryz.f24]
 push_cast -dsimp
 refine loop (fun i:Nat=>⟨[(1,.str b),(2,.str p),(3,.ptr 0 0),(7,.sc (.int .i64 i))],[fsC f],0,0⟩) (fun i=>i<=100/\∀ t (h:t<f.xs.length),t<i->VG f.xs[t]=false) (fun i=>100-i) 0 ⟨Nat.zero_le _,fun t h h'=>absurd h' (Nat.not_lt_zero _)⟩ ?_ ?_
 ·exact wk
 ·rintro i ⟨h1,h2⟩
  have hend:¬(i<f.xs.length/\i<100)->(f.xs.take 100).any VG=false:=fun h=>by
   rw[List.any_eq_false]
   intro x hx
   obtain ⟨t,ht,rfl⟩:=List.getElem_of_mem hx
   rw[List.length_take]at ht
   rw[List.getElem_take,h2 t (by omega) (by omega)]
   decide
  have stop:¬(i<f.xs.length/\i<100)->(decide ((b.length:Int)<=1000)&&decide ((p.length:Int)<=5000))=QM f b p:=fun h=>by
   unfold QM;rw[hend h];rfl
  by_cases h:i<f.xs.length
  ·by_cases h100:i<100
   ·have g1:=qJ f.xs i h
    have h100':(i:Int)<100:=by omega
    have hm:f.xs[i]∈f.xs.take 100:=by
     rw[List.mem_take_iff_getElem]
     exact ⟨i,by omega,rfl⟩
    have next:VG f.xs[i]=false->∀ t (h:t<f.xs.length),t<i+1->VG f.xs[t]=false:=fun q t ht hlt=>by
     rcases Nat.lt_or_ge t i with r | r
     ·exact h2 t ht r
     ·have:t=i:=by omega
      subst this;exact q
    by_cases hk:f.xs[i].kind=3
    ·by_cases hd:300<(f.xs[i].data.length:Int)
     ·have hn:QM f b p=false:=by
       have:(f.xs.take 100).any VG=true:=List.any_eq_true.2 ⟨_,hm,by unfold VG;rw[decide_eq_true hk,decide_eq_true hd];rfl⟩
       unfold QM;rw[this];rfl
      push_cast -dsimp [hll,h,h100',g1,hk,hd]
      repeat refine an ?_
      exact dn (by push_cast -dsimp [zb,za,CLe,zd,hn])
     ·have hq:VG f.xs[i]=false:=by unfold VG;rw[decide_eq_false hd,Bool.and_false]
      push_cast -dsimp [hll,h,h100',g1,hk,hd]
      repeat refine an ?_
      exact ⟨i+1,⟨by omega,next hq⟩,by omega,wk⟩
    ·have hq:VG f.xs[i]=false:=by unfold VG;rw[decide_eq_false hk,Bool.false_and]
     push_cast -dsimp [hll,h,h100',g1,hk]
     repeat refine an ?_
     exact ⟨i+1,⟨by omega,next hq⟩,by omega,wk⟩
   ·have h100':((i:Int)<100)=False:=eq_false (by omega)
    have:=(stop (by omega)).symm
    by_cases hb:(b.length:Int)<=1000
    ·rw[decide_eq_true hb,Bool.true_and]at this
     push_cast -dsimp [hll,h,h100',hb]
     exact dn (by push_cast -dsimp [zb,za,CLe,zd,this])
    ·rw[decide_eq_false hb,Bool.false_and]at this
     push_cast -dsimp [hll,h,h100',hb]
     exact dn (by push_cast -dsimp [zb,za,CLe,zd,this])
  ·have:=(stop (by omega)).symm
   by_cases hb:(b.length:Int)<=1000
   ·rw[decide_eq_true hb,Bool.true_and]at this
    push_cast -dsimp [hll,h,hb]
    exact dn (by push_cast -dsimp [zb,za,CLe,zd,this])
   ·rw[decide_eq_false hb,Bool.false_and]at this
    push_cast -dsimp [hll,h,hb]
    exact dn (by push_cast -dsimp [zb,za,CLe,zd,this])
end
section
structure znB (x:zn):Prop where
 par:x.kind≠2->x.parent=0
 bare:x.kind=2->x.data = []
 nam:∀ e∈x.es,may e.name=true
 lnk:x.kind=3->1<=x.data.length/\x.data.length<=4095/\∀ b∈x.data,b≠0
 named:x.ino≠1->1<=x.links
 one:x.kind=2->x.ino≠1->x.links=1
 top:x.ino=1->x.parent=1
def zmY (rk:Int->Nat) (xs:List zn):Prop:=∀ y∈xs,∀ e∈y.es,(ze e.ino xs).kind=2->(ze e.ino xs).parent=y.ino/\rk y.ino<rk e.ino
structure FsR (f:FsV):Prop where
 node:∀ x∈f.xs,znB x
 edge:∃ rk,zmY rk f.xs
 fit:(f.xs.length:Int)<=f.maxI/\(qr f.xs:Int)<=f.maxB
 lim:1<=f.maxI/\f.maxI<=1073741824/\0<=f.maxB/\f.maxB<=1073741824
theorem zcR {xs:List zn} (h:qh xs) {x y:zn} (hx:x∈xs) (hy:y∈xs) (e:x.ino=y.ino):x=y:=by
 obtain ⟨i,hi,rfl⟩:=List.getElem_of_mem hx
 obtain ⟨j,hj,rfl⟩:=List.getElem_of_mem hy
 have hp:=List.pairwise_iff_getElem.1 h
 rcases Nat.lt_trichotomy i j with q | q | q
 ·have:=hp i j hi hj q;omega
 ·subst q;rfl
 ·have:=hp j i hj hi q;omega
theorem vf {xs:List zn} (h:qh xs):(xs.map (·.ino)).Nodup:=by
 rw[List.Nodup,List.pairwise_map]
 exact List.Pairwise.imp (fun q e=>by omega) h
theorem ZA {xs:List zn} {n p:Int}:(n,p)∈qg xs↔∃ y∈xs,∃ e∈y.es,e.ino=n/\y.ino=p:=by
 unfold qg
 rw[List.mem_flatMap]
 refine exists_congr fun y=>and_congr_right fun hy=>?_
 unfold ZV
 rw[List.mem_map]
 refine exists_congr fun e=>and_congr_right fun he=>?_
 rw[Prod.mk.injEq]
theorem zcN {n p:Int} {l:List (Int×Int)} (h1:1<=QJ n l) (h:∀ q,(n,q)∈l->q=p):VM n l=p:=by
 unfold QJ at h1
 unfold VM
 cases hq:(l.filter fun p=>p.1==n).getLast? with
 | none=>rw[List.getLast?_eq_none_iff]at hq;rw[hq]at h1;simp at h1
 | some r =>
  obtain ⟨h2,h3⟩:=List.mem_filter.1 (List.mem_of_getLast? hq)
  have h3:r.1=n:=by simpa using h3
  show r.2=p
  exact h r.2 (by rw[←h3];exact h2)
theorem zjc {es:List z8}:∀ S:List Int,∃ t,kj S es=S++t:=by
 induction es with
 | nil=>exact fun S=>⟨[],by simp[kj]⟩
 | cons e r ih =>
  intro S
  obtain ⟨t,h⟩:=ih (Ym S e.ino)
  show ∃ t,kj (Ym S e.ino) r=S++t
  rw[h]
  unfold Ym
  split
  ·exact ⟨t,rfl⟩
  ·exact ⟨e.ino :: t,by simp⟩
theorem UC {xs:List zn} (h3:∀ x∈xs,∀ e∈x.es,zt e.ino xs=true):∀ (m i:Nat) (S:List Int),J9 xs S->(∀ j<i,∀ n,S[j]?=some n->∀ e∈(ze n xs).es,e.ino∈S)->xs.length+1<=m+i ->
  (∀ n∈S,n∈QE xs m i S)/\∀ n∈QE xs m i S,∀ e∈(ze n xs).es,e.ino∈QE xs m i S
 | 0,i,S,hS,hc,hm=>by
  have hl:=Zv hS.nodup hS.has
  show (∀ n∈S,n∈S)/\∀ n∈S,∀ e∈(ze n xs).es,e.ino∈S
  refine ⟨fun n h=>h,fun n hn e he=>?_⟩
  obtain ⟨j,hj,rfl⟩:=List.getElem_of_mem hn
  exact hc j (by omega) _ (List.getElem?_eq_getElem hj) e he
 | m+1,i,S,hS,hc,hm=>by
  unfold QE
  cases hg:S[i]? with
  | none =>
   have hi:=List.getElem?_eq_none_iff.1 hg
   show (∀ n∈S,n∈S)/\∀ n∈S,∀ e∈(ze n xs).es,e.ino∈S
   refine ⟨fun n h=>h,fun n hn e he=>?_⟩
   obtain ⟨j,hj,rfl⟩:=List.getElem_of_mem hn
   exact hc j (by omega) _ (List.getElem?_eq_getElem hj) e he
  | some n =>
   have hn:=hS.has n (List.mem_of_getElem? hg)
   have hi:=(List.getElem?_eq_some_iff.1 hg).1
   have hg':=zh hn
   obtain ⟨t,ht⟩:=zjc (es:=(ze n xs).es) S
   have hsub:∀ k∈S,k∈kj S (ze n xs).es:=fun k hk=>Gr.2 (.inl hk)
   obtain ⟨r1,r2⟩:=UC h3 m (i+1) (kj S (ze n xs).es) (Mp hS fun e he=>h3 _ hg'.2.1 e he) (fun j hj k hk e he=>by
    rcases Nat.lt_or_ge j i with hji | hji
    ·have:S[j]?=some k:=by rw[ht,List.getElem?_append_left (by omega)]at hk;exact hk
     exact hsub _ (hc j hji k this e he)
    ·have:j=i:=by omega
     subst this
     rw[ht,List.getElem?_append_left hi,hg]at hk
     cases hk
     exact Gr.2 (.inr ⟨e,he,rfl⟩)) (by omega)
   exact ⟨fun k hk=>r1 k (hsub k hk),r2⟩
theorem vO {n:Int} {l:List (Int×Int)} (h:1<=QJ n l):∃ p,(n,p)∈l:=by
 unfold QJ at h
 obtain ⟨r,hr⟩:=List.exists_mem_of_length_pos (l:=l.filter fun p=>p.1==n) (by omega)
 obtain ⟨h1,h2⟩:=List.mem_filter.1 hr
 have h2:r.1=n:=by simpa using h2
 exact ⟨r.2,by rw[←h2];exact h1⟩
theorem FsR.links {f:FsV} (hi:FsI f) {x:zn} (hx:x∈f.xs):x.links=(QJ x.ino (qg f.xs):Int):=by rw[Xw];exact hi.links x hx
theorem Qv {f:FsV} (hi:FsI f) {y:zn} (hy:y∈f.xs) {e:z8} (he:e∈y.es):y.kind=2:=by
 by_cases h:y.kind=2
 ·exact h
 ·rw[hi.file y hy h]at he;cases he
theorem XK {f:FsV} (hi:FsI f) {x:zn} (hx:x∈f.xs):ze x.ino f.xs=x:=by
 have h:=Yh hx
 have h2:=zh h
 exact zcR hi.rises h2.2.1 hx h2.2.2
theorem FsR.come {f:FsV} (hi:FsI f) (h:FsR f) {S:List Int} (h1:(1:Int)∈S) (hc:∀ n∈S,∀ e∈(ze n f.xs).es,e.ino∈S):∀ n,zt n f.xs=true->n∈S:=by
 obtain ⟨rk,hr⟩:=h.edge
 have dirs:∀ (k:Nat) (n:Int),rk n<=k->zt n f.xs=true->(ze n f.xs).kind=2->n∈S:=by
  intro k
  induction k with
  | zero =>
   intro n hk hn hd
   by_cases h0:n=1
   ·rw[h0];exact h1
   obtain ⟨g1,g2,g3⟩:=zh hn
   have hl:=(h.node _ g2).named (by rw[g3];exact h0)
   rw[FsR.links hi g2,g3]at hl
   obtain ⟨p,hp⟩:=vO (n:=n) (l:=qg f.xs) (by omega)
   obtain ⟨y,hy,e,he,q1,q2⟩:=ZA.1 hp
   have:=(hr y hy e he (by rw[q1];exact hd)).2
   rw[q1]at this;omega
  | succ k ih =>
   intro n hk hn hd
   by_cases h0:n=1
   ·rw[h0];exact h1
   obtain ⟨g1,g2,g3⟩:=zh hn
   have hl:=(h.node _ g2).named (by rw[g3];exact h0)
   rw[FsR.links hi g2,g3]at hl
   obtain ⟨p,hp⟩:=vO (n:=n) (l:=qg f.xs) (by omega)
   obtain ⟨y,hy,e,he,q1,q2⟩:=ZA.1 hp
   have hlt:=(hr y hy e he (by rw[q1];exact hd)).2
   rw[q1]at hlt
   have hs:=XK hi hy
   have:=ih y.ino (by omega) (Yh hy) (by rw[hs];exact Qv hi hy he)
   rw[←q1]
   exact hc y.ino this e (by rw[hs];exact he)
 intro n hn
 by_cases h0:n=1
 ·rw[h0];exact h1
 obtain ⟨g1,g2,g3⟩:=zh hn
 have hl:=(h.node _ g2).named (by rw[g3];exact h0)
 rw[FsR.links hi g2,g3]at hl
 obtain ⟨p,hp⟩:=vO (n:=n) (l:=qg f.xs) (by omega)
 obtain ⟨y,hy,e,he,q1,q2⟩:=ZA.1 hp
 have hs:=XK hi hy
 have:=dirs _ y.ino (Nat.le_refl _) (Yh hy) (by rw[hs];exact Qv hi hy he)
 rw[←q1]
 exact hc y.ino this e (by rw[hs];exact he)
theorem yX {es:List z8} (hR:XC es) (h1:∀ e∈es,may e.name=true) (h2:∀ e∈es,1<=e.ino):YJ es:=fun i h =>
 ⟨h1 _ (List.getElem_mem h),h2 _ (List.getElem_mem h),fun h0=>List.pairwise_iff_getElem.1 hR (i-1) i (by omega) h (by omega)⟩
theorem FsR.check {f:FsV} (hi:FsI f) (h:FsR f) (hn:f.next<=1099511627776):Ji f=0:=by
 have h1:j5 f:=⟨h.lim.1,h.lim.2.1,h.lim.2.2.1,h.lim.2.2.2,hn,hi.ino,hi.rises,hi.root,hi.base⟩
 have h2:Yu f:=fun x hx=>⟨hi.kind x hx,fun hk=>⟨hi.file x hx hk,(h.node x hx).par hk⟩,fun hk=>⟨(h.node x hx).bare hk,yX (hi.es x hx) (h.node x hx).nam fun e he=>by
  have:=hi.led x hx e he
  have g:=zh this
  have:=(hi.ino _ g.2.1).1
  rw[g.2.2]at this;exact this⟩,(h.node x hx).lnk⟩
 have h3:Yj f:=hi.led
 obtain ⟨rk,hr⟩:=h.edge
 have h4:Yp f:=fun x hx=>by
  have hl:=FsR.links hi hx
  refine ⟨hl,?_⟩
  by_cases h0:x.ino=1
  ·rw[if_pos h0,h0]
   exact ⟨by rw[Xw];exact hi.bare,(h.node x hx).top h0⟩
  ·rw[if_neg h0]
   have hk:=(h.node x hx).named h0
   refine ⟨by omega,fun hd=>?_⟩
   have ho:=(h.node x hx).one hd h0
   refine ⟨by omega,(zcN (by omega) fun q hq=>?_).symm⟩
   obtain ⟨y,hy,e,he,q1,q2⟩:=ZA.1 hq
   have:=(hr y hy e he (by rw[q1,XK hi hx];exact hd)).1
   rw[q1,XK hi hx]at this
   rw[←q2,this]
 have h5:Qh f:=by
  have hS:J9 f.xs [1]:=⟨by simp,fun n hn=>by rw[List.mem_singleton.1 hn];exact hi.root⟩
  obtain ⟨r1,r2⟩:=UC hi.led (f.xs.length+1) 0 [1] hS (fun j hj=>absurd hj (Nat.not_lt_zero _)) (by omega)
  have hok:=(GW hi.led (f.xs.length+1) 0 [1] hS (fun n hn=>by rw[List.mem_singleton.1 hn];exact ⟨0,.root⟩)).1
  have hall:=h.come hi (r1 1 (by simp)) r2
  have q1:=Zv hok.nodup hok.has
  have q2:=V4 (S:=f.xs.map (·.ino)) (vf hi.rises) fun n hn=>hall n (Gi.2 hn)
  rw[List.length_map]at q2
  exact Nat.le_antisymm q1 q2
 unfold Ji
 rw[if_pos h1,if_pos h2,if_pos h3,if_pos h4,if_pos h5,if_pos (show kA f from h.fit)]
open Classical in
theorem zdh {f:FsV} (h:okV f):FsR f:=by
 obtain ⟨h0,h1,h2,h3,h4,h5,h6⟩:=qA h
 have hi:=XH h.2
 refine ⟨fun x hx=>?_,?_,h6,h1.1,h1.2.1,h1.2.2.1,h1.2.2.2.1⟩
 ·obtain ⟨a1,a2,a3,a4⟩:=h2 x hx
  obtain ⟨b1,b2⟩:=h4 x hx
  refine ⟨fun hk=>(a2 hk).2,fun hk=>(a3 hk).1,fun e he=>?_,a4,fun hn=>?_,fun hk hn=>?_,fun hn=>?_⟩
  ·obtain ⟨i,hi',rfl⟩:=List.getElem_of_mem he
   exact ((a3 (Qv hi hx he)).2 i hi').1
  ·rw[if_neg hn]at b2;rw[b1];omega
  ·rw[if_neg hn]at b2;rw[b1,(b2.2 hk).1];rfl
  ·rw[if_pos hn]at b2;exact b2.2
 ·refine ⟨fun n=>if hd:∃ k,Dep f.xs k n then hd.choose else 0,fun y hy e he hk=>?_⟩
  have hs:=XK hi hy
  have hh:=hi.led y hy e he
  have g:=zh hh
  have hyk:=Qv hi hy he
  have hey:e∈(ze y.ino f.xs).es:=by rw[hs];exact he
  have hne:e.ino≠1:=jJ h (Yh hy) hey
  constructor
  ·have b:=(h4 _ g.2.1).2
   rw[g.2.2,if_neg hne]at b
   obtain ⟨c1,c2⟩:=b.2 hk
   rw[c2]
   exact zcN (by omega) fun q hq=>(ya (ZA.2 ⟨y,hy,e,he,rfl,rfl⟩) hq c1).symm
  ·obtain ⟨k,hd⟩:=HM h (Yh hy)
   have hd2:=Dep.step hd (Yh hy) hey
   have e1:∃ k,Dep f.xs k y.ino:=⟨k,hd⟩
   have e2:∃ k,Dep f.xs k e.ino:=⟨k+1,hd2⟩
   show (if hd:∃ k,Dep f.xs k y.ino then hd.choose else 0)<if hd:∃ k,Dep f.xs k e.ino then hd.choose else 0
   rw[dif_pos e1,dif_pos e2,ZI h _ _ _ e1.choose_spec hd (Yh hy) (by rw[hs];exact hyk),ZI h _ _ _ e2.choose_spec hd2 hh hk]
   exact Nat.lt_succ_self k
end
section
theorem zfc {f:FsV} (hi:FsI f) (hr:FsR f) {n:Int} (hh:zt n f.xs=true) (hk:(ze n f.xs).kind=2):zt (ze n f.xs).parent f.xs=true:=by
 have g:=zh hh
 by_cases h1:n=1
 ·rw[(hr.node _ g.2.1).top (by rw[g.2.2];exact h1)];exact hi.root
 ·have hl:=(hr.node _ g.2.1).named (by rw[g.2.2];exact h1)
  rw[FsR.links hi g.2.1,g.2.2]at hl
  obtain ⟨p,hp⟩:=vO (n:=n) (l:=qg f.xs) (by omega)
  obtain ⟨y,hy,e,he,q1,q2⟩:=ZA.1 hp
  obtain ⟨rk,hed⟩:=hr.edge
  have:=(hed y hy e he (by rw[q1];exact hk)).1
  rw[q1]at this
  rw[this];exact Yh hy
end
section
theorem Zh {f:FsV} (hi:FsI f) (hr:FsR f) {nm:List UInt8}:∀ (k:Nat) (l:YC) (s:zV),(s.ino≠0->zt s.ino f.xs=true) ->
  (∃ e,e≠0/\∀ dir,onN f false k (l++[nm]) s dir=(qd,e))∨∃ k' s',(s'.ino≠0->zt s'.ino f.xs=true)/\∀ dir,onN f false k (l++[nm]) s dir=onN f false k' [nm] s' dir
 | k,[],s,hs=>.inr ⟨k,s,hs,fun _=>rfl⟩
 | k,n :: r,s,hs=>by
  have hne:r++[nm]≠[]:=by simp
  have un:∀ dir,onN f false k (n :: r++[nm]) s dir=onL f false (lkN f false k) (n :: (r++[nm])) s dir:=fun dir=>by rw[JT];rfl
  by_cases h0:s.ino=0
  ·exact .inl ⟨1,by decide,fun dir=>by rw[un];unfold onL;rw[if_pos h0]⟩
  have hh:=hs h0
  by_cases hk:(ze s.ino f.xs).kind=2
  case neg=>exact .inl ⟨3,by decide,fun dir=>by rw[un];unfold onL;rw[if_neg h0,if_pos hk]⟩
  have hk':¬(ze s.ino f.xs).kind≠2:=fun q=>q hk
  have hg:=zh hh
  by_cases h1:n = [46]
  ·rcases Zh hi hr (nm:=nm) k r ⟨0,[],(ze s.ino f.xs).ino⟩ (fun _=>by show zt (ze s.ino f.xs).ino f.xs=true;rw[hg.2.2];exact hh) with ⟨e,e1,e2⟩ | ⟨k',s',e1,e2⟩
   ·exact .inl ⟨e,e1,fun dir=>by rw[un];unfold onL;rw[if_neg h0,if_neg hk',if_pos h1,←JT];exact e2 dir⟩
   ·exact .inr ⟨k',s',e1,fun dir=>by rw[un];unfold onL;rw[if_neg h0,if_neg hk',if_pos h1,←JT];exact e2 dir⟩
  by_cases h2:n = [46,46]
  ·rcases Zh hi hr (nm:=nm) k r ⟨0,[],(ze s.ino f.xs).parent⟩ (fun _=>zfc hi hr hh hk) with ⟨e,e1,e2⟩ | ⟨k',s',e1,e2⟩
   ·exact .inl ⟨e,e1,fun dir=>by rw[un];unfold onL;rw[if_neg h0,if_neg hk',if_neg h1,if_pos h2,←JT];exact e2 dir⟩
   ·exact .inr ⟨k',s',e1,fun dir=>by rw[un];unfold onL;rw[if_neg h0,if_neg hk',if_neg h1,if_pos h2,←JT];exact e2 dir⟩
  by_cases h3:Xl n (ze s.ino f.xs).es=false∨(ze (zG n (ze s.ino f.xs).es) f.xs).kind≠3
  ·have hc:∀ dir:Bool,Xl n (ze s.ino f.xs).es=false∨(ze (zG n (ze s.ino f.xs).es) f.xs).kind≠3∨(r++[nm] = []/\false=false/\dir=false):=fun dir=>h3.imp id .inl
   have hin:zG n (ze s.ino f.xs).es≠0->zt (zG n (ze s.ino f.xs).es) f.xs=true:=fun q=>by
    have hx:Xl n (ze s.ino f.xs).es=true:=by
     unfold Xl
     rw[qP]
     cases hq:jk z8.name n (ze s.ino f.xs).es with
     | some e=>rfl
     | none=>unfold zG at q;rw[hq]at q;exact absurd rfl q
    exact HL hi hh hx
   rcases Zh hi hr (nm:=nm) k r ⟨(ze s.ino f.xs).ino,n,zG n (ze s.ino f.xs).es⟩ hin with ⟨e,e1,e2⟩ | ⟨k',s',e1,e2⟩
   ·exact .inl ⟨e,e1,fun dir=>by rw[un];unfold onL;rw[if_neg h0,if_neg hk',if_neg h1,if_neg h2,if_pos (hc dir),←JT];exact e2 dir⟩
   ·exact .inr ⟨k',s',e1,fun dir=>by rw[un];unfold onL;rw[if_neg h0,if_neg hk',if_neg h1,if_neg h2,if_pos (hc dir),←JT];exact e2 dir⟩
  ·have hc:∀ dir:Bool,¬(Xl n (ze s.ino f.xs).es=false∨(ze (zG n (ze s.ino f.xs).es) f.xs).kind≠3∨(r++[nm] = []/\false=false/\dir=false)):=fun dir q=>by
    rcases q with q | q | ⟨q,_⟩
    ·exact h3 (.inl q)
    ·exact h3 (.inr q)
    ·exact hne q
   have ul:∀ dir,onN f false k (n :: r++[nm]) s dir=lkN f false k (ze (zG n (ze s.ino f.xs).es) f.xs) (ze s.ino f.xs) (r++[nm]) dir:=fun dir=>by
    rw[un];unfold onL;rw[if_neg h0,if_neg hk',if_neg h1,if_neg h2,if_neg (hc dir)]
   cases k with
   | zero=>exact .inl ⟨6,by decide,fun dir=>by rw[ul];rfl⟩
   | succ k =>
    by_cases hlg:J7 (ze (zG n (ze s.ino f.xs).es) f.xs).data=true
    ·exact .inl ⟨7,by decide,fun dir=>by rw[ul,JH,if_pos hlg]⟩
    ·have hin:(if YH (ze (zG n (ze s.ino f.xs).es) f.xs).data then (1:Int) else (ze s.ino f.xs).ino)≠0->zt (if YH (ze (zG n (ze s.ino f.xs).es) f.xs).data then (1:Int) else (ze s.ino f.xs).ino) f.xs=true:=fun _=>by
      split
      ·exact hi.root
      ·rw[hg.2.2];exact hh
     rcases Zh hi hr (nm:=nm) k (zi (ze (zG n (ze s.ino f.xs).es) f.xs).data++r) ⟨0,[],if YH (ze (zG n (ze s.ino f.xs).es) f.xs).data then 1 else (ze s.ino f.xs).ino⟩ hin with ⟨e,e1,e2⟩ | ⟨k',s',e1,e2⟩
     ·exact .inl ⟨e,e1,fun dir=>by
       rw[ul,JH,if_neg hlg,←List.append_assoc,decide_eq_false hne,Bool.and_false,Bool.or_false]
       exact e2 dir⟩
     ·exact .inr ⟨k',s',e1,fun dir=>by
       rw[ul,JH,if_neg hlg,←List.append_assoc,decide_eq_false hne,Bool.and_false,Bool.or_false]
       exact e2 dir⟩
termination_by k l=>(k,l.length)
theorem zmu {f:FsV} (hi:FsI f) {nm:List UInt8} (n1:nm≠[46]) (n2:nm≠[46,46]) {k:Nat} {s t:zV} {dir:Bool} (hs:s.ino≠0->zt s.ino f.xs=true) (h:onN f false k [nm] s dir=(t,0)) (ht:t.ino≠0) :
  zI f t∨(dir=true/\∃ u,onN f false k [nm] s false=(u,0)/\(ze u.ino f.xs).kind=3):=by
 rw[JT]at h ⊢
 unfold onL at h ⊢
 by_cases h0:s.ino=0
 ·rw[if_pos h0]at h;cases h
 rw[if_neg h0]at h ⊢
 have hh:=hs h0
 have hg:=zh hh
 by_cases hk:(ze s.ino f.xs).kind=2
 case neg=>rw[if_pos hk]at h;cases h
 have hk':¬(ze s.ino f.xs).kind≠2:=fun q=>q hk
 rw[if_neg hk',if_neg n1,if_neg n2]at h ⊢
 have hgood:∀ d:Bool,onL f false (lkN f false k) [] ⟨(ze s.ino f.xs).ino,nm,zG nm (ze s.ino f.xs).es⟩ d=(t,0)->zI f t:=fun d q=>by
  unfold onL at q
  split at q
  ·cases q
  ·have q:=(Prod.mk.inj q).1
   subst q
   have hx:Xl nm (ze s.ino f.xs).es=true:=by
    unfold Xl
    rw[qP]
    cases hq:jk z8.name nm (ze s.ino f.xs).es with
    | some e=>rfl
    | none=>exact absurd (by show zG nm (ze s.ino f.xs).es=0;unfold zG;rw[hq]) ht
   have e1:(ze s.ino f.xs).ino=s.ino:=hg.2.2
   refine ⟨by show zt (ze s.ino f.xs).ino f.xs=true;rw[e1];exact hh,by show (ze (ze s.ino f.xs).ino f.xs).kind=2;rw[e1];exact hk,?_⟩
   show jk z8.name nm (ze (ze s.ino f.xs).ino f.xs).es=_
   rw[e1];exact XZ hx
 by_cases hc:Xl nm (ze s.ino f.xs).es=false∨(ze (zG nm (ze s.ino f.xs).es) f.xs).kind≠3∨(([]:YC) = []/\false=false/\dir=false)
 ·rw[if_pos hc]at h
  exact .inl (hgood _ h)
 ·have hd:dir=true:=by
   cases dir with
   | true=>rfl
   | false=>exact absurd (.inr (.inr ⟨rfl,rfl,rfl⟩)) hc
  refine .inr ⟨hd,⟨(ze s.ino f.xs).ino,nm,zG nm (ze s.ino f.xs).es⟩,?_,Classical.byContradiction fun q=>hc (.inr (.inl q))⟩
  rw[if_pos (.inr (.inr ⟨rfl,rfl,rfl⟩))]
  unfold onL
  rw[if_neg (fun q=>by cases q.2.1)]
end
section
def bN (x:zn):Nat:=if x.kind=1 then x.data.length else 0
theorem JV:∀ xs:List zn,qr xs=J1 bN xs
 | []=>rfl
 | x :: r=>by
  have ih:=JV r
  unfold qr J1 at ih ⊢
  rw[List.map_cons,List.sum_cons,←ih,List.filter_cons]
  unfold bN
  by_cases h:x.kind=1<;>simp[h]
theorem Mg {xs:List zn} (hR:qh xs) {x:zn} (hh:zt x.ino xs=true):qr (jd x xs)+bN (ze x.ino xs)=qr xs+bN x:=by
 have:=VT bN (x:=x) hR
 rw[(zh hh).1]at this
 rw[JV,JV];exact this
theorem Np {xs:List zn} (hR:qh xs) {x:zn} (hh:zt x.ino xs=false):qr (jd x xs)=qr xs+bN x:=by
 have:=VT bN (x:=x) hR
 rw[(Jk hh).1]at this
 rw[JV,JV];exact this
theorem zbP {xs:List zn} (hR:qh xs) (n:Int):qr (zU n xs)<=qr xs:=by
 have:=XO bN (n:=n) hR
 rw[JV,JV];omega
theorem NC {xs:List zn} (hR:qh xs) {n:Int} {F:List z8->List z8} (hh:zt n xs=true):qr (jl n F xs)=qr xs:=by
 have hg:=zh hh
 have:=Mg hR (x:=jQ (ze n xs) (F (ze n xs).es)) (by show zt (ze n xs).ino xs=true;rw[hg.2.2];exact hh)
 have e:bN (ze (jQ (ze n xs) (F (ze n xs).es)).ino xs)=bN (jQ (ze n xs) (F (ze n xs).es)):=by
  show bN (ze (ze n xs).ino xs)=bN (ze n xs)
  rw[hg.2.2]
 rw[e]at this
 exact Nat.add_right_cancel this
theorem znn {x:zn} {xs:List zn} (hR:qh xs) (hh:zt x.ino xs=false):(jd x xs).length=xs.length+1:=by rw[←vE hR hh];simp;have:=zgG x.ino xs;omega
theorem zfY (n:Int) (xs:List zn):(zU n xs).length<=xs.length:=List.length_filter_le _ _
theorem znB.turn {x:zn} (h:znB x) {es:List z8} (he:∀ e∈es,may e.name=true):znB (jQ x es):=⟨h.par,h.bare,he,h.lnk,h.named,h.one,h.top⟩
theorem XX {xs:List zn} {n m:Int} {F:List z8->List z8} (hh:zt n xs=true):(ze m (jl n F xs)).kind=(ze m xs).kind/\(ze m (jl n F xs)).parent=(ze m xs).parent/\(ze m (jl n F xs)).links=(ze m xs).links:=by
 rw[Y3 hh]
 split
 ·subst_vars;exact ⟨rfl,rfl,rfl⟩
 ·exact ⟨rfl,rfl,rfl⟩
theorem FsR.like {f g:FsV} (h:FsR f) (hN:∀ z∈g.xs,znB z) (hE:∀ z∈g.xs,∀ e∈z.es,(ze e.ino g.xs).kind=2->∃ y∈f.xs,y.ino=z.ino/\e∈y.es/\(ze e.ino f.xs).kind=2/\(ze e.ino g.xs).parent=(ze e.ino f.xs).parent)
  (h1:g.maxI=f.maxI) (h2:g.maxB=f.maxB) (hl:g.xs.length<=f.xs.length) (hb:(qr g.xs:Int)<=f.maxB):FsR g:=by
 obtain ⟨rk,hr⟩:=h.edge
 refine ⟨hN,⟨rk,fun z hz e he hk=>?_⟩,?_,by rw[h1,h2];exact h.lim⟩
 ·obtain ⟨y,hy,q1,q2,q3,q4⟩:=hE z hz e he hk
  have:=hr y hy e q2 q3
  rw[q4,←q1];exact this
 ·have:=h.fit
  rw[h1,h2];omega
theorem zjG {f:FsV} (hi:FsI f) (h:FsR f) {s:zV} (hs:zI f s) (he:(ze s.ino f.xs).es = []):FsR (zk f s):=by
 have hok:=Uw hi hs he
 have hd:=zh hs.has
 have hh:=zI.ino hi hs
 have hx:=zh hh
 have hn:=h.node _ hx.2.1
 have hne:s.dir≠s.ino:=fun e=>by
  have:=(qt hs.there).2
  rw[e,he]at this
  cases this
 have hr1:=Hn hi hs
 have hR1:qh (jl s.dir (zg s.name) f.xs):=Jn hi.rises
 have hdn:znB (jQ (ze s.dir f.xs) (zg s.name (ze s.dir f.xs).es)):=(h.node _ hd.2.1).turn fun e he=>(h.node _ hd.2.1).nam e (jI he).1
 by_cases hl:(ze s.ino f.xs).links-1=0
 ·have e0:zk f s = { f with xs:=zU s.ino (jl s.dir (zg s.name) f.xs) }:=by unfold zk;rw[if_pos hl]
  rw[e0]at hok ⊢
  refine h.like (fun z hz=>?_) (fun z hz e he hke=>?_) rfl rfl ?_ ?_
  ·rcases (QH hs.has).1 (YM.1 hz).1 with rfl | ⟨hz,_⟩
   ·exact hdn
   ·exact h.node z hz
  ·have hee:e.ino≠s.ino:=fun q=>by
    have:=hok.led z hz e he
    rw[YD,q]at this
    simp at this
   have hg:ze e.ino (zU s.ino (jl s.dir (zg s.name) f.xs))=ze e.ino (jl s.dir (zg s.name) f.xs):=by rw[Zd,if_neg hee]
   show ∃ y∈f.xs,y.ino=z.ino/\e∈y.es/\_/\(ze e.ino (zU s.ino _)).parent=_
   have hke:(ze e.ino (zU s.ino (jl s.dir (zg s.name) f.xs))).kind=2:=hke
   rw[hg,(XX hs.has).1]at hke
   rw[hg,(XX hs.has).2.1]
   rcases (QH hs.has).1 (YM.1 hz).1 with rfl | ⟨hz,_⟩
   ·exact ⟨_,hd.2.1,rfl,(jI he).1,hke,rfl⟩
   ·exact ⟨z,hz,rfl,he,hke,rfl⟩
  ·exact Nat.le_trans (zfY _ _) (by rw[ZM hi.rises hs.has];exact Nat.le_refl _)
  ·have:=zbP hR1 s.ino
   rw[NC hi.rises hs.has]at this
   have:=h.fit.2
   show (qr (zU _ _):Int)<=_
   omega
 ·have e0:zk f s = { f with xs:=jd { ze s.ino f.xs with links:=(ze s.ino f.xs).links-1 } (jl s.dir (zg s.name) f.xs) }:=by unfold zk;rw[if_neg hl]
  rw[e0]at hok ⊢
  have hhi:zt ({ ze s.ino f.xs with links:=(ze s.ino f.xs).links-1 }:zn).ino (jl s.dir (zg s.name) f.xs)=true:=by rw[JP hs.has];show zt (ze s.ino f.xs).ino f.xs=true;rw[hx.2.2];exact hh
  have hgot:∀ m,(ze m (jd { ze s.ino f.xs with links:=(ze s.ino f.xs).links-1 } (jl s.dir (zg s.name) f.xs))).kind=(ze m f.xs).kind/\(ze m (jd { ze s.ino f.xs with links:=(ze s.ino f.xs).links-1 } (jl s.dir (zg s.name) f.xs))).parent=(ze m f.xs).parent:=fun m=>by
   simp only[YS,hx.2.2]
   split
   ·subst_vars;exact ⟨rfl,rfl⟩
   ·exact ⟨(XX hs.has).1,(XX hs.has).2.1⟩
  have hnm:=hn.named (by rw[hx.2.2];exact hr1)
  refine h.like (fun z hz=>?_) (fun z hz e he hke=>?_) rfl rfl ?_ ?_
  ·rcases Y4.1 hz with rfl | ⟨hz,_⟩
   ·exact ⟨hn.par,hn.bare,hn.nam,hn.lnk,fun q=>by show 1<=(ze s.ino f.xs).links-1;omega,fun q1 q2=>by have:=hn.one q1 q2;omega,hn.top⟩
   ·rcases (QH hs.has).1 hz with rfl | ⟨hz,_⟩
    ·exact hdn
    ·exact h.node z hz
  ·have hke:(ze e.ino (jd { ze s.ino f.xs with links:=(ze s.ino f.xs).links-1 } (jl s.dir (zg s.name) f.xs))).kind=2:=hke
   rw[(hgot _).1]at hke
   rcases Y4.1 hz with rfl | ⟨hz,_⟩
   ·exact ⟨_,hx.2.1,rfl,he,hke,(hgot _).2⟩
   ·rcases (QH hs.has).1 hz with rfl | ⟨hz,_⟩
    ·exact ⟨_,hd.2.1,rfl,(jI he).1,hke,(hgot _).2⟩
    ·exact ⟨z,hz,rfl,he,hke,(hgot _).2⟩
  ·show (jd _ _).length<=_
   rw[QX hR1 hhi,ZM hi.rises hs.has];exact Nat.le_refl _
  ·have:=Mg hR1 hhi
   have e1:bN (ze ({ ze s.ino f.xs with links:=(ze s.ino f.xs).links-1 }:zn).ino (jl s.dir (zg s.name) f.xs))=bN { ze s.ino f.xs with links:=(ze s.ino f.xs).links-1 }:=by
    show bN (ze (ze s.ino f.xs).ino _)=_
    rw[hx.2.2,Y3 hs.has,if_neg hne]
    rfl
   rw[e1,NC hi.rises hs.has]at this
   show (qr (jd _ _):Int)<=_
   have:=h.fit.2
   omega
end
section
inductive Bel (xs:List zn) (x:Int):Int->Prop
 | refl:Bel xs x x
 | step {y n:Int}:Bel xs x y->zt y xs=true->(∃ e∈(ze y xs).es,e.ino=n)->Bel xs x n
end
section
inductive kx (xs:List zn):List (List UInt8)->Int->Prop
 | root:kx xs [] 1
 | step {ns:List (List UInt8)} {y n:Int} {m:List UInt8}:kx xs ns y->zt y xs=true->(ze y xs).kind=2->jk z8.name m (ze y xs).es=some ⟨m,n⟩->kx xs (ns++[m]) n
end
section
structure zom (w:qR):Prop where
 fs:FsR w.fs
 pool:∀ x∈w.pool,qp w x
 slots:∀ k∈w.kept,1<=k.slot
 kept:∀ k∈w.kept,Xj w k
theorem zn8 {w:qR} (h:okW w):zom w:=⟨zdh ⟨h.1.2.1,h.2.1⟩,h.2.2.2.1,h.2.2.2.2.1.2,h.2.2.2.2.2⟩
theorem Yf {k z:zP} {ks:List zP}:z∈qv k ks↔z=k∨z∈ks:=Gk
theorem MC {w w':qR} {x:zn} (h:qp w x) (h1:zt x.ino w'.fs.xs=false) (h2:w.fs.next<=w'.fs.next) (h3:∀ k∈w.kept,k∈w'.kept):qp w' x:=by
 obtain ⟨q1,q2,q3,q4,q5,q6,q7,q8,q9,q10⟩:=h
 refine ⟨h1,q2,by omega,q4,q5,q6,q7,q8,q9,?_⟩
 rw[List.any_eq_true]at q10 ⊢
 obtain ⟨k,hk,e⟩:=q10
 exact ⟨k,h3 k hk,e⟩
theorem znD {w:qR} (hi:yW w) (h:zom w) {n:Int} (h1:1<=n) (h2:n<=1073741824) {s:zV} (hs:zI w.fs s) (he:(ze s.ino w.fs.xs).es = []):zom (Js w n s).1:=by
 have hI:=vK hi (n:=n) hs he
 unfold Js at hI ⊢
 cases hn:xx n w.kept with
 | true=>rw[if_pos rfl];exact h
 | false =>
  rw[hn,if_neg (by simp)]at hI
  rw[if_neg (by simp)]
  have hh:=zI.ino hi.fs hs
  have hx:=zh hh
  have hnd:=h.fs.node _ hx.2.1
  have hr:=zjG hi.fs h.fs hs he
  have hhas:=XW hs.has hh
  have hnp:zt s.ino w.pool=false:=by
   rw[Bool.eq_false_iff]
   intro hq
   have:=(hi.apart _ (zh hq).2.1).1
   rw[(zh hq).2.2,hh]at this;cases this
  have hgk:∀ m,zt m (zk w.fs s).xs=true->(ze m (zk w.fs s).xs).kind=(ze m w.fs.xs).kind:=fun m hm=>by
   unfold zk at hm ⊢
   by_cases hl:(ze s.ino w.fs.xs).links-1=0
   ·rw[if_pos hl]at hm ⊢
    have hm:zt m (zU _ _)=true:=hm
    show (ze m (zU _ _)).kind=_
    rw[YD]at hm
    rw[Zd,if_neg (fun e=>by rw[e]at hm;simp at hm)]
    exact (XX hs.has).1
   ·rw[if_neg hl]
    show (ze m (jd _ _)).kind=_
    rw[YS]
    split
    ·rename_i e
     have e:(ze s.ino w.fs.xs).ino=m:=e
     rw[hx.2.2]at e;subst e;rfl
    ·exact (XX hs.has).1
  by_cases hl:(ze s.ino w.fs.xs).links=1
  ·rw[if_pos hl]at hI ⊢
   have hhp:∀ m,zt m (jd { ze s.ino w.fs.xs with links:=0,parent:=0 } w.pool)=(decide (s.ino=m)||zt m w.pool):=fun m=>by
    rw[V5]
    show (decide ((ze s.ino w.fs.xs).ino=m)||_)=_
    rw[hx.2.2]
   refine ⟨hr,fun x hxx=>?_,fun k hk=>?_,fun k hk=>?_⟩
   ·have ha:=(hI.apart x hxx).1
    rcases Y4.1 hxx with rfl | ⟨hxp,_⟩
    ·have hir:=hi.fs.ino _ hx.2.1
     refine ⟨ha,hir.1,by show _<(zk w.fs s).next;rw[JQ];exact hir.2,rfl,rfl,he,hi.fs.kind (ze s.ino w.fs.xs) hx.2.1,hnd.bare,hnd.lnk,?_⟩
     rw[List.any_eq_true]
     refine ⟨_,Yf.2 (.inl rfl),?_⟩
     show (decide (s.ino=(ze s.ino w.fs.xs).ino)&&!false)=true
     rw[hx.2.2];simp
    ·exact MC (h.pool x hxp) ha (by show w.fs.next<=(zk w.fs s).next;rw[JQ];exact Int.le_refl _) fun k hk=>Yf.2 (.inr hk)
   ·rcases Yf.1 hk with rfl | hk
    ·exact h1
    ·exact h.slots k hk
   ·rcases Yf.1 hk with rfl | hk
    ·exact ⟨h2,.inr (by show zt s.ino _=true;rw[hhp];simp),fun q=>(by cases q),fun _=>rfl⟩
    ·obtain ⟨q1,q2,q3,q4⟩:=h.kept k hk
     refine ⟨q1,?_,fun hc=>?_,q4⟩
     ·show zt k.ino (zk w.fs s).xs=true∨zt k.ino _=true
      rw[hhp,hhas,if_pos (by omega)]
      by_cases e:k.ino=s.ino
      ·right;rw[e];simp
      ·rcases q2 with q2 | q2
       ·left;rw[q2,decide_eq_false e];rfl
       ·right;rw[q2,Bool.or_true]
     ·have:=q3 hc
      show (if zt k.ino _=true then ze k.ino _ else ze k.ino (zk w.fs s).xs).kind=1
      by_cases e:s.ino=k.ino
      ·rw[if_pos (by rw[hhp,decide_eq_true e];rfl),YS,if_pos (by rw[←e];exact hx.2.2)]
       rw[←e,hnp,if_neg (by simp)]at this
       exact this
      ·rw[hhp,decide_eq_false e,Bool.false_or]
       have e5:ze k.ino (jd { ze s.ino w.fs.xs with links:=0,parent:=0 } w.pool)=ze k.ino w.pool:=by
        rw[YS]
        exact if_neg fun q=>e (hx.2.2.symm.trans q)
       rw[e5]
       by_cases hq:zt k.ino w.pool=true
       ·rw[if_pos hq]at this ⊢;exact this
       ·rw[if_neg hq]at this ⊢
        have q5:=q2.resolve_right hq
        rw[hgk _ (by rw[hhas,if_pos (by omega),q5,decide_eq_false (fun q=>e q.symm)];rfl)];exact this
  ·rw[if_neg hl]at hI ⊢
   have hall:∀ m,zt m (zk w.fs s).xs=zt m w.fs.xs:=fun m=>by rw[hhas,if_neg (by omega)]
   refine ⟨hr,fun x hxx=>?_,fun k hk=>?_,fun k hk=>?_⟩
   ·exact MC (h.pool x hxx) (hI.apart x hxx).1 (by show w.fs.next<=(zk w.fs s).next;rw[JQ];exact Int.le_refl _) fun k hk=>Yf.2 (.inr hk)
   ·rcases Yf.1 hk with rfl | hk
    ·exact h1
    ·exact h.slots k hk
   ·rcases Yf.1 hk with rfl | hk
    ·exact ⟨h2,.inl (by show zt s.ino (zk w.fs s).xs=true;rw[hall];exact hh),fun q=>(by cases q),fun _=>rfl⟩
    ·obtain ⟨q1,q2,q3,q4⟩:=h.kept k hk
     refine ⟨q1,?_,fun hc=>?_,q4⟩
     ·show zt k.ino (zk w.fs s).xs=true∨_
      rw[hall];exact q2
     ·have:=q3 hc
      show (if zt k.ino w.pool=true then ze k.ino w.pool else ze k.ino (zk w.fs s).xs).kind=1
      by_cases hq:zt k.ino w.pool=true
      ·rw[if_pos hq]at this ⊢;exact this
      ·rw[if_neg hq]at this ⊢
       rw[hgk _ (by rw[hall];exact q2.resolve_right hq)];exact this
end
section
inductive zja (w:qR):List OpV->qR->Prop
 | nil:zja w [] w
 | snoc {l:List OpV} {v:qR} {o:OpV}:zja w l v->(doV v o).2=0->zja w (l++[o]) (doV v o).1
theorem zoB {w:qR} {o:OpV} (h:(doV w o).2=0):yZ o=true:=by
 cases hm:yZ o with
 | true=>rfl
 | false=>unfold doV at h;rw[hm,if_pos (by rfl)]at h;exact absurd h (show ¬(12:Int)=0 by decide)
structure zs8 (w:qR) (d:zH):Prop where
 run:zja w d.ops d.w
 may:∀ o∈d.ops,yZ o=true/\o.kind<=7
 rise:(zkt d.ops).Pairwise (· < ·)
 over:∀ s∈zkt d.ops,jH w.kept<s/\s<=d.slot
 last:jH w.kept<=d.slot
 stat:(d.status=1)↔d.diags≠[]
 right:zom d.w
end
section
theorem zfm {f:FsV} (hi:FsI f) {ns:List (List UInt8)} {y:Int} (h:kx f.xs ns y):∃ d nm,∀ r,atW f.xs (ns++r) ⟨0,[],1⟩=atW f.xs r ⟨d,nm,y⟩:=by
 induction h with
 | root=>exact ⟨0,[],fun r=>rfl⟩
 | step h1 h2 h3 h4 ih =>
  rename_i ns y n m
  obtain ⟨d,nm,ih⟩:=ih
  refine ⟨y,m,fun r=>?_⟩
  rw[List.append_assoc,ih]
  show atW f.xs (m :: r) ⟨d,nm,y⟩=_
  have hne:y≠0:=Vn hi h2
  have e1:(ze y f.xs).ino=y:=(zh h2).2.2
  have e2:zG m (ze y f.xs).es=n:=by unfold zG;rw[h4]
  rw[atW,if_neg hne,if_neg (fun q=>q h3),e1,e2]
theorem Mw {f:FsV} (h:okV f):∀ (m:Nat) (n:Int) (ns:List (List UInt8)),kx f.xs ns n->∀ p∈qM f.xs m n ns,kx f.xs p.1 p.2.ino
 | 0,n,ns,hl,p,hp=>by unfold qM at hp;cases hp
 | m+1,n,ns,hl,p,hp=>by
  unfold qM at hp
  split at hp
  ·rename_i hh
   rcases List.mem_cons.1 hp with rfl | hp
   ·show kx f.xs ns (ze n f.xs).ino
    rw[(zh hh).2.2];exact hl
   ·obtain ⟨e,he,hp⟩:=List.mem_flatMap.1 hp
    have hi:=XH h.2
    refine Mw h m e.ino _ (.step hl hh (Uc h hh he) ?_) p hp
    have hR:=hi.es _ (zh hh).2.1
    have hx:Xl e.name (ze n f.xs).es=true:=by
     unfold Xl J3
     rw[List.any_eq_true]
     exact ⟨e,he,by simp⟩
    have h2:=XZ hx
    have h3:=qt h2
    have:(⟨e.name,zG e.name (ze n f.xs).es⟩:z8)=e:=by
     obtain ⟨i,hi',ei⟩:=List.getElem_of_mem h3.2
     obtain ⟨j,hj',ej⟩:=List.getElem_of_mem he
     have hp:=List.pairwise_iff_getElem.1 hR
     rcases Nat.lt_trichotomy i j with q | q | q
     ·have:=hp i j hi' hj' q
      rw[ei,ej]at this
      exact absurd this (by show ¬Op.bytesLess e.name e.name=true;rw[XU];simp)
     ·subst q;rw[←ei,ej]
     ·have:=hp j i hj' hi' q
      rw[ei,ej]at this
      exact absurd this (by show ¬Op.bytesLess e.name e.name=true;rw[XU];simp)
    rw[h2]
    have e2:zG e.name (ze n f.xs).es=e.ino:=congrArg z8.ino this
    rw[e2]
  ·cases hp
theorem uz {f:FsV} (h:okV f) {n:Int} (hh:zt n f.xs=true) (hk:(ze n f.xs).kind=2):∃ ns,(∀ z∈ns,may z=true)/\Uj n (trV f.xs 1 [])=some (zY ns)/\kx f.xs ns n:=by
 obtain ⟨h0,h1,_⟩:=qA h
 have hkk:∀ p∈trV f.xs 1 [],p.2.ino=n->p.2.kind=2:=fun p hp hpn=>by
  obtain ⟨_,q⟩:=Ur hp
  rw[hpn]at q;rw[←q];exact hk
 obtain ⟨p,hp⟩:=VU (YI h _ 1 [] h1.2.2.2.2.2.2.2.1) hkk (zdP h hh)
 obtain ⟨q,q1,q2⟩:=M3 h hh hk
 have hq:Qn n (trV f.xs 1 []) = [zY p.1]:=by unfold Qn;rw[hp];rfl
 rw[hq]at q1
 have hqe:zY p.1=q:=by simpa using q1
 have hpf:p∈(trV f.xs 1 []).filter (fun p=>decide (p.2.ino=n)):=by rw[hp];exact List.mem_singleton.2 rfl
 obtain ⟨hpm,hpn⟩:=List.mem_filter.1 hpf
 obtain ⟨zs,z1,z2⟩:=Gy (U4 h).1 _ 1 [] p hpm
 rw[List.nil_append]at z1
 rw[←z1]at z2
 have hl:=Mw h _ 1 [] .root p hpm
 have hpn:p.2.ino=n:=by simpa using hpn
 rw[hpn]at hl
 exact ⟨p.1,z2,by rw[q2,hqe],hl⟩
theorem zly {f:FsV} (hi:FsI f) {ns:List (List UInt8)} {n:Int} (hl:kx f.xs ns n) (hh:zt n f.xs=true) (hk:(ze n f.xs).kind=2) (hn:∀ z∈ns,may z=true) {m:List UInt8} (hm:may m=true):Jr (zY (ns++[m]))=true/\atV f (zY (ns++[m]))=(⟨n,m,zG m (ze n f.xs).es⟩,0):=by
 have hall:∀ z∈ns++[m],may z=true:=fun z hz=>by
  rcases List.mem_append.1 hz with hz | hz
  ·exact hn z hz
  ·rw[List.mem_singleton.1 hz];exact hm
 have hnm:=Ug (ns++[m]) fun z hz=>X0 (hall z hz)
 have hp:J2 (zY (ns++[m]))=true:=by
  unfold J2
  rw[hnm,decide_eq_true rfl,Bool.true_and,List.all_eq_true]
  exact hall
 refine ⟨by unfold Jr;rw[hp,hnm];simp,?_⟩
 unfold atV
 rw[if_pos hp,hnm]
 obtain ⟨d,nm,hw⟩:=zfm hi hl
 rw[hw]
 have hne:n≠0:=Vn hi hh
 rw[atW,if_neg hne,if_neg (fun q=>q hk),(zh hh).2.2]
 rfl
end
section
def Qt (p:List UInt8):OpV:=⟨7,0,p,[],[]⟩
def rmD:Nat->zH->List UInt8->Int->zH
 | 0,d,_,_=>d
 | m+1,d,p,n=>(QG ((ze n d.w.fs.xs).es.foldl (fun d e=>rmD m d (jx p e.name) e.ino) d) (Qt p)).1
def rmR:Nat->FsV->zV->FsV
 | 0,f,s=>zk f s
 | m+1,f,s=>zk ((ze s.ino f.xs).es.foldl (fun g e=>rmR m g ⟨s.ino,e.name,e.ino⟩) f) s
def low (xs:List zn):Nat->Int->Prop
 | 0,n=>(ze n xs).es = []
 | m+1,n=>∀ e∈(ze n xs).es,low xs m e.ino
structure G9 (f g:FsV):Prop where
 es:∀ n e,e∈(ze n g.xs).es->e∈(ze n f.xs).es
 has:∀ n,zt n g.xs=true->zt n f.xs=true/\(ze n g.xs).kind=(ze n f.xs).kind
theorem G9.refl (f:FsV):G9 f f:=⟨fun _ _ h=>h,fun _ h=>⟨h,rfl⟩⟩
theorem G9.trans {f g h:FsV} (a:G9 f g) (b:G9 g h):G9 f h:=⟨fun n e q=>a.es n e (b.es n e q),fun n q=>⟨(a.has n (b.has n q).1).1,(b.has n q).2.trans (a.has n (b.has n q).1).2⟩⟩
theorem G9.low {f g:FsV} (h:G9 f g):∀ {m:Nat} {n:Int},low f.xs m n->low g.xs m n
 | 0,n,q=>by
  unfold Vcg.low at q ⊢
  refine List.eq_nil_iff_forall_not_mem.2 fun e he=>?_
  have:=h.es n e he
  rw[q]at this;cases this
 | m+1,n,q=>fun e he=>h.low (q e (h.es n e he))
theorem G9.bel {f g:FsV} (h:G9 f g) {x y:Int} (q:Bel g.xs x y):Bel f.xs x y:=by
 induction q with
 | refl=>exact .refl
 | step a b c ih =>
  obtain ⟨e,he,q⟩:=c
  exact .step ih (h.has _ b).1 ⟨e,h.es _ e he,q⟩
theorem zhG {f:FsV} (hi:FsI f) {rk:Int->Nat} (hr:zmY rk f.xs) {x y:Int} (h:Bel f.xs x y):(ze y f.xs).kind=2->(ze x f.xs).kind=2/\rk x<=rk y:=by
 induction h with
 | refl=>exact fun h=>⟨h,Nat.le_refl _⟩
 | step a b c ih =>
  intro hk
  obtain ⟨e,he,rfl⟩:=c
  have g:=zh b
  obtain ⟨q1,q2⟩:=ih (Qv hi g.2.1 he)
  have:=(hr _ g.2.1 e he hk).2
  rw[g.2.2]at this
  exact ⟨q1,by omega⟩
def zme (f g:FsV) (n d:Int):Prop:=∀ y,zt y f.xs=true->(ze y f.xs).kind=2->y≠d->¬Bel f.xs n y->zt y g.xs=true/\(ze y g.xs).kind=2/\(ze y g.xs).es=(ze y f.xs).es
theorem zdV {f g:FsV} (hi:FsI f) {rk:Int->Nat} (hr:zmY rk f.xs) {ns:List (List UInt8)} {n:Int} (h:kx f.xs ns n):(∀ y,zt y f.xs=true->(ze y f.xs).kind=2->rk y<rk n->zt y g.xs=true/\(ze y g.xs).kind=2/\(ze y g.xs).es=(ze y f.xs).es)->(ze n f.xs).kind=2->kx g.xs ns n:=by
 induction h with
 | root=>exact fun _ _=>.root
 | step a b c e ih =>
  rename_i ns y n m
  intro hk hd
  have gy:=zh b
  have hlt:=(hr _ gy.2.1 ⟨m,n⟩ (qt e).2 hd).2
  rw[gy.2.2]at hlt
  have hlt:rk y<rk n:=hlt
  obtain ⟨k1,k2,k3⟩:=hk y b c hlt
  exact .step (ih (fun z z1 z2 z3=>hk z z1 z2 (by omega)) c) k1 k2 (by rw[k3];exact e)
theorem Nx {f:FsV} (hi:FsI f) {s:zV} (hs:zI f s) (he:(ze s.ino f.xs).es = []):G9 f (zk f s)/\zme f (zk f s) s.ino s.dir/\zt s.dir (zk f s).xs=true/\(ze s.dir (zk f s).xs).kind=2/\(ze s.dir (zk f s).xs).es=zg s.name (ze s.dir f.xs).es:=by
 have hh:=zI.ino hi hs
 have hx:=zh hh
 have hd:=zh hs.has
 have hne:s.dir≠s.ino:=fun e=>by
  have:=(qt hs.there).2
  rw[e,he]at this
  cases this
 have hhas:=XW hs.has hh
 -- what is there behind it
 have hgot:∀ m,zt m (zk f s).xs=true->(ze m (zk f s).xs).kind=(ze m f.xs).kind/\(ze m (zk f s).xs).es=if m=s.dir then zg s.name (ze s.dir f.xs).es else (ze m f.xs).es:=fun m hm=>by
  unfold zk at hm ⊢
  by_cases hl:(ze s.ino f.xs).links-1=0
  ·rw[if_pos hl]at hm ⊢
   have hm:zt m (zU _ _)=true:=hm
   show (ze m (zU _ _)).kind=_/\(ze m (zU _ _)).es=_
   rw[YD]at hm
   have hmn:m≠s.ino:=fun e=>by rw[e]at hm;simp at hm
   rw[Zd,if_neg hmn,Y3 hs.has]
   by_cases q:s.dir=m
   ·rw[if_pos q,if_pos q.symm];subst q;exact ⟨rfl,rfl⟩
   ·rw[if_neg q,if_neg fun e=>q e.symm];exact ⟨rfl,rfl⟩
  ·rw[if_neg hl]
   show (ze m (jd _ _)).kind=_/\(ze m (jd _ _)).es=_
   rw[YS]
   split
   ·rename_i e
    have e:(ze s.ino f.xs).ino=m:=e
    rw[hx.2.2]at e;subst e
    rw[if_neg fun e=>hne e.symm];exact ⟨rfl,rfl⟩
   ·rw[Y3 hs.has]
    by_cases q:s.dir=m
    ·rw[if_pos q,if_pos q.symm];subst q;exact ⟨rfl,rfl⟩
    ·rw[if_neg q,if_neg fun e=>q e.symm];exact ⟨rfl,rfl⟩
 have hsub:∀ m,zt m (zk f s).xs=true->zt m f.xs=true:=fun m hm=>by
  rw[hhas]at hm
  split at hm
  ·rw[Bool.and_eq_true]at hm;exact hm.2
  ·exact hm
 have hstay:∀ m,zt m f.xs=true->m≠s.ino->zt m (zk f s).xs=true:=fun m hm hn=>by
  rw[hhas]
  split
  ·rw[hm,decide_eq_false hn];rfl
  ·exact hm
 refine ⟨⟨fun n e hee=>?_,fun n hn=>⟨hsub n hn,(hgot n hn).1⟩⟩,fun y y1 y2 y3 y4=>?_,hstay _ hs.has hne,?_,?_⟩
 ·cases hn:zt n (zk f s).xs with
  | false=>rw[(Jk hn).2]at hee;cases hee
  | true =>
   rw[(hgot n hn).2]at hee
   split at hee
   ·subst_vars;exact (jI hee).1
   ·exact hee
 ·have hyn:y≠s.ino:=fun e=>y4 (by rw[e];exact .refl)
  have h1:=hstay y y1 hyn
  obtain ⟨q1,q2⟩:=hgot y h1
  rw[if_neg y3]at q2
  exact ⟨h1,q1.trans y2,q2⟩
 ·rw[(hgot _ (hstay _ hs.has hne)).1];exact hs.kind
 ·rw[(hgot _ (hstay _ hs.has hne)).2,if_pos rfl]
def esN (x:zn):Nat:=x.es.length
theorem zgk {g:zn->Nat} {xs:List zn} (hR:qh xs) {x:zn} (hh:zt x.ino xs=true):J1 g (jd x xs)+g (ze x.ino xs)=J1 g xs+g x:=by
 have:=VT g (x:=x) hR
 rw[(zh hh).1]at this
 exact this
theorem zjt {g:zn->Nat} {xs:List zn} (hR:qh xs) {n:Int} (hh:zt n xs=true):J1 g xs=J1 g (zU n xs)+g (ze n xs):=by
 have:=XO g (n:=n) hR
 rw[(zh hh).1]at this
 exact this
theorem UT {f:FsV} (hi:FsI f) {s:zV} (hs:zI f s) (he:(ze s.ino f.xs).es = []):J1 esN (zk f s).xs+1=J1 esN f.xs:=by
 have hh:=zI.ino hi hs
 have hx:=zh hh
 have hd:=zh hs.has
 have hne:s.dir≠s.ino:=fun e=>by
  have:=(qt hs.there).2
  rw[e,he]at this
  cases this
 have hR1:qh (jl s.dir (zg s.name) f.xs):=Jn hi.rises
 have hw:(ze s.dir f.xs).es.length=(zg s.name (ze s.dir f.xs).es).length+1:=by
  have:=MI (fun _=>true) (hi.es _ hd.2.1) hs.there
  rw[List.filter_eq_self.2 fun _ _=>rfl,List.filter_eq_self.2 fun _ _=>rfl,if_pos rfl]at this
  exact this
 have e1:J1 esN (jl s.dir (zg s.name) f.xs)+(ze s.dir f.xs).es.length=J1 esN f.xs+(zg s.name (ze s.dir f.xs).es).length:=by
  have:=zgk (g:=esN) (x:=jQ (ze s.dir f.xs) (zg s.name (ze s.dir f.xs).es)) hi.rises (by show zt (ze s.dir f.xs).ino f.xs=true;rw[hd.2.2];exact hs.has)
  have q:ze (jQ (ze s.dir f.xs) (zg s.name (ze s.dir f.xs).es)).ino f.xs=ze s.dir f.xs:=by show ze (ze s.dir f.xs).ino f.xs=_;rw[hd.2.2]
  rw[q]at this
  exact this
 have hi1:zt s.ino (jl s.dir (zg s.name) f.xs)=true:=by rw[JP hs.has];exact hh
 have hg1:ze s.ino (jl s.dir (zg s.name) f.xs)=ze s.ino f.xs:=by rw[Y3 hs.has,if_neg hne]
 have h0:esN (ze s.ino f.xs)=0:=by unfold esN;rw[he];rfl
 unfold zk
 split
 ·show J1 esN (zU _ _)+1=_
  have:=zjt (g:=esN) hR1 hi1
  rw[hg1,h0]at this
  omega
 ·show J1 esN (jd _ _)+1=_
  have:=zgk (g:=esN) (x:={ ze s.ino f.xs with links:=(ze s.ino f.xs).links-1 }) hR1 (by show zt (ze s.ino f.xs).ino _=true;rw[hx.2.2];exact hi1)
  have q:ze ({ ze s.ino f.xs with links:=(ze s.ino f.xs).links-1 }:zn).ino (jl s.dir (zg s.name) f.xs)=ze s.ino f.xs:=by show ze (ze s.ino f.xs).ino _=_;rw[hx.2.2];exact hg1
  have q2:esN { ze s.ino f.xs with links:=(ze s.ino f.xs).links-1 }=esN (ze s.ino f.xs):=rfl
  rw[q,q2,h0]at this
  omega
end
section
theorem Bel.up {xs:List zn} {x y:Int} {e:z8} (hh:zt x xs=true) (he:e∈(ze x xs).es) (h:Bel xs e.ino y):Bel xs x y:=by
 induction h with
 | refl=>exact .step .refl hh ⟨e,he,rfl⟩
 | step a b c ih=>exact .step ih b c
structure RmC (d:zH):Prop where
 wi:yW d.w
 wr:zom d.w
 kept:∀ k∈d.w.kept,k.slot<=d.slot
 slot:0<=d.slot
 room:d.slot+(J1 esN d.w.fs.xs:Nat)<=1073741824
theorem XA {f:FsV} (hr:FsR f) {s:zV} (hs:zI f s):may s.name=true:=(hr.node _ (zh hs.has).2.1).nam ⟨s.name,s.ino⟩ (qt hs.there).2
theorem zb1 {d:zH} (h:RmC d) {s:zV} (hs:zI d.w.fs s) (he:(ze s.ino d.w.fs.xs).es = []) {p:List UInt8} (hp:Jr p=true) (ha:atV d.w.fs p=(s,0)) :
  (QG d (Qt p)).2=0/\(QG d (Qt p)).1.w.fs=zk d.w.fs s/\RmC (QG d (Qt p)).1/\(QG d (Qt p)).1.diags=d.diags/\(QG d (Qt p)).1.status=d.status:=by
 have hu:=UT h.wi.fs hs he
 have hroom:=h.room
 have hsl:=h.slot
 have hh:=zI.ino h.wi.fs hs
 have eo:kD d (Qt p)=⟨7,d.slot+1,p,[],[]⟩:=rfl
 have hm:yZ ⟨7,d.slot+1,p,[],[]⟩=true:=by
  unfold yZ
  have e1:Gx 7=true:=rfl
  have e2:zqy 7=false:=rfl
  simp only[hp,e1,e2,if_true,Bool.and_eq_true,decide_eq_true_eq]
  refine ⟨⟨⟨⟨⟨⟨by decide,by decide⟩,trivial⟩,by omega,by omega⟩,by simp⟩,by simp⟩,by simp⟩
 have hi:isV d.w.fs p true=(s,ze s.ino d.w.fs.xs,0):=by
  unfold isV
  simp only[ha,hh]
  simp
 have hns:xx (d.slot+1) d.w.kept=false:=by
  unfold xx J3
  rw[List.any_eq_false]
  intro k hk q
  have:=h.kept k hk
  have q:k.slot=d.slot+1:=by simpa using q
  omega
 have hdo:doV d.w ⟨7,d.slot+1,p,[],[]⟩=(⟨zk d.w.fs s,qv ⟨d.slot+1,s.ino,false,[]⟩ d.w.kept,if (ze s.ino d.w.fs.xs).links=1 then jd { ze s.ino d.w.fs.xs with links:=0,parent:=0 } d.w.pool else d.w.pool⟩,0):=by
  unfold doV
  rw[hm]
  simp only[Bool.not_true,Bool.false_eq_true,if_false]
  rw[if_neg (by decide),if_neg (by decide),if_neg (by decide),if_neg (by decide),if_neg (by decide),if_neg (by decide)]
  unfold qY
  simp only[hi]
  rw[if_neg (fun q=>q rfl),if_neg (fun q=>q he)]
  unfold Js
  rw[hns]
  rfl
 have hkv:(doV d.w ⟨7,d.slot+1,p,[],[]⟩).1=(Js d.w (d.slot+1) s).1:=by
  rw[hdo]
  unfold Js
  rw[hns]
  rfl
 have hw:=vK h.wi (n:=d.slot+1) hs he
 have hr:=znD h.wi h.wr (n:=d.slot+1) (by omega) (by omega) hs he
 rw[←hkv]at hw hr
 have ea:QG d (Qt p)=(⟨(doV d.w ⟨7,d.slot+1,p,[],[]⟩).1,d.ops++[⟨7,d.slot+1,p,[],[]⟩],d.diags,d.status,d.slot+1⟩,0):=by
  unfold QG
  rw[if_neg (by show ¬(7:Int)<7;decide),eo,if_neg (by rw[hdo];exact fun q=>q rfl),if_pos (by show 0<d.slot+1;omega)]
 rw[ea]
 have e1:(doV d.w ⟨7,d.slot+1,p,[],[]⟩).1.fs=zk d.w.fs s:=by rw[hdo]
 refine ⟨rfl,e1,⟨hw,hr,fun k hk=>?_,by show 0<=d.slot+1;omega,?_⟩,rfl,rfl⟩
 ·have hk:k∈(doV d.w ⟨7,d.slot+1,p,[],[]⟩).1.kept:=hk
  rw[hdo]at hk
  show k.slot<=d.slot+1
  rcases Yf.1 hk with rfl | hk
  ·exact Int.le_refl _
  ·have:=h.kept k hk;omega
 ·show d.slot+1+(J1 esN (doV d.w ⟨7,d.slot+1,p,[],[]⟩).1.fs.xs:Int)<=1073741824
  rw[e1];omega
structure zib (d d':zH) (s:zV) (g:FsV):Prop where
 fs:d'.w.fs=g
 c:RmC d'
 less:G9 d.w.fs d'.w.fs
 kept:zme d.w.fs d'.w.fs s.ino s.dir
 has:zt s.dir d'.w.fs.xs=true
 kind:(ze s.dir d'.w.fs.xs).kind=2
 es:(ze s.dir d'.w.fs.xs).es=zg s.name (ze s.dir d.w.fs.xs).es
 said:d'.diags=d.diags/\d'.status=d.status
theorem Nj {e:z8} {r:List z8} (h:XC (e :: r)):zg e.name (e :: r)=r:=by
 unfold zg JX
 obtain ⟨h1,_⟩:=List.pairwise_cons.1 h
 rw[List.filter_cons,if_neg (by simp)]
 refine List.filter_eq_self.2 fun x hx=>?_
 have:=h1 x hx
 have:e.name≠x.name:=fun q=>by
  have this:Op.bytesLess e.name x.name=true:=this
  rw[q,XU]at this;cases this
 simpa using fun q:x.name=e.name=>this q.symm
structure zjX (d0 d:zH) (s:zV) (ns:List (List UInt8)) (L:List z8):Prop where
 c:RmC d
 there:zI d.w.fs s
 lead:kx d.w.fs.xs ns s.dir
 es:(ze s.ino d.w.fs.xs).es=L
 less:G9 d0.w.fs d.w.fs
 kept:zme d0.w.fs d.w.fs s.ino s.ino
 dir:(ze s.dir d.w.fs.xs).es=(ze s.dir d0.w.fs.xs).es
 said:d.diags=d0.diags/\d.status=d0.status
theorem zft {m:Nat} (IH:∀ d s ns,RmC d->zI d.w.fs s->kx d.w.fs.xs ns s.dir->(∀ z∈ns,may z=true)->low d.w.fs.xs m s.ino->zib d (rmD (m+1) d (zY (ns++[s.name])) s.ino) s (rmR m d.w.fs s)) {d0:zH} {s:zV} {ns:List (List UInt8)} (hns:∀ z∈ns,may z=true) {e:z8} {r:List z8} {d:zH} (h:zjX d0 d s ns (e :: r)) (hl:low d.w.fs.xs m e.ino) :
  zjX d0 (rmD (m+1) d (jx (zY (ns++[s.name])) e.name) e.ino) s ns r/\(rmD (m+1) d (jx (zY (ns++[s.name])) e.name) e.ino).w.fs=rmR m d.w.fs ⟨s.ino,e.name,e.ino⟩/\zI d.w.fs ⟨s.ino,e.name,e.ino⟩/\kx d.w.fs.xs (ns++[s.name]) s.ino/\(∀ z∈ns++[s.name],may z=true)/\jx (zY (ns++[s.name])) e.name=zY (ns++[s.name]++[e.name])/\G9 d.w.fs (rmD (m+1) d (jx (zY (ns++[s.name])) e.name) e.ino).w.fs:=by
 have hi:=h.c.wi.fs
 have hr:=h.c.wr.fs
 obtain ⟨rk,hed⟩:=hr.edge
 have hh:=zI.ino hi h.there
 have hx:=zh hh
 have hin:e∈(ze s.ino d.w.fs.xs).es:=by rw[h.es];exact List.mem_cons_self
 have hk:(ze s.ino d.w.fs.xs).kind=2:=Qv hi hx.2.1 hin
 have hR:=hi.es _ hx.2.1
 rw[h.es]at hR
 have hm:=XA hr h.there
 have hall:∀ z∈ns++[s.name],may z=true:=fun z hz=>by
  rcases List.mem_append.1 hz with hz | hz
  ·exact hns z hz
  ·rw[List.mem_singleton.1 hz];exact hm
 have hfe:jk z8.name e.name (ze s.ino d.w.fs.xs).es=some ⟨e.name,e.ino⟩:=by
  rw[h.es]
  unfold jk
  rw[List.find?_cons_of_pos (by simp)]
 have hse:zI d.w.fs ⟨s.ino,e.name,e.ino⟩:=⟨hh,hk,hfe⟩
 have hle:kx d.w.fs.xs (ns++[s.name]) s.ino:=.step h.lead h.there.has h.there.kind h.there.there
 have hp:jx (zY (ns++[s.name])) e.name=zY (ns++[s.name]++[e.name]):=by
  rw[vp _ _ hall,Z5 _ _ fun y hy=>(X0 (hall y hy)).1]
 have ho:=IH d ⟨s.ino,e.name,e.ino⟩ (ns++[s.name]) h.c hse hle hall hl
 rw[←hp]at ho
 have hos:=ho.es
 have hos:(ze s.ino (rmD (m+1) d (jx (zY (ns++[s.name])) e.name) e.ino).w.fs.xs).es=zg e.name (ze s.ino d.w.fs.xs).es:=hos
 rw[h.es,Nj hR]at hos
 have hlt:=(hed _ (zh h.there.has).2.1 ⟨s.name,s.ino⟩ (qt h.there.there).2 hk).2
 rw[(zh h.there.has).2.2]at hlt
 have hlt:rk s.dir<rk s.ino:=hlt
 -- directories not deeper than s stay
 have hstay:∀ y,zt y d.w.fs.xs=true->(ze y d.w.fs.xs).kind=2->rk y<rk s.ino->zt y (rmD (m+1) d (jx (zY (ns++[s.name])) e.name) e.ino).w.fs.xs=true/\(ze y (rmD (m+1) d (jx (zY (ns++[s.name])) e.name) e.ino).w.fs.xs).kind=2/\(ze y (rmD (m+1) d (jx (zY (ns++[s.name])) e.name) e.ino).w.fs.xs).es=(ze y d.w.fs.xs).es:=fun y y1 y2 y3=>by
  refine ho.kept y y1 y2 (fun q=>by have q:y=s.ino:=q;rw[q]at y3;omega) fun hB=>?_
  obtain ⟨q1,q2⟩:=zhG hi hed hB y2
  have:=(hed _ hx.2.1 e hin q1).2
  rw[hx.2.2]at this
  have q2:rk e.ino<=rk y:=q2
  omega
 obtain ⟨k1,k2,k3⟩:=hstay s.dir h.there.has h.there.kind hlt
 have hn:zjX d0 (rmD (m+1) d (jx (zY (ns++[s.name])) e.name) e.ino) s ns r:=by
  refine ⟨ho.c,⟨k1,k2,by rw[k3];exact h.there.there⟩,zdV hi hed h.lead (fun y y1 y2 y3=>hstay y y1 y2 (by omega)) h.there.kind,hos,h.less.trans ho.less,fun y y1 y2 y3 y4=>?_,by rw[k3];exact h.dir,⟨ho.said.1.trans h.said.1,ho.said.2.trans h.said.2⟩⟩
  obtain ⟨z1,z2,z3⟩:=h.kept y y1 y2 y3 y4
  obtain ⟨w1,w2,w3⟩:=ho.kept y z1 z2 y3 fun hB=>y4 (h.less.bel (Bel.up hh hin hB))
  exact ⟨w1,w2,w3.trans z3⟩
 exact ⟨hn,ho.fs,hse,hle,hall,hp,ho.less⟩
theorem zfG {m:Nat} (IH:∀ d s ns,RmC d->zI d.w.fs s->kx d.w.fs.xs ns s.dir->(∀ z∈ns,may z=true)->low d.w.fs.xs m s.ino->zib d (rmD (m+1) d (zY (ns++[s.name])) s.ino) s (rmR m d.w.fs s)) {d0:zH} {s:zV} {ns:List (List UInt8)} (hns:∀ z∈ns,may z=true) :
  ∀ (L:List z8) (d:zH),zjX d0 d s ns L->(∀ e∈L,low d.w.fs.xs m e.ino)->zjX d0 (L.foldl (fun d e=>rmD (m+1) d (jx (zY (ns++[s.name])) e.name) e.ino) d) s ns []/\(L.foldl (fun d e=>rmD (m+1) d (jx (zY (ns++[s.name])) e.name) e.ino) d).w.fs=L.foldl (fun g e=>rmR m g ⟨s.ino,e.name,e.ino⟩) d.w.fs
 | [],d,h,_=>⟨h,rfl⟩
 | e :: r,d,h,hl=>by
  obtain ⟨hn,hf,_,_,_,_,hL⟩:=zft IH hns h (hl e List.mem_cons_self)
  obtain ⟨g1,g2⟩:=zfG IH hns r _ hn fun x hx=>hL.low (hl x (List.mem_cons_of_mem _ hx))
  refine ⟨g1,?_⟩
  show (r.foldl _ (rmD (m+1) d (jx (zY (ns++[s.name])) e.name) e.ino)).w.fs=r.foldl _ (rmR m d.w.fs ⟨s.ino,e.name,e.ino⟩)
  rw[g2,hf]
theorem zed:∀ (m:Nat) (d:zH) (s:zV) (ns:List (List UInt8)),RmC d->zI d.w.fs s->kx d.w.fs.xs ns s.dir->(∀ z∈ns,may z=true)->low d.w.fs.xs m s.ino->zib d (rmD (m+1) d (zY (ns++[s.name])) s.ino) s (rmR m d.w.fs s):=by
 have last:∀ (d0 d:zH) (s:zV) (ns:List (List UInt8)),(∀ z∈ns,may z=true)->zjX d0 d s ns []->zib d0 (QG d (Qt (zY (ns++[s.name])))).1 s (zk d.w.fs s):=fun d0 d s ns hns h=>by
  obtain ⟨p1,p2⟩:=zly h.c.wi.fs h.lead h.there.has h.there.kind hns (XA h.c.wr.fs h.there)
  have ef:zG s.name (ze s.dir d.w.fs.xs).es=s.ino:=by unfold zG;rw[h.there.there]
  rw[ef]at p2
  obtain ⟨q1,q2,q3,q4,q5⟩:=zb1 h.c h.there h.es p1 p2
  obtain ⟨u1,u2,u3,u4,u5⟩:=Nx h.c.wi.fs h.there h.es
  refine ⟨q2,q3,by rw[q2];exact h.less.trans u1,fun y y1 y2 y3 y4=>?_,by rw[q2];exact u3,by rw[q2];exact u4,by rw[q2,u5,h.dir],⟨q4.trans h.said.1,q5.trans h.said.2⟩⟩
  rw[q2]
  obtain ⟨z1,z2,z3⟩:=h.kept y y1 y2 (fun e=>y4 (by rw[e];exact .refl)) y4
  obtain ⟨w1,w2,w3⟩:=u2 y z1 z2 y3 fun hB=>y4 (h.less.bel hB)
  exact ⟨w1,w2,w3.trans z3⟩
 have start:∀ (d:zH) (s:zV) (ns:List (List UInt8)),RmC d->zI d.w.fs s->kx d.w.fs.xs ns s.dir->zjX d d s ns (ze s.ino d.w.fs.xs).es:=fun d s ns h1 h2 h3=>⟨h1,h2,h3,rfl,.refl _,fun y y1 y2 _ _=>⟨y1,y2,rfl⟩,rfl,⟨rfl,rfl⟩⟩
 intro m
 induction m with
 | zero =>
  intro d s ns h1 h2 h3 h4 h5
  have he:(ze s.ino d.w.fs.xs).es = []:=h5
  have hst:=start d s ns h1 h2 h3
  rw[he]at hst
  have e1:rmD 1 d (zY (ns++[s.name])) s.ino=(QG d (Qt (zY (ns++[s.name])))).1:=by
   show (QG ((ze s.ino d.w.fs.xs).es.foldl _ d) _).1=_
   rw[he];rfl
  rw[e1]
  exact last d d s ns h4 hst
 | succ m ih =>
  intro d s ns h1 h2 h3 h4 h5
  obtain ⟨g1,g2⟩:=zfG ih h4 _ d (start d s ns h1 h2 h3) h5
  have hl:=last d _ s ns h4 g1
  rw[g2]at hl
  exact hl
end
section
theorem ze6 {f:FsV} (h:okV f):∀ (m k:Nat) (n:Int),Dep f.xs k n->zt n f.xs=true->f.xs.length<=m+k->low f.xs m n
 | 0,k,n,hd,hh,hm=>by
  unfold low
  by_cases hk:(ze n f.xs).kind=2
  ·have:=um h hd hh hk;omega
  ·exact (XH h.2).file _ (zh hh).2.1 hk
 | m+1,k,n,hd,hh,hm=>fun e he=>by
  exact ze6 h m (k+1) e.ino (.step hd hh he) ((XH h.2).led _ (zh hh).2.1 e he) (by omega)
theorem zfD {f:FsV} (h:okV f) {n:Int} (hh:zt n f.xs=true):low f.xs f.xs.length n:=by
 obtain ⟨k,hd⟩:=HM h hh
 exact ze6 h _ k n hd hh (by omega)
theorem Hu {P:zH->Prop} (h:∀ d p,P d->P (QG d (Qt p)).1):∀ (m:Nat) (d:zH) (p:List UInt8) (n:Int),P d->P (rmD m d p n)
 | 0,d,p,n,hd=>hd
 | m+1,d,p,n,hd=>by
  show P (QG ((ze n d.w.fs.xs).es.foldl _ d) (Qt p)).1
  refine h _ _ ?_
  generalize (ze n d.w.fs.xs).es=L
  induction L generalizing d with
  | nil=>exact hd
  | cons e r ih=>exact ih _ (Hu h m d _ _ hd)
theorem do7 {w:qR} (hi:yW w) {o:OpV} (hk:o.kind=7):(doV w o).1=w∨∃ s,zI w.fs s/\(ze s.ino w.fs.xs).es = []/\(doV w o).1=(Js w o.slot s).1:=by
 unfold doV
 cases hm:yZ o with
 | false=>exact .inl rfl
 | true =>
  obtain ⟨p1,_⟩:=ZT hm
  rw[if_neg (by simp),if_neg (by omega),if_neg (by omega),if_neg (by omega),if_neg (by omega),if_neg (by omega),if_neg (by omega)]
  unfold qY
  simp only
  by_cases z1:(isV w.fs o.a true).2.2≠0
  ·rw[if_pos z1];exact .inl rfl
  rw[if_neg z1]
  obtain ⟨ht,hn⟩:=u0 hi.fs p1 (Classical.not_not.1 z1)
  by_cases z2:(isV w.fs o.a true).2.1.es≠[]
  ·rw[if_pos z2];exact .inl rfl
  rw[if_neg z2]
  exact .inr ⟨_,ht,by rw[←hn];exact Classical.not_not.1 z2,rfl⟩
theorem zad {w:qR} (hi:yW w) {p:List UInt8} {n:Int} (h:(doV w ⟨7,n,p,[],[]⟩).1=w):¬(doV w ⟨7,n,p,[],[]⟩).2=0:=fun hz=>by
 have hm:=zoB hz
 obtain ⟨p1,_⟩:=ZT hm
 unfold doV at h hz
 rw[hm]at h hz
 rw[if_neg (by simp),if_neg (show ¬(7:Int)=1 by decide),if_neg (show ¬(7:Int)=2 by decide),if_neg (show ¬(7:Int)=3 by decide),if_neg (show ¬(7:Int)=4 by decide),if_neg (show ¬(7:Int)=5 by decide),if_neg (show ¬(7:Int)=6 by decide)]at h hz
 unfold qY at h hz
 simp only at h hz
 split at hz
 ·rename_i q;exact q hz
 rename_i z1
 rw[if_neg z1]at h
 split at hz
 ·exact absurd hz (show ¬(5:Int)=0 by decide)
 rename_i z2
 rw[if_neg z2]at h
 unfold Js at h hz
 split at hz
 ·exact absurd hz (show ¬(13:Int)=0 by decide)
 rename_i z3
 rw[if_neg z3]at h
 have hl:=congrArg (fun w:qR=>w.kept.length) h
 have hl:(qv _ w.kept).length=w.kept.length:=hl
 rw[xo]at hl
 omega
structure RmB (K:Nat) (d:zH):Prop where
 wi:yW d.w
 len:d.w.fs.xs.length<=40
 node:∀ x∈d.w.fs.xs,zaF 40 x
 kept:d.w.kept.length+J1 esN d.w.fs.xs<=K
 pool:d.w.pool.length+J1 esN d.w.fs.xs<=K
 ops:d.ops.length+J1 esN d.w.fs.xs<=K
 diags:d.diags.length<=80000
 slot:0<=d.slot/\d.slot+(J1 esN d.w.fs.xs:Nat)<=1073741824+K
 next:d.w.fs.next<=1099511627776
 lim:0<=d.w.fs.maxI/\d.w.fs.maxI<=1073741824/\0<=d.w.fs.maxB/\d.w.fs.maxB<=1073741824
theorem zjE {x:zn} {xs:List zn} (hR:qh xs):(jd x xs).length<=xs.length+1:=by
 cases hh:zt x.ino xs with
 | true=>rw[QX hR hh];exact Nat.le_succ _
 | false=>rw[znn hR hh];exact Nat.le_refl _
theorem zcf (f:FsV) (s:zV):(zk f s).maxI=f.maxI/\(zk f s).maxB=f.maxB:=by unfold zk;split<;>exact ⟨rfl,rfl⟩
theorem RmB.add {K:Nat} {d:zH} (h:RmB K d) (p:List UInt8):RmB K (QG d (Qt p)).1/\G9 d.w.fs (QG d (Qt p)).1.w.fs:=by
 by_cases hz:(QG d (Qt p)).2=0
 case neg=>rw[NB hz];exact ⟨h,.refl _⟩
 have eo:kD d (Qt p)=⟨7,d.slot+1,p,[],[]⟩:=rfl
 have hsl:=h.slot.1
 unfold QG at hz ⊢
 rw[eo]at hz ⊢
 rw[if_neg (show ¬7<(Qt p).kind by show ¬(7:Int)<7;decide)]at hz ⊢
 split at hz
 ·rename_i hd;exact absurd hz hd
 rename_i hd
 rw[if_neg hd,if_pos (by show 0<d.slot+1;omega)]
 have hd:=Classical.not_not.1 hd
 rcases do7 h.wi (o:=⟨7,d.slot+1,p,[],[]⟩) rfl with e | ⟨s,hs,he,e⟩
 ·exact absurd hd (zad h.wi e)
 ·have hne:xx (d.slot+1) d.w.kept=false:=by
   cases hq:xx (d.slot+1) d.w.kept with
   | false=>rfl
   | true =>
    have e2:(Js d.w (d.slot+1) s).1=d.w:=by unfold Js;rw[hq];rfl
    rw[e2]at e
    exact absurd hd (zad h.wi e)
  have ek:(Js d.w (d.slot+1) s).1=⟨zk d.w.fs s,qv ⟨d.slot+1,s.ino,false,[]⟩ d.w.kept,if (ze s.ino d.w.fs.xs).links=1 then jd { ze s.ino d.w.fs.xs with links:=0,parent:=0 } d.w.pool else d.w.pool⟩:=by unfold Js;rw[hne];rfl
  have hw:=vK h.wi (n:=d.slot+1) hs he
  rw[ek]at hw
  rw[e,ek]
  have hu:=UT h.wi.fs hs he
  obtain ⟨b1,b2,_⟩:=zlZ h.wi.fs h.len h.node hs
  obtain ⟨l1,l2⟩:=zcf d.w.fs s
  have k1:=h.kept
  have k2:=h.pool
  have k3:=h.ops
  have k4:=h.slot
  refine ⟨⟨hw,b1,b2,?_,?_,?_,h.diags,⟨by show 0<=d.slot+1;omega,by show d.slot+1+(J1 esN (zk d.w.fs s).xs:Int)<=_;omega⟩,by show (zk d.w.fs s).next<=_;rw[JQ];exact h.next,by show 0<=(zk d.w.fs s).maxI/\_;rw[l1,l2];exact h.lim⟩,(Nx h.wi.fs hs he).1⟩
  ·show (qv _ _).length+J1 esN (zk d.w.fs s).xs<=K
   rw[xo];omega
  ·show (if (ze s.ino d.w.fs.xs).links=1 then _ else d.w.pool).length+J1 esN (zk d.w.fs s).xs<=K
   split
   ·have:=zjE (x:={ ze s.ino d.w.fs.xs with links:=0,parent:=0 }) h.wi.pool
    omega
   ·omega
  ·show (d.ops++[_]).length+J1 esN (zk d.w.fs s).xs<=K
   rw[List.length_append,List.length_singleton];omega
end
section
def XN (p:List UInt8):List UInt8:=if zi p = [] then p else put (YH p) (zi p) false
theorem Xa (p:List UInt8):xB (zi p)<=p.length+1:=by
 unfold xB
 rw[jV]
 exact Nat.le_trans (Z4 _ _) (Nat.le_of_eq (xC p))
theorem VB (p:List UInt8):∀ x∈zi p,Qi x:=fun x hx=>zdI hx
theorem zhO {p:List UInt8} (h:YH p=true):xB (zi p)<=p.length:=by
 unfold YH at h
 cases p with
 | nil=>simp[Lib.hasPrefix]at h
 | cons c r =>
  have hc:c=47:=by
   rw[V6]at h
   simpa using h
  subst hc
  rw[Qu]
  have:=Xa r
  simp only[List.length_cons]
  exact this
theorem ZD {ns:List (List UInt8)} (h:ns≠[]):(Lib.join ns [47]).length+1<=xB ns:=by
 have:=YU ns h
 unfold xB
 omega
theorem yY (p:List UInt8) (h:zi p≠[]):(XN p).length<=p.length:=by
 unfold XN
 rw[if_neg h]
 unfold put
 have h1:=ZD h
 have h2:=Xa p
 cases ha:YH p with
 | true=>have:=zhO ha;simp;omega
 | false=>simp;omega
theorem Ng {p:List UInt8} (h:zi p≠[]):zi (XN p)=zi p/\YH (XN p)=YH p/\qk (XN p)=false/\XN p≠[]:=by
 have hn:=VB p
 have e:XN p=put (YH p) (zi p) false:=by unfold XN;rw[if_neg h]
 rw[e]
 have h1:=zev (YH p) (zi p) false hn
 refine ⟨h1,zmT _ _ _ hn,?_,fun q=>?_⟩
 ·have:=NA (YH p) (zi p) false hn
  unfold qk
  rw[h1,this];rfl
 ·rw[q]at h1;exact h h1.symm
theorem zhs {p:List UInt8} (h:zi p≠[]) (hl:J7 p=false):J7 (XN p)=false:=by
 have h1:=(Ng h).1
 have h2:=yY p h
 unfold J7 at hl ⊢
 rw[Bool.or_eq_false_iff]at hl ⊢
 rw[h1]
 refine ⟨hl.1,decide_eq_false fun q=>?_⟩
 have:=of_decide_eq_false hl.2
 omega
theorem zha {f:FsV} (hi:FsI f) {b:List UInt8} (h:(jO f b).2=0):zt (jO f b).1 f.xs=true:=by
 unfold jO at h ⊢
 split at h
 ·rename_i q;exact absurd h q
 rename_i q1
 rw[if_neg q1]
 split at h
 ·exact absurd h (show ¬(1:Int)=0 by decide)
 rename_i q2
 rw[if_neg q2]
 split at h
 ·exact absurd h (show ¬(3:Int)=0 by decide)
 rename_i q3
 rw[if_neg q3]
 have hk:=Classical.not_not.1 q3
 have hh:=Gc hk
 show zt (ze _ f.xs).ino f.xs=true
 rw[(zh hh).2.2];exact hh
theorem zbq {f:FsV} (hi:FsI f) (hr:FsR f) {b p:List UInt8} {l:YC} {nm:List UInt8} (hn:zi p=l++[nm]) (n1:nm≠[46]) (n2:nm≠[46,46]) {t:zV} (h:zD f b p false=(t,0)) (ht:t.ino≠0)
  (hl:¬(qk p=true/\(zD f b (XN p) false).2=0/\(ze (zD f b (XN p) false).1.ino f.xs).kind=3)):zI f t:=by
 have hne:zi p≠[]:=by rw[hn];simp
 have hp:p≠[]:=fun e=>hne (by rw[e];rfl)
 obtain ⟨e1,e2,e3,e4⟩:=Ng hne
 have key:∀ from0:Int,zt from0 f.xs=true->onN f false 40 (zi p) ⟨0,[],from0⟩ (qk p)=(t,0)->(zD f b (XN p) false=onN f false 40 (zi p) ⟨0,[],from0⟩ false)->zI f t:=fun from0 h0 h1 h2=>by
  rw[hn]at h1 h2
  rcases Zh hi hr (nm:=nm) 40 l ⟨0,[],from0⟩ (fun _=>h0) with ⟨e,g1,g2⟩ | ⟨k',s',g1,g2⟩
  ·rw[g2]at h1
   exact absurd (Prod.mk.inj h1).2 g1
  ·rw[g2]at h1 h2
   rcases zmu hi n1 n2 g1 h1 ht with g | ⟨g3,u,g4,g5⟩
   ·exact g
   ·rw[g4]at h2
    exact absurd ⟨g3,by rw[h2],by rw[h2];exact g5⟩ hl
 unfold zD at h
 rw[if_neg hp]at h
 cases hlg:J7 p with
 | true=>rw[hlg,if_pos rfl]at h;cases h
 | false =>
  rw[hlg,if_neg (by simp)]at h
  have hle:=zhs hne hlg
  cases ha:YH p with
  | true =>
   rw[ha,if_pos rfl]at h
   refine key 1 hi.root h ?_
   unfold zD
   rw[if_neg e4,hle,if_neg (by simp),e2,ha,if_pos rfl,e1,e3]
  | false =>
   rw[ha,if_neg (by simp)]at h
   by_cases hz:(jO f b).2≠0
   ·rw[if_pos hz]at h
    exact absurd (Prod.mk.inj h).2 hz
   ·rw[if_neg hz]at h
    refine key _ (zha hi (Classical.not_not.1 hz)) h ?_
    unfold zD
    rw[if_neg e4,hle,if_neg (by simp),e2,ha,if_neg (by simp),if_neg hz,e1,e3]
end
section
def QP (f:FsV) (b p:List UInt8):Bool:=qk p&&decide ((zD f b (XN p) false).2=0)&&decide ((ze (zD f b (XN p) false).1.ino f.xs).kind=3)
def zdw (o:List UInt8) (x:zn):Int:=if x.kind≠2∨(114:UInt8)∈o then 0 else if (100:UInt8)∉o then 4 else if x.es≠[] then 5 else 0
def zbH (f:FsV) (b p:List UInt8):Int:=if (zD f b p false).2=0/\(zD f b p false).1.ino=0 then 1 else (zD f b p false).2
def Xt (f:FsV) (b o p:List UInt8):Int×Int×Bool:=
 if Jt p = [47] then (4,0,false) else if Jt p = [46]∨Jt p = [46,46] then (3,0,false)
 else if zbH f b p≠0 then (if (102:UInt8)∈o/\(zbH f b p=1∨zbH f b p=3) then 0 else 2,zbH f b p,false)
 else if QP f b p then (2,3,false)
 else if zdw o (ze (zD f b p false).1.ino f.xs)≠0 then (2,zdw o (ze (zD f b p false).1.ino f.xs),false)
 else (0,0,true)
theorem zak {f:FsV} {b o p:List UInt8} (h:(Xt f b o p).2.2=true):Jt p≠[47]/\Jt p≠[46]/\Jt p≠[46,46]/\zbH f b p=0/\QP f b p=false/\(Xt f b o p).1=0:=by
 unfold Xt at h ⊢
 by_cases h1:Jt p = [47]
 ·rw[if_pos h1]at h;cases h
 rw[if_neg h1]at h ⊢
 by_cases h2:Jt p = [46]∨Jt p = [46,46]
 ·rw[if_pos h2]at h;cases h
 rw[if_neg h2]at h ⊢
 by_cases h3:zbH f b p≠0
 ·rw[if_pos h3]at h;cases h
 rw[if_neg h3]at h ⊢
 cases h4:QP f b p with
 | true=>rw[h4,if_pos rfl]at h;cases h
 | false =>
  rw[h4,if_neg (by simp)]at h
  by_cases h5:zdw o (ze (zD f b p false).1.ino f.xs)≠0
  ·rw[if_pos h5]at h;cases h
  rw[if_neg (by simp),if_neg h5]
  exact ⟨h1,fun e=>h2 (.inl e),fun e=>h2 (.inr e),Classical.not_not.1 h3,rfl,rfl⟩
def V7 (b o:List UInt8) (d:zH) (p:List UInt8):zH:=
 let v:=Xt d.w.fs b o p
 if v.1≠0 then Jj d (Jy 2 v.1 p [] v.2.1)
 else if v.2.2 then rmD (d.w.fs.xs.length+1) d (Ya d.w.fs (zD d.w.fs b p false).1) (zD d.w.fs b p false).1.ino
 else d
def zcP (b o:List UInt8) (f:FsV) (p:List UInt8):FsV:=
 if (Xt f b o p).2.2 then rmR f.xs.length f (zD f b p false).1 else f
def zrJ (b o:List UInt8):List (List UInt8)->FsV×List (List UInt8)->FsV×List (List UInt8)
 | [],x=>x
 | p :: r,x=>zrJ b o r (zcP b o x.1 p,if (Xt x.1 b o p).1≠0 then x.2++[Jy 2 (Xt x.1 b o p).1 p [] (Xt x.1 b o p).2.1] else x.2)
def Na (b o:List UInt8) (l:List (List UInt8)) (d:zH):zH:=l.foldl (V7 b o) d
structure RmG (K:Nat) (d:zH):Prop where
 b:RmB K d
 c:RmC d
theorem RmG.ok {K:Nat} {d:zH} (h:RmG K d):okV d.w.fs:=⟨⟨h.b.len,fun x hx=>by obtain ⟨q1,q2,q3⟩:=h.b.node x hx;exact ⟨q2,q1,q3⟩⟩,h.c.wr.fs.check h.c.wi.fs h.b.next⟩
theorem zcz {p:List UInt8} (h:Jt p≠[47]) (h2:Jt p≠[]):∃ l,zi p=l++[Jt p]:=by
 unfold Jt at h h2 ⊢
 rcases List.eq_nil_or_concat (zi p) with e | ⟨l,x,e⟩
 ·rw[e]at h h2
  cases hq:Lib.hasPrefix p [47] with
  | true=>rw[hq]at h;exact absurd rfl h
  | false=>rw[hq]at h2;exact absurd rfl h2
 ·rw[e,List.concat_eq_append]
  exact ⟨l,by simp⟩
theorem Us {f:FsV} (hi:FsI f) (hr:FsR f) {b o p:List UInt8} (h:(Xt f b o p).2.2=true):zI f (zD f b p false).1:=by
 obtain ⟨h1,h2,h2',h3,h4,_⟩:=zak h
 have hs:(zD f b p false).2=0/\(zD f b p false).1.ino≠0:=by
  unfold zbH at h3
  by_cases q:(zD f b p false).2=0/\(zD f b p false).1.ino=0
  ·rw[if_pos q]at h3;cases h3
  ·rw[if_neg q]at h3
   exact ⟨h3,fun e=>q ⟨h3,e⟩⟩
 have hb:Jt p≠[]:=fun e=>by
  unfold Jt at e
  rcases List.eq_nil_or_concat (zi p) with e2 | ⟨l,x,e2⟩
  ·rw[e2]at e
   have hp:Lib.hasPrefix p [47]=false:=by
    cases hq:Lib.hasPrefix p [47] with
    | true=>rw[hq]at e;cases e
    | false=>rfl
   have hn:=HE p e2
   rw[hp]at hn
   have hp0:p = []:=by simpa using hn
   have:(zD f b p false).2=1:=by rw[hp0];rfl
   rw[hs.1]at this;cases this
  ·rw[e2,List.concat_eq_append]at e
   have e:x = []:=by simpa using e
   have:=VB p x (by rw[e2];simp)
   exact this.1 e
 obtain ⟨l,hl⟩:=zcz h1 hb
 refine zbq hi hr hl h2 h2' (Prod.ext rfl hs.1) hs.2 fun q=>?_
 unfold QP at h4
 rw[q.1,decide_eq_true q.2.1,decide_eq_true q.2.2]at h4
 cases h4
theorem GT {K:Nat} {d:zH} (h:RmG K d) (b o p:List UInt8):RmG K (V7 b o d p)/\(V7 b o d p).w.fs=zcP b o d.w.fs p/\(V7 b o d p).diags=(if (Xt d.w.fs b o p).1≠0 then d.diags++[Jy 2 (Xt d.w.fs b o p).1 p [] (Xt d.w.fs b o p).2.1] else d.diags)∨80000<=d.diags.length:=by
 by_cases hdl:80000<=d.diags.length
 ·exact .inr hdl
 left
 unfold V7 zcP
 simp only
 by_cases h1:(Xt d.w.fs b o p).1≠0
 ·rw[if_pos h1,if_pos h1]
  have h2:(Xt d.w.fs b o p).2.2=false:=by
   cases hq:(Xt d.w.fs b o p).2.2 with
   | false=>rfl
   | true=>exact absurd (zak hq).2.2.2.2.2 h1
  rw[h2]
  have hb:=h.b
  have hc:=h.c
  exact ⟨⟨⟨hb.wi,hb.len,hb.node,hb.kept,hb.pool,hb.ops,by show (d.diags++[_]).length<=80000;simp;omega,hb.slot,hb.next,hb.lim⟩,⟨hc.wi,hc.wr,hc.kept,hc.slot,hc.room⟩⟩,rfl,rfl⟩
 ·rw[if_neg h1,if_neg h1]
  cases h2:(Xt d.w.fs b o p).2.2 with
  | false=>exact ⟨h,rfl,rfl⟩
  | true =>
   rw[if_pos rfl,if_pos rfl]
   have hi:=h.c.wi.fs
   have hr:=h.c.wr.fs
   have ht:=Us hi hr h2
   obtain ⟨ns,n1,n2,n3⟩:=uz h.ok ht.has ht.kind
   have hm:=XA hr ht
   have e:Ya d.w.fs (zD d.w.fs b p false).1=zY (ns++[(zD d.w.fs b p false).1.name]):=by
    unfold Ya
    rw[n2,Option.getD_some,Z5 ns _ fun y hy=>(X0 (n1 y hy)).1]
   have hs:=zed _ d _ ns h.c ht n3 n1 (zfD h.ok (zI.ino hi ht))
   have hB:=Hu (P:=RmB K) (fun d p hd=>(hd.add p).1) (d.w.fs.xs.length+1) d (Ya d.w.fs (zD d.w.fs b p false).1) (zD d.w.fs b p false).1.ino h.b
   rw[e]at hB ⊢
   exact ⟨⟨hB,hs.c⟩,hs.fs,hs.said.1⟩
end
section
theorem vW {K:Nat} (b o:List UInt8):∀ (l:List (List UInt8)) (d:zH),RmG K d->d.diags.length+l.length<=80000->RmG K (Na b o l d)/\((Na b o l d).w.fs,(Na b o l d).diags)=zrJ b o l (d.w.fs,d.diags)
 | [],d,h,_=>⟨h,rfl⟩
 | p :: r,d,h,hl=>by
  rw[List.length_cons]at hl
  rcases GT h b o p with ⟨h1,h2,h3⟩ | q
  ·have hlen:(V7 b o d p).diags.length<=d.diags.length+1:=by
    rw[h3];split<;>simp
   obtain ⟨g1,g2⟩:=vW b o r (V7 b o d p) h1 (by omega)
   refine ⟨g1,?_⟩
   show ((Na b o r (V7 b o d p)).w.fs,(Na b o r (V7 b o d p)).diags)=zrJ b o r (zcP b o d.w.fs p,if (Xt d.w.fs b o p).1≠0 then d.diags++[Jy 2 (Xt d.w.fs b o p).1 p [] (Xt d.w.fs b o p).2.1] else d.diags)
   rw[g2,h2,h3]
  ·omega
theorem zkT {w:qR} (h:okW w):J1 esN w.fs.xs<=1600:=by
 have h1:=h.1.2.1.1
 have h2:∀ xs:List zn,(∀ x∈xs,x.es.length<=40)->J1 esN xs<=xs.length*40:=fun xs=>by
  induction xs with
  | nil=>intro _;exact Nat.zero_le _
  | cons x r ih =>
   intro hx
   have:=ih fun y hy=>hx y (List.mem_cons_of_mem _ hy)
   have h0:=hx x List.mem_cons_self
   unfold J1 at this ⊢
   rw[List.map_cons,List.sum_cons,List.length_cons]
   unfold esN at this ⊢
   omega
 have:=h2 w.fs.xs fun x hx=>(h.1.2.1.2 x hx).2.1
 omega
theorem zo1 {w:qR} (h:okW w) (hn:w.fs.next<=549755813888) (hl:jH w.kept<=536870912):RmG 2000 (kl w):=by
 have hB:=zga h
 have he:=zkT h
 have hs:=U1 h.2.2.2.2.1
 refine ⟨⟨zqb h,hB.len,hB.node,by have:=hB.klen;show w.kept.length+J1 esN w.fs.xs<=_;omega,by have:=hB.plen;show w.pool.length+J1 esN w.fs.xs<=_;omega,by show 0+J1 esN w.fs.xs<=_;omega,Nat.zero_le _,⟨hs.1,by show jH w.kept+(J1 esN w.fs.xs:Int)<=_;omega⟩,by show w.fs.next<=_;omega,?_⟩,⟨zqb h,zn8 h,hs.2,hs.1,by show jH w.kept+(J1 esN w.fs.xs:Int)<=_;omega⟩⟩
 have:=(zn8 h).fs.lim
 exact ⟨by show 0<=w.fs.maxI;omega,this.2.1,this.2.2⟩
end
section
open CA CB
open Go.RowKit
theorem zm5 (w:qR) (hw:yW w) (hs:zpu w) (s:Int) (a:List UInt8) (ha:a.length<=100000):Fun Tryz.prog GD 122 [Vu w,.agg (opL ⟨7,s,a,[],[]⟩)] (.tup [Vu (doV w ⟨7,s,a,[],[]⟩).1,.sc (.int .i64 (doV w ⟨7,s,a,[],[]⟩).2)]) 0:=by
 have ho:zhN ⟨7,s,a,[],[]⟩:=⟨ha,Nat.zero_le _,Nat.zero_le _⟩
 have hop:=(zfW 7 s a [] [] ho).gd1
 cases hm:yZ ⟨7,s,a,[],[]⟩ with
 | false =>
  have e:doV w ⟨7,s,a,[],[]⟩=(w,12):=by unfold doV;rw[hm];rfl
  rw[hm]at hop
  rw[e]
  unfold opL qu at hop
  unfold opL
  refine fof (fun i=>if i=3 then [false,false,false,false,false,false,false,false,false,true] else []) Tryz.func122 ?_;dsimp only[Tryz.f122]
  push_cast -dsimp
  refine cl (hop) ?_;push_cast -dsimp
  exact dn (by push_cast -dsimp [zb,za,CLe,zd])
 | true =>
  obtain ⟨p1,_⟩:=ZT hm
  have e:doV w ⟨7,s,a,[],[]⟩=qY w ⟨7,s,a,[],[]⟩:=by unfold doV;rw[hm];rfl
  have hq:Fun Tryz.prog GD 193 _ _ 0:=(zel w hw hs ⟨7,s,a,[],[]⟩ ho p1).g0
  rw[hm]at hop
  rw[e]
  unfold opL qu at hop
  unfold opL at hq ⊢
  refine fof (fun i=>if i=3 then [false,false,false,false,false,false,false,false,false,true] else []) Tryz.func122 ?_;dsimp only[Tryz.f122]
  push_cast -dsimp
  refine cl (hop) ?_;push_cast -dsimp
  refine cl (zdp (G:=GD)) ?_;push_cast -dsimp [zkr,km,reduceIte,Int.reduceEq,Option.map_some,Option.map_none]
  refine cl (hq) ?_;push_cast -dsimp
  exact dn (by push_cast -dsimp [zb,za,CLe,zd])
theorem zpf (d:zH) (hd:zky d) (p:List UInt8) (hp:p.length<=100000):Fun Tryz.prog GD 67 [kF d,.agg (opL (Qt p))] (.tup [kF (QG d (Qt p)).1,.sc (.int .i64 (QG d (Qt p)).2)]) 0:=by
 have hsl:=NL (G:=GD) ⟨7,0,p,[],[]⟩
 rw[decide_eq_true (show (7:Int)=3∨(7:Int)=7 by decide)]at hsl
 have hb1:=hd.slot.1
 have hb2:=hd.slot.2
 have hopl:(d.ops.map opL).length=d.ops.length:=List.length_map ..
 have hol:=hd.ops
 have hl5:∀ l:List OpV,∀ r∈l.map opL,r.length=5:=fun l r hr=>by obtain ⟨x,_,rfl⟩:=List.mem_map.1 hr;rfl
 have hst:∀ l:List OpV,ji (l.map opL):=fun l r hr=>by obtain ⟨x,_,rfl⟩:=List.mem_map.1 hr;rfl
 have hX:=zdX (G:=GD) (d.ops.map opL) (([⟨7,d.slot+1,p,[],[]⟩]:List OpV).map opL) (hl5 _) (hl5 _) (hst _) (hst _) (by omega) (by simp) (by simp)
 rw[←List.map_append]at hX
 have hc:=(hX.fun (r:=.own 0 57 5 ((d.ops++([⟨7,d.slot+1,p,[],[]⟩]:List OpV)).map opL)) (n:=1) (by
  rintro r bx m ⟨rfl,c,B,hB,rfl,rfl⟩
  exact ⟨[(0,57,5,(d.ops++([⟨7,d.slot+1,p,[],[]⟩]:List OpV)).map opL,c)],[.inl 0],hB.ok rfl (by simp) (hl5 _),rfl,rfl,by push_cast -dsimp [zb,za,CLe,zd,List.length_map]⟩)).weak (r':=.sl 5 ((d.ops++([⟨7,d.slot+1,p,[],[]⟩]:List OpV)).map opL)) (by push_cast -dsimp [zb,za,CLe,zd])
 have hdo:=zm5 d.w hd.wi hd.ws (d.slot+1) p hp
 have ea:QG d (Qt p)=if (doV d.w ⟨7,d.slot+1,p,[],[]⟩).2≠0 then (d,(doV d.w ⟨7,d.slot+1,p,[],[]⟩).2) else (⟨(doV d.w ⟨7,d.slot+1,p,[],[]⟩).1,d.ops++[⟨7,d.slot+1,p,[],[]⟩],d.diags,d.status,if 0<d.slot+1 then d.slot+1 else d.slot⟩,0):=by
  unfold QG
  rw[if_neg (show ¬7<(Qt p).kind by show ¬(7:Int)<7;decide),show kD d (Qt p)=⟨7,d.slot+1,p,[],[]⟩ from rfl]
 have hmx:(if d.slot+1>d.slot then d.slot+1 else d.slot)=d.slot+1:=if_pos (by omega)
 unfold opL at hsl hdo
 rw[show opL (Qt p) = [.sc (.int .i64 7),.sc (.int .i64 0),.str p,.str [],.str []] from rfl]
 by_cases hz:(doV d.w ⟨7,d.slot+1,p,[],[]⟩).2=0
 ·rw[ea,if_neg (fun h=>h hz),if_pos (show 0<d.slot+1 by omega)]
  rw[hz]at hdo
  simp only[List.map_cons,List.map_nil,zn3]at hc
  refine fon Tryz.func67 ?_;dsimp only[Tryz.f67]
  push_cast -dsimp
  refine cl (hsl) ?_;push_cast -dsimp
  repeat refine an ?_
  push_cast -dsimp
  refine cl (hdo) ?_;push_cast -dsimp
  refine cl (hc) ?_;push_cast -dsimp [hmx]
  exact dn (by push_cast -dsimp [zb,za,CLe,zd])
 ·have hz':=eq_false hz
  rw[ea,if_pos hz]
  refine fon Tryz.func67 ?_;dsimp only[Tryz.f67]
  push_cast -dsimp
  refine cl (hsl) ?_;push_cast -dsimp
  repeat refine an ?_
  push_cast -dsimp
  refine cl (hdo) ?_;push_cast -dsimp [hz']
  exact dn (by push_cast -dsimp [zb,za,CLe,zd])
end
section
open CA CB
open Go.RowKit
theorem zca (f:FsV) (hf:FsI f) (hs:FsS f) (p:List UInt8) (hp:p.length<=100000):Fun Tryz.prog G0 153 [.agg (fsC f),.str p] (.tup [.agg (JG (qx f p).1),.sc (.int .i64 (qx f p).2)]) 0:=by
 have h1:=ua f hf hs p hp
 have h2:=jG (G:=G0) f (atV f p).1.ino (by have:=hs.len;omega) hf.rises
 by_cases c1:(atV f p).2=0
 ·have c1':=eq_true c1
  cases hh:zt (atV f p).1.ino f.xs with
  | false =>
   have h0:(atV f p).1.ino=0:=Classical.byContradiction fun hne=>by
    have:zt (atV f p).1.ino f.xs=true:=by
     unfold atV at hne ⊢
     split at hne
     ·rename_i q;rw[if_pos q];exact zfr hf _ _ (fun _=>hf.root) hne
     ·exact absurd rfl hne
    rw[this]at hh;cases hh
   have e:qx f p=(kH,1):=by unfold qx;rw[if_neg (fun h=>h c1),if_pos h0]
   rw[c1]at h1
   rw[hh]at h2
   refine fon Tryz.func153 ?_;dsimp only[Tryz.f153]
   push_cast -dsimp
   refine cl (h1) ?_;push_cast -dsimp
   refine cl (h2) ?_;push_cast -dsimp
   exact dn (by push_cast -dsimp [zb,za,CLe,zd,e,kH])
  | true =>
   have h0:=Vn hf hh
   have e:qx f p=(ze (atV f p).1.ino f.xs,0):=by unfold qx;rw[if_neg (fun h=>h c1),if_neg h0]
   rw[c1]at h1
   rw[hh]at h2
   refine fon Tryz.func153 ?_;dsimp only[Tryz.f153]
   push_cast -dsimp
   refine cl (h1) ?_;push_cast -dsimp
   refine cl (h2) ?_;push_cast -dsimp
   exact dn (by push_cast -dsimp [zb,za,CLe,zd,e])
 ·have e:qx f p=(kH,(atV f p).2):=by unfold qx;rw[if_pos c1]
  refine fon Tryz.func153 ?_;dsimp only[Tryz.f153]
  push_cast -dsimp
  refine cl (h1) ?_;push_cast -dsimp [c1]
  exact dn (by push_cast -dsimp [zb,za,CLe,zd,e,kH])
theorem zfI (f:FsV) (hf:FsI f) (hs:FsS f) (p:List UInt8) (hp:p.length<=100000):Fun Tryz.prog G0 110 [.agg (fsC f),.str p] (.tup [.sc (.int .i64 (jO f p).1),.sc (.int .i64 (jO f p).2)]) 0:=by
 have h1:=zca f hf hs p hp
 by_cases c1:(qx f p).2=0
 ·have d1:(atV f p).2=0/\(atV f p).1.ino≠0/\(qx f p).1=ze (atV f p).1.ino f.xs:=by
   unfold qx at c1 ⊢
   split at c1
   ·rename_i h;exact absurd c1 h
   ·rename_i h
    split at c1
    ·exact absurd c1 (show ¬(1:Int)=0 by decide)
    ·rename_i h';rw[if_neg h,if_neg h'];exact ⟨Classical.not_not.1 h,h',rfl⟩
  rw[c1]at h1
  by_cases c2:(qx f p).1.kind=2
  ·have e:jO f p=((qx f p).1.ino,0):=by unfold jO;rw[if_neg (fun h=>h d1.1),if_neg d1.2.1,if_neg (by rw[←d1.2.2];exact fun h=>h c2),d1.2.2]
   refine fon Tryz.func110 ?_;dsimp only[Tryz.f110]
   push_cast -dsimp
   refine cl (h1) ?_;push_cast -dsimp [c2]
   exact dn (by push_cast -dsimp [zb,za,CLe,zd,e])
  ·have e:jO f p=(0,3):=by unfold jO;rw[if_neg (fun h=>h d1.1),if_neg d1.2.1,if_pos (by rw[←d1.2.2];exact c2)]
   refine fon Tryz.func110 ?_;dsimp only[Tryz.f110]
   push_cast -dsimp
   refine cl (h1) ?_;push_cast -dsimp [c2]
   exact dn (by push_cast -dsimp [zb,za,CLe,zd,e])
 ·have e:jO f p=(0,(qx f p).2):=by
   unfold jO qx
   unfold qx at c1
   split
   ·rfl
   ·rename_i h
    rw[if_neg h]at c1
    split
    ·rfl
    ·rename_i h';rw[if_neg h']at c1;exact absurd rfl c1
  refine fon Tryz.func110 ?_;dsimp only[Tryz.f110]
  push_cast -dsimp
  refine cl (h1) ?_;push_cast -dsimp [c1]
  exact dn (by push_cast -dsimp [zb,za,CLe,zd,e])
theorem zd4 {G:zo} (a b:List (List UInt8)) (la:a.length<=90000) (lb:b.length<=90000):Fun Tryz.prog G 58 [.sl 1 [[.sl 1 (zJ a)],[.sl 1 (zJ b)]]] (.sl 1 (zJ (a++b))) 0:=by
 have hl:∀ l:List (List UInt8),∀ r∈zJ l,r.length=1:=fun l r hr=>by obtain ⟨x,_,rfl⟩:=List.mem_map.1 hr;rfl
 have hs:∀ l:List (List UInt8),ji (zJ l):=fun l r hr=>by obtain ⟨x,_,rfl⟩:=List.mem_map.1 hr;rfl
 have hla:(zJ a).length=a.length:=List.length_map ..
 have hlb:(zJ b).length=b.length:=List.length_map ..
 by_cases h0:0<a.length+b.length
 ·have h:=NM (G:=G) (zJ a) (zJ b) (hl a) (hl b) (hs a) (hs b) (by omega) (by omega) (by omega)
  have e:zJ a++zJ b=zJ (a++b):=List.map_append.symm
  rw[e]at h
  refine (h.fun (r:=.own 0 9 1 (zJ (a++b))) (n:=1) (by
   rintro r bx m ⟨rfl,c,B,hB,rfl,rfl⟩
   exact ⟨[(0,9,1,zJ (a++b),c)],[.inl 0],hB.ok rfl (by rw[List.length_map,List.length_append];exact h0) (hl _),rfl,rfl,by push_cast -dsimp [zb,za,CLe,zd,List.length_map]⟩)).weak (by push_cast -dsimp [zb,za,CLe,zd])
 ·have ha:a = []:=List.eq_nil_of_length_eq_zero (by omega)
  have hb:b = []:=List.eq_nil_of_length_eq_zero (by omega)
  subst ha hb
  exact Mt
end
section
open CA CB
open Go.RowKit
abbrev zkx (f:FsV) (fol dir:Bool) (todo:YC) (s:zV) (n:Int):List C:=[.sc (.int .i64 f.maxI),.sc (.int .i64 f.maxB),.sc (.int .i64 f.next),.sl 6 (zq f.xs),.sc (.bool fol),.sc (.bool dir),.sl 1 (zJ todo),.sc (.int .i64 s.dir),.str s.name,.sc (.int .i64 s.ino),.sc (.int .i64 n)]
abbrev Xd:List C:=[.any,.any,.any,.any,.any,.any,.any,.any,.any,.any,.any]
theorem Gm (f:FsV) (fol dir:Bool) (todo:YC) (s:zV) (n:Nat) (x d:zn) (hx:x.data.length<=10000) (ht:todo.length<=80000) (hn:n<=40):Xh Tryz.prog G0 112 [.ptr 0 0,.agg (JG x),.agg (JG d)] [zkx f fol dir todo s n] 0 (fun r bx m=>m=0 /\
  ((n=40/\r = .sc (.int .i64 6)/\bx = [Xd])∨(n<40/\J7 x.data=true/\r = .sc (.int .i64 7)/\bx = [Xd])∨(n<40/\J7 x.data=false/\r = .sc (.int .i64 0)/\bx = [zkx f fol (dir||(qk x.data&&decide (todo = []))) (zi x.data++todo) ⟨0,[],if YH x.data then 1 else d.ino⟩ (n+1:Nat)]))):=by
 by_cases h40:n=40
 ·have hc:((40:Int)<(n:Int)+1)=True:=eq_true (by omega)
  refine foX (fun _=>[]) Tryz.func112 ?_;dsimp only[Tryz.f112]
  push_cast -dsimp [hc]
  repeat refine an ?_
  exact ⟨_,[Xd],0,⟨⟨rfl,.inl ⟨h40,rfl,rfl⟩⟩,Nat.le_refl _⟩,[],rfl,rfl,by push_cast -dsimp [zb,za,CLe,zd],by push_cast -dsimp [zb,za,CLe,zd]⟩
 have hc:((40:Int)<(n:Int)+1)=False:=eq_false (by omega)
 have hlg:=uw x.data (by omega)
 cases hl:J7 x.data with
 | true =>
  rw[hl]at hlg
  refine foX (fun _=>[]) Tryz.func112 ?_;dsimp only[Tryz.f112]
  push_cast -dsimp [hc]
  repeat refine an ?_
  refine cl (hlg) ?_;push_cast -dsimp
  exact ⟨_,[Xd],0,⟨⟨rfl,.inr (.inl ⟨by omega,rfl,rfl⟩)⟩,Nat.le_refl _⟩,[],rfl,rfl,by push_cast -dsimp [zb,za,CLe,zd],by push_cast -dsimp [zb,za,CLe,zd]⟩
 | false =>
  rw[hl]at hlg
  have hrd:Fun Tryz.prog G0 63 [.str x.data] (.agg [qu (YH x.data),.own 0 9 1 (zJ (zi x.data)),qu (qk x.data)]) 1:=QL x.data (by omega)
  have hnl:=qf x.data
  have hcc:=zd4 (G:=G0) (zi x.data) todo (by omega) (by omega)
  have htl:(zJ todo).length=todo.length:=List.length_map ..
  have hte:((todo.length:Int)=0)=(todo = []):=propext ⟨fun h=>List.eq_nil_of_length_eq_zero (by omega),fun h=>by rw[h];rfl⟩
  generalize zi x.data=nm at hrd hcc
  have fin:∀ (b a:Bool),(dir||(qk x.data&&decide (todo = [])))=b->YH x.data=a->Xh Tryz.prog G0 112 [.ptr 0 0,.agg (JG x),.agg (JG d)] [zkx f fol dir todo s n] 0 (fun r bx m=>m=0/\r = .sc (.int .i64 0)/\bx = [zkx f fol b (nm++todo) ⟨0,[],if a then 1 else d.ino⟩ (n+1:Nat)]):=fun b a hb ha=>by
   rw[ha]at hrd
   by_cases ht0:todo = []
   ·have ht0':=eq_true ht0
    cases dir<;>cases hs:qk x.data<;>rw[hs]at hrd hb<;>cases a
    all_goals
     simp[ht0]at hb
     subst hb
     refine foX (fun i=>if i=8 then [false,false,false,false,false,false,false,false,false,false,false,true] else []) Tryz.func112 ?_;dsimp only[Tryz.f112]
     push_cast -dsimp [hc]
     repeat refine an ?_
     refine cl (hlg) ?_;push_cast -dsimp
     refine cl (hrd) ?_;push_cast -dsimp [htl,hte,ht0']
     refine cl (hcc) ?_;push_cast -dsimp
     exact ⟨_,_,0,⟨⟨rfl,rfl,rfl⟩,Nat.le_refl _⟩,[],rfl,rfl,by push_cast -dsimp [zb,za,CLe,zd],by push_cast -dsimp [zb,za,CLe,zd]⟩
   ·have ht0':=eq_false ht0
    cases dir<;>cases hs:qk x.data<;>rw[hs]at hrd hb<;>cases a
    all_goals
     simp[ht0]at hb
     subst hb
     refine foX (fun i=>if i=8 then [false,false,false,false,false,false,false,false,false,false,false,true] else []) Tryz.func112 ?_;dsimp only[Tryz.f112]
     push_cast -dsimp [hc]
     repeat refine an ?_
     refine cl (hlg) ?_;push_cast -dsimp
     refine cl (hrd) ?_;push_cast -dsimp [htl,hte,ht0']
     refine cl (hcc) ?_;push_cast -dsimp
     exact ⟨_,_,0,⟨⟨rfl,rfl,rfl⟩,Nat.le_refl _⟩,[],rfl,rfl,by push_cast -dsimp [zb,za,CLe,zd],by push_cast -dsimp [zb,za,CLe,zd]⟩
  have h:=fin _ _ rfl rfl
  exact ⟨h.1,fun R L vs a1 a2 a3 a4 a5 a6 a7=>(h.2 R L vs a1 a2 a3 a4 a5 a6 a7).mono fun _ _=>by
   rintro ⟨r,bx,m,⟨⟨q1,q2,q3⟩,q4⟩,q5⟩
   exact ⟨r,bx,m,⟨⟨q1,.inr (.inr ⟨by omega,rfl,q2,q3⟩)⟩,q4⟩,q5⟩⟩
theorem zjv (f:FsV) (hf:FsI f) (hs:FsS f) (fol dir:Bool) (todo:YC) (s:zV) (n:Nat) (lk:zn->zn->YC->Bool->zV×Int):Xh Tryz.prog G0 113 [.ptr 0 0] [zkx f fol dir todo s n] 0 (fun r bx m=>m=0/\r = .tup [.agg (jq (onL f fol lk [] s dir).1),.sc (.int .i64 (onL f fol lk [] s dir).2)]/\bx = [Xd]):=by
 have hg:=jG (G:=G0) f s.ino (by have:=hs.len;omega) hf.rises
 cases hh:zt s.ino f.xs with
 | false =>
  have e:onL f fol lk [] s dir=(s,0):=by unfold onL;rw[if_neg (fun h=>by rw[hh]at h;cases h.1)]
  rw[hh]at hg
  refine foX (fun i=>if i=1 then jh 13 14 else []) Tryz.func113 ?_;dsimp only[Tryz.f113]
  push_cast -dsimp
  refine cl (hg) ?_;push_cast -dsimp
  exact ⟨_,[Xd],0,⟨⟨rfl,rfl,rfl⟩,Nat.le_refl _⟩,[],rfl,rfl,by push_cast -dsimp [zb,za,CLe,zd],by push_cast -dsimp [zb,za,CLe,zd,e]⟩
 | true =>
  rw[hh]at hg
  cases dir with
  | false =>
   have e:onL f fol lk [] s false=(s,0):=by unfold onL;rw[if_neg (fun h=>by cases h.2.1)]
   refine foX (fun i=>if i=1 then jh 13 14 else []) Tryz.func113 ?_;dsimp only[Tryz.f113]
   push_cast -dsimp
   refine cl (hg) ?_;push_cast -dsimp
   exact ⟨_,[Xd],0,⟨⟨rfl,rfl,rfl⟩,Nat.le_refl _⟩,[],rfl,rfl,by push_cast -dsimp [zb,za,CLe,zd],by push_cast -dsimp [zb,za,CLe,zd,e]⟩
  | true =>
   by_cases hk:(ze s.ino f.xs).kind=2
   ·have e:onL f fol lk [] s true=(s,0):=by unfold onL;rw[if_neg (fun h=>h.2.2 hk)]
    have hk':=eq_true hk
    refine foX (fun i=>if i=1 then jh 13 14 else []) Tryz.func113 ?_;dsimp only[Tryz.f113]
    push_cast -dsimp
    refine cl (hg) ?_;push_cast -dsimp [hk']
    exact ⟨_,[Xd],0,⟨⟨rfl,rfl,rfl⟩,Nat.le_refl _⟩,[],rfl,rfl,by push_cast -dsimp [zb,za,CLe,zd],by push_cast -dsimp [zb,za,CLe,zd,e]⟩
   ·have e:onL f fol lk [] s true=(qd,3):=by unfold onL;rw[if_pos ⟨hh,rfl,hk⟩]
    have hk':=eq_false hk
    refine foX (fun i=>if i=1 then jh 13 14 else []) Tryz.func113 ?_;dsimp only[Tryz.f113]
    push_cast -dsimp
    refine cl (hg) ?_;push_cast -dsimp [hk']
    exact ⟨_,[Xd],0,⟨⟨rfl,rfl,rfl⟩,Nat.le_refl _⟩,[],rfl,rfl,by push_cast -dsimp [zb,za,CLe,zd],by push_cast -dsimp [zb,za,CLe,zd,e,qd]⟩
theorem zdr (f:FsV) (hf:FsI f) (hr:FsR f) (hs:FsS f) (fol dir0:Bool) (todo0:YC) (s0:zV) (ht0:todo0.length<=2000) (hd:∀ x∈f.xs,x.kind=3->x.data.length<=1000) (hs0:s0.ino≠0->zt s0.ino f.xs=true) (R:zV×Int) (hR:onN f fol 40 todo0 s0 dir0=R):Xh Tryz.prog G0 61 [.ptr 0 0] [zkx f fol dir0 todo0 s0 (0:Nat)] 0 (fun r bx m=>m=0/\r = .tup [.agg (jq R.1),.sc (.int .i64 R.2)]/\∃ X,bx = [Xd]++X):=by
 refine foX (fun i=>if i=4 then jh 13 14 else []) Tryz.func61 ?_;dsimp only[Tryz.f61]
 push_cast -dsimp
 refine loop (fun p:YC×zV×Bool×Nat=>⟨[(0,.ptr 0 0),(2,.ptr 1 0)],[zkx f fol p.2.2.1 p.1 p.2.1 p.2.2.2,[.any,.any,.any]],0,0⟩)
  (fun p=>onN f fol (40-p.2.2.2) p.1 p.2.1 p.2.2.1=R/\p.2.2.2<=40/\p.1.length<=2000+p.2.2.2*1000/\(p.2.1.ino≠0->zt p.2.1.ino f.xs=true)) (fun p=>(41-p.2.2.2)*100000+p.1.length) (todo0,s0,dir0,0) ⟨hR,Nat.zero_le _,by dsimp only;omega,hs0⟩ ?_ ?_
 ·exact wk
 rintro ⟨todo,s,dir,n⟩ ⟨hon,hn,htl,hin⟩
 dsimp only at hon hn htl hin
 rw[JT]at hon
 cases todo with
 | nil =>
  have he:=zjv f hf hs fol dir [] s n (lkN f fol (40-n))
  rw[hon]at he
  push_cast -dsimp
  refine jY [0] [] he rfl (by decide) (by decide) (by simp) (by push_cast -dsimp) rfl (fun r bx' m hp=>?_)
  obtain ⟨rfl,rfl,rfl⟩:=hp
  push_cast -dsimp
  exact ⟨_,[Xd],0,⟨⟨rfl,rfl,[],rfl⟩,by simp⟩,[],rfl,rfl,by push_cast -dsimp [zb,za,CLe,zd],by push_cast -dsimp [zb,za,CLe,zd]⟩
 | cons nm rest =>
  have hg:=jG (G:=G0) f s.ino (by have:=hs.len;omega) hf.rises
  have hpos:((0:Int)<(rest.length:Int)+1)=True:=eq_true (by omega)
  have hrl:(zJ rest).length=rest.length:=List.length_map ..
  have hl1:((1:Int)<=(rest.length:Int)+1)=True:=eq_true (by omega)
  rw[List.length_cons]at htl
  unfold onL at hon
  cases hh:zt s.ino f.xs with
  | false =>
   have h0:s.ino=0:=Classical.byContradiction fun q=>by rw[hin q]at hh;cases hh
   rw[if_pos h0]at hon
   rw[hh]at hg
   rw[←hon]
   push_cast -dsimp [hpos,hl1]
   repeat refine an ?_
   refine cl (hg) ?_;push_cast -dsimp
   exact ⟨_,[Xd],0,⟨⟨rfl,rfl,[],rfl⟩,by simp⟩,[],rfl,rfl,by push_cast -dsimp [zb,za,CLe,zd],by push_cast -dsimp [zb,za,CLe,zd,qd]⟩
  | true =>
   have hgs:=zh hh
   rw[if_neg (Vn hf hh)]at hon
   rw[hh]at hg
   by_cases hk2:(ze s.ino f.xs).kind=2
   case neg =>
    have hk2':=eq_false hk2
    rw[if_pos hk2]at hon
    rw[←hon]
    push_cast -dsimp [hpos,hl1]
    repeat refine an ?_
    refine cl (hg) ?_;push_cast -dsimp [hk2']
    exact ⟨_,[Xd],0,⟨⟨rfl,rfl,[],rfl⟩,by simp⟩,[],rfl,rfl,by push_cast -dsimp [zb,za,CLe,zd],by push_cast -dsimp [zb,za,CLe,zd,qd]⟩
   have hk2':=eq_true hk2
   rw[if_neg (fun q=>q hk2)]at hon
   by_cases n1:nm = [46]
   ·have n1':=eq_true n1
    rw[if_pos n1]at hon
    push_cast -dsimp [hpos,hl1]
    repeat refine an ?_
    refine cl (hg) ?_;push_cast -dsimp [hk2',n1']
    exact ⟨(rest,⟨0,[],(ze s.ino f.xs).ino⟩,dir,n),⟨by dsimp only;rw[JT];exact hon,hn,by dsimp only;omega,fun _=>by dsimp only;rw[hgs.2.2];exact hh⟩,by dsimp only;omega,wk⟩
   have n1':=eq_false n1
   rw[if_neg n1]at hon
   by_cases n2:nm = [46,46]
   ·have n2':=eq_true n2
    rw[if_pos n2]at hon
    push_cast -dsimp [hpos,hl1]
    repeat refine an ?_
    refine cl (hg) ?_;push_cast -dsimp [hk2',n1',n2']
    exact ⟨(rest,⟨0,[],(ze s.ino f.xs).parent⟩,dir,n),⟨by dsimp only;rw[JT];exact hon,hn,by dsimp only;omega,fun _=>zfc hf hr hh hk2⟩,by dsimp only;omega,wk⟩
   have n2':=eq_false n2
   rw[if_neg n2]at hon
   have hfd:=xv (G:=G0) (ze s.ino f.xs).es nm (by have:=hs.es hh;omega) (hf.es _ hgs.2.1)
   have hg2:=jG (G:=G0) f (zG nm (ze s.ino f.xs).es) (by have:=hs.len;omega) hf.rises
   have hin2:zG nm (ze s.ino f.xs).es≠0->zt (zG nm (ze s.ino f.xs).es) f.xs=true:=fun q=>by
    have hx:Xl nm (ze s.ino f.xs).es=true:=by
     unfold Xl
     rw[qP]
     cases hq:jk z8.name nm (ze s.ino f.xs).es with
     | some e=>rfl
     | none=>unfold zG at q;rw[hq]at q;exact absurd rfl q
    exact HL hf hh hx
   by_cases hk3:(ze (zG nm (ze s.ino f.xs).es) f.xs).kind=3
   case neg =>
    have hk3':=eq_false hk3
    have hg1:((0:Int)<(rest.length:Int))=((0:Int)<(rest.length:Int)):=rfl
    rw[if_pos (.inr (.inl hk3))]at hon
    push_cast -dsimp [hpos,hl1,hk2',n1',n2',hk3']
    repeat refine an ?_
    refine cl (hg) ?_;push_cast -dsimp [hk2',n1',n2']
    refine cl (hfd) ?_;push_cast -dsimp
    refine cl (hg2) ?_;push_cast -dsimp [hk3',hrl]
    exact ⟨(rest,⟨(ze s.ino f.xs).ino,nm,zG nm (ze s.ino f.xs).es⟩,dir,n),⟨by dsimp only;rw[JT];exact hon,hn,by dsimp only;omega,hin2⟩,by dsimp only;omega,wk⟩
   have hk3':=eq_true hk3
   have hx2:zt (zG nm (ze s.ino f.xs).es) f.xs=true:=by
    cases hq:zt (zG nm (ze s.ino f.xs).es) f.xs with
    | true=>rfl
    | false=>rw[(Jk hq).2]at hk3;exact absurd hk3 (by decide)
   have hxe:Xl nm (ze s.ino f.xs).es=true:=by
    cases hq:Xl nm (ze s.ino f.xs).es with
    | true=>rfl
    | false =>
     have e0:zG nm (ze s.ino f.xs).es=0:=by
      unfold zG
      unfold Xl at hq
      rw[qP]at hq
      cases hz:jk z8.name nm (ze s.ino f.xs).es with
      | none=>rfl
      | some e=>rw[hz]at hq;cases hq
     rw[e0]at hx2
     exact absurd rfl (Vn hf hx2)
   have hxd:=hd _ (zh hx2).2.1 hk3
   by_cases hr0:rest = []
   ·have hg1:((0:Int)<(rest.length:Int))=False:=eq_false (by rw[hr0];simp)
    cases fol with
    | false =>
     cases dir with
     | false =>
      rw[if_pos (.inr (.inr ⟨hr0,rfl,rfl⟩))]at hon
      push_cast -dsimp [hpos,hl1,hk2',n1',n2',hk3',hg1]
      repeat refine an ?_
      refine cl (hg) ?_;push_cast -dsimp [hk2',n1',n2']
      refine cl (hfd) ?_;push_cast -dsimp
      refine cl (hg2) ?_;push_cast -dsimp [hk3',hrl,hg1]
      exact ⟨(rest,⟨(ze s.ino f.xs).ino,nm,zG nm (ze s.ino f.xs).es⟩,false,n),⟨by dsimp only;rw[JT];exact hon,hn,by dsimp only;omega,hin2⟩,by dsimp only;omega,wk⟩
     | true =>
      rw[if_neg (by rintro (q | q | q);exact absurd (hxe.symm.trans q) (by simp);exact q hk3;cases q.2.2)]at hon
      have hlk:=Gm f false true rest s n (ze (zG nm (ze s.ino f.xs).es) f.xs) (ze s.ino f.xs) (by omega) (by omega) hn
      push_cast -dsimp [hpos,hl1,hk2',n1',n2',hk3',hg1]
      repeat refine an ?_
      refine cl (hg) ?_;push_cast -dsimp [hk2',n1',n2']
      refine cl (hfd) ?_;push_cast -dsimp
      refine cl (hg2) ?_;push_cast -dsimp [hk3',hrl,hg1]
      refine jY [0] [] hlk rfl (by decide) (by decide) (by simp) (by push_cast -dsimp) (by push_cast -dsimp) (fun r bx' m hp=>?_)
      obtain ⟨rfl,⟨q1,rfl,rfl⟩ | ⟨q1,q2,rfl,rfl⟩ | ⟨q1,q2,rfl,rfl⟩⟩:=hp
      ·push_cast -dsimp
       have hk0:40-n=0:=by omega
       rw[hk0]at hon
       have hon:(qd,(6:Int))=R:=hon
       rw[←hon]
       exact ⟨_,[Xd],0,⟨⟨rfl,rfl,[],rfl⟩,by simp⟩,[],rfl,rfl,by push_cast -dsimp [zb,za,CLe,zd],by push_cast -dsimp [zb,za,CLe,zd,qd]⟩
      ·push_cast -dsimp
       have hk0:40-n=(39-n)+1:=by omega
       rw[hk0,JH,if_pos q2]at hon
       rw[←hon]
       exact ⟨_,[Xd],0,⟨⟨rfl,rfl,[],rfl⟩,by simp⟩,[],rfl,rfl,by push_cast -dsimp [zb,za,CLe,zd],by push_cast -dsimp [zb,za,CLe,zd,qd]⟩
      ·push_cast -dsimp
       have hk0:40-n=(39-n)+1:=by omega
       have hk1:40-(n+1)=39-n:=by omega
       rw[hk0,JH,if_neg (by rw[q2];simp)]at hon
       have hnl:=qf (ze (zG nm (ze s.ino f.xs).es) f.xs).data
       exact ⟨(zi (ze (zG nm (ze s.ino f.xs).es) f.xs).data++rest,⟨0,[],if YH (ze (zG nm (ze s.ino f.xs).es) f.xs).data then 1 else (ze s.ino f.xs).ino⟩,true||(qk (ze (zG nm (ze s.ino f.xs).es) f.xs).data&&decide (rest = [])),n+1),⟨by dsimp only;rw[hk1];exact hon,by dsimp only;omega,by dsimp only;rw[List.length_append];omega,fun _=>by
        dsimp only
        split
        ·exact hf.root
        ·rw[hgs.2.2];exact hh⟩,by dsimp only;rw[List.length_append];omega,wk⟩
    | true =>
     rw[if_neg (by rintro (q | q | q);exact absurd (hxe.symm.trans q) (by simp);exact q hk3;cases q.2.1)]at hon
     have hlk:=Gm f true dir rest s n (ze (zG nm (ze s.ino f.xs).es) f.xs) (ze s.ino f.xs) (by omega) (by omega) hn
     push_cast -dsimp [hpos,hl1,hk2',n1',n2',hk3',hg1]
     repeat refine an ?_
     refine cl (hg) ?_;push_cast -dsimp [hk2',n1',n2']
     refine cl (hfd) ?_;push_cast -dsimp
     refine cl (hg2) ?_;push_cast -dsimp [hk3',hrl,hg1]
     refine jY [0] [] hlk rfl (by decide) (by decide) (by simp) (by push_cast -dsimp) (by push_cast -dsimp) (fun r bx' m hp=>?_)
     obtain ⟨rfl,⟨q1,rfl,rfl⟩ | ⟨q1,q2,rfl,rfl⟩ | ⟨q1,q2,rfl,rfl⟩⟩:=hp
     ·push_cast -dsimp
      have hk0:40-n=0:=by omega
      rw[hk0]at hon
      have hon:(qd,(6:Int))=R:=hon
      rw[←hon]
      exact ⟨_,[Xd],0,⟨⟨rfl,rfl,[],rfl⟩,by simp⟩,[],rfl,rfl,by push_cast -dsimp [zb,za,CLe,zd],by push_cast -dsimp [zb,za,CLe,zd,qd]⟩
     ·push_cast -dsimp
      have hk0:40-n=(39-n)+1:=by omega
      rw[hk0,JH,if_pos q2]at hon
      rw[←hon]
      exact ⟨_,[Xd],0,⟨⟨rfl,rfl,[],rfl⟩,by simp⟩,[],rfl,rfl,by push_cast -dsimp [zb,za,CLe,zd],by push_cast -dsimp [zb,za,CLe,zd,qd]⟩
     ·push_cast -dsimp
      have hk0:40-n=(39-n)+1:=by omega
      have hk1:40-(n+1)=39-n:=by omega
      rw[hk0,JH,if_neg (by rw[q2];simp)]at hon
      have hnl:=qf (ze (zG nm (ze s.ino f.xs).es) f.xs).data
      exact ⟨(zi (ze (zG nm (ze s.ino f.xs).es) f.xs).data++rest,⟨0,[],if YH (ze (zG nm (ze s.ino f.xs).es) f.xs).data then 1 else (ze s.ino f.xs).ino⟩,dir||(qk (ze (zG nm (ze s.ino f.xs).es) f.xs).data&&decide (rest = [])),n+1),⟨by dsimp only;rw[hk1];exact hon,by dsimp only;omega,by dsimp only;rw[List.length_append];omega,fun _=>by
       dsimp only
       split
       ·exact hf.root
       ·rw[hgs.2.2];exact hh⟩,by dsimp only;rw[List.length_append];omega,wk⟩
   ·have hg1:((0:Int)<(rest.length:Int))=True:=eq_true (by have:=List.length_pos_iff.2 hr0;omega)
    rw[if_neg (by rintro (q | q | q);exact absurd (hxe.symm.trans q) (by simp);exact q hk3;exact hr0 q.1)]at hon
    have hlk:=Gm f fol dir rest s n (ze (zG nm (ze s.ino f.xs).es) f.xs) (ze s.ino f.xs) (by omega) (by omega) hn
    push_cast -dsimp [hpos,hl1,hk2',n1',n2',hk3',hg1]
    repeat refine an ?_
    refine cl (hg) ?_;push_cast -dsimp [hk2',n1',n2']
    refine cl (hfd) ?_;push_cast -dsimp
    refine cl (hg2) ?_;push_cast -dsimp [hk3',hrl,hg1]
    refine jY [0] [] hlk rfl (by decide) (by decide) (by simp) (by push_cast -dsimp) (by push_cast -dsimp) (fun r bx' m hp=>?_)
    obtain ⟨rfl,⟨q1,rfl,rfl⟩ | ⟨q1,q2,rfl,rfl⟩ | ⟨q1,q2,rfl,rfl⟩⟩:=hp
    ·push_cast -dsimp
     have hk0:40-n=0:=by omega
     rw[hk0]at hon
     have hon:(qd,(6:Int))=R:=hon
     rw[←hon]
     exact ⟨_,[Xd],0,⟨⟨rfl,rfl,[],rfl⟩,by simp⟩,[],rfl,rfl,by push_cast -dsimp [zb,za,CLe,zd],by push_cast -dsimp [zb,za,CLe,zd,qd]⟩
    ·push_cast -dsimp
     have hk0:40-n=(39-n)+1:=by omega
     rw[hk0,JH,if_pos q2]at hon
     rw[←hon]
     exact ⟨_,[Xd],0,⟨⟨rfl,rfl,[],rfl⟩,by simp⟩,[],rfl,rfl,by push_cast -dsimp [zb,za,CLe,zd],by push_cast -dsimp [zb,za,CLe,zd,qd]⟩
    ·push_cast -dsimp
     have hk0:40-n=(39-n)+1:=by omega
     have hk1:40-(n+1)=39-n:=by omega
     rw[hk0,JH,if_neg (by rw[q2];simp)]at hon
     have hnl:=qf (ze (zG nm (ze s.ino f.xs).es) f.xs).data
     exact ⟨(zi (ze (zG nm (ze s.ino f.xs).es) f.xs).data++rest,⟨0,[],if YH (ze (zG nm (ze s.ino f.xs).es) f.xs).data then 1 else (ze s.ino f.xs).ino⟩,dir||(qk (ze (zG nm (ze s.ino f.xs).es) f.xs).data&&decide (rest = [])),n+1),⟨by dsimp only;rw[hk1];exact hon,by dsimp only;omega,by dsimp only;rw[List.length_append];omega,fun _=>by
      dsimp only
      split
      ·exact hf.root
      ·rw[hgs.2.2];exact hh⟩,by dsimp only;rw[List.length_append];omega,wk⟩
end
section
open CA CB
open Go.RowKit
theorem Mr (f:FsV) (hf:FsI f) (hr:FsR f) (hs:FsS f) (hd:∀ x∈f.xs,x.kind=3->x.data.length<=1000) (b p:List UInt8) (fol:Bool) (hb:b.length<=100000) (hp:p.length<=2000):Fun Tryz.prog G0 30 [.agg (fsC f),.str b,.str p,.sc (.bool fol)] (.tup [.agg (jq (zD f b p fol).1),.sc (.int .i64 (zD f b p fol).2)]) 0:=by
 have hlo:=uw p (by omega)
 have hns:=qf p
 have bad:∀ e:Int,e≠0->zD f b p fol=(qd,e)->Fun Tryz.prog G0 60 [.agg (fsC f),.str b,.str p,.sc (.bool fol)] (.tup [.any,.sc (.int .i64 e)]) 0->Fun Tryz.prog G0 30 [.agg (fsC f),.str b,.str p,.sc (.bool fol)] (.tup [.agg (jq (zD f b p fol).1),.sc (.int .i64 (zD f b p fol).2)]) 0:=fun e he hv hb=>by
  refine fon Tryz.func30 ?_;dsimp only[Tryz.f30]
  push_cast -dsimp
  refine cl (hb) ?_;push_cast -dsimp [he]
  exact dn (by push_cast -dsimp [zb,za,CLe,zd,hv,qd])
 by_cases h1:p = []
 ·subst h1
  refine bad 1 (by decide) (by unfold zD;rw[if_pos rfl]) ?_
  refine fon Tryz.func60 ?_;dsimp only[Tryz.f60]
  push_cast -dsimp
  exact dn (by push_cast -dsimp [zb,za,CLe,zd])
 have h1':=eq_false h1
 cases h2:J7 p with
 | true =>
  rw[h2]at hlo
  refine bad 7 (by decide) (by unfold zD;rw[if_neg h1,if_pos h2]) ?_
  refine fon Tryz.func60 ?_;dsimp only[Tryz.f60]
  push_cast -dsimp [h1']
  refine cl (hlo) ?_;push_cast -dsimp
  exact dn (by push_cast -dsimp [zb,za,CLe,zd])
 | false =>
 rw[h2]at hlo
 have hre:Fun Tryz.prog G0 63 [.str p] (.agg [qu (YH p),.own 0 9 1 (zJ (zi p)),qu (qk p)]) 1:=QL p (by omega)
 have good:∀ h:Int,zD f b p fol=onN f fol 40 (zi p) ⟨0,[],h⟩ (qk p)->(h≠0->zt h f.xs=true)->Xh Tryz.prog G0 60 [.agg (fsC f),.str b,.str p,.sc (.bool fol)] [] 0 (fun r bx m=>m=0/\r = .tup [.ptr 2 0,.sc (.int .i64 0)]/\bx = [[.any,.any,.any,.any],[.any,.any,.any],zkx f fol (qk p) (zi p) ⟨0,[],h⟩ (0:Nat)])->Fun Tryz.prog G0 30 [.agg (fsC f),.str b,.str p,.sc (.bool fol)] (.tup [.agg (jq (zD f b p fol).1),.sc (.int .i64 (zD f b p fol).2)]) 0:=fun h hv hh hbg=>by
  have hgo:=zdr f hf hr hs fol (qk p) (zi p) ⟨0,[],h⟩ (by omega) hd hh _ hv.symm
  refine fon Tryz.func30 ?_;dsimp only[Tryz.f30]
  push_cast -dsimp
  refine jY [] [] hbg rfl (by decide) (by decide) (by simp) (by push_cast -dsimp) rfl (fun r bx' m hp=>?_)
  obtain ⟨rfl,rfl,rfl⟩:=hp
  push_cast -dsimp
  refine jY [4] [] hgo rfl (by decide) (by decide) (by simp) (by push_cast -dsimp) rfl (fun r bx' m hp=>?_)
  obtain ⟨rfl,rfl,X,rfl⟩:=hp
  push_cast -dsimp
  exact dn (by push_cast -dsimp [zb,za,CLe,zd])
 cases h3:YH p with
 | true =>
  rw[h3]at hre
  refine good 1 (by unfold zD;rw[if_neg h1,if_neg (by rw[h2];decide),if_pos h3]) (fun _=>hf.root) ?_
  refine foX (fun _=>[]) Tryz.func60 ?_;dsimp only[Tryz.f60]
  push_cast -dsimp [h1']
  refine cl (hlo) ?_;push_cast -dsimp
  refine cl (hre) ?_;push_cast -dsimp
  exact ⟨_,[_,_,_],0,⟨⟨rfl,rfl,rfl⟩,Nat.zero_le _⟩,[],rfl,rfl,by push_cast -dsimp [zb,za,CLe,zd],by push_cast -dsimp [zb,za,CLe,zd]⟩
 | false =>
  rw[h3]at hre
  have hh:=zfI f hf hs b hb
  by_cases h4:(jO f b).2=0
  ·rw[h4]at hh
   refine good (jO f b).1 (by unfold zD;rw[if_neg h1,if_neg (by rw[h2];decide),if_neg (by rw[h3];decide),if_neg (fun q=>q h4)]) (fun hne=>?_) ?_
   ·unfold jO at hne h4 ⊢
    split at hne
    ·exact absurd rfl hne
    rename_i c1
    rw[if_neg c1]at h4 ⊢
    split at hne
    ·exact absurd rfl hne
    rename_i c2
    rw[if_neg c2]at h4 ⊢
    split at hne
    ·exact absurd rfl hne
    rename_i c3
    rw[if_neg c3]
    have q:=Gc (Classical.not_not.1 c3)
    rw[(zh q).2.2]
    exact q
   ·refine foX (fun _=>[]) Tryz.func60 ?_;dsimp only[Tryz.f60]
    push_cast -dsimp [h1']
    refine cl (hlo) ?_;push_cast -dsimp
    refine cl (hre) ?_;push_cast -dsimp
    refine cl (hh) ?_;push_cast -dsimp
    exact ⟨_,[_,_,_],0,⟨⟨rfl,rfl,rfl⟩,Nat.zero_le _⟩,[],rfl,rfl,by push_cast -dsimp [zb,za,CLe,zd],by push_cast -dsimp [zb,za,CLe,zd]⟩
  ·refine bad _ h4 (by unfold zD;rw[if_neg h1,if_neg (by rw[h2];decide),if_neg (by rw[h3];decide),if_pos h4]) ?_
   refine fon Tryz.func60 ?_;dsimp only[Tryz.f60]
   push_cast -dsimp [h1']
   refine cl (hlo) ?_;push_cast -dsimp
   refine cl (hre) ?_;push_cast -dsimp
   refine cl (hh) ?_;push_cast -dsimp [h4]
   exact dn (by push_cast -dsimp [zb,za,CLe,zd])
end
section
open CA CB
open Go.RowKit
theorem RmB.s {d:zH} (h:RmB 2000 d):zky d:=by
 have hr:=zlR h.wi.fs
 have hn:=h.next
 exact ⟨h.wi,⟨⟨by have:=h.len;omega,fun x hx=>by obtain ⟨q1,q2,q3⟩:=h.node x hx;exact ⟨by omega,by omega,fun e he=>by have:=q3 e he;omega⟩⟩,⟨by omega,by omega⟩,by have:=h.kept;omega,by have:=h.pool;omega⟩,by have:=h.ops;omega,h.diags,h.slot.1,by have:=h.slot.2;have:=h.kept;omega⟩
theorem x6 {n:Int} {xs:List zn} (h:zt n xs=false):ze n xs=kH:=by unfold ze;rw[(Jk h).1];rfl
theorem Vp (m:Nat) (d:zH) (p:List UInt8) (n:Int) (hB:RmB 2000 d) (hp:p.length<=60000) (ih:∀ e∈(ze n d.w.fs.xs).es,∀ (q:zH) (x:List UInt8),RmB 2000 q->G9 d.w.fs q.w.fs->x.length<=p.length+301->Fun Tryz.prog GD 35 [kF q,.str x,.sc (.int .i64 e.ino)] (kF (rmD m q x e.ino)) 0):Fun Tryz.prog GD 35 [kF d,.str p,.sc (.int .i64 n)] (kF (rmD (m+1) d p n)) 0:=by
 have hs:=hB.s
 have hg:=jG (G:=GD) d.w.fs n (by have:=hs.ws.fs.len;omega) hB.wi.fs.rises
 have hnm:(ze n d.w.fs.xs).es.length<=40/\∀ e∈(ze n d.w.fs.xs).es,e.name.length<=300:=by
  cases hh:zt n d.w.fs.xs with
  | false=>rw[x6 hh];exact ⟨Nat.zero_le _,fun e he=>by cases he⟩
  | true=>have q:=hB.node _ (zh hh).2.1;exact ⟨q.1,q.2.2⟩
 have e:rmD (m+1) d p n=(QG ((ze n d.w.fs.xs).es.foldl (fun d e=>rmD m d (jx p e.name) e.ino) d) (Qt p)).1:=rfl
 rw[e]
 refine fof (fun i=>if i=1 then jh 7 8 else if i=5 then [false,false,false,false,false,false,false,false,true] else if i=7 then [false,false,false,false,false,false,false,true] else []) Tryz.func35 ?_;dsimp only[Tryz.f35]
 push_cast -dsimp
 refine cl (hg) ?_;push_cast -dsimp
 generalize (ze n d.w.fs.xs).es=L at *
 have hLl:(z6 L).length=L.length:=List.length_map ..
 refine loop (fun i:Nat=>⟨[(1,.str p),(3,.ptr 0 0),(6,.ptr 1 0),(20,.sl 2 (z6 L)),(21,.sc (.int .i64 L.length)),(22,.sc (.int .i64 i))],[zp1 ((L.take i).foldl (fun d e=>rmD m d (jx p e.name) e.ino) d),HF],0,0⟩) (fun i=>i<=L.length/\RmB 2000 ((L.take i).foldl (fun d e=>rmD m d (jx p e.name) e.ino) d)/\G9 d.w.fs ((L.take i).foldl (fun d e=>rmD m d (jx p e.name) e.ino) d).w.fs) (fun i=>L.length-i) 0 ⟨Nat.zero_le _,hB,.refl _⟩ ?_ ?_
 ·exact wk (h4:=by push_cast -dsimp [zb,za,CLe,zd,hLl]) (h5:=by push_cast -dsimp [zb,za,CLe,zd,List.take_zero,List.foldl_nil])
 rintro i ⟨h1,h2,h3⟩
 by_cases hi:i<L.length
 ·have hi':=eq_true (show (i:Int)<L.length by omega)
  have ht:L.take (i+1)=L.take i++[L[i]]:=List.take_succ_eq_append_getElem hi
  have hgi:(z6 L)[i]?=some [.str L[i].name,.sc (.int .i64 L[i].ino)]:=by simp[z6,hi]
  have hme:=List.getElem_mem hi
  have hn3:=hnm.2 _ hme
  have hn4:=hnm.1
  have hj:=(zdd p L[i].name (by omega) (by omega)).g0 (G':=GD)
  have hjl:(jx p L[i].name).length<=p.length+301:=by unfold jx;split<;>simp<;>omega
  have hr:=ih _ hme _ (jx p L[i].name) h2 h3 hjl
  have hq:=Hu (P:=fun q=>RmB 2000 q/\G9 d.w.fs q.w.fs) (fun q p hq=>⟨(hq.1.add p).1,hq.2.trans (hq.1.add p).2⟩) m _ (jx p L[i].name) L[i].ino ⟨h2,h3⟩
  have hf:(L.take (i+1)).foldl (fun d e=>rmD m d (jx p e.name) e.ino) d=rmD m ((L.take i).foldl (fun d e=>rmD m d (jx p e.name) e.ino) d) (jx p L[i].name) L[i].ino:=by rw[ht,List.foldl_append];rfl
  rw[←hf]at hr hq
  push_cast -dsimp [hi',hgi,hLl,Int.toNat_natCast]
  repeat refine an ?_
  refine cl (hj) ?_;push_cast -dsimp
  refine cl (hr) ?_;push_cast -dsimp
  repeat refine an ?_
  exact ⟨i+1,⟨by omega,hq.1,hq.2⟩,by omega,wk⟩
 ·have hil:i=L.length:=by omega
  subst hil
  rw[List.take_length]at h2 ⊢
  have hi':=eq_false (show ¬(L.length:Int)<L.length by omega)
  have ha:=zpf _ h2.s p (by omega)
  push_cast -dsimp [hi']
  refine cl (ha) ?_;push_cast -dsimp
  exact dn (by push_cast -dsimp [zb,za,CLe,zd])
theorem UY:∀ (m:Nat) (d:zH) (p:List UInt8) (n:Int),RmB 2000 d->p.length+m*302<=60000->low d.w.fs.xs m n->Fun Tryz.prog GD 35 [kF d,.str p,.sc (.int .i64 n)] (kF (rmD (m+1) d p n)) 0
 | 0,d,p,n,hB,hp,hl=>Vp 0 d p n hB (by omega) fun e he=>by
  have hl:(ze n d.w.fs.xs).es = []:=hl
  rw[hl]at he;cases he
 | m+1,d,p,n,hB,hp,hl=>Vp (m+1) d p n hB (by omega) fun e he q x hq hL hx=>UY m q x e.ino hq (by omega) (hL.low (hl e he))
theorem zjg (p:List UInt8) (hp:p.length<=2000):Fun Tryz.prog G0 62 [.str p] (.str (XN p)) 0:=by
 have hns:=qf p
 have hre:Fun Tryz.prog G0 63 [.str p] (.agg [qu (YH p),.own 0 9 1 (zJ (zi p)),qu (qk p)]) 1:=QL p (by omega)
 by_cases h:zi p = []
 ·have e:XN p=p:=if_pos h
  rw[h]at hre
  refine fon Tryz.func62 ?_;dsimp only[Tryz.f62]
  push_cast -dsimp
  refine cl (hre) ?_;push_cast -dsimp
  exact dn (by push_cast -dsimp [zb,za,CLe,zd,e])
 ·have e:XN p=put (YH p) (zi p) false:=if_neg h
  have hl:(((zi p).length:Int)=0)=False:=eq_false (by have:=List.length_pos_iff.2 h;omega)
  have hsl:(zJ (zi p)).length=(zi p).length:=List.length_map ..
  have hpu:=zkY (YH p) (zi p) false (by omega) (by have:=Xa p;have:=ZD h;omega)
  refine fon Tryz.func62 ?_;dsimp only[Tryz.f62]
  push_cast -dsimp
  refine cl (hre) ?_;push_cast -dsimp [hl,hsl]
  refine cl (hpu) ?_;push_cast -dsimp
  exact dn (by push_cast -dsimp [zb,za,CLe,zd,e])
end
section
open CA CB
open Go.RowKit QuotePlain
abbrev u8C (b:UInt8):C:=.sc (.int .u8 (b.toNat:Int))
theorem GB (l:List UInt8) (c:UInt8):(Lib.indexByte l c<0)↔c∉l:=by
 constructor
 ·intro h hc
  have h1:=Lib.indexByte_ge l c
  obtain ⟨k,hk,e⟩:=List.getElem_of_mem hc
  exact Lib.indexByte_none (show Lib.indexByte l c = -1 by omega) k (by rw[List.getElem?_eq_getElem hk,e])
 ·intro h
  rcases Int.lt_or_le (Lib.indexByte l c) 0 with h1 | h1
  ·exact h1
  ·obtain ⟨o,ho⟩:∃ o:Nat,Lib.indexByte l c=o:=⟨(Lib.indexByte l c).toNat,by omega⟩
   obtain ⟨h2,_⟩:=Lib.indexByte_some ho
   exact absurd (List.mem_of_getElem? h2) h
theorem Qg (s:List UInt8) (c:UInt8) (hs:s.length<=1000000):Fun Tryz.prog G0 55 [.str s,u8C c] (.sc (.bool (decide (c∈s)))) 0:=by
 refine fon Tryz.func55 ?_;dsimp only[Tryz.f55]
 push_cast -dsimp
 refine loop (fun k:Nat=>⟨[(0,.str s),(1,u8C c),(5,.sc (.int .i64 k))],[],0,0⟩) (fun k=>k<=s.length/\c∉s.take k) (fun k=>s.length-k) 0 ⟨Nat.zero_le _,by simp⟩ ?_ ?_
 ·exact wk
 ·rintro k ⟨hk,hn⟩
  push_cast -dsimp
  refine br (fun h=>?_) (fun h=>?_)
  ·have hk2:k<s.length:=by simp at h;omega
   have hg:s[k]?=some s[k]:=List.getElem?_eq_getElem hk2
   push_cast -dsimp [hg]
   refine ⟨by omega,br (fun h2=>?_) (fun h2=>?_)⟩
   ·push_cast -dsimp
    have h3:s[k]=c:=by simp at h2;exact UInt8.toNat_inj.1 (by omega)
    have h4:c∈s:=h3▸List.getElem_mem hk2
    exact dn (by push_cast -dsimp [zb,za,CLe,zd,h4])
   ·push_cast -dsimp
    have h3:¬c=s[k]:=fun e=>by subst e;simp at h2
    refine ⟨by omega,k+1,⟨by omega,?_⟩,by omega,wk⟩
    intro h4
    rw[List.take_add_one,hg]at h4
    rcases List.mem_append.1 h4 with h5 | h5
    ·exact hn h5
    ·simp at h5;exact h3 h5
  ·have hk2:k=s.length:=by simp at h;omega
   subst hk2
   rw[List.take_length]at hn
   push_cast -dsimp
   exact dn (by push_cast -dsimp [zb,za,CLe,zd,hn])
theorem x9 (k:Int) (o:List UInt8) (ops:C) (c:UInt8) (hops:ops.cellB=true):Fun Tryz.prog G0 32 [.agg [.sc (.int .i64 k),.str o,ops],u8C c] (.sc (.bool (decide (c∈o)))) 0:=by
 refine fon Tryz.func32 ?_;dsimp only[Tryz.f32]
 push_cast -dsimp [hops]
 refine cl (QY o c) ?_;push_cast -dsimp
 have e:decide (0<=Lib.indexByte o c)=decide (c∈o):=by
  have:=GB o c
  by_cases h:c∈o
  ·have h2:¬Lib.indexByte o c<0:=fun h3=>this.1 h3 h
   simp[h];omega
  ·have h2:=this.2 h
   simp[h];omega
 exact dn (by push_cast -dsimp [zb,za,CLe,zd,e])
theorem zq0 (c d:UInt8):((c.toNat:Int)=(d.toNat:Int))=(c=d):=by
 refine propext ⟨fun h=>UInt8.toNat_inj.1 (by omega),fun h=>by rw[h]⟩
def XG (s p:List UInt8):UInt8:=s.foldl (fun c b=>if b∈p then b else c) 0
theorem Hr (s p:List UInt8) (i:Nat) (hi:i<s.length):XG (s.take (i+1)) p=if s[i]∈p then s[i] else XG (s.take i) p:=by
 unfold XG
 rw[List.take_add_one,List.getElem?_eq_getElem hi,List.foldl_append]
 simp
theorem MQ (s p:List UInt8) (hs:s.length<=1000000) (hp:p.length<=1000000):Fun Tryz.prog G0 99 [.str s,.str p] (u8C (XG s p)) 0:=by
 refine fon Tryz.func99 ?_;dsimp only[Tryz.f99]
 push_cast -dsimp
 refine loop (fun k:Nat=>⟨[(0,.str s),(1,.str p),(5,u8C (XG (s.take k) p)),(6,.sc (.int .i64 k))],[],0,0⟩) (fun k=>k<=s.length) (fun k=>s.length-k) 0 (Nat.zero_le _) ?_ ?_
 ·exact j8.mk [] rfl rfl (Nat.le_refl _) rfl (by push_cast -dsimp [zb,za,CLe,zd]<;>rfl) (by push_cast -dsimp [zb,za,CLe,zd])
 ·rintro k hk
  push_cast -dsimp
  refine br (fun h=>?_) (fun h=>?_)
  ·have hk2:k<s.length:=by simp at h;omega
   have hg:s[k]?=some s[k]:=List.getElem?_eq_getElem hk2
   push_cast -dsimp [hg]
   refine ⟨by omega,?_⟩
   refine cl (Qg p s[k] hp) ?_;push_cast -dsimp
   refine br (fun h2=>?_) (fun h2=>?_)
   ·push_cast -dsimp [hg]
    have e:XG (s.take (k+1)) p=s[k]:=by rw[Hr s p k hk2,if_pos (by simpa using h2)]
    refine ⟨by omega,by omega,k+1,by omega,by omega,wk (by push_cast -dsimp [zb,za,CLe,zd,e])⟩
   ·push_cast -dsimp [hg]
    have e:XG (s.take (k+1)) p=XG (s.take k) p:=by rw[Hr s p k hk2,if_neg (by simpa using h2)]
    refine ⟨by omega,k+1,by omega,by omega,wk (by push_cast -dsimp [zb,za,CLe,zd,e])⟩
  ·have hk2:k=s.length:=by simp at h;omega
   subst hk2
   rw[List.take_length]
   push_cast -dsimp
   exact dn
def isO (k:Int) (s:List UInt8) (x:UInt8):Bool:=if 4<=k/\(x=102∨x=110) then decide (XG s [102,110]=x) else if x=114 then decide (114∈s∨82∈s) else if x=82 then false else decide (x∈s)
def Yo (k:Int) (s:List UInt8) (n:Nat):List UInt8:=((List.range' 65 n).map UInt8.ofNat).filter (isO k s)
theorem xH (k:Int) (s:List UInt8) (hs:s.length<=1000000):Fun Tryz.prog G0 54 [.sc (.int .i64 k),.str s] (.str (Yo k s 58)) 0:=by
 refine fon Tryz.func54 ?_;dsimp only[Tryz.f54]
 push_cast -dsimp
 refine loop (fun j:Nat=>⟨[(0,.sc (.int .i64 k)),(1,.str s),(5,.str (Yo k s j)),(6,.sc (.int .i64 (65+j)))],[],0,0⟩) (fun j=>j<=58) (fun j=>58-j) 0 (Nat.zero_le _) ?_ ?_
 ·exact j8.mk [] rfl rfl (Nat.le_refl _) rfl (by push_cast -dsimp [zb,za,CLe,zd]<;>rfl) (by push_cast -dsimp [zb,za,CLe,zd])
 ·rintro j hj
  push_cast -dsimp
  refine br (fun h=>?_) (fun h=>?_)
  ·have hj2:j<58:=by simp at h;omega
   obtain ⟨x,hxe,hx⟩:∃ x:UInt8,UInt8.ofNat (65+j)=x/\(65+(j:Int))=(x.toNat:Int):=⟨_,rfl,by rw[UInt8.toNat_ofNat_of_lt' (by show 65+j<256;omega)];omega⟩
   have hx1:65+((j:Int)+1)=(x.toNat:Int)+1:=by omega
   have hxb:(x.toNat:Int)<123:=by omega
   have hstep:Yo k s (j+1)=Yo k s j++if isO k s x then [x] else []:=by
    unfold Yo
    rw[List.range'_concat,List.map_append,List.filter_append]
    simp only[List.map_cons,List.map_nil,Nat.one_mul,hxe,List.filter_cons,List.filter_nil]
   have hlo:(Yo k s j).length<=j:=Nat.le_trans (List.length_filter_le _ _) (by simp)
   have hI:∀ (n:Nat) (d:UInt8),d.toNat=n->((x.toNat:Int)=(n:Int))=(x=d):=fun n d h=>h▸zq0 x d
   have hcase:(x=82)∨(x=114)∨(x≠82/\x≠114/\¬4<=k)∨(x=102/\4<=k)∨(x=110/\4<=k)∨(x≠82/\x≠114/\4<=k/\x≠102/\x≠110):=by
    by_cases h1:x=82
    ·exact .inl h1
    ·by_cases h2:x=114
     ·exact .inr (.inl h2)
     ·by_cases h3:4<=k
      ·by_cases h4:x=102
       ·exact .inr (.inr (.inr (.inl ⟨h4,h3⟩)))
       ·by_cases h5:x=110
        ·exact .inr (.inr (.inr (.inr (.inl ⟨h5,h3⟩))))
        ·exact .inr (.inr (.inr (.inr (.inr ⟨h1,h2,h3,h4,h5⟩))))
      ·exact .inr (.inr (.inl ⟨h1,h2,h3⟩))
   clear hxe
   rw[hx]
   push_cast -dsimp
   refine ⟨by omega,?_⟩
   refine cl (Qg s x hs) ?_;push_cast -dsimp
   rcases hcase with hc | hc | hc | hc | hc | hc
   ·have f0:isO k s x=false:=by simp[isO,hc]
    have e:Yo k s (j+1)=Yo k s j:=by rw[hstep,f0];simp
    have f1:((x.toNat:Int)=82)=True:=(hI 82 82 rfl).trans (by simp[hc])
    have f2:((x.toNat:Int)=114)=False:=(hI 114 114 rfl).trans (by simp[hc])
    have f3:((x.toNat:Int)=102)=False:=(hI 102 102 rfl).trans (by simp[hc])
    have f4:((x.toNat:Int)=110)=False:=(hI 110 110 rfl).trans (by simp[hc])
    by_cases h4:4<=k
    all_goals
     push_cast -dsimp [f1,f2,f3,f4,h4]
     repeat (refine And.intro (by omega) ?_)
     refine ⟨j+1,by omega,by omega,wk (by push_cast -dsimp [zb,za,CLe,zd,e,hx1])⟩
   ·have f0:isO k s x=decide (114∈s∨82∈s):=by simp[isO,hc]
    have f1:((x.toNat:Int)=82)=False:=(hI 82 82 rfl).trans (by simp[hc])
    have f2:((x.toNat:Int)=114)=True:=(hI 114 114 rfl).trans (by simp[hc])
    have f3:((x.toNat:Int)=102)=False:=(hI 102 102 rfl).trans (by simp[hc])
    have f4:((x.toNat:Int)=110)=False:=(hI 110 110 rfl).trans (by simp[hc])
    push_cast -dsimp [f1,f2,f3,f4]
    refine cl (Qg s 114 hs) ?_;push_cast -dsimp
    by_cases h6:114∈s
    ·push_cast -dsimp [h6]
     have e:Yo k s (j+1)=Yo k s j++[x]:=by rw[hstep,f0];simp[h6]
     by_cases h4:4<=k
     all_goals
      push_cast -dsimp [f1,f2,f3,f4,h4]
      refine ⟨[x],rfl,?_⟩
      push_cast -dsimp
      repeat (refine And.intro (by omega) ?_)
      refine ⟨j+1,by omega,by omega,wk (by push_cast -dsimp [zb,za,CLe,zd,e,hx1])⟩
    ·push_cast -dsimp [h6]
     refine cl (Qg s 82 hs) ?_;push_cast -dsimp
     by_cases h7:82∈s
     ·have e:Yo k s (j+1)=Yo k s j++[x]:=by rw[hstep,f0];simp[h7]
      by_cases h4:4<=k
      all_goals
       push_cast -dsimp [f1,f2,f3,f4,h4,h7]
       refine ⟨[x],rfl,?_⟩
       push_cast -dsimp
       repeat (refine And.intro (by omega) ?_)
       refine ⟨j+1,by omega,by omega,wk (by push_cast -dsimp [zb,za,CLe,zd,e,hx1])⟩
     ·have e:Yo k s (j+1)=Yo k s j:=by rw[hstep,f0];simp[h6,h7]
      by_cases h4:4<=k
      all_goals
       push_cast -dsimp [f1,f2,f3,f4,h4,h7]
       repeat (refine And.intro (by omega) ?_)
       refine ⟨j+1,by omega,by omega,wk (by push_cast -dsimp [zb,za,CLe,zd,e,hx1])⟩
   ·have f0:isO k s x=decide (x∈s):=by simp[isO,hc]
    have h4:¬4<=k:=hc.2.2
    have f1:((x.toNat:Int)=82)=False:=(hI 82 82 rfl).trans (by simp[hc])
    have f2:((x.toNat:Int)=114)=False:=(hI 114 114 rfl).trans (by simp[hc])
    by_cases h6:x∈s
    ·have e:Yo k s (j+1)=Yo k s j++[x]:=by rw[hstep,f0];simp[h6]
     push_cast -dsimp [f1,f2,h4,h6]
     refine ⟨[x],rfl,?_⟩
     push_cast -dsimp
     repeat (refine And.intro (by omega) ?_)
     refine ⟨j+1,by omega,by omega,wk (by push_cast -dsimp [zb,za,CLe,zd,e,hx1])⟩
    ·have e:Yo k s (j+1)=Yo k s j:=by rw[hstep,f0];simp[h6]
     push_cast -dsimp [f1,f2,h4,h6]
     repeat (refine And.intro (by omega) ?_)
     refine ⟨j+1,by omega,by omega,wk (by push_cast -dsimp [zb,za,CLe,zd,e,hx1])⟩
   ·have f0:isO k s x=decide (XG s [102,110]=x):=by simp[isO,hc]
    have h4:4<=k:=hc.2
    have f1:((x.toNat:Int)=82)=False:=(hI 82 82 rfl).trans (by simp[hc])
    have f2:((x.toNat:Int)=114)=False:=(hI 114 114 rfl).trans (by simp[hc])
    have f3:((x.toNat:Int)=102)=True:=(hI 102 102 rfl).trans (by simp[hc])
    have f4:((x.toNat:Int)=110)=False:=(hI 110 110 rfl).trans (by simp[hc])
    push_cast -dsimp [f1,f2,f3,f4,h4]
    refine cl (MQ s [102,110] hs (by simp)) ?_;push_cast -dsimp
    by_cases h6:XG s [102,110]=x
    ·have g6:((XG s [102,110]).toNat=x.toNat)=True:=by simp[h6]
     have e:Yo k s (j+1)=Yo k s j++[x]:=by rw[hstep,f0];simp[h6]
     push_cast -dsimp [g6]
     refine ⟨[x],rfl,?_⟩
     push_cast -dsimp
     repeat (refine And.intro (by omega) ?_)
     refine ⟨j+1,by omega,by omega,wk (by push_cast -dsimp [zb,za,CLe,zd,e,hx1])⟩
    ·have g6:((XG s [102,110]).toNat=x.toNat)=False:=by simp[UInt8.toNat_inj,h6]
     have e:Yo k s (j+1)=Yo k s j:=by rw[hstep,f0];simp[h6]
     push_cast -dsimp [g6]
     repeat (refine And.intro (by omega) ?_)
     refine ⟨j+1,by omega,by omega,wk (by push_cast -dsimp [zb,za,CLe,zd,e,hx1])⟩
   ·have f0:isO k s x=decide (XG s [102,110]=x):=by simp[isO,hc]
    have h4:4<=k:=hc.2
    have f1:((x.toNat:Int)=82)=False:=(hI 82 82 rfl).trans (by simp[hc])
    have f2:((x.toNat:Int)=114)=False:=(hI 114 114 rfl).trans (by simp[hc])
    have f3:((x.toNat:Int)=102)=False:=(hI 102 102 rfl).trans (by simp[hc])
    have f4:((x.toNat:Int)=110)=True:=(hI 110 110 rfl).trans (by simp[hc])
    push_cast -dsimp [f1,f2,f3,f4,h4]
    refine cl (MQ s [102,110] hs (by simp)) ?_;push_cast -dsimp
    by_cases h6:XG s [102,110]=x
    ·have g6:((XG s [102,110]).toNat=x.toNat)=True:=by simp[h6]
     have e:Yo k s (j+1)=Yo k s j++[x]:=by rw[hstep,f0];simp[h6]
     push_cast -dsimp [g6]
     refine ⟨[x],rfl,?_⟩
     push_cast -dsimp
     repeat (refine And.intro (by omega) ?_)
     refine ⟨j+1,by omega,by omega,wk (by push_cast -dsimp [zb,za,CLe,zd,e,hx1])⟩
    ·have g6:((XG s [102,110]).toNat=x.toNat)=False:=by simp[UInt8.toNat_inj,h6]
     have e:Yo k s (j+1)=Yo k s j:=by rw[hstep,f0];simp[h6]
     push_cast -dsimp [g6]
     repeat (refine And.intro (by omega) ?_)
     refine ⟨j+1,by omega,by omega,wk (by push_cast -dsimp [zb,za,CLe,zd,e,hx1])⟩
   ·have f0:isO k s x=decide (x∈s):=by simp[isO,hc]
    have h4:4<=k:=hc.2.2.1
    have f1:((x.toNat:Int)=82)=False:=(hI 82 82 rfl).trans (by simp[hc])
    have f2:((x.toNat:Int)=114)=False:=(hI 114 114 rfl).trans (by simp[hc])
    have f3:((x.toNat:Int)=102)=False:=(hI 102 102 rfl).trans (by simp[hc])
    have f4:((x.toNat:Int)=110)=False:=(hI 110 110 rfl).trans (by simp[hc])
    by_cases h6:x∈s
    ·have e:Yo k s (j+1)=Yo k s j++[x]:=by rw[hstep,f0];simp[h6]
     push_cast -dsimp [f1,f2,f3,f4,h4,h6]
     refine ⟨[x],rfl,?_⟩
     push_cast -dsimp
     repeat (refine And.intro (by omega) ?_)
     refine ⟨j+1,by omega,by omega,wk (by push_cast -dsimp [zb,za,CLe,zd,e,hx1])⟩
    ·have e:Yo k s (j+1)=Yo k s j:=by rw[hstep,f0];simp[h6]
     push_cast -dsimp [f1,f2,f3,f4,h4,h6]
     repeat (refine And.intro (by omega) ?_)
     refine ⟨j+1,by omega,by omega,wk (by push_cast -dsimp [zb,za,CLe,zd,e,hx1])⟩
  ·have hj2:j=58:=by simp at h;omega
   subst hj2
   push_cast -dsimp
   exact dn
abbrev Acc:=List UInt8->UInt8->List UInt8
def Yy (all:List UInt8) (f:Acc):List UInt8->List UInt8->List UInt8×List UInt8
 | a,[]=>(a,[])
 | a,c :: r=>if c∈all then Yy all f (f a c) r else (a,[c])
def qB (all:List UInt8) (f:Acc):List UInt8->Nat->List (List UInt8)->List UInt8×Nat×List UInt8
 | a,n,[]=>(a,n,[])
 | a,n,w :: r=>if w = [45,45] then (a,n+1,[]) else if w.length<2∨w[0]?≠some 45 then (a,n,[]) else
   if (Yy all f a w.tail).2 = [] then qB all f (Yy all f a w.tail).1 (n+1) r else ((Yy all f a w.tail).1,n,(Yy all f a w.tail).2)
def Vl (k:Int):List UInt8:=if k=1 then [112] else if k=2 then [100,102,114,82] else if k=3 then [102,110,115,84] else if k=4 then [102,110,84] else if k=5 then [102,110,114,82,80,84] else []
abbrev YA:Acc:=fun s c=>s++[c]
theorem zaq {all:List UInt8} {f:Acc} {a w:List UInt8} {i:Nat} (hi:i<w.length):Yy all f a (w.drop i)=if w[i]∈all then Yy all f (f a w[i]) (w.drop (i+1)) else (a,[w[i]]):=by
 rw[List.drop_eq_getElem_cons hi,Yy]
theorem GX {all:List UInt8} {f:Acc} {a:List UInt8} {l:List (List UInt8)} {n:Nat} (hn:n<l.length):qB all f a n (l.drop n)=if l[n] = [45,45] then (a,n+1,[]) else if l[n].length<2∨l[n][0]?≠some 45 then (a,n,[]) else
   if (Yy all f a l[n].tail).2 = [] then qB all f (Yy all f a l[n].tail).1 (n+1) (l.drop (n+1)) else ((Yy all f a l[n].tail).1,n,(Yy all f a l[n].tail).2):=by
 rw[List.drop_eq_getElem_cons hn,qB]
theorem zku {w:List UInt8} {i:Nat} (hi:i<w.length):(w.take (i+1)).drop i = [w[i]]:=by
 rw[List.take_add_one,List.getElem?_eq_getElem hi]
 exact List.drop_left' (by rw[List.length_take];omega)
theorem xR (k:Int) (l:List (List UInt8)) (hk:k=1∨k=2∨k=3∨k=4∨k=5) (hl:l.length<=100) (hs:∀ x∈l,x.length<=1000) :
  Fun Tryz.prog G0 53 [.sc (.int .i64 k),.sl 1 (zJ l)] (.tup [.str (qB (Vl k) YA [] 0 l).1,.sc (.int .i64 (qB (Vl k) YA [] 0 l).2.1),.str (qB (Vl k) YA [] 0 l).2.2]) 0:=by
 obtain ⟨A,hA⟩:∃ A,Vl k=A:=⟨_,rfl⟩
 have hall:A.length<=1000000:=by
  subst hA
  rcases hk with rfl | rfl | rfl | rfl | rfl<;>decide
 rw[hA]
 refine fon Tryz.func53 ?_;dsimp only[Tryz.f53]
 rcases hk with rfl | rfl | rfl | rfl | rfl
 case' inl=>have e:A = [112]:=hA.symm.trans rfl
 case' inr.inl=>have e:A = [100,102,114,82]:=hA.symm.trans rfl
 case' inr.inr.inl=>have e:A = [102,110,115,84]:=hA.symm.trans rfl
 case' inr.inr.inr.inl=>have e:A = [102,110,84]:=hA.symm.trans rfl
 case' inr.inr.inr.inr=>have e:A = [102,110,114,82,80,84]:=hA.symm.trans rfl
 all_goals
  push_cast -dsimp
  refine loop (fun p:Nat×List UInt8=>⟨[(1,.sl 1 (zJ l)),(7,.str A),(8,.str p.2),(9,.sc (.int .i64 p.1))],[],0,0⟩) (fun p=>p.1<=l.length/\qB A YA [] 0 l=qB A YA p.2 p.1 (l.drop p.1)/\p.2.length<=1000*p.1) (fun p=>l.length-p.1) (0,[]) ⟨Nat.zero_le _,rfl,Nat.zero_le _⟩ ?_ ?_
  ·exact wk (by push_cast -dsimp [zb,za,CLe,zd,e])
  ·clear e hA
   rintro ⟨n,s⟩ ⟨hn,hq,hsl⟩
   dsimp only at hn hq hsl ⊢
   by_cases h:n<l.length
   ·have hg:=XV l n h
    have hlw:=hs l[n] (List.getElem_mem h)
    have hstep:=GX (all:=A) (f:=YA) (a:=s) h
    generalize hw:l[n]=w at hg hlw hstep
    by_cases h45:w = [45,45]
    ·rw[if_pos h45]at hstep
     have hr:=hq.trans hstep
     push_cast -dsimp [h,hg,h45]
     repeat refine an ?_
     exact dn (by push_cast -dsimp [zb,za,CLe,zd,hr])
    ·rw[if_neg h45]at hstep
     by_cases h2:w.length<2
     ·rw[if_pos (.inl h2)]at hstep
      have hr:=hq.trans hstep
      have h2':((w.length:Int)<2)=True:=eq_true (by omega)
      push_cast -dsimp [h,hg,h45,h2']
      repeat refine an ?_
      exact dn (by push_cast -dsimp [zb,za,CLe,zd,hr])
     ·have h2':((w.length:Int)<2)=False:=eq_false (by omega)
      have h0:w[0]?=some w[0]:=List.getElem?_eq_getElem (by omega)
      by_cases h3:w[0]=45
      ·have h3':((w[0].toNat:Int)=45)=True:=eq_true (by rw[h3];rfl)
       rw[if_neg (by rw[h0,h3];simp;omega)]at hstep
       push_cast -dsimp [h,hg,h45,h2',h0,h3']
       repeat refine an ?_
       refine loop (fun q:Nat×List UInt8=>⟨[(1,.sl 1 (zJ l)),(7,.str A),(8,.str q.2),(9,.sc (.int .i64 n)),(10,.sc (.int .i64 q.1))],[],0,0⟩) (fun q=>1<=q.1/\q.1<=w.length/\Yy A YA s w.tail=Yy A YA q.2 (w.drop q.1)/\q.2.length+1<=1000*n+q.1) (fun q=>w.length-q.1) (1,s) ⟨Nat.le_refl _,by dsimp only;omega,by simp,by dsimp only;omega⟩ ?_ ?_
       ·exact wk
       ·rintro ⟨i,t⟩ ⟨hi1,hi2,hi3,hi4⟩
        dsimp only at hi1 hi2 hi3 hi4 ⊢
        by_cases hi:i<w.length
        ·have hgi:w[i]?=some w[i]:=List.getElem?_eq_getElem hi
         have hws:=zaq (all:=A) (f:=YA) (a:=t) hi
         push_cast -dsimp [h,hg,hi,hgi]
         repeat refine an ?_
         refine cl (Qg A w[i] hall) ?_;push_cast -dsimp
         by_cases hm:w[i]∈A
         ·rw[if_pos hm]at hws
          push_cast -dsimp [hm,hg,hgi]
          repeat refine an ?_
          refine ⟨(i+1,t++[w[i]]),⟨by omega,by dsimp only;omega,hi3.trans hws,by simp;omega⟩,by dsimp only;omega,wk (by push_cast -dsimp [zb,za,CLe,zd,zku hi])⟩
         ·rw[if_neg hm]at hws
          rw[if_neg (by rw[hi3,hws];simp),hi3,hws]at hstep
          have hr:=hq.trans hstep
          push_cast -dsimp [hm,hg,hgi]
          repeat refine an ?_
          exact dn (by push_cast -dsimp [zb,za,CLe,zd,hr,zku hi])
        ·have hil:i=w.length:=by omega
         rw[hil,List.drop_length,Yy]at hi3
         rw[if_pos (by rw[hi3]),hi3]at hstep
         push_cast -dsimp [h,hg,hi]
         repeat refine an ?_
         exact ⟨(n+1,t),⟨by dsimp only;omega,hq.trans hstep,by dsimp only;omega⟩,by dsimp only;omega,wk⟩
      ·have h3':((w[0].toNat:Int)=45)=False:=eq_false (fun hh=>h3 (UInt8.toNat_inj.1 (by show _=45;omega)))
       rw[if_pos (.inr (by rw[h0];simpa using h3))]at hstep
       have hr:=hq.trans hstep
       push_cast -dsimp [h,hg,h45,h2',h0,h3']
       repeat refine an ?_
       exact dn (by push_cast -dsimp [zb,za,CLe,zd,hr])
   ·have hkl:n=l.length:=by omega
    subst hkl
    have hr:=hq
    rw[List.drop_length,qB]at hr
    push_cast -dsimp [h]
    exact dn (by push_cast -dsimp [zb,za,CLe,zd,hr])
def zd5 (k:Int):Nat:=if k=4∨k=5 then 2 else 1
def j6 (k:Int) (o:List UInt8) (ops:List (List UInt8)):List UInt8:=
 if ops.length=0 then (if k=2/\102∈o then [] else [109,105,115,115,105,110,103,32,111,112,101,114,97,110,100])
 else if ops.length<(if 84∈o then 2 else zd5 k) then [109,105,115,115,105,110,103,32,100,101,115,116,105,110,97,116,105,111,110,32,111,112,101,114,97,110,100,32,97,102,116,101,114,32]++qc (ops.getD (ops.length-1) [])
 else if 84∈o/\2<ops.length then [101,120,116,114,97,32,111,112,101,114,97,110,100,32]++qc (ops.getD 2 []) else []
theorem Zs (l:List UInt8):(qc l).length<=4*l.length+2:=by
 have:=QuoteWalk.mid_len l
 simp only[qc,List.length_cons,List.length_append,List.length_nil]
 omega
structure zoO where
 kind:Int
 opts:List UInt8
 operands:List (List UInt8)
def JA (w:List UInt8):Nat->Int
 | 0=>0
 | j+1=>if Je ((j+1:Nat):Int)=w then ((j+1:Nat):Int) else JA w j
def Xu:zoO:=⟨0,[],[]⟩
def JB (kind:Int) (w:List UInt8) (q:List UInt8×Nat×List UInt8) (r:List (List UInt8)):zoO×List UInt8:=
 if q.2.2≠[] then (Xu,w++[58,32,105,110,118,97,108,105,100,32,111,112,116,105,111,110,32]++qc q.2.2)
 else if j6 kind (Yo kind q.1 58) (r.drop q.2.1)≠[] then (Xu,w++[58,32]++j6 kind (Yo kind q.1 58) (r.drop q.2.1))
 else (⟨kind,Yo kind q.1 58,r.drop q.2.1⟩,[])
def Qa:List (List UInt8)->zoO×List UInt8
 | []=>(Xu,[109,105,115,115,105,110,103,32,99,111,109,109,97,110,100])
 | w :: r=>if JA w 5=0 then (Xu,qc w++[58,32,117,110,107,110,111,119,110,32,99,111,109,109,97,110,100])
  else JB (JA w 5) w (qB (Vl (JA w 5)) YA [] 0 r) r
theorem NS (w:List UInt8):∀ j,0<=JA w j/\JA w j<=j
 | 0=>⟨Int.le_refl _,Int.le_refl _⟩
 | j+1=>by
  have:=NS w j
  unfold JA
  split<;>omega
theorem Ns (A:List UInt8) (f:Acc):∀ (w s:List UInt8),(Yy A f s w).2.length<=1
 | [],s=>Nat.zero_le _
 | c :: w,s=>by
  rw[Yy]
  split
  ·exact Ns A f w _
  ·exact Nat.le_refl _
theorem MG (A:List UInt8):∀ (w s:List UInt8),(Yy A YA s w).1.length<=s.length+w.length
 | [],s=>by simp[Yy]
 | c :: w,s=>by
  rw[Yy]
  split
  ·have h0:(YA s c).length=s.length+1:=by simp
   have:=MG A w (YA s c);simp only[List.length_cons];omega
  ·simp only[List.length_cons];omega
theorem Vb (A:List UInt8):∀ (l:List (List UInt8)) (s:List UInt8) (n:Nat),(∀ x∈l,x.length<=1000)->(qB A YA s n l).1.length<=s.length+1000*l.length/\(qB A YA s n l).2.1<=n+l.length/\(qB A YA s n l).2.2.length<=1
 | [],s,n,_=>by simp[qB]
 | w :: l,s,n,h=>by
  have hw:=h w (List.mem_cons_self ..)
  have h1:=Ns A YA w.tail s
  have h2:=MG A w.tail s
  have h3:w.tail.length<=1000:=by rw[List.length_tail];omega
  have ih:=Vb A l (Yy A YA s w.tail).1 (n+1) fun x hx=>h x (List.mem_cons_of_mem _ hx)
  rw[qB]
  simp only[List.length_cons]
  split
  ·simp only[List.length_nil];omega
  ·split
   ·simp only[List.length_nil];omega
   ·split
    ·omega
    ·dsimp only;omega
abbrev zr5 (c:zoO):C:=.agg [.sc (.int .i64 c.kind),.str c.opts,.own 0 9 1 (zJ c.operands)]
theorem zcV (l:List (List UInt8)) (hl:l.length<=100) (hs:∀ x∈l,x.length<=1000) :
  Fun Tryz.prog G0 25 [.sl 1 (zJ l)] (.tup [zr5 (Qa l).1,.str (Qa l).2]) 1:=by
 refine fof (fun i=>if i=15 then [false,false,false,false,false,false,true,false,true] else []) Tryz.func25 ?_;dsimp only[Tryz.f25]
 rcases l with _ | ⟨w,r⟩
 ·push_cast -dsimp [zJ,List.map_nil,List.length_nil]
  exact ⟨[.inr (9,1)],rfl,rfl,by push_cast -dsimp [zb,za,CLe,zd,Qa,Xu]<;>rfl⟩
 ·have hlr:r.length<=99:=by simp at hl;omega
  have hw:=hs w (List.mem_cons_self ..)
  have hsr:∀ x∈r,x.length<=1000:=fun x hx=>hs x (List.mem_cons_of_mem _ hx)
  have hsC:zJ (w :: r) = [.str w] :: zJ r:=rfl
  have hp0:((r.length:Int)+1=0)=False:=eq_false (by omega)
  rw[hsC]
  push_cast -dsimp [hp0]
  refine loop (fun j:Nat=>⟨[(0,.sl 1 ([.str w] :: zJ r)),(2,.ptr 0 0),(4,.sc (.int .i64 (JA w j))),(5,.sc (.int .i64 ((j:Int)+1)))],[[.sc (.int .i64 0),.str [],.sc (.slice none 0 0)]],0,0⟩) (fun j=>j<=5) (fun j=>5-j) 0 (Nat.zero_le _) ?_ ?_
  ·exact wk (by push_cast -dsimp [zb,za,CLe,zd,JA])
  ·rintro j hj
   by_cases h:j<5
   ·have hp1:((j:Int)+1<=5)=True:=eq_true (by omega)
    push_cast -dsimp [hp1]
    refine cl (UM ((j:Int)+1)) ?_;push_cast -dsimp
    have hku:JA w (j+1)=if Je ((j:Int)+1)=w then (j:Int)+1 else JA w j:=by simp[JA]
    by_cases hm:Je ((j:Int)+1)=w
    ·rw[if_pos hm]at hku
     push_cast -dsimp [hm]
     repeat refine an ?_
     exact ⟨j+1,by omega,by omega,wk (by push_cast -dsimp [zb,za,CLe,zd,hku])⟩
    ·rw[if_neg hm]at hku
     push_cast -dsimp [hm]
     repeat refine an ?_
     exact ⟨j+1,by omega,by omega,wk (by push_cast -dsimp [zb,za,CLe,zd,hku])⟩
   ·have hp1:((j:Int)+1<=5)=False:=eq_false (by omega)
    have hj5:j=5:=by omega
    subst hj5
    have hkle:=NS w 5
    have hrd:Qa (w :: r)=if JA w 5=0 then (Xu,qc w++[58,32,117,110,107,110,111,119,110,32,99,111,109,109,97,110,100]) else JB (JA w 5) w (qB (Vl (JA w 5)) YA [] 0 r) r:=rfl
    generalize JA w 5=K at hkle hrd ⊢
    by_cases hK0:K=0
    ·rw[if_pos hK0]at hrd
     have hq:=Zs w
     push_cast -dsimp [hp1,hK0]
     refine cl (JM w (by omega)) ?_;push_cast -dsimp
     repeat refine an ?_
     exact ⟨[.inr (9,1)],rfl,rfl,by push_cast -dsimp [zb,za,CLe,zd,hrd,Xu]<;>rfl⟩
    ·rw[if_neg hK0]at hrd
     have hkk:K=1∨K=2∨K=3∨K=4∨K=5:=by omega
     have hlet:=xR K r hkk (by omega) hsr
     have hbnd:=Vb (Vl K) r [] 0 hsr
     generalize qB (Vl K) YA [] 0 r=q at hlet hbnd hrd ⊢
     obtain ⟨s,n,bad⟩:=q
     dsimp only at hlet hbnd
     push_cast -dsimp [hp1,hK0]
     repeat refine an ?_
     refine cl (hlet) ?_;push_cast -dsimp
     by_cases hbad:bad = []
     ·have hdr:List.drop (1+(n:Int)).toNat ([C.str w] :: zJ r)=zJ (r.drop n):=by
       rw[show (1+(n:Int)).toNat=n+1 by omega,List.drop_succ_cons];simp[zJ]
      have hop:(r.drop n).length<=99:=by rw[List.length_drop];omega
      have hso:∀ x∈r.drop n,x.length<=1000:=fun x hx=>hsr x (List.mem_of_mem_drop hx)
      have hrt:JB K w (s,n,bad) r=if j6 K (Yo K s 58) (r.drop n)≠[] then (Xu,w++[58,32]++j6 K (Yo K s 58) (r.drop n)) else (⟨K,Yo K s 58,r.drop n⟩,[]):=by
       unfold JB;rw[if_neg (by simpa using hbad)]
      rw[hrt]at hrd
      have h84:=Qg (Yo K s 58) 84 (by have:=List.length_filter_le (isO K s) ((List.range' 65 58).map UInt8.ofNat);simp at this;unfold Yo;omega)
      have h102:=Qg (Yo K s 58) 102 (by have:=List.length_filter_le (isO K s) ((List.range' 65 58).map UInt8.ofNat);simp at this;unfold Yo;omega)
      generalize r.drop n=ops at hop hso hrd hdr
      push_cast -dsimp [hbad]
      refine cl (xH K s (by simp at hbnd;omega)) ?_;push_cast -dsimp [hdr]
      generalize Yo K s 58=O at h84 h102 hrd ⊢
      repeat refine an ?_
      have hleast:zd5 K=if 4<=K then 2 else 1:=by
       unfold zd5
       by_cases h4:4<=K
       ·rw[if_pos h4,if_pos (by omega)]
       ·rw[if_neg h4,if_neg (by omega)]
      rcases ops with _ | ⟨x,_ | ⟨y,_ | ⟨z,t⟩⟩⟩
      ·by_cases hK2:K=2/\102∈O
       ·have hwv:j6 K O [] = []:=by simp[j6,hK2]
        have hr2:=hrd
        rw[hwv,if_neg (by simp)]at hr2
        have h4:¬4<=K:=by omega
        have hK2':=hK2.1
        have m102:=hK2.2
        by_cases m84:84∈O
        all_goals
         push_cast -dsimp [h4,zJ,List.map_nil,List.map_cons,List.length_nil,List.length_cons]
         refine cl (h84) ?_;push_cast -dsimp [m84,hK2',zJ,List.map_nil,List.map_cons,List.length_nil,List.length_cons]
         refine cl (h102) ?_;push_cast -dsimp [m102,zJ,List.map_nil,List.map_cons,List.length_nil,List.length_cons]
         exact ⟨[.inl 0],rfl,rfl,by push_cast -dsimp [zb,za,CLe,zd,hr2,hK2',zJ,List.map_nil,List.map_cons,List.length_nil,List.length_cons]⟩
       ·have hwv:j6 K O [] = [109,105,115,115,105,110,103,32,111,112,101,114,97,110,100]:=by simp[j6,hK2]
        have hr2:=hrd
        rw[hwv,if_pos (by simp)]at hr2
        by_cases hK2':K=2
        ·have m102:102∉O:=fun h=>hK2 ⟨hK2',h⟩
         have h4:¬4<=K:=by omega
         by_cases m84:84∈O
         all_goals
          push_cast -dsimp [h4,zJ,List.map_nil,List.map_cons,List.length_nil,List.length_cons]
          refine cl (h84) ?_;push_cast -dsimp [m84,hK2',zJ,List.map_nil,List.map_cons,List.length_nil,List.length_cons]
          refine cl (h102) ?_;push_cast -dsimp [m102,zJ,List.map_nil,List.map_cons,List.length_nil,List.length_cons]
          repeat refine an ?_
          exact ⟨[.inr (9,1)],rfl,rfl,by push_cast -dsimp [zb,za,CLe,zd,hr2,Xu,List.append_assoc,List.cons_append,List.nil_append]<;>rfl⟩
        ·by_cases h4:4<=K<;>by_cases m84:84∈O
         all_goals
          push_cast -dsimp [h4,hK2',zJ,List.map_nil,List.map_cons,List.length_nil,List.length_cons]
          try refine cl (h84) ?_;push_cast -dsimp [m84,hK2',zJ,List.map_nil,List.map_cons,List.length_nil,List.length_cons]
          repeat refine an ?_
          exact ⟨[.inr (9,1)],rfl,rfl,by push_cast -dsimp [zb,za,CLe,zd,hr2,Xu,List.append_assoc,List.cons_append,List.nil_append]<;>rfl⟩
      ·have hx:=hso x (by simp)
       have hqx:=Zs x
       by_cases hl2:4<=K∨84∈O
       ·have hwv:j6 K O [x] = [109,105,115,115,105,110,103,32,100,101,115,116,105,110,97,116,105,111,110,32,111,112,101,114,97,110,100,32,97,102,116,101,114,32]++qc x:=by
         unfold j6
         rw[if_neg (by simp),if_pos (by rw[hleast];rcases hl2 with h | h<;>simp[h])];rfl
        have hr2:=hrd
        rw[hwv,if_pos (by simp)]at hr2
        have h3:(4<=K/\84∈O)∨(4<=K/\84∉O)∨(¬4<=K/\84∈O):=by
         by_cases a:4<=K<;>by_cases b:84∈O<;>simp[a,b]at hl2 ⊢
        rcases h3 with ⟨h4,m84⟩ | ⟨h4,m84⟩ | ⟨h4,m84⟩
        all_goals
         push_cast -dsimp [h4,zJ,List.map_nil,List.map_cons,List.length_nil,List.length_cons]
         try refine cl (h84) ?_;push_cast -dsimp [m84,zJ,List.map_nil,List.map_cons,List.length_nil,List.length_cons]
         repeat refine an ?_
         refine cl (JM x (by omega)) ?_;push_cast -dsimp
         repeat refine an ?_
         exact ⟨[.inr (9,1)],rfl,rfl,by push_cast -dsimp [zb,za,CLe,zd,hr2,Xu,List.append_assoc,List.cons_append,List.nil_append]<;>rfl⟩
       ·have h4:¬4<=K:=fun h=>hl2 (.inl h)
        have m84:84∉O:=fun h=>hl2 (.inr h)
        have hwv:j6 K O [x] = []:=by
         unfold j6
         rw[if_neg (by simp),hleast];simp[h4,m84]
        have hr2:=hrd
        rw[hwv,if_neg (by simp)]at hr2
        push_cast -dsimp [h4,zJ,List.map_nil,List.map_cons,List.length_nil,List.length_cons]
        refine cl (h84) ?_;push_cast -dsimp [m84,zJ,List.map_nil,List.map_cons,List.length_nil,List.length_cons]
        exact ⟨[.inl 0],rfl,rfl,by push_cast -dsimp [zb,za,CLe,zd,hr2,zJ,List.map_nil,List.map_cons,List.length_nil,List.length_cons]⟩
      ·have hwv:j6 K O [x,y] = []:=by
        unfold j6
        rw[if_neg (by simp),hleast]
        by_cases h4:4<=K<;>by_cases m84:84∈O<;>simp[h4,m84]
       have hr2:=hrd
       rw[hwv,if_neg (by simp)]at hr2
       by_cases h4:4<=K<;>by_cases m84:84∈O
       all_goals
        push_cast -dsimp [h4,zJ,List.map_nil,List.map_cons,List.length_nil,List.length_cons]
        try refine cl (h84) ?_;push_cast -dsimp [m84,zJ,List.map_nil,List.map_cons,List.length_nil,List.length_cons]
        exact ⟨[.inl 0],rfl,rfl,by push_cast -dsimp [zb,za,CLe,zd,hr2,zJ,List.map_nil,List.map_cons,List.length_nil,List.length_cons]⟩
      ·have hz:=hso z (by simp)
       have hqz:=Zs z
       have hp0:((t.length:Int)+1+1+1=0)=False:=eq_false (by omega)
       have hp2:((t.length:Int)+1+1+1<2)=False:=eq_false (by omega)
       have hp3:((t.length:Int)+1+1+1<1)=False:=eq_false (by omega)
       have hp4:(2<(t.length:Int)+1+1+1)=True:=eq_true (by omega)
       have hp5:(0<(t.length:Int)+1+1+1)=True:=eq_true (by omega)
       by_cases m84:84∈O
       ·have hwv:j6 K O (x :: y :: z :: t) = [101,120,116,114,97,32,111,112,101,114,97,110,100,32]++qc z:=by
         unfold j6
         rw[if_neg (by simp),hleast,if_neg (by simp[m84]),if_pos (by simp[m84])];rfl
        have hr2:=hrd
        rw[hwv,if_pos (by simp)]at hr2
        by_cases h4:4<=K
        all_goals
         push_cast -dsimp [h4,hp0,hp2,hp3,hp4,hp5,zJ,List.map_nil,List.map_cons,List.length_nil,List.length_cons]
         try refine cl (h84) ?_;push_cast -dsimp [m84,hp0,hp2,hp3,hp4,hp5,zJ,List.map_nil,List.map_cons,List.length_nil,List.length_cons]
         try refine cl (h84) ?_;push_cast -dsimp [m84,hp0,hp2,hp3,hp4,hp5,zJ,List.map_nil,List.map_cons,List.length_nil,List.length_cons]
         repeat refine an ?_
         refine cl (JM z (by omega)) ?_;push_cast -dsimp
         repeat refine an ?_
         exact ⟨[.inr (9,1)],rfl,rfl,by push_cast -dsimp [zb,za,CLe,zd,hr2,Xu,List.append_assoc,List.cons_append,List.nil_append]<;>rfl⟩
       ·have hwv:j6 K O (x :: y :: z :: t) = []:=by
         unfold j6
         rw[if_neg (by simp),hleast]
         by_cases h4:4<=K<;>simp[h4,m84]
        have hr2:=hrd
        rw[hwv,if_neg (by simp)]at hr2
        by_cases h4:4<=K
        all_goals
         push_cast -dsimp [h4,hp0,hp2,hp3,hp4,hp5,zJ,List.map_nil,List.map_cons,List.length_nil,List.length_cons]
         try refine cl (h84) ?_;push_cast -dsimp [m84,hp0,hp2,hp3,hp4,hp5,zJ,List.map_nil,List.map_cons,List.length_nil,List.length_cons]
         try refine cl (h84) ?_;push_cast -dsimp [m84,hp0,hp2,hp3,hp4,hp5,zJ,List.map_nil,List.map_cons,List.length_nil,List.length_cons]
         exact ⟨[.inl 0],rfl,rfl,by push_cast -dsimp [zb,za,CLe,zd,hr2,zJ,List.map_nil,List.map_cons,List.length_nil,List.length_cons]⟩
     ·have hqb:=Zs bad
      have hrt:JB K w (s,n,bad) r=(Xu,w++[58,32,105,110,118,97,108,105,100,32,111,112,116,105,111,110,32]++qc bad):=by
       unfold JB;rw[if_pos (by simpa using hbad)]
      rw[hrt]at hrd
      push_cast -dsimp [hbad]
      repeat refine an ?_
      refine cl (JM bad (by omega)) ?_;push_cast -dsimp
      repeat refine an ?_
      exact ⟨[.inr (9,1)],rfl,rfl,by push_cast -dsimp [zb,za,CLe,zd,hrd,Xu]<;>rfl⟩
theorem zfH (l:List (List UInt8)):(Qa l).1.operands.length<=l.length:=by
 cases l with
 | nil=>simp[Qa,Xu]
 | cons w r =>
  rw[Qa]
  split
  ·simp[Xu]
  ·unfold JB
   split
   ·simp[Xu]
   ·split
    ·simp[Xu]
    ·simp only[List.length_drop,List.length_cons];omega
end
section
open CA CB
open Go.RowKit
theorem xS (f:FsV) (hf:FsI f) (hr:FsR f) (hs:FsS f) (hd:∀ x∈f.xs,x.kind=3->x.data.length<=1000) (b p:List UInt8) (hb:b.length<=100000) (hp:p.length<=1000):Fun Tryz.prog G0 31 [.agg (fsC f),.str b,.str p] (.sc (.bool (QP f b p))) 0:=by
 have hre:Fun Tryz.prog G0 63 [.str p] (.agg [qu (YH p),.own 0 9 1 (zJ (zi p)),qu (qk p)]) 1:=QL p (by omega)
 have hel:(XN p).length<=1000:=by
  by_cases h:zi p = []
  ·rw[show XN p=p from if_pos h];exact hp
  ·exact Nat.le_trans (yY p h) hp
 have he:=zjg p (by omega)
 have hsk:=Mr f hf hr hs hd b (XN p) false hb (by omega)
 have hg:=jG (G:=G0) f (zD f b (XN p) false).1.ino (by have:=hs.len;omega) hf.rises
 have e:QP f b p=(qk p&&decide ((zD f b (XN p) false).2=0)&&decide ((ze (zD f b (XN p) false).1.ino f.xs).kind=3)):=rfl
 rw[e]
 generalize zD f b (XN p) false=T at *
 cases h0:qk p<;>rw[h0]at hre
 ·cases hh:zt T.1.ino f.xs<;>rw[hh]at hg
  all_goals
   by_cases h1:T.2=0
   ·have h1':=eq_true h1
    refine fof (fun i=>if i=1 then jh 8 9 else if i=2 then jh 7 8 else []) Tryz.func31 ?_;dsimp only[Tryz.f31]
    push_cast -dsimp
    refine cl (he) ?_;push_cast -dsimp
    refine cl (hsk) ?_;push_cast -dsimp
    refine cl (hg) ?_;push_cast -dsimp
    refine cl (hre) ?_;push_cast -dsimp [h1']
    exact dn (by push_cast -dsimp [zb,za,CLe,zd,Bool.false_and])
   ·have h1':=eq_false h1
    refine fof (fun i=>if i=1 then jh 8 9 else if i=2 then jh 7 8 else []) Tryz.func31 ?_;dsimp only[Tryz.f31]
    push_cast -dsimp
    refine cl (he) ?_;push_cast -dsimp
    refine cl (hsk) ?_;push_cast -dsimp
    refine cl (hg) ?_;push_cast -dsimp
    refine cl (hre) ?_;push_cast -dsimp [h1']
    exact dn (by push_cast -dsimp [zb,za,CLe,zd,Bool.false_and])
 ·by_cases h1:T.2=0
  ·have h1':=eq_true h1
   cases hh:zt T.1.ino f.xs with
   | false =>
    rw[hh]at hg
    rw[x6 hh]at hg ⊢
    have hz:((kH.kind=3)=False):=eq_false (show ¬(0:Int)=3 by decide)
    refine fof (fun i=>if i=1 then jh 8 9 else if i=2 then jh 7 8 else []) Tryz.func31 ?_;dsimp only[Tryz.f31]
    push_cast -dsimp
    refine cl (he) ?_;push_cast -dsimp
    refine cl (hsk) ?_;push_cast -dsimp
    refine cl (hg) ?_;push_cast -dsimp
    refine cl (hre) ?_;push_cast -dsimp [h1']
    exact dn (by push_cast -dsimp [zb,za,CLe,zd,h1',hz])
   | true =>
    rw[hh]at hg
    refine fof (fun i=>if i=1 then jh 8 9 else if i=2 then jh 7 8 else []) Tryz.func31 ?_;dsimp only[Tryz.f31]
    push_cast -dsimp
    refine cl (he) ?_;push_cast -dsimp
    refine cl (hsk) ?_;push_cast -dsimp
    refine cl (hg) ?_;push_cast -dsimp
    refine cl (hre) ?_;push_cast -dsimp [h1']
    exact dn (by push_cast -dsimp [zb,za,CLe,zd,h1',Bool.false_and,Bool.and_false])
  ·have h1':=eq_false h1
   refine fof (fun i=>if i=1 then jh 8 9 else if i=2 then jh 7 8 else []) Tryz.func31 ?_;dsimp only[Tryz.f31]
   push_cast -dsimp
   refine cl (he) ?_;push_cast -dsimp
   refine cl (hsk) ?_;push_cast -dsimp
   refine cl (hg) ?_;push_cast -dsimp
   refine cl (hre) ?_;push_cast -dsimp [h1']
   exact dn (by push_cast -dsimp [zb,za,CLe,zd,h1',Bool.false_and,Bool.and_false])
abbrev zqu (k:Int) (o:List UInt8) (ops:List (List UInt8)):List C:=[.sc (.int .i64 k),.str o,.sl 1 (zJ ops)]
theorem zm8 (k:Int) (o:List UInt8) (ops:List (List UInt8)) (x:zn) (hx:x.es.length<=100000):Fun Tryz.prog G0 34 [.agg (zqu k o ops),.agg (JG x)] (.sc (.int .i64 (zdw o x))) 0:=by
 have h1:=x9 k o (.sl 1 (zJ ops)) 114 rfl
 have h2:=x9 k o (.sl 1 (zJ ops)) 100 rfl
 have hel:(z6 x.es).length=x.es.length:=List.length_map ..
 by_cases c1:x.kind=2
 ·have c1':=eq_true c1
  by_cases c2:(114:UInt8)∈o
  ·have e:zdw o x=0:=if_pos (.inr c2)
   rw[decide_eq_true c2]at h1
   refine fon Tryz.func34 ?_;dsimp only[Tryz.f34]
   push_cast -dsimp [c1']
   refine cl (h1) ?_;push_cast -dsimp
   exact dn (by push_cast -dsimp [zb,za,CLe,zd,e])
  ·rw[decide_eq_false c2]at h1
   have e:zdw o x=if (100:UInt8)∉o then 4 else if x.es≠[] then 5 else 0:=if_neg (by rintro (q | q);exact q c1;exact c2 q)
   by_cases c3:(100:UInt8)∈o
   ·rw[decide_eq_true c3]at h2
    rw[if_neg (fun q=>q c3)]at e
    by_cases c4:x.es = []
    ·rw[if_neg (fun q=>q c4)]at e
     have c4':((0:Int)<x.es.length)=False:=eq_false (by rw[c4];simp)
     refine fon Tryz.func34 ?_;dsimp only[Tryz.f34]
     push_cast -dsimp [c1']
     refine cl (h1) ?_;push_cast -dsimp
     refine cl (h2) ?_;push_cast -dsimp [hel,c4']
     exact dn (by push_cast -dsimp [zb,za,CLe,zd,e])
    ·rw[if_pos c4]at e
     have c4':((0:Int)<x.es.length)=True:=eq_true (by have:=List.length_pos_iff.2 c4;omega)
     refine fon Tryz.func34 ?_;dsimp only[Tryz.f34]
     push_cast -dsimp [c1']
     refine cl (h1) ?_;push_cast -dsimp
     refine cl (h2) ?_;push_cast -dsimp [hel,c4']
     exact dn (by push_cast -dsimp [zb,za,CLe,zd,e])
   ·rw[decide_eq_false c3]at h2
    rw[if_pos c3]at e
    refine fon Tryz.func34 ?_;dsimp only[Tryz.f34]
    push_cast -dsimp [c1']
    refine cl (h1) ?_;push_cast -dsimp
    refine cl (h2) ?_;push_cast -dsimp
    exact dn (by push_cast -dsimp [zb,za,CLe,zd,e])
 ·have c1':=eq_false c1
  have e:zdw o x=0:=if_pos (.inl c1)
  refine fon Tryz.func34 ?_;dsimp only[Tryz.f34]
  push_cast -dsimp [c1']
  exact dn (by push_cast -dsimp [zb,za,CLe,zd,e])
end
section
def G8 (xs:List zn):Prop:=∀ x∈xs,x.kind=3->x.data.length<=1000
theorem zeP {xs:List zn} (h:G8 xs) (n:Int):(ze n xs).kind=3->(ze n xs).data.length<=1000:=fun hk=>by
 cases hh:zt n xs with
 | true=>exact h _ (zh hh).2.1 hk
 | false=>rw[(Jk hh).2]at hk;exact absurd hk (by decide)
theorem zeW {xs:List zn} {x:zn} (h:G8 xs) (hx:x.kind=3->x.data.length<=1000):G8 (jd x xs):=fun z hz hk=>by
 rcases zl5 hz with rfl | hz
 ·exact hx hk
 ·exact h z hz hk
theorem za2 {f:FsV} (s:zV) (h:G8 f.xs):G8 (zk f s).xs:=by
 have hd:G8 (jl s.dir (zg s.name) f.xs):=zeW h (zeP h s.dir)
 unfold zk
 split
 ·exact fun z hz hk=>hd z (YM.1 hz).1 hk
 ·exact zeW hd (zeP h s.ino)
theorem zeq {K:Nat} {d:zH} (h:RmB K d) (p:List UInt8) (hd:G8 d.w.fs.xs):G8 (QG d (Qt p)).1.w.fs.xs:=by
 by_cases hz:(QG d (Qt p)).2=0
 case neg=>rw[NB hz];exact hd
 have eo:kD d (Qt p)=⟨7,d.slot+1,p,[],[]⟩:=rfl
 unfold QG at hz ⊢
 rw[eo]at hz ⊢
 rw[if_neg (show ¬7<(Qt p).kind by show ¬(7:Int)<7;decide)]at hz ⊢
 split at hz
 ·rename_i hq;exact absurd hz hq
 rename_i hq
 rw[if_neg hq]
 show G8 (doV d.w ⟨7,d.slot+1,p,[],[]⟩).1.fs.xs
 rcases do7 h.wi (o:=⟨7,d.slot+1,p,[],[]⟩) rfl with e | ⟨s,hs,he,e⟩
 ·rw[e];exact hd
 ·rw[e]
  unfold Js
  split
  ·exact hd
  ·exact za2 s hd
theorem zlj {K:Nat} {d:zH} (h:RmB K d) (b o p:List UInt8) (hd:G8 d.w.fs.xs):G8 (V7 b o d p).w.fs.xs:=by
 unfold V7
 simp only
 split
 ·exact hd
 ·split
  ·exact (Hu (P:=fun d=>RmB K d/\G8 d.w.fs.xs) (fun d p hd=>⟨(hd.1.add p).1,zeq hd.1 p hd.2⟩) _ d _ _ ⟨h,hd⟩).2
  ·exact hd
end
section
open CA CB
open Go.RowKit
theorem zm4 (d:zH) (hd:d.diags.length<=80000) (k w:Int) (a b:List UInt8) (e:Int) (ha:a.length<=1000) (hb:b.length<=1000):Fun Tryz.prog GD 29 [kF d,.sc (.int .i64 k),.sc (.int .i64 w),.str a,.str b,.sc (.int .i64 e)] (kF (Jj d (Jy k w a b e))) 0:=
 (zdC d hd k w a b e ha hb).weak (by push_cast -dsimp [zb,za,CLe,zd,Jj])
theorem zc2 (d:zH) (hd:d.diags.length<=80000) (p:List UInt8) (hp:p.length<=1000) (w e:Int):Mc Tryz.prog GD 28 [.sc (.int .i64 w),.sc (.int .i64 e),.ptr 0 0,.ptr 1 0] [zp1 d,[.str p]] 0 (.tup []) [zp1 (Jj d (Jy 2 w p [] e)),[.str p]] 0:=by
 have h:=zm4 d hd 2 w p [] e hp (Nat.zero_le _)
 refine foB (fun _=>[]) Tryz.func28 ?_;dsimp only[Tryz.f28]
 push_cast -dsimp
 refine cl (h) ?_;push_cast -dsimp
 exact ⟨[],rfl,rfl,by push_cast -dsimp [zb,za,CLe,zd],by push_cast -dsimp [zb,za,CLe,zd]⟩
theorem ziu {f:FsV} (h:okV f) {s:zV} (hh:zt s.dir f.xs=true) (hk:(ze s.dir f.xs).kind=2) (hm:may s.name=true):(Ya f s).length<=21000:=by
 obtain ⟨ns,n1,n2,n3,n4,n5⟩:=zkj h hh hk
 have hml:=zdF hm
 have hjw:=XL ns
 have hjl:(zY ns).length<=20001:=by unfold zY;split<;>simp<;>omega
 have e:Ya f s=QU (zY ns) s.name:=by unfold Ya;rw[n5];rfl
 have:=zcF (zY ns) s.name
 rw[e];omega
theorem Jv {b o:List UInt8} {d:zH} {p:List UInt8} {w e:Int} {g:Bool} (h:Xt d.w.fs b o p=(w,e,g)) (hw:w≠0):V7 b o d p=Jj d (Jy 2 w p [] e):=by
 unfold V7
 simp only[h]
 rw[if_pos hw]
theorem Gf {b o:List UInt8} {d:zH} {p:List UInt8} {e:Int} (h:Xt d.w.fs b o p=(0,e,false)):V7 b o d p=d:=by
 unfold V7
 simp[h]
theorem zmj {b o:List UInt8} {d:zH} {p:List UInt8} {e:Int} (h:Xt d.w.fs b o p=(0,e,true)):V7 b o d p=rmD (d.w.fs.xs.length+1) d (Ya d.w.fs (zD d.w.fs b p false).1) (zD d.w.fs b p false).1.ino:=by
 unfold V7
 simp[h]
structure PlI (b o:List UInt8) (l:List (List UInt8)) (d:zH) (i:Nat) (D:zH):Prop where
 le:i<=l.length
 eq:D=Na b o (l.take i) d
 g:RmG 2000 D
 dl:D.diags.length<=d.diags.length+i
 dat:G8 D.w.fs.xs
theorem PlI.step {b o:List UInt8} {l:List (List UInt8)} {d D:zH} {i:Nat} (h:PlI b o l d i D) (hi:i<l.length) (hl:d.diags.length+l.length<=80000):PlI b o l d (i+1) (V7 b o D l[i]):=by
 have hdl:=h.dl
 rcases GT h.g b o l[i] with ⟨g1,g2,g3⟩ | q
 ·refine ⟨by omega,?_,g1,?_,zlj h.g.b b o l[i] h.dat⟩
  ·rw[List.take_succ_eq_append_getElem hi]
   unfold Na
   rw[List.foldl_append]
   show _=V7 b o (Na b o (l.take i) d) l[i]
   rw[←h.eq]
  ·rw[g3];split
   ·rw[List.length_append,List.length_singleton];omega
   ·omega
 ·omega
theorem Gt (k:Int) (b o:List UInt8) (l:List (List UInt8)) (d:zH) (hg:RmG 2000 d) (hdt:G8 d.w.fs.xs) (hl:d.diags.length+l.length<=80000) (hb:b.length<=1000) (hp:∀ x∈l,x.length<=1000):Fun Tryz.prog GD 9 [kF d,.str b,.agg (zqu k o l)] (kF (Na b o l d)) 0:=by
 have hll:(zJ l).length=l.length:=List.length_map ..
 refine fof (fun i=>if i=25 then [false,false,false,false,false,false,false,true] else []) Tryz.func9 ?_;dsimp only[Tryz.f9]
 push_cast -dsimp
 refine loop (fun q:Nat×zH=>⟨[(1,.str b),(3,.ptr 0 0),(5,.ptr 1 0),(6,.ptr 2 0),(18,.sl 1 (zJ l)),(19,.sc (.int .i64 l.length)),(20,.sc (.int .i64 q.1))],[zp1 q.2,zqu k o l,HF],0,0⟩) (fun q=>PlI b o l d q.1 q.2) (fun q=>l.length-q.1) (0,d) ⟨Nat.zero_le _,rfl,hg,Nat.le_refl _,hdt⟩ ?_ ?_
 ·exact wk (h4:=by push_cast -dsimp [zb,za,CLe,zd,hll])
 rintro ⟨i,D⟩ hI
 dsimp only at hI
 have h1:=hI.le
 by_cases hi:i<l.length
 case neg =>
  have hil:i=l.length:=by omega
  have hi':=eq_false (show ¬(i:Int)<l.length by omega)
  have e:=hI.eq
  rw[hil,List.take_length]at e
  push_cast -dsimp [hi']
  rw[←e]
  exact dn (by push_cast -dsimp [zb,za,CLe,zd])
 have hN:=hI.step hi hl
 have hi':=eq_true (show (i:Int)<l.length by omega)
 have hgi:(zJ l)[i]?=some [.str l[i]]:=by simp[zJ,hi]
 have hpl:=hp _ (List.getElem_mem hi)
 generalize l[i]=p at *
 have hdl:D.diags.length<=80000:=by have:=hI.dl;omega
 have hf:=hI.g.c.wi.fs
 have hr:=hI.g.c.wr.fs
 have hs:=hI.g.b.s.ws.fs
 have hba:=(zhj p (by omega)).g0 (G':=GD)
 have htl:=zc2 D hdl p hpl
 have hx:=hI.g.b.node
 by_cases c1:Jt p = [47]
 ·have c1':=eq_true c1
  rw[Jv (w:=4) (e:=0) (g:=false) (if_pos c1) (by decide)]at hN
  push_cast -dsimp [hi',hgi,hll,Int.toNat_natCast]
  repeat refine an ?_
  refine cl (hba) ?_;push_cast -dsimp [c1']
  refine Qz [0,3] [] (htl (4) (0)) rfl (by decide) (by decide) (by simp) (by push_cast -dsimp) (by push_cast -dsimp) ?_
  push_cast -dsimp
  repeat refine an ?_
  exact ⟨(i+1,_),hN,by dsimp only;omega,wk (h5:=by push_cast -dsimp [zb,za,CLe,zd,Jj])⟩
 have c1':=eq_false c1
 have e1:Xt D.w.fs b o p=_:=if_neg c1
 by_cases c2:Jt p = [46]
 ·have c2':=eq_true c2
  rw[Jv (w:=3) (e:=0) (g:=false) (e1.trans (if_pos (.inl c2))) (by decide)]at hN
  push_cast -dsimp [hi',hgi,hll,Int.toNat_natCast]
  repeat refine an ?_
  refine cl (hba) ?_;push_cast -dsimp [c1',c2']
  refine Qz [0,3] [] (htl (3) (0)) rfl (by decide) (by decide) (by simp) (by push_cast -dsimp) (by push_cast -dsimp) ?_
  push_cast -dsimp
  repeat refine an ?_
  exact ⟨(i+1,_),hN,by dsimp only;omega,wk (h5:=by push_cast -dsimp [zb,za,CLe,zd,Jj])⟩
 have c2':=eq_false c2
 by_cases c3:Jt p = [46,46]
 ·have c3':=eq_true c3
  rw[Jv (w:=3) (e:=0) (g:=false) (e1.trans (if_pos (.inr c3))) (by decide)]at hN
  push_cast -dsimp [hi',hgi,hll,Int.toNat_natCast]
  repeat refine an ?_
  refine cl (hba) ?_;push_cast -dsimp [c1',c2',c3']
  refine Qz [0,3] [] (htl (3) (0)) rfl (by decide) (by decide) (by simp) (by push_cast -dsimp) (by push_cast -dsimp) ?_
  push_cast -dsimp
  repeat refine an ?_
  exact ⟨(i+1,_),hN,by dsimp only;omega,wk (h5:=by push_cast -dsimp [zb,za,CLe,zd,Jj])⟩
 have c3':=eq_false c3
 have e2:=e1.trans (if_neg (by rintro (q | q);exact c2 q;exact c3 q))
 have hsk:=(Mr D.w.fs hf hr hs hI.dat b p false (by omega) (by omega)).g0 (G':=GD)
 have hha:=(x9 k o (.sl 1 (zJ l)) 102 rfl).g0 (G':=GD)
 have hE:zbH D.w.fs b p=if (zD D.w.fs b p false).2=0/\(zD D.w.fs b p false).1.ino=0 then 1 else (zD D.w.fs b p false).2:=rfl
 by_cases c4:(zD D.w.fs b p false).2=0
 case neg =>
  have c4':=eq_false c4
  rw[if_neg (fun q=>c4 q.1)]at hE
  have hE0:zbH D.w.fs b p≠0:=by rw[hE];exact c4
  have e3:=e2.trans (if_pos hE0)
  rw[hE]at e3
  by_cases c6:(102:UInt8)∈o
  ·rw[decide_eq_true c6]at hha
   by_cases c7:(zD D.w.fs b p false).2=1
   ·rw[if_pos ⟨c6,.inl c7⟩]at e3
    rw[Gf e3]at hN
    rw[c7]at hsk
    push_cast -dsimp [hi',hgi,hll,Int.toNat_natCast]
    repeat refine an ?_
    refine cl (hba) ?_;push_cast -dsimp [c1',c2',c3']
    refine cl (hsk) ?_;push_cast -dsimp
    refine cl (hha) ?_;push_cast -dsimp
    repeat refine an ?_
    exact ⟨(i+1,_),hN,by dsimp only;omega,wk (h5:=by push_cast -dsimp [zb,za,CLe,zd,Jj])⟩
   ·have c7':=eq_false c7
    by_cases c8:(zD D.w.fs b p false).2=3
    ·rw[if_pos ⟨c6,.inr c8⟩]at e3
     rw[Gf e3]at hN
     rw[c8]at hsk
     push_cast -dsimp [hi',hgi,hll,Int.toNat_natCast]
     repeat refine an ?_
     refine cl (hba) ?_;push_cast -dsimp [c1',c2',c3']
     refine cl (hsk) ?_;push_cast -dsimp
     refine cl (hha) ?_;push_cast -dsimp
     repeat refine an ?_
     exact ⟨(i+1,_),hN,by dsimp only;omega,wk (h5:=by push_cast -dsimp [zb,za,CLe,zd,Jj])⟩
    ·have c8':=eq_false c8
     rw[if_neg (fun q=>q.2.elim c7 c8)]at e3
     rw[Jv e3 (by decide)]at hN
     push_cast -dsimp [hi',hgi,hll,Int.toNat_natCast]
     repeat refine an ?_
     refine cl (hba) ?_;push_cast -dsimp [c1',c2',c3']
     refine cl (hsk) ?_;push_cast -dsimp [c4',c7',c8']
     refine cl (hha) ?_;push_cast -dsimp [c4',c7',c8']
     refine Qz [0,3] [] (htl (2) ((zD D.w.fs b p false).2)) rfl (by decide) (by decide) (by simp) (by push_cast -dsimp) (by push_cast -dsimp) ?_
     push_cast -dsimp
     repeat refine an ?_
     exact ⟨(i+1,_),hN,by dsimp only;omega,wk (h5:=by push_cast -dsimp [zb,za,CLe,zd,Jj])⟩
  ·rw[decide_eq_false c6]at hha
   rw[if_neg (fun q=>c6 q.1)]at e3
   rw[Jv e3 (by decide)]at hN
   push_cast -dsimp [hi',hgi,hll,Int.toNat_natCast]
   repeat refine an ?_
   refine cl (hba) ?_;push_cast -dsimp [c1',c2',c3']
   refine cl (hsk) ?_;push_cast -dsimp [c4']
   refine cl (hha) ?_;push_cast -dsimp
   refine Qz [0,3] [] (htl (2) ((zD D.w.fs b p false).2)) rfl (by decide) (by decide) (by simp) (by push_cast -dsimp) (by push_cast -dsimp) ?_
   push_cast -dsimp
   repeat refine an ?_
   exact ⟨(i+1,_),hN,by dsimp only;omega,wk (h5:=by push_cast -dsimp [zb,za,CLe,zd,Jj])⟩
 rw[c4]at hsk
 by_cases c5:(zD D.w.fs b p false).1.ino=0
 ·have c5':=eq_true c5
  rw[if_pos ⟨c4,c5⟩]at hE
  have hE0:zbH D.w.fs b p≠0:=by rw[hE];decide
  have e3:=e2.trans (if_pos hE0)
  rw[hE]at e3
  by_cases c6:(102:UInt8)∈o
  ·rw[decide_eq_true c6]at hha
   rw[if_pos ⟨c6,.inl rfl⟩]at e3
   rw[Gf e3]at hN
   push_cast -dsimp [hi',hgi,hll,Int.toNat_natCast]
   repeat refine an ?_
   refine cl (hba) ?_;push_cast -dsimp [c1',c2',c3']
   refine cl (hsk) ?_;push_cast -dsimp [c5']
   refine cl (hha) ?_;push_cast -dsimp
   repeat refine an ?_
   exact ⟨(i+1,_),hN,by dsimp only;omega,wk (h5:=by push_cast -dsimp [zb,za,CLe,zd,Jj])⟩
  ·rw[decide_eq_false c6]at hha
   rw[if_neg (fun q=>c6 q.1)]at e3
   rw[Jv e3 (by decide)]at hN
   push_cast -dsimp [hi',hgi,hll,Int.toNat_natCast]
   repeat refine an ?_
   refine cl (hba) ?_;push_cast -dsimp [c1',c2',c3']
   refine cl (hsk) ?_;push_cast -dsimp [c5']
   refine cl (hha) ?_;push_cast -dsimp
   refine Qz [0,3] [] (htl (2) (1)) rfl (by decide) (by decide) (by simp) (by push_cast -dsimp) (by push_cast -dsimp) ?_
   push_cast -dsimp
   repeat refine an ?_
   exact ⟨(i+1,_),hN,by dsimp only;omega,wk (h5:=by push_cast -dsimp [zb,za,CLe,zd,Jj])⟩
 have c5':=eq_false c5
 rw[if_neg (fun q=>c5 q.2),c4]at hE
 have e3:=e2.trans (if_neg (fun q=>q hE))
 have hlk:=(xS D.w.fs hf hr hs hI.dat b p (by omega) hpl).g0 (G':=GD)
 have hg:=jG (G:=GD) D.w.fs (zD D.w.fs b p false).1.ino (by have:=hs.len;omega) hf.rises
 cases c6:QP D.w.fs b p with
 | true =>
  rw[c6]at hlk e3
  rw[Jv (e3.trans (if_pos rfl)) (by decide)]at hN
  push_cast -dsimp [hi',hgi,hll,Int.toNat_natCast]
  repeat refine an ?_
  refine cl (hba) ?_;push_cast -dsimp [c1',c2',c3']
  refine cl (hsk) ?_;push_cast -dsimp [c5']
  refine cl (hlk) ?_;push_cast -dsimp
  refine Qz [0,3] [] (htl (2) (3)) rfl (by decide) (by decide) (by simp) (by push_cast -dsimp) (by push_cast -dsimp) ?_
  push_cast -dsimp
  repeat refine an ?_
  exact ⟨(i+1,_),hN,by dsimp only;omega,wk (h5:=by push_cast -dsimp [zb,za,CLe,zd,Jj])⟩
 | false =>
  rw[c6]at hlk e3
  have e4:=e3.trans (if_neg (by simp))
  have hwy:=(zm8 k o l (ze (zD D.w.fs b p false).1.ino D.w.fs.xs) (by
   cases hh:zt (zD D.w.fs b p false).1.ino D.w.fs.xs with
   | false=>rw[x6 hh];exact Nat.zero_le _
   | true=>have:=(hx _ (zh hh).2.1).1;omega)).g0 (G':=GD)
  by_cases c7:zdw o (ze (zD D.w.fs b p false).1.ino D.w.fs.xs)=0
  ·have e5:=e4.trans (if_neg (fun q=>q c7))
   have ht:=Us hf hr (b:=b) (o:=o) (p:=p) (by rw[e5])
   have hm:=XA hr ht
   have hok:=hI.g.ok
   have hpa:=(zgb D.w.fs hok _ ht.has ht.kind hm).g0 (G':=GD)
   have hpl2:=ziu hok ht.has ht.kind hm
   have hrm:=UY D.w.fs.xs.length D (Ya D.w.fs (zD D.w.fs b p false).1) (zD D.w.fs b p false).1.ino hI.g.b (by have:=hI.g.b.len;omega) (zfD hok (zI.ino hf ht))
   rw[c7]at hwy
   rw[zmj e5]at hN
   generalize rmD (D.w.fs.xs.length+1) D (Ya D.w.fs (zD D.w.fs b p false).1) (zD D.w.fs b p false).1.ino=D2 at hrm hN
   push_cast -dsimp [hi',hgi,hll,Int.toNat_natCast]
   repeat refine an ?_
   refine cl (hba) ?_;push_cast -dsimp [c1',c2',c3']
   refine cl (hsk) ?_;push_cast -dsimp [c5']
   refine cl (hlk) ?_;push_cast -dsimp
   refine cl (hg) ?_;push_cast -dsimp
   refine cl (hwy) ?_;push_cast -dsimp
   refine cl (hpa) ?_;push_cast -dsimp
   refine cl (hrm) ?_;push_cast -dsimp
   repeat refine an ?_
   exact ⟨(i+1,_),hN,by dsimp only;omega,wk (h5:=by push_cast -dsimp [zb,za,CLe,zd,Jj])⟩
  ·have c7':=eq_false c7
   rw[Jv (e4.trans (if_pos c7)) (by decide)]at hN
   push_cast -dsimp [hi',hgi,hll,Int.toNat_natCast]
   repeat refine an ?_
   refine cl (hba) ?_;push_cast -dsimp [c1',c2',c3']
   refine cl (hsk) ?_;push_cast -dsimp [c5']
   refine cl (hlk) ?_;push_cast -dsimp
   refine cl (hg) ?_;push_cast -dsimp
   refine cl (hwy) ?_;push_cast -dsimp [c7']
   refine Qz [0,3] [] (htl (2) (zdw o (ze (zD D.w.fs b p false).1.ino D.w.fs.xs))) rfl (by decide) (by decide) (by simp) (by push_cast -dsimp) (by push_cast -dsimp) ?_
   push_cast -dsimp
   repeat refine an ?_
   exact ⟨(i+1,_),hN,by dsimp only;omega,wk (h5:=by push_cast -dsimp [zb,za,CLe,zd,Jj])⟩
end
section
open CA CB
open Go.RowKit
theorem Zr (m:Nat) (hm:m<=100) (d:zH) (s:zV) (ns:List (List UInt8)) (hB:RmB 2000 d) (hC:RmC d) (ht:zI d.w.fs s) (hl:kx d.w.fs.xs ns s.dir) (hns:∀ z∈ns,may z=true) (hlow:low d.w.fs.xs m s.ino)
  (ih:∀ m',m=m'+1->∀ (d:zH) (s:zV) (ns:List (List UInt8)),RmB 2000 d->RmC d->zI d.w.fs s->kx d.w.fs.xs ns s.dir->(∀ z∈ns,may z=true)->low d.w.fs.xs m' s.ino->Fun Tryz.prog G0 75 [.agg (fsC d.w.fs),.agg (jq s),.sc (.int .i64 m')] (.agg (fsC (rmR m' d.w.fs s))) 0) :
  Fun Tryz.prog G0 75 [.agg (fsC d.w.fs),.agg (jq s),.sc (.int .i64 m)] (.agg (fsC (rmR m d.w.fs s))) 0:=by
 have hi:=hC.wi.fs
 have hh:=zI.ino hi ht
 have hg:=qN (G:=G0) d.w.fs s.ino (by have:=hB.len;omega)
 have gx:=zh hh
 have hes:=(hB.node _ gx.2.1).1
 obtain ⟨m',hm'⟩:∃ m',m'=m-1:=⟨_,rfl⟩
 have hlow':∀ e∈(ze s.ino d.w.fs.xs).es,m=m'+1/\low d.w.fs.xs m' e.ino:=fun e he=>by
  cases m with
  | zero =>
   have q:(ze s.ino d.w.fs.xs).es = []:=hlow
   rw[q]at he;cases he
  | succ k =>
   have:m'=k:=by omega
   subst this
   exact ⟨rfl,hlow e he⟩
 have he:rmR m d.w.fs s=zk ((ze s.ino d.w.fs.xs).es.foldl (fun g e=>rmR m' g ⟨s.ino,e.name,e.ino⟩) d.w.fs) s:=by
  cases m with
  | zero =>
   have q:(ze s.ino d.w.fs.xs).es = []:=hlow
   rw[q];rfl
  | succ k =>
   have:m'=k:=by omega
   subst this
   rfl
 have hk2:∀ e∈(ze s.ino d.w.fs.xs).es,(ze s.ino d.w.fs.xs).kind=2:=fun e he=>Qv hi gx.2.1 he
 have hst:zjX d d s ns (ze s.ino d.w.fs.xs).es:=⟨hC,ht,hl,rfl,.refl _,fun y y1 y2 _ _=>⟨y1,y2,rfl⟩,rfl,⟨rfl,rfl⟩⟩
 rw[he]
 refine fof (fun i=>if i=1 then jh 7 8 else if i=5 then [false,false,false,false,false,false,false,false,false,false,false,false,false,false,false,false,false,false,false,true] else []) Tryz.func75 ?_;dsimp only[Tryz.f75]
 push_cast -dsimp
 refine cl (hg) ?_;push_cast -dsimp
 obtain ⟨X,hX⟩:∃ X,ze s.ino d.w.fs.xs=X:=⟨_,rfl⟩
 have hXi:X.ino=s.ino:=by rw[←hX];exact gx.2.2
 rw[hX]at hst hlow' hk2 hes ⊢
 have hLl:(z6 X.es).length=X.es.length:=List.length_map ..
 refine loop (fun q:Nat×zH=>⟨[(2,.sc (.int .i64 m)),(3,.ptr 0 0),(4,.ptr 1 0),(6,.ptr 2 0),(7,.ptr 3 0),(9,.sc (.int .i64 q.1))],[fsC q.2.w.fs,jq s,[.any,.any,.any,.any],JG X],0,0⟩) (fun q=>q.1<=X.es.length/\RmB 2000 q.2/\zjX d q.2 s ns (X.es.drop q.1)/\(X.es.drop q.1).foldl (fun g e=>rmR m' g ⟨s.ino,e.name,e.ino⟩) q.2.w.fs=X.es.foldl (fun g e=>rmR m' g ⟨s.ino,e.name,e.ino⟩) d.w.fs) (fun q=>X.es.length-q.1) (0,d) ⟨Nat.zero_le _,hB,hst,rfl⟩ ?_ ?_
 ·exact wk
 rintro ⟨i,D⟩ ⟨h1,h2,h3,h4⟩
 dsimp only at h1 h2 h3 h4
 by_cases hi:i<X.es.length
 ·have hi':=eq_true (show (i:Int)<X.es.length by omega)
  have hme:=List.getElem_mem hi
  obtain ⟨l1,l2⟩:=hlow' _ hme
  have hk2':=eq_true (hk2 _ hme)
  have hm0:=eq_true (show (0:Int)<m by omega)
  have hgi:(z6 X.es)[i]?=some [.str X.es[i].name,.sc (.int .i64 X.es[i].ino)]:=by simp[z6,hi]
  have hmm:(m:Int)-1=(m':Nat):=by omega
  rw[List.drop_eq_getElem_cons hi]at h3 h4
  have hlD:=h3.less.low l2
  obtain ⟨s1,s2,s3,s4,s5,s6,s7⟩:=zft (zed m') hns h3 hlD
  have hr:=ih m' l1 D _ _ h2 h3.c s3 s4 s5 hlD
  have hB':=Hu (P:=RmB 2000) (fun d p hd=>(hd.add p).1) (m'+1) D (jx (zY (ns++[s.name])) X.es[i].name) X.es[i].ino h2
  rw[←s2]at hr
  rw[List.foldl_cons,←s2]at h4
  generalize rmD (m'+1) D (jx (zY (ns++[s.name])) X.es[i].name) X.es[i].ino=D2 at *
  push_cast -dsimp [hi',hgi,hLl,hk2',hm0,Int.toNat_natCast,hXi]
  repeat refine an ?_
  rw[hmm]
  refine cl (hr) ?_;push_cast -dsimp
  repeat refine an ?_
  exact ⟨(i+1,D2),⟨by dsimp only;omega,hB',s1,h4⟩,by dsimp only;omega,wk⟩
 ·have hi':=eq_false (show ¬(i:Int)<X.es.length by omega)
  rw[List.drop_eq_nil_of_le (by omega)]at h4
  have h4:D.w.fs=X.es.foldl (fun g e=>rmR m' g ⟨s.ino,e.name,e.ino⟩) d.w.fs:=h4
  have hs:FsS D.w.fs:=by
   exact ⟨by have:=h2.len;omega,fun x hx=>by obtain ⟨q1,q2,q3⟩:=h2.node x hx;exact ⟨by omega,by omega,fun e he=>by have:=q3 e he;omega⟩⟩
  have hu:=x7 D.w.fs h3.c.wi.fs hs s h3.there
  rw[h4]at hu
  rw[h4]
  push_cast -dsimp [hi',hLl]
  refine cl (hu) ?_;push_cast -dsimp
  exact dn (by push_cast -dsimp [zb,za,CLe,zd])
theorem Vt:∀ (m:Nat) (hm:m<=100) (d:zH) (s:zV) (ns:List (List UInt8)),RmB 2000 d->RmC d->zI d.w.fs s->kx d.w.fs.xs ns s.dir->(∀ z∈ns,may z=true)->low d.w.fs.xs m s.ino->Fun Tryz.prog G0 75 [.agg (fsC d.w.fs),.agg (jq s),.sc (.int .i64 m)] (.agg (fsC (rmR m d.w.fs s))) 0
 | 0,hm,d,s,ns,h1,h2,h3,h4,h5,h6=>Zr 0 hm d s ns h1 h2 h3 h4 h5 h6 fun m' q=>absurd q (by omega)
 | m+1,hm,d,s,ns,h1,h2,h3,h4,h5,h6=>Zr (m+1) hm d s ns h1 h2 h3 h4 h5 h6 fun m' q d s ns a1 a2 a3 a4 a5 a6=>by
  have:m'=m:=by omega
  subst this
  exact Vt m' (by omega) d s ns a1 a2 a3 a4 a5 a6
end
section
open CA CB
open Go.RowKit
theorem zb6 {bx:List (List C)} {c:C} (h:c.stayB=true):JD bx c c:=by
 cases c<;>simp[C.stayB]at h<;>(unfold JD;simp[C.frz])
theorem js {bx:List (List C)}:∀ {cs:List C},(cs.all C.stayB)=true->j7 bx cs cs
 | [],_=>by unfold j7;rfl
 | c :: r,h=>by
  rw[List.all_cons,Bool.and_eq_true]at h
  unfold j7
  exact ⟨_,_,rfl,zb6 h.1,js h.2⟩
theorem zW {bx:List (List C)} {c d:C} {r s:List C} (h:JD bx c d) (h2:j7 bx r s):j7 bx (c :: r) (d :: s):=by unfold j7;exact ⟨_,_,rfl,h,h2⟩
theorem qD {bx:List (List C)} {cs:List C} (h:(cs.all C.stayB)=true):JD bx (.agg cs) (.agg cs):=by unfold JD;exact ⟨_,rfl,js h⟩
theorem zct (f:FsV) (hf:FsI f) (hs:FsS f) (p:List UInt8) (hp:p.length<=100000):Fun Tryz.prog G0 163 [.agg (fsC f),.str p] (.tup [.agg (JG (qx f p).1),.sc (.int .i64 (qx f p).2)]) 0:=by
 have h1:=znf f hf hs p hp
 have h2:=qN (G:=G0) f (atV f p).1.ino (by have:=hs.len;omega)
 by_cases c1:(atV f p).2=0
 ·by_cases c2:(atV f p).1.ino=0
  ·have e:qx f p=(kH,1):=by unfold qx;rw[if_neg (fun h=>h c1),if_pos c2]
   rw[c1]at h1
   refine fon Tryz.func163 ?_;dsimp only[Tryz.f163]
   push_cast -dsimp
   refine cl (h1) ?_;push_cast -dsimp [c2]
   exact dn (by push_cast -dsimp [zb,za,CLe,zd,e,kH])
  ·have e:qx f p=(ze (atV f p).1.ino f.xs,0):=by unfold qx;rw[if_neg (fun h=>h c1),if_neg c2]
   rw[c1]at h1
   refine fon Tryz.func163 ?_;dsimp only[Tryz.f163]
   push_cast -dsimp
   refine cl (h1) ?_;push_cast -dsimp [c2]
   refine cl (h2) ?_;push_cast -dsimp
   exact dn (by push_cast -dsimp [zb,za,CLe,zd,e])
 ·have e:qx f p=(kH,(atV f p).2):=by unfold qx;rw[if_pos c1]
  refine fon Tryz.func163 ?_;dsimp only[Tryz.f163]
  push_cast -dsimp
  refine cl (h1) ?_;push_cast -dsimp [c1]
  exact dn (by push_cast -dsimp [zb,za,CLe,zd,e,kH])
theorem zik (f:FsV) (hf:FsI f) (hs:FsS f) (p:List UInt8) (hp:p.length<=100000):Fun Tryz.prog G0 126 [.agg (fsC f),.str p] (.tup [.sc (.int .i64 (jO f p).1),.sc (.int .i64 (jO f p).2)]) 0:=by
 have h1:=zct f hf hs p hp
 by_cases c1:(qx f p).2=0
 ·have d1:(atV f p).2=0/\(atV f p).1.ino≠0/\(qx f p).1=ze (atV f p).1.ino f.xs:=by
   unfold qx at c1 ⊢
   split at c1
   ·rename_i h;exact absurd c1 h
   ·rename_i h
    split at c1
    ·exact absurd c1 (show ¬(1:Int)=0 by decide)
    ·rename_i h';rw[if_neg h,if_neg h'];exact ⟨Classical.not_not.1 h,h',rfl⟩
  rw[c1]at h1
  by_cases c2:(qx f p).1.kind=2
  ·have e:jO f p=((qx f p).1.ino,0):=by unfold jO;rw[if_neg (fun h=>h d1.1),if_neg d1.2.1,if_neg (by rw[←d1.2.2];exact fun h=>h c2),d1.2.2]
   refine fon Tryz.func126 ?_;dsimp only[Tryz.f126]
   push_cast -dsimp
   refine cl (h1) ?_;push_cast -dsimp [c2]
   exact dn (by push_cast -dsimp [zb,za,CLe,zd,e])
  ·have e:jO f p=(0,3):=by unfold jO;rw[if_neg (fun h=>h d1.1),if_neg d1.2.1,if_pos (by rw[←d1.2.2];exact c2)]
   refine fon Tryz.func126 ?_;dsimp only[Tryz.f126]
   push_cast -dsimp
   refine cl (h1) ?_;push_cast -dsimp [c2]
   exact dn (by push_cast -dsimp [zb,za,CLe,zd,e])
 ·have e:jO f p=(0,(qx f p).2):=by
   unfold jO qx
   unfold qx at c1
   split
   ·rfl
   ·rename_i h
    rw[if_neg h]at c1
    split
    ·rfl
    ·rename_i h';rw[if_neg h']at c1;exact absurd rfl c1
  refine fon Tryz.func126 ?_;dsimp only[Tryz.f126]
  push_cast -dsimp
  refine cl (h1) ?_;push_cast -dsimp [c1]
  exact dn (by push_cast -dsimp [zb,za,CLe,zd,e])
theorem X6 {A Z:List C} {n:Nat} (h:A.length=n):(A++Z).take n=A:=by rw[List.take_append,←h,List.take_of_length_le (Nat.le_refl _)];simp
theorem uA {A B Z:List C} {m n:Nat} (ha:A.length=m) (hb:B.length=n):(spl (A++Z) m B).take ((m+n)*1)=A++B:=by
 unfold spl
 rw[X6 ha,X6 (by rw[List.length_append,ha,hb,Nat.mul_one])]
theorem NU {A B Z Y:List C} {m n:Nat} (ha:A.length=m) (hb:B.length=n):((A++Z).take m++B++Y).take ((m+n)*1)=A++B:=by
 rw[Nat.mul_one,X6 ha,X6 (by rw[List.length_append,ha,hb])]
theorem VX {a b:YC}:(zJ (a++b)).flatten=(zJ a).flatten++(zJ b).flatten:=by
 unfold zJ;rw[List.map_append,List.flatten_append]
def zse (f:FsV) (follow:Bool) (k:Nat):Prop:=k<=40->∀ (l:YC) (s:zV) (dir:Bool) (q:Int),q=40-(k:Int)->l.length+k*20000<=1000000 ->
  Fun Tryz.prog G0 127 [.agg (fsC f),.agg (jq s),.sl 1 (zJ l),.sc (.bool follow),.sc (.bool dir),.sc (.int .i64 q)] (.tup [.agg (jq (onN f follow k l s dir).1),.sc (.int .i64 (onN f follow k l s dir).2)]) 0
theorem zpx {f:FsV} (hs:FsS f) (follow:Bool) (k:Nat) (s:zV) (dir:Bool) (q:Int) :
  Fun Tryz.prog G0 127 [.agg (fsC f),.agg (jq s),.sl 1 (zJ []),.sc (.bool follow),.sc (.bool dir),.sc (.int .i64 q)] (.tup [.agg (jq (onN f follow k [] s dir).1),.sc (.int .i64 (onN f follow k [] s dir).2)]) 0:=by
 have hg:=qN (G:=G0) f s.ino (by have:=hs.len;omega)
 rw[JT]
 have e0:onL f follow (lkN f follow k) [] s dir=if zt s.ino f.xs=true/\dir=true/\(ze s.ino f.xs).kind≠2 then (qd,3) else (s,0):=rfl
 cases hh:zt s.ino f.xs with
 | false =>
  rw[hh]at hg
  have e:onL f follow (lkN f follow k) [] s dir=(s,0):=by rw[e0,hh];rfl
  refine fof (fun i=>if i=31 then Xv [(0,.pure),(1,.pure),(2,.pure),(3,.pure),(4,.pure),(5,.pure),(7,.pure),(9,.pure),(10,.pure),(11,.pure),(12,.pure),(6,.flt [0,1,2,6,7,8,9,10]),(8,.flt [0,1,2,7,8,9,10]),(13,.bar),(14,.pure),(15,.pure),(16,.bar),(17,.pure)] else []) Tryz.func127 ?_;dsimp only[Tryz.f127]
  push_cast -dsimp
  refine cl (hg) ?_;push_cast -dsimp
  exact dn (by push_cast -dsimp [zb,za,CLe,zd,e])
 | true =>
  rw[hh]at hg
  cases dir with
  | false =>
   have e:onL f follow (lkN f follow k) [] s false=(s,0):=by rw[e0];simp
   refine fof (fun i=>if i=31 then Xv [(0,.pure),(1,.pure),(2,.pure),(3,.pure),(4,.pure),(5,.pure),(7,.pure),(9,.pure),(10,.pure),(11,.pure),(12,.pure),(6,.flt [0,1,2,6,7,8,9,10]),(8,.flt [0,1,2,7,8,9,10]),(13,.bar),(14,.pure),(15,.pure),(16,.bar),(17,.pure)] else []) Tryz.func127 ?_;dsimp only[Tryz.f127]
   push_cast -dsimp
   refine cl (hg) ?_;push_cast -dsimp
   exact dn (by push_cast -dsimp [zb,za,CLe,zd,e])
  | true =>
   by_cases hk:(ze s.ino f.xs).kind=2
   ·have e:onL f follow (lkN f follow k) [] s true=(s,0):=by rw[e0];simp[hk]
    refine fof (fun i=>if i=31 then Xv [(0,.pure),(1,.pure),(2,.pure),(3,.pure),(4,.pure),(5,.pure),(7,.pure),(9,.pure),(10,.pure),(11,.pure),(12,.pure),(6,.flt [0,1,2,6,7,8,9,10]),(8,.flt [0,1,2,7,8,9,10]),(13,.bar),(14,.pure),(15,.pure),(16,.bar),(17,.pure)] else []) Tryz.func127 ?_;dsimp only[Tryz.f127]
    push_cast -dsimp
    refine cl (hg) ?_;push_cast -dsimp [hk]
    exact dn (by push_cast -dsimp [zb,za,CLe,zd,e])
   ·have e:onL f follow (lkN f follow k) [] s true=(qd,3):=by rw[e0,hh];simp[hk]
    refine fof (fun i=>if i=31 then Xv [(0,.pure),(1,.pure),(2,.pure),(3,.pure),(4,.pure),(5,.pure),(7,.pure),(9,.pure),(10,.pure),(11,.pure),(12,.pure),(6,.flt [0,1,2,6,7,8,9,10]),(8,.flt [0,1,2,7,8,9,10]),(13,.bar),(14,.pure),(15,.pure),(16,.bar),(17,.pure)] else []) Tryz.func127 ?_;dsimp only[Tryz.f127]
    push_cast -dsimp
    refine cl (hg) ?_;push_cast -dsimp [hk]
    exact dn (by push_cast -dsimp [zb,za,CLe,zd,e,qd])
theorem zmm {f:FsV} (hs:FsS f) (follow:Bool) (k:Nat) (hk40:k<=40) (ihk:∀ j,j<k->zse f follow j) (n:List UInt8) (r:YC) (ih:∀ (s:zV) (dir:Bool) (q:Int),q=40-(k:Int)->r.length+k*20000<=1000000->Fun Tryz.prog G0 127 [.agg (fsC f),.agg (jq s),.sl 1 (zJ r),.sc (.bool follow),.sc (.bool dir),.sc (.int .i64 q)] (.tup [.agg (jq (onN f follow k r s dir).1),.sc (.int .i64 (onN f follow k r s dir).2)]) 0)
    (s:zV) (dir:Bool) (q:Int) (hq:q=40-(k:Int)) (hl:(n :: r).length+k*20000<=1000000) :
    Fun Tryz.prog G0 127 [.agg (fsC f),.agg (jq s),.sl 1 ([.str n] :: zJ r),.sc (.bool follow),.sc (.bool dir),.sc (.int .i64 q)] (.tup [.agg (jq (onN f follow k (n :: r) s dir).1),.sc (.int .i64 (onN f follow k (n :: r) s dir).2)]) 0:=by
  have hlen:=hs.len
  have hsl:(zJ r).length=r.length:=List.length_map ..
  have hz:((r.length:Int)+1=0)=False:=eq_false (by omega)
  have hrl:r.length+k*20000<=1000000:=by rw[List.length_cons]at hl;omega
  rw[JT]at ih ⊢
  have e0:onL f follow (lkN f follow k) (n :: r) s dir=if s.ino=0 then (qd,1)
    else if (ze s.ino f.xs).kind≠2 then (qd,3)
    else if n = [46] then onL f follow (lkN f follow k) r ⟨0,[],(ze s.ino f.xs).ino⟩ dir
    else if n = [46,46] then onL f follow (lkN f follow k) r ⟨0,[],(ze s.ino f.xs).parent⟩ dir
    else if Xl n (ze s.ino f.xs).es=false∨(ze (zG n (ze s.ino f.xs).es) f.xs).kind≠3∨(r = []/\follow=false/\dir=false) then
      onL f follow (lkN f follow k) r ⟨(ze s.ino f.xs).ino,n,zG n (ze s.ino f.xs).es⟩ dir
    else lkN f follow k (ze (zG n (ze s.ino f.xs).es) f.xs) (ze s.ino f.xs) r dir:=rfl
  by_cases h1:s.ino=0
  · rw[if_pos h1]at e0
    refine fof (fun i=>if i=31 then Xv [(0,.pure),(1,.pure),(2,.pure),(3,.pure),(4,.pure),(5,.pure),(7,.pure),(9,.pure),(10,.pure),(11,.pure),(12,.pure),(6,.flt [0,1,2,6,7,8,9,10]),(8,.flt [0,1,2,7,8,9,10]),(13,.bar),(14,.pure),(15,.pure),(16,.bar),(17,.pure)] else []) Tryz.func127 ?_;dsimp only[Tryz.f127]
    push_cast -dsimp [hz,h1]
    exact dn (by push_cast -dsimp [zb,za,CLe,zd,e0,qd])
  rw[if_neg h1]at e0
  have hg:=qN (G:=G0) f s.ino (by omega)
  by_cases h2:(ze s.ino f.xs).kind=2
  case neg =>
    rw[if_pos h2]at e0
    refine fof (fun i=>if i=31 then Xv [(0,.pure),(1,.pure),(2,.pure),(3,.pure),(4,.pure),(5,.pure),(7,.pure),(9,.pure),(10,.pure),(11,.pure),(12,.pure),(6,.flt [0,1,2,6,7,8,9,10]),(8,.flt [0,1,2,7,8,9,10]),(13,.bar),(14,.pure),(15,.pure),(16,.bar),(17,.pure)] else []) Tryz.func127 ?_;dsimp only[Tryz.f127]
    push_cast -dsimp [hz,h1]
    refine cl (hg) ?_;push_cast -dsimp [h2]
    exact dn (by push_cast -dsimp [zb,za,CLe,zd,e0,qd])
  rw[if_neg (fun h=>h h2)]at e0
  have hh:=Gc h2
  have hnod:=hs.node _ (zh hh).2.1
  rw[hh]at hg
  generalize ze s.ino f.xs=d at hg h2 e0 hnod
  by_cases h3:n = [46]
  · rw[if_pos h3]at e0
    have hi:=ih ⟨0,[],d.ino⟩ dir q hq hrl
    refine fof (fun i=>if i=31 then Xv [(0,.pure),(1,.pure),(2,.pure),(3,.pure),(4,.pure),(5,.pure),(7,.pure),(9,.pure),(10,.pure),(11,.pure),(12,.pure),(6,.flt [0,1,2,6,7,8,9,10]),(8,.flt [0,1,2,7,8,9,10]),(13,.bar),(14,.pure),(15,.pure),(16,.bar),(17,.pure)] else []) Tryz.func127 ?_;dsimp only[Tryz.f127]
    push_cast -dsimp [hz,h1]
    refine cl (hg) ?_;push_cast -dsimp [h2,h3]
    repeat refine an ?_
    refine cl (hi) ?_;push_cast -dsimp
    exact dn (by push_cast -dsimp [zb,za,CLe,zd,e0])
  rw[if_neg h3]at e0
  by_cases h4:n = [46,46]
  · rw[if_pos h4]at e0
    have hi:=ih ⟨0,[],d.parent⟩ dir q hq hrl
    have h3':([46,46]:List UInt8)≠[46]:=by decide
    refine fof (fun i=>if i=31 then Xv [(0,.pure),(1,.pure),(2,.pure),(3,.pure),(4,.pure),(5,.pure),(7,.pure),(9,.pure),(10,.pure),(11,.pure),(12,.pure),(6,.flt [0,1,2,6,7,8,9,10]),(8,.flt [0,1,2,7,8,9,10]),(13,.bar),(14,.pure),(15,.pure),(16,.bar),(17,.pure)] else []) Tryz.func127 ?_;dsimp only[Tryz.f127]
    push_cast -dsimp [hz,h1]
    refine cl (hg) ?_;push_cast -dsimp [h2,h4,h3']
    repeat refine an ?_
    refine cl (hi) ?_;push_cast -dsimp
    exact dn (by push_cast -dsimp [zb,za,CLe,zd,e0])
  rw[if_neg h4]at e0
  have hfi:=Mx (G:=G0) d.es n (by omega)
  have hx:=qN (G:=G0) f (zG n d.es) (by omega)
  have stop:(Xl n d.es=false∨(ze (zG n d.es) f.xs).kind≠3∨(r = []/\follow=false/\dir=false))->onL f follow (lkN f follow k) (n :: r) s dir=onL f follow (lkN f follow k) r ⟨d.ino,n,zG n d.es⟩ dir:=fun h=>by rw[e0,if_pos h]
  have hi:=ih ⟨d.ino,n,zG n d.es⟩ dir q hq hrl
  cases hE:Xl n d.es with
  | false =>
    have e:=stop (.inl hE)
    rw[hE]at hfi
    refine fof (fun i=>if i=31 then Xv [(0,.pure),(1,.pure),(2,.pure),(3,.pure),(4,.pure),(5,.pure),(7,.pure),(9,.pure),(10,.pure),(11,.pure),(12,.pure),(6,.flt [0,1,2,6,7,8,9,10]),(8,.flt [0,1,2,7,8,9,10]),(13,.bar),(14,.pure),(15,.pure),(16,.bar),(17,.pure)] else []) Tryz.func127 ?_;dsimp only[Tryz.f127]
    push_cast -dsimp [hz,h1]
    refine cl (hg) ?_;push_cast -dsimp [h2,h3,h4]
    repeat refine an ?_
    refine cl (hfi) ?_;push_cast -dsimp [hE]
    refine cl (hx) ?_;push_cast -dsimp [h2]
    refine cl (hi) ?_;push_cast -dsimp
    exact dn (by push_cast -dsimp [zb,za,CLe,zd,e])
  | true =>
  rw[hE]at hfi
  by_cases hk3:(ze (zG n d.es) f.xs).kind=3
  case neg =>
    have e:=stop (.inr (.inl hk3))
    refine fof (fun i=>if i=31 then Xv [(0,.pure),(1,.pure),(2,.pure),(3,.pure),(4,.pure),(5,.pure),(7,.pure),(9,.pure),(10,.pure),(11,.pure),(12,.pure),(6,.flt [0,1,2,6,7,8,9,10]),(8,.flt [0,1,2,7,8,9,10]),(13,.bar),(14,.pure),(15,.pure),(16,.bar),(17,.pure)] else []) Tryz.func127 ?_;dsimp only[Tryz.f127]
    push_cast -dsimp [hz,h1]
    refine cl (hg) ?_;push_cast -dsimp [h2,h3,h4]
    repeat refine an ?_
    refine cl (hfi) ?_;push_cast -dsimp [hE]
    refine cl (hx) ?_;push_cast -dsimp [hk3]
    refine cl (hi) ?_;push_cast -dsimp
    exact dn (by push_cast -dsimp [zb,za,CLe,zd,e])
  by_cases hst:r = []/\follow=false/\dir=false
  · have e:=stop (.inr (.inr hst))
    obtain ⟨rfl,rfl,rfl⟩:=hst
    refine fof (fun i=>if i=31 then Xv [(0,.pure),(1,.pure),(2,.pure),(3,.pure),(4,.pure),(5,.pure),(7,.pure),(9,.pure),(10,.pure),(11,.pure),(12,.pure),(6,.flt [0,1,2,6,7,8,9,10]),(8,.flt [0,1,2,7,8,9,10]),(13,.bar),(14,.pure),(15,.pure),(16,.bar),(17,.pure)] else []) Tryz.func127 ?_;dsimp only[Tryz.f127]
    push_cast -dsimp [hz,h1]
    refine cl (hg) ?_;push_cast -dsimp [h2,h3,h4]
    repeat refine an ?_
    refine cl (hfi) ?_;push_cast -dsimp [hE]
    refine cl (hx) ?_;push_cast -dsimp [hk3,List.map_nil,List.length_nil]
    refine cl (hi) ?_;push_cast -dsimp
    exact dn (by push_cast -dsimp [zb,za,CLe,zd,e])
  rw[if_neg (fun h=>by
    rcases h with h | h | h
    · rw[hE]at h;cases h
    · exact h hk3
    · exact hst h)]at e0
  clear stop hi ih
  have hxn:(ze (zG n d.es) f.xs).data.length<=10000:=by
    have hhx:zt (zG n d.es) f.xs=true:=by
      cases hq2:zt (zG n d.es) f.xs with
      | true=>rfl
      | false=>rw[(Jk hq2).2]at hk3;exact absurd hk3 (by decide)
    exact (hs.node _ (zh hhx).2.1).2.1
  generalize zt (zG n d.es) f.xs=hb at hx
  generalize ze (zG n d.es) f.xs=x at hx hk3 e0 hxn
  have hgo:((r.length:Int)=0)=(r = []):=by
    rw[←List.length_eq_zero_iff];exact propext ⟨fun h=>by omega,fun h=>by omega⟩
  cases k with
  | zero =>
    have hq40:q=40:=by omega
    have e:onL f follow (lkN f follow 0) (n :: r) s dir=(qd,6):=e0
    by_cases hr:r = []
    · subst hr
      cases follow<;>cases dir<;>first
        | exact absurd ⟨rfl,rfl,rfl⟩ hst
        | (subst hq40
           refine fof (fun i=>if i=31 then Xv [(0,.pure),(1,.pure),(2,.pure),(3,.pure),(4,.pure),(5,.pure),(7,.pure),(9,.pure),(10,.pure),(11,.pure),(12,.pure),(6,.flt [0,1,2,6,7,8,9,10]),(8,.flt [0,1,2,7,8,9,10]),(13,.bar),(14,.pure),(15,.pure),(16,.bar),(17,.pure)] else []) Tryz.func127 ?_;dsimp only[Tryz.f127]
           push_cast -dsimp [hz,h1]
           refine cl (hg) ?_;push_cast -dsimp [h2,h3,h4]
           repeat refine an ?_
           refine cl (hfi) ?_;push_cast -dsimp [hE]
           refine cl (hx) ?_;push_cast -dsimp [hk3,List.map_nil,List.length_nil]
           exact dn (by push_cast -dsimp [zb,za,CLe,zd,e,qd]))
    · have hr':=eq_false hr
      subst hq40
      refine fof (fun i=>if i=31 then Xv [(0,.pure),(1,.pure),(2,.pure),(3,.pure),(4,.pure),(5,.pure),(7,.pure),(9,.pure),(10,.pure),(11,.pure),(12,.pure),(6,.flt [0,1,2,6,7,8,9,10]),(8,.flt [0,1,2,7,8,9,10]),(13,.bar),(14,.pure),(15,.pure),(16,.bar),(17,.pure)] else []) Tryz.func127 ?_;dsimp only[Tryz.f127]
      push_cast -dsimp [hz,h1]
      refine cl (hg) ?_;push_cast -dsimp [h2,h3,h4]
      repeat refine an ?_
      refine cl (hfi) ?_;push_cast -dsimp [hE]
      refine cl (hx) ?_;push_cast -dsimp [hk3,hgo,hr']
      exact dn (by push_cast -dsimp [zb,za,CLe,zd,e,qd])
  | succ k =>
    have hq40:(q=40)=False:=eq_false (by omega)
    have hlo:=UB x.data (by omega)
    have hre:=Y7 x.data (by omega)
    have hns:=qf x.data
    have e1:onL f follow (lkN f follow (k+1)) (n :: r) s dir=if J7 x.data then (qd,7) else onN f follow k (zi x.data++r) ⟨0,[],if YH x.data then 1 else d.ino⟩ (dir||(qk x.data&&decide (r = []))):=e0
    have hon:=fun dd=>ihk k (by omega) (by omega) (zi x.data++r) ⟨0,[],if YH x.data then 1 else d.ino⟩ dd (q+1) (by omega) (by simp;omega)
    unfold VI at hre
    change Fun _ _ _ _ (.agg [qu (YH x.data),.own 0 9 1 (zJ (zi x.data)),qu (qk x.data)]) _ at hre
    cases hlp:J7 x.data with
    | true =>
      rw[hlp,if_pos rfl]at e1
      rw[hlp]at hlo
      by_cases hr:r = []
      · subst hr
        cases follow<;>cases dir<;>first
          | exact absurd ⟨rfl,rfl,rfl⟩ hst
          | (
             refine fof (fun i=>if i=31 then Xv [(0,.pure),(1,.pure),(2,.pure),(3,.pure),(4,.pure),(5,.pure),(7,.pure),(9,.pure),(10,.pure),(11,.pure),(12,.pure),(6,.flt [0,1,2,6,7,8,9,10]),(8,.flt [0,1,2,7,8,9,10]),(13,.bar),(14,.pure),(15,.pure),(16,.bar),(17,.pure)] else []) Tryz.func127 ?_;dsimp only[Tryz.f127]
             push_cast -dsimp [hz,h1]
             refine cl (hg) ?_;push_cast -dsimp [h2,h3,h4]
             repeat refine an ?_
             refine cl (hfi) ?_;push_cast -dsimp [hE]
             refine cl (hx) ?_;push_cast -dsimp [hk3,List.map_nil,List.length_nil,hq40]
             refine cl (hlo) ?_;push_cast -dsimp
             exact dn (by push_cast -dsimp [zb,za,CLe,zd,e1,qd]))
      · have hr':=eq_false hr
        refine fof (fun i=>if i=31 then Xv [(0,.pure),(1,.pure),(2,.pure),(3,.pure),(4,.pure),(5,.pure),(7,.pure),(9,.pure),(10,.pure),(11,.pure),(12,.pure),(6,.flt [0,1,2,6,7,8,9,10]),(8,.flt [0,1,2,7,8,9,10]),(13,.bar),(14,.pure),(15,.pure),(16,.bar),(17,.pure)] else []) Tryz.func127 ?_;dsimp only[Tryz.f127]
        push_cast -dsimp [hz,h1]
        refine cl (hg) ?_;push_cast -dsimp [h2,h3,h4]
        repeat refine an ?_
        refine cl (hfi) ?_;push_cast -dsimp [hE]
        refine cl (hx) ?_;push_cast -dsimp [hk3,hgo,hr',hq40]
        refine cl (hlo) ?_;push_cast -dsimp
        exact dn (by push_cast -dsimp [zb,za,CLe,zd,e1,qd])
    | false =>
      rw[hlp,if_neg (by decide)]at e1
      rw[hlp]at hlo
      have hkn:∀ z∈zJ (zi x.data),z.length=1:=fun z hz=>by obtain ⟨y,_,rfl⟩:=List.mem_map.1 hz;rfl
      have hkr:∀ z∈zJ r,z.length=1:=fun z hz=>by obtain ⟨y,_,rfl⟩:=List.mem_map.1 hz;rfl
      have hkb:∀ z∈zJ (zi x.data++r),z.length=1:=fun z hz=>by obtain ⟨y,_,rfl⟩:=List.mem_map.1 hz;rfl
      have hsb:ji (zJ (zi x.data++r)):=fun z hz=>by obtain ⟨y,_,rfl⟩:=List.mem_map.1 hz;rfl
      have hnl:(zJ (zi x.data)).length=(zi x.data).length:=List.length_map ..
      obtain ⟨fr,hfr⟩:∃ fr,(if YH x.data=true then 1 else d.ino)=fr:=⟨_,rfl⟩
      obtain ⟨D,hD⟩:∃ D,(dir||(qk x.data&&decide (r = [])))=D:=⟨_,rfl⟩
      have hon:=hon D
      rw[hfr]at hon e1
      rw[hD]at e1
      by_cases hr:r = []
      · have hr':=eq_true hr
        rw[decide_eq_true hr,Bool.and_true]at hD
        cases hab:YH x.data<;>cases hsp:qk x.data <;>
        · rw[hab,hsp]at hre
          rw[hab]at hfr
          rw[hsp]at hD
          simp only[if_true,if_false,Bool.false_eq_true]at hfr
          subst hfr
          cases follow<;>cases dir<;>first
            | exact absurd ⟨hr,rfl,rfl⟩ hst
            | (simp only[Bool.or_true,Bool.or_false]at hD
               subst hD
               refine fof (fun i=>if i=31 then Xv [(0,.pure),(1,.pure),(2,.pure),(3,.pure),(4,.pure),(5,.pure),(7,.pure),(9,.pure),(10,.pure),(11,.pure),(12,.pure),(6,.flt [0,1,2,6,7,8,9,10]),(8,.flt [0,1,2,7,8,9,10]),(13,.bar),(14,.pure),(15,.pure),(16,.bar),(17,.pure)] else []) Tryz.func127 ?_;dsimp only[Tryz.f127]
               push_cast -dsimp [hz,h1]
               refine cl (hg) ?_;push_cast -dsimp [h2,h3,h4]
               repeat refine an ?_
               refine cl (hfi) ?_;push_cast -dsimp [hE]
               refine cl (hx) ?_;push_cast -dsimp [hk3,hgo,hr',hq40]
               refine cl (hlo) ?_;push_cast -dsimp
               refine cl (hre) ?_;push_cast -dsimp [hgo,hr']
               repeat refine an ?_
               refine uX kB zgK rfl rfl (by decide) rfl (zN hkn) (by omega) (by omega) (fun g0=>?_) (fun g0 cap c1 c2=>?_)
               · push_cast -dsimp
                 refine ⟨by split<;>first | omega | trivial,?_⟩
                 refine uX kB zgK rfl rfl (by decide) rfl (zN hkr) (by omega) (by omega) (fun g1=>?_) (fun g1 cap c1 c2=>?_)
                 · have hn0:zi x.data = []:=List.eq_nil_of_length_eq_zero (by omega)
                   have hr0:r = []:=List.eq_nil_of_length_eq_zero (by omega)
                   push_cast -dsimp
                   refine ⟨by split<;>first | omega | trivial,?_⟩
                   push_cast -dsimp
                   rw[show zi x.data++r = [] by rw[hn0,hr0];rfl]at hon e1
                   refine call (hon.less (by push_cast -dsimp [zb,za,CLe,zd])) ?_
                   push_cast -dsimp
                   exact dn (by push_cast -dsimp [zb,za,CLe,zd,e1])
                 · have hn0:zi x.data = []:=List.eq_nil_of_length_eq_zero (by omega)
                   have hn1:(zi x.data).length=0:=by rw[hn0];rfl
                   push_cast -dsimp
                   refine ⟨by split<;>first | omega | trivial,?_⟩
                   push_cast -dsimp
                   refine M4 [.agg (fsC f),.agg (jq ⟨0,[],_⟩),.sl 1 (zJ (zi x.data++r)),.sc (.bool _),.sc (.bool _),.sc (.int .i64 (q+1))] hon rfl ?_ ?_
                   · exact zW (qD rfl) (zW (qD rfl) (zW (X7 rfl (by rw[List.length_map,List.length_append];try omega) (by omega) c2 hkb hsb (by rw[hn0];exact X6 ((zN hkr).trans (by rw[hsl])))) (js rfl)))
                   · push_cast -dsimp
                     exact dn (by push_cast -dsimp [zb,za,CLe,zd,e1])
               · push_cast -dsimp
                 refine ⟨by split<;>first | omega | trivial,?_⟩
                 refine Z7 kB zgK rfl rfl (by decide) rfl (zN hkr) rfl (by rw[List.length_append,zN hkn,List.length_replicate];omega) (by omega) (by omega) (by omega) (fun g1=>?_) (fun g1 cap2 c3 c4=>?_)
                 · push_cast -dsimp
                   refine ⟨by split<;>first | omega | trivial,?_⟩
                   push_cast -dsimp
                   refine M4 [.agg (fsC f),.agg (jq ⟨0,[],_⟩),.sl 1 (zJ (zi x.data++r)),.sc (.bool _),.sc (.bool _),.sc (.int .i64 (q+1))] hon rfl ?_ ?_
                   · exact zW (qD rfl) (zW (qD rfl) (zW (X7 rfl (by rw[List.length_map,List.length_append];try omega) (by omega) c2 hkb hsb (by exact (uA ((zN hkn).trans (by omega)) ((zN hkr).trans (by omega))).trans VX.symm)) (js rfl)))
                   · push_cast -dsimp
                     exact dn (by push_cast -dsimp [zb,za,CLe,zd,e1])
                 · push_cast -dsimp
                   refine ⟨by split<;>first | omega | trivial,?_⟩
                   push_cast -dsimp
                   refine M4 [.agg (fsC f),.agg (jq ⟨0,[],_⟩),.sl 1 (zJ (zi x.data++r)),.sc (.bool _),.sc (.bool _),.sc (.int .i64 (q+1))] hon rfl ?_ ?_
                   · exact zW (qD rfl) (zW (qD rfl) (zW (X7 rfl (by rw[List.length_map,List.length_append];try omega) (by omega) c4 hkb hsb (by exact (NU ((zN hkn).trans (by omega)) ((zN hkr).trans (by omega))).trans VX.symm)) (js rfl)))
                   · push_cast -dsimp
                     exact dn (by push_cast -dsimp [zb,za,CLe,zd,e1]))
      · have hr':=eq_false hr
        rw[decide_eq_false hr,Bool.and_false,Bool.or_false]at hD
        subst hD
        cases hab:YH x.data<;>cases hsp:qk x.data <;>
        · rw[hab,hsp]at hre
          rw[hab]at hfr
          simp only[if_true,if_false,Bool.false_eq_true]at hfr
          subst hfr
          refine fof (fun i=>if i=31 then Xv [(0,.pure),(1,.pure),(2,.pure),(3,.pure),(4,.pure),(5,.pure),(7,.pure),(9,.pure),(10,.pure),(11,.pure),(12,.pure),(6,.flt [0,1,2,6,7,8,9,10]),(8,.flt [0,1,2,7,8,9,10]),(13,.bar),(14,.pure),(15,.pure),(16,.bar),(17,.pure)] else []) Tryz.func127 ?_;dsimp only[Tryz.f127]
          push_cast -dsimp [hz,h1]
          refine cl (hg) ?_;push_cast -dsimp [h2,h3,h4]
          repeat refine an ?_
          refine cl (hfi) ?_;push_cast -dsimp [hE]
          refine cl (hx) ?_;push_cast -dsimp [hk3,hgo,hr',hq40]
          refine cl (hlo) ?_;push_cast -dsimp
          refine cl (hre) ?_;push_cast -dsimp [hgo,hr']
          repeat refine an ?_
          refine uX kB zgK rfl rfl (by decide) rfl (zN hkn) (by omega) (by omega) (fun g0=>?_) (fun g0 cap c1 c2=>?_)
          · push_cast -dsimp
            refine ⟨by split<;>first | omega | trivial,?_⟩
            refine uX kB zgK rfl rfl (by decide) rfl (zN hkr) (by omega) (by omega) (fun g1=>?_) (fun g1 cap c1 c2=>?_)
            · exact absurd (List.eq_nil_of_length_eq_zero (by omega)) hr
            · have hn0:zi x.data = []:=List.eq_nil_of_length_eq_zero (by omega)
              have hn1:(zi x.data).length=0:=by rw[hn0];rfl
              push_cast -dsimp
              refine ⟨by split<;>first | omega | trivial,?_⟩
              push_cast -dsimp
              refine M4 [.agg (fsC f),.agg (jq ⟨0,[],_⟩),.sl 1 (zJ (zi x.data++r)),.sc (.bool _),.sc (.bool _),.sc (.int .i64 (q+1))] hon rfl ?_ ?_
              · exact zW (qD rfl) (zW (qD rfl) (zW (X7 rfl (by rw[List.length_map,List.length_append];try omega) (by omega) c2 hkb hsb (by rw[hn0];exact X6 ((zN hkr).trans (by rw[hsl])))) (js rfl)))
              · push_cast -dsimp
                exact dn (by push_cast -dsimp [zb,za,CLe,zd,e1])
          · push_cast -dsimp
            refine ⟨by split<;>first | omega | trivial,?_⟩
            refine Z7 kB zgK rfl rfl (by decide) rfl (zN hkr) rfl (by rw[List.length_append,zN hkn,List.length_replicate];omega) (by omega) (by omega) (by omega) (fun g1=>?_) (fun g1 cap2 c3 c4=>?_)
            · push_cast -dsimp
              refine ⟨by split<;>first | omega | trivial,?_⟩
              push_cast -dsimp
              refine M4 [.agg (fsC f),.agg (jq ⟨0,[],_⟩),.sl 1 (zJ (zi x.data++r)),.sc (.bool _),.sc (.bool _),.sc (.int .i64 (q+1))] hon rfl ?_ ?_
              · exact zW (qD rfl) (zW (qD rfl) (zW (X7 rfl (by rw[List.length_map,List.length_append];try omega) (by omega) c2 hkb hsb (by exact (uA ((zN hkn).trans (by omega)) ((zN hkr).trans (by omega))).trans VX.symm)) (js rfl)))
              · push_cast -dsimp
                exact dn (by push_cast -dsimp [zb,za,CLe,zd,e1])
            · push_cast -dsimp
              refine ⟨by split<;>first | omega | trivial,?_⟩
              push_cast -dsimp
              refine M4 [.agg (fsC f),.agg (jq ⟨0,[],_⟩),.sl 1 (zJ (zi x.data++r)),.sc (.bool _),.sc (.bool _),.sc (.int .i64 (q+1))] hon rfl ?_ ?_
              · exact zW (qD rfl) (zW (qD rfl) (zW (X7 rfl (by rw[List.length_map,List.length_append];try omega) (by omega) c4 hkb hsb (by exact (NU ((zN hkn).trans (by omega)) ((zN hkr).trans (by omega))).trans VX.symm)) (js rfl)))
              · push_cast -dsimp
                exact dn (by push_cast -dsimp [zb,za,CLe,zd,e1])
theorem znV {f:FsV} (hs:FsS f) (follow:Bool):∀ k,zse f follow k:=by
 intro k
 induction k using Nat.strongRecOn with
 | ind k ihk =>
  intro hk l
  induction l with
  | nil=>intro s dir q hq hl;exact zpx hs follow k s dir q
  | cons n r ih=>intro s dir q hq hl;exact zmm hs follow k hk ihk n r ih s dir q hq hl
end
section
open CA CB
open Go.RowKit
theorem Nk (f:FsV) (hf:FsI f) (hs:FsS f) (b p:List UInt8) (follow:Bool) (hb:b.length<=100000) (hp:p.length<=100000):Fun Tryz.prog G0 71 [.agg (fsC f),.str b,.str p,.sc (.bool follow)] (.tup [.agg (jq (zD f b p follow).1),.sc (.int .i64 (zD f b p follow).2)]) 0:=by
 have hns:=qf p
 have hlo:=UB p hp
 have hre:=Y7 p hp
 have hon:=fun fr=>znV hs follow 40 (Nat.le_refl _) (zi p) ⟨0,[],fr⟩ (qk p) 0 rfl (by omega)
 unfold VI at hre
 change Fun _ _ _ _ (.agg [qu (YH p),.own 0 9 1 (zJ (zi p)),qu (qk p)]) _ at hre
 by_cases h1:p = []
 ·subst h1
  have e:zD f b [] follow=(qd,1):=by unfold zD;rw[if_pos rfl]
  refine fon Tryz.func71 ?_;dsimp only[Tryz.f71]
  push_cast -dsimp
  exact dn (by push_cast -dsimp [zb,za,CLe,zd,e,qd])
 cases h2:J7 p with
 | true =>
  rw[h2]at hlo
  have e:zD f b p follow=(qd,7):=by unfold zD;rw[if_neg h1,if_pos h2]
  refine fon Tryz.func71 ?_;dsimp only[Tryz.f71]
  push_cast -dsimp [h1]
  refine cl (hlo) ?_;push_cast -dsimp
  exact dn (by push_cast -dsimp [zb,za,CLe,zd,e,qd])
 | false =>
 rw[h2]at hlo
 cases h3:YH p with
 | true =>
  rw[h3]at hre
  have e:zD f b p follow=onN f follow 40 (zi p) ⟨0,[],1⟩ (qk p):=by unfold zD;rw[if_neg h1,if_neg (by rw[h2];decide),if_pos h3]
  have hon:=hon 1
  refine fon Tryz.func71 ?_;dsimp only[Tryz.f71]
  push_cast -dsimp [h1]
  refine cl (hlo) ?_;push_cast -dsimp
  refine cl (hre) ?_;push_cast -dsimp
  refine cl (hon) ?_;push_cast -dsimp
  exact dn (by push_cast -dsimp [zb,za,CLe,zd,e])
 | false =>
  rw[h3]at hre
  have hh:=zik f hf hs b hb
  by_cases h4:(jO f b).2=0
  ·have e:zD f b p follow=onN f follow 40 (zi p) ⟨0,[],(jO f b).1⟩ (qk p):=by unfold zD;rw[if_neg h1,if_neg (by rw[h2];decide),if_neg (by rw[h3];decide),if_neg (fun q=>q h4)]
   have hon:=hon (jO f b).1
   rw[h4]at hh
   refine fon Tryz.func71 ?_;dsimp only[Tryz.f71]
   push_cast -dsimp [h1]
   refine cl (hlo) ?_;push_cast -dsimp
   refine cl (hre) ?_;push_cast -dsimp
   refine cl (hh) ?_;push_cast -dsimp
   refine cl (hon) ?_;push_cast -dsimp
   exact dn (by push_cast -dsimp [zb,za,CLe,zd,e])
  ·have e:zD f b p follow=(qd,(jO f b).2):=by unfold zD;rw[if_neg h1,if_neg (by rw[h2];decide),if_neg (by rw[h3];decide),if_pos h4]
   refine fon Tryz.func71 ?_;dsimp only[Tryz.f71]
   push_cast -dsimp [h1]
   refine cl (hlo) ?_;push_cast -dsimp
   refine cl (hre) ?_;push_cast -dsimp
   refine cl (hh) ?_;push_cast -dsimp [h4]
   exact dn (by push_cast -dsimp [zb,za,CLe,zd,e,qd])
end
end Go.Proofs.YtlkjpfiancahiaaGreatDoor.Vcg
